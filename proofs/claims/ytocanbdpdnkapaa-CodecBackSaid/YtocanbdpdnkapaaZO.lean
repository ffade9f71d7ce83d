/- CodecBack. -/
import Derived.Test.YtocanbdpdnkapaaZM
namespace Go.Proofs.Ytocanbdpdnkapaa
open Go.RowKit
set_option linter.unusedVariables false
set_option linter.unusedSimpArgs false

theorem lay_ok {x : WrS} {s : ByteArray} (h : (layW x s).e = 0) : x.e = 0 ∧ s.size ≤ 65536 ∧ (layW x s).l.length ≤ 65536 := by
  have hx : x.e = 0 := by
    by_cases hx : x.e = 0
    · exact hx
    · rw [lay_err hx] at h; exact h
  by_cases hb : 65536 < x.l.length + s.size
  · rw [lay_big hx hb] at h; cases h
  · rw [lay_fit hx hb, List.length_append, size_toList]
    exact ⟨hx, by omega, by show x.l.length + s.size ≤ 65536; omega⟩
theorem fold_back {α : Type} (f : WrS → α → WrS) (P : α → Prop) (l : List α) (hf : ∀ x a, a ∈ l → (f x a).e = 0 → x.e = 0 ∧ P a) : ∀ x, (l.foldl f x).e = 0 → x.e = 0 ∧ ∀ a ∈ l, P a := by
  induction l with
  | nil => exact fun x h => ⟨h, fun a ha => by cases ha⟩
  | cons a l ih =>
    intro x h
    obtain ⟨h1, h2⟩ := ih (fun x a ha => hf x a (List.mem_cons_of_mem _ ha)) (f x a) h
    obtain ⟨h3, h4⟩ := hf x a List.mem_cons_self h1
    refine ⟨h3, fun b hb => ?_⟩
    cases List.mem_cons.1 hb with
    | inl e => subst e; exact h4
    | inr e => exact h2 b e
theorem fold_len {α : Type} (f : WrS → α → WrS) (hf : ∀ x a, (f x a).e = 0 → (f x a).l.length ≤ 65536) (l : List α) : ∀ x, l ≠ [] → (l.foldl f x).e = 0 → (l.foldl f x).l.length ≤ 65536 := by
  induction l with
  | nil => exact fun x h => absurd rfl h
  | cons a l ih =>
    intro x _ h
    by_cases hl : l = []
    · subst hl; exact hf x a h
    · exact ih (f x a) hl h
theorem go_len {α : Type} {fw : WrS → α → WrS} {one : RdS → α × RdS} {m : Nat} (hm : 0 < m) {l : List α} (h : ∀ a ∈ l, Good (fun x => fw x a) one a m) (hf : ∀ x a, (fw x a).e = 0 → (fw x a).l.length ≤ 65536) {x : WrS} (he : (l.foldl fw x).e = 0) : l.length ≤ 65536 := by
  by_cases hl : l = []
  · subst hl; exact Nat.zero_le _
  · obtain ⟨-, bs, h2, h3, -⟩ := Good.go fw one m l h x he
    have h4 := fold_len fw hf l x hl he
    have h2' : (l.foldl fw x).l = x.l ++ bs := h2
    rw [h2', List.length_append] at h4
    have := Nat.le_mul_of_pos_left l.length hm
    omega
theorem fact_okF {x : WrS} {f : FactT} (hi : inF f) (h : (factW x f).e = 0) : okF f := by
  obtain ⟨d, m⟩ := f
  have h' : (m.foldl intW (countW (textsW x d) m.length)).e = 0 := h
  have hm := go_len (one := intRR) (m := 8) (by decide) (fun n hn => Good.int (hi n hn)) (fun x a h => (lay_ok h).2.2) h'
  have h1 := (fold_back intW (fun _ => True) m (fun x a _ h => ⟨(lay_ok h).1, trivial⟩) _ h').1
  have h2 : (textsW x d).e = 0 := by
    by_cases hx : (textsW x d).e = 0
    · exact hx
    · rw [count_err hx] at h1; exact h1
  have h3 : (d.foldl textW (countW x d.length)).e = 0 := h2
  have hd := go_len (one := textR) (m := 4) (by decide) (fun s _ => (Good.text s).mono (by omega)) (fun x a h => (lay_ok h).2.2) h3
  have ht := (fold_back textW (fun s => s.size ≤ 65536) d (fun x s _ h => ⟨by
    have := (lay_ok h).1
    by_cases hx : x.e = 0
    · exact hx
    · rw [count_err hx] at this; exact this, (lay_ok h).2.1⟩) _ h3).2
  exact ⟨fun s hs => Nat.le_trans (ht s hs) (by decide), Nat.le_trans hd (by decide), Nat.le_trans hm (by decide)⟩
theorem norm_okF {t : ThingT} (hi : inT t) {x : WrS} (h : (layT x t).e = 0) : ∀ f ∈ (normT t).facts, okF f := by
  intro f hf
  unfold normT at hf
  unfold layT at h
  by_cases k0 : t.k = 0
  · rw [if_pos k0] at hf; cases hf
  rw [if_neg k0] at hf h
  by_cases k1 : t.k = 1
  · rw [if_pos k1] at hf; cases hf
  rw [if_neg k1] at hf h
  by_cases k2 : t.k = 2
  · rw [if_pos k2] at hf; cases hf
  rw [if_neg k2] at hf h
  by_cases k3 : t.k = 3
  · rw [if_pos k3] at hf; cases hf
  rw [if_neg k3] at hf h
  by_cases k4 : t.k = 4
  · rw [if_pos k4] at hf; cases hf
  rw [if_neg k4] at hf h
  by_cases k5 : t.k = 5
  · rw [if_pos k5] at hf; cases hf
  rw [if_neg k5] at hf h
  by_cases k6 : t.k = 6
  · rw [if_pos k6] at hf; cases hf
  rw [if_neg k6] at hf h
  by_cases k7 : t.k = 7
  · rw [if_pos k7] at hf h
    rw [List.mem_singleton.1 hf]
    exact fact_okF (headD_all hi.f (show inF fact0 from fun n hn => by cases hn)) h
  rw [if_neg k7] at hf h
  by_cases k8 : t.k = 8
  · rw [if_pos k8] at hf h
    exact (fold_back factW okF t.facts (fun x f hf h => ⟨(Good.fact (hi.f f hf) x h).1, fact_okF (hi.f f hf) h⟩) _ h).2 f hf
  rw [if_neg k8] at hf
  cases hf
theorem all_okF (ts : List ThingT) (hts : ∀ t ∈ ts, inT t) (x : WrS) (h : (ts.foldl layT x).e = 0) : ∀ t ∈ ts, ∀ f ∈ (normT t).facts, okF f :=
  (fold_back layT (fun t => ∀ f ∈ (normT t).facts, okF f) ts (fun x t ht h => ⟨(Good.thing (hts t ht) x h).1, norm_okF (hts t ht) h⟩) x h).2
theorem RowsFs.row {n : Nat} {w : World} {v : Value} {l : List FactT} (h : RowsFs n w v l) : RowF w.heap.size w v l := by
  obtain ⟨ps, rfl, ⟨a, cap, rfl, h1, h2, h3⟩, h4, -⟩ := h
  refine ⟨ps.map (·.2), by simp, ⟨a, cap, by simp, by simpa using h1, h2, fun hn => ?_⟩, fun i f p hf hp => ?_⟩
  · obtain ⟨b, off, ha, hb, hc⟩ := h3 (by simpa using hn)
    refine ⟨b, off, ha, hb, fun i x hx j hj => ?_⟩
    rw [List.getElem?_map, Option.map_eq_some_iff] at hx
    obtain ⟨q, hq, rfl⟩ := hx
    exact hc i q hq j hj
  · rw [List.getElem?_map, Option.map_eq_some_iff] at hf hp
    obtain ⟨q, hq, rfl⟩ := hf
    obtain ⟨q2, hq2, rfl⟩ := hp
    obtain rfl : q = q2 := Option.some.inj (hq.symm.trans hq2)
    have := h4 q (List.mem_of_getElem? hq)
    exact ⟨this.d, this.m⟩
theorem RowsK.rows {n : Nat} {w : World} {t : ThingT} {v : ThV} (h : RowsK n w t v) : RowsT w.heap.size w t v := ⟨h.l.1, h.c.1, h.f.row, h.m.1⟩
theorem RowsT.forms {B : Nat} {w : World} {t : ThingT} {v : ThV} (h : RowsT B w t v) : ∃ a1 c1 a2 c2 a3 c3 a4 c4, v = ⟨.slice a1 t.l.length c1, .slice a2 t.cells.length c2, .slice a3 t.facts.length c3, .slice a4 t.meas.length c4⟩ := by
  obtain ⟨vl, vc, vf, vm⟩ := v
  obtain ⟨a1, c1, e1, -⟩ := h.l.open
  obtain ⟨a2, c2, e2, -⟩ := h.c
  obtain ⟨ps, hps, ⟨a3, c3, e3, -⟩, -⟩ := h.f
  obtain ⟨a4, c4, e4, -⟩ := h.m.open
  simp only at e1 e2 e3 e4
  rw [hps] at e3
  exact ⟨a1, c1, a2, c2, a3, c3, a4, c4, by rw [e1, e2, e3, e4]⟩


set_option maxRecDepth 100000 in
set_option maxHeartbeats 32000000 in
theorem back7 (v : Value) (ps : List (ThingT × ThV)) (w : World) (hr : RowTh w.heap.size w v ps) (hok : ∀ p ∈ ps, okY p.1) :
    Calls Try.prog 7 #[v] w fun e w' => e = .returned (.bool true) ∧ Below w.heap.size w w' := by
  have HOF := Lib.hid (all_okF (ps.map (·.1)) (fun t ht => by obtain ⟨p, hp, rfl⟩ := List.mem_map.1 ht; exact (hok p hp).i) ⟨[], 0⟩)
  have HG := Lib.hid (all_good (ps.map (·.1)) (fun t ht => by obtain ⟨p, hp, rfl⟩ := List.mem_map.1 ht; exact (hok p hp).i) ⟨[], 0⟩)
  obtain ⟨⟨a1, cap, rfl, hcap, hmax, hc⟩, hel⟩ := hr
  have HC := Lib.hid hc
  have HE := Lib.hid hel
  have HO := Lib.hid hok
  clear hc hel hok
  go_enter Try.func7, Try.ntmps7
  go_wp2_with fail
  refine (awake10 w).mono ?_
  rintro e w1 ⟨rfl, hB1⟩
  have hb2 := Blk.new w1 51 #[.slice none 0 0, .int .i64 0]
  have HW2 := Lib.hid (show WrO (some w1.heap.size) (w1.alloc (Obj.cells #[.slice none 0 0, .int .i64 0] 51)) ⟨[], 0⟩ from ⟨⟨_, hb2, World.ownsRow_nil _ _ _ _⟩, Nat.zero_le _⟩)
  have HB2 := Lib.hid (Below.al hB1 (Obj.cells #[.slice none 0 0, .int .i64 0] 51))
  have hs1 : w.heap.size ≤ w1.heap.size := hB1.size
  have HSS := Lib.hid (show w1.heap.size ≤ (w1.alloc (Obj.cells #[.slice none 0 0, .int .i64 0] 51)).heap.size from (Below.al (Below.refl _ _) _).size)
  clear hb2 hB1
  go_wp2_with fail
  obtain ⟨w2, hw2⟩ : ∃ w2, w2 = w1.alloc (Obj.cells #[.slice none 0 0, .int .i64 0] 51) := ⟨_, rfl⟩
  rw [← hw2] at HW2 HB2 HSS ⊢
  clear hw2
  go_loopw [5] (fun i wr => ∃ (k : Nat) (x : WrS), k ≤ ps.length ∧ i = .int .i64 k ∧ x = ((ps.map (·.1)).take k).foldl layT ⟨[], 0⟩ ∧ WrO (some w1.heap.size) wr x ∧ Below w1.heap.size w2 wr) (fun i _ => ps.length - (intOf i).toNat)
  case atStart => exact ⟨0, ⟨[], 0⟩, by omega, rfl, rfl, HW2.out, Below.refl _ _⟩
  case round =>
    obtain ⟨k, x, hk, rfl, hx, hW, hB⟩ := hrel
    have hBw : Below w.heap.size w wr := HB2.out.trans (hB.mono hs1)
    have hsz : w1.heap.size ≤ wr.heap.size := Nat.le_trans HSS.out hB.size
    by_cases hlt : k < ps.length
    · obtain ⟨g, off, rfl, hg, hcell⟩ := HC.out (by omega)
      obtain ⟨⟨t, tv⟩, hget⟩ : ∃ p, ps[k]? = some p := ⟨_, List.getElem?_eq_getElem hlt⟩
      have hpm : (t, tv) ∈ ps := List.mem_of_getElem? hget
      have hmap : (ps.map (·.1))[k]? = some t := by rw [List.getElem?_map, hget]; rfl
      have hto := HO.out _ hpm
      obtain ⟨e0, e1, e2, e3, e4, e5, e6⟩ := seven (w := wr) (fun j hj => (Below.cell hBw (p := ⟨g, off + k * 7 + j, none⟩) (by show g < _; omega)).trans (hcell k _ hget j hj))
      have hlow : w.heap.size ≤ low (some w1.heap.size) wr := by show w.heap.size ≤ min w1.heap.size wr.heap.size; omega
      have HL := Lib.hid (lay18O (some w1.heap.size) x t tv wr hW ((HE.out _ hpm).mono hBw hlow) (hto.t _))
      unfold wptr thingC at HL
      simp only [Option.map] at HL
      have HX := Lib.hid (show layT x t = ((ps.map (·.1)).take (k + 1)).foldl layT ⟨[], 0⟩ by rw [hx]; exact (foldl_take' layT ⟨[], 0⟩ _ hmap).symm)
      have HB := Lib.hid hB
      have HSZ := Lib.hid hsz
      have hkI : decide ((k : Int) < ps.length) = true := decide_eq_true (by omega)
      clear hW hB hcell hto hpm hlow hget hBw HC hsz hx hmap
      go_wp2_with fail
      refine HL.out.mono ?_
      rintro e w3 ⟨rfl, hW3, hB3⟩
      have HB23 := Lib.hid (HB.out.trans (hB3.below.mono (show w1.heap.size ≤ low (some w1.heap.size) wr by show w1.heap.size ≤ min w1.heap.size wr.heap.size; have := HSZ.out; omega)))
      have HW3 := Lib.hid hW3
      clear hW3 hB3 HL
      go_wp2_with fail
      go_roundw
      case rel => exact ⟨k + 1, _, by omega, by go_num, HX.out, HW3.out, HB23.out⟩
      case measure => simp [intOf]; omega
    · obtain rfl : k = ps.length := by omega
      have hkI : decide ((ps.length : Int) < ps.length) = false := by simp
      have HD := Lib.hid (fun w' (h : Below wr.heap.size wr w') => done21 _ _ w' (WrO.below hW h))
      rw [List.take_of_length_le (by simp)] at hx
      have hxl := hW.2
      have HBR := Lib.hid hBw
      rw [← hx] at HG HOF
      clear hW hB hBw hsz
      go_wp2_with fail
      refine (HD.out wr (Below.refl _ _)).mono ?_
      rintro e w3 ⟨rfl, hB3⟩
      have HB3 := Lib.hid (Below.call HBR.out hB3)
      clear hB3 HD hx
      obtain ⟨xl, xe⟩ := x
      simp only at HG HOF hxl
      by_cases hxe : xe = 0
      · subst hxe
        rw [show doneW ⟨xl, 0⟩ = ⟨xl.toArray⟩ from if_neg (by simp)]
        obtain ⟨-, bs, hbl, hrd, -⟩ := HG.out rfl
        have HOK := Lib.hid (HOF.out rfl)
        simp only [List.nil_append] at hbl
        subst hbl
        clear HG HOF
        have HRDS := Lib.hid hrd
        have hR := Lib.hid (fun w => show Calls Try.prog 22 #[.string ⟨xl.toArray⟩] w fun e w' => e = .returned (.pointer (some ⟨w.heap.size, 0, none⟩)) ∧ RdAt w.heap.size w' (mk xl) ∧ Below w.heap.size w w' from read22 ⟨xl.toArray⟩ w (by simp only [ByteArray.size, List.size_toArray]; omega))
        generalize (⟨xl.toArray⟩ : ByteArray) = S at *
        clear hrd
        go_wp2_with fail
        refine (hR.out w3).mono ?_
        rintro e w4 ⟨rfl, hrd, hB4⟩
        have HB4 := Lib.hid (Below.call HB3.out hB4)
        have hs3 : w.heap.size ≤ w3.heap.size := HB3.out.size
        have HRD4 := Lib.hid hrd
        clear hrd hB4 hR
        obtain ⟨b, hb⟩ : ∃ b, b = w3.heap.size := ⟨_, rfl⟩
        rw [← hb] at hs3 HRD4 ⊢
        clear hb
        go_wp2_with fail
        go_loopw [9] (fun i wr => ∃ (k : Nat) (rest : List UInt8), k ≤ ps.length ∧ i = .int .i64 k ∧ RdO (some b) wr (mk rest) ∧ Reads ((ps.map (·.1)).drop k) rest ∧ Below w.heap.size w wr) (fun i _ => ps.length - (intOf i).toNat)
        case atStart => exact ⟨0, xl, by omega, rfl, HRD4.out, HRDS.out, HB4.out⟩
        case round =>
          obtain ⟨k, rest, hk, rfl, hrd, hre, hBw⟩ := hrel
          by_cases hlt : k < ps.length
          · obtain ⟨g, off, rfl, hg, hcell⟩ := HC.out (by omega)
            obtain ⟨⟨t, tv⟩, hget⟩ : ∃ p, ps[k]? = some p := ⟨_, List.getElem?_eq_getElem hlt⟩
            have hpm : (t, tv) ∈ ps := List.mem_of_getElem? hget
            have hmap : (ps.map (·.1))[k]? = some t := by rw [List.getElem?_map, hget]; rfl
            have hdrop : (ps.map (·.1)).drop k = t :: (ps.map (·.1)).drop (k + 1) := by
              obtain ⟨h1, h2⟩ := List.getElem?_eq_some_iff.1 hmap
              rw [List.drop_eq_getElem_cons h1, h2]
            rw [hdrop] at hre
            obtain ⟨rest2, htk, hre2⟩ := hre
            have HRE2 := Lib.hid hre2
            have HQ := Lib.hid (fun (w' : World) (hB' : Below w.heap.size w w') => seven (w := w') (fun j hj => (Below.cell hB' (p := ⟨g, off + k * 7 + j, none⟩) (by show g < _; omega)).trans (hcell k _ hget j hj)))
            obtain ⟨e0, e1, e2, e3, e4, e5, e6⟩ := HQ.out wr hBw
            have hwz : w.heap.size ≤ wr.heap.size := hBw.size
            have hbl : b < wr.heap.size := RdAt.blk hrd |>.lt
            have HN := Lib.hid (normal31 t tv wr w.heap.size hwz ((HE.out _ hpm).mono hBw (Nat.le_refl _)))
            have HT := Lib.hid (fun (w' : World) (hB' : Below w.heap.size w w') (hr' : RdO (some b) w' (mk rest)) => take26O (some b) (mk rest) t tv w' w.heap.size hr' ((HE.out _ hpm).mono hB' (Nat.le_refl _)))
            rw [htk] at HT
            have HF := Lib.hid (HOK.out t (List.mem_map.2 ⟨_, hpm, rfl⟩))
            generalize normT t = q at *
            obtain ⟨qk, qn, qs, ql, qc, qf, qm⟩ := q
            unfold wptr at HT
            unfold thingC at HN HT
            simp only [Option.map] at HN HT HF
            have HRD := Lib.hid hrd
            have HBW := Lib.hid hBw
            have hkI : decide ((k : Int) < ps.length) = true := decide_eq_true (by omega)
            clear hrd hBw hcell hpm hget HC hmap hdrop htk hre2
            go_wp2_with fail
            refine HN.out.mono ?_
            rintro e w5 ⟨nv, rfl, hn1, hn2⟩
            obtain ⟨n1, nc1, n2, nc2, n3, nc3, n4, nc4, hnv⟩ := (hn2 none w5 (fun _ e => by cases e) (KeepB.refl _ _)).forms
            simp only at hnv
            subst hnv
            have hB5 := HBW.out.trans (hn1.below (L := w.heap.size) hwz (fun _ e => by cases e))
            have hR5 := RdO.below HRD.out (hn1.below (L := wr.heap.size) (Nat.le_refl _) (fun _ e => by cases e))
            have HN2 := Lib.hid hn2
            have hwr5 : wr.heap.size ≤ w5.heap.size := hn1.size
            have hP := Blk.new w5 57 #[.int .i64 qk, .int .i64 qn, .string qs, .slice n1 ql.length nc1, .slice n2 qc.length nc2, .slice n3 qf.length nc3, .slice n4 qm.length nc4]
            have hBl := Below.al (Below.refl w5.heap.size w5) (Obj.cells #[.int .i64 qk, .int .i64 qn, .string qs, .slice n1 ql.length nc1, .slice n2 qc.length nc2, .slice n3 qf.length nc3, .slice n4 qm.length nc4] 57)
            clear e0 e1 e2 e3 e4 e5 e6 HN hn1 hn2
            go_upto_region 17 with fail
            obtain ⟨wA, hwA⟩ : ∃ wA, wA = w5.alloc (Obj.cells #[.int .i64 qk, .int .i64 qn, .string qs, .slice n1 ql.length nc1, .slice n2 qc.length nc2, .slice n3 qf.length nc3, .slice n4 qm.length nc4] 57) := ⟨_, rfl⟩
            rw [← hwA] at hP hBl ⊢
            clear hwA
            have hBA := Below.call hB5 hBl
            obtain ⟨e0, e1, e2, e3, e4, e5, e6⟩ := HQ.out wA hBA
            have HBA := Lib.hid hBA
            have HTA := Lib.hid (HT.out wA hBA (RdO.below hR5 hBl))
            have HBl := Lib.hid hBl
            have HP := Lib.hid hP
            clear hBA hB5 hR5 hBl hP HT
            go_wp2_with fail
            refine HTA.out.mono ?_
            rintro e w6 ⟨v, rfl, h1, h2, h3⟩
            obtain ⟨m1, mc1, m2, mc2, m3, mc3, m4, mc4, hmv⟩ := h3.rows.forms
            simp only at hmv
            subst hmv
            have hA6 := h2.size
            have hP6 := Blk.keepB HP.out h2 (fun e => by injection e with e; omega)
            have hQ := Blk.new w6 57 #[.int .i64 qk, .int .i64 qn, .string qs, .slice m1 ql.length mc1, .slice m2 qc.length mc2, .slice m3 qf.length mc3, .slice m4 qm.length mc4]
            have hB6 := Below.al (Below.refl w6.heap.size w6) (Obj.cells #[.int .i64 qk, .int .i64 qn, .string qs, .slice m1 ql.length mc1, .slice m2 qc.length mc2, .slice m3 qf.length mc3, .slice m4 qm.length mc4] 57)
            have hB6' := HBA.out.trans (h2.below (L := w.heap.size) HBA.out.size (fun B e => by cases e; exact hs3))
            have hK := (KeepB.of (b := some b) HBl.out).trans h2
            clear e0 e1 e2 e3 e4 e5 e6 HTA h2
            go_upto_region 18 with fail
            obtain ⟨wB, hwB⟩ : ∃ wB, wB = w6.alloc (Obj.cells #[.int .i64 qk, .int .i64 qn, .string qs, .slice m1 ql.length mc1, .slice m2 qc.length mc2, .slice m3 qf.length mc3, .slice m4 qm.length mc4] 57) := ⟨_, rfl⟩
            rw [← hwB] at hQ hB6 ⊢
            clear hwB
            have HP6 := Lib.hid (Blk.below hP6 hB6 hP6.lt)
            have HQ6 := Lib.hid hQ
            have HS := Lib.hid (same25 ⟨qk, qn, qs, ql, qc, qf, qm⟩ ⟨.slice m1 ql.length mc1, .slice m2 qc.length mc2, .slice m3 qf.length mc3, .slice m4 qm.length mc4⟩ ⟨.slice n1 ql.length nc1, .slice n2 qc.length nc2, .slice n3 qf.length nc3, .slice n4 qm.length nc4⟩ wB (h3.rows.mono hB6 hB6.size) (HN2.out (some b) wB (fun b0 e => by cases e; exact ⟨hs3, hbl⟩) (hK.call hB6)) HF.out)
            unfold thingC at HS
            have HB6 := Lib.hid (Below.call hB6' hB6)
            have HR6 := Lib.hid (RdO.below h1 hB6)
            clear h1 h3 hP6 hQ hB6 hB6' hK HN2
            go_wp2_with (first | (refine wpList_load_at rfl 57 _ rfl w6.heap.size 0 rfl #[.int .i64 qk, .int .i64 qn, .string qs, .slice m1 ql.length mc1, .slice m2 qc.length mc2, .slice m3 qf.length mc3, .slice m4 qm.length mc4] _ (fun j hj => by rw [Nat.zero_add]; exact Blk.cell HQ6.out j) Try.underlying57 rfl info57 ?_) | (refine wpList_load_at rfl 57 _ rfl w5.heap.size 0 rfl #[.int .i64 qk, .int .i64 qn, .string qs, .slice n1 ql.length nc1, .slice n2 qc.length nc2, .slice n3 qf.length nc3, .slice n4 qm.length nc4] _ (fun j hj => by rw [Nat.zero_add]; exact Blk.cell HP6.out j) Try.underlying57 rfl info57 ?_))
            refine HS.out.mono ?_
            rintro e w7 ⟨rfl, hB7⟩
            have HB7 := Lib.hid (Below.call HB6.out hB7)
            have HR7 := Lib.hid (RdO.below HR6.out hB7)
            clear hB7 HS
            go_wp2_with fail
            go_roundw
            case rel => exact ⟨k + 1, rest2, by omega, by go_num, HR7.out, HRE2.out, HB7.out⟩
            case measure => simp [intOf]; omega
          · obtain rfl : k = ps.length := by omega
            have hkI : decide ((ps.length : Int) < ps.length) = false := by simp
            rw [List.drop_eq_nil_of_le (by simp)] at hre
            have hre : rest = [] := hre
            subst hre
            have HD := Lib.hid (done29O (some b) _ wr hrd)
            have HF := Lib.hid (left28O (some b) _ wr hrd)
            rw [show endR (mk []) = 0 from rfl] at HD
            rw [show (((mk []).s.size : Nat) : Int) = 0 from rfl] at HF
            unfold wptr at HD HF
            simp only [Option.map] at HD HF
            have HBW := Lib.hid hBw
            clear hrd hBw
            go_wp2_with fail
            refine HF.out.mono ?_
            rintro e w' ⟨rfl, rfl⟩
            go_wp2_with fail
            refine HD.out.mono ?_
            rintro e w' ⟨rfl, rfl⟩
            go_wp2_with fail
            go_ret
            exact ⟨rfl, HBW.out⟩
      · have hne : (xe != 0) = true := by simpa using hxe
        rw [show doneW ⟨xl, xe⟩ = ⟨#[]⟩ from if_pos (by simpa using hxe)]
        go_wp2_with fail
        go_ret
        exact ⟨rfl, HB3.out⟩
theorem backLaw (v : Value) (w : World) (ps : List (ThingT × ThV)) (hr : RowTh w.heap.size w v ps) (hok : ∀ p ∈ ps, okY p.1) :
    Calls Try.prog 7 #[v] w fun e w' => e = .returned (.bool true) ∧ Below w.heap.size w w' := back7 v ps w hr hok

end Go.Proofs.Ytocanbdpdnkapaa
