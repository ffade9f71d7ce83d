/- A store of facts: Check. -/
import Derived.Test.YtdpgpcffhhdpiaaG
namespace Go.Proofs.Ytdpgpcffhhdpiaa
open Go.RowKit Go.Maps
set_option linter.unusedVariables false
set_option linter.unusedSimpArgs false

/-- the texts of a dimension -/
def col (i : Nat) (l : List FactT) : List ByteArray := l.map fun f => f.dims.getD i ByteArray.empty
/-- texts behind others, each once -/
def puts (L : List ByteArray) (ts : List ByteArray) : List ByteArray := ts.foldl putL L
/-- whether facts may be appended -/
def checkE (d m : Nat) (L : Nat → List ByteArray) (l : List FactT) : Int :=
  if 64 < l.length then 46 else if l.any (fun f => !(rightF d m f)) then 26 else if (List.range d).any (fun i => decide (4096 < (puts (L i) (col i l)).length)) then 12 else 0
theorem idx_none {l : List ByteArray} {s : ByteArray} : idx l s = none ↔ s ∉ l := by
  unfold idx
  rw [List.findIdx?_eq_none_iff]
  constructor
  · intro h hs; have := h s hs; simp at this
  · intro h x hx; simp; intro e; subst e; exact h hx
theorem idx_some {l : List ByteArray} {s : ByteArray} : (idx l s).isSome = true ↔ s ∈ l := by
  cases h : idx l s with
  | none => rw [idx_none] at h; simp [h]
  | some i => have := idx_get h; simp; exact List.mem_of_getElem? this
theorem putL_in {l : List ByteArray} {s : ByteArray} (h : s ∈ l) : putL l s = l := by
  unfold putL
  cases hi : idx l s with
  | none => exact absurd h (idx_none.1 hi)
  | some i => rfl
theorem putL_new {l : List ByteArray} {s : ByteArray} (h : s ∉ l) : putL l s = l ++ [s] := by
  unfold putL
  rw [idx_none.2 h]
/-- those behind L, each once -/
def frL (L ts : List ByteArray) : List ByteArray := (puts L ts).drop L.length
theorem puts_pre (L ts : List ByteArray) : puts L ts = L ++ frL L ts := by
  have key : ∀ (ts : List ByteArray) (M : List ByteArray), L <+: M → L <+: ts.foldl putL M := by
    intro ts
    induction ts with
    | nil => exact fun M h => h
    | cons t ts ih =>
      intro M h
      refine ih (putL M t) ?_
      by_cases ht : t ∈ M
      · rw [putL_in ht]; exact h
      · rw [putL_new ht]; exact h.trans (List.prefix_append _ _)
  obtain ⟨r, hr⟩ := key ts L (List.prefix_refl L)
  unfold frL puts
  rw [← hr, List.drop_left]
theorem puts_take (L : List ByteArray) (ts : List ByteArray) {k : Nat} {t : ByteArray} (h : ts[k]? = some t) : puts L (ts.take (k + 1)) = putL (puts L (ts.take k)) t := by
  unfold puts
  rw [List.take_add_one, h, List.foldl_append]
  rfl
theorem frL_known {L ts : List ByteArray} {k : Nat} {t : ByteArray} (h : ts[k]? = some t) (ht : t ∈ L) : frL L (ts.take (k + 1)) = frL L (ts.take k) := by
  unfold frL
  rw [puts_take L ts h, putL_in (by rw [puts_pre]; exact List.mem_append_left _ ht)]
theorem frL_again {L ts : List ByteArray} {k : Nat} {t : ByteArray} (h : ts[k]? = some t) (ht : t ∈ frL L (ts.take k)) : frL L (ts.take (k + 1)) = frL L (ts.take k) := by
  show (puts L (ts.take (k + 1))).drop L.length = _
  rw [puts_take L ts h, putL_in (by rw [puts_pre]; exact List.mem_append_right _ ht)]
  rfl
theorem frL_new {L ts : List ByteArray} {k : Nat} {t : ByteArray} (h : ts[k]? = some t) (h1 : t ∉ L) (h2 : t ∉ frL L (ts.take k)) : frL L (ts.take (k + 1)) = frL L (ts.take k) ++ [t] := by
  have hn : t ∉ puts L (ts.take k) := by rw [puts_pre]; intro hm; rcases List.mem_append.1 hm with h | h; exact h1 h; exact h2 h
  show (puts L (ts.take (k + 1))).drop L.length = _
  rw [puts_take L ts h, putL_new hn, puts_pre, List.append_assoc, List.drop_left]
/-- a set of texts, as a map's entries -/
def trues (l : List ByteArray) : List (ByteArray × DataW Unit) := l.map fun s => (s, .lit (.bool true))
theorem trues_in {l : List ByteArray} {s : ByteArray} (h : s ∈ l) : look (trues l) s = some (.lit (.bool true)) := by
  induction l with
  | nil => cases h
  | cons t l ih =>
    show look ((t, _) :: trues l) s = _
    rw [look_cons]
    by_cases e : t = s
    · rw [if_pos e]
    · rw [if_neg e]
      rcases List.mem_cons.1 h with h1 | h1
      · exact absurd h1.symm e
      · exact ih h1
theorem trues_out {l : List ByteArray} {s : ByteArray} (h : s ∉ l) : look (trues l) s = none := by
  rw [look_none]
  intro p hp e
  obtain ⟨t, ht, rfl⟩ := List.mem_map.1 hp
  exact h (by rw [← e]; exact ht)
theorem puts_size (L ts : List ByteArray) : (puts L ts).length ≤ L.length + ts.length := by
  have key : ∀ (ts M : List ByteArray), (ts.foldl putL M).length ≤ M.length + ts.length := by
    intro ts
    induction ts with
    | nil => exact fun M => Nat.le_refl _
    | cons t ts ih =>
      intro M
      have := ih (putL M t)
      have h2 : (putL M t).length ≤ M.length + 1 := by
        by_cases ht : t ∈ M
        · rw [putL_in ht]; omega
        · rw [putL_new ht]; simp
      simp only [List.foldl_cons, List.length_cons]
      omega
  exact key ts L
theorem Below.turned {A : Nat} {w0 w w' : World} {b : Nat} (h : Below A w0 w) (hm : w.mapTurned w' b) (hb : A ≤ b) : Below A w0 w' :=
  h.trans ⟨hm.grown.os, hm.grown.tape, hm.grown.output, hm.grown.size, fun k hk => hm.grown.block k (by
    obtain ⟨es, ck, es', ck', hx, -⟩ := hm
    have := (Array.getElem?_eq_some_iff.1 hx).1
    omega) (fun e => by injection e with e; omega)⟩
theorem boolR : plainElem (H := Unit) Try.prog 4 (.bool true) = some (.lit (.bool true), []) := by kernel_rfl
theorem mk74 (w : World) : (Instr.makeMap 74 none).run Try.prog w = .ok (.map (some w.heap.size)) (w.alloc (.map #[] 0)) := by kernel_rfl
/-- fresh texts in a map -/
abbrev Fresh (w : World) (bm : Nat) (l : List ByteArray) : Prop := SMap Try.prog 9 (plainElem (H := Unit) Try.prog 4) w bm (trues l)
theorem Fresh.put {w : World} {bm : Nat} {L ts : List ByteArray} {k : Nat} {t : ByteArray} (h : Fresh w bm (frL L (ts.take k))) (ht : ts[k]? = some t) (hL : t ∉ L) (hs : t.size ≤ maxLen) (hn : (frL L (ts.take k)).length < maxLen) :
    ∃ w', (Instr.mapUpdate 74 (.map (some bm)) (.string t) (.bool true)).run Try.prog w = .ok () w' ∧ Fresh w' bm (frL L (ts.take (k + 1))) ∧ w.mapTurned w' bm := by
  by_cases h2 : t ∈ frL L (ts.take k)
  · rw [frL_again ht h2]
    exact SMap.again h Try.underlying9 Try.underlying74 (by simpa [trues] using hn) hs boolR (trues_in h2)
  · rw [frL_new ht hL h2]
    obtain ⟨w', h3, h4, h5⟩ := SMap.store h Try.underlying9 Try.underlying74 (by simpa [trues] using hn) hs boolR (trues_out h2)
    exact ⟨w', h3, by have : trues (frL L (ts.take k) ++ [t]) = trues (frL L (ts.take k)) ++ [(t, .lit (.bool true))] := by simp [trues]
                      unfold Fresh; rw [this]; exact h4, h5⟩
section
variable {F : Nat → Prop} {B : Nat} {w : World} {d m ng : Nat} {L : Nat → List ByteArray} {okD okM : Nat → Nat → Prop} {T : Nat → Nat → ByteArray} {Y : Nat → Nat → Int} {ends : List Nat}
set_option maxRecDepth 100000 in
set_option maxHeartbeats 32000000 in
theorem check20 (h : Core F B w d m L ng okD okM T Y ends) (A : Nat) (hA : A ≤ w.heap.size) (v : Value) (l : List FactT) (hr : RowF A w v l) (hl : ∀ f ∈ l, shortF f) :
    Calls Try.prog 20 #[ptrV B, v] w fun e w' => e = .returned (.int .i64 (checkE d m L l)) ∧ Below w.heap.size w w' := by
  have hr0 := hr
  obtain ⟨⟨vD, vS, vE, dl, gs, Fs⟩, hq⟩ := h
  obtain ⟨aD, cD, hvD⟩ := owns_form hq.dO
  simp only at hvD
  subst hvD
  have hdd := hq.hd
  obtain ⟨ps, hps, ⟨a, cap, rfl, hcap, hmax, hc⟩, hel⟩ := hr
  rw [hps] at hcap hc hr0 ⊢
  have HC := Lib.hid hc
  have HEL := Lib.hid hel
  have HL := Lib.hid hl
  have HPS := Lib.hid hps
  have HROW := Lib.hid hr0
  have hbx := Blk.new w 24 #[ptrV B]
  have hBl := Below.al (Below.refl w.heap.size w) (Obj.cells #[ptrV B] 24)
  have HCR := Lib.hid (fun w' (hB' : Below w.heap.size w w') => hq.keep (G := fun _ => False) (Turn.of_below hB' (fun k hk hk2 => by omega)) (fun k _ h => h))
  obtain ⟨w1, hw1⟩ : ∃ w1, w1 = w.alloc (Obj.cells #[ptrV B] 24) := ⟨_, rfl⟩
  rw [← hw1] at hbx hBl
  have HBX := Lib.hid hbx
  have HB1 := Lib.hid hBl
  clear hc hel hl hps hr0 hq hbx hBl
  have c0 : w1.cell? ⟨w.heap.size, 0, none⟩ = some (.pointer (some ⟨B, 0, none⟩)) := Blk.cell HBX.out 0
  have HT := Lib.hid (there25 ⟨_, HCR.out w1 HB1.out⟩)
  have HE1 := Lib.hid (show checkE d m L l = if 64 < l.length then 46 else if l.any (fun f => !(rightF d m f)) then 26 else if (List.range d).any (fun i => decide (4096 < (puts (L i) (col i l)).length)) then 12 else 0 from rfl)
  unfold ptrV at HT ⊢
  go_enter Try.func20, Try.ntmps20
  go_upto_region 1 with fail
  rw [show (Obj.cells #[Value.pointer (some ⟨B, 0, none⟩)] 24) = Obj.cells #[ptrV B] 24 from rfl, ← hw1]
  clear hw1
  go_wp2_with fail
  refine HT.out.mono ?_
  rintro e w' ⟨rfl, rfl⟩
  by_cases h64 : 64 < l.length
  · have d1 : decide ((64 : Int) < l.length) = true := decide_eq_true (by omega)
    rw [if_pos h64] at HE1
    go_wp2_with fail
    go_ret
    exact ⟨by rw [HE1.out]; rfl, HB1.out⟩
  · have d1 : decide ((64 : Int) < l.length) = false := decide_eq_false (by omega)
    rw [if_neg h64] at HE1
    have HCN := Lib.hid (contains31 ⟨_, HCR.out w1 HB1.out⟩ w.heap.size HBX.out A (Nat.le_trans hA HB1.out.size) _ l (HROW.out.mono (HB1.out.mono hA) (Nat.le_refl _)) HL.out)
    by_cases hbad : l.any (fun f => !(rightF d m f)) = true
    · rw [hbad] at HCN
      rw [if_pos hbad] at HE1
      clear hbad
      go_wp2_with fail
      refine HCN.out.mono ?_
      rintro e w2 ⟨rfl, hB2⟩
      have HB2 := Lib.hid (Below.call HB1.out hB2)
      clear hB2
      go_wp2_with fail
      go_ret
      exact ⟨by rw [HE1.out]; rfl, HB2.out⟩
    · have hbad : l.any (fun f => !(rightF d m f)) = false := by simpa using hbad
      rw [hbad] at HCN HE1
      rw [if_neg (by simp)] at HE1
      have HGOOD := Lib.hid (fun f (hf : f ∈ l) => show rightF d m f = true by
        have := List.any_eq_false.1 hbad f hf
        simpa using this)
      clear hbad
      go_wp2_with fail
      refine HCN.out.mono ?_
      rintro e w2 ⟨rfl, hB2⟩
      have HB2 := Lib.hid (Below.call HB1.out hB2)
      have HBX2 := Lib.hid (Blk.below HBX.out hB2 HBX.out.lt)
      clear hB2 c0
      have c0 : w2.cell? ⟨w.heap.size, 0, none⟩ = some (.pointer (some ⟨B, 0, none⟩)) := Blk.cell HBX2.out 0
      have cB : w2.cell? ⟨B, 0, none⟩ = some (.slice aD d cD) := Blk.cell (HCR.out w2 HB2.out).blk 0
      go_wp2_with fail
      go_loopw [29] (fun i wr => ∃ i0 : Nat, i0 ≤ d ∧ i = .int .i64 i0 ∧ Below w.heap.size w wr ∧ ∀ j, j < i0 → ¬ 4096 < (puts (L j) (col j l)).length) (fun i _ => d - (intOf i).toNat)
      case atStart => exact ⟨0, by omega, rfl, HB2.out, fun j hj => by omega⟩
      case round =>
        obtain ⟨i0, hi0, rfl, hB, hno⟩ := hrel
        by_cases hid : i0 < d
        · have hq := HCR.out wr hB
          have hdl := hq.dl
          simp only at hdl
          obtain ⟨D, hD⟩ : ∃ D, dl[i0]? = some D := ⟨_, List.getElem?_eq_getElem (by omega)⟩
          obtain ⟨hlD, aD', cD', hv, -, -, hcD⟩ := Row.of_owns hq.dO
          simp only at hv
          injection hv with hv1 hv2 hv3
          subst hv1 hv3
          obtain ⟨bD, oD, rfl, hbD, hcellD⟩ := hcD (by omega)
          have cD0 : wr.cell? ⟨bD, oD + i0, none⟩ = some (.pointer (some ⟨D, 0, none⟩)) := by
            have := hcellD i0 (by omega)
            rw [this, List.getD_eq_getElem?_getD, List.getElem?_map, hD]; rfl
          have hiI : decide ((i0 : Int) < d) = true := decide_eq_true (by omega)
          have hMk := mk74 wr
          have HDICT := Lib.hid (fun w' (hB' : Below w.heap.size w w') => (HCR.out w' hB').dict i0 D hD)
          have HFR := Lib.hid (show Fresh (wr.alloc (.map #[] 0)) wr.heap.size (frL (L i0) ((col i0 l).take 0)) by
            have : frL (L i0) ((col i0 l).take 0) = [] := by unfold frL puts; simp
            rw [this]; exact SMap.made _ _ _ _)
          have HBM := Lib.hid (Below.al hB (.map #[] 0))
          have hfm : w.heap.size ≤ wr.heap.size := hB.size
          have HNO := Lib.hid hno
          clear hq hlD hcD hcellD hno hB
          obtain ⟨fm, hfm0⟩ : ∃ fm, fm = wr.heap.size := ⟨_, rfl⟩
          rw [← hfm0] at HFR hMk hfm
          clear hfm0
          go_wp2_with fail
          obtain ⟨wm, hwm⟩ : ∃ wm, wm = wr.alloc (.map #[] 0) := ⟨_, rfl⟩
          rw [← hwm] at HFR HBM ⊢
          clear hwm hMk cD0
          go_loopw [37] (fun j wr => ∃ k : Nat, k ≤ l.length ∧ j = .int .i64 k ∧ Below w.heap.size w wr ∧ Fresh wr fm (frL (L i0) ((col i0 l).take k))) (fun j _ => l.length - (intOf j).toNat)
          case atStart => exact ⟨0, by omega, rfl, HBM.out, HFR.out⟩
          case round =>
            obtain ⟨k, hk, rfl, hB, hfr⟩ := hrel
            by_cases hlt : k < l.length
            · obtain ⟨g, off, rfl, hg, hcell⟩ := HC.out (by omega)
              have hps := HPS.out
              obtain ⟨⟨vd, vm⟩, hget⟩ : ∃ p, ps[k]? = some p := ⟨_, List.getElem?_eq_getElem (by omega)⟩
              obtain ⟨f, hgetf⟩ : ∃ p, l[k]? = some p := ⟨_, List.getElem?_eq_getElem hlt⟩
              obtain ⟨hd, hm⟩ := HEL.out k f _ hgetf hget
              obtain ⟨ad, cd, hvd, hcd1, hcd2, hcd⟩ := hd.open
              obtain ⟨am, cm, hvm, -⟩ := hm.open
              simp only at hvd hvm
              have hgood := HGOOD.out f (List.mem_of_getElem? hgetf)
              unfold rightF at hgood
              simp only [Bool.and_eq_true, decide_eq_true_eq, Bool.not_eq_true'] at hgood
              obtain ⟨⟨hg1, hg2⟩, hg3⟩ := hgood
              obtain ⟨bd, od, rfl, hbd, hcelld⟩ := hcd (by omega)
              have ht0 := hcelld i0 (by omega)
              have htm : f.dims.getD i0 ByteArray.empty ∈ f.dims := getD_mem (by omega)
              have hts : (f.dims.getD i0 ByteArray.empty).size ≤ 64 := by
                have := List.any_eq_false.1 hg3 _ htm
                simpa using this
              have hcol : (col i0 l)[k]? = some (f.dims.getD i0 ByteArray.empty) := by unfold col; rw [List.getElem?_map, hgetf]; rfl
              rw [hg1] at hvd
              generalize f.dims.getD i0 ByteArray.empty = t at *
              generalize f.meas.length = nm at hvm
              subst hvd hvm
              have hBA : A ≤ w.heap.size := hA
              have x0 : wr.cell? ⟨g, off + k * 2 + 0, none⟩ = some (.slice (some ⟨bd, od, none⟩) d cd) := (Below.cell hB (p := ⟨g, off + k * 2 + 0, none⟩) (by show g < _; omega)).trans (hcell k _ hget 0 (by omega))
              have x1 : wr.cell? ⟨g, off + k * 2 + 1, none⟩ = some (.slice am nm cm) := (Below.cell hB (p := ⟨g, off + k * 2 + 1, none⟩) (by show g < _; omega)).trans (hcell k _ hget 1 (by omega))
              have HX := Lib.hid (And.intro x0 x1)
              have HB := Lib.hid hB
              have hBl := Below.al hB (Obj.cells #[.slice (some ⟨bd, od, none⟩) d cd, .slice am nm cm] 41)
              have hnb := Blk.new wr 41 #[.slice (some ⟨bd, od, none⟩) d cd, .slice am nm cm]
              have hfr2 := SMap.alloc hfr (Obj.cells #[.slice (some ⟨bd, od, none⟩) d cd, .slice am nm cm] 41)
              have hkI : decide ((k : Int) < l.length) = true := decide_eq_true (by omega)
              clear hcell hget hgetf hd hm hcd hcelld htm hg1 hg2 hg3 x0 x1 hB hfr hcd1 hcd2 hps
              go_upto_region 14 with (refine wpList_load_at rfl 41 _ rfl g (off + k * 2) rfl #[.slice (some ⟨bd, od, none⟩) d cd, .slice am nm cm] _ (fun j hj => by match j, hj with | 0, _ => exact HX.out.1 | 1, _ => exact HX.out.2) Try.underlying41 rfl info41 ?_)
              obtain ⟨wc, hwc⟩ : ∃ wc, wc = wr.alloc (Obj.cells #[.slice (some ⟨bd, od, none⟩) d cd, .slice am nm cm] 41) := ⟨_, rfl⟩
              rw [← hwc] at hBl hnb hfr2 ⊢
              clear hwc
              have y0 : wc.cell? ⟨wr.heap.size, 0, none⟩ = some (.slice (some ⟨bd, od, none⟩) d cd) := Blk.cell hnb 0
              have yt : wc.cell? ⟨bd, od + i0, none⟩ = some (.string t) := (Below.cell hBl (p := ⟨bd, od + i0, none⟩) (by show bd < _; omega)).trans ht0
              have HF := Lib.hid (find30 (Fs i0) D (L i0) t wc (HDICT.out wc hBl) (by unfold maxLen; omega))
              have HBl := Lib.hid hBl
              unfold findV at HF
              clear ht0
              by_cases hin : t ∈ L i0
              · have hsome : (idx (L i0) t).isSome = true := idx_some.2 hin
                rw [hsome] at HF
                have HFR2 := Lib.hid (show Fresh wc fm (frL (L i0) ((col i0 l).take (k + 1))) by rw [frL_known hcol hin]; exact hfr2)
                clear hsome hfr2 hBl hnb
                go_wp2_with fail
                refine HF.out.mono ?_
                rintro e w' ⟨rfl, rfl⟩
                go_wp2_with fail
                go_roundw
                case rel => exact ⟨k + 1, by omega, by go_num, HBl.out, HFR2.out⟩
                case measure => simp [intOf]; omega
              · have hnone : (idx (L i0) t).isSome = false := by
                  cases hh : (idx (L i0) t).isSome with
                  | false => rfl
                  | true => exact absurd (idx_some.1 hh) hin
                rw [hnone] at HF
                have hlen : (frL (L i0) ((col i0 l).take k)).length < maxLen := by
                  have h1 := puts_size (L i0) ((col i0 l).take k)
                  have h2 := (HDICT.out wc hBl).size
                  have h3 : ((col i0 l).take k).length ≤ 64 := by rw [List.length_take]; omega
                  have h4 : (frL (L i0) ((col i0 l).take k)).length ≤ (puts (L i0) ((col i0 l).take k)).length := by unfold frL; rw [List.length_drop]; omega
                  unfold maxLen
                  omega
                obtain ⟨wn, hrun, hfr3, hturn⟩ := Fresh.put hfr2 hcol hin (by unfold maxLen; omega) hlen
                have HB3 := Lib.hid (Below.turned hBl hturn hfm)
                have HFR3 := Lib.hid hfr3
                clear hnone hfr2 hBl hnb hfr3 hturn hlen
                go_wp2_with fail
                refine HF.out.mono ?_
                rintro e w' ⟨rfl, rfl⟩
                go_wp2_with fail
                go_roundw
                case rel => exact ⟨k + 1, by omega, by go_num, HB3.out, HFR3.out⟩
                case measure => simp [intOf]; omega
            · obtain rfl : k = l.length := by omega
              have hkI : decide ((l.length : Int) < l.length) = false := by simp
              have hcl : (col i0 l).take l.length = col i0 l := List.take_of_length_le (by unfold col; simp)
              rw [hcl] at hfr
              have hsz := puts_size (L i0) (col i0 l)
              have hds := (HDICT.out wr hB).size
              have hcl2 : (col i0 l).length = l.length := by unfold col; simp
              have HLN := Lib.hid (len29 (Fs i0) D (L i0) wr (HDICT.out wr hB))
              have hml := SMap.len hfr Try.underlying74 3
              have hfl : (trues (frL (L i0) (col i0 l))).length = (frL (L i0) (col i0 l)).length := by simp [trues]
              rw [hfl] at hml
              have hpl : (puts (L i0) (col i0 l)).length = (L i0).length + (frL (L i0) (col i0 l)).length := by rw [puts_pre, List.length_append]
              have HPL := Lib.hid hpl
              generalize (frL (L i0) (col i0 l)).length = nf at *
              have HB := Lib.hid hB
              have hB1 : ((L i0).length : Int) + nf ≤ 8192 := by omega
              clear hfr hfl hcl
              by_cases hbig : 4096 < (puts (L i0) (col i0 l)).length
              · have HE2 := Lib.hid (show checkE d m L l = 12 by
                  rw [HE1.out, if_pos]
                  rw [List.any_eq_true]
                  exact ⟨i0, by simpa using hid, by simpa using hbig⟩)
                have d2 : decide ((4096 : Int) < ((L i0).length : Int) + nf) = true := decide_eq_true (by omega)
                clear hpl hbig hsz
                go_wp2_with fail
                refine HLN.out.mono ?_
                rintro e w' ⟨rfl, rfl⟩
                go_wp2_with fail
                go_ret
                exact ⟨by rw [HE2.out]; rfl, HB.out⟩
              · have d2 : decide ((4096 : Int) < ((L i0).length : Int) + nf) = false := decide_eq_false (by omega)
                have HBIG := Lib.hid hbig
                clear hpl hbig hsz
                go_wp2_with fail
                refine HLN.out.mono ?_
                rintro e w' ⟨rfl, rfl⟩
                go_wp2_with fail
                go_roundw
                case rel => exact ⟨i0 + 1, by omega, by go_num, HB.out, fun j hj => by
                  by_cases hji : j = i0
                  · subst hji; exact HBIG.out
                  · exact HNO.out j (by omega)⟩
                case measure => simp [intOf]; omega
        · obtain rfl : i0 = d := by omega
          have hiI : decide ((i0 : Int) < i0) = false := by simp
          have HE2 := Lib.hid (show checkE i0 m L l = 0 by
            rw [HE1.out, if_neg]
            rw [List.any_eq_true]
            rintro ⟨j, hj, hj2⟩
            exact hno j (by simpa using hj) (by simpa using hj2))
          have HB := Lib.hid hB
          clear hno hB
          go_wp2_with fail
          go_ret
          exact ⟨by rw [HE2.out]; rfl, HB.out⟩
end
end Go.Proofs.Ytdpgpcffhhdpiaa
