/- sound: the facts that may be, 64 of them at most. -/
import Derived.Test.YtdpgpcffhhdpiaaY
namespace Go.Proofs.Ytdpgpcffhhdpiaa
open Go.RowKit Go.Maps
set_option linter.unusedVariables false
set_option linter.unusedSimpArgs false

def goodS (f : FactT) : Bool := decide (2 ≤ f.dims.length) && decide (1 ≤ f.meas.length) && decide ((f.dims.getD 0 ByteArray.empty).size ≤ 64) && decide ((f.dims.getD 1 ByteArray.empty).size ≤ 64)
def cutS (f : FactT) : FactT := ⟨f.dims.take 2, f.meas.take 1⟩
def soundL (l : List FactT) : List FactT := ((l.filter goodS).map cutS).take 64
theorem soundL_le (l : List FactT) : (soundL l).length ≤ 64 := by unfold soundL; rw [List.length_take]; omega
theorem sound_step {l : List FactT} {k : Nat} {f : FactT} (hf : l[k]? = some f) (h : (soundL (l.take k)).length < 64) : soundL (l.take (k + 1)) = if goodS f then soundL (l.take k) ++ [cutS f] else soundL (l.take k) := by
  unfold soundL at *
  rw [List.length_take] at h
  have e : l.take (k + 1) = l.take k ++ [f] := by rw [List.take_add_one, hf]; rfl
  rw [e, List.filter_append, List.map_append]
  generalize ((l.take k).filter goodS).map cutS = X at *
  by_cases hg : goodS f = true
  · rw [if_pos hg]
    simp only [List.filter_cons, hg, if_true, List.filter_nil, List.map_cons, List.map_nil]
    rw [List.take_of_length_le (by rw [List.length_append, List.length_singleton]; omega), List.take_of_length_le (by omega)]
  · rw [if_neg hg]
    simp [List.filter_cons, hg]
theorem sound_full {l : List FactT} {k : Nat} (h : (soundL (l.take k)).length = 64) : soundL l = soundL (l.take k) := by
  unfold soundL at *
  conv => lhs; rw [← List.take_append_drop k l, List.filter_append, List.map_append]
  rw [List.length_take] at h
  rw [List.take_append_of_le_length (by omega)]
theorem Row.take {B : Nat} {w : World} {a : Option Addr} {n cap size m : Nat} {xs : List Value} (h : Row B w (.slice a n cap) n size xs) (hm : m ≤ n) : Row B w (.slice a m cap) m size (xs.take (m * size)) := by
  obtain ⟨hl, a', cap', hv, h1, h2, h3⟩ := h
  injection hv with e1 e2 e3
  subst e1 e3
  have hle : m * size ≤ n * size := Nat.mul_le_mul_right _ hm
  refine ⟨by rw [List.length_take]; omega, a, cap, rfl, by omega, h2, fun h0 => ?_⟩
  obtain ⟨b, off, ha, hb, hc⟩ := h3 (by omega)
  refine ⟨b, off, ha, hb, fun j hj => ?_⟩
  rw [hc j (by omega), List.getD_eq_getElem?_getD, List.getD_eq_getElem?_getD, List.getElem?_take_of_lt hj]
theorem RowS.take {B : Nat} {w : World} {a : Option Addr} {n cap : Nat} {l : List ByteArray} (h : RowS B w (.slice a n cap) l) (hn : l.length = n) {m : Nat} (hm : m ≤ n) : RowS B w (.slice a m cap) (l.take m) := by
  unfold RowS at *
  rw [hn] at h
  have := Row.take h hm
  rw [Nat.mul_one, ← List.map_take] at this
  rw [List.length_take, Nat.min_eq_left (by omega)]
  exact this
theorem RowI.take {B : Nat} {w : World} {a : Option Addr} {n cap : Nat} {l : List Int} (h : RowI B w (.slice a n cap) l) (hn : l.length = n) {m : Nat} (hm : m ≤ n) : RowI B w (.slice a m cap) (l.take m) := by
  unfold RowI at *
  rw [hn] at h
  have := Row.take h hm
  rw [Nat.mul_one, ← List.map_take] at this
  rw [List.length_take, Nat.min_eq_left (by omega)]
  exact this
/-- the facts of a list in new memory, whose texts and numbers may lie in what was there -/
structure SoundAt (F : Nat → Prop) (w : World) (v : Value) (r : List FactT) (ps : List (Value × Value)) (wr : World) : Prop where
  len : ps.length = r.length
  own : wr.ownsRow w.heap.size 41 2 v r.length (ps.flatMap (fun p => [p.1, p.2]))
  below : Below w.heap.size w wr
  els : ∀ (j : Nat) (f : FactT) (p : Value × Value), r[j]? = some f → ps[j]? = some p → ∀ w', Turn F w w' → RowS w'.heap.size w' p.1 f.dims ∧ RowI w'.heap.size w' p.2 f.meas
theorem SoundAt.push {F : Nat → Prop} {w wr w5 : World} {v v' vd vm : Value} {r : List FactT} {f : FactT} {ps : List (Value × Value)} (h : SoundAt F w v r ps wr) (hown : w5.ownsRow w.heap.size 41 2 v' (r.length + 1) (ps.flatMap (fun p => [p.1, p.2]) ++ [vd, vm])) (hB : Below w.heap.size w w5)
    (he : ∀ w', Turn F w w' → RowS w'.heap.size w' vd f.dims ∧ RowI w'.heap.size w' vm f.meas) : SoundAt F w v' (r ++ [f]) (ps ++ [(vd, vm)]) w5 := by
  refine ⟨by simp [h.len], by rw [List.length_append]; simpa using hown, hB, fun j g p hg hp => ?_⟩
  by_cases hj : j < r.length
  · rw [List.getElem?_append_left hj] at hg
    rw [List.getElem?_append_left (by rw [h.len]; exact hj)] at hp
    exact h.els j g p hg hp
  · have hj2 : j = r.length := by have := (List.getElem?_eq_some_iff.1 hg).1; simp at this; omega
    subst hj2
    rw [List.getElem?_append_right (Nat.le_refl _)] at hg
    rw [List.getElem?_append_right (by rw [h.len]; exact Nat.le_refl _)] at hp
    simp [h.len] at hg hp
    subst hg hp
    exact he
theorem SoundAt.rowK {F : Nat → Prop} {w wr : World} {v : Value} {r : List FactT} {ps : List (Value × Value)} (h : SoundAt F w v r ps wr) : RowK (fun k => F k ∧ k < w.heap.size) wr v r := by
  refine ⟨ps, h.len, fun w' ht => ⟨?_, fun k f p hf hp => h.els k f p hf hp w' ((Turn.of_below (F := F) h.below (fun k h1 h2 => by omega)).trans (ht.mono (fun k _ hk => hk.1)))⟩⟩
  have := owns_turn h.own ht (fun g hg hG => by have := (h.own.lt g hg).1; omega)
  rw [← h.len] at this
  exact RowR.of_owns (fun _ _ => rfl) this

set_option maxRecDepth 100000 in
set_option maxHeartbeats 8000000 in
theorem sound11 (F : Nat → Prop) (v : Value) (l : List FactT) (w : World) (hr : RowK F w v l) (hs : ∀ f ∈ l, shortF f) : Calls Try.prog 11 #[v] w fun e w' => ∃ v' n c, e = .returned (.slice v' n c) ∧ Below w.heap.size w w' ∧ RowK (fun k => F k ∧ k < w.heap.size) w' (.slice v' n c) (soundL l) := by
  obtain ⟨i0, hi0, hz0, hz1, hz2⟩ := info_parts info41'
  obtain ⟨qs, hqs, hrk⟩ := hr
  obtain ⟨⟨a, cap, rfl, hcap, hmax, -⟩, -⟩ := hrk w (Turn.refl F w)
  rw [hqs] at hcap
  rw [hqs] at hrk
  rw [hqs]
  have HRK := Lib.hid hrk
  have HQS := Lib.hid hqs
  have HSH := Lib.hid hs
  clear hrk hqs hs
  go_enter Try.func11, Try.ntmps11
  go_wp2_with fail
  go_loopw [3, 4] (fun v i wr => ∃ (k : Nat) (ps : List (Value × Value)), k ≤ l.length ∧ i = .int .i64 k ∧ SoundAt F w v (soundL (l.take k)) ps wr) (fun _ i _ => l.length - (intOf i).toNat)
  case atStart => exact ⟨0, [], by omega, rfl, ⟨rfl, World.ownsRow_nil _ _ _ _, Below.refl _ _, fun j f p hf => by simp [soundL] at hf⟩⟩
  case round =>
    obtain ⟨k, ps, hk, rfl, hS⟩ := hrel
    have hle := soundL_le (l.take k)
    obtain ⟨av, kv, hv⟩ := owns_form hS.own
    subst hv
    obtain ⟨N, hN⟩ : ∃ N, N = (soundL (l.take k)).length := ⟨_, rfl⟩
    rw [← hN] at hle hS ⊢
    have HN := Lib.hid hN
    have HS := Lib.hid hS
    by_cases hlt : k < l.length
    · by_cases h64 : N < 64
      · obtain ⟨⟨vd, vm⟩, hget⟩ : ∃ p, qs[k]? = some p := ⟨_, List.getElem?_eq_getElem (by rw [HQS.out]; exact hlt)⟩
        obtain ⟨f, hgetf⟩ : ∃ f, l[k]? = some f := ⟨_, List.getElem?_eq_getElem hlt⟩
        have HST := Lib.hid (sound_step hgetf (by rw [← hN]; exact h64))
        have hshort := HSH.out f (List.mem_of_getElem? hgetf)
        have HEL := Lib.hid (show ∀ w', Turn F w w' → RowS w'.heap.size w' vd f.dims ∧ RowI w'.heap.size w' vm f.meas from fun w' ht => (HRK.out w' ht).2 k f _ hgetf hget)
        have hT0 : Turn F w wr := Turn.of_below hS.below (fun k h1 h2 => by omega)
        obtain ⟨ad, cd, hvd, hd1, hd2, -⟩ := (HEL.out wr hT0).1.open
        obtain ⟨am, cm, hvm, hm1, hm2, -⟩ := (HEL.out wr hT0).2.open
        subst hvd hvm
        have hcell : ∀ w', Turn F w w' → ∃ b off, a = some ⟨b, off, none⟩ ∧ w'.cell? ⟨b, off + k * 2, none⟩ = some (.slice ad f.dims.length cd) ∧ w'.cell? ⟨b, off + k * 2 + 1, none⟩ = some (.slice am f.meas.length cm) := fun w' ht => by
          obtain ⟨⟨a', c', hv', -, -, hcl⟩, -⟩ := HRK.out w' ht
          injection hv' with e1 e2 e3
          obtain ⟨b, off, ha, -, hc⟩ := hcl (by rw [HQS.out]; omega)
          exact ⟨b, off, e1.trans ha, by have := hc k _ hget 0 (by omega); simpa using this, by have := hc k _ hget 1 (by omega); simpa using this⟩
        have htext : ∀ j, j < f.dims.length → ∃ b off, ad = some ⟨b, off, none⟩ ∧ wr.cell? ⟨b, off + j, none⟩ = some (.string (f.dims.getD j ByteArray.empty)) := fun j hj => by
          obtain ⟨a', c', hv', -, -, hcl⟩ := (HEL.out wr hT0).1.open
          injection hv' with e1 e2 e3
          obtain ⟨b, off, ha, -, hc⟩ := hcl (by omega)
          exact ⟨b, off, e1.trans ha, hc j hj⟩
        obtain ⟨b, off, rfl, k0, k1⟩ := hcell wr hT0
        have HCC := Lib.hid (show ∀ w', Below w.heap.size w w' → w'.cell? ⟨b, off + k * 2, none⟩ = some (.slice ad f.dims.length cd) ∧ w'.cell? ⟨b, off + k * 2 + 1, none⟩ = some (.slice am f.meas.length cm) from fun w' hb => by
          obtain ⟨b2, off2, h1, h2, h3⟩ := hcell w' (Turn.of_below hb (fun k h1 h2 => by omega))
          injection h1 with h1
          injection h1 with h1 h4 h5
          subst h1 h4
          exact ⟨h2, h3⟩)
        have HTX := Lib.hid htext
        have HP := Lib.hid (And.intro (show wr.ownsRow w.heap.size 41 2 (.slice av N kv) N (ps.flatMap (fun p => [p.1, p.2])) by have := hS.own; rw [← hN] at this; exact this) hS.below)
        have hkI : decide ((k : Int) < (l.length : Int)) = true := decide_eq_true (by omega)
        have hkN : decide ((N : Int) < 64) = true := decide_eq_true (by omega)
        obtain ⟨D, hD⟩ : ∃ D, D = f.dims.length := ⟨_, rfl⟩
        obtain ⟨M, hM⟩ : ∃ M, M = f.meas.length := ⟨_, rfl⟩
        have HDM := Lib.hid (And.intro hD hM)
        rw [← hD] at HCC HTX k0 hd1
        rw [← hM] at HCC k1 hm1
        clear hcell htext hS hget hgetf hN hT0 hD hM
        have HG := Lib.hid (show goodS f = (decide (2 ≤ D) && decide (1 ≤ M) && decide ((f.dims.getD 0 ByteArray.empty).size ≤ 64) && decide ((f.dims.getD 1 ByteArray.empty).size ≤ 64)) by rw [HDM.out.1, HDM.out.2]; rfl)
        by_cases hg : goodS f = true
        · have hgg := HG.out
          rw [hg] at hgg
          simp only [Bool.true_eq, Bool.and_eq_true, decide_eq_true_eq] at hgg
          obtain ⟨⟨⟨g1, g2⟩, g3⟩, g4⟩ := hgg
          obtain ⟨bt, ot, rfl, t0⟩ := HTX.out 0 (by omega)
          obtain ⟨bt2, ot2, ht2, t1⟩ := HTX.out 1 (by omega)
          injection ht2 with ht2
          injection ht2 with ht2 ht3 _
          subst ht2 ht3
          rw [Nat.add_zero] at t0
          have HGG := Lib.hid hg
          generalize f.dims.getD 0 ByteArray.empty = x0 at t0 g3
          generalize f.dims.getD 1 ByteArray.empty = x1 at t1 g4
          clear HTX hg
          go_upto_region 6 with fail
          clear k0 k1 t0 t1
          have hcd2 : (2 : Int) ≤ (cd : Int) := by omega
          have hcm2 : (1 : Int) ≤ (cm : Int) := by omega
          refine hp_start (fun w' => Below w.heap.size w w') 17 rfl (by kernel_rfl) (fun c a a' w hd h => ⟨hd ▸ h.1, h.2⟩) (fun hP => ?_)
          rw [show Array.replicate 17 false = #[false, false, false, false, false, false, false, false, false, false, false, false, false, false, false, false, false] from rfl]
          have T0 : Below w.heap.size w wr.drew := HP.out.2.drew
          have HP0 := HP
          obtain ⟨wz, hwz⟩ : ∃ wz, wz = wr.drew := ⟨_, rfl⟩
          have HP := Lib.hid (And.intro (show wz.ownsRow w.heap.size 41 2 (.slice av N kv) N (ps.flatMap (fun p => [p.1, p.2])) by rw [hwz]; exact HP0.out.1) trivial)
          rw [← hwz] at T0 ⊢
          clear hwz
          refine hp_take hP 0 (some 54) _ rfl rfl (by kernel_rfl) rfl (fun w' hS' => by go_simp; rfl) T0 ?_
          simp only [Act.put, List.setIfInBounds_toArray, List.set_cons_zero, List.set_cons_succ]
          refine hp_take hP 1 (some 55) _ rfl rfl (by kernel_rfl) rfl (fun w' hS' => by go_simp; rfl) T0 ?_
          simp only [Act.put, List.setIfInBounds_toArray, List.set_cons_zero, List.set_cons_succ]
          refine hp_take hP 2 (some 56) _ rfl rfl (by kernel_rfl) rfl (fun w' hS' => by go_simp; rfl) T0 ?_
          simp only [Act.put, List.setIfInBounds_toArray, List.set_cons_zero, List.set_cons_succ]
          refine hp_take hP 3 (some 57) _ rfl rfl (by kernel_rfl) rfl (fun w' hS' => by go_simp; rfl) T0 ?_
          simp only [Act.put, List.setIfInBounds_toArray, List.set_cons_zero, List.set_cons_succ]
          refine hp_take hP 4 (some 58) _ rfl rfl (by kernel_rfl) rfl (fun w' hS' => by go_simp; rfl) T0 ?_
          simp only [Act.put, List.setIfInBounds_toArray, List.set_cons_zero, List.set_cons_succ]
          refine hp_take hP 5 (some 59) _ rfl rfl (by kernel_rfl) rfl (fun w' hS' => by have cc := (HCC.out w' hS').1; go_simp; first | done | rfl) T0 ?_
          simp only [Act.put, List.setIfInBounds_toArray, List.set_cons_zero, List.set_cons_succ]
          refine hp_take hP 6 (some 60) _ rfl rfl (by kernel_rfl) rfl (fun w' hS' => by go_simp; rfl) T0 ?_
          simp only [Act.put, List.setIfInBounds_toArray, List.set_cons_zero, List.set_cons_succ]
          refine hp_take hP 7 (some 61) _ rfl rfl (by kernel_rfl) rfl (fun w' hS' => by go_simp; rfl) T0 ?_
          simp only [Act.put, List.setIfInBounds_toArray, List.set_cons_zero, List.set_cons_succ]
          refine hp_take hP 8 (some 62) _ rfl rfl (by kernel_rfl) rfl (fun w' hS' => by go_simp; rfl) T0 ?_
          simp only [Act.put, List.setIfInBounds_toArray, List.set_cons_zero, List.set_cons_succ]
          refine hp_take hP 9 (some 63) _ rfl rfl (by kernel_rfl) rfl (fun w' hS' => by go_simp; rfl) T0 ?_
          simp only [Act.put, List.setIfInBounds_toArray, List.set_cons_zero, List.set_cons_succ]
          refine hp_take hP 10 (some 64) _ rfl rfl (by kernel_rfl) rfl (fun w' hS' => by go_simp; rfl) T0 ?_
          simp only [Act.put, List.setIfInBounds_toArray, List.set_cons_zero, List.set_cons_succ]
          refine hp_take hP 11 (some 65) _ rfl rfl (by kernel_rfl) rfl (fun w' hS' => by have cc := (HCC.out w' hS').2; go_simp; first | done | rfl) T0 ?_
          simp only [Act.put, List.setIfInBounds_toArray, List.set_cons_zero, List.set_cons_succ]
          refine hp_take hP 12 (some 66) _ rfl rfl (by kernel_rfl) rfl (fun w' hS' => by go_simp; rfl) T0 ?_
          simp only [Act.put, List.setIfInBounds_toArray, List.set_cons_zero, List.set_cons_succ]
          refine hp_take hP 13 (some 67) _ rfl rfl (by kernel_rfl) rfl (fun w' hS' => by go_simp; rfl) T0 ?_
          simp only [Act.put, List.setIfInBounds_toArray, List.set_cons_zero, List.set_cons_succ]
          refine hp_val 14 (some 68) rfl rfl (by kernel_rfl) rfl (.slice (some ⟨wz.heap.size, 0, none⟩) 1 1) (wz.alloc (Obj.cells #[.slice (some ⟨bt, ot, none⟩) 2 cd, .slice am 1 cm] 41)) (by go_simp; first | done | rfl) (Below.al T0 _) ?_
          have T1 := Below.al T0 (Obj.cells #[.slice (some ⟨bt, ot, none⟩) 2 cd, .slice am 1 cm] 41)
          simp only [Act.put, List.setIfInBounds_toArray, List.set_cons_zero, List.set_cons_succ]
          refine hp_append 15 (some 69) rfl rfl (by kernel_rfl) rfl _ _ 30 rfl w.heap.size 41 i0 _ 2 48 Try.underlying30 hi0 hz0 hz1 hz2 rfl (by decide) (.slice av N kv) N (ps.flatMap (fun p => [p.1, p.2])) (by go_simp; first | done | rfl) (HP.out.1.alloc _) ⟨wz.heap.size, 0, none⟩ 1 1 [.slice (some ⟨bt, ot, none⟩) 2 cd, .slice am 1 cm] (by go_simp; first | done | rfl) rfl (cell_two_new wz 41 _ _) (by intro u hu; simp at hu; rcases hu with rfl | rfl <;> rfl) (by unfold maxLen; omega) (by omega) (by rw [alloc_size]; have := T0.size; omega) ?_
          intro v' w5 hown5 hgrow hat
          obtain ⟨v5a, v5c, hv5⟩ := owns_form hown5
          subst hv5
          have hB5 : Below w.heap.size w w5 := T0.trans ((((Turn.refl (fun g => (Value.slice av N kv).ownBlock = some g) wz).alloc (Obj.cells #[.slice (some ⟨bt, ot, none⟩) 2 cd, .slice am 1 cm] 41)).grown hgrow (fun g hg => hg)).below T0.size (fun k hk hg => by have := (HP.out.1.lt k hg).1; omega))
          refine ⟨hB5, ?_⟩
          have T2 := hB5
          simp only [Act.put, List.setIfInBounds_toArray, List.set_cons_zero, List.set_cons_succ]
          refine hp_take hP 16 (some 3) _ rfl rfl (by kernel_rfl) rfl (fun w' hS' => by go_simp; rfl) T2 ?_
          simp only [Act.put, List.setIfInBounds_toArray, List.set_cons_zero, List.set_cons_succ]
          refine hk_done (by kernel_rfl) ?_
          clear hP
          have hpush := HS.out.push (f := cutS f) (by rw [← HN.out]; exact hown5) hB5 (fun w' ht => by
            obtain ⟨h1, h2⟩ := HEL.out w' ht
            rw [← HDM.out.1] at h1
            rw [← HDM.out.2] at h2
            exact ⟨RowS.take h1 HDM.out.1.symm (by omega), RowI.take h2 HDM.out.2.symm (by omega)⟩)
          have HR := Lib.hid hpush
          clear hown5 hgrow hat hB5 hpush T0 T1 T2
          go_wp2_with fail
          go_roundw
          case rel => exact ⟨k + 1, _, by omega, by go_num, by rw [HST.out, if_pos HGG.out]; exact HR.out⟩
          case measure => simp [intOf]; omega
        · have hg0 : goodS f = false := by simpa using hg
          have HST2 := Lib.hid (show soundL (l.take (k + 1)) = soundL (l.take k) by rw [HST.out, if_neg hg])
          have hgg := HG.out
          rw [hg0] at hgg
          clear hg hg0 HG HST
          have hnot : ¬ (2 ≤ D ∧ 1 ≤ M ∧ (f.dims.getD 0 ByteArray.empty).size ≤ 64 ∧ (f.dims.getD 1 ByteArray.empty).size ≤ 64) := fun ⟨a1, a2, a3, a4⟩ => by
            rw [decide_eq_true a1, decide_eq_true a2, decide_eq_true a3, decide_eq_true a4] at hgg
            cases hgg
          clear hgg
          have HNT := Lib.hid hnot
          have HRO := Lib.hid (show SoundAt F w (.slice av N kv) (soundL (l.take (k + 1))) ps wr by rw [HST2.out]; exact HS.out)
          clear hnot
          by_cases g1 : 2 ≤ D
          · obtain ⟨bt, ot, rfl, t0⟩ := HTX.out 0 (by omega)
            obtain ⟨bt2, ot2, ht2, t1⟩ := HTX.out 1 (by omega)
            injection ht2 with ht2
            injection ht2 with ht2 ht3 _
            subst ht2 ht3
            rw [Nat.add_zero] at t0
            by_cases g2 : 1 ≤ M
            · have hs0 : (f.dims.getD 0 ByteArray.empty).size ≤ 9223372036854775807 := hshort _ (getD_mem (by have := HDM.out.1; omega))
              have hs1 : (f.dims.getD 1 ByteArray.empty).size ≤ 9223372036854775807 := hshort _ (getD_mem (by have := HDM.out.1; omega))
              have hnt2 : ¬ ((f.dims.getD 0 ByteArray.empty).size ≤ 64 ∧ (f.dims.getD 1 ByteArray.empty).size ≤ 64) := fun h => HNT.out ⟨g1, g2, h⟩
              generalize f.dims.getD 0 ByteArray.empty = x0 at t0 hs0 hnt2
              generalize f.dims.getD 1 ByteArray.empty = x1 at t1 hs1 hnt2
              have HN2 := Lib.hid hnt2
              clear HTX HNT hnt2
              by_cases g3 : x0.size ≤ 64
              · have g4 : 64 < x1.size := by have := HN2.out; omega
                go_wp2_with fail
                go_roundw
                case rel => exact ⟨k + 1, _, by omega, by go_num, HRO.out⟩
                case measure => simp [intOf]; omega
              · have g3' : 64 < x0.size := by omega
                go_wp2_with fail
                go_roundw
                case rel => exact ⟨k + 1, _, by omega, by go_num, HRO.out⟩
                case measure => simp [intOf]; omega
            · have g2' : M = 0 := by omega
              clear HTX HNT
              go_wp2_with fail
              go_roundw
              case rel => exact ⟨k + 1, _, by omega, by go_num, HRO.out⟩
              case measure => simp [intOf]; omega
          · have g1' : D < 2 := by omega
            clear HTX HNT
            go_wp2_with fail
            go_roundw
            case rel => exact ⟨k + 1, _, by omega, by go_num, HRO.out⟩
            case measure => simp [intOf]; omega
      · have h64' : N = 64 := by omega
        have HEQ := Lib.hid (sound_full (l := l) (k := k) (by rw [← hN]; exact h64'))
        have hkI : decide ((k : Int) < (l.length : Int)) = true := decide_eq_true (by omega)
        subst h64'
        clear hN hS
        go_wp2_with fail
        go_ret
        refine ⟨_, _, _, rfl, HS.out.below, ?_⟩
        rw [HEQ.out]
        have := HS.out.rowK
        exact this
    · obtain rfl : k = l.length := by omega
      have HEQ := Lib.hid (show soundL l = soundL (l.take l.length) by rw [List.take_length])
      clear hN hS
      go_wp2_with fail
      go_ret
      refine ⟨_, _, _, rfl, HS.out.below, ?_⟩
      rw [HEQ.out]
      exact HS.out.rowK
end Go.Proofs.Ytdpgpcffhhdpiaa
