/- Copy of a dictionary. -/
import Derived.Test.YtiihnepfcgmghaaZA
namespace Go.Proofs.Ytiihnepfcgmghaa
open Go.RowKit Go.Maps Go.Shelf
set_option linter.unusedVariables false
set_option linter.unusedSimpArgs false
theorem MapQ.form {F : Nat → Prop} {w : World} {v : Value} {l : List ByteArray} (h : MapQ F w v l) : ∃ o, v = .map o := by
  rcases h with ⟨h, -⟩ | ⟨bm, h, -⟩
  · exact ⟨_, h⟩
  · exact ⟨_, h⟩
theorem MapQ.turn {F G : Nat → Prop} {w w' : World} {v : Value} {l : List ByteArray} (h : MapQ F w v l) (ht : Turn G w w') (hG : ∀ k, F k → ¬ G k) : MapQ F w' v l := by
  rcases h with h | ⟨bm, h1, h2, h3⟩
  · exact .inl h
  · exact .inr ⟨bm, h1, h2.turn ht (hG bm h3), h3⟩
theorem MapQ.below {F : Nat → Prop} {w w' : World} {v : Value} {l : List ByteArray} (h : MapQ F w v l) (hB : Below w.heap.size w w') : MapQ F w' v l := h.turn (G := fun _ => False) (Turn.of_below hB (fun k h1 h2 => by omega)) (fun k h1 h2 => h2)
/-- what a copy is made of makes a dictionary -/
theorem DictAt.made {w w2 : World} {l : List ByteArray} {v1 v2 : Value} (h1 : w2.ownsRow w.heap.size 9 1 v1 l.length (l.map Value.string)) (h2 : MapQ (fun k => w.heap.size ≤ k ∧ k < w2.heap.size) w2 v2 l) (hw : w.heap.size ≤ w2.heap.size) (hl : l.length ≤ 4096) (hs : ∀ s ∈ l, s.size ≤ 64) :
    DictAt (fun k => w.heap.size ≤ k ∧ k < (w2.alloc (Obj.cells #[v1, v2, .pointer none] 57)).heap.size) w2.heap.size (w2.alloc (Obj.cells #[v1, v2, .pointer none] 57)) l (.pointer none) := by
  refine ⟨⟨v1, v2, Blk.new w2 57 _, owns_lower (h1.alloc _) (Nat.zero_le _), fun g hg => ?_, ?_⟩, ⟨hw, by rw [alloc_size]; omega⟩, hl, hs⟩
  · have := h1.lt g hg
    exact ⟨this.1, by rw [alloc_size]; omega⟩
  · rcases h2 with h2 | ⟨bm, e, h2, h3, h4⟩
    · exact .inl h2
    · exact .inr ⟨bm, e, h2.alloc _, h3, by rw [alloc_size]; omega⟩
set_option maxRecDepth 100000 in
set_option maxHeartbeats 8000000 in
theorem DF.copy {w0 w : World} {F : Nat → Prop} {D : Nat} {l : List ByteArray} (h : DF w0 F D w l) :
    Calls Try.prog 20 #[ptrV D] w fun e w' => ∃ C, e = .returned (ptrV C) ∧ Below w.heap.size w w' ∧ DF w0 (fun j => w.heap.size ≤ j ∧ j < w'.heap.size) C w' l := by
  have hbel := h.below
  obtain ⟨vo, h⟩ := h.dic.any
  have hl := h.size
  have hsm := h.small
  obtain ⟨⟨vt, vm, hb, ho, -, hm⟩, -⟩ := h
  have hmq : MapQ F w vm l := hm
  have H32 := Lib.hid (fun (w' : World) (hB : Below w.heap.size w w') => clone32 0 vt l w' hl (owns_below ho hB (Nat.le_refl _)))
  have H33 := Lib.hid (fun (w' : World) (hB : Below w.heap.size w w') => clone33 F vm l w' (hmq.below hB))
  have HCC := Lib.hid (show ∀ w', Below w.heap.size w w' → w'.cell? ⟨D, 0, none⟩ = some vt ∧ w'.cell? ⟨D, 1, none⟩ = some vm from fun w' hB => ⟨Blk.cell (hb.below hB hb.lt) 0, Blk.cell (hb.below hB hb.lt) 1⟩)
  have HL := Lib.hid (And.intro hl (And.intro hsm hbel))
  obtain ⟨va, vc, rfl⟩ := owns_form ho
  obtain ⟨mo, rfl⟩ := hmq.form
  clear hm hmq hb ho hl hsm hbel
  unfold ptrV
  go_enter Try.func20, Try.ntmps20
  go_upto_region 3 with fail
  have T0 : Below w.heap.size w w.drew := Below.drewN (Below.refl _ w) 1
  refine hp_start (fun w' => Below w.heap.size w w') 13 rfl (by kernel_rfl) (fun c a a' w hd h => ⟨hd ▸ h.1, h.2⟩) (fun hP => ?_)
  rw [show Array.replicate 13 false = #[false, false, false, false, false, false, false, false, false, false, false, false, false] from rfl]
  obtain ⟨wz, hwz⟩ : ∃ wz, wz = w.drew := ⟨_, rfl⟩
  rw [← hwz] at T0 ⊢
  clear hwz
  refine hp_take hP 0 (some 5) _ rfl rfl (by kernel_rfl) rfl (fun w' hS' => by go_simp; first | done | rfl) T0 ?_
  simp only [Act.put, List.setIfInBounds_toArray, List.set_cons_zero, List.set_cons_succ]
  refine hp_take hP 1 (some 6) _ rfl rfl (by kernel_rfl) rfl (fun w' hS' => by have cc := (HCC.out w' hS').1; go_simp; first | done | rfl) T0 ?_
  simp only [Act.put, List.setIfInBounds_toArray, List.set_cons_zero, List.set_cons_succ]
  refine hp_take hP 2 (some 7) _ rfl rfl (by kernel_rfl) rfl (fun w' hS' => by have cc := (HCC.out w' hS').1; go_simp; first | done | rfl) T0 ?_
  simp only [Act.put, List.setIfInBounds_toArray, List.set_cons_zero, List.set_cons_succ]
  refine hp_take hP 3 (some 8) _ rfl rfl (by kernel_rfl) rfl (fun w' hS' => by have cc := (HCC.out w' hS').1; go_simp; first | done | rfl) T0 ?_
  simp only [Act.put, List.setIfInBounds_toArray, List.set_cons_zero, List.set_cons_succ]
  refine hp_take hP 5 (some 10) _ rfl rfl (by kernel_rfl) rfl (fun w' hS' => by go_simp; first | done | rfl) T0 ?_
  simp only [Act.put, List.setIfInBounds_toArray, List.set_cons_zero, List.set_cons_succ]
  refine hp_take hP 6 (some 11) _ rfl rfl (by kernel_rfl) rfl (fun w' hS' => by have cc := (HCC.out w' hS').2; go_simp; first | done | rfl) T0 ?_
  simp only [Act.put, List.setIfInBounds_toArray, List.set_cons_zero, List.set_cons_succ]
  refine hp_take hP 7 (some 12) _ rfl rfl (by kernel_rfl) rfl (fun w' hS' => by have cc := (HCC.out w' hS').2; go_simp; first | done | rfl) T0 ?_
  simp only [Act.put, List.setIfInBounds_toArray, List.set_cons_zero, List.set_cons_succ]
  refine hp_take hP 8 (some 13) _ rfl rfl (by kernel_rfl) rfl (fun w' hS' => by have cc := (HCC.out w' hS').2; go_simp; first | done | rfl) T0 ?_
  simp only [Act.put, List.setIfInBounds_toArray, List.set_cons_zero, List.set_cons_succ]
  refine hp_call 4 (some 9) rfl rfl (by kernel_rfl) rfl 32 #[.slice va l.length vc] (by go_simp; first | done | rfl) ?_
  refine (H32.out wz T0).mono ?_
  rintro e wa ⟨v1, rfl, ho1, hB1⟩
  have Ta := T0.trans (hB1.mono T0.size)
  refine ⟨v1, rfl, Ta, ?_⟩
  obtain ⟨a1, c1, rfl⟩ := owns_form ho1
  simp only [Act.put, List.setIfInBounds_toArray, List.set_cons_zero, List.set_cons_succ]
  refine hp_call 9 (some 14) rfl rfl (by kernel_rfl) rfl 33 #[.map mo] (by go_simp; first | done | rfl) ?_
  refine (H33.out wa Ta).mono ?_
  rintro e wb ⟨v2, rfl, hm2, hB2⟩
  have Tb := Ta.trans (hB2.mono Ta.size)
  refine ⟨v2, rfl, Tb, ?_⟩
  obtain ⟨o2, rfl⟩ := hm2.form
  simp only [Act.put, List.setIfInBounds_toArray, List.set_cons_zero, List.set_cons_succ]
  refine hp_take hP 10 (some 15) _ rfl rfl (by kernel_rfl) rfl (fun w' hS' => by go_simp; first | done | rfl) Tb ?_
  simp only [Act.put, List.setIfInBounds_toArray, List.set_cons_zero, List.set_cons_succ]
  have Tc := Below.al Tb (Obj.cells #[.slice a1 l.length c1, .map o2, .pointer none] 57)
  refine hp_val 11 (some 16) rfl rfl (by kernel_rfl) rfl (.pointer (some ⟨wb.heap.size, 0, none⟩)) (wb.alloc (Obj.cells #[.slice a1 l.length c1, .map o2, .pointer none] 57)) (by go_simp; first | done | rfl) Tc ?_
  simp only [Act.put, List.setIfInBounds_toArray, List.set_cons_zero, List.set_cons_succ]
  have hz : w.heap.size ≤ wz.heap.size := T0.size
  have hza : wz.heap.size ≤ wa.heap.size := hB1.size
  have hD := DictAt.made (w := w) (w2 := wb) (owns_lower (owns_below ho1 hB2 (Nat.le_refl _)) hz) (by
    rcases hm2 with hm2 | ⟨bm, e1, e2, e3⟩
    · exact .inl hm2
    · exact .inr ⟨bm, e1, e2, by omega, e2.lt⟩) Tb.size HL.out.1 HL.out.2.1
  have hF : DF w0 (fun j => w.heap.size ≤ j ∧ j < (wb.alloc (Obj.cells #[.slice a1 l.length c1, .map o2, .pointer none] 57)).heap.size) wb.heap.size (wb.alloc (Obj.cells #[.slice a1 l.length c1, .map o2, .pointer none] 57)) l := ⟨Below.call HL.out.2.2 Tc, fun k hk => ⟨Nat.le_trans HL.out.2.2.size hk.1, hk.2⟩, .inl hD⟩
  have HR := Lib.hid (And.intro Tc hF)
  obtain ⟨nb, hnb⟩ : ∃ nb, nb = wb.heap.size := ⟨_, rfl⟩
  rw [← hnb] at HR ⊢
  clear hD hF Tc hm2 ho1 hnb
  generalize wb.alloc (Obj.cells #[.slice a1 l.length c1, .map o2, .pointer none] 57) = wd at *
  refine hp_take hP 12 (some 2) _ rfl rfl (by kernel_rfl) rfl (fun w' hS' => by go_simp; first | done | rfl) HR.out.1 ?_
  simp only [Act.put, List.setIfInBounds_toArray, List.set_cons_zero, List.set_cons_succ]
  refine hk_done (by kernel_rfl) ?_
  clear hP
  go_wp2_with fail
  go_ret
  exact ⟨nb, rfl, HR.out.1, HR.out.2⟩
end Go.Proofs.Ytiihnepfcgmghaa
