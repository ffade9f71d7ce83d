/- make. -/
import Derived.Test.YtkndcofmhfeaoaaF
namespace Go.Proofs.Ytkndcofmhfeaoaa
open Go.RowKit Go.Maps
set_option linter.unusedVariables false
set_option linter.unusedSimpArgs false
theorem mk53 (w : World) : (Instr.makeMap 53 none).run Try.prog w = .ok (.map (some w.heap.size)) (w.alloc (.map #[] 0)) := by kernel_rfl
theorem mk54 (w : World) : (Instr.makeMap 54 none).run Try.prog w = .ok (.map (some w.heap.size)) (w.alloc (.map #[] 0)) := by kernel_rfl
theorem mk55 (w : World) : (Instr.makeMap 55 none).run Try.prog w = .ok (.map (some w.heap.size)) (w.alloc (.map #[] 0)) := by kernel_rfl
theorem eqm_some (bm : Nat) (w : World) : (binOp BinOp.eql 53 (.map (some bm)) (.map none)).run Try.prog w = .ok (.bool false) w := by kernel_rfl
theorem eqm_none (w : World) : (binOp BinOp.eql 53 (.map none) (.map none)).run Try.prog w = .ok (.bool true) w := by kernel_rfl
set_option maxRecDepth 100000 in
theorem make27_zero (F : Nat → Prop) (S : Nat) (w : World) (L : Lay) (hF : F S) (hlt : ∀ k, F k → k < w.heap.size) (hb : Blk w S 57 #[.int .i64 0, .map none, .map none, .map none]) :
    Calls Try.prog 27 #[.pointer (some ⟨S, 0, none⟩)] w fun e w' => e = .returned (.tuple #[]) ∧ Turn (fun k => k = S) w w' ∧ ∃ bt bl bo, SchedQ (Fn F w w') S w' zeroP L (.map (some bt)) (.map (some bl)) (.map (some bo)) := by
  have c1 : w.cell? ⟨S, 1, none⟩ = some (.map none) := Blk.cell hb 1
  have hE := eqm_none w
  have h53 := mk53
  have h54 := mk54
  have h55 := mk55
  have hb3 := ((hb.alloc (.map #[] 0)).alloc (.map #[] 0)).alloc (.map #[] 0)
  have f1 := Blk.free hb3 1
  have g1 := Blk.cell hb3 1
  have f2 := Blk.free hb3 2
  have g2 := Blk.cell hb3 2
  have f3 := Blk.free hb3 3
  have g3 := Blk.cell hb3 3
  clear hb3
  have HB := Lib.hid hb
  clear hb
  go_enter Try.func27, Try.ntmps27
  go_wp2_with fail
  first | go_end0 | refine bodyPost_ret (results_none rfl _ _ _) rfl ?_
  have hS := HB.out.lt
  have b3 := ((HB.out.alloc (.map #[] 0)).alloc (.map #[] 0)).alloc (.map #[] 0)
  have b4 := Blk.set (Blk.set (Blk.set b3 1 (.map (some w.heap.size))) 2 (.map (some (w.heap.size + 1)))) 3 (.map (some (w.heap.size + 2)))
  have s1 : (w.alloc (.map #[] 0)).heap.size = w.heap.size + 1 := by simp
  have s2 : ((w.alloc (.map #[] 0)).alloc (.map #[] 0)).heap.size = w.heap.size + 2 := by simp
  have p1 := (((((PMap.made w Try.prog 3).alloc (.map #[] 0)).alloc (.map #[] 0)).setCell (a := ⟨S, 1, none⟩) (by show w.heap.size ≠ S; omega) (.map (some w.heap.size))).setCell (a := ⟨S, 2, none⟩) (by show w.heap.size ≠ S; omega) (.map (some (w.heap.size + 1)))).setCell (a := ⟨S, 3, none⟩) (by show w.heap.size ≠ S; omega) (.map (some (w.heap.size + 2)))
  have p2 := ((((s1 ▸ PMap.made (w.alloc (.map #[] 0)) Try.prog 3).alloc (.map #[] 0)).setCell (a := ⟨S, 1, none⟩) (by show w.heap.size + 1 ≠ S; omega) (.map (some w.heap.size))).setCell (a := ⟨S, 2, none⟩) (by show w.heap.size + 1 ≠ S; omega) (.map (some (w.heap.size + 1)))).setCell (a := ⟨S, 3, none⟩) (by show w.heap.size + 1 ≠ S; omega) (.map (some (w.heap.size + 2)))
  have T := ((((((Turn.refl (fun k => k = S) w).alloc (.map #[] 0)).alloc (.map #[] 0)).alloc (.map #[] 0)).setCell (p := ⟨S, 1, none⟩) rfl (.map (some w.heap.size))).setCell (p := ⟨S, 2, none⟩) rfl (.map (some (w.heap.size + 1)))).setCell (p := ⟨S, 3, none⟩) rfl (.map (some (w.heap.size + 2)))
  have p3 := (((s2 ▸ OMap.made ((w.alloc (.map #[] 0)).alloc (.map #[] 0))).setCell (a := ⟨S, 1, none⟩) (by show w.heap.size + 2 ≠ S; omega) (.map (some w.heap.size))).setCell (a := ⟨S, 2, none⟩) (by show w.heap.size + 2 ≠ S; omega) (.map (some (w.heap.size + 1)))).setCell (a := ⟨S, 3, none⟩) (by show w.heap.size + 2 ≠ S; omega) (.map (some (w.heap.size + 2)))
  have hz := p3.lt
  have up : ∀ (b : Nat) (w' : World), w.heap.size ≤ b → b < w'.heap.size → Fn F w w' b := fun _ _ h1 h2 => .inr ⟨h1, h2⟩
  exact ⟨rfl, T, w.heap.size, w.heap.size + 1, w.heap.size + 2, (fun k hk => by rcases hk with hk | hk; exact Nat.lt_of_lt_of_le (hlt k hk) T.size; exact hk.2), .inl hF, b4,
    .inr ⟨_, _, _, rfl, rfl, rfl, p1, p2, p3, up _ _ (Nat.le_refl _) p1.lt, up _ _ (by omega) p2.lt, up _ _ (by omega) p3.lt, by omega, by omega, by omega⟩, (fun p h => by cases h), (fun p h => by cases h), (fun p h => by cases h), (fun p h => by cases h), (fun p h => by cases h)⟩
set_option maxRecDepth 100000 in
theorem make27 {F : Nat → Prop} {S : Nat} {w : World} {s : SchedP} {L : Lay} {vt vl vo : Value} (h : SchedQ F S w s L vt vl vo) :
    Calls Try.prog 27 #[.pointer (some ⟨S, 0, none⟩)] w fun e w' => e = .returned (.tuple #[]) ∧ Turn (fun k => k = S) w w' ∧ ∃ bt bl bo, SchedQ (Fn F w w') S w' s L (.map (some bt)) (.map (some bl)) (.map (some bo)) := by
  rcases h.maps with ⟨rfl, rfl, rfl, rfl⟩ | ⟨bt, bl, bo, rfl, rfl, rfl, m⟩
  · exact make27_zero F S w L h.root h.lt h.blk
  · have c1 : w.cell? ⟨S, 1, none⟩ = some (.map (some bt)) := Blk.cell h.blk 1
    have hE := eqm_some bt w
    have H := Lib.hid h
    clear m h
    go_enter Try.func27, Try.ntmps27
    go_wp2_with fail
    first | go_end0 | refine bodyPost_ret (results_none rfl _ _ _) rfl ?_
    exact ⟨rfl, Turn.refl _ _, bt, bl, bo, H.out.grow w H.out.lt⟩
end Go.Proofs.Ytkndcofmhfeaoaa
