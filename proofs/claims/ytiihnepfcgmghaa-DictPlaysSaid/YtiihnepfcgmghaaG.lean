/- The order made once. -/
import Derived.Test.YtiihnepfcgmghaaF
namespace Go.Proofs.Ytiihnepfcgmghaa
open Go.RowKit Go.Maps
set_option linter.unusedVariables false
set_option linter.unusedSimpArgs false

theorem oc_set0 (d m x : Int) (a b : Value) : (oc d m a b).setIfInBounds 0 (.int .u32 x) = oc x m a b := rfl
theorem oc_set1 (d m x : Int) (a b : Value) : (oc d m a b).setIfInBounds 1 (.int .i32 x) = oc d x a b := rfl
theorem OrdQ.ne1 {w : World} {O : Nat} {d m : Int} {l : List ByteArray} {s : List Nat} {r : List Int} {bs br : Nat} (h : OrdQ w O d m l s r bs br) : bs ≠ O ∧ br ≠ O := ⟨Blk.ne_type h.num h.cells (by decide), Blk.ne_type h.rnk h.cells (by decide)⟩
theorem OrdQ.turn {G : Nat → Prop} {w w' : World} {O : Nat} {d m : Int} {l : List ByteArray} {s : List Nat} {r : List Int} {bs br : Nat} (h : OrdQ w O d m l s r bs br) (ht : Turn G w w') (h1 : ¬ G O) (h2 : ¬ G bs) (h3 : ¬ G br) : OrdQ w' O d m l s r bs br :=
  { h with cells := h.cells.turn ht h1, num := h.num.turn ht h2, rnk := h.rnk.turn ht h3 }
theorem OrdQ.set0 {w : World} {O : Nat} {d m : Int} {l : List ByteArray} {s : List Nat} {r : List Int} {bs br : Nat} (h : OrdQ w O d m l s r bs br) (x : Int) : OrdQ (w.setCell ⟨O, 0, none⟩ (.int .u32 x)) O x m l s r bs br :=
  { h with cells := by have := Blk.set h.cells 0 (.int .u32 x); rw [oc_set0] at this; exact this
           num := Blk.other h.num (fun e => h.ne1.1 e.symm) _
           rnk := Blk.other h.rnk (fun e => h.ne1.2 e.symm) _ }
theorem OrdQ.set1 {w : World} {O : Nat} {d m : Int} {l : List ByteArray} {s : List Nat} {r : List Int} {bs br : Nat} (h : OrdQ w O d m l s r bs br) (x : Int) : OrdQ (w.setCell ⟨O, 1, none⟩ (.int .i32 x)) O d x l s r bs br :=
  { h with cells := by have := Blk.set h.cells 1 (.int .i32 x); rw [oc_set1] at this; exact this
           num := Blk.other h.num (fun e => h.ne1.1 e.symm) _
           rnk := Blk.other h.rnk (fun e => h.ne1.2 e.symm) _ }
theorem OrdQ.drew {w : World} {O : Nat} {d m : Int} {l : List ByteArray} {s : List Nat} {r : List Int} {bs br : Nat} (h : OrdQ w O d m l s r bs br) : OrdQ w.drew O d m l s r bs br := { h with cells := h.cells, num := h.num, rnk := h.rnk }

set_option maxRecDepth 100000 in
set_option maxHeartbeats 4000000 in
theorem slow42 (x1 x3 D O : Nat) (l : List ByteArray) (vt vm vo : Value) (w : World) (h1 : Blk w x1 23 #[ptrV D]) (h3 : Blk w x3 55 #[ptrV O]) (hO : Blk w O 73 (oc 0 0 (.slice none 0 0) (.slice none 0 0))) (hD : Blk w D 57 #[vt, vm, vo]) (ho : w.ownsRow 0 9 1 vt l.length (l.map Value.string)) (hl : l.length ≤ 4096) :
    Calls Try.prog 42 #[ptrV O, .func (Fn.func 35) #[] #[ptrV x1, ptrV x3]] w fun e w' => e = .returned (.tuple #[]) ∧ Turn (fun k => k = O) w w' ∧ ∃ s r bs br, OrdQ w' O 1 0 l s r bs br ∧ w.heap.size ≤ bs ∧ w.heap.size ≤ br := by
  have hnot : ∀ (x : Bool) (w : World), (Op.unary .not (.bool x)).run Try.prog w = .ok (.bool (!x)) w := fun _ _ => rfl
  have hO1 := Blk.set hO 1 (.int .i32 1)
  rw [oc_set1] at hO1
  have hT1 := (Turn.refl (fun k => k = O) w).setCell (p := ⟨O, 1, none⟩) rfl (.int .i32 1)
  have n1 : x1 ≠ O := Blk.ne_type h1 hO (by decide)
  have n3 : x3 ≠ O := Blk.ne_type h3 hO (by decide)
  have nD : D ≠ O := Blk.ne_type hD hO (by decide)
  have k1 := h1.turn hT1 n1
  have k3 := h3.turn hT1 n3
  have kD := hD.turn hT1 nD
  have ko : (w.setCell ⟨O, 1, none⟩ (.int .i32 1)).ownsRow 0 9 1 vt l.length (l.map Value.string) := ownsRow_setCell_other ho (a := ⟨O, 1, none⟩) (fun e => owns_ne ho hO (by decide) O e rfl) _
  have HL := Lib.hid (lock46 ⟨O, 1, none⟩ w (Blk.cell hO 1) (Blk.free hO 1))
  obtain ⟨w1, hw1⟩ : ∃ w1, w1 = w.setCell ⟨O, 1, none⟩ (.int .i32 1) := ⟨_, rfl⟩
  rw [← hw1] at hO1 hT1 k1 k3 kD ko HL
  have hs1 : w1.heap.size = w.heap.size := by rw [hw1]; simp [World.setCell]
  have HLD := Lib.hid (load41 ⟨O, 0, none⟩ 0 w1 (Blk.cell hO1 0))
  have HF := Lib.hid (fill35 x1 x3 D O l vt vm vo w1 k1 k3 hO1 kD ko hl)
  have HT1 := Lib.hid (And.intro hT1 hs1)
  unfold ptrV at *
  clear hO1 hT1 k1 k3 kD ko hw1 h1 h3 hO hD ho hs1 n1 n3 nD
  go_enter_defers Try.func42, Try.ntmps42
  go_wp2_with fail
  refine HL.out.mono ?_
  rintro e w' ⟨rfl, rfl⟩
  go_wp2_with fail
  refine HLD.out.mono ?_
  rintro e w' ⟨rfl, rfl⟩
  go_wp2_with fail
  refine HF.out.mono ?_
  rintro e w2 ⟨rfl, hT2, s, r, bs, br, hq2, hbs, hbr⟩
  have hq3 := hq2.drew.set0 1
  have hT3 := (hT2.drew).setCell (p := ⟨O, 0, none⟩) rfl (.int .u32 1)
  have hq4 := hq3.set1 0
  have hT4 := hT3.setCell (p := ⟨O, 1, none⟩) rfl (.int .i32 0)
  have hs1 := HT1.out.2
  have HFIN := Lib.hid (show Turn (fun k => k = O) w ((w2.drew.setCell ⟨O, 0, none⟩ (.int .u32 1)).setCell ⟨O, 1, none⟩ (.int .i32 0)) ∧ ∃ s r bs br, OrdQ ((w2.drew.setCell ⟨O, 0, none⟩ (.int .u32 1)).setCell ⟨O, 1, none⟩ (.int .i32 0)) O 1 0 l s r bs br ∧ w.heap.size ≤ bs ∧ w.heap.size ≤ br from ⟨HT1.out.1.trans hT4, s, r, bs, br, hq4, by omega, by omega⟩)
  have HS := Lib.hid (store_deferred ⟨O, 0, none⟩ _ .returning w2 (Blk.cell hq2.cells 0) (Blk.free hq2.cells 0))
  have HU := Lib.hid (unlock47 ⟨O, 1, none⟩ .returning _ (Blk.cell hq3.cells 1) (Blk.free hq3.cells 1))
  clear hT2 hq2 hq3 hT3 hq4 hT4 HF HLD HL hbs hbr hs1
  go_wp2_with fail
  refine leaves_cons (f := 48) (args := #[.pointer (some ⟨O, 0, none⟩), .bool true]) (by simp) (by simp [go_sem]) ?_
  refine HS.out.mono ?_
  rintro e u' w'' ⟨rfl, rfl, rfl⟩
  refine leaves_cons (f := 47) (args := #[.pointer (some ⟨O, 1, none⟩)]) (by simp [settle]) (by simp [go_sem]) ?_
  refine HU.out.mono ?_
  rintro e u' w'' ⟨rfl, rfl, rfl⟩
  have hfin := HFIN.out
  simp [Leaves, settle, results, Try.results42]
  simpa using hfin

theorem do34_first (x1 x3 D O : Nat) (l : List ByteArray) (vt vm vo : Value) (w : World) (h1 : Blk w x1 23 #[ptrV D]) (h3 : Blk w x3 55 #[ptrV O]) (hO : Blk w O 73 (oc 0 0 (.slice none 0 0) (.slice none 0 0))) (hD : Blk w D 57 #[vt, vm, vo]) (ho : w.ownsRow 0 9 1 vt l.length (l.map Value.string)) (hl : l.length ≤ 4096) :
    Calls Try.prog 34 #[ptrV O, .func (Fn.func 35) #[] #[ptrV x1, ptrV x3]] w fun e w' => e = .returned (.tuple #[]) ∧ Turn (fun k => k = O) w w' ∧ ∃ s r bs br, OrdQ w' O 1 0 l s r bs br ∧ w.heap.size ≤ bs ∧ w.heap.size ≤ br := by
  have HLD := Lib.hid (load41 ⟨O, 0, none⟩ 0 w (Blk.cell hO 0))
  have HS := Lib.hid (slow42 x1 x3 D O l vt vm vo w h1 h3 hO hD ho hl)
  unfold ptrV at *
  clear h1 h3 hO hD ho
  go_enter Try.func34, Try.ntmps34
  go_wp2_with fail
  refine HLD.out.mono ?_
  rintro e w' ⟨rfl, rfl⟩
  go_wp2_with fail
  refine HS.out.mono ?_
  rintro e w' ⟨rfl, hh⟩
  have HH := Lib.hid hh
  clear hh
  go_wp2_with fail
  go_end0
  exact ⟨rfl, HH.out⟩
theorem do34_done (O : Nat) (m : Int) (a b f : Value) (w : World) (hO : Blk w O 73 (oc 1 m a b)) :
    Calls Try.prog 34 #[ptrV O, f] w fun e w' => e = .returned (.tuple #[]) ∧ w = w' := by
  have HLD := Lib.hid (load41 ⟨O, 0, none⟩ 1 w (Blk.cell hO 0))
  unfold ptrV
  clear hO
  go_enter Try.func34, Try.ntmps34
  go_wp2_with fail
  refine HLD.out.mono ?_
  rintro e w' ⟨rfl, rfl⟩
  go_wp2_with fail
  go_end0
  exact ⟨rfl, rfl⟩
end Go.Proofs.Ytiihnepfcgmghaa
