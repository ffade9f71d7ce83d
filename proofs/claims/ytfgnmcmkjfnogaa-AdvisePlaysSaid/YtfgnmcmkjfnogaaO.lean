/- The advisor's advice. -/
import Derived.Test.YtfgnmcmkjfnogaaN
namespace Go.Proofs.Ytfgnmcmkjfnogaa
open Go.RowKit
set_option linter.unusedVariables false
set_option linter.unusedSimpArgs false

/-- the weights that a list's first so many needs make -/
def wTo (l : List Int) : Nat → List Int
  | 0 => zeros64
  | k + 1 => (wTo l k).set (l.getD k 0).toNat ((wTo l k).getD (l.getD k 0).toNat 0 + 1)
theorem wTo_len (l : List Int) (k : Nat) : (wTo l k).length = 64 := by
  induction k with
  | zero => exact zeros64_len
  | succ k ih => simp [wTo, ih]
theorem wTo_at (l : List Int) (k : Nat) (hl : ∀ j, j < k → 0 ≤ l.getD j 0 ∧ l.getD j 0 < 64) (i : Nat) (hi : i < 64) : (wTo l k).getD i 0 = (cntTo l i k : Nat) := by
  induction k with
  | zero => exact zeros64_at i
  | succ k ih =>
    have ih := ih (fun j hj => hl j (by omega))
    have hk := hl k (by omega)
    simp only [wTo, cntTo]
    by_cases e : l.getD k 0 = (i : Int)
    · rw [e, if_pos rfl]
      simp only [Int.toNat_natCast]
      rw [ih]
      simp [List.getD_eq_getElem?_getD, wTo_len, hi]
    · rw [if_neg e]
      have e' : (l.getD k 0).toNat ≠ i := by omega
      rw [List.getD_eq_getElem?_getD, List.getElem?_set_ne e', ← List.getD_eq_getElem?_getD, ih]
      rfl

set_option maxRecDepth 100000 in
set_option maxHeartbeats 4000000 in
theorem advice22 (p : Value) (l R Y : List Int) (facts budget : Int) (w : World) (hR : R.length = 64) (hY : Y.length = 64)
    (hb0 : -9223372036854775808 ≤ budget) (hb1 : budget ≤ 9223372036854775807) (hll : l.length ≤ 64) (hl : ∀ j, j < l.length → 0 ≤ l.getD j 0 ∧ l.getD j 0 < 64)
    (hlog : ∀ w', Below w.heap.size w w' → w.heap.size ≤ w'.heap.size → Calls Try.prog 20 #[p] w' fun e w'' => ∃ v, e = .returned v ∧ w''.ownsRow w'.heap.size 3 1 v l.length (l.map (Value.int .i64)) ∧ Below w'.heap.size w' w'') :
    Calls Try.prog 22 #[p, .agg (ints R), .agg (ints Y), .int .i64 facts, .int .i64 budget] w fun e w' =>
      ∃ v, e = .returned v ∧ w'.ownsRow w.heap.size 3 1 v (chooseL (wTo l l.length) R Y facts budget).length ((chooseL (wTo l l.length) R Y facts budget).map (Value.int .i64)) ∧ Below w.heap.size w w' := by
  have hzv : ∀ w, (zeroValue 22).run Try.prog w = .ok (.agg (ints zeros64)) w := fun _ => by kernel_rfl
  have HR := Lib.hid hR
  have HY := Lib.hid hY
  have HL := Lib.hid hl
  have HLOG := Lib.hid hlog
  have B1 : Below w.heap.size w (w.alloc (Obj.cells (ints R) 22)) := (Below.refl _ _).alloc (Nat.le_refl _) _
  have B2 : Below w.heap.size w ((w.alloc (Obj.cells (ints R) 22)).alloc (Obj.cells (ints Y) 22)) := B1.alloc B1.size _
  have B3 : Below w.heap.size w (((w.alloc (Obj.cells (ints R) 22)).alloc (Obj.cells (ints Y) 22)).alloc (Obj.cells (ints zeros64) 22)) := B2.alloc B2.size _
  have aR : Arr (((w.alloc (Obj.cells (ints R) 22)).alloc (Obj.cells (ints Y) 22)).alloc (Obj.cells (ints zeros64) 22)) w.heap.size 22 R := ((Blk.newAt _ _ _ rfl).alloc _).alloc _
  have aY : Arr (((w.alloc (Obj.cells (ints R) 22)).alloc (Obj.cells (ints Y) 22)).alloc (Obj.cells (ints zeros64) 22)) (w.heap.size + 1) 22 Y := (Blk.newAt _ _ _ (by simp)).alloc _
  have aW : Arr (((w.alloc (Obj.cells (ints R) 22)).alloc (Obj.cells (ints Y) 22)).alloc (Obj.cells (ints zeros64) 22)) (w.heap.size + 1 + 1) 22 zeros64 := Blk.newAt _ _ _ (by simp)
  clear hR hY hl hlog
  have HB1 := Lib.hid B1
  have HB2 := Lib.hid B2
  have HB3 := Lib.hid B3
  have HaR := Lib.hid aR
  have HaY := Lib.hid aY
  have HaW := Lib.hid aW
  clear B1 B2 B3 aR aY aW
  go_enter Try.func22, Try.ntmps22
  go_wp2_with fail
  have B3 := HB3.out
  have aR := HaR.out
  have aY := HaY.out
  have aW := HaW.out
  clear HB1 HB2 HB3 HaR HaY HaW
  refine (HLOG.out _ B3 B3.size).mono ?_
  rintro e w1 ⟨v, rfl, hown, hB⟩
  have hz3 : (((w.alloc (Obj.cells (ints R) 22)).alloc (Obj.cells (ints Y) 22)).alloc (Obj.cells (ints zeros64) 22)).heap.size = w.heap.size + 3 := by simp
  have aR1 := Blk.below aR hB (by rw [hz3]; omega)
  have aY1 := Blk.below aY hB (by rw [hz3]; omega)
  have aW1 := Blk.below aW hB (by rw [hz3]; omega)
  have B4 := B3.trans (hB.mono B3.size)
  have hs1 := hB.size
  rw [hz3] at hs1
  have hown1 := owns_base hown (base' := w.heap.size + 3) (Nat.le_of_eq hz3.symm)
  obtain ⟨a, cap, rfl, hcap, hmax, -⟩ := (RowI.of_owns hown).open
  clear B3 aR aY aW hz3 hB hown
  go_wp2_with fail
  go_loopw [17, 13, 18, 19, 20, 21, 22, 23, 24, 25, 26] (fun i _ _ _ _ _ _ _ _ _ _ wr => ∃ k : Nat, k ≤ l.length ∧ i = .int .i64 k ∧ Arr wr w.heap.size 22 R ∧ Arr wr (w.heap.size + 1) 22 Y ∧ Arr wr (w.heap.size + 1 + 1) 22 (wTo l k) ∧ Below w.heap.size w wr ∧ w.heap.size + 3 ≤ wr.heap.size ∧ wr.ownsRow (w.heap.size + 3) 3 1 (.slice a l.length cap) l.length (l.map (Value.int .i64))) (fun i _ _ _ _ _ _ _ _ _ _ _ => l.length - (intOf i).toNat)
  case atStart => exact ⟨0, by omega, rfl, aR1, aY1, aW1, B4, hs1, hown1⟩
  case round =>
    clear aR1 aY1 aW1 B4 hs1 hown1
    obtain ⟨k, hk, rfl, aR, aY, aW, hB, hs, hown⟩ := hrel
    by_cases hlt : k < l.length
    · obtain ⟨a', cap', hv, -, -, hc⟩ := (RowI.of_owns hown).open
      obtain ⟨b', off, rfl, hb', hcl⟩ := hc (by omega)
      have ha : a = some ⟨b', off, none⟩ := by injection hv
      subst ha
      obtain ⟨y, hy, cy⟩ : ∃ y, l.getD k 0 = y ∧ wr.cell? ⟨b', off + k, none⟩ = some (.int .i64 y) := ⟨_, rfl, hcl k hlt⟩
      obtain ⟨hy0, hy1⟩ := HL.out k hlt
      rw [hy] at hy0 hy1
      obtain ⟨z, rfl⟩ : ∃ z : Nat, y = (z : Int) := ⟨y.toNat, by omega⟩
      have hz : z < 64 := by omega
      have cz := Arr.cell aW (j := z) (by rw [wTo_len]; omega)
      have hcn := wTo_at l k (fun j hj => HL.out j (by omega)) z hz
      have hcle := cntTo_le l z k
      rw [hcn] at cz
      have e1 : wTo l (k + 1) = (wTo l k).set z ((cntTo l z k : Nat) + 1) := by simp only [wTo]; rw [hy, Int.toNat_natCast, hcn]
      have E1 := Lib.hid e1
      have fz := Arr.free aW
      clear hc hv hcn e1 hy hcl
      generalize cntTo l (z : Int) k = c at *
      go_wp2_with fail
      go_roundw
      case rel =>
        have aW1 := Arr.set aW z (c + 1)
        rw [← E1.out] at aW1
        exact ⟨k + 1, by omega, by go_num, Blk.other aR (by simp; omega) _, Blk.other aY (by simp) _, aW1, hB.setCell (by simp; omega) _, by simpa [World.setCell] using hs, ownsRow_setCell_below hown (by simp) _⟩
      case measure => simp [intOf]; omega
    · have hk' : k = l.length := by omega
      have hlb : decide ((k : Int) < l.length) = false := by simp; omega
      have E : Hid (k = l.length) := hk'
      clear hk' hown
      have hWl := Lib.hid (wTo_len l k)
      go_wp2_with (first | (refine wpList_load_at rfl 22 (.tmp 11) rfl (w.heap.size + 1 + 1) 0 rfl (ints (wTo l k)) _ (fun j _ => by rw [Nat.zero_add]; exact Blk.cell aW j) Try.underlying22 rfl (by rw [size_ints, hWl.out]; exact Try.info22) ?_) | (refine wpList_load_at rfl 22 (.tmp 6) rfl w.heap.size 0 rfl (ints R) _ (fun j _ => by rw [Nat.zero_add]; exact Blk.cell aR j) Try.underlying22 rfl (by rw [size_ints, HR.out]; exact Try.info22) ?_) | (refine wpList_load_at rfl 22 (.tmp 7) rfl (w.heap.size + 1) 0 rfl (ints Y) _ (fun j _ => by rw [Nat.zero_add]; exact Blk.cell aY j) Try.underlying22 rfl (by rw [size_ints, HY.out]; exact Try.info22) ?_))
      refine (choose10 _ _ _ _ _ _ hWl.out HR.out HY.out hb0 hb1).mono ?_
      rw [E.out]
      rintro e w2 ⟨v2, rfl, hown2, hB2⟩
      go_wp2_with fail
      go_ret
      exact ⟨_, rfl, owns_base hown2 hB.size, hB.trans (hB2.mono hB.size)⟩

theorem nop : True := trivial
end Go.Proofs.Ytfgnmcmkjfnogaa
