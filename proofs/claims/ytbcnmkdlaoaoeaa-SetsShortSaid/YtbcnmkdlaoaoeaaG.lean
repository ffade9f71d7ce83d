/- The sets of an element. -/
import Derived.Test.YtbcnmkdlaoaoeaaF
namespace Go.Proofs.Ytbcnmkdlaoaoeaa
open Go.RowKit
set_option linter.unusedVariables false
set_option linter.unusedSimpArgs false

def ofOne (dims : List ByteArray) (o : Nat) (s : ByteArray) : Nat := o ||| ofN [idxP dims (isS s)]
/-- the set of names -/
def ofS (dims l : List ByteArray) : Nat := l.foldl (ofOne dims) 0
theorem ofS_fold (dims l : List ByteArray) (o : Nat) (h : o < 64) : l.foldl (ofOne dims) o < 64 := by
  induction l generalizing o with
  | nil => exact h
  | cons x r ih => exact ih _ (or_lt h (ofN_lt _))
theorem ofS_lt (dims l : List ByteArray) : ofS dims l < 64 := ofS_fold dims l 0 (by omega)
theorem ofS_step (dims l : List ByteArray) (k : Nat) (h : k < l.length) : ofS dims (l.take (k + 1)) = ofOne dims (ofS dims (l.take k)) (l.getD k ByteArray.empty) := by
  unfold ofS
  rw [List.take_add_one, List.getElem?_eq_getElem h, List.foldl_append, List.getD_eq_getElem?_getD, List.getElem?_eq_getElem h]
  rfl

set_option maxHeartbeats 4000000 in
theorem of36 (p : Nat) (vd : Value) (dims : List ByteArray) (w : World) (v : Value) (l : List ByteArray) (hp : Blk w p 24 #[vd]) (hr : RowS w.heap.size w vd dims) (hl : RowS w.heap.size w v l) :
    Calls Try.prog 36 #[v, .pointer (some ⟨p, 0, none⟩)] w fun e w' => e = .returned (.int .i64 (ofS dims l : Nat)) ∧ Below w.heap.size w w' := by
  obtain ⟨a, cap, rfl, hcap, hmax, hc⟩ := hl.open
  obtain ⟨ad, kd, rfl, -⟩ := hr.open
  have HC := Lib.hid hc
  have HP := Lib.hid hp
  have HR := Lib.hid hr
  clear hc hl hp hr
  go_enter Try.func36, Try.ntmps36
  go_wp2
  go_loopw [4, 9] (fun s i wr => ∃ k : Nat, k ≤ l.length ∧ i = .int .i64 k ∧ s = .int .i64 (ofS dims (l.take k) : Nat) ∧ Below w.heap.size w wr) (fun _ i _ => l.length - (intOf i).toNat)
  case atStart => exact ⟨0, by omega, rfl, by simp [ofS], Below.refl _ _⟩
  case round =>
    obtain ⟨k, hk, rfl, rfl, hB⟩ := hrel
    have c0 : wr.cell? ⟨p, 0, none⟩ = some (.slice ad dims.length kd) := Blk.cell (Blk.below HP.out hB HP.out.lt) 0
    by_cases hlt : k < l.length
    · obtain ⟨b, off, rfl, hb, hcell⟩ := HC.out (by omega)
      obtain ⟨y, hy, hy2⟩ : ∃ y, Hid (l.getD k ByteArray.empty = y) ∧ w.cell? ⟨b, off + k, none⟩ = some (.string y) := ⟨_, rfl, hcell k hlt⟩
      have cy : wr.cell? ⟨b, off + k, none⟩ = some (.string y) := (hB.cell (by exact hb)).trans hy2
      have hst := ofS_step dims l k hlt
      have ho := ofS_lt dims (l.take k)
      obtain ⟨o, hoe⟩ : ∃ o, ofS dims (l.take k) = o := ⟨_, rfl⟩
      rw [hoe, hy.out] at hst
      rw [hoe] at ho ⊢
      unfold ofOne at hst
      have HRW := Lib.hid (HR.out.mono hB hB.size)
      have hN := ofN_lt [idxP dims (isS y)]
      have HIX := Lib.hid (index34 wr.heap.size (.slice ad dims.length kd) dims y wr HRW.out)
      obtain ⟨x, hx⟩ : ∃ x, idxP dims (isS y) = x := ⟨_, rfl⟩
      rw [hx] at hst hN HIX
      have HOF := Lib.hid (of14 _ (.slice (some ⟨wr.heap.size, 0, none⟩) 1 1) [x] (wr.alloc (Obj.cells #[.int .i64 x] 3)) (RowI.of_blk (l := [x]) (Blk.new wr 3 _) rfl (by decide)))
      obtain ⟨n, hn⟩ : ∃ n, ofN [x] = n := ⟨_, rfl⟩
      rw [hn] at hst hN HOF
      have HST := Lib.hid hst
      have HHB := Lib.hid (Below.al hB (Obj.cells #[.int .i64 x] 3))
      clear hcell HC hy2 hst hoe hx hn hB
      go_wp2_with (first | (go_at_call 34; refine HIX.out.mono ?_; rintro e w' ⟨rfl, rfl⟩) | (go_at_call 14; refine HOF.out.mono ?_; rintro e w' ⟨rfl, rfl⟩))
      go_roundw
      case rel => exact ⟨k + 1, by omega, by go_num, by rw [HST.out]; exact congrArg (Value.int .i64) (or64 o n ho hN), HHB.out⟩
      case measure => simp [intOf]; omega
    · have : k = l.length := by omega
      subst this
      go_wp2
      go_ret
      exact ⟨ret_int (by rw [List.take_length]), hB⟩
end Go.Proofs.Ytbcnmkdlaoaoeaa
