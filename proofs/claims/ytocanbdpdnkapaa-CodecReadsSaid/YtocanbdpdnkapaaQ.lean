/- The reference's bytes: count, text, texts, fact, cell. -/
import Derived.Test.YtocanbdpdnkapaaP
namespace Go.Proofs.Ytocanbdpdnkapaa
open Go.RowKit
set_option linter.unusedVariables false
set_option linter.unusedSimpArgs false

abbrev Small : Nat := 1048576
def textB (s : ByteArray) : ByteArray := leS s.size 4 ++ s
theorem textB_size (s : ByteArray) : (textB s).size = 4 + s.size := by unfold textB; rw [ByteArray.size_append, leS_size]
def textsB (l : List ByteArray) : ByteArray := l.foldl (fun a s => a ++ textB s) (leS l.length 4)
theorem foldl_size {α : Type} (f : α → ByteArray) (m : Nat) (l : List α) (a : ByteArray) (h : ∀ x ∈ l, (f x).size ≤ m) : (l.foldl (fun a x => a ++ f x) a).size ≤ a.size + l.length * m := by
  induction l generalizing a with
  | nil => simp
  | cons x l ih =>
    have h1 := ih (a ++ f x) (fun y hy => h y (by simp [hy]))
    have h2 := h x (by simp)
    rw [ByteArray.size_append] at h1
    rw [List.foldl_cons, List.length_cons, Nat.add_mul]
    omega
theorem foldl_size_take {α : Type} (f : α → ByteArray) (m : Nat) (l : List α) (k : Nat) (a : ByteArray) (h : ∀ x ∈ l, (f x).size ≤ m) : ((l.take k).foldl (fun a x => a ++ f x) a).size ≤ a.size + l.length * m := by
  have h1 := foldl_size f m (l.take k) a (fun x hx => h x (List.mem_of_mem_take hx))
  have h2 : (l.take k).length * m ≤ l.length * m := Nat.mul_le_mul_right _ (by rw [List.length_take]; omega)
  omega

theorem count55 (n : Nat) (w : World) (hn : n < 9223372036854775808) : Calls Try.prog 55 #[.int .i64 (n : Int)] w fun e w' => e = .returned (.string (leS n 4)) ∧ Below w.heap.size w w' := by
  have HN := Lib.hid (num39 n 4 w (by omega) (by omega))
  go_enter Try.func55, Try.ntmps55
  go_wp2_with fail
  refine HN.out.mono ?_
  rintro e w1 ⟨rfl, h1⟩
  go_wp2_with fail
  go_ret
  exact ⟨rfl, h1⟩
theorem text52 (s : ByteArray) (w : World) (hs : s.size ≤ Small) : Calls Try.prog 52 #[.string s] w fun e w' => e = .returned (.string (textB s)) ∧ Below w.heap.size w w' := by
  unfold Small at hs
  have HN := Lib.hid (count55 s.size w (by omega))
  have z1 := leS_size s.size 4
  have t1 : ¬ 9223372036854775807 < (leS s.size 4).size + s.size := by omega
  clear z1
  go_enter Try.func52, Try.ntmps52
  go_wp2_with fail
  refine HN.out.mono ?_
  rintro e w1 ⟨rfl, h1⟩
  go_wp2_with fail
  go_ret
  exact ⟨rfl, h1⟩

set_option maxHeartbeats 4000000 in
theorem texts53 (v : Value) (l : List ByteArray) (w : World) (B : Nat) (hB : B ≤ w.heap.size) (hr : RowS B w v l) (hl : ∀ s ∈ l, s.size ≤ Small) (hn : l.length ≤ Small) :
    Calls Try.prog 53 #[v] w fun e w' => e = .returned (.string (textsB l)) ∧ Below w.heap.size w w' := by
  unfold Small at hl hn
  obtain ⟨a, cap, rfl, hcap, hmax, hc⟩ := hr.open
  have HN := Lib.hid (count55 l.length w (by omega))
  have HSZ := Lib.hid (fun k => foldl_size_take textB 1048580 l k (leS l.length 4) (fun x hx => by rw [textB_size]; have := hl x hx; omega))
  have HL := Lib.hid hl
  have HC := Lib.hid hc
  clear hr hc hl
  go_enter Try.func53, Try.ntmps53
  go_wp2_with fail
  refine HN.out.mono ?_
  rintro e w1 ⟨rfl, h1⟩
  have H1 := Lib.hid h1
  clear h1
  go_wp2_with fail
  go_loopw [3, 4] (fun s i wr => ∃ k : Nat, k ≤ l.length ∧ i = .int .i64 k ∧ s = .string ((l.take k).foldl (fun a x => a ++ textB x) (leS l.length 4)) ∧ Below w.heap.size w wr) (fun _ i _ => l.length - (intOf i).toNat)
  case atStart => exact ⟨0, by omega, rfl, rfl, H1.out⟩
  case round =>
    obtain ⟨k, hk, rfl, rfl, hBr⟩ := hrel
    by_cases hlt : k < l.length
    · obtain ⟨g, off, rfl, hg, hcell⟩ := HC.out (by omega)
      have hst := foldl_take (fun a x => a ++ textB x) (leS l.length 4) l ByteArray.empty k hlt
      have hsz := HSZ.out k
      have hx := HL.out _ (getD_mem (d := ByteArray.empty) hlt)
      have q := (Below.cell hBr (p := ⟨g, off + k, none⟩) (by show g < _; omega)).trans (hcell k hlt)
      obtain ⟨s, hs⟩ : ∃ s, l.getD k ByteArray.empty = s := ⟨_, rfl⟩
      rw [hs] at hst hx q
      obtain ⟨acc, ha⟩ : ∃ acc, (l.take k).foldl (fun a x => a ++ textB x) (leS l.length 4) = acc := ⟨_, rfl⟩
      rw [ha] at hst hsz ⊢
      have HST := Lib.hid hst
      rw [leS_size] at hsz
      have t1 : ¬ 9223372036854775807 < acc.size + (textB s).size := by
        rw [textB_size]
        have : l.length * 1048580 ≤ 1048576 * 1048580 := Nat.mul_le_mul_right _ hn
        omega
      have HT := Lib.hid (text52 s wr hx)
      have HBr := Lib.hid hBr
      have hkI : decide ((k : Int) < l.length) = true := decide_eq_true (by omega)
      clear hst hs ha hsz hcell hx hBr
      go_wp2_with fail
      refine HT.out.mono ?_
      rintro e w2 ⟨rfl, h2⟩
      have H2 := Lib.hid (Below.call HBr.out h2)
      clear h2
      go_wp2_with fail
      go_roundw
      case rel => exact ⟨k + 1, by omega, by go_num, by rw [HST.out], H2.out⟩
      case measure => simp [intOf]; omega
    · obtain rfl : k = l.length := by omega
      have hkI : decide ((l.length : Int) < l.length) = false := by simp
      rw [List.take_length]
      have HBr := Lib.hid hBr
      clear hBr
      go_wp2_with fail
      go_ret
      exact ⟨rfl, HBr.out⟩
theorem textsB_size (l : List ByteArray) (hl : ∀ s ∈ l, s.size ≤ Small) : (textsB l).size ≤ 4 + l.length * 1048580 := by
  unfold Small at hl
  have := foldl_size textB 1048580 l (leS l.length 4) (fun x hx => by rw [textB_size]; have := hl x hx; omega)
  rw [leS_size] at this
  exact this

def cellB (c : CellT) : Option ByteArray :=
  if c.k = 0 ∧ c.n = 0 ∧ c.t.size = 0 then some (byteS 0)
  else if c.k = 1 ∧ c.t.size = 0 then some (byteS 1 ++ leS (u64 c.n) 8)
  else if c.k = 2 ∧ c.n = 0 then some (byteS 2 ++ textB c.t)
  else none
/-- what is told of an answer that may be none -/
def optV (o : Option ByteArray) : Value := .tuple #[.string (o.getD ⟨#[]⟩), .bool o.isSome]
end Go.Proofs.Ytocanbdpdnkapaa
