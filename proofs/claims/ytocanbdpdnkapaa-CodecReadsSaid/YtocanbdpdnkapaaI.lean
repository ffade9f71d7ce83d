/- The reader: Read, good, Fail, take, Byte, Int, Text, Left, Done. -/
import Derived.Test.YtocanbdpdnkapaaH
namespace Go.Proofs.Ytocanbdpdnkapaa
open Go.RowKit
set_option linter.unusedVariables false
set_option linter.unusedSimpArgs false

/-- a reader: what is left, and its error -/
structure RdS where
  s : ByteArray
  e : Int
def emptyS : ByteArray := ⟨#[]⟩
def failR (x : RdS) (e : Int) : RdS := if x.e = 0 ∧ e ≠ 0 then ⟨emptyS, e⟩ else x
/-- what is taken up, and what is left -/
def takeR (x : RdS) (n : Nat) : ByteArray × RdS := if x.e ≠ 0 then (emptyS, x) else if x.s.size < n then (emptyS, ⟨emptyS, 20⟩) else (x.s.extract 0 n, ⟨x.s.extract n x.s.size, 0⟩)
/-- a reader in block B -/
structure RdAt (B : Nat) (w : World) (x : RdS) : Prop where
  blk : Blk w B 77 #[.string x.s, .int .i64 x.e]
  len : x.s.size ≤ 140737488351232
theorem RdAt.below {B : Nat} {w w' : World} {x : RdS} (h : RdAt B w x) (hB : Below w.heap.size w w') : RdAt B w' x := ⟨Blk.below h.blk hB h.blk.lt, h.len⟩
theorem takeR_len {x : RdS} (n : Nat) (h : x.s.size ≤ 140737488351232) : (takeR x n).2.s.size ≤ 140737488351232 ∧ (takeR x n).1.size ≤ n := by
  unfold takeR
  split
  · exact ⟨h, Nat.zero_le _⟩
  · split
    · exact ⟨Nat.zero_le _, Nat.zero_le _⟩
    · constructor
      · show (x.s.extract n x.s.size).size ≤ _
        rw [ByteArray.size_extract]; omega
      · show (x.s.extract 0 n).size ≤ _
        rw [ByteArray.size_extract]; omega

theorem read22 (s : ByteArray) (w : World) (hs : s.size ≤ 140737488351232) : Calls Try.prog 22 #[.string s] w fun e w' => e = .returned (.pointer (some ⟨w.heap.size, 0, none⟩)) ∧ RdAt w.heap.size w' ⟨s, 0⟩ ∧ Below w.heap.size w w' := by
  have hb := Blk.new w 77 #[.string s, .int .i64 0]
  have HB := Lib.hid hb
  clear hb
  go_enter Try.func22, Try.ntmps22
  go_wp2_with fail
  go_ret
  exact ⟨rfl, ⟨HB.out, hs⟩, Below.al (Below.refl _ _) _⟩

theorem good77 (B : Nat) (x : RdS) (w : World) (hx : RdAt B w x) : Calls Try.prog 77 #[.pointer (some ⟨B, 0, none⟩)] w fun e w' => e = .returned (.bool (x.e == 0)) ∧ w = w' := by
  have c1 : w.cell? ⟨B, 1, none⟩ = some (.int .i64 x.e) := Blk.cell hx.blk 1
  clear hx
  go_enter Try.func77, Try.ntmps77
  go_wp2_with fail
  go_ret
  exact ⟨rfl, rfl⟩
theorem good77_nil (w : World) : Calls Try.prog 77 #[.pointer none] w fun e w' => e = .returned (.bool false) ∧ w = w' := by
  go_enter Try.func77, Try.ntmps77
  go_wp2_with fail
  go_ret
  exact ⟨rfl, rfl⟩

/-- a call of a reader's: it is as it should be, and nothing below it has turned -/
def Took (B : Nat) (w : World) (x : RdS) (v : Value) (e : Ending) (w' : World) : Prop := e = .returned v ∧ RdAt B w' x ∧ Below B w w'

theorem fail23 (B : Nat) (x : RdS) (e1 : Int) (w : World) (hx : RdAt B w x) : Calls Try.prog 23 #[.pointer (some ⟨B, 0, none⟩), .int .i64 e1] w (Took B w (failR x e1) (.tuple #[])) := by
  obtain ⟨hb, hlen⟩ := hx
  have c0 : w.cell? ⟨B, 0, none⟩ = some (.string x.s) := Blk.cell hb 0
  have c1 : w.cell? ⟨B, 1, none⟩ = some (.int .i64 x.e) := Blk.cell hb 1
  have f0 : w.frozen? ⟨B, 0, none⟩ = false := Blk.free hb 0
  have f1 : w.frozen? ⟨B, 1, none⟩ = false := Blk.free hb 1
  have HB := Lib.hid hb
  have hlt := hb.lt
  clear hb
  obtain ⟨s, e0⟩ := x
  simp only at c0 c1 hlen HB
  by_cases he : e0 = 0
  · by_cases h1 : e1 = 0
    · subst he h1
      have HR := Lib.hid (show failR ⟨s, 0⟩ 0 = ⟨s, 0⟩ from if_neg (by simp))
      go_enter Try.func23, Try.ntmps23
      go_wp2_with fail
      go_end0
      exact ⟨rfl, by rw [HR.out]; exact ⟨HB.out, hlen⟩, Below.refl _ _⟩
    · subst he
      have HR := Lib.hid (show failR ⟨s, 0⟩ e1 = ⟨emptyS, e1⟩ from if_pos ⟨rfl, h1⟩)
      have d1 : (e1 != 0) = true := by simpa using h1
      have hs1 := Blk.set HB.out 1 (.int .i64 e1)
      have hs2 := Blk.set hs1 0 (.string emptyS)
      have HS := Lib.hid hs2
      have HBL := Lib.hid (below_set (below_set (Below.refl B w) (Nat.le_refl B) 1 (.int .i64 e1)) (Nat.le_refl B) 0 (.string emptyS))
      clear hs1 hs2 h1
      go_enter Try.func23, Try.ntmps23
      go_wp2_with fail
      go_end0
      exact ⟨rfl, by rw [HR.out]; exact ⟨HS.out, Nat.zero_le _⟩, HBL.out⟩
  · have HR := Lib.hid (show failR ⟨s, e0⟩ e1 = ⟨s, e0⟩ from if_neg (by simp [he]))
    have d0 : (e0 == 0) = false := by simpa using he
    go_enter Try.func23, Try.ntmps23
    go_wp2_with fail
    go_end0
    exact ⟨rfl, by rw [HR.out]; exact ⟨HB.out, hlen⟩, Below.refl _ _⟩
theorem fail23_nil (e1 : Int) (w : World) : Calls Try.prog 23 #[.pointer none, .int .i64 e1] w fun e w' => e = .returned (.tuple #[]) ∧ w = w' := by
  go_enter Try.func23, Try.ntmps23
  go_wp2_with fail
  go_end0
  exact ⟨rfl, rfl⟩

theorem take75 (B : Nat) (x : RdS) (n : Nat) (hn : n ≤ 4611686018427387904) (w : World) (hx : RdAt B w x) :
    Calls Try.prog 75 #[.pointer (some ⟨B, 0, none⟩), .int .i64 (n : Int)] w (Took B w (takeR x n).2 (.string (takeR x n).1)) := by
  have HG := Lib.hid (good77 B x w hx)
  have HX := Lib.hid hx
  have c0 : w.cell? ⟨B, 0, none⟩ = some (.string x.s) := Blk.cell hx.blk 0
  have f0 : w.frozen? ⟨B, 0, none⟩ = false := Blk.free hx.blk 0
  have hlen := hx.len
  clear hx
  obtain ⟨s, e0⟩ := x
  simp only at c0 hlen HG HX
  by_cases he : e0 = 0
  · subst he
    by_cases h1 : s.size < n
    · have HR := Lib.hid (show takeR ⟨s, 0⟩ n = (emptyS, ⟨emptyS, 20⟩) from (if_neg (by simp)).trans (if_pos h1))
      have d1 : decide ((s.size : Int) < n) = true := decide_eq_true (by omega)
      have hf := fail23 B ⟨s, 0⟩ 20 w HX.out
      rw [show failR ⟨s, 0⟩ 20 = ⟨emptyS, 20⟩ from if_pos ⟨rfl, by decide⟩] at hf
      have HF := Lib.hid hf
      clear hf
      go_enter Try.func75, Try.ntmps75
      go_wp2_with fail
      refine HG.out.mono ?_
      rintro e w' ⟨rfl, rfl⟩
      go_wp2_with fail
      refine HF.out.mono ?_
      rintro e w1 ⟨rfl, h1, h2⟩
      have HG2 := Lib.hid (good77 B ⟨emptyS, 20⟩ w1 h1)
      have H12 := Lib.hid (And.intro h1 h2)
      clear h1 h2
      go_wp2_with fail
      refine HG2.out.mono ?_
      rintro e w' ⟨rfl, rfl⟩
      go_wp2_with fail
      go_ret
      exact ⟨by rw [HR.out]; rfl, by rw [HR.out]; exact H12.out.1, H12.out.2⟩
    · have HR := Lib.hid (show takeR ⟨s, 0⟩ n = (s.extract 0 n, ⟨s.extract n s.size, 0⟩) from (if_neg (by simp)).trans (if_neg h1))
      have d1 : decide ((s.size : Int) < n) = false := decide_eq_false (by omega)
      have d2 : (n : Int) ≤ s.size := by omega
      have hs1 := Blk.set HX.out.blk 0 (.string (s.extract n s.size))
      have HS := Lib.hid (show RdAt B (w.setCell ⟨B, 0, none⟩ (.string (s.extract n s.size))) ⟨s.extract n s.size, 0⟩ from ⟨hs1, by show (s.extract n s.size).size ≤ _; rw [ByteArray.size_extract]; omega⟩)
      have HBL := Lib.hid (below_set (Below.refl B w) (Nat.le_refl B) 0 (.string (s.extract n s.size)))
      clear hs1
      go_enter Try.func75, Try.ntmps75
      go_wp2_with fail
      refine HG.out.mono ?_
      rintro e w' ⟨rfl, rfl⟩
      go_wp2_with fail
      refine HG.out.mono ?_
      rintro e w' ⟨rfl, rfl⟩
      go_wp2_with fail
      go_ret
      exact ⟨by rw [HR.out]; rfl, by rw [HR.out]; exact HS.out, HBL.out⟩
  · have HR := Lib.hid (show takeR ⟨s, e0⟩ n = (emptyS, ⟨s, e0⟩) from if_pos he)
    have d0 : (e0 == 0) = false := by simpa using he
    rw [d0] at HG
    go_enter Try.func75, Try.ntmps75
    go_wp2_with fail
    refine HG.out.mono ?_
    rintro e w' ⟨rfl, rfl⟩
    go_wp2_with fail
    refine HG.out.mono ?_
    rintro e w' ⟨rfl, rfl⟩
    go_wp2_with fail
    go_ret
    exact ⟨by rw [HR.out]; rfl, by rw [HR.out]; exact HX.out, Below.refl _ _⟩
theorem take75_nil (n : Int) (w : World) : Calls Try.prog 75 #[.pointer none, .int .i64 n] w fun e w' => e = .returned (.string emptyS) ∧ w = w' := by
  have HG := Lib.hid (good77_nil w)
  go_enter Try.func75, Try.ntmps75
  go_wp2_with fail
  refine HG.out.mono ?_
  rintro e w' ⟨rfl, rfl⟩
  go_wp2_with fail
  refine HG.out.mono ?_
  rintro e w' ⟨rfl, rfl⟩
  go_wp2_with fail
  go_ret
  exact ⟨rfl, rfl⟩

theorem byte32 (B : Nat) (x : RdS) (w : World) (hx : RdAt B w x) :
    Calls Try.prog 32 #[.pointer (some ⟨B, 0, none⟩)] w (Took B w (takeR x 1).2 (.int .u8 ((deS (takeR x 1).1 % 256 : Nat) : Int))) := by
  have HT := Lib.hid (take75 B x 1 (by omega) w hx)
  have hl := (takeR_len (x := x) 1 hx.len).2
  have HN := Lib.hid (fun w => number40 (takeR x 1).1 w (by omega))
  clear hx hl
  go_enter Try.func32, Try.ntmps32
  go_wp2_with fail
  refine HT.out.mono ?_
  rintro e w1 ⟨rfl, h1, h2⟩
  have H12 := Lib.hid (And.intro h1 h2)
  clear h1 h2
  go_wp2_with fail
  refine (HN.out w1).mono ?_
  rintro e w' ⟨rfl, rfl⟩
  go_wp2_with fail
  go_ret
  exact ⟨rfl, H12.out.1, H12.out.2⟩
end Go.Proofs.Ytocanbdpdnkapaa
