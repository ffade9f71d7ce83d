/- A reader that may be nil: Fail, take, Byte, Int, Count, Text, Left, Done. -/
import Derived.Test.YtocanbdpdnkapaaW
namespace Go.Proofs.Ytocanbdpdnkapaa
open Go.RowKit
set_option linter.unusedVariables false
set_option linter.unusedSimpArgs false

/-- nothing but a reader's block has turned -/
structure KeepB (b : Option Nat) (w w' : World) : Prop where
  os : w'.os = w.os
  tape : w'.tape = w.tape
  output : w'.output = w.output
  size : w.heap.size ≤ w'.heap.size
  block : ∀ k, k < w.heap.size → b ≠ some k → w'.heap[k]? = w.heap[k]?
theorem KeepB.refl (b : Option Nat) (w : World) : KeepB b w w := ⟨rfl, rfl, rfl, Nat.le_refl _, fun _ _ _ => rfl⟩
theorem KeepB.trans {b : Option Nat} {w w1 w2 : World} (h : KeepB b w w1) (k : KeepB b w1 w2) : KeepB b w w2 :=
  ⟨k.os.trans h.os, k.tape.trans h.tape, k.output.trans h.output, Nat.le_trans h.size k.size, fun i hi hb => (k.block i (Nat.lt_of_lt_of_le hi h.size) hb).trans (h.block i hi hb)⟩
theorem KeepB.of {b : Option Nat} {w w' : World} (h : Below w.heap.size w w') : KeepB b w w' := ⟨h.os, h.tape, h.output, h.size, fun k hk _ => h.block k hk⟩
theorem KeepB.call {b : Option Nat} {w w1 w2 : World} (h : KeepB b w w1) (k : Below w1.heap.size w1 w2) : KeepB b w w2 := h.trans (KeepB.of k)
theorem KeepB.al {b : Option Nat} {w w1 : World} (h : KeepB b w w1) (o : Obj) : KeepB b w (w1.alloc o) := h.call (Below.al (Below.refl _ _) o)
theorem KeepB.set {B : Nat} {w w1 : World} (h : KeepB (some B) w w1) (j : Nat) (u : Value) : KeepB (some B) w (w1.setCell ⟨B, j, none⟩ u) :=
  h.trans ⟨rfl, rfl, rfl, by simp [World.setCell], fun k hk hb => Below.heap_setCell _ _ _ _ (fun e => hb (by rw [e]))⟩
theorem KeepB.below {b : Option Nat} {w w' : World} (h : KeepB b w w') {L : Nat} (hL : L ≤ w.heap.size) (hb : ∀ B, b = some B → L ≤ B) : Below L w w' :=
  ⟨h.os, h.tape, h.output, h.size, fun k hk => h.block k (by omega) (fun e => by have := hb k e; omega)⟩
theorem Blk.keepB {b : Option Nat} {w w' : World} {k : Nat} {T : TypeId} {cs : Array Value} (h : Blk w k T cs) (hk : KeepB b w w') (hne : b ≠ some k) : Blk w' k T cs := (hk.block k h.lt hne).trans h
def RdO (b : Option Nat) (w : World) (x : RdS) : Prop := match b with | none => x = ⟨emptyS, 1⟩ | some B => RdAt B w x
theorem RdO.below {b : Option Nat} {w w' : World} {x : RdS} (h : RdO b w x) (hB : Below w.heap.size w w') : RdO b w' x := by
  cases b with
  | none => exact h
  | some B => exact RdAt.below h hB
theorem RdO.len {b : Option Nat} {w : World} {x : RdS} (h : RdO b w x) : x.s.size ≤ 140737488351232 := by
  cases b with
  | none => have h : x = ⟨emptyS, 1⟩ := h; subst h; exact Nat.zero_le _
  | some B => exact RdAt.len h
theorem RdO.lt {b : Option Nat} {w : World} {x : RdS} (h : RdO b w x) : ∀ B, b = some B → B < w.heap.size := fun B e => by subst e; exact RdAt.blk h |>.lt
def TookO (b : Option Nat) (w : World) (x : RdS) (v : Value) (e : Ending) (w' : World) : Prop := e = .returned v ∧ RdO b w' x ∧ KeepB b w w'
theorem TookO.of {B : Nat} {w : World} {x : RdS} {v : Value} {e : Ending} {w' : World} (h : Took B w x v e w' ∧ KeepB (some B) w w') : TookO (some B) w x v e w' := ⟨h.1.1, h.1.2.1, h.2⟩

theorem fail23K (B : Nat) (x : RdS) (e1 : Int) (w : World) (hx : RdAt B w x) : Calls Try.prog 23 #[.pointer (some ⟨B, 0, none⟩), .int .i64 e1] w (fun e w' => Took B w (failR x e1) (.tuple #[]) e w' ∧ KeepB (some B) w w') := by
  obtain ⟨hb, hlen⟩ := hx
  have c0 : w.cell? ⟨B, 0, none⟩ = some (.string x.s) := Blk.cell hb 0
  have c1 : w.cell? ⟨B, 1, none⟩ = some (.int .i64 x.e) := Blk.cell hb 1
  have f0 : w.frozen? ⟨B, 0, none⟩ = false := Blk.free hb 0
  have f1 : w.frozen? ⟨B, 1, none⟩ = false := Blk.free hb 1
  have HB := Lib.hid hb
  have hlt := hb.lt
  clear hb
  obtain ⟨s, e0⟩ := x
  simp only at c0 c1 hlen HB
  by_cases he : e0 = 0
  · by_cases h1 : e1 = 0
    · subst he h1
      have HR := Lib.hid (show failR ⟨s, 0⟩ 0 = ⟨s, 0⟩ from if_neg (by simp))
      go_enter Try.func23, Try.ntmps23
      go_wp2_with fail
      go_end0
      exact ⟨⟨rfl, by rw [HR.out]; exact ⟨HB.out, hlen⟩, Below.refl _ _⟩, KeepB.refl _ _⟩
    · subst he
      have HR := Lib.hid (show failR ⟨s, 0⟩ e1 = ⟨emptyS, e1⟩ from if_pos ⟨rfl, h1⟩)
      have d1 : (e1 != 0) = true := by simpa using h1
      have hs1 := Blk.set HB.out 1 (.int .i64 e1)
      have hs2 := Blk.set hs1 0 (.string emptyS)
      have HS := Lib.hid hs2
      have HBL := Lib.hid (And.intro (below_set (below_set (Below.refl B w) (Nat.le_refl B) 1 (.int .i64 e1)) (Nat.le_refl B) 0 (.string emptyS)) (((KeepB.refl (some B) w).set 1 (.int .i64 e1)).set 0 (.string emptyS)))
      clear hs1 hs2 h1
      go_enter Try.func23, Try.ntmps23
      go_wp2_with fail
      go_end0
      exact ⟨⟨rfl, by rw [HR.out]; exact ⟨HS.out, Nat.zero_le _⟩, HBL.out.1⟩, HBL.out.2⟩
  · have HR := Lib.hid (show failR ⟨s, e0⟩ e1 = ⟨s, e0⟩ from if_neg (by simp [he]))
    have d0 : (e0 == 0) = false := by simpa using he
    go_enter Try.func23, Try.ntmps23
    go_wp2_with fail
    go_end0
    exact ⟨⟨rfl, by rw [HR.out]; exact ⟨HB.out, hlen⟩, Below.refl _ _⟩, KeepB.refl _ _⟩
theorem take75K (B : Nat) (x : RdS) (n : Nat) (hn : n ≤ 4611686018427387904) (w : World) (hx : RdAt B w x) :
    Calls Try.prog 75 #[.pointer (some ⟨B, 0, none⟩), .int .i64 (n : Int)] w (fun e w' => Took B w (takeR x n).2 (.string (takeR x n).1) e w' ∧ KeepB (some B) w w') := by
  have HG := Lib.hid (good77 B x w hx)
  have HX := Lib.hid hx
  have c0 : w.cell? ⟨B, 0, none⟩ = some (.string x.s) := Blk.cell hx.blk 0
  have f0 : w.frozen? ⟨B, 0, none⟩ = false := Blk.free hx.blk 0
  have hlen := hx.len
  clear hx
  obtain ⟨s, e0⟩ := x
  simp only at c0 hlen HG HX
  by_cases he : e0 = 0
  · subst he
    by_cases h1 : s.size < n
    · have HR := Lib.hid (show takeR ⟨s, 0⟩ n = (emptyS, ⟨emptyS, 20⟩) from (if_neg (by simp)).trans (if_pos h1))
      have d1 : decide ((s.size : Int) < n) = true := decide_eq_true (by omega)
      have hf := fail23K B ⟨s, 0⟩ 20 w HX.out
      rw [show failR ⟨s, 0⟩ 20 = ⟨emptyS, 20⟩ from if_pos ⟨rfl, by decide⟩] at hf
      have HF := Lib.hid hf
      clear hf
      go_enter Try.func75, Try.ntmps75
      go_wp2_with fail
      refine HG.out.mono ?_
      rintro e w' ⟨rfl, rfl⟩
      go_wp2_with fail
      refine HF.out.mono ?_
      rintro e w1 ⟨⟨rfl, h1, h2⟩, h3⟩
      have HG2 := Lib.hid (good77 B ⟨emptyS, 20⟩ w1 h1)
      have H12 := Lib.hid (And.intro h1 (And.intro h2 h3))
      clear h1 h2 h3
      go_wp2_with fail
      refine HG2.out.mono ?_
      rintro e w' ⟨rfl, rfl⟩
      go_wp2_with fail
      go_ret
      exact ⟨⟨by rw [HR.out]; rfl, by rw [HR.out]; exact H12.out.1, H12.out.2.1⟩, H12.out.2.2⟩
    · have HR := Lib.hid (show takeR ⟨s, 0⟩ n = (s.extract 0 n, ⟨s.extract n s.size, 0⟩) from (if_neg (by simp)).trans (if_neg h1))
      have d1 : decide ((s.size : Int) < n) = false := decide_eq_false (by omega)
      have d2 : (n : Int) ≤ s.size := by omega
      have hs1 := Blk.set HX.out.blk 0 (.string (s.extract n s.size))
      have HS := Lib.hid (show RdAt B (w.setCell ⟨B, 0, none⟩ (.string (s.extract n s.size))) ⟨s.extract n s.size, 0⟩ from ⟨hs1, by show (s.extract n s.size).size ≤ _; rw [ByteArray.size_extract]; omega⟩)
      have HBL := Lib.hid (And.intro (below_set (Below.refl B w) (Nat.le_refl B) 0 (.string (s.extract n s.size))) ((KeepB.refl (some B) w).set 0 (.string (s.extract n s.size))))
      clear hs1
      go_enter Try.func75, Try.ntmps75
      go_wp2_with fail
      refine HG.out.mono ?_
      rintro e w' ⟨rfl, rfl⟩
      go_wp2_with fail
      refine HG.out.mono ?_
      rintro e w' ⟨rfl, rfl⟩
      go_wp2_with fail
      go_ret
      exact ⟨⟨by rw [HR.out]; rfl, by rw [HR.out]; exact HS.out, HBL.out.1⟩, HBL.out.2⟩
  · have HR := Lib.hid (show takeR ⟨s, e0⟩ n = (emptyS, ⟨s, e0⟩) from if_pos he)
    have d0 : (e0 == 0) = false := by simpa using he
    rw [d0] at HG
    go_enter Try.func75, Try.ntmps75
    go_wp2_with fail
    refine HG.out.mono ?_
    rintro e w' ⟨rfl, rfl⟩
    go_wp2_with fail
    refine HG.out.mono ?_
    rintro e w' ⟨rfl, rfl⟩
    go_wp2_with fail
    go_ret
    exact ⟨⟨by rw [HR.out]; rfl, by rw [HR.out]; exact HX.out, Below.refl _ _⟩, KeepB.refl _ _⟩

theorem good77O (b : Option Nat) (x : RdS) (w : World) (hx : RdO b w x) : Calls Try.prog 77 #[wptr b] w fun e w' => e = .returned (.bool (x.e == 0)) ∧ w = w' := by
  cases b with
  | none => have hx : x = ⟨emptyS, 1⟩ := hx; subst hx; exact good77_nil w
  | some B => exact good77 B x w hx
theorem fail23O (b : Option Nat) (x : RdS) (e1 : Int) (w : World) (hx : RdO b w x) : Calls Try.prog 23 #[wptr b, .int .i64 e1] w (TookO b w (failR x e1) (.tuple #[])) := by
  cases b with
  | none =>
    have hx : x = ⟨emptyS, 1⟩ := hx
    subst hx
    exact (fail23_nil e1 w).mono fun e w' ⟨h1, h2⟩ => ⟨h1, if_neg (by simp), by rw [← h2]; exact KeepB.refl _ _⟩
  | some B => exact (fail23K B x e1 w hx).mono fun e w' h => TookO.of h
theorem take75O (b : Option Nat) (x : RdS) (n : Nat) (hn : n ≤ 4611686018427387904) (w : World) (hx : RdO b w x) :
    Calls Try.prog 75 #[wptr b, .int .i64 (n : Int)] w (TookO b w (takeR x n).2 (.string (takeR x n).1)) := by
  cases b with
  | none =>
    have hx : x = ⟨emptyS, 1⟩ := hx
    subst hx
    exact (take75_nil n w).mono fun e w' ⟨h1, h2⟩ => ⟨h1, rfl, by rw [← h2]; exact KeepB.refl _ _⟩
  | some B => exact (take75K B x n hn w hx).mono fun e w' h => TookO.of h
def leftR (x : RdS) : Nat := x.s.size
theorem left28O (b : Option Nat) (x : RdS) (w : World) (hx : RdO b w x) : Calls Try.prog 28 #[wptr b] w fun e w' => e = .returned (.int .i64 (x.s.size : Int)) ∧ w = w' := by
  cases b with
  | none =>
    have hx : x = ⟨emptyS, 1⟩ := hx
    subst hx
    show Calls Try.prog 28 #[.pointer none] w _
    go_enter Try.func28, Try.ntmps28
    go_wp2_with fail
    go_ret
    exact ⟨rfl, rfl⟩
  | some B =>
    have c0 : w.cell? ⟨B, 0, none⟩ = some (.string x.s) := Blk.cell (RdAt.blk hx) 0
    show Calls Try.prog 28 #[.pointer (some ⟨B, 0, none⟩)] w _
    clear hx
    go_enter Try.func28, Try.ntmps28
    go_wp2_with fail
    go_ret
    exact ⟨rfl, rfl⟩
theorem done29O (b : Option Nat) (x : RdS) (w : World) (hx : RdO b w x) : Calls Try.prog 29 #[wptr b] w fun e w' => e = .returned (.int .i64 (endR x)) ∧ w = w' := by
  cases b with
  | none =>
    have hx : x = ⟨emptyS, 1⟩ := hx
    subst hx
    show Calls Try.prog 29 #[.pointer none] w _
    go_enter Try.func29, Try.ntmps29
    go_wp2_with fail
    go_ret
    exact ⟨rfl, rfl⟩
  | some B => exact done29 B x w hx
def byteR (x : RdS) : Nat := deS (takeR x 1).1 % 256
theorem byte32O (b : Option Nat) (x : RdS) (w : World) (hx : RdO b w x) :
    Calls Try.prog 32 #[wptr b] w (TookO b w (takeR x 1).2 (.int .u8 ((byteR x : Nat) : Int))) := by
  have HT := Lib.hid (take75O b x 1 (by omega) w hx)
  have hl := (takeR_len (x := x) 1 hx.len).2
  have HN := Lib.hid (fun w => number40 (takeR x 1).1 w (by omega))
  clear hx hl
  unfold byteR
  go_enter Try.func32, Try.ntmps32
  go_wp2_with fail
  refine HT.out.mono ?_
  rintro e w1 ⟨rfl, h1, h2⟩
  have H12 := Lib.hid (And.intro h1 h2)
  clear h1 h2
  go_wp2_with fail
  refine (HN.out w1).mono ?_
  rintro e w' ⟨rfl, rfl⟩
  go_wp2_with fail
  go_ret
  exact ⟨rfl, H12.out.1, H12.out.2⟩
/-- eight bytes as a number with its sign -/
def i64of (n : Nat) : Int := wrap64 (n : Int)
def intR (x : RdS) : Int := i64of (deS (takeR x 8).1)
theorem int58O (b : Option Nat) (x : RdS) (w : World) (hx : RdO b w x) :
    Calls Try.prog 58 #[wptr b] w (TookO b w (takeR x 8).2 (.int .i64 (intR x))) := by
  have HT := Lib.hid (take75O b x 8 (by omega) w hx)
  have hl := (takeR_len (x := x) 8 hx.len).2
  have HN := Lib.hid (fun w => number40 (takeR x 8).1 w (by omega))
  clear hx hl
  unfold intR i64of
  go_enter Try.func58, Try.ntmps58
  go_wp2_with fail
  refine HT.out.mono ?_
  rintro e w1 ⟨rfl, h1, h2⟩
  have H12 := Lib.hid (And.intro h1 h2)
  clear h1 h2
  go_wp2_with fail
  refine (HN.out w1).mono ?_
  rintro e w' ⟨rfl, rfl⟩
  go_wp2_with fail
  go_ret
  exact ⟨rfl, H12.out.1, H12.out.2⟩
/-- a number of things, to a most -/
def countR (x : RdS) (most : Int) : Int × RdS :=
  let t := takeR x 4
  let y := if most < (deS t.1 : Int) then failR t.2 23 else t.2
  (if y.e = 0 then (deS t.1 : Int) else 0, y)
set_option maxHeartbeats 4000000 in
theorem count59O (b : Option Nat) (x : RdS) (most : Int) (w : World) (hx : RdO b w x) :
    Calls Try.prog 59 #[wptr b, .int .i64 most] w (TookO b w (countR x most).2 (.int .i64 (countR x most).1)) := by
  have hT := take75O b x 4 (by omega) w hx
  have hl := (takeR_len (x := x) 4 hx.len).2
  have hd := deS_4 hl
  have hN := fun w => number40 (takeR x 4).1 w (by omega)
  have HR := Lib.hid (show countR x most = (let y := if most < (deS (takeR x 4).1 : Int) then failR (takeR x 4).2 23 else (takeR x 4).2; (if y.e = 0 then (deS (takeR x 4).1 : Int) else 0, y)) from rfl)
  obtain ⟨n, hn⟩ : ∃ n, deS (takeR x 4).1 = n := ⟨_, rfl⟩
  rw [hn] at hN hd HR
  obtain ⟨t, ht⟩ : ∃ t, takeR x 4 = t := ⟨_, rfl⟩
  rw [ht] at hT HR hN hl
  obtain ⟨a, y⟩ := t
  simp only at hT HR hN hl
  have HT := Lib.hid hT
  have HN := Lib.hid hN
  have hnw : IntKind.i64.wrap (n : Int) = (n : Int) := IntWalk.i64_in _ (by omega)
  clear hx hN hn ht hT
  by_cases hm : most < n
  · have hmI : decide (most < (n : Int)) = true := decide_eq_true hm
    rw [if_pos hm] at HR
    have HF := Lib.hid (fun w h => fail23O b y 23 w h)
    obtain ⟨z, hz⟩ : ∃ z, failR y 23 = z := ⟨_, rfl⟩
    rw [hz] at HF HR
    clear hz hm
    go_enter Try.func59, Try.ntmps59
    go_wp2_with fail
    refine HT.out.mono ?_
    rintro e w1 ⟨rfl, h1, h2⟩
    have HF2 := Lib.hid (HF.out w1 h1)
    have H12 := Lib.hid h2
    clear h1 h2
    go_wp2_with fail
    refine (HN.out w1).mono ?_
    rintro e w' ⟨rfl, rfl⟩
    go_wp2_with fail
    refine HF2.out.mono ?_
    rintro e w2 ⟨rfl, h1, h2⟩
    have H2 := Lib.hid (And.intro h1 (H12.out.trans h2))
    have HG := Lib.hid (good77O b z w2 h1)
    clear h1 h2
    go_wp2_with fail
    refine HG.out.mono ?_
    rintro e w' ⟨rfl, rfl⟩
    by_cases he : z.e = 0
    · have he2 : (z.e == 0) = true := by simpa using he
      rw [if_pos he] at HR
      go_wp2_with fail
      go_ret
      exact ⟨by rw [HR.out]; rfl, by rw [HR.out]; exact H2.out.1, H2.out.2⟩
    · have he2 : (z.e == 0) = false := by simpa using he
      rw [if_neg he] at HR
      go_wp2_with fail
      go_ret
      exact ⟨by rw [HR.out]; rfl, by rw [HR.out]; exact H2.out.1, H2.out.2⟩
  · have hmI : decide (most < (n : Int)) = false := decide_eq_false hm
    rw [if_neg hm] at HR
    go_enter Try.func59, Try.ntmps59
    go_wp2_with fail
    refine HT.out.mono ?_
    rintro e w1 ⟨rfl, h1, h2⟩
    have H2 := Lib.hid (And.intro h1 h2)
    have HG := Lib.hid (good77O b y w1 h1)
    clear h1 h2
    go_wp2_with fail
    refine (HN.out w1).mono ?_
    rintro e w' ⟨rfl, rfl⟩
    go_wp2_with fail
    refine HG.out.mono ?_
    rintro e w' ⟨rfl, rfl⟩
    by_cases he : y.e = 0
    · have he2 : (y.e == 0) = true := by simpa using he
      rw [if_pos he] at HR
      go_wp2_with fail
      go_ret
      exact ⟨by rw [HR.out]; rfl, by rw [HR.out]; exact H2.out.1, H2.out.2⟩
    · have he2 : (y.e == 0) = false := by simpa using he
      rw [if_neg he] at HR
      go_wp2_with fail
      go_ret
      exact ⟨by rw [HR.out]; rfl, by rw [HR.out]; exact H2.out.1, H2.out.2⟩
end Go.Proofs.Ytocanbdpdnkapaa
