/- A reader that may be nil: Text, several. -/
import Derived.Test.YtocanbdpdnkapaaX
namespace Go.Proofs.Ytocanbdpdnkapaa
open Go.RowKit
set_option linter.unusedVariables false
set_option linter.unusedSimpArgs false

theorem RdO.good {b : Option Nat} {w : World} {x : RdS} (h : RdO b w x) (he : x.e = 0) : ∃ B, b = some B ∧ RdAt B w x := by
  cases b with
  | none => have h : x = ⟨emptyS, 1⟩ := h; subst h; cases he
  | some B => exact ⟨B, rfl, h⟩
set_option maxHeartbeats 4000000 in
theorem text35K (B : Nat) (x : RdS) (w : World) (hx : RdAt B w x) :
    Calls Try.prog 35 #[.pointer (some ⟨B, 0, none⟩)] w (TookO (some B) w (textR x).2 (.string (textR x).1)) := by
  have HT := Lib.hid (take75O (some B) x 4 (by omega) w hx)
  have hl := takeR_len (x := x) 4 hx.len
  have HN := fun w => number40 (takeR x 4).1 w (by omega)
  have hd := deS_4 hl.2
  have HTX := Lib.hid (show textR x = takeR (takeR x 4).2 (deS (takeR x 4).1) from rfl)
  obtain ⟨n, hn⟩ : ∃ n, deS (takeR x 4).1 = n := ⟨_, rfl⟩
  rw [hn] at HN hd HTX
  obtain ⟨t, ht⟩ : ∃ t, takeR x 4 = t := ⟨_, rfl⟩
  rw [ht] at HT HTX HN hl
  obtain ⟨a, y⟩ := t
  simp only at HT HTX HN hl
  have HNN := Lib.hid HN
  have hnw : IntKind.i64.wrap (n : Int) = (n : Int) := IntWalk.i64_in _ (by omega)
  clear hx HN hn ht
  go_enter Try.func35, Try.ntmps35
  go_wp2_with fail
  refine HT.out.mono ?_
  rintro e w1 ⟨rfl, h1, h2⟩
  have H12 := Lib.hid (And.intro h1 h2)
  have HG := Lib.hid (good77O (some B) y w1 h1)
  have c0 : w1.cell? ⟨B, 0, none⟩ = some (.string y.s) := Blk.cell (RdAt.blk h1) 0
  clear h1 h2
  go_wp2_with fail
  refine (HNN.out w1).mono ?_
  rintro e w' ⟨rfl, rfl⟩
  go_wp2_with fail
  refine HG.out.mono ?_
  rintro e w' ⟨rfl, rfl⟩
  by_cases he : y.e = 0
  · have he2 : (y.e == 0) = true := by simpa using he
    by_cases hs : y.s.size < n
    · have hsI : decide ((y.s.size : Int) < n) = true := decide_eq_true (by omega)
      have HF := Lib.hid (fail23O (some B) y 20 w1 H12.out.1)
      have HTF := Lib.hid (takeR_fail he hs)
      clear he
      go_wp2_with fail
      refine HF.out.mono ?_
      rintro e w2 ⟨rfl, h1, h2⟩
      have H2 := Lib.hid (H12.out.2.trans h2)
      have HT2 := Lib.hid (take75O (some B) (failR y 20) n (by omega) w2 h1)
      clear h1 h2
      go_wp2_with fail
      refine HT2.out.mono ?_
      rw [HTF.out]
      rintro e w3 ⟨rfl, h1, h2⟩
      have H3 := Lib.hid (And.intro h1 (H2.out.trans h2))
      clear h1 h2
      go_wp2_with fail
      go_ret
      exact ⟨by rw [HTX.out]; rfl, by rw [HTX.out]; exact H3.out.1, H3.out.2⟩
    · have hsI : decide ((y.s.size : Int) < n) = false := decide_eq_false (by omega)
      have HT2 := Lib.hid (take75O (some B) y n (by omega) w1 H12.out.1)
      clear he
      go_wp2_with fail
      refine HT2.out.mono ?_
      rintro e w3 ⟨rfl, h1, h2⟩
      have H3 := Lib.hid (And.intro h1 (H12.out.2.trans h2))
      clear h1 h2
      go_wp2_with fail
      go_ret
      exact ⟨by rw [HTX.out]; rfl, by rw [HTX.out]; exact H3.out.1, H3.out.2⟩
  · have he2 : (y.e == 0) = false := by simpa using he
    have HT2 := Lib.hid (take75O (some B) y n (by omega) w1 H12.out.1)
    clear he
    go_wp2_with fail
    refine HT2.out.mono ?_
    rintro e w3 ⟨rfl, h1, h2⟩
    have H3 := Lib.hid (And.intro h1 (H12.out.2.trans h2))
    clear h1 h2
    go_wp2_with fail
    go_ret
    exact ⟨by rw [HTX.out]; rfl, by rw [HTX.out]; exact H3.out.1, H3.out.2⟩

theorem text35O (b : Option Nat) (x : RdS) (w : World) (hx : RdO b w x) : Calls Try.prog 35 #[wptr b] w (TookO b w (textR x).2 (.string (textR x).1)) := by
  cases b with
  | some B => exact text35K B x w hx
  | none =>
    have hx : x = ⟨emptyS, 1⟩ := hx
    subst hx
    have HT := Lib.hid (fun w => take75O none ⟨emptyS, 1⟩ 4 (by omega) w rfl)
    have HT2 := Lib.hid (fun w => take75O none ⟨emptyS, 1⟩ 0 (by omega) w rfl)
    have HG := Lib.hid (fun w => good77O none ⟨emptyS, 1⟩ w rfl)
    have HN := Lib.hid (fun w => number40 emptyS w (by decide))
    rw [show deS emptyS = 0 from rfl] at HN
    go_enter Try.func35, Try.ntmps35
    go_wp2_with fail
    refine (HT.out w).mono ?_
    rintro e w1 ⟨rfl, -, h2⟩
    have H1 := Lib.hid h2
    clear h2
    rw [show (takeR ⟨emptyS, 1⟩ 4).1 = emptyS from rfl]
    go_wp2_with fail
    refine (HN.out w1).mono ?_
    rintro e w' ⟨rfl, rfl⟩
    go_wp2_with fail
    refine (HG.out w1).mono ?_
    rintro e w' ⟨rfl, rfl⟩
    go_wp2_with fail
    refine (HT2.out w1).mono ?_
    rintro e w2 ⟨rfl, -, h2⟩
    have H2 := Lib.hid (H1.out.trans h2)
    clear h2
    go_wp2_with fail
    go_ret
    exact ⟨rfl, rfl, H2.out⟩

/-- how many things there are -/
def headR (least : Nat) (x : RdS) : Nat × RdS := (deS (takeR x 4).1, if (takeR x 4).2.e = 0 ∧ (takeR x 4).2.s.size / least < deS (takeR x 4).1 then failR (takeR x 4).2 20 else (takeR x 4).2)
def goR {α : Type} (one : RdS → α × RdS) : Nat → RdS → List α × RdS
  | 0, x => ([], x)
  | n + 1, x => if x.e ≠ 0 then ([], x) else ((one x).1 :: (goR one n (one x).2).1, (goR one n (one x).2).2)
def sevR {α : Type} (one : RdS → α × RdS) (least : Nat) (x : RdS) : List α × RdS :=
  (if (goR one (headR least x).1 (headR least x).2).2.e = 0 then (goR one (headR least x).1 (headR least x).2).1 else [], (goR one (headR least x).1 (headR least x).2).2)
theorem goR_err {α : Type} (one : RdS → α × RdS) (n : Nat) {x : RdS} (h : x.e ≠ 0) : goR one n x = ([], x) := by
  cases n with
  | zero => rfl
  | succ n => unfold goR; rw [if_pos h]
theorem goR_ok {α : Type} (one : RdS → α × RdS) (n : Nat) {x : RdS} (h : x.e = 0) : goR one (n + 1) x = ((one x).1 :: (goR one n (one x).2).1, (goR one n (one x).2).2) := by
  rw [goR, if_neg (by simp [h])]
theorem KeepB.appended {b : Option Nat} {w wr w1 : World} {v : Value} {e : TypeId} {size n : Nat} {xs : List Value} (hB : KeepB b w wr)
    (hown : wr.ownsRow w.heap.size e size v n xs) (o : Obj) (hg : (wr.alloc o).grownBy w1 v.ownBlock) : KeepB b w w1 :=
  ⟨hg.os.trans (hB.al o).os, hg.tape.trans (hB.al o).tape, hg.output.trans (hB.al o).output, Nat.le_trans (hB.al o).size hg.size, fun k hk hb =>
    (hg.block k (Nat.lt_of_lt_of_le hk (hB.al o).size) (fun e => by have := (hown.lt k e.symm).1; omega)).trans ((hB.al o).block k hk hb)⟩
theorem RdO.appended {b : Option Nat} {w wr w1 : World} {y : RdS} {v : Value} {e : TypeId} {size n : Nat} {xs : List Value} (h : RdO b wr y) (hb : ∀ B, b = some B → B < w.heap.size) (hs : w.heap.size ≤ wr.heap.size)
    (hown : wr.ownsRow w.heap.size e size v n xs) (o : Obj) (hg : (wr.alloc o).grownBy w1 v.ownBlock) : RdO b w1 y := by
  cases b with
  | none => exact h
  | some B =>
    have hlt := hb B rfl
    have ha := RdO.below (b := some B) h (Below.al (Below.refl _ _) o)
    exact ⟨Blk.grown (RdAt.blk ha) hg (fun e => by have := (hown.lt B e.symm).1; omega), RdAt.len ha⟩
/-- an answer of a reader's: a slice that may be kept -/
def Off (b : Option Nat) (v : Value) : Prop := ∀ g, v.ownBlock = some g → b ≠ some g
end Go.Proofs.Ytocanbdpdnkapaa
