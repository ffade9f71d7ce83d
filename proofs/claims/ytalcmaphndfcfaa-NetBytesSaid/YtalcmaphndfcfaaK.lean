/- The answers that the document fixes. -/
import Derived.Test.YtalcmaphndfcfaaJ
namespace Go.Proofs.Ytalcmaphndfcfaa
open Go.RowKit Go.Maps
set_option linter.unusedVariables false
set_option linter.unusedSimpArgs false

def hello : ByteArray := ⟨#[104, 101, 108, 108, 111]⟩
def hel : ByteArray := ⟨#[104, 101, 108]⟩
def loB : ByteArray := ⟨#[108, 111]⟩

theorem upd_one {x c : Cn} (h : x.num = c.num) : updC [x] c = [c] := by simp [updC, h]
theorem find_one {c : Cn} {x : Int} (h : c.num = x) : findC [c] x = some c := by simp [findC, h]
theorem Turn.toBelow {w w' : World} (h : Turn (fun k => w.heap.size ≤ k) w w') : Below w.heap.size w w' := h.below (Nat.le_refl _) (fun k hk h => by omega)

theorem b1 : e0 ++ hello.extract 0 5 = hello := by rfl
theorem b2 : e0 ++ hello.extract 0 3 = hel := by rfl
theorem b3 : hello.extract 3 hello.size = loB := by rfl
theorem b4 : hel.extract 0 3 = hel := by rfl
theorem b5 : hel.extract 3 hel.size = e0 := by rfl
def cnA (b : Nat) : Cn := ⟨1, b, e0, e0, false, false, e0, hello, false, false, false⟩
def cnB (b : Nat) : Cn := ⟨1, b, e0, e0, false, false, hel, loB, false, false, false⟩
def cnC (b : Nat) : Cn := ⟨1, b, e0, e0, false, false, e0, loB, false, false, false⟩

set_option maxRecDepth 100000 in
set_option maxHeartbeats 4000000 in
theorem awake7 (w : World) : Calls Try.prog 7 #[] w fun e w' => e = .returned (.bool true) ∧ Below w.heap.size w w' := by
  go_enter Try.func7, Try.ntmps7
  go_wp2_with fail
  refine (new8 w (fun k => w.heap.size ≤ k) (Nat.le_refl _)).mono ?_
  rintro e w1 ⟨rfl, hN, hT, -⟩
  obtain ⟨bn, hbn⟩ : ∃ bn, w.heap.size = bn := ⟨_, rfl⟩
  have hT1 : Turn (fun k => w.heap.size ≤ k) w w1 := hT.mono (fun _ _ h => h.elim)
  have ht1 := hT1.size
  rw [hbn] at hN hT1 ht1 ⊢
  clear hT
  go_wp2_with fail
  refine (open9_ok hN (by simp) (by omega) (by simp)).mono ?_
  rintro e w2 ⟨rfl, b, hN2, hT2, hb⟩
  replace hN2 : NetAt (fun k => bn ≤ k) w2 bn 1 [newCn 1 b] := hN2.mono (fun k _ h => by omega)
  have hT3 := hT1.trans hT2
  clear hN hT1 hT2
  go_wp2_with fail
  refine (send10_ok0 hN2 1 hello (by decide) (find_one rfl) rfl rfl 5 rfl (by decide)).mono ?_
  rintro e w3 ⟨rfl, hN3, hT4⟩
  replace hN3 : NetAt (fun k => bn ≤ k) w3 bn 1 [cnA b] := by rw [upd_one] at hN3; exact hN3; rfl
  have hT5 := hT3.trans hT4
  clear hN2 hT3 hT4
  go_wp2_with fail
  refine (show Calls Try.prog 12 #[.pointer (some ⟨bn, 0, none⟩), .int .i64 1, .int .i64 1, .int .i64 9] w3 fun e w' => e = .returned (.tuple #[.string ⟨#[]⟩, .int .i64 15]) ∧ w3 = w' from take12_none1 hN3 1 9 (by decide) (find_one rfl) rfl rfl).mono ?_
  rintro e w' ⟨rfl, rfl⟩
  go_wp2_with fail
  refine (move11_ok1 hN3 1 3 (by decide) (find_one rfl) rfl 3 rfl).mono ?_
  rintro e w4 ⟨rfl, hN4, hT6⟩
  replace hN4 : NetAt (fun k => bn ≤ k) w4 bn 1 [cnB b] := by rw [upd_one] at hN4; exact hN4; rfl
  have hT7 := hT5.trans hT6
  clear hN3 hT5 hT6
  go_wp2_with fail
  refine (take12_ok1 hN4 1 9 (by decide) (find_one rfl) rfl (show 0 < hel.size by decide) 3 rfl).mono ?_
  rintro e w5 ⟨rfl, hN5, hT8⟩
  replace hN5 : NetAt (fun k => bn ≤ k) w5 bn 1 [cnC b] := by rw [upd_one, leave_no] at hN5; exact hN5; rfl; rfl
  have hT9 := hT7.trans hT8
  clear hN4 hT7 hT8
  go_wp2_with fail
  refine (waits15_ok1 hN5 1 (by decide) (find_one rfl)).mono ?_
  rintro e w6 ⟨rfl, n, rfl⟩
  have hN6 := hN5.drewN n
  have hT10 := hT9.drewN n
  obtain ⟨w6, hw6⟩ : ∃ w6, w6 = w5.drewN n := ⟨_, rfl⟩
  rw [← hw6] at hN6 hT10 ⊢
  clear hN5 hT9 hw6
  have q1 : (cnB b).th1.extract 0 3 = hel := by rfl
  have q2 : ((cnC b).un1.size : Int) = 2 := by rfl
  have q3 : ((cnC b).th1.size : Int) = 0 := by rfl
  rw [q1, q2, q3]
  clear q1 q2 q3
  have HC := Lib.hid (cut13_ok hN6 1 (by decide) (find_one rfl) rfl)
  have HT := Lib.hid hT10
  clear hN6 hT10
  trace_state
  unfold hel
  go_wp2_with fail
  refine HC.out.mono ?_
  rintro e w7 ⟨rfl, hN7, hT11⟩
  replace hN7 : NetAt (fun k => bn ≤ k) w7 bn 1 [(cnC b).cutOff] := by rw [upd_one] at hN7; exact hN7; rfl
  go_wp2_with fail
  refine (cut13_twice hN7 1 (by decide) (find_one rfl) rfl).mono ?_
  rintro e w' ⟨rfl, rfl⟩
  go_wp2_with fail
  go_ret
  refine ⟨rfl, ?_⟩
  have := HT.out.trans hT11
  rw [← hbn] at this
  exact this.toBelow
end Go.Proofs.Ytalcmaphndfcfaa
