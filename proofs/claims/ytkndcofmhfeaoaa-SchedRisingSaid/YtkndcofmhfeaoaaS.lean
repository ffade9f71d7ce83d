/- Some answers that the document fixes; no scheduler. -/
import Derived.Test.YtkndcofmhfeaoaaR
namespace Go.Proofs.Ytkndcofmhfeaoaa
open Go.RowKit Go.Maps
set_option linter.unusedVariables false
set_option linter.unusedSimpArgs false
/-- a scheduler whose blocks were all made behind w -/
def Own (w : World) (S : Nat) (w1 : World) (s : SchedP) : Prop := ∃ G, SQ G S w1 s ∧ (∀ k, G k → w.heap.size ≤ k) ∧ Below w.heap.size w w1
section
variable {w w1 w2 : World} {S : Nat} {s s2 : SchedP}
theorem Own.new (w : World) : Own w w.heap.size (w.alloc (Obj.cells #[.int .i64 0, .map none, .map none, .map none] 57)) zeroP :=
  ⟨_, SQ.new w, (fun k hk => by omega), (Below.refl _ w).alloc (Nat.le_refl _) _⟩
theorem Own.calls {P : Ending → Prop} {f : FuncId} {args : Array Value} (h : Own w S w1 s) (hc : ∀ G, SQ G S w1 s → Calls Try.prog f args w1 fun e w2 => P e ∧ SQ (Fn G w1 w2) S w2 s2 ∧ Turn G w1 w2) : Calls Try.prog f args w1 fun e w2 => P e ∧ Own w S w2 s2 := by
  obtain ⟨G, hq, hG, hB⟩ := h
  refine (hc G hq).mono ?_
  rintro e w2 ⟨h1, h2, h3⟩
  refine ⟨h1, _, h2, fun k hk => ?_, ?_⟩
  · rcases hk with hk | hk
    · exact hG k hk
    · have := hB.size; omega
  · exact ⟨h3.os.trans hB.os, h3.tape.trans hB.tape, h3.output.trans hB.output, Nat.le_trans hB.size h3.size, fun k hk => (h3.block k (Nat.lt_of_lt_of_le hk hB.size) (fun e => by have := hG k e; omega)).trans (hB.block k hk)⟩
theorem Own.below (h : Own w S w1 s) (hb : Below w1.heap.size w1 w2) : Own w S w2 s := by
  obtain ⟨G, hq, hG, hB⟩ := h
  exact ⟨G, hq.below hb, hG, hB.trans (hb.mono hB.size)⟩
theorem Own.start (h : Own w S w1 s) (hm : s.made < 4611686018427387904) : Calls Try.prog 11 #[.pointer (some ⟨S, 0, none⟩)] w1 fun e w2 => e = .returned (.tuple #[.int .i64 (startV s).1, .int .i64 (startV s).2]) ∧ Own w S w2 (startP s) := h.calls fun G hq => start11 hq hm
theorem Own.lock (h : Own w S w1 s) {x n : Int} (hx : (Lit.int .i64 x).wf = true) (hn : (Lit.int .i64 n).wf = true) (hn2 : n ≤ 9223372036854775807) (hl : s.locks.length < 4611686018427387904) : Calls Try.prog 12 #[.pointer (some ⟨S, 0, none⟩), .int .i64 x, .int .i64 n] w1 fun e w2 => e = .returned (.tuple #[.bool (lockV s x n).1, .int .i64 (lockV s x n).2]) ∧ Own w S w2 (lockP s x n) := h.calls fun G hq => lock12 hq hx hn hn2 hl
theorem Own.unlock (h : Own w S w1 s) {x n : Int} (hx : (Lit.int .i64 x).wf = true) (hn : (Lit.int .i64 n).wf = true) (hm : s.made < 4611686018427387904) : Calls Try.prog 15 #[.pointer (some ⟨S, 0, none⟩), .int .i64 x, .int .i64 n] w1 fun e w2 => e = .returned (.int .i64 (unlockE s x n)) ∧ Own w S w2 (unlockP s x n) := h.calls fun G hq => unlock15 hq hx hn (.inr trivial) hm
theorem Own.pick (h : Own w S w1 s) {n : Int} (hn : -9223372036854775808 ≤ n ∧ n ≤ 9223372036854775807) (hm : s.made < 4611686018427387904) (hpk : ∀ p ∈ s.tasks, 0 ≤ p.2.picks ∧ p.2.picks < 4611686018427387904) : Calls Try.prog 17 #[.pointer (some ⟨S, 0, none⟩), .int .i64 n] w1 fun e w2 => e = .returned (.tuple #[.int .i64 (pickV s n).1, .bool (pickV s n).2]) ∧ Own w S w2 (pickP s n) := h.calls fun G hq => pick17 hq hm hn hpk
theorem Own.fin (h : Own w S w1 s) {x : Int} (hx : (Lit.int .i64 x).wf = true) (hm : s.made < 4611686018427387904) (hl : s.locks.length ≤ 4096) : Calls Try.prog 18 #[.pointer (some ⟨S, 0, none⟩), .int .i64 x] w1 fun e w2 => e = .returned (.int .i64 (readyE s x 0)) ∧ Own w S w2 (endP s x) := h.calls fun G hq => end18 hq hm hl hx
theorem Own.await (h : Own w S w1 s) {x n : Int} (hx : (Lit.int .i64 x).wf = true) (hn : (Lit.int .i64 n).wf = true) : Calls Try.prog 25 #[.pointer (some ⟨S, 0, none⟩), .int .i64 x, .int .i64 n] w1 fun e w2 => e = .returned (.tuple #[.bool (awaitV s x n).1, .int .i64 (awaitV s x n).2]) ∧ Own w S w2 (awaitP s x n) := h.calls fun G hq => await25 hq hx hn
theorem Own.open (h : Own w S w1 s) {n : Int} (hn : (Lit.int .i64 n).wf = true) (hm : s.made < 4611686018427387904) (ho : s.opened.length < 4611686018427387904) : Calls Try.prog 26 #[.pointer (some ⟨S, 0, none⟩), .int .i64 n] w1 fun e w2 => e = .returned (.int .i64 (openV s n)) ∧ Own w S w2 (openP s n) := h.calls fun G hq => open26 hq hm ho hn
theorem Own.ready (h : Own w S w1 s) (hm : s.made < 4611686018427387904) : Calls Try.prog 14 #[.pointer (some ⟨S, 0, none⟩)] w1 fun e w2 => ∃ a c, e = .returned (.slice a (readyL s).length c) ∧ Own w S w2 s := by
  obtain ⟨G, hq, hr⟩ := id h
  refine (ready14 hq hm).mono ?_
  rintro e w2 ⟨v, rfl, ho, hb⟩
  obtain ⟨a, c, rfl⟩ := owns_form ho
  exact ⟨a, c, rfl, h.below hb⟩
theorem Own.stuck (h : Own w S w1 s) (hm : s.made < 4611686018427387904) : Calls Try.prog 16 #[.pointer (some ⟨S, 0, none⟩)] w1 fun e w2 => e = .returned (.bool (stuckP s)) ∧ Own w S w2 s := by
  obtain ⟨G, hq, hr⟩ := id h
  exact (stuck16 hq hm).mono fun e w2 hh => ⟨hh.1, h.below hh.2⟩
theorem Own.holder (h : Own w S w1 s) {n : Int} (hn : (Lit.int .i64 n).wf = true) : Calls Try.prog 13 #[.pointer (some ⟨S, 0, none⟩), .int .i64 n] w1 fun e w2 => e = .returned (.int .i64 (holderP s n)) ∧ w1 = w2 := by
  obtain ⟨G, hq, hr⟩ := id h
  exact holder13 hq hn
theorem Own.picks (h : Own w S w1 s) {n : Int} (hn : (Lit.int .i64 n).wf = true) : Calls Try.prog 19 #[.pointer (some ⟨S, 0, none⟩), .int .i64 n] w1 fun e w2 => e = .returned (.int .i64 (picksP s n)) ∧ w1 = w2 := by
  obtain ⟨G, hq, hr⟩ := id h
  exact picks19 hq hn
end
def b1 : SchedP := ⟨1, [(1, ⟨0, none, -1⟩)], [], []⟩
def b2 : SchedP := ⟨2, [(1, ⟨0, none, -1⟩), (2, ⟨0, none, -1⟩)], [], []⟩
def b3 : SchedP := ⟨2, [(1, ⟨0, none, -1⟩), (2, ⟨1, none, -1⟩)], [], []⟩
def b4 : SchedP := ⟨2, [(1, ⟨0, none, -1⟩), (2, ⟨1, none, -1⟩)], [(7, ⟨1, []⟩)], []⟩
def b5 : SchedP := ⟨2, [(1, ⟨0, none, -1⟩), (2, ⟨1, some 7, -1⟩)], [(7, ⟨1, [2]⟩)], []⟩
def b6 : SchedP := ⟨2, [(1, ⟨0, none, -1⟩), (2, ⟨1, none, -1⟩)], [(7, ⟨2, []⟩)], []⟩
set_option maxRecDepth 100000 in
theorem awake9 (w : World) : Calls Try.prog 9 #[] w fun e w' => e = .returned (.bool true) ∧ Below w.heap.size w w' := by
  have H10 := Lib.hid (new10 w)
  have HQ0 := Lib.hid (Own.new w)
  go_enter Try.func9, Try.ntmps9
  go_wp2_with fail
  refine H10.out.mono ?_
  rintro e w0 ⟨rfl, hw0⟩
  rw [← hw0] at HQ0
  obtain ⟨S, hS⟩ : ∃ S, S = w.heap.size := ⟨_, rfl⟩
  rw [← hS] at HQ0 ⊢
  clear H10 hw0 hS
  go_wp2_with fail
  have HC := Lib.hid (show Calls Try.prog 11 #[(.pointer (some ⟨S, 0, none⟩))] w0 (fun e w2 => e = .returned (.tuple #[.int .i64 1, .int .i64 0]) ∧ Own w S w2 b1) from HQ0.out.start (by decide))
  refine HC.out.mono ?_
  rintro e w1 ⟨rfl, hq⟩
  have HQ1 := Lib.hid hq
  clear hq HC
  go_wp2_with fail
  have HC := Lib.hid (show Calls Try.prog 11 #[(.pointer (some ⟨S, 0, none⟩))] w1 (fun e w2 => e = .returned (.tuple #[.int .i64 2, .int .i64 0]) ∧ Own w S w2 b2) from HQ1.out.start (by decide))
  refine HC.out.mono ?_
  rintro e w2 ⟨rfl, hq⟩
  have HQ2 := Lib.hid hq
  clear hq HC
  go_wp2_with fail
  have HC := Lib.hid (show Calls Try.prog 17 #[(.pointer (some ⟨S, 0, none⟩)), .int .i64 (3)] w2 (fun e w2 => e = .returned (.tuple #[.int .i64 2, .bool true]) ∧ Own w S w2 b3) from HQ2.out.pick (by omega) (by decide) (fun p hp => by simp [b2] at hp; rcases hp with rfl | rfl <;> decide))
  refine HC.out.mono ?_
  rintro e w3 ⟨rfl, hq⟩
  have HQ3 := Lib.hid hq
  clear hq HC
  go_wp2_with fail
  have HC := Lib.hid (show Calls Try.prog 12 #[(.pointer (some ⟨S, 0, none⟩)), .int .i64 (1), .int .i64 (7)] w3 (fun e w2 => e = .returned (.tuple #[.bool true, .int .i64 0]) ∧ Own w S w2 b4) from HQ3.out.lock (by decide) (by decide) (by omega) (by decide))
  refine HC.out.mono ?_
  rintro e w4 ⟨rfl, hq⟩
  have HQ4 := Lib.hid hq
  clear hq HC
  go_wp2_with fail
  have HC := Lib.hid (show Calls Try.prog 12 #[(.pointer (some ⟨S, 0, none⟩)), .int .i64 (2), .int .i64 (7)] w4 (fun e w2 => e = .returned (.tuple #[.bool false, .int .i64 0]) ∧ Own w S w2 b5) from HQ4.out.lock (by decide) (by decide) (by omega) (by decide))
  refine HC.out.mono ?_
  rintro e w5 ⟨rfl, hq⟩
  have HQ5 := Lib.hid hq
  clear hq HC
  go_wp2_with fail
  have HC := Lib.hid (show Calls Try.prog 14 #[(.pointer (some ⟨S, 0, none⟩))] w5 (fun e w2 => ∃ a c, e = .returned (.slice a 1 c) ∧ Own w S w2 b5) from HQ5.out.ready (by decide))
  refine HC.out.mono ?_
  rintro e w6 ⟨a, c, rfl, hq⟩
  have HQ6 := Lib.hid hq
  clear hq HC
  go_wp2_with fail
  have HC := Lib.hid (show Calls Try.prog 15 #[(.pointer (some ⟨S, 0, none⟩)), .int .i64 (1), .int .i64 (7)] w6 (fun e w2 => e = .returned (.int .i64 0) ∧ Own w S w2 b6) from HQ6.out.unlock (by decide) (by decide) (by decide))
  refine HC.out.mono ?_
  rintro e w7 ⟨rfl, hq⟩
  have HQ7 := Lib.hid hq
  clear hq HC
  go_wp2_with fail
  have HC := Lib.hid (show Calls Try.prog 13 #[(.pointer (some ⟨S, 0, none⟩)), .int .i64 (7)] w7 (fun e w2 => e = .returned (.int .i64 2) ∧ w7 = w2) from HQ7.out.holder (by decide))
  refine HC.out.mono ?_
  rintro e wz ⟨rfl, rfl⟩
  clear HC
  go_wp2_with fail
  have HC := Lib.hid (show Calls Try.prog 19 #[(.pointer (some ⟨S, 0, none⟩)), .int .i64 (2)] w7 (fun e w2 => e = .returned (.int .i64 1) ∧ w7 = w2) from HQ7.out.picks (by decide))
  refine HC.out.mono ?_
  rintro e wz ⟨rfl, rfl⟩
  clear HC
  go_wp2_with fail
  have HC := Lib.hid (show Calls Try.prog 16 #[(.pointer (some ⟨S, 0, none⟩))] w7 (fun e w2 => e = .returned (.bool false) ∧ Own w S w2 b6) from HQ7.out.stuck (by decide))
  refine HC.out.mono ?_
  rintro e w8 ⟨rfl, hq⟩
  have HQ8 := Lib.hid hq
  clear hq HC
  go_wp2_with fail
  have HC := Lib.hid (show Calls Try.prog 18 #[(.pointer (some ⟨S, 0, none⟩)), .int .i64 (9)] w8 (fun e w2 => e = .returned (.int .i64 18) ∧ Own w S w2 b6) from HQ8.out.fin (by decide) (by decide) (by decide))
  refine HC.out.mono ?_
  rintro e w9 ⟨rfl, hq⟩
  have HQ9 := Lib.hid hq
  clear hq HC
  go_wp2_with fail
  go_ret
  obtain ⟨G, -, -, hB⟩ := HQ9.out
  exact ⟨rfl, hB⟩
end Go.Proofs.Ytkndcofmhfeaoaa
