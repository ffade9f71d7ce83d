/- Unlock, Await, Picks; Lock. -/
import Derived.Test.YtkndcofmhfeaoaaI
import Derived.Laws.LoneSync
namespace Go.Proofs.Ytkndcofmhfeaoaa
open Go.RowKit Go.Maps
set_option linter.unusedVariables false
set_option linter.unusedSimpArgs false
set_option maxRecDepth 100000 in
theorem unlock15 {F : Nat → Prop} {S : Nat} {w : World} {s : SchedP} (h : SQ F S w s) {x n : Int} (hx : (Lit.int .i64 x).wf = true) (hn : (Lit.int .i64 n).wf = true) (hx0 : 0 < x ∨ True) (hm : s.made < 4611686018427387904) :
    Calls Try.prog 15 #[.pointer (some ⟨S, 0, none⟩), .int .i64 x, .int .i64 n] w fun e w' => e = .returned (.int .i64 (unlockE s x n)) ∧ SQ (Fn F w w') S w' (unlockP s x n) ∧ Turn F w w' := by
  have H13 := Lib.hid (holder13 h hn)
  have h0 := h
  obtain ⟨wf, L, vt, vl, vo, h⟩ := h
  have c1 : w.cell? ⟨S, 1, none⟩ = some vt := Blk.cell h.blk 1
  have hlk := h.lookT hx
  have HX := Lib.hid (And.intro wf (And.intro h h0))
  have same : SQ (Fn F w w) S w s ∧ Turn F w w := ⟨h0.grow w, Turn.refl _ _⟩
  have HS := Lib.hid same
  unfold unlockP unlockE
  by_cases hneg : n < 0
  · have hd : decide (n < 0) = true := decide_eq_true hneg
    rw [if_pos hneg]
    clear hlk h h0 wf same
    go_enter Try.func15, Try.ntmps15
    go_wp2_with fail
    go_ret
    exact ⟨rfl, HS.out⟩
  · have hd : decide (n < 0) = false := decide_eq_false hneg
    rw [if_neg hneg]
    cases hg : getP s.tasks x with
    | none =>
      rw [hg] at hlk
      simp only [Option.map_none, pv] at hlk
      clear h h0 wf hg same
      go_enter Try.func15, Try.ntmps15
      go_wp2_with fail
      go_ret
      exact ⟨rfl, HS.out⟩
    | some T =>
      rw [hg] at hlk
      simp only [Option.map_some, pv] at hlk
      rw [if_neg (by simp)]
      by_cases hh : holderP s n = x
      · have hd2 : decide (holderP s n = x) = true := decide_eq_true hh
        rw [if_neg (by simpa using hh), if_pos rfl]
        have hK : ∃ K, getP s.locks n = some K := by
          cases hk : getP s.locks n with
          | some K => exact ⟨K, rfl⟩
          | none =>
            have : holderP s n = 0 := by unfold holderP; rw [hk]
            have := (wf.rng _ (getP_mem hg)).1
            simp at this; omega
        obtain ⟨K, hK⟩ := hK
        have HF := Lib.hid (free32 h0 hn hm hK)
        have H13 := H13.out
        rw [hh] at H13
        have H13 := Lib.hid H13
        clear h h0 wf hg same hK hh hd2
        go_enter Try.func15, Try.ntmps15
        go_wp2_with fail
        refine H13.out.mono ?_
        rintro e w1 ⟨rfl, rfl⟩
        go_wp2_with fail
        refine HF.out.mono ?_
        rintro e w1 ⟨rfl, h1⟩
        have H1 := Lib.hid h1
        clear h1
        go_wp2_with fail
        go_ret
        exact ⟨rfl, H1.out⟩
      · have hd2 : decide (holderP s n = x) = false := decide_eq_false hh
        have e : ¬ (19 : Int) = 0 := by decide
        rw [if_pos hh, if_neg e]
        clear h h0 wf hg same
        go_enter Try.func15, Try.ntmps15
        go_wp2_with fail
        refine H13.out.mono ?_
        rintro e w1 ⟨rfl, rfl⟩
        go_wp2_with fail
        go_ret
        exact ⟨rfl, HS.out⟩
theorem SchedQ.uniqT {s : SchedP} (wf : WF s) {x : Int} {T : TaskP} (hT : getP s.tasks x = some T) : ∀ a, (x, a) ∈ s.tasks → a = T := fun a ha => by
  have h1 := getP_of_mem (inc_ne wf.inc) ha
  simp only at h1
  rw [hT] at h1; exact (Option.some.inj h1).symm
theorem SchedQ.uniqL {s : SchedP} (wf : WF s) {x : Int} {T : LockP} (hT : getP s.locks x = some T) : ∀ a, (x, a) ∈ s.locks → a = T := fun a ha => by
  have h1 := getP_of_mem wf.lks ha
  simp only at h1
  rw [hT] at h1; exact (Option.some.inj h1).symm
set_option maxRecDepth 100000 in
theorem await25 {F : Nat → Prop} {S : Nat} {w : World} {s : SchedP} (h : SQ F S w s) {x la : Int} (hx : (Lit.int .i64 x).wf = true) (hla : (Lit.int .i64 la).wf = true) :
    Calls Try.prog 25 #[.pointer (some ⟨S, 0, none⟩), .int .i64 x, .int .i64 la] w fun e w' => e = .returned (.tuple #[.bool (awaitV s x la).1, .int .i64 (awaitV s x la).2]) ∧ SQ (Fn F w w') S w' (awaitP s x la) ∧ Turn F w w' := by
  have wf1 := h.1.await x la
  have HS := Lib.hid (show SQ (Fn F w w) S w s ∧ Turn F w w from ⟨h.grow w, Turn.refl _ _⟩)
  obtain ⟨wf, L, vt, vl, vo, h⟩ := h
  have H28 := Lib.hid (ready28 h (thing := la) hx)
  have c3 : w.cell? ⟨S, 3, none⟩ = some vo := Blk.cell h.blk 3
  have hlk := h.lookO hla
  unfold awaitP awaitV at *
  by_cases hr : readyE s x la = 0
  · rw [if_neg (by simpa using hr)]
    rw [if_neg (by simpa using hr)] at wf1 ⊢
    have H28 := H28.out
    rw [if_pos hr, hr] at H28
    have H28 := Lib.hid H28
    obtain ⟨-, T, hT, hw⟩ := readyE_zero hr
    obtain ⟨hF, o, ho, hb⟩ := h.task _ (getP_mem hT)
    have hb : Blk w (L.tb x) 66 #[.int .i64 T.picks, pv o, .int .i64 T.latch] := hb
    by_cases hin : la ∈ s.opened
    · have hd : decide (la ∈ s.opened) = true := decide_eq_true hin
      rw [if_pos hin]
      rw [hd] at hlk ⊢
      clear h wf wf1 hb ho hT hin
      go_enter Try.func25, Try.ntmps25
      go_wp2_with fail
      refine H28.out.mono ?_
      rintro e w1 ⟨rfl, rfl⟩
      simp only [pv, Option.map_some]
      go_wp2_with fail
      go_ret2
      exact ⟨rfl, HS.out⟩
    · have hd : decide (la ∈ s.opened) = false := decide_eq_false hin
      rw [if_neg hin] at wf1 ⊢
      rw [hd] at hlk ⊢
      have f2 := Blk.free hb 2
      have k2 : w.cell? ⟨L.tb x, 2, none⟩ = some (.int .i64 T.latch) := Blk.cell hb 2
      have h2 := h.setT (x := x) (w' := w.setCell ⟨L.tb x, 2, none⟩ (.int .i64 la)) (fun T => ⟨T.picks, T.lock, la⟩) ((Turn.refl (fun k => k = L.tb x) w).setCell (p := ⟨L.tb x, 2, none⟩) rfl _) (getP_mem hT) (fun a ha => ⟨o, by rw [SchedQ.uniqT wf hT a ha]; exact ho, by rw [SchedQ.uniqT wf hT a ha]; exact Blk.set hb 2 _⟩)
      have HT := Lib.hid (show Turn F w (w.setCell ⟨L.tb x, 2, none⟩ (.int .i64 la)) from (Turn.refl F w).setCell (p := ⟨L.tb x, 2, none⟩) hF _)
      have HR := Lib.hid (And.intro wf1 (And.intro h2 h.lt))
      clear h wf wf1 hb ho hT hin h2
      go_enter Try.func25, Try.ntmps25
      go_wp2_with fail
      refine H28.out.mono ?_
      rintro e w1 ⟨rfl, rfl⟩
      simp only [pv, Option.map_some]
      go_wp2_with fail
      go_ret2
      exact ⟨rfl, ⟨HR.out.1, _, _, _, _, HR.out.2.1.grow w HR.out.2.2⟩, HT.out⟩
  · rw [if_pos hr]
    rw [if_pos hr]
    have H28 := H28.out
    rw [if_neg hr] at H28
    have H28 := Lib.hid H28
    have hd : decide (readyE s x la = 0) = false := decide_eq_false hr
    clear h wf wf1 hlk
    generalize readyE s x la = E at *
    go_enter Try.func25, Try.ntmps25
    go_wp2_with fail
    refine H28.out.mono ?_
    rintro e w1 ⟨rfl, rfl⟩
    simp only [pv, Option.map_none]
    go_wp2_with fail
    go_ret2
    exact ⟨rfl, HS.out⟩
theorem load51 (a : Addr) (x : Int) (w : World) (hc : w.cell? a = some (.int .i64 x)) : (callFunc 51 #[.pointer (some a)]).run Try.prog w = .ok (.value (.int .i64 x)) w :=
  run_call_load (P := Try.prog) Try.func51 (by kernel_rfl) (by kernel_rfl) (by kernel_rfl) .i64 (by kernel_rfl) hc
theorem load36 (a : Nat) (x : Int) (w : World) (hc : w.cell? ⟨a, 0, none⟩ = some (.int .i64 x)) : Calls Try.prog 36 #[.pointer (some ⟨a, 0, none⟩)] w fun e w' => e = .returned (.int .i64 x) ∧ w = w' := by
  have hl := load51 ⟨a, 0, none⟩ x w hc
  go_enter Try.func36, Try.ntmps36
  go_wp2_with fail
  go_ret
  exact ⟨rfl, rfl⟩
theorem add33 (a : Nat) (x : Int) (w : World) (hc : w.cell? ⟨a, 0, none⟩ = some (.int .i64 x)) (hz : w.frozen? ⟨a, 0, none⟩ = false) (h0 : 0 ≤ x) (h1 : x < 4611686018427387904) : Calls Try.prog 33 #[.pointer (some ⟨a, 0, none⟩), .int .i64 1] w fun e w' => e = .returned (.int .i64 (x + 1)) ∧ w' = w.setCell ⟨a, 0, none⟩ (.int .i64 (x + 1)) := by
  have hw : wrap64 (x + 1) = x + 1 := w64 (by omega)
  have hwr : IntKind.i64.wrap (x + 1) = x + 1 := by
    have e : (x + 1) % (2 ^ 64 : Int) = x + 1 := Int.emod_eq_of_lt (by omega) (by omega)
    simp only [IntKind.wrap, IntKind.bits, IntKind.signed, e]
    rw [if_neg]
    simp
    omega
  have hl := run_call_add (P := Try.prog) Try.func47 (by kernel_rfl) (by kernel_rfl) (by kernel_rfl) .i64 (by kernel_rfl) (y := 1) (s := x + 1) hc hz (by go_simp)
  go_enter Try.func33, Try.ntmps33
  go_wp2_with fail
  go_ret
  exact ⟨rfl, rfl⟩
set_option maxRecDepth 100000 in
theorem picks19 {F : Nat → Prop} {S : Nat} {w : World} {s : SchedP} (h : SQ F S w s) {n : Int} (hn : (Lit.int .i64 n).wf = true) :
    Calls Try.prog 19 #[.pointer (some ⟨S, 0, none⟩), .int .i64 n] w fun e w' => e = .returned (.int .i64 (picksP s n)) ∧ w = w' := by
  obtain ⟨wf, L, vt, vl, vo, h⟩ := h
  have c2 : w.cell? ⟨S, 1, none⟩ = some vt := Blk.cell h.blk 1
  have hlk := h.lookT hn
  unfold picksP
  cases hg : getP s.tasks n with
  | none =>
    rw [hg] at hlk
    simp only [Option.map_none, pv] at hlk
    clear h wf hg
    go_enter Try.func19, Try.ntmps19
    go_wp2_with fail
    go_ret
    exact ⟨rfl, rfl⟩
  | some K =>
    rw [hg] at hlk
    simp only [Option.map_some, pv] at hlk
    obtain ⟨hF, o, ho, hb⟩ := h.task _ (getP_mem hg)
    have c3 : w.cell? ⟨L.tb n, 0, none⟩ = some (.int .i64 K.picks) := Blk.cell hb 0
    have HL := Lib.hid (load36 _ _ _ c3)
    clear h wf hg hb
    go_enter Try.func19, Try.ntmps19
    go_wp2_with fail
    refine HL.out.mono ?_
    rintro e w1 ⟨rfl, rfl⟩
    go_wp2_with fail
    go_ret
    exact ⟨rfl, rfl⟩
end Go.Proofs.Ytkndcofmhfeaoaa
