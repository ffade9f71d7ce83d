/- One connection, both ways: what a side takes is a beginning of what the other one sent. The plain law, and what each call does. -/
import Derived.Test.YtalcmaphndfcfaaN
namespace Go.Proofs.Ytalcmaphndfcfaa
open Go.RowKit Go.Maps
set_option linter.unusedVariables false
set_option linter.unusedSimpArgs false

/-- what the sides sent (s), what they took (g), which have shut (h) -/
def Bytes (L : List Cn) (s0 s1 g0 g1 : ByteArray) (h0 h1 : Bool) : Prop :=
  ∃ r0 r1, g0 ++ r0 = s1 ∧ g1 ++ r1 = s0 ∧ ∀ c, findC L 1 = some c → c.cut = false ∧ r0 = c.th0 ++ c.un0 ∧ r1 = c.th1 ++ c.un1 ∧ c.sh0 = h1 ∧ c.sh1 = h0

section
variable {F : Nat → Prop} {w : World} {bn : Nat} {made : Int} {L : List Cn} {s0 s1 g0 g1 : ByteArray} {h0 h1 : Bool}

/-- without a cut an error is that there is none -/
theorem Bytes.err (hf : Bytes L s0 s1 g0 g1 h0 h1) {sd : Int} (he : askE L 1 sd ≠ 0) (hs : sd = 0 ∨ sd = 1) : askE L 1 sd = 14 ∧ askL L 1 sd = L := by
  obtain ⟨r0, r1, e0, e1, hc⟩ := hf
  unfold askE askL at *
  rw [if_neg (by omega)] at he ⊢
  rw [if_neg (by omega)]
  cases hcc : findC L 1 with
  | none => exact ⟨rfl, rfl⟩
  | some c =>
    rw [hcc] at he
    have := (hc c hcc).1
    simp only [this] at he
    exact absurd rfl he
theorem Bytes.le0 (hf : Bytes L s0 s1 g0 g1 h0 h1) : g0.size ≤ s1.size ∧ s1.extract 0 g0.size = g0 := by
  obtain ⟨r0, r1, e0, e1, -⟩ := hf
  subst e0
  exact ⟨by rw [ByteArray.size_append]; omega, ByteArray.extract_append_eq_left rfl⟩
theorem Bytes.le1 (hf : Bytes L s0 s1 g0 g1 h0 h1) : g1.size ≤ s0.size ∧ s0.extract 0 g1.size = g1 := by
  obtain ⟨r0, r1, e0, e1, -⟩ := hf
  subst e1
  exact ⟨by rw [ByteArray.size_append]; omega, ByteArray.extract_append_eq_left rfl⟩
/-- the connection may go when it is at its end -/
theorem Bytes.leave {c : Cn} (hf : Bytes L s0 s1 g0 g1 h0 h1) (hc : findC L 1 = some c) : Bytes (leaveC L c) s0 s1 g0 g1 h0 h1 := by
  obtain ⟨r0, r1, e0, e1, hh⟩ := hf
  refine ⟨r0, r1, e0, e1, fun c' hc' => ?_⟩
  rcases leave_self hc with h | h
  · rw [h] at hc'; cases hc'
  · rw [h] at hc'; injection hc' with hc'; subst hc'; exact hh c hc

theorem waits15_by (h : NetAt F w bn made L) (sd : Int) (hs : sd = 0 ∨ sd = 1) :
    Calls Try.prog 15 #[.pointer (some ⟨bn, 0, none⟩), .int .i64 1, .int .i64 sd] w fun e w' => ∃ (a b : Int) (n : Nat), e = .returned (.tuple #[.int .i64 a, .int .i64 b]) ∧ 0 ≤ a ∧ 0 ≤ b ∧ a + b ≤ 65536 ∧ w' = w.drewN n := by
  cases hc : findC L 1 with
  | none =>
    refine (waits15_none h 1 sd (by decide) (.inl hc)).mono ?_
    rintro e w' ⟨rfl, rfl⟩
    exact ⟨0, 0, 0, rfl, by decide, by decide, by decide, rfl⟩
  | some c =>
    have hfit := h.fits hc
    rcases hs with rfl | rfl
    · refine (waits15_ok0 h 1 (by decide) hc).mono ?_
      rintro e w' ⟨rfl, n, rfl⟩
      exact ⟨_, _, n, rfl, by omega, by omega, by omega, rfl⟩
    · refine (waits15_ok1 h 1 (by decide) hc).mono ?_
      rintro e w' ⟨rfl, n, rfl⟩
      exact ⟨_, _, n, rfl, by omega, by omega, by omega, rfl⟩

/-- side 0 sends -/
theorem send10_by0 (h : NetAt F w bn made L) (hf : Bytes L s0 s1 g0 g1 h0 h1) (d : ByteArray) (hd : d.size ≤ 9223372036854775807) :
    Calls Try.prog 10 #[.pointer (some ⟨bn, 0, none⟩), .int .i64 1, .int .i64 0, .string d] w fun e w' => ∃ (m : Nat) (er : Int) (L' : List Cn), e = .returned (.tuple #[.int .i64 (m : Int), .int .i64 er]) ∧
      NetAt F w' bn made L' ∧ Turn F w w' ∧ m ≤ d.size ∧ m ≤ 65536 ∧ ((er ≠ 0 ∧ Bytes L' s0 s1 g0 g1 h0 h1) ∨ (er = 0 ∧ h0 = false ∧ Bytes L' (s0 ++ d.extract 0 m) s1 g0 g1 h0 h1)) := by
  by_cases he : askE L 1 0 = 0
  · obtain ⟨c, hc, -, hcut⟩ := askE_ok he
    cases hsh : c.sh1
    · obtain ⟨r0, r1, e0, e1, hh⟩ := hf
      obtain ⟨-, q0, q1, q2, q3⟩ := hh c hc
      have hroom : roomN c 1 d.size ≤ d.size ∧ roomN c 1 d.size ≤ 65536 := by unfold roomN; omega
      refine (send10_ok0 h 1 d (by decide) hc hcut hsh (roomN c 1 d.size) rfl hd).mono ?_
      rintro e w' ⟨rfl, hN, hT⟩
      generalize roomN c 1 d.size = m at *
      refine ⟨m, _, _, rfl, hN, hT, hroom.1, hroom.2, .inr ⟨rfl, ?_, ?_⟩⟩
      · rw [← q3, hsh]
      · refine ⟨r0, r1 ++ d.extract 0 m, e0, by rw [← ByteArray.append_assoc, e1], fun c' hc' => ?_⟩
        rw [upd_self hc (by rw [setUn_num]; exact (findC_mem hc).2)] at hc'
        injection hc' with hc'
        subst hc'
        exact ⟨hcut, q0, by rw [q1, ByteArray.append_assoc]; rfl, q2, q3⟩
    · refine (send10_shut h 1 0 d (by decide) hc (by decide) hcut hsh).mono ?_
      rintro e w' ⟨rfl, rfl⟩
      exact ⟨0, 16, L, rfl, h, Turn.refl _ _, by omega, by omega, .inl ⟨by decide, hf⟩⟩
  · refine (send10_err h 1 0 d (by decide) he).mono ?_
    rintro e w' ⟨rfl, hN, hT⟩
    obtain ⟨a1, a2⟩ := hf.err he (by decide)
    rw [a2] at hN
    exact ⟨0, _, L, rfl, hN, hT, by omega, by omega, .inl ⟨he, hf⟩⟩
/-- some arrive at side 0 -/
theorem move11_by0 (h : NetAt F w bn made L) (hf : Bytes L s0 s1 g0 g1 h0 h1) (m : Int) :
    Calls Try.prog 11 #[.pointer (some ⟨bn, 0, none⟩), .int .i64 1, .int .i64 0, .int .i64 m] w fun e w' => ∃ (v : Value) (L' : List Cn), e = .returned v ∧ (∃ a b : Int, v = .tuple #[.int .i64 a, .int .i64 b]) ∧
      NetAt F w' bn made L' ∧ Turn F w w' ∧ Bytes L' s0 s1 g0 g1 h0 h1 := by
  by_cases he : askE L 1 0 = 0
  · obtain ⟨c, hc, -, hcut⟩ := askE_ok he
    obtain ⟨r0, r1, e0, e1, hh⟩ := hf
    obtain ⟨-, q0, q1, q2, q3⟩ := hh c hc
    refine (move11_ok0 h 1 m (by decide) hc hcut _ rfl).mono ?_
    rintro e w' ⟨rfl, hN, hT⟩
    generalize tookN m c.un0.size = k at *
    refine ⟨_, _, rfl, ⟨_, _, rfl⟩, hN, hT, r0, r1, e0, e1, fun c' hc' => ?_⟩
    rw [upd_self hc (by rw [setTh_num, setUn_num]; exact (findC_mem hc).2)] at hc'
    injection hc' with hc'
    subst hc'
    refine ⟨hcut, ?_, q1, q2, q3⟩
    rw [q0]
    show c.th0 ++ c.un0 = (c.th0 ++ c.un0.extract 0 k) ++ c.un0.extract k c.un0.size
    rw [ByteArray.append_assoc, split_at]
  · refine (move11_err h 1 0 m (by decide) he).mono ?_
    rintro e w' ⟨rfl, hN, hT⟩
    obtain ⟨a1, a2⟩ := hf.err he (by decide)
    rw [a2] at hN
    exact ⟨_, L, rfl, ⟨_, _, rfl⟩, hN, hT, hf⟩
/-- side 0 takes; where it is told the end, it has all -/
theorem take12_by0 (h : NetAt F w bn made L) (hf : Bytes L s0 s1 g0 g1 h0 h1) (m : Int) :
    Calls Try.prog 12 #[.pointer (some ⟨bn, 0, none⟩), .int .i64 1, .int .i64 0, .int .i64 m] w fun e w' => ∃ (tb : ByteArray) (er : Int) (L' : List Cn), e = .returned (.tuple #[.string tb, .int .i64 er]) ∧
      NetAt F w' bn made L' ∧ Turn F w w' ∧ Bytes L' s0 s1 (g0 ++ tb) g1 h0 h1 ∧ (er = 16 → h1 = true ∧ g0 ++ tb = s1) := by
  have hemp : g0 ++ (⟨#[]⟩ : ByteArray) = g0 := ByteArray.append_empty
  by_cases he : askE L 1 0 = 0
  · obtain ⟨c, hc, -, hcut⟩ := askE_ok he
    obtain ⟨r0, r1, e0, e1, hh⟩ := hf
    obtain ⟨q', q0, q1, q2, q3⟩ := hh c hc
    rcases Nat.eq_zero_or_pos c.th0.size with hz | hz
    · refine (take12_none0 h 1 m (by decide) hc hcut hz).mono ?_
      rintro e w' ⟨rfl, rfl⟩
      refine ⟨⟨#[]⟩, _, L, rfl, h, Turn.refl _ _, by rw [hemp]; exact ⟨r0, r1, e0, e1, hh⟩, fun hee => ?_⟩
      by_cases hend : c.sh0 = true ∧ c.un0.size = 0
      · refine ⟨by rw [← q2]; exact hend.1, ?_⟩
        rw [hemp, ← e0, q0, ByteArray.size_eq_zero_iff.1 hz, ByteArray.size_eq_zero_iff.1 hend.2]
        simp
      · rw [if_neg hend] at hee; cases hee
    · refine (take12_ok0 h 1 m (by decide) hc hcut hz _ rfl).mono ?_
      rintro e w' ⟨rfl, hN, hT⟩
      generalize tookN m c.th0.size = k at *
      refine ⟨_, _, _, rfl, hN, hT, ?_, fun hee => by cases hee⟩
      refine Bytes.leave ?_ (upd_self hc (by rw [setTh_num]; exact (findC_mem hc).2))
      have hsp : (g0 ++ c.th0.extract 0 k) ++ (c.th0.extract k c.th0.size ++ c.un0) = s1 := by
        rw [ByteArray.append_assoc, ← ByteArray.append_assoc (a := c.th0.extract 0 k), split_at, ← q0, e0]
      refine ⟨c.th0.extract k c.th0.size ++ c.un0, r1, hsp, e1, fun c' hc' => ?_⟩
      rw [upd_self hc (by rw [setTh_num]; exact (findC_mem hc).2)] at hc'
      injection hc' with hc'
      subst hc'
      exact ⟨hcut, rfl, q1, q2, q3⟩
  · refine (take12_err h 1 0 m (by decide) he).mono ?_
    rintro e w' ⟨rfl, hN, hT⟩
    obtain ⟨a1, a2⟩ := hf.err he (by decide)
    rw [a2] at hN
    exact ⟨⟨#[]⟩, _, L, rfl, hN, hT, by rw [hemp]; exact hf, fun hee => by rw [a1] at hee; cases hee⟩
/-- side 0 shuts -/
theorem shut14_by0 (h : NetAt F w bn made L) (hf : Bytes L s0 s1 g0 g1 h0 h1) :
    Calls Try.prog 14 #[.pointer (some ⟨bn, 0, none⟩), .int .i64 1, .int .i64 0] w fun e w' => ∃ (er : Int) (L' : List Cn), e = .returned (.int .i64 er) ∧
      NetAt F w' bn made L' ∧ Turn F w w' ∧ ((er ≠ 0 ∧ Bytes L' s0 s1 g0 g1 h0 h1) ∨ (er = 0 ∧ Bytes L' s0 s1 g0 g1 true h1)) := by
  by_cases he : askE L 1 0 = 0
  · obtain ⟨c, hc, -, hcut⟩ := askE_ok he
    cases hsh : c.sh1
    · obtain ⟨r0, r1, e0, e1, hh⟩ := hf
      obtain ⟨-, q0, q1, q2, q3⟩ := hh c hc
      refine (shut14_ok0 h 1 (by decide) hc hcut hsh).mono ?_
      rintro e w' ⟨rfl, hN, hT⟩
      refine ⟨0, _, rfl, hN, hT, .inr ⟨rfl, ?_⟩⟩
      refine Bytes.leave ?_ (upd_self hc (by rw [setSh_num]; exact (findC_mem hc).2))
      refine ⟨r0, r1, e0, e1, fun c' hc' => ?_⟩
      rw [upd_self hc (by rw [setSh_num]; exact (findC_mem hc).2)] at hc'
      injection hc' with hc'
      subst hc'
      exact ⟨hcut, q0, q1, q2, rfl⟩
    · refine (shut14_twice0 h 1 (by decide) hc hcut hsh).mono ?_
      rintro e w' ⟨rfl, rfl⟩
      exact ⟨16, L, rfl, h, Turn.refl _ _, .inl ⟨by decide, hf⟩⟩
  · refine (shut14_err h 1 0 (by decide) he).mono ?_
    rintro e w' ⟨rfl, hN, hT⟩
    obtain ⟨a1, a2⟩ := hf.err he (by decide)
    rw [a2] at hN
    exact ⟨_, L, rfl, hN, hT, .inl ⟨he, hf⟩⟩

/-- side 1 sends -/
theorem send10_by1 (h : NetAt F w bn made L) (hf : Bytes L s0 s1 g0 g1 h0 h1) (d : ByteArray) (hd : d.size ≤ 9223372036854775807) :
    Calls Try.prog 10 #[.pointer (some ⟨bn, 0, none⟩), .int .i64 1, .int .i64 1, .string d] w fun e w' => ∃ (m : Nat) (er : Int) (L' : List Cn), e = .returned (.tuple #[.int .i64 (m : Int), .int .i64 er]) ∧
      NetAt F w' bn made L' ∧ Turn F w w' ∧ m ≤ d.size ∧ m ≤ 65536 ∧ ((er ≠ 0 ∧ Bytes L' s0 s1 g0 g1 h0 h1) ∨ (er = 0 ∧ h1 = false ∧ Bytes L' s0 (s1 ++ d.extract 0 m) g0 g1 h0 h1)) := by
  by_cases he : askE L 1 1 = 0
  · obtain ⟨c, hc, -, hcut⟩ := askE_ok he
    cases hsh : c.sh0
    · obtain ⟨r0, r1, e0, e1, hh⟩ := hf
      obtain ⟨-, q0, q1, q2, q3⟩ := hh c hc
      have hroom : roomN c 0 d.size ≤ d.size ∧ roomN c 0 d.size ≤ 65536 := by unfold roomN; omega
      refine (send10_ok1 h 1 d (by decide) hc hcut hsh (roomN c 0 d.size) rfl hd).mono ?_
      rintro e w' ⟨rfl, hN, hT⟩
      generalize roomN c 0 d.size = m at *
      refine ⟨m, _, _, rfl, hN, hT, hroom.1, hroom.2, .inr ⟨rfl, ?_, ?_⟩⟩
      · rw [← q2, hsh]
      · refine ⟨r0 ++ d.extract 0 m, r1, by rw [← ByteArray.append_assoc, e0], e1, fun c' hc' => ?_⟩
        rw [upd_self hc (by rw [setUn_num]; exact (findC_mem hc).2)] at hc'
        injection hc' with hc'
        subst hc'
        exact ⟨hcut, by rw [q0, ByteArray.append_assoc]; rfl, q1, q2, q3⟩
    · refine (send10_shut h 1 1 d (by decide) hc (by decide) hcut hsh).mono ?_
      rintro e w' ⟨rfl, rfl⟩
      exact ⟨0, 16, L, rfl, h, Turn.refl _ _, by omega, by omega, .inl ⟨by decide, hf⟩⟩
  · refine (send10_err h 1 1 d (by decide) he).mono ?_
    rintro e w' ⟨rfl, hN, hT⟩
    obtain ⟨a1, a2⟩ := hf.err he (by decide)
    rw [a2] at hN
    exact ⟨0, _, L, rfl, hN, hT, by omega, by omega, .inl ⟨he, hf⟩⟩
/-- some arrive at side 1 -/
theorem move11_by1 (h : NetAt F w bn made L) (hf : Bytes L s0 s1 g0 g1 h0 h1) (m : Int) :
    Calls Try.prog 11 #[.pointer (some ⟨bn, 0, none⟩), .int .i64 1, .int .i64 1, .int .i64 m] w fun e w' => ∃ (v : Value) (L' : List Cn), e = .returned v ∧ (∃ a b : Int, v = .tuple #[.int .i64 a, .int .i64 b]) ∧
      NetAt F w' bn made L' ∧ Turn F w w' ∧ Bytes L' s0 s1 g0 g1 h0 h1 := by
  by_cases he : askE L 1 1 = 0
  · obtain ⟨c, hc, -, hcut⟩ := askE_ok he
    obtain ⟨r0, r1, e0, e1, hh⟩ := hf
    obtain ⟨-, q0, q1, q2, q3⟩ := hh c hc
    refine (move11_ok1 h 1 m (by decide) hc hcut _ rfl).mono ?_
    rintro e w' ⟨rfl, hN, hT⟩
    generalize tookN m c.un1.size = k at *
    refine ⟨_, _, rfl, ⟨_, _, rfl⟩, hN, hT, r0, r1, e0, e1, fun c' hc' => ?_⟩
    rw [upd_self hc (by rw [setTh_num, setUn_num]; exact (findC_mem hc).2)] at hc'
    injection hc' with hc'
    subst hc'
    refine ⟨hcut, q0, ?_, q2, q3⟩
    rw [q1]
    show c.th1 ++ c.un1 = (c.th1 ++ c.un1.extract 0 k) ++ c.un1.extract k c.un1.size
    rw [ByteArray.append_assoc, split_at]
  · refine (move11_err h 1 1 m (by decide) he).mono ?_
    rintro e w' ⟨rfl, hN, hT⟩
    obtain ⟨a1, a2⟩ := hf.err he (by decide)
    rw [a2] at hN
    exact ⟨_, L, rfl, ⟨_, _, rfl⟩, hN, hT, hf⟩
/-- side 1 takes; where it is told the end, it has all -/
theorem take12_by1 (h : NetAt F w bn made L) (hf : Bytes L s0 s1 g0 g1 h0 h1) (m : Int) :
    Calls Try.prog 12 #[.pointer (some ⟨bn, 0, none⟩), .int .i64 1, .int .i64 1, .int .i64 m] w fun e w' => ∃ (tb : ByteArray) (er : Int) (L' : List Cn), e = .returned (.tuple #[.string tb, .int .i64 er]) ∧
      NetAt F w' bn made L' ∧ Turn F w w' ∧ Bytes L' s0 s1 g0 (g1 ++ tb) h0 h1 ∧ (er = 16 → h0 = true ∧ g1 ++ tb = s0) := by
  have hemp : g1 ++ (⟨#[]⟩ : ByteArray) = g1 := ByteArray.append_empty
  by_cases he : askE L 1 1 = 0
  · obtain ⟨c, hc, -, hcut⟩ := askE_ok he
    obtain ⟨r0, r1, e0, e1, hh⟩ := hf
    obtain ⟨q', q0, q1, q2, q3⟩ := hh c hc
    rcases Nat.eq_zero_or_pos c.th1.size with hz | hz
    · refine (take12_none1 h 1 m (by decide) hc hcut hz).mono ?_
      rintro e w' ⟨rfl, rfl⟩
      refine ⟨⟨#[]⟩, _, L, rfl, h, Turn.refl _ _, by rw [hemp]; exact ⟨r0, r1, e0, e1, hh⟩, fun hee => ?_⟩
      by_cases hend : c.sh1 = true ∧ c.un1.size = 0
      · refine ⟨by rw [← q3]; exact hend.1, ?_⟩
        rw [hemp, ← e1, q1, ByteArray.size_eq_zero_iff.1 hz, ByteArray.size_eq_zero_iff.1 hend.2]
        simp
      · rw [if_neg hend] at hee; cases hee
    · refine (take12_ok1 h 1 m (by decide) hc hcut hz _ rfl).mono ?_
      rintro e w' ⟨rfl, hN, hT⟩
      generalize tookN m c.th1.size = k at *
      refine ⟨_, _, _, rfl, hN, hT, ?_, fun hee => by cases hee⟩
      refine Bytes.leave ?_ (upd_self hc (by rw [setTh_num]; exact (findC_mem hc).2))
      have hsp : (g1 ++ c.th1.extract 0 k) ++ (c.th1.extract k c.th1.size ++ c.un1) = s0 := by
        rw [ByteArray.append_assoc, ← ByteArray.append_assoc (a := c.th1.extract 0 k), split_at, ← q1, e1]
      refine ⟨r0, c.th1.extract k c.th1.size ++ c.un1, e0, hsp, fun c' hc' => ?_⟩
      rw [upd_self hc (by rw [setTh_num]; exact (findC_mem hc).2)] at hc'
      injection hc' with hc'
      subst hc'
      exact ⟨hcut, q0, rfl, q2, q3⟩
  · refine (take12_err h 1 1 m (by decide) he).mono ?_
    rintro e w' ⟨rfl, hN, hT⟩
    obtain ⟨a1, a2⟩ := hf.err he (by decide)
    rw [a2] at hN
    exact ⟨⟨#[]⟩, _, L, rfl, hN, hT, by rw [hemp]; exact hf, fun hee => by rw [a1] at hee; cases hee⟩
/-- side 1 shuts -/
theorem shut14_by1 (h : NetAt F w bn made L) (hf : Bytes L s0 s1 g0 g1 h0 h1) :
    Calls Try.prog 14 #[.pointer (some ⟨bn, 0, none⟩), .int .i64 1, .int .i64 1] w fun e w' => ∃ (er : Int) (L' : List Cn), e = .returned (.int .i64 er) ∧
      NetAt F w' bn made L' ∧ Turn F w w' ∧ ((er ≠ 0 ∧ Bytes L' s0 s1 g0 g1 h0 h1) ∨ (er = 0 ∧ Bytes L' s0 s1 g0 g1 h0 true)) := by
  by_cases he : askE L 1 1 = 0
  · obtain ⟨c, hc, -, hcut⟩ := askE_ok he
    cases hsh : c.sh0
    · obtain ⟨r0, r1, e0, e1, hh⟩ := hf
      obtain ⟨-, q0, q1, q2, q3⟩ := hh c hc
      refine (shut14_ok1 h 1 (by decide) hc hcut hsh).mono ?_
      rintro e w' ⟨rfl, hN, hT⟩
      refine ⟨0, _, rfl, hN, hT, .inr ⟨rfl, ?_⟩⟩
      refine Bytes.leave ?_ (upd_self hc (by rw [setSh_num]; exact (findC_mem hc).2))
      refine ⟨r0, r1, e0, e1, fun c' hc' => ?_⟩
      rw [upd_self hc (by rw [setSh_num]; exact (findC_mem hc).2)] at hc'
      injection hc' with hc'
      subst hc'
      exact ⟨hcut, q0, q1, rfl, q3⟩
    · refine (shut14_twice1 h 1 (by decide) hc hcut hsh).mono ?_
      rintro e w' ⟨rfl, rfl⟩
      exact ⟨16, L, rfl, h, Turn.refl _ _, .inl ⟨by decide, hf⟩⟩
  · refine (shut14_err h 1 1 (by decide) he).mono ?_
    rintro e w' ⟨rfl, hN, hT⟩
    obtain ⟨a1, a2⟩ := hf.err he (by decide)
    rw [a2] at hN
    exact ⟨_, L, rfl, hN, hT, .inl ⟨he, hf⟩⟩
end
end Go.Proofs.Ytalcmaphndfcfaa
