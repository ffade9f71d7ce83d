/- The reference's small functions. -/
import Derived.Test.YtofjifhnkcghpaaDoorP
namespace Go.Proofs.YtofjifhnkcghpaaDoor
open Go.RowKit
set_option linter.unusedVariables false
set_option linter.unusedSimpArgs false
set_option maxRecDepth 100000
theorem letterZ : ∀ c : UInt8, isLetter c = (((decide ((97 : Int) ≤ (c.toNat : Int)) && decide ((c.toNat : Int) ≤ 122)) || (decide ((65 : Int) ≤ (c.toNat : Int)) && decide ((c.toNat : Int) ≤ 90))) || ((c.toNat : Int) == 95)) := u8all (by decide)
theorem digitZ : ∀ c : UInt8, isDigit c = (decide ((48 : Int) ≤ (c.toNat : Int)) && decide ((c.toNat : Int) ≤ 57)) := u8all (by decide)
theorem blankZ : ∀ c : UInt8, isBlank c = (((((c.toNat : Int) == 32) || ((c.toNat : Int) == 9)) || ((c.toNat : Int) == 10)) || ((c.toNat : Int) == 13)) := u8all (by decide)
theorem upZ : ∀ c : UInt8, (((up c).toNat : Nat) : Int) = if (decide ((97 : Int) ≤ (c.toNat : Int)) && decide ((c.toNat : Int) ≤ 122)) = true then (c.toNat : Int) - 32 else (c.toNat : Int) := u8all (by decide)
theorem letter30 (c : UInt8) (w : World) : Calls Tryd.prog 30 #[.int .u8 (c.toNat : Int)] w fun e w' => e = .returned (.bool (isLetter c)) ∧ w = w' := by
  rw [letterZ]
  obtain ⟨n, hn⟩ : ∃ n : Int, n = (c.toNat : Int) := ⟨_, rfl⟩
  rw [← hn]
  clear hn
  obtain ⟨b1, h1⟩ : ∃ b, decide ((97 : Int) ≤ n) = b := ⟨_, rfl⟩
  obtain ⟨b2, h2⟩ : ∃ b, decide (n ≤ (122 : Int)) = b := ⟨_, rfl⟩
  obtain ⟨b3, h3⟩ : ∃ b, decide ((65 : Int) ≤ n) = b := ⟨_, rfl⟩
  obtain ⟨b4, h4⟩ : ∃ b, decide (n ≤ (90 : Int)) = b := ⟨_, rfl⟩
  obtain ⟨b5, h5⟩ : ∃ b, (n == (95 : Int)) = b := ⟨_, rfl⟩
  cases b1 <;> cases b2 <;> cases b3 <;> cases b4 <;> cases b5
  all_goals (
    rw [h1, h2, h3, h4, h5]
    go_enter Tryd.func30, Tryd.ntmps30
    go_wp2_with fail
    go_ret
    exact ⟨by first | rfl | (rw [h1]; rfl) | (rw [h2]; rfl) | (rw [h3]; rfl) | (rw [h4]; rfl) | (rw [h5]; rfl) | (simp [*]), rfl⟩)
theorem digit31 (c : UInt8) (w : World) : Calls Tryd.prog 31 #[.int .u8 (c.toNat : Int)] w fun e w' => e = .returned (.bool (isDigit c)) ∧ w = w' := by
  rw [digitZ]
  obtain ⟨n, hn⟩ : ∃ n : Int, n = (c.toNat : Int) := ⟨_, rfl⟩
  rw [← hn]
  clear hn
  obtain ⟨b1, h1⟩ : ∃ b, decide ((48 : Int) ≤ n) = b := ⟨_, rfl⟩
  obtain ⟨b2, h2⟩ : ∃ b, decide (n ≤ (57 : Int)) = b := ⟨_, rfl⟩
  cases b1 <;> cases b2
  all_goals (
    rw [h1, h2]
    go_enter Tryd.func31, Tryd.ntmps31
    go_wp2_with fail
    go_ret
    exact ⟨by first | rfl | (rw [h1]; rfl) | (rw [h2]; rfl), rfl⟩)
theorem blank20 (c : UInt8) (w : World) : Calls Tryd.prog 20 #[.int .u8 (c.toNat : Int)] w fun e w' => e = .returned (.bool (isBlank c)) ∧ w = w' := by
  rw [blankZ]
  obtain ⟨n, hn⟩ : ∃ n : Int, n = (c.toNat : Int) := ⟨_, rfl⟩
  rw [← hn]
  clear hn
  obtain ⟨b1, h1⟩ : ∃ b, (n == (32 : Int)) = b := ⟨_, rfl⟩
  obtain ⟨b2, h2⟩ : ∃ b, (n == (9 : Int)) = b := ⟨_, rfl⟩
  obtain ⟨b3, h3⟩ : ∃ b, (n == (10 : Int)) = b := ⟨_, rfl⟩
  obtain ⟨b4, h4⟩ : ∃ b, (n == (13 : Int)) = b := ⟨_, rfl⟩
  cases b1 <;> cases b2 <;> cases b3 <;> cases b4
  all_goals (
    rw [h1, h2, h3, h4]
    go_enter Tryd.func20, Tryd.ntmps20
    go_wp2_with fail
    go_ret
    exact ⟨by first | rfl | (rw [h1]; rfl) | (rw [h2]; rfl) | (rw [h3]; rfl) | (rw [h4]; rfl), rfl⟩)
set_option maxHeartbeats 4000000 in
/-- capitals, byte by byte -/
theorem capitals34 (s : ByteArray) (w : World) (hs : s.size ≤ 140737488351232) : Calls Tryd.prog 34 #[.string s] w fun e w' => e = .returned (.string ⟨(s.data.toList.map up).toArray⟩) ∧ Below w.heap.size w w' := by
  obtain ⟨i5, hi5, hz0, hz1, hz2⟩ := info_parts (show (Tryd.prog.info? 5).map (fun i => (i.zero, i.size, i.bytes)) = some (some (.int .u8 0), 1, 1) by kernel_rfl)
  go_enter Tryd.func34, Tryd.ntmps34
  go_wp2_with fail
  go_loopw [3, 4, 5] (fun v x y wr => ∃ q : Nat, q ≤ s.size ∧ x = .int .i64 q ∧ wr.ownsRow w.heap.size 5 1 v q (byteV ((s.data.toList.take q).map up)) ∧ Below w.heap.size w wr) (fun _ x _ _ => s.size - (intOf x).toNat)
  case atStart => exact ⟨0, by omega, rfl, ⟨rfl, .inl ⟨rfl, rfl⟩⟩, Below.refl _ _⟩
  case round =>
    obtain ⟨q, hq, rfl, hrow, hb⟩ := hrel
    by_cases hlt : q < s.size
    · have hd : decide ((q : Int) < (s.size : Int)) = true := decide_eq_true (by omega)
      have hu := upZ s[q]
      have HR := Lib.hid (And.intro hrow hb)
      clear hrow hb
      obtain ⟨n, hn⟩ : ∃ n : Int, n = ((s[q].toNat : Nat) : Int) := ⟨_, rfl⟩
      have hn2 : 0 ≤ n ∧ n < 256 := by have := s[q].toNat_lt; omega
      rw [← hn] at hu
      obtain ⟨b1, h1⟩ : ∃ b, decide ((97 : Int) ≤ n) = b := ⟨_, rfl⟩
      obtain ⟨b2, h2⟩ : ∃ b, decide (n ≤ (122 : Int)) = b := ⟨_, rfl⟩
      rw [h1, h2, hn] at hu
      have HU := Lib.hid hu
      clear hu
      rw [hn] at h1 h2 hn2
      clear hn
      have hfin : ∀ (v' : Value) (w6 : World), w6.ownsRow w.heap.size 5 1 v' (q + 1) (byteV ((s.data.toList.take q).map up) ++ [.int .u8 (((up s[q]).toNat : Nat) : Int)]) → w6.ownsRow w.heap.size 5 1 v' (q + 1) (byteV ((s.data.toList.take (q + 1)).map up)) := fun v' w6 ho => by
        have hql : q < s.data.toList.length := hlt
        have e : s.data.toList[q] = s[q] := rfl
        rw [List.take_succ_eq_append_getElem hql, List.map_append, byteV_append, e]
        exact ho
      have HFN := Lib.hid hfin
      clear hfin
      cases b1 <;> cases b2
      · go_wp2_with (at_builtin; refine wpList_append_own _ rfl _ _ 38 rfl w.heap.size 5 i5 (.int .u8 0) 1 1 Tryd.underlying38 hi5 hz0 hz1 hz2 rfl (by decide) _ _ _ rfl (HR.out.1.alloc _) ⟨wr.heap.size, 0, none⟩ 1 1 [.int .u8 ((s[q].toNat : Nat) : Int)] rfl rfl (cell_one_new' _ _ _) (by intro u hu; simp at hu; subst hu; rfl) (by unfold maxLen; omega) (by omega) (by have := HR.out.2.size; simp; omega) ?_; intro v6 w6 hown6 hgrow6 _; have hb6 := (HR.out.2.trans (((Below.refl wr.heap.size wr).alloc (Nat.le_refl _) (.cells #[.int .u8 ((s[q].toNat : Nat) : Int)] 5)).mono HR.out.2.size)).grown hgrow6 (by have := HR.out.2.size; simp; omega) (fun q hq => by rcases HR.out.1.2 with ⟨rfl, -⟩ | ⟨g', cap, cur, rfl, hg', _⟩; (cases hq); (cases hq; exact hg')); have HG6 := Lib.hid (And.intro hown6 hb6); clear hown6 hgrow6 hb6)
        have h6 := HFN.out v6 w6 (by have h := HG6.out.1; have hu := HU.out; (try simp only [Bool.and_true, Bool.and_false, Bool.false_and, Bool.true_and, if_true, Bool.false_eq_true, if_false] at hu); rw [hu]; exact h)
        exact ⟨⟨q + 1, by omega, by first | rfl | go_num, h6, HG6.out.2⟩, by simp [intOf]; omega⟩
      · go_wp2_with (at_builtin; refine wpList_append_own _ rfl _ _ 38 rfl w.heap.size 5 i5 (.int .u8 0) 1 1 Tryd.underlying38 hi5 hz0 hz1 hz2 rfl (by decide) _ _ _ rfl (HR.out.1.alloc _) ⟨wr.heap.size, 0, none⟩ 1 1 [.int .u8 ((s[q].toNat : Nat) : Int)] rfl rfl (cell_one_new' _ _ _) (by intro u hu; simp at hu; subst hu; rfl) (by unfold maxLen; omega) (by omega) (by have := HR.out.2.size; simp; omega) ?_; intro v6 w6 hown6 hgrow6 _; have hb6 := (HR.out.2.trans (((Below.refl wr.heap.size wr).alloc (Nat.le_refl _) (.cells #[.int .u8 ((s[q].toNat : Nat) : Int)] 5)).mono HR.out.2.size)).grown hgrow6 (by have := HR.out.2.size; simp; omega) (fun q hq => by rcases HR.out.1.2 with ⟨rfl, -⟩ | ⟨g', cap, cur, rfl, hg', _⟩; (cases hq); (cases hq; exact hg')); have HG6 := Lib.hid (And.intro hown6 hb6); clear hown6 hgrow6 hb6)
        have h6 := HFN.out v6 w6 (by have h := HG6.out.1; have hu := HU.out; (try simp only [Bool.and_true, Bool.and_false, Bool.false_and, Bool.true_and, if_true, Bool.false_eq_true, if_false] at hu); rw [hu]; exact h)
        exact ⟨⟨q + 1, by omega, by first | rfl | go_num, h6, HG6.out.2⟩, by simp [intOf]; omega⟩
      · go_wp2_with (at_builtin; refine wpList_append_own _ rfl _ _ 38 rfl w.heap.size 5 i5 (.int .u8 0) 1 1 Tryd.underlying38 hi5 hz0 hz1 hz2 rfl (by decide) _ _ _ rfl (HR.out.1.alloc _) ⟨wr.heap.size, 0, none⟩ 1 1 [.int .u8 ((s[q].toNat : Nat) : Int)] rfl rfl (cell_one_new' _ _ _) (by intro u hu; simp at hu; subst hu; rfl) (by unfold maxLen; omega) (by omega) (by have := HR.out.2.size; simp; omega) ?_; intro v6 w6 hown6 hgrow6 _; have hb6 := (HR.out.2.trans (((Below.refl wr.heap.size wr).alloc (Nat.le_refl _) (.cells #[.int .u8 ((s[q].toNat : Nat) : Int)] 5)).mono HR.out.2.size)).grown hgrow6 (by have := HR.out.2.size; simp; omega) (fun q hq => by rcases HR.out.1.2 with ⟨rfl, -⟩ | ⟨g', cap, cur, rfl, hg', _⟩; (cases hq); (cases hq; exact hg')); have HG6 := Lib.hid (And.intro hown6 hb6); clear hown6 hgrow6 hb6)
        have h6 := HFN.out v6 w6 (by have h := HG6.out.1; have hu := HU.out; (try simp only [Bool.and_true, Bool.and_false, Bool.false_and, Bool.true_and, if_true, Bool.false_eq_true, if_false] at hu); rw [hu]; exact h)
        exact ⟨⟨q + 1, by omega, by first | rfl | go_num, h6, HG6.out.2⟩, by simp [intOf]; omega⟩
      · have HMOD := Lib.hid (show (((s[q].toNat : Nat) : Int) - 32) % 256 = ((s[q].toNat : Nat) : Int) - 32 by have := of_decide_eq_true h1; omega)
        go_wp2_with (at_builtin; refine wpList_append_own _ rfl _ _ 38 rfl w.heap.size 5 i5 (.int .u8 0) 1 1 Tryd.underlying38 hi5 hz0 hz1 hz2 rfl (by decide) _ _ _ rfl (HR.out.1.alloc _) ⟨wr.heap.size, 0, none⟩ 1 1 [.int .u8 ((((s[q].toNat : Nat) : Int) - 32) % 256)] rfl rfl (cell_one_new' _ _ _) (by intro u hu; simp at hu; subst hu; rfl) (by unfold maxLen; omega) (by omega) (by have := HR.out.2.size; simp; omega) ?_; intro v6 w6 hown6 hgrow6 _; have hb6 := (HR.out.2.trans (((Below.refl wr.heap.size wr).alloc (Nat.le_refl _) (.cells #[.int .u8 ((((s[q].toNat : Nat) : Int) - 32) % 256)] 5)).mono HR.out.2.size)).grown hgrow6 (by have := HR.out.2.size; simp; omega) (fun q hq => by rcases HR.out.1.2 with ⟨rfl, -⟩ | ⟨g', cap, cur, rfl, hg', _⟩; (cases hq); (cases hq; exact hg')); have HG6 := Lib.hid (And.intro hown6 hb6); clear hown6 hgrow6 hb6)
        have h6 := HFN.out v6 w6 (by have h := HG6.out.1; have hu := HU.out; (try simp only [Bool.and_true, Bool.and_false, Bool.false_and, Bool.true_and, if_true, Bool.false_eq_true, if_false] at hu); rw [hu]; rw [HMOD.out] at h; exact h)
        exact ⟨⟨q + 1, by omega, by first | rfl | go_num, h6, HG6.out.2⟩, by simp [intOf]; omega⟩
    · have hd : decide ((q : Int) < (s.size : Int)) = false := decide_eq_false (by omega)
      have hqs : q = s.size := by omega
      rw [hqs, List.take_of_length_le (by rw [str_len]; exact Nat.le_refl _)] at hrow
      have hconv := run_conv_own (src := 38) (dst := 9) Tryd.underlying38 Tryd.underlying5 Tryd.underlying9 hrow
      have HR := Lib.hid hb
      clear hrow hb
      subst hqs
      go_wp2_with fail
      go_ret
      exact ⟨rfl, HR.out⟩
end Go.Proofs.YtofjifhnkcghpaaDoor
