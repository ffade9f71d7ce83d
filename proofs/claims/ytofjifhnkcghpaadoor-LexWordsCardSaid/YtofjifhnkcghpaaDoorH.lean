/- Names; Clip; what stands in quotes. -/
import Derived.Test.YtofjifhnkcghpaaDoorG
namespace Go.Proofs.YtofjifhnkcghpaaDoor
open Go.RowKit
set_option linter.unusedVariables false
set_option linter.unusedSimpArgs false
set_option maxRecDepth 100000
set_option maxHeartbeats 4000000 in
theorem isName13 (s : ByteArray) (w : World) (hs : s.size < 35184372088832) (hK : KT w) (hT : UT w) (hz : 0 < w.heap.size) : Calls Tryd.prog 13 #[.string s] w fun e w' => e = .returned (.bool (isName s.data.toList)) ∧ Below w.heap.size w w' := by
  have HK := Lib.hid hK
  have HT := Lib.hid hT
  have HZ := Lib.hid hz
  clear hK hT hz
  by_cases h0 : s.size = 0
  · obtain ⟨⟨l⟩⟩ := s
    have hl : l = [] := List.eq_nil_of_length_eq_zero (by exact h0)
    subst hl
    go_enter Tryd.func13, Tryd.ntmps13
    go_wp2_with fail
    go_ret
    exact ⟨rfl, Below.refl _ _⟩
  have hne : ¬ s.toList = [] := fun e => h0 (by have := congrArg List.length e; rw [ByteArray.toList_eq] at this; exact this)
  have hie : s.toList.isEmpty = false := by cases hh : s.toList with
    | nil => exact absurd hh hne
    | cons a b => rfl
  by_cases h1 : 32 < s.size
  · have hd : decide ((32 : Int) < (s.size : Int)) = true := decide_eq_true (by omega)
    have hF : isName s.data.toList = false := by
      have : ¬ s.data.toList.length ≤ 32 := by show ¬ s.size ≤ 32; omega
      unfold isName
      rw [decide_eq_false this]
      simp
    rw [hF]
    go_enter Tryd.func13, Tryd.ntmps13
    go_wp2_with fail
    go_ret
    exact ⟨rfl, Below.refl _ _⟩
  have hd : decide ((32 : Int) < (s.size : Int)) = false := decide_eq_false (by omega)
  have hpos : 0 < s.size := by omega
  have hhead : s.data.toList = s[0] :: s.data.toList.drop 1 := by have := str_drop s hpos; simpa using this
  have hk2 := kind_letter s[0]
  obtain ⟨k, hk⟩ : ∃ k, k = kindL s[0] := ⟨_, rfl⟩
  have HC := Lib.hid (kind23 s[0] w HK.out)
  rw [← hk] at hk2 HC
  by_cases h2 : k = 2
  · subst h2
    have hl : isLetter s[0] = true := by rw [← hk2]; rfl
    have H15 := Lib.hid (isKeyword15 s w hs HT.out)
    obtain ⟨kw, hkw⟩ : ∃ kw, kw = isKw s.data.toList := ⟨_, rfl⟩
    rw [← hkw] at H15
    have HH := Lib.hid (And.intro hhead (And.intro hl hkw))
    clear hhead hl hkw hk hk2
    cases kw
    · go_enter Tryd.func13, Tryd.ntmps13
      go_wp2_with fail
      refine HC.out.mono ?_
      rintro e w1 ⟨rfl, rfl⟩
      go_wp2_with fail
      refine H15.out.mono ?_
      rintro e w1 ⟨rfl, hb1⟩
      have HB := Lib.hid hb1
      clear hb1
      go_wp2_with fail
      go_loopw [3, 4, 24] (fun x y a wr => ∃ q : Nat, q ≤ s.size ∧ a = .int .i64 q ∧ (∀ b ∈ s.data.toList.take q, isW b = true) ∧ w1 = wr) (fun _ _ a _ => s.size - (intOf a).toNat)
      case atStart => exact ⟨0, by omega, rfl, by simp, rfl⟩
      case round =>
        obtain ⟨q, hq, rfl, hall, rfl⟩ := hrel
        by_cases hlt : q < s.size
        · have hdq : decide ((q : Int) < (s.size : Int)) = true := decide_eq_true (by omega)
          have HA := Lib.hid hall
          clear hall
          go_wp2_with fail
          refine (kind23 s[q] _ (HK.out.below HB.out HZ.out)).mono ?_
          rintro e w' ⟨rfl, rfl⟩
          have hkl := kind_letter s[q]
          have hkd := kind_digit s[q]
          obtain ⟨k2, hk2⟩ : ∃ k2, k2 = kindL s[q] := ⟨_, rfl⟩
          rw [← hk2] at hkl hkd ⊢
          have HKQ := Lib.hid (And.intro hkl hkd)
          clear hkl hkd hk2
          by_cases hw : k2 = 2 ∨ k2 = 3
          · have HW := Lib.hid (show isW s[q] = true by
              unfold isW
              rw [← HKQ.out.1, ← HKQ.out.2]
              rcases hw with rfl | rfl <;> rfl)
            rcases hw with hw | hw
            · have f2 : ((k2 : Int) != 2) = false := by subst hw; rfl
              clear hw
              go_wp2_with fail
              go_roundw
              case rel =>
                refine ⟨q + 1, by omega, by go_num, fun b hb => ?_, by first | rfl | trivial⟩
                have hql : q < s.data.toList.length := hlt
                rw [List.take_succ_eq_append_getElem hql] at hb
                rcases List.mem_append.1 hb with hb | hb
                · exact HA.out b hb
                · simp at hb; rw [hb]; exact HW.out
              case measure => simp [intOf]; omega
            · have f2 : ((k2 : Int) != 2) = true := by subst hw; rfl
              have f3 : ((k2 : Int) != 3) = false := by subst hw; rfl
              clear hw
              go_wp2_with fail
              go_roundw
              case rel =>
                refine ⟨q + 1, by omega, by go_num, fun b hb => ?_, by first | rfl | trivial⟩
                have hql : q < s.data.toList.length := hlt
                rw [List.take_succ_eq_append_getElem hql] at hb
                rcases List.mem_append.1 hb with hb | hb
                · exact HA.out b hb
                · simp at hb; rw [hb]; exact HW.out
              case measure => simp [intOf]; omega
          · have f2 : ((k2 : Int) != 2) = true := by simp; omega
            have f3 : ((k2 : Int) != 3) = true := by simp; omega
            have hF : isName s.data.toList = false := by
              have hx : isW s[q] = false := by
                unfold isW
                rw [← HKQ.out.1, ← HKQ.out.2, decide_eq_false (fun e => hw (.inl e)), decide_eq_false (fun e => hw (.inr e))]; rfl
              have : s.data.toList.all isW = false := by
                rw [List.all_eq_false]
                exact ⟨s[q], by
                  have h7 := str_drop s hlt
                  have h8 : s[q] ∈ s.data.toList.drop q := by rw [h7]; simp
                  exact List.mem_of_mem_drop h8, by rw [hx]; simp⟩
              unfold isName
              rw [this]; simp
            go_wp2_with fail
            go_ret
            exact ⟨by rw [hF]; rfl, HB.out⟩
        · have hdq : decide ((q : Int) < (s.size : Int)) = false := decide_eq_false (by omega)
          have hT : isName s.data.toList = true := by
            have hl : s.data.toList.length = s.size := rfl
            have h5 : s.data.toList.all isW = true := List.all_eq_true.2 (fun b hb => hall b (by rw [List.take_of_length_le (by omega)]; exact hb))
            have h6 : s.data.toList ≠ [] := fun e => h0 (by rw [← hl, e]; rfl)
            have h7 : isLetter (s.data.toList.headD 0) = true := by rw [HH.out.1]; exact HH.out.2.1
            unfold isName
            rw [decide_eq_true h6, decide_eq_true (show s.data.toList.length ≤ 32 by omega), h7, ← HH.out.2.2, h5]; rfl
          clear hall
          go_wp2_with fail
          go_ret
          exact ⟨by rw [hT]; rfl, HB.out⟩
    · go_enter Tryd.func13, Tryd.ntmps13
      go_wp2_with fail
      refine HC.out.mono ?_
      rintro e w1 ⟨rfl, rfl⟩
      go_wp2_with fail
      refine H15.out.mono ?_
      rintro e w1 ⟨rfl, hb1⟩
      go_wp2_with fail
      go_ret
      refine ⟨?_, hb1⟩
      have : isName s.data.toList = false := by simp [isName, ← HH.out.2.2]
      rw [this]; rfl
  · have hF : isName s.data.toList = false := by
      have hl : isLetter s[0] = false := by rw [← hk2]; exact decide_eq_false h2
      unfold isName
      rw [hhead]
      simp [hl]
    rw [hF]
    have hkk : ((k : Int) == 2) = false := by simp; omega
    go_enter Tryd.func13, Tryd.ntmps13
    go_wp2_with fail
    refine HC.out.mono ?_
    rintro e w1 ⟨rfl, rfl⟩
    go_wp2_with fail
    go_ret
    exact ⟨rfl, Below.refl _ _⟩
theorem clip29 (a : Option Addr) (n c : Nat) (hn : n ≤ c) (w : World) : Calls Tryd.prog 29 #[.slice a n c] w fun e w' => e = .returned (.slice a n n) ∧ w = w' := by
  go_enter Tryd.func29, Tryd.ntmps29
  go_wp2_with fail
  go_ret
  exact ⟨rfl, rfl⟩
/-- bytes as a builder's cells -/
theorem byteCells_app (l : List UInt8) (c : UInt8) : Lib.byteCells l ++ [Value.int .u8 (c.toNat : Int)] = Lib.byteCells (l ++ [c]) := by
  unfold Lib.byteCells
  simp
theorem wbyte40 (B b : Nat) (l : List UInt8) (c : UInt8) (w : World) (h : Lib.IsBuilder 57 5 B b (Lib.byteCells l) w) (hl : l.length < 100000) (hB : B ≤ w.heap.size) :
    Calls Tryd.prog 40 #[.pointer (some ⟨b, 0, none⟩), .int .u8 (c.toNat : Int)] w fun e w' => e = .returned .nilIface ∧ Lib.IsBuilder 57 5 B b (Lib.byteCells (l ++ [c])) w' ∧ Below B w w' := by
  refine (Any.Builder_WriteByte (ρ := mapL_ren) { mapL with } extraM B b (Lib.byteCells l) (c.toNat : Int) w h (by rw [Lib.byteCells_length]; omega) hB).mono ?_
  rintro e w' ⟨h1, h2, h3⟩
  rw [byteCells_app] at h2
  exact ⟨h1, .inr h2, h3⟩
theorem str39 (B b : Nat) (l : List UInt8) (w : World) (h : Lib.IsBuilder 57 5 B b (Lib.byteCells l) w) (hB : B ≤ w.heap.size) :
    Calls Tryd.prog 39 #[.pointer (some ⟨b, 0, none⟩)] w fun e w' => e = .returned (.string ⟨l.toArray⟩) ∧ Below B w w' :=
  Any.Builder_String_any (ρ := mapL_ren) { mapL with } extraM B b l w h hB
end Go.Proofs.YtofjifhnkcghpaaDoor
