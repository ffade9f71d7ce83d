/- What stands in quotes. -/
import Derived.Test.YtofjifhnkcghpaaDoorH
import Derived.OwnWalk
namespace Go.Proofs.YtofjifhnkcghpaaDoor
open Go.RowKit
set_option linter.unusedVariables false
set_option linter.unusedSimpArgs false
set_option maxRecDepth 100000
theorem txt_nil : txtL [] = none := rfl
theorem txt_end : txtL [39] = some ([], 1) := rfl
theorem txt_one {d : UInt8} {r : List UInt8} (h : d ≠ 39) : txtL (39 :: d :: r) = some ([], 1) := by rw [txtL.eq_def]; simp [h]
theorem txt_two (r : List UInt8) : txtL (39 :: 39 :: r) = (txtL r).map (fun p => (39 :: p.1, p.2 + 2)) := by rw [txtL.eq_def]; simp
theorem txt_any {c : UInt8} {r : List UInt8} (h : c ≠ 39) : txtL (c :: r) = (txtL r).map (fun p => (c :: p.1, p.2 + 1)) := by rw [txtL.eq_def]; simp [h]
/-- what text tells -/
def txtV (at' : Nat) : Option (List UInt8 × Nat) → Value
  | none => .tuple #[.string ⟨#[]⟩, .int .i64 0, .bool false]
  | some (t, n) => .tuple #[.string ⟨t.toArray⟩, .int .i64 ((at' + n : Nat) : Int), .bool true]
theorem eq39 (c : UInt8) : (((c.toNat : Nat) : Int) == 39) = decide (c = 39) := by
  rw [Bool.eq_iff_iff]
  simp only [beq_iff_eq, decide_eq_true_eq]
  constructor
  · intro h
    have : c.toNat = 39 := by omega
    exact UInt8.toNat_inj.1 this
  · rintro rfl; rfl
set_option maxHeartbeats 4000000 in
theorem text28 (s : ByteArray) (p : Nat) (w : World) (hp : p < s.size) (hs : s.size ≤ 4096) : Calls Tryd.prog 28 #[.string s, .int .i64 p] w fun e w' => e = .returned (txtV (p + 1) (txtL (s.data.toList.drop (p + 1)))) ∧ Below w.heap.size w w' := by
  obtain ⟨TOT, hT⟩ : ∃ T, T = txtL (s.data.toList.drop (p + 1)) := ⟨_, rfl⟩
  rw [← hT]
  have HT := Lib.hid hT
  clear hT
  have hi0 := Lib.fresh_isBuilder 57 5 w
  have HI := Lib.hid hi0
  clear hi0
  go_enter Tryd.func28, Tryd.ntmps28
  go_wp2_with fail
  go_loopw [8] (fun a wr => ∃ (i : Nat) (acc : List UInt8), i ≤ s.size + 1 ∧ p + 1 ≤ i ∧ acc.length ≤ i ∧ a = .int .i64 i ∧ TOT = (txtL (s.data.toList.drop i)).map (fun q => (acc ++ q.1, q.2 + (i - (p + 1)))) ∧ Lib.IsBuilder 57 5 w.heap.size w.heap.size (Lib.byteCells acc) wr ∧ Below w.heap.size w wr) (fun a _ => s.size + 2 - (intOf a).toNat)
  case atStart =>
    refine ⟨p + 1, [], by omega, by omega, by simp, by go_num, ?_, HI.out, (Below.refl _ w).alloc (Nat.le_refl _) _⟩
    rw [HT.out]
    cases txtL (s.data.toList.drop (p + 1)) <;> simp
  case round =>
    obtain ⟨i, acc, hi1, hi2, hac, rfl, htot, hbu, hbl⟩ := hrel
    by_cases hlt : i < s.size
    · have hd : decide ((i : Int) < (s.size : Int)) = true := decide_eq_true (by omega)
      have hq := eq39 s[i]
      have HR := Lib.hid (And.intro htot (And.intro hbu hbl))
      clear htot hbu hbl
      by_cases hc : s[i] = 39
      · rw [decide_eq_true hc] at hq
        by_cases he : i + 1 = s.size
        · have hed : ((i : Int) + 1 == (s.size : Int)) = true := by simp; omega
          go_wp2_with fail
          refine (str39 w.heap.size w.heap.size acc wr HR.out.2.1 HR.out.2.2.size).mono ?_
          rintro e w2 ⟨rfl, hb2⟩
          have HB := Lib.hid (hb2)
          clear hb2
          go_wp2_with fail
          go_ret3
          refine ⟨?_, HR.out.2.2.trans HB.out⟩
          have h1 := HR.out.1
          rw [str_drop s hlt, hc, str_end s (by omega), txt_end] at h1
          rw [h1]
          show _ = Ending.returned (Value.tuple #[.string ⟨(acc ++ []).toArray⟩, .int .i64 ((p + 1 + (1 + (i - (p + 1))) : Nat) : Int), .bool true])
          rw [List.append_nil, show p + 1 + (1 + (i - (p + 1))) = i + 1 by omega]
          rfl
        · have hed : ((i : Int) + 1 == (s.size : Int)) = false := by simp; omega
          have hl2 : i + 1 < s.size := by omega
          have hq2 := eq39 s[i + 1]
          by_cases hc2 : s[i + 1] = 39
          · go_wp2_with fail
            refine (wbyte40 w.heap.size w.heap.size acc 39 wr HR.out.2.1 (by omega) HR.out.2.2.size).mono ?_
            rintro e w2 ⟨rfl, hbu2, hb2⟩
            have HB := Lib.hid (And.intro hbu2 (HR.out.2.2.trans hb2))
            clear hbu2 hb2
            go_wp2_with fail
            go_roundw
            case rel =>
              refine ⟨i + 2, acc ++ [39], by omega, by omega, by simp; omega, by go_num, ?_, HB.out⟩
              have h1 := HR.out.1
              rw [str_drop s hlt, hc, str_drop s hl2, hc2, txt_two] at h1
              rw [h1, Option.map_map]
              congr 1
              funext q
              simp
              omega
            case measure => simp [intOf]; omega
          · rw [decide_eq_false hc2] at hq2
            have hq3 : ((s[i + 1].toNat : Int) != 39) = true := by unfold bne; rw [hq2]; rfl
            go_wp2_with fail
            refine (str39 w.heap.size w.heap.size acc wr HR.out.2.1 HR.out.2.2.size).mono ?_
            rintro e w2 ⟨rfl, hb2⟩
            have HB := Lib.hid (hb2)
            clear hb2
            go_wp2_with fail
            go_ret3
            refine ⟨?_, HR.out.2.2.trans HB.out⟩
            have h1 := HR.out.1
            rw [str_drop s hlt, hc, str_drop s hl2, txt_one hc2] at h1
            rw [h1]
            show _ = Ending.returned (Value.tuple #[.string ⟨(acc ++ []).toArray⟩, .int .i64 ((p + 1 + (1 + (i - (p + 1))) : Nat) : Int), .bool true])
            rw [List.append_nil, show p + 1 + (1 + (i - (p + 1))) = i + 1 by omega]
            rfl
      · rw [decide_eq_false hc] at hq
        go_wp2_with fail
        refine (wbyte40 w.heap.size w.heap.size acc s[i] wr HR.out.2.1 (by omega) HR.out.2.2.size).mono ?_
        rintro e w2 ⟨rfl, hbu2, hb2⟩
        have HB := Lib.hid (And.intro hbu2 (HR.out.2.2.trans hb2))
        clear hbu2 hb2
        go_wp2_with fail
        go_roundw
        case rel =>
          refine ⟨i + 1, acc ++ [s[i]], by omega, by omega, by simp; omega, by go_num, ?_, HB.out⟩
          have h1 := HR.out.1
          rw [str_drop s hlt, txt_any hc] at h1
          rw [h1, Option.map_map]
          congr 1
          funext q
          simp
          omega
        case measure => simp [intOf]; omega
    · have hd : decide ((i : Int) < (s.size : Int)) = false := decide_eq_false (by omega)
      have HR := Lib.hid (And.intro htot (And.intro hbu hbl))
      clear htot hbu hbl
      go_wp2_with fail
      go_ret3
      refine ⟨?_, HR.out.2.2⟩
      have h1 := HR.out.1
      rw [str_end s (by omega), txt_nil] at h1
      rw [h1]
      rfl
end Go.Proofs.YtofjifhnkcghpaaDoor
