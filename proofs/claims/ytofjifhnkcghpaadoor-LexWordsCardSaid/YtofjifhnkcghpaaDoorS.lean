/- The reference's IsKeyword, IsName, Quote. -/
import Derived.Test.YtofjifhnkcghpaaDoorR
namespace Go.Proofs.YtofjifhnkcghpaaDoor
open Go.RowKit
set_option linter.unusedVariables false
set_option linter.unusedSimpArgs false
set_option maxRecDepth 100000
theorem ba_app (a b : ByteArray) : (a ++ b).data.toList = a.data.toList ++ b.data.toList := by simp
theorem kwB_len : kwB.length = 17 := by decide
theorem strEq (a b : ByteArray) : (a.toList == b.toList) = decide (a = b) := by
  rw [ByteArray.toList_eq, ByteArray.toList_eq, Bool.eq_iff_iff]
  simp only [beq_iff_eq, decide_eq_true_eq]
  constructor
  · intro h; exact WideShapes.bytes_inj h
  · rintro rfl; rfl
set_option maxHeartbeats 4000000 in
theorem isKw16 (s : ByteArray) (w : World) (hs : s.size ≤ 140737488351232) : Calls Tryd.prog 16 #[.string s] w fun e w' => e = .returned (.bool (isKw s.data.toList)) ∧ Below w.heap.size w w' := by
  have hal : Below w.heap.size w (w.alloc (.cells kwC 9)) := (Below.refl w.heap.size w).alloc (Nat.le_refl _) _
  obtain ⟨T, hT⟩ : ∃ T : ByteArray, T = ⟨(s.data.toList.map up).toArray⟩ := ⟨_, rfl⟩
  have HC := capitals34 s (w.alloc (.cells kwC 9)) hs
  rw [← hT] at HC
  have hkw : isKw s.data.toList = true ↔ T ∈ kwB := by
    unfold isKw kwB
    simp only [decide_eq_true_eq, List.mem_map]
    constructor
    · intro h; exact ⟨_, h, hT.symm⟩
    · rintro ⟨k, hk, e⟩
      rw [hT] at e
      injection e with e
      have := congrArg Array.toList e
      simp at this
      rw [← this]; exact hk
  have HKW := Lib.hid hkw
  have hlt : w.heap.size < (w.alloc (.cells kwC 9)).heap.size := by simp
  have HB := Lib.hid (And.intro hal (And.intro (Blk.new w 9 kwC) hlt))
  have HC := Lib.hid HC
  clear hal hT hkw hlt
  go_enter Tryd.func16, Tryd.ntmps16
  go_wp2_with fail
  change Calls Tryd.prog 34 #[.string s] (w.alloc (.cells kwC 9)) _
  refine HC.out.mono ?_
  rintro e w2 ⟨rfl, hb2⟩
  have HB2 := Lib.hid (And.intro (HB.out.2.1.below hb2 HB.out.2.2) (Below.call HB.out.1 hb2))
  clear hb2
  go_wp2_with fail
  go_loopw [5] (fun x wr => ∃ i : Nat, i ≤ 17 ∧ x = .int .i64 i ∧ (∀ j, j < i → kwB.getD j ByteArray.empty ≠ T) ∧ w2 = wr) (fun x _ => 17 - (intOf x).toNat)
  case atStart => exact ⟨0, by omega, rfl, fun j hj => by omega, rfl⟩
  case round =>
    obtain ⟨i, hi, rfl, hno, rfl⟩ := hrel
    by_cases hlt : i < 17
    · have hd : decide ((i : Int) < 17) = true := decide_eq_true (by omega)
      obtain ⟨K, hK⟩ : ∃ K, K = kwB.getD i ByteArray.empty := ⟨_, rfl⟩
      have hc : w2.cell? ⟨w.heap.size, i, none⟩ = some (.string K) := by rw [Blk.cell HB2.out.1 i, kwB_at i (by rw [kwB_len]; exact hlt), hK]
      have he := strEq K T
      have HN := Lib.hid (And.intro hno hK)
      clear hno
      by_cases hKT : K = T
      · rw [decide_eq_true hKT] at he
        have HE := Lib.hid hKT
        clear hKT hK
        go_wp2_with fail
        go_ret
        refine ⟨?_, HB2.out.2⟩
        have : T ∈ kwB := by
          rw [← HE.out, HN.out.2, List.getD_eq_getElem?_getD, List.getElem?_eq_getElem (by rw [kwB_len]; exact hlt)]
          exact List.getElem_mem _
        rw [HKW.out.2 this]; rfl
      · rw [decide_eq_false hKT] at he
        have HE := Lib.hid hKT
        clear hKT hK
        go_wp2_with fail
        go_roundw
        case rel =>
          refine ⟨i + 1, by omega, by go_num, fun j hj => ?_, by first | rfl | trivial⟩
          by_cases hji : j = i
          · rw [hji, ← HN.out.2]; exact HE.out
          · exact HN.out.1 j (by omega)
        case measure => simp [intOf]; omega
    · have hd : decide ((i : Int) < 17) = false := decide_eq_false (by omega)
      have HN := Lib.hid hno
      clear hno
      go_wp2_with fail
      go_ret
      refine ⟨?_, HB2.out.2⟩
      have : T ∉ kwB := fun hm => by
        obtain ⟨j, hj, hje⟩ := List.getElem_of_mem hm
        refine HN.out j (by rw [kwB_len] at hj; omega) ?_
        rw [List.getD_eq_getElem?_getD, List.getElem?_eq_getElem hj]; exact hje
      have hf : isKw s.data.toList = false := by cases hk : isKw s.data.toList with
        | false => rfl
        | true => exact absurd (HKW.out.1 hk) this
      rw [hf]; rfl
set_option maxHeartbeats 4000000 in
theorem quote18 (s : ByteArray) (w : World) (hs : s.size ≤ 100000) : Calls Tryd.prog 18 #[.string s] w fun e w' => e = .returned (.string ⟨(quoteL s.data.toList).toArray⟩) ∧ w = w' := by
  go_enter Tryd.func18, Tryd.ntmps18
  go_wp2_with fail
  go_loopw [3, 4] (fun v x wr => ∃ (q : Nat) (O : ByteArray), q ≤ s.size ∧ x = .int .i64 q ∧ v = .string O ∧ O.data.toList = 39 :: quoteB (s.data.toList.take q) ∧ w = wr) (fun _ x _ => s.size - (intOf x).toNat)
  case atStart => exact ⟨0, ⟨#[39]⟩, by omega, rfl, rfl, rfl, rfl⟩
  case round =>
    obtain ⟨q, O, hq, rfl, rfl, hO, rfl⟩ := hrel
    have hOs : O.size ≤ 2 * q + 1 := by
      have h1 : O.size = (39 :: quoteB (s.data.toList.take q)).length := by rw [← hO]; rfl
      have h2 : (s.data.toList.take q).count 39 ≤ (s.data.toList.take q).length := List.count_le_length
      rw [List.length_cons, quoteB_len] at h1
      rw [List.length_take] at h1 h2
      omega
    by_cases hlt : q < s.size
    · have hd : decide ((q : Int) < (s.size : Int)) = true := decide_eq_true (by omega)
      have he := eq39 s[q]
      have hsn : quoteB (s.data.toList.take (q + 1)) = quoteB (s.data.toList.take q) ++ (if s[q] = 39 then [39, 39] else [s[q]]) := by
        have hql : q < s.data.toList.length := hlt
        have e : s.data.toList[q] = s[q] := rfl
        rw [List.take_succ_eq_append_getElem hql, e]
        generalize s.data.toList.take q = l
        induction l with
        | nil => by_cases h : s[q] = 39 <;> simp [quoteB, h]
        | cons a l ih =>
          by_cases ha : a = 39
          · subst ha; simp only [List.cons_append, quoteB, if_true, ih]
          · simp only [List.cons_append, quoteB, ha, if_false, ih]
      have hx : (s.extract q (q + 1)).data.toList = [s[q]] := by
        rw [ext_list, str_drop s hlt]; rfl
      have hxs : (s.extract q (q + 1)).size = 1 := by rw [← str_len, hx]; rfl
      have HX := Lib.hid (And.intro hO (And.intro hsn hx))
      clear hO hsn hx
      by_cases hc : s[q] = 39
      · rw [decide_eq_true hc] at he
        have HC := Lib.hid hc
        clear hc
        go_wp2_with fail
        exact ⟨⟨q + 1, O ++ ⟨#[39]⟩ ++ s.extract q (q + 1), by omega, by first | rfl | go_num, rfl, by rw [HX.out.2.1, if_pos HC.out]; have h7 := HX.out.2.2; rw [HC.out] at h7; rw [ba_app, ba_app, h7, HX.out.1]; simp, by first | rfl | trivial⟩, by simp [intOf]; omega⟩
      · rw [decide_eq_false hc] at he
        have HC := Lib.hid hc
        clear hc
        go_wp2_with fail
        exact ⟨⟨q + 1, O ++ s.extract q (q + 1), by omega, by first | rfl | go_num, rfl, by rw [HX.out.2.1, if_neg HC.out]; rw [ba_app, HX.out.2.2, HX.out.1]; simp, by first | rfl | trivial⟩, by simp [intOf]; omega⟩
    · have hd : decide ((q : Int) < (s.size : Int)) = false := decide_eq_false (by omega)
      rw [List.take_of_length_le (by rw [str_len]; omega)] at hO
      have HX := Lib.hid hO
      clear hO
      go_wp2_with fail
      go_ret
      refine ⟨?_, rfl⟩
      show Ending.returned (Value.string (O ++ (⟨#[39]⟩ : ByteArray))) = _
      have e : O ++ (⟨#[39]⟩ : ByteArray) = ⟨(quoteL s.data.toList).toArray⟩ := WideShapes.bytes_inj (by simp [HX.out, quoteL])
      rw [e]
set_option maxHeartbeats 4000000 in
theorem isName14 (s : ByteArray) (w : World) (hs : s.size ≤ 140737488351232) : Calls Tryd.prog 14 #[.string s] w fun e w' => e = .returned (.bool (isName s.data.toList)) ∧ Below w.heap.size w w' := by
  by_cases h0 : s.size = 0
  · obtain ⟨⟨l⟩⟩ := s
    have hl : l = [] := List.eq_nil_of_length_eq_zero (by exact h0)
    subst hl
    go_enter Tryd.func14, Tryd.ntmps14
    go_wp2_with fail
    go_ret
    exact ⟨rfl, Below.refl _ _⟩
  have hne : ¬ s.toList = [] := fun e => h0 (by have := congrArg List.length e; rw [ByteArray.toList_eq] at this; exact this)
  have hie : s.toList.isEmpty = false := by cases hh : s.toList with
    | nil => exact absurd hh hne
    | cons a b => rfl
  by_cases h1 : 32 < s.size
  · have hd : decide ((32 : Int) < (s.size : Int)) = true := decide_eq_true (by omega)
    have hF : isName s.data.toList = false := by
      have : ¬ s.data.toList.length ≤ 32 := by show ¬ s.size ≤ 32; omega
      unfold isName
      rw [decide_eq_false this]
      simp
    rw [hF]
    go_enter Tryd.func14, Tryd.ntmps14
    go_wp2_with fail
    go_ret
    exact ⟨rfl, Below.refl _ _⟩
  have hd : decide ((32 : Int) < (s.size : Int)) = false := decide_eq_false (by omega)
  have hpos : 0 < s.size := by omega
  have hhead : s.data.toList = s[0] :: s.data.toList.drop 1 := by have := str_drop s hpos; simpa using this
  have HC := Lib.hid (letter30 s[0] w)
  by_cases h2 : isLetter s[0] = true
  · have HH := Lib.hid (And.intro hhead h2)
    rw [h2] at HC
    clear hhead h2
    go_enter Tryd.func14, Tryd.ntmps14
    go_wp2_with fail
    refine HC.out.mono ?_
    rintro e w1 ⟨rfl, rfl⟩
    go_wp2_with fail
    go_loopw [3] (fun a wr => ∃ q : Nat, q ≤ s.size ∧ a = .int .i64 q ∧ (∀ b ∈ s.data.toList.take q, isW b = true) ∧ w = wr) (fun a _ => s.size - (intOf a).toNat)
    case atStart => exact ⟨0, by omega, rfl, by simp, rfl⟩
    case round =>
      obtain ⟨q, hq, rfl, hall, rfl⟩ := hrel
      by_cases hlt : q < s.size
      · have hdq : decide ((q : Int) < (s.size : Int)) = true := decide_eq_true (by omega)
        have HA := Lib.hid hall
        have HL := Lib.hid (letter30 s[q] w)
        have HD := Lib.hid (digit31 s[q] w)
        obtain ⟨b1, hb1⟩ : ∃ b, b = isLetter s[q] := ⟨_, rfl⟩
        obtain ⟨b2, hb2⟩ : ∃ b, b = isDigit s[q] := ⟨_, rfl⟩
        rw [← hb1] at HL
        rw [← hb2] at HD
        have HB := Lib.hid (show isW s[q] = (b1 || b2) by rw [hb1, hb2]; rfl)
        clear hall hb1 hb2
        have hfin : (b1 || b2) = true → ∀ b ∈ s.data.toList.take (q + 1), isW b = true := fun hbb b hb => by
          have hql : q < s.data.toList.length := hlt
          rw [List.take_succ_eq_append_getElem hql] at hb
          rcases List.mem_append.1 hb with hb | hb
          · exact HA.out b hb
          · simp at hb; rw [hb]; exact HB.out.trans hbb
        have HFN := Lib.hid hfin
        clear hfin
        cases b1
        · cases b2
          · have hF : isName s.data.toList = false := by
              have : s.data.toList.all isW = false := by
                rw [List.all_eq_false]
                exact ⟨s[q], by
                  have h7 := str_drop s hlt
                  have h8 : s[q] ∈ s.data.toList.drop q := by rw [h7]; simp
                  exact List.mem_of_mem_drop h8, by rw [HB.out]; simp⟩
              unfold isName
              rw [this]; simp
            go_wp2_with fail
            refine HL.out.mono ?_
            rintro e w1 ⟨rfl, rfl⟩
            go_wp2_with fail
            refine HD.out.mono ?_
            rintro e w1 ⟨rfl, rfl⟩
            go_wp2_with fail
            go_ret
            exact ⟨by rw [hF]; rfl, Below.refl _ _⟩
          · go_wp2_with fail
            refine HL.out.mono ?_
            rintro e w1 ⟨rfl, rfl⟩
            go_wp2_with fail
            refine HD.out.mono ?_
            rintro e w1 ⟨rfl, rfl⟩
            go_wp2_with fail
            exact ⟨⟨q + 1, by omega, by first | rfl | go_num, HFN.out rfl, by first | rfl | trivial⟩, by simp [intOf]; omega⟩
        · go_wp2_with fail
          refine HL.out.mono ?_
          rintro e w1 ⟨rfl, rfl⟩
          go_wp2_with fail
          exact ⟨⟨q + 1, by omega, by first | rfl | go_num, HFN.out rfl, by first | rfl | trivial⟩, by simp [intOf]; omega⟩
      · have hdq : decide ((q : Int) < (s.size : Int)) = false := decide_eq_false (by omega)
        have H16 := Lib.hid (isKw16 s w hs)
        have hT : isName s.data.toList = !isKw s.data.toList := by
          have hl : s.data.toList.length = s.size := rfl
          have h5 : s.data.toList.all isW = true := List.all_eq_true.2 (fun b hb => hall b (by rw [List.take_of_length_le (by omega)]; exact hb))
          have h6 : s.data.toList ≠ [] := fun e => h0 (by rw [← hl, e]; rfl)
          have h7 : isLetter (s.data.toList.headD 0) = true := by rw [HH.out.1]; exact HH.out.2
          unfold isName
          rw [decide_eq_true h6, decide_eq_true (show s.data.toList.length ≤ 32 by omega), h7, h5]; simp
        obtain ⟨kw, hkw⟩ : ∃ kw, kw = isKw s.data.toList := ⟨_, rfl⟩
        rw [← hkw] at hT H16
        have HT := Lib.hid hT
        clear hall hT hkw
        cases kw
        all_goals (
          go_wp2_with fail
          refine H16.out.mono ?_
          rintro e w1 ⟨rfl, hb1⟩
          go_wp2_with fail
          go_ret
          exact ⟨by rw [HT.out]; rfl, hb1⟩)
  · have h2 : isLetter s[0] = false := by simpa using h2
    have hF : isName s.data.toList = false := by
      unfold isName
      rw [hhead]
      simp [h2]
    rw [hF]
    rw [h2] at HC
    clear hhead h2
    go_enter Tryd.func14, Tryd.ntmps14
    go_wp2_with fail
    refine HC.out.mono ?_
    rintro e w1 ⟨rfl, rfl⟩
    go_wp2_with fail
    go_ret
    exact ⟨rfl, Below.refl _ _⟩
theorem cut_str (s : ByteArray) : (s.extract 0 5000).size ≤ 5000 := by
  have : (s.extract 0 5000).data.toList = (s.data.toList.drop 0).take (5000 - 0) := Lib.extract_data s 0 5000
  rw [← str_len, this, List.length_take]
  omega
set_option maxHeartbeats 4000000 in
theorem kinds4 (s : ByteArray) (w : World) (hs : s.size ≤ 140737488351232) (h : GW w) : Calls Tryd.prog 4 #[.string s] w fun e w' => e = .returned (.bool true) ∧ Below w.heap.size w w' := by
  have HG := Lib.hid h
  clear h
  have H9 := Lib.hid (awake9 w HG.out)
  by_cases hbig : 5000 < s.size
  · have hd : decide ((5000 : Int) < (s.size : Int)) = true := decide_eq_true (by omega)
    have hcs := cut_str s
    obtain ⟨X, hX⟩ : ∃ X, X = s.extract 0 5000 := ⟨_, rfl⟩
    rw [← hX] at hcs
    have HXX := Lib.hid hX
    clear hX
    obtain ⟨nm, hnm⟩ : ∃ b, b = isName X.data.toList := ⟨_, rfl⟩
    obtain ⟨kw, hkw⟩ : ∃ b, b = isKw X.data.toList := ⟨_, rfl⟩
    have hnk : ¬ (nm = true ∧ kw = true) := by
      rintro ⟨e1, e2⟩
      rw [e1] at hnm
      rw [e2] at hkw
      have h8 := hnm.symm
      unfold isName at h8
      rw [← hkw] at h8
      simp at h8
    obtain ⟨Q, hQ⟩ : ∃ Q : ByteArray, Q = ⟨(quoteL X.data.toList).toArray⟩ := ⟨_, rfl⟩
    have HX := Lib.hid (And.intro hnm (And.intro hkw hQ))
    clear hnm hkw hQ
    cases nm <;> cases kw
    case true.true => exact absurd ⟨rfl, rfl⟩ hnk
    all_goals (
      go_enter Tryd.func4, Tryd.ntmps4
      go_wp2_with fail
      refine H9.out.mono ?_
      rintro e w1 ⟨rfl, hb1⟩
      have HB1 := Lib.hid hb1
      clear hb1
      go_wp2_with fail
      rw [← HXX.out]
      refine (isName13 X w1 (by omega) (HG.out.below HB1.out).kt (HG.out.below HB1.out).ut (HG.out.below HB1.out).pos).mono ?_
      rintro e w2 ⟨rfl, hb2⟩
      rw [← HX.out.1]
      have HB2 := Lib.hid (Below.call HB1.out hb2)
      clear hb2
      go_wp2_with fail
      refine (isName14 X w2 (by omega)).mono ?_
      rintro e w3 ⟨rfl, hb3⟩
      rw [← HX.out.1]
      have HB3 := Lib.hid (Below.call HB2.out hb3)
      clear hb3
      go_wp2_with fail
      refine (isKeyword15 X w3 (by omega) (HG.out.below HB3.out).ut).mono ?_
      rintro e w4 ⟨rfl, hb4⟩
      rw [← HX.out.2.1]
      have HB4 := Lib.hid (Below.call HB3.out hb4)
      clear hb4
      go_wp2_with fail
      refine (isKw16 X w4 (by omega)).mono ?_
      rintro e w5 ⟨rfl, hb5⟩
      rw [← HX.out.2.1]
      have HB5 := Lib.hid (Below.call HB4.out hb5)
      clear hb5
      go_wp2_with fail
      refine (quote17 X w5 (by omega) (HG.out.below HB5.out)).mono ?_
      rintro e w6 ⟨rfl, hb6⟩
      rw [← HX.out.2.2]
      have HB6 := Lib.hid (Below.call HB5.out hb6)
      clear hb6
      go_wp2_with fail
      refine (quote18 X w6 (by omega)).mono ?_
      rintro e w7 ⟨rfl, rfl⟩
      rw [← HX.out.2.2]
      go_wp2_with fail
      refine (isName13 X w6 (by omega) (HG.out.below HB6.out).kt (HG.out.below HB6.out).ut (HG.out.below HB6.out).pos).mono ?_
      rintro e w8 ⟨rfl, hb8⟩
      rw [← HX.out.1]
      have HB8 := Lib.hid (Below.call HB6.out hb8)
      clear hb8
      go_wp2_with fail
      first
        | (go_ret
           exact ⟨rfl, HB8.out⟩)
        | (refine (isKeyword15 X w8 (by omega) (HG.out.below HB8.out).ut).mono ?_
           rintro e w9 ⟨rfl, hb9⟩
           rw [← HX.out.2.1]
           have HB9 := Lib.hid (Below.call HB8.out hb9)
           clear hb9
           go_wp2_with fail
           go_ret
           exact ⟨rfl, HB9.out⟩))
  · have hd : decide ((5000 : Int) < (s.size : Int)) = false := decide_eq_false (by omega)
    obtain ⟨X, hX⟩ : ∃ X, X = s := ⟨_, rfl⟩
    rw [← hX] at hbig hd ⊢
    clear hX
    obtain ⟨nm, hnm⟩ : ∃ b, b = isName X.data.toList := ⟨_, rfl⟩
    obtain ⟨kw, hkw⟩ : ∃ b, b = isKw X.data.toList := ⟨_, rfl⟩
    have hnk : ¬ (nm = true ∧ kw = true) := by
      rintro ⟨e1, e2⟩
      rw [e1] at hnm
      rw [e2] at hkw
      have h8 := hnm.symm
      unfold isName at h8
      rw [← hkw] at h8
      simp at h8
    obtain ⟨Q, hQ⟩ : ∃ Q : ByteArray, Q = ⟨(quoteL X.data.toList).toArray⟩ := ⟨_, rfl⟩
    have HX := Lib.hid (And.intro hnm (And.intro hkw hQ))
    clear hnm hkw hQ
    cases nm <;> cases kw
    case true.true => exact absurd ⟨rfl, rfl⟩ hnk
    all_goals (
      go_enter Tryd.func4, Tryd.ntmps4
      go_wp2_with fail
      refine H9.out.mono ?_
      rintro e w1 ⟨rfl, hb1⟩
      have HB1 := Lib.hid hb1
      clear hb1
      go_wp2_with fail
      refine (isName13 X w1 (by omega) (HG.out.below HB1.out).kt (HG.out.below HB1.out).ut (HG.out.below HB1.out).pos).mono ?_
      rintro e w2 ⟨rfl, hb2⟩
      rw [← HX.out.1]
      have HB2 := Lib.hid (Below.call HB1.out hb2)
      clear hb2
      go_wp2_with fail
      refine (isName14 X w2 (by omega)).mono ?_
      rintro e w3 ⟨rfl, hb3⟩
      rw [← HX.out.1]
      have HB3 := Lib.hid (Below.call HB2.out hb3)
      clear hb3
      go_wp2_with fail
      refine (isKeyword15 X w3 (by omega) (HG.out.below HB3.out).ut).mono ?_
      rintro e w4 ⟨rfl, hb4⟩
      rw [← HX.out.2.1]
      have HB4 := Lib.hid (Below.call HB3.out hb4)
      clear hb4
      go_wp2_with fail
      refine (isKw16 X w4 (by omega)).mono ?_
      rintro e w5 ⟨rfl, hb5⟩
      rw [← HX.out.2.1]
      have HB5 := Lib.hid (Below.call HB4.out hb5)
      clear hb5
      go_wp2_with fail
      refine (quote17 X w5 (by omega) (HG.out.below HB5.out)).mono ?_
      rintro e w6 ⟨rfl, hb6⟩
      rw [← HX.out.2.2]
      have HB6 := Lib.hid (Below.call HB5.out hb6)
      clear hb6
      go_wp2_with fail
      refine (quote18 X w6 (by omega)).mono ?_
      rintro e w7 ⟨rfl, rfl⟩
      rw [← HX.out.2.2]
      go_wp2_with fail
      refine (isName13 X w6 (by omega) (HG.out.below HB6.out).kt (HG.out.below HB6.out).ut (HG.out.below HB6.out).pos).mono ?_
      rintro e w8 ⟨rfl, hb8⟩
      rw [← HX.out.1]
      have HB8 := Lib.hid (Below.call HB6.out hb8)
      clear hb8
      go_wp2_with fail
      first
        | (go_ret
           exact ⟨rfl, HB8.out⟩)
        | (refine (isKeyword15 X w8 (by omega) (HG.out.below HB8.out).ut).mono ?_
           rintro e w9 ⟨rfl, hb9⟩
           rw [← HX.out.2.1]
           have HB9 := Lib.hid (Below.call HB8.out hb9)
           clear hb9
           go_wp2_with fail
           go_ret
           exact ⟨rfl, HB9.out⟩))
end Go.Proofs.YtofjifhnkcghpaaDoor
