/- Frames. -/
import Derived.Test.YtocanbdpdnkapaaF
namespace Go.Proofs.Ytocanbdpdnkapaa
open Go.RowKit
set_option linter.unusedVariables false
set_option linter.unusedSimpArgs false

theorem leS_size (n k : Nat) : (leS n k).size = k := by simp [leS, leB, ByteArray.size]
def frameS (body : ByteArray) : ByteArray := leS body.size 4 ++ leS (crc body) 4 ++ body
def frameR (body : ByteArray) : ByteArray × Int := if 65536 < body.size then (⟨#[]⟩, 23) else (frameS body, 0)

set_option maxRecDepth 100000 in
set_option maxHeartbeats 4000000 in
theorem frame14 (body : ByteArray) (w : World) (hs : body.size ≤ 140737488351232) :
    Calls Try.prog 14 #[.string body] w fun e w' => e = .returned (.tuple #[.string (frameR body).1, .int .i64 (frameR body).2]) ∧ Below w.heap.size w w' := by
  by_cases h : 65536 < body.size
  · have hI : decide ((65536 : Int) < body.size) = true := decide_eq_true (by omega)
    have HR := Lib.hid (show frameR body = (⟨#[]⟩, 23) from if_pos h)
    go_enter Try.func14, Try.ntmps14
    go_wp2_with fail
    go_ret2
    rw [HR.out]
    exact ⟨rfl, Below.refl _ _⟩
  · have hI : decide ((65536 : Int) < body.size) = false := decide_eq_false (by omega)
    have HR := Lib.hid (show frameR body = (frameS body, 0) from if_neg h)
    have hc := crc_lt body
    obtain ⟨c, hce⟩ : ∃ c, crc body = c := ⟨_, rfl⟩
    have HS := sum12 body
    rw [hce] at hc HS
    have HSS := Lib.hid HS
    have HCE := Lib.hid hce
    have z1 := leS_size body.size 4
    have z2 := leS_size c 4
    have t1 : ¬ 9223372036854775807 < (leS body.size 4).size + (leS c 4).size := by omega
    have t2 : ¬ 9223372036854775807 < (leS body.size 4).size + (leS c 4).size + body.size := by omega
    have t3 : ¬ 9223372036854775807 < (leS body.size 4 ++ leS c 4).size + body.size := by rw [ByteArray.size_append]; omega
    clear z1 z2
    clear hce HS
    go_enter Try.func14, Try.ntmps14
    go_wp2_with fail
    refine (little38 body.size 4 w (by omega) (by omega)).mono ?_
    rintro e w1 ⟨rfl, hB1⟩
    have HB1 := Lib.hid hB1
    clear hB1
    go_wp2_with fail
    refine (HSS.out w1 hs).mono ?_
    rintro e w2 ⟨rfl, hB2⟩
    have HB2 := Lib.hid (Below.call HB1.out hB2)
    clear hB2
    go_wp2_with fail
    refine (little38 c 4 w2 (by omega) (by omega)).mono ?_
    rintro e w3 ⟨rfl, hB3⟩
    have HB3 := Lib.hid (Below.call HB2.out hB3)
    clear hB3
    go_wp2_with fail
    go_ret2
    rw [HR.out]
    exact ⟨by unfold frameS; rw [HCE.out]; rfl, HB3.out⟩

set_option maxRecDepth 100000 in
set_option maxHeartbeats 4000000 in
theorem frame15 (body : ByteArray) (w : World) (hs : body.size ≤ 140737488351232) :
    Calls Try.prog 15 #[.string body] w fun e w' => e = .returned (.tuple #[.string (frameR body).1, .int .i64 (frameR body).2]) ∧ Below w.heap.size w w' := by
  by_cases h : 65536 < body.size
  · have hI : decide ((65536 : Int) < body.size) = true := decide_eq_true (by omega)
    have HR := Lib.hid (show frameR body = (⟨#[]⟩, 23) from if_pos h)
    go_enter Try.func15, Try.ntmps15
    go_wp2_with fail
    go_ret2
    rw [HR.out]
    exact ⟨rfl, Below.refl _ _⟩
  · have hI : decide ((65536 : Int) < body.size) = false := decide_eq_false (by omega)
    have HR := Lib.hid (show frameR body = (frameS body, 0) from if_neg h)
    have hc := crc_lt body
    obtain ⟨c, hce⟩ : ∃ c, crc body = c := ⟨_, rfl⟩
    have HS := sum11 body
    rw [hce] at hc HS
    have HSS := Lib.hid HS
    have HCE := Lib.hid hce
    have z1 := leS_size body.size 4
    have z2 := leS_size c 4
    have t1 : ¬ 9223372036854775807 < (leS body.size 4).size + (leS c 4).size := by omega
    have t2 : ¬ 9223372036854775807 < (leS body.size 4).size + (leS c 4).size + body.size := by omega
    have t3 : ¬ 9223372036854775807 < (leS body.size 4 ++ leS c 4).size + body.size := by rw [ByteArray.size_append]; omega
    clear z1 z2
    clear hce HS
    go_enter Try.func15, Try.ntmps15
    go_wp2_with fail
    refine (num39 body.size 4 w (by omega) (by omega)).mono ?_
    rintro e w1 ⟨rfl, hB1⟩
    have HB1 := Lib.hid hB1
    clear hB1
    go_wp2_with fail
    refine (HSS.out w1 hs).mono ?_
    rintro e w2 ⟨rfl, rfl⟩
    go_wp2_with fail
    refine (num39 c 4 w1 (by omega) (by omega)).mono ?_
    rintro e w3 ⟨rfl, hB3⟩
    have HB3 := Lib.hid (Below.call HB1.out hB3)
    clear hB3
    go_wp2_with fail
    go_ret2
    rw [HR.out]
    exact ⟨by unfold frameS; rw [HCE.out]; rfl, HB3.out⟩

/-- what is taken out of a frame -/
def unfR (s : ByteArray) : ByteArray × Nat × Int :=
  if s.size < 8 then (⟨#[]⟩, 0, 20)
  else if 65536 < deS (s.extract 0 4) then (⟨#[]⟩, 0, 23)
  else if s.size < 8 + deS (s.extract 0 4) then (⟨#[]⟩, 0, 20)
  else if crc (s.extract 8 (8 + deS (s.extract 0 4))) = deS (s.extract 4 8) then (s.extract 8 (8 + deS (s.extract 0 4)), 8 + deS (s.extract 0 4), 0)
  else (⟨#[]⟩, 0, 21)
theorem extract_size (s : ByteArray) (a b : Nat) (h : b ≤ s.size) : (s.extract a b).size = b - a := by
  rw [ByteArray.size_extract]; omega
theorem deS_lt4 {s : ByteArray} (h : s.size = 4) : deS s < 4294967296 := by
  have h1 := deL_lt s.data.toList
  have : s.data.toList.length = 4 := by rw [Array.length_toList]; exact h
  rw [this] at h1
  exact h1

set_option maxRecDepth 100000 in
set_option maxHeartbeats 4000000 in
theorem unframe16 (s : ByteArray) (w : World) (hs : s.size ≤ 4611686018427387904) :
    Calls Try.prog 16 #[.string s] w fun e w' => e = .returned (.tuple #[.string (unfR s).1, .int .i64 ((unfR s).2.1 : Nat), .int .i64 (unfR s).2.2]) ∧ Below w.heap.size w w' := by
  by_cases h8 : s.size < 8
  · have hI : decide ((s.size : Int) < 8) = true := decide_eq_true (by omega)
    have HR := Lib.hid (show unfR s = (⟨#[]⟩, 0, 20) from if_pos h8)
    go_enter Try.func16, Try.ntmps16
    go_wp2_with fail
    go_ret3
    rw [HR.out]
    exact ⟨rfl, Below.refl _ _⟩
  · have hI : decide ((s.size : Int) < 8) = false := decide_eq_false (by omega)
    have h4I : (4 : Int) ≤ s.size := by omega
    have h8I : (8 : Int) ≤ s.size := by omega
    have hz4 : (s.extract 0 4).size = 4 := by rw [extract_size s 0 4 (by omega)]
    have hz8 : (s.extract 4 8).size = 4 := by rw [extract_size s 4 8 (by omega)]
    have hr : unfR s = _ := if_neg h8
    have HN := number40 (s.extract 0 4)
    have HN2 := number40 (s.extract 4 8)
    have hn := deS_lt4 hz4
    have hn2 := deS_lt4 hz8
    obtain ⟨n, hne⟩ : ∃ n, deS (s.extract 0 4) = n := ⟨_, rfl⟩
    obtain ⟨q, hqe⟩ : ∃ q, deS (s.extract 4 8) = q := ⟨_, rfl⟩
    rw [hne] at HN hn hr
    rw [hqe] at HN2 hn2 hr
    have HNN := Lib.hid (fun w => HN w (by omega))
    have HN2N := Lib.hid (fun w => HN2 w (by omega))
    have hnI : IntKind.i64.wrap (n : Int) = (n : Int) := IntWalk.i64_in _ (by omega)
    clear HN HN2 hne hqe hz4 hz8
    by_cases hbig : 65536 < n
    · have hbI : decide ((65536 : Int) < n) = true := decide_eq_true (by omega)
      rw [if_pos hbig] at hr
      have HR := Lib.hid hr
      clear hr
      go_enter Try.func16, Try.ntmps16
      go_wp2_with (go_at_call 40; refine (HNN.out _).mono ?_; rintro e w' ⟨rfl, rfl⟩)
      go_ret3
      rw [HR.out]
      exact ⟨rfl, Below.refl _ _⟩
    · have hbI : decide ((65536 : Int) < n) = false := decide_eq_false (by omega)
      rw [if_neg hbig] at hr
      by_cases hsh : s.size < 8 + n
      · have hsI : decide ((s.size : Int) < 8 + n) = true := decide_eq_true (by omega)
        rw [if_pos hsh] at hr
        have HR := Lib.hid hr
        clear hr
        go_enter Try.func16, Try.ntmps16
        go_wp2_with (go_at_call 40; refine (HNN.out _).mono ?_; rintro e w' ⟨rfl, rfl⟩)
        go_ret3
        rw [HR.out]
        exact ⟨rfl, Below.refl _ _⟩
      · have hsI : decide ((s.size : Int) < 8 + n) = false := decide_eq_false (by omega)
        rw [if_neg hsh] at hr
        have hsl1 : (8 : Int) ≤ 8 + n := by omega
        have hsl2 : (8 : Int) + n ≤ s.size := by omega
        have hbz := extract_size s 8 (8 + n) (by omega)
        obtain ⟨b, hbe⟩ : ∃ b, s.extract 8 (8 + n) = b := ⟨_, rfl⟩
        rw [hbe] at hr hbz
        have HS := Lib.hid (fun w => sum12 b w (by omega))
        have hcl := crc_lt b
        have hs4 : (4 : Int) ≤ 8 := by omega
        have HBE := Lib.hid hbe
        have HRR := Lib.hid hr
        clear hbe hr hbz
        obtain ⟨c, hce⟩ : ∃ c, crc b = c := ⟨_, rfl⟩
        rw [hce] at HS hcl HRR
        have hwc : IntKind.u64.wrap (c : Int) = (c : Int) := by rw [IntKind.wrap_u64]; omega
        clear hce
        by_cases hcq : c = q
        · have hr := HRR.out
          rw [if_pos hcq] at hr
          have HR := Lib.hid hr
          have ht : ((c : Int) != q) = false := by simp [hcq]
          clear hr hcq HRR
          go_enter Try.func16, Try.ntmps16
          go_upto_region 9 with (go_at_call 40; refine (HNN.out _).mono ?_; rintro e w' ⟨rfl, rfl⟩)
          rw [HBE.out]
          refine wp_region_below (by kernel_rfl) (by kernel_rfl) ?_
          refine qb_pure rfl _ (fun w' hB' => by go_simp; rfl) ?_
          simp only [Act.put, List.setIfInBounds_toArray, List.set_cons_zero, List.set_cons_succ]
          refine qb_call rfl 12 #[.string b] (.int .u32 (c : Nat)) (fun w' => by go_simp) (fun w' hB' => HS.out w') ?_
          simp only [Act.put, List.setIfInBounds_toArray, List.set_cons_zero, List.set_cons_succ]
          refine qb_pure rfl _ (fun w' hB' => by go_simp; rfl) ?_
          simp only [Act.put, List.setIfInBounds_toArray, List.set_cons_zero, List.set_cons_succ]
          refine qb_pure rfl _ (fun w' hB' => by go_simp; rfl) ?_
          simp only [Act.put, List.setIfInBounds_toArray, List.set_cons_zero, List.set_cons_succ]
          refine qb_pure rfl _ (fun w' hB' => by go_simp; rfl) ?_
          simp only [Act.put, List.setIfInBounds_toArray, List.set_cons_zero, List.set_cons_succ]
          refine qb_call rfl 40 #[.string (s.extract 4 8)] (.int .u64 (q : Nat)) (fun w' => by go_simp) (fun w' hB' => (HN2N.out w').mono fun e w'' h => ⟨h.1, by rw [h.2]; exact Below.refl _ _⟩) ?_
          simp only [Act.put, List.setIfInBounds_toArray, List.set_cons_zero, List.set_cons_succ]
          refine qb_pure rfl _ (fun w' hB' => by go_simp; rfl) ?_
          simp only [Act.put, List.setIfInBounds_toArray, List.set_cons_zero, List.set_cons_succ]
          refine qb_nil ?_
          intro w2 hB2
          go_wp2_with fail
          go_ret3
          rw [HR.out]
          exact ⟨rfl, hB2⟩
        · have hr := HRR.out
          rw [if_neg hcq] at hr
          have HR := Lib.hid hr
          have ht : ((c : Int) != q) = true := by simp; omega
          clear hr hcq HRR
          go_enter Try.func16, Try.ntmps16
          go_upto_region 9 with (go_at_call 40; refine (HNN.out _).mono ?_; rintro e w' ⟨rfl, rfl⟩)
          rw [HBE.out]
          refine wp_region_below (by kernel_rfl) (by kernel_rfl) ?_
          refine qb_pure rfl _ (fun w' hB' => by go_simp; rfl) ?_
          simp only [Act.put, List.setIfInBounds_toArray, List.set_cons_zero, List.set_cons_succ]
          refine qb_call rfl 12 #[.string b] (.int .u32 (c : Nat)) (fun w' => by go_simp) (fun w' hB' => HS.out w') ?_
          simp only [Act.put, List.setIfInBounds_toArray, List.set_cons_zero, List.set_cons_succ]
          refine qb_pure rfl _ (fun w' hB' => by go_simp; rfl) ?_
          simp only [Act.put, List.setIfInBounds_toArray, List.set_cons_zero, List.set_cons_succ]
          refine qb_pure rfl _ (fun w' hB' => by go_simp; rfl) ?_
          simp only [Act.put, List.setIfInBounds_toArray, List.set_cons_zero, List.set_cons_succ]
          refine qb_pure rfl _ (fun w' hB' => by go_simp; rfl) ?_
          simp only [Act.put, List.setIfInBounds_toArray, List.set_cons_zero, List.set_cons_succ]
          refine qb_call rfl 40 #[.string (s.extract 4 8)] (.int .u64 (q : Nat)) (fun w' => by go_simp) (fun w' hB' => (HN2N.out w').mono fun e w'' h => ⟨h.1, by rw [h.2]; exact Below.refl _ _⟩) ?_
          simp only [Act.put, List.setIfInBounds_toArray, List.set_cons_zero, List.set_cons_succ]
          refine qb_pure rfl _ (fun w' hB' => by go_simp; rfl) ?_
          simp only [Act.put, List.setIfInBounds_toArray, List.set_cons_zero, List.set_cons_succ]
          refine qb_nil ?_
          intro w2 hB2
          go_wp2_with fail
          go_ret3
          rw [HR.out]
          exact ⟨rfl, hB2⟩
set_option maxRecDepth 100000 in
set_option maxHeartbeats 4000000 in
theorem unframe17 (s : ByteArray) (w : World) (hs : s.size ≤ 4611686018427387904) :
    Calls Try.prog 17 #[.string s] w fun e w' => e = .returned (.tuple #[.string (unfR s).1, .int .i64 ((unfR s).2.1 : Nat), .int .i64 (unfR s).2.2]) ∧ Below w.heap.size w w' := by
  by_cases h8 : s.size < 8
  · have hI : decide ((s.size : Int) < 8) = true := decide_eq_true (by omega)
    have HR := Lib.hid (show unfR s = (⟨#[]⟩, 0, 20) from if_pos h8)
    go_enter Try.func17, Try.ntmps17
    go_wp2_with fail
    go_ret3
    rw [HR.out]
    exact ⟨rfl, Below.refl _ _⟩
  · have hI : decide ((s.size : Int) < 8) = false := decide_eq_false (by omega)
    have h4I : (4 : Int) ≤ s.size := by omega
    have h8I : (8 : Int) ≤ s.size := by omega
    have hz4 : (s.extract 0 4).size = 4 := by rw [extract_size s 0 4 (by omega)]
    have hz8 : (s.extract 4 8).size = 4 := by rw [extract_size s 4 8 (by omega)]
    have hr : unfR s = _ := if_neg h8
    have HN := of41 (s.extract 0 4)
    have HN2 := of41 (s.extract 4 8)
    have hn := deS_lt4 hz4
    have hn2 := deS_lt4 hz8
    obtain ⟨n, hne⟩ : ∃ n, deS (s.extract 0 4) = n := ⟨_, rfl⟩
    obtain ⟨q, hqe⟩ : ∃ q, deS (s.extract 4 8) = q := ⟨_, rfl⟩
    rw [hne] at HN hn hr
    rw [hqe] at HN2 hn2 hr
    have HNN := Lib.hid (fun w => HN w (by omega))
    have HN2N := Lib.hid (fun w => HN2 w (by omega))
    have hnI : IntKind.i64.wrap (n : Int) = (n : Int) := IntWalk.i64_in _ (by omega)
    clear HN HN2 hne hqe hz4 hz8
    by_cases hbig : 65536 < n
    · have hbI : decide ((65536 : Int) < n) = true := decide_eq_true (by omega)
      rw [if_pos hbig] at hr
      have HR := Lib.hid hr
      clear hr
      go_enter Try.func17, Try.ntmps17
      go_wp2_with (go_at_call 41; refine (HNN.out _).mono ?_; rintro e w' ⟨rfl, rfl⟩)
      go_ret3
      rw [HR.out]
      exact ⟨rfl, Below.refl _ _⟩
    · have hbI : decide ((65536 : Int) < n) = false := decide_eq_false (by omega)
      rw [if_neg hbig] at hr
      by_cases hsh : s.size < 8 + n
      · have hsI : decide ((s.size : Int) < 8 + n) = true := decide_eq_true (by omega)
        rw [if_pos hsh] at hr
        have HR := Lib.hid hr
        clear hr
        go_enter Try.func17, Try.ntmps17
        go_wp2_with (go_at_call 41; refine (HNN.out _).mono ?_; rintro e w' ⟨rfl, rfl⟩)
        go_ret3
        rw [HR.out]
        exact ⟨rfl, Below.refl _ _⟩
      · have hsI : decide ((s.size : Int) < 8 + n) = false := decide_eq_false (by omega)
        rw [if_neg hsh] at hr
        have hsl1 : (8 : Int) ≤ 8 + n := by omega
        have hsl2 : (8 : Int) + n ≤ s.size := by omega
        have hbz := extract_size s 8 (8 + n) (by omega)
        obtain ⟨b, hbe⟩ : ∃ b, s.extract 8 (8 + n) = b := ⟨_, rfl⟩
        rw [hbe] at hr hbz
        have HS := Lib.hid (fun w => (sum11 b w (by omega)).mono fun e w' (h : e = .returned (.int .u32 (crc b : Nat)) ∧ w = w') => (⟨h.1, by rw [← h.2]; exact Below.refl _ _⟩ : e = .returned (.int .u32 (crc b : Nat)) ∧ Below w.heap.size w w'))
        have hcl := crc_lt b
        have hs4 : (4 : Int) ≤ 8 := by omega
        have HBE := Lib.hid hbe
        have HRR := Lib.hid hr
        clear hbe hr hbz
        obtain ⟨c, hce⟩ : ∃ c, crc b = c := ⟨_, rfl⟩
        rw [hce] at HS hcl HRR
        have hwc : IntKind.u64.wrap (c : Int) = (c : Int) := by rw [IntKind.wrap_u64]; omega
        clear hce
        by_cases hcq : c = q
        · have hr := HRR.out
          rw [if_pos hcq] at hr
          have HR := Lib.hid hr
          have ht : ((c : Int) != q) = false := by simp [hcq]
          clear hr hcq HRR
          go_enter Try.func17, Try.ntmps17
          go_upto_region 8 with (go_at_call 41; refine (HNN.out _).mono ?_; rintro e w' ⟨rfl, rfl⟩)
          have hw8 : IntKind.i64.wrap (8 + (n : Int)) = 8 + n := IntWalk.i64_in _ (by omega)
          have hw9 : (8 + (n : Int)).toNat = 8 + n := by omega
          have hw0 : (0 : Int) ≤ 8 + n := by omega
          refine wp_region_below (by kernel_rfl) (by kernel_rfl) ?_
          refine qb_pure rfl _ (fun w' hB' => by go_simp; rfl) ?_
          simp only [Act.put, List.setIfInBounds_toArray, List.set_cons_zero, List.set_cons_succ]
          refine qb_pure rfl _ (fun w' hB' => by go_simp; rfl) ?_
          simp only [Act.put, List.setIfInBounds_toArray, List.set_cons_zero, List.set_cons_succ]
          refine qb_pure rfl _ (fun w' hB' => by go_simp; rfl) ?_
          simp only [Act.put, List.setIfInBounds_toArray, List.set_cons_zero, List.set_cons_succ]
          refine qb_pure rfl (.string b) (fun w' hB' => by go_simp; rw [HBE.out]) ?_
          simp only [Act.put, List.setIfInBounds_toArray, List.set_cons_zero, List.set_cons_succ]
          refine qb_call rfl 11 #[.string b] (.int .u32 (c : Nat)) (fun w' => by go_simp) (fun w' hB' => HS.out w') ?_
          simp only [Act.put, List.setIfInBounds_toArray, List.set_cons_zero, List.set_cons_succ]
          refine qb_pure rfl _ (fun w' hB' => by go_simp; rfl) ?_
          simp only [Act.put, List.setIfInBounds_toArray, List.set_cons_zero, List.set_cons_succ]
          refine qb_pure rfl _ (fun w' hB' => by go_simp; rfl) ?_
          simp only [Act.put, List.setIfInBounds_toArray, List.set_cons_zero, List.set_cons_succ]
          refine qb_pure rfl _ (fun w' hB' => by go_simp; rfl) ?_
          simp only [Act.put, List.setIfInBounds_toArray, List.set_cons_zero, List.set_cons_succ]
          refine qb_call rfl 41 #[.string (s.extract 4 8)] (.int .u64 (q : Nat)) (fun w' => by go_simp) (fun w' hB' => (HN2N.out w').mono fun e w'' h => ⟨h.1, by rw [h.2]; exact Below.refl _ _⟩) ?_
          simp only [Act.put, List.setIfInBounds_toArray, List.set_cons_zero, List.set_cons_succ]
          refine qb_pure rfl _ (fun w' hB' => by go_simp; rfl) ?_
          simp only [Act.put, List.setIfInBounds_toArray, List.set_cons_zero, List.set_cons_succ]
          refine qb_nil ?_
          intro w2 hB2
          clear hw8 hw9 hw0
          go_wp2_with fail
          go_ret3
          rw [HR.out]
          exact ⟨by rw [← HBE.out]; rfl, hB2⟩
        · have hr := HRR.out
          rw [if_neg hcq] at hr
          have HR := Lib.hid hr
          have ht : ((c : Int) != q) = true := by simp; omega
          clear hr hcq HRR
          go_enter Try.func17, Try.ntmps17
          go_upto_region 8 with (go_at_call 41; refine (HNN.out _).mono ?_; rintro e w' ⟨rfl, rfl⟩)
          have hw8 : IntKind.i64.wrap (8 + (n : Int)) = 8 + n := IntWalk.i64_in _ (by omega)
          have hw9 : (8 + (n : Int)).toNat = 8 + n := by omega
          have hw0 : (0 : Int) ≤ 8 + n := by omega
          refine wp_region_below (by kernel_rfl) (by kernel_rfl) ?_
          refine qb_pure rfl _ (fun w' hB' => by go_simp; rfl) ?_
          simp only [Act.put, List.setIfInBounds_toArray, List.set_cons_zero, List.set_cons_succ]
          refine qb_pure rfl _ (fun w' hB' => by go_simp; rfl) ?_
          simp only [Act.put, List.setIfInBounds_toArray, List.set_cons_zero, List.set_cons_succ]
          refine qb_pure rfl _ (fun w' hB' => by go_simp; rfl) ?_
          simp only [Act.put, List.setIfInBounds_toArray, List.set_cons_zero, List.set_cons_succ]
          refine qb_pure rfl (.string b) (fun w' hB' => by go_simp; rw [HBE.out]) ?_
          simp only [Act.put, List.setIfInBounds_toArray, List.set_cons_zero, List.set_cons_succ]
          refine qb_call rfl 11 #[.string b] (.int .u32 (c : Nat)) (fun w' => by go_simp) (fun w' hB' => HS.out w') ?_
          simp only [Act.put, List.setIfInBounds_toArray, List.set_cons_zero, List.set_cons_succ]
          refine qb_pure rfl _ (fun w' hB' => by go_simp; rfl) ?_
          simp only [Act.put, List.setIfInBounds_toArray, List.set_cons_zero, List.set_cons_succ]
          refine qb_pure rfl _ (fun w' hB' => by go_simp; rfl) ?_
          simp only [Act.put, List.setIfInBounds_toArray, List.set_cons_zero, List.set_cons_succ]
          refine qb_pure rfl _ (fun w' hB' => by go_simp; rfl) ?_
          simp only [Act.put, List.setIfInBounds_toArray, List.set_cons_zero, List.set_cons_succ]
          refine qb_call rfl 41 #[.string (s.extract 4 8)] (.int .u64 (q : Nat)) (fun w' => by go_simp) (fun w' hB' => (HN2N.out w').mono fun e w'' h => ⟨h.1, by rw [h.2]; exact Below.refl _ _⟩) ?_
          simp only [Act.put, List.setIfInBounds_toArray, List.set_cons_zero, List.set_cons_succ]
          refine qb_pure rfl _ (fun w' hB' => by go_simp; rfl) ?_
          simp only [Act.put, List.setIfInBounds_toArray, List.set_cons_zero, List.set_cons_succ]
          refine qb_nil ?_
          intro w2 hB2
          clear hw8 hw9 hw0
          go_wp2_with fail
          go_ret3
          rw [HR.out]
          exact ⟨rfl, hB2⟩
end Go.Proofs.Ytocanbdpdnkapaa
