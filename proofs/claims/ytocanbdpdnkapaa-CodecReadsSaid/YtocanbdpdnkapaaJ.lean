/- The reader: Text, Int, Left, Done; awake; CodecSums. -/
import Derived.Test.YtocanbdpdnkapaaI
namespace Go.Proofs.Ytocanbdpdnkapaa
open Go.RowKit
set_option linter.unusedVariables false
set_option linter.unusedSimpArgs false

def textR (x : RdS) : ByteArray × RdS := takeR (takeR x 4).2 (deS (takeR x 4).1)
theorem takeR_fail {y : RdS} {n : Nat} (he : y.e = 0) (h : y.s.size < n) : takeR (failR y 20) n = takeR y n := by
  obtain ⟨s, e⟩ := y
  simp only at he h
  subst he
  rw [show failR ⟨s, 0⟩ 20 = ⟨emptyS, 20⟩ from if_pos ⟨rfl, by decide⟩]
  unfold takeR
  rw [if_pos (by simp), if_neg (by simp), if_pos h]
theorem deS_4 {s : ByteArray} (h : s.size ≤ 4) : deS s < 4294967296 := by
  have h1 := deL_lt s.data.toList
  have h2 : s.data.toList.length = s.size := by rw [Array.length_toList]; rfl
  have h3 : 256 ^ s.data.toList.length ≤ 256 ^ 4 := Nat.pow_le_pow_right (by omega) (by omega)
  unfold deS
  omega
set_option maxHeartbeats 4000000 in
theorem text35 (B : Nat) (x : RdS) (w : World) (hx : RdAt B w x) :
    Calls Try.prog 35 #[.pointer (some ⟨B, 0, none⟩)] w (Took B w (textR x).2 (.string (textR x).1)) := by
  have HT := Lib.hid (take75 B x 4 (by omega) w hx)
  have hl := takeR_len (x := x) 4 hx.len
  have HN := fun w => number40 (takeR x 4).1 w (by omega)
  have hd := deS_4 hl.2
  have HTX := Lib.hid (show textR x = takeR (takeR x 4).2 (deS (takeR x 4).1) from rfl)
  obtain ⟨n, hn⟩ : ∃ n, deS (takeR x 4).1 = n := ⟨_, rfl⟩
  rw [hn] at HN hd HTX
  obtain ⟨t, ht⟩ : ∃ t, takeR x 4 = t := ⟨_, rfl⟩
  rw [ht] at HT HTX HN hl
  obtain ⟨a, y⟩ := t
  simp only at HT HTX HN hl
  have HNN := Lib.hid HN
  have hnw : IntKind.i64.wrap (n : Int) = (n : Int) := IntWalk.i64_in _ (by omega)
  clear hx HN hn ht
  go_enter Try.func35, Try.ntmps35
  go_wp2_with fail
  refine HT.out.mono ?_
  rintro e w1 ⟨rfl, h1, h2⟩
  have H12 := Lib.hid (And.intro h1 h2)
  have HG := Lib.hid (good77 B y w1 h1)
  have c0 : w1.cell? ⟨B, 0, none⟩ = some (.string y.s) := Blk.cell h1.blk 0
  clear h1 h2
  go_wp2_with fail
  refine (HNN.out w1).mono ?_
  rintro e w' ⟨rfl, rfl⟩
  go_wp2_with fail
  refine HG.out.mono ?_
  rintro e w' ⟨rfl, rfl⟩
  by_cases he : y.e = 0
  · have he2 : (y.e == 0) = true := by simpa using he
    by_cases hs : y.s.size < n
    · have hsI : decide ((y.s.size : Int) < n) = true := decide_eq_true (by omega)
      have HF := Lib.hid (fail23 B y 20 w1 H12.out.1)
      have HTF := Lib.hid (takeR_fail he hs)
      clear he
      go_wp2_with fail
      refine HF.out.mono ?_
      rintro e w2 ⟨rfl, h1, h2⟩
      have H2 := Lib.hid (H12.out.2.trans h2)
      have HT2 := Lib.hid (take75 B (failR y 20) n (by omega) w2 h1)
      clear h1 h2
      go_wp2_with fail
      refine HT2.out.mono ?_
      rw [HTF.out]
      rintro e w3 ⟨rfl, h1, h2⟩
      have H3 := Lib.hid (And.intro h1 (H2.out.trans h2))
      clear h1 h2
      go_wp2_with fail
      go_ret
      exact ⟨by rw [HTX.out]; rfl, by rw [HTX.out]; exact H3.out.1, H3.out.2⟩
    · have hsI : decide ((y.s.size : Int) < n) = false := decide_eq_false (by omega)
      have HT2 := Lib.hid (take75 B y n (by omega) w1 H12.out.1)
      clear he
      go_wp2_with fail
      refine HT2.out.mono ?_
      rintro e w3 ⟨rfl, h1, h2⟩
      have H3 := Lib.hid (And.intro h1 (H12.out.2.trans h2))
      clear h1 h2
      go_wp2_with fail
      go_ret
      exact ⟨by rw [HTX.out]; rfl, by rw [HTX.out]; exact H3.out.1, H3.out.2⟩
  · have he2 : (y.e == 0) = false := by simpa using he
    have HT2 := Lib.hid (take75 B y n (by omega) w1 H12.out.1)
    clear he
    go_wp2_with fail
    refine HT2.out.mono ?_
    rintro e w3 ⟨rfl, h1, h2⟩
    have H3 := Lib.hid (And.intro h1 (H12.out.2.trans h2))
    clear h1 h2
    go_wp2_with fail
    go_ret
    exact ⟨by rw [HTX.out]; rfl, by rw [HTX.out]; exact H3.out.1, H3.out.2⟩

theorem str_empty {s : ByteArray} (h : s.size = 0) : s.toList = [] := by
  rw [_root_.Go.ByteArray.toList_eq]
  exact List.eq_nil_of_length_eq_zero (by rw [Array.length_toList]; exact h)
theorem str_some {s : ByteArray} (h : s.size ≠ 0) : s.toList.isEmpty = false := by
  rw [_root_.Go.ByteArray.toList_eq]
  cases hl : s.data.toList with
  | nil => exact absurd (by rw [show s.size = s.data.toList.length from (Array.length_toList).symm, hl]; rfl) h
  | cons a r => rfl
/-- what a reader tells at the end -/
def endR (x : RdS) : Int := if x.e = 0 ∧ x.s.size ≠ 0 then 22 else x.e
theorem done29 (B : Nat) (x : RdS) (w : World) (hx : RdAt B w x) : Calls Try.prog 29 #[.pointer (some ⟨B, 0, none⟩)] w fun e w' => e = .returned (.int .i64 (endR x)) ∧ w = w' := by
  have c0 : w.cell? ⟨B, 0, none⟩ = some (.string x.s) := Blk.cell hx.blk 0
  have c1 : w.cell? ⟨B, 1, none⟩ = some (.int .i64 x.e) := Blk.cell hx.blk 1
  clear hx
  by_cases he : x.e = 0
  · by_cases hs : x.s.size = 0
    · have HR := Lib.hid (show endR x = 0 by unfold endR; rw [if_neg (by simp [hs]), he])
      rw [he] at c1
      have hl := str_empty hs
      have hl2 : (!x.s.toList.isEmpty) = false := by rw [hl]; rfl
      clear he hs
      go_enter Try.func29, Try.ntmps29
      go_wp2_with fail
      go_ret
      exact ⟨by rw [HR.out]; rfl, rfl⟩
    · have HR := Lib.hid (show endR x = 22 from if_pos ⟨he, hs⟩)
      rw [he] at c1
      have hl := str_some hs
      have hl2 : (!x.s.toList.isEmpty) = true := by rw [hl]; rfl
      clear he hs
      go_enter Try.func29, Try.ntmps29
      go_wp2_with fail
      go_ret
      exact ⟨by rw [HR.out]; rfl, rfl⟩
  · have HR := Lib.hid (show endR x = x.e by unfold endR; rw [if_neg (by simp [he])])
    have d0 : (x.e == 0) = false := by simpa using he
    go_enter Try.func29, Try.ntmps29
    go_wp2_with fail
    go_ret
    exact ⟨by rw [HR.out]; rfl, rfl⟩

theorem x1 : frameR ⟨#[104, 105]⟩ = (frameS ⟨#[104, 105]⟩, 0) := if_neg (by decide)
theorem x2 : unfR (frameS ⟨#[104, 105]⟩ ++ ⟨#[97, 98, 99]⟩) = (⟨#[104, 105]⟩, 10, 0) := by decide +kernel
theorem x3 : crc ⟨#[49, 50, 51, 52, 53, 54, 55, 56, 57]⟩ = 3421780262 := by decide +kernel
theorem x4 : textW (layW ⟨[], 0⟩ (byteS 7)) ⟨#[97, 98]⟩ = ⟨[7, 2, 0, 0, 0, 97, 98], 0⟩ := by
  have h : (textW (layW ⟨[], 0⟩ (byteS 7)) ⟨#[97, 98]⟩).l = [7, 2, 0, 0, 0, 97, 98] ∧ (textW (layW ⟨[], 0⟩ (byteS 7)) ⟨#[97, 98]⟩).e = 0 := by decide +kernel
  cases hx : textW (layW ⟨[], 0⟩ (byteS 7)) ⟨#[97, 98]⟩ with
  | mk l e => rw [hx] at h; simp only at h; rw [h.1, h.2]
theorem x5 : (takeR ⟨⟨#[7, 2, 0, 0, 0, 97, 98]⟩, 0⟩ 1).1 = ⟨#[7]⟩ ∧ (takeR ⟨⟨#[7, 2, 0, 0, 0, 97, 98]⟩, 0⟩ 1).2.s = ⟨#[2, 0, 0, 0, 97, 98]⟩ ∧ (takeR ⟨⟨#[7, 2, 0, 0, 0, 97, 98]⟩, 0⟩ 1).2.e = 0 := by decide +kernel
theorem x6 : (textR ⟨⟨#[2, 0, 0, 0, 97, 98]⟩, 0⟩).1 = ⟨#[97, 98]⟩ ∧ (textR ⟨⟨#[2, 0, 0, 0, 97, 98]⟩, 0⟩).2.s = ⟨#[]⟩ ∧ (textR ⟨⟨#[2, 0, 0, 0, 97, 98]⟩, 0⟩).2.e = 0 := by decide +kernel
theorem x7 : (frameS ⟨#[104, 105]⟩).size = 10 := by decide +kernel
theorem rd_eta {x : RdS} {s : ByteArray} {e : Int} (h1 : x.s = s) (h2 : x.e = e) : x = ⟨s, e⟩ := by cases x; simp only at h1 h2; rw [h1, h2]

set_option maxHeartbeats 4000000 in
set_option maxRecDepth 100000 in
theorem awake10 (w : World) : Calls Try.prog 10 #[] w fun e w' => e = .returned (.bool true) ∧ Below w.heap.size w w' := by
  have hF := frame14 ⟨#[104, 105]⟩ w (by decide)
  rw [x1] at hF
  have hU := fun w => unframe16 (frameS ⟨#[104, 105]⟩ ++ ⟨#[97, 98, 99]⟩) w (by rw [ByteArray.size_append, x7]; decide)
  rw [x2] at hU
  have hz : ¬ 9223372036854775807 < (frameS ⟨#[104, 105]⟩).size + (⟨#[97, 98, 99]⟩ : ByteArray).size := by rw [x7]; decide
  obtain ⟨f, hf⟩ : ∃ f, frameS ⟨#[104, 105]⟩ = f := ⟨_, rfl⟩
  rw [hf] at hF hU hz
  have HF := Lib.hid hF
  have HU := Lib.hid hU
  have hS := fun w => sum12 ⟨#[49, 50, 51, 52, 53, 54, 55, 56, 57]⟩ w (by decide)
  rw [x3] at hS
  have HS := Lib.hid hS
  clear hF hU hf hS
  go_enter Try.func10, Try.ntmps10
  go_wp2_with fail
  refine HF.out.mono ?_
  rintro e w1 ⟨rfl, hB1⟩
  have HB1 := Lib.hid hB1
  clear hB1 HF
  go_wp2_with fail
  refine (HU.out w1).mono ?_
  rintro e w2 ⟨rfl, hB2⟩
  have HB2 := Lib.hid (Below.call HB1.out hB2)
  clear hB2 HB1 HU hz
  have hb3 := Blk.new w2 51 #[.slice none 0 0, .int .i64 0]
  have hW3 : WrAt w2.heap.size (w2.alloc (Obj.cells #[.slice none 0 0, .int .i64 0] 51)) ⟨[], 0⟩ := ⟨⟨_, hb3, World.ownsRow_nil _ _ _ _⟩, Nat.zero_le _⟩
  have hB3 := Below.al HB2.out (Obj.cells #[.slice none 0 0, .int .i64 0] 51)
  have hs3 : w.heap.size ≤ w2.heap.size := HB2.out.size
  have hb33 : Calls Try.prog 33 #[.pointer (some ⟨w2.heap.size, 0, none⟩), .int .u8 7] (w2.alloc (Obj.cells #[.slice none 0 0, .int .i64 0] 51)) (Wrote w2.heap.size (w2.alloc (Obj.cells #[.slice none 0 0, .int .i64 0] 51)) (layW ⟨[], 0⟩ (byteS 7))) :=
    byte33 w2.heap.size ⟨[], 0⟩ 7 (by omega) _ hW3
  have H33 := Lib.hid hb33
  have HB3 := Lib.hid hB3
  clear hb3 hW3 hB3 hb33 HB2
  go_wp2_with fail
  refine H33.out.mono ?_
  rintro e w4 ⟨rfl, hW4, hB4⟩
  have H34 := Lib.hid (text34 w2.heap.size _ ⟨#[97, 98]⟩ w4 hW4 (by decide))
  rw [x4] at H34
  have HB4 := Lib.hid (HB3.out.trans (hB4.mono hs3))
  clear hW4 hB4 H33 HB3
  go_wp2_with fail
  refine H34.out.mono ?_
  rintro e w5 ⟨rfl, hW5, hB5⟩
  have H21 := Lib.hid (done21 w2.heap.size _ w5 hW5)
  rw [show doneW ⟨[7, 2, 0, 0, 0, 97, 98], 0⟩ = ⟨#[7, 2, 0, 0, 0, 97, 98]⟩ from if_neg (by simp)] at H21
  have HB5 := Lib.hid (HB4.out.trans (hB5.mono hs3))
  clear hW5 hB5 H34 HB4
  go_wp2_with fail
  refine H21.out.mono ?_
  rintro e w6 ⟨rfl, hB6⟩
  have HB6 := Lib.hid (Below.call HB5.out hB6)
  have H22 := Lib.hid (read22 ⟨#[7, 2, 0, 0, 0, 97, 98]⟩ w6 (by decide))
  clear hB6 H21 HB5
  go_wp2_with fail
  refine H22.out.mono ?_
  rintro e w7 ⟨rfl, hR7, hB7⟩
  have HB7 := Lib.hid (Below.call HB6.out hB7)
  have hs6 : w.heap.size ≤ w6.heap.size := HB6.out.size
  have HR7 := Lib.hid hR7
  have hlt7 := hR7.blk.lt
  clear hR7 hB7 HB6 H22
  go_wp2_with fail
  refine (HS.out w7).mono ?_
  rintro e w8 ⟨rfl, hB8⟩
  have hR8 := HR7.out.below hB8
  have HB8 := Lib.hid (Below.call HB7.out hB8)
  have h32 := byte32 w6.heap.size _ w8 hR8
  rw [rd_eta x5.2.1 x5.2.2, x5.1, show deS ⟨#[7]⟩ % 256 = 7 by decide +kernel] at h32
  have H32 := Lib.hid h32
  clear hR8 hB8 h32 HS HB7 HR7
  go_wp2_with fail
  refine H32.out.mono ?_
  rintro e w9 ⟨rfl, hR9, hB9⟩
  have HB9 := Lib.hid (HB8.out.trans (hB9.mono hs6))
  have h35 := text35 w6.heap.size _ w9 hR9
  rw [rd_eta x6.2.1 x6.2.2, x6.1] at h35
  have H35 := Lib.hid h35
  clear hR9 hB9 h35 H32 HB8
  go_wp2_with fail
  refine H35.out.mono ?_
  rintro e w10 ⟨rfl, hR10, hB10⟩
  have HB10 := Lib.hid (HB9.out.trans (hB10.mono hs6))
  have h29 := done29 w6.heap.size _ w10 hR10
  rw [show endR ⟨⟨#[]⟩, 0⟩ = 0 from if_neg (by decide)] at h29
  have H29 := Lib.hid h29
  clear hR10 hB10 h29 H35 HB9
  go_wp2_with fail
  refine H29.out.mono ?_
  rintro e w11 ⟨rfl, rfl⟩
  go_wp2_with fail
  go_ret
  exact ⟨rfl, HB10.out⟩

set_option maxHeartbeats 4000000 in
set_option maxRecDepth 100000 in
theorem sums3 (s : ByteArray) (w : World) (hs : s.size ≤ 140737488351232) : Calls Try.prog 3 #[.string s] w fun e w' => e = .returned (.bool true) ∧ Below w.heap.size w w' := by
  have h11 := fun w => sum11 s w hs
  have h12 := fun w => sum12 s w hs
  have h13 := fun B w h => sum13_first B s w hs h
  have h13d := fun B w h => sum13_done B s w hs h
  obtain ⟨c, hc⟩ : ∃ c, crc s = c := ⟨_, rfl⟩
  rw [hc] at h11 h12 h13 h13d
  have H11 := Lib.hid h11
  have H12 := Lib.hid h12
  have H13 := Lib.hid h13
  have H13D := Lib.hid h13d
  clear h11 h12 h13 h13d hc
  go_enter Try.func3, Try.ntmps3
  go_wp2_with fail
  refine (awake10 w).mono ?_
  rintro e w1 ⟨rfl, hB1⟩
  have hb2 : Blk (w1.alloc (Obj.cells Try.zeroCells38 38)) w1.heap.size 38 (tc 0 0 (tabTo 0)) := by rw [zero38]; exact Blk.new _ _ _
  have HB2 := Lib.hid (Below.al hB1 (Obj.cells Try.zeroCells38 38))
  have hs1 : w.heap.size ≤ w1.heap.size := hB1.size
  have HBK := Lib.hid hb2
  clear hb2 hB1
  go_wp2_with fail
  refine (H11.out _).mono ?_
  rintro e w2 ⟨rfl, rfl⟩
  go_wp2_with fail
  refine (H12.out _).mono ?_
  rintro e w3 ⟨rfl, hB3⟩
  have HB3 := Lib.hid (Below.call HB2.out hB3)
  have H4 := Lib.hid (H13.out _ w3 (Blk.below HBK.out hB3 HBK.out.lt))
  clear hB3 HB2
  go_wp2_with fail
  refine H4.out.mono ?_
  rintro e w4 ⟨rfl, hb4, hO4⟩
  have HB4 := Lib.hid (HB3.out.trans (hO4.below hs1 HB3.out.size))
  have H5 := Lib.hid (H13D.out _ w4 hb4)
  clear hb4 hO4 HB3 H4
  go_wp2_with fail
  refine H5.out.mono ?_
  rintro e w5 ⟨rfl, hb5, hO5⟩
  have HB5 := Lib.hid (HB4.out.trans (hO5.below hs1 HB4.out.size))
  clear hb5 hO5 HB4 H5
  go_wp2_with fail
  refine (sum13_nil s w5).mono ?_
  rintro e w6 ⟨rfl, hB6⟩
  have HB6 := Lib.hid (Below.call HB5.out hB6)
  clear hB6
  go_wp2_with fail
  go_ret
  exact ⟨rfl, HB6.out⟩

/-- what a frame is taken out of, behind which anything stands -/
theorem deL_append (l m : List UInt8) : deL (l ++ m) = deL l + 256 ^ l.length * deL m := by
  induction l with
  | nil => simp [deL]
  | cons b r ih =>
    simp only [List.cons_append, deL, ih, List.length_cons, Nat.pow_succ]
    rw [Nat.mul_add, ← Nat.mul_assoc, Nat.mul_comm 256 (256 ^ r.length)]
    omega
theorem deL_leB (n k : Nat) : deL (leB n k) = n % 256 ^ k := by
  induction k with
  | zero => simp [leB, deL, Nat.mod_one]
  | succ k ih =>
    have e : leB n (k + 1) = leB n k ++ [UInt8.ofNat (n / 256 ^ k)] := by simp [leB, List.range_succ]
    rw [e, deL_append, ih, leB_len]
    simp only [deL, Nat.mul_zero, Nat.add_zero, UInt8.toNat_ofNat']
    rw [show 256 ^ (k + 1) = 256 ^ k * 256 from Nat.pow_succ _ _, Nat.mod_mul]
theorem deS_leS {n : Nat} (h : n < 4294967296) : deS (leS n 4) = n := by
  show deL (leB n 4) = n
  rw [deL_leB]
  exact Nat.mod_eq_of_lt h
theorem sumsLaw (s : ByteArray) (w : World) (hs : s.size ≤ 140737488351232) : Calls Try.prog 3 #[.string s] w fun e w' => e = .returned (.bool true) ∧ Below w.heap.size w w' := sums3 s w hs
end Go.Proofs.Ytocanbdpdnkapaa
