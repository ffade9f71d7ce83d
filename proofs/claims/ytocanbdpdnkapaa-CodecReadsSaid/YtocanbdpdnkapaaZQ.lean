/- The reference's reader: Fail, take, Byte, Int, Count, many, Text, Done. -/
import Derived.Test.YtocanbdpdnkapaaZH
namespace Go.Proofs.Ytocanbdpdnkapaa
open Go.RowKit
set_option linter.unusedVariables false
set_option linter.unusedSimpArgs false

/-- the reference's reader in block B -/
structure RdQ (B : Nat) (w : World) (x : RdS) : Prop where
  blk : Blk w B 67 #[.string x.s, .int .i64 x.e]
  len : x.s.size ≤ 140737488351232
theorem RdQ.below {B : Nat} {w w' : World} {x : RdS} (h : RdQ B w x) (hB : Below w.heap.size w w') : RdQ B w' x := ⟨Blk.below h.blk hB h.blk.lt, h.len⟩
def TookQ (B : Nat) (w : World) (x : RdS) (v : Value) (e : Ending) (w' : World) : Prop := e = .returned v ∧ RdQ B w' x ∧ KeepB (some B) w w'

theorem fail24 (B : Nat) (x : RdS) (e1 : Int) (w : World) (hx : RdQ B w x) : Calls Try.prog 24 #[.pointer (some ⟨B, 0, none⟩), .int .i64 e1] w (TookQ B w (failR x e1) (.tuple #[])) := by
  obtain ⟨hb, hlen⟩ := hx
  have c0 : w.cell? ⟨B, 0, none⟩ = some (.string x.s) := Blk.cell hb 0
  have c1 : w.cell? ⟨B, 1, none⟩ = some (.int .i64 x.e) := Blk.cell hb 1
  have f0 : w.frozen? ⟨B, 0, none⟩ = false := Blk.free hb 0
  have f1 : w.frozen? ⟨B, 1, none⟩ = false := Blk.free hb 1
  have HB := Lib.hid hb
  have hlt := hb.lt
  clear hb
  obtain ⟨s, e0⟩ := x
  simp only at c0 c1 hlen HB
  by_cases he : e0 = 0
  · by_cases h1 : e1 = 0
    · subst he h1
      have HR := Lib.hid (show failR ⟨s, 0⟩ 0 = ⟨s, 0⟩ from if_neg (by simp))
      go_enter Try.func24, Try.ntmps24
      go_wp2_with fail
      go_end0
      exact ⟨rfl, by rw [HR.out]; exact ⟨HB.out, hlen⟩, KeepB.refl _ _⟩
    · subst he
      have HR := Lib.hid (show failR ⟨s, 0⟩ e1 = ⟨emptyS, e1⟩ from if_pos ⟨rfl, h1⟩)
      have d1 : (e1 != 0) = true := by simpa using h1
      have hs1 := Blk.set HB.out 1 (.int .i64 e1)
      have hs2 := Blk.set hs1 0 (.string emptyS)
      have HS := Lib.hid hs2
      have HBL := Lib.hid (((KeepB.refl (some B) w).set 1 (.int .i64 e1)).set 0 (.string emptyS))
      clear hs1 hs2 h1
      go_enter Try.func24, Try.ntmps24
      go_wp2_with fail
      go_end0
      exact ⟨rfl, by rw [HR.out]; exact ⟨HS.out, Nat.zero_le _⟩, HBL.out⟩
  · have HR := Lib.hid (show failR ⟨s, e0⟩ e1 = ⟨s, e0⟩ from if_neg (by simp [he]))
    have d0 : (e0 == 0) = false := by simpa using he
    go_enter Try.func24, Try.ntmps24
    go_wp2_with fail
    go_end0
    exact ⟨rfl, by rw [HR.out]; exact ⟨HB.out, hlen⟩, KeepB.refl _ _⟩
theorem take89 (B : Nat) (x : RdS) (n : Nat) (hn : n ≤ 4611686018427387904) (w : World) (hx : RdQ B w x) :
    Calls Try.prog 89 #[.pointer (some ⟨B, 0, none⟩), .int .i64 (n : Int)] w (TookQ B w (takeR x n).2 (.string (takeR x n).1)) := by
  have HX := Lib.hid hx
  have c0 : w.cell? ⟨B, 0, none⟩ = some (.string x.s) := Blk.cell hx.blk 0
  have c1 : w.cell? ⟨B, 1, none⟩ = some (.int .i64 x.e) := Blk.cell hx.blk 1
  have f0 : w.frozen? ⟨B, 0, none⟩ = false := Blk.free hx.blk 0
  have hlen := hx.len
  clear hx
  obtain ⟨s, e0⟩ := x
  simp only at c0 c1 hlen HX
  by_cases he : e0 = 0
  · subst he
    by_cases h1 : s.size < n
    · have HR := Lib.hid (show takeR ⟨s, 0⟩ n = (emptyS, ⟨emptyS, 20⟩) from (if_neg (by simp)).trans (if_pos h1))
      have d1 : decide ((s.size : Int) < n) = true := decide_eq_true (by omega)
      have hf := fail24 B ⟨s, 0⟩ 20 w HX.out
      rw [show failR ⟨s, 0⟩ 20 = ⟨emptyS, 20⟩ from if_pos ⟨rfl, by decide⟩] at hf
      have HF := Lib.hid hf
      clear hf
      go_enter Try.func89, Try.ntmps89
      go_wp2_with fail
      refine HF.out.mono ?_
      rintro e w1 ⟨rfl, h1, h2⟩
      have H12 := Lib.hid (And.intro h1 h2)
      clear h1 h2
      go_wp2_with fail
      go_ret
      exact ⟨by rw [HR.out]; rfl, by rw [HR.out]; exact H12.out.1, H12.out.2⟩
    · have HR := Lib.hid (show takeR ⟨s, 0⟩ n = (s.extract 0 n, ⟨s.extract n s.size, 0⟩) from (if_neg (by simp)).trans (if_neg h1))
      have d1 : decide ((s.size : Int) < n) = false := decide_eq_false (by omega)
      have d2 : (n : Int) ≤ s.size := by omega
      have hs1 := Blk.set HX.out.blk 0 (.string (s.extract n s.size))
      have HS := Lib.hid (show RdQ B (w.setCell ⟨B, 0, none⟩ (.string (s.extract n s.size))) ⟨s.extract n s.size, 0⟩ from ⟨hs1, by show (s.extract n s.size).size ≤ _; rw [ByteArray.size_extract]; omega⟩)
      have HBL := Lib.hid ((KeepB.refl (some B) w).set 0 (.string (s.extract n s.size)))
      clear hs1
      go_enter Try.func89, Try.ntmps89
      go_wp2_with fail
      go_ret
      exact ⟨by rw [HR.out]; rfl, by rw [HR.out]; exact HS.out, HBL.out⟩
  · have HR := Lib.hid (show takeR ⟨s, e0⟩ n = (emptyS, ⟨s, e0⟩) from if_pos he)
    have d0 : (e0 != 0) = true := by simpa using he
    go_enter Try.func89, Try.ntmps89
    go_wp2_with fail
    go_ret
    exact ⟨by rw [HR.out]; rfl, by rw [HR.out]; exact HX.out, KeepB.refl _ _⟩
theorem byte66 (B : Nat) (x : RdS) (w : World) (hx : RdQ B w x) :
    Calls Try.prog 66 #[.pointer (some ⟨B, 0, none⟩)] w (TookQ B w (takeR x 1).2 (.int .u8 ((byteR x : Nat) : Int))) := by
  have HT := Lib.hid (take89 B x 1 (by omega) w hx)
  have hl := (takeR_len (x := x) 1 hx.len).2
  have HN := Lib.hid (fun w => of41 (takeR x 1).1 w (by omega))
  clear hx hl
  unfold byteR
  go_enter Try.func66, Try.ntmps66
  go_wp2_with fail
  refine HT.out.mono ?_
  rintro e w1 ⟨rfl, h1, h2⟩
  have H12 := Lib.hid (And.intro h1 h2)
  clear h1 h2
  go_wp2_with fail
  refine (HN.out w1).mono ?_
  rintro e w' ⟨rfl, rfl⟩
  go_wp2_with fail
  go_ret
  exact ⟨rfl, H12.out.1, H12.out.2⟩
theorem int67 (B : Nat) (x : RdS) (w : World) (hx : RdQ B w x) :
    Calls Try.prog 67 #[.pointer (some ⟨B, 0, none⟩)] w (TookQ B w (takeR x 8).2 (.int .i64 (intR x))) := by
  have HT := Lib.hid (take89 B x 8 (by omega) w hx)
  have hl := (takeR_len (x := x) 8 hx.len).2
  have HN := Lib.hid (fun w => of41 (takeR x 8).1 w (by omega))
  clear hx hl
  unfold intR i64of
  go_enter Try.func67, Try.ntmps67
  go_wp2_with fail
  refine HT.out.mono ?_
  rintro e w1 ⟨rfl, h1, h2⟩
  have H12 := Lib.hid (And.intro h1 h2)
  clear h1 h2
  go_wp2_with fail
  refine (HN.out w1).mono ?_
  rintro e w' ⟨rfl, rfl⟩
  go_wp2_with fail
  go_ret
  exact ⟨rfl, H12.out.1, H12.out.2⟩
theorem done30 (B : Nat) (x : RdS) (w : World) (hx : RdQ B w x) : Calls Try.prog 30 #[.pointer (some ⟨B, 0, none⟩)] w fun e w' => e = .returned (.int .i64 (endR x)) ∧ w = w' := by
  have c0 : w.cell? ⟨B, 0, none⟩ = some (.string x.s) := Blk.cell hx.blk 0
  have c1 : w.cell? ⟨B, 1, none⟩ = some (.int .i64 x.e) := Blk.cell hx.blk 1
  clear hx
  by_cases he : x.e = 0
  · by_cases hs : x.s.size = 0
    · have HR := Lib.hid (show endR x = 0 by unfold endR; rw [if_neg (by simp [hs]), he])
      rw [he] at c1
      have hl := str_empty hs
      have hl2 : (!x.s.toList.isEmpty) = false := by rw [hl]; rfl
      clear he hs
      go_enter Try.func30, Try.ntmps30
      go_wp2_with fail
      go_ret
      exact ⟨by rw [HR.out]; rfl, rfl⟩
    · have HR := Lib.hid (show endR x = 22 from if_pos ⟨he, hs⟩)
      rw [he] at c1
      have hl := str_some hs
      have hl2 : (!x.s.toList.isEmpty) = true := by rw [hl]; rfl
      clear he hs
      go_enter Try.func30, Try.ntmps30
      go_wp2_with fail
      go_ret
      exact ⟨by rw [HR.out]; rfl, rfl⟩
  · have HR := Lib.hid (show endR x = x.e by unfold endR; rw [if_neg (by simp [he])])
    have d0 : (x.e == 0) = false := by simpa using he
    go_enter Try.func30, Try.ntmps30
    go_wp2_with fail
    go_ret
    exact ⟨by rw [HR.out]; rfl, rfl⟩



set_option maxHeartbeats 4000000 in
theorem count68 (B : Nat) (x : RdS) (most : Int) (w : World) (hx : RdQ B w x) :
    Calls Try.prog 68 #[.pointer (some ⟨B, 0, none⟩), .int .i64 most] w (TookQ B w (countR x most).2 (.int .i64 (countR x most).1)) := by
  have hT := take89 B x 4 (by omega) w hx
  have hl := takeR_len (x := x) 4 hx.len
  have hd := deS_4 hl.2
  have hN := fun w => of41 (takeR x 4).1 w (by omega)
  clear hx
  have HR := Lib.hid (show countR x most = (let y := if most < (deS (takeR x 4).1 : Int) then failR (takeR x 4).2 23 else (takeR x 4).2; (if y.e = 0 then (deS (takeR x 4).1 : Int) else 0, y)) from rfl)
  obtain ⟨n, hn⟩ : ∃ n, deS (takeR x 4).1 = n := ⟨_, rfl⟩
  rw [hn] at hN hd HR
  obtain ⟨t, ht⟩ : ∃ t, takeR x 4 = t := ⟨_, rfl⟩
  rw [ht] at hT HR hN hl
  obtain ⟨a, y⟩ := t
  simp only at hT HR hN hl
  have HT := Lib.hid hT
  have HN := Lib.hid hN
  have hnw : IntKind.i64.wrap (n : Int) = (n : Int) := IntWalk.i64_in _ (by omega)
  clear hN hn ht hT
  go_enter Try.func68, Try.ntmps68
  go_wp2_with fail
  refine HT.out.mono ?_
  rintro e w1 ⟨rfl, h1, h2⟩
  have H12 := Lib.hid (And.intro h1 h2)
  have c1 : w1.cell? ⟨B, 1, none⟩ = some (.int .i64 y.e) := Blk.cell h1.blk 1
  clear h1 h2
  go_wp2_with fail
  refine (HN.out w1).mono ?_
  rintro e w' ⟨rfl, rfl⟩
  by_cases he : y.e = 0
  · rw [he] at c1
    by_cases hm : most < n
    · have hmI : decide (most < (n : Int)) = true := decide_eq_true hm
      have hf := fail24 B y 23 w1 H12.out.1
      rw [show failR y 23 = ⟨emptyS, 23⟩ from if_pos ⟨he, by decide⟩] at hf
      have HS := Lib.hid (show countR x most = (0, ⟨emptyS, 23⟩) by rw [HR.out]; rw [if_pos hm, show failR y 23 = ⟨emptyS, 23⟩ from if_pos ⟨he, by decide⟩]; rfl)
      have HF := Lib.hid hf
      clear hf he hm
      go_wp2_with fail
      refine HF.out.mono ?_
      rintro e w2 ⟨rfl, h1, h2⟩
      have c2 : w2.cell? ⟨B, 1, none⟩ = some (.int .i64 23) := Blk.cell h1.blk 1
      have H2 := Lib.hid (And.intro h1 (H12.out.2.trans h2))
      clear h1 h2
      go_wp2_with fail
      go_ret
      exact ⟨by first | (rw [HS.out]; done) | (rw [HS.out]; rfl), by rw [HS.out]; exact H2.out.1, H2.out.2⟩
    · have hmI : decide (most < (n : Int)) = false := decide_eq_false hm
      have HS := Lib.hid (show countR x most = ((n : Int), y) by rw [HR.out]; rw [if_neg hm, if_pos he])
      clear he hm
      go_wp2_with fail
      go_ret
      exact ⟨by first | (rw [HS.out]; done) | (rw [HS.out]; rfl), by rw [HS.out]; exact H12.out.1, H12.out.2⟩
  · have he2 : (y.e == 0) = false := by simpa using he
    have he3 : (y.e != 0) = true := by simpa using he
    have HS := Lib.hid (show countR x most = (0, y) by rw [HR.out]; rw [show failR y 23 = y from if_neg (fun q => he q.1), ite_self, if_neg he])
    clear he
    go_wp2_with fail
    go_ret
    exact ⟨by first | (rw [HS.out]; done) | (rw [HS.out]; rfl), by rw [HS.out]; exact H12.out.1, H12.out.2⟩
/-- how many things there are: none, if there is an error -/
def manyR (least : Nat) (x : RdS) : Nat := if (headR least x).2.e = 0 then (headR least x).1 else 0
set_option maxHeartbeats 4000000 in
theorem many90 (B : Nat) (least : Nat) (hl0 : 0 < least ∧ least ≤ 8) (x : RdS) (w : World) (hx : RdQ B w x) :
    Calls Try.prog 90 #[.pointer (some ⟨B, 0, none⟩), .int .i64 (least : Int)] w (TookQ B w (headR least x).2 (.int .i64 (manyR least x : Nat))) := by
  have hT := take89 B x 4 (by omega) w hx
  have hl := takeR_len (x := x) 4 hx.len
  have hd := deS_4 hl.2
  have hN := fun w => of41 (takeR x 4).1 w (by omega)
  clear hx
  have HR := Lib.hid (show headR least x = (deS (takeR x 4).1, if (takeR x 4).2.e = 0 ∧ (takeR x 4).2.s.size / least < deS (takeR x 4).1 then failR (takeR x 4).2 20 else (takeR x 4).2) from rfl)
  obtain ⟨n, hn⟩ : ∃ n, deS (takeR x 4).1 = n := ⟨_, rfl⟩
  rw [hn] at hN hd HR
  obtain ⟨t, ht⟩ : ∃ t, takeR x 4 = t := ⟨_, rfl⟩
  rw [ht] at hT HR hN hl
  obtain ⟨a, y⟩ := t
  simp only at hT HR hN hl
  have HT := Lib.hid hT
  have HN := Lib.hid hN
  have hnw : IntKind.i64.wrap (n : Int) = (n : Int) := IntWalk.i64_in _ (by omega)
  have hl1 : (least : Int) ≠ 0 := by omega
  have hl2 : ¬ (least : Int) = 0 := by omega
  have hl3 : least ≠ 0 := by omega
  have hq : ((y.s.size : Int) / least) = ((y.s.size / least : Nat) : Int) := by simp
  have hqs : y.s.size / least ≤ y.s.size := Nat.div_le_self _ _
  have hlen := hl.1
  have hqw : wrap64 ((y.s.size : Int) / least) = (y.s.size : Int) / least := by rw [hq]; clear hq; generalize y.s.size / least = Q at hqs ⊢; unfold wrap64; omega
  have HQ := Lib.hid hq
  clear hN hn ht hT hq
  go_enter Try.func90, Try.ntmps90
  go_wp2_with fail
  refine HT.out.mono ?_
  rintro e w1 ⟨rfl, h1, h2⟩
  have H12 := Lib.hid (And.intro h1 h2)
  have c0 : w1.cell? ⟨B, 0, none⟩ = some (.string y.s) := Blk.cell h1.blk 0
  have c1 : w1.cell? ⟨B, 1, none⟩ = some (.int .i64 y.e) := Blk.cell h1.blk 1
  clear h1 h2
  go_wp2_with fail
  refine (HN.out w1).mono ?_
  rintro e w' ⟨rfl, rfl⟩
  by_cases he : y.e = 0
  · rw [he] at c1
    by_cases hs : y.s.size / least < n
    · have hsI : decide (((y.s.size / least : Nat) : Int) < n) = true := decide_eq_true (by omega)
      have hsJ : decide ((y.s.size : Int) / least < n) = true := by rw [HQ.out]; exact hsI
      have hf := fail24 B y 20 w1 H12.out.1
      rw [show failR y 20 = ⟨emptyS, 20⟩ from if_pos ⟨he, by decide⟩] at hf
      have HS := Lib.hid (show headR least x = (n, ⟨emptyS, 20⟩) by rw [HR.out, if_pos ⟨he, hs⟩, show failR y 20 = ⟨emptyS, 20⟩ from if_pos ⟨he, by decide⟩])
      have HM := Lib.hid (show manyR least x = 0 by unfold manyR; rw [HS.out]; rfl)
      have HF := Lib.hid hf
      clear hf he hs
      go_wp2_with fail
      refine HF.out.mono ?_
      rintro e w2 ⟨rfl, h1, h2⟩
      have c2 : w2.cell? ⟨B, 1, none⟩ = some (.int .i64 20) := Blk.cell h1.blk 1
      have H2 := Lib.hid (And.intro h1 (H12.out.2.trans h2))
      clear h1 h2
      go_wp2_with fail
      go_ret
      exact ⟨by first | (rw [HM.out]; done) | (rw [HM.out]; rfl), by rw [HS.out]; exact H2.out.1, H2.out.2⟩
    · have hsI : decide (((y.s.size / least : Nat) : Int) < n) = false := decide_eq_false (by omega)
      have hsJ : decide ((y.s.size : Int) / least < n) = false := by rw [HQ.out]; exact hsI
      have HS := Lib.hid (show headR least x = (n, y) by rw [HR.out, if_neg (fun h => hs h.2)])
      have HM := Lib.hid (show manyR least x = n by unfold manyR; rw [HS.out]; exact if_pos he)
      clear he hs
      go_wp2_with fail
      go_ret
      exact ⟨by first | (rw [HM.out]; done) | (rw [HM.out]; rfl), by rw [HS.out]; exact H12.out.1, H12.out.2⟩
  · have he2 : (y.e == 0) = false := by simpa using he
    have he3 : (y.e != 0) = true := by simpa using he
    have HS := Lib.hid (show headR least x = (n, y) by rw [HR.out, if_neg (fun h => he h.1)])
    have HM := Lib.hid (show manyR least x = 0 by unfold manyR; rw [HS.out]; exact if_neg he)
    clear he
    go_wp2_with fail
    go_ret
    exact ⟨by first | (rw [HM.out]; done) | (rw [HM.out]; rfl), by rw [HS.out]; exact H12.out.1, H12.out.2⟩
theorem text_many (x : RdS) : textR x = takeR (headR 1 x).2 (manyR 1 x) := by
  have h1 : textR x = takeR (takeR x 4).2 (deS (takeR x 4).1) := rfl
  have h2 : headR 1 x = (deS (takeR x 4).1, if (takeR x 4).2.e = 0 ∧ (takeR x 4).2.s.size / 1 < deS (takeR x 4).1 then failR (takeR x 4).2 20 else (takeR x 4).2) := rfl
  have h3 : manyR 1 x = if (headR 1 x).2.e = 0 then (headR 1 x).1 else 0 := rfl
  rw [h1, h3, h2]
  generalize takeR x 4 = t
  obtain ⟨a, y⟩ := t
  simp only
  by_cases he : y.e = 0
  · by_cases hs : y.s.size / 1 < deS a
    · rw [if_pos ⟨he, hs⟩, show failR y 20 = ⟨emptyS, 20⟩ from if_pos ⟨he, by decide⟩]
      rw [Nat.div_one] at hs
      exact (if_neg (by simp [he])).trans (if_pos hs)
    · rw [if_neg (fun h => hs h.2), if_pos he]
  · rw [if_neg (fun h => he h.1), if_neg he]
    exact (if_pos he).trans (if_pos he).symm
set_option maxHeartbeats 4000000 in
theorem text69 (B : Nat) (x : RdS) (w : World) (hx : RdQ B w x) :
    Calls Try.prog 69 #[.pointer (some ⟨B, 0, none⟩)] w (TookQ B w (textR x).2 (.string (textR x).1)) := by
  have HM := Lib.hid (many90 B 1 (by omega) x w hx)
  have hml : manyR 1 x < 4294967296 := by
    unfold manyR
    split
    · exact headR_lt 1 x hx.len
    · omega
  have HT := Lib.hid (fun w' h => take89 B (headR 1 x).2 (manyR 1 x) (by omega) w' h)
  rw [text_many]
  clear hx hml
  generalize headR 1 x = hd at *
  generalize manyR 1 x = n at *
  go_enter Try.func69, Try.ntmps69
  go_wp2_with fail
  refine HM.out.mono ?_
  rintro e w1 ⟨rfl, h1, h2⟩
  have HT1 := Lib.hid (HT.out w1 h1)
  have H2 := Lib.hid h2
  clear h1 h2
  go_wp2_with fail
  refine HT1.out.mono ?_
  rintro e w2 ⟨rfl, h1, h2⟩
  have H12 := Lib.hid (And.intro h1 (H2.out.trans h2))
  clear h1 h2
  go_wp2_with fail
  go_ret
  exact ⟨rfl, H12.out.1, H12.out.2⟩


/-- so many things, one behind the other, whether there is an error or not -/
def goQ {α : Type} (one : RdS → α × RdS) : Nat → RdS → List α × RdS
  | 0, x => ([], x)
  | n + 1, x => ((one x).1 :: (goQ one n (one x).2).1, (goQ one n (one x).2).2)
theorem goQ_succ {α : Type} (one : RdS → α × RdS) (n : Nat) (x : RdS) : goQ one (n + 1) x = ((one x).1 :: (goQ one n (one x).2).1, (goQ one n (one x).2).2) := rfl
theorem goQ_eq {α : Type} (one : RdS → α × RdS) (hd : ∀ x, x.e ≠ 0 → (one x).2 = x) (n : Nat) : ∀ x, (goQ one n x).2 = (goR one n x).2 ∧ ((goR one n x).2.e = 0 → (goQ one n x).1 = (goR one n x).1) := by
  induction n with
  | zero => exact fun x => ⟨rfl, fun _ => rfl⟩
  | succ n ih =>
    intro x
    by_cases he : x.e = 0
    · rw [goR_ok one n he, goQ_succ]
      exact ⟨(ih _).1, fun h => by rw [(ih _).2 h]⟩
    · rw [goR_err one (n + 1) he, goQ_succ, hd x he]
      have h := (ih x).1
      rw [goR_err one n he] at h
      exact ⟨h, fun h => absurd h he⟩
theorem sev_goQ {α : Type} (one : RdS → α × RdS) (hd : ∀ x, x.e ≠ 0 → (one x).2 = x) (least : Nat) (x : RdS) :
    (sevR one least x).1 = (if (goQ one (manyR least x) (headR least x).2).2.e = 0 then (goQ one (manyR least x) (headR least x).2).1 else []) ∧ (sevR one least x).2 = (goQ one (manyR least x) (headR least x).2).2 := by
  have hs : sevR one least x = (if (goR one (headR least x).1 (headR least x).2).2.e = 0 then (goR one (headR least x).1 (headR least x).2).1 else [], (goR one (headR least x).1 (headR least x).2).2) := rfl
  rw [hs]
  have hm : manyR least x = if (headR least x).2.e = 0 then (headR least x).1 else 0 := rfl
  rw [hm]
  generalize headR least x = hd2
  obtain ⟨n, y⟩ := hd2
  simp only
  by_cases he : y.e = 0
  · rw [if_pos he]
    obtain ⟨h1, h2⟩ := goQ_eq one hd n y
    rw [h1]
    refine ⟨?_, rfl⟩
    by_cases hf : (goR one n y).2.e = 0
    · rw [if_pos hf, if_pos hf, h2 hf]
    · rw [if_neg hf, if_neg hf]
  · rw [if_neg he, goR_err one n he]
    refine ⟨?_, rfl⟩
    show (if y.e = 0 then [] else []) = (if y.e = 0 then [] else [])
    rfl
theorem RdQ.appended {B : Nat} {w wr w1 : World} {y : RdS} {v : Value} {e : TypeId} {size n : Nat} {xs : List Value} (h : RdQ B wr y) (hb : ∀ b, some B = some b → b < w.heap.size) (hs : w.heap.size ≤ wr.heap.size)
    (hown : wr.ownsRow w.heap.size e size v n xs) (o : Obj) (hg : (wr.alloc o).grownBy w1 v.ownBlock) : RdQ B w1 y := by
  have hlt := hb B rfl
  have ha := RdQ.below h (Below.al (Below.refl _ _) o)
  exact ⟨Blk.grown ha.blk hg (fun e => by have := (hown.lt B e.symm).1; omega), ha.len⟩
theorem take_dead' (n : Nat) (x : RdS) (h : x.e ≠ 0) : takeR x n = (emptyS, x) := if_pos h
theorem text_dead' (x : RdS) (h : x.e ≠ 0) : (textR x).2 = x := by
  show (takeR (takeR x 4).2 (deS (takeR x 4).1)).2 = x
  rw [take_dead' 4 x h]
  show (takeR x _).2 = x
  rw [take_dead' _ x h]
theorem int_dead' (x : RdS) (h : x.e ≠ 0) : (intRR x).2 = x := by
  show (takeR x 8).2 = x
  rw [take_dead' 8 x h]
set_option maxRecDepth 100000 in
set_option maxHeartbeats 16000000 in
theorem sev70 (B : Nat) (x : RdS) (w : World) (hx : RdQ B w x) :
    Calls Try.prog 70 #[.pointer (some ⟨B, 0, none⟩)] w fun e w' => ∃ v, e = .returned v ∧ RdQ B w' (sevR textR 4 x).2 ∧ KeepB (some B) w w' ∧ RowS w'.heap.size w' v (sevR textR 4 x).1 ∧ New w.heap.size v ∧ Typ 9 w' v := by
  obtain ⟨i0, hi, hz0, hz1, hz2⟩ := info_parts info9
  have hlt := hx.blk.lt
  have HLT := Lib.hid (show ∀ B', some B = some B' → B' < w.heap.size from fun B' e => by cases e; exact hlt)
  have HM := Lib.hid (many90 B 4 (by omega) x w hx)
  have hml : manyR 4 x < 4294967296 := by
    unfold manyR
    split
    · exact headR_lt 4 x hx.len
    · omega
  obtain ⟨hs1, hs2⟩ := sev_goQ textR text_dead' 4 x
  generalize sevR textR 4 x = SV at *
  generalize manyR 4 x = n at *
  generalize (headR 4 x).2 = X2 at *
  have HSEV := Lib.hid (And.intro hs1 hs2)
  clear hx hs1 hs2
  go_enter Try.func70, Try.ntmps70
  go_wp2_with fail
  refine HM.out.mono ?_
  rintro e w2 ⟨rfl, h1, h2⟩
  have H2 := Lib.hid (And.intro h1 h2)
  clear h1 h2 HM
  go_wp2_with fail
  go_loopw [4, 5] (fun v i wr => ∃ (k : Nat) (acc : List ByteArray) (z : RdS), i = .int .i64 k ∧ acc.length = k ∧ k ≤ n ∧ goQ textR n X2 = (acc ++ (goQ textR (n - k) z).1, (goQ textR (n - k) z).2) ∧ RdQ B wr z ∧ KeepB (some B) w wr ∧ wr.ownsRow w.heap.size 9 1 v k (acc.map Value.string)) (fun _ i _ => n - (intOf i).toNat)
  case atStart => exact ⟨0, [], X2, rfl, rfl, by omega, rfl, H2.out.1, H2.out.2, World.ownsRow_nil _ _ _ _⟩
  case round =>
    obtain ⟨k, acc, z, rfl, hacc, hk, hgo, hz, hB, hown⟩ := hrel
    obtain ⟨av, kv, rfl⟩ := owns_form hown
    have c1 : wr.cell? ⟨B, 1, none⟩ = some (.int .i64 z.e) := Blk.cell hz.blk 1
    have HZ := Lib.hid (And.intro hz (And.intro hB hown))
    have hsz := hB.size
    clear hz hB hown
    by_cases hkn : k < n
    · have hkI : decide ((k : Int) < n) = true := decide_eq_true (by omega)
      have hnk : n - k = (n - (k + 1)) + 1 := by omega
      rw [hnk, goQ_succ] at hgo
      have HC := Lib.hid (text69 B z wr HZ.out.1)
      have HGO := Lib.hid (show goQ textR n X2 = ((acc ++ [(textR z).1]) ++ (goQ textR (n - (k + 1)) (textR z).2).1, (goQ textR (n - (k + 1)) (textR z).2).2) by rw [hgo, List.append_assoc]; rfl)
      clear hgo hnk c1
      go_wp2_with fail
      refine HC.out.mono ?_
      rintro e w3 ⟨rfl, h3, h4⟩
      have HR3 := Lib.hid h3
      have hB3 := HZ.out.2.1.trans h4
      have hown3 : w3.ownsRow w.heap.size 9 1 (.slice av k kv) k (acc.map Value.string) := by
        refine ⟨HZ.out.2.2.1, ?_⟩
        rcases HZ.out.2.2.2 with h | ⟨g, cap, cur, hv, hg, hh, r⟩
        · exact .inl h
        · exact .inr ⟨g, cap, cur, hv, hg, (h4.block g (Array.getElem?_eq_some_iff.1 hh).1 (fun e => by have := HLT.out g e; omega)).trans hh, r⟩
      have HH := Lib.hid (And.intro hown3 hB3)
      have hsz3 := hB3.size
      clear h3 h4 hown3 hB3
      go_wp2_with (at_builtin; refine wpList_append_own _ rfl _ _ 53 rfl w.heap.size 9 i0 (.string ⟨#[]⟩) 1 16 Try.underlying53 hi hz0 hz1 hz2 rfl (by decide) _ _ _ rfl (HH.out.1.alloc _) ⟨w3.heap.size, 0, none⟩ 1 1 [.string (textR z).1] rfl rfl (cell_one_new' _ _ _) (by intro u hu; simp at hu; subst hu; rfl) (by unfold maxLen; omega) (by omega) (by simp; omega) ?_; intro v' w4 hown' hgrow _)
      have hB' := KeepB.appended HH.out.2 HH.out.1 _ hgrow
      have hR' := RdQ.appended HR3.out HLT.out hsz3 HH.out.1 _ hgrow
      have hrow : (acc.map Value.string) ++ [.string (textR z).1] = ((acc ++ [(textR z).1]).map Value.string) := by simp
      rw [hrow] at hown'
      go_roundw
      case rel => exact ⟨k + 1, acc ++ [(textR z).1], (textR z).2, by go_num, by rw [List.length_append, hacc]; rfl, by omega, HGO.out, hR', hB', hown'⟩
      case measure => simp [intOf]; omega
    · obtain rfl : k = n := by omega
      have hkI : decide ((k : Int) < k) = false := by simp
      rw [Nat.sub_self] at hgo
      have hgo : goQ textR k X2 = (acc, z) := by rw [hgo]; show (acc ++ [], z) = _; rw [List.append_nil]
      have HS2 := Lib.hid (show SV.2 = z by rw [HSEV.out.2, hgo])
      by_cases hze : z.e = 0
      · have hze2 : (z.e != 0) = false := by simpa using hze
        have HS := Lib.hid (show SV.1 = acc by rw [HSEV.out.1, hgo]; exact if_pos hze)
        have hrow0 := Row.of_owns HZ.out.2.2
        have hrow := hrow0
        have HRW := Lib.hid (And.intro hrow (And.intro (New.of_owns HZ.out.2.2) (Typ.of_owns HZ.out.2.2)))
        clear hgo hze hrow0 hrow
        go_wp2_with fail
        go_ret
        exact ⟨_, rfl, by rw [HS2.out]; exact HZ.out.1, HZ.out.2.1, by rw [HS.out]; have := HRW.out.1; subst hacc; exact this, HRW.out.2.1, HRW.out.2.2⟩
      · have hze2 : (z.e != 0) = true := by simpa using hze
        have HS := Lib.hid (show SV.1 = [] by rw [HSEV.out.1, hgo]; exact if_neg hze)
        clear hgo
        go_wp2_with fail
        go_ret
        exact ⟨_, rfl, by rw [HS2.out]; exact HZ.out.1, HZ.out.2.1, by rw [HS.out]; exact RowS.nil _ _, New.nil _, Typ.nil _ _⟩


theorem RdQ.setRow {B : Nat} {w : World} {x : RdS} (h : RdQ B w x) {g : Nat} (hg : g ≠ B) (cs : Array Value) : RdQ B (w.setRow g cs) x := ⟨Blk.otherRow h.blk (Ne.symm hg), h.len⟩
theorem RdQ.cell {B : Nat} {w : World} {x : RdS} (h : RdQ B w x) {p : Addr} (hg : p.block ≠ B) (u : Value) : RdQ B (w.setCell p u) x := ⟨Blk.other h.blk hg u, h.len⟩
theorem byte_dead' {x : RdS} (h : (takeR x 1).2.e ≠ 0) : byteR x = 0 := by
  unfold takeR at h
  unfold byteR takeR
  by_cases he : x.e = 0
  · rw [if_neg (by simp [he])] at h ⊢
    by_cases hs : x.s.size < 1
    · rw [if_pos hs]; rfl
    · rw [if_neg hs] at h; exact absurd rfl h
  · rw [if_pos he]; rfl
theorem cell_dead' (x : RdS) (h : x.e ≠ 0) : (cellR x).2 = x := by
  have h1 : (takeR x 1).2 = x := by rw [take_dead' 1 x h]
  have h2 : byteR x = 0 := byte_dead' (by rw [h1]; exact h)
  show (cellR1 x).2 = x
  unfold cellR1
  rw [if_pos h2, h1]
set_option maxRecDepth 100000 in
set_option maxHeartbeats 32000000 in
theorem cell71 (B : Nat) (x : RdS) (w : World) (hx : RdQ B w x) :
    Calls Try.prog 71 #[.pointer (some ⟨B, 0, none⟩)] w (TookQ B w (cellR x).2 (cellV (cellR x).1)) := by
  have hA := Blk.new w 92 #[.int .i64 0, .int .i64 0, .string ⟨#[]⟩]
  have hBl := Below.al (Below.refl w.heap.size w) (Obj.cells #[.int .i64 0, .int .i64 0, .string ⟨#[]⟩] 92)
  have hlt := hx.blk.lt
  obtain ⟨w1, hw1⟩ : ∃ w1, w1 = w.alloc (Obj.cells #[.int .i64 0, .int .i64 0, .string ⟨#[]⟩] 92) := ⟨_, rfl⟩
  have hs1 : w1.heap.size = w.heap.size + 1 := by rw [hw1]; simp
  rw [← hw1] at hA hBl
  have HB := Lib.hid (byte66 B x w1 (hx.below hBl))
  have HA := Lib.hid hA
  have HK := Lib.hid (KeepB.of (b := some B) hBl)
  have HR := Lib.hid (show cellR x = (if (cellR1 x).2.e = 0 then (cellR1 x).1 else cell0, (cellR1 x).2) from rfl)
  have hR1 := show cellR1 x = if byteR x = 0 then (cell0, (takeR x 1).2)
    else if byteR x = 1 then (⟨1, intR (takeR x 1).2, ByteArray.empty⟩, (takeR (takeR x 1).2 8).2)
    else if byteR x = 2 then (⟨2, 0, (textR (takeR x 1).2).1⟩, (textR (takeR x 1).2).2)
    else (cell0, failR (takeR x 1).2 22) from rfl
  have hbd : (takeR x 1).2.e ≠ 0 → byteR x = 0 := byte_dead'
  obtain ⟨y, hy⟩ : ∃ y, (takeR x 1).2 = y := ⟨_, rfl⟩
  obtain ⟨k, hk⟩ : ∃ k, byteR x = k := ⟨_, rfl⟩
  rw [hy, hk] at HB
  rw [hy, hk] at hR1 hbd
  have HR1 := Lib.hid hR1
  have HBD := Lib.hid hbd
  clear hA hBl hx hy hk hR1 hbd
  go_enter Try.func71, Try.ntmps71
  go_upto_region 1 with fail
  rw [← hw1]
  clear hw1
  go_wp2_with fail
  refine HB.out.mono ?_
  rintro e w2 ⟨rfl, h1, h2⟩
  have H2 := Lib.hid (And.intro h1 (HK.out.trans h2))
  have HA2 := Lib.hid (Blk.keepB HA.out h2 (fun e => by injection e with e; omega))
  have c1 : w2.cell? ⟨B, 1, none⟩ = some (.int .i64 y.e) := Blk.cell h1.blk 1
  have hs2 : w.heap.size + 1 ≤ w2.heap.size := by have := h2.size; omega
  clear h1 h2 HA HB HK
  by_cases ye : y.e = 0
  · have ye2 : (y.e != 0) = false := by simpa using ye
    by_cases k0 : k = 0
    · subst k0
      have HRR := Lib.hid (show cellR x = (cell0, y) by rw [HR.out, HR1.out, if_pos rfl, ite_self])
      go_wp2_with (refine wpList_store_row rfl 92 _ _ rfl w.heap.size #[.int .i64 0, .int .i64 0, .string ⟨#[]⟩] rfl rfl 92 _ HA2.out info92 rfl (by simp [Value.oneCell']) ?_)
      refine bodyPost_ret (results_cell_row rfl _ _ w.heap.size 92 #[.int .i64 0, .int .i64 0, .string ⟨#[]⟩] (0, 0) _ rfl (Blk.setRow HA2.out) Try.underlying92 rfl info92) rfl ?_
      exact ⟨by rw [HRR.out]; rfl, by rw [HRR.out]; exact RdQ.setRow H2.out.1 (by omega) _, KeepB.setRow H2.out.2 (Nat.le_refl _) _⟩
    · have d0 : (k == 0) = false := by simpa using k0
      have d0I : ((k : Int) == 0) = false := by rw [beq_eq_false_iff_ne]; omega
      have hC := Blk.new w2 92 #[.int .i64 0, .int .i64 0, .string ⟨#[]⟩]
      have hBl := Below.al (Below.refl w2.heap.size w2) (Obj.cells #[.int .i64 0, .int .i64 0, .string ⟨#[]⟩] 92)
      go_upto_region 5 with fail
      obtain ⟨wc, hwc⟩ : ∃ wc, wc = w2.alloc (Obj.cells #[.int .i64 0, .int .i64 0, .string ⟨#[]⟩] 92) := ⟨_, rfl⟩
      rw [← hwc] at hC hBl ⊢
      clear hwc c1
      have HAC := Lib.hid (And.intro (Blk.below HA2.out hBl HA2.out.lt) hC)
      have HW := Lib.hid (And.intro (RdQ.below H2.out.1 hBl) (H2.out.2.call hBl))
      have hBlt := H2.out.1.blk.lt
      clear hC hBl H2 HA2
      by_cases k1 : k = 1
      · subst k1
        have hr0 := (show cellR1 x = (⟨1, intR y, ByteArray.empty⟩, (takeR y 8).2) from HR1.out.trans ((if_neg (by decide)).trans (if_pos rfl)))
        have hcall := int67 B y wc HW.out.1
        obtain ⟨V1, hV⟩ : ∃ V, intR y = V := ⟨_, rfl⟩
        obtain ⟨z, hz⟩ : ∃ z, (takeR y 8).2 = z := ⟨_, rfl⟩
        rw [hV, hz] at hcall hr0
        have hr := Lib.hid hr0
        have HC := Lib.hid hcall
        clear hcall hr0 hV hz
        go_wp2_with fail
        refine HC.out.mono ?_
        rintro e w3 ⟨rfl, h1, h2⟩
        have hA3 := Blk.keepB HAC.out.1 h2 (fun e => by injection e with e; omega)
        have hC3 := Blk.keepB HAC.out.2 h2 (fun e => by injection e with e; omega)
        have HS := Lib.hid hC3
        have HAC3 := Lib.hid (And.intro (Blk.otherRow (g := w2.heap.size) (cs' := #[.int .i64 1, .int .i64 V1, .string ⟨#[]⟩]) hA3 (by omega)) (Blk.setRow (cs' := #[.int .i64 1, .int .i64 V1, .string ⟨#[]⟩]) hC3))
        have H3 := Lib.hid (And.intro (RdQ.setRow h1 (show w2.heap.size ≠ B by omega) #[.int .i64 1, .int .i64 V1, .string ⟨#[]⟩]) (KeepB.setRow (HW.out.2.trans h2) (show w.heap.size ≤ w2.heap.size by omega) #[.int .i64 1, .int .i64 V1, .string ⟨#[]⟩]))
        have c1 : (w3.setRow w2.heap.size #[.int .i64 1, .int .i64 V1, .string ⟨#[]⟩]).cell? ⟨B, 1, none⟩ = some (.int .i64 z.e) := Blk.cell H3.out.1.blk 1
        clear h1 h2 hA3 hC3
        go_upto_region 11 with (refine wpList_store_row rfl 92 _ _ rfl w2.heap.size #[.int .i64 1, .int .i64 V1, .string ⟨#[]⟩] rfl rfl 92 _ HS.out info92 rfl (by simp [Value.oneCell']) ?_)
        by_cases he : z.e = 0
        · have he2 : (z.e != 0) = false := by simpa using he
          have HRR := Lib.hid (show cellR x = (⟨1, V1, ByteArray.empty⟩, z) by rw [HR.out, hr.out]; simp only; rw [if_pos he])
          go_wp2_with (first | (refine wpList_load_at rfl 92 _ rfl w2.heap.size 0 rfl #[.int .i64 1, .int .i64 V1, .string ⟨#[]⟩] _ (fun j hj => by rw [Nat.zero_add]; exact Blk.cell HAC3.out.2 j) Try.underlying92 rfl info92 ?_) | (refine wpList_store_row rfl 92 _ _ rfl w.heap.size #[.int .i64 1, .int .i64 V1, .string ⟨#[]⟩] rfl rfl 92 _ HAC3.out.1 info92 rfl (by simp [Value.oneCell']) ?_))
          refine bodyPost_ret (results_cell_row rfl _ _ w.heap.size 92 #[.int .i64 1, .int .i64 V1, .string ⟨#[]⟩] (0, 0) _ rfl (Blk.setRow HAC3.out.1) Try.underlying92 rfl info92) rfl ?_
          exact ⟨by rw [HRR.out]; rfl, by rw [HRR.out]; exact RdQ.setRow H3.out.1 (by omega) _, KeepB.setRow H3.out.2 (Nat.le_refl _) _⟩
        · have he2 : (z.e != 0) = true := by simpa using he
          have HRR := Lib.hid (show cellR x = (cell0, z) by rw [HR.out, hr.out]; simp only; rw [if_neg he])
          go_wp2_with (refine wpList_store_row rfl 92 _ _ rfl w.heap.size #[.int .i64 0, .int .i64 0, .string ⟨#[]⟩] rfl rfl 92 _ HAC3.out.1 info92 rfl (by simp [Value.oneCell']) ?_)
          refine bodyPost_ret (results_cell_row rfl _ _ w.heap.size 92 #[.int .i64 0, .int .i64 0, .string ⟨#[]⟩] (0, 0) _ rfl (Blk.setRow HAC3.out.1) Try.underlying92 rfl info92) rfl ?_
          exact ⟨by rw [HRR.out]; rfl, by rw [HRR.out]; exact RdQ.setRow H3.out.1 (by omega) _, KeepB.setRow H3.out.2 (Nat.le_refl _) _⟩
      · have d1 : (k == 1) = false := by simpa using k1
        have d1I : ((k : Int) == 1) = false := by rw [beq_eq_false_iff_ne]; omega
        by_cases k2 : k = 2
        · subst k2
          have hr0 := (show cellR1 x = (⟨2, 0, (textR y).1⟩, (textR y).2) from HR1.out.trans ((if_neg (by decide)).trans ((if_neg (by decide)).trans (if_pos rfl))))
          have hcall := text69 B y wc HW.out.1
          obtain ⟨V1, hV⟩ : ∃ V, (textR y).1 = V := ⟨_, rfl⟩
          obtain ⟨z, hz⟩ : ∃ z, (textR y).2 = z := ⟨_, rfl⟩
          rw [hV, hz] at hcall hr0
          have hr := Lib.hid hr0
          have HC := Lib.hid hcall
          clear hcall hr0 hV hz
          go_wp2_with fail
          refine HC.out.mono ?_
          rintro e w3 ⟨rfl, h1, h2⟩
          have hA3 := Blk.keepB HAC.out.1 h2 (fun e => by injection e with e; omega)
          have hC3 := Blk.keepB HAC.out.2 h2 (fun e => by injection e with e; omega)
          have HS := Lib.hid hC3
          have HAC3 := Lib.hid (And.intro (Blk.otherRow (g := w2.heap.size) (cs' := #[.int .i64 2, .int .i64 0, .string V1]) hA3 (by omega)) (Blk.setRow (cs' := #[.int .i64 2, .int .i64 0, .string V1]) hC3))
          have H3 := Lib.hid (And.intro (RdQ.setRow h1 (show w2.heap.size ≠ B by omega) #[.int .i64 2, .int .i64 0, .string V1]) (KeepB.setRow (HW.out.2.trans h2) (show w.heap.size ≤ w2.heap.size by omega) #[.int .i64 2, .int .i64 0, .string V1]))
          have c1 : (w3.setRow w2.heap.size #[.int .i64 2, .int .i64 0, .string V1]).cell? ⟨B, 1, none⟩ = some (.int .i64 z.e) := Blk.cell H3.out.1.blk 1
          clear h1 h2 hA3 hC3
          go_upto_region 11 with (refine wpList_store_row rfl 92 _ _ rfl w2.heap.size #[.int .i64 2, .int .i64 0, .string V1] rfl rfl 92 _ HS.out info92 rfl (by simp [Value.oneCell']) ?_)
          by_cases he : z.e = 0
          · have he2 : (z.e != 0) = false := by simpa using he
            have HRR := Lib.hid (show cellR x = (⟨2, 0, V1⟩, z) by rw [HR.out, hr.out]; simp only; rw [if_pos he])
            go_wp2_with (first | (refine wpList_load_at rfl 92 _ rfl w2.heap.size 0 rfl #[.int .i64 2, .int .i64 0, .string V1] _ (fun j hj => by rw [Nat.zero_add]; exact Blk.cell HAC3.out.2 j) Try.underlying92 rfl info92 ?_) | (refine wpList_store_row rfl 92 _ _ rfl w.heap.size #[.int .i64 2, .int .i64 0, .string V1] rfl rfl 92 _ HAC3.out.1 info92 rfl (by simp [Value.oneCell']) ?_))
            refine bodyPost_ret (results_cell_row rfl _ _ w.heap.size 92 #[.int .i64 2, .int .i64 0, .string V1] (0, 0) _ rfl (Blk.setRow HAC3.out.1) Try.underlying92 rfl info92) rfl ?_
            exact ⟨by rw [HRR.out]; rfl, by rw [HRR.out]; exact RdQ.setRow H3.out.1 (by omega) _, KeepB.setRow H3.out.2 (Nat.le_refl _) _⟩
          · have he2 : (z.e != 0) = true := by simpa using he
            have HRR := Lib.hid (show cellR x = (cell0, z) by rw [HR.out, hr.out]; simp only; rw [if_neg he])
            go_wp2_with (refine wpList_store_row rfl 92 _ _ rfl w.heap.size #[.int .i64 0, .int .i64 0, .string ⟨#[]⟩] rfl rfl 92 _ HAC3.out.1 info92 rfl (by simp [Value.oneCell']) ?_)
            refine bodyPost_ret (results_cell_row rfl _ _ w.heap.size 92 #[.int .i64 0, .int .i64 0, .string ⟨#[]⟩] (0, 0) _ rfl (Blk.setRow HAC3.out.1) Try.underlying92 rfl info92) rfl ?_
            exact ⟨by rw [HRR.out]; rfl, by rw [HRR.out]; exact RdQ.setRow H3.out.1 (by omega) _, KeepB.setRow H3.out.2 (Nat.le_refl _) _⟩
        · have d2 : (k == 2) = false := by simpa using k2
          have d2I : ((k : Int) == 2) = false := by rw [beq_eq_false_iff_ne]; omega
          have hr0 := (show cellR1 x = (cell0, failR y 22) from HR1.out.trans ((if_neg k0).trans ((if_neg k1).trans (if_neg k2))))
          have hcall := fail24 B y 22 wc HW.out.1
          obtain ⟨z, hz⟩ : ∃ z, failR y 22 = z := ⟨_, rfl⟩
          rw [hz] at hcall hr0
          have hr := Lib.hid hr0
          have HC := Lib.hid hcall
          clear hcall hr0 hz
          go_wp2_with fail
          refine HC.out.mono ?_
          rintro e w3 ⟨rfl, h1, h2⟩
          have HAC3 := Lib.hid (And.intro (Blk.keepB HAC.out.1 h2 (fun e => by injection e with e; omega)) (Blk.keepB HAC.out.2 h2 (fun e => by injection e with e; omega)))
          have H3 := Lib.hid (And.intro h1 (HW.out.2.trans h2))
          have c1 : w3.cell? ⟨B, 1, none⟩ = some (.int .i64 z.e) := Blk.cell h1.blk 1
          clear h1 h2
          by_cases he : z.e = 0
          · have he2 : (z.e != 0) = false := by simpa using he
            have HRR := Lib.hid (show cellR x = (cell0, z) by rw [HR.out, hr.out]; simp only; rw [if_pos he])
            go_wp2_with (first | (refine wpList_load_at rfl 92 _ rfl w2.heap.size 0 rfl #[.int .i64 0, .int .i64 0, .string ⟨#[]⟩] _ (fun j hj => by rw [Nat.zero_add]; exact Blk.cell HAC3.out.2 j) Try.underlying92 rfl info92 ?_) | (refine wpList_store_row rfl 92 _ _ rfl w.heap.size #[.int .i64 0, .int .i64 0, .string ⟨#[]⟩] rfl rfl 92 _ HAC3.out.1 info92 rfl (by simp [Value.oneCell']) ?_))
            refine bodyPost_ret (results_cell_row rfl _ _ w.heap.size 92 #[.int .i64 0, .int .i64 0, .string ⟨#[]⟩] (0, 0) _ rfl (Blk.setRow HAC3.out.1) Try.underlying92 rfl info92) rfl ?_
            exact ⟨by rw [HRR.out]; rfl, by rw [HRR.out]; exact RdQ.setRow H3.out.1 (by omega) _, KeepB.setRow H3.out.2 (Nat.le_refl _) _⟩
          · have he2 : (z.e != 0) = true := by simpa using he
            have HRR := Lib.hid (show cellR x = (cell0, z) by rw [HR.out, hr.out]; simp only; rw [if_neg he])
            go_wp2_with (refine wpList_store_row rfl 92 _ _ rfl w.heap.size #[.int .i64 0, .int .i64 0, .string ⟨#[]⟩] rfl rfl 92 _ HAC3.out.1 info92 rfl (by simp [Value.oneCell']) ?_)
            refine bodyPost_ret (results_cell_row rfl _ _ w.heap.size 92 #[.int .i64 0, .int .i64 0, .string ⟨#[]⟩] (0, 0) _ rfl (Blk.setRow HAC3.out.1) Try.underlying92 rfl info92) rfl ?_
            exact ⟨by rw [HRR.out]; rfl, by rw [HRR.out]; exact RdQ.setRow H3.out.1 (by omega) _, KeepB.setRow H3.out.2 (Nat.le_refl _) _⟩
  · have ye2 : (y.e != 0) = true := by simpa using ye
    have k0 : k = 0 := HBD.out ye
    subst k0
    have HRR := Lib.hid (show cellR x = (cell0, y) by rw [HR.out, HR1.out, if_pos rfl, ite_self])
    go_wp2_with (refine wpList_store_row rfl 92 _ _ rfl w.heap.size #[.int .i64 0, .int .i64 0, .string ⟨#[]⟩] rfl rfl 92 _ HA2.out info92 rfl (by simp [Value.oneCell']) ?_)
    refine bodyPost_ret (results_cell_row rfl _ _ w.heap.size 92 #[.int .i64 0, .int .i64 0, .string ⟨#[]⟩] (0, 0) _ rfl (Blk.setRow HA2.out) Try.underlying92 rfl info92) rfl ?_
    exact ⟨by rw [HRR.out]; rfl, by rw [HRR.out]; exact RdQ.setRow H2.out.1 (by omega) _, KeepB.setRow H2.out.2 (Nat.le_refl _) _⟩


set_option maxRecDepth 100000 in
set_option maxHeartbeats 16000000 in
theorem sev72 (B : Nat) (x : RdS) (w : World) (hx : RdQ B w x) :
    Calls Try.prog 72 #[.pointer (some ⟨B, 0, none⟩)] w fun e w' => ∃ v, e = .returned v ∧ RdQ B w' (sevR cellR 1 x).2 ∧ KeepB (some B) w w' ∧ RowC w'.heap.size w' v (sevR cellR 1 x).1 ∧ New w.heap.size v ∧ Typ 92 w' v := by
  obtain ⟨i0, hi, hz0, hz1, hz2⟩ := info_parts info92p
  have hlt := hx.blk.lt
  have HLT := Lib.hid (show ∀ B', some B = some B' → B' < w.heap.size from fun B' e => by cases e; exact hlt)
  have HM := Lib.hid (many90 B 1 (by omega) x w hx)
  have hml : manyR 1 x < 4294967296 := by
    unfold manyR
    split
    · exact headR_lt 1 x hx.len
    · omega
  obtain ⟨hs1, hs2⟩ := sev_goQ cellR cell_dead' 1 x
  generalize sevR cellR 1 x = SV at *
  generalize manyR 1 x = n at *
  generalize (headR 1 x).2 = X2 at *
  have HSEV := Lib.hid (And.intro hs1 hs2)
  clear hx hs1 hs2
  go_enter Try.func72, Try.ntmps72
  go_wp2_with fail
  refine HM.out.mono ?_
  rintro e w2 ⟨rfl, h1, h2⟩
  have H2 := Lib.hid (And.intro h1 h2)
  clear h1 h2 HM
  go_wp2_with fail
  go_loopw [4, 5] (fun v i wr => ∃ (k : Nat) (acc : List CellT) (z : RdS), i = .int .i64 k ∧ acc.length = k ∧ k ≤ n ∧ goQ cellR n X2 = (acc ++ (goQ cellR (n - k) z).1, (goQ cellR (n - k) z).2) ∧ RdQ B wr z ∧ KeepB (some B) w wr ∧ wr.ownsRow w.heap.size 92 3 v k (acc.flatMap cellC)) (fun _ i _ => n - (intOf i).toNat)
  case atStart => exact ⟨0, [], X2, rfl, rfl, by omega, rfl, H2.out.1, H2.out.2, World.ownsRow_nil _ _ _ _⟩
  case round =>
    obtain ⟨k, acc, z, rfl, hacc, hk, hgo, hz, hB, hown⟩ := hrel
    obtain ⟨av, kv, rfl⟩ := owns_form hown
    have c1 : wr.cell? ⟨B, 1, none⟩ = some (.int .i64 z.e) := Blk.cell hz.blk 1
    have HZ := Lib.hid (And.intro hz (And.intro hB hown))
    have hsz := hB.size
    clear hz hB hown
    by_cases hkn : k < n
    · have hkI : decide ((k : Int) < n) = true := decide_eq_true (by omega)
      have hnk : n - k = (n - (k + 1)) + 1 := by omega
      rw [hnk, goQ_succ] at hgo
      have HC := Lib.hid (cell71 B z wr HZ.out.1)
      unfold cellV at HC
      have HGO := Lib.hid (show goQ cellR n X2 = ((acc ++ [(cellR z).1]) ++ (goQ cellR (n - (k + 1)) (cellR z).2).1, (goQ cellR (n - (k + 1)) (cellR z).2).2) by rw [hgo, List.append_assoc]; rfl)
      clear hgo hnk c1
      go_wp2_with fail
      refine HC.out.mono ?_
      rintro e w3 ⟨rfl, h3, h4⟩
      have HR3 := Lib.hid h3
      have hB3 := HZ.out.2.1.trans h4
      have hown3 : w3.ownsRow w.heap.size 92 3 (.slice av k kv) k (acc.flatMap cellC) := by
        refine ⟨HZ.out.2.2.1, ?_⟩
        rcases HZ.out.2.2.2 with h | ⟨g, cap, cur, hv, hg, hh, r⟩
        · exact .inl h
        · exact .inr ⟨g, cap, cur, hv, hg, (h4.block g (Array.getElem?_eq_some_iff.1 hh).1 (fun e => by have := HLT.out g e; omega)).trans hh, r⟩
      have HH := Lib.hid (And.intro hown3 hB3)
      have hsz3 := hB3.size
      clear h3 h4 hown3 hB3
      go_wp2_with (at_builtin; refine wpList_append_own _ rfl _ _ 54 rfl w.heap.size 92 i0 (.agg #[.int .i64 0, .int .i64 0, .string ⟨#[]⟩]) 3 32 Try.underlying54 hi hz0 hz1 hz2 rfl (by decide) _ _ _ rfl (HH.out.1.alloc _) ⟨w3.heap.size, 0, none⟩ 1 1 [.int .i64 (cellR z).1.k, .int .i64 (cellR z).1.n, .string (cellR z).1.t] rfl rfl (cells_new _ 92 #[.int .i64 _, .int .i64 _, .string _]) (by intro u hu; simp at hu; rcases hu with rfl | rfl | rfl <;> rfl) (by unfold maxLen; omega) (by omega) (by simp; omega) ?_; intro v' w4 hown' hgrow _)
      have hB' := KeepB.appended HH.out.2 HH.out.1 _ hgrow
      have hR' := RdQ.appended HR3.out HLT.out hsz3 HH.out.1 _ hgrow
      have hrow : (acc.flatMap cellC) ++ [.int .i64 (cellR z).1.k, .int .i64 (cellR z).1.n, .string (cellR z).1.t] = ((acc ++ [(cellR z).1]).flatMap cellC) := by simp [cellC]
      rw [hrow] at hown'
      go_roundw
      case rel => exact ⟨k + 1, acc ++ [(cellR z).1], (cellR z).2, by go_num, by rw [List.length_append, hacc]; rfl, by omega, HGO.out, hR', hB', hown'⟩
      case measure => simp [intOf]; omega
    · obtain rfl : k = n := by omega
      have hkI : decide ((k : Int) < k) = false := by simp
      rw [Nat.sub_self] at hgo
      have hgo : goQ cellR k X2 = (acc, z) := by rw [hgo]; show (acc ++ [], z) = _; rw [List.append_nil]
      have HS2 := Lib.hid (show SV.2 = z by rw [HSEV.out.2, hgo])
      by_cases hze : z.e = 0
      · have hze2 : (z.e != 0) = false := by simpa using hze
        have HS := Lib.hid (show SV.1 = acc by rw [HSEV.out.1, hgo]; exact if_pos hze)
        have hrow0 := Row.of_owns HZ.out.2.2
        have hrow := (show RowC wr.heap.size wr (.slice av k kv) acc by subst hacc; exact RowR.of_owns (fun _ _ => rfl) HZ.out.2.2)
        have HRW := Lib.hid (And.intro hrow (And.intro (New.of_owns HZ.out.2.2) (Typ.of_owns HZ.out.2.2)))
        clear hgo hze hrow0 hrow
        go_wp2_with fail
        go_ret
        exact ⟨_, rfl, by rw [HS2.out]; exact HZ.out.1, HZ.out.2.1, by rw [HS.out]; have := HRW.out.1; subst hacc; exact this, HRW.out.2.1, HRW.out.2.2⟩
      · have hze2 : (z.e != 0) = true := by simpa using hze
        have HS := Lib.hid (show SV.1 = [] by rw [HSEV.out.1, hgo]; exact if_neg hze)
        clear hgo
        go_wp2_with fail
        go_ret
        exact ⟨_, rfl, by rw [HS2.out]; exact HZ.out.1, HZ.out.2.1, by rw [HS.out]; exact RowR.nil _ _ _ _, New.nil _, Typ.nil _ _⟩


theorem int67R (B : Nat) (x : RdS) (w : World) (hx : RdQ B w x) : Calls Try.prog 67 #[.pointer (some ⟨B, 0, none⟩)] w (TookQ B w (intRR x).2 (.int .i64 (intRR x).1)) := int67 B x w hx
/-- a fact under way -/
structure FQ (B r c : Nat) (w0 : World) (vd : Value) (D : List ByteArray) (acc : List Int) (vm : Value) (z : RdS) (w : World) : Prop where
  rb : Blk w r 98 #[.slice none 0 0, .slice none 0 0]
  cb : Blk w c 98 #[vd, vm]
  own : w.ownsRow (c + 1) 2 1 vm acc.length (acc.map (Value.int .i64))
  rd : RdQ B w z
  k : KeepB (some B) w0 w
  d : RowS w.heap.size w vd D
  td : Typ 9 w vd
theorem FQ.keep {B r c : Nat} {w0 : World} {vd : Value} {D : List ByteArray} {acc : List Int} {vm : Value} {z z' : RdS} {w w' : World} (h : FQ B r c w0 vd D acc vm z w) (hr : RdQ B w' z') (hk : KeepB (some B) w w') (hrB : r ≠ B) (hcB : B < c) (hd : New (B + 1) vd) : FQ B r c w0 vd D acc vm z' w' where
  rb := Blk.keepB h.rb hk (fun e => hrB (by injection e with e; exact e.symm))
  cb := Blk.keepB h.cb hk (fun e => by injection e with e; omega)
  own := by
    refine ⟨h.own.1, ?_⟩
    rcases h.own.2 with h1 | ⟨g, cap, cur, hv, hg, hh, q⟩
    · exact .inl h1
    · exact .inr ⟨g, cap, cur, hv, hg, (hk.block g (Array.getElem?_eq_some_iff.1 hh).1 (fun e => by injection e with e; omega)).trans hh, q⟩
  rd := hr
  k := h.k.trans hk
  d := Row.keepB h.d hd hk (fun B' e => by injection e with e; omega)
  td := fun g hg => by
    obtain ⟨cs, hc⟩ := h.td g hg
    exact ⟨cs, Blk.keepB hc hk (fun e => by injection e with e; have := hd g hg; omega)⟩
theorem owns_lower {w : World} {b b' : Nat} {e : TypeId} {size n : Nat} {v : Value} {xs : List Value} (h : w.ownsRow b e size v n xs) (hb : b' ≤ b) : w.ownsRow b' e size v n xs := by
  refine ⟨h.1, ?_⟩
  rcases h.2 with h1 | ⟨g, cap, cur, hv, hg, q⟩
  · exact .inl h1
  · exact .inr ⟨g, cap, cur, hv, Nat.le_trans hb hg, q⟩
theorem Typ.ne {w : World} {v : Value} {T T' : TypeId} {c : Nat} {cs : Array Value} (h : Typ T w v) (hc : Blk w c T' cs) (hT : T ≠ T') : ∀ g, v.ownBlock = some g → g ≠ c := fun g hg e => by
  obtain ⟨cs', hc'⟩ := h g hg
  subst e
  have := Option.some.inj (hc'.symm.trans hc)
  cases this
  exact hT rfl
/-- a number more -/
theorem FQ.push {B r c : Nat} {w0 : World} {vd : Value} {D : List ByteArray} {acc : List Int} {vm : Value} {z : RdS} {w w6 : World} {N : Int} {v' : Value} (h : FQ B r c w0 vd D acc vm z w) (hown : w6.ownsRow (c + 1) 2 1 v' (acc.length + 1) (acc.map (Value.int .i64) ++ [.int .i64 N]))
    (hg : (w.alloc (Obj.cells #[.int .i64 N] 2)).grownBy w6 vm.ownBlock) (hrc : r < c) (hcB : B < c) (hc0 : w0.heap.size ≤ c) : FQ B r c w0 vd D (acc ++ [N]) v' z (w6.setCell ⟨c, 1, none⟩ v') := by
  have hn : ∀ g, g < c + 1 → some g ≠ vm.ownBlock := fun g hlt e => by have := (h.own.lt _ e.symm).1; omega
  have hcb6 := Blk.grown (h.cb.alloc _) hg (fun e => hn c (by omega) e)
  have hrb6 := Blk.grown (h.rb.alloc _) hg (fun e => hn r (by omega) e)
  have hrd6 := Blk.grown (h.rd.blk.alloc _) hg (fun e => hn B (by omega) e)
  have hda : RowS (w.alloc (Obj.cells #[.int .i64 N] 2)).heap.size (w.alloc (Obj.cells #[.int .i64 N] 2)) vd D := RowS.mono h.d (Below.al (Below.refl _ _) _) (Below.al (Below.refl _ _) _).size
  have htd : Typ 9 (w.alloc (Obj.cells #[.int .i64 N] 2)) vd := fun g hg => by obtain ⟨cs, q⟩ := h.td g hg; exact ⟨cs, q.alloc _⟩
  have bd := htd.grown (by decide : (9 : TypeId) ≠ 2) (h.own.alloc _) hg
  have hd6 : RowS w6.heap.size w6 vd D := Row.mono (Row.blocks hda bd) (Below.refl _ _) hg.size
  have htd6 : Typ 9 w6 vd := fun g hgg => by obtain ⟨cs, q⟩ := htd g hgg; exact ⟨cs, (bd g hgg).trans q⟩
  have hne := htd6.ne hcb6 (by decide)
  have bs : ∀ g, vd.ownBlock = some g → (w6.setCell ⟨c, 1, none⟩ v').heap[g]? = w6.heap[g]? := fun g hgg => Below.heap_setCell _ _ _ _ (hne g hgg)
  have hsz : (w6.setCell ⟨c, 1, none⟩ v').heap.size = w6.heap.size := by simp [World.setCell]
  refine ⟨Blk.other hrb6 (show c ≠ r by omega) _, Blk.set hcb6 1 v', ?_, ⟨Blk.other hrd6 (show c ≠ B by omega) _, h.rd.len⟩, ?_, ?_, fun g hgg => ?_⟩
  · have := owns_cell_other hown (p := ⟨c, 1, none⟩) (show c < c + 1 by omega) v'
    rw [List.length_append, List.map_append]
    exact this
  · exact KeepB.cell (KeepB.appended h.k (owns_lower h.own (by omega)) _ hg) (show w0.heap.size ≤ c from hc0) v'
  · rw [hsz]; exact Row.blocks hd6 bs
  · obtain ⟨cs, q⟩ := htd6 g hgg; exact ⟨cs, (bs g hgg).trans q⟩
set_option maxRecDepth 100000 in
set_option maxHeartbeats 32000000 in
theorem fact73 (B : Nat) (x : RdS) (w : World) (hx : RdQ B w x) :
    Calls Try.prog 73 #[.pointer (some ⟨B, 0, none⟩)] w fun e w' => ∃ vd vm, e = .returned (.agg #[vd, vm]) ∧ RdQ B w' (factR x).2 ∧ KeepB (some B) w w' ∧ RowsF w.heap.size w' (factR x).1 vd vm := by
  obtain ⟨i0, hi, hz0, hz1, hz2⟩ := info_parts info2
  have hA := Blk.new w 98 #[.slice none 0 0, .slice none 0 0]
  have hBl := Below.al (Below.refl w.heap.size w) (Obj.cells #[.slice none 0 0, .slice none 0 0] 98)
  have hlt := hx.blk.lt
  obtain ⟨w1, hw1⟩ : ∃ w1, w1 = w.alloc (Obj.cells #[.slice none 0 0, .slice none 0 0] 98) := ⟨_, rfl⟩
  have hs1 : w1.heap.size = w.heap.size + 1 := by rw [hw1]; simp
  rw [← hw1] at hA hBl
  have HT := Lib.hid (sev70 B x w1 (hx.below hBl))
  have HR := Lib.hid (show factR x = (if (sevR intRR 8 (sevR textR 4 x).2).2.e = 0 then ⟨(sevR textR 4 x).1, (sevR intRR 8 (sevR textR 4 x).2).1⟩ else fact0, (sevR intRR 8 (sevR textR 4 x).2).2) from rfl)
  generalize sevR textR 4 x = sx at *
  obtain ⟨D, y⟩ := sx
  simp only at HT HR
  have HA := Lib.hid hA
  have HK := Lib.hid (KeepB.of (b := some B) hBl)
  clear hA hBl hx
  go_enter Try.func73, Try.ntmps73
  go_upto_region 1 with fail
  rw [← hw1]
  clear hw1
  go_wp2_with fail
  refine HT.out.mono ?_
  rintro e w2 ⟨vd, rfl, h1, h2, h3, h4, h5⟩
  obtain ⟨ad, cd, rfl, -⟩ := RowS.open h3
  have hs2 : w.heap.size + 1 ≤ w2.heap.size := by have := h2.size; omega
  have hC := Blk.new w2 98 #[.slice ad D.length cd, .slice none 0 0]
  have hBl := Below.al (Below.refl w2.heap.size w2) (Obj.cells #[.slice ad D.length cd, .slice none 0 0] 98)
  have hA2 := Blk.keepB HA.out h2 (fun e => by injection e with e; omega)
  have hK2 := HK.out.trans h2
  have hyl := h1.len
  go_upto_region 2 with fail
  obtain ⟨w3, hw3⟩ : ∃ w3, w3 = w2.alloc (Obj.cells #[.slice ad D.length cd, .slice none 0 0] 98) := ⟨_, rfl⟩
  rw [← hw3] at hC hBl ⊢
  clear hw3
  have HF3 := Lib.hid (show FQ B w.heap.size w2.heap.size w (.slice ad D.length cd) D [] (.slice none 0 0) y w3 from
    ⟨Blk.below hA2 hBl hA2.lt, hC, World.ownsRow_nil _ _ _ _, RdQ.below h1 hBl, hK2.call hBl, RowS.mono h3 hBl hBl.size, fun g hg => by obtain ⟨cs, hc⟩ := h5 g hg; exact ⟨cs, Blk.below hc hBl hc.lt⟩⟩)
  have HN := Lib.hid h4
  have hnB : New (B + 1) (Value.slice ad D.length cd) := h4.mono (by omega)
  have HNB := Lib.hid hnB
  clear HT HA HK h1 h2 h3 h4 h5 hC hBl hA2 hK2 hnB
  have HM := Lib.hid (many90 B 8 (by omega) y w3 HF3.out.rd)
  have hml : manyR 8 y < 4294967296 := by
    unfold manyR
    split
    · exact headR_lt 8 y hyl
    · omega
  obtain ⟨hs1', hs2'⟩ := sev_goQ intRR int_dead' 8 y
  generalize sevR intRR 8 y = SV at *
  generalize manyR 8 y = n at *
  generalize (headR 8 y).2 = X2 at *
  have HSEV := Lib.hid (And.intro hs1' hs2')
  clear hs1' hs2' hyl
  obtain ⟨c, hc⟩ : ∃ c, c = w2.heap.size := ⟨_, rfl⟩
  rw [← hc] at HF3 hs2 ⊢
  have hcB : B < c := by omega
  have HC2 := Lib.hid hc
  clear hc
  go_wp2_with fail
  refine HM.out.mono ?_
  rintro e w4 ⟨rfl, h1, h2⟩
  have HF4 := Lib.hid (HF3.out.keep h1 h2 (by omega) hcB HNB.out)
  clear h1 h2 HM HF3
  go_wp2_with fail
  go_loopw [5] (fun i wr => ∃ (k : Nat) (acc : List Int) (z : RdS) (vm : Value), i = .int .i64 k ∧ acc.length = k ∧ k ≤ n ∧ goQ intRR n X2 = (acc ++ (goQ intRR (n - k) z).1, (goQ intRR (n - k) z).2) ∧ FQ B w.heap.size c w (.slice ad D.length cd) D acc vm z wr) (fun i _ => n - (intOf i).toNat)
  case atStart => exact ⟨0, [], X2, _, rfl, rfl, by omega, rfl, HF4.out⟩
  case round =>
    obtain ⟨_, acc, z, vm, rfl, rfl, hk, hgo, hF⟩ := hrel
    obtain ⟨av, kv, rfl⟩ := owns_form hF.own
    have c1 : wr.cell? ⟨B, 1, none⟩ = some (.int .i64 z.e) := Blk.cell hF.rd.blk 1
    have HF := Lib.hid hF
    clear hF
    by_cases hkn : acc.length < n
    · have hkI : decide ((acc.length : Int) < n) = true := decide_eq_true (by omega)
      have hnk : n - acc.length = (n - (acc.length + 1)) + 1 := by omega
      rw [hnk, goQ_succ] at hgo
      have HGO := Lib.hid (show goQ intRR n X2 = ((acc ++ [(intRR z).1]) ++ (goQ intRR (n - (acc.length + 1)) (intRR z).2).1, (goQ intRR (n - (acc.length + 1)) (intRR z).2).2) by rw [hgo, List.append_assoc]; rfl)
      clear hgo hnk c1
      go_wp2_with fail
      refine hl_start (fun w' => w'.cell? ⟨c, 1, none⟩ = some (.slice av acc.length kv)) 7 8 rfl (by kernel_rfl) (fun c a a' w hd h => ⟨hd ▸ h.1, h.2⟩) (fun hP => ?_)
      rw [show Array.replicate 8 false = #[false, false, false, false, false, false, false, false] from rfl]
      have HFd := Lib.hid (HF.out.keep (w' := wr.drew) (z' := z) ⟨Blk.drew HF.out.rd.blk, HF.out.rd.len⟩ (KeepB.of (Below.refl wr.heap.size wr).drew) (by omega) hcB HNB.out)
      generalize wr.drew = wd at *
      have HS0 := Lib.hid (show wd.cell? ⟨c, 1, none⟩ = some (.slice av acc.length kv) from Blk.cell HFd.out.cb 1)
      refine hl_take hP (by kernel_rfl) 0 (some 16) (.pointer (some ⟨c, 1, none⟩)) rfl rfl (by kernel_rfl) rfl (fun w' hS' => by go_simp) HS0.out ?_
      simp only [Act.put, List.setIfInBounds_toArray, List.set_cons_zero, List.set_cons_succ]
      refine hl_take hP (by kernel_rfl) 1 (some 17) (.slice av acc.length kv) rfl rfl (by kernel_rfl) rfl (fun w' hS' => by have cc := hS'; go_simp; first | done | rfl) HS0.out ?_
      simp only [Act.put, List.setIfInBounds_toArray, List.set_cons_zero, List.set_cons_succ]
      refine hl_take hP (by kernel_rfl) 2 (some 18) (.pointer (some ⟨B, 0, none⟩)) rfl rfl (by kernel_rfl) rfl (fun w' hS' => by go_simp) HS0.out ?_
      simp only [Act.put, List.setIfInBounds_toArray, List.set_cons_zero, List.set_cons_succ]
      refine hl_call 3 (some 19) rfl rfl (by kernel_rfl) rfl 67 #[.pointer (some ⟨B, 0, none⟩)] (by go_simp) ((int67R B z wd HFd.out.rd).mono ?_)
      rintro e w5 ⟨rfl, h1, h2⟩
      have HF5 := Lib.hid (HFd.out.keep h1 h2 (by omega) hcB HNB.out)
      have HS5 := Lib.hid (show w5.cell? ⟨c, 1, none⟩ = some (.slice av acc.length kv) from Blk.cell HF5.out.cb 1)
      clear h1 h2
      generalize (intRR z).1 = N at *
      generalize (intRR z).2 = z2 at *
      refine ⟨_, rfl, HS5.out, ?_⟩
      simp only [Act.put, List.setIfInBounds_toArray, List.set_cons_zero, List.set_cons_succ]
      refine hl_val 4 (some 20) rfl rfl (by kernel_rfl) rfl (.slice (some ⟨w5.heap.size, 0, none⟩) 1 1) (w5.alloc (Obj.cells #[.int .i64 N] 2)) (by go_simp) (Blk.cell (HF5.out.cb.alloc _) 1) ?_
      simp only [Act.put, List.setIfInBounds_toArray, List.set_cons_zero, List.set_cons_succ]
      have own5 := HF5.out.own.alloc (Obj.cells #[.int .i64 N] 2)
      have hc5 : c + 1 ≤ w5.heap.size := HF5.out.cb.lt
      refine hl_append 5 (some 21) rfl rfl (by kernel_rfl) rfl _ _ 96 rfl (c + 1) 2 i0 (.int .i64 0) 1 8 Try.underlying96 hi hz0 hz1 hz2 rfl (by decide) _ acc.length _ rfl own5 ⟨w5.heap.size, 0, none⟩ 1 1 [.int .i64 N] rfl rfl (cell_one_new' _ _ _) (by intro u hu; simp at hu; subst hu; rfl) (by unfold maxLen; omega) (by omega) (by simp; omega) ?_
      intro v' w6 hown6 hgrow hat
      have hcb6 := Blk.grown (HF5.out.cb.alloc _) hgrow (fun e => by have := (HF5.out.own.lt _ e.symm).1; omega)
      have hrb6 := Blk.grown (HF5.out.rb.alloc _) hgrow (fun e => by have := (HF5.out.own.lt _ e.symm).1; omega)
      have hrd6 := Blk.grown (HF5.out.rd.blk.alloc _) hgrow (fun e => by have := (HF5.out.own.lt _ e.symm).1; omega)
      refine ⟨Blk.cell hcb6 1, ?_⟩
      simp only [Act.put, List.setIfInBounds_toArray, List.set_cons_zero, List.set_cons_succ]
      obtain ⟨v6a, v6k, rfl⟩ := owns_form hown6
      refine hl_take hP (by kernel_rfl) 6 (some 22) (.pointer (some ⟨c, 1, none⟩)) rfl rfl (by kernel_rfl) rfl (fun w' hS' => by go_simp) (Blk.cell hcb6 1) ?_
      simp only [Act.put, List.setIfInBounds_toArray, List.set_cons_zero, List.set_cons_succ]
      have f6 : w6.frozen? ⟨c, 1, none⟩ = false := Blk.free hcb6 1
      have c6 : w6.cell? ⟨c, 1, none⟩ = some (.slice av acc.length kv) := Blk.cell hcb6 1
      refine hl_end rfl rfl (by kernel_rfl) (by kernel_rfl) rfl (w6.setCell ⟨c, 1, none⟩ (.slice v6a (acc.length + 1) v6k)) (by go_simp) ?_
      clear f6 c6 hP HS0 HS5
      have HF7 := Lib.hid (show FQ B w.heap.size c w (.slice ad D.length cd) D (acc ++ [N]) (.slice v6a (acc.length + 1) v6k) z2 (w6.setCell ⟨c, 1, none⟩ (.slice v6a (acc.length + 1) v6k)) from HF5.out.push hown6 hgrow (by omega) hcB (by omega))
      clear hown6 hgrow hat hcb6 hrb6 hrd6 own5
      go_wp2_with fail
      go_roundw
      case rel => exact ⟨acc.length + 1, acc ++ [N], z2, _, by go_num, by simp, by omega, HGO.out, HF7.out⟩
      case measure => simp [intOf]; omega
    · obtain hkn : acc.length = n := by omega
      have hkI : decide ((acc.length : Int) < n) = false := decide_eq_false (by omega)
      rw [hkn, Nat.sub_self] at hgo
      have hgo : goQ intRR n X2 = (acc, z) := by rw [hgo]; show (acc ++ [], z) = _; rw [List.append_nil]
      have HS2 := Lib.hid (show SV.2 = z by rw [HSEV.out.2, hgo])
      by_cases hze : z.e = 0
      · have hze2 : (z.e != 0) = false := by simpa using hze
        have HS := Lib.hid (show factR x = (⟨D, acc⟩, z) by rw [HR.out, HS2.out, if_pos hze, HSEV.out.1, hgo]; simp only; rw [if_pos hze])
        clear hgo hze HSEV HS2 HR
        go_wp2_with (first | (refine wpList_load_at rfl 98 _ rfl c 0 rfl #[.slice ad D.length cd, .slice av acc.length kv] _ (fun j hj => by rw [Nat.zero_add]; exact Blk.cell HF.out.cb j) Try.underlying98 rfl info98 ?_) | (refine wpList_store_row rfl 98 _ _ rfl w.heap.size #[.slice ad D.length cd, .slice av acc.length kv] rfl rfl 98 _ HF.out.rb info98 rfl (by simp [Value.oneCell']) ?_))
        refine bodyPost_ret (results_cell_row rfl _ _ w.heap.size 98 #[.slice ad D.length cd, .slice av acc.length kv] (0, 0) _ rfl (Blk.setRow HF.out.rb) Try.underlying98 rfl info98) rfl ?_
        rw [HS.out]
        refine ⟨_, _, rfl, ⟨Blk.otherRow HF.out.rd.blk (by omega), HF.out.rd.len⟩, KeepB.setRow HF.out.k (Nat.le_refl _) _, ?_⟩
        have hnv : New (c + 1) (Value.slice av acc.length kv) := New.of_owns HF.out.own
        have htv := Typ.of_owns HF.out.own
        have hri : RowI wr.heap.size wr (.slice av acc.length kv) acc := Row.of_owns HF.out.own
        refine ⟨Row.keepB HF.out.d HN.out (KeepB.row _ w.heap.size _) (fun B' e => by injection e with e; omega), Row.keepB hri hnv (KeepB.row _ w.heap.size _) (fun B' e => by injection e with e; omega), HN.out.mono (by omega), hnv.mono (by omega), fun g hg => ?_, fun g hg => ?_⟩
        · obtain ⟨cs, q⟩ := HF.out.td g hg
          have := HN.out g hg
          exact ⟨cs, Blk.otherRow q (by omega)⟩
        · obtain ⟨cs, q⟩ := htv g hg
          have := hnv g hg
          exact ⟨cs, Blk.otherRow q (by omega)⟩
      · have hze2 : (z.e != 0) = true := by simpa using hze
        have HS := Lib.hid (show factR x = (fact0, z) by rw [HR.out, HS2.out, if_neg hze])
        clear hgo HSEV HS2 HR
        go_wp2_with (refine wpList_store_row rfl 98 _ _ rfl w.heap.size #[.slice none 0 0, .slice none 0 0] rfl rfl 98 _ HF.out.rb info98 rfl (by simp [Value.oneCell']) ?_)
        refine bodyPost_ret (results_cell_row rfl _ _ w.heap.size 98 #[.slice none 0 0, .slice none 0 0] (0, 0) _ rfl (Blk.setRow HF.out.rb) Try.underlying98 rfl info98) rfl ?_
        rw [HS.out]
        exact ⟨_, _, rfl, ⟨Blk.otherRow HF.out.rd.blk (by omega), HF.out.rd.len⟩, KeepB.setRow HF.out.k (Nat.le_refl _) _, ⟨RowS.nil _ _, RowI.nil _ _, New.nil _, New.nil _, Typ.nil _ _, Typ.nil _ _⟩⟩


theorem sev_dead' {α : Type} (one : RdS → α × RdS) (k : Nat) (x : RdS) (h : x.e ≠ 0) : sevR one k x = ([], x) := by
  have hh : headR k x = (0, x) := by
    unfold headR
    rw [take_dead' 4 x h, if_neg (fun q => h q.1)]
    rfl
  unfold sevR
  rw [hh]
  show ((if x.e = 0 then _ else _, x) : List α × RdS) = _
  rw [if_neg h]
theorem fact_dead' (x : RdS) (h : x.e ≠ 0) : (factR x).2 = x := by
  show (sevR intRR 8 (sevR textR 4 x).2).2 = x
  rw [sev_dead' textR 4 x h, sev_dead' intRR 8 _ h]
set_option maxRecDepth 100000 in
set_option maxHeartbeats 16000000 in
theorem sev74 (B : Nat) (x : RdS) (w : World) (hx : RdQ B w x) :
    Calls Try.prog 74 #[.pointer (some ⟨B, 0, none⟩)] w fun e w' => ∃ v, e = .returned v ∧ RdQ B w' (sevR factR 8 x).2 ∧ KeepB (some B) w w' ∧ RowsFs w.heap.size w' v (sevR factR 8 x).1 := by
  obtain ⟨i0, hi, hz0, hz1, hz2⟩ := info_parts info98p
  have hlt := hx.blk.lt
  have HLT := Lib.hid (show ∀ B', some B = some B' → B' < w.heap.size from fun B' e => by cases e; exact hlt)
  have HM := Lib.hid (many90 B 8 (by omega) x w hx)
  have hml : manyR 8 x < 4294967296 := by
    unfold manyR
    split
    · exact headR_lt 8 x hx.len
    · omega
  obtain ⟨hs1, hs2⟩ := sev_goQ factR fact_dead' 8 x
  generalize sevR factR 8 x = SV at *
  generalize manyR 8 x = n at *
  generalize (headR 8 x).2 = X2 at *
  have HSEV := Lib.hid (And.intro hs1 hs2)
  clear hx hs1 hs2
  go_enter Try.func74, Try.ntmps74
  go_wp2_with fail
  refine HM.out.mono ?_
  rintro e w2 ⟨rfl, h1, h2⟩
  have H2 := Lib.hid (And.intro h1 h2)
  clear h1 h2 HM
  go_wp2_with fail
  go_loopw [4, 5] (fun v i wr => ∃ (k : Nat) (acc : List (FactT × Value × Value)) (z : RdS), i = .int .i64 k ∧ acc.length = k ∧ k ≤ n ∧ goQ factR n X2 = (acc.map (·.1) ++ (goQ factR (n - k) z).1, (goQ factR (n - k) z).2) ∧ RdQ B wr z ∧ KeepB (some B) w wr ∧ wr.ownsRow w.heap.size 98 2 v k (acc.flatMap fun q => [q.2.1, q.2.2]) ∧ ∀ q ∈ acc, RowsF w.heap.size wr q.1 q.2.1 q.2.2) (fun _ i _ => n - (intOf i).toNat)
  case atStart => exact ⟨0, [], X2, rfl, rfl, by omega, rfl, H2.out.1, H2.out.2, World.ownsRow_nil _ _ _ _, fun q h => by cases h⟩
  case round =>
    obtain ⟨k, acc, z, rfl, hacc, hk, hgo, hz, hB, hown, hel⟩ := hrel
    obtain ⟨av, kv, rfl⟩ := owns_form hown
    have c1 : wr.cell? ⟨B, 1, none⟩ = some (.int .i64 z.e) := Blk.cell hz.blk 1
    have HZ := Lib.hid (And.intro hz (And.intro hB hown)); have HEL := Lib.hid hel
    have hsz := hB.size
    clear hz hB hown hel
    by_cases hkn : k < n
    · have hkI : decide ((k : Int) < n) = true := decide_eq_true (by omega)
      have hnk : n - k = (n - (k + 1)) + 1 := by omega
      rw [hnk, goQ_succ] at hgo
      have HC := Lib.hid (fact73 B z wr HZ.out.1)
      skip
      have HGO := Lib.hid (show goQ factR n X2 = ((acc.map (·.1) ++ [(factR z).1]) ++ (goQ factR (n - (k + 1)) (factR z).2).1, (goQ factR (n - (k + 1)) (factR z).2).2) by rw [hgo, List.append_assoc]; rfl)
      clear hgo hnk c1
      go_wp2_with fail
      refine HC.out.mono ?_
      rintro e w3 ⟨vd, vm, rfl, h3, h4, h5⟩
      obtain ⟨a1, c1, e1, -⟩ := RowS.open h5.d
      obtain ⟨a2, c2, e2, -⟩ := RowI.open h5.m
      subst e1 e2
      have HR3 := Lib.hid h3
      have hB3 := HZ.out.2.1.trans h4
      have hown3 : w3.ownsRow w.heap.size 98 2 (.slice av k kv) k (acc.flatMap fun q => [q.2.1, q.2.2]) := by
        refine ⟨HZ.out.2.2.1, ?_⟩
        rcases HZ.out.2.2.2 with h | ⟨g, cap, cur, hv, hg, hh, r⟩
        · exact .inl h
        · exact .inr ⟨g, cap, cur, hv, hg, (h4.block g (Array.getElem?_eq_some_iff.1 hh).1 (fun e => by have := HLT.out g e; omega)).trans hh, r⟩
      have HH := Lib.hid (And.intro hown3 hB3)
      have hsz3 := hB3.size; have hel3 : ∀ q ∈ acc ++ [((factR z).1, Value.slice a1 (factR z).1.dims.length c1, Value.slice a2 (factR z).1.meas.length c2)], RowsF w.heap.size w3 q.1 q.2.1 q.2.2 := fun q hq => (by rcases List.mem_append.1 hq with h | h; exact (HEL.out q h).keepB h4 HLT.out; obtain rfl := List.mem_singleton.1 h; exact h5.mono hsz); have HEL3 := Lib.hid hel3
      clear h3 h4 h5 hown3 hB3 hel3
      go_wp2_with (at_builtin; refine wpList_append_own _ rfl _ _ 55 rfl w.heap.size 98 i0 (.agg #[.slice none 0 0, .slice none 0 0]) 2 48 Try.underlying55 hi hz0 hz1 hz2 rfl (by decide) _ _ _ rfl (HH.out.1.alloc _) ⟨w3.heap.size, 0, none⟩ 1 1 [.slice a1 (factR z).1.dims.length c1, .slice a2 (factR z).1.meas.length c2] rfl rfl (cells_new _ 98 #[.slice a1 _ c1, .slice a2 _ c2]) (by intro u hu; simp at hu; rcases hu with rfl | rfl <;> rfl) (by unfold maxLen; omega) (by omega) (by simp; omega) ?_; intro v' w4 hown' hgrow _)
      have hB' := KeepB.appended HH.out.2 HH.out.1 _ hgrow
      have hR' := RdQ.appended HR3.out HLT.out hsz3 HH.out.1 _ hgrow
      have hel4 := fun q hq => ((HEL3.out q hq).keepB (KeepB.of (b := none) (Below.al (Below.refl w3.heap.size w3) (Obj.cells #[.slice a1 (factR z).1.dims.length c1, .slice a2 (factR z).1.meas.length c2] 98))) (fun B e => by cases e)).grown (HH.out.1.alloc _) hgrow
      have hrow : (acc.flatMap fun q => [q.2.1, q.2.2]) ++ [.slice a1 (factR z).1.dims.length c1, .slice a2 (factR z).1.meas.length c2] = ((acc ++ [((factR z).1, Value.slice a1 (factR z).1.dims.length c1, Value.slice a2 (factR z).1.meas.length c2)]).flatMap fun q => [q.2.1, q.2.2]) := by simp
      rw [hrow] at hown'
      go_roundw
      case rel => exact ⟨k + 1, acc ++ [((factR z).1, Value.slice a1 (factR z).1.dims.length c1, Value.slice a2 (factR z).1.meas.length c2)], (factR z).2, by go_num, by rw [List.length_append, hacc]; rfl, by omega, by rw [List.map_append]; exact HGO.out, hR', hB', hown', hel4⟩
      case measure => simp [intOf]; omega
    · obtain rfl : k = n := by omega
      have hkI : decide ((k : Int) < k) = false := by simp
      rw [Nat.sub_self] at hgo
      have hgo : goQ factR k X2 = (acc.map (·.1), z) := by rw [hgo]; show (acc.map (·.1) ++ [], z) = _; rw [List.append_nil]
      have HS2 := Lib.hid (show SV.2 = z by rw [HSEV.out.2, hgo])
      by_cases hze : z.e = 0
      · have hze2 : (z.e != 0) = false := by simpa using hze
        have HS := Lib.hid (show SV.1 = acc.map (·.1) by rw [HSEV.out.1, hgo]; exact if_pos hze)
        have hrow0 := Row.of_owns HZ.out.2.2
        have hrow := (show RowR 2 (fun q : FactT × Value × Value => [q.2.1, q.2.2]) wr.heap.size wr (.slice av k kv) acc by subst hacc; exact RowR.of_owns (fun _ _ => rfl) HZ.out.2.2)
        have HRW := Lib.hid (And.intro hrow (And.intro (New.of_owns HZ.out.2.2) (Typ.of_owns HZ.out.2.2)))
        clear hgo hze hrow0 hrow
        go_wp2_with fail
        go_ret
        exact ⟨_, rfl, by rw [HS2.out]; exact HZ.out.1, HZ.out.2.1, by rw [HS.out]; exact ⟨acc, rfl, by have := HRW.out.1; subst hacc; exact this, HEL.out, HRW.out.2.1⟩⟩
      · have hze2 : (z.e != 0) = true := by simpa using hze
        have HS := Lib.hid (show SV.1 = [] by rw [HSEV.out.1, hgo]; exact if_neg hze)
        clear hgo
        go_wp2_with fail
        go_ret
        exact ⟨_, rfl, by rw [HS2.out]; exact HZ.out.1, HZ.out.2.1, by rw [HS.out]; exact RowsFs.nil _ _⟩

end Go.Proofs.Ytocanbdpdnkapaa
