/- Moving and taking. -/
import Derived.Test.YtalcmaphndfcfaaG
namespace Go.Proofs.Ytalcmaphndfcfaa
open Go.RowKit Go.Maps
set_option linter.unusedVariables false
set_option linter.unusedSimpArgs false

section
variable {F : Nat → Prop} {w : World} {bn : Nat} {made : Int} {L : List Cn} {c : Cn}

set_option maxRecDepth 100000 in
set_option maxHeartbeats 4000000 in
theorem move11_ok0 (h : NetAt F w bn made L) (x m : Int) (hx : (Lit.int .i64 x).wf = true) (hc : findC L x = some c) (hcut : c.cut = false) (k : Nat) (hk : tookN m c.un0.size = k) :
    Calls Try.prog 11 #[.pointer (some ⟨bn, 0, none⟩), .int .i64 x, .int .i64 0, .int .i64 m] w fun e w' => e = .returned (.tuple #[.int .i64 (k : Nat), .int .i64 0]) ∧
      NetAt F w' bn made (updC L ((c.setUn 0 (c.un0.extract k c.un0.size)).setTh 0 (c.th0 ++ c.un0.extract 0 k))) ∧ Turn F w w' := by
  have ha := ask18_ok h x 0 hx hc (by decide) hcut
  have hb := h.cells hc
  have hf := h.fits hc
  unfold askR at ha
  have HC := Lib.hid ha
  have H := Lib.hid h
  have Hc := Lib.hid hc
  have Hb := Lib.hid hb
  have HF := Lib.hid hf
  have hkk : k ≤ c.un0.size := by rw [← hk]; unfold tookN; omega
  have HKK := Lib.hid hkk
  have HK := Lib.hid hk
  have c4 : w.cell? ⟨c.blk, 0, none⟩ = some (.string c.th0) := Blk.cell hb 0
  have c5 : w.cell? ⟨c.blk, 1, none⟩ = some (.string c.un0) := Blk.cell hb (1)
  have f4 : w.frozen? ⟨c.blk, 0, none⟩ = false := Blk.free hb 0
  have f5 : w.frozen? ⟨c.blk, 1, none⟩ = false := Blk.free hb (1)
  have g4 : (w.setCell ⟨c.blk, 1, none⟩ (.string (c.un0.extract k c.un0.size))).cell? ⟨c.blk, 0, none⟩ = some (.string c.th0) := Blk.cell (Blk.set hb (1) (.string (c.un0.extract k c.un0.size))) 0
  have g5 : (w.setCell ⟨c.blk, 1, none⟩ (.string (c.un0.extract k c.un0.size))).frozen? ⟨c.blk, 0, none⟩ = false := Blk.free (Blk.set hb (1) (.string (c.un0.extract k c.un0.size))) 0
  have ht := take21 (w := w) (b := c.blk) (o := 1) (x := c.un0) (many := m) c5 f5
  rw [hk] at ht
  have HT := Lib.hid ht
  clear ha h hx hcut hc hb hf hk hkk ht c4 f4
  go_enter Try.func11, Try.ntmps11
  go_wp2_with (first | (go_at_call 18; refine HC.out.mono ?_; rintro e w1 ⟨rfl, rfl⟩) | (go_at_call 21; refine HT.out.mono ?_; rintro e w1 ⟨rfl, hw1⟩; have HW := Lib.hid hw1; rw [← hw1] at g4 g5; clear hw1 c5 f5))
  refine (put20 (w := w1) g4 g5 (by rw [ByteArray.size_extract]; have := HF.out; have := HKK.out; omega)).mono ?_
  rintro e w2 ⟨rfl, hw2⟩
  have HW2 := Lib.hid hw2
  clear hw2
  go_wp2_with fail
  go_ret2
  have hb := Hb.out
  have hf := HF.out
  have hkk := HKK.out
  have hw : w2 = (w.setCell ⟨c.blk, 1, none⟩ (.string (c.un0.extract k c.un0.size))).setCell ⟨c.blk, 0, none⟩ (.string (c.th0 ++ c.un0.extract 0 k)) := by rw [HW2.out, HW.out]
  obtain ⟨hN2, hT2, -⟩ := H.out.set (w' := w2) (c' := (c.setUn 0 (c.un0.extract k c.un0.size)).setTh 0 (c.th0 ++ c.un0.extract 0 k)) Hc.out rfl rfl
    (by rw [hw]; exact Blk.set (Blk.set hb (1) (.string (c.un0.extract k c.un0.size))) 0 _) (by rw [hw]; exact (Turn.cell w c.blk (1) _).trans (Turn.cell _ c.blk 0 _))
    ⟨by
      show (c.th0 ++ c.un0.extract 0 k).size + (c.un0.extract k c.un0.size).size ≤ 65536
      rw [ByteArray.size_append, ByteArray.size_extract, ByteArray.size_extract]; omega, hf.2⟩
  refine ⟨?_, hN2, hT2⟩
  show Ending.returned (.tuple #[.int .i64 ((min k c.un0.size : Nat) : Int), .int .i64 0]) = _
  rw [Nat.min_eq_left hkk]

/-- nothing has arrived -/
theorem take12_none0 (h : NetAt F w bn made L) (x m : Int) (hx : (Lit.int .i64 x).wf = true) (hc : findC L x = some c) (hcut : c.cut = false) (h0 : c.th0.size = 0) :
    Calls Try.prog 12 #[.pointer (some ⟨bn, 0, none⟩), .int .i64 x, .int .i64 0, .int .i64 m] w fun e w' => e = .returned (.tuple #[.string ⟨#[]⟩, .int .i64 (if c.sh0 = true ∧ c.un0.size = 0 then 16 else 15)]) ∧ w = w' := by
  have ha := ask18_ok h x 0 hx hc (by decide) hcut
  have hb := h.cells hc
  unfold askR at ha
  have HC := Lib.hid ha
  have c4 : w.cell? ⟨c.blk, 0, none⟩ = some (.string c.th0) := Blk.cell hb 0
  have c5 : w.cell? ⟨c.blk, 1, none⟩ = some (.string c.un0) := Blk.cell hb (1)
  have c6 : w.cell? ⟨c.blk, 2, none⟩ = some (.bool c.sh0) := Blk.cell hb (2)
  have s4 := size19 c4
  have s5 := size19 c5
  have e4 : (c.th0.size : Int) = 0 := by omega
  rw [e4] at s4
  have S4 := Lib.hid s4
  obtain ⟨q, hq⟩ : ∃ q : Int, (c.un0.size : Int) = q := ⟨_, rfl⟩
  have hq2 : (c.un0.size = 0) ↔ (q = 0) := by rw [← hq]; omega
  obtain ⟨R, hR⟩ : ∃ R, (if c.sh0 = true ∧ c.un0.size = 0 then (16 : Int) else 15) = R := ⟨_, rfl⟩
  rw [hR]
  have HQ := Lib.hid (And.intro hR hq2)
  rw [hq] at s5
  have S5 := Lib.hid s5
  clear ha h hx hcut hc hb c4 c5 s4 s5 e4 h0 hq hq2 hR
  cases hsh : c.sh0
  · rw [hsh] at c6
    have HR : Hid (R = 15) := Lib.hid (by rw [← HQ.out.1, if_neg (by rw [hsh]; exact fun h => absurd h.1 (by decide))])
    clear hsh HQ
    go_enter Try.func12, Try.ntmps12
    go_wp2_with (first | (go_at_call 18; refine HC.out.mono ?_; rintro e w1 ⟨rfl, rfl⟩) | (go_at_call 19; refine S4.out.mono ?_; rintro e w1 ⟨rfl, rfl⟩))
    go_ret2
    exact ⟨by rw [HR.out]; rfl, rfl⟩
  · rw [hsh] at c6
    have hqq := HQ.out.2
    have HR : Hid (R = if q = 0 then 16 else 15) := Lib.hid (by rw [← HQ.out.1]; by_cases hz : q = 0 <;> simp [hsh, hqq, hz])
    clear hsh HQ hqq
    by_cases hz : q = 0
    · subst hz
      go_enter Try.func12, Try.ntmps12
      go_wp2_with (go_at_call 18; refine HC.out.mono ?_; rintro e w1 ⟨rfl, rfl⟩)
      refine S4.out.mono ?_
      rintro e w1 ⟨rfl, rfl⟩
      go_wp2_with fail
      refine S5.out.mono ?_
      rintro e w1 ⟨rfl, rfl⟩
      go_wp2_with fail
      go_ret2
      exact ⟨by rw [HR.out]; rfl, rfl⟩
    · have hz' : (q == 0) = false := by simpa using hz
      have HZ := Lib.hid hz
      clear hz
      go_enter Try.func12, Try.ntmps12
      go_wp2_with (go_at_call 18; refine HC.out.mono ?_; rintro e w1 ⟨rfl, rfl⟩)
      refine S4.out.mono ?_
      rintro e w1 ⟨rfl, rfl⟩
      go_wp2_with fail
      refine S5.out.mono ?_
      rintro e w1 ⟨rfl, rfl⟩
      go_wp2_with fail
      go_ret2
      have hz := HZ.out
      exact ⟨by rw [HR.out, if_neg hz]; rfl, rfl⟩

set_option maxRecDepth 100000 in
set_option maxHeartbeats 4000000 in
theorem take12_ok0 (h : NetAt F w bn made L) (x m : Int) (hx : (Lit.int .i64 x).wf = true) (hc : findC L x = some c) (hcut : c.cut = false) (h0 : 0 < c.th0.size) (k : Nat) (hk : tookN m c.th0.size = k) :
    Calls Try.prog 12 #[.pointer (some ⟨bn, 0, none⟩), .int .i64 x, .int .i64 0, .int .i64 m] w fun e w' => e = .returned (.tuple #[.string (c.th0.extract 0 k), .int .i64 0]) ∧
      NetAt F w' bn made (leaveC (updC L (c.setTh 0 (c.th0.extract k c.th0.size))) (c.setTh 0 (c.th0.extract k c.th0.size))) ∧ Turn F w w' := by
  have ha := ask18_ok h x 0 hx hc (by decide) hcut
  have hb := h.cells hc
  have hf := h.fits hc
  unfold askR at ha
  have HC := Lib.hid ha
  have hkk : k ≤ c.th0.size := by rw [← hk]; unfold tookN; omega
  have c4 : w.cell? ⟨c.blk, 0, none⟩ = some (.string c.th0) := Blk.cell hb 0
  have f4 : w.frozen? ⟨c.blk, 0, none⟩ = false := Blk.free hb 0
  have s4 := size19 c4
  obtain ⟨q, hq⟩ : ∃ q : Int, (c.th0.size : Int) = q := ⟨_, rfl⟩
  have hq1 : 0 < q := by omega
  rw [hq] at s4
  have S4 := Lib.hid s4
  have ht := take21 (w := w) (b := c.blk) (o := 0) (x := c.th0) (many := m) c4 f4
  rw [hk] at ht
  have HT := Lib.hid ht
  obtain ⟨hN2, hT2, hF2⟩ := h.set (w' := w.setCell ⟨c.blk, 0, none⟩ (.string (c.th0.extract k c.th0.size))) (c' := c.setTh 0 (c.th0.extract k c.th0.size)) hc rfl rfl
    (Blk.set hb 0 _) (Turn.cell w c.blk 0 _) ⟨by
      show (c.th0.extract k c.th0.size).size + c.un0.size ≤ 65536
      rw [ByteArray.size_extract]; omega, hf.2⟩
  have hl := (leave22 hN2 x hF2).mono (fun e w' h => And.intro h.1 (And.intro h.2.1 (hT2.trans h.2.2)))
  have HL := Lib.hid hl
  clear ha h hx hcut hc hb hf hk hkk ht c4 f4 s4 hq hN2 hT2 hF2 hl h0
  go_enter Try.func12, Try.ntmps12
  go_wp2_with (go_at_call 18; refine HC.out.mono ?_; rintro e w1 ⟨rfl, rfl⟩)
  refine S4.out.mono ?_
  rintro e w1 ⟨rfl, rfl⟩
  go_wp2_with (go_at_call 21; refine HT.out.mono ?_; rintro e w1 ⟨rfl, hw1⟩; have HW := Lib.hid hw1; clear hw1)
  rw [HW.out]
  refine HL.out.mono ?_
  rintro e w2 ⟨rfl, hR⟩
  have HR := Lib.hid hR
  clear hR
  go_wp2_with fail
  go_ret2
  exact ⟨rfl, HR.out⟩

set_option maxRecDepth 100000 in
set_option maxHeartbeats 4000000 in
theorem move11_ok1 (h : NetAt F w bn made L) (x m : Int) (hx : (Lit.int .i64 x).wf = true) (hc : findC L x = some c) (hcut : c.cut = false) (k : Nat) (hk : tookN m c.un1.size = k) :
    Calls Try.prog 11 #[.pointer (some ⟨bn, 0, none⟩), .int .i64 x, .int .i64 1, .int .i64 m] w fun e w' => e = .returned (.tuple #[.int .i64 (k : Nat), .int .i64 0]) ∧
      NetAt F w' bn made (updC L ((c.setUn 1 (c.un1.extract k c.un1.size)).setTh 1 (c.th1 ++ c.un1.extract 0 k))) ∧ Turn F w w' := by
  have ha := ask18_ok h x 1 hx hc (by decide) hcut
  have hb := h.cells hc
  have hf := h.fits hc
  unfold askR at ha
  have HC := Lib.hid ha
  have H := Lib.hid h
  have Hc := Lib.hid hc
  have Hb := Lib.hid hb
  have HF := Lib.hid hf
  have hkk : k ≤ c.un1.size := by rw [← hk]; unfold tookN; omega
  have HKK := Lib.hid hkk
  have HK := Lib.hid hk
  have c4 : w.cell? ⟨c.blk, 4, none⟩ = some (.string c.th1) := Blk.cell hb 4
  have c5 : w.cell? ⟨c.blk, 4 + 1, none⟩ = some (.string c.un1) := Blk.cell hb (4 + 1)
  have f4 : w.frozen? ⟨c.blk, 4, none⟩ = false := Blk.free hb 4
  have f5 : w.frozen? ⟨c.blk, 4 + 1, none⟩ = false := Blk.free hb (4 + 1)
  have g4 : (w.setCell ⟨c.blk, 4 + 1, none⟩ (.string (c.un1.extract k c.un1.size))).cell? ⟨c.blk, 4, none⟩ = some (.string c.th1) := Blk.cell (Blk.set hb (4 + 1) (.string (c.un1.extract k c.un1.size))) 4
  have g5 : (w.setCell ⟨c.blk, 4 + 1, none⟩ (.string (c.un1.extract k c.un1.size))).frozen? ⟨c.blk, 4, none⟩ = false := Blk.free (Blk.set hb (4 + 1) (.string (c.un1.extract k c.un1.size))) 4
  have ht := take21 (w := w) (b := c.blk) (o := 4 + 1) (x := c.un1) (many := m) c5 f5
  rw [hk] at ht
  have HT := Lib.hid ht
  clear ha h hx hcut hc hb hf hk hkk ht c4 f4
  go_enter Try.func11, Try.ntmps11
  go_wp2_with (first | (go_at_call 18; refine HC.out.mono ?_; rintro e w1 ⟨rfl, rfl⟩) | (go_at_call 21; refine HT.out.mono ?_; rintro e w1 ⟨rfl, hw1⟩; have HW := Lib.hid hw1; rw [← hw1] at g4 g5; clear hw1 c5 f5))
  refine (put20 (w := w1) g4 g5 (by rw [ByteArray.size_extract]; have := HF.out; have := HKK.out; omega)).mono ?_
  rintro e w2 ⟨rfl, hw2⟩
  have HW2 := Lib.hid hw2
  clear hw2
  go_wp2_with fail
  go_ret2
  have hb := Hb.out
  have hf := HF.out
  have hkk := HKK.out
  have hw : w2 = (w.setCell ⟨c.blk, 4 + 1, none⟩ (.string (c.un1.extract k c.un1.size))).setCell ⟨c.blk, 4, none⟩ (.string (c.th1 ++ c.un1.extract 0 k)) := by rw [HW2.out, HW.out]
  obtain ⟨hN2, hT2, -⟩ := H.out.set (w' := w2) (c' := (c.setUn 1 (c.un1.extract k c.un1.size)).setTh 1 (c.th1 ++ c.un1.extract 0 k)) Hc.out rfl rfl
    (by rw [hw]; exact Blk.set (Blk.set hb (4 + 1) (.string (c.un1.extract k c.un1.size))) 4 _) (by rw [hw]; exact (Turn.cell w c.blk (4 + 1) _).trans (Turn.cell _ c.blk 4 _))
    ⟨hf.1, by
      show (c.th1 ++ c.un1.extract 0 k).size + (c.un1.extract k c.un1.size).size ≤ 65536
      rw [ByteArray.size_append, ByteArray.size_extract, ByteArray.size_extract]; omega⟩
  refine ⟨?_, hN2, hT2⟩
  show Ending.returned (.tuple #[.int .i64 ((min k c.un1.size : Nat) : Int), .int .i64 0]) = _
  rw [Nat.min_eq_left hkk]

/-- nothing has arrived -/
theorem take12_none1 (h : NetAt F w bn made L) (x m : Int) (hx : (Lit.int .i64 x).wf = true) (hc : findC L x = some c) (hcut : c.cut = false) (h0 : c.th1.size = 0) :
    Calls Try.prog 12 #[.pointer (some ⟨bn, 0, none⟩), .int .i64 x, .int .i64 1, .int .i64 m] w fun e w' => e = .returned (.tuple #[.string ⟨#[]⟩, .int .i64 (if c.sh1 = true ∧ c.un1.size = 0 then 16 else 15)]) ∧ w = w' := by
  have ha := ask18_ok h x 1 hx hc (by decide) hcut
  have hb := h.cells hc
  unfold askR at ha
  have HC := Lib.hid ha
  have c4 : w.cell? ⟨c.blk, 4, none⟩ = some (.string c.th1) := Blk.cell hb 4
  have c5 : w.cell? ⟨c.blk, 4 + 1, none⟩ = some (.string c.un1) := Blk.cell hb (4 + 1)
  have c6 : w.cell? ⟨c.blk, 4 + 2, none⟩ = some (.bool c.sh1) := Blk.cell hb (4 + 2)
  have s4 := size19 c4
  have s5 := size19 c5
  have e4 : (c.th1.size : Int) = 0 := by omega
  rw [e4] at s4
  have S4 := Lib.hid s4
  obtain ⟨q, hq⟩ : ∃ q : Int, (c.un1.size : Int) = q := ⟨_, rfl⟩
  have hq2 : (c.un1.size = 0) ↔ (q = 0) := by rw [← hq]; omega
  obtain ⟨R, hR⟩ : ∃ R, (if c.sh1 = true ∧ c.un1.size = 0 then (16 : Int) else 15) = R := ⟨_, rfl⟩
  rw [hR]
  have HQ := Lib.hid (And.intro hR hq2)
  rw [hq] at s5
  have S5 := Lib.hid s5
  clear ha h hx hcut hc hb c4 c5 s4 s5 e4 h0 hq hq2 hR
  cases hsh : c.sh1
  · rw [hsh] at c6
    have HR : Hid (R = 15) := Lib.hid (by rw [← HQ.out.1, if_neg (by rw [hsh]; exact fun h => absurd h.1 (by decide))])
    clear hsh HQ
    go_enter Try.func12, Try.ntmps12
    go_wp2_with (first | (go_at_call 18; refine HC.out.mono ?_; rintro e w1 ⟨rfl, rfl⟩) | (go_at_call 19; refine S4.out.mono ?_; rintro e w1 ⟨rfl, rfl⟩))
    go_ret2
    exact ⟨by rw [HR.out]; rfl, rfl⟩
  · rw [hsh] at c6
    have hqq := HQ.out.2
    have HR : Hid (R = if q = 0 then 16 else 15) := Lib.hid (by rw [← HQ.out.1]; by_cases hz : q = 0 <;> simp [hsh, hqq, hz])
    clear hsh HQ hqq
    by_cases hz : q = 0
    · subst hz
      go_enter Try.func12, Try.ntmps12
      go_wp2_with (go_at_call 18; refine HC.out.mono ?_; rintro e w1 ⟨rfl, rfl⟩)
      refine S4.out.mono ?_
      rintro e w1 ⟨rfl, rfl⟩
      go_wp2_with fail
      refine S5.out.mono ?_
      rintro e w1 ⟨rfl, rfl⟩
      go_wp2_with fail
      go_ret2
      exact ⟨by rw [HR.out]; rfl, rfl⟩
    · have hz' : (q == 0) = false := by simpa using hz
      have HZ := Lib.hid hz
      clear hz
      go_enter Try.func12, Try.ntmps12
      go_wp2_with (go_at_call 18; refine HC.out.mono ?_; rintro e w1 ⟨rfl, rfl⟩)
      refine S4.out.mono ?_
      rintro e w1 ⟨rfl, rfl⟩
      go_wp2_with fail
      refine S5.out.mono ?_
      rintro e w1 ⟨rfl, rfl⟩
      go_wp2_with fail
      go_ret2
      have hz := HZ.out
      exact ⟨by rw [HR.out, if_neg hz]; rfl, rfl⟩

set_option maxRecDepth 100000 in
set_option maxHeartbeats 4000000 in
theorem take12_ok1 (h : NetAt F w bn made L) (x m : Int) (hx : (Lit.int .i64 x).wf = true) (hc : findC L x = some c) (hcut : c.cut = false) (h0 : 0 < c.th1.size) (k : Nat) (hk : tookN m c.th1.size = k) :
    Calls Try.prog 12 #[.pointer (some ⟨bn, 0, none⟩), .int .i64 x, .int .i64 1, .int .i64 m] w fun e w' => e = .returned (.tuple #[.string (c.th1.extract 0 k), .int .i64 0]) ∧
      NetAt F w' bn made (leaveC (updC L (c.setTh 1 (c.th1.extract k c.th1.size))) (c.setTh 1 (c.th1.extract k c.th1.size))) ∧ Turn F w w' := by
  have ha := ask18_ok h x 1 hx hc (by decide) hcut
  have hb := h.cells hc
  have hf := h.fits hc
  unfold askR at ha
  have HC := Lib.hid ha
  have hkk : k ≤ c.th1.size := by rw [← hk]; unfold tookN; omega
  have c4 : w.cell? ⟨c.blk, 4, none⟩ = some (.string c.th1) := Blk.cell hb 4
  have f4 : w.frozen? ⟨c.blk, 4, none⟩ = false := Blk.free hb 4
  have s4 := size19 c4
  obtain ⟨q, hq⟩ : ∃ q : Int, (c.th1.size : Int) = q := ⟨_, rfl⟩
  have hq1 : 0 < q := by omega
  rw [hq] at s4
  have S4 := Lib.hid s4
  have ht := take21 (w := w) (b := c.blk) (o := 4) (x := c.th1) (many := m) c4 f4
  rw [hk] at ht
  have HT := Lib.hid ht
  obtain ⟨hN2, hT2, hF2⟩ := h.set (w' := w.setCell ⟨c.blk, 4, none⟩ (.string (c.th1.extract k c.th1.size))) (c' := c.setTh 1 (c.th1.extract k c.th1.size)) hc rfl rfl
    (Blk.set hb 4 _) (Turn.cell w c.blk 4 _) ⟨hf.1, by
      show (c.th1.extract k c.th1.size).size + c.un1.size ≤ 65536
      rw [ByteArray.size_extract]; omega⟩
  have hl := (leave22 hN2 x hF2).mono (fun e w' h => And.intro h.1 (And.intro h.2.1 (hT2.trans h.2.2)))
  have HL := Lib.hid hl
  clear ha h hx hcut hc hb hf hk hkk ht c4 f4 s4 hq hN2 hT2 hF2 hl h0
  go_enter Try.func12, Try.ntmps12
  go_wp2_with (go_at_call 18; refine HC.out.mono ?_; rintro e w1 ⟨rfl, rfl⟩)
  refine S4.out.mono ?_
  rintro e w1 ⟨rfl, rfl⟩
  go_wp2_with (go_at_call 21; refine HT.out.mono ?_; rintro e w1 ⟨rfl, hw1⟩; have HW := Lib.hid hw1; clear hw1)
  rw [HW.out]
  refine HL.out.mono ?_
  rintro e w2 ⟨rfl, hR⟩
  have HR := Lib.hid hR
  clear hR
  go_wp2_with fail
  go_ret2
  exact ⟨rfl, HR.out⟩
end
end Go.Proofs.Ytalcmaphndfcfaa
