/- Sending. -/
import Derived.Test.YtalcmaphndfcfaaF
namespace Go.Proofs.Ytalcmaphndfcfaa
open Go.RowKit Go.Maps
set_option linter.unusedVariables false
set_option linter.unusedSimpArgs false

/-- what is under way to a side, what has arrived there, whether it is shut -/
def Cn.un (c : Cn) (s : Int) : ByteArray := if s = 0 then c.un0 else c.un1
def Cn.th (c : Cn) (s : Int) : ByteArray := if s = 0 then c.th0 else c.th1
def Cn.sh (c : Cn) (s : Int) : Bool := if s = 0 then c.sh0 else c.sh1
def Cn.setUn (c : Cn) (s : Int) (x : ByteArray) : Cn := if s = 0 then { c with un0 := x } else { c with un1 := x }
def Cn.setTh (c : Cn) (s : Int) (x : ByteArray) : Cn := if s = 0 then { c with th0 := x } else { c with th1 := x }
def Cn.setSh (c : Cn) (s : Int) : Cn := if s = 0 then { c with sh0 := true } else { c with sh1 := true }

/-- how many bytes there is room for -/
def roomN (c : Cn) (s : Int) (n : Nat) : Nat := min n (65536 - (c.th s).size - (c.un s).size)

section
variable {F : Nat → Prop} {w : World} {bn : Nat} {made : Int} {L : List Cn} {c : Cn}

/-- what is shut takes no more -/
theorem send10_shut (h : NetAt F w bn made L) (x s : Int) (d : ByteArray) (hx : (Lit.int .i64 x).wf = true) (hc : findC L x = some c) (hs : s = 0 ∨ s = 1) (hcut : c.cut = false) (hsh : c.sh (1 - s) = true) :
    Calls Try.prog 10 #[.pointer (some ⟨bn, 0, none⟩), .int .i64 x, .int .i64 s, .string d] w fun e w' => e = .returned (.tuple #[.int .i64 0, .int .i64 16]) ∧ w = w' := by
  have ha := ask18_ok h x s hx hc hs hcut
  have hb := h.cells hc
  unfold askR at ha
  have HC := Lib.hid ha
  clear ha h hx hcut
  rcases hs with rfl | rfl
  · have c6 : w.cell? ⟨c.blk, 4 + 2, none⟩ = some (.bool c.sh1) := Blk.cell hb 6
    have e : c.sh1 = true := hsh
    rw [e] at c6
    clear hb hc hsh e
    go_enter Try.func10, Try.ntmps10
    go_wp2_with (go_at_call 18; refine HC.out.mono ?_; rintro e w1 ⟨rfl, rfl⟩)
    go_ret2
    exact ⟨rfl, rfl⟩
  · have c2 : w.cell? ⟨c.blk, 2, none⟩ = some (.bool c.sh0) := Blk.cell hb 2
    have e : c.sh0 = true := hsh
    rw [e] at c2
    clear hb hc hsh e
    go_enter Try.func10, Try.ntmps10
    go_wp2_with (go_at_call 18; refine HC.out.mono ?_; rintro e w1 ⟨rfl, rfl⟩)
    go_ret2
    exact ⟨rfl, rfl⟩

set_option maxRecDepth 100000 in
set_option maxHeartbeats 4000000 in
theorem send10_ok0 (h : NetAt F w bn made L) (x : Int) (d : ByteArray) (hx : (Lit.int .i64 x).wf = true) (hc : findC L x = some c) (hcut : c.cut = false) (hsh : c.sh1 = false) (k : Nat) (hk : roomN c 1 d.size = k) (hd : d.size ≤ 9223372036854775807) :
    Calls Try.prog 10 #[.pointer (some ⟨bn, 0, none⟩), .int .i64 x, .int .i64 0, .string d] w fun e w' => e = .returned (.tuple #[.int .i64 (k : Nat), .int .i64 0]) ∧
      NetAt F w' bn made (updC L (c.setUn 1 (c.un1 ++ d.extract 0 k))) ∧ Turn F w w' := by
  have ha := ask18_ok h x 0 hx hc (.inl rfl) hcut
  have hb := h.cells hc
  have hf := h.fits hc
  unfold askR at ha
  have HC := Lib.hid ha
  have H := Lib.hid h
  have Hc := Lib.hid hc
  have Hb := Lib.hid hb
  have c4 : w.cell? ⟨c.blk, 4, none⟩ = some (.string c.th1) := Blk.cell hb 4
  have c5 : w.cell? ⟨c.blk, 4 + 1, none⟩ = some (.string c.un1) := Blk.cell hb 5
  have c6 : w.cell? ⟨c.blk, 4 + 2, none⟩ = some (.bool c.sh1) := Blk.cell hb 6
  rw [hsh] at c6
  clear ha h hx hcut hc hb hsh
  obtain ⟨K, hK⟩ : ∃ K : Int, K = (k : Int) := ⟨_, rfl⟩
  have HK := Lib.hid hK
  go_enter Try.func10, Try.ntmps10
  go_wp2_with (go_at_call 18; refine HC.out.mono ?_; rintro e w1 ⟨rfl, rfl⟩)
  go_quiet ((go_at_call 19; first | (refine quietL (size19 (x := c.th1) ?_); rw [World.cell?_drewN]; with_reducible exact c4) | (refine quietL (size19 (x := c.un1) ?_); rw [World.cell?_drewN]; with_reducible exact c5)))
  have e : (if (65536 : Int) - (c.th1.size : Int) - (c.un1.size : Int) < (d.size : Int) then (65536 : Int) - (c.th1.size : Int) - (c.un1.size : Int) else (d.size : Int)) = K := by
    rw [HK.out, ← hk]; unfold roomN Cn.th Cn.un; simp only [show ¬ ((1 : Int) = 0) by decide, if_false]; split <;> omega
  rw [e]
  have hk1 : k ≤ d.size := by rw [← hk]; unfold roomN; omega
  have hk3 : c.th1.size + (c.un1.size + k) ≤ 65536 := by rw [← hk]; unfold roomN Cn.th Cn.un; simp only [show ¬ ((1 : Int) = 0) by decide, if_false]; omega
  have hk2 : K ≤ (d.size : Int) := by rw [HK.out]; omega
  have hk0 : 0 ≤ K := by rw [HK.out]; omega
  have HK3 := Lib.hid hk3
  have HF := Lib.hid hf
  have hKn : K.toNat = k := by rw [HK.out]; rfl
  have HKn := Lib.hid hKn
  clear e hk hk3 hf hk1 hK hKn
  have d5 : (w.drewN nq).cell? ⟨c.blk, 5, none⟩ = some (.string c.un1) := Blk.cell Hb.out 5
  have g5 : (w.drewN nq).frozen? ⟨c.blk, 5, none⟩ = false := Blk.free Hb.out 5
  have HN := Lib.hid (And.intro (NetAt.drewN H.out nq) (And.intro ((Turn.refl F w).drewN nq) (Blk.drewN Hb.out nq)))
  clear c4 c5 c6 HC H Hb
  obtain ⟨w2, hw2⟩ : ∃ w2, w2 = w.drewN nq := ⟨_, rfl⟩
  rw [← hw2] at d5 g5 HN ⊢
  clear hw2
  go_wp2_with fail
  refine wp_region_still_tail 6 (by kernel_rfl) (by kernel_rfl) ?_
  simp only [List.take_succ_cons, List.take_zero, List.drop_succ_cons, List.drop_zero]
  repeat still_step
  refine wpStill_nil ?_
  change wpList _ _ _ _ _ w2.drew
  go_wp2_with fail
  refine (put20 (w := w2.drew) (x := c.un1) d5 g5 (by simp only [ByteArray.size_extract]; have := HK3.out; have := HKn.out; omega)).mono ?_
  rintro e w3 ⟨rfl, hw3⟩
  have HW := Lib.hid hw3
  clear hw3
  go_wp2_with fail
  go_ret2
  obtain ⟨hN, hT, hB⟩ := HN.out
  obtain ⟨hN2, hT2, -⟩ := (show NetAt F w2.drew bn made L from hN.drewN 1).set (w' := w3) (c' := c.setUn 1 (c.un1 ++ d.extract 0 k)) Hc.out rfl rfl
    (by rw [HW.out, HKn.out]; exact Blk.set (show Blk w2.drew c.blk 64 c.cells from hB) 5 _) (by rw [HW.out]; exact Turn.cell _ _ _ _)
    ⟨HF.out.1, by
      show c.th1.size + (c.un1 ++ d.extract 0 k).size ≤ 65536
      rw [ByteArray.size_append, ByteArray.size_extract]; have := HK3.out; omega⟩
  exact ⟨by show Ending.returned (.tuple #[.int .i64 K, .int .i64 0]) = _; rw [HK.out], hN2, hT.trans (Turn.trans ((Turn.refl F w2).drewN 1) hT2)⟩
set_option maxRecDepth 100000 in
set_option maxHeartbeats 4000000 in
theorem send10_ok1 (h : NetAt F w bn made L) (x : Int) (d : ByteArray) (hx : (Lit.int .i64 x).wf = true) (hc : findC L x = some c) (hcut : c.cut = false) (hsh : c.sh0 = false) (k : Nat) (hk : roomN c 0 d.size = k) (hd : d.size ≤ 9223372036854775807) :
    Calls Try.prog 10 #[.pointer (some ⟨bn, 0, none⟩), .int .i64 x, .int .i64 1, .string d] w fun e w' => e = .returned (.tuple #[.int .i64 (k : Nat), .int .i64 0]) ∧
      NetAt F w' bn made (updC L (c.setUn 0 (c.un0 ++ d.extract 0 k))) ∧ Turn F w w' := by
  have ha := ask18_ok h x 1 hx hc (.inr rfl) hcut
  have hb := h.cells hc
  have hf := h.fits hc
  unfold askR at ha
  have HC := Lib.hid ha
  have H := Lib.hid h
  have Hc := Lib.hid hc
  have Hb := Lib.hid hb
  have c4 : w.cell? ⟨c.blk, 0, none⟩ = some (.string c.th0) := Blk.cell hb 0
  have c5 : w.cell? ⟨c.blk, 1, none⟩ = some (.string c.un0) := Blk.cell hb 1
  have c6 : w.cell? ⟨c.blk, 2, none⟩ = some (.bool c.sh0) := Blk.cell hb 2
  rw [hsh] at c6
  clear ha h hx hcut hc hb hsh
  obtain ⟨K, hK⟩ : ∃ K : Int, K = (k : Int) := ⟨_, rfl⟩
  have HK := Lib.hid hK
  go_enter Try.func10, Try.ntmps10
  go_wp2_with (go_at_call 18; refine HC.out.mono ?_; rintro e w1 ⟨rfl, rfl⟩)
  go_quiet ((go_at_call 19; first | (refine quietL (size19 (x := c.th0) ?_); rw [World.cell?_drewN]; with_reducible exact c4) | (refine quietL (size19 (x := c.un0) ?_); rw [World.cell?_drewN]; with_reducible exact c5)))
  have e : (if (65536 : Int) - (c.th0.size : Int) - (c.un0.size : Int) < (d.size : Int) then (65536 : Int) - (c.th0.size : Int) - (c.un0.size : Int) else (d.size : Int)) = K := by
    rw [HK.out, ← hk]; unfold roomN Cn.th Cn.un; simp only [if_true]; split <;> omega
  rw [e]
  have hk1 : k ≤ d.size := by rw [← hk]; unfold roomN; omega
  have hk3 : c.th0.size + (c.un0.size + k) ≤ 65536 := by rw [← hk]; unfold roomN Cn.th Cn.un; simp only [if_true]; omega
  have hk2 : K ≤ (d.size : Int) := by rw [HK.out]; omega
  have hk0 : 0 ≤ K := by rw [HK.out]; omega
  have HK3 := Lib.hid hk3
  have HF := Lib.hid hf
  have hKn : K.toNat = k := by rw [HK.out]; rfl
  have HKn := Lib.hid hKn
  clear e hk hk3 hf hk1 hK hKn
  have d5 : (w.drewN nq).cell? ⟨c.blk, 1, none⟩ = some (.string c.un0) := Blk.cell Hb.out 1
  have g5 : (w.drewN nq).frozen? ⟨c.blk, 1, none⟩ = false := Blk.free Hb.out 1
  have HN := Lib.hid (And.intro (NetAt.drewN H.out nq) (And.intro ((Turn.refl F w).drewN nq) (Blk.drewN Hb.out nq)))
  clear c4 c5 c6 HC H Hb
  obtain ⟨w2, hw2⟩ : ∃ w2, w2 = w.drewN nq := ⟨_, rfl⟩
  rw [← hw2] at d5 g5 HN ⊢
  clear hw2
  go_wp2_with fail
  refine wp_region_still_tail 6 (by kernel_rfl) (by kernel_rfl) ?_
  simp only [List.take_succ_cons, List.take_zero, List.drop_succ_cons, List.drop_zero]
  repeat still_step
  refine wpStill_nil ?_
  change wpList _ _ _ _ _ w2.drew
  go_wp2_with fail
  refine (put20 (w := w2.drew) (x := c.un0) d5 g5 (by simp only [ByteArray.size_extract]; have := HK3.out; have := HKn.out; omega)).mono ?_
  rintro e w3 ⟨rfl, hw3⟩
  have HW := Lib.hid hw3
  clear hw3
  go_wp2_with fail
  go_ret2
  obtain ⟨hN, hT, hB⟩ := HN.out
  obtain ⟨hN2, hT2, -⟩ := (show NetAt F w2.drew bn made L from hN.drewN 1).set (w' := w3) (c' := c.setUn 0 (c.un0 ++ d.extract 0 k)) Hc.out rfl rfl
    (by rw [HW.out, HKn.out]; exact Blk.set (show Blk w2.drew c.blk 64 c.cells from hB) 1 _) (by rw [HW.out]; exact Turn.cell _ _ _ _)
    ⟨by
      show c.th0.size + (c.un0 ++ d.extract 0 k).size ≤ 65536
      rw [ByteArray.size_append, ByteArray.size_extract]; have := HK3.out; omega, HF.out.2⟩
  exact ⟨by show Ending.returned (.tuple #[.int .i64 K, .int .i64 0]) = _; rw [HK.out], hN2, hT.trans (Turn.trans ((Turn.refl F w2).drewN 1) hT2)⟩
end
end Go.Proofs.Ytalcmaphndfcfaa
