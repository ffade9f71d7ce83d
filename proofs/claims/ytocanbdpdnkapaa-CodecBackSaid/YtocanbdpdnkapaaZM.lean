/- What a thing's kind has alone (normal). -/
import Derived.Test.YtocanbdpdnkapaaZL
namespace Go.Proofs.Ytocanbdpdnkapaa
open Go.RowKit
set_option linter.unusedVariables false
set_option linter.unusedSimpArgs false

theorem RowsT.keepN {B : Nat} {w w' w'' : World} {t : ThingT} {v : ThV} {b : Option Nat} (h : RowsT B w t v) (hB : B ≤ w.heap.size) (hk : KeepB none w w') (hb : ∀ b0, b = some b0 → B ≤ b0 ∧ b0 < w.heap.size) (hkb : KeepB b w' w'') : RowsT w''.heap.size w'' t v :=
  h.mono ((hk.below (L := B) hB (fun _ e => by cases e)).trans (hkb.below (L := B) (Nat.le_trans hB hk.size) (fun b0 e => (hb b0 e).1))) (Nat.le_trans (Nat.le_trans hB hk.size) hkb.size)
set_option maxRecDepth 100000 in
set_option maxHeartbeats 32000000 in
theorem normal31 (t : ThingT) (v0 : ThV) (w : World) (B : Nat) (hB : B ≤ w.heap.size) (hr : RowsT B w t v0) :
    Calls Try.prog 31 #[.agg (thingC t v0)] w fun e w' => ∃ v, e = .returned (.agg (thingC (normT t) v)) ∧ KeepB none w w' ∧ ∀ b w'', (∀ b0, b = some b0 → B ≤ b0 ∧ b0 < w.heap.size) → KeepB b w' w'' → RowsT w''.heap.size w'' (normT t) v := by
  obtain ⟨k, n, s, l, cs, fs, m⟩ := t
  obtain ⟨vl, vc, vf, vm⟩ := v0
  have HR0 := Lib.hid hr
  obtain ⟨a1, c1, h1, -⟩ := hr.l.open
  obtain ⟨a2, c2, h2, -⟩ := hr.c
  obtain ⟨ps, hps, ⟨a3, c3, h3, -⟩, -⟩ := hr.f
  obtain ⟨a4, c4, h4, -⟩ := hr.m.open
  simp only at h1 h2 h3 h4 hps
  rw [hps] at h3
  subst h1 h2 h3 h4
  unfold thingC
  simp only
  have hT := Blk.alloc (Blk.alloc (Blk.new w 57 #[.int .i64 k, .int .i64 n, .string s, .slice a1 l.length c1, .slice a2 cs.length c2, .slice a3 fs.length c3, .slice a4 m.length c4]) (Obj.cells #[.int .i64 0, .int .i64 0, .string ⟨#[]⟩, .slice none 0 0, .slice none 0 0, .slice none 0 0, .slice none 0 0] 57)) (Obj.cells #[.int .i64 k, .int .i64 0, .string ⟨#[]⟩, .slice none 0 0, .slice none 0 0, .slice none 0 0, .slice none 0 0] 57)
  have hRb := Blk.alloc (Blk.newAt (w.alloc (Obj.cells #[.int .i64 k, .int .i64 n, .string s, .slice a1 l.length c1, .slice a2 cs.length c2, .slice a3 fs.length c3, .slice a4 m.length c4] 57)) 57 #[.int .i64 0, .int .i64 0, .string ⟨#[]⟩, .slice none 0 0, .slice none 0 0, .slice none 0 0, .slice none 0 0] (b := w.heap.size + 1) (by simp)) (Obj.cells #[.int .i64 k, .int .i64 0, .string ⟨#[]⟩, .slice none 0 0, .slice none 0 0, .slice none 0 0, .slice none 0 0] 57)
  have hC := Blk.newAt ((w.alloc (Obj.cells #[.int .i64 k, .int .i64 n, .string s, .slice a1 l.length c1, .slice a2 cs.length c2, .slice a3 fs.length c3, .slice a4 m.length c4] 57)).alloc (Obj.cells #[.int .i64 0, .int .i64 0, .string ⟨#[]⟩, .slice none 0 0, .slice none 0 0, .slice none 0 0, .slice none 0 0] 57)) 57 #[.int .i64 k, .int .i64 0, .string ⟨#[]⟩, .slice none 0 0, .slice none 0 0, .slice none 0 0, .slice none 0 0] (b := w.heap.size + 1 + 1) (by simp)
  have hBl := Below.al (Below.al (Below.al (Below.refl w.heap.size w) (Obj.cells #[.int .i64 k, .int .i64 n, .string s, .slice a1 l.length c1, .slice a2 cs.length c2, .slice a3 fs.length c3, .slice a4 m.length c4] 57)) (Obj.cells #[.int .i64 0, .int .i64 0, .string ⟨#[]⟩, .slice none 0 0, .slice none 0 0, .slice none 0 0, .slice none 0 0] 57)) (Obj.cells #[.int .i64 k, .int .i64 0, .string ⟨#[]⟩, .slice none 0 0, .slice none 0 0, .slice none 0 0, .slice none 0 0] 57)
  obtain ⟨w1, hw1⟩ : ∃ w1, w1 = ((w.alloc (Obj.cells #[.int .i64 k, .int .i64 n, .string s, .slice a1 l.length c1, .slice a2 cs.length c2, .slice a3 fs.length c3, .slice a4 m.length c4] 57)).alloc (Obj.cells #[.int .i64 0, .int .i64 0, .string ⟨#[]⟩, .slice none 0 0, .slice none 0 0, .slice none 0 0, .slice none 0 0] 57)).alloc (Obj.cells #[.int .i64 k, .int .i64 0, .string ⟨#[]⟩, .slice none 0 0, .slice none 0 0, .slice none 0 0, .slice none 0 0] 57) := ⟨_, rfl⟩
  have hs1 : w1.heap.size = w.heap.size + 3 := by rw [hw1]; simp
  rw [← hw1] at hT hRb hC hBl
  have HBK := Lib.hid (And.intro hT (And.intro hRb hC))
  have HK := Lib.hid (KeepB.of (b := none) hBl)
  have HS1 := Lib.hid hs1
  have HR1 := Lib.hid (hr.mono (hBl.mono hB) (Nat.le_refl _))
  have q0 : w1.cell? ⟨w.heap.size, 0, none⟩ = some (.int .i64 k) := Blk.cell hT 0
  have q1 : w1.cell? ⟨w.heap.size, 1, none⟩ = some (.int .i64 n) := Blk.cell hT 1
  have q2 : w1.cell? ⟨w.heap.size, 2, none⟩ = some (.string s) := Blk.cell hT 2
  have q3 : w1.cell? ⟨w.heap.size, 3, none⟩ = some (.slice a1 l.length c1) := Blk.cell hT 3
  have q4 : w1.cell? ⟨w.heap.size, 4, none⟩ = some (.slice a2 cs.length c2) := Blk.cell hT 4
  have q5 : w1.cell? ⟨w.heap.size, 5, none⟩ = some (.slice a3 fs.length c3) := Blk.cell hT 5
  have q6 : w1.cell? ⟨w.heap.size, 6, none⟩ = some (.slice a4 m.length c4) := Blk.cell hT 6
  clear hT hRb hC hBl hs1 hr
  by_cases k0 : k = 0
  · subst k0
    have HRES := Lib.hid (show normT ⟨0, n, s, l, cs, fs, m⟩ = ⟨0, (u8 n : Int), emptyS, [], [], [], []⟩ from rfl)
    have hm : u8 n < 256 := u8_lt n
    have hwr0 := wrap_u8 n
    have hwr : IntKind.i64.wrap ((u8 n : Nat) : Int) = (u8 n : Nat) := IntWalk.i64_in _ (by omega)
    have hwr2 : wrap64 ((u8 n : Nat) : Int) = (u8 n : Nat) := by unfold wrap64; omega
    obtain ⟨U, hU⟩ : ∃ U, u8 n = U := ⟨_, rfl⟩
    rw [hU] at hm hwr0 hwr hwr2 HRES
    go_enter Try.func31, Try.ntmps31
    go_upto_region 2 with fail
    rw [← hw1]
    clear hw1
    have f1 : w1.frozen? ⟨w.heap.size + 1 + 1, 1, none⟩ = false := Blk.free HBK.out.2.2 1
    have g1 := Blk.cell HBK.out.2.2 1
    have HC3 := Lib.hid (Blk.set HBK.out.2.2 1 (.int .i64 (U : Nat)))
    have HR3 := Lib.hid (Blk.other HBK.out.2.1 (p := ⟨w.heap.size + 1 + 1, 1, none⟩) (by show w.heap.size + 1 + 1 ≠ w.heap.size + 1; omega) (.int .i64 (U : Nat)))
    go_wp2_with (first | (refine wpList_load_at rfl 57 _ rfl (w.heap.size + 1 + 1) 0 rfl #[.int .i64 0, .int .i64 (U : Nat), .string ⟨#[]⟩, .slice none 0 0, .slice none 0 0, .slice none 0 0, .slice none 0 0] _ (fun j hj => by rw [Nat.zero_add]; exact Blk.cell HC3.out j) Try.underlying57 rfl info57 ?_) | (refine wpList_store_row rfl 57 _ _ rfl (w.heap.size + 1) #[.int .i64 0, .int .i64 (U : Nat), .string ⟨#[]⟩, .slice none 0 0, .slice none 0 0, .slice none 0 0, .slice none 0 0] rfl rfl 57 _ HR3.out info57 rfl (by simp [Value.oneCell']) ?_))
    refine bodyPost_ret (results_cell_row rfl _ _ (w.heap.size + 1) 57 #[.int .i64 0, .int .i64 (U : Nat), .string ⟨#[]⟩, .slice none 0 0, .slice none 0 0, .slice none 0 0, .slice none 0 0] (0, 0) _ rfl (Blk.setRow HR3.out) Try.underlying57 rfl info57) rfl ?_
    have hk := KeepB.setRow (KeepB.cell HK.out (p := ⟨w.heap.size + 1 + 1, 1, none⟩) (show w.heap.size ≤ w.heap.size + 1 + 1 by omega) (.int .i64 (U : Nat))) (show w.heap.size ≤ w.heap.size + 1 by omega) #[.int .i64 0, .int .i64 (U : Nat), .string ⟨#[]⟩, .slice none 0 0, .slice none 0 0, .slice none 0 0, .slice none 0 0]
    refine ⟨⟨.slice none 0 0, .slice none 0 0, .slice none 0 0, .slice none 0 0⟩, by first | (rw [HRES.out]; done) | (rw [HRES.out]; rfl), hk, ?_⟩
    rw [HRES.out]
    intro bb W hb hkb
    exact ⟨RowS.nil _ _, RowR.nil _ _ _ _, RowF.nil _ _, RowS.nil _ _⟩
  by_cases k1 : k = 1
  · subst k1
    have HRES := Lib.hid (show normT ⟨1, n, s, l, cs, fs, m⟩ = ⟨1, n, emptyS, [], [], [], []⟩ from rfl)
    go_enter Try.func31, Try.ntmps31
    go_upto_region 2 with fail
    rw [← hw1]
    clear hw1
    have f1 : w1.frozen? ⟨w.heap.size + 1 + 1, 1, none⟩ = false := Blk.free HBK.out.2.2 1
    have g1 := Blk.cell HBK.out.2.2 1
    have HC3 := Lib.hid (Blk.set HBK.out.2.2 1 (.int .i64 n))
    have HR3 := Lib.hid (Blk.other HBK.out.2.1 (p := ⟨w.heap.size + 1 + 1, 1, none⟩) (by show w.heap.size + 1 + 1 ≠ w.heap.size + 1; omega) (.int .i64 n))
    go_wp2_with (first | (refine wpList_load_at rfl 57 _ rfl (w.heap.size + 1 + 1) 0 rfl #[.int .i64 1, .int .i64 n, .string ⟨#[]⟩, .slice none 0 0, .slice none 0 0, .slice none 0 0, .slice none 0 0] _ (fun j hj => by rw [Nat.zero_add]; exact Blk.cell HC3.out j) Try.underlying57 rfl info57 ?_) | (refine wpList_store_row rfl 57 _ _ rfl (w.heap.size + 1) #[.int .i64 1, .int .i64 n, .string ⟨#[]⟩, .slice none 0 0, .slice none 0 0, .slice none 0 0, .slice none 0 0] rfl rfl 57 _ HR3.out info57 rfl (by simp [Value.oneCell']) ?_))
    refine bodyPost_ret (results_cell_row rfl _ _ (w.heap.size + 1) 57 #[.int .i64 1, .int .i64 n, .string ⟨#[]⟩, .slice none 0 0, .slice none 0 0, .slice none 0 0, .slice none 0 0] (0, 0) _ rfl (Blk.setRow HR3.out) Try.underlying57 rfl info57) rfl ?_
    have hk := KeepB.setRow (KeepB.cell HK.out (p := ⟨w.heap.size + 1 + 1, 1, none⟩) (show w.heap.size ≤ w.heap.size + 1 + 1 by omega) (.int .i64 n)) (show w.heap.size ≤ w.heap.size + 1 by omega) #[.int .i64 1, .int .i64 n, .string ⟨#[]⟩, .slice none 0 0, .slice none 0 0, .slice none 0 0, .slice none 0 0]
    refine ⟨⟨.slice none 0 0, .slice none 0 0, .slice none 0 0, .slice none 0 0⟩, by first | (rw [HRES.out]; done) | (rw [HRES.out]; rfl), hk, ?_⟩
    rw [HRES.out]
    intro bb W hb hkb
    exact ⟨RowS.nil _ _, RowR.nil _ _ _ _, RowF.nil _ _, RowS.nil _ _⟩
  by_cases k2 : k = 2
  · subst k2
    have HRES := Lib.hid (show normT ⟨2, n, s, l, cs, fs, m⟩ = ⟨2, n, emptyS, [], [], [], []⟩ from rfl)
    go_enter Try.func31, Try.ntmps31
    go_upto_region 2 with fail
    rw [← hw1]
    clear hw1
    have f1 : w1.frozen? ⟨w.heap.size + 1 + 1, 1, none⟩ = false := Blk.free HBK.out.2.2 1
    have g1 := Blk.cell HBK.out.2.2 1
    have HC3 := Lib.hid (Blk.set HBK.out.2.2 1 (.int .i64 n))
    have HR3 := Lib.hid (Blk.other HBK.out.2.1 (p := ⟨w.heap.size + 1 + 1, 1, none⟩) (by show w.heap.size + 1 + 1 ≠ w.heap.size + 1; omega) (.int .i64 n))
    go_wp2_with (first | (refine wpList_load_at rfl 57 _ rfl (w.heap.size + 1 + 1) 0 rfl #[.int .i64 2, .int .i64 n, .string ⟨#[]⟩, .slice none 0 0, .slice none 0 0, .slice none 0 0, .slice none 0 0] _ (fun j hj => by rw [Nat.zero_add]; exact Blk.cell HC3.out j) Try.underlying57 rfl info57 ?_) | (refine wpList_store_row rfl 57 _ _ rfl (w.heap.size + 1) #[.int .i64 2, .int .i64 n, .string ⟨#[]⟩, .slice none 0 0, .slice none 0 0, .slice none 0 0, .slice none 0 0] rfl rfl 57 _ HR3.out info57 rfl (by simp [Value.oneCell']) ?_))
    refine bodyPost_ret (results_cell_row rfl _ _ (w.heap.size + 1) 57 #[.int .i64 2, .int .i64 n, .string ⟨#[]⟩, .slice none 0 0, .slice none 0 0, .slice none 0 0, .slice none 0 0] (0, 0) _ rfl (Blk.setRow HR3.out) Try.underlying57 rfl info57) rfl ?_
    have hk := KeepB.setRow (KeepB.cell HK.out (p := ⟨w.heap.size + 1 + 1, 1, none⟩) (show w.heap.size ≤ w.heap.size + 1 + 1 by omega) (.int .i64 n)) (show w.heap.size ≤ w.heap.size + 1 by omega) #[.int .i64 2, .int .i64 n, .string ⟨#[]⟩, .slice none 0 0, .slice none 0 0, .slice none 0 0, .slice none 0 0]
    refine ⟨⟨.slice none 0 0, .slice none 0 0, .slice none 0 0, .slice none 0 0⟩, by first | (rw [HRES.out]; done) | (rw [HRES.out]; rfl), hk, ?_⟩
    rw [HRES.out]
    intro bb W hb hkb
    exact ⟨RowS.nil _ _, RowR.nil _ _ _ _, RowF.nil _ _, RowS.nil _ _⟩
  by_cases k3 : k = 3
  · subst k3
    have HRES := Lib.hid (show normT ⟨3, n, s, l, cs, fs, m⟩ = ⟨3, 0, s, [], [], [], []⟩ from rfl)
    go_enter Try.func31, Try.ntmps31
    go_upto_region 2 with fail
    rw [← hw1]
    clear hw1
    have f1 : w1.frozen? ⟨w.heap.size + 1 + 1, 2, none⟩ = false := Blk.free HBK.out.2.2 2
    have g1 := Blk.cell HBK.out.2.2 2
    have HC3 := Lib.hid (Blk.set HBK.out.2.2 2 (.string s))
    have HR3 := Lib.hid (Blk.other HBK.out.2.1 (p := ⟨w.heap.size + 1 + 1, 2, none⟩) (by show w.heap.size + 1 + 1 ≠ w.heap.size + 1; omega) (.string s))
    go_wp2_with (first | (refine wpList_load_at rfl 57 _ rfl (w.heap.size + 1 + 1) 0 rfl #[.int .i64 3, .int .i64 0, .string s, .slice none 0 0, .slice none 0 0, .slice none 0 0, .slice none 0 0] _ (fun j hj => by rw [Nat.zero_add]; exact Blk.cell HC3.out j) Try.underlying57 rfl info57 ?_) | (refine wpList_store_row rfl 57 _ _ rfl (w.heap.size + 1) #[.int .i64 3, .int .i64 0, .string s, .slice none 0 0, .slice none 0 0, .slice none 0 0, .slice none 0 0] rfl rfl 57 _ HR3.out info57 rfl (by simp [Value.oneCell']) ?_))
    refine bodyPost_ret (results_cell_row rfl _ _ (w.heap.size + 1) 57 #[.int .i64 3, .int .i64 0, .string s, .slice none 0 0, .slice none 0 0, .slice none 0 0, .slice none 0 0] (0, 0) _ rfl (Blk.setRow HR3.out) Try.underlying57 rfl info57) rfl ?_
    have hk := KeepB.setRow (KeepB.cell HK.out (p := ⟨w.heap.size + 1 + 1, 2, none⟩) (show w.heap.size ≤ w.heap.size + 1 + 1 by omega) (.string s)) (show w.heap.size ≤ w.heap.size + 1 by omega) #[.int .i64 3, .int .i64 0, .string s, .slice none 0 0, .slice none 0 0, .slice none 0 0, .slice none 0 0]
    refine ⟨⟨.slice none 0 0, .slice none 0 0, .slice none 0 0, .slice none 0 0⟩, by first | (rw [HRES.out]; done) | (rw [HRES.out]; rfl), hk, ?_⟩
    rw [HRES.out]
    intro bb W hb hkb
    exact ⟨RowS.nil _ _, RowR.nil _ _ _ _, RowF.nil _ _, RowS.nil _ _⟩
  by_cases k4 : k = 4
  · subst k4
    have HRES := Lib.hid (show normT ⟨4, n, s, l, cs, fs, m⟩ = ⟨4, 0, emptyS, l, [], [], []⟩ from rfl)
    go_enter Try.func31, Try.ntmps31
    go_upto_region 2 with fail
    rw [← hw1]
    clear hw1
    have f1 : w1.frozen? ⟨w.heap.size + 1 + 1, 3, none⟩ = false := Blk.free HBK.out.2.2 3
    have g1 := Blk.cell HBK.out.2.2 3
    have HC3 := Lib.hid (Blk.set HBK.out.2.2 3 (.slice a1 l.length c1))
    have HR3 := Lib.hid (Blk.other HBK.out.2.1 (p := ⟨w.heap.size + 1 + 1, 3, none⟩) (by show w.heap.size + 1 + 1 ≠ w.heap.size + 1; omega) (.slice a1 l.length c1))
    go_wp2_with (first | (refine wpList_load_at rfl 57 _ rfl (w.heap.size + 1 + 1) 0 rfl #[.int .i64 4, .int .i64 0, .string ⟨#[]⟩, .slice a1 l.length c1, .slice none 0 0, .slice none 0 0, .slice none 0 0] _ (fun j hj => by rw [Nat.zero_add]; exact Blk.cell HC3.out j) Try.underlying57 rfl info57 ?_) | (refine wpList_store_row rfl 57 _ _ rfl (w.heap.size + 1) #[.int .i64 4, .int .i64 0, .string ⟨#[]⟩, .slice a1 l.length c1, .slice none 0 0, .slice none 0 0, .slice none 0 0] rfl rfl 57 _ HR3.out info57 rfl (by simp [Value.oneCell']) ?_))
    refine bodyPost_ret (results_cell_row rfl _ _ (w.heap.size + 1) 57 #[.int .i64 4, .int .i64 0, .string ⟨#[]⟩, .slice a1 l.length c1, .slice none 0 0, .slice none 0 0, .slice none 0 0] (0, 0) _ rfl (Blk.setRow HR3.out) Try.underlying57 rfl info57) rfl ?_
    have hk := KeepB.setRow (KeepB.cell HK.out (p := ⟨w.heap.size + 1 + 1, 3, none⟩) (show w.heap.size ≤ w.heap.size + 1 + 1 by omega) (.slice a1 l.length c1)) (show w.heap.size ≤ w.heap.size + 1 by omega) #[.int .i64 4, .int .i64 0, .string ⟨#[]⟩, .slice a1 l.length c1, .slice none 0 0, .slice none 0 0, .slice none 0 0]
    refine ⟨⟨.slice a1 l.length c1, .slice none 0 0, .slice none 0 0, .slice none 0 0⟩, by first | (rw [HRES.out]; done) | (rw [HRES.out]; rfl), hk, ?_⟩
    rw [HRES.out]
    intro bb W hb hkb
    exact ⟨(HR0.out.keepN hB hk hb hkb).l, RowR.nil _ _ _ _, RowF.nil _ _, RowS.nil _ _⟩
  by_cases k5 : k = 5
  · subst k5
    have HRES := Lib.hid (show normT ⟨5, n, s, l, cs, fs, m⟩ = ⟨5, 0, emptyS, [], [cs.headD cell0], [], []⟩ from rfl)
    go_enter Try.func31, Try.ntmps31
    go_upto_region 2 with fail
    rw [← hw1]
    clear hw1
    go_wp2_with fail
    refine (one46 _ cs w1 B HR1.out.c (Nat.le_trans hB HK.out.size)).mono ?_
    rintro e w2 ⟨rfl, h2⟩
    generalize cs.headD cell0 = cc at *
    obtain ⟨ca, cb, ct⟩ := cc
    unfold cellV
    have hC2 := Blk.below HBK.out.2.2 h2 HBK.out.2.2.lt
    have hR2 := Blk.below HBK.out.2.1 h2 HBK.out.2.1.lt
    have hBl := Below.al (Below.refl w2.heap.size w2) (Obj.cells #[.int .i64 ca, .int .i64 cb, .string ct] 92)
    have hD := Blk.new w2 92 #[.int .i64 ca, .int .i64 cb, .string ct]
    have hC3 := Blk.below hC2 hBl hC2.lt
    have hR3 := Blk.below hR2 hBl hR2.lt
    have r0 := Lib.hid (RowR.one 3 cellC ⟨ca, cb, ct⟩ hD (fun j hj => by match j, hj with | 0, _ => rfl | 1, _ => rfl | 2, _ => rfl))
    have f1 : (w2.alloc (Obj.cells #[.int .i64 ca, .int .i64 cb, .string ct] 92)).frozen? ⟨w.heap.size + 1 + 1, 4, none⟩ = false := Blk.free hC3 4
    have g1 := Blk.cell hC3 4
    have HC3 := Lib.hid (Blk.set hC3 4 (.slice (some ⟨w2.heap.size, 0, none⟩) 1 1))
    have HR3 := Lib.hid (Blk.other hR3 (p := ⟨w.heap.size + 1 + 1, 4, none⟩) (by show w.heap.size + 1 + 1 ≠ w.heap.size + 1; omega) (.slice (some ⟨w2.heap.size, 0, none⟩) 1 1))
    have H2 := Lib.hid ((HK.out.call h2).call hBl)
    have HS2 := Lib.hid h2.size
    clear h2 hC2 hR2 hC3 hR3 hD hBl
    go_wp2_with (first | (refine wpList_load_at rfl 57 _ rfl (w.heap.size + 1 + 1) 0 rfl #[.int .i64 5, .int .i64 0, .string ⟨#[]⟩, .slice none 0 0, .slice (some ⟨w2.heap.size, 0, none⟩) 1 1, .slice none 0 0, .slice none 0 0] _ (fun j hj => by rw [Nat.zero_add]; exact Blk.cell HC3.out j) Try.underlying57 rfl info57 ?_) | (refine wpList_store_row rfl 57 _ _ rfl (w.heap.size + 1) #[.int .i64 5, .int .i64 0, .string ⟨#[]⟩, .slice none 0 0, .slice (some ⟨w2.heap.size, 0, none⟩) 1 1, .slice none 0 0, .slice none 0 0] rfl rfl 57 _ HR3.out info57 rfl (by simp [Value.oneCell']) ?_))
    refine bodyPost_ret (results_cell_row rfl _ _ (w.heap.size + 1) 57 #[.int .i64 5, .int .i64 0, .string ⟨#[]⟩, .slice none 0 0, .slice (some ⟨w2.heap.size, 0, none⟩) 1 1, .slice none 0 0, .slice none 0 0] (0, 0) _ rfl (Blk.setRow HR3.out) Try.underlying57 rfl info57) rfl ?_
    have hk := KeepB.setRow (KeepB.cell H2.out (p := ⟨w.heap.size + 1 + 1, 4, none⟩) (show w.heap.size ≤ w.heap.size + 1 + 1 by omega) (.slice (some ⟨w2.heap.size, 0, none⟩) 1 1)) (show w.heap.size ≤ w.heap.size + 1 by omega) #[.int .i64 5, .int .i64 0, .string ⟨#[]⟩, .slice none 0 0, .slice (some ⟨w2.heap.size, 0, none⟩) 1 1, .slice none 0 0, .slice none 0 0]
    refine ⟨⟨.slice none 0 0, .slice (some ⟨w2.heap.size, 0, none⟩) 1 1, .slice none 0 0, .slice none 0 0⟩, by first | (rw [HRES.out]; done) | (rw [HRES.out]; rfl), hk, ?_⟩
    rw [HRES.out]
    intro bb W hb hkb
    have k1 := RowR.keepB r0.out (show New w2.heap.size (.slice (some ⟨w2.heap.size, 0, none⟩) 1 1) from fun g e => by cases e; exact Nat.le_refl _) ((KeepB.refl (some (w.heap.size + 1 + 1)) (w2.alloc (Obj.cells #[.int .i64 ca, .int .i64 cb, .string ct] 92))).set 4 (.slice (some ⟨w2.heap.size, 0, none⟩) 1 1)) (fun B e => by cases e; have := HS1.out; have := HS2.out; omega)
    have k2 := RowR.keepB k1 (show New w2.heap.size (.slice (some ⟨w2.heap.size, 0, none⟩) 1 1) from fun g e => by cases e; exact Nat.le_refl _) (KeepB.row _ (w.heap.size + 1) #[.int .i64 5, .int .i64 0, .string ⟨#[]⟩, .slice none 0 0, .slice (some ⟨w2.heap.size, 0, none⟩) 1 1, .slice none 0 0, .slice none 0 0]) (fun B e => by cases e; have := HS1.out; have := HS2.out; omega)
    have k3 := RowR.keepB k2 (show New w2.heap.size (.slice (some ⟨w2.heap.size, 0, none⟩) 1 1) from fun g e => by cases e; exact Nat.le_refl _) hkb (fun b0 e => Nat.lt_of_lt_of_le (hb b0 e).2 (Nat.le_trans HK.out.size HS2.out))
    exact ⟨RowS.nil _ _, k3, RowF.nil _ _, RowS.nil _ _⟩
  by_cases k6 : k = 6
  · subst k6
    have HRES := Lib.hid (show normT ⟨6, n, s, l, cs, fs, m⟩ = ⟨6, 0, emptyS, [], cs, [], []⟩ from rfl)
    go_enter Try.func31, Try.ntmps31
    go_upto_region 2 with fail
    rw [← hw1]
    clear hw1
    have f1 : w1.frozen? ⟨w.heap.size + 1 + 1, 4, none⟩ = false := Blk.free HBK.out.2.2 4
    have g1 := Blk.cell HBK.out.2.2 4
    have HC3 := Lib.hid (Blk.set HBK.out.2.2 4 (.slice a2 cs.length c2))
    have HR3 := Lib.hid (Blk.other HBK.out.2.1 (p := ⟨w.heap.size + 1 + 1, 4, none⟩) (by show w.heap.size + 1 + 1 ≠ w.heap.size + 1; omega) (.slice a2 cs.length c2))
    go_wp2_with (first | (refine wpList_load_at rfl 57 _ rfl (w.heap.size + 1 + 1) 0 rfl #[.int .i64 6, .int .i64 0, .string ⟨#[]⟩, .slice none 0 0, .slice a2 cs.length c2, .slice none 0 0, .slice none 0 0] _ (fun j hj => by rw [Nat.zero_add]; exact Blk.cell HC3.out j) Try.underlying57 rfl info57 ?_) | (refine wpList_store_row rfl 57 _ _ rfl (w.heap.size + 1) #[.int .i64 6, .int .i64 0, .string ⟨#[]⟩, .slice none 0 0, .slice a2 cs.length c2, .slice none 0 0, .slice none 0 0] rfl rfl 57 _ HR3.out info57 rfl (by simp [Value.oneCell']) ?_))
    refine bodyPost_ret (results_cell_row rfl _ _ (w.heap.size + 1) 57 #[.int .i64 6, .int .i64 0, .string ⟨#[]⟩, .slice none 0 0, .slice a2 cs.length c2, .slice none 0 0, .slice none 0 0] (0, 0) _ rfl (Blk.setRow HR3.out) Try.underlying57 rfl info57) rfl ?_
    have hk := KeepB.setRow (KeepB.cell HK.out (p := ⟨w.heap.size + 1 + 1, 4, none⟩) (show w.heap.size ≤ w.heap.size + 1 + 1 by omega) (.slice a2 cs.length c2)) (show w.heap.size ≤ w.heap.size + 1 by omega) #[.int .i64 6, .int .i64 0, .string ⟨#[]⟩, .slice none 0 0, .slice a2 cs.length c2, .slice none 0 0, .slice none 0 0]
    refine ⟨⟨.slice none 0 0, .slice a2 cs.length c2, .slice none 0 0, .slice none 0 0⟩, by first | (rw [HRES.out]; done) | (rw [HRES.out]; rfl), hk, ?_⟩
    rw [HRES.out]
    intro bb W hb hkb
    exact ⟨RowS.nil _ _, (HR0.out.keepN hB hk hb hkb).c, RowF.nil _ _, RowS.nil _ _⟩
  by_cases k7 : k = 7
  · subst k7
    have HRES := Lib.hid (show normT ⟨7, n, s, l, cs, fs, m⟩ = ⟨7, 0, emptyS, [], [], [fs.headD fact0], []⟩ from rfl)
    go_enter Try.func31, Try.ntmps31
    go_upto_region 2 with fail
    rw [← hw1]
    clear hw1
    go_wp2_with fail
    refine (any49 _ fs w1 B HR1.out.f (Nat.le_trans hB HK.out.size)).mono ?_
    rintro e w2 ⟨vd, vm, rfl, h2, h3, h4⟩
    generalize fs.headD fact0 = cc at *
    have hC2 := Blk.below HBK.out.2.2 h2 HBK.out.2.2.lt
    have hR2 := Blk.below HBK.out.2.1 h2 HBK.out.2.1.lt
    have hBl := Below.al (Below.refl w2.heap.size w2) (Obj.cells #[vd, vm] 98)
    have hD := Blk.new w2 98 #[vd, vm]
    have hC3 := Blk.below hC2 hBl hC2.lt
    have hR3 := Blk.below hR2 hBl hR2.lt
    have r0 := Lib.hid (RowR.one 2 (fun p : Value × Value => [p.1, p.2]) (vd, vm) hD (fun j hj => by match j, hj with | 0, _ => rfl | 1, _ => rfl))
    have H3 := Lib.hid (And.intro h3 h4)
    have HB2 := Lib.hid (hBl.mono (show w.heap.size ≤ w2.heap.size from Nat.le_trans HK.out.size h2.size))
    clear h3 h4
    have f1 : (w2.alloc (Obj.cells #[vd, vm] 98)).frozen? ⟨w.heap.size + 1 + 1, 5, none⟩ = false := Blk.free hC3 5
    have g1 := Blk.cell hC3 5
    have HC3 := Lib.hid (Blk.set hC3 5 (.slice (some ⟨w2.heap.size, 0, none⟩) 1 1))
    have HR3 := Lib.hid (Blk.other hR3 (p := ⟨w.heap.size + 1 + 1, 5, none⟩) (by show w.heap.size + 1 + 1 ≠ w.heap.size + 1; omega) (.slice (some ⟨w2.heap.size, 0, none⟩) 1 1))
    have H2 := Lib.hid ((HK.out.call h2).call hBl)
    have HS2 := Lib.hid h2.size
    clear h2 hC2 hR2 hC3 hR3 hD hBl
    go_wp2_with (first | (refine wpList_load_at rfl 57 _ rfl (w.heap.size + 1 + 1) 0 rfl #[.int .i64 7, .int .i64 0, .string ⟨#[]⟩, .slice none 0 0, .slice none 0 0, .slice (some ⟨w2.heap.size, 0, none⟩) 1 1, .slice none 0 0] _ (fun j hj => by rw [Nat.zero_add]; exact Blk.cell HC3.out j) Try.underlying57 rfl info57 ?_) | (refine wpList_store_row rfl 57 _ _ rfl (w.heap.size + 1) #[.int .i64 7, .int .i64 0, .string ⟨#[]⟩, .slice none 0 0, .slice none 0 0, .slice (some ⟨w2.heap.size, 0, none⟩) 1 1, .slice none 0 0] rfl rfl 57 _ HR3.out info57 rfl (by simp [Value.oneCell']) ?_))
    refine bodyPost_ret (results_cell_row rfl _ _ (w.heap.size + 1) 57 #[.int .i64 7, .int .i64 0, .string ⟨#[]⟩, .slice none 0 0, .slice none 0 0, .slice (some ⟨w2.heap.size, 0, none⟩) 1 1, .slice none 0 0] (0, 0) _ rfl (Blk.setRow HR3.out) Try.underlying57 rfl info57) rfl ?_
    have hk := KeepB.setRow (KeepB.cell H2.out (p := ⟨w.heap.size + 1 + 1, 5, none⟩) (show w.heap.size ≤ w.heap.size + 1 + 1 by omega) (.slice (some ⟨w2.heap.size, 0, none⟩) 1 1)) (show w.heap.size ≤ w.heap.size + 1 by omega) #[.int .i64 7, .int .i64 0, .string ⟨#[]⟩, .slice none 0 0, .slice none 0 0, .slice (some ⟨w2.heap.size, 0, none⟩) 1 1, .slice none 0 0]
    refine ⟨⟨.slice none 0 0, .slice none 0 0, .slice (some ⟨w2.heap.size, 0, none⟩) 1 1, .slice none 0 0⟩, by first | (rw [HRES.out]; done) | (rw [HRES.out]; rfl), hk, ?_⟩
    rw [HRES.out]
    intro bb W hb hkb
    have k1 := RowR.keepB r0.out (show New w2.heap.size (.slice (some ⟨w2.heap.size, 0, none⟩) 1 1) from fun g e => by cases e; exact Nat.le_refl _) ((KeepB.refl (some (w.heap.size + 1 + 1)) (w2.alloc (Obj.cells #[vd, vm] 98))).set 5 (.slice (some ⟨w2.heap.size, 0, none⟩) 1 1)) (fun B e => by cases e; have := HS1.out; have := HS2.out; omega)
    have k2 := RowR.keepB k1 (show New w2.heap.size (.slice (some ⟨w2.heap.size, 0, none⟩) 1 1) from fun g e => by cases e; exact Nat.le_refl _) (KeepB.row _ (w.heap.size + 1) #[.int .i64 7, .int .i64 0, .string ⟨#[]⟩, .slice none 0 0, .slice none 0 0, .slice (some ⟨w2.heap.size, 0, none⟩) 1 1, .slice none 0 0]) (fun B e => by cases e; have := HS1.out; have := HS2.out; omega)
    have hws : w.heap.size ≤ (w2.alloc (Obj.cells #[vd, vm] 98)).heap.size := Nat.le_trans (Nat.le_trans HK.out.size HS2.out) HB2.out.size
    have b1 := (((KeepB.refl (some (w.heap.size + 1 + 1)) (w2.alloc (Obj.cells #[vd, vm] 98))).set 5 (.slice (some ⟨w2.heap.size, 0, none⟩) 1 1)).below (L := w.heap.size) hws (fun B e => by cases e; omega))
    have b2 := ((KeepB.row ((w2.alloc (Obj.cells #[vd, vm] 98)).setCell ⟨w.heap.size + 1 + 1, 5, none⟩ (.slice (some ⟨w2.heap.size, 0, none⟩) 1 1)) (w.heap.size + 1) #[.int .i64 7, .int .i64 0, .string ⟨#[]⟩, .slice none 0 0, .slice none 0 0, .slice (some ⟨w2.heap.size, 0, none⟩) 1 1, .slice none 0 0]).below (L := w.heap.size) (Nat.le_trans hws b1.size) (fun B e => by cases e; omega))
    have b3 := (HB2.out.trans b1).trans b2
    have k3 := RowR.keepB k2 (show New w2.heap.size (.slice (some ⟨w2.heap.size, 0, none⟩) 1 1) from fun g e => by cases e; exact Nat.le_refl _) hkb (fun b0 e => Nat.lt_of_lt_of_le (hb b0 e).2 (Nat.le_trans HK.out.size HS2.out))
    have b4 : Below B w2 W := (b3.mono hB).trans (hkb.below (L := B) (Nat.le_trans hB (Nat.le_trans (Nat.le_trans HK.out.size HS2.out) b3.size)) (fun b0 e => (hb b0 e).1))
    have hwf := Nat.le_trans (Nat.le_trans hB (Nat.le_trans HK.out.size HS2.out)) b4.size
    exact ⟨RowS.nil _ _, RowR.nil _ _ _ _, ⟨[(vd, vm)], rfl, k3, fun k f p hf hp => by
      cases k with
      | zero => simp at hf hp; subst hf hp; exact ⟨RowS.mono H3.out.1 b4 hwf, RowI.mono H3.out.2 b4 hwf⟩
      | succ k => simp at hf⟩, RowS.nil _ _⟩
  by_cases k8 : k = 8
  · subst k8
    have HRES := Lib.hid (show normT ⟨8, n, s, l, cs, fs, m⟩ = ⟨8, 0, emptyS, [], [], fs, []⟩ from rfl)
    go_enter Try.func31, Try.ntmps31
    go_upto_region 2 with fail
    rw [← hw1]
    clear hw1
    have f1 : w1.frozen? ⟨w.heap.size + 1 + 1, 5, none⟩ = false := Blk.free HBK.out.2.2 5
    have g1 := Blk.cell HBK.out.2.2 5
    have HC3 := Lib.hid (Blk.set HBK.out.2.2 5 (.slice a3 fs.length c3))
    have HR3 := Lib.hid (Blk.other HBK.out.2.1 (p := ⟨w.heap.size + 1 + 1, 5, none⟩) (by show w.heap.size + 1 + 1 ≠ w.heap.size + 1; omega) (.slice a3 fs.length c3))
    go_wp2_with (first | (refine wpList_load_at rfl 57 _ rfl (w.heap.size + 1 + 1) 0 rfl #[.int .i64 8, .int .i64 0, .string ⟨#[]⟩, .slice none 0 0, .slice none 0 0, .slice a3 fs.length c3, .slice none 0 0] _ (fun j hj => by rw [Nat.zero_add]; exact Blk.cell HC3.out j) Try.underlying57 rfl info57 ?_) | (refine wpList_store_row rfl 57 _ _ rfl (w.heap.size + 1) #[.int .i64 8, .int .i64 0, .string ⟨#[]⟩, .slice none 0 0, .slice none 0 0, .slice a3 fs.length c3, .slice none 0 0] rfl rfl 57 _ HR3.out info57 rfl (by simp [Value.oneCell']) ?_))
    refine bodyPost_ret (results_cell_row rfl _ _ (w.heap.size + 1) 57 #[.int .i64 8, .int .i64 0, .string ⟨#[]⟩, .slice none 0 0, .slice none 0 0, .slice a3 fs.length c3, .slice none 0 0] (0, 0) _ rfl (Blk.setRow HR3.out) Try.underlying57 rfl info57) rfl ?_
    have hk := KeepB.setRow (KeepB.cell HK.out (p := ⟨w.heap.size + 1 + 1, 5, none⟩) (show w.heap.size ≤ w.heap.size + 1 + 1 by omega) (.slice a3 fs.length c3)) (show w.heap.size ≤ w.heap.size + 1 by omega) #[.int .i64 8, .int .i64 0, .string ⟨#[]⟩, .slice none 0 0, .slice none 0 0, .slice a3 fs.length c3, .slice none 0 0]
    refine ⟨⟨.slice none 0 0, .slice none 0 0, .slice a3 fs.length c3, .slice none 0 0⟩, by first | (rw [HRES.out]; done) | (rw [HRES.out]; rfl), hk, ?_⟩
    rw [HRES.out]
    intro bb W hb hkb
    exact ⟨RowS.nil _ _, RowR.nil _ _ _ _, (HR0.out.keepN hB hk hb hkb).f, RowS.nil _ _⟩
  have HRES := Lib.hid (show normT ⟨k, n, s, l, cs, fs, m⟩ = ⟨k, 0, emptyS, l, [], [], m⟩ by unfold normT; rw [if_neg k0, if_neg k1, if_neg k2, if_neg k3, if_neg k4, if_neg k5, if_neg k6, if_neg k7, if_neg k8])
  have d0 : (k == 0) = false := by simpa using k0
  have d1 : (k == 1) = false := by simpa using k1
  have d2 : (k == 2) = false := by simpa using k2
  have d3 : (k == 3) = false := by simpa using k3
  have d4 : (k == 4) = false := by simpa using k4
  have d5 : (k == 5) = false := by simpa using k5
  have d6 : (k == 6) = false := by simpa using k6
  have d7 : (k == 7) = false := by simpa using k7
  have d8 : (k == 8) = false := by simpa using k8
  go_enter Try.func31, Try.ntmps31
  go_upto_region 2 with fail
  rw [← hw1]
  clear hw1
  have f3 : w1.frozen? ⟨w.heap.size + 1 + 1, 3, none⟩ = false := Blk.free HBK.out.2.2 3
  have g3 := Blk.cell HBK.out.2.2 3
  go_upto_region 4 with fail
  have hT4 := Blk.other HBK.out.1 (p := ⟨w.heap.size + 1 + 1, 3, none⟩) (by show w.heap.size + 1 + 1 ≠ w.heap.size; omega) (.slice a1 l.length c1)
  have hC4 := Blk.set HBK.out.2.2 3 (.slice a1 l.length c1)
  have hR4 := Blk.other HBK.out.2.1 (p := ⟨w.heap.size + 1 + 1, 3, none⟩) (by show w.heap.size + 1 + 1 ≠ w.heap.size + 1; omega) (.slice a1 l.length c1)
  have H4 := Lib.hid (KeepB.cell HK.out (p := ⟨w.heap.size + 1 + 1, 3, none⟩) (show w.heap.size ≤ w.heap.size + 1 + 1 by omega) (.slice a1 l.length c1))
  obtain ⟨w4, hw4⟩ : ∃ w4, w4 = w1.setCell ⟨w.heap.size + 1 + 1, 3, none⟩ (.slice a1 l.length c1) := ⟨_, rfl⟩
  rw [← hw4] at hT4 hC4 hR4 H4 ⊢
  clear hw4 f3 g3 q0 q1 q2 q3 q4 q5 q6
  have p6 : w4.cell? ⟨w.heap.size, 6, none⟩ = some (.slice a4 m.length c4) := Blk.cell hT4 6
  have f6 : w4.frozen? ⟨w.heap.size + 1 + 1, 6, none⟩ = false := Blk.free hC4 6
  have g6 := Blk.cell hC4 6
  have HC3 := Lib.hid (Blk.set hC4 6 (.slice a4 m.length c4))
  have HR3 := Lib.hid (Blk.other hR4 (p := ⟨w.heap.size + 1 + 1, 6, none⟩) (by show w.heap.size + 1 + 1 ≠ w.heap.size + 1; omega) (.slice a4 m.length c4))
  clear hT4 hC4 hR4
  go_wp2_with (first | (refine wpList_load_at rfl 57 _ rfl (w.heap.size + 1 + 1) 0 rfl #[.int .i64 k, .int .i64 0, .string ⟨#[]⟩, .slice a1 l.length c1, .slice none 0 0, .slice none 0 0, .slice a4 m.length c4] _ (fun j hj => by rw [Nat.zero_add]; exact Blk.cell HC3.out j) Try.underlying57 rfl info57 ?_) | (refine wpList_store_row rfl 57 _ _ rfl (w.heap.size + 1) #[.int .i64 k, .int .i64 0, .string ⟨#[]⟩, .slice a1 l.length c1, .slice none 0 0, .slice none 0 0, .slice a4 m.length c4] rfl rfl 57 _ HR3.out info57 rfl (by simp [Value.oneCell']) ?_))
  refine bodyPost_ret (results_cell_row rfl _ _ (w.heap.size + 1) 57 #[.int .i64 k, .int .i64 0, .string ⟨#[]⟩, .slice a1 l.length c1, .slice none 0 0, .slice none 0 0, .slice a4 m.length c4] (0, 0) _ rfl (Blk.setRow HR3.out) Try.underlying57 rfl info57) rfl ?_
  have hk := KeepB.setRow (KeepB.cell H4.out (p := ⟨w.heap.size + 1 + 1, 6, none⟩) (show w.heap.size ≤ w.heap.size + 1 + 1 by omega) (.slice a4 m.length c4)) (show w.heap.size ≤ w.heap.size + 1 by omega) #[.int .i64 k, .int .i64 0, .string ⟨#[]⟩, .slice a1 l.length c1, .slice none 0 0, .slice none 0 0, .slice a4 m.length c4]
  refine ⟨⟨.slice a1 l.length c1, .slice none 0 0, .slice none 0 0, .slice a4 m.length c4⟩, by first | (rw [HRES.out]; done) | (rw [HRES.out]; rfl), hk, ?_⟩
  rw [HRES.out]
  intro bb W hb hkb
  exact ⟨(HR0.out.keepN hB hk hb hkb).l, RowR.nil _ _ _ _, RowF.nil _ _, (HR0.out.keepN hB hk hb hkb).m⟩


theorem sameTexts57 (B1 B2 : Nat) (v1 v2 : Value) (l : List ByteArray) (w : World) (h1 : RowS B1 w v1 l) (h2 : RowS B2 w v2 l) (hB1 : B1 ≤ w.heap.size) (hB2 : B2 ≤ w.heap.size) :
    Calls Try.prog 57 #[v1, v2] w fun e w' => e = .returned (.bool true) ∧ Below w.heap.size w w' := by
  obtain ⟨a1, cap1, rfl, hcap1, hmax1, hc1⟩ := h1.open
  obtain ⟨a2, cap2, rfl, hcap2, hmax2, hc2⟩ := h2.open
  have HC1 := Lib.hid hc1
  have HC2 := Lib.hid hc2
  clear hc1 hc2
  go_enter Try.func57, Try.ntmps57
  go_wp2_with fail
  go_loopw [5] (fun i wr => ∃ k : Nat, k ≤ l.length ∧ i = .int .i64 k ∧ Below w.heap.size w wr) (fun i _ => l.length - (intOf i).toNat)
  case atStart => exact ⟨0, by omega, rfl, Below.refl _ _⟩
  case round =>
    obtain ⟨k, hk, rfl, hB⟩ := hrel
    by_cases hlt : k < l.length
    · obtain ⟨b1, off1, rfl, hb1, hcell1⟩ := HC1.out (by omega)
      obtain ⟨b2, off2, rfl, hb2, hcell2⟩ := HC2.out (by omega)
      have g1 := (hB.cell (p := ⟨b1, off1 + k, none⟩) (by show b1 < _; omega)).trans (hcell1 k hlt)
      have g2 := (hB.cell (p := ⟨b2, off2 + k, none⟩) (by show b2 < _; omega)).trans (hcell2 k hlt)
      generalize l.getD k _ = y at g1 g2
      have HB := Lib.hid hB
      have hkI : decide ((k : Int) < l.length) = true := decide_eq_true (by omega)
      clear hcell1 hcell2 HC1 HC2 hB
      go_wp2_with fail
      go_quiet (fail)
      go_wp2_with fail
      go_roundw
      case rel => exact ⟨k + 1, by omega, by go_num, Below.drewN HB.out _⟩
      case measure => simp [intOf]; omega
    · have hkI : decide ((k : Int) < l.length) = false := decide_eq_false (by omega)
      have HB := Lib.hid hB
      clear hB HC1 HC2
      go_wp2_with fail
      go_ret
      exact ⟨rfl, HB.out⟩

set_option maxRecDepth 100000 in
set_option maxHeartbeats 32000000 in
theorem same25 (t : ThingT) (va vb : ThV) (w : World) (h1 : RowsT w.heap.size w t va) (h2 : RowsT w.heap.size w t vb) (hf : ∀ f ∈ t.facts, okF f) :
    Calls Try.prog 25 #[.agg (thingC t va), .agg (thingC t vb)] w fun e w' => e = .returned (.bool true) ∧ Below w.heap.size w w' := by
  obtain ⟨k, n, s, l, cs, fs, m⟩ := t
  obtain ⟨vl, vc, vf, vm⟩ := va
  obtain ⟨ul, uc, uf, um⟩ := vb
  have HR1 := Lib.hid h1
  have HR2 := Lib.hid h2
  obtain ⟨a1, c1, e1, -⟩ := h1.l.open
  obtain ⟨a2, c2, e2, m2, x2, hc2⟩ := h1.c
  obtain ⟨ps, hps, ⟨a3, c3, e3, m3, x3, hc3⟩, hps2⟩ := h1.f
  obtain ⟨a4, c4, e4, -⟩ := h1.m.open
  obtain ⟨i1, d1, f1, -⟩ := h2.l.open
  obtain ⟨i2, d2, f2, n2, y2, hd2⟩ := h2.c
  obtain ⟨qs, hqs, ⟨i3, d3, f3, n3, y3, hd3⟩, hqs2⟩ := h2.f
  obtain ⟨i4, d4, f4, -⟩ := h2.m.open
  simp only at e1 e2 e3 e4 f1 f2 f3 f4 hps hqs hps2 hqs2 hc2 hd2 m2 n2
  rw [hps] at e3 m3 hc3
  rw [hqs] at f3 n3 hd3
  subst e1 e2 e3 e4 f1 f2 f3 f4
  have HC2 := Lib.hid hc2
  have HD2 := Lib.hid hd2
  have HC3 := Lib.hid hc3
  have HD3 := Lib.hid hd3
  have HP := Lib.hid (And.intro hps hps2)
  have HQ := Lib.hid (And.intro hqs hqs2)
  have HF := Lib.hid hf
  clear hc2 hd2 hc3 hd3 hps hps2 hqs hqs2 hf h1 h2
  unfold thingC
  simp only
  have hX := Blk.alloc (Blk.new w 57 #[.int .i64 k, .int .i64 n, .string s, .slice a1 l.length c1, .slice a2 cs.length c2, .slice a3 fs.length c3, .slice a4 m.length c4]) (Obj.cells #[.int .i64 k, .int .i64 n, .string s, .slice i1 l.length d1, .slice i2 cs.length d2, .slice i3 fs.length d3, .slice i4 m.length d4] 57)
  have hY := Blk.newAt (w.alloc (Obj.cells #[.int .i64 k, .int .i64 n, .string s, .slice a1 l.length c1, .slice a2 cs.length c2, .slice a3 fs.length c3, .slice a4 m.length c4] 57)) 57 #[.int .i64 k, .int .i64 n, .string s, .slice i1 l.length d1, .slice i2 cs.length d2, .slice i3 fs.length d3, .slice i4 m.length d4] (b := w.heap.size + 1) (by simp)
  have hBl := Below.al (Below.al (Below.refl w.heap.size w) (Obj.cells #[.int .i64 k, .int .i64 n, .string s, .slice a1 l.length c1, .slice a2 cs.length c2, .slice a3 fs.length c3, .slice a4 m.length c4] 57)) (Obj.cells #[.int .i64 k, .int .i64 n, .string s, .slice i1 l.length d1, .slice i2 cs.length d2, .slice i3 fs.length d3, .slice i4 m.length d4] 57)
  obtain ⟨w1, hw1⟩ : ∃ w1, w1 = (w.alloc (Obj.cells #[.int .i64 k, .int .i64 n, .string s, .slice a1 l.length c1, .slice a2 cs.length c2, .slice a3 fs.length c3, .slice a4 m.length c4] 57)).alloc (Obj.cells #[.int .i64 k, .int .i64 n, .string s, .slice i1 l.length d1, .slice i2 cs.length d2, .slice i3 fs.length d3, .slice i4 m.length d4] 57) := ⟨_, rfl⟩
  rw [← hw1] at hX hY hBl
  have HXY := Lib.hid (And.intro hX hY)
  have HB1 := Lib.hid hBl
  have q3 : w1.cell? ⟨w.heap.size, 3, none⟩ = some (.slice a1 l.length c1) := Blk.cell hX 3
  have r3 : w1.cell? ⟨w.heap.size + 1, 3, none⟩ = some (.slice i1 l.length d1) := Blk.cell hY 3
  clear hX hY hBl
  go_enter Try.func25, Try.ntmps25
  go_upto_region 1 with fail
  rw [← hw1]
  clear hw1
  go_wp2_with fail
  refine (sameTexts57 w.heap.size w.heap.size _ _ l w1 (HR1.out.l.mono HB1.out (Nat.le_refl _)) (HR2.out.l.mono HB1.out (Nat.le_refl _)) HB1.out.size HB1.out.size).mono ?_
  rintro e w2 ⟨rfl, hB2⟩
  have HB2 := Lib.hid (Below.call HB1.out hB2)
  have HXY2 := Lib.hid (And.intro (Blk.below HXY.out.1 hB2 HXY.out.1.lt) (Blk.below HXY.out.2 hB2 HXY.out.2.lt))
  clear hB2 q3 r3
  have q6 : w2.cell? ⟨w.heap.size, 6, none⟩ = some (.slice a4 m.length c4) := Blk.cell HXY2.out.1 6
  have r6 : w2.cell? ⟨w.heap.size + 1, 6, none⟩ = some (.slice i4 m.length d4) := Blk.cell HXY2.out.2 6
  go_wp2_with fail
  refine (sameTexts57 w.heap.size w.heap.size _ _ m w2 (HR1.out.m.mono HB2.out (Nat.le_refl _)) (HR2.out.m.mono HB2.out (Nat.le_refl _)) HB2.out.size HB2.out.size).mono ?_
  rintro e w3 ⟨rfl, hB3⟩
  have HB3 := Lib.hid (Below.call HB2.out hB3)
  have HXY3 := Lib.hid (And.intro (Blk.below HXY2.out.1 hB3 HXY2.out.1.lt) (Blk.below HXY2.out.2 hB3 HXY2.out.2.lt))
  clear hB3 q6 r6
  have q0 : w3.cell? ⟨w.heap.size, 0, none⟩ = some (.int .i64 k) := Blk.cell HXY3.out.1 0
  have r0 : w3.cell? ⟨w.heap.size + 1, 0, none⟩ = some (.int .i64 k) := Blk.cell HXY3.out.2 0
  have q1 : w3.cell? ⟨w.heap.size, 1, none⟩ = some (.int .i64 n) := Blk.cell HXY3.out.1 1
  have r1 : w3.cell? ⟨w.heap.size + 1, 1, none⟩ = some (.int .i64 n) := Blk.cell HXY3.out.2 1
  have q2 : w3.cell? ⟨w.heap.size, 2, none⟩ = some (.string s) := Blk.cell HXY3.out.1 2
  have r2 : w3.cell? ⟨w.heap.size + 1, 2, none⟩ = some (.string s) := Blk.cell HXY3.out.2 2
  have q4 : w3.cell? ⟨w.heap.size, 4, none⟩ = some (.slice a2 cs.length c2) := Blk.cell HXY3.out.1 4
  have r4 : w3.cell? ⟨w.heap.size + 1, 4, none⟩ = some (.slice i2 cs.length d2) := Blk.cell HXY3.out.2 4
  have q5 : w3.cell? ⟨w.heap.size, 5, none⟩ = some (.slice a3 fs.length c3) := Blk.cell HXY3.out.1 5
  have r5 : w3.cell? ⟨w.heap.size + 1, 5, none⟩ = some (.slice i3 fs.length d3) := Blk.cell HXY3.out.2 5
  have hs3 : w.heap.size < w3.heap.size := HXY3.out.1.lt
  have hs4 : w.heap.size + 1 < w3.heap.size := HXY3.out.2.lt
  go_wp2_with fail
  go_loopw [7] (fun i wr => ∃ j : Nat, j ≤ cs.length ∧ i = .int .i64 j ∧ Below w3.heap.size w3 wr) (fun i _ => cs.length - (intOf i).toNat)
  case atStart => exact ⟨0, by omega, rfl, Below.refl _ _⟩
  case round =>
    obtain ⟨j, hj, rfl, hB⟩ := hrel
    have p4 := (hB.cell (p := ⟨w.heap.size, 4, none⟩) hs3).trans q4
    have o4 := (hB.cell (p := ⟨w.heap.size + 1, 4, none⟩) hs4).trans r4
    by_cases hlt : j < cs.length
    · obtain ⟨g1, o1, rfl, hg1, hcell1⟩ := HC2.out (by omega)
      obtain ⟨g2, o2, rfl, hg2, hcell2⟩ := HD2.out (by omega)
      obtain ⟨⟨ca, cb, ct⟩, hget⟩ : ∃ p, cs[j]? = some p := ⟨_, List.getElem?_eq_getElem hlt⟩
      have hbw := HB3.out.trans (hB.mono (show w.heap.size ≤ w3.heap.size from HB3.out.size))
      have x0 : wr.cell? ⟨g1, o1 + j * 3, none⟩ = some (.int .i64 ca) := (hbw.cell (by exact hg1)).trans (hcell1 j _ hget 0 (by omega))
      have x1 : wr.cell? ⟨g1, o1 + j * 3 + 1, none⟩ = some (.int .i64 cb) := (hbw.cell (by exact hg1)).trans (hcell1 j _ hget 1 (by omega))
      have x2 : wr.cell? ⟨g1, o1 + j * 3 + 2, none⟩ = some (.string ct) := (hbw.cell (by exact hg1)).trans (hcell1 j _ hget 2 (by omega))
      have y0 : wr.cell? ⟨g2, o2 + j * 3, none⟩ = some (.int .i64 ca) := (hbw.cell (by exact hg2)).trans (hcell2 j _ hget 0 (by omega))
      have y1 : wr.cell? ⟨g2, o2 + j * 3 + 1, none⟩ = some (.int .i64 cb) := (hbw.cell (by exact hg2)).trans (hcell2 j _ hget 1 (by omega))
      have y2 : wr.cell? ⟨g2, o2 + j * 3 + 2, none⟩ = some (.string ct) := (hbw.cell (by exact hg2)).trans (hcell2 j _ hget 2 (by omega))
      have HB := Lib.hid hB
      have hkI : decide ((j : Int) < cs.length) = true := decide_eq_true (by omega)
      clear hcell1 hcell2 HC2 HD2 hB hbw hget
      go_wp2_with fail
      go_quiet (fail)
      go_wp2_with fail
      go_roundw
      case rel => exact ⟨j + 1, by omega, by go_num, Below.drewN HB.out _⟩
      case measure => simp [intOf]; omega
    · obtain rfl : j = cs.length := by omega
      have hkI : decide ((cs.length : Int) < cs.length) = false := by simp
      have HB := Lib.hid hB
      have p5 := (hB.cell (p := ⟨w.heap.size, 5, none⟩) hs3).trans q5
      have o5 := (hB.cell (p := ⟨w.heap.size + 1, 5, none⟩) hs4).trans r5
      have hs5 : w.heap.size < wr.heap.size := Nat.lt_of_lt_of_le hs3 hB.size
      have hs6 : w.heap.size + 1 < wr.heap.size := Nat.lt_of_lt_of_le hs4 hB.size
      have HBR := Lib.hid (HB3.out.trans (hB.mono (show w.heap.size ≤ w3.heap.size from HB3.out.size)))
      clear hB HB HC2 HD2 q0 r0 q1 r1 q2 r2 q4 r4 q5 r5
      obtain ⟨ws, hws⟩ : ∃ ws, ws = wr := ⟨_, rfl⟩
      subst hws
      go_wp2_with fail
      go_loopw [8] (fun i wr => ∃ j : Nat, j ≤ fs.length ∧ i = .int .i64 j ∧ Below ws.heap.size ws wr) (fun i _ => fs.length - (intOf i).toNat)
      case atStart => exact ⟨0, by omega, rfl, Below.refl _ _⟩
      case round =>
        obtain ⟨j, hj, rfl, hB⟩ := hrel
        have p5 := (hB.cell (p := ⟨w.heap.size, 5, none⟩) hs5).trans p5
        have o5 := (hB.cell (p := ⟨w.heap.size + 1, 5, none⟩) hs6).trans o5
        by_cases hlt : j < fs.length
        · obtain ⟨g1, o1, rfl, hg1, hcell1⟩ := HC3.out (by omega)
          obtain ⟨g2, o2, rfl, hg2, hcell2⟩ := HD3.out (by omega)
          have hl1 := HP.out.1
          have hl2 := HQ.out.1
          obtain ⟨⟨vd1, vm1⟩, hget1⟩ : ∃ p, ps[j]? = some p := ⟨_, List.getElem?_eq_getElem (by omega)⟩
          obtain ⟨⟨vd2, vm2⟩, hget2⟩ : ∃ p, qs[j]? = some p := ⟨_, List.getElem?_eq_getElem (by omega)⟩
          obtain ⟨f, hgetf⟩ : ∃ p, fs[j]? = some p := ⟨_, List.getElem?_eq_getElem hlt⟩
          have hbw := HBR.out.trans (hB.mono (show w.heap.size ≤ ws.heap.size from HBR.out.size))
          have x0g1 : wr.cell? ⟨g1, o1 + j * 2 + 0, none⟩ = some vd1 := (hbw.cell (by exact hg1)).trans (hcell1 j _ hget1 0 (by omega))
          have x1g1 : wr.cell? ⟨g1, o1 + j * 2 + 1, none⟩ = some vm1 := (hbw.cell (by exact hg1)).trans (hcell1 j _ hget1 1 (by omega))
          have x0g2 : wr.cell? ⟨g2, o2 + j * 2 + 0, none⟩ = some vd2 := (hbw.cell (by exact hg2)).trans (hcell2 j _ hget2 0 (by omega))
          have x1g2 : wr.cell? ⟨g2, o2 + j * 2 + 1, none⟩ = some vm2 := (hbw.cell (by exact hg2)).trans (hcell2 j _ hget2 1 (by omega))
          have HB := Lib.hid hB
          have HBW := Lib.hid hbw
          have HFg1 := Lib.hid (fun (w' : World) (hB' : Below wr.heap.size wr w') => fact56 f vd1 vm1 w' w.heap.size (Nat.le_trans hbw.size hB'.size) ((HP.out.2 j f _ hgetf hget1).1.mono (hbw.trans (hB'.mono hbw.size)) (Nat.le_refl _)) ((HP.out.2 j f _ hgetf hget1).2.mono (hbw.trans (hB'.mono hbw.size)) (Nat.le_refl _)) (HF.out f (List.mem_of_getElem? hgetf)))
          have HFg2 := Lib.hid (fun (w' : World) (hB' : Below wr.heap.size wr w') => fact56 f vd2 vm2 w' w.heap.size (Nat.le_trans hbw.size hB'.size) ((HQ.out.2 j f _ hgetf hget2).1.mono (hbw.trans (hB'.mono hbw.size)) (Nat.le_refl _)) ((HQ.out.2 j f _ hgetf hget2).2.mono (hbw.trans (hB'.mono hbw.size)) (Nat.le_refl _)) (HF.out f (List.mem_of_getElem? hgetf)))
          have hkI : decide ((j : Int) < fs.length) = true := decide_eq_true (by omega)
          have hwr1 : w.heap.size < wr.heap.size := Nat.lt_of_lt_of_le hs5 hB.size
          have hwr2 : w.heap.size + 1 < wr.heap.size := Nat.lt_of_lt_of_le hs6 hB.size
          clear hcell1 hcell2 hget1 hget2 hgetf hbw hB HC3 HD3
          go_wp2_with fail
          refine wp_region_below (by kernel_rfl) (by kernel_rfl) ?_
          refine qb_pure rfl _ (fun w' hB' => by go_simp; rfl) ?_
          simp only [Act.put, List.setIfInBounds_toArray, List.set_cons_zero, List.set_cons_succ]
          refine qb_pure rfl (.slice (some ⟨g1, o1, none⟩) fs.length c3) (fun w' hB' => by have h5 := (hB'.cell (p := ⟨w.heap.size, 5, none⟩) hwr1).trans p5; go_simp) ?_
          simp only [Act.put, List.setIfInBounds_toArray, List.set_cons_zero, List.set_cons_succ]
          refine qb_pure rfl _ (fun w' hB' => by go_simp; rfl) ?_
          simp only [Act.put, List.setIfInBounds_toArray, List.set_cons_zero, List.set_cons_succ]
          refine qb_pure rfl (.pointer (some ⟨g1, o1 + j * 2, none⟩)) (fun w' hB' => by go_simp) ?_
          simp only [Act.put, List.setIfInBounds_toArray, List.set_cons_zero, List.set_cons_succ]
          refine qb_load_at rfl 98 _ rfl g1 (o1 + j * 2) rfl #[vd1, vm1] _ (Nat.lt_of_lt_of_le hg1 HBW.out.size) (fun i hi => by match i, hi with | 0, _ => exact x0g1 | 1, _ => exact x1g1) Try.underlying98 rfl info98 ?_
          simp only [Act.put, List.setIfInBounds_toArray, List.set_cons_zero, List.set_cons_succ]
          refine qb_call rfl 56 #[.agg #[vd1, vm1]] (.string (factB f)) (fun w' => by go_simp) (fun w' hB' => HFg1.out w' hB') ?_
          simp only [Act.put, List.setIfInBounds_toArray, List.set_cons_zero, List.set_cons_succ]
          refine qb_pure rfl _ (fun w' hB' => by go_simp; rfl) ?_
          simp only [Act.put, List.setIfInBounds_toArray, List.set_cons_zero, List.set_cons_succ]
          refine qb_pure rfl (.slice (some ⟨g2, o2, none⟩) fs.length d3) (fun w' hB' => by have h5 := (hB'.cell (p := ⟨w.heap.size + 1, 5, none⟩) hwr2).trans o5; go_simp) ?_
          simp only [Act.put, List.setIfInBounds_toArray, List.set_cons_zero, List.set_cons_succ]
          refine qb_pure rfl _ (fun w' hB' => by go_simp; rfl) ?_
          simp only [Act.put, List.setIfInBounds_toArray, List.set_cons_zero, List.set_cons_succ]
          refine qb_pure rfl (.pointer (some ⟨g2, o2 + j * 2, none⟩)) (fun w' hB' => by go_simp) ?_
          simp only [Act.put, List.setIfInBounds_toArray, List.set_cons_zero, List.set_cons_succ]
          refine qb_load_at rfl 98 _ rfl g2 (o2 + j * 2) rfl #[vd2, vm2] _ (Nat.lt_of_lt_of_le hg2 HBW.out.size) (fun i hi => by match i, hi with | 0, _ => exact x0g2 | 1, _ => exact x1g2) Try.underlying98 rfl info98 ?_
          simp only [Act.put, List.setIfInBounds_toArray, List.set_cons_zero, List.set_cons_succ]
          refine qb_call rfl 56 #[.agg #[vd2, vm2]] (.string (factB f)) (fun w' => by go_simp) (fun w' hB' => HFg2.out w' hB') ?_
          simp only [Act.put, List.setIfInBounds_toArray, List.set_cons_zero, List.set_cons_succ]
          refine qb_pure rfl (.bool false) (fun w' hB' => by go_simp) ?_
          simp only [Act.put, List.setIfInBounds_toArray, List.set_cons_zero, List.set_cons_succ]
          refine qb_nil ?_
          intro w5 hB5
          have HB5 := Lib.hid (Below.call HB.out hB5)
          clear hB5
          go_wp2_with fail
          go_roundw
          case rel => exact ⟨j + 1, by omega, by go_num, HB5.out⟩
          case measure => simp [intOf]; omega
        · have hkI : decide ((j : Int) < fs.length) = false := decide_eq_false (by omega)
          have HB := Lib.hid (HBR.out.trans (hB.mono (show w.heap.size ≤ ws.heap.size from HBR.out.size)))
          clear hB
          go_wp2_with fail
          go_ret
          exact ⟨rfl, HB.out⟩

end Go.Proofs.Ytocanbdpdnkapaa
