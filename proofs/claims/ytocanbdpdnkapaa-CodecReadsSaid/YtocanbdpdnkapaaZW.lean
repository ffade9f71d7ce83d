/- The reference's Take. -/
import Derived.Test.YtocanbdpdnkapaaZQ
namespace Go.Proofs.Ytocanbdpdnkapaa
open Go.RowKit
set_option linter.unusedVariables false
set_option linter.unusedSimpArgs false

theorem RdQ.setRowO {B : Nat} {w : World} {x : RdS} (h : RdQ B w x) {g : Nat} (hg : some B ≠ some g) (cs : Array Value) : RdQ B (w.setRow g cs) x := RdQ.setRow h (fun e => hg (by rw [e])) cs
theorem RdQ.cellO {B : Nat} {w : World} {x : RdS} (h : RdQ B w x) {p : Addr} (hg : some B ≠ some p.block) (u : Value) : RdQ B (w.setCell p u) x := RdQ.cell h (fun e => hg (by rw [e])) u
theorem RdQ.lt {B : Nat} {w : World} {x : RdS} (h : RdQ B w x) : ∀ B', some B = some B' → B' < w.heap.size := fun B' e => by cases e; exact h.blk.lt
set_option maxRecDepth 100000 in
set_option maxHeartbeats 32000000 in
theorem take27 (B : Nat) (x : RdS) (t : ThingT) (v0 : ThV) (w : World) (B0 : Nat) (hx : RdQ B w x) (hr : RowsT B0 w t v0) :
    Calls Try.prog 27 #[.pointer (some ⟨B, 0, none⟩), .agg (thingC t v0)] w fun e w' => ∃ v, e = .returned (.agg (thingC (takeT x t).1 v)) ∧ RdQ B w' (takeT x t).2 ∧ KeepB (some B) w w' ∧ RowsK w.heap.size w' (takeT x t).1 v := by
  obtain ⟨k, n, s, l, cs, fs, m⟩ := t
  obtain ⟨vl, vc, vf, vm⟩ := v0
  obtain ⟨a1, c1, h1, -⟩ := hr.l.open
  obtain ⟨a2, c2, h2, -⟩ := hr.c
  obtain ⟨ps, hps, ⟨a3, c3, h3, -⟩, -⟩ := hr.f
  obtain ⟨a4, c4, h4, -⟩ := hr.m.open
  simp only at h1 h2 h3 h4 hps
  rw [hps] at h3
  subst h1 h2 h3 h4
  unfold thingC
  simp only
  have hT := Blk.alloc (Blk.alloc (Blk.new w 57 #[.int .i64 k, .int .i64 n, .string s, .slice a1 l.length c1, .slice a2 cs.length c2, .slice a3 fs.length c3, .slice a4 m.length c4]) (Obj.cells #[.int .i64 0, .int .i64 0, .string ⟨#[]⟩, .slice none 0 0, .slice none 0 0, .slice none 0 0, .slice none 0 0] 57)) (Obj.cells #[.int .i64 k, .int .i64 0, .string ⟨#[]⟩, .slice none 0 0, .slice none 0 0, .slice none 0 0, .slice none 0 0] 57)
  have hRb := Blk.alloc (Blk.newAt (w.alloc (Obj.cells #[.int .i64 k, .int .i64 n, .string s, .slice a1 l.length c1, .slice a2 cs.length c2, .slice a3 fs.length c3, .slice a4 m.length c4] 57)) 57 #[.int .i64 0, .int .i64 0, .string ⟨#[]⟩, .slice none 0 0, .slice none 0 0, .slice none 0 0, .slice none 0 0] (b := w.heap.size + 1) (by simp)) (Obj.cells #[.int .i64 k, .int .i64 0, .string ⟨#[]⟩, .slice none 0 0, .slice none 0 0, .slice none 0 0, .slice none 0 0] 57)
  have hC := Blk.newAt ((w.alloc (Obj.cells #[.int .i64 k, .int .i64 n, .string s, .slice a1 l.length c1, .slice a2 cs.length c2, .slice a3 fs.length c3, .slice a4 m.length c4] 57)).alloc (Obj.cells #[.int .i64 0, .int .i64 0, .string ⟨#[]⟩, .slice none 0 0, .slice none 0 0, .slice none 0 0, .slice none 0 0] 57)) 57 #[.int .i64 k, .int .i64 0, .string ⟨#[]⟩, .slice none 0 0, .slice none 0 0, .slice none 0 0, .slice none 0 0] (b := w.heap.size + 1 + 1) (by simp)
  have hBl := Below.al (Below.al (Below.al (Below.refl w.heap.size w) (Obj.cells #[.int .i64 k, .int .i64 n, .string s, .slice a1 l.length c1, .slice a2 cs.length c2, .slice a3 fs.length c3, .slice a4 m.length c4] 57)) (Obj.cells #[.int .i64 0, .int .i64 0, .string ⟨#[]⟩, .slice none 0 0, .slice none 0 0, .slice none 0 0, .slice none 0 0] 57)) (Obj.cells #[.int .i64 k, .int .i64 0, .string ⟨#[]⟩, .slice none 0 0, .slice none 0 0, .slice none 0 0, .slice none 0 0] 57)
  obtain ⟨w1, hw1⟩ : ∃ w1, w1 = ((w.alloc (Obj.cells #[.int .i64 k, .int .i64 n, .string s, .slice a1 l.length c1, .slice a2 cs.length c2, .slice a3 fs.length c3, .slice a4 m.length c4] 57)).alloc (Obj.cells #[.int .i64 0, .int .i64 0, .string ⟨#[]⟩, .slice none 0 0, .slice none 0 0, .slice none 0 0, .slice none 0 0] 57)).alloc (Obj.cells #[.int .i64 k, .int .i64 0, .string ⟨#[]⟩, .slice none 0 0, .slice none 0 0, .slice none 0 0, .slice none 0 0] 57) := ⟨_, rfl⟩
  have hs1 : w1.heap.size = w.heap.size + 3 := by rw [hw1]; simp
  rw [← hw1] at hT hRb hC hBl
  have hlt := hx.lt
  have HBK := Lib.hid (And.intro hT (And.intro hRb hC))
  have HX := Lib.hid (hx.below hBl)
  have HK := Lib.hid (KeepB.of (b := some B) hBl)
  have HNB := Lib.hid (fun B' (e : some B = some B') => hlt B' e)
  have HS1 := Lib.hid hs1
  have q0 : w1.cell? ⟨w.heap.size, 0, none⟩ = some (.int .i64 k) := Blk.cell hT 0
  have q1 : w1.cell? ⟨w.heap.size, 1, none⟩ = some (.int .i64 n) := Blk.cell hT 1
  clear hT hRb hC hBl hs1 hlt hx hr
  by_cases k0 : k = 0
  · subst k0
    have HRES := Lib.hid (show takeT x ⟨0, n, s, l, cs, fs, m⟩ = (⟨0, (byteR x : Int), emptyS, [], [], [], []⟩, (takeR x 1).2) from rfl)
    have hm : byteR x < 256 := Nat.mod_lt _ (by decide)
    have hwr : IntKind.i64.wrap ((byteR x : Nat) : Int) = (byteR x : Nat) := IntWalk.i64_in _ (by omega)
    have hwr2 : wrap64 ((byteR x : Nat) : Int) = (byteR x : Nat) := by unfold wrap64; omega
    go_enter Try.func27, Try.ntmps27
    go_upto_region 2 with fail
    rw [← hw1]
    clear hw1
    go_wp2_with fail
    refine (byte66 B x w1 HX.out).mono ?_
    rintro e w2 ⟨rfl, h1, h2⟩
    have hC2 := Blk.keepB HBK.out.2.2 h2 (fun e => by have := HNB.out _ e; omega)
    have hR2 := Blk.keepB HBK.out.2.1 h2 (fun e => by have := HNB.out _ e; omega)
    have f1 : w2.frozen? ⟨w.heap.size + 1 + 1, 1, none⟩ = false := Blk.free hC2 1
    have g1 := Blk.cell hC2 1
    have hC3 := Blk.set hC2 1 (.int .i64 (byteR x : Nat))
    have hR3 := Blk.other hR2 (p := ⟨w.heap.size + 1 + 1, 1, none⟩) (by show w.heap.size + 1 + 1 ≠ w.heap.size + 1; omega) (.int .i64 (byteR x : Nat))
    have HC3 := Lib.hid hC3
    have HR3 := Lib.hid hR3
    have H2 := Lib.hid (And.intro h1 (HK.out.trans h2))
    clear h1 h2 hC2 hR2 hC3 hR3
    go_wp2_with (first | (refine wpList_load_at rfl 57 _ rfl (w.heap.size + 1 + 1) 0 rfl #[.int .i64 0, .int .i64 (byteR x : Nat), .string ⟨#[]⟩, .slice none 0 0, .slice none 0 0, .slice none 0 0, .slice none 0 0] _ (fun j hj => by rw [Nat.zero_add]; exact Blk.cell HC3.out j) Try.underlying57 rfl info57 ?_) | (refine wpList_store_row rfl 57 _ _ rfl (w.heap.size + 1) #[.int .i64 0, .int .i64 (byteR x : Nat), .string ⟨#[]⟩, .slice none 0 0, .slice none 0 0, .slice none 0 0, .slice none 0 0] rfl rfl 57 _ HR3.out info57 rfl (by simp [Value.oneCell']) ?_))
    refine bodyPost_ret (results_cell_row rfl _ _ (w.heap.size + 1) 57 #[.int .i64 0, .int .i64 (byteR x : Nat), .string ⟨#[]⟩, .slice none 0 0, .slice none 0 0, .slice none 0 0, .slice none 0 0] (0, 0) _ rfl (Blk.setRow HR3.out) Try.underlying57 rfl info57) rfl ?_
    refine ⟨⟨.slice none 0 0, .slice none 0 0, .slice none 0 0, .slice none 0 0⟩, by first | (rw [HRES.out]; done) | (rw [HRES.out]; rfl), ?_, ?_, ?_⟩
    · rw [HRES.out]; exact RdQ.setRowO (RdQ.cellO H2.out.1 (fun e => by have h := HNB.out _ e; have h : w.heap.size + 1 + 1 < w.heap.size := h; omega) _) (fun e => by have := HNB.out _ e; omega) _
    · exact KeepB.setRow (KeepB.cell H2.out.2 (show w.heap.size ≤ w.heap.size + 1 + 1 by omega) _) (by omega) _
    · rw [HRES.out]; exact RowsK.nil _ _ _ _ _
  by_cases k1 : k = 1
  · subst k1
    have HRES := Lib.hid (show takeT x ⟨1, n, s, l, cs, fs, m⟩ = (⟨1, intR x, emptyS, [], [], [], []⟩, (takeR x 8).2) from rfl)
    go_enter Try.func27, Try.ntmps27
    go_upto_region 2 with fail
    rw [← hw1]
    clear hw1
    go_wp2_with fail
    refine (int67 B x w1 HX.out).mono ?_
    rintro e w2 ⟨rfl, h1, h2⟩
    have hC2 := Blk.keepB HBK.out.2.2 h2 (fun e => by have := HNB.out _ e; omega)
    have hR2 := Blk.keepB HBK.out.2.1 h2 (fun e => by have := HNB.out _ e; omega)
    have f1 : w2.frozen? ⟨w.heap.size + 1 + 1, 1, none⟩ = false := Blk.free hC2 1
    have g1 := Blk.cell hC2 1
    have hC3 := Blk.set hC2 1 (.int .i64 (intR x))
    have hR3 := Blk.other hR2 (p := ⟨w.heap.size + 1 + 1, 1, none⟩) (by show w.heap.size + 1 + 1 ≠ w.heap.size + 1; omega) (.int .i64 (intR x))
    have HC3 := Lib.hid hC3
    have HR3 := Lib.hid hR3
    have H2 := Lib.hid (And.intro h1 (HK.out.trans h2))
    clear h1 h2 hC2 hR2 hC3 hR3
    go_wp2_with (first | (refine wpList_load_at rfl 57 _ rfl (w.heap.size + 1 + 1) 0 rfl #[.int .i64 1, .int .i64 (intR x), .string ⟨#[]⟩, .slice none 0 0, .slice none 0 0, .slice none 0 0, .slice none 0 0] _ (fun j hj => by rw [Nat.zero_add]; exact Blk.cell HC3.out j) Try.underlying57 rfl info57 ?_) | (refine wpList_store_row rfl 57 _ _ rfl (w.heap.size + 1) #[.int .i64 1, .int .i64 (intR x), .string ⟨#[]⟩, .slice none 0 0, .slice none 0 0, .slice none 0 0, .slice none 0 0] rfl rfl 57 _ HR3.out info57 rfl (by simp [Value.oneCell']) ?_))
    refine bodyPost_ret (results_cell_row rfl _ _ (w.heap.size + 1) 57 #[.int .i64 1, .int .i64 (intR x), .string ⟨#[]⟩, .slice none 0 0, .slice none 0 0, .slice none 0 0, .slice none 0 0] (0, 0) _ rfl (Blk.setRow HR3.out) Try.underlying57 rfl info57) rfl ?_
    refine ⟨⟨.slice none 0 0, .slice none 0 0, .slice none 0 0, .slice none 0 0⟩, by first | (rw [HRES.out]; done) | (rw [HRES.out]; rfl), ?_, ?_, ?_⟩
    · rw [HRES.out]; exact RdQ.setRowO (RdQ.cellO H2.out.1 (fun e => by have h := HNB.out _ e; have h : w.heap.size + 1 + 1 < w.heap.size := h; omega) _) (fun e => by have := HNB.out _ e; omega) _
    · exact KeepB.setRow (KeepB.cell H2.out.2 (show w.heap.size ≤ w.heap.size + 1 + 1 by omega) _) (by omega) _
    · rw [HRES.out]; exact RowsK.nil _ _ _ _ _
  by_cases k2 : k = 2
  · subst k2
    have HRES := Lib.hid (show takeT x ⟨2, n, s, l, cs, fs, m⟩ = (⟨2, (countR x n).1, emptyS, [], [], [], []⟩, (countR x n).2) from rfl)
    go_enter Try.func27, Try.ntmps27
    go_upto_region 2 with fail
    rw [← hw1]
    clear hw1
    go_wp2_with fail
    refine (count68 B x n w1 HX.out).mono ?_
    rintro e w2 ⟨rfl, h1, h2⟩
    have hC2 := Blk.keepB HBK.out.2.2 h2 (fun e => by have := HNB.out _ e; omega)
    have hR2 := Blk.keepB HBK.out.2.1 h2 (fun e => by have := HNB.out _ e; omega)
    have f1 : w2.frozen? ⟨w.heap.size + 1 + 1, 1, none⟩ = false := Blk.free hC2 1
    have g1 := Blk.cell hC2 1
    have hC3 := Blk.set hC2 1 (.int .i64 (countR x n).1)
    have hR3 := Blk.other hR2 (p := ⟨w.heap.size + 1 + 1, 1, none⟩) (by show w.heap.size + 1 + 1 ≠ w.heap.size + 1; omega) (.int .i64 (countR x n).1)
    have HC3 := Lib.hid hC3
    have HR3 := Lib.hid hR3
    have H2 := Lib.hid (And.intro h1 (HK.out.trans h2))
    clear h1 h2 hC2 hR2 hC3 hR3
    go_wp2_with (first | (refine wpList_load_at rfl 57 _ rfl (w.heap.size + 1 + 1) 0 rfl #[.int .i64 2, .int .i64 (countR x n).1, .string ⟨#[]⟩, .slice none 0 0, .slice none 0 0, .slice none 0 0, .slice none 0 0] _ (fun j hj => by rw [Nat.zero_add]; exact Blk.cell HC3.out j) Try.underlying57 rfl info57 ?_) | (refine wpList_store_row rfl 57 _ _ rfl (w.heap.size + 1) #[.int .i64 2, .int .i64 (countR x n).1, .string ⟨#[]⟩, .slice none 0 0, .slice none 0 0, .slice none 0 0, .slice none 0 0] rfl rfl 57 _ HR3.out info57 rfl (by simp [Value.oneCell']) ?_))
    refine bodyPost_ret (results_cell_row rfl _ _ (w.heap.size + 1) 57 #[.int .i64 2, .int .i64 (countR x n).1, .string ⟨#[]⟩, .slice none 0 0, .slice none 0 0, .slice none 0 0, .slice none 0 0] (0, 0) _ rfl (Blk.setRow HR3.out) Try.underlying57 rfl info57) rfl ?_
    refine ⟨⟨.slice none 0 0, .slice none 0 0, .slice none 0 0, .slice none 0 0⟩, by first | (rw [HRES.out]; done) | (rw [HRES.out]; rfl), ?_, ?_, ?_⟩
    · rw [HRES.out]; exact RdQ.setRowO (RdQ.cellO H2.out.1 (fun e => by have h := HNB.out _ e; have h : w.heap.size + 1 + 1 < w.heap.size := h; omega) _) (fun e => by have := HNB.out _ e; omega) _
    · exact KeepB.setRow (KeepB.cell H2.out.2 (show w.heap.size ≤ w.heap.size + 1 + 1 by omega) _) (by omega) _
    · rw [HRES.out]; exact RowsK.nil _ _ _ _ _
  by_cases k3 : k = 3
  · subst k3
    have HRES := Lib.hid (show takeT x ⟨3, n, s, l, cs, fs, m⟩ = (⟨3, 0, (textR x).1, [], [], [], []⟩, (textR x).2) from rfl)
    go_enter Try.func27, Try.ntmps27
    go_upto_region 2 with fail
    rw [← hw1]
    clear hw1
    go_wp2_with fail
    refine (text69 B x w1 HX.out).mono ?_
    rintro e w2 ⟨rfl, h1, h2⟩
    have hC2 := Blk.keepB HBK.out.2.2 h2 (fun e => by have := HNB.out _ e; omega)
    have hR2 := Blk.keepB HBK.out.2.1 h2 (fun e => by have := HNB.out _ e; omega)
    have f1 : w2.frozen? ⟨w.heap.size + 1 + 1, 2, none⟩ = false := Blk.free hC2 2
    have g1 := Blk.cell hC2 2
    have hC3 := Blk.set hC2 2 (.string (textR x).1)
    have hR3 := Blk.other hR2 (p := ⟨w.heap.size + 1 + 1, 2, none⟩) (by show w.heap.size + 1 + 1 ≠ w.heap.size + 1; omega) (.string (textR x).1)
    have HC3 := Lib.hid hC3
    have HR3 := Lib.hid hR3
    have H2 := Lib.hid (And.intro h1 (HK.out.trans h2))
    clear h1 h2 hC2 hR2 hC3 hR3
    go_wp2_with (first | (refine wpList_load_at rfl 57 _ rfl (w.heap.size + 1 + 1) 0 rfl #[.int .i64 3, .int .i64 0, .string (textR x).1, .slice none 0 0, .slice none 0 0, .slice none 0 0, .slice none 0 0] _ (fun j hj => by rw [Nat.zero_add]; exact Blk.cell HC3.out j) Try.underlying57 rfl info57 ?_) | (refine wpList_store_row rfl 57 _ _ rfl (w.heap.size + 1) #[.int .i64 3, .int .i64 0, .string (textR x).1, .slice none 0 0, .slice none 0 0, .slice none 0 0, .slice none 0 0] rfl rfl 57 _ HR3.out info57 rfl (by simp [Value.oneCell']) ?_))
    refine bodyPost_ret (results_cell_row rfl _ _ (w.heap.size + 1) 57 #[.int .i64 3, .int .i64 0, .string (textR x).1, .slice none 0 0, .slice none 0 0, .slice none 0 0, .slice none 0 0] (0, 0) _ rfl (Blk.setRow HR3.out) Try.underlying57 rfl info57) rfl ?_
    refine ⟨⟨.slice none 0 0, .slice none 0 0, .slice none 0 0, .slice none 0 0⟩, by first | (rw [HRES.out]; done) | (rw [HRES.out]; rfl), ?_, ?_, ?_⟩
    · rw [HRES.out]; exact RdQ.setRowO (RdQ.cellO H2.out.1 (fun e => by have h := HNB.out _ e; have h : w.heap.size + 1 + 1 < w.heap.size := h; omega) _) (fun e => by have := HNB.out _ e; omega) _
    · exact KeepB.setRow (KeepB.cell H2.out.2 (show w.heap.size ≤ w.heap.size + 1 + 1 by omega) _) (by omega) _
    · rw [HRES.out]; exact RowsK.nil _ _ _ _ _
  by_cases k4 : k = 4
  · subst k4
    have HRES := Lib.hid (show takeT x ⟨4, n, s, l, cs, fs, m⟩ = (⟨4, 0, emptyS, (sevR textR 4 x).1, [], [], []⟩, (sevR textR 4 x).2) from rfl)
    go_enter Try.func27, Try.ntmps27
    go_upto_region 2 with fail
    rw [← hw1]
    clear hw1
    go_wp2_with fail
    refine (sev70 B x w1 HX.out).mono ?_
    rintro e w2 ⟨v, rfl, h1, h2, h3, h4, -⟩
    obtain ⟨av, cv, rfl, -⟩ := RowS.open h3
    have hC2 := Blk.keepB HBK.out.2.2 h2 (fun e => by have := HNB.out _ e; omega)
    have hR2 := Blk.keepB HBK.out.2.1 h2 (fun e => by have := HNB.out _ e; omega)
    have f1 : w2.frozen? ⟨w.heap.size + 1 + 1, 3, none⟩ = false := Blk.free hC2 3
    have g1 := Blk.cell hC2 3
    have HC3 := Lib.hid (Blk.set hC2 3 (.slice av (sevR textR 4 x).1.length cv))
    have HR3 := Lib.hid (Blk.other hR2 (p := ⟨w.heap.size + 1 + 1, 3, none⟩) (by show w.heap.size + 1 + 1 ≠ w.heap.size + 1; omega) (.slice av (sevR textR 4 x).1.length cv))
    have H2 := Lib.hid (And.intro h1 (HK.out.trans h2))
    have H3 := Lib.hid (And.intro h3 h4)
    clear h1 h2 h3 h4 hC2 hR2
    go_wp2_with (first | (refine wpList_load_at rfl 57 _ rfl (w.heap.size + 1 + 1) 0 rfl #[.int .i64 4, .int .i64 0, .string ⟨#[]⟩, .slice av (sevR textR 4 x).1.length cv, .slice none 0 0, .slice none 0 0, .slice none 0 0] _ (fun j hj => by rw [Nat.zero_add]; exact Blk.cell HC3.out j) Try.underlying57 rfl info57 ?_) | (refine wpList_store_row rfl 57 _ _ rfl (w.heap.size + 1) #[.int .i64 4, .int .i64 0, .string ⟨#[]⟩, .slice av (sevR textR 4 x).1.length cv, .slice none 0 0, .slice none 0 0, .slice none 0 0] rfl rfl 57 _ HR3.out info57 rfl (by simp [Value.oneCell']) ?_))
    refine bodyPost_ret (results_cell_row rfl _ _ (w.heap.size + 1) 57 #[.int .i64 4, .int .i64 0, .string ⟨#[]⟩, .slice av (sevR textR 4 x).1.length cv, .slice none 0 0, .slice none 0 0, .slice none 0 0] (0, 0) _ rfl (Blk.setRow HR3.out) Try.underlying57 rfl info57) rfl ?_
    refine ⟨⟨.slice av (sevR textR 4 x).1.length cv, .slice none 0 0, .slice none 0 0, .slice none 0 0⟩, by first | (rw [HRES.out]; done) | (rw [HRES.out]; rfl), ?_, ?_, ?_⟩
    · rw [HRES.out]; exact RdQ.setRowO (RdQ.cellO H2.out.1 (fun e => by have h := HNB.out _ e; have h : w.heap.size + 1 + 1 < w.heap.size := h; omega) _) (fun e => by have := HNB.out _ e; omega) _
    · exact KeepB.setRow (KeepB.cell H2.out.2 (show w.heap.size ≤ w.heap.size + 1 + 1 by omega) _) (by omega) _
    · rw [HRES.out]
      have k1 := Row.keepB H3.out.1 H3.out.2 ((KeepB.refl (some (w.heap.size + 1 + 1)) w2).set 3 (.slice av (sevR textR 4 x).1.length cv)) (fun B e => by cases e; have := HS1.out; omega)
      have k2 := Row.keepB k1 H3.out.2 (KeepB.row _ (w.heap.size + 1) #[.int .i64 4, .int .i64 0, .string ⟨#[]⟩, .slice av (sevR textR 4 x).1.length cv, .slice none 0 0, .slice none 0 0, .slice none 0 0]) (fun B e => by cases e; have := HS1.out; omega)
      have HROW := Lib.hid (And.intro k2 (H3.out.2.mono (show w.heap.size ≤ w1.heap.size by have := HS1.out; omega)))
      exact ⟨HROW.out, ⟨RowR.nil _ _ _ _, New.nil _⟩, RowsFs.nil _ _, ⟨RowS.nil _ _, New.nil _⟩⟩
  by_cases k5 : k = 5
  · subst k5
    have HRES := Lib.hid (show takeT x ⟨5, n, s, l, cs, fs, m⟩ = (⟨5, 0, emptyS, [], [(cellR x).1], [], []⟩, (cellR x).2) from rfl)
    go_enter Try.func27, Try.ntmps27
    go_upto_region 2 with fail
    rw [← hw1]
    clear hw1
    go_wp2_with fail
    refine (cell71 B x w1 HX.out).mono ?_
    rintro e w2 ⟨rfl, h1, h2⟩
    have h3 := True.intro
    generalize (cellR x).1 = cc at *
    obtain ⟨ca, cb, ct⟩ := cc
    unfold cellV
    have hC2 := Blk.keepB HBK.out.2.2 h2 (fun e => by have := HNB.out _ e; omega)
    have hR2 := Blk.keepB HBK.out.2.1 h2 (fun e => by have := HNB.out _ e; omega)
    have hs2 := h2.size
    have hBl := Below.al (Below.refl w2.heap.size w2) (Obj.cells #[.int .i64 ca, .int .i64 cb, .string ct] 92)
    have hD := Blk.new w2 92 #[.int .i64 ca, .int .i64 cb, .string ct]
    have hC3 := Blk.below hC2 hBl hC2.lt
    have hR3 := Blk.below hR2 hBl hR2.lt
    have r0 := Lib.hid (And.intro (RowR.one 3 cellC ⟨ca, cb, ct⟩ hD (fun j hj => by match j, hj with | 0, _ => rfl | 1, _ => rfl | 2, _ => rfl)) (show New w1.heap.size (.slice (some ⟨w2.heap.size, 0, none⟩) 1 1) from fun g e => by cases e; exact hs2))
    have f1 : (w2.alloc (Obj.cells #[.int .i64 ca, .int .i64 cb, .string ct] 92)).frozen? ⟨w.heap.size + 1 + 1, 4, none⟩ = false := Blk.free hC3 4
    have g1 := Blk.cell hC3 4
    have HC3 := Lib.hid (Blk.set hC3 4 (.slice (some ⟨w2.heap.size, 0, none⟩) 1 1))
    have HR3 := Lib.hid (Blk.other hR3 (p := ⟨w.heap.size + 1 + 1, 4, none⟩) (by show w.heap.size + 1 + 1 ≠ w.heap.size + 1; omega) (.slice (some ⟨w2.heap.size, 0, none⟩) 1 1))
    have H2 := Lib.hid (And.intro (RdQ.below h1 hBl) ((HK.out.trans h2).call hBl))
    clear h1 h2 h3 hC2 hR2 hC3 hR3 hD hBl
    go_wp2_with (first | (refine wpList_load_at rfl 57 _ rfl (w.heap.size + 1 + 1) 0 rfl #[.int .i64 5, .int .i64 0, .string ⟨#[]⟩, .slice none 0 0, .slice (some ⟨w2.heap.size, 0, none⟩) 1 1, .slice none 0 0, .slice none 0 0] _ (fun j hj => by rw [Nat.zero_add]; exact Blk.cell HC3.out j) Try.underlying57 rfl info57 ?_) | (refine wpList_store_row rfl 57 _ _ rfl (w.heap.size + 1) #[.int .i64 5, .int .i64 0, .string ⟨#[]⟩, .slice none 0 0, .slice (some ⟨w2.heap.size, 0, none⟩) 1 1, .slice none 0 0, .slice none 0 0] rfl rfl 57 _ HR3.out info57 rfl (by simp [Value.oneCell']) ?_))
    refine bodyPost_ret (results_cell_row rfl _ _ (w.heap.size + 1) 57 #[.int .i64 5, .int .i64 0, .string ⟨#[]⟩, .slice none 0 0, .slice (some ⟨w2.heap.size, 0, none⟩) 1 1, .slice none 0 0, .slice none 0 0] (0, 0) _ rfl (Blk.setRow HR3.out) Try.underlying57 rfl info57) rfl ?_
    refine ⟨⟨.slice none 0 0, .slice (some ⟨w2.heap.size, 0, none⟩) 1 1, .slice none 0 0, .slice none 0 0⟩, by first | (rw [HRES.out]; done) | (rw [HRES.out]; rfl), ?_, ?_, ?_⟩
    · rw [HRES.out]; exact RdQ.setRowO (RdQ.cellO H2.out.1 (fun e => by have h := HNB.out _ e; have h : w.heap.size + 1 + 1 < w.heap.size := h; omega) _) (fun e => by have := HNB.out _ e; omega) _
    · exact KeepB.setRow (KeepB.cell H2.out.2 (show w.heap.size ≤ w.heap.size + 1 + 1 by omega) _) (by omega) _
    · rw [HRES.out]
      have k1 := RowR.keepB r0.out.1 r0.out.2 ((KeepB.refl (some (w.heap.size + 1 + 1)) (w2.alloc (Obj.cells #[.int .i64 ca, .int .i64 cb, .string ct] 92))).set 4 (.slice (some ⟨w2.heap.size, 0, none⟩) 1 1)) (fun B e => by cases e; have := HS1.out; omega)
      have k2 := RowR.keepB k1 r0.out.2 (KeepB.row _ (w.heap.size + 1) #[.int .i64 5, .int .i64 0, .string ⟨#[]⟩, .slice none 0 0, .slice (some ⟨w2.heap.size, 0, none⟩) 1 1, .slice none 0 0, .slice none 0 0]) (fun B e => by cases e; have := HS1.out; omega)
      exact ⟨⟨RowS.nil _ _, New.nil _⟩, ⟨k2, r0.out.2.mono (show w.heap.size ≤ w1.heap.size by have := HS1.out; omega)⟩, RowsFs.nil _ _, ⟨RowS.nil _ _, New.nil _⟩⟩
  by_cases k6 : k = 6
  · subst k6
    have HRES := Lib.hid (show takeT x ⟨6, n, s, l, cs, fs, m⟩ = (⟨6, 0, emptyS, [], (sevR cellR 1 x).1, [], []⟩, (sevR cellR 1 x).2) from rfl)
    go_enter Try.func27, Try.ntmps27
    go_upto_region 2 with fail
    rw [← hw1]
    clear hw1
    go_wp2_with fail
    refine (sev72 B x w1 HX.out).mono ?_
    rintro e w2 ⟨v, rfl, h1, h2, h3, h4, -⟩
    obtain ⟨av, cv, rfl, -⟩ := id h3
    have hC2 := Blk.keepB HBK.out.2.2 h2 (fun e => by have := HNB.out _ e; omega)
    have hR2 := Blk.keepB HBK.out.2.1 h2 (fun e => by have := HNB.out _ e; omega)
    have f1 : w2.frozen? ⟨w.heap.size + 1 + 1, 4, none⟩ = false := Blk.free hC2 4
    have g1 := Blk.cell hC2 4
    have HC3 := Lib.hid (Blk.set hC2 4 (.slice av (sevR cellR 1 x).1.length cv))
    have HR3 := Lib.hid (Blk.other hR2 (p := ⟨w.heap.size + 1 + 1, 4, none⟩) (by show w.heap.size + 1 + 1 ≠ w.heap.size + 1; omega) (.slice av (sevR cellR 1 x).1.length cv))
    have H2 := Lib.hid (And.intro h1 (HK.out.trans h2))
    have H3 := Lib.hid (And.intro h3 h4)
    clear h1 h2 h3 h4 hC2 hR2
    go_wp2_with (first | (refine wpList_load_at rfl 57 _ rfl (w.heap.size + 1 + 1) 0 rfl #[.int .i64 6, .int .i64 0, .string ⟨#[]⟩, .slice none 0 0, .slice av (sevR cellR 1 x).1.length cv, .slice none 0 0, .slice none 0 0] _ (fun j hj => by rw [Nat.zero_add]; exact Blk.cell HC3.out j) Try.underlying57 rfl info57 ?_) | (refine wpList_store_row rfl 57 _ _ rfl (w.heap.size + 1) #[.int .i64 6, .int .i64 0, .string ⟨#[]⟩, .slice none 0 0, .slice av (sevR cellR 1 x).1.length cv, .slice none 0 0, .slice none 0 0] rfl rfl 57 _ HR3.out info57 rfl (by simp [Value.oneCell']) ?_))
    refine bodyPost_ret (results_cell_row rfl _ _ (w.heap.size + 1) 57 #[.int .i64 6, .int .i64 0, .string ⟨#[]⟩, .slice none 0 0, .slice av (sevR cellR 1 x).1.length cv, .slice none 0 0, .slice none 0 0] (0, 0) _ rfl (Blk.setRow HR3.out) Try.underlying57 rfl info57) rfl ?_
    refine ⟨⟨.slice none 0 0, .slice av (sevR cellR 1 x).1.length cv, .slice none 0 0, .slice none 0 0⟩, by first | (rw [HRES.out]; done) | (rw [HRES.out]; rfl), ?_, ?_, ?_⟩
    · rw [HRES.out]; exact RdQ.setRowO (RdQ.cellO H2.out.1 (fun e => by have h := HNB.out _ e; have h : w.heap.size + 1 + 1 < w.heap.size := h; omega) _) (fun e => by have := HNB.out _ e; omega) _
    · exact KeepB.setRow (KeepB.cell H2.out.2 (show w.heap.size ≤ w.heap.size + 1 + 1 by omega) _) (by omega) _
    · rw [HRES.out]
      have k1 := RowR.keepB H3.out.1 H3.out.2 ((KeepB.refl (some (w.heap.size + 1 + 1)) w2).set 4 (.slice av (sevR cellR 1 x).1.length cv)) (fun B e => by cases e; have := HS1.out; omega)
      have k2 := RowR.keepB k1 H3.out.2 (KeepB.row _ (w.heap.size + 1) #[.int .i64 6, .int .i64 0, .string ⟨#[]⟩, .slice none 0 0, .slice av (sevR cellR 1 x).1.length cv, .slice none 0 0, .slice none 0 0]) (fun B e => by cases e; have := HS1.out; omega)
      have HROW := Lib.hid (And.intro k2 (H3.out.2.mono (show w.heap.size ≤ w1.heap.size by have := HS1.out; omega)))
      exact ⟨⟨RowS.nil _ _, New.nil _⟩, HROW.out, RowsFs.nil _ _, ⟨RowS.nil _ _, New.nil _⟩⟩
  by_cases k7 : k = 7
  · subst k7
    have HRES := Lib.hid (show takeT x ⟨7, n, s, l, cs, fs, m⟩ = (⟨7, 0, emptyS, [], [], [(factR x).1], []⟩, (factR x).2) from rfl)
    go_enter Try.func27, Try.ntmps27
    go_upto_region 2 with fail
    rw [← hw1]
    clear hw1
    go_wp2_with fail
    refine (fact73 B x w1 HX.out).mono ?_
    rintro e w2 ⟨vd, vm, rfl, h1, h2, h3⟩
    generalize (factR x).1 = cc at *
    have hC2 := Blk.keepB HBK.out.2.2 h2 (fun e => by have := HNB.out _ e; omega)
    have hR2 := Blk.keepB HBK.out.2.1 h2 (fun e => by have := HNB.out _ e; omega)
    have hs2 := h2.size
    have hBl := Below.al (Below.refl w2.heap.size w2) (Obj.cells #[vd, vm] 98)
    have hD := Blk.new w2 98 #[vd, vm]
    have hC3 := Blk.below hC2 hBl hC2.lt
    have hR3 := Blk.below hR2 hBl hR2.lt
    have r0 := Lib.hid (RowsFs.one (cc, vd, vm) hD (h3.keepB (KeepB.of (b := none) hBl) (fun B e => by cases e)) hs2)
    have f1 : (w2.alloc (Obj.cells #[vd, vm] 98)).frozen? ⟨w.heap.size + 1 + 1, 5, none⟩ = false := Blk.free hC3 5
    have g1 := Blk.cell hC3 5
    have HC3 := Lib.hid (Blk.set hC3 5 (.slice (some ⟨w2.heap.size, 0, none⟩) 1 1))
    have HR3 := Lib.hid (Blk.other hR3 (p := ⟨w.heap.size + 1 + 1, 5, none⟩) (by show w.heap.size + 1 + 1 ≠ w.heap.size + 1; omega) (.slice (some ⟨w2.heap.size, 0, none⟩) 1 1))
    have H2 := Lib.hid (And.intro (RdQ.below h1 hBl) ((HK.out.trans h2).call hBl))
    clear h1 h2 h3 hC2 hR2 hC3 hR3 hD hBl
    go_wp2_with (first | (refine wpList_load_at rfl 57 _ rfl (w.heap.size + 1 + 1) 0 rfl #[.int .i64 7, .int .i64 0, .string ⟨#[]⟩, .slice none 0 0, .slice none 0 0, .slice (some ⟨w2.heap.size, 0, none⟩) 1 1, .slice none 0 0] _ (fun j hj => by rw [Nat.zero_add]; exact Blk.cell HC3.out j) Try.underlying57 rfl info57 ?_) | (refine wpList_store_row rfl 57 _ _ rfl (w.heap.size + 1) #[.int .i64 7, .int .i64 0, .string ⟨#[]⟩, .slice none 0 0, .slice none 0 0, .slice (some ⟨w2.heap.size, 0, none⟩) 1 1, .slice none 0 0] rfl rfl 57 _ HR3.out info57 rfl (by simp [Value.oneCell']) ?_))
    refine bodyPost_ret (results_cell_row rfl _ _ (w.heap.size + 1) 57 #[.int .i64 7, .int .i64 0, .string ⟨#[]⟩, .slice none 0 0, .slice none 0 0, .slice (some ⟨w2.heap.size, 0, none⟩) 1 1, .slice none 0 0] (0, 0) _ rfl (Blk.setRow HR3.out) Try.underlying57 rfl info57) rfl ?_
    refine ⟨⟨.slice none 0 0, .slice none 0 0, .slice (some ⟨w2.heap.size, 0, none⟩) 1 1, .slice none 0 0⟩, by first | (rw [HRES.out]; done) | (rw [HRES.out]; rfl), ?_, ?_, ?_⟩
    · rw [HRES.out]; exact RdQ.setRowO (RdQ.cellO H2.out.1 (fun e => by have h := HNB.out _ e; have h : w.heap.size + 1 + 1 < w.heap.size := h; omega) _) (fun e => by have := HNB.out _ e; omega) _
    · exact KeepB.setRow (KeepB.cell H2.out.2 (show w.heap.size ≤ w.heap.size + 1 + 1 by omega) _) (by omega) _
    · rw [HRES.out]
      have k1 := RowsFs.keepB r0.out ((KeepB.refl (some (w.heap.size + 1 + 1)) (w2.alloc (Obj.cells #[vd, vm] 98))).set 5 (.slice (some ⟨w2.heap.size, 0, none⟩) 1 1)) (fun B e => by cases e; have := HS1.out; omega)
      have k2 := RowsFs.keepB k1 (KeepB.row _ (w.heap.size + 1) #[.int .i64 7, .int .i64 0, .string ⟨#[]⟩, .slice none 0 0, .slice none 0 0, .slice (some ⟨w2.heap.size, 0, none⟩) 1 1, .slice none 0 0]) (fun B e => by cases e; have := HS1.out; omega)
      exact ⟨⟨RowS.nil _ _, New.nil _⟩, ⟨RowR.nil _ _ _ _, New.nil _⟩, k2.mono (show w.heap.size ≤ w1.heap.size by have := HS1.out; omega), ⟨RowS.nil _ _, New.nil _⟩⟩
  by_cases k8 : k = 8
  · subst k8
    have HRES := Lib.hid (show takeT x ⟨8, n, s, l, cs, fs, m⟩ = (⟨8, 0, emptyS, [], [], (sevR factR 8 x).1, []⟩, (sevR factR 8 x).2) from rfl)
    go_enter Try.func27, Try.ntmps27
    go_upto_region 2 with fail
    rw [← hw1]
    clear hw1
    go_wp2_with fail
    refine (sev74 B x w1 HX.out).mono ?_
    rintro e w2 ⟨v, rfl, h1, h2, h3⟩
    obtain ⟨av, cv, rfl, -⟩ := (show ∃ a c, v = .slice a (sevR factR 8 x).1.length c ∧ True by obtain ⟨ps, e1, ⟨a, c, e2, -⟩, -⟩ := h3; exact ⟨a, c, by rw [e2, e1, List.length_map], trivial⟩)
    have hC2 := Blk.keepB HBK.out.2.2 h2 (fun e => by have := HNB.out _ e; omega)
    have hR2 := Blk.keepB HBK.out.2.1 h2 (fun e => by have := HNB.out _ e; omega)
    have f1 : w2.frozen? ⟨w.heap.size + 1 + 1, 5, none⟩ = false := Blk.free hC2 5
    have g1 := Blk.cell hC2 5
    have HC3 := Lib.hid (Blk.set hC2 5 (.slice av (sevR factR 8 x).1.length cv))
    have HR3 := Lib.hid (Blk.other hR2 (p := ⟨w.heap.size + 1 + 1, 5, none⟩) (by show w.heap.size + 1 + 1 ≠ w.heap.size + 1; omega) (.slice av (sevR factR 8 x).1.length cv))
    have H2 := Lib.hid (And.intro h1 (HK.out.trans h2))
    have H3 := Lib.hid (And.intro h3 trivial)
    clear h1 h2 h3 hC2 hR2
    go_wp2_with (first | (refine wpList_load_at rfl 57 _ rfl (w.heap.size + 1 + 1) 0 rfl #[.int .i64 8, .int .i64 0, .string ⟨#[]⟩, .slice none 0 0, .slice none 0 0, .slice av (sevR factR 8 x).1.length cv, .slice none 0 0] _ (fun j hj => by rw [Nat.zero_add]; exact Blk.cell HC3.out j) Try.underlying57 rfl info57 ?_) | (refine wpList_store_row rfl 57 _ _ rfl (w.heap.size + 1) #[.int .i64 8, .int .i64 0, .string ⟨#[]⟩, .slice none 0 0, .slice none 0 0, .slice av (sevR factR 8 x).1.length cv, .slice none 0 0] rfl rfl 57 _ HR3.out info57 rfl (by simp [Value.oneCell']) ?_))
    refine bodyPost_ret (results_cell_row rfl _ _ (w.heap.size + 1) 57 #[.int .i64 8, .int .i64 0, .string ⟨#[]⟩, .slice none 0 0, .slice none 0 0, .slice av (sevR factR 8 x).1.length cv, .slice none 0 0] (0, 0) _ rfl (Blk.setRow HR3.out) Try.underlying57 rfl info57) rfl ?_
    refine ⟨⟨.slice none 0 0, .slice none 0 0, .slice av (sevR factR 8 x).1.length cv, .slice none 0 0⟩, by first | (rw [HRES.out]; done) | (rw [HRES.out]; rfl), ?_, ?_, ?_⟩
    · rw [HRES.out]; exact RdQ.setRowO (RdQ.cellO H2.out.1 (fun e => by have h := HNB.out _ e; have h : w.heap.size + 1 + 1 < w.heap.size := h; omega) _) (fun e => by have := HNB.out _ e; omega) _
    · exact KeepB.setRow (KeepB.cell H2.out.2 (show w.heap.size ≤ w.heap.size + 1 + 1 by omega) _) (by omega) _
    · rw [HRES.out]
      have k1 := RowsFs.keepB H3.out.1 ((KeepB.refl (some (w.heap.size + 1 + 1)) w2).set 5 (.slice av (sevR factR 8 x).1.length cv)) (fun B e => by cases e; have := HS1.out; omega)
      have k2 := RowsFs.keepB k1 (KeepB.row _ (w.heap.size + 1) #[.int .i64 8, .int .i64 0, .string ⟨#[]⟩, .slice none 0 0, .slice none 0 0, .slice av (sevR factR 8 x).1.length cv, .slice none 0 0]) (fun B e => by cases e; have := HS1.out; omega)
      have HROW := Lib.hid (k2.mono (show w.heap.size ≤ w1.heap.size by have := HS1.out; omega))
      exact ⟨⟨RowS.nil _ _, New.nil _⟩, ⟨RowR.nil _ _ _ _, New.nil _⟩, HROW.out, ⟨RowS.nil _ _, New.nil _⟩⟩
  have d0 : (k == 0) = false := by simpa using k0
  have d1 : (k == 1) = false := by simpa using k1
  have d2 : (k == 2) = false := by simpa using k2
  have d3 : (k == 3) = false := by simpa using k3
  have d4 : (k == 4) = false := by simpa using k4
  have d5 : (k == 5) = false := by simpa using k5
  have d6 : (k == 6) = false := by simpa using k6
  have d7 : (k == 7) = false := by simpa using k7
  have d8 : (k == 8) = false := by simpa using k8
  have HRES := Lib.hid (show takeT x ⟨k, n, s, l, cs, fs, m⟩ = (⟨k, 0, emptyS, (schemaR x).1.dims, [], [], (schemaR x).1.meas⟩, (schemaR x).2) by unfold takeT; rw [if_neg k0, if_neg k1, if_neg k2, if_neg k3, if_neg k4, if_neg k5, if_neg k6, if_neg k7, if_neg k8])
  have HSC := Lib.hid (show schemaR x = (if (sevR textR 4 (sevR textR 4 x).2).2.e = 0 then ⟨(sevR textR 4 x).1, (sevR textR 4 (sevR textR 4 x).2).1⟩ else schema0, (sevR textR 4 (sevR textR 4 x).2).2) from rfl)
  have HT1 := Lib.hid (sev70 B x w1 HX.out)
  generalize sevR textR 4 x = s1 at *
  obtain ⟨L1, y⟩ := s1
  have HT2 := Lib.hid (fun w h => sev70 B y w h)
  have hnil : (sevR textR 4 y).2.e ≠ 0 → (sevR textR 4 y).1 = [] := fun h => if_neg h
  generalize sevR textR 4 y = s2 at *
  obtain ⟨L2, z⟩ := s2
  simp only at HT1 HT2 HSC hnil
  have HNIL := Lib.hid hnil
  clear hnil
  go_enter Try.func27, Try.ntmps27
  go_upto_region 2 with fail
  rw [← hw1]
  clear hw1
  go_wp2_with fail
  refine HT1.out.mono ?_
  rintro e w2 ⟨v1, rfl, h1, h2, h3, h4, -⟩
  obtain ⟨av, cv, rfl, -⟩ := RowS.open h3
  have hC2 := Blk.keepB HBK.out.2.2 h2 (fun e => by have := HNB.out _ e; omega)
  have hR2 := Blk.keepB HBK.out.2.1 h2 (fun e => by have := HNB.out _ e; omega)
  have f1 : w2.frozen? ⟨w.heap.size + 1 + 1, 3, none⟩ = false := Blk.free hC2 3
  have g1 := Blk.cell hC2 3
  go_upto_region 4 with fail
  have hC3 := Blk.set hC2 3 (.slice av L1.length cv)
  have hR3 := Blk.other hR2 (p := ⟨w.heap.size + 1 + 1, 3, none⟩) (by show w.heap.size + 1 + 1 ≠ w.heap.size + 1; omega) (.slice av L1.length cv)
  have hX3 := RdQ.cellO h1 (p := ⟨w.heap.size + 1 + 1, 3, none⟩) (fun e => by have h := HNB.out _ e; have h : w.heap.size + 1 + 1 < w.heap.size := h; omega) (.slice av L1.length cv)
  have hK3 := KeepB.cell (HK.out.trans h2) (p := ⟨w.heap.size + 1 + 1, 3, none⟩) (show w.heap.size ≤ w.heap.size + 1 + 1 by omega) (.slice av L1.length cv)
  have hL3 := Row.keepB h3 h4 ((KeepB.refl (some (w.heap.size + 1 + 1)) w2).set 3 (.slice av L1.length cv)) (fun B e => by cases e; have := HS1.out; omega)
  obtain ⟨w3, hw3⟩ : ∃ w3, w3 = w2.setCell ⟨w.heap.size + 1 + 1, 3, none⟩ (.slice av L1.length cv) := ⟨_, rfl⟩
  rw [← hw3] at hC3 hR3 hX3 hK3 hL3 ⊢
  clear hw3 f1 g1 hC2 hR2 h1 h2 h3
  have HT2 := Lib.hid (HT2.out w3 hX3)
  have HBK3 := Lib.hid (And.intro hC3 hR3)
  have HL3 := Lib.hid (And.intro hL3 h4)
  have HK3 := Lib.hid hK3
  have HB3 := Lib.hid (show ∀ B', some B = some B' → B' < w1.heap.size from fun B' e => by have := HNB.out _ e; have := HS1.out; omega)
  clear hC3 hR3 hX3 hK3 hL3 h4 HT1
  go_wp2_with fail
  refine HT2.out.mono ?_
  rintro e w4 ⟨v2, rfl, h1, h2, h3, h4, -⟩
  obtain ⟨am, cm, rfl, -⟩ := RowS.open h3
  have hC4 := Blk.keepB HBK3.out.1 h2 (fun e => by have := HNB.out _ e; omega)
  have hR4 := Blk.keepB HBK3.out.2 h2 (fun e => by have := HNB.out _ e; omega)
  have hL4 := Row.keepB HL3.out.1 HL3.out.2 h2 HB3.out
  have f1 : w4.frozen? ⟨w.heap.size + 1 + 1, 6, none⟩ = false := Blk.free hC4 6
  have g1 := Blk.cell hC4 6
  have hs3 : w.heap.size + 3 ≤ w3.heap.size := by have h1 := HK3.out.size; have h2 := HBK3.out.1.lt; omega
  go_upto_region 5 with fail
  have hC5 := Blk.set hC4 6 (.slice am L2.length cm)
  have hR5 := Blk.other hR4 (p := ⟨w.heap.size + 1 + 1, 6, none⟩) (by show w.heap.size + 1 + 1 ≠ w.heap.size + 1; omega) (.slice am L2.length cm)
  have hX5 := RdQ.cellO h1 (p := ⟨w.heap.size + 1 + 1, 6, none⟩) (fun e => by have h := HNB.out _ e; have h : w.heap.size + 1 + 1 < w.heap.size := h; omega) (.slice am L2.length cm)
  have hK5 := KeepB.cell (HK3.out.trans h2) (p := ⟨w.heap.size + 1 + 1, 6, none⟩) (show w.heap.size ≤ w.heap.size + 1 + 1 by omega) (.slice am L2.length cm)
  have hL5 := Row.keepB hL4 HL3.out.2 ((KeepB.refl (some (w.heap.size + 1 + 1)) w4).set 6 (.slice am L2.length cm)) (fun B e => by cases e; have := HS1.out; omega)
  have hM5 := Row.keepB h3 h4 ((KeepB.refl (some (w.heap.size + 1 + 1)) w4).set 6 (.slice am L2.length cm)) (fun B e => by cases e; omega)
  obtain ⟨w5, hw5⟩ : ∃ w5, w5 = w4.setCell ⟨w.heap.size + 1 + 1, 6, none⟩ (.slice am L2.length cm) := ⟨_, rfl⟩
  rw [← hw5] at hC5 hR5 hX5 hK5 hL5 hM5 ⊢
  clear hw5 f1 g1 hC4 hR4 h1 h2 h3 hL4
  have HM5 := Lib.hid (And.intro hM5 h4)
  have HL5 := Lib.hid hL5
  have HX5 := Lib.hid (And.intro hX5 hK5)
  have c1 : w5.cell? ⟨B, 1, none⟩ = some (.int .i64 z.e) := Blk.cell hX5.blk 1
  have HS3 := Lib.hid hs3
  clear hM5 h4 hL5 hX5 hK5 HBK3 HT2 hs3
  by_cases hze : z.e = 0
  · have hze2 : (z.e != 0) = false := by simpa using hze
    have HRR := Lib.hid (show schemaR x = (⟨L1, L2⟩, z) by rw [HSC.out, if_pos hze])
    have HC5 := Lib.hid hC5
    have HR5 := Lib.hid hR5
    clear hC5 hR5 hze HSC
    go_wp2_with (first | (refine wpList_load_at rfl 57 _ rfl (w.heap.size + 1 + 1) 0 rfl #[.int .i64 k, .int .i64 0, .string ⟨#[]⟩, .slice av L1.length cv, .slice none 0 0, .slice none 0 0, .slice am L2.length cm] _ (fun j hj => by rw [Nat.zero_add]; exact Blk.cell HC5.out j) Try.underlying57 rfl info57 ?_) | (refine wpList_store_row rfl 57 _ _ rfl (w.heap.size + 1) #[.int .i64 k, .int .i64 0, .string ⟨#[]⟩, .slice av L1.length cv, .slice none 0 0, .slice none 0 0, .slice am L2.length cm] rfl rfl 57 _ HR5.out info57 rfl (by simp [Value.oneCell']) ?_))
    refine bodyPost_ret (results_cell_row rfl _ _ (w.heap.size + 1) 57 #[.int .i64 k, .int .i64 0, .string ⟨#[]⟩, .slice av L1.length cv, .slice none 0 0, .slice none 0 0, .slice am L2.length cm] (0, 0) _ rfl (Blk.setRow HR5.out) Try.underlying57 rfl info57) rfl ?_
    refine ⟨⟨.slice av L1.length cv, .slice none 0 0, .slice none 0 0, .slice am L2.length cm⟩, by first | (rw [HRES.out, HRR.out]; done) | (rw [HRES.out, HRR.out]; rfl), ?_, ?_, ?_⟩
    · rw [HRES.out, HRR.out]; exact RdQ.setRowO HX5.out.1 (fun e => by have := HNB.out _ e; omega) _
    · exact KeepB.setRow HX5.out.2 (by omega) _
    · rw [HRES.out, HRR.out]
      have k1 := Row.keepB HL5.out HL3.out.2 (KeepB.row _ (w.heap.size + 1) #[.int .i64 k, .int .i64 0, .string ⟨#[]⟩, .slice av L1.length cv, .slice none 0 0, .slice none 0 0, .slice am L2.length cm]) (fun B e => by cases e; have := HS1.out; omega)
      have k2 := Row.keepB HM5.out.1 HM5.out.2 (KeepB.row _ (w.heap.size + 1) #[.int .i64 k, .int .i64 0, .string ⟨#[]⟩, .slice av L1.length cv, .slice none 0 0, .slice none 0 0, .slice am L2.length cm]) (fun B e => by cases e; have := HS3.out; omega)
      exact ⟨⟨k1, HL3.out.2.mono (by have := HS1.out; omega)⟩, ⟨RowR.nil _ _ _ _, New.nil _⟩, RowsFs.nil _ _, ⟨k2, HM5.out.2.mono (by have := HS3.out; omega)⟩⟩
  · have hze2 : (z.e != 0) = true := by simpa using hze
    have hL2 := HNIL.out hze
    subst hL2
    have HRR := Lib.hid (show schemaR x = (schema0, z) by rw [HSC.out, if_neg hze])
    have f1 : w5.frozen? ⟨w.heap.size + 1 + 1, 3, none⟩ = false := Blk.free hC5 3
    have g1 := Blk.cell hC5 3
    have HC5 := Lib.hid (Blk.set hC5 3 (.slice none 0 0))
    have HR5 := Lib.hid (Blk.other hR5 (p := ⟨w.heap.size + 1 + 1, 3, none⟩) (by show w.heap.size + 1 + 1 ≠ w.heap.size + 1; omega) (.slice none 0 0))
    clear hC5 hR5 hze HSC
    go_wp2_with (first | (refine wpList_load_at rfl 57 _ rfl (w.heap.size + 1 + 1) 0 rfl #[.int .i64 k, .int .i64 0, .string ⟨#[]⟩, .slice none 0 0, .slice none 0 0, .slice none 0 0, .slice am 0 cm] _ (fun j hj => by rw [Nat.zero_add]; exact Blk.cell HC5.out j) Try.underlying57 rfl info57 ?_) | (refine wpList_store_row rfl 57 _ _ rfl (w.heap.size + 1) #[.int .i64 k, .int .i64 0, .string ⟨#[]⟩, .slice none 0 0, .slice none 0 0, .slice none 0 0, .slice am 0 cm] rfl rfl 57 _ HR5.out info57 rfl (by simp [Value.oneCell']) ?_))
    refine bodyPost_ret (results_cell_row rfl _ _ (w.heap.size + 1) 57 #[.int .i64 k, .int .i64 0, .string ⟨#[]⟩, .slice none 0 0, .slice none 0 0, .slice none 0 0, .slice am 0 cm] (0, 0) _ rfl (Blk.setRow HR5.out) Try.underlying57 rfl info57) rfl ?_
    refine ⟨⟨.slice none 0 0, .slice none 0 0, .slice none 0 0, .slice am 0 cm⟩, by rw [HRES.out, HRR.out]; rfl, ?_, ?_, ?_⟩
    · rw [HRES.out, HRR.out]; exact RdQ.setRowO (RdQ.cellO HX5.out.1 (p := ⟨w.heap.size + 1 + 1, 3, none⟩) (fun e => by have h := HNB.out _ e; have h : w.heap.size + 1 + 1 < w.heap.size := h; omega) _) (fun e => by have := HNB.out _ e; omega) _
    · exact KeepB.setRow (KeepB.cell HX5.out.2 (show w.heap.size ≤ w.heap.size + 1 + 1 by omega) _) (by omega) _
    · rw [HRES.out, HRR.out]
      have k2 := Row.keepB (Row.keepB HM5.out.1 HM5.out.2 ((KeepB.refl (some (w.heap.size + 1 + 1)) w5).set 3 (.slice none 0 0)) (fun B e => by cases e; have := HS3.out; omega)) HM5.out.2 (KeepB.row _ (w.heap.size + 1) #[.int .i64 k, .int .i64 0, .string ⟨#[]⟩, .slice none 0 0, .slice none 0 0, .slice none 0 0, .slice am 0 cm]) (fun B e => by cases e; have := HS3.out; omega)
      exact ⟨⟨RowS.nil _ _, New.nil _⟩, ⟨RowR.nil _ _ _ _, New.nil _⟩, RowsFs.nil _ _, ⟨k2, HM5.out.2.mono (by have := HS3.out; omega)⟩⟩
end Go.Proofs.Ytocanbdpdnkapaa
