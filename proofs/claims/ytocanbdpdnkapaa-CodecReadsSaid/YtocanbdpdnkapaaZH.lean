/- A thing taken by a reader that may be nil. -/
import Derived.Test.YtocanbdpdnkapaaZG
namespace Go.Proofs.Ytocanbdpdnkapaa
open Go.RowKit
set_option linter.unusedVariables false
set_option linter.unusedSimpArgs false

/-- a thing of a kind, taken -/
def takeT (x : RdS) (t : ThingT) : ThingT × RdS :=
  if t.k = 0 then (⟨0, (byteR x : Int), emptyS, [], [], [], []⟩, (takeR x 1).2)
  else if t.k = 1 then (⟨1, intR x, emptyS, [], [], [], []⟩, (takeR x 8).2)
  else if t.k = 2 then (⟨2, (countR x t.n).1, emptyS, [], [], [], []⟩, (countR x t.n).2)
  else if t.k = 3 then (⟨3, 0, (textR x).1, [], [], [], []⟩, (textR x).2)
  else if t.k = 4 then (⟨4, 0, emptyS, (sevR textR 4 x).1, [], [], []⟩, (sevR textR 4 x).2)
  else if t.k = 5 then (⟨5, 0, emptyS, [], [(cellR x).1], [], []⟩, (cellR x).2)
  else if t.k = 6 then (⟨6, 0, emptyS, [], (sevR cellR 1 x).1, [], []⟩, (sevR cellR 1 x).2)
  else if t.k = 7 then (⟨7, 0, emptyS, [], [], [(factR x).1], []⟩, (factR x).2)
  else if t.k = 8 then (⟨8, 0, emptyS, [], [], (sevR factR 8 x).1, []⟩, (sevR factR 8 x).2)
  else (⟨t.k, 0, emptyS, (schemaR x).1.dims, [], [], (schemaR x).1.meas⟩, (schemaR x).2)
/-- a thing's lists, taken -/
structure RowsK (n : Nat) (w : World) (t : ThingT) (v : ThV) : Prop where
  l : RowS w.heap.size w v.l t.l ∧ New n v.l
  c : RowC w.heap.size w v.c t.cells ∧ New n v.c
  f : RowsFs n w v.f t.facts
  m : RowS w.heap.size w v.m t.meas ∧ New n v.m
theorem RdO.cell {b : Option Nat} {w : World} {x : RdS} (h : RdO b w x) {p : Addr} (hg : b ≠ some p.block) (u : Value) : RdO b (w.setCell p u) x := by
  cases b with
  | none => exact h
  | some B => exact ⟨Blk.other (RdAt.blk h) (fun e => hg (by rw [e])) u, RdAt.len h⟩
theorem KeepB.cell {b : Option Nat} {w w1 : World} (h : KeepB b w w1) {p : Addr} (hg : w.heap.size ≤ p.block) (u : Value) : KeepB b w (w1.setCell p u) :=
  ⟨h.os, h.tape, h.output, Nat.le_trans h.size (by simp [World.setCell]), fun k hk hb => (Below.heap_setCell _ _ _ _ (by omega)).trans (h.block k hk hb)⟩
theorem RowR.keepB {α : Type} {c : Nat} {cells : α → List Value} {b : Option Nat} {w w' : World} {v : Value} {m : Nat} {l : List α} (h : RowR c cells w.heap.size w v l) (hv : New m v) (hk : KeepB b w w') (hb : ∀ B, b = some B → B < m) : RowR c cells w'.heap.size w' v l := by
  obtain ⟨a, cap, rfl, h1, h2, h3⟩ := h
  refine ⟨a, cap, rfl, h1, h2, fun hn => ?_⟩
  obtain ⟨g, off, rfl, hg, hc⟩ := h3 hn
  exact ⟨g, off, rfl, Nat.lt_of_lt_of_le hg hk.size, fun k x hx j hj => (World.cell?_of_block (hk.block g hg (fun e => by have := hb g e; have := hv g rfl; omega))).trans (hc k x hx j hj)⟩
theorem RowsFs.keepB {b : Option Nat} {w w' : World} {v : Value} {m : Nat} {l : List FactT} (h : RowsFs m w v l) (hk : KeepB b w w') (hb : ∀ B, b = some B → B < m) : RowsFs m w' v l := by
  obtain ⟨ps, h1, h2, h3, h4⟩ := h
  exact ⟨ps, h1, h2.keepB h4 hk hb, fun q hq => (h3 q hq).keepB hk hb, h4⟩
theorem RowsFs.mono {m n : Nat} {w : World} {v : Value} {l : List FactT} (h : RowsFs n w v l) (hm : m ≤ n) : RowsFs m w v l := by
  obtain ⟨ps, h1, h2, h3, h4⟩ := h
  exact ⟨ps, h1, h2, fun q hq => (h3 q hq).mono hm, h4.mono hm⟩
theorem RowsK.nil (n : Nat) (w : World) (k m : Int) (s : ByteArray) : RowsK n w ⟨k, m, s, [], [], [], []⟩ ⟨.slice none 0 0, .slice none 0 0, .slice none 0 0, .slice none 0 0⟩ :=
  ⟨⟨RowS.nil _ _, New.nil _⟩, ⟨RowR.nil _ _ _ _, New.nil _⟩, RowsFs.nil _ _, ⟨RowS.nil _ _, New.nil _⟩⟩
theorem RowR.one {α : Type} (c : Nat) (cells : α → List Value) {w : World} {g : Nat} {T : TypeId} {cs : Array Value} (x : α) (h : Blk w g T cs) (hc : ∀ j, j < c → cs[j]? = (cells x)[j]?) : RowR c cells w.heap.size w (.slice (some ⟨g, 0, none⟩) 1 1) [x] :=
  ⟨_, _, rfl, Nat.le_refl _, by decide, fun _ => ⟨g, 0, rfl, h.lt, fun k y hy j hj => by
    cases k with
    | zero => simp at hy; subst hy; rw [show 0 + 0 * c + j = j by omega]; exact (Blk.cell h j).trans (hc j hj)
    | succ k => simp at hy⟩⟩
theorem RowsFs.one {n : Nat} {w : World} {g : Nat} {T : TypeId} (q : FactT × Value × Value) (h : Blk w g T #[q.2.1, q.2.2]) (hq : RowsF n w q.1 q.2.1 q.2.2) (hg : n ≤ g) : RowsFs n w (.slice (some ⟨g, 0, none⟩) 1 1) [q.1] :=
  ⟨[q], rfl, RowR.one 2 (fun q : FactT × Value × Value => [q.2.1, q.2.2]) q h (fun j hj => by match j, hj with | 0, _ => rfl | 1, _ => rfl), fun y hy => by simp at hy; subst hy; exact hq, fun g' e => by cases e; exact hg⟩
set_option maxRecDepth 100000 in
set_option maxHeartbeats 32000000 in
theorem take26O (b : Option Nat) (x : RdS) (t : ThingT) (v0 : ThV) (w : World) (B : Nat) (hx : RdO b w x) (hr : RowsT B w t v0) :
    Calls Try.prog 26 #[wptr b, .agg (thingC t v0)] w fun e w' => ∃ v, e = .returned (.agg (thingC (takeT x t).1 v)) ∧ RdO b w' (takeT x t).2 ∧ KeepB b w w' ∧ RowsK w.heap.size w' (takeT x t).1 v := by
  obtain ⟨k, n, s, l, cs, fs, m⟩ := t
  obtain ⟨vl, vc, vf, vm⟩ := v0
  obtain ⟨a1, c1, h1, -⟩ := hr.l.open
  obtain ⟨a2, c2, h2, -⟩ := hr.c
  obtain ⟨ps, hps, ⟨a3, c3, h3, -⟩, -⟩ := hr.f
  obtain ⟨a4, c4, h4, -⟩ := hr.m.open
  simp only at h1 h2 h3 h4 hps
  rw [hps] at h3
  subst h1 h2 h3 h4
  unfold thingC
  simp only
  have hT := Blk.alloc (Blk.alloc (Blk.new w 57 #[.int .i64 k, .int .i64 n, .string s, .slice a1 l.length c1, .slice a2 cs.length c2, .slice a3 fs.length c3, .slice a4 m.length c4]) (Obj.cells #[.int .i64 0, .int .i64 0, .string ⟨#[]⟩, .slice none 0 0, .slice none 0 0, .slice none 0 0, .slice none 0 0] 57)) (Obj.cells #[.int .i64 k, .int .i64 0, .string ⟨#[]⟩, .slice none 0 0, .slice none 0 0, .slice none 0 0, .slice none 0 0] 57)
  have hRb := Blk.alloc (Blk.newAt (w.alloc (Obj.cells #[.int .i64 k, .int .i64 n, .string s, .slice a1 l.length c1, .slice a2 cs.length c2, .slice a3 fs.length c3, .slice a4 m.length c4] 57)) 57 #[.int .i64 0, .int .i64 0, .string ⟨#[]⟩, .slice none 0 0, .slice none 0 0, .slice none 0 0, .slice none 0 0] (b := w.heap.size + 1) (by simp)) (Obj.cells #[.int .i64 k, .int .i64 0, .string ⟨#[]⟩, .slice none 0 0, .slice none 0 0, .slice none 0 0, .slice none 0 0] 57)
  have hC := Blk.newAt ((w.alloc (Obj.cells #[.int .i64 k, .int .i64 n, .string s, .slice a1 l.length c1, .slice a2 cs.length c2, .slice a3 fs.length c3, .slice a4 m.length c4] 57)).alloc (Obj.cells #[.int .i64 0, .int .i64 0, .string ⟨#[]⟩, .slice none 0 0, .slice none 0 0, .slice none 0 0, .slice none 0 0] 57)) 57 #[.int .i64 k, .int .i64 0, .string ⟨#[]⟩, .slice none 0 0, .slice none 0 0, .slice none 0 0, .slice none 0 0] (b := w.heap.size + 1 + 1) (by simp)
  have hBl := Below.al (Below.al (Below.al (Below.refl w.heap.size w) (Obj.cells #[.int .i64 k, .int .i64 n, .string s, .slice a1 l.length c1, .slice a2 cs.length c2, .slice a3 fs.length c3, .slice a4 m.length c4] 57)) (Obj.cells #[.int .i64 0, .int .i64 0, .string ⟨#[]⟩, .slice none 0 0, .slice none 0 0, .slice none 0 0, .slice none 0 0] 57)) (Obj.cells #[.int .i64 k, .int .i64 0, .string ⟨#[]⟩, .slice none 0 0, .slice none 0 0, .slice none 0 0, .slice none 0 0] 57)
  obtain ⟨w1, hw1⟩ : ∃ w1, w1 = ((w.alloc (Obj.cells #[.int .i64 k, .int .i64 n, .string s, .slice a1 l.length c1, .slice a2 cs.length c2, .slice a3 fs.length c3, .slice a4 m.length c4] 57)).alloc (Obj.cells #[.int .i64 0, .int .i64 0, .string ⟨#[]⟩, .slice none 0 0, .slice none 0 0, .slice none 0 0, .slice none 0 0] 57)).alloc (Obj.cells #[.int .i64 k, .int .i64 0, .string ⟨#[]⟩, .slice none 0 0, .slice none 0 0, .slice none 0 0, .slice none 0 0] 57) := ⟨_, rfl⟩
  have hs1 : w1.heap.size = w.heap.size + 3 := by rw [hw1]; simp
  rw [← hw1] at hT hRb hC hBl
  have hlt := hx.lt
  have HBK := Lib.hid (And.intro hT (And.intro hRb hC))
  have HX := Lib.hid (hx.below hBl)
  have HK := Lib.hid (KeepB.of (b := b) hBl)
  have HNB := Lib.hid (fun B (e : b = some B) => hlt B e)
  have HS1 := Lib.hid hs1
  have q0 : w1.cell? ⟨w.heap.size, 0, none⟩ = some (.int .i64 k) := Blk.cell hT 0
  have q1 : w1.cell? ⟨w.heap.size, 1, none⟩ = some (.int .i64 n) := Blk.cell hT 1
  clear hT hRb hC hBl hs1 hlt hx hr
  by_cases k0 : k = 0
  · subst k0
    have HRES := Lib.hid (show takeT x ⟨0, n, s, l, cs, fs, m⟩ = (⟨0, (byteR x : Int), emptyS, [], [], [], []⟩, (takeR x 1).2) from rfl)
    have hm : byteR x < 256 := Nat.mod_lt _ (by decide)
    have hwr : IntKind.i64.wrap ((byteR x : Nat) : Int) = (byteR x : Nat) := IntWalk.i64_in _ (by omega)
    have hwr2 : wrap64 ((byteR x : Nat) : Int) = (byteR x : Nat) := by unfold wrap64; omega
    go_enter Try.func26, Try.ntmps26
    go_upto_region 2 with fail
    rw [← hw1]
    clear hw1
    go_wp2_with fail
    refine (byte32O b x w1 HX.out).mono ?_
    rintro e w2 ⟨rfl, h1, h2⟩
    have hC2 := Blk.keepB HBK.out.2.2 h2 (fun e => by have := HNB.out _ e; omega)
    have hR2 := Blk.keepB HBK.out.2.1 h2 (fun e => by have := HNB.out _ e; omega)
    have f1 : w2.frozen? ⟨w.heap.size + 1 + 1, 1, none⟩ = false := Blk.free hC2 1
    have g1 := Blk.cell hC2 1
    have hC3 := Blk.set hC2 1 (.int .i64 (byteR x : Nat))
    have hR3 := Blk.other hR2 (p := ⟨w.heap.size + 1 + 1, 1, none⟩) (by show w.heap.size + 1 + 1 ≠ w.heap.size + 1; omega) (.int .i64 (byteR x : Nat))
    have HC3 := Lib.hid hC3
    have HR3 := Lib.hid hR3
    have H2 := Lib.hid (And.intro h1 (HK.out.trans h2))
    clear h1 h2 hC2 hR2 hC3 hR3
    go_wp2_with (first | (refine wpList_load_at rfl 57 _ rfl (w.heap.size + 1 + 1) 0 rfl #[.int .i64 0, .int .i64 (byteR x : Nat), .string ⟨#[]⟩, .slice none 0 0, .slice none 0 0, .slice none 0 0, .slice none 0 0] _ (fun j hj => by rw [Nat.zero_add]; exact Blk.cell HC3.out j) Try.underlying57 rfl info57 ?_) | (refine wpList_store_row rfl 57 _ _ rfl (w.heap.size + 1) #[.int .i64 0, .int .i64 (byteR x : Nat), .string ⟨#[]⟩, .slice none 0 0, .slice none 0 0, .slice none 0 0, .slice none 0 0] rfl rfl 57 _ HR3.out info57 rfl (by simp [Value.oneCell']) ?_))
    refine bodyPost_ret (results_cell_row rfl _ _ (w.heap.size + 1) 57 #[.int .i64 0, .int .i64 (byteR x : Nat), .string ⟨#[]⟩, .slice none 0 0, .slice none 0 0, .slice none 0 0, .slice none 0 0] (0, 0) _ rfl (Blk.setRow HR3.out) Try.underlying57 rfl info57) rfl ?_
    refine ⟨⟨.slice none 0 0, .slice none 0 0, .slice none 0 0, .slice none 0 0⟩, by first | (rw [HRES.out]; done) | (rw [HRES.out]; rfl), ?_, ?_, ?_⟩
    · rw [HRES.out]; exact RdO.setRow (RdO.cell H2.out.1 (fun e => by have h := HNB.out _ e; have h : w.heap.size + 1 + 1 < w.heap.size := h; omega) _) (fun e => by have := HNB.out _ e; omega) _
    · exact KeepB.setRow (KeepB.cell H2.out.2 (show w.heap.size ≤ w.heap.size + 1 + 1 by omega) _) (by omega) _
    · rw [HRES.out]; exact RowsK.nil _ _ _ _ _
  by_cases k1 : k = 1
  · subst k1
    have HRES := Lib.hid (show takeT x ⟨1, n, s, l, cs, fs, m⟩ = (⟨1, intR x, emptyS, [], [], [], []⟩, (takeR x 8).2) from rfl)
    go_enter Try.func26, Try.ntmps26
    go_upto_region 2 with fail
    rw [← hw1]
    clear hw1
    go_wp2_with fail
    refine (int58O b x w1 HX.out).mono ?_
    rintro e w2 ⟨rfl, h1, h2⟩
    have hC2 := Blk.keepB HBK.out.2.2 h2 (fun e => by have := HNB.out _ e; omega)
    have hR2 := Blk.keepB HBK.out.2.1 h2 (fun e => by have := HNB.out _ e; omega)
    have f1 : w2.frozen? ⟨w.heap.size + 1 + 1, 1, none⟩ = false := Blk.free hC2 1
    have g1 := Blk.cell hC2 1
    have hC3 := Blk.set hC2 1 (.int .i64 (intR x))
    have hR3 := Blk.other hR2 (p := ⟨w.heap.size + 1 + 1, 1, none⟩) (by show w.heap.size + 1 + 1 ≠ w.heap.size + 1; omega) (.int .i64 (intR x))
    have HC3 := Lib.hid hC3
    have HR3 := Lib.hid hR3
    have H2 := Lib.hid (And.intro h1 (HK.out.trans h2))
    clear h1 h2 hC2 hR2 hC3 hR3
    go_wp2_with (first | (refine wpList_load_at rfl 57 _ rfl (w.heap.size + 1 + 1) 0 rfl #[.int .i64 1, .int .i64 (intR x), .string ⟨#[]⟩, .slice none 0 0, .slice none 0 0, .slice none 0 0, .slice none 0 0] _ (fun j hj => by rw [Nat.zero_add]; exact Blk.cell HC3.out j) Try.underlying57 rfl info57 ?_) | (refine wpList_store_row rfl 57 _ _ rfl (w.heap.size + 1) #[.int .i64 1, .int .i64 (intR x), .string ⟨#[]⟩, .slice none 0 0, .slice none 0 0, .slice none 0 0, .slice none 0 0] rfl rfl 57 _ HR3.out info57 rfl (by simp [Value.oneCell']) ?_))
    refine bodyPost_ret (results_cell_row rfl _ _ (w.heap.size + 1) 57 #[.int .i64 1, .int .i64 (intR x), .string ⟨#[]⟩, .slice none 0 0, .slice none 0 0, .slice none 0 0, .slice none 0 0] (0, 0) _ rfl (Blk.setRow HR3.out) Try.underlying57 rfl info57) rfl ?_
    refine ⟨⟨.slice none 0 0, .slice none 0 0, .slice none 0 0, .slice none 0 0⟩, by first | (rw [HRES.out]; done) | (rw [HRES.out]; rfl), ?_, ?_, ?_⟩
    · rw [HRES.out]; exact RdO.setRow (RdO.cell H2.out.1 (fun e => by have h := HNB.out _ e; have h : w.heap.size + 1 + 1 < w.heap.size := h; omega) _) (fun e => by have := HNB.out _ e; omega) _
    · exact KeepB.setRow (KeepB.cell H2.out.2 (show w.heap.size ≤ w.heap.size + 1 + 1 by omega) _) (by omega) _
    · rw [HRES.out]; exact RowsK.nil _ _ _ _ _
  by_cases k2 : k = 2
  · subst k2
    have HRES := Lib.hid (show takeT x ⟨2, n, s, l, cs, fs, m⟩ = (⟨2, (countR x n).1, emptyS, [], [], [], []⟩, (countR x n).2) from rfl)
    go_enter Try.func26, Try.ntmps26
    go_upto_region 2 with fail
    rw [← hw1]
    clear hw1
    go_wp2_with fail
    refine (count59O b x n w1 HX.out).mono ?_
    rintro e w2 ⟨rfl, h1, h2⟩
    have hC2 := Blk.keepB HBK.out.2.2 h2 (fun e => by have := HNB.out _ e; omega)
    have hR2 := Blk.keepB HBK.out.2.1 h2 (fun e => by have := HNB.out _ e; omega)
    have f1 : w2.frozen? ⟨w.heap.size + 1 + 1, 1, none⟩ = false := Blk.free hC2 1
    have g1 := Blk.cell hC2 1
    have hC3 := Blk.set hC2 1 (.int .i64 (countR x n).1)
    have hR3 := Blk.other hR2 (p := ⟨w.heap.size + 1 + 1, 1, none⟩) (by show w.heap.size + 1 + 1 ≠ w.heap.size + 1; omega) (.int .i64 (countR x n).1)
    have HC3 := Lib.hid hC3
    have HR3 := Lib.hid hR3
    have H2 := Lib.hid (And.intro h1 (HK.out.trans h2))
    clear h1 h2 hC2 hR2 hC3 hR3
    go_wp2_with (first | (refine wpList_load_at rfl 57 _ rfl (w.heap.size + 1 + 1) 0 rfl #[.int .i64 2, .int .i64 (countR x n).1, .string ⟨#[]⟩, .slice none 0 0, .slice none 0 0, .slice none 0 0, .slice none 0 0] _ (fun j hj => by rw [Nat.zero_add]; exact Blk.cell HC3.out j) Try.underlying57 rfl info57 ?_) | (refine wpList_store_row rfl 57 _ _ rfl (w.heap.size + 1) #[.int .i64 2, .int .i64 (countR x n).1, .string ⟨#[]⟩, .slice none 0 0, .slice none 0 0, .slice none 0 0, .slice none 0 0] rfl rfl 57 _ HR3.out info57 rfl (by simp [Value.oneCell']) ?_))
    refine bodyPost_ret (results_cell_row rfl _ _ (w.heap.size + 1) 57 #[.int .i64 2, .int .i64 (countR x n).1, .string ⟨#[]⟩, .slice none 0 0, .slice none 0 0, .slice none 0 0, .slice none 0 0] (0, 0) _ rfl (Blk.setRow HR3.out) Try.underlying57 rfl info57) rfl ?_
    refine ⟨⟨.slice none 0 0, .slice none 0 0, .slice none 0 0, .slice none 0 0⟩, by first | (rw [HRES.out]; done) | (rw [HRES.out]; rfl), ?_, ?_, ?_⟩
    · rw [HRES.out]; exact RdO.setRow (RdO.cell H2.out.1 (fun e => by have h := HNB.out _ e; have h : w.heap.size + 1 + 1 < w.heap.size := h; omega) _) (fun e => by have := HNB.out _ e; omega) _
    · exact KeepB.setRow (KeepB.cell H2.out.2 (show w.heap.size ≤ w.heap.size + 1 + 1 by omega) _) (by omega) _
    · rw [HRES.out]; exact RowsK.nil _ _ _ _ _
  by_cases k3 : k = 3
  · subst k3
    have HRES := Lib.hid (show takeT x ⟨3, n, s, l, cs, fs, m⟩ = (⟨3, 0, (textR x).1, [], [], [], []⟩, (textR x).2) from rfl)
    go_enter Try.func26, Try.ntmps26
    go_upto_region 2 with fail
    rw [← hw1]
    clear hw1
    go_wp2_with fail
    refine (text35O b x w1 HX.out).mono ?_
    rintro e w2 ⟨rfl, h1, h2⟩
    have hC2 := Blk.keepB HBK.out.2.2 h2 (fun e => by have := HNB.out _ e; omega)
    have hR2 := Blk.keepB HBK.out.2.1 h2 (fun e => by have := HNB.out _ e; omega)
    have f1 : w2.frozen? ⟨w.heap.size + 1 + 1, 2, none⟩ = false := Blk.free hC2 2
    have g1 := Blk.cell hC2 2
    have hC3 := Blk.set hC2 2 (.string (textR x).1)
    have hR3 := Blk.other hR2 (p := ⟨w.heap.size + 1 + 1, 2, none⟩) (by show w.heap.size + 1 + 1 ≠ w.heap.size + 1; omega) (.string (textR x).1)
    have HC3 := Lib.hid hC3
    have HR3 := Lib.hid hR3
    have H2 := Lib.hid (And.intro h1 (HK.out.trans h2))
    clear h1 h2 hC2 hR2 hC3 hR3
    go_wp2_with (first | (refine wpList_load_at rfl 57 _ rfl (w.heap.size + 1 + 1) 0 rfl #[.int .i64 3, .int .i64 0, .string (textR x).1, .slice none 0 0, .slice none 0 0, .slice none 0 0, .slice none 0 0] _ (fun j hj => by rw [Nat.zero_add]; exact Blk.cell HC3.out j) Try.underlying57 rfl info57 ?_) | (refine wpList_store_row rfl 57 _ _ rfl (w.heap.size + 1) #[.int .i64 3, .int .i64 0, .string (textR x).1, .slice none 0 0, .slice none 0 0, .slice none 0 0, .slice none 0 0] rfl rfl 57 _ HR3.out info57 rfl (by simp [Value.oneCell']) ?_))
    refine bodyPost_ret (results_cell_row rfl _ _ (w.heap.size + 1) 57 #[.int .i64 3, .int .i64 0, .string (textR x).1, .slice none 0 0, .slice none 0 0, .slice none 0 0, .slice none 0 0] (0, 0) _ rfl (Blk.setRow HR3.out) Try.underlying57 rfl info57) rfl ?_
    refine ⟨⟨.slice none 0 0, .slice none 0 0, .slice none 0 0, .slice none 0 0⟩, by first | (rw [HRES.out]; done) | (rw [HRES.out]; rfl), ?_, ?_, ?_⟩
    · rw [HRES.out]; exact RdO.setRow (RdO.cell H2.out.1 (fun e => by have h := HNB.out _ e; have h : w.heap.size + 1 + 1 < w.heap.size := h; omega) _) (fun e => by have := HNB.out _ e; omega) _
    · exact KeepB.setRow (KeepB.cell H2.out.2 (show w.heap.size ≤ w.heap.size + 1 + 1 by omega) _) (by omega) _
    · rw [HRES.out]; exact RowsK.nil _ _ _ _ _
  by_cases k4 : k = 4
  · subst k4
    have HRES := Lib.hid (show takeT x ⟨4, n, s, l, cs, fs, m⟩ = (⟨4, 0, emptyS, (sevR textR 4 x).1, [], [], []⟩, (sevR textR 4 x).2) from rfl)
    go_enter Try.func26, Try.ntmps26
    go_upto_region 2 with fail
    rw [← hw1]
    clear hw1
    go_wp2_with fail
    refine (texts60O b x w1 HX.out).mono ?_
    rintro e w2 ⟨v, rfl, h1, h2, h3, h4, -⟩
    obtain ⟨av, cv, rfl, -⟩ := RowS.open h3
    have hC2 := Blk.keepB HBK.out.2.2 h2 (fun e => by have := HNB.out _ e; omega)
    have hR2 := Blk.keepB HBK.out.2.1 h2 (fun e => by have := HNB.out _ e; omega)
    have f1 : w2.frozen? ⟨w.heap.size + 1 + 1, 3, none⟩ = false := Blk.free hC2 3
    have g1 := Blk.cell hC2 3
    have HC3 := Lib.hid (Blk.set hC2 3 (.slice av (sevR textR 4 x).1.length cv))
    have HR3 := Lib.hid (Blk.other hR2 (p := ⟨w.heap.size + 1 + 1, 3, none⟩) (by show w.heap.size + 1 + 1 ≠ w.heap.size + 1; omega) (.slice av (sevR textR 4 x).1.length cv))
    have H2 := Lib.hid (And.intro h1 (HK.out.trans h2))
    have H3 := Lib.hid (And.intro h3 h4)
    clear h1 h2 h3 h4 hC2 hR2
    go_wp2_with (first | (refine wpList_load_at rfl 57 _ rfl (w.heap.size + 1 + 1) 0 rfl #[.int .i64 4, .int .i64 0, .string ⟨#[]⟩, .slice av (sevR textR 4 x).1.length cv, .slice none 0 0, .slice none 0 0, .slice none 0 0] _ (fun j hj => by rw [Nat.zero_add]; exact Blk.cell HC3.out j) Try.underlying57 rfl info57 ?_) | (refine wpList_store_row rfl 57 _ _ rfl (w.heap.size + 1) #[.int .i64 4, .int .i64 0, .string ⟨#[]⟩, .slice av (sevR textR 4 x).1.length cv, .slice none 0 0, .slice none 0 0, .slice none 0 0] rfl rfl 57 _ HR3.out info57 rfl (by simp [Value.oneCell']) ?_))
    refine bodyPost_ret (results_cell_row rfl _ _ (w.heap.size + 1) 57 #[.int .i64 4, .int .i64 0, .string ⟨#[]⟩, .slice av (sevR textR 4 x).1.length cv, .slice none 0 0, .slice none 0 0, .slice none 0 0] (0, 0) _ rfl (Blk.setRow HR3.out) Try.underlying57 rfl info57) rfl ?_
    refine ⟨⟨.slice av (sevR textR 4 x).1.length cv, .slice none 0 0, .slice none 0 0, .slice none 0 0⟩, by first | (rw [HRES.out]; done) | (rw [HRES.out]; rfl), ?_, ?_, ?_⟩
    · rw [HRES.out]; exact RdO.setRow (RdO.cell H2.out.1 (fun e => by have h := HNB.out _ e; have h : w.heap.size + 1 + 1 < w.heap.size := h; omega) _) (fun e => by have := HNB.out _ e; omega) _
    · exact KeepB.setRow (KeepB.cell H2.out.2 (show w.heap.size ≤ w.heap.size + 1 + 1 by omega) _) (by omega) _
    · rw [HRES.out]
      have k1 := Row.keepB H3.out.1 H3.out.2 ((KeepB.refl (some (w.heap.size + 1 + 1)) w2).set 3 (.slice av (sevR textR 4 x).1.length cv)) (fun B e => by cases e; have := HS1.out; omega)
      have k2 := Row.keepB k1 H3.out.2 (KeepB.row _ (w.heap.size + 1) #[.int .i64 4, .int .i64 0, .string ⟨#[]⟩, .slice av (sevR textR 4 x).1.length cv, .slice none 0 0, .slice none 0 0, .slice none 0 0]) (fun B e => by cases e; have := HS1.out; omega)
      have HROW := Lib.hid (And.intro k2 (H3.out.2.mono (show w.heap.size ≤ w1.heap.size by have := HS1.out; omega)))
      exact ⟨HROW.out, ⟨RowR.nil _ _ _ _, New.nil _⟩, RowsFs.nil _ _, ⟨RowS.nil _ _, New.nil _⟩⟩
  by_cases k5 : k = 5
  · subst k5
    have HRES := Lib.hid (show takeT x ⟨5, n, s, l, cs, fs, m⟩ = (⟨5, 0, emptyS, [], [(cellR x).1], [], []⟩, (cellR x).2) from rfl)
    go_enter Try.func26, Try.ntmps26
    go_upto_region 2 with fail
    rw [← hw1]
    clear hw1
    go_wp2_with fail
    refine (cell61O b x w1 HX.out).mono ?_
    rintro e w2 ⟨rfl, h1, h2⟩
    have h3 := True.intro
    generalize (cellR x).1 = cc at *
    obtain ⟨ca, cb, ct⟩ := cc
    unfold cellV
    have hC2 := Blk.keepB HBK.out.2.2 h2 (fun e => by have := HNB.out _ e; omega)
    have hR2 := Blk.keepB HBK.out.2.1 h2 (fun e => by have := HNB.out _ e; omega)
    have hs2 := h2.size
    have hBl := Below.al (Below.refl w2.heap.size w2) (Obj.cells #[.int .i64 ca, .int .i64 cb, .string ct] 92)
    have hD := Blk.new w2 92 #[.int .i64 ca, .int .i64 cb, .string ct]
    have hC3 := Blk.below hC2 hBl hC2.lt
    have hR3 := Blk.below hR2 hBl hR2.lt
    have r0 := Lib.hid (And.intro (RowR.one 3 cellC ⟨ca, cb, ct⟩ hD (fun j hj => by match j, hj with | 0, _ => rfl | 1, _ => rfl | 2, _ => rfl)) (show New w1.heap.size (.slice (some ⟨w2.heap.size, 0, none⟩) 1 1) from fun g e => by cases e; exact hs2))
    have f1 : (w2.alloc (Obj.cells #[.int .i64 ca, .int .i64 cb, .string ct] 92)).frozen? ⟨w.heap.size + 1 + 1, 4, none⟩ = false := Blk.free hC3 4
    have g1 := Blk.cell hC3 4
    have HC3 := Lib.hid (Blk.set hC3 4 (.slice (some ⟨w2.heap.size, 0, none⟩) 1 1))
    have HR3 := Lib.hid (Blk.other hR3 (p := ⟨w.heap.size + 1 + 1, 4, none⟩) (by show w.heap.size + 1 + 1 ≠ w.heap.size + 1; omega) (.slice (some ⟨w2.heap.size, 0, none⟩) 1 1))
    have H2 := Lib.hid (And.intro (RdO.below h1 hBl) ((HK.out.trans h2).call hBl))
    clear h1 h2 h3 hC2 hR2 hC3 hR3 hD hBl
    go_wp2_with (first | (refine wpList_load_at rfl 57 _ rfl (w.heap.size + 1 + 1) 0 rfl #[.int .i64 5, .int .i64 0, .string ⟨#[]⟩, .slice none 0 0, .slice (some ⟨w2.heap.size, 0, none⟩) 1 1, .slice none 0 0, .slice none 0 0] _ (fun j hj => by rw [Nat.zero_add]; exact Blk.cell HC3.out j) Try.underlying57 rfl info57 ?_) | (refine wpList_store_row rfl 57 _ _ rfl (w.heap.size + 1) #[.int .i64 5, .int .i64 0, .string ⟨#[]⟩, .slice none 0 0, .slice (some ⟨w2.heap.size, 0, none⟩) 1 1, .slice none 0 0, .slice none 0 0] rfl rfl 57 _ HR3.out info57 rfl (by simp [Value.oneCell']) ?_))
    refine bodyPost_ret (results_cell_row rfl _ _ (w.heap.size + 1) 57 #[.int .i64 5, .int .i64 0, .string ⟨#[]⟩, .slice none 0 0, .slice (some ⟨w2.heap.size, 0, none⟩) 1 1, .slice none 0 0, .slice none 0 0] (0, 0) _ rfl (Blk.setRow HR3.out) Try.underlying57 rfl info57) rfl ?_
    refine ⟨⟨.slice none 0 0, .slice (some ⟨w2.heap.size, 0, none⟩) 1 1, .slice none 0 0, .slice none 0 0⟩, by first | (rw [HRES.out]; done) | (rw [HRES.out]; rfl), ?_, ?_, ?_⟩
    · rw [HRES.out]; exact RdO.setRow (RdO.cell H2.out.1 (fun e => by have h := HNB.out _ e; have h : w.heap.size + 1 + 1 < w.heap.size := h; omega) _) (fun e => by have := HNB.out _ e; omega) _
    · exact KeepB.setRow (KeepB.cell H2.out.2 (show w.heap.size ≤ w.heap.size + 1 + 1 by omega) _) (by omega) _
    · rw [HRES.out]
      have k1 := RowR.keepB r0.out.1 r0.out.2 ((KeepB.refl (some (w.heap.size + 1 + 1)) (w2.alloc (Obj.cells #[.int .i64 ca, .int .i64 cb, .string ct] 92))).set 4 (.slice (some ⟨w2.heap.size, 0, none⟩) 1 1)) (fun B e => by cases e; have := HS1.out; omega)
      have k2 := RowR.keepB k1 r0.out.2 (KeepB.row _ (w.heap.size + 1) #[.int .i64 5, .int .i64 0, .string ⟨#[]⟩, .slice none 0 0, .slice (some ⟨w2.heap.size, 0, none⟩) 1 1, .slice none 0 0, .slice none 0 0]) (fun B e => by cases e; have := HS1.out; omega)
      exact ⟨⟨RowS.nil _ _, New.nil _⟩, ⟨k2, r0.out.2.mono (show w.heap.size ≤ w1.heap.size by have := HS1.out; omega)⟩, RowsFs.nil _ _, ⟨RowS.nil _ _, New.nil _⟩⟩
  by_cases k6 : k = 6
  · subst k6
    have HRES := Lib.hid (show takeT x ⟨6, n, s, l, cs, fs, m⟩ = (⟨6, 0, emptyS, [], (sevR cellR 1 x).1, [], []⟩, (sevR cellR 1 x).2) from rfl)
    go_enter Try.func26, Try.ntmps26
    go_upto_region 2 with fail
    rw [← hw1]
    clear hw1
    go_wp2_with fail
    refine (cells62O b x w1 HX.out).mono ?_
    rintro e w2 ⟨v, rfl, h1, h2, h3, h4, -⟩
    obtain ⟨av, cv, rfl, -⟩ := id h3
    have hC2 := Blk.keepB HBK.out.2.2 h2 (fun e => by have := HNB.out _ e; omega)
    have hR2 := Blk.keepB HBK.out.2.1 h2 (fun e => by have := HNB.out _ e; omega)
    have f1 : w2.frozen? ⟨w.heap.size + 1 + 1, 4, none⟩ = false := Blk.free hC2 4
    have g1 := Blk.cell hC2 4
    have HC3 := Lib.hid (Blk.set hC2 4 (.slice av (sevR cellR 1 x).1.length cv))
    have HR3 := Lib.hid (Blk.other hR2 (p := ⟨w.heap.size + 1 + 1, 4, none⟩) (by show w.heap.size + 1 + 1 ≠ w.heap.size + 1; omega) (.slice av (sevR cellR 1 x).1.length cv))
    have H2 := Lib.hid (And.intro h1 (HK.out.trans h2))
    have H3 := Lib.hid (And.intro h3 h4)
    clear h1 h2 h3 h4 hC2 hR2
    go_wp2_with (first | (refine wpList_load_at rfl 57 _ rfl (w.heap.size + 1 + 1) 0 rfl #[.int .i64 6, .int .i64 0, .string ⟨#[]⟩, .slice none 0 0, .slice av (sevR cellR 1 x).1.length cv, .slice none 0 0, .slice none 0 0] _ (fun j hj => by rw [Nat.zero_add]; exact Blk.cell HC3.out j) Try.underlying57 rfl info57 ?_) | (refine wpList_store_row rfl 57 _ _ rfl (w.heap.size + 1) #[.int .i64 6, .int .i64 0, .string ⟨#[]⟩, .slice none 0 0, .slice av (sevR cellR 1 x).1.length cv, .slice none 0 0, .slice none 0 0] rfl rfl 57 _ HR3.out info57 rfl (by simp [Value.oneCell']) ?_))
    refine bodyPost_ret (results_cell_row rfl _ _ (w.heap.size + 1) 57 #[.int .i64 6, .int .i64 0, .string ⟨#[]⟩, .slice none 0 0, .slice av (sevR cellR 1 x).1.length cv, .slice none 0 0, .slice none 0 0] (0, 0) _ rfl (Blk.setRow HR3.out) Try.underlying57 rfl info57) rfl ?_
    refine ⟨⟨.slice none 0 0, .slice av (sevR cellR 1 x).1.length cv, .slice none 0 0, .slice none 0 0⟩, by first | (rw [HRES.out]; done) | (rw [HRES.out]; rfl), ?_, ?_, ?_⟩
    · rw [HRES.out]; exact RdO.setRow (RdO.cell H2.out.1 (fun e => by have h := HNB.out _ e; have h : w.heap.size + 1 + 1 < w.heap.size := h; omega) _) (fun e => by have := HNB.out _ e; omega) _
    · exact KeepB.setRow (KeepB.cell H2.out.2 (show w.heap.size ≤ w.heap.size + 1 + 1 by omega) _) (by omega) _
    · rw [HRES.out]
      have k1 := RowR.keepB H3.out.1 H3.out.2 ((KeepB.refl (some (w.heap.size + 1 + 1)) w2).set 4 (.slice av (sevR cellR 1 x).1.length cv)) (fun B e => by cases e; have := HS1.out; omega)
      have k2 := RowR.keepB k1 H3.out.2 (KeepB.row _ (w.heap.size + 1) #[.int .i64 6, .int .i64 0, .string ⟨#[]⟩, .slice none 0 0, .slice av (sevR cellR 1 x).1.length cv, .slice none 0 0, .slice none 0 0]) (fun B e => by cases e; have := HS1.out; omega)
      have HROW := Lib.hid (And.intro k2 (H3.out.2.mono (show w.heap.size ≤ w1.heap.size by have := HS1.out; omega)))
      exact ⟨⟨RowS.nil _ _, New.nil _⟩, HROW.out, RowsFs.nil _ _, ⟨RowS.nil _ _, New.nil _⟩⟩
  by_cases k7 : k = 7
  · subst k7
    have HRES := Lib.hid (show takeT x ⟨7, n, s, l, cs, fs, m⟩ = (⟨7, 0, emptyS, [], [], [(factR x).1], []⟩, (factR x).2) from rfl)
    go_enter Try.func26, Try.ntmps26
    go_upto_region 2 with fail
    rw [← hw1]
    clear hw1
    go_wp2_with fail
    refine (fact63O b x w1 HX.out).mono ?_
    rintro e w2 ⟨vd, vm, rfl, h1, h2, h3⟩
    generalize (factR x).1 = cc at *
    have hC2 := Blk.keepB HBK.out.2.2 h2 (fun e => by have := HNB.out _ e; omega)
    have hR2 := Blk.keepB HBK.out.2.1 h2 (fun e => by have := HNB.out _ e; omega)
    have hs2 := h2.size
    have hBl := Below.al (Below.refl w2.heap.size w2) (Obj.cells #[vd, vm] 98)
    have hD := Blk.new w2 98 #[vd, vm]
    have hC3 := Blk.below hC2 hBl hC2.lt
    have hR3 := Blk.below hR2 hBl hR2.lt
    have r0 := Lib.hid (RowsFs.one (cc, vd, vm) hD (h3.keepB (KeepB.of (b := none) hBl) (fun B e => by cases e)) hs2)
    have f1 : (w2.alloc (Obj.cells #[vd, vm] 98)).frozen? ⟨w.heap.size + 1 + 1, 5, none⟩ = false := Blk.free hC3 5
    have g1 := Blk.cell hC3 5
    have HC3 := Lib.hid (Blk.set hC3 5 (.slice (some ⟨w2.heap.size, 0, none⟩) 1 1))
    have HR3 := Lib.hid (Blk.other hR3 (p := ⟨w.heap.size + 1 + 1, 5, none⟩) (by show w.heap.size + 1 + 1 ≠ w.heap.size + 1; omega) (.slice (some ⟨w2.heap.size, 0, none⟩) 1 1))
    have H2 := Lib.hid (And.intro (RdO.below h1 hBl) ((HK.out.trans h2).call hBl))
    clear h1 h2 h3 hC2 hR2 hC3 hR3 hD hBl
    go_wp2_with (first | (refine wpList_load_at rfl 57 _ rfl (w.heap.size + 1 + 1) 0 rfl #[.int .i64 7, .int .i64 0, .string ⟨#[]⟩, .slice none 0 0, .slice none 0 0, .slice (some ⟨w2.heap.size, 0, none⟩) 1 1, .slice none 0 0] _ (fun j hj => by rw [Nat.zero_add]; exact Blk.cell HC3.out j) Try.underlying57 rfl info57 ?_) | (refine wpList_store_row rfl 57 _ _ rfl (w.heap.size + 1) #[.int .i64 7, .int .i64 0, .string ⟨#[]⟩, .slice none 0 0, .slice none 0 0, .slice (some ⟨w2.heap.size, 0, none⟩) 1 1, .slice none 0 0] rfl rfl 57 _ HR3.out info57 rfl (by simp [Value.oneCell']) ?_))
    refine bodyPost_ret (results_cell_row rfl _ _ (w.heap.size + 1) 57 #[.int .i64 7, .int .i64 0, .string ⟨#[]⟩, .slice none 0 0, .slice none 0 0, .slice (some ⟨w2.heap.size, 0, none⟩) 1 1, .slice none 0 0] (0, 0) _ rfl (Blk.setRow HR3.out) Try.underlying57 rfl info57) rfl ?_
    refine ⟨⟨.slice none 0 0, .slice none 0 0, .slice (some ⟨w2.heap.size, 0, none⟩) 1 1, .slice none 0 0⟩, by first | (rw [HRES.out]; done) | (rw [HRES.out]; rfl), ?_, ?_, ?_⟩
    · rw [HRES.out]; exact RdO.setRow (RdO.cell H2.out.1 (fun e => by have h := HNB.out _ e; have h : w.heap.size + 1 + 1 < w.heap.size := h; omega) _) (fun e => by have := HNB.out _ e; omega) _
    · exact KeepB.setRow (KeepB.cell H2.out.2 (show w.heap.size ≤ w.heap.size + 1 + 1 by omega) _) (by omega) _
    · rw [HRES.out]
      have k1 := RowsFs.keepB r0.out ((KeepB.refl (some (w.heap.size + 1 + 1)) (w2.alloc (Obj.cells #[vd, vm] 98))).set 5 (.slice (some ⟨w2.heap.size, 0, none⟩) 1 1)) (fun B e => by cases e; have := HS1.out; omega)
      have k2 := RowsFs.keepB k1 (KeepB.row _ (w.heap.size + 1) #[.int .i64 7, .int .i64 0, .string ⟨#[]⟩, .slice none 0 0, .slice none 0 0, .slice (some ⟨w2.heap.size, 0, none⟩) 1 1, .slice none 0 0]) (fun B e => by cases e; have := HS1.out; omega)
      exact ⟨⟨RowS.nil _ _, New.nil _⟩, ⟨RowR.nil _ _ _ _, New.nil _⟩, k2.mono (show w.heap.size ≤ w1.heap.size by have := HS1.out; omega), ⟨RowS.nil _ _, New.nil _⟩⟩
  by_cases k8 : k = 8
  · subst k8
    have HRES := Lib.hid (show takeT x ⟨8, n, s, l, cs, fs, m⟩ = (⟨8, 0, emptyS, [], [], (sevR factR 8 x).1, []⟩, (sevR factR 8 x).2) from rfl)
    go_enter Try.func26, Try.ntmps26
    go_upto_region 2 with fail
    rw [← hw1]
    clear hw1
    go_wp2_with fail
    refine (facts64O b x w1 HX.out).mono ?_
    rintro e w2 ⟨v, rfl, h1, h2, h3⟩
    obtain ⟨av, cv, rfl, -⟩ := (show ∃ a c, v = .slice a (sevR factR 8 x).1.length c ∧ True by obtain ⟨ps, e1, ⟨a, c, e2, -⟩, -⟩ := h3; exact ⟨a, c, by rw [e2, e1, List.length_map], trivial⟩)
    have hC2 := Blk.keepB HBK.out.2.2 h2 (fun e => by have := HNB.out _ e; omega)
    have hR2 := Blk.keepB HBK.out.2.1 h2 (fun e => by have := HNB.out _ e; omega)
    have f1 : w2.frozen? ⟨w.heap.size + 1 + 1, 5, none⟩ = false := Blk.free hC2 5
    have g1 := Blk.cell hC2 5
    have HC3 := Lib.hid (Blk.set hC2 5 (.slice av (sevR factR 8 x).1.length cv))
    have HR3 := Lib.hid (Blk.other hR2 (p := ⟨w.heap.size + 1 + 1, 5, none⟩) (by show w.heap.size + 1 + 1 ≠ w.heap.size + 1; omega) (.slice av (sevR factR 8 x).1.length cv))
    have H2 := Lib.hid (And.intro h1 (HK.out.trans h2))
    have H3 := Lib.hid (And.intro h3 trivial)
    clear h1 h2 h3 hC2 hR2
    go_wp2_with (first | (refine wpList_load_at rfl 57 _ rfl (w.heap.size + 1 + 1) 0 rfl #[.int .i64 8, .int .i64 0, .string ⟨#[]⟩, .slice none 0 0, .slice none 0 0, .slice av (sevR factR 8 x).1.length cv, .slice none 0 0] _ (fun j hj => by rw [Nat.zero_add]; exact Blk.cell HC3.out j) Try.underlying57 rfl info57 ?_) | (refine wpList_store_row rfl 57 _ _ rfl (w.heap.size + 1) #[.int .i64 8, .int .i64 0, .string ⟨#[]⟩, .slice none 0 0, .slice none 0 0, .slice av (sevR factR 8 x).1.length cv, .slice none 0 0] rfl rfl 57 _ HR3.out info57 rfl (by simp [Value.oneCell']) ?_))
    refine bodyPost_ret (results_cell_row rfl _ _ (w.heap.size + 1) 57 #[.int .i64 8, .int .i64 0, .string ⟨#[]⟩, .slice none 0 0, .slice none 0 0, .slice av (sevR factR 8 x).1.length cv, .slice none 0 0] (0, 0) _ rfl (Blk.setRow HR3.out) Try.underlying57 rfl info57) rfl ?_
    refine ⟨⟨.slice none 0 0, .slice none 0 0, .slice av (sevR factR 8 x).1.length cv, .slice none 0 0⟩, by first | (rw [HRES.out]; done) | (rw [HRES.out]; rfl), ?_, ?_, ?_⟩
    · rw [HRES.out]; exact RdO.setRow (RdO.cell H2.out.1 (fun e => by have h := HNB.out _ e; have h : w.heap.size + 1 + 1 < w.heap.size := h; omega) _) (fun e => by have := HNB.out _ e; omega) _
    · exact KeepB.setRow (KeepB.cell H2.out.2 (show w.heap.size ≤ w.heap.size + 1 + 1 by omega) _) (by omega) _
    · rw [HRES.out]
      have k1 := RowsFs.keepB H3.out.1 ((KeepB.refl (some (w.heap.size + 1 + 1)) w2).set 5 (.slice av (sevR factR 8 x).1.length cv)) (fun B e => by cases e; have := HS1.out; omega)
      have k2 := RowsFs.keepB k1 (KeepB.row _ (w.heap.size + 1) #[.int .i64 8, .int .i64 0, .string ⟨#[]⟩, .slice none 0 0, .slice none 0 0, .slice av (sevR factR 8 x).1.length cv, .slice none 0 0]) (fun B e => by cases e; have := HS1.out; omega)
      have HROW := Lib.hid (k2.mono (show w.heap.size ≤ w1.heap.size by have := HS1.out; omega))
      exact ⟨⟨RowS.nil _ _, New.nil _⟩, ⟨RowR.nil _ _ _ _, New.nil _⟩, HROW.out, ⟨RowS.nil _ _, New.nil _⟩⟩
  have HRES := Lib.hid (show takeT x ⟨k, n, s, l, cs, fs, m⟩ = (⟨k, 0, emptyS, (schemaR x).1.dims, [], [], (schemaR x).1.meas⟩, (schemaR x).2) by unfold takeT; rw [if_neg k0, if_neg k1, if_neg k2, if_neg k3, if_neg k4, if_neg k5, if_neg k6, if_neg k7, if_neg k8])
  have d0 : (k == 0) = false := by simpa using k0
  have d1 : (k == 1) = false := by simpa using k1
  have d2 : (k == 2) = false := by simpa using k2
  have d3 : (k == 3) = false := by simpa using k3
  have d4 : (k == 4) = false := by simpa using k4
  have d5 : (k == 5) = false := by simpa using k5
  have d6 : (k == 6) = false := by simpa using k6
  have d7 : (k == 7) = false := by simpa using k7
  have d8 : (k == 8) = false := by simpa using k8
  go_enter Try.func26, Try.ntmps26
  go_upto_region 2 with fail
  rw [← hw1]
  clear hw1
  go_wp2_with fail
  refine (schema65O b x w1 HX.out).mono ?_
  rintro e w2 ⟨vd, vm, rfl, h1, h2, h3⟩
  obtain ⟨av, cv, e1, -⟩ := RowS.open h3.d
  obtain ⟨am, cm, e2, -⟩ := RowS.open h3.m
  generalize hld : (schemaR x).1.dims = ld at *
  generalize hlm : (schemaR x).1.meas = lm at *
  subst e1 e2
  have hC2 := Blk.keepB HBK.out.2.2 h2 (fun e => by have := HNB.out _ e; omega)
  have hR2 := Blk.keepB HBK.out.2.1 h2 (fun e => by have := HNB.out _ e; omega)
  have hs2 := h2.size
  go_upto_region 4 with fail
  have hBl := Below.al (Below.refl w2.heap.size w2) (Obj.cells #[.slice av ld.length cv, .slice am lm.length cm] 103)
  have hD := Blk.new w2 103 #[.slice av ld.length cv, .slice am lm.length cm]
  obtain ⟨w3, hw3⟩ : ∃ w3, w3 = w2.alloc (Obj.cells #[.slice av ld.length cv, .slice am lm.length cm] 103) := ⟨_, rfl⟩
  rw [← hw3] at hBl hD ⊢
  clear hw3
  have hC3 := Blk.below hC2 hBl hC2.lt
  have hR3 := Blk.below hR2 hBl hR2.lt
  have hD0 := Blk.cell hD 0
  have f3 : w3.frozen? ⟨w.heap.size + 1 + 1, 3, none⟩ = false := Blk.free hC3 3
  have g3 := Blk.cell hC3 3
  go_upto_region 5 with fail
  have hC4 := Blk.set hC3 3 (.slice av ld.length cv)
  have hR4 := Blk.other hR3 (p := ⟨w.heap.size + 1 + 1, 3, none⟩) (by show w.heap.size + 1 + 1 ≠ w.heap.size + 1; omega) (.slice av ld.length cv)
  have hD4 := Blk.other hD (p := ⟨w.heap.size + 1 + 1, 3, none⟩) (by show w.heap.size + 1 + 1 ≠ w2.heap.size; have := HS1.out; omega) (.slice av ld.length cv)
  obtain ⟨w4, hw4⟩ : ∃ w4, w4 = w3.setCell ⟨w.heap.size + 1 + 1, 3, none⟩ (.slice av ld.length cv) := ⟨_, rfl⟩
  have hKB : KeepB b w w4 := by rw [hw4]; exact KeepB.cell ((HK.out.trans h2).call hBl) (show w.heap.size ≤ w.heap.size + 1 + 1 by omega) _
  have hRO : RdO b w4 (schemaR x).2 := by rw [hw4]; exact RdO.cell (RdO.below h1 hBl) (fun e => by have h := HNB.out _ e; have h : w.heap.size + 1 + 1 < w.heap.size := h; omega) _
  have hRS : RowsS w1.heap.size w4 (schemaR x).1 (.slice av ld.length cv) (.slice am lm.length cm) := by
    rw [hw4]; exact (h3.keepB (KeepB.of (b := none) hBl) (fun B e => by cases e)).keepB ((KeepB.refl (some (w.heap.size + 1 + 1)) w3).set 3 (.slice av ld.length cv)) (fun B e => by cases e; have := HS1.out; omega)
  rw [← hw4] at hC4 hR4 hD4 ⊢
  clear hw4 hD0 f3 g3 hC3 hR3 hD hC2 hR2 hBl
  have hD1 := Blk.cell hD4 1
  have f4 : w4.frozen? ⟨w.heap.size + 1 + 1, 6, none⟩ = false := Blk.free hC4 6
  have g4 := Blk.cell hC4 6
  have HC5 := Lib.hid (Blk.set hC4 6 (.slice am lm.length cm))
  have HR5 := Lib.hid (Blk.other hR4 (p := ⟨w.heap.size + 1 + 1, 6, none⟩) (by show w.heap.size + 1 + 1 ≠ w.heap.size + 1; omega) (.slice am lm.length cm))
  have H4 := Lib.hid (And.intro hRO (And.intro hKB hRS))
  clear hRO hKB hRS h1 h2 h3 hC4 hR4 hD4
  go_wp2_with (first | (refine wpList_load_at rfl 57 _ rfl (w.heap.size + 1 + 1) 0 rfl #[.int .i64 k, .int .i64 0, .string ⟨#[]⟩, .slice av ld.length cv, .slice none 0 0, .slice none 0 0, .slice am lm.length cm] _ (fun j hj => by rw [Nat.zero_add]; exact Blk.cell HC5.out j) Try.underlying57 rfl info57 ?_) | (refine wpList_store_row rfl 57 _ _ rfl (w.heap.size + 1) #[.int .i64 k, .int .i64 0, .string ⟨#[]⟩, .slice av ld.length cv, .slice none 0 0, .slice none 0 0, .slice am lm.length cm] rfl rfl 57 _ HR5.out info57 rfl (by simp [Value.oneCell']) ?_))
  refine bodyPost_ret (results_cell_row rfl _ _ (w.heap.size + 1) 57 #[.int .i64 k, .int .i64 0, .string ⟨#[]⟩, .slice av ld.length cv, .slice none 0 0, .slice none 0 0, .slice am lm.length cm] (0, 0) _ rfl (Blk.setRow HR5.out) Try.underlying57 rfl info57) rfl ?_
  refine ⟨⟨.slice av ld.length cv, .slice none 0 0, .slice none 0 0, .slice am lm.length cm⟩, by first | (rw [HRES.out]; done) | (rw [HRES.out]; rfl), ?_, ?_, ?_⟩
  · rw [HRES.out]; exact RdO.setRow (RdO.cell H4.out.1 (fun e => by have h := HNB.out _ e; have h : w.heap.size + 1 + 1 < w.heap.size := h; omega) _) (fun e => by have := HNB.out _ e; omega) _
  · exact KeepB.setRow (KeepB.cell H4.out.2.1 (show w.heap.size ≤ w.heap.size + 1 + 1 by omega) _) (by omega) _
  · rw [HRES.out]
    have r1 := H4.out.2.2.keepB ((KeepB.refl (some (w.heap.size + 1 + 1)) w4).set 6 (.slice am lm.length cm)) (fun B e => by cases e; have := HS1.out; omega)
    have r2 := r1.keepB (KeepB.row _ (w.heap.size + 1) #[.int .i64 k, .int .i64 0, .string ⟨#[]⟩, .slice av ld.length cv, .slice none 0 0, .slice none 0 0, .slice am lm.length cm]) (fun B e => by cases e; have := HS1.out; omega)
    have hle : w.heap.size ≤ w1.heap.size := by have := HS1.out; omega
    subst hld hlm
    exact ⟨⟨r2.d, r2.nd.mono hle⟩, ⟨RowR.nil _ _ _ _, New.nil _⟩, RowsFs.nil _ _, ⟨r2.m, r2.nm.mono hle⟩⟩
end Go.Proofs.Ytocanbdpdnkapaa
