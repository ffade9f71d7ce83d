/- A reader that may be nil: Texts, numbers, Cells, Fact, Schema. -/
import Derived.Test.YtocanbdpdnkapaaZB
namespace Go.Proofs.Ytocanbdpdnkapaa
open Go.RowKit
set_option linter.unusedVariables false
set_option linter.unusedSimpArgs false

def nilX : RdS := ⟨emptyS, 1⟩
theorem nilX_e : (nilX.e == 0) = false := rfl
set_option maxHeartbeats 4000000 in
theorem sev85_nil (w : World) : Calls Try.prog 85 #[.pointer none, .int .i64 4, .func (Fn.func 35) #[.pointer none] #[]] w fun e w' => e = .returned (.slice none 0 0) ∧ KeepB none w w' := by
  have HT := Lib.hid (fun w => take75O none nilX 4 (by omega) w rfl)
  have HG := Lib.hid (fun w => good77O none nilX w rfl)
  have HN := Lib.hid (fun w => number40 emptyS w (by decide))
  rw [show deS emptyS = 0 from rfl] at HN
  rw [nilX_e] at HG
  go_enter Try.func85, Try.ntmps85
  go_wp2_with fail
  refine (HT.out w).mono ?_
  rintro e w1 ⟨rfl, -, h2⟩
  have H1 := Lib.hid h2
  clear h2
  rw [show (takeR nilX 4).1 = emptyS from rfl]
  go_wp2_with fail
  refine (HN.out w1).mono ?_
  rintro e w' ⟨rfl, rfl⟩
  go_wp2_with fail
  refine (HG.out w1).mono ?_
  rintro e w' ⟨rfl, rfl⟩
  go_wp2_with fail
  go_loopw [8, 9] (fun v i wr => v = .slice none 0 0 ∧ i = .int .i64 0 ∧ KeepB none w wr) (fun _ _ _ => 0)
  case atStart => exact ⟨rfl, rfl, H1.out⟩
  case round =>
    obtain ⟨rfl, rfl, hB⟩ := hrel
    have HB := Lib.hid hB
    have HG2 := Lib.hid (HG.out wr)
    clear hB
    go_wp2_with fail
    refine HG2.out.mono ?_
    rintro e w' ⟨rfl, rfl⟩
    go_wp2_with fail
    go_ret
    exact ⟨rfl, HB.out⟩
theorem sev85O (b : Option Nat) (x : RdS) (w : World) (hx : RdO b w x) :
    Calls Try.prog 85 #[wptr b, .int .i64 4, .func (Fn.func 35) #[wptr b] #[]] w fun e w' => ∃ v, e = .returned v ∧ RdO b w' (sevR textR 4 x).2 ∧ KeepB b w w' ∧ RowS w'.heap.size w' v (sevR textR 4 x).1 ∧ New w.heap.size v ∧ Typ 9 w' v := by
  cases b with
  | some B => exact sev85 B x w hx
  | none =>
    have hx : x = nilX := hx
    subst hx
    rw [show sevR textR 4 nilX = ([], nilX) from rfl]
    exact (sev85_nil w).mono fun e w' ⟨h1, h2⟩ => ⟨_, h1, rfl, h2, RowS.nil _ _, New.nil _, Typ.nil _ _⟩
set_option maxHeartbeats 4000000 in
theorem sev87_nil (w : World) : Calls Try.prog 87 #[.pointer none, .int .i64 8, .func (Fn.func 58) #[.pointer none] #[]] w fun e w' => e = .returned (.slice none 0 0) ∧ KeepB none w w' := by
  have HT := Lib.hid (fun w => take75O none nilX 4 (by omega) w rfl)
  have HG := Lib.hid (fun w => good77O none nilX w rfl)
  have HN := Lib.hid (fun w => number40 emptyS w (by decide))
  rw [show deS emptyS = 0 from rfl] at HN
  rw [nilX_e] at HG
  go_enter Try.func87, Try.ntmps87
  go_wp2_with fail
  refine (HT.out w).mono ?_
  rintro e w1 ⟨rfl, -, h2⟩
  have H1 := Lib.hid h2
  clear h2
  rw [show (takeR nilX 4).1 = emptyS from rfl]
  go_wp2_with fail
  refine (HN.out w1).mono ?_
  rintro e w' ⟨rfl, rfl⟩
  go_wp2_with fail
  refine (HG.out w1).mono ?_
  rintro e w' ⟨rfl, rfl⟩
  go_wp2_with fail
  go_loopw [8, 9] (fun v i wr => v = .slice none 0 0 ∧ i = .int .i64 0 ∧ KeepB none w wr) (fun _ _ _ => 0)
  case atStart => exact ⟨rfl, rfl, H1.out⟩
  case round =>
    obtain ⟨rfl, rfl, hB⟩ := hrel
    have HB := Lib.hid hB
    have HG2 := Lib.hid (HG.out wr)
    clear hB
    go_wp2_with fail
    refine HG2.out.mono ?_
    rintro e w' ⟨rfl, rfl⟩
    go_wp2_with fail
    go_ret
    exact ⟨rfl, HB.out⟩
theorem sev87O (b : Option Nat) (x : RdS) (w : World) (hx : RdO b w x) :
    Calls Try.prog 87 #[wptr b, .int .i64 8, .func (Fn.func 58) #[wptr b] #[]] w fun e w' => ∃ v, e = .returned v ∧ RdO b w' (sevR intRR 8 x).2 ∧ KeepB b w w' ∧ RowI w'.heap.size w' v (sevR intRR 8 x).1 ∧ New w.heap.size v ∧ Typ 2 w' v := by
  cases b with
  | some B => exact sev87 B x w hx
  | none =>
    have hx : x = nilX := hx
    subst hx
    rw [show sevR intRR 8 nilX = ([], nilX) from rfl]
    exact (sev87_nil w).mono fun e w' ⟨h1, h2⟩ => ⟨_, h1, rfl, h2, RowI.nil _ _, New.nil _, Typ.nil _ _⟩
set_option maxHeartbeats 4000000 in
theorem sev86_nil (w : World) : Calls Try.prog 86 #[.pointer none, .int .i64 1, .func (Fn.func 61) #[.pointer none] #[]] w fun e w' => e = .returned (.slice none 0 0) ∧ KeepB none w w' := by
  have HT := Lib.hid (fun w => take75O none nilX 4 (by omega) w rfl)
  have HG := Lib.hid (fun w => good77O none nilX w rfl)
  have HN := Lib.hid (fun w => number40 emptyS w (by decide))
  rw [show deS emptyS = 0 from rfl] at HN
  rw [nilX_e] at HG
  go_enter Try.func86, Try.ntmps86
  go_wp2_with fail
  refine (HT.out w).mono ?_
  rintro e w1 ⟨rfl, -, h2⟩
  have H1 := Lib.hid h2
  clear h2
  rw [show (takeR nilX 4).1 = emptyS from rfl]
  go_wp2_with fail
  refine (HN.out w1).mono ?_
  rintro e w' ⟨rfl, rfl⟩
  go_wp2_with fail
  refine (HG.out w1).mono ?_
  rintro e w' ⟨rfl, rfl⟩
  go_wp2_with fail
  go_loopw [8, 9] (fun v i wr => v = .slice none 0 0 ∧ i = .int .i64 0 ∧ KeepB none w wr) (fun _ _ _ => 0)
  case atStart => exact ⟨rfl, rfl, H1.out⟩
  case round =>
    obtain ⟨rfl, rfl, hB⟩ := hrel
    have HB := Lib.hid hB
    have HG2 := Lib.hid (HG.out wr)
    clear hB
    go_wp2_with fail
    refine HG2.out.mono ?_
    rintro e w' ⟨rfl, rfl⟩
    go_wp2_with fail
    go_ret
    exact ⟨rfl, HB.out⟩
theorem sev86O (b : Option Nat) (x : RdS) (w : World) (hx : RdO b w x) :
    Calls Try.prog 86 #[wptr b, .int .i64 1, .func (Fn.func 61) #[wptr b] #[]] w fun e w' => ∃ v, e = .returned v ∧ RdO b w' (sevR cellR 1 x).2 ∧ KeepB b w w' ∧ RowC w'.heap.size w' v (sevR cellR 1 x).1 ∧ New w.heap.size v ∧ Typ 92 w' v := by
  cases b with
  | some B => exact sev86 B x w hx
  | none =>
    have hx : x = nilX := hx
    subst hx
    rw [show sevR cellR 1 nilX = ([], nilX) from rfl]
    exact (sev86_nil w).mono fun e w' ⟨h1, h2⟩ => ⟨_, h1, rfl, h2, RowR.nil _ _ _ _, New.nil _, Typ.nil _ _⟩
theorem texts60O (b : Option Nat) (x : RdS) (w : World) (hx : RdO b w x) :
    Calls Try.prog 60 #[wptr b] w fun e w' => ∃ v, e = .returned v ∧ RdO b w' (sevR textR 4 x).2 ∧ KeepB b w w' ∧ RowS w'.heap.size w' v (sevR textR 4 x).1 ∧ New w.heap.size v ∧ Typ 9 w' v := by
  have HC := Lib.hid (sev85O b x w hx)
  clear hx
  go_enter Try.func60, Try.ntmps60
  go_wp2_with fail
  refine HC.out.mono ?_
  rintro e w1 ⟨v, rfl, h⟩
  have H := Lib.hid h
  clear h
  go_wp2_with fail
  go_ret
  exact ⟨v, rfl, H.out⟩
theorem cells62O (b : Option Nat) (x : RdS) (w : World) (hx : RdO b w x) :
    Calls Try.prog 62 #[wptr b] w fun e w' => ∃ v, e = .returned v ∧ RdO b w' (sevR cellR 1 x).2 ∧ KeepB b w w' ∧ RowC w'.heap.size w' v (sevR cellR 1 x).1 ∧ New w.heap.size v ∧ Typ 92 w' v := by
  have HC := Lib.hid (sev86O b x w hx)
  clear hx
  go_enter Try.func62, Try.ntmps62
  go_wp2_with fail
  refine HC.out.mono ?_
  rintro e w1 ⟨v, rfl, h⟩
  have H := Lib.hid h
  clear h
  go_wp2_with fail
  go_ret
  exact ⟨v, rfl, H.out⟩


def factR (x : RdS) : FactT × RdS :=
  (if (sevR intRR 8 (sevR textR 4 x).2).2.e = 0 then ⟨(sevR textR 4 x).1, (sevR intRR 8 (sevR textR 4 x).2).1⟩ else fact0, (sevR intRR 8 (sevR textR 4 x).2).2)
/-- a fact's lists, read and new -/
structure RowsF (n : Nat) (w : World) (f : FactT) (vd vm : Value) : Prop where
  d : RowS w.heap.size w vd f.dims
  m : RowI w.heap.size w vm f.meas
  nd : New n vd
  nm : New n vm
  td : Typ 9 w vd
  tm : Typ 2 w vm
theorem Row.keepB {b : Option Nat} {w w' : World} {v : Value} {n size m : Nat} {xs : List Value} (h : Row w.heap.size w v n size xs) (hv : New m v) (hk : KeepB b w w') (hb : ∀ B, b = some B → B < m) : Row w'.heap.size w' v n size xs := by
  obtain ⟨hl, a, cap, rfl, h1, h2, h3⟩ := h
  refine ⟨hl, a, cap, rfl, h1, h2, fun hn => ?_⟩
  obtain ⟨g, off, rfl, hg, hc⟩ := h3 hn
  exact ⟨g, off, rfl, Nat.lt_of_lt_of_le hg hk.size, fun j hj => (World.cell?_of_block (hk.block g hg (fun e => by have := hb g e; have := hv g rfl; omega))).trans (hc j hj)⟩
theorem Typ.keepB {b : Option Nat} {w w' : World} {v : Value} {T : TypeId} {m : Nat} (h : Typ T w v) (hv : New m v) (hk : KeepB b w w') (hb : ∀ B, b = some B → B < m) : Typ T w' v := fun g hg => by
  obtain ⟨cs, hc⟩ := h g hg
  exact ⟨cs, Blk.keepB hc hk (fun e => by have := hb g e; have := hv g hg; omega)⟩
theorem RowsF.keepB {b : Option Nat} {w w' : World} {n : Nat} {f : FactT} {vd vm : Value} (h : RowsF n w f vd vm) (hk : KeepB b w w') (hb : ∀ B, b = some B → B < n) : RowsF n w' f vd vm :=
  ⟨Row.keepB h.d h.nd hk hb, Row.keepB h.m h.nm hk hb, h.nd, h.nm, h.td.keepB h.nd hk hb, h.tm.keepB h.nm hk hb⟩
theorem KeepB.row (w : World) (A : Nat) (cs : Array Value) : KeepB (some A) w (w.setRow A cs) :=
  ⟨rfl, rfl, rfl, by simp [World.setRow], fun k hk hb => setRow_other w A k cs (fun e => hb (by rw [e]))⟩
theorem info103 : (Try.prog.info? 103).map (·.size) = some 2 := by kernel_rfl
set_option maxRecDepth 100000 in
set_option maxHeartbeats 16000000 in
theorem fact63O (b : Option Nat) (x : RdS) (w : World) (hx : RdO b w x) :
    Calls Try.prog 63 #[wptr b] w fun e w' => ∃ vd vm, e = .returned (.agg #[vd, vm]) ∧ RdO b w' (factR x).2 ∧ KeepB b w w' ∧ RowsF w.heap.size w' (factR x).1 vd vm := by
  have hA := Blk.new w 98 #[.slice none 0 0, .slice none 0 0]
  have hBl := Below.al (Below.refl w.heap.size w) (Obj.cells #[.slice none 0 0, .slice none 0 0] 98)
  have hlt := hx.lt
  have hnA : b ≠ some w.heap.size := fun e => by have := hlt _ e; omega
  obtain ⟨w1, hw1⟩ : ∃ w1, w1 = w.alloc (Obj.cells #[.slice none 0 0, .slice none 0 0] 98) := ⟨_, rfl⟩
  have hs1 : w1.heap.size = w.heap.size + 1 := by rw [hw1]; simp
  rw [← hw1] at hA hBl
  have HT := Lib.hid (texts60O b x w1 (hx.below hBl))
  have HA := Lib.hid hA
  have HK := Lib.hid (KeepB.of (b := b) hBl)
  have HNA := Lib.hid hnA
  have HLT := Lib.hid (fun B (e : b = some B) => (show B < w1.heap.size by have := hlt B e; omega))
  have HLT0 := Lib.hid hlt
  have hR := show factR x = (if (sevR intRR 8 (sevR textR 4 x).2).2.e = 0 then ⟨(sevR textR 4 x).1, (sevR intRR 8 (sevR textR 4 x).2).1⟩ else fact0, (sevR intRR 8 (sevR textR 4 x).2).2) from rfl
  obtain ⟨⟨l, y⟩, hy⟩ : ∃ y, sevR textR 4 x = y := ⟨_, rfl⟩
  rw [hy] at HT hR
  simp only at HT hR
  obtain ⟨⟨m, z⟩, hz⟩ : ∃ z, sevR intRR 8 y = z := ⟨_, rfl⟩
  rw [hz] at hR
  simp only at hR
  have HZ := Lib.hid hz
  have HR := Lib.hid hR
  have HS1 := Lib.hid hs1
  clear hx hA hBl hnA hlt hR hy hz hs1
  go_enter Try.func63, Try.ntmps63
  go_upto_region 1 with fail
  rw [← hw1]
  clear hw1
  go_wp2_with fail
  refine HT.out.mono ?_
  rintro e w2 ⟨vd, rfl, h1, h2, h3, h4, h5⟩
  have HA2 := Lib.hid (Blk.keepB HA.out h2 HNA.out)
  have HK2 := Lib.hid (HK.out.trans h2)
  have HD := Lib.hid (And.intro h3 (And.intro h4 h5))
  have hsz := h2.size
  have hM := sev87O b y w2 h1
  rw [HZ.out] at hM
  have HM := Lib.hid hM
  clear h1 h2 hM HA
  go_wp2_with fail
  refine HM.out.mono ?_
  rintro e w3 ⟨vm, rfl, g1, g2, g3, g4, g5⟩
  have h3' := Row.keepB HD.out.1 HD.out.2.1 g2 HLT.out
  have hF : RowsF w1.heap.size w3 ⟨l, m⟩ vd vm := ⟨h3', g3, h4, g4.mono hsz, h5.keepB h4 g2 HLT.out, g5⟩
  obtain ⟨a1, c1, e1, -⟩ := RowS.open hF.d
  obtain ⟨a2, c2, e2, -⟩ := RowI.open hF.m
  simp only at e1 e2
  subst e1 e2
  have hC := Blk.new w3 98 #[.slice a1 l.length c1, .slice a2 m.length c2]
  have hBl4 := Below.al (Below.refl w3.heap.size w3) (Obj.cells #[.slice a1 l.length c1, .slice a2 m.length c2] 98)
  have HA4 := Lib.hid (Blk.below (Blk.keepB HA2.out g2 HNA.out) hBl4 (Blk.keepB HA2.out g2 HNA.out).lt)
  have HX4 := Lib.hid (And.intro (RdO.below g1 hBl4) ((HK2.out.trans g2).call hBl4))
  have HF4 := Lib.hid (hF.keepB (KeepB.of (b := none) hBl4) (fun B e => by cases e))
  have HG := Lib.hid (good77O b z _ HX4.out.1)
  have HC := Lib.hid hC
  clear g1 g2 g3 g4 g5 h3' hF hC hBl4 h3 h4 h5 HD
  go_wp2_with fail
  refine HG.out.mono ?_
  rintro e w' ⟨rfl, rfl⟩
  by_cases he : z.e = 0
  · have he2 : (z.e == 0) = true := by simpa using he
    have HRR := Lib.hid (show factR x = (⟨l, m⟩, z) by rw [HR.out, if_pos he])
    go_wp2_with (first | (refine wpList_load_at rfl 98 _ rfl w3.heap.size 0 rfl #[.slice a1 l.length c1, .slice a2 m.length c2] _ (fun j hj => by rw [Nat.zero_add]; exact Blk.cell HC.out j) Try.underlying98 rfl info98 ?_) | (refine wpList_store_row rfl 98 _ _ rfl w.heap.size #[.slice a1 l.length c1, .slice a2 m.length c2] rfl rfl 98 _ HA4.out info98 rfl (by simp [Value.oneCell']) ?_))
    refine bodyPost_ret (results_cell_row rfl _ _ w.heap.size 98 #[.slice a1 l.length c1, .slice a2 m.length c2] (0, 0) _ rfl (Blk.setRow HA4.out) Try.underlying98 rfl info98) rfl ?_
    refine ⟨_, _, rfl, by rw [HRR.out]; exact RdO.setRow HX4.out.1 HNA.out _, KeepB.setRow HX4.out.2 (Nat.le_refl _) _, ?_⟩
    rw [HRR.out]
    have := HF4.out.keepB (KeepB.row _ w.heap.size #[.slice a1 l.length c1, .slice a2 m.length c2]) (fun B e => by cases e; have := HS1.out; omega)
    exact ⟨this.d, this.m, this.nd.mono (by have := HS1.out; omega), this.nm.mono (by have := HS1.out; omega), this.td, this.tm⟩
  · have he2 : (z.e == 0) = false := by simpa using he
    have HRR := Lib.hid (show factR x = (fact0, z) by rw [HR.out, if_neg he])
    go_wp2_with (refine wpList_store_row rfl 98 _ _ rfl w.heap.size #[.slice none 0 0, .slice none 0 0] rfl rfl 98 _ HA4.out info98 rfl (by simp [Value.oneCell']) ?_)
    refine bodyPost_ret (results_cell_row rfl _ _ w.heap.size 98 #[.slice none 0 0, .slice none 0 0] (0, 0) _ rfl (Blk.setRow HA4.out) Try.underlying98 rfl info98) rfl ?_
    refine ⟨_, _, rfl, by rw [HRR.out]; exact RdO.setRow HX4.out.1 HNA.out _, KeepB.setRow HX4.out.2 (Nat.le_refl _) _, ?_⟩
    rw [HRR.out]
    exact ⟨RowS.nil _ _, RowI.nil _ _, New.nil _, New.nil _, Typ.nil _ _, Typ.nil _ _⟩


structure SchemaT where
  dims : List ByteArray
  meas : List ByteArray
def schema0 : SchemaT := ⟨[], []⟩
def schemaR (x : RdS) : SchemaT × RdS :=
  (if (sevR textR 4 (sevR textR 4 x).2).2.e = 0 then ⟨(sevR textR 4 x).1, (sevR textR 4 (sevR textR 4 x).2).1⟩ else schema0, (sevR textR 4 (sevR textR 4 x).2).2)
structure RowsS (n : Nat) (w : World) (f : SchemaT) (vd vm : Value) : Prop where
  d : RowS w.heap.size w vd f.dims
  m : RowS w.heap.size w vm f.meas
  nd : New n vd
  nm : New n vm
theorem RowsS.keepB {b : Option Nat} {w w' : World} {n : Nat} {f : SchemaT} {vd vm : Value} (h : RowsS n w f vd vm) (hk : KeepB b w w') (hb : ∀ B, b = some B → B < n) : RowsS n w' f vd vm :=
  ⟨Row.keepB h.d h.nd hk hb, Row.keepB h.m h.nm hk hb, h.nd, h.nm⟩
set_option maxRecDepth 100000 in
set_option maxHeartbeats 16000000 in
theorem schema65O (b : Option Nat) (x : RdS) (w : World) (hx : RdO b w x) :
    Calls Try.prog 65 #[wptr b] w fun e w' => ∃ vd vm, e = .returned (.agg #[vd, vm]) ∧ RdO b w' (schemaR x).2 ∧ KeepB b w w' ∧ RowsS w.heap.size w' (schemaR x).1 vd vm := by
  have hA := Blk.new w 103 #[.slice none 0 0, .slice none 0 0]
  have hBl := Below.al (Below.refl w.heap.size w) (Obj.cells #[.slice none 0 0, .slice none 0 0] 103)
  have hlt := hx.lt
  have hnA : b ≠ some w.heap.size := fun e => by have := hlt _ e; omega
  obtain ⟨w1, hw1⟩ : ∃ w1, w1 = w.alloc (Obj.cells #[.slice none 0 0, .slice none 0 0] 103) := ⟨_, rfl⟩
  have hs1 : w1.heap.size = w.heap.size + 1 := by rw [hw1]; simp
  rw [← hw1] at hA hBl
  have HT := Lib.hid (texts60O b x w1 (hx.below hBl))
  have HA := Lib.hid hA
  have HK := Lib.hid (KeepB.of (b := b) hBl)
  have HNA := Lib.hid hnA
  have HLT := Lib.hid (fun B (e : b = some B) => (show B < w1.heap.size by have := hlt B e; omega))
  have HLT0 := Lib.hid hlt
  have hR := show schemaR x = (if (sevR textR 4 (sevR textR 4 x).2).2.e = 0 then ⟨(sevR textR 4 x).1, (sevR textR 4 (sevR textR 4 x).2).1⟩ else schema0, (sevR textR 4 (sevR textR 4 x).2).2) from rfl
  obtain ⟨⟨l, y⟩, hy⟩ : ∃ y, sevR textR 4 x = y := ⟨_, rfl⟩
  rw [hy] at HT hR
  simp only at HT hR
  obtain ⟨⟨m, z⟩, hz⟩ : ∃ z, sevR textR 4 y = z := ⟨_, rfl⟩
  rw [hz] at hR
  simp only at hR
  have HZ := Lib.hid hz
  have HR := Lib.hid hR
  have HS1 := Lib.hid hs1
  clear hx hA hBl hnA hlt hR hy hz hs1
  go_enter Try.func65, Try.ntmps65
  go_upto_region 1 with fail
  rw [← hw1]
  clear hw1
  go_wp2_with fail
  refine HT.out.mono ?_
  rintro e w2 ⟨vd, rfl, h1, h2, h3, h4, -⟩
  have HA2 := Lib.hid (Blk.keepB HA.out h2 HNA.out)
  have HK2 := Lib.hid (HK.out.trans h2)
  have HD := Lib.hid (And.intro h3 h4)
  have hsz := h2.size
  have hM := texts60O b y w2 h1
  rw [HZ.out] at hM
  have HM := Lib.hid hM
  clear h1 h2 hM HA
  go_wp2_with fail
  refine HM.out.mono ?_
  rintro e w3 ⟨vm, rfl, g1, g2, g3, g4, -⟩
  have h3' := Row.keepB HD.out.1 HD.out.2 g2 HLT.out
  have hF : RowsS w1.heap.size w3 ⟨l, m⟩ vd vm := ⟨h3', g3, h4, g4.mono hsz⟩
  obtain ⟨a1, c1, e1, -⟩ := RowS.open hF.d
  obtain ⟨a2, c2, e2, -⟩ := RowS.open hF.m
  simp only at e1 e2
  subst e1 e2
  have hC := Blk.new w3 103 #[.slice a1 l.length c1, .slice a2 m.length c2]
  have hBl4 := Below.al (Below.refl w3.heap.size w3) (Obj.cells #[.slice a1 l.length c1, .slice a2 m.length c2] 103)
  have HA4 := Lib.hid (Blk.below (Blk.keepB HA2.out g2 HNA.out) hBl4 (Blk.keepB HA2.out g2 HNA.out).lt)
  have HX4 := Lib.hid (And.intro (RdO.below g1 hBl4) ((HK2.out.trans g2).call hBl4))
  have HF4 := Lib.hid (hF.keepB (KeepB.of (b := none) hBl4) (fun B e => by cases e))
  have HG := Lib.hid (good77O b z _ HX4.out.1)
  have HC := Lib.hid hC
  clear g1 g2 g3 g4 h3' hF hC hBl4 h3 h4 HD
  go_wp2_with fail
  refine HG.out.mono ?_
  rintro e w' ⟨rfl, rfl⟩
  by_cases he : z.e = 0
  · have he2 : (z.e == 0) = true := by simpa using he
    have HRR := Lib.hid (show schemaR x = (⟨l, m⟩, z) by rw [HR.out, if_pos he])
    go_wp2_with (first | (refine wpList_load_at rfl 103 _ rfl w3.heap.size 0 rfl #[.slice a1 l.length c1, .slice a2 m.length c2] _ (fun j hj => by rw [Nat.zero_add]; exact Blk.cell HC.out j) Try.underlying103 rfl info103 ?_) | (refine wpList_store_row rfl 103 _ _ rfl w.heap.size #[.slice a1 l.length c1, .slice a2 m.length c2] rfl rfl 103 _ HA4.out info103 rfl (by simp [Value.oneCell']) ?_))
    refine bodyPost_ret (results_cell_row rfl _ _ w.heap.size 103 #[.slice a1 l.length c1, .slice a2 m.length c2] (0, 0) _ rfl (Blk.setRow HA4.out) Try.underlying103 rfl info103) rfl ?_
    refine ⟨_, _, rfl, by rw [HRR.out]; exact RdO.setRow HX4.out.1 HNA.out _, KeepB.setRow HX4.out.2 (Nat.le_refl _) _, ?_⟩
    rw [HRR.out]
    have := HF4.out.keepB (KeepB.row _ w.heap.size #[.slice a1 l.length c1, .slice a2 m.length c2]) (fun B e => by cases e; have := HS1.out; omega)
    exact ⟨this.d, this.m, this.nd.mono (by have := HS1.out; omega), this.nm.mono (by have := HS1.out; omega)⟩
  · have he2 : (z.e == 0) = false := by simpa using he
    have HRR := Lib.hid (show schemaR x = (schema0, z) by rw [HR.out, if_neg he])
    go_wp2_with (refine wpList_store_row rfl 103 _ _ rfl w.heap.size #[.slice none 0 0, .slice none 0 0] rfl rfl 103 _ HA4.out info103 rfl (by simp [Value.oneCell']) ?_)
    refine bodyPost_ret (results_cell_row rfl _ _ w.heap.size 103 #[.slice none 0 0, .slice none 0 0] (0, 0) _ rfl (Blk.setRow HA4.out) Try.underlying103 rfl info103) rfl ?_
    refine ⟨_, _, rfl, by rw [HRR.out]; exact RdO.setRow HX4.out.1 HNA.out _, KeepB.setRow HX4.out.2 (Nat.le_refl _) _, ?_⟩
    rw [HRR.out]
    exact ⟨RowS.nil _ _, RowS.nil _ _, New.nil _, New.nil _⟩

end Go.Proofs.Ytocanbdpdnkapaa
