/- A reader that may be nil: Fact, Schema. -/
import Derived.Test.YtocanbdpdnkapaaZC
namespace Go.Proofs.Ytocanbdpdnkapaa
open Go.RowKit
set_option linter.unusedVariables false
set_option linter.unusedSimpArgs false

def factR (x : RdS) : FactT × RdS :=
  (if (sevR intRR 8 (sevR textR 4 x).2).2.e = 0 then ⟨(sevR textR 4 x).1, (sevR intRR 8 (sevR textR 4 x).2).1⟩ else fact0, (sevR intRR 8 (sevR textR 4 x).2).2)
/-- a fact's lists, read and new -/
structure RowsF (n : Nat) (w : World) (f : FactT) (vd vm : Value) : Prop where
  d : RowS w.heap.size w vd f.dims
  m : RowI w.heap.size w vm f.meas
  nd : New n vd
  nm : New n vm
  td : Typ 9 w vd
  tm : Typ 2 w vm
theorem Row.keepB {b : Option Nat} {w w' : World} {v : Value} {n size m : Nat} {xs : List Value} (h : Row w.heap.size w v n size xs) (hv : New m v) (hk : KeepB b w w') (hb : ∀ B, b = some B → B < m) : Row w'.heap.size w' v n size xs := by
  obtain ⟨hl, a, cap, rfl, h1, h2, h3⟩ := h
  refine ⟨hl, a, cap, rfl, h1, h2, fun hn => ?_⟩
  obtain ⟨g, off, rfl, hg, hc⟩ := h3 hn
  exact ⟨g, off, rfl, Nat.lt_of_lt_of_le hg hk.size, fun j hj => (World.cell?_of_block (hk.block g hg (fun e => by have := hb g e; have := hv g rfl; omega))).trans (hc j hj)⟩
theorem Typ.keepB {b : Option Nat} {w w' : World} {v : Value} {T : TypeId} {m : Nat} (h : Typ T w v) (hv : New m v) (hk : KeepB b w w') (hb : ∀ B, b = some B → B < m) : Typ T w' v := fun g hg => by
  obtain ⟨cs, hc⟩ := h g hg
  exact ⟨cs, Blk.keepB hc hk (fun e => by have := hb g e; have := hv g hg; omega)⟩
theorem RowsF.keepB {b : Option Nat} {w w' : World} {n : Nat} {f : FactT} {vd vm : Value} (h : RowsF n w f vd vm) (hk : KeepB b w w') (hb : ∀ B, b = some B → B < n) : RowsF n w' f vd vm :=
  ⟨Row.keepB h.d h.nd hk hb, Row.keepB h.m h.nm hk hb, h.nd, h.nm, h.td.keepB h.nd hk hb, h.tm.keepB h.nm hk hb⟩
theorem KeepB.row (w : World) (A : Nat) (cs : Array Value) : KeepB (some A) w (w.setRow A cs) :=
  ⟨rfl, rfl, rfl, by simp [World.setRow], fun k hk hb => setRow_other w A k cs (fun e => hb (by rw [e]))⟩
theorem info103 : (Try.prog.info? 103).map (·.size) = some 2 := by kernel_rfl
set_option maxRecDepth 100000 in
set_option maxHeartbeats 16000000 in
theorem fact63O (b : Option Nat) (x : RdS) (w : World) (hx : RdO b w x) :
    Calls Try.prog 63 #[wptr b] w fun e w' => ∃ vd vm, e = .returned (.agg #[vd, vm]) ∧ RdO b w' (factR x).2 ∧ KeepB b w w' ∧ RowsF w.heap.size w' (factR x).1 vd vm := by
  have hA := Blk.new w 98 #[.slice none 0 0, .slice none 0 0]
  have hBl := Below.al (Below.refl w.heap.size w) (Obj.cells #[.slice none 0 0, .slice none 0 0] 98)
  have hlt := hx.lt
  have hnA : b ≠ some w.heap.size := fun e => by have := hlt _ e; omega
  obtain ⟨w1, hw1⟩ : ∃ w1, w1 = w.alloc (Obj.cells #[.slice none 0 0, .slice none 0 0] 98) := ⟨_, rfl⟩
  have hs1 : w1.heap.size = w.heap.size + 1 := by rw [hw1]; simp
  rw [← hw1] at hA hBl
  have HT := Lib.hid (texts60O b x w1 (hx.below hBl))
  have HA := Lib.hid hA
  have HK := Lib.hid (KeepB.of (b := b) hBl)
  have HNA := Lib.hid hnA
  have HLT := Lib.hid (fun B (e : b = some B) => (show B < w1.heap.size by have := hlt B e; omega))
  have HLT0 := Lib.hid hlt
  have hR := show factR x = (if (sevR intRR 8 (sevR textR 4 x).2).2.e = 0 then ⟨(sevR textR 4 x).1, (sevR intRR 8 (sevR textR 4 x).2).1⟩ else fact0, (sevR intRR 8 (sevR textR 4 x).2).2) from rfl
  obtain ⟨⟨l, y⟩, hy⟩ : ∃ y, sevR textR 4 x = y := ⟨_, rfl⟩
  rw [hy] at HT hR
  simp only at HT hR
  obtain ⟨⟨m, z⟩, hz⟩ : ∃ z, sevR intRR 8 y = z := ⟨_, rfl⟩
  rw [hz] at hR
  simp only at hR
  have HZ := Lib.hid hz
  have HR := Lib.hid hR
  have HS1 := Lib.hid hs1
  clear hx hA hBl hnA hlt hR hy hz hs1
  go_enter Try.func63, Try.ntmps63
  go_upto_region 1 with fail
  rw [← hw1]
  clear hw1
  go_wp2_with fail
  refine HT.out.mono ?_
  rintro e w2 ⟨vd, rfl, h1, h2, h3, h4, h5⟩
  have HA2 := Lib.hid (Blk.keepB HA.out h2 HNA.out)
  have HK2 := Lib.hid (HK.out.trans h2)
  have HD := Lib.hid (And.intro h3 (And.intro h4 h5))
  have hsz := h2.size
  have hM := sev87O b y w2 h1
  rw [HZ.out] at hM
  have HM := Lib.hid hM
  clear h1 h2 hM HA
  go_wp2_with fail
  refine HM.out.mono ?_
  rintro e w3 ⟨vm, rfl, g1, g2, g3, g4, g5⟩
  have h3' := Row.keepB HD.out.1 HD.out.2.1 g2 HLT.out
  have hF : RowsF w1.heap.size w3 ⟨l, m⟩ vd vm := ⟨h3', g3, h4, g4.mono hsz, h5.keepB h4 g2 HLT.out, g5⟩
  obtain ⟨a1, c1, e1, -⟩ := RowS.open hF.d
  obtain ⟨a2, c2, e2, -⟩ := RowI.open hF.m
  simp only at e1 e2
  subst e1 e2
  have hC := Blk.new w3 98 #[.slice a1 l.length c1, .slice a2 m.length c2]
  have hBl4 := Below.al (Below.refl w3.heap.size w3) (Obj.cells #[.slice a1 l.length c1, .slice a2 m.length c2] 98)
  have HA4 := Lib.hid (Blk.below (Blk.keepB HA2.out g2 HNA.out) hBl4 (Blk.keepB HA2.out g2 HNA.out).lt)
  have HX4 := Lib.hid (And.intro (RdO.below g1 hBl4) ((HK2.out.trans g2).call hBl4))
  have HF4 := Lib.hid (hF.keepB (KeepB.of (b := none) hBl4) (fun B e => by cases e))
  have HG := Lib.hid (good77O b z _ HX4.out.1)
  have HC := Lib.hid hC
  clear g1 g2 g3 g4 g5 h3' hF hC hBl4 h3 h4 h5 HD
  go_wp2_with fail
  refine HG.out.mono ?_
  rintro e w' ⟨rfl, rfl⟩
  by_cases he : z.e = 0
  · have he2 : (z.e == 0) = true := by simpa using he
    have HRR := Lib.hid (show factR x = (⟨l, m⟩, z) by rw [HR.out, if_pos he])
    go_wp2_with (first | (refine wpList_load_at rfl 98 _ rfl w3.heap.size 0 rfl #[.slice a1 l.length c1, .slice a2 m.length c2] _ (fun j hj => by rw [Nat.zero_add]; exact Blk.cell HC.out j) Try.underlying98 rfl info98 ?_) | (refine wpList_store_row rfl 98 _ _ rfl w.heap.size #[.slice a1 l.length c1, .slice a2 m.length c2] rfl rfl 98 _ HA4.out info98 rfl (by simp [Value.oneCell']) ?_))
    refine bodyPost_ret (results_cell_row rfl _ _ w.heap.size 98 #[.slice a1 l.length c1, .slice a2 m.length c2] (0, 0) _ rfl (Blk.setRow HA4.out) Try.underlying98 rfl info98) rfl ?_
    refine ⟨_, _, rfl, by rw [HRR.out]; exact RdO.setRow HX4.out.1 HNA.out _, KeepB.setRow HX4.out.2 (Nat.le_refl _) _, ?_⟩
    rw [HRR.out]
    have := HF4.out.keepB (KeepB.row _ w.heap.size #[.slice a1 l.length c1, .slice a2 m.length c2]) (fun B e => by cases e; have := HS1.out; omega)
    exact ⟨this.d, this.m, this.nd.mono (by have := HS1.out; omega), this.nm.mono (by have := HS1.out; omega), this.td, this.tm⟩
  · have he2 : (z.e == 0) = false := by simpa using he
    have HRR := Lib.hid (show factR x = (fact0, z) by rw [HR.out, if_neg he])
    go_wp2_with (refine wpList_store_row rfl 98 _ _ rfl w.heap.size #[.slice none 0 0, .slice none 0 0] rfl rfl 98 _ HA4.out info98 rfl (by simp [Value.oneCell']) ?_)
    refine bodyPost_ret (results_cell_row rfl _ _ w.heap.size 98 #[.slice none 0 0, .slice none 0 0] (0, 0) _ rfl (Blk.setRow HA4.out) Try.underlying98 rfl info98) rfl ?_
    refine ⟨_, _, rfl, by rw [HRR.out]; exact RdO.setRow HX4.out.1 HNA.out _, KeepB.setRow HX4.out.2 (Nat.le_refl _) _, ?_⟩
    rw [HRR.out]
    exact ⟨RowS.nil _ _, RowI.nil _ _, New.nil _, New.nil _, Typ.nil _ _, Typ.nil _ _⟩
end Go.Proofs.Ytocanbdpdnkapaa
