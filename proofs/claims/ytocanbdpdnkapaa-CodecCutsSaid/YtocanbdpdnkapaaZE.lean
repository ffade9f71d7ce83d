/- A reader that may be nil: Schema. -/
import Derived.Test.YtocanbdpdnkapaaZD
namespace Go.Proofs.Ytocanbdpdnkapaa
open Go.RowKit
set_option linter.unusedVariables false
set_option linter.unusedSimpArgs false

structure SchemaT where
  dims : List ByteArray
  meas : List ByteArray
def schema0 : SchemaT := ⟨[], []⟩
def schemaR (x : RdS) : SchemaT × RdS :=
  (if (sevR textR 4 (sevR textR 4 x).2).2.e = 0 then ⟨(sevR textR 4 x).1, (sevR textR 4 (sevR textR 4 x).2).1⟩ else schema0, (sevR textR 4 (sevR textR 4 x).2).2)
structure RowsS (n : Nat) (w : World) (f : SchemaT) (vd vm : Value) : Prop where
  d : RowS w.heap.size w vd f.dims
  m : RowS w.heap.size w vm f.meas
  nd : New n vd
  nm : New n vm
theorem RowsS.keepB {b : Option Nat} {w w' : World} {n : Nat} {f : SchemaT} {vd vm : Value} (h : RowsS n w f vd vm) (hk : KeepB b w w') (hb : ∀ B, b = some B → B < n) : RowsS n w' f vd vm :=
  ⟨Row.keepB h.d h.nd hk hb, Row.keepB h.m h.nm hk hb, h.nd, h.nm⟩
set_option maxRecDepth 100000 in
set_option maxHeartbeats 16000000 in
theorem schema65O (b : Option Nat) (x : RdS) (w : World) (hx : RdO b w x) :
    Calls Try.prog 65 #[wptr b] w fun e w' => ∃ vd vm, e = .returned (.agg #[vd, vm]) ∧ RdO b w' (schemaR x).2 ∧ KeepB b w w' ∧ RowsS w.heap.size w' (schemaR x).1 vd vm := by
  have hA := Blk.new w 103 #[.slice none 0 0, .slice none 0 0]
  have hBl := Below.al (Below.refl w.heap.size w) (Obj.cells #[.slice none 0 0, .slice none 0 0] 103)
  have hlt := hx.lt
  have hnA : b ≠ some w.heap.size := fun e => by have := hlt _ e; omega
  obtain ⟨w1, hw1⟩ : ∃ w1, w1 = w.alloc (Obj.cells #[.slice none 0 0, .slice none 0 0] 103) := ⟨_, rfl⟩
  have hs1 : w1.heap.size = w.heap.size + 1 := by rw [hw1]; simp
  rw [← hw1] at hA hBl
  have HT := Lib.hid (texts60O b x w1 (hx.below hBl))
  have HA := Lib.hid hA
  have HK := Lib.hid (KeepB.of (b := b) hBl)
  have HNA := Lib.hid hnA
  have HLT := Lib.hid (fun B (e : b = some B) => (show B < w1.heap.size by have := hlt B e; omega))
  have HLT0 := Lib.hid hlt
  have hR := show schemaR x = (if (sevR textR 4 (sevR textR 4 x).2).2.e = 0 then ⟨(sevR textR 4 x).1, (sevR textR 4 (sevR textR 4 x).2).1⟩ else schema0, (sevR textR 4 (sevR textR 4 x).2).2) from rfl
  obtain ⟨⟨l, y⟩, hy⟩ : ∃ y, sevR textR 4 x = y := ⟨_, rfl⟩
  rw [hy] at HT hR
  simp only at HT hR
  obtain ⟨⟨m, z⟩, hz⟩ : ∃ z, sevR textR 4 y = z := ⟨_, rfl⟩
  rw [hz] at hR
  simp only at hR
  have HZ := Lib.hid hz
  have HR := Lib.hid hR
  have HS1 := Lib.hid hs1
  clear hx hA hBl hnA hlt hR hy hz hs1
  go_enter Try.func65, Try.ntmps65
  go_upto_region 1 with fail
  rw [← hw1]
  clear hw1
  go_wp2_with fail
  refine HT.out.mono ?_
  rintro e w2 ⟨vd, rfl, h1, h2, h3, h4, -⟩
  have HA2 := Lib.hid (Blk.keepB HA.out h2 HNA.out)
  have HK2 := Lib.hid (HK.out.trans h2)
  have HD := Lib.hid (And.intro h3 h4)
  have hsz := h2.size
  have hM := texts60O b y w2 h1
  rw [HZ.out] at hM
  have HM := Lib.hid hM
  clear h1 h2 hM HA
  go_wp2_with fail
  refine HM.out.mono ?_
  rintro e w3 ⟨vm, rfl, g1, g2, g3, g4, -⟩
  have h3' := Row.keepB HD.out.1 HD.out.2 g2 HLT.out
  have hF : RowsS w1.heap.size w3 ⟨l, m⟩ vd vm := ⟨h3', g3, h4, g4.mono hsz⟩
  obtain ⟨a1, c1, e1, -⟩ := RowS.open hF.d
  obtain ⟨a2, c2, e2, -⟩ := RowS.open hF.m
  simp only at e1 e2
  subst e1 e2
  have hC := Blk.new w3 103 #[.slice a1 l.length c1, .slice a2 m.length c2]
  have hBl4 := Below.al (Below.refl w3.heap.size w3) (Obj.cells #[.slice a1 l.length c1, .slice a2 m.length c2] 103)
  have HA4 := Lib.hid (Blk.below (Blk.keepB HA2.out g2 HNA.out) hBl4 (Blk.keepB HA2.out g2 HNA.out).lt)
  have HX4 := Lib.hid (And.intro (RdO.below g1 hBl4) ((HK2.out.trans g2).call hBl4))
  have HF4 := Lib.hid (hF.keepB (KeepB.of (b := none) hBl4) (fun B e => by cases e))
  have HG := Lib.hid (good77O b z _ HX4.out.1)
  have HC := Lib.hid hC
  clear g1 g2 g3 g4 h3' hF hC hBl4 h3 h4 HD
  go_wp2_with fail
  refine HG.out.mono ?_
  rintro e w' ⟨rfl, rfl⟩
  by_cases he : z.e = 0
  · have he2 : (z.e == 0) = true := by simpa using he
    have HRR := Lib.hid (show schemaR x = (⟨l, m⟩, z) by rw [HR.out, if_pos he])
    go_wp2_with (first | (refine wpList_load_at rfl 103 _ rfl w3.heap.size 0 rfl #[.slice a1 l.length c1, .slice a2 m.length c2] _ (fun j hj => by rw [Nat.zero_add]; exact Blk.cell HC.out j) Try.underlying103 rfl info103 ?_) | (refine wpList_store_row rfl 103 _ _ rfl w.heap.size #[.slice a1 l.length c1, .slice a2 m.length c2] rfl rfl 103 _ HA4.out info103 rfl (by simp [Value.oneCell']) ?_))
    refine bodyPost_ret (results_cell_row rfl _ _ w.heap.size 103 #[.slice a1 l.length c1, .slice a2 m.length c2] (0, 0) _ rfl (Blk.setRow HA4.out) Try.underlying103 rfl info103) rfl ?_
    refine ⟨_, _, rfl, by rw [HRR.out]; exact RdO.setRow HX4.out.1 HNA.out _, KeepB.setRow HX4.out.2 (Nat.le_refl _) _, ?_⟩
    rw [HRR.out]
    have := HF4.out.keepB (KeepB.row _ w.heap.size #[.slice a1 l.length c1, .slice a2 m.length c2]) (fun B e => by cases e; have := HS1.out; omega)
    exact ⟨this.d, this.m, this.nd.mono (by have := HS1.out; omega), this.nm.mono (by have := HS1.out; omega)⟩
  · have he2 : (z.e == 0) = false := by simpa using he
    have HRR := Lib.hid (show schemaR x = (schema0, z) by rw [HR.out, if_neg he])
    go_wp2_with (refine wpList_store_row rfl 103 _ _ rfl w.heap.size #[.slice none 0 0, .slice none 0 0] rfl rfl 103 _ HA4.out info103 rfl (by simp [Value.oneCell']) ?_)
    refine bodyPost_ret (results_cell_row rfl _ _ w.heap.size 103 #[.slice none 0 0, .slice none 0 0] (0, 0) _ rfl (Blk.setRow HA4.out) Try.underlying103 rfl info103) rfl ?_
    refine ⟨_, _, rfl, by rw [HRR.out]; exact RdO.setRow HX4.out.1 HNA.out _, KeepB.setRow HX4.out.2 (Nat.le_refl _) _, ?_⟩
    rw [HRR.out]
    exact ⟨RowS.nil _ _, RowS.nil _ _, New.nil _, New.nil _⟩
end Go.Proofs.Ytocanbdpdnkapaa
