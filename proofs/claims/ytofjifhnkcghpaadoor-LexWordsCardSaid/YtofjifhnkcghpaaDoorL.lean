/- awake. -/
import Derived.Test.YtofjifhnkcghpaaDoorK
namespace Go.Proofs.YtofjifhnkcghpaaDoor
open Go.RowKit
set_option linter.unusedVariables false
set_option linter.unusedSimpArgs false
set_option maxRecDepth 100000
def aw1 : ByteArray := ⟨#[120, 60, 62, 39, 105, 116, 39, 39, 115, 39]⟩
def aw2 : ByteArray := ⟨#[97, 32, 55, 98]⟩
def awL : List Wd := [⟨1, [120], 0⟩, ⟨5, [60, 62], 1⟩, ⟨4, [105, 116, 39, 115], 3⟩, ⟨6, [], 10⟩]
theorem aw1_lex : lexF aw1 = .ok awL := by kernel_rfl
theorem aw2_lex : lexF aw2 = .error (40, 3) := by kernel_rfl
theorem awName : isName (⟨#[97, 98, 99]⟩ : ByteArray).data.toList = true := by decide
theorem awKw : isKw (⟨#[115, 117, 109]⟩ : ByteArray).data.toList = true := by decide
theorem awQ : (⟨(quoteL (⟨#[39]⟩ : ByteArray).data.toList).toArray⟩ : ByteArray) = ⟨#[39, 39, 39, 39]⟩ := by decide
theorem words11G (s : ByteArray) (w : World) (hs : s.size ≤ 140737488355328) (h : GW w) {r : Except (Int × Nat) (List Wd)} (hr : lexF s = r) :
    Calls Tryd.prog 11 #[.string s] w fun e w' => ∃ v, e = .returned (.tuple #[v, .agg (faultC r)]) ∧ HasW w' w.heap.size v (okL r) ∧ Below w.heap.size w w' := by
  subst hr; exact words11 s w hs h.kt h.ut h.pos
set_option maxHeartbeats 4000000 in
theorem awake9 (w : World) (h : GW w) : Calls Tryd.prog 9 #[] w fun e w' => e = .returned (.bool true) ∧ Below w.heap.size w w' := by
  have HG := Lib.hid h
  clear h
  go_enter Tryd.func9, Tryd.ntmps9
  go_wp2_with fail
  refine (words11G aw1 w (by decide) HG.out aw1_lex).mono ?_
  rintro e w1 ⟨v1, rfl, hv1, hb1⟩
  dsimp only [faultC, okL] at hv1 ⊢
  obtain ⟨g, c, hv1e, hg, hgw, hc, -, hcell⟩ := hv1.open (by decide)
  rw [show awL.length = 4 from rfl] at hv1e hc
  subst hv1e
  have t1 := (hcell 1 ⟨5, [60, 62], 1⟩ rfl).2.1
  have t2 := (hcell 2 ⟨4, [105, 116, 39, 115], 3⟩ rfl).2.1
  have t3 := (hcell 3 ⟨6, [], 10⟩ rfl).2.2
  have hb2 := Below.call hb1 ((Below.refl w1.heap.size w1).alloc (Nat.le_refl _) (.cells #[.int .i64 0, .int .i64 0] 26))
  have HB := Lib.hid (And.intro hb1 (And.intro hb2 (And.intro hg (And.intro hgw (And.intro t1 (And.intro t2 t3))))))
  clear hv1 hcell hb1 hb2 t1 t2 t3 hg hgw
  go_wp2_with fail
  refine (words11G aw2 _ (by decide) (HG.out.below HB.out.2.1) aw2_lex).mono ?_
  rintro e w2 ⟨v2, rfl, hv2, hb2⟩
  dsimp only [faultC, okL] at hv2 ⊢
  obtain ⟨a2, c2, hv2e⟩ := hv2.form
  subst hv2e
  have hb3 := Below.call HB.out.2.1 hb2
  have hal := (Below.refl w2.heap.size w2).alloc (Nat.le_refl _) (.cells #[.int .i64 40, .int .i64 3] 26)
  obtain ⟨w3, hw3⟩ : ∃ w3, w3 = w2.alloc (.cells #[.int .i64 40, .int .i64 3] 26) := ⟨_, rfl⟩
  have hb4 : Below w.heap.size w w3 := by rw [hw3]; exact Below.call hb3 hal
  have hb5 : Below (w1.alloc (.cells #[.int .i64 0, .int .i64 0] 26)).heap.size (w1.alloc (.cells #[.int .i64 0, .int .i64 0] 26)) w3 := by rw [hw3]; exact Below.call hb2 hal
  have hbf := (Blk.new w1 26 #[.int .i64 0, .int .i64 0]).below hb5 (by simp)
  have hbg : Blk w3 w2.heap.size 26 #[.int .i64 40, .int .i64 3] := by rw [hw3]; exact Blk.new w2 26 _
  have e0 : w3.cell? ⟨w1.heap.size, 0, none⟩ = some (.int .i64 0) := Blk.cell hbf 0
  have e1 : w3.cell? ⟨w1.heap.size, 1, none⟩ = some (.int .i64 0) := Blk.cell hbf 1
  have d0 : w3.cell? ⟨w2.heap.size, 0, none⟩ = some (.int .i64 40) := Blk.cell hbg 0
  have d1 : w3.cell? ⟨w2.heap.size, 1, none⟩ = some (.int .i64 3) := Blk.cell hbg 1
  have hgc : ∀ (o : Nat) (u : Value), w1.cell? ⟨g, o, none⟩ = some u → w3.cell? ⟨g, o, none⟩ = some u := fun o u hu =>
    (hb5.cell (by show g < _; have := HB.out.2.2.2.1; simp; omega)).trans ((((Below.refl w1.heap.size w1).alloc (Nat.le_refl _) _).cell (by exact HB.out.2.2.2.1)).trans hu)
  have x1 := hgc 4 _ HB.out.2.2.2.2.1
  have x2 := hgc 7 _ HB.out.2.2.2.2.2.1
  have x3 := hgc 11 _ HB.out.2.2.2.2.2.2
  have HB4 := Lib.hid hb4
  have HW3 := Lib.hid hw3
  clear hv2 hgc hb2 hb3 hal hb5 hbf hbg hb4 hw3
  go_upto_region 3 with (fail)
  change Code.wp Tryd.prog _ _ _ (w2.alloc (.cells #[.int .i64 40, .int .i64 3] 26))
  rw [← HW3.out]
  have HN := Lib.hid (isName13 ⟨#[97, 98, 99]⟩ w3 (by decide) (HG.out.below HB4.out).kt (HG.out.below HB4.out).ut (HG.out.below HB4.out).pos)
  rw [awName] at HN
  go_wp2_with fail
  refine HN.out.mono ?_
  rintro e w4 ⟨rfl, hb5⟩
  have H5 := Lib.hid (Below.call HB4.out hb5)
  clear hb5
  have HK := Lib.hid (isKeyword15 ⟨#[115, 117, 109]⟩ w4 (by decide) (HG.out.below H5.out).ut)
  rw [awKw] at HK
  go_wp2_with fail
  refine HK.out.mono ?_
  rintro e w5 ⟨rfl, hb6⟩
  have H6 := Lib.hid (Below.call H5.out hb6)
  clear hb6
  have HQ := Lib.hid (quote17 ⟨#[39]⟩ w5 (by decide) (HG.out.below H6.out))
  rw [awQ] at HQ
  go_wp2_with fail
  refine HQ.out.mono ?_
  rintro e w6 ⟨rfl, hb7⟩
  go_wp2_with fail
  go_ret
  exact ⟨rfl, Below.call H6.out hb7⟩
end Go.Proofs.YtofjifhnkcghpaaDoor
