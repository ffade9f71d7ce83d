/- A reader that may be nil: Cell. -/
import Derived.Test.YtocanbdpdnkapaaZ
namespace Go.Proofs.Ytocanbdpdnkapaa
open Go.RowKit
set_option linter.unusedVariables false
set_option linter.unusedSimpArgs false

def cellR1 (x : RdS) : CellT × RdS :=
  if byteR x = 0 then (cell0, (takeR x 1).2)
  else if byteR x = 1 then (⟨1, intR (takeR x 1).2, ByteArray.empty⟩, (takeR (takeR x 1).2 8).2)
  else if byteR x = 2 then (⟨2, 0, (textR (takeR x 1).2).1⟩, (textR (takeR x 1).2).2)
  else (cell0, failR (takeR x 1).2 22)
def cellR (x : RdS) : CellT × RdS := (if (cellR1 x).2.e = 0 then (cellR1 x).1 else cell0, (cellR1 x).2)
theorem KeepB.setRow {b : Option Nat} {w w1 : World} (h : KeepB b w w1) {g : Nat} (hg : w.heap.size ≤ g) (cs : Array Value) : KeepB b w (w1.setRow g cs) :=
  ⟨h.os, h.tape, h.output, Nat.le_trans h.size (by simp [World.setRow]), fun k hk hb => (setRow_other w1 g k cs (by omega)).trans (h.block k hk hb)⟩
theorem RdO.setRow {b : Option Nat} {w : World} {x : RdS} (h : RdO b w x) {g : Nat} (hg : b ≠ some g) (cs : Array Value) : RdO b (w.setRow g cs) x := by
  cases b with
  | none => exact h
  | some B => exact ⟨Blk.otherRow (RdAt.blk h) (fun e => hg (by rw [e])), RdAt.len h⟩
def cellA (c : CellT) : Array Value := #[.int .i64 c.k, .int .i64 c.n, .string c.t]
set_option maxRecDepth 100000 in
set_option maxHeartbeats 32000000 in
theorem cell61O (b : Option Nat) (x : RdS) (w : World) (hx : RdO b w x) :
    Calls Try.prog 61 #[wptr b] w (TookO b w (cellR x).2 (cellV (cellR x).1)) := by
  have hA0 := Blk.new w 92 #[.int .i64 0, .int .i64 0, .string ⟨#[]⟩]
  have hA := Blk.alloc hA0 (Obj.cells #[.int .i64 0, .int .i64 0, .string ⟨#[]⟩] 92)
  have hC := Blk.newAt (w.alloc (Obj.cells #[.int .i64 0, .int .i64 0, .string ⟨#[]⟩] 92)) 92 #[.int .i64 0, .int .i64 0, .string ⟨#[]⟩] (b := w.heap.size + 1) (by simp)
  have hBl := Below.al (Below.al (Below.refl w.heap.size w) (Obj.cells #[.int .i64 0, .int .i64 0, .string ⟨#[]⟩] 92)) (Obj.cells #[.int .i64 0, .int .i64 0, .string ⟨#[]⟩] 92)
  have hlt := hx.lt
  have hnA : b ≠ some w.heap.size := fun e => by have := hlt _ e; omega
  have hnC : b ≠ some (w.heap.size + 1) := fun e => by have := hlt _ e; omega
  obtain ⟨w1, hw1⟩ : ∃ w1, w1 = (w.alloc (Obj.cells #[.int .i64 0, .int .i64 0, .string ⟨#[]⟩] 92)).alloc (Obj.cells #[.int .i64 0, .int .i64 0, .string ⟨#[]⟩] 92) := ⟨_, rfl⟩
  rw [← hw1] at hA hC hBl
  have HB := Lib.hid (byte32O b x w1 (hx.below hBl))
  have HAC := Lib.hid (And.intro hA hC)
  have HK := Lib.hid (KeepB.of (b := b) hBl)
  have HNA := Lib.hid (And.intro hnA hnC)
  have HR := Lib.hid (show cellR x = (if (cellR1 x).2.e = 0 then (cellR1 x).1 else cell0, (cellR1 x).2) from rfl)
  have hR1 := show cellR1 x = if byteR x = 0 then (cell0, (takeR x 1).2)
    else if byteR x = 1 then (⟨1, intR (takeR x 1).2, ByteArray.empty⟩, (takeR (takeR x 1).2 8).2)
    else if byteR x = 2 then (⟨2, 0, (textR (takeR x 1).2).1⟩, (textR (takeR x 1).2).2)
    else (cell0, failR (takeR x 1).2 22) from rfl
  obtain ⟨y, hy⟩ : ∃ y, (takeR x 1).2 = y := ⟨_, rfl⟩
  obtain ⟨k, hk⟩ : ∃ k, byteR x = k := ⟨_, rfl⟩
  rw [hy, hk] at HB
  rw [hy, hk] at hR1
  have HR1 := Lib.hid hR1
  clear hA0 hA hC hBl hx hlt hnA hnC hy hk hR1
  go_enter Try.func61, Try.ntmps61
  go_upto_region 2 with fail
  rw [← hw1]
  clear hw1
  go_wp2_with fail
  refine HB.out.mono ?_
  rintro e w2 ⟨rfl, h1, h2⟩
  have H2 := Lib.hid (And.intro h1 (HK.out.trans h2))
  have HAC2 := Lib.hid (And.intro (Blk.keepB HAC.out.1 h2 HNA.out.1) (Blk.keepB HAC.out.2 h2 HNA.out.2))
  clear h1 h2 HAC HB HK
  by_cases k0 : k = 0
  · subst k0
    have hr := Lib.hid (show cellR1 x = (cell0, y) from HR1.out.trans (if_pos rfl))
    have HG := Lib.hid (good77O b y w2 H2.out.1)
    go_wp2_with fail
    refine HG.out.mono ?_
    rintro e w' ⟨rfl, rfl⟩
    by_cases he : y.e = 0
    · have he2 : (y.e == 0) = true := by simpa using he
      have HRR := Lib.hid (show cellR x = (cell0, y) by rw [HR.out, hr.out]; simp only; rw [if_pos he])
      go_wp2_with (first | (refine wpList_load_at rfl 92 _ rfl (w.heap.size + 1) 0 rfl #[.int .i64 0, .int .i64 0, .string ⟨#[]⟩] _ (fun j hj => by rw [Nat.zero_add]; exact Blk.cell HAC2.out.2 j) Try.underlying92 rfl info92 ?_) | (refine wpList_store_row rfl 92 _ _ rfl w.heap.size #[.int .i64 0, .int .i64 0, .string ⟨#[]⟩] rfl rfl 92 _ HAC2.out.1 info92 rfl (by simp [Value.oneCell']) ?_))
      refine bodyPost_ret (results_cell_row rfl _ _ w.heap.size 92 #[.int .i64 0, .int .i64 0, .string ⟨#[]⟩] (0, 0) _ rfl (Blk.setRow HAC2.out.1) Try.underlying92 rfl info92) rfl ?_
      exact ⟨by rw [HRR.out]; rfl, by rw [HRR.out]; exact RdO.setRow H2.out.1 HNA.out.1 _, KeepB.setRow H2.out.2 (Nat.le_refl _) _⟩
    · have he2 : (y.e == 0) = false := by simpa using he
      have HRR := Lib.hid (show cellR x = (cell0, y) by rw [HR.out, hr.out]; simp only; rw [if_neg he])
      go_wp2_with (refine wpList_store_row rfl 92 _ _ rfl w.heap.size #[.int .i64 0, .int .i64 0, .string ⟨#[]⟩] rfl rfl 92 _ HAC2.out.1 info92 rfl (by simp [Value.oneCell']) ?_)
      refine bodyPost_ret (results_cell_row rfl _ _ w.heap.size 92 #[.int .i64 0, .int .i64 0, .string ⟨#[]⟩] (0, 0) _ rfl (Blk.setRow HAC2.out.1) Try.underlying92 rfl info92) rfl ?_
      exact ⟨by rw [HRR.out]; rfl, by rw [HRR.out]; exact RdO.setRow H2.out.1 HNA.out.1 _, KeepB.setRow H2.out.2 (Nat.le_refl _) _⟩
  · have d0 : (k == 0) = false := by simpa using k0
    have d0I : ((k : Int) == 0) = false := by rw [beq_eq_false_iff_ne]; omega
    by_cases k1 : k = 1
    · subst k1
      have hr0 := (show cellR1 x = (⟨1, intR y, ByteArray.empty⟩, (takeR y 8).2) from HR1.out.trans ((if_neg (by decide)).trans (if_pos rfl)))
      have hcall := int58O b y w2 H2.out.1
      obtain ⟨V1, hV⟩ : ∃ V, intR y = V := ⟨_, rfl⟩
      obtain ⟨z, hz⟩ : ∃ z, (takeR y 8).2 = z := ⟨_, rfl⟩
      rw [hV, hz] at hcall hr0
      have hr := Lib.hid hr0
      have HC := Lib.hid hcall
      clear hcall hr0 hV hz
      go_wp2_with fail
      refine HC.out.mono ?_
      rintro e w3 ⟨rfl, h1, h2⟩
      have hA3 := Blk.keepB HAC2.out.1 h2 HNA.out.1
      have hC3 := Blk.keepB HAC2.out.2 h2 HNA.out.2
      have HS := Lib.hid hC3
      have HAC3 := Lib.hid (And.intro (Blk.otherRow (g := w.heap.size + 1) (cs' := #[.int .i64 1, .int .i64 V1, .string ⟨#[]⟩]) hA3 (by omega)) (Blk.setRow (cs' := #[.int .i64 1, .int .i64 V1, .string ⟨#[]⟩]) hC3))
      have H3 := Lib.hid (And.intro (RdO.setRow h1 HNA.out.2 #[.int .i64 1, .int .i64 V1, .string ⟨#[]⟩]) (KeepB.setRow (H2.out.2.trans h2) (show w.heap.size ≤ w.heap.size + 1 by omega) #[.int .i64 1, .int .i64 V1, .string ⟨#[]⟩]))
      clear h1 h2 hA3 hC3
      go_wp2_with (refine wpList_store_row rfl 92 _ _ rfl (w.heap.size + 1) #[.int .i64 1, .int .i64 V1, .string ⟨#[]⟩] rfl rfl 92 _ HS.out info92 rfl (by simp [Value.oneCell']) ?_)
      have HG := Lib.hid (good77O b z (w3.setRow (w.heap.size + 1) #[.int .i64 1, .int .i64 V1, .string ⟨#[]⟩]) H3.out.1)
      refine HG.out.mono ?_
      rintro e w' ⟨rfl, rfl⟩
      by_cases he : z.e = 0
      · have he2 : (z.e == 0) = true := by simpa using he
        have HRR := Lib.hid (show cellR x = (⟨1, V1, ByteArray.empty⟩, z) by rw [HR.out, hr.out]; simp only; rw [if_pos he])
        go_wp2_with (first | (refine wpList_load_at rfl 92 _ rfl (w.heap.size + 1) 0 rfl #[.int .i64 1, .int .i64 V1, .string ⟨#[]⟩] _ (fun j hj => by rw [Nat.zero_add]; exact Blk.cell HAC3.out.2 j) Try.underlying92 rfl info92 ?_) | (refine wpList_store_row rfl 92 _ _ rfl w.heap.size #[.int .i64 1, .int .i64 V1, .string ⟨#[]⟩] rfl rfl 92 _ HAC3.out.1 info92 rfl (by simp [Value.oneCell']) ?_))
        refine bodyPost_ret (results_cell_row rfl _ _ w.heap.size 92 #[.int .i64 1, .int .i64 V1, .string ⟨#[]⟩] (0, 0) _ rfl (Blk.setRow HAC3.out.1) Try.underlying92 rfl info92) rfl ?_
        exact ⟨by rw [HRR.out]; rfl, by rw [HRR.out]; exact RdO.setRow H3.out.1 HNA.out.1 _, KeepB.setRow H3.out.2 (Nat.le_refl _) _⟩
      · have he2 : (z.e == 0) = false := by simpa using he
        have HRR := Lib.hid (show cellR x = (cell0, z) by rw [HR.out, hr.out]; simp only; rw [if_neg he])
        go_wp2_with (refine wpList_store_row rfl 92 _ _ rfl w.heap.size #[.int .i64 0, .int .i64 0, .string ⟨#[]⟩] rfl rfl 92 _ HAC3.out.1 info92 rfl (by simp [Value.oneCell']) ?_)
        refine bodyPost_ret (results_cell_row rfl _ _ w.heap.size 92 #[.int .i64 0, .int .i64 0, .string ⟨#[]⟩] (0, 0) _ rfl (Blk.setRow HAC3.out.1) Try.underlying92 rfl info92) rfl ?_
        exact ⟨by rw [HRR.out]; rfl, by rw [HRR.out]; exact RdO.setRow H3.out.1 HNA.out.1 _, KeepB.setRow H3.out.2 (Nat.le_refl _) _⟩
    · have d1 : (k == 1) = false := by simpa using k1
      have d1I : ((k : Int) == 1) = false := by rw [beq_eq_false_iff_ne]; omega
      by_cases k2 : k = 2
      · subst k2
        have hr0 := (show cellR1 x = (⟨2, 0, (textR y).1⟩, (textR y).2) from HR1.out.trans ((if_neg (by decide)).trans ((if_neg (by decide)).trans (if_pos rfl))))
        have hcall := text35O b y w2 H2.out.1
        obtain ⟨V1, hV⟩ : ∃ V, (textR y).1 = V := ⟨_, rfl⟩
        obtain ⟨z, hz⟩ : ∃ z, (textR y).2 = z := ⟨_, rfl⟩
        rw [hV, hz] at hcall hr0
        have hr := Lib.hid hr0
        have HC := Lib.hid hcall
        clear hcall hr0 hV hz
        go_wp2_with fail
        refine HC.out.mono ?_
        rintro e w3 ⟨rfl, h1, h2⟩
        have hA3 := Blk.keepB HAC2.out.1 h2 HNA.out.1
        have hC3 := Blk.keepB HAC2.out.2 h2 HNA.out.2
        have HS := Lib.hid hC3
        have HAC3 := Lib.hid (And.intro (Blk.otherRow (g := w.heap.size + 1) (cs' := #[.int .i64 2, .int .i64 0, .string V1]) hA3 (by omega)) (Blk.setRow (cs' := #[.int .i64 2, .int .i64 0, .string V1]) hC3))
        have H3 := Lib.hid (And.intro (RdO.setRow h1 HNA.out.2 #[.int .i64 2, .int .i64 0, .string V1]) (KeepB.setRow (H2.out.2.trans h2) (show w.heap.size ≤ w.heap.size + 1 by omega) #[.int .i64 2, .int .i64 0, .string V1]))
        clear h1 h2 hA3 hC3
        go_wp2_with (refine wpList_store_row rfl 92 _ _ rfl (w.heap.size + 1) #[.int .i64 2, .int .i64 0, .string V1] rfl rfl 92 _ HS.out info92 rfl (by simp [Value.oneCell']) ?_)
        have HG := Lib.hid (good77O b z (w3.setRow (w.heap.size + 1) #[.int .i64 2, .int .i64 0, .string V1]) H3.out.1)
        refine HG.out.mono ?_
        rintro e w' ⟨rfl, rfl⟩
        by_cases he : z.e = 0
        · have he2 : (z.e == 0) = true := by simpa using he
          have HRR := Lib.hid (show cellR x = (⟨2, 0, V1⟩, z) by rw [HR.out, hr.out]; simp only; rw [if_pos he])
          go_wp2_with (first | (refine wpList_load_at rfl 92 _ rfl (w.heap.size + 1) 0 rfl #[.int .i64 2, .int .i64 0, .string V1] _ (fun j hj => by rw [Nat.zero_add]; exact Blk.cell HAC3.out.2 j) Try.underlying92 rfl info92 ?_) | (refine wpList_store_row rfl 92 _ _ rfl w.heap.size #[.int .i64 2, .int .i64 0, .string V1] rfl rfl 92 _ HAC3.out.1 info92 rfl (by simp [Value.oneCell']) ?_))
          refine bodyPost_ret (results_cell_row rfl _ _ w.heap.size 92 #[.int .i64 2, .int .i64 0, .string V1] (0, 0) _ rfl (Blk.setRow HAC3.out.1) Try.underlying92 rfl info92) rfl ?_
          exact ⟨by rw [HRR.out]; rfl, by rw [HRR.out]; exact RdO.setRow H3.out.1 HNA.out.1 _, KeepB.setRow H3.out.2 (Nat.le_refl _) _⟩
        · have he2 : (z.e == 0) = false := by simpa using he
          have HRR := Lib.hid (show cellR x = (cell0, z) by rw [HR.out, hr.out]; simp only; rw [if_neg he])
          go_wp2_with (refine wpList_store_row rfl 92 _ _ rfl w.heap.size #[.int .i64 0, .int .i64 0, .string ⟨#[]⟩] rfl rfl 92 _ HAC3.out.1 info92 rfl (by simp [Value.oneCell']) ?_)
          refine bodyPost_ret (results_cell_row rfl _ _ w.heap.size 92 #[.int .i64 0, .int .i64 0, .string ⟨#[]⟩] (0, 0) _ rfl (Blk.setRow HAC3.out.1) Try.underlying92 rfl info92) rfl ?_
          exact ⟨by rw [HRR.out]; rfl, by rw [HRR.out]; exact RdO.setRow H3.out.1 HNA.out.1 _, KeepB.setRow H3.out.2 (Nat.le_refl _) _⟩
      · have d2 : (k == 2) = false := by simpa using k2
        have d2I : ((k : Int) == 2) = false := by rw [beq_eq_false_iff_ne]; omega
        have hr0 := (show cellR1 x = (cell0, failR y 22) from HR1.out.trans ((if_neg k0).trans ((if_neg k1).trans (if_neg k2))))
        have hcall := fail23O b y 22 w2 H2.out.1
        obtain ⟨z, hz⟩ : ∃ z, failR y 22 = z := ⟨_, rfl⟩
        rw [hz] at hcall hr0
        have hr := Lib.hid hr0
        have HC := Lib.hid hcall
        clear hcall hr0 hz
        go_wp2_with fail
        refine HC.out.mono ?_
        rintro e w3 ⟨rfl, h1, h2⟩
        have HAC3 := Lib.hid (And.intro (Blk.keepB HAC2.out.1 h2 HNA.out.1) (Blk.keepB HAC2.out.2 h2 HNA.out.2))
        have H3 := Lib.hid (And.intro h1 (H2.out.2.trans h2))
        clear h1 h2
        have HG := Lib.hid (good77O b z w3 H3.out.1)
        go_wp2_with fail
        refine HG.out.mono ?_
        rintro e w' ⟨rfl, rfl⟩
        by_cases he : z.e = 0
        · have he2 : (z.e == 0) = true := by simpa using he
          have HRR := Lib.hid (show cellR x = (cell0, z) by rw [HR.out, hr.out]; simp only; rw [if_pos he])
          go_wp2_with (first | (refine wpList_load_at rfl 92 _ rfl (w.heap.size + 1) 0 rfl #[.int .i64 0, .int .i64 0, .string ⟨#[]⟩] _ (fun j hj => by rw [Nat.zero_add]; exact Blk.cell HAC3.out.2 j) Try.underlying92 rfl info92 ?_) | (refine wpList_store_row rfl 92 _ _ rfl w.heap.size #[.int .i64 0, .int .i64 0, .string ⟨#[]⟩] rfl rfl 92 _ HAC3.out.1 info92 rfl (by simp [Value.oneCell']) ?_))
          refine bodyPost_ret (results_cell_row rfl _ _ w.heap.size 92 #[.int .i64 0, .int .i64 0, .string ⟨#[]⟩] (0, 0) _ rfl (Blk.setRow HAC3.out.1) Try.underlying92 rfl info92) rfl ?_
          exact ⟨by rw [HRR.out]; rfl, by rw [HRR.out]; exact RdO.setRow H3.out.1 HNA.out.1 _, KeepB.setRow H3.out.2 (Nat.le_refl _) _⟩
        · have he2 : (z.e == 0) = false := by simpa using he
          have HRR := Lib.hid (show cellR x = (cell0, z) by rw [HR.out, hr.out]; simp only; rw [if_neg he])
          go_wp2_with (refine wpList_store_row rfl 92 _ _ rfl w.heap.size #[.int .i64 0, .int .i64 0, .string ⟨#[]⟩] rfl rfl 92 _ HAC3.out.1 info92 rfl (by simp [Value.oneCell']) ?_)
          refine bodyPost_ret (results_cell_row rfl _ _ w.heap.size 92 #[.int .i64 0, .int .i64 0, .string ⟨#[]⟩] (0, 0) _ rfl (Blk.setRow HAC3.out.1) Try.underlying92 rfl info92) rfl ?_
          exact ⟨by rw [HRR.out]; rfl, by rw [HRR.out]; exact RdO.setRow H3.out.1 HNA.out.1 _, KeepB.setRow H3.out.2 (Nat.le_refl _) _⟩
end Go.Proofs.Ytocanbdpdnkapaa
