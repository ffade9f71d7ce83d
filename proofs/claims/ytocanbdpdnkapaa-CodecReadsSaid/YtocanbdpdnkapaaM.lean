/- A writer that may be nil: Cell. -/
import Derived.Test.YtocanbdpdnkapaaL
namespace Go.Proofs.Ytocanbdpdnkapaa
open Go.RowKit
set_option linter.unusedVariables false
set_option linter.unusedSimpArgs false

structure CellT where
  k : Int
  n : Int
  t : ByteArray
def cellC (c : CellT) : List Value := [.int .i64 c.k, .int .i64 c.n, .string c.t]
def cellW (x : WrS) (c : CellT) : WrS :=
  if c.k = 0 ∧ c.n = 0 ∧ c.t.size = 0 then layW x (byteS 0)
  else if c.k = 1 ∧ c.t.size = 0 then intW (layW x (byteS 1)) c.n
  else if c.k = 2 ∧ c.n = 0 then textW (layW x (byteS 2)) c.t
  else failW x 1
theorem info92 : (Try.prog.info? 92).map (·.size) = some 3 := by kernel_rfl
theorem toList_nil {t : ByteArray} (h : t.size = 0) : t = ByteArray.empty := by
  apply ByteArray.ext; exact Array.eq_empty_of_size_eq_zero h
theorem cellV_eq (c : CellT) : Value.agg #[.int .i64 c.k, .int .i64 c.n, .string c.t] = .agg (cellC c).toArray := rfl
set_option maxHeartbeats 16000000 in
theorem cell45O (b : Option Nat) (x : WrS) (c : CellT) (w : World) (hx : WrO b w x) (hs : okS b c.t) :
    Calls Try.prog 45 #[wptr b, .agg #[.int .i64 c.k, .int .i64 c.n, .string c.t]] w (WroteO b w (cellW x c)) := by
  have hBl := Below.al (Below.refl w.heap.size w) (Obj.cells #[.int .i64 c.k, .int .i64 c.n, .string c.t] 92)
  have hb := Blk.new w 92 #[.int .i64 c.k, .int .i64 c.n, .string c.t]
  obtain ⟨w1, hw1⟩ : ∃ w1, w1 = w.alloc (Obj.cells #[.int .i64 c.k, .int .i64 c.n, .string c.t] 92) := ⟨_, rfl⟩
  rw [← hw1] at hBl hb
  have HX := Lib.hid (hx.below hBl)
  have HB := Lib.hid (BelO.of (b := b) hBl)
  have HBK := Lib.hid hb
  obtain ⟨k, n, t⟩ := c
  simp only at HBK hs
  have HS := Lib.hid hs
  have c0 : w1.cell? ⟨w.heap.size, 0, none⟩ = some (.int .i64 k) := Blk.cell HBK.out 0
  have c1 : w1.cell? ⟨w.heap.size, 1, none⟩ = some (.int .i64 n) := Blk.cell HBK.out 1
  have c2 : w1.cell? ⟨w.heap.size, 2, none⟩ = some (.string t) := Blk.cell HBK.out 2
  clear hx hBl hb hs
  by_cases k0 : k = 0
  · subst k0
    by_cases n0 : n = 0
    · subst n0
      by_cases t0 : t.size = 0
      · obtain rfl := toList_nil t0
        have HR := Lib.hid (show cellW x ⟨0, 0, ByteArray.empty⟩ = layW x (byteS 0) by unfold cellW; exact if_pos ⟨rfl, rfl, rfl⟩)
        go_enter Try.func45, Try.ntmps45
        go_upto_region 2 with fail
        rw [← hw1]
        clear hw1
        go_wp2_with (refine wpList_load_at rfl 92 _ rfl w.heap.size 0 rfl #[.int .i64 0, .int .i64 0, .string ByteArray.empty] _ (fun j hj => by rw [Nat.zero_add]; exact Blk.cell HBK.out j) Try.underlying92 rfl info92 ?_)
        refine (byte33O b x 0 (by decide) w1 HX.out).mono ?_
        rintro e w2 ⟨rfl, h1, h2⟩
        have H2 := Lib.hid (And.intro h1 (HB.out.trans h2))
        have HK2 := Lib.hid h2
        clear h1 h2
        have H3 := H2
        go_wp2_with fail
        go_end0
        exact ⟨rfl, by rw [HR.out]; exact H3.out.1, H3.out.2⟩
      · have hl := str_some t0
        have HR := Lib.hid (show cellW x ⟨0, 0, t⟩ = failW x 1 by unfold cellW; rw [if_neg (fun h => t0 h.2.2), if_neg (fun h => by cases h.1), if_neg (fun h => by cases h.1)])
        go_enter Try.func45, Try.ntmps45
        go_upto_region 2 with fail
        rw [← hw1]
        clear hw1
        go_wp2_with (refine wpList_load_at rfl 92 _ rfl w.heap.size 0 rfl #[.int .i64 0, .int .i64 0, .string t] _ (fun j hj => by rw [Nat.zero_add]; exact Blk.cell HBK.out j) Try.underlying92 rfl info92 ?_)
        refine (fail80O b x 1 w1 HX.out).mono ?_
        rintro e w2 ⟨rfl, h1, h2⟩
        have H3 := Lib.hid (And.intro h1 (HB.out.trans h2))
        clear h1 h2
        go_wp2_with fail
        go_end0
        exact ⟨rfl, by rw [HR.out]; exact H3.out.1, H3.out.2⟩
    · have hn : (n == 0) = false := by simpa using n0
      by_cases t0 : t.size = 0
      · obtain rfl := toList_nil t0
        have HR := Lib.hid (show cellW x ⟨0, n, ByteArray.empty⟩ = failW x 1 by unfold cellW; rw [if_neg (fun h => n0 h.2.1), if_neg (fun h => by cases h.1), if_neg (fun h => by cases h.1)])
        go_enter Try.func45, Try.ntmps45
        go_upto_region 2 with fail
        rw [← hw1]
        clear hw1
        go_wp2_with (refine wpList_load_at rfl 92 _ rfl w.heap.size 0 rfl #[.int .i64 0, .int .i64 n, .string ByteArray.empty] _ (fun j hj => by rw [Nat.zero_add]; exact Blk.cell HBK.out j) Try.underlying92 rfl info92 ?_)
        refine (fail80O b x 1 w1 HX.out).mono ?_
        rintro e w2 ⟨rfl, h1, h2⟩
        have H3 := Lib.hid (And.intro h1 (HB.out.trans h2))
        clear h1 h2
        go_wp2_with fail
        go_end0
        exact ⟨rfl, by rw [HR.out]; exact H3.out.1, H3.out.2⟩
      · have hl := str_some t0
        have HR := Lib.hid (show cellW x ⟨0, n, t⟩ = failW x 1 by unfold cellW; rw [if_neg (fun h => n0 h.2.1), if_neg (fun h => by cases h.1), if_neg (fun h => by cases h.1)])
        go_enter Try.func45, Try.ntmps45
        go_upto_region 2 with fail
        rw [← hw1]
        clear hw1
        go_wp2_with (refine wpList_load_at rfl 92 _ rfl w.heap.size 0 rfl #[.int .i64 0, .int .i64 n, .string t] _ (fun j hj => by rw [Nat.zero_add]; exact Blk.cell HBK.out j) Try.underlying92 rfl info92 ?_)
        refine (fail80O b x 1 w1 HX.out).mono ?_
        rintro e w2 ⟨rfl, h1, h2⟩
        have H3 := Lib.hid (And.intro h1 (HB.out.trans h2))
        clear h1 h2
        go_wp2_with fail
        go_end0
        exact ⟨rfl, by rw [HR.out]; exact H3.out.1, H3.out.2⟩
  · have hk0 : (k == 0) = false := by simpa using k0
    by_cases k1 : k = 1
    · subst k1
      by_cases t0 : t.size = 0
      · obtain rfl := toList_nil t0
        have HR := Lib.hid (show cellW x ⟨1, n, ByteArray.empty⟩ = intW (layW x (byteS 1)) n by unfold cellW; rw [if_neg (fun h => by cases h.1), if_pos ⟨rfl, rfl⟩])
        go_enter Try.func45, Try.ntmps45
        go_upto_region 2 with fail
        rw [← hw1]
        clear hw1
        go_wp2_with (refine wpList_load_at rfl 92 _ rfl w.heap.size 0 rfl #[.int .i64 1, .int .i64 n, .string ByteArray.empty] _ (fun j hj => by rw [Nat.zero_add]; exact Blk.cell HBK.out j) Try.underlying92 rfl info92 ?_)
        refine (byte33O b x 1 (by decide) w1 HX.out).mono ?_
        rintro e w2 ⟨rfl, h1, h2⟩
        have H2 := Lib.hid (And.intro h1 (HB.out.trans h2))
        have HK2 := Lib.hid h2
        clear h1 h2
        have c1b : w2.cell? ⟨w.heap.size, 1, none⟩ = some (.int .i64 n) := Blk.cell (HK2.out.keep _ _ _ (by decide) (by decide) HBK.out) 1
        go_wp2_with fail
        refine (int42O b _ n w2 H2.out.1).mono ?_
        rintro e w3 ⟨rfl, h1, h2⟩
        have H3 := Lib.hid (And.intro h1 (H2.out.2.trans h2))
        clear h1 h2
        go_wp2_with fail
        go_end0
        exact ⟨rfl, by rw [HR.out]; exact H3.out.1, H3.out.2⟩
      · have hl := str_some t0
        have HR := Lib.hid (show cellW x ⟨1, n, t⟩ = failW x 1 by unfold cellW; rw [if_neg (fun h => by cases h.1), if_neg (fun h => t0 h.2), if_neg (fun h => by cases h.1)])
        go_enter Try.func45, Try.ntmps45
        go_upto_region 2 with fail
        rw [← hw1]
        clear hw1
        go_wp2_with (refine wpList_load_at rfl 92 _ rfl w.heap.size 0 rfl #[.int .i64 1, .int .i64 n, .string t] _ (fun j hj => by rw [Nat.zero_add]; exact Blk.cell HBK.out j) Try.underlying92 rfl info92 ?_)
        refine (fail80O b x 1 w1 HX.out).mono ?_
        rintro e w2 ⟨rfl, h1, h2⟩
        have H3 := Lib.hid (And.intro h1 (HB.out.trans h2))
        clear h1 h2
        go_wp2_with fail
        go_end0
        exact ⟨rfl, by rw [HR.out]; exact H3.out.1, H3.out.2⟩
    · have hk1 : (k == 1) = false := by simpa using k1
      by_cases k2 : k = 2
      · subst k2
        by_cases n0 : n = 0
        · subst n0
          have HR := Lib.hid (show cellW x ⟨2, 0, t⟩ = textW (layW x (byteS 2)) t by unfold cellW; rw [if_neg (fun h => by cases h.1), if_neg (fun h => by cases h.1), if_pos ⟨rfl, rfl⟩])
          go_enter Try.func45, Try.ntmps45
          go_upto_region 2 with fail
          rw [← hw1]
          clear hw1
          go_wp2_with (refine wpList_load_at rfl 92 _ rfl w.heap.size 0 rfl #[.int .i64 2, .int .i64 0, .string t] _ (fun j hj => by rw [Nat.zero_add]; exact Blk.cell HBK.out j) Try.underlying92 rfl info92 ?_)
          refine (byte33O b x 2 (by decide) w1 HX.out).mono ?_
          rintro e w2 ⟨rfl, h1, h2⟩
          have H2 := Lib.hid (And.intro h1 (HB.out.trans h2))
          have HK2 := Lib.hid h2
          clear h1 h2
          have c2b : w2.cell? ⟨w.heap.size, 2, none⟩ = some (.string t) := Blk.cell (HK2.out.keep _ _ _ (by decide) (by decide) HBK.out) 2
          go_wp2_with fail
          refine (text34O b _ t w2 H2.out.1 HS.out).mono ?_
          rintro e w3 ⟨rfl, h1, h2⟩
          have H3 := Lib.hid (And.intro h1 (H2.out.2.trans h2))
          clear h1 h2
          go_wp2_with fail
          go_end0
          exact ⟨rfl, by rw [HR.out]; exact H3.out.1, H3.out.2⟩
        · have hn : (n == 0) = false := by simpa using n0
          have HR := Lib.hid (show cellW x ⟨2, n, t⟩ = failW x 1 by unfold cellW; rw [if_neg (fun h => by cases h.1), if_neg (fun h => by cases h.1), if_neg (fun h => n0 h.2)])
          go_enter Try.func45, Try.ntmps45
          go_upto_region 2 with fail
          rw [← hw1]
          clear hw1
          go_wp2_with (refine wpList_load_at rfl 92 _ rfl w.heap.size 0 rfl #[.int .i64 2, .int .i64 n, .string t] _ (fun j hj => by rw [Nat.zero_add]; exact Blk.cell HBK.out j) Try.underlying92 rfl info92 ?_)
          refine (fail80O b x 1 w1 HX.out).mono ?_
          rintro e w2 ⟨rfl, h1, h2⟩
          have H3 := Lib.hid (And.intro h1 (HB.out.trans h2))
          clear h1 h2
          go_wp2_with fail
          go_end0
          exact ⟨rfl, by rw [HR.out]; exact H3.out.1, H3.out.2⟩
      · have hk2 : (k == 2) = false := by simpa using k2
        have HR := Lib.hid (show cellW x ⟨k, n, t⟩ = failW x 1 by unfold cellW; rw [if_neg (fun h => k0 h.1), if_neg (fun h => k1 h.1), if_neg (fun h => k2 h.1)])
        go_enter Try.func45, Try.ntmps45
        go_upto_region 2 with fail
        rw [← hw1]
        clear hw1
        go_wp2_with (refine wpList_load_at rfl 92 _ rfl w.heap.size 0 rfl #[.int .i64 k, .int .i64 n, .string t] _ (fun j hj => by rw [Nat.zero_add]; exact Blk.cell HBK.out j) Try.underlying92 rfl info92 ?_)
        refine (fail80O b x 1 w1 HX.out).mono ?_
        rintro e w2 ⟨rfl, h1, h2⟩
        have H3 := Lib.hid (And.intro h1 (HB.out.trans h2))
        clear h1 h2
        go_wp2_with fail
        go_end0
        exact ⟨rfl, by rw [HR.out]; exact H3.out.1, H3.out.2⟩
end Go.Proofs.Ytocanbdpdnkapaa
