/- The reference's cell and fact. -/
import Derived.Test.YtocanbdpdnkapaaQ
namespace Go.Proofs.Ytocanbdpdnkapaa
open Go.RowKit
set_option linter.unusedVariables false
set_option linter.unusedSimpArgs false

set_option maxHeartbeats 16000000 in
theorem cell54 (c : CellT) (w : World) (hs : c.t.size ≤ Small) :
    Calls Try.prog 54 #[cellV c] w fun e w' => e = .returned (optV (cellB c)) ∧ Below w.heap.size w w' := by
  have hBl := Below.al (Below.refl w.heap.size w) (Obj.cells #[.int .i64 c.k, .int .i64 c.n, .string c.t] 92)
  have hb := Blk.new w 92 #[.int .i64 c.k, .int .i64 c.n, .string c.t]
  unfold cellV
  obtain ⟨w1, hw1⟩ : ∃ w1, w1 = w.alloc (Obj.cells #[.int .i64 c.k, .int .i64 c.n, .string c.t] 92) := ⟨_, rfl⟩
  rw [← hw1] at hBl hb
  have HB := Lib.hid hBl
  have HBK := Lib.hid hb
  obtain ⟨k, n, t⟩ := c
  simp only at HBK hs ⊢
  have HS := Lib.hid hs
  have c0 : w1.cell? ⟨w.heap.size, 0, none⟩ = some (.int .i64 k) := Blk.cell HBK.out 0
  have c1 : w1.cell? ⟨w.heap.size, 1, none⟩ = some (.int .i64 n) := Blk.cell HBK.out 1
  have c2 : w1.cell? ⟨w.heap.size, 2, none⟩ = some (.string t) := Blk.cell HBK.out 2
  clear hBl hb hs
  by_cases k0 : k = 0
  · subst k0
    by_cases n0 : n = 0
    · subst n0
      by_cases t0 : t.size = 0
      · obtain rfl := toList_nil t0
        have HR := Lib.hid (show cellB ⟨0, 0, ByteArray.empty⟩ = some (byteS 0) by unfold cellB; exact if_pos ⟨rfl, rfl, rfl⟩)
        go_enter Try.func54, Try.ntmps54
        go_upto_region 1 with fail
        rw [← hw1]
        clear hw1
        go_wp2_with fail
        go_ret2
        exact ⟨by rw [HR.out]; rfl, HB.out⟩
      · have hl := str_some t0
        have HR := Lib.hid (show cellB ⟨0, 0, t⟩ = none by unfold cellB; rw [if_neg (fun h => t0 h.2.2), if_neg (fun h => by cases h.1), if_neg (fun h => by cases h.1)])
        go_enter Try.func54, Try.ntmps54
        go_upto_region 1 with fail
        rw [← hw1]
        clear hw1
        go_wp2_with fail
        go_ret2
        exact ⟨by rw [HR.out]; rfl, HB.out⟩
    · have hn : (n == 0) = false := by simpa using n0
      have HR := Lib.hid (show cellB ⟨0, n, t⟩ = none by unfold cellB; rw [if_neg (fun h => n0 h.2.1), if_neg (fun h => by cases h.1), if_neg (fun h => by cases h.1)])
      go_enter Try.func54, Try.ntmps54
      go_upto_region 1 with fail
      rw [← hw1]
      clear hw1
      go_wp2_with fail
      go_ret2
      exact ⟨by rw [HR.out]; rfl, HB.out⟩
  · have hk0 : (k == 0) = false := by simpa using k0
    by_cases k1 : k = 1
    · subst k1
      by_cases t0 : t.size = 0
      · obtain rfl := toList_nil t0
        have HR := Lib.hid (show cellB ⟨1, n, ByteArray.empty⟩ = some (byteS 1 ++ leS (u64 n) 8) by unfold cellB; rw [if_neg (fun h => by cases h.1), if_pos ⟨rfl, rfl⟩])
        have hwr := wrap_u64 n
        have hm := u64_lt n
        obtain ⟨m, hme⟩ : ∃ m, u64 n = m := ⟨_, rfl⟩
        rw [hme] at hwr hm HR
        have z1 := leS_size m 8
        have t1 : ¬ 9223372036854775807 < (⟨#[1]⟩ : ByteArray).size + (leS m 8).size := by rw [z1]; show ¬ 9223372036854775807 < 1 + 8; omega
        clear z1 hme
        go_enter Try.func54, Try.ntmps54
        go_upto_region 1 with fail
        rw [← hw1]
        clear hw1
        go_wp2_with fail
        refine (num39 m 8 w1 hm (by omega)).mono ?_
        rintro e w2 ⟨rfl, h2⟩
        have HB2 := Lib.hid (Below.call HB.out h2)
        clear h2
        go_wp2_with fail
        go_ret2
        exact ⟨by rw [HR.out]; rfl, HB2.out⟩
      · have hl := str_some t0
        have HR := Lib.hid (show cellB ⟨1, n, t⟩ = none by unfold cellB; rw [if_neg (fun h => by cases h.1), if_neg (fun h => t0 h.2), if_neg (fun h => by cases h.1)])
        go_enter Try.func54, Try.ntmps54
        go_upto_region 1 with fail
        rw [← hw1]
        clear hw1
        go_wp2_with fail
        go_ret2
        exact ⟨by rw [HR.out]; rfl, HB.out⟩
    · have hk1 : (k == 1) = false := by simpa using k1
      by_cases k2 : k = 2
      · subst k2
        by_cases n0 : n = 0
        · subst n0
          have HR := Lib.hid (show cellB ⟨2, 0, t⟩ = some (byteS 2 ++ textB t) by unfold cellB; rw [if_neg (fun h => by cases h.1), if_neg (fun h => by cases h.1), if_pos ⟨rfl, rfl⟩])
          have t1 : ¬ 9223372036854775807 < (⟨#[2]⟩ : ByteArray).size + (textB t).size := by
            have := HS.out
            unfold Small at this
            rw [textB_size]; show ¬ 9223372036854775807 < 1 + (4 + t.size); omega
          go_enter Try.func54, Try.ntmps54
          go_upto_region 1 with fail
          rw [← hw1]
          clear hw1
          go_wp2_with fail
          refine (text52 t w1 HS.out).mono ?_
          rintro e w2 ⟨rfl, h2⟩
          have HB2 := Lib.hid (Below.call HB.out h2)
          clear h2
          go_wp2_with fail
          go_ret2
          exact ⟨by rw [HR.out]; rfl, HB2.out⟩
        · have hn : (n == 0) = false := by simpa using n0
          have HR := Lib.hid (show cellB ⟨2, n, t⟩ = none by unfold cellB; rw [if_neg (fun h => by cases h.1), if_neg (fun h => by cases h.1), if_neg (fun h => n0 h.2)])
          go_enter Try.func54, Try.ntmps54
          go_upto_region 1 with fail
          rw [← hw1]
          clear hw1
          go_wp2_with fail
          go_ret2
          exact ⟨by rw [HR.out]; rfl, HB.out⟩
      · have hk2 : (k == 2) = false := by simpa using k2
        have HR := Lib.hid (show cellB ⟨k, n, t⟩ = none by unfold cellB; rw [if_neg (fun h => k0 h.1), if_neg (fun h => k1 h.1), if_neg (fun h => k2 h.1)])
        go_enter Try.func54, Try.ntmps54
        go_upto_region 1 with fail
        rw [← hw1]
        clear hw1
        go_wp2_with fail
        go_ret2
        exact ⟨by rw [HR.out]; rfl, HB.out⟩
theorem cellB_size {c : CellT} (hs : c.t.size ≤ Small) {b : ByteArray} (h : cellB c = some b) : b.size ≤ 1048600 := by
  unfold Small at hs
  unfold cellB at h
  split at h
  · cases h; show 1 ≤ _; omega
  · split at h
    · cases h; rw [ByteArray.size_append, leS_size]; show 1 + 8 ≤ _; omega
    · split at h
      · cases h; rw [ByteArray.size_append, textB_size]; show 1 + (4 + c.t.size) ≤ _; omega
      · cases h

def factB (f : FactT) : ByteArray := f.meas.foldl (fun a n => a ++ leS (u64 n) 8) (textsB f.dims ++ leS f.meas.length 4)
structure okF (f : FactT) : Prop where
  t : ∀ s ∈ f.dims, s.size ≤ Small
  d : f.dims.length ≤ Small
  m : f.meas.length ≤ Small
theorem factB_size {f : FactT} (h : okF f) : (factB f).size ≤ 1099524210696 := by
  obtain ⟨h1, h2, h3⟩ := h
  have a := foldl_size (fun n => leS (u64 n) 8) 8 f.meas (textsB f.dims ++ leS f.meas.length 4) (fun n _ => by rw [leS_size]; omega)
  have b := textsB_size f.dims h1
  rw [ByteArray.size_append, leS_size] at a
  unfold Small at h2 h3
  have c : f.dims.length * 1048580 ≤ 1048576 * 1048580 := Nat.mul_le_mul_right _ h2
  have e : factB f = f.meas.foldl (fun a n => a ++ leS (u64 n) 8) (textsB f.dims ++ leS f.meas.length 4) := rfl
  rw [e]
  omega
set_option maxHeartbeats 8000000 in
theorem fact56 (f : FactT) (vd vm : Value) (w : World) (B : Nat) (hB : B ≤ w.heap.size) (hd : RowS B w vd f.dims) (hm : RowI B w vm f.meas) (hf : okF f) :
    Calls Try.prog 56 #[.agg #[vd, vm]] w fun e w' => e = .returned (.string (factB f)) ∧ Below w.heap.size w w' := by
  obtain ⟨ds, ms⟩ := f
  obtain ⟨h1, h2, h3⟩ := hf
  simp only at hd hm h1 h2 h3
  unfold Small at h2 h3
  obtain ⟨am, cm, hvm, hcap, hmax, hc⟩ := hm.open
  obtain ⟨ad, cd, hvd, -⟩ := hd.open
  have hBl := Below.al (Below.refl w.heap.size w) (Obj.cells #[vd, vm] 98)
  have hb := Blk.new w 98 #[vd, vm]
  have hdr := fun w' (h : Below (w.alloc (Obj.cells #[vd, vm] 98)).heap.size (w.alloc (Obj.cells #[vd, vm] 98)) w') => texts53 vd ds w' B (Nat.le_trans hB (Nat.le_trans hBl.size h.size)) (RowS.mono hd ((Below.trans hBl (h.mono hBl.size)).mono hB) (Nat.le_refl _)) h1 h2
  obtain ⟨w1, hw1⟩ : ∃ w1, w1 = w.alloc (Obj.cells #[vd, vm] 98) := ⟨_, rfl⟩
  rw [← hw1] at hb hBl hdr
  have c0 : w1.cell? ⟨w.heap.size, 0, none⟩ = some vd := Blk.cell hb 0
  have c1 : w1.cell? ⟨w.heap.size, 1, none⟩ = some vm := Blk.cell hb 1
  have HLT := Lib.hid hb.lt
  have z0 := textsB_size ds h1
  have z1 := leS_size ms.length 4
  have z2 : ds.length * 1048580 ≤ 1048576 * 1048580 := Nat.mul_le_mul_right _ h2
  have t0 : ¬ 9223372036854775807 < (textsB ds).size + (leS ms.length 4).size := by omega
  have HSZ := Lib.hid (fun k => foldl_size_take (fun n => leS (u64 n) 8) 8 ms k (textsB ds ++ leS ms.length 4) (fun n _ => by rw [leS_size]; omega))
  have HZ0 := Lib.hid (show (textsB ds ++ leS ms.length 4).size ≤ 1099511627776000 by rw [ByteArray.size_append]; omega)
  have HFB := Lib.hid (show factB ⟨ds, ms⟩ = ms.foldl (fun a n => a ++ leS (u64 n) 8) (textsB ds ++ leS ms.length 4) from rfl)
  obtain ⟨D, hD⟩ : ∃ D, textsB ds = D := ⟨_, rfl⟩
  rw [hD] at hdr t0 HSZ HZ0 HFB
  have HDR := Lib.hid hdr
  have HC := Lib.hid hc
  have HBl := Lib.hid hBl
  have HCN := Lib.hid (fun w => count55 ms.length w (by omega))
  subst hvd hvm
  have HB := Lib.hid (And.intro hb hB)
  clear hd hm h1 h2 hc hBl hb z0 z1 z2 hD hdr hB
  go_enter Try.func56, Try.ntmps56
  go_upto_region 1 with fail
  rw [← hw1]
  clear hw1
  refine wp_region_below (by kernel_rfl) (by kernel_rfl) ?_
  refine qb_pure rfl (.pointer (some ⟨w.heap.size, 0, none⟩)) (fun w' hB' => by go_simp) ?_
  simp only [Act.put, List.setIfInBounds_toArray, List.set_cons_zero, List.set_cons_succ]
  refine qb_pure rfl (.slice ad ds.length cd) (fun w' hB' => by have q0 := (Below.cell hB' (p := ⟨w.heap.size, 0, none⟩) HLT.out).trans c0; go_simp) ?_
  simp only [Act.put, List.setIfInBounds_toArray, List.set_cons_zero, List.set_cons_succ]
  refine qb_call rfl 53 #[.slice ad ds.length cd] (.string D) (fun w' => by go_simp) (fun w' hB' => HDR.out w' hB') ?_
  simp only [Act.put, List.setIfInBounds_toArray, List.set_cons_zero, List.set_cons_succ]
  refine qb_pure rfl (.pointer (some ⟨w.heap.size, 1, none⟩)) (fun w' hB' => by go_simp) ?_
  simp only [Act.put, List.setIfInBounds_toArray, List.set_cons_zero, List.set_cons_succ]
  refine qb_pure rfl (.slice am ms.length cm) (fun w' hB' => by have q0 := (Below.cell hB' (p := ⟨w.heap.size, 1, none⟩) HLT.out).trans c1; go_simp) ?_
  simp only [Act.put, List.setIfInBounds_toArray, List.set_cons_zero, List.set_cons_succ]
  refine qb_pure rfl (.int .i64 ms.length) (fun w' hB' => by go_simp) ?_
  simp only [Act.put, List.setIfInBounds_toArray, List.set_cons_zero, List.set_cons_succ]
  refine qb_call rfl 55 #[.int .i64 ms.length] (.string (leS ms.length 4)) (fun w' => by go_simp) (fun w' hB' => HCN.out w') ?_
  simp only [Act.put, List.setIfInBounds_toArray, List.set_cons_zero, List.set_cons_succ]
  refine qb_pure rfl (.string (D ++ leS ms.length 4)) (fun w' hB' => by go_simp) ?_
  simp only [Act.put, List.setIfInBounds_toArray, List.set_cons_zero, List.set_cons_succ]
  refine qb_pure rfl (.string (D ++ leS ms.length 4)) (fun w' hB' => by go_simp) ?_
  simp only [Act.put, List.setIfInBounds_toArray, List.set_cons_zero, List.set_cons_succ]
  refine qb_nil ?_
  intro w2 hB2
  have HB2 := Lib.hid hB2
  clear hB2 HDR HCN
  go_wp2_with fail
  go_loopw [3, 4] (fun s i wr => ∃ k : Nat, k ≤ ms.length ∧ i = .int .i64 k ∧ s = .string ((ms.take k).foldl (fun a n => a ++ leS (u64 n) 8) (D ++ leS ms.length 4)) ∧ Below w1.heap.size w1 wr) (fun _ i _ => ms.length - (intOf i).toNat)
  case atStart => exact ⟨0, by omega, rfl, rfl, HB2.out⟩
  case round =>
    obtain ⟨k, hk, rfl, rfl, hBr⟩ := hrel
    have q1 := (Below.cell hBr (p := ⟨w.heap.size, 1, none⟩) HLT.out).trans c1
    by_cases hlt : k < ms.length
    · obtain ⟨g, off, rfl, hg, hcell⟩ := HC.out (by omega)
      have hst := foldl_take (fun a n => a ++ leS (u64 n) 8) (D ++ leS ms.length 4) ms 0 k hlt
      have hsz := HSZ.out k
      have hz0 := HZ0.out
      have q := (Below.cell (Below.trans HBl.out (hBr.mono HBl.out.size)) (p := ⟨g, off + k, none⟩) (by show g < _; have := HB.out.2; omega)).trans (hcell k hlt)
      obtain ⟨s, hs⟩ : ∃ s, ms.getD k 0 = s := ⟨_, rfl⟩
      rw [hs] at hst q
      obtain ⟨acc, ha⟩ : ∃ acc, (ms.take k).foldl (fun a n => a ++ leS (u64 n) 8) (D ++ leS ms.length 4) = acc := ⟨_, rfl⟩
      rw [ha] at hst hsz ⊢
      have hwr := wrap_u64 s
      have hm := u64_lt s
      obtain ⟨m, hme⟩ : ∃ m, u64 s = m := ⟨_, rfl⟩
      rw [hme] at hwr hm hst
      have HST := Lib.hid hst
      have t1 : ¬ 9223372036854775807 < acc.size + (leS m 8).size := by
        rw [leS_size]
        have : ms.length * 8 ≤ 1048576 * 8 := Nat.mul_le_mul_right _ h3
        omega
      have HT := Lib.hid (num39 m 8 wr hm (by omega))
      have HBr := Lib.hid hBr
      have hkI : decide ((k : Int) < ms.length) = true := decide_eq_true (by omega)
      clear hst hs ha hsz hcell hBr hme hm hz0 HC
      go_wp2_with fail
      refine HT.out.mono ?_
      rintro e w3 ⟨rfl, h2⟩
      have H2 := Lib.hid (Below.call HBr.out h2)
      clear h2
      go_wp2_with fail
      go_roundw
      case rel => exact ⟨k + 1, by omega, by go_num, by rw [HST.out], H2.out⟩
      case measure => simp [intOf]; omega
    · obtain rfl : k = ms.length := by omega
      have hkI : decide ((ms.length : Int) < ms.length) = false := by simp
      rw [List.take_length]
      have HBr := Lib.hid hBr
      clear hBr
      go_wp2_with fail
      go_ret
      exact ⟨by rw [HFB.out]; rfl, Below.call HBl.out HBr.out⟩
end Go.Proofs.Ytocanbdpdnkapaa
