/- The reference's texts and fact, where all together is not too large. -/
import Derived.Test.YtocanbdpdnkapaaR
import Derived.Test.YtocanbdpdnkapaaZH
namespace Go.Proofs.Ytocanbdpdnkapaa
open Go.RowKit
set_option linter.unusedVariables false
set_option linter.unusedSimpArgs false

theorem foldl_le {α : Type} (f : α → ByteArray) (l : List α) (a : ByteArray) : a.size ≤ (l.foldl (fun a x => a ++ f x) a).size := by
  induction l generalizing a with
  | nil => exact Nat.le_refl _
  | cons x l ih =>
    have := ih (a ++ f x)
    rw [ByteArray.size_append] at this
    rw [List.foldl_cons]
    omega
theorem foldl_take_le {α : Type} (f : α → ByteArray) (l : List α) (k : Nat) (a : ByteArray) : ((l.take k).foldl (fun a x => a ++ f x) a).size ≤ (l.foldl (fun a x => a ++ f x) a).size := by
  have h : l.foldl (fun a x => a ++ f x) a = (l.drop k).foldl (fun a x => a ++ f x) ((l.take k).foldl (fun a x => a ++ f x) a) := by
    rw [← List.foldl_append, List.take_append_drop]
  rw [h]
  exact foldl_le f _ _
theorem text52G (s : ByteArray) (w : World) (hs : s.size ≤ 1152921504606846976) : Calls Try.prog 52 #[.string s] w fun e w' => e = .returned (.string (textB s)) ∧ Below w.heap.size w w' := by
  have HN := Lib.hid (count55 s.size w (by omega))
  have z1 := leS_size s.size 4
  have t1 : ¬ 9223372036854775807 < (leS s.size 4).size + s.size := by omega
  clear z1
  go_enter Try.func52, Try.ntmps52
  go_wp2_with fail
  refine HN.out.mono ?_
  rintro e w1 ⟨rfl, h1⟩
  go_wp2_with fail
  go_ret
  exact ⟨rfl, h1⟩

set_option maxHeartbeats 4000000 in
theorem texts53G (v : Value) (l : List ByteArray) (w : World) (B : Nat) (hB : B ≤ w.heap.size) (hr : RowS B w v l) (hT : (textsB l).size ≤ 1152921504606846976) :
    Calls Try.prog 53 #[v] w fun e w' => e = .returned (.string (textsB l)) ∧ Below w.heap.size w w' := by
  obtain ⟨a, cap, rfl, hcap, hmax, hc⟩ := hr.open
  have HN := Lib.hid (count55 l.length w (by omega))
  have HSZ := Lib.hid (fun k => (Nat.le_trans (foldl_take_le textB l k (leS l.length 4)) hT : ((l.take k).foldl (fun a x => a ++ textB x) (leS l.length 4)).size ≤ 1152921504606846976))
  have HC := Lib.hid hc
  clear hr hc hT
  go_enter Try.func53, Try.ntmps53
  go_wp2_with fail
  refine HN.out.mono ?_
  rintro e w1 ⟨rfl, h1⟩
  have H1 := Lib.hid h1
  clear h1
  go_wp2_with fail
  go_loopw [3, 4] (fun s i wr => ∃ k : Nat, k ≤ l.length ∧ i = .int .i64 k ∧ s = .string ((l.take k).foldl (fun a x => a ++ textB x) (leS l.length 4)) ∧ Below w.heap.size w wr) (fun _ i _ => l.length - (intOf i).toNat)
  case atStart => exact ⟨0, by omega, rfl, rfl, H1.out⟩
  case round =>
    obtain ⟨k, hk, rfl, rfl, hBr⟩ := hrel
    by_cases hlt : k < l.length
    · obtain ⟨g, off, rfl, hg, hcell⟩ := HC.out (by omega)
      have hst := foldl_take (fun a x => a ++ textB x) (leS l.length 4) l ByteArray.empty k hlt
      have hsz := HSZ.out (k + 1)
      have q := (Below.cell hBr (p := ⟨g, off + k, none⟩) (by show g < _; omega)).trans (hcell k hlt)
      obtain ⟨s, hs⟩ : ∃ s, l.getD k ByteArray.empty = s := ⟨_, rfl⟩
      rw [hs] at hst q
      obtain ⟨acc, ha⟩ : ∃ acc, (l.take k).foldl (fun a x => a ++ textB x) (leS l.length 4) = acc := ⟨_, rfl⟩
      rw [ha] at hst ⊢
      rw [hst, ByteArray.size_append, textB_size] at hsz
      have HST := Lib.hid hst
      have t1 : ¬ 9223372036854775807 < acc.size + (textB s).size := by
        rw [textB_size]
        omega
      have HT := Lib.hid (text52G s wr (by omega))
      have HBr := Lib.hid hBr
      have hkI : decide ((k : Int) < l.length) = true := decide_eq_true (by omega)
      clear hst hs ha hsz hcell hBr
      go_wp2_with fail
      refine HT.out.mono ?_
      rintro e w2 ⟨rfl, h2⟩
      have H2 := Lib.hid (Below.call HBr.out h2)
      clear h2
      go_wp2_with fail
      go_roundw
      case rel => exact ⟨k + 1, by omega, by go_num, by rw [HST.out], H2.out⟩
      case measure => simp [intOf]; omega
    · obtain rfl : k = l.length := by omega
      have hkI : decide ((l.length : Int) < l.length) = false := by simp
      rw [List.take_length]
      have HBr := Lib.hid hBr
      clear hBr
      go_wp2_with fail
      go_ret
      exact ⟨rfl, HBr.out⟩
set_option maxHeartbeats 8000000 in
theorem fact56G (f : FactT) (vd vm : Value) (w : World) (B : Nat) (hB : B ≤ w.heap.size) (hd : RowS B w vd f.dims) (hm : RowI B w vm f.meas) (hf : (factB f).size ≤ 1152921504606846976) :
    Calls Try.prog 56 #[.agg #[vd, vm]] w fun e w' => e = .returned (.string (factB f)) ∧ Below w.heap.size w w' := by
  obtain ⟨ds, ms⟩ := f
  simp only at hd hm
  have hsz0 : ∀ k, ((ms.take k).foldl (fun a n => a ++ leS (u64 n) 8) (textsB ds ++ leS ms.length 4)).size ≤ 1152921504606846976 := fun k => Nat.le_trans (foldl_take_le (fun n => leS (u64 n) 8) ms k (textsB ds ++ leS ms.length 4)) hf
  have hd0 := hsz0 0
  rw [List.take_zero, List.foldl_nil, ByteArray.size_append] at hd0
  obtain ⟨am, cm, hvm, hcap, hmax, hc⟩ := hm.open
  obtain ⟨ad, cd, hvd, -⟩ := hd.open
  have hBl := Below.al (Below.refl w.heap.size w) (Obj.cells #[vd, vm] 98)
  have hb := Blk.new w 98 #[vd, vm]
  have hdr := fun w' (h : Below (w.alloc (Obj.cells #[vd, vm] 98)).heap.size (w.alloc (Obj.cells #[vd, vm] 98)) w') => texts53G vd ds w' B (Nat.le_trans hB (Nat.le_trans hBl.size h.size)) (RowS.mono hd ((Below.trans hBl (h.mono hBl.size)).mono hB) (Nat.le_refl _)) (by omega)
  obtain ⟨w1, hw1⟩ : ∃ w1, w1 = w.alloc (Obj.cells #[vd, vm] 98) := ⟨_, rfl⟩
  rw [← hw1] at hb hBl hdr
  have c0 : w1.cell? ⟨w.heap.size, 0, none⟩ = some vd := Blk.cell hb 0
  have c1 : w1.cell? ⟨w.heap.size, 1, none⟩ = some vm := Blk.cell hb 1
  have HLT := Lib.hid hb.lt
  have z0 := hd0
  have z1 := leS_size ms.length 4
  have t0 : ¬ 9223372036854775807 < (textsB ds).size + (leS ms.length 4).size := by omega
  have HSZ := Lib.hid hsz0
  have HFB := Lib.hid (show factB ⟨ds, ms⟩ = ms.foldl (fun a n => a ++ leS (u64 n) 8) (textsB ds ++ leS ms.length 4) from rfl)
  obtain ⟨D, hD⟩ : ∃ D, textsB ds = D := ⟨_, rfl⟩
  rw [hD] at hdr t0 HSZ HFB
  have HDR := Lib.hid hdr
  have HC := Lib.hid hc
  have HBl := Lib.hid hBl
  have HCN := Lib.hid (fun w => count55 ms.length w (by omega))
  subst hvd hvm
  have HB := Lib.hid (And.intro hb hB)
  clear hd hm hf hsz0 hd0 hc hBl hb z0 z1 hD hdr hB
  go_enter Try.func56, Try.ntmps56
  go_upto_region 1 with fail
  rw [← hw1]
  clear hw1
  refine wp_region_below (by kernel_rfl) (by kernel_rfl) ?_
  refine qb_pure rfl (.pointer (some ⟨w.heap.size, 0, none⟩)) (fun w' hB' => by go_simp) ?_
  simp only [Act.put, List.setIfInBounds_toArray, List.set_cons_zero, List.set_cons_succ]
  refine qb_pure rfl (.slice ad ds.length cd) (fun w' hB' => by have q0 := (Below.cell hB' (p := ⟨w.heap.size, 0, none⟩) HLT.out).trans c0; go_simp) ?_
  simp only [Act.put, List.setIfInBounds_toArray, List.set_cons_zero, List.set_cons_succ]
  refine qb_call rfl 53 #[.slice ad ds.length cd] (.string D) (fun w' => by go_simp) (fun w' hB' => HDR.out w' hB') ?_
  simp only [Act.put, List.setIfInBounds_toArray, List.set_cons_zero, List.set_cons_succ]
  refine qb_pure rfl (.pointer (some ⟨w.heap.size, 1, none⟩)) (fun w' hB' => by go_simp) ?_
  simp only [Act.put, List.setIfInBounds_toArray, List.set_cons_zero, List.set_cons_succ]
  refine qb_pure rfl (.slice am ms.length cm) (fun w' hB' => by have q0 := (Below.cell hB' (p := ⟨w.heap.size, 1, none⟩) HLT.out).trans c1; go_simp) ?_
  simp only [Act.put, List.setIfInBounds_toArray, List.set_cons_zero, List.set_cons_succ]
  refine qb_pure rfl (.int .i64 ms.length) (fun w' hB' => by go_simp) ?_
  simp only [Act.put, List.setIfInBounds_toArray, List.set_cons_zero, List.set_cons_succ]
  refine qb_call rfl 55 #[.int .i64 ms.length] (.string (leS ms.length 4)) (fun w' => by go_simp) (fun w' hB' => HCN.out w') ?_
  simp only [Act.put, List.setIfInBounds_toArray, List.set_cons_zero, List.set_cons_succ]
  refine qb_pure rfl (.string (D ++ leS ms.length 4)) (fun w' hB' => by go_simp) ?_
  simp only [Act.put, List.setIfInBounds_toArray, List.set_cons_zero, List.set_cons_succ]
  refine qb_pure rfl (.string (D ++ leS ms.length 4)) (fun w' hB' => by go_simp) ?_
  simp only [Act.put, List.setIfInBounds_toArray, List.set_cons_zero, List.set_cons_succ]
  refine qb_nil ?_
  intro w2 hB2
  have HB2 := Lib.hid hB2
  clear hB2 HDR HCN
  go_wp2_with fail
  go_loopw [3, 4] (fun s i wr => ∃ k : Nat, k ≤ ms.length ∧ i = .int .i64 k ∧ s = .string ((ms.take k).foldl (fun a n => a ++ leS (u64 n) 8) (D ++ leS ms.length 4)) ∧ Below w1.heap.size w1 wr) (fun _ i _ => ms.length - (intOf i).toNat)
  case atStart => exact ⟨0, by omega, rfl, rfl, HB2.out⟩
  case round =>
    obtain ⟨k, hk, rfl, rfl, hBr⟩ := hrel
    have q1 := (Below.cell hBr (p := ⟨w.heap.size, 1, none⟩) HLT.out).trans c1
    by_cases hlt : k < ms.length
    · obtain ⟨g, off, rfl, hg, hcell⟩ := HC.out (by omega)
      have hst := foldl_take (fun a n => a ++ leS (u64 n) 8) (D ++ leS ms.length 4) ms 0 k hlt
      have hsz := HSZ.out (k + 1)
      have q := (Below.cell (Below.trans HBl.out (hBr.mono HBl.out.size)) (p := ⟨g, off + k, none⟩) (by show g < _; have := HB.out.2; omega)).trans (hcell k hlt)
      obtain ⟨s, hs⟩ : ∃ s, ms.getD k 0 = s := ⟨_, rfl⟩
      rw [hs] at hst q
      obtain ⟨acc, ha⟩ : ∃ acc, (ms.take k).foldl (fun a n => a ++ leS (u64 n) 8) (D ++ leS ms.length 4) = acc := ⟨_, rfl⟩
      rw [ha] at hst ⊢
      rw [hst] at hsz
      have hwr := wrap_u64 s
      have hm := u64_lt s
      obtain ⟨m, hme⟩ : ∃ m, u64 s = m := ⟨_, rfl⟩
      rw [hme] at hwr hm hst hsz
      rw [ByteArray.size_append, leS_size] at hsz
      have HST := Lib.hid hst
      have t1 : ¬ 9223372036854775807 < acc.size + (leS m 8).size := by
        rw [leS_size]
        omega
      have HT := Lib.hid (num39 m 8 wr hm (by omega))
      have HBr := Lib.hid hBr
      have hkI : decide ((k : Int) < ms.length) = true := decide_eq_true (by omega)
      clear hst hs ha hsz hcell hBr hme hm HC
      go_wp2_with fail
      refine HT.out.mono ?_
      rintro e w3 ⟨rfl, h2⟩
      have H2 := Lib.hid (Below.call HBr.out h2)
      clear h2
      go_wp2_with fail
      go_roundw
      case rel => exact ⟨k + 1, by omega, by go_num, by rw [HST.out], H2.out⟩
      case measure => simp [intOf]; omega
    · obtain rfl : k = ms.length := by omega
      have hkI : decide ((ms.length : Int) < ms.length) = false := by simp
      rw [List.take_length]
      have HBr := Lib.hid hBr
      clear hBr
      go_wp2_with fail
      go_ret
      exact ⟨by rw [HFB.out]; rfl, Below.call HBl.out HBr.out⟩


theorem sameTexts57G (B1 B2 : Nat) (v1 v2 : Value) (l : List ByteArray) (w : World) (h1 : RowS B1 w v1 l) (h2 : RowS B2 w v2 l) (hB1 : B1 ≤ w.heap.size) (hB2 : B2 ≤ w.heap.size) :
    Calls Try.prog 57 #[v1, v2] w fun e w' => e = .returned (.bool true) ∧ Below w.heap.size w w' := by
  obtain ⟨a1, cap1, rfl, hcap1, hmax1, hc1⟩ := h1.open
  obtain ⟨a2, cap2, rfl, hcap2, hmax2, hc2⟩ := h2.open
  have HC1 := Lib.hid hc1
  have HC2 := Lib.hid hc2
  clear hc1 hc2
  go_enter Try.func57, Try.ntmps57
  go_wp2_with fail
  go_loopw [5] (fun i wr => ∃ k : Nat, k ≤ l.length ∧ i = .int .i64 k ∧ Below w.heap.size w wr) (fun i _ => l.length - (intOf i).toNat)
  case atStart => exact ⟨0, by omega, rfl, Below.refl _ _⟩
  case round =>
    obtain ⟨k, hk, rfl, hB⟩ := hrel
    by_cases hlt : k < l.length
    · obtain ⟨b1, off1, rfl, hb1, hcell1⟩ := HC1.out (by omega)
      obtain ⟨b2, off2, rfl, hb2, hcell2⟩ := HC2.out (by omega)
      have g1 := (hB.cell (p := ⟨b1, off1 + k, none⟩) (by show b1 < _; omega)).trans (hcell1 k hlt)
      have g2 := (hB.cell (p := ⟨b2, off2 + k, none⟩) (by show b2 < _; omega)).trans (hcell2 k hlt)
      generalize l.getD k _ = y at g1 g2
      have HB := Lib.hid hB
      have hkI : decide ((k : Int) < l.length) = true := decide_eq_true (by omega)
      clear hcell1 hcell2 HC1 HC2 hB
      go_wp2_with fail
      go_quiet (fail)
      go_wp2_with fail
      go_roundw
      case rel => exact ⟨k + 1, by omega, by go_num, Below.drewN HB.out _⟩
      case measure => simp [intOf]; omega
    · have hkI : decide ((k : Int) < l.length) = false := decide_eq_false (by omega)
      have HB := Lib.hid hB
      clear hB HC1 HC2
      go_wp2_with fail
      go_ret
      exact ⟨rfl, HB.out⟩

set_option maxRecDepth 100000 in
set_option maxHeartbeats 32000000 in
theorem same25G (t : ThingT) (va vb : ThV) (w : World) (h1 : RowsT w.heap.size w t va) (h2 : RowsT w.heap.size w t vb) (hf : ∀ f ∈ t.facts, (factB f).size ≤ 1152921504606846976) :
    Calls Try.prog 25 #[.agg (thingC t va), .agg (thingC t vb)] w fun e w' => e = .returned (.bool true) ∧ Below w.heap.size w w' := by
  obtain ⟨k, n, s, l, cs, fs, m⟩ := t
  obtain ⟨vl, vc, vf, vm⟩ := va
  obtain ⟨ul, uc, uf, um⟩ := vb
  have HR1 := Lib.hid h1
  have HR2 := Lib.hid h2
  obtain ⟨a1, c1, e1, -⟩ := h1.l.open
  obtain ⟨a2, c2, e2, m2, x2, hc2⟩ := h1.c
  obtain ⟨ps, hps, ⟨a3, c3, e3, m3, x3, hc3⟩, hps2⟩ := h1.f
  obtain ⟨a4, c4, e4, -⟩ := h1.m.open
  obtain ⟨i1, d1, f1, -⟩ := h2.l.open
  obtain ⟨i2, d2, f2, n2, y2, hd2⟩ := h2.c
  obtain ⟨qs, hqs, ⟨i3, d3, f3, n3, y3, hd3⟩, hqs2⟩ := h2.f
  obtain ⟨i4, d4, f4, -⟩ := h2.m.open
  simp only at e1 e2 e3 e4 f1 f2 f3 f4 hps hqs hps2 hqs2 hc2 hd2 m2 n2
  rw [hps] at e3 m3 hc3
  rw [hqs] at f3 n3 hd3
  subst e1 e2 e3 e4 f1 f2 f3 f4
  have HC2 := Lib.hid hc2
  have HD2 := Lib.hid hd2
  have HC3 := Lib.hid hc3
  have HD3 := Lib.hid hd3
  have HP := Lib.hid (And.intro hps hps2)
  have HQ := Lib.hid (And.intro hqs hqs2)
  have HF := Lib.hid hf
  clear hc2 hd2 hc3 hd3 hps hps2 hqs hqs2 hf h1 h2
  unfold thingC
  simp only
  have hX := Blk.alloc (Blk.new w 57 #[.int .i64 k, .int .i64 n, .string s, .slice a1 l.length c1, .slice a2 cs.length c2, .slice a3 fs.length c3, .slice a4 m.length c4]) (Obj.cells #[.int .i64 k, .int .i64 n, .string s, .slice i1 l.length d1, .slice i2 cs.length d2, .slice i3 fs.length d3, .slice i4 m.length d4] 57)
  have hY := Blk.newAt (w.alloc (Obj.cells #[.int .i64 k, .int .i64 n, .string s, .slice a1 l.length c1, .slice a2 cs.length c2, .slice a3 fs.length c3, .slice a4 m.length c4] 57)) 57 #[.int .i64 k, .int .i64 n, .string s, .slice i1 l.length d1, .slice i2 cs.length d2, .slice i3 fs.length d3, .slice i4 m.length d4] (b := w.heap.size + 1) (by simp)
  have hBl := Below.al (Below.al (Below.refl w.heap.size w) (Obj.cells #[.int .i64 k, .int .i64 n, .string s, .slice a1 l.length c1, .slice a2 cs.length c2, .slice a3 fs.length c3, .slice a4 m.length c4] 57)) (Obj.cells #[.int .i64 k, .int .i64 n, .string s, .slice i1 l.length d1, .slice i2 cs.length d2, .slice i3 fs.length d3, .slice i4 m.length d4] 57)
  obtain ⟨w1, hw1⟩ : ∃ w1, w1 = (w.alloc (Obj.cells #[.int .i64 k, .int .i64 n, .string s, .slice a1 l.length c1, .slice a2 cs.length c2, .slice a3 fs.length c3, .slice a4 m.length c4] 57)).alloc (Obj.cells #[.int .i64 k, .int .i64 n, .string s, .slice i1 l.length d1, .slice i2 cs.length d2, .slice i3 fs.length d3, .slice i4 m.length d4] 57) := ⟨_, rfl⟩
  rw [← hw1] at hX hY hBl
  have HXY := Lib.hid (And.intro hX hY)
  have HB1 := Lib.hid hBl
  have q3 : w1.cell? ⟨w.heap.size, 3, none⟩ = some (.slice a1 l.length c1) := Blk.cell hX 3
  have r3 : w1.cell? ⟨w.heap.size + 1, 3, none⟩ = some (.slice i1 l.length d1) := Blk.cell hY 3
  clear hX hY hBl
  go_enter Try.func25, Try.ntmps25
  go_upto_region 1 with fail
  rw [← hw1]
  clear hw1
  go_wp2_with fail
  refine (sameTexts57G w.heap.size w.heap.size _ _ l w1 (HR1.out.l.mono HB1.out (Nat.le_refl _)) (HR2.out.l.mono HB1.out (Nat.le_refl _)) HB1.out.size HB1.out.size).mono ?_
  rintro e w2 ⟨rfl, hB2⟩
  have HB2 := Lib.hid (Below.call HB1.out hB2)
  have HXY2 := Lib.hid (And.intro (Blk.below HXY.out.1 hB2 HXY.out.1.lt) (Blk.below HXY.out.2 hB2 HXY.out.2.lt))
  clear hB2 q3 r3
  have q6 : w2.cell? ⟨w.heap.size, 6, none⟩ = some (.slice a4 m.length c4) := Blk.cell HXY2.out.1 6
  have r6 : w2.cell? ⟨w.heap.size + 1, 6, none⟩ = some (.slice i4 m.length d4) := Blk.cell HXY2.out.2 6
  go_wp2_with fail
  refine (sameTexts57G w.heap.size w.heap.size _ _ m w2 (HR1.out.m.mono HB2.out (Nat.le_refl _)) (HR2.out.m.mono HB2.out (Nat.le_refl _)) HB2.out.size HB2.out.size).mono ?_
  rintro e w3 ⟨rfl, hB3⟩
  have HB3 := Lib.hid (Below.call HB2.out hB3)
  have HXY3 := Lib.hid (And.intro (Blk.below HXY2.out.1 hB3 HXY2.out.1.lt) (Blk.below HXY2.out.2 hB3 HXY2.out.2.lt))
  clear hB3 q6 r6
  have q0 : w3.cell? ⟨w.heap.size, 0, none⟩ = some (.int .i64 k) := Blk.cell HXY3.out.1 0
  have r0 : w3.cell? ⟨w.heap.size + 1, 0, none⟩ = some (.int .i64 k) := Blk.cell HXY3.out.2 0
  have q1 : w3.cell? ⟨w.heap.size, 1, none⟩ = some (.int .i64 n) := Blk.cell HXY3.out.1 1
  have r1 : w3.cell? ⟨w.heap.size + 1, 1, none⟩ = some (.int .i64 n) := Blk.cell HXY3.out.2 1
  have q2 : w3.cell? ⟨w.heap.size, 2, none⟩ = some (.string s) := Blk.cell HXY3.out.1 2
  have r2 : w3.cell? ⟨w.heap.size + 1, 2, none⟩ = some (.string s) := Blk.cell HXY3.out.2 2
  have q4 : w3.cell? ⟨w.heap.size, 4, none⟩ = some (.slice a2 cs.length c2) := Blk.cell HXY3.out.1 4
  have r4 : w3.cell? ⟨w.heap.size + 1, 4, none⟩ = some (.slice i2 cs.length d2) := Blk.cell HXY3.out.2 4
  have q5 : w3.cell? ⟨w.heap.size, 5, none⟩ = some (.slice a3 fs.length c3) := Blk.cell HXY3.out.1 5
  have r5 : w3.cell? ⟨w.heap.size + 1, 5, none⟩ = some (.slice i3 fs.length d3) := Blk.cell HXY3.out.2 5
  have hs3 : w.heap.size < w3.heap.size := HXY3.out.1.lt
  have hs4 : w.heap.size + 1 < w3.heap.size := HXY3.out.2.lt
  go_wp2_with fail
  go_loopw [7] (fun i wr => ∃ j : Nat, j ≤ cs.length ∧ i = .int .i64 j ∧ Below w3.heap.size w3 wr) (fun i _ => cs.length - (intOf i).toNat)
  case atStart => exact ⟨0, by omega, rfl, Below.refl _ _⟩
  case round =>
    obtain ⟨j, hj, rfl, hB⟩ := hrel
    have p4 := (hB.cell (p := ⟨w.heap.size, 4, none⟩) hs3).trans q4
    have o4 := (hB.cell (p := ⟨w.heap.size + 1, 4, none⟩) hs4).trans r4
    by_cases hlt : j < cs.length
    · obtain ⟨g1, o1, rfl, hg1, hcell1⟩ := HC2.out (by omega)
      obtain ⟨g2, o2, rfl, hg2, hcell2⟩ := HD2.out (by omega)
      obtain ⟨⟨ca, cb, ct⟩, hget⟩ : ∃ p, cs[j]? = some p := ⟨_, List.getElem?_eq_getElem hlt⟩
      have hbw := HB3.out.trans (hB.mono (show w.heap.size ≤ w3.heap.size from HB3.out.size))
      have x0 : wr.cell? ⟨g1, o1 + j * 3, none⟩ = some (.int .i64 ca) := (hbw.cell (by exact hg1)).trans (hcell1 j _ hget 0 (by omega))
      have x1 : wr.cell? ⟨g1, o1 + j * 3 + 1, none⟩ = some (.int .i64 cb) := (hbw.cell (by exact hg1)).trans (hcell1 j _ hget 1 (by omega))
      have x2 : wr.cell? ⟨g1, o1 + j * 3 + 2, none⟩ = some (.string ct) := (hbw.cell (by exact hg1)).trans (hcell1 j _ hget 2 (by omega))
      have y0 : wr.cell? ⟨g2, o2 + j * 3, none⟩ = some (.int .i64 ca) := (hbw.cell (by exact hg2)).trans (hcell2 j _ hget 0 (by omega))
      have y1 : wr.cell? ⟨g2, o2 + j * 3 + 1, none⟩ = some (.int .i64 cb) := (hbw.cell (by exact hg2)).trans (hcell2 j _ hget 1 (by omega))
      have y2 : wr.cell? ⟨g2, o2 + j * 3 + 2, none⟩ = some (.string ct) := (hbw.cell (by exact hg2)).trans (hcell2 j _ hget 2 (by omega))
      have HB := Lib.hid hB
      have hkI : decide ((j : Int) < cs.length) = true := decide_eq_true (by omega)
      clear hcell1 hcell2 HC2 HD2 hB hbw hget
      go_wp2_with fail
      go_quiet (fail)
      go_wp2_with fail
      go_roundw
      case rel => exact ⟨j + 1, by omega, by go_num, Below.drewN HB.out _⟩
      case measure => simp [intOf]; omega
    · obtain rfl : j = cs.length := by omega
      have hkI : decide ((cs.length : Int) < cs.length) = false := by simp
      have HB := Lib.hid hB
      have p5 := (hB.cell (p := ⟨w.heap.size, 5, none⟩) hs3).trans q5
      have o5 := (hB.cell (p := ⟨w.heap.size + 1, 5, none⟩) hs4).trans r5
      have hs5 : w.heap.size < wr.heap.size := Nat.lt_of_lt_of_le hs3 hB.size
      have hs6 : w.heap.size + 1 < wr.heap.size := Nat.lt_of_lt_of_le hs4 hB.size
      have HBR := Lib.hid (HB3.out.trans (hB.mono (show w.heap.size ≤ w3.heap.size from HB3.out.size)))
      clear hB HB HC2 HD2 q0 r0 q1 r1 q2 r2 q4 r4 q5 r5
      obtain ⟨ws, hws⟩ : ∃ ws, ws = wr := ⟨_, rfl⟩
      subst hws
      go_wp2_with fail
      go_loopw [8] (fun i wr => ∃ j : Nat, j ≤ fs.length ∧ i = .int .i64 j ∧ Below ws.heap.size ws wr) (fun i _ => fs.length - (intOf i).toNat)
      case atStart => exact ⟨0, by omega, rfl, Below.refl _ _⟩
      case round =>
        obtain ⟨j, hj, rfl, hB⟩ := hrel
        have p5 := (hB.cell (p := ⟨w.heap.size, 5, none⟩) hs5).trans p5
        have o5 := (hB.cell (p := ⟨w.heap.size + 1, 5, none⟩) hs6).trans o5
        by_cases hlt : j < fs.length
        · obtain ⟨g1, o1, rfl, hg1, hcell1⟩ := HC3.out (by omega)
          obtain ⟨g2, o2, rfl, hg2, hcell2⟩ := HD3.out (by omega)
          have hl1 := HP.out.1
          have hl2 := HQ.out.1
          obtain ⟨⟨vd1, vm1⟩, hget1⟩ : ∃ p, ps[j]? = some p := ⟨_, List.getElem?_eq_getElem (by omega)⟩
          obtain ⟨⟨vd2, vm2⟩, hget2⟩ : ∃ p, qs[j]? = some p := ⟨_, List.getElem?_eq_getElem (by omega)⟩
          obtain ⟨f, hgetf⟩ : ∃ p, fs[j]? = some p := ⟨_, List.getElem?_eq_getElem hlt⟩
          have hbw := HBR.out.trans (hB.mono (show w.heap.size ≤ ws.heap.size from HBR.out.size))
          have x0g1 : wr.cell? ⟨g1, o1 + j * 2 + 0, none⟩ = some vd1 := (hbw.cell (by exact hg1)).trans (hcell1 j _ hget1 0 (by omega))
          have x1g1 : wr.cell? ⟨g1, o1 + j * 2 + 1, none⟩ = some vm1 := (hbw.cell (by exact hg1)).trans (hcell1 j _ hget1 1 (by omega))
          have x0g2 : wr.cell? ⟨g2, o2 + j * 2 + 0, none⟩ = some vd2 := (hbw.cell (by exact hg2)).trans (hcell2 j _ hget2 0 (by omega))
          have x1g2 : wr.cell? ⟨g2, o2 + j * 2 + 1, none⟩ = some vm2 := (hbw.cell (by exact hg2)).trans (hcell2 j _ hget2 1 (by omega))
          have HB := Lib.hid hB
          have HBW := Lib.hid hbw
          have HFg1 := Lib.hid (fun (w' : World) (hB' : Below wr.heap.size wr w') => fact56G f vd1 vm1 w' w.heap.size (Nat.le_trans hbw.size hB'.size) ((HP.out.2 j f _ hgetf hget1).1.mono (hbw.trans (hB'.mono hbw.size)) (Nat.le_refl _)) ((HP.out.2 j f _ hgetf hget1).2.mono (hbw.trans (hB'.mono hbw.size)) (Nat.le_refl _)) (HF.out f (List.mem_of_getElem? hgetf)))
          have HFg2 := Lib.hid (fun (w' : World) (hB' : Below wr.heap.size wr w') => fact56G f vd2 vm2 w' w.heap.size (Nat.le_trans hbw.size hB'.size) ((HQ.out.2 j f _ hgetf hget2).1.mono (hbw.trans (hB'.mono hbw.size)) (Nat.le_refl _)) ((HQ.out.2 j f _ hgetf hget2).2.mono (hbw.trans (hB'.mono hbw.size)) (Nat.le_refl _)) (HF.out f (List.mem_of_getElem? hgetf)))
          have hkI : decide ((j : Int) < fs.length) = true := decide_eq_true (by omega)
          have hwr1 : w.heap.size < wr.heap.size := Nat.lt_of_lt_of_le hs5 hB.size
          have hwr2 : w.heap.size + 1 < wr.heap.size := Nat.lt_of_lt_of_le hs6 hB.size
          clear hcell1 hcell2 hget1 hget2 hgetf hbw hB HC3 HD3
          go_wp2_with fail
          refine wp_region_below (by kernel_rfl) (by kernel_rfl) ?_
          refine qb_pure rfl _ (fun w' hB' => by go_simp; rfl) ?_
          simp only [Act.put, List.setIfInBounds_toArray, List.set_cons_zero, List.set_cons_succ]
          refine qb_pure rfl (.slice (some ⟨g1, o1, none⟩) fs.length c3) (fun w' hB' => by have h5 := (hB'.cell (p := ⟨w.heap.size, 5, none⟩) hwr1).trans p5; go_simp) ?_
          simp only [Act.put, List.setIfInBounds_toArray, List.set_cons_zero, List.set_cons_succ]
          refine qb_pure rfl _ (fun w' hB' => by go_simp; rfl) ?_
          simp only [Act.put, List.setIfInBounds_toArray, List.set_cons_zero, List.set_cons_succ]
          refine qb_pure rfl (.pointer (some ⟨g1, o1 + j * 2, none⟩)) (fun w' hB' => by go_simp) ?_
          simp only [Act.put, List.setIfInBounds_toArray, List.set_cons_zero, List.set_cons_succ]
          refine qb_load_at rfl 98 _ rfl g1 (o1 + j * 2) rfl #[vd1, vm1] _ (Nat.lt_of_lt_of_le hg1 HBW.out.size) (fun i hi => by match i, hi with | 0, _ => exact x0g1 | 1, _ => exact x1g1) Try.underlying98 rfl info98 ?_
          simp only [Act.put, List.setIfInBounds_toArray, List.set_cons_zero, List.set_cons_succ]
          refine qb_call rfl 56 #[.agg #[vd1, vm1]] (.string (factB f)) (fun w' => by go_simp) (fun w' hB' => HFg1.out w' hB') ?_
          simp only [Act.put, List.setIfInBounds_toArray, List.set_cons_zero, List.set_cons_succ]
          refine qb_pure rfl _ (fun w' hB' => by go_simp; rfl) ?_
          simp only [Act.put, List.setIfInBounds_toArray, List.set_cons_zero, List.set_cons_succ]
          refine qb_pure rfl (.slice (some ⟨g2, o2, none⟩) fs.length d3) (fun w' hB' => by have h5 := (hB'.cell (p := ⟨w.heap.size + 1, 5, none⟩) hwr2).trans o5; go_simp) ?_
          simp only [Act.put, List.setIfInBounds_toArray, List.set_cons_zero, List.set_cons_succ]
          refine qb_pure rfl _ (fun w' hB' => by go_simp; rfl) ?_
          simp only [Act.put, List.setIfInBounds_toArray, List.set_cons_zero, List.set_cons_succ]
          refine qb_pure rfl (.pointer (some ⟨g2, o2 + j * 2, none⟩)) (fun w' hB' => by go_simp) ?_
          simp only [Act.put, List.setIfInBounds_toArray, List.set_cons_zero, List.set_cons_succ]
          refine qb_load_at rfl 98 _ rfl g2 (o2 + j * 2) rfl #[vd2, vm2] _ (Nat.lt_of_lt_of_le hg2 HBW.out.size) (fun i hi => by match i, hi with | 0, _ => exact x0g2 | 1, _ => exact x1g2) Try.underlying98 rfl info98 ?_
          simp only [Act.put, List.setIfInBounds_toArray, List.set_cons_zero, List.set_cons_succ]
          refine qb_call rfl 56 #[.agg #[vd2, vm2]] (.string (factB f)) (fun w' => by go_simp) (fun w' hB' => HFg2.out w' hB') ?_
          simp only [Act.put, List.setIfInBounds_toArray, List.set_cons_zero, List.set_cons_succ]
          refine qb_pure rfl (.bool false) (fun w' hB' => by go_simp) ?_
          simp only [Act.put, List.setIfInBounds_toArray, List.set_cons_zero, List.set_cons_succ]
          refine qb_nil ?_
          intro w5 hB5
          have HB5 := Lib.hid (Below.call HB.out hB5)
          clear hB5
          go_wp2_with fail
          go_roundw
          case rel => exact ⟨j + 1, by omega, by go_num, HB5.out⟩
          case measure => simp [intOf]; omega
        · have hkI : decide ((j : Int) < fs.length) = false := decide_eq_false (by omega)
          have HB := Lib.hid (HBR.out.trans (hB.mono (show w.heap.size ≤ ws.heap.size from HBR.out.size)))
          clear hB
          go_wp2_with fail
          go_ret
          exact ⟨rfl, HB.out⟩


/-- what is taken up leaves so much less -/
def Eats {α : Type} (one : RdS → α × RdS) (sz : α → Nat) : Prop := ∀ x, (one x).2.e = 0 → x.e = 0 ∧ sz (one x).1 + (one x).2.s.size ≤ x.s.size
theorem takeR_eats {x : RdS} {n : Nat} (h : (takeR x n).2.e = 0) : x.e = 0 ∧ (takeR x n).1.size = n ∧ n + (takeR x n).2.s.size = x.s.size := by
  unfold takeR at h ⊢
  by_cases he : x.e = 0
  · rw [if_neg (by simp [he])] at h ⊢
    by_cases hs : x.s.size < n
    · rw [if_pos hs] at h; cases h
    · rw [if_neg hs]
      refine ⟨he, ?_, ?_⟩
      · show (x.s.extract 0 n).size = n
        rw [ByteArray.size_extract]; omega
      · show n + (x.s.extract n x.s.size).size = x.s.size
        rw [ByteArray.size_extract]; omega
  · rw [if_pos he] at h; exact absurd h he
theorem textR_eats : Eats textR (fun s => 4 + s.size) := fun x h => by
  have h' : (takeR (takeR x 4).2 (deS (takeR x 4).1)).2.e = 0 := h
  obtain ⟨h1, h2, h3⟩ := takeR_eats h'
  obtain ⟨h4, h5, h6⟩ := takeR_eats h1
  refine ⟨h4, ?_⟩
  show 4 + (takeR (takeR x 4).2 (deS (takeR x 4).1)).1.size + (takeR (takeR x 4).2 (deS (takeR x 4).1)).2.s.size ≤ x.s.size
  omega
theorem intRR_eats : Eats intRR (fun _ => 8) := fun x h => by
  have h' : (takeR x 8).2.e = 0 := h
  obtain ⟨h1, h2, h3⟩ := takeR_eats h'
  exact ⟨h1, by show 8 + (takeR x 8).2.s.size ≤ _; omega⟩
theorem goR_eats {α : Type} {one : RdS → α × RdS} {sz : α → Nat} (hone : Eats one sz) (n : Nat) : ∀ x, (goR one n x).2.e = 0 → x.e = 0 ∧ ((goR one n x).1.map sz).sum + (goR one n x).2.s.size ≤ x.s.size := by
  induction n with
  | zero => exact fun x h => ⟨h, by show 0 + x.s.size ≤ x.s.size; omega⟩
  | succ n ih =>
    intro x h
    by_cases he : x.e = 0
    · rw [goR_ok one n he] at h ⊢
      obtain ⟨h1, h2⟩ := ih _ h
      obtain ⟨h3, h4⟩ := hone x h1
      refine ⟨he, ?_⟩
      simp only [List.map_cons, List.sum_cons]
      omega
    · rw [goR_err one (n + 1) he] at h; exact absurd h he
theorem sevR_eats {α : Type} {one : RdS → α × RdS} {sz : α → Nat} (hone : Eats one sz) (least : Nat) : Eats (sevR one least) (fun l => 4 + (l.map sz).sum) := fun x h => by
  have h' : (goR one (headR least x).1 (headR least x).2).2.e = 0 := h
  obtain ⟨h1, h2⟩ := goR_eats hone _ _ h'
  have e1 : (sevR one least x).1 = (goR one (headR least x).1 (headR least x).2).1 := if_pos h'
  have h3 : (headR least x).2 = (takeR x 4).2 := by
    have hq : (headR least x).2 = if (takeR x 4).2.e = 0 ∧ (takeR x 4).2.s.size / least < deS (takeR x 4).1 then failR (takeR x 4).2 20 else (takeR x 4).2 := rfl
    by_cases hc : (takeR x 4).2.e = 0 ∧ (takeR x 4).2.s.size / least < deS (takeR x 4).1
    · rw [hq, if_pos hc, show failR (takeR x 4).2 20 = ⟨emptyS, 20⟩ from if_pos ⟨hc.1, by decide⟩] at h1
      cases h1
    · rw [hq, if_neg hc]
  rw [h3] at h1
  obtain ⟨h4, h5, h6⟩ := takeR_eats h1
  refine ⟨h4, ?_⟩
  show 4 + ((sevR one least x).1.map sz).sum + (goR one (headR least x).1 (headR least x).2).2.s.size ≤ x.s.size
  rw [e1]
  rw [h3] at h2 ⊢
  omega
theorem foldl_sum {α : Type} (f : α → ByteArray) (l : List α) (a : ByteArray) : (l.foldl (fun a x => a ++ f x) a).size = a.size + (l.map fun x => (f x).size).sum := by
  induction l generalizing a with
  | nil => simp
  | cons x l ih =>
    rw [List.foldl_cons, ih, ByteArray.size_append, List.map_cons, List.sum_cons]
    omega
theorem textsB_sum (l : List ByteArray) : (textsB l).size = 4 + (l.map fun s => 4 + s.size).sum := by
  unfold textsB
  rw [foldl_sum, leS_size]
  simp only [textB_size]
theorem factB_sum (f : FactT) : (factB f).size = (4 + (f.dims.map fun s => 4 + s.size).sum) + (4 + (f.meas.map fun _ => 8).sum) := by
  unfold factB
  rw [foldl_sum, ByteArray.size_append, leS_size, textsB_sum]
  simp only [leS_size]
  omega
theorem factR_eats : Eats factR (fun f => (factB f).size) := fun x h => by
  have h' : (sevR intRR 8 (sevR textR 4 x).2).2.e = 0 := h
  obtain ⟨h1, h2⟩ := sevR_eats intRR_eats 8 _ h'
  obtain ⟨h3, h4⟩ := sevR_eats textR_eats 4 _ h1
  refine ⟨h3, ?_⟩
  have e : (factR x).1 = ⟨(sevR textR 4 x).1, (sevR intRR 8 (sevR textR 4 x).2).1⟩ := if_pos h'
  show (factB (factR x).1).size + (sevR intRR 8 (sevR textR 4 x).2).2.s.size ≤ x.s.size
  rw [e, factB_sum]
  simp only at h2 h4 ⊢
  omega
theorem sum_mem {l : List Nat} {n : Nat} (h : n ∈ l) : n ≤ l.sum := by
  induction l with
  | nil => cases h
  | cons a l ih =>
    rw [List.sum_cons]
    cases List.mem_cons.1 h with
    | inl e => omega
    | inr e => have := ih e; omega
theorem factR_size (x : RdS) : (factB (factR x).1).size ≤ x.s.size + 8 := by
  by_cases h : (factR x).2.e = 0
  · have h2 := (factR_eats x h).2
    simp only at h2
    omega
  · have e : (factR x).1 = fact0 := if_neg h
    rw [e]
    show (factB fact0).size ≤ _
    rw [factB_sum]
    show 4 + 0 + (4 + 0) ≤ _
    omega
theorem takeT_facts (x : RdS) (t : ThingT) : ∀ f ∈ (takeT x t).1.facts, (factB f).size ≤ x.s.size + 8 := by
  intro f hf
  unfold takeT at hf
  by_cases k0 : t.k = 0
  · rw [if_pos k0] at hf; cases hf
  rw [if_neg k0] at hf
  by_cases k1 : t.k = 1
  · rw [if_pos k1] at hf; cases hf
  rw [if_neg k1] at hf
  by_cases k2 : t.k = 2
  · rw [if_pos k2] at hf; cases hf
  rw [if_neg k2] at hf
  by_cases k3 : t.k = 3
  · rw [if_pos k3] at hf; cases hf
  rw [if_neg k3] at hf
  by_cases k4 : t.k = 4
  · rw [if_pos k4] at hf; cases hf
  rw [if_neg k4] at hf
  by_cases k5 : t.k = 5
  · rw [if_pos k5] at hf; cases hf
  rw [if_neg k5] at hf
  by_cases k6 : t.k = 6
  · rw [if_pos k6] at hf; cases hf
  rw [if_neg k6] at hf
  by_cases k7 : t.k = 7
  · rw [if_pos k7] at hf
    rw [List.mem_singleton.1 hf]
    exact factR_size x
  rw [if_neg k7] at hf
  by_cases k8 : t.k = 8
  · rw [if_pos k8] at hf
    have hf : f ∈ (sevR factR 8 x).1 := hf
    by_cases h : (sevR factR 8 x).2.e = 0
    · have h1 := (sevR_eats factR_eats 8 x h).2
      have h2 := sum_mem (List.mem_map.2 ⟨f, hf, rfl⟩ : (factB f).size ∈ (sevR factR 8 x).1.map fun f => (factB f).size)
      simp only at h1
      omega
    · have e : (sevR factR 8 x).1 = [] := if_neg h
      rw [e] at hf; cases hf
  rw [if_neg k8] at hf
  cases hf

end Go.Proofs.Ytocanbdpdnkapaa
