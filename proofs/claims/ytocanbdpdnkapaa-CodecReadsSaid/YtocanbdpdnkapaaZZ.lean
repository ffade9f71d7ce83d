/- CodecReads. -/
import Derived.Test.YtocanbdpdnkapaaZX
import Derived.Test.YtocanbdpdnkapaaZW
import Derived.Test.YtocanbdpdnkapaaW
namespace Go.Proofs.Ytocanbdpdnkapaa
open Go.RowKit
set_option linter.unusedVariables false
set_option linter.unusedSimpArgs false

theorem RowsFs.rowG {n : Nat} {w : World} {v : Value} {l : List FactT} (h : RowsFs n w v l) : RowF w.heap.size w v l := by
  obtain ⟨ps, rfl, ⟨a, cap, rfl, h1, h2, h3⟩, h4, -⟩ := h
  refine ⟨ps.map (·.2), by simp, ⟨a, cap, by simp, by simpa using h1, h2, fun hn => ?_⟩, fun i f p hf hp => ?_⟩
  · obtain ⟨b, off, ha, hb, hc⟩ := h3 (by simpa using hn)
    refine ⟨b, off, ha, hb, fun i x hx j hj => ?_⟩
    rw [List.getElem?_map, Option.map_eq_some_iff] at hx
    obtain ⟨q, hq, rfl⟩ := hx
    exact hc i q hq j hj
  · rw [List.getElem?_map, Option.map_eq_some_iff] at hf hp
    obtain ⟨q, hq, rfl⟩ := hf
    obtain ⟨q2, hq2, rfl⟩ := hp
    obtain rfl : q = q2 := Option.some.inj (hq.symm.trans hq2)
    have := h4 q (List.mem_of_getElem? hq)
    exact ⟨this.d, this.m⟩
theorem RowsK.rowsG {n : Nat} {w : World} {t : ThingT} {v : ThV} (h : RowsK n w t v) : RowsT w.heap.size w t v := ⟨h.l.1, h.c.1, h.f.rowG, h.m.1⟩
theorem RowsK.keepB {n : Nat} {w w' : World} {t : ThingT} {v : ThV} {b : Option Nat} (h : RowsK n w t v) (hk : KeepB b w w') (hb : ∀ B, b = some B → B < n) : RowsK n w' t v :=
  ⟨⟨Row.keepB h.l.1 h.l.2 hk hb, h.l.2⟩, ⟨RowR.keepB h.c.1 h.c.2 hk hb, h.c.2⟩, RowsFs.keepB h.f hk hb, ⟨Row.keepB h.m.1 h.m.2 hk hb, h.m.2⟩⟩
theorem RowsT.formsG {B : Nat} {w : World} {t : ThingT} {v : ThV} (h : RowsT B w t v) : ∃ a1 c1 a2 c2 a3 c3 a4 c4, v = ⟨.slice a1 t.l.length c1, .slice a2 t.cells.length c2, .slice a3 t.facts.length c3, .slice a4 t.meas.length c4⟩ := by
  obtain ⟨vl, vc, vf, vm⟩ := v
  obtain ⟨a1, c1, e1, -⟩ := h.l.open
  obtain ⟨a2, c2, e2, -⟩ := h.c
  obtain ⟨ps, hps, ⟨a3, c3, e3, -⟩, -⟩ := h.f
  obtain ⟨a4, c4, e4, -⟩ := h.m.open
  simp only at e1 e2 e3 e4
  rw [hps] at e3
  exact ⟨a1, c1, a2, c2, a3, c3, a4, c4, by rw [e1, e2, e3, e4]⟩
/-- two readers, one as the other -/
structure Two (b1 b2 : Nat) (w0 : World) (x : RdS) (w : World) : Prop where
  r : RdO (some b1) w x
  q : RdQ b2 w x
  b : Below w0.heap.size w0 w
theorem Two.below {b1 b2 : Nat} {w0 : World} {x : RdS} {w w' : World} (h : Two b1 b2 w0 x w) (hB : Below w.heap.size w w') : Two b1 b2 w0 x w' := ⟨RdO.below h.r hB, RdQ.below h.q hB, Below.call h.b hB⟩
theorem RdO.keepQ {b1 b2 : Nat} {w w' : World} {x : RdS} (h : RdO (some b1) w x) (hk : KeepB (some b2) w w') (hne : b1 ≠ b2) : RdO (some b1) w' x := ⟨Blk.keepB (RdAt.blk h) hk (fun e => hne (by injection e with e; exact e.symm)), RdAt.len h⟩
theorem RdQ.keepO {b1 b2 : Nat} {w w' : World} {x : RdS} (h : RdQ b2 w x) (hk : KeepB (some b1) w w') (hne : b1 ≠ b2) : RdQ b2 w' x := ⟨Blk.keepB h.blk hk (fun e => hne (by injection e with e)), h.len⟩

set_option maxRecDepth 100000 in
set_option maxHeartbeats 32000000 in
theorem reads6 (s : ByteArray) (v : Value) (f : Int) (hs : s.size ≤ 140737488351232) (ps : List (ThingT × ThV)) (w : World) (hr : RowTh w.heap.size w v ps) :
    Calls Try.prog 6 #[.string s, v, .int .i64 f] w fun e w' => e = .returned (.bool true) ∧ Below w.heap.size w w' := by
  obtain ⟨⟨a1, cap, rfl, hcap, hmax, hc⟩, hel⟩ := hr
  have HC := Lib.hid hc
  have HE := Lib.hid hel
  clear hc hel
  go_enter Try.func6, Try.ntmps6
  go_wp2_with fail
  refine (awake10 w).mono ?_
  rintro e w1 ⟨rfl, hB1⟩
  have HB1 := Lib.hid hB1
  have hs1 : w.heap.size ≤ w1.heap.size := hB1.size
  clear hB1
  go_wp2_with fail
  refine (read22 s w1 hs).mono ?_
  rintro e w2 ⟨rfl, hr2, hB2⟩
  have hq := Blk.new w2 67 #[.string s, .int .i64 0]
  have hBl := Below.al (Below.refl w2.heap.size w2) (Obj.cells #[.string s, .int .i64 0] 67)
  have h12 : w1.heap.size < w2.heap.size := hr2.blk.lt
  go_upto_region 4 with fail
  obtain ⟨w3, hw3⟩ : ∃ w3, w3 = w2.alloc (Obj.cells #[.string s, .int .i64 0] 67) := ⟨_, rfl⟩
  rw [← hw3] at hq hBl ⊢
  clear hw3
  have HT3 := Lib.hid (show Two w1.heap.size w2.heap.size w ⟨s, 0⟩ w3 from ⟨RdO.below (b := some w1.heap.size) hr2 hBl, ⟨hq, hs⟩, Below.call (Below.call HB1.out hB2) hBl⟩)
  clear hr2 hq hBl hB2
  obtain ⟨b1, hb1⟩ : ∃ b, b = w1.heap.size := ⟨_, rfl⟩
  obtain ⟨b2, hb2⟩ : ∃ b, b = w2.heap.size := ⟨_, rfl⟩
  rw [← hb1] at HT3 h12 hs1 ⊢
  rw [← hb2] at HT3 h12 ⊢
  clear hb1 hb2 hs
  go_wp2_with fail
  go_loopw [10] (fun i wr => ∃ (k : Nat) (x : RdS), k ≤ ps.length ∧ i = .int .i64 k ∧ Two b1 b2 w x wr) (fun i _ => ps.length - (intOf i).toNat)
  case atStart => exact ⟨0, _, by omega, rfl, HT3.out⟩
  case round =>
    obtain ⟨k, x, hk, rfl, hT⟩ := hrel
    by_cases hlt : k < ps.length
    · have hkI : decide ((k : Int) < ps.length) = true := decide_eq_true (by omega)
      have HT := Lib.hid hT
      clear hT
      obtain ⟨g, off, rfl, hg, hcell⟩ := HC.out (by omega)
      obtain ⟨⟨t, tv⟩, hget⟩ : ∃ p, ps[k]? = some p := ⟨_, List.getElem?_eq_getElem hlt⟩
      have hpm : (t, tv) ∈ ps := List.mem_of_getElem? hget
      have HQ := Lib.hid (fun (w' : World) (hB' : Below w.heap.size w w') j (hj : j < 7) => (Below.cell hB' (p := ⟨g, off + k * 7 + j, none⟩) (by show g < _; omega)).trans ((hcell k _ hget j hj).trans (show (thingC t tv).toList[j]? = (thingC t tv)[j]? from Array.getElem?_toList)))
      unfold thingC at HQ
      have HRW := Lib.hid (HE.out _ hpm)
      clear hcell hget hpm HC
      by_cases hf : (k : Int) = f
      · subst hf
        have hF := fail23O (some b1) x 26 wr HT.out.r
        unfold wptr at hF
        simp only [Option.map] at hF
        have HF := Lib.hid hF
        clear hF
        go_wp2_with fail
        refine HF.out.mono ?_
        rintro e w4 ⟨rfl, h1, h2⟩
        have HX4 := Lib.hid (And.intro h1 (HT.out.b.trans (h2.below (L := w.heap.size) HT.out.b.size (fun B e => by cases e; exact hs1))))
        have HF4 := Lib.hid (fail24 b2 x 26 w4 (RdQ.keepO HT.out.q h2 (by omega)))
        clear h1 h2 HF
        go_wp2_with fail
        refine HF4.out.mono ?_
        rintro e w5 ⟨rfl, h1, h2⟩
        have HTX := Lib.hid (show Two b1 b2 w (failR x 26) w5 from ⟨RdO.keepQ HX4.out.1 h2 (by omega), h1, HX4.out.2.trans (h2.below (L := w.heap.size) HX4.out.2.size (fun B e => by cases e; omega))⟩)
        clear h1 h2 HF4 HX4 HT
        generalize failR x 26 = X at *
        go_wp2_with fail
        refine hp_start (fun w' => Below w.heap.size w w') 14 rfl (by kernel_rfl) (fun c a a' w hd h => ⟨hd ▸ h.1, h.2⟩) (fun hP => ?_)
        rw [show Array.replicate 14 false = #[false, false, false, false, false, false, false, false, false, false, false, false, false, false] from rfl]
        have HTd := Lib.hid (HTX.out.below (w' := w5.drew) (Below.refl _ _).drew)
        have hwd : w.heap.size ≤ w5.drew.heap.size := HTd.out.b.size
        generalize w5.drew = wd at *
        have HS0 := Lib.hid HTd.out.b
        refine hp_take hP 0 (some 33) (.pointer (some ⟨b1, 0, none⟩)) rfl rfl (by kernel_rfl) rfl (fun w' hS' => by go_simp; first | done | rfl) HS0.out ?_
        simp only [Act.put, List.setIfInBounds_toArray, List.set_cons_zero, List.set_cons_succ]
        refine hp_take hP 1 (some 34) (.slice (some ⟨g, off, none⟩) ps.length cap) rfl rfl (by kernel_rfl) rfl (fun w' hS' => by go_simp; first | done | rfl) HS0.out ?_
        simp only [Act.put, List.setIfInBounds_toArray, List.set_cons_zero, List.set_cons_succ]
        refine hp_take hP 2 (some 35) (.int .i64 k) rfl rfl (by kernel_rfl) rfl (fun w' hS' => by go_simp; first | done | rfl) HS0.out ?_
        simp only [Act.put, List.setIfInBounds_toArray, List.set_cons_zero, List.set_cons_succ]
        refine hp_take hP 3 (some 36) (.pointer (some ⟨g, off + k * 7, none⟩)) rfl rfl (by kernel_rfl) rfl (fun w' hS' => by go_simp; first | done | rfl) HS0.out ?_
        simp only [Act.put, List.setIfInBounds_toArray, List.set_cons_zero, List.set_cons_succ]
        refine hp_load_at hP 4 (some 37) rfl rfl (by kernel_rfl) rfl 57 _ rfl g (off + k * 7) rfl #[.int .i64 t.k, .int .i64 t.n, .string t.s, tv.l, tv.c, tv.f, tv.m] _ (fun w' hS' j hj => HQ.out w' hS' j hj) Try.underlying57 rfl info57 HS0.out ?_
        simp only [Act.put, List.setIfInBounds_toArray, List.set_cons_zero, List.set_cons_succ]
        refine hp_take hP 6 (some 39) (.pointer (some ⟨b2, 0, none⟩)) rfl rfl (by kernel_rfl) rfl (fun w' hS' => by go_simp; first | done | rfl) HS0.out ?_
        simp only [Act.put, List.setIfInBounds_toArray, List.set_cons_zero, List.set_cons_succ]
        refine hp_take hP 7 (some 40) (.slice (some ⟨g, off, none⟩) ps.length cap) rfl rfl (by kernel_rfl) rfl (fun w' hS' => by go_simp; first | done | rfl) HS0.out ?_
        simp only [Act.put, List.setIfInBounds_toArray, List.set_cons_zero, List.set_cons_succ]
        refine hp_take hP 8 (some 41) (.int .i64 k) rfl rfl (by kernel_rfl) rfl (fun w' hS' => by go_simp; first | done | rfl) HS0.out ?_
        simp only [Act.put, List.setIfInBounds_toArray, List.set_cons_zero, List.set_cons_succ]
        refine hp_take hP 9 (some 42) (.pointer (some ⟨g, off + k * 7, none⟩)) rfl rfl (by kernel_rfl) rfl (fun w' hS' => by go_simp; first | done | rfl) HS0.out ?_
        simp only [Act.put, List.setIfInBounds_toArray, List.set_cons_zero, List.set_cons_succ]
        refine hp_load_at hP 10 (some 43) rfl rfl (by kernel_rfl) rfl 57 _ rfl g (off + k * 7) rfl #[.int .i64 t.k, .int .i64 t.n, .string t.s, tv.l, tv.c, tv.f, tv.m] _ (fun w' hS' j hj => HQ.out w' hS' j hj) Try.underlying57 rfl info57 HS0.out ?_
        simp only [Act.put, List.setIfInBounds_toArray, List.set_cons_zero, List.set_cons_succ]
        have hA := take26O (some b1) X t tv wd w.heap.size HTd.out.r (HRW.out.mono HTd.out.b (Nat.le_refl _))
        have HBq := Lib.hid (fun w' (hB' : Below w.heap.size w w') (h : RdQ b2 w' X) => take27 b2 X t tv w' w.heap.size h (HRW.out.mono hB' (Nat.le_refl _)))
        have HFS := Lib.hid (takeT_facts X t)
        have hlen := HTd.out.q.len
        generalize takeT X t = q at *
        obtain ⟨⟨qk, qn, qs, ql, qc, qf, qm⟩, y⟩ := q
        unfold wptr at hA
        unfold thingC at hA HBq
        simp only [Option.map] at hA HBq HFS
        refine hp_call 5 (some 38) rfl rfl (by kernel_rfl) rfl 26 #[.pointer (some ⟨b1, 0, none⟩), .agg #[.int .i64 t.k, .int .i64 t.n, .string t.s, tv.l, tv.c, tv.f, tv.m]] (by go_simp) (hA.mono ?_)
        rintro e w5 ⟨va, rfl, h1, h2, h3⟩
        obtain ⟨m1, mc1, m2, mc2, m3, mc3, m4, mc4, hmv⟩ := h3.rowsG.formsG
        simp only at hmv
        subst hmv
        have HB5 := Lib.hid (HTd.out.b.trans (h2.below (L := w.heap.size) HTd.out.b.size (fun B e => by cases e; exact hs1)))
        have HQ5 := Lib.hid (RdQ.keepO HTd.out.q h2 (by omega))
        have HR5 := Lib.hid (And.intro h1 h3)
        have hdz : b2 < wd.heap.size := HTd.out.q.blk.lt
        clear h1 h2 h3 hA
        refine ⟨_, rfl, HB5.out, ?_⟩
        simp only [Act.put, List.setIfInBounds_toArray, List.set_cons_zero, List.set_cons_succ]
        refine hp_call 11 (some 44) rfl rfl (by kernel_rfl) rfl 27 #[.pointer (some ⟨b2, 0, none⟩), .agg #[.int .i64 t.k, .int .i64 t.n, .string t.s, tv.l, tv.c, tv.f, tv.m]] (by go_simp) ((HBq.out w5 HB5.out HQ5.out).mono ?_)
        rintro e w6 ⟨vb, rfl, h1, h2, h3⟩
        obtain ⟨n1, nc1, n2, nc2, n3, nc3, n4, nc4, hnv⟩ := h3.rowsG.formsG
        simp only at hnv
        subst hnv
        have HB6 := Lib.hid (HB5.out.trans (h2.below (L := w.heap.size) HB5.out.size (fun B e => by cases e; omega)))
        have HR6 := Lib.hid (RdO.keepQ HR5.out.1 h2 (by omega))
        have HA6 := Lib.hid ((HR5.out.2.keepB h2 (fun B e => by cases e; exact hdz)).rowsG)
        have HN6 := Lib.hid h3.rowsG
        have HQ6 := Lib.hid h1
        clear h1 h2 h3 HBq
        refine ⟨_, rfl, HB6.out, ?_⟩
        simp only [Act.put, List.setIfInBounds_toArray, List.set_cons_zero, List.set_cons_succ]
        have hSm := same25G ⟨qk, qn, qs, ql, qc, qf, qm⟩ ⟨.slice m1 ql.length mc1, .slice m2 qc.length mc2, .slice m3 qf.length mc3, .slice m4 qm.length mc4⟩ ⟨.slice n1 ql.length nc1, .slice n2 qc.length nc2, .slice n3 qf.length nc3, .slice n4 qm.length nc4⟩ w6 HA6.out HN6.out (fun f hf => Nat.le_trans (HFS.out f hf) (by omega))
        unfold thingC at hSm
        refine hp_call 12 (some 45) rfl rfl (by kernel_rfl) rfl 25 #[.agg #[.int .i64 qk, .int .i64 qn, .string qs, .slice m1 ql.length mc1, .slice m2 qc.length mc2, .slice m3 qf.length mc3, .slice m4 qm.length mc4], .agg #[.int .i64 qk, .int .i64 qn, .string qs, .slice n1 ql.length nc1, .slice n2 qc.length nc2, .slice n3 qf.length nc3, .slice n4 qm.length nc4]] (by go_simp) (hSm.mono ?_)
        rintro e w7 ⟨rfl, hB7⟩
        have HT7 := Lib.hid (show Two b1 b2 w y w7 from Two.below ⟨HR6.out, HQ6.out, HB6.out⟩ hB7)
        have c0 : w7.cell? ⟨b2, 0, none⟩ = some (.string y.s) := Blk.cell HT7.out.q.blk 0
        clear hB7 hSm HR6 HQ6 HB6 HA6 HN6 HR5 HQ5 HB5
        refine ⟨_, rfl, HT7.out.b, ?_⟩
        simp only [Act.put, List.setIfInBounds_toArray, List.set_cons_zero, List.set_cons_succ]
        refine hp_take hP 13 (some 11) (.bool true) rfl rfl (by kernel_rfl) rfl (fun w' hS' => by go_simp; first | done | rfl) HT7.out.b ?_
        simp only [Act.put, List.setIfInBounds_toArray, List.set_cons_zero, List.set_cons_succ]
        refine hk_done (by kernel_rfl) ?_
        have HLF := Lib.hid (fun n => left28O (some b1) y (w7.drewN n) (RdO.below HT7.out.r (Below.drewN (Below.refl _ _) n)))
        unfold wptr at HLF
        simp only [Option.map] at HLF
        clear hP HS0
        go_wp2_with fail
        go_quiet ((go_at_call 28; exact quietL (HLF.out _)))
        go_wp2_with fail
        go_roundw
        case rel => exact ⟨k + 1, y, by omega, by go_num, ⟨RdO.below HT7.out.r (Below.drewN (Below.refl _ _) _), RdQ.below HT7.out.q (Below.drewN (Below.refl _ _) _), Below.drewN HT7.out.b _⟩⟩
        case measure => simp [intOf]; omega
      · have hfI : ((k : Int) == f) = false := by simpa using hf
        have HTX := HT
        clear HT
        go_upto_region 12 with fail
        refine hp_start (fun w' => Below w.heap.size w w') 14 rfl (by kernel_rfl) (fun c a a' w hd h => ⟨hd ▸ h.1, h.2⟩) (fun hP => ?_)
        rw [show Array.replicate 14 false = #[false, false, false, false, false, false, false, false, false, false, false, false, false, false] from rfl]
        have HTd := Lib.hid (HTX.out.below (w' := wr.drew) (Below.refl _ _).drew)
        have hwd : w.heap.size ≤ wr.drew.heap.size := HTd.out.b.size
        generalize wr.drew = wd at *
        have HS0 := Lib.hid HTd.out.b
        refine hp_take hP 0 (some 33) (.pointer (some ⟨b1, 0, none⟩)) rfl rfl (by kernel_rfl) rfl (fun w' hS' => by go_simp; first | done | rfl) HS0.out ?_
        simp only [Act.put, List.setIfInBounds_toArray, List.set_cons_zero, List.set_cons_succ]
        refine hp_take hP 1 (some 34) (.slice (some ⟨g, off, none⟩) ps.length cap) rfl rfl (by kernel_rfl) rfl (fun w' hS' => by go_simp; first | done | rfl) HS0.out ?_
        simp only [Act.put, List.setIfInBounds_toArray, List.set_cons_zero, List.set_cons_succ]
        refine hp_take hP 2 (some 35) (.int .i64 k) rfl rfl (by kernel_rfl) rfl (fun w' hS' => by go_simp; first | done | rfl) HS0.out ?_
        simp only [Act.put, List.setIfInBounds_toArray, List.set_cons_zero, List.set_cons_succ]
        refine hp_take hP 3 (some 36) (.pointer (some ⟨g, off + k * 7, none⟩)) rfl rfl (by kernel_rfl) rfl (fun w' hS' => by go_simp; first | done | rfl) HS0.out ?_
        simp only [Act.put, List.setIfInBounds_toArray, List.set_cons_zero, List.set_cons_succ]
        refine hp_load_at hP 4 (some 37) rfl rfl (by kernel_rfl) rfl 57 _ rfl g (off + k * 7) rfl #[.int .i64 t.k, .int .i64 t.n, .string t.s, tv.l, tv.c, tv.f, tv.m] _ (fun w' hS' j hj => HQ.out w' hS' j hj) Try.underlying57 rfl info57 HS0.out ?_
        simp only [Act.put, List.setIfInBounds_toArray, List.set_cons_zero, List.set_cons_succ]
        refine hp_take hP 6 (some 39) (.pointer (some ⟨b2, 0, none⟩)) rfl rfl (by kernel_rfl) rfl (fun w' hS' => by go_simp; first | done | rfl) HS0.out ?_
        simp only [Act.put, List.setIfInBounds_toArray, List.set_cons_zero, List.set_cons_succ]
        refine hp_take hP 7 (some 40) (.slice (some ⟨g, off, none⟩) ps.length cap) rfl rfl (by kernel_rfl) rfl (fun w' hS' => by go_simp; first | done | rfl) HS0.out ?_
        simp only [Act.put, List.setIfInBounds_toArray, List.set_cons_zero, List.set_cons_succ]
        refine hp_take hP 8 (some 41) (.int .i64 k) rfl rfl (by kernel_rfl) rfl (fun w' hS' => by go_simp; first | done | rfl) HS0.out ?_
        simp only [Act.put, List.setIfInBounds_toArray, List.set_cons_zero, List.set_cons_succ]
        refine hp_take hP 9 (some 42) (.pointer (some ⟨g, off + k * 7, none⟩)) rfl rfl (by kernel_rfl) rfl (fun w' hS' => by go_simp; first | done | rfl) HS0.out ?_
        simp only [Act.put, List.setIfInBounds_toArray, List.set_cons_zero, List.set_cons_succ]
        refine hp_load_at hP 10 (some 43) rfl rfl (by kernel_rfl) rfl 57 _ rfl g (off + k * 7) rfl #[.int .i64 t.k, .int .i64 t.n, .string t.s, tv.l, tv.c, tv.f, tv.m] _ (fun w' hS' j hj => HQ.out w' hS' j hj) Try.underlying57 rfl info57 HS0.out ?_
        simp only [Act.put, List.setIfInBounds_toArray, List.set_cons_zero, List.set_cons_succ]
        have hA := take26O (some b1) x t tv wd w.heap.size HTd.out.r (HRW.out.mono HTd.out.b (Nat.le_refl _))
        have HBq := Lib.hid (fun w' (hB' : Below w.heap.size w w') (h : RdQ b2 w' x) => take27 b2 x t tv w' w.heap.size h (HRW.out.mono hB' (Nat.le_refl _)))
        have HFS := Lib.hid (takeT_facts x t)
        have hlen := HTd.out.q.len
        generalize takeT x t = q at *
        obtain ⟨⟨qk, qn, qs, ql, qc, qf, qm⟩, y⟩ := q
        unfold wptr at hA
        unfold thingC at hA HBq
        simp only [Option.map] at hA HBq HFS
        refine hp_call 5 (some 38) rfl rfl (by kernel_rfl) rfl 26 #[.pointer (some ⟨b1, 0, none⟩), .agg #[.int .i64 t.k, .int .i64 t.n, .string t.s, tv.l, tv.c, tv.f, tv.m]] (by go_simp) (hA.mono ?_)
        rintro e w5 ⟨va, rfl, h1, h2, h3⟩
        obtain ⟨m1, mc1, m2, mc2, m3, mc3, m4, mc4, hmv⟩ := h3.rowsG.formsG
        simp only at hmv
        subst hmv
        have HB5 := Lib.hid (HTd.out.b.trans (h2.below (L := w.heap.size) HTd.out.b.size (fun B e => by cases e; exact hs1)))
        have HQ5 := Lib.hid (RdQ.keepO HTd.out.q h2 (by omega))
        have HR5 := Lib.hid (And.intro h1 h3)
        have hdz : b2 < wd.heap.size := HTd.out.q.blk.lt
        clear h1 h2 h3 hA
        refine ⟨_, rfl, HB5.out, ?_⟩
        simp only [Act.put, List.setIfInBounds_toArray, List.set_cons_zero, List.set_cons_succ]
        refine hp_call 11 (some 44) rfl rfl (by kernel_rfl) rfl 27 #[.pointer (some ⟨b2, 0, none⟩), .agg #[.int .i64 t.k, .int .i64 t.n, .string t.s, tv.l, tv.c, tv.f, tv.m]] (by go_simp) ((HBq.out w5 HB5.out HQ5.out).mono ?_)
        rintro e w6 ⟨vb, rfl, h1, h2, h3⟩
        obtain ⟨n1, nc1, n2, nc2, n3, nc3, n4, nc4, hnv⟩ := h3.rowsG.formsG
        simp only at hnv
        subst hnv
        have HB6 := Lib.hid (HB5.out.trans (h2.below (L := w.heap.size) HB5.out.size (fun B e => by cases e; omega)))
        have HR6 := Lib.hid (RdO.keepQ HR5.out.1 h2 (by omega))
        have HA6 := Lib.hid ((HR5.out.2.keepB h2 (fun B e => by cases e; exact hdz)).rowsG)
        have HN6 := Lib.hid h3.rowsG
        have HQ6 := Lib.hid h1
        clear h1 h2 h3 HBq
        refine ⟨_, rfl, HB6.out, ?_⟩
        simp only [Act.put, List.setIfInBounds_toArray, List.set_cons_zero, List.set_cons_succ]
        have hSm := same25G ⟨qk, qn, qs, ql, qc, qf, qm⟩ ⟨.slice m1 ql.length mc1, .slice m2 qc.length mc2, .slice m3 qf.length mc3, .slice m4 qm.length mc4⟩ ⟨.slice n1 ql.length nc1, .slice n2 qc.length nc2, .slice n3 qf.length nc3, .slice n4 qm.length nc4⟩ w6 HA6.out HN6.out (fun f hf => Nat.le_trans (HFS.out f hf) (by omega))
        unfold thingC at hSm
        refine hp_call 12 (some 45) rfl rfl (by kernel_rfl) rfl 25 #[.agg #[.int .i64 qk, .int .i64 qn, .string qs, .slice m1 ql.length mc1, .slice m2 qc.length mc2, .slice m3 qf.length mc3, .slice m4 qm.length mc4], .agg #[.int .i64 qk, .int .i64 qn, .string qs, .slice n1 ql.length nc1, .slice n2 qc.length nc2, .slice n3 qf.length nc3, .slice n4 qm.length nc4]] (by go_simp) (hSm.mono ?_)
        rintro e w7 ⟨rfl, hB7⟩
        have HT7 := Lib.hid (show Two b1 b2 w y w7 from Two.below ⟨HR6.out, HQ6.out, HB6.out⟩ hB7)
        have c0 : w7.cell? ⟨b2, 0, none⟩ = some (.string y.s) := Blk.cell HT7.out.q.blk 0
        clear hB7 hSm HR6 HQ6 HB6 HA6 HN6 HR5 HQ5 HB5
        refine ⟨_, rfl, HT7.out.b, ?_⟩
        simp only [Act.put, List.setIfInBounds_toArray, List.set_cons_zero, List.set_cons_succ]
        refine hp_take hP 13 (some 11) (.bool true) rfl rfl (by kernel_rfl) rfl (fun w' hS' => by go_simp; first | done | rfl) HT7.out.b ?_
        simp only [Act.put, List.setIfInBounds_toArray, List.set_cons_zero, List.set_cons_succ]
        refine hk_done (by kernel_rfl) ?_
        have HLF := Lib.hid (fun n => left28O (some b1) y (w7.drewN n) (RdO.below HT7.out.r (Below.drewN (Below.refl _ _) n)))
        unfold wptr at HLF
        simp only [Option.map] at HLF
        clear hP HS0
        go_wp2_with fail
        go_quiet ((go_at_call 28; exact quietL (HLF.out _)))
        go_wp2_with fail
        go_roundw
        case rel => exact ⟨k + 1, y, by omega, by go_num, ⟨RdO.below HT7.out.r (Below.drewN (Below.refl _ _) _), RdQ.below HT7.out.q (Below.drewN (Below.refl _ _) _), Below.drewN HT7.out.b _⟩⟩
        case measure => simp [intOf]; omega
    · obtain rfl : k = ps.length := by omega
      have hkI : decide ((ps.length : Int) < ps.length) = false := by simp
      have HF := Lib.hid (fail23O (some b1) x 0 wr hT.r)
      rw [show failR x 0 = x from if_neg (fun h => h.2 rfl)] at HF
      have HT := Lib.hid hT
      unfold wptr at HF
      simp only [Option.map] at HF
      clear hT
      go_wp2_with fail
      refine HF.out.mono ?_
      rintro e w4 ⟨rfl, h1, h2⟩
      have HT4 := Lib.hid (show Two b1 b2 w x w4 from ⟨h1, RdQ.keepO HT.out.q h2 (by omega), HT.out.b.trans (h2.below (L := w.heap.size) HT.out.b.size (fun B e => by cases e; exact hs1))⟩)
      have HD := Lib.hid (done29O (some b1) x w4 h1)
      have HQ := Lib.hid (done30 b2 x w4 HT4.out.q)
      unfold wptr at HD
      simp only [Option.map] at HD
      clear h1 h2 HF
      go_wp2_with fail
      refine HD.out.mono ?_
      rintro e w' ⟨rfl, rfl⟩
      go_wp2_with fail
      refine HQ.out.mono ?_
      rintro e w' ⟨rfl, rfl⟩
      go_wp2_with fail
      refine HD.out.mono ?_
      rintro e w' ⟨rfl, rfl⟩
      go_wp2_with fail
      refine HQ.out.mono ?_
      rintro e w' ⟨rfl, rfl⟩
      go_wp2_with fail
      go_ret
      exact ⟨rfl, HT4.out.b⟩
theorem readsLaw (s : ByteArray) (v : Value) (f : Int) (w : World) (hs : s.size ≤ 140737488351232) (ps : List (ThingT × ThV)) (hr : RowTh w.heap.size w v ps) (hok : ∀ p ∈ ps, okZ (· ≤ maxLen) p.1) (hf : (Lit.int .i64 f).wf = true) :
    Calls Try.prog 6 #[.string s, v, .int .i64 f] w fun e w' => e = .returned (.bool true) ∧ Below w.heap.size w w' := reads6 s v f hs ps w hr
end Go.Proofs.Ytocanbdpdnkapaa

