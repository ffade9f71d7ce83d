/- A thing laid by a writer that may be nil. -/
import Derived.Test.YtocanbdpdnkapaaO
namespace Go.Proofs.Ytocanbdpdnkapaa
open Go.RowKit
set_option linter.unusedVariables false
set_option linter.unusedSimpArgs false

set_option maxRecDepth 100000 in
set_option maxHeartbeats 16000000 in
theorem lay18O (b : Option Nat) (x : WrS) (t : ThingT) (v : ThV) (w : World) (hx : WrO b w x) (hr : RowsT (low b w) w t v) (hs : okT b t) :
    Calls Try.prog 18 #[wptr b, .agg (thingC t v)] w (WroteO b w (layT x t)) := by
  obtain ⟨k, n, s, l, cs, fs, m⟩ := t
  have hBl := Below.al (Below.refl w.heap.size w) (Obj.cells (thingC ⟨k, n, s, l, cs, fs, m⟩ v) 57)
  have hb := Blk.new w 57 (thingC ⟨k, n, s, l, cs, fs, m⟩ v)
  obtain ⟨vl, vc, vf, vm⟩ := v
  obtain ⟨a1, c1, h1, -⟩ := hr.l.open
  obtain ⟨a2, c2, h2, -⟩ := hr.c
  obtain ⟨ps, hps, ⟨a3, c3, h3, -⟩, -⟩ := hr.f
  obtain ⟨a4, c4, h4, -⟩ := hr.m.open
  simp only at h1 h2 h3 h4 hps
  rw [hps] at h3
  subst h1 h2 h3 h4
  have hB := BelO.of (b := b) hBl
  have hX := hx.below hBl
  have hr := hr.belO hB
  unfold thingC at hb hB hX hr hBl ⊢
  simp only at hb hB hX hr hBl ⊢
  obtain ⟨w1, hw1⟩ : ∃ w1, w1 = w.alloc (Obj.cells #[.int .i64 k, .int .i64 n, .string s, .slice a1 l.length c1, .slice a2 cs.length c2, .slice a3 fs.length c3, .slice a4 m.length c4] 57) := ⟨_, rfl⟩
  rw [← hw1] at hb hB hX hr hBl
  have HX := Lib.hid hX
  have HB := Lib.hid hB
  have HR := Lib.hid hr
  have HS := Lib.hid hs
  have HLT := Lib.hid (low_le b w1)
  have q0 : w1.cell? ⟨w.heap.size, 0, none⟩ = some (.int .i64 k) := Blk.cell hb 0
  have q1 : w1.cell? ⟨w.heap.size, 1, none⟩ = some (.int .i64 n) := Blk.cell hb 1
  have q2 : w1.cell? ⟨w.heap.size, 2, none⟩ = some (.string s) := Blk.cell hb 2
  have q3 : w1.cell? ⟨w.heap.size, 3, none⟩ = some (.slice a1 l.length c1) := Blk.cell hb 3
  have q4 : w1.cell? ⟨w.heap.size, 4, none⟩ = some (.slice a2 cs.length c2) := Blk.cell hb 4
  have q5 : w1.cell? ⟨w.heap.size, 5, none⟩ = some (.slice a3 fs.length c3) := Blk.cell hb 5
  have q6 : w1.cell? ⟨w.heap.size, 6, none⟩ = some (.slice a4 m.length c4) := Blk.cell hb 6
  clear hx hBl hb hX hB hr hs
  by_cases k0 : k = 0
  · subst k0
    have HRES := Lib.hid (show layT x ⟨0, n, s, l, cs, fs, m⟩ = layW x (byteS (u8 n)) by rfl)
    have hwr := wrap_u8 n
    go_enter Try.func18, Try.ntmps18
    go_upto_region 1 with fail
    rw [← hw1]
    clear hw1
    go_wp2_with fail
    refine (byte33O b x (u8 n) (u8_lt n) w1 HX.out).mono ?_
    rintro e w3 ⟨rfl, h1, h2⟩
    have H3 := Lib.hid (And.intro h1 (HB.out.trans h2))
    clear h1 h2
    go_wp2_with fail
    go_end0
    exact ⟨rfl, by rw [HRES.out]; exact H3.out.1, H3.out.2⟩
  by_cases k1 : k = 1
  · subst k1
    have HRES := Lib.hid (show layT x ⟨1, n, s, l, cs, fs, m⟩ = intW x n by rfl)
    go_enter Try.func18, Try.ntmps18
    go_upto_region 1 with fail
    rw [← hw1]
    clear hw1
    go_wp2_with fail
    refine (int42O b x n w1 HX.out).mono ?_
    rintro e w3 ⟨rfl, h1, h2⟩
    have H3 := Lib.hid (And.intro h1 (HB.out.trans h2))
    clear h1 h2
    go_wp2_with fail
    go_end0
    exact ⟨rfl, by rw [HRES.out]; exact H3.out.1, H3.out.2⟩
  by_cases k2 : k = 2
  · subst k2
    have HRES := Lib.hid (show layT x ⟨2, n, s, l, cs, fs, m⟩ = countW x n by rfl)
    go_enter Try.func18, Try.ntmps18
    go_upto_region 1 with fail
    rw [← hw1]
    clear hw1
    go_wp2_with fail
    refine (count43O b x n HS.out.n w1 HX.out).mono ?_
    rintro e w3 ⟨rfl, h1, h2⟩
    have H3 := Lib.hid (And.intro h1 (HB.out.trans h2))
    clear h1 h2
    go_wp2_with fail
    go_end0
    exact ⟨rfl, by rw [HRES.out]; exact H3.out.1, H3.out.2⟩
  by_cases k3 : k = 3
  · subst k3
    have HRES := Lib.hid (show layT x ⟨3, n, s, l, cs, fs, m⟩ = textW x s by rfl)
    go_enter Try.func18, Try.ntmps18
    go_upto_region 1 with fail
    rw [← hw1]
    clear hw1
    go_wp2_with fail
    refine (text34O b x s w1 HX.out HS.out.s).mono ?_
    rintro e w3 ⟨rfl, h1, h2⟩
    have H3 := Lib.hid (And.intro h1 (HB.out.trans h2))
    clear h1 h2
    go_wp2_with fail
    go_end0
    exact ⟨rfl, by rw [HRES.out]; exact H3.out.1, H3.out.2⟩
  by_cases k4 : k = 4
  · subst k4
    have HRES := Lib.hid (show layT x ⟨4, n, s, l, cs, fs, m⟩ = textsW x l by rfl)
    go_enter Try.func18, Try.ntmps18
    go_upto_region 1 with fail
    rw [← hw1]
    clear hw1
    go_wp2_with fail
    refine (texts44O b x _ l w1 HX.out HR.out.l HS.out.l).mono ?_
    rintro e w3 ⟨rfl, h1, h2⟩
    have H3 := Lib.hid (And.intro h1 (HB.out.trans h2))
    clear h1 h2
    go_wp2_with fail
    go_end0
    exact ⟨rfl, by rw [HRES.out]; exact H3.out.1, H3.out.2⟩
  by_cases k5 : k = 5
  · subst k5
    have HRES := Lib.hid (show layT x ⟨5, n, s, l, cs, fs, m⟩ = cellW x (cs.headD cell0) by rfl)
    have hO := one46 _ cs w1 _ HR.out.c HLT.out
    have hsz : okS b (cs.headD cell0).t := by
      cases cs with
      | nil => exact okS_small b (by show 0 ≤ 4611686018427387904; omega)
      | cons c cs => exact HS.out.c c (by simp)
    obtain ⟨⟨ck, cn, ct⟩, hcc⟩ : ∃ c, cs.headD cell0 = c := ⟨_, rfl⟩
    rw [hcc] at hO hsz HRES
    have HO := Lib.hid hO
    have HSZ := Lib.hid hsz
    clear hO hsz hcc
    go_enter Try.func18, Try.ntmps18
    go_upto_region 1 with fail
    rw [← hw1]
    clear hw1
    go_wp2_with fail
    refine HO.out.mono ?_
    rintro e w2 ⟨rfl, hB2⟩
    have HC := Lib.hid (cell45O b x ⟨ck, cn, ct⟩ w2 (HX.out.below hB2) HSZ.out)
    have HB2 := Lib.hid (HB.out.call hB2)
    clear hB2
    unfold cellV
    go_wp2_with fail
    refine HC.out.mono ?_
    rintro e w3 ⟨rfl, h1, h2⟩
    have H3 := Lib.hid (And.intro h1 (HB2.out.trans h2))
    clear h1 h2
    go_wp2_with fail
    go_end0
    exact ⟨rfl, by rw [HRES.out]; exact H3.out.1, H3.out.2⟩
  by_cases k6 : k = 6
  · subst k6
    have HRES := Lib.hid (show layT x ⟨6, n, s, l, cs, fs, m⟩ = cellsW x cs by rfl)
    go_enter Try.func18, Try.ntmps18
    go_upto_region 1 with fail
    rw [← hw1]
    clear hw1
    go_wp2_with fail
    refine (cells47O b x _ cs w1 HX.out HR.out.c HS.out.c).mono ?_
    rintro e w3 ⟨rfl, h1, h2⟩
    have H3 := Lib.hid (And.intro h1 (HB.out.trans h2))
    clear h1 h2
    go_wp2_with fail
    go_end0
    exact ⟨rfl, by rw [HRES.out]; exact H3.out.1, H3.out.2⟩
  by_cases k7 : k = 7
  · subst k7
    have HRES := Lib.hid (show layT x ⟨7, n, s, l, cs, fs, m⟩ = factW x (fs.headD fact0) by rfl)
    go_enter Try.func18, Try.ntmps18
    go_upto_region 1 with fail
    rw [← hw1]
    clear hw1
    go_wp2_with fail
    refine (any49 _ fs w1 _ HR.out.f HLT.out).mono ?_
    rintro e w2 ⟨vd, vm, rfl, hB2, hd, hm⟩
    have hl2 : low b w1 ≤ low b w2 := low_mono b hB2.size
    have HC := Lib.hid (fact48O b x (fs.headD fact0) vd vm w2 (HX.out.below hB2) (RowS.mono hd (Below.refl _ _) hl2) (RowI.mono hm (Below.refl _ _) hl2) (by
      cases fs with
      | nil => intro s hs; cases hs
      | cons f fs => exact HS.out.f f (by simp)))
    have HB2 := Lib.hid (HB.out.call hB2)
    clear hB2 hd hm hl2
    go_wp2_with fail
    refine HC.out.mono ?_
    rintro e w3 ⟨rfl, h1, h2⟩
    have H3 := Lib.hid (And.intro h1 (HB2.out.trans h2))
    clear h1 h2
    go_wp2_with fail
    go_end0
    exact ⟨rfl, by rw [HRES.out]; exact H3.out.1, H3.out.2⟩
  by_cases k8 : k = 8
  · subst k8
    have HRES := Lib.hid (show layT x ⟨8, n, s, l, cs, fs, m⟩ = factsW x fs by rfl)
    go_enter Try.func18, Try.ntmps18
    go_upto_region 1 with fail
    rw [← hw1]
    clear hw1
    go_wp2_with fail
    refine (facts50O b x _ fs w1 HX.out HR.out.f HS.out.f).mono ?_
    rintro e w3 ⟨rfl, h1, h2⟩
    have H3 := Lib.hid (And.intro h1 (HB.out.trans h2))
    clear h1 h2
    go_wp2_with fail
    go_end0
    exact ⟨rfl, by rw [HRES.out]; exact H3.out.1, H3.out.2⟩
  have HRES := Lib.hid (show layT x ⟨k, n, s, l, cs, fs, m⟩ = schemaW x l m by unfold layT; rw [if_neg k0, if_neg k1, if_neg k2, if_neg k3, if_neg k4, if_neg k5, if_neg k6, if_neg k7, if_neg k8])
  have d0 : (k == 0) = false := by simpa using k0
  have d1 : (k == 1) = false := by simpa using k1
  have d2 : (k == 2) = false := by simpa using k2
  have d3 : (k == 3) = false := by simpa using k3
  have d4 : (k == 4) = false := by simpa using k4
  have d5 : (k == 5) = false := by simpa using k5
  have d6 : (k == 6) = false := by simpa using k6
  have d7 : (k == 7) = false := by simpa using k7
  have d8 : (k == 8) = false := by simpa using k8
  go_enter Try.func18, Try.ntmps18
  go_upto_region 1 with fail
  rw [← hw1]
  clear hw1
  go_wp2_with fail
  refine (schema51O b x l m _ _ w1 HX.out HR.out.l HR.out.m HS.out.l HS.out.m).mono ?_
  rintro e w3 ⟨rfl, h1, h2⟩
  have H3 := Lib.hid (And.intro h1 (HB.out.trans h2))
  clear h1 h2
  go_wp2_with fail
  go_end0
  exact ⟨rfl, by rw [HRES.out]; exact H3.out.1, H3.out.2⟩
end Go.Proofs.Ytocanbdpdnkapaa
