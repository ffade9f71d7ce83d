/- The reference's bytes of a thing. -/
import Derived.Test.YtocanbdpdnkapaaR
namespace Go.Proofs.Ytocanbdpdnkapaa
open Go.RowKit
set_option linter.unusedVariables false
set_option linter.unusedSimpArgs false

def cellsGo (a : ByteArray) : List CellT → Option ByteArray
  | [] => some a
  | c :: cs => match cellB c with | none => none | some b => cellsGo (a ++ b) cs
def factsB (l : List FactT) : ByteArray := l.foldl (fun a f => a ++ factB f) (leS l.length 4)
def bytesT (t : ThingT) : Option ByteArray :=
  if t.k = 0 then some (leS (u64 t.n) 1)
  else if t.k = 1 then some (leS (u64 t.n) 8)
  else if t.k = 2 then (if t.n < 0 ∨ 4294967295 < t.n then none else some (leS (u64 t.n) 4))
  else if t.k = 3 then some (textB t.s)
  else if t.k = 4 then some (textsB t.l)
  else if t.k = 5 then cellB (t.cells.headD cell0)
  else if t.k = 6 then cellsGo (leS t.cells.length 4) t.cells
  else if t.k = 7 then some (factB (t.facts.headD fact0))
  else if t.k = 8 then some (factsB t.facts)
  else some (textsB t.l ++ textsB t.meas)
/-- all of a thing is small -/
structure okU (t : ThingT) : Prop where
  s : t.s.size ≤ Small
  l : (∀ s ∈ t.l, s.size ≤ Small) ∧ t.l.length ≤ Small
  c : (∀ c ∈ t.cells, c.t.size ≤ Small) ∧ t.cells.length ≤ Small
  f : (∀ f ∈ t.facts, okF f) ∧ t.facts.length ≤ Small
  m : (∀ s ∈ t.meas, s.size ≤ Small) ∧ t.meas.length ≤ Small
theorem cellsGo_drop {a : ByteArray} {l : List CellT} {k : Nat} {c : CellT} (h : l[k]? = some c) : cellsGo a (l.drop k) = match cellB c with | none => none | some b => cellsGo (a ++ b) (l.drop (k + 1)) := by
  obtain ⟨hk, he⟩ := List.getElem?_eq_some_iff.1 h
  rw [List.drop_eq_getElem_cons hk, he]
  rfl
theorem okF0 : okF fact0 := ⟨fun s hs => (by cases hs), Nat.zero_le _, Nat.zero_le _⟩
set_option maxRecDepth 100000 in
set_option maxHeartbeats 32000000 in
theorem bytes19 (t : ThingT) (v : ThV) (w : World) (B : Nat) (hBB : B ≤ w.heap.size) (hr : RowsT B w t v) (hs : okU t) :
    Calls Try.prog 19 #[.agg (thingC t v)] w fun e w' => e = .returned (optV (bytesT t)) ∧ Below w.heap.size w w' := by
  obtain ⟨k, n, s, l, cs, fs, m⟩ := t
  have hBl := Below.al (Below.refl w.heap.size w) (Obj.cells (thingC ⟨k, n, s, l, cs, fs, m⟩ v) 57)
  have hb := Blk.new w 57 (thingC ⟨k, n, s, l, cs, fs, m⟩ v)
  obtain ⟨vl, vc, vf, vm⟩ := v
  obtain ⟨a1, c1, h1, -⟩ := hr.l.open
  obtain ⟨a2, c2, h2, hcap2, hmax2, hcl2⟩ := hr.c
  obtain ⟨ps, hps, ⟨a3, c3, h3, hcap3, hmax3, hcl3⟩, hel3⟩ := hr.f
  obtain ⟨a4, c4, h4, -⟩ := hr.m.open
  simp only at h1 h2 h3 h4 hps hcap2 hcap3 hcl2 hcl3 hel3
  rw [hps] at h3 hcap3 hcl3
  subst h1 h2 h3 h4
  have hr := hr.mono (hBl.mono hBB) hBB
  unfold thingC at hb hr hBl ⊢
  simp only at hb hr hBl ⊢
  obtain ⟨w1, hw1⟩ : ∃ w1, w1 = w.alloc (Obj.cells #[.int .i64 k, .int .i64 n, .string s, .slice a1 l.length c1, .slice a2 cs.length c2, .slice a3 fs.length c3, .slice a4 m.length c4] 57) := ⟨_, rfl⟩
  rw [← hw1] at hb hr hBl
  have HB := Lib.hid hBl
  have HR := Lib.hid hr
  have HS := Lib.hid hs
  have HLT := Lib.hid hb.lt
  have HWW := Lib.hid (show w.heap.size ≤ w1.heap.size from hBl.size)
  have HC2 := Lib.hid hcl2
  have HC3 := Lib.hid hcl3
  have HE3 := Lib.hid hel3
  have HBK := Lib.hid hb
  have hn2 := hs.c.2
  have hn3 := hs.f.2
  unfold Small at hn2 hn3
  have q0 : w1.cell? ⟨w.heap.size, 0, none⟩ = some (.int .i64 k) := Blk.cell hb 0
  have q1 : w1.cell? ⟨w.heap.size, 1, none⟩ = some (.int .i64 n) := Blk.cell hb 1
  have q2 : w1.cell? ⟨w.heap.size, 2, none⟩ = some (.string s) := Blk.cell hb 2
  have q3 : w1.cell? ⟨w.heap.size, 3, none⟩ = some (.slice a1 l.length c1) := Blk.cell hb 3
  have q4 : w1.cell? ⟨w.heap.size, 4, none⟩ = some (.slice a2 cs.length c2) := Blk.cell hb 4
  have q5 : w1.cell? ⟨w.heap.size, 5, none⟩ = some (.slice a3 fs.length c3) := Blk.cell hb 5
  have q6 : w1.cell? ⟨w.heap.size, 6, none⟩ = some (.slice a4 m.length c4) := Blk.cell hb 6
  clear hBl hb hr hs hcl2 hcl3 hel3
  by_cases k0 : k = 0
  · subst k0
    have HRES := Lib.hid (show bytesT ⟨0, n, s, l, cs, fs, m⟩ = some (leS (u64 n) 1) by rfl)
    have hwr := wrap_u64 n
    have hm := u64_lt n
    obtain ⟨N, hN⟩ : ∃ N, u64 n = N := ⟨_, rfl⟩
    rw [hN] at hwr hm HRES
    clear hN
    go_enter Try.func19, Try.ntmps19
    go_upto_region 1 with fail
    rw [← hw1]
    clear hw1
    go_wp2_with fail
    refine (num39 N 1 w1 hm (by omega)).mono ?_
    rintro e w2 ⟨rfl, h2⟩
    have HB2 := Lib.hid (Below.call HB.out h2)
    clear h2
    go_wp2_with fail
    go_ret2
    exact ⟨by rw [HRES.out]; rfl, HB2.out⟩
  by_cases k1 : k = 1
  · subst k1
    have HRES := Lib.hid (show bytesT ⟨1, n, s, l, cs, fs, m⟩ = some (leS (u64 n) 8) by rfl)
    have hwr := wrap_u64 n
    have hm := u64_lt n
    obtain ⟨N, hN⟩ : ∃ N, u64 n = N := ⟨_, rfl⟩
    rw [hN] at hwr hm HRES
    clear hN
    go_enter Try.func19, Try.ntmps19
    go_upto_region 1 with fail
    rw [← hw1]
    clear hw1
    go_wp2_with fail
    refine (num39 N 8 w1 hm (by omega)).mono ?_
    rintro e w2 ⟨rfl, h2⟩
    have HB2 := Lib.hid (Below.call HB.out h2)
    clear h2
    go_wp2_with fail
    go_ret2
    exact ⟨by rw [HRES.out]; rfl, HB2.out⟩
  by_cases k2 : k = 2
  · subst k2
    by_cases n0 : n < 0
    · have d0 : decide (n < 0) = true := decide_eq_true n0
      have HRES := Lib.hid (show bytesT ⟨2, n, s, l, cs, fs, m⟩ = none by show (if n < 0 ∨ 4294967295 < n then none else some (leS (u64 n) 4)) = none; exact if_pos (.inl n0))
      go_enter Try.func19, Try.ntmps19
      go_upto_region 1 with fail
      rw [← hw1]
      clear hw1
      go_wp2_with fail
      go_ret2
      exact ⟨by rw [HRES.out]; rfl, HB.out⟩
    · have d0 : decide (n < 0) = false := decide_eq_false n0
      by_cases n1 : 4294967295 < n
      · have d1 : decide (4294967295 < n) = true := decide_eq_true n1
        have HRES := Lib.hid (show bytesT ⟨2, n, s, l, cs, fs, m⟩ = none by show (if n < 0 ∨ 4294967295 < n then none else some (leS (u64 n) 4)) = none; exact if_pos (.inr n1))
        go_enter Try.func19, Try.ntmps19
        go_upto_region 1 with fail
        rw [← hw1]
        clear hw1
        go_wp2_with fail
        go_ret2
        exact ⟨by rw [HRES.out]; rfl, HB.out⟩
      · have d1 : decide (4294967295 < n) = false := decide_eq_false n1
        have HRES := Lib.hid (show bytesT ⟨2, n, s, l, cs, fs, m⟩ = some (leS (u64 n) 4) by show (if n < 0 ∨ 4294967295 < n then none else some (leS (u64 n) 4)) = _; exact if_neg (by omega))
        have hwr := wrap_u64 n
        have hm := u64_lt n
        obtain ⟨N, hN⟩ : ∃ N, u64 n = N := ⟨_, rfl⟩
        rw [hN] at hwr hm HRES
        clear hN
        go_enter Try.func19, Try.ntmps19
        go_upto_region 1 with fail
        rw [← hw1]
        clear hw1
        go_wp2_with fail
        refine (num39 N 4 w1 hm (by omega)).mono ?_
        rintro e w2 ⟨rfl, h2⟩
        have HB2 := Lib.hid (Below.call HB.out h2)
        clear h2
        go_wp2_with fail
        go_ret2
        exact ⟨by rw [HRES.out]; rfl, HB2.out⟩
  by_cases k3 : k = 3
  · subst k3
    have HRES := Lib.hid (show bytesT ⟨3, n, s, l, cs, fs, m⟩ = some (textB s) by rfl)
    go_enter Try.func19, Try.ntmps19
    go_upto_region 1 with fail
    rw [← hw1]
    clear hw1
    go_wp2_with fail
    refine (text52 s w1 HS.out.s).mono ?_
    rintro e w2 ⟨rfl, h2⟩
    have HB2 := Lib.hid (Below.call HB.out h2)
    clear h2
    go_wp2_with fail
    go_ret2
    exact ⟨by rw [HRES.out]; rfl, HB2.out⟩
  by_cases k4 : k = 4
  · subst k4
    have HRES := Lib.hid (show bytesT ⟨4, n, s, l, cs, fs, m⟩ = some (textsB l) by rfl)
    go_enter Try.func19, Try.ntmps19
    go_upto_region 1 with fail
    rw [← hw1]
    clear hw1
    go_wp2_with fail
    refine (texts53 _ l w1 _ HWW.out HR.out.l HS.out.l.1 HS.out.l.2).mono ?_
    rintro e w2 ⟨rfl, h2⟩
    have HB2 := Lib.hid (Below.call HB.out h2)
    clear h2
    go_wp2_with fail
    go_ret2
    exact ⟨by rw [HRES.out]; rfl, HB2.out⟩
  by_cases k5 : k = 5
  · subst k5
    have HRES := Lib.hid (show bytesT ⟨5, n, s, l, cs, fs, m⟩ = cellB (cs.headD cell0) by rfl)
    have hO := one46 _ cs w1 _ HR.out.c HWW.out
    have hsz : (cs.headD cell0).t.size ≤ Small := by
      cases cs with
      | nil => exact Nat.zero_le _
      | cons c cs => exact HS.out.c.1 c (by simp)
    obtain ⟨c, hcc⟩ : ∃ c, cs.headD cell0 = c := ⟨_, rfl⟩
    rw [hcc] at hO hsz HRES
    have HO := Lib.hid hO
    have HSZ := Lib.hid hsz
    clear hO hsz hcc
    go_enter Try.func19, Try.ntmps19
    go_upto_region 1 with fail
    rw [← hw1]
    clear hw1
    go_wp2_with fail
    refine (HO.out).mono ?_
    rintro e w2 ⟨rfl, h2⟩
    have HB2 := Lib.hid (Below.call HB.out h2)
    clear h2
    have HC := Lib.hid (cell54 c w2 HSZ.out)
    unfold cellV optV at HC
    unfold cellV
    go_wp2_with fail
    refine HC.out.mono ?_
    rintro e w3 ⟨rfl, h3⟩
    have HB3 := Lib.hid (Below.call HB2.out h3)
    clear h3
    go_wp2_with fail
    go_ret2
    exact ⟨by rw [HRES.out]; rfl, HB3.out⟩
  by_cases k6 : k = 6
  · subst k6
    have HRES := Lib.hid (show bytesT ⟨6, n, s, l, cs, fs, m⟩ = cellsGo (leS cs.length 4) cs by rfl)
    go_enter Try.func19, Try.ntmps19
    go_upto_region 1 with fail
    rw [← hw1]
    clear hw1
    go_wp2_with fail
    refine (count55 cs.length w1 (by omega)).mono ?_
    rintro e w2 ⟨rfl, h2⟩
    have HB2 := Lib.hid h2
    clear h2
    go_wp2_with fail
    go_loopw [4, 5] (fun x i wr => ∃ (k : Nat) (a : ByteArray), k ≤ cs.length ∧ i = .int .i64 k ∧ x = .string a ∧ a.size ≤ 4 + k * 1048600 ∧ cellsGo (leS cs.length 4) cs = cellsGo a (cs.drop k) ∧ Below w1.heap.size w1 wr) (fun _ i _ => cs.length - (intOf i).toNat)
    case atStart => exact ⟨0, leS cs.length 4, by omega, rfl, rfl, by rw [leS_size]; omega, rfl, HB2.out⟩
    case round =>
      obtain ⟨k, a, hk, rfl, rfl, hsz, hgo, hBr⟩ := hrel
      have r4 := (Below.cell hBr (p := ⟨w.heap.size, 4, none⟩) HLT.out).trans q4
      by_cases hlt : k < cs.length
      · obtain ⟨g, off, rfl, hg, hcell⟩ := HC2.out (by omega)
        obtain ⟨c, hget⟩ : ∃ c, cs[k]? = some c := ⟨_, List.getElem?_eq_getElem hlt⟩
        have hcm : c ∈ cs := List.mem_of_getElem? hget
        have hsc := HS.out.c.1 c hcm
        rw [cellsGo_drop hget] at hgo
        have q : ∀ j, j < 3 → wr.cell? ⟨g, off + k * 3 + j, none⟩ = (cellC c)[j]? := fun j hj => (Below.cell (Below.trans HB.out (hBr.mono HWW.out)) (p := ⟨g, off + k * 3 + j, none⟩) (by show g < _; omega)).trans (hcell k _ hget j hj)
        have e0 : wr.cell? ⟨g, off + k * 3, none⟩ = some (.int .i64 c.k) := q 0 (by omega)
        have e1 : wr.cell? ⟨g, off + k * 3 + 1, none⟩ = some (.int .i64 c.n) := q 1 (by omega)
        have e2 : wr.cell? ⟨g, off + k * 3 + 2, none⟩ = some (.string c.t) := q 2 (by omega)
        have HC := Lib.hid (cell54 c wr hsc)
        unfold cellV optV at HC
        have hkI : decide ((k : Int) < cs.length) = true := decide_eq_true (by omega)
        have HBr := Lib.hid hBr
        have hksz : k * 1048600 ≤ 1048576 * 1048600 := Nat.mul_le_mul_right _ (by omega)
        cases hcb : cellB c with
        | none =>
          rw [hcb] at HC hgo
          have HGO := Lib.hid hgo
          clear hgo hcell q hget hcm hsc hcb hBr HC2 hsz
          go_wp2_with fail
          refine HC.out.mono ?_
          rintro e w3 ⟨rfl, h3⟩
          have HB3 := Lib.hid (Below.call HB.out (Below.call HBr.out h3))
          clear h3
          go_wp2_with fail
          go_ret2
          exact ⟨by rw [HRES.out, HGO.out]; rfl, HB3.out⟩
        | some b =>
          have hbs := cellB_size hsc hcb
          rw [hcb] at HC hgo
          have HGO := Lib.hid hgo
          have t1 : ¬ 9223372036854775807 < a.size + b.size := by omega
          have HSZ := Lib.hid (show (a ++ b).size ≤ 4 + (k + 1) * 1048600 by rw [ByteArray.size_append]; omega)
          clear hgo hcell q hget hcm hsc hcb hBr HC2 hsz hbs hksz
          go_wp2_with fail
          refine HC.out.mono ?_
          rintro e w3 ⟨rfl, h3⟩
          have HB3 := Lib.hid (Below.call HBr.out h3)
          clear h3
          go_wp2_with fail
          go_roundw
          case rel => exact ⟨k + 1, a ++ b, by omega, by go_num, rfl, HSZ.out, HGO.out, HB3.out⟩
          case measure => simp [intOf]; omega
      · obtain rfl : k = cs.length := by omega
        rw [List.drop_length] at hgo
        have hkI : decide ((cs.length : Int) < cs.length) = false := by simp
        have HGO := Lib.hid hgo
        have HBr := Lib.hid hBr
        clear hgo hBr
        go_wp2_with fail
        go_ret2
        exact ⟨by rw [HRES.out, HGO.out]; rfl, Below.call HB.out HBr.out⟩
  by_cases k7 : k = 7
  · subst k7
    have HRES := Lib.hid (show bytesT ⟨7, n, s, l, cs, fs, m⟩ = some (factB (fs.headD fact0)) by rfl)
    go_enter Try.func19, Try.ntmps19
    go_upto_region 1 with fail
    rw [← hw1]
    clear hw1
    go_wp2_with fail
    refine (any49 _ fs w1 _ HR.out.f HWW.out).mono ?_
    rintro e w2 ⟨vd, vm, rfl, hB2, hd, hm⟩
    have HC := Lib.hid (fact56 (fs.headD fact0) vd vm w2 w.heap.size (Nat.le_trans HWW.out hB2.size) hd hm (by
      cases fs with
      | nil => exact okF0
      | cons f fs => exact HS.out.f.1 f (by simp)))
    obtain ⟨FB, hFB⟩ : ∃ x, factB (fs.headD fact0) = x := ⟨_, rfl⟩
    rw [hFB] at HC HRES
    clear hFB
    have HB2 := Lib.hid (Below.call HB.out hB2)
    clear hB2 hd hm
    go_wp2_with fail
    refine HC.out.mono ?_
    rintro e w3 ⟨rfl, h3⟩
    have HB3 := Lib.hid (Below.call HB2.out h3)
    clear h3
    go_wp2_with fail
    go_ret2
    exact ⟨by rw [HRES.out]; rfl, HB3.out⟩
  by_cases k8 : k = 8
  · subst k8
    have HRES := Lib.hid (show bytesT ⟨8, n, s, l, cs, fs, m⟩ = some (factsB fs) by rfl)
    have HSZ := Lib.hid (fun k => foldl_size_take factB 1099524210696 fs k (leS fs.length 4) (fun f hf => factB_size (HS.out.f.1 f hf)))
    go_enter Try.func19, Try.ntmps19
    go_upto_region 1 with fail
    rw [← hw1]
    clear hw1
    go_wp2_with fail
    refine (count55 fs.length w1 (by omega)).mono ?_
    rintro e w2 ⟨rfl, h2⟩
    have HB2 := Lib.hid h2
    clear h2
    go_wp2_with fail
    go_loopw [8, 9] (fun x i wr => ∃ k : Nat, k ≤ fs.length ∧ i = .int .i64 k ∧ x = .string ((fs.take k).foldl (fun a f => a ++ factB f) (leS fs.length 4)) ∧ Below w1.heap.size w1 wr) (fun _ i _ => fs.length - (intOf i).toNat)
    case atStart => exact ⟨0, by omega, rfl, rfl, HB2.out⟩
    case round =>
      obtain ⟨k, hk, rfl, rfl, hBr⟩ := hrel
      have r5 := (Below.cell hBr (p := ⟨w.heap.size, 5, none⟩) HLT.out).trans q5
      by_cases hlt : k < fs.length
      · obtain ⟨g, off, rfl, hg, hcell⟩ := HC3.out (by omega)
        obtain ⟨f, hget⟩ : ∃ f, fs[k]? = some f := ⟨_, List.getElem?_eq_getElem hlt⟩
        obtain ⟨⟨vd, vm⟩, hp⟩ : ∃ p, ps[k]? = some p := ⟨_, List.getElem?_eq_getElem (by omega)⟩
        have hfm : f ∈ fs := List.mem_of_getElem? hget
        have hok := HS.out.f.1 f hfm
        obtain ⟨hd, hm⟩ := HE3.out k f _ hget hp
        have hX := Below.trans HB.out (hBr.mono HWW.out)
        have hst := foldl_take (fun a f => a ++ factB f) (leS fs.length 4) fs fact0 k hlt
        have hsz := HSZ.out k
        rw [List.getD_eq_getElem?_getD, hget, leS_size] at *
        have q : ∀ j, j < 2 → wr.cell? ⟨g, off + k * 2 + j, none⟩ = [vd, vm][j]? := fun j hj => (Below.cell hX (p := ⟨g, off + k * 2 + j, none⟩) (by show g < _; omega)).trans (hcell k _ hp j hj)
        have e0 : wr.cell? ⟨g, off + k * 2, none⟩ = some vd := q 0 (by omega)
        have e1 : wr.cell? ⟨g, off + k * 2 + 1, none⟩ = some vm := q 1 (by omega)
        have HC := Lib.hid (fact56 f vd vm wr B (Nat.le_trans hBB hX.size) (RowS.mono hd (hX.mono hBB) (Nat.le_refl _)) (RowI.mono hm (hX.mono hBB) (Nat.le_refl _)) hok)
        have hkI : decide ((k : Int) < fs.length) = true := decide_eq_true (by omega)
        have HBr := Lib.hid hBr
        have hbs := factB_size hok
        obtain ⟨acc, ha⟩ : ∃ acc, (fs.take k).foldl (fun a f => a ++ factB f) (leS fs.length 4) = acc := ⟨_, rfl⟩
        rw [ha] at hst hsz ⊢
        obtain ⟨FB, hFB⟩ : ∃ FB, factB f = FB := ⟨_, rfl⟩
        simp only [Option.getD_some] at hst
        rw [hFB] at hst hbs HC
        have t1 : ¬ 9223372036854775807 < acc.size + FB.size := by
          have : fs.length * 1099524210696 ≤ 1048576 * 1099524210696 := Nat.mul_le_mul_right _ (by omega)
          omega
        have HST := Lib.hid hst
        clear hst hsz hcell q hget hfm hok hBr hX hd hm hp ha hFB hbs HC3 HE3
        go_wp2_with fail
        refine HC.out.mono ?_
        rintro e w3 ⟨rfl, h3⟩
        have HB3 := Lib.hid (Below.call HBr.out h3)
        clear h3
        go_wp2_with fail
        go_roundw
        case rel => exact ⟨k + 1, by omega, by go_num, by rw [HST.out], HB3.out⟩
        case measure => simp [intOf]; omega
      · obtain rfl : k = fs.length := by omega
        have hkI : decide ((fs.length : Int) < fs.length) = false := by simp
        rw [List.take_length]
        have HBr := Lib.hid hBr
        clear hBr
        go_wp2_with fail
        go_ret2
        exact ⟨by rw [HRES.out]; rfl, Below.call HB.out HBr.out⟩
  have HRES := Lib.hid (show bytesT ⟨k, n, s, l, cs, fs, m⟩ = some (textsB l ++ textsB m) by unfold bytesT; rw [if_neg k0, if_neg k1, if_neg k2, if_neg k3, if_neg k4, if_neg k5, if_neg k6, if_neg k7, if_neg k8])
  have d0 : (k == 0) = false := by simpa using k0
  have d1 : (k == 1) = false := by simpa using k1
  have d2 : (k == 2) = false := by simpa using k2
  have d3 : (k == 3) = false := by simpa using k3
  have d4 : (k == 4) = false := by simpa using k4
  have d5 : (k == 5) = false := by simpa using k5
  have d6 : (k == 6) = false := by simpa using k6
  have d7 : (k == 7) = false := by simpa using k7
  have d8 : (k == 8) = false := by simpa using k8
  have z0 := textsB_size l HS.out.l.1
  have z1 := textsB_size m HS.out.m.1
  have z2 : l.length * 1048580 ≤ 1048576 * 1048580 := Nat.mul_le_mul_right _ HS.out.l.2
  have z3 : m.length * 1048580 ≤ 1048576 * 1048580 := Nat.mul_le_mul_right _ HS.out.m.2
  have hc1 := fun w' (h : Below w1.heap.size w1 w') => texts53 _ l w' _ (Nat.le_trans HWW.out h.size) (RowS.mono HR.out.l (h.mono HWW.out) (Nat.le_refl _)) HS.out.l.1 HS.out.l.2
  have hc2 := fun w' (h : Below w1.heap.size w1 w') => texts53 _ m w' _ (Nat.le_trans HWW.out h.size) (RowS.mono HR.out.m (h.mono HWW.out) (Nat.le_refl _)) HS.out.m.1 HS.out.m.2
  obtain ⟨D1, hD1⟩ : ∃ D, textsB l = D := ⟨_, rfl⟩
  obtain ⟨D2, hD2⟩ : ∃ D, textsB m = D := ⟨_, rfl⟩
  rw [hD1] at z0 hc1 HRES
  rw [hD2] at z1 hc2 HRES
  have t0 : ¬ 9223372036854775807 < D1.size + D2.size := by omega
  have HC1 := Lib.hid hc1
  have HCC2 := Lib.hid hc2
  clear hc1 hc2 z0 z1 z2 z3 hD1 hD2
  go_enter Try.func19, Try.ntmps19
  go_upto_region 1 with fail
  rw [← hw1]
  clear hw1
  go_upto_region 35 with fail
  refine wp_region_below (by kernel_rfl) (by kernel_rfl) ?_
  refine qb_pure rfl (.pointer (some ⟨w.heap.size, 3, none⟩)) (fun w' hB' => by go_simp) ?_
  simp only [Act.put, List.setIfInBounds_toArray, List.set_cons_zero, List.set_cons_succ]
  refine qb_pure rfl (.slice a1 l.length c1) (fun w' hB' => by have q0 := (Below.cell hB' (p := ⟨w.heap.size, 3, none⟩) HLT.out).trans q3; go_simp) ?_
  simp only [Act.put, List.setIfInBounds_toArray, List.set_cons_zero, List.set_cons_succ]
  refine qb_call rfl 53 #[.slice a1 l.length c1] (.string D1) (fun w' => by go_simp) (fun w' hB' => HC1.out w' hB') ?_
  simp only [Act.put, List.setIfInBounds_toArray, List.set_cons_zero, List.set_cons_succ]
  refine qb_pure rfl (.pointer (some ⟨w.heap.size, 6, none⟩)) (fun w' hB' => by go_simp) ?_
  simp only [Act.put, List.setIfInBounds_toArray, List.set_cons_zero, List.set_cons_succ]
  refine qb_pure rfl (.slice a4 m.length c4) (fun w' hB' => by have q0 := (Below.cell hB' (p := ⟨w.heap.size, 6, none⟩) HLT.out).trans q6; go_simp) ?_
  simp only [Act.put, List.setIfInBounds_toArray, List.set_cons_zero, List.set_cons_succ]
  refine qb_call rfl 53 #[.slice a4 m.length c4] (.string D2) (fun w' => by go_simp) (fun w' hB' => HCC2.out w' hB') ?_
  simp only [Act.put, List.setIfInBounds_toArray, List.set_cons_zero, List.set_cons_succ]
  refine qb_pure rfl (.string (D1 ++ D2)) (fun w' hB' => by go_simp) ?_
  simp only [Act.put, List.setIfInBounds_toArray, List.set_cons_zero, List.set_cons_succ]
  refine qb_pure rfl (.string (D1 ++ D2)) (fun w' hB' => by go_simp) ?_
  simp only [Act.put, List.setIfInBounds_toArray, List.set_cons_zero, List.set_cons_succ]
  refine qb_pure rfl (.bool true) (fun w' hB' => by go_simp) ?_
  simp only [Act.put, List.setIfInBounds_toArray, List.set_cons_zero, List.set_cons_succ]
  refine qb_nil ?_
  intro w2 hB2
  have HB2 := Lib.hid (Below.call HB.out hB2)
  clear hB2
  go_wp2_with fail
  go_ret2
  exact ⟨by rw [HRES.out]; rfl, HB2.out⟩
end Go.Proofs.Ytocanbdpdnkapaa
