/- CodecWrites. -/
import Derived.Test.YtocanbdpdnkapaaU
namespace Go.Proofs.Ytocanbdpdnkapaa
open Go.RowKit
set_option linter.unusedVariables false
set_option linter.unusedSimpArgs false

/-- a slice of things that can be read -/
structure RowTh (B : Nat) (w : World) (v : Value) (ps : List (ThingT × ThV)) : Prop where
  row : RowR 7 (fun p : ThingT × ThV => (thingC p.1 p.2).toList) B w v ps
  el : ∀ p ∈ ps, RowsT B w p.1 p.2
structure okTh (t : ThingT) : Prop where
  u : okU t
  n : -9223372036854775808 ≤ t.n ∧ t.n ≤ 9223372036854775807
theorem okTh.t {t : ThingT} (h : okTh t) (b : Option Nat) : okT b t := by
  have hs : ∀ s : ByteArray, s.size ≤ Small → okS b s := fun s h => okS_small b (by unfold Small at h; omega)
  exact ⟨hs _ h.u.s, fun s h1 => hs _ (h.u.l.1 s h1), fun c h1 => hs _ (h.u.c.1 c h1), fun f h1 s h2 => hs _ ((h.u.f.1 f h1).t s h2), fun s h1 => hs _ (h.u.m.1 s h1), h.n⟩
def thing0 : ThingT := ⟨0, 0, ByteArray.empty, [], [], [], []⟩
def thV0 : ThV := ⟨undef, undef, undef, undef⟩
theorem foldl_take' {α β : Type} (f : β → α → β) (x : β) (l : List α) {k : Nat} {c : α} (h : l[k]? = some c) : (l.take (k + 1)).foldl f x = f ((l.take k).foldl f x) c := by
  rw [List.take_add_one, h, List.foldl_append]
  rfl
def endS (y : WantS) : ByteArray := if y.e ≠ 0 then ⟨#[]⟩ else y.s
theorem RelS.done {x : WrS} {y : WantS} (h : RelS x y) : doneW x = endS y := by
  unfold doneW endS
  by_cases hy : y.e = 0
  · rw [if_neg (by simp [h.e, hy]), if_neg (by simp [hy])]
    rw [← (h.l hy).1]
  · rw [if_pos (fun hx => hy (h.e.symm.trans hx)), if_pos hy]

theorem seven {w : World} {g o : Nat} {t : ThingT} {v : ThV} (h : ∀ j, j < 7 → w.cell? ⟨g, o + j, none⟩ = (thingC t v).toList[j]?) :
    w.cell? ⟨g, o, none⟩ = some (.int .i64 t.k) ∧ w.cell? ⟨g, o + 1, none⟩ = some (.int .i64 t.n) ∧ w.cell? ⟨g, o + 2, none⟩ = some (.string t.s) ∧ w.cell? ⟨g, o + 3, none⟩ = some v.l ∧ w.cell? ⟨g, o + 4, none⟩ = some v.c ∧ w.cell? ⟨g, o + 5, none⟩ = some v.f ∧ w.cell? ⟨g, o + 6, none⟩ = some v.m :=
  ⟨h 0 (by omega), h 1 (by omega), h 2 (by omega), h 3 (by omega), h 4 (by omega), h 5 (by omega), h 6 (by omega)⟩
set_option maxRecDepth 100000 in
set_option maxHeartbeats 32000000 in
theorem writes5 (v : Value) (ps : List (ThingT × ThV)) (w : World) (hr : RowTh w.heap.size w v ps) (hok : ∀ p ∈ ps, okTh p.1) :
    Calls Try.prog 5 #[v] w fun e w' => e = .returned (.bool true) ∧ Below w.heap.size w w' := by
  obtain ⟨⟨a, cap, rfl, hcap, hmax, hc⟩, hel⟩ := hr
  have HC := Lib.hid hc
  have HE := Lib.hid hel
  have HO := Lib.hid hok
  clear hc hel hok
  go_enter Try.func5, Try.ntmps5
  go_wp2_with fail
  refine (awake10 w).mono ?_
  rintro e w1 ⟨rfl, hB1⟩
  have hb2 := Blk.new w1 51 #[.slice none 0 0, .int .i64 0]
  have HW2 := Lib.hid (show WrO (some w1.heap.size) (w1.alloc (Obj.cells #[.slice none 0 0, .int .i64 0] 51)) ⟨[], 0⟩ from ⟨⟨_, hb2, World.ownsRow_nil _ _ _ _⟩, Nat.zero_le _⟩)
  have HB2 := Lib.hid (Below.al hB1 (Obj.cells #[.slice none 0 0, .int .i64 0] 51))
  have HB1 := Lib.hid hB1
  have hs1 : w.heap.size ≤ w1.heap.size := hB1.size
  have HSS := Lib.hid (show w1.heap.size ≤ (w1.alloc (Obj.cells #[.slice none 0 0, .int .i64 0] 51)).heap.size from (Below.al (Below.refl _ _) _).size)
  clear hb2 hB1
  go_wp2_with fail
  obtain ⟨w2, hw2⟩ : ∃ w2, w2 = w1.alloc (Obj.cells #[.slice none 0 0, .int .i64 0] 51) := ⟨_, rfl⟩
  rw [← hw2] at HW2 HB2 HSS ⊢
  clear hw2
  go_loopw [5, 6, 7] (fun s e i wr => ∃ (k : Nat) (x : WrS) (y : WantS), k ≤ ps.length ∧ i = .int .i64 k ∧ s = .string y.s ∧ e = .int .i64 y.e ∧ RelS x y ∧ WrO (some w1.heap.size) wr x ∧ Below w1.heap.size w2 wr) (fun _ _ i _ => ps.length - (intOf i).toNat)
  case atStart => exact ⟨0, ⟨[], 0⟩, ⟨⟨#[]⟩, 0⟩, by omega, rfl, rfl, rfl, ⟨rfl, fun _ => ⟨rfl, by decide⟩⟩, HW2.out, Below.refl _ _⟩
  case round =>
    obtain ⟨k, x, y, hk, rfl, rfl, rfl, hrel, hW, hB⟩ := hrel
    have hBw : Below w.heap.size w wr := HB2.out.trans (hB.mono hs1)
    have hsz : w1.heap.size ≤ wr.heap.size := Nat.le_trans HSS.out hB.size
    by_cases hlt : k < ps.length
    · obtain ⟨g, off, rfl, hg, hcell⟩ := HC.out (by omega)
      obtain ⟨⟨t, tv⟩, hget⟩ : ∃ p, ps[k]? = some p := ⟨_, List.getElem?_eq_getElem hlt⟩
      have hpm : (t, tv) ∈ ps := List.mem_of_getElem? hget
      have hto := HO.out _ hpm
      have HQ := Lib.hid (fun (w' : World) (hB' : Below w.heap.size w w') => seven (w := w') (fun j hj => (Below.cell hB' (p := ⟨g, off + k * 7 + j, none⟩) (by show g < _; omega)).trans (hcell k _ hget j hj)))
      have HRW := Lib.hid (HE.out _ hpm)
      have HT := Lib.hid (hto.t (some w1.heap.size))
      have HU := Lib.hid hto.u
      obtain ⟨e0, e1, e2, e3, e4, e5, e6⟩ := HQ.out wr hBw
      have hlow : w.heap.size ≤ low (some w1.heap.size) wr := by show w.heap.size ≤ min w1.heap.size wr.heap.size; omega
      have HL := Lib.hid (lay18O (some w1.heap.size) x t tv wr hW (HRW.out.mono hBw hlow) HT.out)
      unfold wptr thingC at HL
      simp only [Option.map] at HL
      have HREL := Lib.hid hrel
      have HB := Lib.hid hB
      have HSZ := Lib.hid hsz
      have hkI : decide ((k : Int) < ps.length) = true := decide_eq_true (by omega)
      clear hW hrel hB hcell hto hpm hlow hget hBw HC hsz
      go_wp2_with fail
      refine HL.out.mono ?_
      rintro e w3 ⟨rfl, hW3, hB3⟩
      have hB23 : Below w1.heap.size w2 w3 := HB.out.trans (hB3.below.mono (by show w1.heap.size ≤ min w1.heap.size wr.heap.size; have := HSZ.out; omega))
      have hBw3 : Below w.heap.size w w3 := HB2.out.trans (hB23.mono hs1)
      obtain ⟨f0, f1, f2, f3, f4, f5, f6⟩ := HQ.out w3 hBw3
      have hby := bytes19 t tv w3 w.heap.size hBw3.size (HRW.out.mono hBw3 (Nat.le_refl _)) HU.out
      unfold thingC optV at hby
      have HBY := Lib.hid hby
      have HW3 := Lib.hid hW3
      have HB23 := Lib.hid hB23
      have HBW3 := Lib.hid hBw3
      have hsz3 : w1.heap.size ≤ w3.heap.size := Nat.le_trans HSS.out hB23.size
      have HSZ3 := Lib.hid hsz3
      clear hW3 hB3 hB23 hBw3 hby HB HL e0 e1 e2 e3 e4 e5 e6 HSZ hsz3
      go_wp2_with fail
      refine HBY.out.mono ?_
      rintro e w4 ⟨rfl, hB4⟩
      have hB24 : Below w1.heap.size w2 w4 := HB23.out.trans (hB4.mono HSZ3.out)
      have hBw4 : Below w.heap.size w w4 := Below.call HBW3.out hB4
      obtain ⟨g0, g1, g2, g3, g4, g5, g6⟩ := HQ.out w4 hBw4
      have HB24 := Lib.hid hB24
      have HBW4 := Lib.hid hBw4
      have HW4 := Lib.hid (HW3.out.below hB4)
      have HREL2 := Lib.hid (HREL.out.step HU.out)
      clear hB4 hB24 hBw4 HBY HW3 f0 f1 f2 f3 f4 f5 f6
      by_cases hy : y.e = 0
      · have hy0 : (y.e == 0) = true := by simpa using hy
        obtain ⟨ys, ye⟩ := y
        simp only at hy hy0
        subst hy
        have hys := (HREL.out.l rfl).2
        simp only at hys
        cases hbt : bytesT t with
        | none =>
          have hst : stepS ⟨ys, 0⟩ t = ⟨ys, spoiltT ys.size t⟩ := by unfold stepS; rw [hbt]; rfl
          rw [hst] at HREL2
          have hsp := spoilt20 ys.size hys t tv w4 w.heap.size HBW4.out.size (HRW.out.mono HBW4.out (Nat.le_refl _)) HU.out
          unfold thingC at hsp
          have hne := spoilt_ne ys.size t
          obtain ⟨sp, hspe⟩ : ∃ sp, spoiltT ys.size t = sp := ⟨_, rfl⟩
          rw [hspe] at hsp hne HREL2
          have hn0 : (sp == 0) = false := by simpa using hne
          have HSP := Lib.hid hsp
          clear hsp hne hspe hst hys hbt
          go_wp2_with fail
          refine HSP.out.mono ?_
          rintro e w5 ⟨rfl, hB5⟩
          have HB25 := Lib.hid (HB24.out.trans (hB5.mono (Nat.le_trans HSS.out HB24.out.size)))
          have HW5 := Lib.hid (HW4.out.below hB5)
          clear hB5
          go_wp2_with fail
          go_roundw
          case rel => exact ⟨k + 1, _, ⟨ys, sp⟩, by omega, by go_num, rfl, rfl, HREL2.out, HW5.out, HB25.out⟩
          case measure => simp [intOf]; omega
        | some b =>
          have hbs := bytesT_size HU.out hbt
          have hst : stepS ⟨ys, 0⟩ t = ⟨ys ++ b, if 65536 < (ys ++ b).size then 23 else 0⟩ := by unfold stepS; rw [hbt]; rfl
          rw [hst] at HREL2
          have t1 : ¬ 9223372036854775807 < ys.size + b.size := by omega
          clear hst hbs hys hbt
          by_cases hbig : 65536 < (ys ++ b).size
          · have d1 : decide ((65536 : Int) < (ys ++ b).size) = true := decide_eq_true (by omega)
            rw [if_pos hbig] at HREL2
            rw [ByteArray.size_append] at d1 hbig
            have d2 : decide ((65536 : Int) < (ys.size : Int) + b.size) = true := decide_eq_true (by omega)
            go_wp2_with fail
            go_roundw
            case rel => exact ⟨k + 1, _, ⟨ys ++ b, 23⟩, by omega, by go_num, rfl, rfl, HREL2.out, HW4.out, HB24.out⟩
            case measure => simp [intOf]; omega
          · have d1 : decide ((65536 : Int) < (ys ++ b).size) = false := decide_eq_false (by omega)
            rw [if_neg hbig] at HREL2
            rw [ByteArray.size_append] at d1 hbig
            have d2 : decide ((65536 : Int) < (ys.size : Int) + b.size) = false := decide_eq_false (by omega)
            go_wp2_with fail
            go_roundw
            case rel => exact ⟨k + 1, _, ⟨ys ++ b, 0⟩, by omega, by go_num, rfl, rfl, HREL2.out, HW4.out, HB24.out⟩
            case measure => simp [intOf]; omega
      · have hy0 : (y.e == 0) = false := by simpa using hy
        have hst : stepS y t = y := if_pos hy
        rw [hst] at HREL2
        clear hst
        go_wp2_with fail
        go_roundw
        case rel => exact ⟨k + 1, _, y, by omega, by go_num, rfl, rfl, HREL2.out, HW4.out, HB24.out⟩
        case measure => simp [intOf]; omega
    · obtain rfl : k = ps.length := by omega
      have hkI : decide ((ps.length : Int) < ps.length) = false := by simp
      have hd := hrel.done
      have hxe := hrel.e
      have HD := Lib.hid (fun w' (h : Below wr.heap.size wr w') => done21 _ _ w' (WrO.below hW h))
      rw [hd, hxe] at HD
      obtain ⟨ys, ye⟩ := y
      simp only at HD
      have HBR := Lib.hid hBw
      have HR := Lib.hid (Below.refl wr.heap.size wr)
      clear hd hxe hW hrel hB hBw hsz HC HE HO
      by_cases hy : ye = 0
      · subst hy
        rw [show endS ⟨ys, 0⟩ = ys from if_neg (by simp)] at HD
        go_wp2_with fail
        refine (HD.out wr HR.out).mono ?_
        rintro e w3 ⟨rfl, hB3⟩
        have HB3 := Lib.hid hB3
        clear hB3
        go_wp2_with fail
        refine (HD.out w3 HB3.out).mono ?_
        rintro e w4 ⟨rfl, hB4⟩
        have HB4 := Lib.hid (Below.call HBR.out (Below.call HB3.out hB4))
        clear hB4
        go_wp2_with fail
        go_ret
        exact ⟨rfl, HB4.out⟩
      · have hy0 : (ye != 0) = true := by simpa using hy
        rw [show endS ⟨ys, ye⟩ = ⟨#[]⟩ from if_pos hy] at HD
        go_wp2_with fail
        refine (HD.out wr HR.out).mono ?_
        rintro e w3 ⟨rfl, hB3⟩
        have HB3 := Lib.hid hB3
        clear hB3
        go_wp2_with fail
        refine (HD.out w3 HB3.out).mono ?_
        rintro e w4 ⟨rfl, hB4⟩
        have HB4 := Lib.hid (Below.call HBR.out (Below.call HB3.out hB4))
        clear hB4
        go_wp2_with fail
        go_ret
        exact ⟨rfl, HB4.out⟩
end Go.Proofs.Ytocanbdpdnkapaa
