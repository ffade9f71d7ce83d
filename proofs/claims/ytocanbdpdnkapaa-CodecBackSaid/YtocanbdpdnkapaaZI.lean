/- A reader with an error takes nothing up; CodecNil. -/
import Derived.Test.YtocanbdpdnkapaaZH
import Derived.Test.YtocanbdpdnkapaaW
namespace Go.Proofs.Ytocanbdpdnkapaa
open Go.RowKit
set_option linter.unusedVariables false
set_option linter.unusedSimpArgs false

theorem takeR_dead {x : RdS} (h : x.e ≠ 0) (n : Nat) : takeR x n = (emptyS, x) := if_pos h
theorem textR_dead {x : RdS} (h : x.e ≠ 0) : textR x = (emptyS, x) := by unfold textR; rw [takeR_dead h, takeR_dead h]
theorem byteR_dead {x : RdS} (h : x.e ≠ 0) : byteR x = 0 := by unfold byteR; rw [takeR_dead h]; rfl
theorem intR_dead {x : RdS} (h : x.e ≠ 0) : intR x = 0 := by unfold intR; rw [takeR_dead h]; show i64of 0 = 0; simp [i64of, wrap64]
theorem failR_dead {x : RdS} (h : x.e ≠ 0) (e : Int) : failR x e = x := if_neg (fun q => h q.1)
theorem countR_dead {x : RdS} (h : x.e ≠ 0) (m : Int) : countR x m = (0, x) := by
  unfold countR
  simp only [takeR_dead h, failR_dead h, ite_self]
  rw [if_neg h]
theorem sevR_dead {α : Type} (one : RdS → α × RdS) (k : Nat) {x : RdS} (h : x.e ≠ 0) : sevR one k x = ([], x) := by
  have hh : headR k x = (0, x) := by
    unfold headR
    rw [takeR_dead h, if_neg (fun q => h q.1)]
    rfl
  unfold sevR
  rw [hh]
  show ((if x.e = 0 then _ else _, x) : List α × RdS) = _
  rw [if_neg h]
theorem cellR_dead {x : RdS} (h : x.e ≠ 0) : cellR x = (cell0, x) := by
  have h1 : cellR1 x = (cell0, x) := by unfold cellR1; rw [byteR_dead h, if_pos rfl, takeR_dead h]
  unfold cellR
  rw [h1]
  show ((if x.e = 0 then _ else _, x) : CellT × RdS) = _
  rw [if_neg h]
theorem factR_dead {x : RdS} (h : x.e ≠ 0) : factR x = (fact0, x) := by
  unfold factR
  simp only [sevR_dead _ _ h]
  rw [if_neg h]
theorem schemaR_dead {x : RdS} (h : x.e ≠ 0) : (schemaR x).2 = x ∧ (schemaR x).1.dims = [] ∧ (schemaR x).1.meas = [] := by
  unfold schemaR
  simp only [sevR_dead _ _ h]
  refine ⟨trivial, ?_, ?_⟩ <;> rw [if_neg h] <;> rfl
theorem takeT_dead {x : RdS} (h : x.e ≠ 0) (t : ThingT) : (takeT x t).2 = x ∧ (takeT x t).1.n = 0 ∧ (takeT x t).1.s = emptyS ∧ (takeT x t).1.l = [] ∧ (takeT x t).1.meas = [] := by
  unfold takeT
  simp only [takeR_dead h, textR_dead h, byteR_dead h, intR_dead h, countR_dead h, sevR_dead _ _ h, cellR_dead h, factR_dead h]
  obtain ⟨h1, h2, h3⟩ := schemaR_dead h
  repeat' split
  all_goals first | exact ⟨rfl, rfl, rfl, rfl, rfl⟩ | exact ⟨h1, rfl, rfl, h2, h3⟩
theorem okZ.tn {t : ThingT} (h : okZ (· ≤ maxLen) t) : okT none t := ⟨⟨h.s, .inl rfl⟩, fun s hs => ⟨h.l.1 s hs, .inl rfl⟩, fun c hc => ⟨h.c.1 c hc, .inl rfl⟩, fun f hf s hs => ⟨(h.f.1 f hf).1 s hs, .inl rfl⟩, fun s hs => ⟨h.m.1 s hs, .inl rfl⟩, h.n⟩

set_option maxRecDepth 100000 in
set_option maxHeartbeats 32000000 in
theorem nil9 (v : Value) (w : World) (ps : List (ThingT × ThV)) (hr : RowTh w.heap.size w v ps) (hok : ∀ p ∈ ps, okZ (· ≤ maxLen) p.1) :
    Calls Try.prog 9 #[v] w fun e w' => e = .returned (.bool true) ∧ Below w.heap.size w w' := by
  obtain ⟨⟨a, cap, rfl, hcap, hmax, hc⟩, hel⟩ := hr
  have HC := Lib.hid hc
  have HE := Lib.hid hel
  have HO := Lib.hid hok
  clear hc hel hok
  go_enter Try.func9, Try.ntmps9
  go_upto_region 4 with fail
  go_loopw [5] (fun i wr => ∃ k : Nat, k ≤ ps.length ∧ i = .int .i64 k ∧ Below w.heap.size w wr) (fun i _ => ps.length - (intOf i).toNat)
  case atStart => exact ⟨0, by omega, rfl, Below.refl _ _⟩
  case round =>
    obtain ⟨k, hk, rfl, hB⟩ := hrel
    by_cases hlt : k < ps.length
    · obtain ⟨g, off, rfl, hg, hcell⟩ := HC.out (by omega)
      obtain ⟨⟨t, tv⟩, hget⟩ : ∃ p, ps[k]? = some p := ⟨_, List.getElem?_eq_getElem hlt⟩
      have hpm : (t, tv) ∈ ps := List.mem_of_getElem? hget
      have hto := (HO.out _ hpm).tn
      have HQ := Lib.hid (fun (w' : World) (hB' : Below w.heap.size w w') => seven (w := w') (fun j hj => (Below.cell hB' (p := ⟨g, off + k * 7 + j, none⟩) (by show g < _; omega)).trans (hcell k _ hget j hj)))
      have HRW := Lib.hid (HE.out _ hpm)
      obtain ⟨e0, e1, e2, e3, e4, e5, e6⟩ := HQ.out wr hB
      have HL := Lib.hid (lay18O none ⟨[], 1⟩ t tv wr rfl (HRW.out.mono hB (show w.heap.size ≤ low none wr from hB.size)) hto)
      unfold wptr thingC at HL
      simp only [Option.map] at HL
      have HB := Lib.hid hB
      have hkI : decide ((k : Int) < ps.length) = true := decide_eq_true (by omega)
      clear hB hcell hto hpm hget HC
      go_wp2_with fail
      refine HL.out.mono ?_
      rintro e w3 ⟨rfl, -, hB3⟩
      have hBw3 : Below w.heap.size w w3 := HB.out.trans (hB3.below.mono HB.out.size)
      obtain ⟨f0, f1, f2, f3, f4, f5, f6⟩ := HQ.out w3 hBw3
      have HT := Lib.hid (take26O none nilX t tv w3 w.heap.size rfl (HRW.out.mono hBw3 (Nat.le_refl _)))
      obtain ⟨d1, d2, d3, d4, d5⟩ := takeT_dead (x := nilX) (by decide) t
      generalize takeT nilX t = RT at *
      obtain ⟨⟨rk, rn, rs, rl, rc, rf, rm⟩, ry⟩ := RT
      simp only at d1 d2 d3 d4 d5
      subst d1 d2 d3 d4 d5
      unfold thingC wptr at HT
      simp only [Option.map] at HT
      have HBW3 := Lib.hid hBw3
      clear hB3 hBw3 HL e0 e1 e2 e3 e4 e5 e6
      go_wp2_with fail
      refine HT.out.mono ?_
      rintro e w4 ⟨v, rfl, -, h2, h3⟩
      obtain ⟨al, cl, q1, -⟩ := RowS.open h3.l.1
      obtain ⟨am, cm, q2, -⟩ := RowS.open h3.m.1
      obtain ⟨ac, cc, q3, -⟩ := h3.c.1
      obtain ⟨qs, -, ⟨af, cf, q4, -⟩, -⟩ := h3.f
      generalize qs.length = ql at q4
      obtain ⟨vl, vc, vf, vm⟩ := v
      simp only at q1 q2 q3 q4
      subst q1 q2 q3 q4
      have HB4 := Lib.hid (Below.call HBW3.out (h2.below (Nat.le_refl _) (fun B e => by cases e)))
      clear h2 h3 HT
      have hS0 : emptyS.toList = [] := by rw [ByteArray.toList_eq]; rfl
      go_wp2_with fail
      go_roundw
      case rel => exact ⟨k + 1, by omega, by go_num, Below.al HB4.out _⟩
      case measure => simp [intOf]; omega
    · obtain rfl : k = ps.length := by omega
      have hkI : decide ((ps.length : Int) < ps.length) = false := by simp
      have HB := Lib.hid hB
      clear hB HC HE HO
      have HF := Lib.hid (fail23O none nilX 22 wr rfl)
      unfold wptr at HF
      simp only [Option.map] at HF
      go_wp2_with fail
      refine HF.out.mono ?_
      rintro e w3 ⟨rfl, -, h3⟩
      have HB3 := Lib.hid (Below.call HB.out (h3.below (Nat.le_refl _) (fun B e => by cases e)))
      clear h3
      go_wp2_with fail
      refine (done21_nil w3).mono ?_
      rintro e w4 ⟨rfl, rfl⟩
      clear HF
      go_upto_region 13 with fail
      have hz := Blk.new w3 77 #[.string ⟨#[]⟩, .int .i64 0]
      have hBl := Below.al (Below.refl w3.heap.size w3) (Obj.cells #[.string ⟨#[]⟩, .int .i64 0] 77)
      obtain ⟨wz, hwz⟩ : ∃ wz, wz = w3.alloc (Obj.cells #[.string ⟨#[]⟩, .int .i64 0] 77) := ⟨_, rfl⟩
      rw [← hwz] at hz hBl ⊢
      clear hwz
      go_wp2_with fail
      refine (awake10 wz).mono ?_
      rintro e w5 ⟨rfl, hB5⟩
      have HZ := Lib.hid (show RdO (some w3.heap.size) w5 ⟨emptyS, 0⟩ from ⟨Blk.below hz hB5 hz.lt, by decide⟩)
      have HB5 := Lib.hid (Below.call (Below.call HB3.out hBl) hB5)
      clear hz hBl hB5
      have HD := Lib.hid (done29O none nilX w5 rfl)
      have HL := Lib.hid (left28O none nilX w5 rfl)
      have HY := Lib.hid (done29O (some w3.heap.size) ⟨emptyS, 0⟩ w5 HZ.out)
      have HT := Lib.hid (byte32O (some w3.heap.size) ⟨emptyS, 0⟩ w5 HZ.out)
      rw [show endR nilX = 1 from rfl] at HD
      rw [show ((nilX.s.size : Nat) : Int) = 0 from rfl] at HL
      rw [show endR ⟨emptyS, 0⟩ = 0 from rfl] at HY
      rw [show byteR ⟨emptyS, 0⟩ = 0 from rfl, show (takeR ⟨emptyS, 0⟩ 1).2 = ⟨emptyS, 20⟩ from rfl] at HT
      unfold wptr at HD HL HY HT
      simp only [Option.map] at HD HL HY HT
      go_wp2_with fail
      refine HD.out.mono ?_
      rintro e w' ⟨rfl, rfl⟩
      go_wp2_with fail
      refine HL.out.mono ?_
      rintro e w' ⟨rfl, rfl⟩
      go_wp2_with fail
      refine HY.out.mono ?_
      rintro e w' ⟨rfl, rfl⟩
      go_wp2_with fail
      refine HT.out.mono ?_
      rintro e w6 ⟨rfl, h1, h2⟩
      have HE6 := Lib.hid (done29O (some w3.heap.size) ⟨emptyS, 20⟩ w6 h1)
      rw [show endR ⟨emptyS, 20⟩ = 20 from rfl] at HE6
      unfold wptr at HE6
      simp only [Option.map] at HE6
      have HB6 := Lib.hid (Below.trans HB5.out (h2.below (L := w.heap.size) HB5.out.size (fun B e => by cases e; exact HB3.out.size)))
      clear h1 h2
      go_wp2_with fail
      refine HE6.out.mono ?_
      rintro e w' ⟨rfl, rfl⟩
      go_wp2_with fail
      go_ret
      exact ⟨rfl, HB6.out⟩
theorem nilLaw (v : Value) (w : World) (ps : List (ThingT × ThV)) (hr : RowTh w.heap.size w v ps) (hok : ∀ p ∈ ps, okZ (· ≤ maxLen) p.1) :
    Calls Try.prog 9 #[v] w fun e w' => e = .returned (.bool true) ∧ Below w.heap.size w w' := nil9 v w ps hr hok
end Go.Proofs.Ytocanbdpdnkapaa
