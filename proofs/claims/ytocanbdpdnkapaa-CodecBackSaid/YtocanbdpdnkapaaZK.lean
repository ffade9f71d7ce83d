/- CodecCuts. -/
import Derived.Test.YtocanbdpdnkapaaZJ
namespace Go.Proofs.Ytocanbdpdnkapaa
open Go.RowKit
set_option linter.unusedVariables false
set_option linter.unusedSimpArgs false

/-- a thing whose texts are no greater than any machine's, and whose numbers are int64s -/
structure okY (t : ThingT) : Prop where
  s : t.s.size ≤ 140737488351232
  l : ∀ s ∈ t.l, s.size ≤ 140737488351232
  c : ∀ c ∈ t.cells, c.t.size ≤ 140737488351232
  f : ∀ f ∈ t.facts, ∀ s ∈ f.dims, s.size ≤ 140737488351232
  m : ∀ s ∈ t.meas, s.size ≤ 140737488351232
  i : inT t
theorem okY.t {t : ThingT} (h : okY t) (b : Option Nat) : okT b t :=
  ⟨okS_small b (Nat.le_trans h.s (by decide)), fun s hs => okS_small b (Nat.le_trans (h.l s hs) (by decide)), fun c hc => okS_small b (Nat.le_trans (h.c c hc) (by decide)),
    fun f hf s hs => okS_small b (Nat.le_trans (h.f f hf s hs) (by decide)), fun s hs => okS_small b (Nat.le_trans (h.m s hs) (by decide)), h.i.n⟩
theorem endT_take (x : RdS) (ts : List ThingT) {k : Nat} {t : ThingT} (h : ts[k]? = some t) : endT x (ts.take (k + 1)) = (takeT (endT x (ts.take k)) t).2 := foldl_take' (fun x t => (takeT x t).2) x ts h

set_option maxRecDepth 100000 in
set_option maxHeartbeats 32000000 in
theorem cuts8 (v : Value) (a : Int) (ha : in64 a) (ps : List (ThingT × ThV)) (w : World) (hr : RowTh w.heap.size w v ps) (hok : ∀ p ∈ ps, okY p.1) :
    Calls Try.prog 8 #[v, .int .i64 a] w fun e w' => e = .returned (.bool true) ∧ Below w.heap.size w w' := by
  have HG := Lib.hid (all_good (ps.map (·.1)) (fun t ht => by obtain ⟨p, hp, rfl⟩ := List.mem_map.1 ht; exact (hok p hp).i) ⟨[], 0⟩)
  obtain ⟨⟨a1, cap, rfl, hcap, hmax, hc⟩, hel⟩ := hr
  have HC := Lib.hid hc
  have HE := Lib.hid hel
  have HO := Lib.hid hok
  clear hc hel hok
  go_enter Try.func8, Try.ntmps8
  go_wp2_with fail
  refine (awake10 w).mono ?_
  rintro e w1 ⟨rfl, hB1⟩
  have hb2 := Blk.new w1 51 #[.slice none 0 0, .int .i64 0]
  have HW2 := Lib.hid (show WrO (some w1.heap.size) (w1.alloc (Obj.cells #[.slice none 0 0, .int .i64 0] 51)) ⟨[], 0⟩ from ⟨⟨_, hb2, World.ownsRow_nil _ _ _ _⟩, Nat.zero_le _⟩)
  have HB2 := Lib.hid (Below.al hB1 (Obj.cells #[.slice none 0 0, .int .i64 0] 51))
  have hs1 : w.heap.size ≤ w1.heap.size := hB1.size
  have HSS := Lib.hid (show w1.heap.size ≤ (w1.alloc (Obj.cells #[.slice none 0 0, .int .i64 0] 51)).heap.size from (Below.al (Below.refl _ _) _).size)
  clear hb2 hB1
  go_wp2_with fail
  obtain ⟨w2, hw2⟩ : ∃ w2, w2 = w1.alloc (Obj.cells #[.slice none 0 0, .int .i64 0] 51) := ⟨_, rfl⟩
  rw [← hw2] at HW2 HB2 HSS ⊢
  clear hw2
  go_loopw [7] (fun i wr => ∃ (k : Nat) (x : WrS), k ≤ ps.length ∧ i = .int .i64 k ∧ x = ((ps.map (·.1)).take k).foldl layT ⟨[], 0⟩ ∧ WrO (some w1.heap.size) wr x ∧ Below w1.heap.size w2 wr) (fun i _ => ps.length - (intOf i).toNat)
  case atStart => exact ⟨0, ⟨[], 0⟩, by omega, rfl, rfl, HW2.out, Below.refl _ _⟩
  case round =>
    obtain ⟨k, x, hk, rfl, hx, hW, hB⟩ := hrel
    have hBw : Below w.heap.size w wr := HB2.out.trans (hB.mono hs1)
    have hsz : w1.heap.size ≤ wr.heap.size := Nat.le_trans HSS.out hB.size
    by_cases hlt : k < ps.length
    · obtain ⟨g, off, rfl, hg, hcell⟩ := HC.out (by omega)
      obtain ⟨⟨t, tv⟩, hget⟩ : ∃ p, ps[k]? = some p := ⟨_, List.getElem?_eq_getElem hlt⟩
      have hpm : (t, tv) ∈ ps := List.mem_of_getElem? hget
      have hmap : (ps.map (·.1))[k]? = some t := by rw [List.getElem?_map, hget]; rfl
      have hto := HO.out _ hpm
      obtain ⟨e0, e1, e2, e3, e4, e5, e6⟩ := seven (w := wr) (fun j hj => (Below.cell hBw (p := ⟨g, off + k * 7 + j, none⟩) (by show g < _; omega)).trans (hcell k _ hget j hj))
      have hlow : w.heap.size ≤ low (some w1.heap.size) wr := by show w.heap.size ≤ min w1.heap.size wr.heap.size; omega
      have HL := Lib.hid (lay18O (some w1.heap.size) x t tv wr hW ((HE.out _ hpm).mono hBw hlow) (hto.t _))
      unfold wptr thingC at HL
      simp only [Option.map] at HL
      have HX := Lib.hid (show layT x t = ((ps.map (·.1)).take (k + 1)).foldl layT ⟨[], 0⟩ by rw [hx]; exact (foldl_take' layT ⟨[], 0⟩ _ hmap).symm)
      have HB := Lib.hid hB
      have HSZ := Lib.hid hsz
      have hkI : decide ((k : Int) < ps.length) = true := decide_eq_true (by omega)
      clear hW hB hcell hto hpm hlow hget hBw HC hsz hx hmap
      go_wp2_with fail
      refine HL.out.mono ?_
      rintro e w3 ⟨rfl, hW3, hB3⟩
      have HB23 := Lib.hid (HB.out.trans (hB3.below.mono (show w1.heap.size ≤ low (some w1.heap.size) wr by show w1.heap.size ≤ min w1.heap.size wr.heap.size; have := HSZ.out; omega)))
      have HW3 := Lib.hid hW3
      clear hW3 hB3 HL
      go_wp2_with fail
      go_roundw
      case rel => exact ⟨k + 1, _, by omega, by go_num, HX.out, HW3.out, HB23.out⟩
      case measure => simp [intOf]; omega
    · obtain rfl : k = ps.length := by omega
      have hkI : decide ((ps.length : Int) < ps.length) = false := by simp
      have HD := Lib.hid (fun w' (h : Below wr.heap.size wr w') => done21 _ _ w' (WrO.below hW h))
      rw [List.take_of_length_le (by simp)] at hx
      have hxl := hW.2
      have HBR := Lib.hid hBw
      rw [← hx] at HG
      clear hW hB hBw hsz
      go_wp2_with fail
      refine (HD.out wr (Below.refl _ _)).mono ?_
      rintro e w3 ⟨rfl, hB3⟩
      have HB3 := Lib.hid (Below.call HBR.out hB3)
      clear hB3 HD hx
      obtain ⟨xl, xe⟩ := x
      simp only at HG hxl
      by_cases hxe : xe = 0
      · subst hxe
        rw [show doneW ⟨xl, 0⟩ = ⟨xl.toArray⟩ from if_neg (by simp)]
        have hG := HG.out rfl
        obtain ⟨-, bs, hbl, -, hcut⟩ := hG
        simp only [List.nil_append] at hbl
        subst hbl
        clear HG
        have hss : (⟨xl.toArray⟩ : ByteArray).size = xl.length := by simp [ByteArray.size]
        obtain ⟨S, hS⟩ : ∃ S : ByteArray, S = ⟨xl.toArray⟩ := ⟨_, rfl⟩
        rw [← hS] at hss ⊢
        by_cases hz : xl = []
        · have hS0 : S.toList = [] := by rw [hS, hz, ByteArray.toList_eq]
          go_wp2_with fail
          go_ret
          exact ⟨rfl, HB3.out⟩
        · have hpos : 0 < xl.length := List.length_pos_iff.2 hz
          have hS0 : S.toList.isEmpty = false := by rw [hS, ByteArray.toList_eq]; cases xl with | nil => exact absurd rfl hz | cons a l => rfl
          have hS1 : S.toList ≠ [] := by rw [hS, ByteArray.toList_eq]; exact hz
          have hd0 : decide ((S.size : Int) = 0) = false := decide_eq_false (by omega)
          have hd1 : (S.size : Int) ≠ 0 := by omega
          have HSX := Lib.hid hS
          clear hS
          unfold in64 at ha
          by_cases hneg : a < 0
          · have hn : decide (a < 0) = true := decide_eq_true hneg
            obtain ⟨K, hK⟩ : ∃ K : Nat, (K : Int) = -(a + 1) := ⟨(-(a + 1)).toNat, by omega⟩
            go_upto_region 13 with fail
            rw [← hK]
            obtain ⟨r, hr, hrl⟩ : ∃ r : Nat, (K : Int).tmod (xl.length : Int) = (r : Int) ∧ r < xl.length := ⟨K % xl.length, by rw [Int.ofNat_tmod], Nat.mod_lt _ hpos⟩
            have hr0 : (0 : Int) ≤ r := by omega
            have hr1 : (r : Int) ≤ xl.length := by omega
            have hcr := hcut r hrl
            have hR := fun w => read22 (S.extract 0 r) w (by rw [ByteArray.size_extract]; omega)
            have he : S.extract 0 r = ⟨(xl.take r).toArray⟩ := by rw [HSX.out]; apply ByteArray.ext; simp [List.extract_eq_take_drop]
            have HRD := Lib.hid (fun w => by have := hR w; rw [show (⟨S.extract 0 r, 0⟩ : RdS) = mk (xl.take r) by rw [he]; rfl] at this; exact this)
            clear hcut hK ha hR he
            go_wp2_with fail
            refine (HRD.out w3).mono ?_
            rintro e w4 ⟨rfl, hrd, hB4⟩
            have HB4 := Lib.hid (Below.call HB3.out hB4)
            have hs3 : w.heap.size ≤ w3.heap.size := HB3.out.size
            have HRD4 := Lib.hid hrd
            clear hrd hB4
            obtain ⟨b, hb⟩ : ∃ b, b = w3.heap.size := ⟨_, rfl⟩
            rw [← hb] at hs3 HRD4 ⊢
            clear hb
            go_wp2_with fail
            go_loopw [12] (fun i wr => ∃ k : Nat, k ≤ ps.length ∧ i = .int .i64 k ∧ RdO (some b) wr (endT (mk (xl.take r)) ((ps.map (·.1)).take k)) ∧ Below w.heap.size w wr) (fun i _ => ps.length - (intOf i).toNat)
            case atStart => exact ⟨0, by omega, rfl, HRD4.out, HB4.out⟩
            case round =>
              obtain ⟨k, hk, rfl, hrd, hBw⟩ := hrel
              by_cases hlt : k < ps.length
              · obtain ⟨g, off, rfl, hg, hcell⟩ := HC.out (by omega)
                obtain ⟨⟨t, tv⟩, hget⟩ : ∃ p, ps[k]? = some p := ⟨_, List.getElem?_eq_getElem hlt⟩
                have hpm : (t, tv) ∈ ps := List.mem_of_getElem? hget
                have hmap : (ps.map (·.1))[k]? = some t := by rw [List.getElem?_map, hget]; rfl
                obtain ⟨e0, e1, e2, e3, e4, e5, e6⟩ := seven (w := wr) (fun j hj => (Below.cell hBw (p := ⟨g, off + k * 7 + j, none⟩) (by show g < _; omega)).trans (hcell k _ hget j hj))
                have HL := Lib.hid (take26O (some b) _ t tv wr w.heap.size hrd ((HE.out _ hpm).mono hBw (Nat.le_refl _)))
                rw [← endT_take (mk (xl.take r)) _ hmap] at HL
                unfold wptr thingC at HL
                simp only [Option.map] at HL
                have HBW := Lib.hid hBw
                have hkI : decide ((k : Int) < ps.length) = true := decide_eq_true (by omega)
                clear hrd hBw hcell hpm hget HC hmap
                go_wp2_with fail
                refine HL.out.mono ?_
                rintro e w5 ⟨v, rfl, h1, h2, -⟩
                have HB5 := Lib.hid (Below.trans HBW.out (h2.below (L := w.heap.size) HBW.out.size (fun B e => by cases e; exact hs3)))
                have H1 := Lib.hid h1
                clear h1 h2 HL
                go_wp2_with fail
                go_roundw
                case rel => exact ⟨k + 1, by omega, by go_num, H1.out, HB5.out⟩
                case measure => simp [intOf]; omega
              · obtain rfl : k = ps.length := by omega
                have hkI : decide ((ps.length : Int) < ps.length) = false := by simp
                rw [show (ps.map (·.1)).take ps.length = ps.map (·.1) from List.take_of_length_le (by simp), hcr] at hrd
                have HD := Lib.hid (done29O (some b) _ wr hrd)
                have HF := Lib.hid (left28O (some b) _ wr hrd)
                rw [show endR dead20 = 20 from rfl] at HD
                rw [show ((dead20.s.size : Nat) : Int) = 0 from rfl] at HF
                unfold wptr at HD HF
                simp only [Option.map] at HD HF
                have HBW := Lib.hid hBw
                clear hrd hBw
                go_wp2_with fail
                refine HD.out.mono ?_
                rintro e w' ⟨rfl, rfl⟩
                go_wp2_with fail
                refine HF.out.mono ?_
                rintro e w' ⟨rfl, rfl⟩
                go_wp2_with fail
                go_ret
                exact ⟨rfl, HBW.out⟩
          · have hn : decide (a < 0) = false := decide_eq_false hneg
            obtain ⟨K, hK⟩ : ∃ K : Nat, (K : Int) = a := ⟨a.toNat, by omega⟩
            go_upto_region 13 with fail
            rw [← hK]
            obtain ⟨r, hr, hrl⟩ : ∃ r : Nat, (K : Int).tmod (xl.length : Int) = (r : Int) ∧ r < xl.length := ⟨K % xl.length, by rw [Int.ofNat_tmod], Nat.mod_lt _ hpos⟩
            have hr0 : (0 : Int) ≤ r := by omega
            have hr1 : (r : Int) ≤ xl.length := by omega
            have hcr := hcut r hrl
            have hR := fun w => read22 (S.extract 0 r) w (by rw [ByteArray.size_extract]; omega)
            have he : S.extract 0 r = ⟨(xl.take r).toArray⟩ := by rw [HSX.out]; apply ByteArray.ext; simp [List.extract_eq_take_drop]
            have HRD := Lib.hid (fun w => by have := hR w; rw [show (⟨S.extract 0 r, 0⟩ : RdS) = mk (xl.take r) by rw [he]; rfl] at this; exact this)
            clear hcut hK ha hR he
            go_wp2_with fail
            refine (HRD.out w3).mono ?_
            rintro e w4 ⟨rfl, hrd, hB4⟩
            have HB4 := Lib.hid (Below.call HB3.out hB4)
            have hs3 : w.heap.size ≤ w3.heap.size := HB3.out.size
            have HRD4 := Lib.hid hrd
            clear hrd hB4
            obtain ⟨b, hb⟩ : ∃ b, b = w3.heap.size := ⟨_, rfl⟩
            rw [← hb] at hs3 HRD4 ⊢
            clear hb
            go_wp2_with fail
            go_loopw [12] (fun i wr => ∃ k : Nat, k ≤ ps.length ∧ i = .int .i64 k ∧ RdO (some b) wr (endT (mk (xl.take r)) ((ps.map (·.1)).take k)) ∧ Below w.heap.size w wr) (fun i _ => ps.length - (intOf i).toNat)
            case atStart => exact ⟨0, by omega, rfl, HRD4.out, HB4.out⟩
            case round =>
              obtain ⟨k, hk, rfl, hrd, hBw⟩ := hrel
              by_cases hlt : k < ps.length
              · obtain ⟨g, off, rfl, hg, hcell⟩ := HC.out (by omega)
                obtain ⟨⟨t, tv⟩, hget⟩ : ∃ p, ps[k]? = some p := ⟨_, List.getElem?_eq_getElem hlt⟩
                have hpm : (t, tv) ∈ ps := List.mem_of_getElem? hget
                have hmap : (ps.map (·.1))[k]? = some t := by rw [List.getElem?_map, hget]; rfl
                obtain ⟨e0, e1, e2, e3, e4, e5, e6⟩ := seven (w := wr) (fun j hj => (Below.cell hBw (p := ⟨g, off + k * 7 + j, none⟩) (by show g < _; omega)).trans (hcell k _ hget j hj))
                have HL := Lib.hid (take26O (some b) _ t tv wr w.heap.size hrd ((HE.out _ hpm).mono hBw (Nat.le_refl _)))
                rw [← endT_take (mk (xl.take r)) _ hmap] at HL
                unfold wptr thingC at HL
                simp only [Option.map] at HL
                have HBW := Lib.hid hBw
                have hkI : decide ((k : Int) < ps.length) = true := decide_eq_true (by omega)
                clear hrd hBw hcell hpm hget HC hmap
                go_wp2_with fail
                refine HL.out.mono ?_
                rintro e w5 ⟨v, rfl, h1, h2, -⟩
                have HB5 := Lib.hid (Below.trans HBW.out (h2.below (L := w.heap.size) HBW.out.size (fun B e => by cases e; exact hs3)))
                have H1 := Lib.hid h1
                clear h1 h2 HL
                go_wp2_with fail
                go_roundw
                case rel => exact ⟨k + 1, by omega, by go_num, H1.out, HB5.out⟩
                case measure => simp [intOf]; omega
              · obtain rfl : k = ps.length := by omega
                have hkI : decide ((ps.length : Int) < ps.length) = false := by simp
                rw [show (ps.map (·.1)).take ps.length = ps.map (·.1) from List.take_of_length_le (by simp), hcr] at hrd
                have HD := Lib.hid (done29O (some b) _ wr hrd)
                have HF := Lib.hid (left28O (some b) _ wr hrd)
                rw [show endR dead20 = 20 from rfl] at HD
                rw [show ((dead20.s.size : Nat) : Int) = 0 from rfl] at HF
                unfold wptr at HD HF
                simp only [Option.map] at HD HF
                have HBW := Lib.hid hBw
                clear hrd hBw
                go_wp2_with fail
                refine HD.out.mono ?_
                rintro e w' ⟨rfl, rfl⟩
                go_wp2_with fail
                refine HF.out.mono ?_
                rintro e w' ⟨rfl, rfl⟩
                go_wp2_with fail
                go_ret
                exact ⟨rfl, HBW.out⟩
      · have hne : (xe != 0) = true := by simpa using hxe
        go_wp2_with fail
        go_ret
        exact ⟨rfl, HB3.out⟩
end Go.Proofs.Ytocanbdpdnkapaa

