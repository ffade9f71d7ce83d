/- DictStretches: the walk. -/
import Derived.Test.YtiihnepfcgmghaaP
import Derived.Test.YtiihnepfcgmghaaBase15
namespace Go.Proofs.Ytiihnepfcgmghaa
open Go.RowKit Go.Maps
set_option linter.unusedVariables false
set_option linter.unusedSimpArgs false
theorem gtS (a b : ByteArray) : (!Op.bytesLess a.toList b.toList && !a.toList == b.toList) = ltS b a := by
  show (!ltS a b && !a.toList == b.toList) = ltS b a
  cases h : ltS b a
  · cases h2 : ltS a b
    · have := ltS_tri h2 h
      subst this
      simp
    · rfl
  · rw [ltS_asymm h]
    have : (a.toList == b.toList) = false := by
      rw [beq_eq_false_iff_ne]
      intro e
      unfold ltS at h
      rw [e] at h
      have h3 := ltS_irrefl b
      unfold ltS at h3
      rw [h3] at h; cases h
    rw [this]; rfl
def f3 : ByteArray := ⟨#[255, 255, 255]⟩
set_option maxRecDepth 100000 in
set_option maxHeartbeats 16000000 in
theorem stretches4 (v : Value) (T : List ByteArray) (a b c : ByteArray) (hT : ∀ s ∈ T, s.size ≤ maxLen) (w : World) (hr : RowS w.heap.size w v T) (hlen : T.length * 16 ≤ 140737488351232) :
    Calls Try.prog 4 #[v, .agg #[.string a, .string b, .string c]] w fun e w' => e = .returned (.bool true) ∧ Below w.heap.size w w' := by
  obtain ⟨i0, hi0, hz0, hz1, hz2⟩ := info_parts info3
  obtain ⟨ta, tc, rfl, hcap, hmax, hcT⟩ := hr.open
  have HT := Lib.hid hcT
  have HS := Lib.hid hT
  have hB0 := Below.al (Below.refl w.heap.size w) (Obj.cells #[.string a, .string b, .string c] 35)
  have hb0 := Blk.new w 35 #[.string a, .string b, .string c]
  have HB0 := Lib.hid (And.intro hB0 hb0)
  have HAW := Lib.hid (awake8 (w.alloc (Obj.cells #[.string a, .string b, .string c] 35)))
  clear hcT hB0 hb0 hr hT
  go_enter Try.func4, Try.ntmps4
  go_wp2_with fail
  generalize w.alloc (Obj.cells #[.string a, .string b, .string c] 35) = w1 at *
  refine HAW.out.mono ?_
  rintro e w2 ⟨rfl, hB2⟩
  have HB2 := Lib.hid (And.intro (Below.call HB0.out.1 hB2) (HB0.out.2.below hB2 HB0.out.2.lt))
  have HN := Lib.hid (new9p w2)
  unfold ptrV at HN
  clear hB2 HAW HB0
  go_wp2_with fail
  refine HN.out.mono ?_
  rintro e w3 ⟨rfl, hS⟩
  have HD := Lib.hid hS
  clear hS HN
  go_wp2_with fail
  go_loopw [7] (fun s wr => ∃ (i : Nat) (F : Nat → Prop) (l : List ByteArray), i ≤ T.length ∧ i ≤ 200 ∧ s = .int .i64 i ∧ DF w2 F w2.heap.size wr l ∧ l.Nodup ∧ l.length ≤ i) (fun s _ => T.length - (intOf s).toNat)
  case atStart => exact ⟨0, _, [], by omega, by omega, rfl, HD.out, List.nodup_nil, by simp⟩
  case round =>
    obtain ⟨i, F, l, hi, hi2, rfl, hS, hn, hl⟩ := hrel
    by_cases hlt : i < T.length ∧ i < 200
    · obtain ⟨hlt1, hlt2⟩ := hlt
      have hd1 : decide ((i : Int) < T.length) = true := decide_eq_true (by omega)
      have hd2 : decide ((i : Int) < 200) = true := decide_eq_true (by omega)
      obtain ⟨bt, off, rfl, hbt, hct⟩ := HT.out (by omega)
      have hw : w.heap.size ≤ w2.heap.size := HB2.out.1.size
      have g1 := ((hS.below.cell (p := ⟨bt, off + i, none⟩) (by show bt < _; omega)).trans (HB2.out.1.cell (p := ⟨bt, off + i, none⟩) hbt)).trans (hct i hlt1)
      have HP := Lib.hid (hS.put (T.getD i ByteArray.empty) (HS.out _ (getD_mem hlt1)) (by omega))
      generalize T.getD i ByteArray.empty = tx at *
      unfold ptrV at HP
      have HL := Lib.hid (And.intro hn hl)
      clear hct HT HS hS hn hl
      go_wp2_with fail
      refine HP.out.mono ?_
      rintro e w4 ⟨k, rfl, -, -, h4⟩
      have HI := Lib.hid h4
      clear h4 HP
      go_wp2_with fail
      go_roundw
      case rel => exact ⟨i + 1, _, _, by omega, by omega, by go_num, HI.out, putT_nodup HL.out.1, by have := putT_len l tx; have := HL.out.2; omega⟩
      case measure => simp [intOf]; omega
    · have lt0 := HB2.out.2.lt
      have g0 : wr.cell? ⟨w.heap.size, 0, none⟩ = some (.string a) := (hS.below.cell (p := ⟨w.heap.size, 0, none⟩) lt0).trans (Blk.cell HB2.out.2 0)
      have g1 : wr.cell? ⟨w.heap.size, 1, none⟩ = some (.string b) := (hS.below.cell (p := ⟨w.heap.size, 1, none⟩) lt0).trans (Blk.cell HB2.out.2 1)
      have g2 : wr.cell? ⟨w.heap.size, 2, none⟩ = some (.string c) := (hS.below.cell (p := ⟨w.heap.size, 2, none⟩) lt0).trans (Blk.cell HB2.out.2 2)
      have HI := Lib.hid (And.intro hS (And.intro hn (And.intro hl hi2)))
      have hor : (decide ((i : Int) < T.length) = false ∧ T.length ≤ i) ∨ (decide ((i : Int) < T.length) = true ∧ i < T.length ∧ decide ((i : Int) < 200) = false ∧ 200 ≤ i) := by
        by_cases h : i < T.length
        · exact .inr ⟨decide_eq_true (by omega), h, decide_eq_false (by omega), by omega⟩
        · exact .inl ⟨decide_eq_false (by omega), by omega⟩
      clear hS hn hl hi hi2 hlt HT HS hcap hmax hlen lt0 HD
      cases hk1 : ltS b a
      · have hg1 := (gtS a b).trans hk1
        cases hk2 : ltS c b
        · have hg2 := (gtS b c).trans hk2
          have HK := Lib.hid (And.intro hk1 hk2)
          have HX := Lib.hid (HI.out.1.between a b)
          unfold ptrV at HX
          clear hk1 hk2
          rcases hor with ⟨hd1, hd3⟩ | ⟨hd1, hd3, hd2, hd4⟩ <;> (
            go_wp2_with fail
            refine HX.out.mono ?_
            rintro e w4 ⟨v1, s, k4, rfl, hs, ht, hk4, h4, ho⟩
            have hr1 := RowO.new HI.out.1 hk4 ho
            have HS := Lib.hid hs
            have HBL := Lib.hid (fun x y => (show (betw l s x y).length ≤ 200 by have h1 := betw_len l s x y; have h2 := hs.len; have h3 := HI.out.2.2; omega))
            have H4 := Lib.hid (And.intro h4 hr1)
            obtain ⟨va1, vc1, rfl⟩ := owns_form ho
            clear hs ht h4 ho hr1 HX
            go_upto_region 16 with (at_builtin; refine wpList_append_row rfl _ _ 31 rfl w2.heap.size 3 i0 _ 1 8 Try.underlying31 hi0 hz0 hz1 hz2 rfl (by decide) (.slice none 0 0) 0 [] rfl (World.ownsRow_nil _ _ _ _) w4.heap.size (.slice va1 (betw l s a b).length vc1) (betw l s a b).length (natV (betw l s a b)) rfl (Row.of_owns H4.out.2.owns) (natV_one _) (by have := HBL.out a b; unfold maxLen; omega) (by have := HBL.out a b; omega) H4.out.1.below.size ?_; intro v' w5 hown hgrow hat; rw [Nat.zero_add, List.nil_append] at hown; obtain ⟨v5a, v5c, hv5⟩ := owns_form hown; subst hv5)
            obtain ⟨h5, hr5⟩ := RowO.first H4.out.1 hown hgrow hat
            have H5 := Lib.hid (And.intro h5 hr5)
            have HX := Lib.hid (h5.between b c)
            unfold ptrV at HX
            clear hown hgrow hat h5 hr5 hk4
            go_wp2_with fail
            refine HX.out.mono ?_
            rintro e w6 ⟨v2, s', k6, rfl, hs, ht, hk6, h6, ho⟩
            have es := sort_one HI.out.2.1 HS.out hs
            subst es
            have H6 := Lib.hid (And.intro h6 (And.intro (H5.out.2.call (k := k6) ht) (RowO.new H5.out.1 hk6 ho)))
            obtain ⟨va2, vc2, rfl⟩ := owns_form ho
            clear hs ht h6 ho hk6 HX
            go_upto_region 17 with (at_builtin; refine wpList_append_row rfl _ _ 31 rfl w2.heap.size 3 i0 _ 1 8 Try.underlying31 hi0 hz0 hz1 hz2 rfl (by decide) (.slice v5a (betw l s a b).length v5c) (betw l s a b).length (natV (betw l s a b)) rfl H6.out.2.1.owns w6.heap.size (.slice va2 (betw l s b c).length vc2) (betw l s b c).length (natV (betw l s b c)) rfl (Row.of_owns H6.out.2.2.owns) (natV_one _) (by have := HBL.out a b; have := HBL.out b c; unfold maxLen; omega) (by have := HBL.out a b; have := HBL.out b c; omega) H6.out.1.below.size ?_; intro v' w7 hown hgrow hat; obtain ⟨v7a, v7c, hv7⟩ := owns_form hown; subst hv7)
            obtain ⟨h7, hr7⟩ := RowO.more H6.out.1 H6.out.2.1 hown hgrow hat
            rw [betw_app HK.out.1 HK.out.2] at hr7
            have H7 := Lib.hid (And.intro h7 hr7)
            have HX := Lib.hid (h7.between a c)
            unfold ptrV at HX
            clear hown hgrow hat h7 hr7
            go_wp2_with fail
            refine HX.out.mono ?_
            rintro e w8 ⟨v3, s', k8, rfl, hs, ht, hk8, h8, ho⟩
            have es := sort_one HI.out.2.1 HS.out hs
            subst es
            have H8 := Lib.hid (And.intro h8 (And.intro (H7.out.2.call (k := k8) ht) (RowO.new H7.out.1 hk8 ho)))
            obtain ⟨va3, vc3, rfl⟩ := owns_form ho
            have HX := Lib.hid (same14 _ _ _ _ _ w8 H8.out.2.1.row H8.out.2.2.row)
            clear hs ht h8 ho hk8
            go_wp2_with fail
            refine HX.out.mono ?_
            rintro e w9 ⟨rfl, hB9⟩
            have H9 := Lib.hid (H8.out.1.step hB9)
            have HX := Lib.hid (H9.out.between ⟨#[]⟩ ⟨#[255, 255, 255]⟩)
            unfold ptrV at HX
            clear hB9
            go_wp2_with fail
            refine HX.out.mono ?_
            rintro e wa ⟨v4, s', ka, rfl, hs, ht, hka, ha, ho⟩
            have es := sort_one HI.out.2.1 HS.out hs
            subst es
            have HA := Lib.hid (And.intro ha (RowO.new H9.out hka ho))
            obtain ⟨va4, vc4, rfl⟩ := owns_form ho
            have HX := Lib.hid ha.sorted
            unfold ptrV at HX
            clear hs ht ha ho hka
            go_wp2_with fail
            refine HX.out.mono ?_
            rintro e wb ⟨v5, s', kb, rfl, hs, ht, hkb, hb, ho⟩
            have es := sort_one HI.out.2.1 HS.out hs
            subst es
            rw [← hs.len] at ho
            have HBB := Lib.hid (And.intro hb (And.intro (HA.out.2.call (k := kb) ht) (RowO.new HA.out.1 hkb ho)))
            obtain ⟨va5, vc5, rfl⟩ := owns_form ho
            have HX := Lib.hid (hb.between ⟨#[]⟩ ⟨#[255, 255, 255]⟩)
            unfold ptrV at HX
            clear hs ht hb ho hkb
            go_wp2_with fail
            refine HX.out.mono ?_
            rintro e wc ⟨v6, s', kc, rfl, hs, ht, hkc, hc, ho⟩
            have es := sort_one HI.out.2.1 HS.out hs
            subst es
            have HC := Lib.hid (And.intro hc (And.intro (HBB.out.2.1.call (k := kc) ht) (HBB.out.2.2.call (k := kc) ht)))
            obtain ⟨va6, vc6, rfl⟩ := owns_form ho
            obtain ⟨-, xa, xc, hv, hcap, -, -⟩ := Row.of_owns HC.out.2.2.owns
            injection hv with hv1 hv2 hv3
            have hle : (betw l s ⟨#[]⟩ ⟨#[255, 255, 255]⟩).length ≤ s.length := betw_len _ _ _ _
            have hcm : (betw l s ⟨#[]⟩ ⟨#[255, 255, 255]⟩).length ≤ vc5 := by omega
            have HX := Lib.hid (same14 _ _ _ _ _ wc HC.out.2.1.row (by
              have h := rowI_nat (s := s.take (betw l s ⟨#[]⟩ ⟨#[255, 255, 255]⟩).length) (by have h := Row.take (Row.of_owns HC.out.2.2.owns) hle; rw [Nat.mul_one] at h; rw [show natV (s.take (betw l s ⟨#[]⟩ ⟨#[255, 255, 255]⟩).length) = (natV s).take (betw l s ⟨#[]⟩ ⟨#[255, 255, 255]⟩).length by unfold natV; rw [List.map_take]]; exact h) (by rw [List.length_take]; omega)
              rw [betw_empty_len] at h
              exact h))
            clear hs ht hc ho hkc xa xc hv1 hv2 hv3 hcap
            go_wp2_with fail
            refine HX.out.mono ?_
            rintro e wd ⟨rfl, hBd⟩
            have HE := Lib.hid (Below.call (Below.call HB2.out.1 HC.out.1.below) hBd)
            clear hBd
            go_wp2_with fail
            go_ret
            exact ⟨rfl, HE.out⟩)
        · have hg2 := (gtS b c).trans hk2
          clear hk1 hk2
          rcases hor with ⟨hd1, hd3⟩ | ⟨hd1, hd3, hd2, hd4⟩ <;> (
            go_wp2_with fail
            go_ret
            exact ⟨rfl, Below.call HB2.out.1 HI.out.1.below⟩)
      · have hg1 := (gtS a b).trans hk1
        clear hk1
        rcases hor with ⟨hd1, hd3⟩ | ⟨hd1, hd3, hd2, hd4⟩ <;> (
          go_wp2_with fail
          go_ret
          exact ⟨rfl, Below.call HB2.out.1 HI.out.1.below⟩)
end Go.Proofs.Ytiihnepfcgmghaa
