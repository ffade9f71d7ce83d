/- FactsCounts: the walk. -/
import Derived.Test.YtdpgpcffhhdpiaaZD
namespace Go.Proofs.Ytdpgpcffhhdpiaa
open Go.RowKit Go.Maps
set_option linter.unusedVariables false
set_option linter.unusedSimpArgs false

set_option maxRecDepth 100000 in
set_option maxHeartbeats 64000000 in
theorem counts7 (v0 : Value) (bs : List (List FactT)) (w : World) (hbs : RowBs w v0 bs) (hsh : ∀ b ∈ bs, ∀ f ∈ b, shortF f) :
    Calls Try.prog 7 #[v0] w fun e w' => e = .returned (.bool true) ∧ Below w.heap.size w w' := by
  obtain ⟨i2, hi2, hx0, hx1, hx2⟩ := info_parts info9e
  have HAW := Lib.hid (awake8 w)
  obtain ⟨a0, cap0, rfl, hcap1, hcap2, hop⟩ := hbs.open
  have HOP := Lib.hid hop
  have HSH := Lib.hid hsh
  clear hbs hsh hop
  go_enter Try.func7, Try.ntmps7
  go_wp2_with fail
  refine HAW.out.mono ?_
  rintro e w1 ⟨rfl, hB1⟩
  have HB1 := Lib.hid hB1
  have HN := Lib.hid (newF 2 1 (by omega) (by omega) w1)
  unfold intV ptrV at HN
  clear hB1
  go_wp2_with fail
  refine HN.out.mono ?_
  rintro e w2 ⟨rfl, hS⟩
  have HS := Lib.hid hS
  clear hS HN
  go_wp2_with fail
  go_loopw [6] (fun s wr => ∃ (i : Nat) (F : Nat → Prop), i ≤ bs.length ∧ i ≤ 8 ∧ s = .int .i64 i ∧ StoF F w1 w1.heap.size wr 2 1 (sbs bs i)) (fun s _ => bs.length - (intOf s).toNat)
  case atStart => exact ⟨0, _, by omega, by omega, rfl, HS.out⟩
  case round =>
    obtain ⟨i, F, hi, hi8, rfl, hS⟩ := hrel
    by_cases hlt : i < bs.length ∧ i < 8
    · obtain ⟨hlt, hlt8⟩ := hlt
      obtain ⟨b, hb⟩ : ∃ b, bs[i]? = some b := ⟨_, List.getElem?_eq_getElem (by omega)⟩
      obtain ⟨g, off, x, rfl, hg, hcell, hF⟩ := HOP.out i b hb
      have hBw : Below w.heap.size w wr := Below.call HB1.out hS.below
      have hc := (hBw.cell (p := ⟨g, off + i, none⟩) hg).trans hcell
      have hrk : RowK F wr x b := (RowF.mono hF hBw (Nat.le_refl _)).rowK hBw.size (fun k hk => Nat.le_trans HB1.out.size (hS.sub k hk).1)
      have HSO := Lib.hid (sound11 F x b wr hrk (HSH.out b (List.mem_of_getElem? hb)))
      have HT := Lib.hid (And.intro hb hS)
      have hnI : decide ((i : Int) < (bs.length : Int)) = true := decide_eq_true (by omega)
      clear hb hS hF hrk hcell hBw
      go_wp2_with fail
      refine HSO.out.mono ?_
      rintro e w4 ⟨sv, sn, sc, rfl, hB4, hr4⟩
      have HAP := Lib.hid (appendF (HT.out.2.step hB4) (.slice sv sn sc) (soundL b) (hr4.mono (fun k hk => ⟨hk, (HT.out.2.sub k hk).2⟩)) short_sound (by have := flat_sbs_le bs i; rw [sbs_len (by omega)]; omega) (ck_sound (by omega) b))
      rw [sbs_len (by omega)] at HAP
      unfold intV ptrV at HAP
      clear hB4 hr4 HSO
      go_wp2_with fail
      refine HAP.out.mono ?_
      rintro e w5 ⟨rfl, hT5, hS5⟩
      rw [← sbs_succ HT.out.1] at hS5
      have HT5 := Lib.hid hS5
      clear hT5 hS5 HAP
      go_wp2_with fail
      go_roundw
      case rel => exact ⟨i + 1, _, by omega, by omega, by go_num, HT5.out⟩
      case measure => simp [intOf]; omega
    · have hex : (i < bs.length ∧ 8 ≤ i) ∨ bs.length ≤ i := by omega
      have HLB := Lib.hid (show i ≤ bs.length by omega)
      have HS8 := Lib.hid hS
      clear hS hi hlt
      rcases hex with ⟨hnI, h8⟩ | hnI
      · have hS := HS8.out
        go_upto_region 9 with fail
        clear hnI h8 HS8
        obtain ⟨n, hn⟩ : ∃ n, n = i := ⟨_, rfl⟩
        subst hn
        have HSQ0 := Lib.hid (seqS hS.sto)
        rw [show (sbs bs n).length = n from by have := HLB.out; exact sbs_len (by omega)] at HSQ0
        have HST := Lib.hid hS.sto
        unfold intV ptrV at HSQ0
        have hw19 : w1.heap.size ≤ wr.heap.size := hS.below.size
        clear hS
        go_wp2_with fail
        refine HSQ0.out.mono ?_
        rintro e w4 ⟨rfl, rfl⟩
        have hcz := cut_zero (bs := sbs bs n) (b := n) (by have := HLB.out; rw [sbs_len (by omega)]; omega)
        rw [List.take_of_length_le (by have := HLB.out; rw [sbs_len (by omega)]; omega)] at hcz
        have HSC := Lib.hid (scanS HST.out 0 (n : Int) (by unfold allInt; omega) (by unfold allInt; omega))
        rw [hcz] at HSC
        unfold ptrV at HSC
        have hfl := flat_sbs_le bs n
        have HRT := Lib.hid (fun (f : FactT) (hf : f ∈ flat (sbs bs n)) => And.intro (sbs_right hf) (fun d => sbs_short hf d))
        have HVL := Lib.hid (fun (wx : World) (hx : Below wr.heap.size wr wx) (dd : Nat) (hd : dd < 2) => show Calls Try.prog 18 #[.pointer (some ⟨w1.heap.size, 0, none⟩), .int .i64 dd] wx fun e w' => e = .returned (.int .i64 ((valsI (flat (sbs bs n)) dd).length : Nat)) ∧ Below wx.heap.size wx w' from by
          have := valuesS (HST.out.step hx) (dd : Int) (by unfold allInt; omega)
          rw [if_pos (by omega), Int.toNat_natCast] at this
          exact this)
        have HMT0 := Lib.hid (fun (wx : World) (hx : Below wr.heap.size wr wx) (dd : Nat) (hd : dd < 2) (t : ByteArray) (ht : t.size ≤ 64) => show Calls Try.prog 19 #[.pointer (some ⟨w1.heap.size, 0, none⟩), .int .i64 dd, .string t, .int .i64 n] wx fun e w' => e = .returned (.int .i64 (cntF dd t (flat (sbs bs n)) : Nat)) ∧ Below wx.heap.size wx w' from by
          have := matchS (HST.out.step hx) (dd : Int) (by unfold allInt; omega) t (by unfold maxLen; omega) (n : Int) (by unfold allInt; omega)
          rw [if_pos (by omega), Int.toNat_natCast, hcz] at this
          exact this)
        have HSQA := Lib.hid (fun (wx : World) (hx : Below wr.heap.size wr wx) => show Calls Try.prog 21 #[.pointer (some ⟨w1.heap.size, 0, none⟩)] wx fun e w' => e = .returned (.int .i64 (n : Nat)) ∧ wx = w' from by
          have := seqS (HST.out.step hx)
          rw [show (sbs bs n).length = n from by have := HLB.out; exact sbs_len (by omega)] at this
          exact this)
        have HLNA := Lib.hid (fun (wx : World) (hx : Below wr.heap.size wr wx) => show Calls Try.prog 16 #[.pointer (some ⟨w1.heap.size, 0, none⟩)] wx fun e w' => e = .returned (.int .i64 ((flat (sbs bs n)).length : Nat)) ∧ ∃ n, w' = wx.drewN n from lenS (HST.out.step hx))
        clear hcz HSQ0
        generalize flat (sbs bs n) = all at *
        go_wp2_with fail
        refine HSC.out.mono ?_
        rintro e w5 ⟨v, rfl, hB5, hF5⟩
        obtain ⟨aa, ac, rfl⟩ := hF5.rowF.form
        have HF := Lib.hid hF5
        have HB5 := Lib.hid hB5
        obtain ⟨w4, hw4⟩ : ∃ w4, w4 = wr := ⟨_, rfl⟩
        subst hw4
        have hL512 : all.length ≤ 512 := by omega
        clear hF5 hB5 HSC
        go_wp2_with fail
        go_loopw [8] (fun s wr => ∃ dd : Nat, dd ≤ 2 ∧ s = .int .i64 dd ∧ Below w5.heap.size w5 wr) (fun s _ => 2 - (intOf s).toNat)
        case atStart => exact ⟨0, by omega, rfl, Below.refl _ _⟩
        case round =>
          obtain ⟨dd, hdd, rfl, hB⟩ := hrel
          by_cases hd2 : dd < 2
          · have HB6 := Lib.hid hB
            have hddI : decide ((dd : Int) < 2) = true := decide_eq_true (by omega)
            have hBs := hB.size
            clear hB
            go_wp2_with fail
            go_loopw [9, 10, 11] (fun v su s wr => ∃ k : Nat, k ≤ all.length ∧ s = .int .i64 k ∧ su = .int .i64 ((sumC dd (valsI (all.take k) dd) all : Nat) : Int) ∧ wr.ownsRow w5.heap.size 9 1 v (valsI (all.take k) dd).length ((valsI (all.take k) dd).map .string) ∧ Below w5.heap.size w5 wr) (fun _ _ s _ => all.length - (intOf s).toNat)
            case atStart => exact ⟨0, by omega, rfl, by rw [List.take_zero]; rfl, by rw [List.take_zero]; exact World.ownsRow_nil _ _ _ _, HB6.out⟩
            case round =>
              obtain ⟨k, hk, rfl, rfl, hown, hB⟩ := hrel
              have hvn := valsI_nodup (all.take k) dd
              have hsu := sumC_le hvn dd all
              have hvl := vals_le (all.take k) dd
              rw [List.length_take] at hvl
              by_cases hlt : k < all.length
              · obtain ⟨f, hf⟩ : ∃ f, all[k]? = some f := ⟨_, List.getElem?_eq_getElem hlt⟩
                obtain ⟨b, off, c, hv, hb, ad, cd, am, cm, k0, k1, -, -, -, -, hD, hM⟩ := open_fact HF.out.rowF hf
                injection hv with e1 e2 e3
                subst e1 e3
                have hfm := List.mem_of_getElem? hf
                have hd2' := (HRT.out f hfm).1
                have htl := (HRT.out f hfm).2 dd
                obtain ⟨bd, od, rfl, hbd, hcd⟩ := hD (by omega)
                have x0 := hcd dd (by omega)
                rw [hd2'] at k0
                have hvs := vals_step (d := dd) hf
                unfold textOf at htl hvs
                obtain ⟨t, ht⟩ : ∃ t, t = f.dims.getD dd ByteArray.empty := ⟨_, rfl⟩
                rw [← ht] at x0 htl hvs
                have HCW := Lib.hid (show ∀ w', Below w5.heap.size w5 w' → w'.cell? ⟨b, off + k * 2, none⟩ = some (.slice (some ⟨bd, od, none⟩) 2 cd) ∧ w'.cell? ⟨bd, od + dd, none⟩ = some (.string t) from fun w' hb' =>
                  ⟨(hb'.cell (p := ⟨b, _, none⟩) hb).trans k0, (hb'.cell (p := ⟨bd, _, none⟩) hbd).trans x0⟩)
                have HVS := Lib.hid hvs
                have hki : decide ((k : Int) < (all.length : Int)) = true := decide_eq_true (by omega)
                generalize valsI (all.take k) dd = V at *
                obtain ⟨va, vc, hvv⟩ := owns_form hown
                subst hvv
                have HOW := Lib.hid (And.intro hown hB)
                have HSUM := Lib.hid (show ∃ SU, sumC dd V all = SU from ⟨_, rfl⟩)
                obtain ⟨SU, hSU⟩ := HSUM.out
                rw [hSU] at hsu ⊢
                have HSU := Lib.hid hSU
                have hrw := Row.of_owns hown
                obtain ⟨-, va', vc', hvv, -, -, hvc⟩ := hrw
                injection hvv with e1 e2 e3
                subst e1 e3
                have HVC := Lib.hid hvc
                obtain ⟨w7, hw7⟩ : ∃ w7, w7 = wr := ⟨_, rfl⟩
                subst hw7
                clear hvs ht hf hfm hd2' hD hM hcd x0 k0 k1 e2 hb hbd hown hB hvn HSUM hSU hvc
                go_wp2_with fail
                go_loopw [12, 13] (fun th s wr => ∃ j n2 : Nat, j ≤ V.length ∧ s = .int .i64 j ∧ th = .bool (hasT (V.take j) t) ∧ wr = w7.drewN n2) (fun _ s _ => V.length - (intOf s).toNat)
                case atStart => exact ⟨0, 0, by omega, rfl, rfl, rfl⟩
                case round =>
                  obtain ⟨j, n2, hj, rfl, rfl, rfl⟩ := hrel
                  by_cases hjl : j < V.length
                  · obtain ⟨vb, vo, rfl, -, hvcj⟩ := HVC.out (by omega)
                    have y0 := hvcj j (by omega)
                    rw [List.getD_eq_getElem?_getD, List.getElem?_map, List.getElem?_eq_getElem hjl] at y0
                    have HTH := Lib.hid (take_has hjl t)
                    rw [List.getD_eq_getElem?_getD, List.getElem?_eq_getElem hjl] at HTH
                    simp only [Option.map_some, Option.getD_some] at y0 HTH
                    have c0 := (HCW.out w7 HOW.out.2).1
                    have c1 := (HCW.out w7 HOW.out.2).2
                    generalize V[j] = x at y0 HTH
                    obtain ⟨th, hth⟩ : ∃ th, hasT (V.take j) t = th := ⟨_, rfl⟩
                    rw [hth] at HTH ⊢
                    clear hvcj hth
                    cases th
                    · by_cases hx : x = t
                      · subst hx
                        go_upto_region 22 with fail
                        go_quiet (fail)
                        go_wp2_with fail
                        go_roundw
                        case rel => exact ⟨j + 1, _, by omega, by go_num, by rw [HTH.out]; simp, by first | rfl | exact World.drewN_drewN _ _ _⟩
                        case measure => simp [intOf]; omega
                      · have hne0 : ¬ x.toList = t.toList := fun h => hx (ByteArray.ext (Array.toList_inj.1 (by rw [← ByteArray.toList_eq, ← ByteArray.toList_eq]; exact h)))
                        have hne : (x.toList == t.toList) = false := by simpa using hne0
                        clear hne0
                        have HNE := Lib.hid hx
                        clear hx
                        go_upto_region 22 with fail
                        go_quiet (fail)
                        go_wp2_with fail
                        go_roundw
                        case rel => exact ⟨j + 1, _, by omega, by go_num, by rw [HTH.out]; simp [HNE.out], by first | rfl | exact World.drewN_drewN _ _ _⟩
                        case measure => simp [intOf]; omega
                    · go_upto_region 22 with fail
                      go_quiet (fail)
                      go_wp2_with fail
                      go_roundw
                      case rel => exact ⟨j + 1, _, by omega, by go_num, by rw [HTH.out]; rfl, by first | rfl | exact World.drewN_drewN _ _ _⟩
                      case measure => simp [intOf]; omega
                  · obtain rfl : j = V.length := by omega
                    rw [List.take_length]
                    obtain ⟨w8, hw8⟩ : ∃ w8, w8 = w7.drewN n2 := ⟨_, rfl⟩
                    have HOW8 := Lib.hid (show w8.ownsRow w5.heap.size 9 1 (.slice va V.length vc) V.length (V.map .string) ∧ Below w5.heap.size w5 w8 from by rw [hw8]; exact ⟨owns_b1 HOW.out.1 (Below.drewN (Below.refl _ _) n2), Below.drewN HOW.out.2 n2⟩)
                    rw [← hw8]
                    clear hw8
                    by_cases hin : t ∈ V
                    · have hht : hasT V t = true := hasT_iff.2 hin
                      have HPT := Lib.hid (show putL V t = V from putL_in hin)
                      clear hin
                      rw [hht]
                      clear hht
                      go_wp2_with fail
                      go_roundw
                      case rel => exact ⟨k + 1, by omega, by go_num, by rw [HVS.out, HPT.out, HSU.out], by rw [HVS.out, HPT.out]; exact HOW8.out.1, HOW8.out.2⟩
                      case measure => simp [intOf]; omega
                    · have hht : hasT V t = false := by
                        cases h : hasT V t
                        · rfl
                        · exact absurd (hasT_iff.1 h) hin
                      have HPT := Lib.hid (show putL V t = V ++ [t] from putL_new hin)
                      clear hin
                      rw [hht]
                      clear hht
                      have c0 := (HCW.out w8 HOW8.out.2).1
                      have c1 := (HCW.out w8 HOW8.out.2).2
                      have hs8 := HOW8.out.2.size
                      go_upto_region 25 with (at_builtin; refine wpList_append_own5 _ rfl _ _ 38 rfl w5.heap.size 9 i2 _ 1 16 Try.underlying38 hi2 hx0 hx1 hx2 rfl (by decide) (.slice va V.length vc) V.length (V.map .string) rfl (HOW8.out.1.alloc _) ⟨w8.heap.size, 0, none⟩ 1 1 [.string t] rfl rfl (cell_one_at w8 9 _) (by intro u hu; simp at hu; subst hu; rfl) (by unfold maxLen; omega) (by omega) (by simp; omega) ?_; intro v' w9 hown9 hgrow hat; obtain ⟨v9a, v9c, hv9⟩ := owns_form hown9; subst hv9)
                      have hB9 : Below w5.heap.size w5 w9 := HOW8.out.2.trans ((((Turn.refl (fun g => (Value.slice va V.length vc).ownBlock = some g) w8).alloc (Obj.cells #[.string t] 9)).grown hgrow (fun g hg => hg)).below hs8 (fun k hk hg => by have := (HOW8.out.1.lt k hg).1; omega))
                      have HOW9 := Lib.hid (And.intro hown9 hB9)
                      have HSQ := Lib.hid (fun (wx : World) (hx : Below w9.heap.size w9 wx) => HSQA.out wx (Below.call (Below.call HB5.out hB9) hx))
                      have HMT := Lib.hid (fun (wx : World) (hx : Below w9.heap.size w9 wx) => HMT0.out wx (Below.call (Below.call HB5.out hB9) hx) dd hd2 t htl)
                      have HCD := Lib.hid (fun (wx : World) (hx : Below w9.heap.size w9 wx) => HCW.out wx (Below.call hB9 hx))
                      have hcn : cntF dd t all ≤ all.length := by unfold cntF; exact List.length_filter_le _ _
                      obtain ⟨CN, hCN⟩ : ∃ CN, cntF dd t all = CN := ⟨_, rfl⟩
                      rw [hCN] at HMT hcn
                      have HCN := Lib.hid hCN
                      have hki2 : (k : Int) < (all.length : Int) := by omega
                      have hdd2I : (dd : Int) < 2 := by omega
                      clear hown9 hgrow hat hB9 c0 c1 hCN
                      refine hp_start (fun w' => Below w9.heap.size w9 w') 16 rfl (by kernel_rfl) (fun c a a' w hd h => ⟨hd ▸ h.1, h.2⟩) (fun hP => ?_)
                      rw [show Array.replicate 16 false = #[false, false, false, false, false, false, false, false, false, false, false, false, false, false, false, false] from rfl]
                      have T0 : Below w9.heap.size w9 w9.drew := (Below.refl _ _).drew
                      obtain ⟨wz, hwz⟩ : ∃ wz, wz = w9.drew := ⟨_, rfl⟩
                      rw [← hwz] at T0 ⊢
                      clear hwz
                      have g1 : IntKind.i64.wrap ((SU : Int) + (CN : Int)) = ((SU + CN : Nat) : Int) := by rw [Int.natCast_add]; exact IntWalk.i64_in _ (by omega)
                      refine hp_take hP 0 (some 91) _ rfl rfl (by kernel_rfl) rfl (fun w' hS' => by go_simp; rfl) T0 ?_
                      simp only [Act.put, List.setIfInBounds_toArray, List.set_cons_zero, List.set_cons_succ]
                      refine hp_take hP 1 (some 92) _ rfl rfl (by kernel_rfl) rfl (fun w' hS' => by go_simp; rfl) T0 ?_
                      simp only [Act.put, List.setIfInBounds_toArray, List.set_cons_zero, List.set_cons_succ]
                      refine hp_take hP 2 (some 93) _ rfl rfl (by kernel_rfl) rfl (fun w' hS' => by go_simp; rfl) T0 ?_
                      simp only [Act.put, List.setIfInBounds_toArray, List.set_cons_zero, List.set_cons_succ]
                      refine hp_take hP 3 (some 94) _ rfl rfl (by kernel_rfl) rfl (fun w' hS' => by go_simp; rfl) T0 ?_
                      simp only [Act.put, List.setIfInBounds_toArray, List.set_cons_zero, List.set_cons_succ]
                      refine hp_take hP 4 (some 95) _ rfl rfl (by kernel_rfl) rfl (fun w' hS' => by go_simp; rfl) T0 ?_
                      simp only [Act.put, List.setIfInBounds_toArray, List.set_cons_zero, List.set_cons_succ]
                      refine hp_take hP 5 (some 96) _ rfl rfl (by kernel_rfl) rfl (fun w' hS' => by go_simp; rfl) T0 ?_
                      simp only [Act.put, List.setIfInBounds_toArray, List.set_cons_zero, List.set_cons_succ]
                      refine hp_take hP 6 (some 97) _ rfl rfl (by kernel_rfl) rfl (fun w' hS' => by go_simp; rfl) T0 ?_
                      simp only [Act.put, List.setIfInBounds_toArray, List.set_cons_zero, List.set_cons_succ]
                      refine hp_take hP 7 (some 98) _ rfl rfl (by kernel_rfl) rfl (fun w' hS' => by have cc := (HCD.out w' hS').1; go_simp; first | done | rfl) T0 ?_
                      simp only [Act.put, List.setIfInBounds_toArray, List.set_cons_zero, List.set_cons_succ]
                      refine hp_take hP 8 (some 99) _ rfl rfl (by kernel_rfl) rfl (fun w' hS' => by go_simp; rfl) T0 ?_
                      simp only [Act.put, List.setIfInBounds_toArray, List.set_cons_zero, List.set_cons_succ]
                      refine hp_take hP 9 (some 100) _ rfl rfl (by kernel_rfl) rfl (fun w' hS' => by go_simp; rfl) T0 ?_
                      simp only [Act.put, List.setIfInBounds_toArray, List.set_cons_zero, List.set_cons_succ]
                      refine hp_take hP 10 (some 101) _ rfl rfl (by kernel_rfl) rfl (fun w' hS' => by have cc := (HCD.out w' hS').2; go_simp; first | done | rfl) T0 ?_
                      simp only [Act.put, List.setIfInBounds_toArray, List.set_cons_zero, List.set_cons_succ]
                      refine hp_take hP 11 (some 102) _ rfl rfl (by kernel_rfl) rfl (fun w' hS' => by go_simp; rfl) T0 ?_
                      simp only [Act.put, List.setIfInBounds_toArray, List.set_cons_zero, List.set_cons_succ]
                      refine hp_call 12 (some 103) rfl rfl (by kernel_rfl) rfl 21 #[.pointer (some ⟨w1.heap.size, 0, none⟩)] (by go_simp; first | done | rfl) ((HSQ.out wz T0).mono ?_)
                      rintro e wq ⟨rfl, hqq⟩
                      subst hqq
                      have T1 := T0
                      refine ⟨_, rfl, T1, ?_⟩
                      simp only [Act.put, List.setIfInBounds_toArray, List.set_cons_zero, List.set_cons_succ]
                      refine hp_call 13 (some 104) rfl rfl (by kernel_rfl) rfl 19 #[.pointer (some ⟨w1.heap.size, 0, none⟩), .int .i64 dd, .string t, .int .i64 n] (by go_simp; first | done | rfl) ((HMT.out wz T0).mono ?_)
                      rintro e wq ⟨rfl, hB'⟩
                      have T2 := Below.call T0 hB'
                      refine ⟨_, rfl, T2, ?_⟩
                      simp only [Act.put, List.setIfInBounds_toArray, List.set_cons_zero, List.set_cons_succ]
                      refine hp_take hP 14 (some 105) (.int .i64 ((SU + CN : Nat) : Int)) rfl rfl (by kernel_rfl) rfl (fun w' hS' => by go_simp; first | done | rfl) T2 ?_
                      simp only [Act.put, List.setIfInBounds_toArray, List.set_cons_zero, List.set_cons_succ]
                      refine hp_take hP 15 (some 10) _ rfl rfl (by kernel_rfl) rfl (fun w' hS' => by go_simp; rfl) T2 ?_
                      simp only [Act.put, List.setIfInBounds_toArray, List.set_cons_zero, List.set_cons_succ]
                      refine hk_done (by kernel_rfl) ?_
                      clear hP g1
                      have hSS : sumC dd (valsI (all.take (k + 1)) dd) all = SU + CN := by rw [HVS.out, HPT.out, sumC_snoc, HSU.out, HCN.out]
                      have HSS := Lib.hid hSS
                      clear hSS
                      go_wp2_with fail
                      go_roundw
                      case rel => exact ⟨k + 1, by omega, by go_num, by rw [HSS.out]; go_num, by rw [HVS.out, HPT.out, List.length_append, List.map_append]; exact owns_b1 HOW9.out.1 T2, Below.call HOW9.out.2 T2⟩
                      case measure => simp [intOf]; omega
              · obtain rfl : k = all.length := by omega
                have hca := counts_all dd all
                rw [List.take_length] at hown hvn hsu hvl ⊢
                rw [hca]
                obtain ⟨va, vc, hvv⟩ := owns_form hown
                subst hvv
                have HVL2 := Lib.hid (HVL.out wr (Below.call HB5.out hB) dd hd2)
                have HOW := Lib.hid hB
                clear hown hB hca hvn hsu
                go_wp2_with fail
                refine HVL2.out.mono ?_
                rintro e w8 ⟨rfl, hB8⟩
                have HB8 := Lib.hid (Below.call HOW.out hB8)
                clear hB8
                go_wp2_with fail
                go_roundw
                case rel => exact ⟨dd + 1, by omega, by go_num, HB8.out⟩
                case measure => simp [intOf]; omega
          · obtain rfl : dd = 2 := by omega
            have HLN := Lib.hid (HLNA.out wr (Below.call HB5.out hB))
            have HBE := Lib.hid hB
            clear hB
            go_wp2_with fail
            refine HLN.out.mono ?_
            rintro e w8 ⟨rfl, nd, rfl⟩
            go_wp2_with fail
            go_ret
            exact ⟨rfl, Below.drewN (Below.call (Below.call (Below.call HB1.out HST.out.below) HB5.out) HBE.out) nd⟩
      · have hS := HS8.out
        go_upto_region 9 with fail
        clear hnI HS8
        obtain ⟨n, hn⟩ : ∃ n, n = i := ⟨_, rfl⟩
        subst hn
        have HSQ0 := Lib.hid (seqS hS.sto)
        rw [show (sbs bs n).length = n from by have := HLB.out; exact sbs_len (by omega)] at HSQ0
        have HST := Lib.hid hS.sto
        unfold intV ptrV at HSQ0
        have hw19 : w1.heap.size ≤ wr.heap.size := hS.below.size
        clear hS
        go_wp2_with fail
        refine HSQ0.out.mono ?_
        rintro e w4 ⟨rfl, rfl⟩
        have hcz := cut_zero (bs := sbs bs n) (b := n) (by have := HLB.out; rw [sbs_len (by omega)]; omega)
        rw [List.take_of_length_le (by have := HLB.out; rw [sbs_len (by omega)]; omega)] at hcz
        have HSC := Lib.hid (scanS HST.out 0 (n : Int) (by unfold allInt; omega) (by unfold allInt; omega))
        rw [hcz] at HSC
        unfold ptrV at HSC
        have hfl := flat_sbs_le bs n
        have HRT := Lib.hid (fun (f : FactT) (hf : f ∈ flat (sbs bs n)) => And.intro (sbs_right hf) (fun d => sbs_short hf d))
        have HVL := Lib.hid (fun (wx : World) (hx : Below wr.heap.size wr wx) (dd : Nat) (hd : dd < 2) => show Calls Try.prog 18 #[.pointer (some ⟨w1.heap.size, 0, none⟩), .int .i64 dd] wx fun e w' => e = .returned (.int .i64 ((valsI (flat (sbs bs n)) dd).length : Nat)) ∧ Below wx.heap.size wx w' from by
          have := valuesS (HST.out.step hx) (dd : Int) (by unfold allInt; omega)
          rw [if_pos (by omega), Int.toNat_natCast] at this
          exact this)
        have HMT0 := Lib.hid (fun (wx : World) (hx : Below wr.heap.size wr wx) (dd : Nat) (hd : dd < 2) (t : ByteArray) (ht : t.size ≤ 64) => show Calls Try.prog 19 #[.pointer (some ⟨w1.heap.size, 0, none⟩), .int .i64 dd, .string t, .int .i64 n] wx fun e w' => e = .returned (.int .i64 (cntF dd t (flat (sbs bs n)) : Nat)) ∧ Below wx.heap.size wx w' from by
          have := matchS (HST.out.step hx) (dd : Int) (by unfold allInt; omega) t (by unfold maxLen; omega) (n : Int) (by unfold allInt; omega)
          rw [if_pos (by omega), Int.toNat_natCast, hcz] at this
          exact this)
        have HSQA := Lib.hid (fun (wx : World) (hx : Below wr.heap.size wr wx) => show Calls Try.prog 21 #[.pointer (some ⟨w1.heap.size, 0, none⟩)] wx fun e w' => e = .returned (.int .i64 (n : Nat)) ∧ wx = w' from by
          have := seqS (HST.out.step hx)
          rw [show (sbs bs n).length = n from by have := HLB.out; exact sbs_len (by omega)] at this
          exact this)
        have HLNA := Lib.hid (fun (wx : World) (hx : Below wr.heap.size wr wx) => show Calls Try.prog 16 #[.pointer (some ⟨w1.heap.size, 0, none⟩)] wx fun e w' => e = .returned (.int .i64 ((flat (sbs bs n)).length : Nat)) ∧ ∃ n, w' = wx.drewN n from lenS (HST.out.step hx))
        clear hcz HSQ0
        generalize flat (sbs bs n) = all at *
        go_wp2_with fail
        refine HSC.out.mono ?_
        rintro e w5 ⟨v, rfl, hB5, hF5⟩
        obtain ⟨aa, ac, rfl⟩ := hF5.rowF.form
        have HF := Lib.hid hF5
        have HB5 := Lib.hid hB5
        obtain ⟨w4, hw4⟩ : ∃ w4, w4 = wr := ⟨_, rfl⟩
        subst hw4
        have hL512 : all.length ≤ 512 := by omega
        clear hF5 hB5 HSC
        go_wp2_with fail
        go_loopw [8] (fun s wr => ∃ dd : Nat, dd ≤ 2 ∧ s = .int .i64 dd ∧ Below w5.heap.size w5 wr) (fun s _ => 2 - (intOf s).toNat)
        case atStart => exact ⟨0, by omega, rfl, Below.refl _ _⟩
        case round =>
          obtain ⟨dd, hdd, rfl, hB⟩ := hrel
          by_cases hd2 : dd < 2
          · have HB6 := Lib.hid hB
            have hddI : decide ((dd : Int) < 2) = true := decide_eq_true (by omega)
            have hBs := hB.size
            clear hB
            go_wp2_with fail
            go_loopw [9, 10, 11] (fun v su s wr => ∃ k : Nat, k ≤ all.length ∧ s = .int .i64 k ∧ su = .int .i64 ((sumC dd (valsI (all.take k) dd) all : Nat) : Int) ∧ wr.ownsRow w5.heap.size 9 1 v (valsI (all.take k) dd).length ((valsI (all.take k) dd).map .string) ∧ Below w5.heap.size w5 wr) (fun _ _ s _ => all.length - (intOf s).toNat)
            case atStart => exact ⟨0, by omega, rfl, by rw [List.take_zero]; rfl, by rw [List.take_zero]; exact World.ownsRow_nil _ _ _ _, HB6.out⟩
            case round =>
              obtain ⟨k, hk, rfl, rfl, hown, hB⟩ := hrel
              have hvn := valsI_nodup (all.take k) dd
              have hsu := sumC_le hvn dd all
              have hvl := vals_le (all.take k) dd
              rw [List.length_take] at hvl
              by_cases hlt : k < all.length
              · obtain ⟨f, hf⟩ : ∃ f, all[k]? = some f := ⟨_, List.getElem?_eq_getElem hlt⟩
                obtain ⟨b, off, c, hv, hb, ad, cd, am, cm, k0, k1, -, -, -, -, hD, hM⟩ := open_fact HF.out.rowF hf
                injection hv with e1 e2 e3
                subst e1 e3
                have hfm := List.mem_of_getElem? hf
                have hd2' := (HRT.out f hfm).1
                have htl := (HRT.out f hfm).2 dd
                obtain ⟨bd, od, rfl, hbd, hcd⟩ := hD (by omega)
                have x0 := hcd dd (by omega)
                rw [hd2'] at k0
                have hvs := vals_step (d := dd) hf
                unfold textOf at htl hvs
                obtain ⟨t, ht⟩ : ∃ t, t = f.dims.getD dd ByteArray.empty := ⟨_, rfl⟩
                rw [← ht] at x0 htl hvs
                have HCW := Lib.hid (show ∀ w', Below w5.heap.size w5 w' → w'.cell? ⟨b, off + k * 2, none⟩ = some (.slice (some ⟨bd, od, none⟩) 2 cd) ∧ w'.cell? ⟨bd, od + dd, none⟩ = some (.string t) from fun w' hb' =>
                  ⟨(hb'.cell (p := ⟨b, _, none⟩) hb).trans k0, (hb'.cell (p := ⟨bd, _, none⟩) hbd).trans x0⟩)
                have HVS := Lib.hid hvs
                have hki : decide ((k : Int) < (all.length : Int)) = true := decide_eq_true (by omega)
                generalize valsI (all.take k) dd = V at *
                obtain ⟨va, vc, hvv⟩ := owns_form hown
                subst hvv
                have HOW := Lib.hid (And.intro hown hB)
                have HSUM := Lib.hid (show ∃ SU, sumC dd V all = SU from ⟨_, rfl⟩)
                obtain ⟨SU, hSU⟩ := HSUM.out
                rw [hSU] at hsu ⊢
                have HSU := Lib.hid hSU
                have hrw := Row.of_owns hown
                obtain ⟨-, va', vc', hvv, -, -, hvc⟩ := hrw
                injection hvv with e1 e2 e3
                subst e1 e3
                have HVC := Lib.hid hvc
                obtain ⟨w7, hw7⟩ : ∃ w7, w7 = wr := ⟨_, rfl⟩
                subst hw7
                clear hvs ht hf hfm hd2' hD hM hcd x0 k0 k1 e2 hb hbd hown hB hvn HSUM hSU hvc
                go_wp2_with fail
                go_loopw [12, 13] (fun th s wr => ∃ j n2 : Nat, j ≤ V.length ∧ s = .int .i64 j ∧ th = .bool (hasT (V.take j) t) ∧ wr = w7.drewN n2) (fun _ s _ => V.length - (intOf s).toNat)
                case atStart => exact ⟨0, 0, by omega, rfl, rfl, rfl⟩
                case round =>
                  obtain ⟨j, n2, hj, rfl, rfl, rfl⟩ := hrel
                  by_cases hjl : j < V.length
                  · obtain ⟨vb, vo, rfl, -, hvcj⟩ := HVC.out (by omega)
                    have y0 := hvcj j (by omega)
                    rw [List.getD_eq_getElem?_getD, List.getElem?_map, List.getElem?_eq_getElem hjl] at y0
                    have HTH := Lib.hid (take_has hjl t)
                    rw [List.getD_eq_getElem?_getD, List.getElem?_eq_getElem hjl] at HTH
                    simp only [Option.map_some, Option.getD_some] at y0 HTH
                    have c0 := (HCW.out w7 HOW.out.2).1
                    have c1 := (HCW.out w7 HOW.out.2).2
                    generalize V[j] = x at y0 HTH
                    obtain ⟨th, hth⟩ : ∃ th, hasT (V.take j) t = th := ⟨_, rfl⟩
                    rw [hth] at HTH ⊢
                    clear hvcj hth
                    cases th
                    · by_cases hx : x = t
                      · subst hx
                        go_upto_region 22 with fail
                        go_quiet (fail)
                        go_wp2_with fail
                        go_roundw
                        case rel => exact ⟨j + 1, _, by omega, by go_num, by rw [HTH.out]; simp, by first | rfl | exact World.drewN_drewN _ _ _⟩
                        case measure => simp [intOf]; omega
                      · have hne0 : ¬ x.toList = t.toList := fun h => hx (ByteArray.ext (Array.toList_inj.1 (by rw [← ByteArray.toList_eq, ← ByteArray.toList_eq]; exact h)))
                        have hne : (x.toList == t.toList) = false := by simpa using hne0
                        clear hne0
                        have HNE := Lib.hid hx
                        clear hx
                        go_upto_region 22 with fail
                        go_quiet (fail)
                        go_wp2_with fail
                        go_roundw
                        case rel => exact ⟨j + 1, _, by omega, by go_num, by rw [HTH.out]; simp [HNE.out], by first | rfl | exact World.drewN_drewN _ _ _⟩
                        case measure => simp [intOf]; omega
                    · go_upto_region 22 with fail
                      go_quiet (fail)
                      go_wp2_with fail
                      go_roundw
                      case rel => exact ⟨j + 1, _, by omega, by go_num, by rw [HTH.out]; rfl, by first | rfl | exact World.drewN_drewN _ _ _⟩
                      case measure => simp [intOf]; omega
                  · obtain rfl : j = V.length := by omega
                    rw [List.take_length]
                    obtain ⟨w8, hw8⟩ : ∃ w8, w8 = w7.drewN n2 := ⟨_, rfl⟩
                    have HOW8 := Lib.hid (show w8.ownsRow w5.heap.size 9 1 (.slice va V.length vc) V.length (V.map .string) ∧ Below w5.heap.size w5 w8 from by rw [hw8]; exact ⟨owns_b1 HOW.out.1 (Below.drewN (Below.refl _ _) n2), Below.drewN HOW.out.2 n2⟩)
                    rw [← hw8]
                    clear hw8
                    by_cases hin : t ∈ V
                    · have hht : hasT V t = true := hasT_iff.2 hin
                      have HPT := Lib.hid (show putL V t = V from putL_in hin)
                      clear hin
                      rw [hht]
                      clear hht
                      go_wp2_with fail
                      go_roundw
                      case rel => exact ⟨k + 1, by omega, by go_num, by rw [HVS.out, HPT.out, HSU.out], by rw [HVS.out, HPT.out]; exact HOW8.out.1, HOW8.out.2⟩
                      case measure => simp [intOf]; omega
                    · have hht : hasT V t = false := by
                        cases h : hasT V t
                        · rfl
                        · exact absurd (hasT_iff.1 h) hin
                      have HPT := Lib.hid (show putL V t = V ++ [t] from putL_new hin)
                      clear hin
                      rw [hht]
                      clear hht
                      have c0 := (HCW.out w8 HOW8.out.2).1
                      have c1 := (HCW.out w8 HOW8.out.2).2
                      have hs8 := HOW8.out.2.size
                      go_upto_region 25 with (at_builtin; refine wpList_append_own5 _ rfl _ _ 38 rfl w5.heap.size 9 i2 _ 1 16 Try.underlying38 hi2 hx0 hx1 hx2 rfl (by decide) (.slice va V.length vc) V.length (V.map .string) rfl (HOW8.out.1.alloc _) ⟨w8.heap.size, 0, none⟩ 1 1 [.string t] rfl rfl (cell_one_at w8 9 _) (by intro u hu; simp at hu; subst hu; rfl) (by unfold maxLen; omega) (by omega) (by simp; omega) ?_; intro v' w9 hown9 hgrow hat; obtain ⟨v9a, v9c, hv9⟩ := owns_form hown9; subst hv9)
                      have hB9 : Below w5.heap.size w5 w9 := HOW8.out.2.trans ((((Turn.refl (fun g => (Value.slice va V.length vc).ownBlock = some g) w8).alloc (Obj.cells #[.string t] 9)).grown hgrow (fun g hg => hg)).below hs8 (fun k hk hg => by have := (HOW8.out.1.lt k hg).1; omega))
                      have HOW9 := Lib.hid (And.intro hown9 hB9)
                      have HSQ := Lib.hid (fun (wx : World) (hx : Below w9.heap.size w9 wx) => HSQA.out wx (Below.call (Below.call HB5.out hB9) hx))
                      have HMT := Lib.hid (fun (wx : World) (hx : Below w9.heap.size w9 wx) => HMT0.out wx (Below.call (Below.call HB5.out hB9) hx) dd hd2 t htl)
                      have HCD := Lib.hid (fun (wx : World) (hx : Below w9.heap.size w9 wx) => HCW.out wx (Below.call hB9 hx))
                      have hcn : cntF dd t all ≤ all.length := by unfold cntF; exact List.length_filter_le _ _
                      obtain ⟨CN, hCN⟩ : ∃ CN, cntF dd t all = CN := ⟨_, rfl⟩
                      rw [hCN] at HMT hcn
                      have HCN := Lib.hid hCN
                      have hki2 : (k : Int) < (all.length : Int) := by omega
                      have hdd2I : (dd : Int) < 2 := by omega
                      clear hown9 hgrow hat hB9 c0 c1 hCN
                      refine hp_start (fun w' => Below w9.heap.size w9 w') 16 rfl (by kernel_rfl) (fun c a a' w hd h => ⟨hd ▸ h.1, h.2⟩) (fun hP => ?_)
                      rw [show Array.replicate 16 false = #[false, false, false, false, false, false, false, false, false, false, false, false, false, false, false, false] from rfl]
                      have T0 : Below w9.heap.size w9 w9.drew := (Below.refl _ _).drew
                      obtain ⟨wz, hwz⟩ : ∃ wz, wz = w9.drew := ⟨_, rfl⟩
                      rw [← hwz] at T0 ⊢
                      clear hwz
                      have g1 : IntKind.i64.wrap ((SU : Int) + (CN : Int)) = ((SU + CN : Nat) : Int) := by rw [Int.natCast_add]; exact IntWalk.i64_in _ (by omega)
                      refine hp_take hP 0 (some 91) _ rfl rfl (by kernel_rfl) rfl (fun w' hS' => by go_simp; rfl) T0 ?_
                      simp only [Act.put, List.setIfInBounds_toArray, List.set_cons_zero, List.set_cons_succ]
                      refine hp_take hP 1 (some 92) _ rfl rfl (by kernel_rfl) rfl (fun w' hS' => by go_simp; rfl) T0 ?_
                      simp only [Act.put, List.setIfInBounds_toArray, List.set_cons_zero, List.set_cons_succ]
                      refine hp_take hP 2 (some 93) _ rfl rfl (by kernel_rfl) rfl (fun w' hS' => by go_simp; rfl) T0 ?_
                      simp only [Act.put, List.setIfInBounds_toArray, List.set_cons_zero, List.set_cons_succ]
                      refine hp_take hP 3 (some 94) _ rfl rfl (by kernel_rfl) rfl (fun w' hS' => by go_simp; rfl) T0 ?_
                      simp only [Act.put, List.setIfInBounds_toArray, List.set_cons_zero, List.set_cons_succ]
                      refine hp_take hP 4 (some 95) _ rfl rfl (by kernel_rfl) rfl (fun w' hS' => by go_simp; rfl) T0 ?_
                      simp only [Act.put, List.setIfInBounds_toArray, List.set_cons_zero, List.set_cons_succ]
                      refine hp_take hP 5 (some 96) _ rfl rfl (by kernel_rfl) rfl (fun w' hS' => by go_simp; rfl) T0 ?_
                      simp only [Act.put, List.setIfInBounds_toArray, List.set_cons_zero, List.set_cons_succ]
                      refine hp_take hP 6 (some 97) _ rfl rfl (by kernel_rfl) rfl (fun w' hS' => by go_simp; rfl) T0 ?_
                      simp only [Act.put, List.setIfInBounds_toArray, List.set_cons_zero, List.set_cons_succ]
                      refine hp_take hP 7 (some 98) _ rfl rfl (by kernel_rfl) rfl (fun w' hS' => by have cc := (HCD.out w' hS').1; go_simp; first | done | rfl) T0 ?_
                      simp only [Act.put, List.setIfInBounds_toArray, List.set_cons_zero, List.set_cons_succ]
                      refine hp_take hP 8 (some 99) _ rfl rfl (by kernel_rfl) rfl (fun w' hS' => by go_simp; rfl) T0 ?_
                      simp only [Act.put, List.setIfInBounds_toArray, List.set_cons_zero, List.set_cons_succ]
                      refine hp_take hP 9 (some 100) _ rfl rfl (by kernel_rfl) rfl (fun w' hS' => by go_simp; rfl) T0 ?_
                      simp only [Act.put, List.setIfInBounds_toArray, List.set_cons_zero, List.set_cons_succ]
                      refine hp_take hP 10 (some 101) _ rfl rfl (by kernel_rfl) rfl (fun w' hS' => by have cc := (HCD.out w' hS').2; go_simp; first | done | rfl) T0 ?_
                      simp only [Act.put, List.setIfInBounds_toArray, List.set_cons_zero, List.set_cons_succ]
                      refine hp_take hP 11 (some 102) _ rfl rfl (by kernel_rfl) rfl (fun w' hS' => by go_simp; rfl) T0 ?_
                      simp only [Act.put, List.setIfInBounds_toArray, List.set_cons_zero, List.set_cons_succ]
                      refine hp_call 12 (some 103) rfl rfl (by kernel_rfl) rfl 21 #[.pointer (some ⟨w1.heap.size, 0, none⟩)] (by go_simp; first | done | rfl) ((HSQ.out wz T0).mono ?_)
                      rintro e wq ⟨rfl, hqq⟩
                      subst hqq
                      have T1 := T0
                      refine ⟨_, rfl, T1, ?_⟩
                      simp only [Act.put, List.setIfInBounds_toArray, List.set_cons_zero, List.set_cons_succ]
                      refine hp_call 13 (some 104) rfl rfl (by kernel_rfl) rfl 19 #[.pointer (some ⟨w1.heap.size, 0, none⟩), .int .i64 dd, .string t, .int .i64 n] (by go_simp; first | done | rfl) ((HMT.out wz T0).mono ?_)
                      rintro e wq ⟨rfl, hB'⟩
                      have T2 := Below.call T0 hB'
                      refine ⟨_, rfl, T2, ?_⟩
                      simp only [Act.put, List.setIfInBounds_toArray, List.set_cons_zero, List.set_cons_succ]
                      refine hp_take hP 14 (some 105) (.int .i64 ((SU + CN : Nat) : Int)) rfl rfl (by kernel_rfl) rfl (fun w' hS' => by go_simp; first | done | rfl) T2 ?_
                      simp only [Act.put, List.setIfInBounds_toArray, List.set_cons_zero, List.set_cons_succ]
                      refine hp_take hP 15 (some 10) _ rfl rfl (by kernel_rfl) rfl (fun w' hS' => by go_simp; rfl) T2 ?_
                      simp only [Act.put, List.setIfInBounds_toArray, List.set_cons_zero, List.set_cons_succ]
                      refine hk_done (by kernel_rfl) ?_
                      clear hP g1
                      have hSS : sumC dd (valsI (all.take (k + 1)) dd) all = SU + CN := by rw [HVS.out, HPT.out, sumC_snoc, HSU.out, HCN.out]
                      have HSS := Lib.hid hSS
                      clear hSS
                      go_wp2_with fail
                      go_roundw
                      case rel => exact ⟨k + 1, by omega, by go_num, by rw [HSS.out]; go_num, by rw [HVS.out, HPT.out, List.length_append, List.map_append]; exact owns_b1 HOW9.out.1 T2, Below.call HOW9.out.2 T2⟩
                      case measure => simp [intOf]; omega
              · obtain rfl : k = all.length := by omega
                have hca := counts_all dd all
                rw [List.take_length] at hown hvn hsu hvl ⊢
                rw [hca]
                obtain ⟨va, vc, hvv⟩ := owns_form hown
                subst hvv
                have HVL2 := Lib.hid (HVL.out wr (Below.call HB5.out hB) dd hd2)
                have HOW := Lib.hid hB
                clear hown hB hca hvn hsu
                go_wp2_with fail
                refine HVL2.out.mono ?_
                rintro e w8 ⟨rfl, hB8⟩
                have HB8 := Lib.hid (Below.call HOW.out hB8)
                clear hB8
                go_wp2_with fail
                go_roundw
                case rel => exact ⟨dd + 1, by omega, by go_num, HB8.out⟩
                case measure => simp [intOf]; omega
          · obtain rfl : dd = 2 := by omega
            have HLN := Lib.hid (HLNA.out wr (Below.call HB5.out hB))
            have HBE := Lib.hid hB
            clear hB
            go_wp2_with fail
            refine HLN.out.mono ?_
            rintro e w8 ⟨rfl, nd, rfl⟩
            go_wp2_with fail
            go_ret
            exact ⟨rfl, Below.drewN (Below.call (Below.call (Below.call HB1.out HST.out.below) HB5.out) HBE.out) nd⟩
theorem countsLaw (v : Value) (w : World) (bs : List (List FactT)) (hbs : RowBs w v bs) (hsh : ∀ b ∈ bs, ∀ f ∈ b, shortF f) :
    Calls Try.prog 7 #[v] w fun e w' => e = .returned (.bool true) ∧ Below w.heap.size w w' := counts7 v bs w hbs hsh
end Go.Proofs.Ytdpgpcffhhdpiaa
