/- FactsMany: the walk. -/
import Derived.Test.YtdpgpcffhhdpiaaW
namespace Go.Proofs.Ytdpgpcffhhdpiaa
open Go.RowKit Go.Maps
set_option linter.unusedVariables false
set_option linter.unusedSimpArgs false

theorem byteV_one1 (k : Nat) : (byteV [(97 + k % 3).toUInt8]).toArray = #[.int .u8 (97 + (k : Int) % 3)] := by
  unfold byteV
  simp only [List.map_cons, List.map_nil, Nat.toUInt8_eq, UInt8.toNat_ofNat']
  rw [show (((97 + k % 3) % 2 ^ 8 : Nat) : Int) = 97 + (k : Int) % 3 by omega]
theorem conv_one (w : World) (k : Nat) : (convert 37 9 (.slice (some ⟨w.heap.size, 0, none⟩) 1 1)).run Try.prog (w.alloc (Obj.cells #[.int .u8 (97 + (k : Int) % 3)] 5)) = .ok (.string (one k)) (w.alloc (Obj.cells #[.int .u8 (97 + (k : Int) % 3)] 5)) := by
  have h := owns_bytes (base := 0) (Blk.new w 5 (byteV [(97 + k % 3).toUInt8]).toArray) rfl (show (1 : Nat) ≤ maxLen by decide) (Nat.zero_le _)
  rw [byteV_one1 k] at h
  exact run_conv_own Try.underlying37 Try.underlying5 Try.underlying9 h

theorem conv_one64 (w : World) (q : Nat) : (convert 37 9 (.slice (some ⟨w.heap.size, 0, none⟩) 1 1)).run Try.prog (w.alloc (Obj.cells #[.int .u8 (97 + (q : Int) % 64 % 3)] 5)) = .ok (.string (one (q % 64))) (w.alloc (Obj.cells #[.int .u8 (97 + (q : Int) % 64 % 3)] 5)) := by
  rw [show (q : Int) % 64 = ((q % 64 : Nat) : Int) by omega]
  exact conv_one w (q % 64)
set_option maxRecDepth 100000 in
set_option maxHeartbeats 64000000 in
theorem many4 (b0 : Int) (hb0 : allInt b0) (text0 : ByteArray) (ht0 : text0.size ≤ 140737488351232) (w : World) : Calls Try.prog 4 #[.int .i64 b0, .string text0] w fun e w' => e = .returned (.bool true) ∧ Below w.heap.size w w' := by
  obtain ⟨i0, hi0, hz0, hz1, hz2⟩ := info_parts info41'
  have HAW := Lib.hid (awake8 w)
  obtain ⟨x, hx⟩ : ∃ x, x = b0.tmod 31 := ⟨_, rfl⟩
  have hxb : -31 < x ∧ x < 31 := by
    rw [hx]
    have h1 := Int.tmod_lt_of_pos b0 (show (0 : Int) < 31 by omega)
    have h2 := Int.lt_tmod_of_pos b0 (show (0 : Int) < 31 by omega)
    omega
  have HX := Lib.hid hx
  clear hx
  by_cases hlong : 60 < text0.size
  · have hd0 : decide (60 < (text0.size : Int)) = true := decide_eq_true (by omega)
    by_cases hsgn : x < 0
    · go_enter Try.func4, Try.ntmps4
      go_wp2_with fail
      refine HAW.out.mono ?_
      rintro e w1 ⟨rfl, hB1⟩
      have HB1 := Lib.hid hB1
      have HN := Lib.hid (newS 1 2 (by omega) (by omega) w1)
      unfold intV ptrV at HN
      clear hB1
      go_wp2_with fail
      refine HN.out.mono ?_
      rintro e w2 ⟨rfl, hS⟩
      have HS := Lib.hid hS
      clear hS HN
      go_upto_region 8 with fail
      have HL := Lib.hid (show (text0.extract 0 60).size ≤ 60 by rw [ByteArray.size_extract]; omega)
      generalize text0.extract 0 60 = text at *
      rw [← HX.out]
      obtain ⟨n, hn⟩ : ∃ n : Nat, -x = (n : Int) := ⟨(-x).toNat, by omega⟩
      go_upto_region 10 with fail
      try rw [hn]
      have hn30 : n ≤ 30 := by omega
      clear hn hxb hsgn HX
      go_wp2_with fail
      go_loopw [9] (fun s wr => ∃ i A : Nat, i ≤ n ∧ s = .int .i64 i ∧ Sto w1 A w1.heap.size wr 1 2 (batsM text i)) (fun s _ => n - (intOf s).toNat)
      case atStart => exact ⟨0, _, by omega, rfl, HS.out⟩
      case round =>
        obtain ⟨i, A, hi, rfl, hS⟩ := hrel
        by_cases hlt : i < n
        · have hd1 : decide ((i : Int) < (n : Int)) = true := decide_eq_true (by omega)
          have HSi := Lib.hid hS
          clear hS
          obtain ⟨w3, hw3⟩ : ∃ w3, w3 = wr := ⟨_, rfl⟩
          subst hw3
          go_wp2_with fail
          go_loopw [10, 11] (fun v t wr2 => ∃ (k : Nat) (ps : List (Value × Value)), k ≤ 64 ∧ t = .int .i64 k ∧ FactsP w3.heap.size wr2 v ((List.range k).map (fun k => fm text (i * 64 + k) k)) ps ∧ Below w3.heap.size w3 wr2) (fun _ t _ => 64 - (intOf t).toNat)
          case atStart => exact ⟨0, [], by omega, rfl, FactsP.nil _ _, Below.refl _ _⟩
          case round =>
            obtain ⟨k, ps, hk, rfl, hf, hB⟩ := hrel
            by_cases hlt2 : k < 64
            · obtain ⟨av, kv, hv⟩ := owns_form hf.2.1
              simp only [List.length_map, List.length_range] at hv
              subst hv
              have hcv := conv_one wr k
              have hadd := fun w : World => run_string_add_sum (P := Try.prog) w text (one k) (by have h1 := HL.out; have h2 := one_size k; omega)
              have hA := hB.size
              have d0 := (Below.al (Below.al (Below.al (Below.refl wr.heap.size wr) (Obj.cells #[.int .u8 (97 + (k : Int) % 3)] 5)) (Obj.cells #[.string (text ++ one k)] 9)) (Obj.cells #[.int .i64 ((i : Int) * 64 + (k : Int)), .int .i64 (-((i : Int) * 64 + (k : Int)))] 2))
              have d1 := (Blk.newAt (wr.alloc (Obj.cells #[.int .u8 (97 + (k : Int) % 3)] 5)) 9 #[.string (text ++ one k)] (b := wr.heap.size + 1) (by simp)).alloc (Obj.cells #[.int .i64 ((i : Int) * 64 + (k : Int)), .int .i64 (-((i : Int) * 64 + (k : Int)))] 2)
              have d2 := Blk.newAt ((wr.alloc (Obj.cells #[.int .u8 (97 + (k : Int) % 3)] 5)).alloc (Obj.cells #[.string (text ++ one k)] 9)) 2 #[.int .i64 ((i : Int) * 64 + (k : Int)), .int .i64 (-((i : Int) * 64 + (k : Int)))] (b := wr.heap.size + 2) (by simp)
              have HD := Lib.hid (And.intro d0 (And.intro d1 d2))
              have HP := Lib.hid (And.intro hf hB)
              have HPW := Lib.hid (hf.below d0)
              clear hf hB d0 d1 d2
              go_upto_region 16 with (at_builtin; refine wpList_append_own5 _ rfl _ _ 30 rfl w3.heap.size 41 i0 _ 2 48 Try.underlying30 hi0 hz0 hz1 hz2 rfl (by decide) (.slice av k kv) k _ rfl (by have := HPW.out.2.1; simp only [List.length_map, List.length_range] at this; exact this.alloc (Obj.cells #[.slice (some ⟨wr.heap.size + 1, 0, none⟩) 1 1, .slice (some ⟨wr.heap.size + 2, 0, none⟩) 2 2] 41)) ⟨wr.heap.size + 3, 0, none⟩ 1 1 [.slice (some ⟨wr.heap.size + 1, 0, none⟩) 1 1, .slice (some ⟨wr.heap.size + 2, 0, none⟩) 2 2] rfl rfl (by have := cell_two_new (((wr.alloc (Obj.cells #[.int .u8 (97 + (k : Int) % 3)] 5)).alloc (Obj.cells #[.string (text ++ one k)] 9)).alloc (Obj.cells #[.int .i64 ((i : Int) * 64 + (k : Int)), .int .i64 (-((i : Int) * 64 + (k : Int)))] 2)) 41 (.slice (some ⟨wr.heap.size + 1, 0, none⟩) 1 1) (.slice (some ⟨wr.heap.size + 2, 0, none⟩) 2 2); simpa using this) (by intro u hu; simp at hu; rcases hu with rfl | rfl <;> rfl) (by unfold maxLen; omega) (by omega) (by simp; omega) ?_; intro v' w5 hown5 hgrow hat; obtain ⟨v5a, v5c, hv5⟩ := owns_form hown5; subst hv5)
              have hpush := HPW.out.push (f := fm text (i * 64 + k) k) (vd := .slice (some ⟨wr.heap.size + 1, 0, none⟩) 1 1) (vm := .slice (some ⟨wr.heap.size + 2, 0, none⟩) 2 2) (by simp; omega) (owns_full (n := 1) (l := [.string (text ++ one k)]) HD.out.2.1 rfl (show (1 : Nat) ≤ maxLen by decide) (by omega)) (by
                have := owns_full (n := 2) (base := w3.heap.size) (l := [.int .i64 ((i : Int) * 64 + (k : Int)), .int .i64 (-((i : Int) * 64 + (k : Int)))]) HD.out.2.2 rfl (show (2 : Nat) ≤ maxLen by decide) (by omega)
                unfold fm
                rw [show ((i * 64 + k : Nat) : Int) = (i : Int) * 64 + (k : Int) by omega]
                exact this) (by simp only [List.length_map, List.length_range]; exact hown5) hgrow
              have hB5 := HPW.out.grow (w0 := w3) (by simp; omega) (HP.out.2.trans (HD.out.1.mono hA)) hgrow
              have HR := Lib.hid (And.intro hpush hB5)
              clear hpush hB5 hown5 hgrow hat hcv hadd
              go_wp2_with fail
              go_roundw
              case rel => exact ⟨k + 1, _, by omega, by go_num, by rw [List.range_succ, List.map_append]; exact HR.out.1, HR.out.2⟩
              case measure => simp [intOf]; omega
            · obtain rfl : k = 64 := by omega
              obtain ⟨av, kv, hv⟩ := owns_form hf.2.1
              simp only [List.length_map, List.length_range] at hv
              subst hv
              have HAP := Lib.hid (appendS (HSi.out.step hB) (.slice av 64 kv) (batM text i) (FactsN.lower ⟨ps, hf⟩ HSi.out.le) (short_many HL.out i) (by rw [flat_many_len, batsM_len]; omega))
              rw [ck_many HL.out (by omega)] at HAP
              unfold intV ptrV at HAP
              clear hf
              go_wp2_with fail
              refine HAP.out.mono ?_
              rintro e w5 hh
              rcases hh with ⟨h0, -⟩ | ⟨-, rfl, -, hS5⟩
              · exact absurd rfl h0
              have HS5 := Lib.hid hS5
              clear hS5 HAP
              simp only [batsM_len]
              go_wp2_with fail
              go_roundw
              case rel => exact ⟨i + 1, w5.heap.size, by omega, by go_num, by rw [batsM_succ]; exact HS5.out⟩
              case measure => simp [intOf]; omega
        · obtain rfl : i = n := by omega
          have HSn := Lib.hid hS
          have HSC := Lib.hid (scanS hS 0 (i : Int) (by unfold allInt; omega) (by unfold allInt; omega))
          have hca := cut_all (batsM text i)
          rw [batsM_len] at hca
          rw [hca] at HSC
          unfold ptrV at HSC
          clear hS hca
          go_wp2_with fail
          refine HSC.out.mono ?_
          rintro e w4 ⟨v, rfl, hB4, hf⟩
          obtain ⟨ps, hf⟩ := hf
          obtain ⟨av, kv, hv⟩ := owns_form hf.2.1
          rw [flat_many_len] at hv
          subst hv
          have HF := Lib.hid hf
          have HS4 := Lib.hid (HSn.out.step hB4)
          clear hf hB4 HSC
          go_wp2_with fail
          go_loopw [14] (fun s wr => ∃ q : Nat, q ≤ 64 * i ∧ s = .int .i64 q ∧ Below w4.heap.size w4 wr) (fun s _ => 64 * i - (intOf s).toNat)
          case atStart => exact ⟨0, by omega, rfl, Below.refl _ _⟩
          case round =>
            obtain ⟨q, hq, rfl, hB⟩ := hrel
            by_cases hltq : q < 64 * i
            · obtain ⟨b, off, c, hv, hb, ad, cd, am, cm, k0, k1, -, -, -, -, hD, hM⟩ := open_fact (FactsN.rowF ⟨ps, HF.out⟩) (flat_many_get text i hltq)
              injection hv with e1 e2 e3
              subst e1 e3
              obtain ⟨bd, od, rfl, hbd, hcd⟩ := hD (show 0 < 1 by omega)
              obtain ⟨bm, om, rfl, hbm, hcm⟩ := hM (show 0 < 2 by omega)
              have x0 : w4.cell? ⟨bd, od, none⟩ = some (.string (text ++ one (q % 64))) := hcd 0 (show 0 < 1 by omega)
              have x1 : w4.cell? ⟨bm, om, none⟩ = some (.int .i64 (q : Int)) := hcm 0 (show 0 < 2 by omega)
              have x2 : w4.cell? ⟨bm, om + 1, none⟩ = some (.int .i64 (-(q : Int))) := hcm 1 (show 1 < 2 by omega)
              rw [show (fm text q (q % 64)).dims.length = 1 from rfl] at k0
              rw [show (fm text q (q % 64)).meas.length = 2 from rfl] at k1
              have HCC := Lib.hid (show ∀ w', Below wr.heap.size wr w' → w'.cell? ⟨b, off + q * 2, none⟩ = some (.slice (some ⟨bd, od, none⟩) 1 cd) ∧ w'.cell? ⟨b, off + q * 2 + 1, none⟩ = some (.slice (some ⟨bm, om, none⟩) 2 cm) ∧ w'.cell? ⟨bd, od, none⟩ = some (.string (text ++ one (q % 64))) ∧ w'.cell? ⟨bm, om, none⟩ = some (.int .i64 (q : Int)) ∧ w'.cell? ⟨bm, om + 1, none⟩ = some (.int .i64 (-(q : Int))) from fun w' hb' => by
                have ht := Below.call hB hb'
                exact ⟨(ht.cell (p := ⟨b, _, none⟩) hb).trans k0, (ht.cell (p := ⟨b, _, none⟩) hb).trans k1, (ht.cell (p := ⟨bd, _, none⟩) hbd).trans x0, (ht.cell (p := ⟨bm, _, none⟩) hbm).trans x1, (ht.cell (p := ⟨bm, _, none⟩) hbm).trans x2⟩)
              have HBQ := Lib.hid hB
              have hqi : (q : Int) < 64 * (i : Int) := by omega
              clear k0 k1 x0 x1 x2 hD hM hcd hcm e2 hb hbd hbm hB
              go_upto_region 24 with fail
              refine hp_start (fun w' => Below wr.heap.size wr w') 40 rfl (by kernel_rfl) (fun c a a' w hd h => ⟨hd ▸ h.1, h.2⟩) (fun hP => ?_)
              rw [show Array.replicate 40 false = #[false, false, false, false, false, false, false, false, false, false, false, false, false, false, false, false, false, false, false, false, false, false, false, false, false, false, false, false, false, false, false, false, false, false, false, false, false, false, false, false] from rfl]
              have T0 : Below wr.heap.size wr wr.drew := (Below.refl _ _).drew
              obtain ⟨wz, hwz⟩ : ∃ wz, wz = wr.drew := ⟨_, rfl⟩
              rw [← hwz] at T0 ⊢
              clear hwz
              have hcv := conv_one64 wz q
              have hadd := fun w : World => run_string_add_sum (P := Try.prog) w text (one (q % 64)) (by have h1 := HL.out; have h2 := one_size (q % 64); omega)
              have g1 : IntKind.i64.wrap (-(q : Int)) = -(q : Int) := IntWalk.i64_in _ (by omega)
              have g2 : (q : Int).tmod 64 = (q : Int) % 64 := Int.tmod_eq_emod_of_nonneg (by omega)
              have g3 : ((q : Int) % 64).tmod 3 = (q : Int) % 64 % 3 := Int.tmod_eq_emod_of_nonneg (by omega)
              have g4 : IntKind.i64.wrap (97 + (q : Int) % 64 % 3) = 97 + (q : Int) % 64 % 3 := IntWalk.i64_in _ (by omega)
              have g5 : IntKind.u8.wrap (97 + (q : Int) % 64 % 3) = 97 + (q : Int) % 64 % 3 := IntWalk.u8_in _ (by omega)
              refine hp_take hP 0 (some 80) _ rfl rfl (by kernel_rfl) rfl (fun w' hS' => by go_simp; rfl) T0 ?_
              simp only [Act.put, List.setIfInBounds_toArray, List.set_cons_zero, List.set_cons_succ]
              refine hp_take hP 1 (some 81) _ rfl rfl (by kernel_rfl) rfl (fun w' hS' => by go_simp; rfl) T0 ?_
              simp only [Act.put, List.setIfInBounds_toArray, List.set_cons_zero, List.set_cons_succ]
              refine hp_take hP 2 (some 82) _ rfl rfl (by kernel_rfl) rfl (fun w' hS' => by go_simp; rfl) T0 ?_
              simp only [Act.put, List.setIfInBounds_toArray, List.set_cons_zero, List.set_cons_succ]
              refine hp_take hP 3 (some 83) _ rfl rfl (by kernel_rfl) rfl (fun w' hS' => by go_simp; rfl) T0 ?_
              simp only [Act.put, List.setIfInBounds_toArray, List.set_cons_zero, List.set_cons_succ]
              refine hp_take hP 4 (some 84) _ rfl rfl (by kernel_rfl) rfl (fun w' hS' => by have cc := (HCC.out w' hS').2.1; go_simp; first | done | rfl) T0 ?_
              simp only [Act.put, List.setIfInBounds_toArray, List.set_cons_zero, List.set_cons_succ]
              refine hp_take hP 5 (some 85) _ rfl rfl (by kernel_rfl) rfl (fun w' hS' => by go_simp; rfl) T0 ?_
              simp only [Act.put, List.setIfInBounds_toArray, List.set_cons_zero, List.set_cons_succ]
              refine hp_take hP 6 (some 86) _ rfl rfl (by kernel_rfl) rfl (fun w' hS' => by have cc := (HCC.out w' hS').2.2.2.1; go_simp; first | done | rfl) T0 ?_
              simp only [Act.put, List.setIfInBounds_toArray, List.set_cons_zero, List.set_cons_succ]
              refine hp_take hP 7 (some 87) _ rfl rfl (by kernel_rfl) rfl (fun w' hS' => by go_simp; rfl) T0 ?_
              simp only [Act.put, List.setIfInBounds_toArray, List.set_cons_zero, List.set_cons_succ]
              refine hp_take hP 8 (some 88) (.bool false) rfl rfl (by kernel_rfl) rfl (fun w' hS' => by go_simp; first | done | rfl | simp) T0 ?_
              simp only [Act.put, List.setIfInBounds_toArray, List.set_cons_zero, List.set_cons_succ]
              refine hp_take hP 9 (some 89) _ rfl rfl (by kernel_rfl) rfl (fun w' hS' => by go_simp; rfl) T0 ?_
              simp only [Act.put, List.setIfInBounds_toArray, List.set_cons_zero, List.set_cons_succ]
              refine hp_take hP 10 (some 90) _ rfl rfl (by kernel_rfl) rfl (fun w' hS' => by go_simp; rfl) T0 ?_
              simp only [Act.put, List.setIfInBounds_toArray, List.set_cons_zero, List.set_cons_succ]
              refine hp_take hP 11 (some 91) _ rfl rfl (by kernel_rfl) rfl (fun w' hS' => by go_simp; rfl) T0 ?_
              simp only [Act.put, List.setIfInBounds_toArray, List.set_cons_zero, List.set_cons_succ]
              refine hp_take hP 12 (some 92) _ rfl rfl (by kernel_rfl) rfl (fun w' hS' => by go_simp; rfl) T0 ?_
              simp only [Act.put, List.setIfInBounds_toArray, List.set_cons_zero, List.set_cons_succ]
              refine hp_take hP 13 (some 93) _ rfl rfl (by kernel_rfl) rfl (fun w' hS' => by go_simp; rfl) T0 ?_
              simp only [Act.put, List.setIfInBounds_toArray, List.set_cons_zero, List.set_cons_succ]
              refine hp_take hP 14 (some 94) _ rfl rfl (by kernel_rfl) rfl (fun w' hS' => by have cc := (HCC.out w' hS').2.1; go_simp; first | done | rfl) T0 ?_
              simp only [Act.put, List.setIfInBounds_toArray, List.set_cons_zero, List.set_cons_succ]
              refine hp_take hP 15 (some 95) _ rfl rfl (by kernel_rfl) rfl (fun w' hS' => by go_simp; rfl) T0 ?_
              simp only [Act.put, List.setIfInBounds_toArray, List.set_cons_zero, List.set_cons_succ]
              refine hp_take hP 16 (some 96) _ rfl rfl (by kernel_rfl) rfl (fun w' hS' => by have cc := (HCC.out w' hS').2.2.2.2; go_simp; first | done | rfl) T0 ?_
              simp only [Act.put, List.setIfInBounds_toArray, List.set_cons_zero, List.set_cons_succ]
              refine hp_take hP 17 (some 97) _ rfl rfl (by kernel_rfl) rfl (fun w' hS' => by go_simp; rfl) T0 ?_
              simp only [Act.put, List.setIfInBounds_toArray, List.set_cons_zero, List.set_cons_succ]
              refine hp_take hP 18 (some 98) (.int .i64 (-(q : Int))) rfl rfl (by kernel_rfl) rfl (fun w' hS' => by go_simp; first | done | rfl | simp) T0 ?_
              simp only [Act.put, List.setIfInBounds_toArray, List.set_cons_zero, List.set_cons_succ]
              refine hp_take hP 19 (some 99) (.bool false) rfl rfl (by kernel_rfl) rfl (fun w' hS' => by go_simp; first | done | rfl | simp) T0 ?_
              simp only [Act.put, List.setIfInBounds_toArray, List.set_cons_zero, List.set_cons_succ]
              refine hp_take hP 20 (some 100) _ rfl rfl (by kernel_rfl) rfl (fun w' hS' => by go_simp; rfl) T0 ?_
              simp only [Act.put, List.setIfInBounds_toArray, List.set_cons_zero, List.set_cons_succ]
              refine hp_take hP 21 (some 101) _ rfl rfl (by kernel_rfl) rfl (fun w' hS' => by go_simp; rfl) T0 ?_
              simp only [Act.put, List.setIfInBounds_toArray, List.set_cons_zero, List.set_cons_succ]
              refine hp_take hP 22 (some 102) _ rfl rfl (by kernel_rfl) rfl (fun w' hS' => by go_simp; rfl) T0 ?_
              simp only [Act.put, List.setIfInBounds_toArray, List.set_cons_zero, List.set_cons_succ]
              refine hp_take hP 23 (some 103) _ rfl rfl (by kernel_rfl) rfl (fun w' hS' => by go_simp; rfl) T0 ?_
              simp only [Act.put, List.setIfInBounds_toArray, List.set_cons_zero, List.set_cons_succ]
              refine hp_take hP 24 (some 104) _ rfl rfl (by kernel_rfl) rfl (fun w' hS' => by go_simp; rfl) T0 ?_
              simp only [Act.put, List.setIfInBounds_toArray, List.set_cons_zero, List.set_cons_succ]
              refine hp_take hP 25 (some 105) _ rfl rfl (by kernel_rfl) rfl (fun w' hS' => by go_simp; rfl) T0 ?_
              simp only [Act.put, List.setIfInBounds_toArray, List.set_cons_zero, List.set_cons_succ]
              refine hp_take hP 26 (some 106) _ rfl rfl (by kernel_rfl) rfl (fun w' hS' => by have cc := (HCC.out w' hS').1; go_simp; first | done | rfl) T0 ?_
              simp only [Act.put, List.setIfInBounds_toArray, List.set_cons_zero, List.set_cons_succ]
              refine hp_take hP 27 (some 107) _ rfl rfl (by kernel_rfl) rfl (fun w' hS' => by go_simp; rfl) T0 ?_
              simp only [Act.put, List.setIfInBounds_toArray, List.set_cons_zero, List.set_cons_succ]
              refine hp_take hP 28 (some 108) _ rfl rfl (by kernel_rfl) rfl (fun w' hS' => by have cc := (HCC.out w' hS').2.2.1; go_simp; first | done | rfl) T0 ?_
              simp only [Act.put, List.setIfInBounds_toArray, List.set_cons_zero, List.set_cons_succ]
              refine hp_take hP 29 (some 109) _ rfl rfl (by kernel_rfl) rfl (fun w' hS' => by go_simp; rfl) T0 ?_
              simp only [Act.put, List.setIfInBounds_toArray, List.set_cons_zero, List.set_cons_succ]
              refine hp_take hP 30 (some 110) _ rfl rfl (by kernel_rfl) rfl (fun w' hS' => by go_simp; rfl) T0 ?_
              simp only [Act.put, List.setIfInBounds_toArray, List.set_cons_zero, List.set_cons_succ]
              refine hp_take hP 31 (some 111) (.int .i64 ((q : Int) % 64)) rfl rfl (by kernel_rfl) rfl (fun w' hS' => by go_simp; first | done | rfl | simp) T0 ?_
              simp only [Act.put, List.setIfInBounds_toArray, List.set_cons_zero, List.set_cons_succ]
              refine hp_take hP 32 (some 112) (.int .i64 ((q : Int) % 64 % 3)) rfl rfl (by kernel_rfl) rfl (fun w' hS' => by go_simp; first | done | rfl | simp) T0 ?_
              simp only [Act.put, List.setIfInBounds_toArray, List.set_cons_zero, List.set_cons_succ]
              refine hp_take hP 33 (some 113) (.int .i64 (97 + (q : Int) % 64 % 3)) rfl rfl (by kernel_rfl) rfl (fun w' hS' => by go_simp; first | done | rfl | simp) T0 ?_
              simp only [Act.put, List.setIfInBounds_toArray, List.set_cons_zero, List.set_cons_succ]
              refine hp_take hP 34 (some 114) (.int .u8 (97 + (q : Int) % 64 % 3)) rfl rfl (by kernel_rfl) rfl (fun w' hS' => by go_simp; first | done | rfl | simp) T0 ?_
              simp only [Act.put, List.setIfInBounds_toArray, List.set_cons_zero, List.set_cons_succ]
              refine hp_val 35 (some 115) rfl rfl (by kernel_rfl) rfl (.slice (some ⟨wz.heap.size, 0, none⟩) 1 1) (wz.alloc (Obj.cells #[.int .u8 (97 + (q : Int) % 64 % 3)] 5)) (by go_simp; first | done | rfl) (Below.al T0 _) ?_
              have T1 := Below.al T0 (Obj.cells #[.int .u8 (97 + (q : Int) % 64 % 3)] 5)
              simp only [Act.put, List.setIfInBounds_toArray, List.set_cons_zero, List.set_cons_succ]
              refine hp_val 36 (some 116) rfl rfl (by kernel_rfl) rfl (.string (one (q % 64))) _ (by go_simp; first | done | rfl) T1 ?_
              have T2 := T1
              simp only [Act.put, List.setIfInBounds_toArray, List.set_cons_zero, List.set_cons_succ]
              refine hp_take hP 37 (some 117) _ rfl rfl (by kernel_rfl) rfl (fun w' hS' => by go_simp; rfl) T2 ?_
              simp only [Act.put, List.setIfInBounds_toArray, List.set_cons_zero, List.set_cons_succ]
              refine hp_take hP 38 (some 118) (.bool false) rfl rfl (by kernel_rfl) rfl (fun w' hS' => by go_simp; first | done | rfl | simp) T2 ?_
              simp only [Act.put, List.setIfInBounds_toArray, List.set_cons_zero, List.set_cons_succ]
              refine hp_take hP 39 (some 119) _ rfl rfl (by kernel_rfl) rfl (fun w' hS' => by go_simp; rfl) T2 ?_
              simp only [Act.put, List.setIfInBounds_toArray, List.set_cons_zero, List.set_cons_succ]
              refine hk_done (by kernel_rfl) ?_
              clear g1 g2 g3 g4 g5
              clear hP hcv hadd
              go_wp2_with fail
              go_roundw
              case rel => exact ⟨q + 1, by omega, by go_num, Below.call HBQ.out T1⟩
              case measure => simp [intOf]; omega
            · obtain rfl : q = 64 * i := by omega
              have HSf := Lib.hid (HS4.out.step hB)
              have HSG := Lib.hid (segsS HSf.out (by rw [flat_many_len]; omega))
              have hwant := many_vals text i
              rw [flat_many_len] at HSG
              unfold ptrV intV at HSG
              clear hB
              rw [show (((64 * i + 255) / 256 : Nat) : Int) = (64 * (i : Int) + 255) / 256 by omega] at HSG
              have HH := Lib.hid hwant
              clear hwant
              have hcat := fun w : World => run_string_add_sum (P := Try.prog) w text ⟨#[97]⟩ (by have h1 := HL.out; have e : (⟨#[97]⟩ : ByteArray).size = 1 := rfl; omega)
              have hca := cut_all (batsM text i)
              rw [batsM_len] at hca
              have HCA := Lib.hid hca
              clear hca
              obtain ⟨z, hz⟩ : ∃ z : Nat, z = if 0 < i then 3 else 0 := ⟨_, rfl⟩
              rw [← hz] at HH
              by_cases hpos : 0 < i
              all_goals
                first | (rw [if_pos hpos] at hz; have hposI : decide (0 < (i : Int)) = true := decide_eq_true (by omega)) | (rw [if_neg hpos] at hz; have hposI : decide (0 < (i : Int)) = false := decide_eq_false (by omega))
                subst hz
                go_wp2_with fail
                refine HSG.out.mono ?_
                rintro e w12 ⟨rfl, n2, rfl⟩
                have HS12 := Lib.hid (HSf.out.step (Below.drewN (Below.refl _ _) n2))
                have HV := Lib.hid (valuesS HS12.out 0 (by unfold allInt; omega))
                rw [if_pos (by omega), show (0 : Int).toNat = 0 from rfl, HH.out] at HV
                unfold intV ptrV at HV
                go_wp2_with fail
                refine HV.out.mono ?_
                rintro e w13 ⟨rfl, hB13⟩
                have HS13 := Lib.hid (HS12.out.step hB13)
                have HM := Lib.hid (matchS HS13.out 0 (by unfold allInt; omega) (text ++ ⟨#[97]⟩) (by rw [ByteArray.size_append]; have h1 := HL.out; have e : (⟨#[97]⟩ : ByteArray).size = 1 := rfl; unfold maxLen; omega) (i : Int) (by unfold allInt; omega))
                rw [if_pos (by omega), show (0 : Int).toNat = 0 from rfl, HCA.out, show text ++ ⟨#[97]⟩ = text ++ one 0 from rfl, many_match] at HM
                rw [show text ++ one 0 = text ++ ⟨#[97]⟩ from rfl] at HM
                unfold intV ptrV at HM
                simp only [Int.natCast_mul] at HM
                clear HV hB13
                go_wp2_with fail
                refine HM.out.mono ?_
                rintro e w14 ⟨rfl, hB14⟩
                have HB14 := Lib.hid hB14
                clear hB14
                go_wp2_with fail
                go_ret
                exact ⟨rfl, Below.call (Below.call HB1.out HS13.out.below) HB14.out⟩
    · go_enter Try.func4, Try.ntmps4
      go_wp2_with fail
      refine HAW.out.mono ?_
      rintro e w1 ⟨rfl, hB1⟩
      have HB1 := Lib.hid hB1
      have HN := Lib.hid (newS 1 2 (by omega) (by omega) w1)
      unfold intV ptrV at HN
      clear hB1
      go_wp2_with fail
      refine HN.out.mono ?_
      rintro e w2 ⟨rfl, hS⟩
      have HS := Lib.hid hS
      clear hS HN
      go_upto_region 8 with fail
      have HL := Lib.hid (show (text0.extract 0 60).size ≤ 60 by rw [ByteArray.size_extract]; omega)
      generalize text0.extract 0 60 = text at *
      rw [← HX.out]
      obtain ⟨n, hn⟩ : ∃ n : Nat, x = (n : Int) := ⟨(x).toNat, by omega⟩
      go_upto_region 10 with fail
      try rw [hn]
      have hn30 : n ≤ 30 := by omega
      clear hn hxb hsgn HX
      go_wp2_with fail
      go_loopw [9] (fun s wr => ∃ i A : Nat, i ≤ n ∧ s = .int .i64 i ∧ Sto w1 A w1.heap.size wr 1 2 (batsM text i)) (fun s _ => n - (intOf s).toNat)
      case atStart => exact ⟨0, _, by omega, rfl, HS.out⟩
      case round =>
        obtain ⟨i, A, hi, rfl, hS⟩ := hrel
        by_cases hlt : i < n
        · have hd1 : decide ((i : Int) < (n : Int)) = true := decide_eq_true (by omega)
          have HSi := Lib.hid hS
          clear hS
          obtain ⟨w3, hw3⟩ : ∃ w3, w3 = wr := ⟨_, rfl⟩
          subst hw3
          go_wp2_with fail
          go_loopw [10, 11] (fun v t wr2 => ∃ (k : Nat) (ps : List (Value × Value)), k ≤ 64 ∧ t = .int .i64 k ∧ FactsP w3.heap.size wr2 v ((List.range k).map (fun k => fm text (i * 64 + k) k)) ps ∧ Below w3.heap.size w3 wr2) (fun _ t _ => 64 - (intOf t).toNat)
          case atStart => exact ⟨0, [], by omega, rfl, FactsP.nil _ _, Below.refl _ _⟩
          case round =>
            obtain ⟨k, ps, hk, rfl, hf, hB⟩ := hrel
            by_cases hlt2 : k < 64
            · obtain ⟨av, kv, hv⟩ := owns_form hf.2.1
              simp only [List.length_map, List.length_range] at hv
              subst hv
              have hcv := conv_one wr k
              have hadd := fun w : World => run_string_add_sum (P := Try.prog) w text (one k) (by have h1 := HL.out; have h2 := one_size k; omega)
              have hA := hB.size
              have d0 := (Below.al (Below.al (Below.al (Below.refl wr.heap.size wr) (Obj.cells #[.int .u8 (97 + (k : Int) % 3)] 5)) (Obj.cells #[.string (text ++ one k)] 9)) (Obj.cells #[.int .i64 ((i : Int) * 64 + (k : Int)), .int .i64 (-((i : Int) * 64 + (k : Int)))] 2))
              have d1 := (Blk.newAt (wr.alloc (Obj.cells #[.int .u8 (97 + (k : Int) % 3)] 5)) 9 #[.string (text ++ one k)] (b := wr.heap.size + 1) (by simp)).alloc (Obj.cells #[.int .i64 ((i : Int) * 64 + (k : Int)), .int .i64 (-((i : Int) * 64 + (k : Int)))] 2)
              have d2 := Blk.newAt ((wr.alloc (Obj.cells #[.int .u8 (97 + (k : Int) % 3)] 5)).alloc (Obj.cells #[.string (text ++ one k)] 9)) 2 #[.int .i64 ((i : Int) * 64 + (k : Int)), .int .i64 (-((i : Int) * 64 + (k : Int)))] (b := wr.heap.size + 2) (by simp)
              have HD := Lib.hid (And.intro d0 (And.intro d1 d2))
              have HP := Lib.hid (And.intro hf hB)
              have HPW := Lib.hid (hf.below d0)
              clear hf hB d0 d1 d2
              go_upto_region 16 with (at_builtin; refine wpList_append_own5 _ rfl _ _ 30 rfl w3.heap.size 41 i0 _ 2 48 Try.underlying30 hi0 hz0 hz1 hz2 rfl (by decide) (.slice av k kv) k _ rfl (by have := HPW.out.2.1; simp only [List.length_map, List.length_range] at this; exact this.alloc (Obj.cells #[.slice (some ⟨wr.heap.size + 1, 0, none⟩) 1 1, .slice (some ⟨wr.heap.size + 2, 0, none⟩) 2 2] 41)) ⟨wr.heap.size + 3, 0, none⟩ 1 1 [.slice (some ⟨wr.heap.size + 1, 0, none⟩) 1 1, .slice (some ⟨wr.heap.size + 2, 0, none⟩) 2 2] rfl rfl (by have := cell_two_new (((wr.alloc (Obj.cells #[.int .u8 (97 + (k : Int) % 3)] 5)).alloc (Obj.cells #[.string (text ++ one k)] 9)).alloc (Obj.cells #[.int .i64 ((i : Int) * 64 + (k : Int)), .int .i64 (-((i : Int) * 64 + (k : Int)))] 2)) 41 (.slice (some ⟨wr.heap.size + 1, 0, none⟩) 1 1) (.slice (some ⟨wr.heap.size + 2, 0, none⟩) 2 2); simpa using this) (by intro u hu; simp at hu; rcases hu with rfl | rfl <;> rfl) (by unfold maxLen; omega) (by omega) (by simp; omega) ?_; intro v' w5 hown5 hgrow hat; obtain ⟨v5a, v5c, hv5⟩ := owns_form hown5; subst hv5)
              have hpush := HPW.out.push (f := fm text (i * 64 + k) k) (vd := .slice (some ⟨wr.heap.size + 1, 0, none⟩) 1 1) (vm := .slice (some ⟨wr.heap.size + 2, 0, none⟩) 2 2) (by simp; omega) (owns_full (n := 1) (l := [.string (text ++ one k)]) HD.out.2.1 rfl (show (1 : Nat) ≤ maxLen by decide) (by omega)) (by
                have := owns_full (n := 2) (base := w3.heap.size) (l := [.int .i64 ((i : Int) * 64 + (k : Int)), .int .i64 (-((i : Int) * 64 + (k : Int)))]) HD.out.2.2 rfl (show (2 : Nat) ≤ maxLen by decide) (by omega)
                unfold fm
                rw [show ((i * 64 + k : Nat) : Int) = (i : Int) * 64 + (k : Int) by omega]
                exact this) (by simp only [List.length_map, List.length_range]; exact hown5) hgrow
              have hB5 := HPW.out.grow (w0 := w3) (by simp; omega) (HP.out.2.trans (HD.out.1.mono hA)) hgrow
              have HR := Lib.hid (And.intro hpush hB5)
              clear hpush hB5 hown5 hgrow hat hcv hadd
              go_wp2_with fail
              go_roundw
              case rel => exact ⟨k + 1, _, by omega, by go_num, by rw [List.range_succ, List.map_append]; exact HR.out.1, HR.out.2⟩
              case measure => simp [intOf]; omega
            · obtain rfl : k = 64 := by omega
              obtain ⟨av, kv, hv⟩ := owns_form hf.2.1
              simp only [List.length_map, List.length_range] at hv
              subst hv
              have HAP := Lib.hid (appendS (HSi.out.step hB) (.slice av 64 kv) (batM text i) (FactsN.lower ⟨ps, hf⟩ HSi.out.le) (short_many HL.out i) (by rw [flat_many_len, batsM_len]; omega))
              rw [ck_many HL.out (by omega)] at HAP
              unfold intV ptrV at HAP
              clear hf
              go_wp2_with fail
              refine HAP.out.mono ?_
              rintro e w5 hh
              rcases hh with ⟨h0, -⟩ | ⟨-, rfl, -, hS5⟩
              · exact absurd rfl h0
              have HS5 := Lib.hid hS5
              clear hS5 HAP
              simp only [batsM_len]
              go_wp2_with fail
              go_roundw
              case rel => exact ⟨i + 1, w5.heap.size, by omega, by go_num, by rw [batsM_succ]; exact HS5.out⟩
              case measure => simp [intOf]; omega
        · obtain rfl : i = n := by omega
          have HSn := Lib.hid hS
          have HSC := Lib.hid (scanS hS 0 (i : Int) (by unfold allInt; omega) (by unfold allInt; omega))
          have hca := cut_all (batsM text i)
          rw [batsM_len] at hca
          rw [hca] at HSC
          unfold ptrV at HSC
          clear hS hca
          go_wp2_with fail
          refine HSC.out.mono ?_
          rintro e w4 ⟨v, rfl, hB4, hf⟩
          obtain ⟨ps, hf⟩ := hf
          obtain ⟨av, kv, hv⟩ := owns_form hf.2.1
          rw [flat_many_len] at hv
          subst hv
          have HF := Lib.hid hf
          have HS4 := Lib.hid (HSn.out.step hB4)
          clear hf hB4 HSC
          go_wp2_with fail
          go_loopw [14] (fun s wr => ∃ q : Nat, q ≤ 64 * i ∧ s = .int .i64 q ∧ Below w4.heap.size w4 wr) (fun s _ => 64 * i - (intOf s).toNat)
          case atStart => exact ⟨0, by omega, rfl, Below.refl _ _⟩
          case round =>
            obtain ⟨q, hq, rfl, hB⟩ := hrel
            by_cases hltq : q < 64 * i
            · obtain ⟨b, off, c, hv, hb, ad, cd, am, cm, k0, k1, -, -, -, -, hD, hM⟩ := open_fact (FactsN.rowF ⟨ps, HF.out⟩) (flat_many_get text i hltq)
              injection hv with e1 e2 e3
              subst e1 e3
              obtain ⟨bd, od, rfl, hbd, hcd⟩ := hD (show 0 < 1 by omega)
              obtain ⟨bm, om, rfl, hbm, hcm⟩ := hM (show 0 < 2 by omega)
              have x0 : w4.cell? ⟨bd, od, none⟩ = some (.string (text ++ one (q % 64))) := hcd 0 (show 0 < 1 by omega)
              have x1 : w4.cell? ⟨bm, om, none⟩ = some (.int .i64 (q : Int)) := hcm 0 (show 0 < 2 by omega)
              have x2 : w4.cell? ⟨bm, om + 1, none⟩ = some (.int .i64 (-(q : Int))) := hcm 1 (show 1 < 2 by omega)
              rw [show (fm text q (q % 64)).dims.length = 1 from rfl] at k0
              rw [show (fm text q (q % 64)).meas.length = 2 from rfl] at k1
              have HCC := Lib.hid (show ∀ w', Below wr.heap.size wr w' → w'.cell? ⟨b, off + q * 2, none⟩ = some (.slice (some ⟨bd, od, none⟩) 1 cd) ∧ w'.cell? ⟨b, off + q * 2 + 1, none⟩ = some (.slice (some ⟨bm, om, none⟩) 2 cm) ∧ w'.cell? ⟨bd, od, none⟩ = some (.string (text ++ one (q % 64))) ∧ w'.cell? ⟨bm, om, none⟩ = some (.int .i64 (q : Int)) ∧ w'.cell? ⟨bm, om + 1, none⟩ = some (.int .i64 (-(q : Int))) from fun w' hb' => by
                have ht := Below.call hB hb'
                exact ⟨(ht.cell (p := ⟨b, _, none⟩) hb).trans k0, (ht.cell (p := ⟨b, _, none⟩) hb).trans k1, (ht.cell (p := ⟨bd, _, none⟩) hbd).trans x0, (ht.cell (p := ⟨bm, _, none⟩) hbm).trans x1, (ht.cell (p := ⟨bm, _, none⟩) hbm).trans x2⟩)
              have HBQ := Lib.hid hB
              have hqi : (q : Int) < 64 * (i : Int) := by omega
              clear k0 k1 x0 x1 x2 hD hM hcd hcm e2 hb hbd hbm hB
              go_upto_region 24 with fail
              refine hp_start (fun w' => Below wr.heap.size wr w') 40 rfl (by kernel_rfl) (fun c a a' w hd h => ⟨hd ▸ h.1, h.2⟩) (fun hP => ?_)
              rw [show Array.replicate 40 false = #[false, false, false, false, false, false, false, false, false, false, false, false, false, false, false, false, false, false, false, false, false, false, false, false, false, false, false, false, false, false, false, false, false, false, false, false, false, false, false, false] from rfl]
              have T0 : Below wr.heap.size wr wr.drew := (Below.refl _ _).drew
              obtain ⟨wz, hwz⟩ : ∃ wz, wz = wr.drew := ⟨_, rfl⟩
              rw [← hwz] at T0 ⊢
              clear hwz
              have hcv := conv_one64 wz q
              have hadd := fun w : World => run_string_add_sum (P := Try.prog) w text (one (q % 64)) (by have h1 := HL.out; have h2 := one_size (q % 64); omega)
              have g1 : IntKind.i64.wrap (-(q : Int)) = -(q : Int) := IntWalk.i64_in _ (by omega)
              have g2 : (q : Int).tmod 64 = (q : Int) % 64 := Int.tmod_eq_emod_of_nonneg (by omega)
              have g3 : ((q : Int) % 64).tmod 3 = (q : Int) % 64 % 3 := Int.tmod_eq_emod_of_nonneg (by omega)
              have g4 : IntKind.i64.wrap (97 + (q : Int) % 64 % 3) = 97 + (q : Int) % 64 % 3 := IntWalk.i64_in _ (by omega)
              have g5 : IntKind.u8.wrap (97 + (q : Int) % 64 % 3) = 97 + (q : Int) % 64 % 3 := IntWalk.u8_in _ (by omega)
              refine hp_take hP 0 (some 80) _ rfl rfl (by kernel_rfl) rfl (fun w' hS' => by go_simp; rfl) T0 ?_
              simp only [Act.put, List.setIfInBounds_toArray, List.set_cons_zero, List.set_cons_succ]
              refine hp_take hP 1 (some 81) _ rfl rfl (by kernel_rfl) rfl (fun w' hS' => by go_simp; rfl) T0 ?_
              simp only [Act.put, List.setIfInBounds_toArray, List.set_cons_zero, List.set_cons_succ]
              refine hp_take hP 2 (some 82) _ rfl rfl (by kernel_rfl) rfl (fun w' hS' => by go_simp; rfl) T0 ?_
              simp only [Act.put, List.setIfInBounds_toArray, List.set_cons_zero, List.set_cons_succ]
              refine hp_take hP 3 (some 83) _ rfl rfl (by kernel_rfl) rfl (fun w' hS' => by go_simp; rfl) T0 ?_
              simp only [Act.put, List.setIfInBounds_toArray, List.set_cons_zero, List.set_cons_succ]
              refine hp_take hP 4 (some 84) _ rfl rfl (by kernel_rfl) rfl (fun w' hS' => by have cc := (HCC.out w' hS').2.1; go_simp; first | done | rfl) T0 ?_
              simp only [Act.put, List.setIfInBounds_toArray, List.set_cons_zero, List.set_cons_succ]
              refine hp_take hP 5 (some 85) _ rfl rfl (by kernel_rfl) rfl (fun w' hS' => by go_simp; rfl) T0 ?_
              simp only [Act.put, List.setIfInBounds_toArray, List.set_cons_zero, List.set_cons_succ]
              refine hp_take hP 6 (some 86) _ rfl rfl (by kernel_rfl) rfl (fun w' hS' => by have cc := (HCC.out w' hS').2.2.2.1; go_simp; first | done | rfl) T0 ?_
              simp only [Act.put, List.setIfInBounds_toArray, List.set_cons_zero, List.set_cons_succ]
              refine hp_take hP 7 (some 87) _ rfl rfl (by kernel_rfl) rfl (fun w' hS' => by go_simp; rfl) T0 ?_
              simp only [Act.put, List.setIfInBounds_toArray, List.set_cons_zero, List.set_cons_succ]
              refine hp_take hP 8 (some 88) (.bool false) rfl rfl (by kernel_rfl) rfl (fun w' hS' => by go_simp; first | done | rfl | simp) T0 ?_
              simp only [Act.put, List.setIfInBounds_toArray, List.set_cons_zero, List.set_cons_succ]
              refine hp_take hP 9 (some 89) _ rfl rfl (by kernel_rfl) rfl (fun w' hS' => by go_simp; rfl) T0 ?_
              simp only [Act.put, List.setIfInBounds_toArray, List.set_cons_zero, List.set_cons_succ]
              refine hp_take hP 10 (some 90) _ rfl rfl (by kernel_rfl) rfl (fun w' hS' => by go_simp; rfl) T0 ?_
              simp only [Act.put, List.setIfInBounds_toArray, List.set_cons_zero, List.set_cons_succ]
              refine hp_take hP 11 (some 91) _ rfl rfl (by kernel_rfl) rfl (fun w' hS' => by go_simp; rfl) T0 ?_
              simp only [Act.put, List.setIfInBounds_toArray, List.set_cons_zero, List.set_cons_succ]
              refine hp_take hP 12 (some 92) _ rfl rfl (by kernel_rfl) rfl (fun w' hS' => by go_simp; rfl) T0 ?_
              simp only [Act.put, List.setIfInBounds_toArray, List.set_cons_zero, List.set_cons_succ]
              refine hp_take hP 13 (some 93) _ rfl rfl (by kernel_rfl) rfl (fun w' hS' => by go_simp; rfl) T0 ?_
              simp only [Act.put, List.setIfInBounds_toArray, List.set_cons_zero, List.set_cons_succ]
              refine hp_take hP 14 (some 94) _ rfl rfl (by kernel_rfl) rfl (fun w' hS' => by have cc := (HCC.out w' hS').2.1; go_simp; first | done | rfl) T0 ?_
              simp only [Act.put, List.setIfInBounds_toArray, List.set_cons_zero, List.set_cons_succ]
              refine hp_take hP 15 (some 95) _ rfl rfl (by kernel_rfl) rfl (fun w' hS' => by go_simp; rfl) T0 ?_
              simp only [Act.put, List.setIfInBounds_toArray, List.set_cons_zero, List.set_cons_succ]
              refine hp_take hP 16 (some 96) _ rfl rfl (by kernel_rfl) rfl (fun w' hS' => by have cc := (HCC.out w' hS').2.2.2.2; go_simp; first | done | rfl) T0 ?_
              simp only [Act.put, List.setIfInBounds_toArray, List.set_cons_zero, List.set_cons_succ]
              refine hp_take hP 17 (some 97) _ rfl rfl (by kernel_rfl) rfl (fun w' hS' => by go_simp; rfl) T0 ?_
              simp only [Act.put, List.setIfInBounds_toArray, List.set_cons_zero, List.set_cons_succ]
              refine hp_take hP 18 (some 98) (.int .i64 (-(q : Int))) rfl rfl (by kernel_rfl) rfl (fun w' hS' => by go_simp; first | done | rfl | simp) T0 ?_
              simp only [Act.put, List.setIfInBounds_toArray, List.set_cons_zero, List.set_cons_succ]
              refine hp_take hP 19 (some 99) (.bool false) rfl rfl (by kernel_rfl) rfl (fun w' hS' => by go_simp; first | done | rfl | simp) T0 ?_
              simp only [Act.put, List.setIfInBounds_toArray, List.set_cons_zero, List.set_cons_succ]
              refine hp_take hP 20 (some 100) _ rfl rfl (by kernel_rfl) rfl (fun w' hS' => by go_simp; rfl) T0 ?_
              simp only [Act.put, List.setIfInBounds_toArray, List.set_cons_zero, List.set_cons_succ]
              refine hp_take hP 21 (some 101) _ rfl rfl (by kernel_rfl) rfl (fun w' hS' => by go_simp; rfl) T0 ?_
              simp only [Act.put, List.setIfInBounds_toArray, List.set_cons_zero, List.set_cons_succ]
              refine hp_take hP 22 (some 102) _ rfl rfl (by kernel_rfl) rfl (fun w' hS' => by go_simp; rfl) T0 ?_
              simp only [Act.put, List.setIfInBounds_toArray, List.set_cons_zero, List.set_cons_succ]
              refine hp_take hP 23 (some 103) _ rfl rfl (by kernel_rfl) rfl (fun w' hS' => by go_simp; rfl) T0 ?_
              simp only [Act.put, List.setIfInBounds_toArray, List.set_cons_zero, List.set_cons_succ]
              refine hp_take hP 24 (some 104) _ rfl rfl (by kernel_rfl) rfl (fun w' hS' => by go_simp; rfl) T0 ?_
              simp only [Act.put, List.setIfInBounds_toArray, List.set_cons_zero, List.set_cons_succ]
              refine hp_take hP 25 (some 105) _ rfl rfl (by kernel_rfl) rfl (fun w' hS' => by go_simp; rfl) T0 ?_
              simp only [Act.put, List.setIfInBounds_toArray, List.set_cons_zero, List.set_cons_succ]
              refine hp_take hP 26 (some 106) _ rfl rfl (by kernel_rfl) rfl (fun w' hS' => by have cc := (HCC.out w' hS').1; go_simp; first | done | rfl) T0 ?_
              simp only [Act.put, List.setIfInBounds_toArray, List.set_cons_zero, List.set_cons_succ]
              refine hp_take hP 27 (some 107) _ rfl rfl (by kernel_rfl) rfl (fun w' hS' => by go_simp; rfl) T0 ?_
              simp only [Act.put, List.setIfInBounds_toArray, List.set_cons_zero, List.set_cons_succ]
              refine hp_take hP 28 (some 108) _ rfl rfl (by kernel_rfl) rfl (fun w' hS' => by have cc := (HCC.out w' hS').2.2.1; go_simp; first | done | rfl) T0 ?_
              simp only [Act.put, List.setIfInBounds_toArray, List.set_cons_zero, List.set_cons_succ]
              refine hp_take hP 29 (some 109) _ rfl rfl (by kernel_rfl) rfl (fun w' hS' => by go_simp; rfl) T0 ?_
              simp only [Act.put, List.setIfInBounds_toArray, List.set_cons_zero, List.set_cons_succ]
              refine hp_take hP 30 (some 110) _ rfl rfl (by kernel_rfl) rfl (fun w' hS' => by go_simp; rfl) T0 ?_
              simp only [Act.put, List.setIfInBounds_toArray, List.set_cons_zero, List.set_cons_succ]
              refine hp_take hP 31 (some 111) (.int .i64 ((q : Int) % 64)) rfl rfl (by kernel_rfl) rfl (fun w' hS' => by go_simp; first | done | rfl | simp) T0 ?_
              simp only [Act.put, List.setIfInBounds_toArray, List.set_cons_zero, List.set_cons_succ]
              refine hp_take hP 32 (some 112) (.int .i64 ((q : Int) % 64 % 3)) rfl rfl (by kernel_rfl) rfl (fun w' hS' => by go_simp; first | done | rfl | simp) T0 ?_
              simp only [Act.put, List.setIfInBounds_toArray, List.set_cons_zero, List.set_cons_succ]
              refine hp_take hP 33 (some 113) (.int .i64 (97 + (q : Int) % 64 % 3)) rfl rfl (by kernel_rfl) rfl (fun w' hS' => by go_simp; first | done | rfl | simp) T0 ?_
              simp only [Act.put, List.setIfInBounds_toArray, List.set_cons_zero, List.set_cons_succ]
              refine hp_take hP 34 (some 114) (.int .u8 (97 + (q : Int) % 64 % 3)) rfl rfl (by kernel_rfl) rfl (fun w' hS' => by go_simp; first | done | rfl | simp) T0 ?_
              simp only [Act.put, List.setIfInBounds_toArray, List.set_cons_zero, List.set_cons_succ]
              refine hp_val 35 (some 115) rfl rfl (by kernel_rfl) rfl (.slice (some ⟨wz.heap.size, 0, none⟩) 1 1) (wz.alloc (Obj.cells #[.int .u8 (97 + (q : Int) % 64 % 3)] 5)) (by go_simp; first | done | rfl) (Below.al T0 _) ?_
              have T1 := Below.al T0 (Obj.cells #[.int .u8 (97 + (q : Int) % 64 % 3)] 5)
              simp only [Act.put, List.setIfInBounds_toArray, List.set_cons_zero, List.set_cons_succ]
              refine hp_val 36 (some 116) rfl rfl (by kernel_rfl) rfl (.string (one (q % 64))) _ (by go_simp; first | done | rfl) T1 ?_
              have T2 := T1
              simp only [Act.put, List.setIfInBounds_toArray, List.set_cons_zero, List.set_cons_succ]
              refine hp_take hP 37 (some 117) _ rfl rfl (by kernel_rfl) rfl (fun w' hS' => by go_simp; rfl) T2 ?_
              simp only [Act.put, List.setIfInBounds_toArray, List.set_cons_zero, List.set_cons_succ]
              refine hp_take hP 38 (some 118) (.bool false) rfl rfl (by kernel_rfl) rfl (fun w' hS' => by go_simp; first | done | rfl | simp) T2 ?_
              simp only [Act.put, List.setIfInBounds_toArray, List.set_cons_zero, List.set_cons_succ]
              refine hp_take hP 39 (some 119) _ rfl rfl (by kernel_rfl) rfl (fun w' hS' => by go_simp; rfl) T2 ?_
              simp only [Act.put, List.setIfInBounds_toArray, List.set_cons_zero, List.set_cons_succ]
              refine hk_done (by kernel_rfl) ?_
              clear g1 g2 g3 g4 g5
              clear hP hcv hadd
              go_wp2_with fail
              go_roundw
              case rel => exact ⟨q + 1, by omega, by go_num, Below.call HBQ.out T1⟩
              case measure => simp [intOf]; omega
            · obtain rfl : q = 64 * i := by omega
              have HSf := Lib.hid (HS4.out.step hB)
              have HSG := Lib.hid (segsS HSf.out (by rw [flat_many_len]; omega))
              have hwant := many_vals text i
              rw [flat_many_len] at HSG
              unfold ptrV intV at HSG
              clear hB
              rw [show (((64 * i + 255) / 256 : Nat) : Int) = (64 * (i : Int) + 255) / 256 by omega] at HSG
              have HH := Lib.hid hwant
              clear hwant
              have hcat := fun w : World => run_string_add_sum (P := Try.prog) w text ⟨#[97]⟩ (by have h1 := HL.out; have e : (⟨#[97]⟩ : ByteArray).size = 1 := rfl; omega)
              have hca := cut_all (batsM text i)
              rw [batsM_len] at hca
              have HCA := Lib.hid hca
              clear hca
              obtain ⟨z, hz⟩ : ∃ z : Nat, z = if 0 < i then 3 else 0 := ⟨_, rfl⟩
              rw [← hz] at HH
              by_cases hpos : 0 < i
              all_goals
                first | (rw [if_pos hpos] at hz; have hposI : decide (0 < (i : Int)) = true := decide_eq_true (by omega)) | (rw [if_neg hpos] at hz; have hposI : decide (0 < (i : Int)) = false := decide_eq_false (by omega))
                subst hz
                go_wp2_with fail
                refine HSG.out.mono ?_
                rintro e w12 ⟨rfl, n2, rfl⟩
                have HS12 := Lib.hid (HSf.out.step (Below.drewN (Below.refl _ _) n2))
                have HV := Lib.hid (valuesS HS12.out 0 (by unfold allInt; omega))
                rw [if_pos (by omega), show (0 : Int).toNat = 0 from rfl, HH.out] at HV
                unfold intV ptrV at HV
                go_wp2_with fail
                refine HV.out.mono ?_
                rintro e w13 ⟨rfl, hB13⟩
                have HS13 := Lib.hid (HS12.out.step hB13)
                have HM := Lib.hid (matchS HS13.out 0 (by unfold allInt; omega) (text ++ ⟨#[97]⟩) (by rw [ByteArray.size_append]; have h1 := HL.out; have e : (⟨#[97]⟩ : ByteArray).size = 1 := rfl; unfold maxLen; omega) (i : Int) (by unfold allInt; omega))
                rw [if_pos (by omega), show (0 : Int).toNat = 0 from rfl, HCA.out, show text ++ ⟨#[97]⟩ = text ++ one 0 from rfl, many_match] at HM
                rw [show text ++ one 0 = text ++ ⟨#[97]⟩ from rfl] at HM
                unfold intV ptrV at HM
                simp only [Int.natCast_mul] at HM
                clear HV hB13
                go_wp2_with fail
                refine HM.out.mono ?_
                rintro e w14 ⟨rfl, hB14⟩
                have HB14 := Lib.hid hB14
                clear hB14
                go_wp2_with fail
                go_ret
                exact ⟨rfl, Below.call (Below.call HB1.out HS13.out.below) HB14.out⟩
  · have hd0 : decide (60 < (text0.size : Int)) = false := decide_eq_false (by omega)
    by_cases hsgn : x < 0
    · go_enter Try.func4, Try.ntmps4
      go_wp2_with fail
      refine HAW.out.mono ?_
      rintro e w1 ⟨rfl, hB1⟩
      have HB1 := Lib.hid hB1
      have HN := Lib.hid (newS 1 2 (by omega) (by omega) w1)
      unfold intV ptrV at HN
      clear hB1
      go_wp2_with fail
      refine HN.out.mono ?_
      rintro e w2 ⟨rfl, hS⟩
      have HS := Lib.hid hS
      clear hS HN
      go_upto_region 8 with fail
      have HL := Lib.hid (show text0.size ≤ 60 by omega)
      generalize text0 = text at *
      rw [← HX.out]
      obtain ⟨n, hn⟩ : ∃ n : Nat, -x = (n : Int) := ⟨(-x).toNat, by omega⟩
      go_upto_region 10 with fail
      try rw [hn]
      have hn30 : n ≤ 30 := by omega
      clear hn hxb hsgn HX
      go_wp2_with fail
      go_loopw [9] (fun s wr => ∃ i A : Nat, i ≤ n ∧ s = .int .i64 i ∧ Sto w1 A w1.heap.size wr 1 2 (batsM text i)) (fun s _ => n - (intOf s).toNat)
      case atStart => exact ⟨0, _, by omega, rfl, HS.out⟩
      case round =>
        obtain ⟨i, A, hi, rfl, hS⟩ := hrel
        by_cases hlt : i < n
        · have hd1 : decide ((i : Int) < (n : Int)) = true := decide_eq_true (by omega)
          have HSi := Lib.hid hS
          clear hS
          obtain ⟨w3, hw3⟩ : ∃ w3, w3 = wr := ⟨_, rfl⟩
          subst hw3
          go_wp2_with fail
          go_loopw [10, 11] (fun v t wr2 => ∃ (k : Nat) (ps : List (Value × Value)), k ≤ 64 ∧ t = .int .i64 k ∧ FactsP w3.heap.size wr2 v ((List.range k).map (fun k => fm text (i * 64 + k) k)) ps ∧ Below w3.heap.size w3 wr2) (fun _ t _ => 64 - (intOf t).toNat)
          case atStart => exact ⟨0, [], by omega, rfl, FactsP.nil _ _, Below.refl _ _⟩
          case round =>
            obtain ⟨k, ps, hk, rfl, hf, hB⟩ := hrel
            by_cases hlt2 : k < 64
            · obtain ⟨av, kv, hv⟩ := owns_form hf.2.1
              simp only [List.length_map, List.length_range] at hv
              subst hv
              have hcv := conv_one wr k
              have hadd := fun w : World => run_string_add_sum (P := Try.prog) w text (one k) (by have h1 := HL.out; have h2 := one_size k; omega)
              have hA := hB.size
              have d0 := (Below.al (Below.al (Below.al (Below.refl wr.heap.size wr) (Obj.cells #[.int .u8 (97 + (k : Int) % 3)] 5)) (Obj.cells #[.string (text ++ one k)] 9)) (Obj.cells #[.int .i64 ((i : Int) * 64 + (k : Int)), .int .i64 (-((i : Int) * 64 + (k : Int)))] 2))
              have d1 := (Blk.newAt (wr.alloc (Obj.cells #[.int .u8 (97 + (k : Int) % 3)] 5)) 9 #[.string (text ++ one k)] (b := wr.heap.size + 1) (by simp)).alloc (Obj.cells #[.int .i64 ((i : Int) * 64 + (k : Int)), .int .i64 (-((i : Int) * 64 + (k : Int)))] 2)
              have d2 := Blk.newAt ((wr.alloc (Obj.cells #[.int .u8 (97 + (k : Int) % 3)] 5)).alloc (Obj.cells #[.string (text ++ one k)] 9)) 2 #[.int .i64 ((i : Int) * 64 + (k : Int)), .int .i64 (-((i : Int) * 64 + (k : Int)))] (b := wr.heap.size + 2) (by simp)
              have HD := Lib.hid (And.intro d0 (And.intro d1 d2))
              have HP := Lib.hid (And.intro hf hB)
              have HPW := Lib.hid (hf.below d0)
              clear hf hB d0 d1 d2
              go_upto_region 16 with (at_builtin; refine wpList_append_own5 _ rfl _ _ 30 rfl w3.heap.size 41 i0 _ 2 48 Try.underlying30 hi0 hz0 hz1 hz2 rfl (by decide) (.slice av k kv) k _ rfl (by have := HPW.out.2.1; simp only [List.length_map, List.length_range] at this; exact this.alloc (Obj.cells #[.slice (some ⟨wr.heap.size + 1, 0, none⟩) 1 1, .slice (some ⟨wr.heap.size + 2, 0, none⟩) 2 2] 41)) ⟨wr.heap.size + 3, 0, none⟩ 1 1 [.slice (some ⟨wr.heap.size + 1, 0, none⟩) 1 1, .slice (some ⟨wr.heap.size + 2, 0, none⟩) 2 2] rfl rfl (by have := cell_two_new (((wr.alloc (Obj.cells #[.int .u8 (97 + (k : Int) % 3)] 5)).alloc (Obj.cells #[.string (text ++ one k)] 9)).alloc (Obj.cells #[.int .i64 ((i : Int) * 64 + (k : Int)), .int .i64 (-((i : Int) * 64 + (k : Int)))] 2)) 41 (.slice (some ⟨wr.heap.size + 1, 0, none⟩) 1 1) (.slice (some ⟨wr.heap.size + 2, 0, none⟩) 2 2); simpa using this) (by intro u hu; simp at hu; rcases hu with rfl | rfl <;> rfl) (by unfold maxLen; omega) (by omega) (by simp; omega) ?_; intro v' w5 hown5 hgrow hat; obtain ⟨v5a, v5c, hv5⟩ := owns_form hown5; subst hv5)
              have hpush := HPW.out.push (f := fm text (i * 64 + k) k) (vd := .slice (some ⟨wr.heap.size + 1, 0, none⟩) 1 1) (vm := .slice (some ⟨wr.heap.size + 2, 0, none⟩) 2 2) (by simp; omega) (owns_full (n := 1) (l := [.string (text ++ one k)]) HD.out.2.1 rfl (show (1 : Nat) ≤ maxLen by decide) (by omega)) (by
                have := owns_full (n := 2) (base := w3.heap.size) (l := [.int .i64 ((i : Int) * 64 + (k : Int)), .int .i64 (-((i : Int) * 64 + (k : Int)))]) HD.out.2.2 rfl (show (2 : Nat) ≤ maxLen by decide) (by omega)
                unfold fm
                rw [show ((i * 64 + k : Nat) : Int) = (i : Int) * 64 + (k : Int) by omega]
                exact this) (by simp only [List.length_map, List.length_range]; exact hown5) hgrow
              have hB5 := HPW.out.grow (w0 := w3) (by simp; omega) (HP.out.2.trans (HD.out.1.mono hA)) hgrow
              have HR := Lib.hid (And.intro hpush hB5)
              clear hpush hB5 hown5 hgrow hat hcv hadd
              go_wp2_with fail
              go_roundw
              case rel => exact ⟨k + 1, _, by omega, by go_num, by rw [List.range_succ, List.map_append]; exact HR.out.1, HR.out.2⟩
              case measure => simp [intOf]; omega
            · obtain rfl : k = 64 := by omega
              obtain ⟨av, kv, hv⟩ := owns_form hf.2.1
              simp only [List.length_map, List.length_range] at hv
              subst hv
              have HAP := Lib.hid (appendS (HSi.out.step hB) (.slice av 64 kv) (batM text i) (FactsN.lower ⟨ps, hf⟩ HSi.out.le) (short_many HL.out i) (by rw [flat_many_len, batsM_len]; omega))
              rw [ck_many HL.out (by omega)] at HAP
              unfold intV ptrV at HAP
              clear hf
              go_wp2_with fail
              refine HAP.out.mono ?_
              rintro e w5 hh
              rcases hh with ⟨h0, -⟩ | ⟨-, rfl, -, hS5⟩
              · exact absurd rfl h0
              have HS5 := Lib.hid hS5
              clear hS5 HAP
              simp only [batsM_len]
              go_wp2_with fail
              go_roundw
              case rel => exact ⟨i + 1, w5.heap.size, by omega, by go_num, by rw [batsM_succ]; exact HS5.out⟩
              case measure => simp [intOf]; omega
        · obtain rfl : i = n := by omega
          have HSn := Lib.hid hS
          have HSC := Lib.hid (scanS hS 0 (i : Int) (by unfold allInt; omega) (by unfold allInt; omega))
          have hca := cut_all (batsM text i)
          rw [batsM_len] at hca
          rw [hca] at HSC
          unfold ptrV at HSC
          clear hS hca
          go_wp2_with fail
          refine HSC.out.mono ?_
          rintro e w4 ⟨v, rfl, hB4, hf⟩
          obtain ⟨ps, hf⟩ := hf
          obtain ⟨av, kv, hv⟩ := owns_form hf.2.1
          rw [flat_many_len] at hv
          subst hv
          have HF := Lib.hid hf
          have HS4 := Lib.hid (HSn.out.step hB4)
          clear hf hB4 HSC
          go_wp2_with fail
          go_loopw [14] (fun s wr => ∃ q : Nat, q ≤ 64 * i ∧ s = .int .i64 q ∧ Below w4.heap.size w4 wr) (fun s _ => 64 * i - (intOf s).toNat)
          case atStart => exact ⟨0, by omega, rfl, Below.refl _ _⟩
          case round =>
            obtain ⟨q, hq, rfl, hB⟩ := hrel
            by_cases hltq : q < 64 * i
            · obtain ⟨b, off, c, hv, hb, ad, cd, am, cm, k0, k1, -, -, -, -, hD, hM⟩ := open_fact (FactsN.rowF ⟨ps, HF.out⟩) (flat_many_get text i hltq)
              injection hv with e1 e2 e3
              subst e1 e3
              obtain ⟨bd, od, rfl, hbd, hcd⟩ := hD (show 0 < 1 by omega)
              obtain ⟨bm, om, rfl, hbm, hcm⟩ := hM (show 0 < 2 by omega)
              have x0 : w4.cell? ⟨bd, od, none⟩ = some (.string (text ++ one (q % 64))) := hcd 0 (show 0 < 1 by omega)
              have x1 : w4.cell? ⟨bm, om, none⟩ = some (.int .i64 (q : Int)) := hcm 0 (show 0 < 2 by omega)
              have x2 : w4.cell? ⟨bm, om + 1, none⟩ = some (.int .i64 (-(q : Int))) := hcm 1 (show 1 < 2 by omega)
              rw [show (fm text q (q % 64)).dims.length = 1 from rfl] at k0
              rw [show (fm text q (q % 64)).meas.length = 2 from rfl] at k1
              have HCC := Lib.hid (show ∀ w', Below wr.heap.size wr w' → w'.cell? ⟨b, off + q * 2, none⟩ = some (.slice (some ⟨bd, od, none⟩) 1 cd) ∧ w'.cell? ⟨b, off + q * 2 + 1, none⟩ = some (.slice (some ⟨bm, om, none⟩) 2 cm) ∧ w'.cell? ⟨bd, od, none⟩ = some (.string (text ++ one (q % 64))) ∧ w'.cell? ⟨bm, om, none⟩ = some (.int .i64 (q : Int)) ∧ w'.cell? ⟨bm, om + 1, none⟩ = some (.int .i64 (-(q : Int))) from fun w' hb' => by
                have ht := Below.call hB hb'
                exact ⟨(ht.cell (p := ⟨b, _, none⟩) hb).trans k0, (ht.cell (p := ⟨b, _, none⟩) hb).trans k1, (ht.cell (p := ⟨bd, _, none⟩) hbd).trans x0, (ht.cell (p := ⟨bm, _, none⟩) hbm).trans x1, (ht.cell (p := ⟨bm, _, none⟩) hbm).trans x2⟩)
              have HBQ := Lib.hid hB
              have hqi : (q : Int) < 64 * (i : Int) := by omega
              clear k0 k1 x0 x1 x2 hD hM hcd hcm e2 hb hbd hbm hB
              go_upto_region 24 with fail
              refine hp_start (fun w' => Below wr.heap.size wr w') 40 rfl (by kernel_rfl) (fun c a a' w hd h => ⟨hd ▸ h.1, h.2⟩) (fun hP => ?_)
              rw [show Array.replicate 40 false = #[false, false, false, false, false, false, false, false, false, false, false, false, false, false, false, false, false, false, false, false, false, false, false, false, false, false, false, false, false, false, false, false, false, false, false, false, false, false, false, false] from rfl]
              have T0 : Below wr.heap.size wr wr.drew := (Below.refl _ _).drew
              obtain ⟨wz, hwz⟩ : ∃ wz, wz = wr.drew := ⟨_, rfl⟩
              rw [← hwz] at T0 ⊢
              clear hwz
              have hcv := conv_one64 wz q
              have hadd := fun w : World => run_string_add_sum (P := Try.prog) w text (one (q % 64)) (by have h1 := HL.out; have h2 := one_size (q % 64); omega)
              have g1 : IntKind.i64.wrap (-(q : Int)) = -(q : Int) := IntWalk.i64_in _ (by omega)
              have g2 : (q : Int).tmod 64 = (q : Int) % 64 := Int.tmod_eq_emod_of_nonneg (by omega)
              have g3 : ((q : Int) % 64).tmod 3 = (q : Int) % 64 % 3 := Int.tmod_eq_emod_of_nonneg (by omega)
              have g4 : IntKind.i64.wrap (97 + (q : Int) % 64 % 3) = 97 + (q : Int) % 64 % 3 := IntWalk.i64_in _ (by omega)
              have g5 : IntKind.u8.wrap (97 + (q : Int) % 64 % 3) = 97 + (q : Int) % 64 % 3 := IntWalk.u8_in _ (by omega)
              refine hp_take hP 0 (some 80) _ rfl rfl (by kernel_rfl) rfl (fun w' hS' => by go_simp; rfl) T0 ?_
              simp only [Act.put, List.setIfInBounds_toArray, List.set_cons_zero, List.set_cons_succ]
              refine hp_take hP 1 (some 81) _ rfl rfl (by kernel_rfl) rfl (fun w' hS' => by go_simp; rfl) T0 ?_
              simp only [Act.put, List.setIfInBounds_toArray, List.set_cons_zero, List.set_cons_succ]
              refine hp_take hP 2 (some 82) _ rfl rfl (by kernel_rfl) rfl (fun w' hS' => by go_simp; rfl) T0 ?_
              simp only [Act.put, List.setIfInBounds_toArray, List.set_cons_zero, List.set_cons_succ]
              refine hp_take hP 3 (some 83) _ rfl rfl (by kernel_rfl) rfl (fun w' hS' => by go_simp; rfl) T0 ?_
              simp only [Act.put, List.setIfInBounds_toArray, List.set_cons_zero, List.set_cons_succ]
              refine hp_take hP 4 (some 84) _ rfl rfl (by kernel_rfl) rfl (fun w' hS' => by have cc := (HCC.out w' hS').2.1; go_simp; first | done | rfl) T0 ?_
              simp only [Act.put, List.setIfInBounds_toArray, List.set_cons_zero, List.set_cons_succ]
              refine hp_take hP 5 (some 85) _ rfl rfl (by kernel_rfl) rfl (fun w' hS' => by go_simp; rfl) T0 ?_
              simp only [Act.put, List.setIfInBounds_toArray, List.set_cons_zero, List.set_cons_succ]
              refine hp_take hP 6 (some 86) _ rfl rfl (by kernel_rfl) rfl (fun w' hS' => by have cc := (HCC.out w' hS').2.2.2.1; go_simp; first | done | rfl) T0 ?_
              simp only [Act.put, List.setIfInBounds_toArray, List.set_cons_zero, List.set_cons_succ]
              refine hp_take hP 7 (some 87) _ rfl rfl (by kernel_rfl) rfl (fun w' hS' => by go_simp; rfl) T0 ?_
              simp only [Act.put, List.setIfInBounds_toArray, List.set_cons_zero, List.set_cons_succ]
              refine hp_take hP 8 (some 88) (.bool false) rfl rfl (by kernel_rfl) rfl (fun w' hS' => by go_simp; first | done | rfl | simp) T0 ?_
              simp only [Act.put, List.setIfInBounds_toArray, List.set_cons_zero, List.set_cons_succ]
              refine hp_take hP 9 (some 89) _ rfl rfl (by kernel_rfl) rfl (fun w' hS' => by go_simp; rfl) T0 ?_
              simp only [Act.put, List.setIfInBounds_toArray, List.set_cons_zero, List.set_cons_succ]
              refine hp_take hP 10 (some 90) _ rfl rfl (by kernel_rfl) rfl (fun w' hS' => by go_simp; rfl) T0 ?_
              simp only [Act.put, List.setIfInBounds_toArray, List.set_cons_zero, List.set_cons_succ]
              refine hp_take hP 11 (some 91) _ rfl rfl (by kernel_rfl) rfl (fun w' hS' => by go_simp; rfl) T0 ?_
              simp only [Act.put, List.setIfInBounds_toArray, List.set_cons_zero, List.set_cons_succ]
              refine hp_take hP 12 (some 92) _ rfl rfl (by kernel_rfl) rfl (fun w' hS' => by go_simp; rfl) T0 ?_
              simp only [Act.put, List.setIfInBounds_toArray, List.set_cons_zero, List.set_cons_succ]
              refine hp_take hP 13 (some 93) _ rfl rfl (by kernel_rfl) rfl (fun w' hS' => by go_simp; rfl) T0 ?_
              simp only [Act.put, List.setIfInBounds_toArray, List.set_cons_zero, List.set_cons_succ]
              refine hp_take hP 14 (some 94) _ rfl rfl (by kernel_rfl) rfl (fun w' hS' => by have cc := (HCC.out w' hS').2.1; go_simp; first | done | rfl) T0 ?_
              simp only [Act.put, List.setIfInBounds_toArray, List.set_cons_zero, List.set_cons_succ]
              refine hp_take hP 15 (some 95) _ rfl rfl (by kernel_rfl) rfl (fun w' hS' => by go_simp; rfl) T0 ?_
              simp only [Act.put, List.setIfInBounds_toArray, List.set_cons_zero, List.set_cons_succ]
              refine hp_take hP 16 (some 96) _ rfl rfl (by kernel_rfl) rfl (fun w' hS' => by have cc := (HCC.out w' hS').2.2.2.2; go_simp; first | done | rfl) T0 ?_
              simp only [Act.put, List.setIfInBounds_toArray, List.set_cons_zero, List.set_cons_succ]
              refine hp_take hP 17 (some 97) _ rfl rfl (by kernel_rfl) rfl (fun w' hS' => by go_simp; rfl) T0 ?_
              simp only [Act.put, List.setIfInBounds_toArray, List.set_cons_zero, List.set_cons_succ]
              refine hp_take hP 18 (some 98) (.int .i64 (-(q : Int))) rfl rfl (by kernel_rfl) rfl (fun w' hS' => by go_simp; first | done | rfl | simp) T0 ?_
              simp only [Act.put, List.setIfInBounds_toArray, List.set_cons_zero, List.set_cons_succ]
              refine hp_take hP 19 (some 99) (.bool false) rfl rfl (by kernel_rfl) rfl (fun w' hS' => by go_simp; first | done | rfl | simp) T0 ?_
              simp only [Act.put, List.setIfInBounds_toArray, List.set_cons_zero, List.set_cons_succ]
              refine hp_take hP 20 (some 100) _ rfl rfl (by kernel_rfl) rfl (fun w' hS' => by go_simp; rfl) T0 ?_
              simp only [Act.put, List.setIfInBounds_toArray, List.set_cons_zero, List.set_cons_succ]
              refine hp_take hP 21 (some 101) _ rfl rfl (by kernel_rfl) rfl (fun w' hS' => by go_simp; rfl) T0 ?_
              simp only [Act.put, List.setIfInBounds_toArray, List.set_cons_zero, List.set_cons_succ]
              refine hp_take hP 22 (some 102) _ rfl rfl (by kernel_rfl) rfl (fun w' hS' => by go_simp; rfl) T0 ?_
              simp only [Act.put, List.setIfInBounds_toArray, List.set_cons_zero, List.set_cons_succ]
              refine hp_take hP 23 (some 103) _ rfl rfl (by kernel_rfl) rfl (fun w' hS' => by go_simp; rfl) T0 ?_
              simp only [Act.put, List.setIfInBounds_toArray, List.set_cons_zero, List.set_cons_succ]
              refine hp_take hP 24 (some 104) _ rfl rfl (by kernel_rfl) rfl (fun w' hS' => by go_simp; rfl) T0 ?_
              simp only [Act.put, List.setIfInBounds_toArray, List.set_cons_zero, List.set_cons_succ]
              refine hp_take hP 25 (some 105) _ rfl rfl (by kernel_rfl) rfl (fun w' hS' => by go_simp; rfl) T0 ?_
              simp only [Act.put, List.setIfInBounds_toArray, List.set_cons_zero, List.set_cons_succ]
              refine hp_take hP 26 (some 106) _ rfl rfl (by kernel_rfl) rfl (fun w' hS' => by have cc := (HCC.out w' hS').1; go_simp; first | done | rfl) T0 ?_
              simp only [Act.put, List.setIfInBounds_toArray, List.set_cons_zero, List.set_cons_succ]
              refine hp_take hP 27 (some 107) _ rfl rfl (by kernel_rfl) rfl (fun w' hS' => by go_simp; rfl) T0 ?_
              simp only [Act.put, List.setIfInBounds_toArray, List.set_cons_zero, List.set_cons_succ]
              refine hp_take hP 28 (some 108) _ rfl rfl (by kernel_rfl) rfl (fun w' hS' => by have cc := (HCC.out w' hS').2.2.1; go_simp; first | done | rfl) T0 ?_
              simp only [Act.put, List.setIfInBounds_toArray, List.set_cons_zero, List.set_cons_succ]
              refine hp_take hP 29 (some 109) _ rfl rfl (by kernel_rfl) rfl (fun w' hS' => by go_simp; rfl) T0 ?_
              simp only [Act.put, List.setIfInBounds_toArray, List.set_cons_zero, List.set_cons_succ]
              refine hp_take hP 30 (some 110) _ rfl rfl (by kernel_rfl) rfl (fun w' hS' => by go_simp; rfl) T0 ?_
              simp only [Act.put, List.setIfInBounds_toArray, List.set_cons_zero, List.set_cons_succ]
              refine hp_take hP 31 (some 111) (.int .i64 ((q : Int) % 64)) rfl rfl (by kernel_rfl) rfl (fun w' hS' => by go_simp; first | done | rfl | simp) T0 ?_
              simp only [Act.put, List.setIfInBounds_toArray, List.set_cons_zero, List.set_cons_succ]
              refine hp_take hP 32 (some 112) (.int .i64 ((q : Int) % 64 % 3)) rfl rfl (by kernel_rfl) rfl (fun w' hS' => by go_simp; first | done | rfl | simp) T0 ?_
              simp only [Act.put, List.setIfInBounds_toArray, List.set_cons_zero, List.set_cons_succ]
              refine hp_take hP 33 (some 113) (.int .i64 (97 + (q : Int) % 64 % 3)) rfl rfl (by kernel_rfl) rfl (fun w' hS' => by go_simp; first | done | rfl | simp) T0 ?_
              simp only [Act.put, List.setIfInBounds_toArray, List.set_cons_zero, List.set_cons_succ]
              refine hp_take hP 34 (some 114) (.int .u8 (97 + (q : Int) % 64 % 3)) rfl rfl (by kernel_rfl) rfl (fun w' hS' => by go_simp; first | done | rfl | simp) T0 ?_
              simp only [Act.put, List.setIfInBounds_toArray, List.set_cons_zero, List.set_cons_succ]
              refine hp_val 35 (some 115) rfl rfl (by kernel_rfl) rfl (.slice (some ⟨wz.heap.size, 0, none⟩) 1 1) (wz.alloc (Obj.cells #[.int .u8 (97 + (q : Int) % 64 % 3)] 5)) (by go_simp; first | done | rfl) (Below.al T0 _) ?_
              have T1 := Below.al T0 (Obj.cells #[.int .u8 (97 + (q : Int) % 64 % 3)] 5)
              simp only [Act.put, List.setIfInBounds_toArray, List.set_cons_zero, List.set_cons_succ]
              refine hp_val 36 (some 116) rfl rfl (by kernel_rfl) rfl (.string (one (q % 64))) _ (by go_simp; first | done | rfl) T1 ?_
              have T2 := T1
              simp only [Act.put, List.setIfInBounds_toArray, List.set_cons_zero, List.set_cons_succ]
              refine hp_take hP 37 (some 117) _ rfl rfl (by kernel_rfl) rfl (fun w' hS' => by go_simp; rfl) T2 ?_
              simp only [Act.put, List.setIfInBounds_toArray, List.set_cons_zero, List.set_cons_succ]
              refine hp_take hP 38 (some 118) (.bool false) rfl rfl (by kernel_rfl) rfl (fun w' hS' => by go_simp; first | done | rfl | simp) T2 ?_
              simp only [Act.put, List.setIfInBounds_toArray, List.set_cons_zero, List.set_cons_succ]
              refine hp_take hP 39 (some 119) _ rfl rfl (by kernel_rfl) rfl (fun w' hS' => by go_simp; rfl) T2 ?_
              simp only [Act.put, List.setIfInBounds_toArray, List.set_cons_zero, List.set_cons_succ]
              refine hk_done (by kernel_rfl) ?_
              clear g1 g2 g3 g4 g5
              clear hP hcv hadd
              go_wp2_with fail
              go_roundw
              case rel => exact ⟨q + 1, by omega, by go_num, Below.call HBQ.out T1⟩
              case measure => simp [intOf]; omega
            · obtain rfl : q = 64 * i := by omega
              have HSf := Lib.hid (HS4.out.step hB)
              have HSG := Lib.hid (segsS HSf.out (by rw [flat_many_len]; omega))
              have hwant := many_vals text i
              rw [flat_many_len] at HSG
              unfold ptrV intV at HSG
              clear hB
              rw [show (((64 * i + 255) / 256 : Nat) : Int) = (64 * (i : Int) + 255) / 256 by omega] at HSG
              have HH := Lib.hid hwant
              clear hwant
              have hcat := fun w : World => run_string_add_sum (P := Try.prog) w text ⟨#[97]⟩ (by have h1 := HL.out; have e : (⟨#[97]⟩ : ByteArray).size = 1 := rfl; omega)
              have hca := cut_all (batsM text i)
              rw [batsM_len] at hca
              have HCA := Lib.hid hca
              clear hca
              obtain ⟨z, hz⟩ : ∃ z : Nat, z = if 0 < i then 3 else 0 := ⟨_, rfl⟩
              rw [← hz] at HH
              by_cases hpos : 0 < i
              all_goals
                first | (rw [if_pos hpos] at hz; have hposI : decide (0 < (i : Int)) = true := decide_eq_true (by omega)) | (rw [if_neg hpos] at hz; have hposI : decide (0 < (i : Int)) = false := decide_eq_false (by omega))
                subst hz
                go_wp2_with fail
                refine HSG.out.mono ?_
                rintro e w12 ⟨rfl, n2, rfl⟩
                have HS12 := Lib.hid (HSf.out.step (Below.drewN (Below.refl _ _) n2))
                have HV := Lib.hid (valuesS HS12.out 0 (by unfold allInt; omega))
                rw [if_pos (by omega), show (0 : Int).toNat = 0 from rfl, HH.out] at HV
                unfold intV ptrV at HV
                go_wp2_with fail
                refine HV.out.mono ?_
                rintro e w13 ⟨rfl, hB13⟩
                have HS13 := Lib.hid (HS12.out.step hB13)
                have HM := Lib.hid (matchS HS13.out 0 (by unfold allInt; omega) (text ++ ⟨#[97]⟩) (by rw [ByteArray.size_append]; have h1 := HL.out; have e : (⟨#[97]⟩ : ByteArray).size = 1 := rfl; unfold maxLen; omega) (i : Int) (by unfold allInt; omega))
                rw [if_pos (by omega), show (0 : Int).toNat = 0 from rfl, HCA.out, show text ++ ⟨#[97]⟩ = text ++ one 0 from rfl, many_match] at HM
                rw [show text ++ one 0 = text ++ ⟨#[97]⟩ from rfl] at HM
                unfold intV ptrV at HM
                simp only [Int.natCast_mul] at HM
                clear HV hB13
                go_wp2_with fail
                refine HM.out.mono ?_
                rintro e w14 ⟨rfl, hB14⟩
                have HB14 := Lib.hid hB14
                clear hB14
                go_wp2_with fail
                go_ret
                exact ⟨rfl, Below.call (Below.call HB1.out HS13.out.below) HB14.out⟩
    · go_enter Try.func4, Try.ntmps4
      go_wp2_with fail
      refine HAW.out.mono ?_
      rintro e w1 ⟨rfl, hB1⟩
      have HB1 := Lib.hid hB1
      have HN := Lib.hid (newS 1 2 (by omega) (by omega) w1)
      unfold intV ptrV at HN
      clear hB1
      go_wp2_with fail
      refine HN.out.mono ?_
      rintro e w2 ⟨rfl, hS⟩
      have HS := Lib.hid hS
      clear hS HN
      go_upto_region 8 with fail
      have HL := Lib.hid (show text0.size ≤ 60 by omega)
      generalize text0 = text at *
      rw [← HX.out]
      obtain ⟨n, hn⟩ : ∃ n : Nat, x = (n : Int) := ⟨(x).toNat, by omega⟩
      go_upto_region 10 with fail
      try rw [hn]
      have hn30 : n ≤ 30 := by omega
      clear hn hxb hsgn HX
      go_wp2_with fail
      go_loopw [9] (fun s wr => ∃ i A : Nat, i ≤ n ∧ s = .int .i64 i ∧ Sto w1 A w1.heap.size wr 1 2 (batsM text i)) (fun s _ => n - (intOf s).toNat)
      case atStart => exact ⟨0, _, by omega, rfl, HS.out⟩
      case round =>
        obtain ⟨i, A, hi, rfl, hS⟩ := hrel
        by_cases hlt : i < n
        · have hd1 : decide ((i : Int) < (n : Int)) = true := decide_eq_true (by omega)
          have HSi := Lib.hid hS
          clear hS
          obtain ⟨w3, hw3⟩ : ∃ w3, w3 = wr := ⟨_, rfl⟩
          subst hw3
          go_wp2_with fail
          go_loopw [10, 11] (fun v t wr2 => ∃ (k : Nat) (ps : List (Value × Value)), k ≤ 64 ∧ t = .int .i64 k ∧ FactsP w3.heap.size wr2 v ((List.range k).map (fun k => fm text (i * 64 + k) k)) ps ∧ Below w3.heap.size w3 wr2) (fun _ t _ => 64 - (intOf t).toNat)
          case atStart => exact ⟨0, [], by omega, rfl, FactsP.nil _ _, Below.refl _ _⟩
          case round =>
            obtain ⟨k, ps, hk, rfl, hf, hB⟩ := hrel
            by_cases hlt2 : k < 64
            · obtain ⟨av, kv, hv⟩ := owns_form hf.2.1
              simp only [List.length_map, List.length_range] at hv
              subst hv
              have hcv := conv_one wr k
              have hadd := fun w : World => run_string_add_sum (P := Try.prog) w text (one k) (by have h1 := HL.out; have h2 := one_size k; omega)
              have hA := hB.size
              have d0 := (Below.al (Below.al (Below.al (Below.refl wr.heap.size wr) (Obj.cells #[.int .u8 (97 + (k : Int) % 3)] 5)) (Obj.cells #[.string (text ++ one k)] 9)) (Obj.cells #[.int .i64 ((i : Int) * 64 + (k : Int)), .int .i64 (-((i : Int) * 64 + (k : Int)))] 2))
              have d1 := (Blk.newAt (wr.alloc (Obj.cells #[.int .u8 (97 + (k : Int) % 3)] 5)) 9 #[.string (text ++ one k)] (b := wr.heap.size + 1) (by simp)).alloc (Obj.cells #[.int .i64 ((i : Int) * 64 + (k : Int)), .int .i64 (-((i : Int) * 64 + (k : Int)))] 2)
              have d2 := Blk.newAt ((wr.alloc (Obj.cells #[.int .u8 (97 + (k : Int) % 3)] 5)).alloc (Obj.cells #[.string (text ++ one k)] 9)) 2 #[.int .i64 ((i : Int) * 64 + (k : Int)), .int .i64 (-((i : Int) * 64 + (k : Int)))] (b := wr.heap.size + 2) (by simp)
              have HD := Lib.hid (And.intro d0 (And.intro d1 d2))
              have HP := Lib.hid (And.intro hf hB)
              have HPW := Lib.hid (hf.below d0)
              clear hf hB d0 d1 d2
              go_upto_region 16 with (at_builtin; refine wpList_append_own5 _ rfl _ _ 30 rfl w3.heap.size 41 i0 _ 2 48 Try.underlying30 hi0 hz0 hz1 hz2 rfl (by decide) (.slice av k kv) k _ rfl (by have := HPW.out.2.1; simp only [List.length_map, List.length_range] at this; exact this.alloc (Obj.cells #[.slice (some ⟨wr.heap.size + 1, 0, none⟩) 1 1, .slice (some ⟨wr.heap.size + 2, 0, none⟩) 2 2] 41)) ⟨wr.heap.size + 3, 0, none⟩ 1 1 [.slice (some ⟨wr.heap.size + 1, 0, none⟩) 1 1, .slice (some ⟨wr.heap.size + 2, 0, none⟩) 2 2] rfl rfl (by have := cell_two_new (((wr.alloc (Obj.cells #[.int .u8 (97 + (k : Int) % 3)] 5)).alloc (Obj.cells #[.string (text ++ one k)] 9)).alloc (Obj.cells #[.int .i64 ((i : Int) * 64 + (k : Int)), .int .i64 (-((i : Int) * 64 + (k : Int)))] 2)) 41 (.slice (some ⟨wr.heap.size + 1, 0, none⟩) 1 1) (.slice (some ⟨wr.heap.size + 2, 0, none⟩) 2 2); simpa using this) (by intro u hu; simp at hu; rcases hu with rfl | rfl <;> rfl) (by unfold maxLen; omega) (by omega) (by simp; omega) ?_; intro v' w5 hown5 hgrow hat; obtain ⟨v5a, v5c, hv5⟩ := owns_form hown5; subst hv5)
              have hpush := HPW.out.push (f := fm text (i * 64 + k) k) (vd := .slice (some ⟨wr.heap.size + 1, 0, none⟩) 1 1) (vm := .slice (some ⟨wr.heap.size + 2, 0, none⟩) 2 2) (by simp; omega) (owns_full (n := 1) (l := [.string (text ++ one k)]) HD.out.2.1 rfl (show (1 : Nat) ≤ maxLen by decide) (by omega)) (by
                have := owns_full (n := 2) (base := w3.heap.size) (l := [.int .i64 ((i : Int) * 64 + (k : Int)), .int .i64 (-((i : Int) * 64 + (k : Int)))]) HD.out.2.2 rfl (show (2 : Nat) ≤ maxLen by decide) (by omega)
                unfold fm
                rw [show ((i * 64 + k : Nat) : Int) = (i : Int) * 64 + (k : Int) by omega]
                exact this) (by simp only [List.length_map, List.length_range]; exact hown5) hgrow
              have hB5 := HPW.out.grow (w0 := w3) (by simp; omega) (HP.out.2.trans (HD.out.1.mono hA)) hgrow
              have HR := Lib.hid (And.intro hpush hB5)
              clear hpush hB5 hown5 hgrow hat hcv hadd
              go_wp2_with fail
              go_roundw
              case rel => exact ⟨k + 1, _, by omega, by go_num, by rw [List.range_succ, List.map_append]; exact HR.out.1, HR.out.2⟩
              case measure => simp [intOf]; omega
            · obtain rfl : k = 64 := by omega
              obtain ⟨av, kv, hv⟩ := owns_form hf.2.1
              simp only [List.length_map, List.length_range] at hv
              subst hv
              have HAP := Lib.hid (appendS (HSi.out.step hB) (.slice av 64 kv) (batM text i) (FactsN.lower ⟨ps, hf⟩ HSi.out.le) (short_many HL.out i) (by rw [flat_many_len, batsM_len]; omega))
              rw [ck_many HL.out (by omega)] at HAP
              unfold intV ptrV at HAP
              clear hf
              go_wp2_with fail
              refine HAP.out.mono ?_
              rintro e w5 hh
              rcases hh with ⟨h0, -⟩ | ⟨-, rfl, -, hS5⟩
              · exact absurd rfl h0
              have HS5 := Lib.hid hS5
              clear hS5 HAP
              simp only [batsM_len]
              go_wp2_with fail
              go_roundw
              case rel => exact ⟨i + 1, w5.heap.size, by omega, by go_num, by rw [batsM_succ]; exact HS5.out⟩
              case measure => simp [intOf]; omega
        · obtain rfl : i = n := by omega
          have HSn := Lib.hid hS
          have HSC := Lib.hid (scanS hS 0 (i : Int) (by unfold allInt; omega) (by unfold allInt; omega))
          have hca := cut_all (batsM text i)
          rw [batsM_len] at hca
          rw [hca] at HSC
          unfold ptrV at HSC
          clear hS hca
          go_wp2_with fail
          refine HSC.out.mono ?_
          rintro e w4 ⟨v, rfl, hB4, hf⟩
          obtain ⟨ps, hf⟩ := hf
          obtain ⟨av, kv, hv⟩ := owns_form hf.2.1
          rw [flat_many_len] at hv
          subst hv
          have HF := Lib.hid hf
          have HS4 := Lib.hid (HSn.out.step hB4)
          clear hf hB4 HSC
          go_wp2_with fail
          go_loopw [14] (fun s wr => ∃ q : Nat, q ≤ 64 * i ∧ s = .int .i64 q ∧ Below w4.heap.size w4 wr) (fun s _ => 64 * i - (intOf s).toNat)
          case atStart => exact ⟨0, by omega, rfl, Below.refl _ _⟩
          case round =>
            obtain ⟨q, hq, rfl, hB⟩ := hrel
            by_cases hltq : q < 64 * i
            · obtain ⟨b, off, c, hv, hb, ad, cd, am, cm, k0, k1, -, -, -, -, hD, hM⟩ := open_fact (FactsN.rowF ⟨ps, HF.out⟩) (flat_many_get text i hltq)
              injection hv with e1 e2 e3
              subst e1 e3
              obtain ⟨bd, od, rfl, hbd, hcd⟩ := hD (show 0 < 1 by omega)
              obtain ⟨bm, om, rfl, hbm, hcm⟩ := hM (show 0 < 2 by omega)
              have x0 : w4.cell? ⟨bd, od, none⟩ = some (.string (text ++ one (q % 64))) := hcd 0 (show 0 < 1 by omega)
              have x1 : w4.cell? ⟨bm, om, none⟩ = some (.int .i64 (q : Int)) := hcm 0 (show 0 < 2 by omega)
              have x2 : w4.cell? ⟨bm, om + 1, none⟩ = some (.int .i64 (-(q : Int))) := hcm 1 (show 1 < 2 by omega)
              rw [show (fm text q (q % 64)).dims.length = 1 from rfl] at k0
              rw [show (fm text q (q % 64)).meas.length = 2 from rfl] at k1
              have HCC := Lib.hid (show ∀ w', Below wr.heap.size wr w' → w'.cell? ⟨b, off + q * 2, none⟩ = some (.slice (some ⟨bd, od, none⟩) 1 cd) ∧ w'.cell? ⟨b, off + q * 2 + 1, none⟩ = some (.slice (some ⟨bm, om, none⟩) 2 cm) ∧ w'.cell? ⟨bd, od, none⟩ = some (.string (text ++ one (q % 64))) ∧ w'.cell? ⟨bm, om, none⟩ = some (.int .i64 (q : Int)) ∧ w'.cell? ⟨bm, om + 1, none⟩ = some (.int .i64 (-(q : Int))) from fun w' hb' => by
                have ht := Below.call hB hb'
                exact ⟨(ht.cell (p := ⟨b, _, none⟩) hb).trans k0, (ht.cell (p := ⟨b, _, none⟩) hb).trans k1, (ht.cell (p := ⟨bd, _, none⟩) hbd).trans x0, (ht.cell (p := ⟨bm, _, none⟩) hbm).trans x1, (ht.cell (p := ⟨bm, _, none⟩) hbm).trans x2⟩)
              have HBQ := Lib.hid hB
              have hqi : (q : Int) < 64 * (i : Int) := by omega
              clear k0 k1 x0 x1 x2 hD hM hcd hcm e2 hb hbd hbm hB
              go_upto_region 24 with fail
              refine hp_start (fun w' => Below wr.heap.size wr w') 40 rfl (by kernel_rfl) (fun c a a' w hd h => ⟨hd ▸ h.1, h.2⟩) (fun hP => ?_)
              rw [show Array.replicate 40 false = #[false, false, false, false, false, false, false, false, false, false, false, false, false, false, false, false, false, false, false, false, false, false, false, false, false, false, false, false, false, false, false, false, false, false, false, false, false, false, false, false] from rfl]
              have T0 : Below wr.heap.size wr wr.drew := (Below.refl _ _).drew
              obtain ⟨wz, hwz⟩ : ∃ wz, wz = wr.drew := ⟨_, rfl⟩
              rw [← hwz] at T0 ⊢
              clear hwz
              have hcv := conv_one64 wz q
              have hadd := fun w : World => run_string_add_sum (P := Try.prog) w text (one (q % 64)) (by have h1 := HL.out; have h2 := one_size (q % 64); omega)
              have g1 : IntKind.i64.wrap (-(q : Int)) = -(q : Int) := IntWalk.i64_in _ (by omega)
              have g2 : (q : Int).tmod 64 = (q : Int) % 64 := Int.tmod_eq_emod_of_nonneg (by omega)
              have g3 : ((q : Int) % 64).tmod 3 = (q : Int) % 64 % 3 := Int.tmod_eq_emod_of_nonneg (by omega)
              have g4 : IntKind.i64.wrap (97 + (q : Int) % 64 % 3) = 97 + (q : Int) % 64 % 3 := IntWalk.i64_in _ (by omega)
              have g5 : IntKind.u8.wrap (97 + (q : Int) % 64 % 3) = 97 + (q : Int) % 64 % 3 := IntWalk.u8_in _ (by omega)
              refine hp_take hP 0 (some 80) _ rfl rfl (by kernel_rfl) rfl (fun w' hS' => by go_simp; rfl) T0 ?_
              simp only [Act.put, List.setIfInBounds_toArray, List.set_cons_zero, List.set_cons_succ]
              refine hp_take hP 1 (some 81) _ rfl rfl (by kernel_rfl) rfl (fun w' hS' => by go_simp; rfl) T0 ?_
              simp only [Act.put, List.setIfInBounds_toArray, List.set_cons_zero, List.set_cons_succ]
              refine hp_take hP 2 (some 82) _ rfl rfl (by kernel_rfl) rfl (fun w' hS' => by go_simp; rfl) T0 ?_
              simp only [Act.put, List.setIfInBounds_toArray, List.set_cons_zero, List.set_cons_succ]
              refine hp_take hP 3 (some 83) _ rfl rfl (by kernel_rfl) rfl (fun w' hS' => by go_simp; rfl) T0 ?_
              simp only [Act.put, List.setIfInBounds_toArray, List.set_cons_zero, List.set_cons_succ]
              refine hp_take hP 4 (some 84) _ rfl rfl (by kernel_rfl) rfl (fun w' hS' => by have cc := (HCC.out w' hS').2.1; go_simp; first | done | rfl) T0 ?_
              simp only [Act.put, List.setIfInBounds_toArray, List.set_cons_zero, List.set_cons_succ]
              refine hp_take hP 5 (some 85) _ rfl rfl (by kernel_rfl) rfl (fun w' hS' => by go_simp; rfl) T0 ?_
              simp only [Act.put, List.setIfInBounds_toArray, List.set_cons_zero, List.set_cons_succ]
              refine hp_take hP 6 (some 86) _ rfl rfl (by kernel_rfl) rfl (fun w' hS' => by have cc := (HCC.out w' hS').2.2.2.1; go_simp; first | done | rfl) T0 ?_
              simp only [Act.put, List.setIfInBounds_toArray, List.set_cons_zero, List.set_cons_succ]
              refine hp_take hP 7 (some 87) _ rfl rfl (by kernel_rfl) rfl (fun w' hS' => by go_simp; rfl) T0 ?_
              simp only [Act.put, List.setIfInBounds_toArray, List.set_cons_zero, List.set_cons_succ]
              refine hp_take hP 8 (some 88) (.bool false) rfl rfl (by kernel_rfl) rfl (fun w' hS' => by go_simp; first | done | rfl | simp) T0 ?_
              simp only [Act.put, List.setIfInBounds_toArray, List.set_cons_zero, List.set_cons_succ]
              refine hp_take hP 9 (some 89) _ rfl rfl (by kernel_rfl) rfl (fun w' hS' => by go_simp; rfl) T0 ?_
              simp only [Act.put, List.setIfInBounds_toArray, List.set_cons_zero, List.set_cons_succ]
              refine hp_take hP 10 (some 90) _ rfl rfl (by kernel_rfl) rfl (fun w' hS' => by go_simp; rfl) T0 ?_
              simp only [Act.put, List.setIfInBounds_toArray, List.set_cons_zero, List.set_cons_succ]
              refine hp_take hP 11 (some 91) _ rfl rfl (by kernel_rfl) rfl (fun w' hS' => by go_simp; rfl) T0 ?_
              simp only [Act.put, List.setIfInBounds_toArray, List.set_cons_zero, List.set_cons_succ]
              refine hp_take hP 12 (some 92) _ rfl rfl (by kernel_rfl) rfl (fun w' hS' => by go_simp; rfl) T0 ?_
              simp only [Act.put, List.setIfInBounds_toArray, List.set_cons_zero, List.set_cons_succ]
              refine hp_take hP 13 (some 93) _ rfl rfl (by kernel_rfl) rfl (fun w' hS' => by go_simp; rfl) T0 ?_
              simp only [Act.put, List.setIfInBounds_toArray, List.set_cons_zero, List.set_cons_succ]
              refine hp_take hP 14 (some 94) _ rfl rfl (by kernel_rfl) rfl (fun w' hS' => by have cc := (HCC.out w' hS').2.1; go_simp; first | done | rfl) T0 ?_
              simp only [Act.put, List.setIfInBounds_toArray, List.set_cons_zero, List.set_cons_succ]
              refine hp_take hP 15 (some 95) _ rfl rfl (by kernel_rfl) rfl (fun w' hS' => by go_simp; rfl) T0 ?_
              simp only [Act.put, List.setIfInBounds_toArray, List.set_cons_zero, List.set_cons_succ]
              refine hp_take hP 16 (some 96) _ rfl rfl (by kernel_rfl) rfl (fun w' hS' => by have cc := (HCC.out w' hS').2.2.2.2; go_simp; first | done | rfl) T0 ?_
              simp only [Act.put, List.setIfInBounds_toArray, List.set_cons_zero, List.set_cons_succ]
              refine hp_take hP 17 (some 97) _ rfl rfl (by kernel_rfl) rfl (fun w' hS' => by go_simp; rfl) T0 ?_
              simp only [Act.put, List.setIfInBounds_toArray, List.set_cons_zero, List.set_cons_succ]
              refine hp_take hP 18 (some 98) (.int .i64 (-(q : Int))) rfl rfl (by kernel_rfl) rfl (fun w' hS' => by go_simp; first | done | rfl | simp) T0 ?_
              simp only [Act.put, List.setIfInBounds_toArray, List.set_cons_zero, List.set_cons_succ]
              refine hp_take hP 19 (some 99) (.bool false) rfl rfl (by kernel_rfl) rfl (fun w' hS' => by go_simp; first | done | rfl | simp) T0 ?_
              simp only [Act.put, List.setIfInBounds_toArray, List.set_cons_zero, List.set_cons_succ]
              refine hp_take hP 20 (some 100) _ rfl rfl (by kernel_rfl) rfl (fun w' hS' => by go_simp; rfl) T0 ?_
              simp only [Act.put, List.setIfInBounds_toArray, List.set_cons_zero, List.set_cons_succ]
              refine hp_take hP 21 (some 101) _ rfl rfl (by kernel_rfl) rfl (fun w' hS' => by go_simp; rfl) T0 ?_
              simp only [Act.put, List.setIfInBounds_toArray, List.set_cons_zero, List.set_cons_succ]
              refine hp_take hP 22 (some 102) _ rfl rfl (by kernel_rfl) rfl (fun w' hS' => by go_simp; rfl) T0 ?_
              simp only [Act.put, List.setIfInBounds_toArray, List.set_cons_zero, List.set_cons_succ]
              refine hp_take hP 23 (some 103) _ rfl rfl (by kernel_rfl) rfl (fun w' hS' => by go_simp; rfl) T0 ?_
              simp only [Act.put, List.setIfInBounds_toArray, List.set_cons_zero, List.set_cons_succ]
              refine hp_take hP 24 (some 104) _ rfl rfl (by kernel_rfl) rfl (fun w' hS' => by go_simp; rfl) T0 ?_
              simp only [Act.put, List.setIfInBounds_toArray, List.set_cons_zero, List.set_cons_succ]
              refine hp_take hP 25 (some 105) _ rfl rfl (by kernel_rfl) rfl (fun w' hS' => by go_simp; rfl) T0 ?_
              simp only [Act.put, List.setIfInBounds_toArray, List.set_cons_zero, List.set_cons_succ]
              refine hp_take hP 26 (some 106) _ rfl rfl (by kernel_rfl) rfl (fun w' hS' => by have cc := (HCC.out w' hS').1; go_simp; first | done | rfl) T0 ?_
              simp only [Act.put, List.setIfInBounds_toArray, List.set_cons_zero, List.set_cons_succ]
              refine hp_take hP 27 (some 107) _ rfl rfl (by kernel_rfl) rfl (fun w' hS' => by go_simp; rfl) T0 ?_
              simp only [Act.put, List.setIfInBounds_toArray, List.set_cons_zero, List.set_cons_succ]
              refine hp_take hP 28 (some 108) _ rfl rfl (by kernel_rfl) rfl (fun w' hS' => by have cc := (HCC.out w' hS').2.2.1; go_simp; first | done | rfl) T0 ?_
              simp only [Act.put, List.setIfInBounds_toArray, List.set_cons_zero, List.set_cons_succ]
              refine hp_take hP 29 (some 109) _ rfl rfl (by kernel_rfl) rfl (fun w' hS' => by go_simp; rfl) T0 ?_
              simp only [Act.put, List.setIfInBounds_toArray, List.set_cons_zero, List.set_cons_succ]
              refine hp_take hP 30 (some 110) _ rfl rfl (by kernel_rfl) rfl (fun w' hS' => by go_simp; rfl) T0 ?_
              simp only [Act.put, List.setIfInBounds_toArray, List.set_cons_zero, List.set_cons_succ]
              refine hp_take hP 31 (some 111) (.int .i64 ((q : Int) % 64)) rfl rfl (by kernel_rfl) rfl (fun w' hS' => by go_simp; first | done | rfl | simp) T0 ?_
              simp only [Act.put, List.setIfInBounds_toArray, List.set_cons_zero, List.set_cons_succ]
              refine hp_take hP 32 (some 112) (.int .i64 ((q : Int) % 64 % 3)) rfl rfl (by kernel_rfl) rfl (fun w' hS' => by go_simp; first | done | rfl | simp) T0 ?_
              simp only [Act.put, List.setIfInBounds_toArray, List.set_cons_zero, List.set_cons_succ]
              refine hp_take hP 33 (some 113) (.int .i64 (97 + (q : Int) % 64 % 3)) rfl rfl (by kernel_rfl) rfl (fun w' hS' => by go_simp; first | done | rfl | simp) T0 ?_
              simp only [Act.put, List.setIfInBounds_toArray, List.set_cons_zero, List.set_cons_succ]
              refine hp_take hP 34 (some 114) (.int .u8 (97 + (q : Int) % 64 % 3)) rfl rfl (by kernel_rfl) rfl (fun w' hS' => by go_simp; first | done | rfl | simp) T0 ?_
              simp only [Act.put, List.setIfInBounds_toArray, List.set_cons_zero, List.set_cons_succ]
              refine hp_val 35 (some 115) rfl rfl (by kernel_rfl) rfl (.slice (some ⟨wz.heap.size, 0, none⟩) 1 1) (wz.alloc (Obj.cells #[.int .u8 (97 + (q : Int) % 64 % 3)] 5)) (by go_simp; first | done | rfl) (Below.al T0 _) ?_
              have T1 := Below.al T0 (Obj.cells #[.int .u8 (97 + (q : Int) % 64 % 3)] 5)
              simp only [Act.put, List.setIfInBounds_toArray, List.set_cons_zero, List.set_cons_succ]
              refine hp_val 36 (some 116) rfl rfl (by kernel_rfl) rfl (.string (one (q % 64))) _ (by go_simp; first | done | rfl) T1 ?_
              have T2 := T1
              simp only [Act.put, List.setIfInBounds_toArray, List.set_cons_zero, List.set_cons_succ]
              refine hp_take hP 37 (some 117) _ rfl rfl (by kernel_rfl) rfl (fun w' hS' => by go_simp; rfl) T2 ?_
              simp only [Act.put, List.setIfInBounds_toArray, List.set_cons_zero, List.set_cons_succ]
              refine hp_take hP 38 (some 118) (.bool false) rfl rfl (by kernel_rfl) rfl (fun w' hS' => by go_simp; first | done | rfl | simp) T2 ?_
              simp only [Act.put, List.setIfInBounds_toArray, List.set_cons_zero, List.set_cons_succ]
              refine hp_take hP 39 (some 119) _ rfl rfl (by kernel_rfl) rfl (fun w' hS' => by go_simp; rfl) T2 ?_
              simp only [Act.put, List.setIfInBounds_toArray, List.set_cons_zero, List.set_cons_succ]
              refine hk_done (by kernel_rfl) ?_
              clear g1 g2 g3 g4 g5
              clear hP hcv hadd
              go_wp2_with fail
              go_roundw
              case rel => exact ⟨q + 1, by omega, by go_num, Below.call HBQ.out T1⟩
              case measure => simp [intOf]; omega
            · obtain rfl : q = 64 * i := by omega
              have HSf := Lib.hid (HS4.out.step hB)
              have HSG := Lib.hid (segsS HSf.out (by rw [flat_many_len]; omega))
              have hwant := many_vals text i
              rw [flat_many_len] at HSG
              unfold ptrV intV at HSG
              clear hB
              rw [show (((64 * i + 255) / 256 : Nat) : Int) = (64 * (i : Int) + 255) / 256 by omega] at HSG
              have HH := Lib.hid hwant
              clear hwant
              have hcat := fun w : World => run_string_add_sum (P := Try.prog) w text ⟨#[97]⟩ (by have h1 := HL.out; have e : (⟨#[97]⟩ : ByteArray).size = 1 := rfl; omega)
              have hca := cut_all (batsM text i)
              rw [batsM_len] at hca
              have HCA := Lib.hid hca
              clear hca
              obtain ⟨z, hz⟩ : ∃ z : Nat, z = if 0 < i then 3 else 0 := ⟨_, rfl⟩
              rw [← hz] at HH
              by_cases hpos : 0 < i
              all_goals
                first | (rw [if_pos hpos] at hz; have hposI : decide (0 < (i : Int)) = true := decide_eq_true (by omega)) | (rw [if_neg hpos] at hz; have hposI : decide (0 < (i : Int)) = false := decide_eq_false (by omega))
                subst hz
                go_wp2_with fail
                refine HSG.out.mono ?_
                rintro e w12 ⟨rfl, n2, rfl⟩
                have HS12 := Lib.hid (HSf.out.step (Below.drewN (Below.refl _ _) n2))
                have HV := Lib.hid (valuesS HS12.out 0 (by unfold allInt; omega))
                rw [if_pos (by omega), show (0 : Int).toNat = 0 from rfl, HH.out] at HV
                unfold intV ptrV at HV
                go_wp2_with fail
                refine HV.out.mono ?_
                rintro e w13 ⟨rfl, hB13⟩
                have HS13 := Lib.hid (HS12.out.step hB13)
                have HM := Lib.hid (matchS HS13.out 0 (by unfold allInt; omega) (text ++ ⟨#[97]⟩) (by rw [ByteArray.size_append]; have h1 := HL.out; have e : (⟨#[97]⟩ : ByteArray).size = 1 := rfl; unfold maxLen; omega) (i : Int) (by unfold allInt; omega))
                rw [if_pos (by omega), show (0 : Int).toNat = 0 from rfl, HCA.out, show text ++ ⟨#[97]⟩ = text ++ one 0 from rfl, many_match] at HM
                rw [show text ++ one 0 = text ++ ⟨#[97]⟩ from rfl] at HM
                unfold intV ptrV at HM
                simp only [Int.natCast_mul] at HM
                clear HV hB13
                go_wp2_with fail
                refine HM.out.mono ?_
                rintro e w14 ⟨rfl, hB14⟩
                have HB14 := Lib.hid hB14
                clear hB14
                go_wp2_with fail
                go_ret
                exact ⟨rfl, Below.call (Below.call HB1.out HS13.out.below) HB14.out⟩
theorem manyLaw (b : Int) (s : ByteArray) (w : World) (hb : (Lit.int .i64 b).wf = true) (hs : s.size ≤ 140737488351232) :
    Calls Try.prog 4 #[.int .i64 b, .string s] w fun e w' => e = .returned (.bool true) ∧ Below w.heap.size w w' := many4 b (wf_bd hb) s hs w
end Go.Proofs.Ytdpgpcffhhdpiaa
