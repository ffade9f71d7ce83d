/- The reference's Words. -/
import Derived.Test.YtofjifhnkcghpaaDoorW
namespace Go.Proofs.YtofjifhnkcghpaaDoor
open Go.RowKit
set_option linter.unusedVariables false
set_option linter.unusedSimpArgs false
set_option maxRecDepth 100000
/-- what stands from round to round -/
structure KeepX (w wr : World) (v : Value) (acc : List Wd) : Prop where
  row : wr.ownsRow (w.heap.size + 1) 31 3 v acc.length (rowC acc)
  res : Blk wr w.heap.size 26 #[.int .i64 0, .int .i64 0]
  bel : Below w.heap.size w wr
theorem KeepX.size {w wr : World} {v : Value} {acc : List Wd} (h : KeepX w wr v acc) : w.heap.size + 1 ≤ wr.heap.size := by have := h.res.lt; omega
theorem KeepX.next {w wr w' : World} {v : Value} {acc : List Wd} (h : KeepX w wr v acc) (hb : Below wr.heap.size wr w') : KeepX w w' v acc :=
  ⟨owns_below h.row hb (Nat.le_refl _), h.res.below hb (by have := h.size; omega), h.bel.trans (hb.mono (by have := h.size; omega))⟩
theorem KeepX.app {w wr w' : World} {v v' : Value} {acc : List Wd} {wd : Wd} (h : KeepX w wr v acc) (ho : w'.ownsRow (w.heap.size + 1) 31 3 v' (acc.length + 1) (rowC acc ++ wordC wd)) (hg : wr.grownBy w' v.ownBlock) : KeepX w w' v' (acc ++ [wd]) := by
  have hv : ∀ g, v.ownBlock = some g → w.heap.size + 1 ≤ g := fun g e => by
    rcases h.row.2 with ⟨rfl, -⟩ | ⟨g', cap, cur, rfl, hg', _⟩
    · cases e
    · cases e; exact hg'
  refine ⟨by rw [List.length_append, ← rowC_app]; exact ho, h.res.grown hg (fun e => by have := hv _ e.symm; omega), ?_⟩
  refine ⟨hg.os.trans h.bel.os, hg.tape.trans h.bel.tape, hg.output.trans h.bel.output, Nat.le_trans h.bel.size hg.size, fun k hk => (hg.block k (Nat.lt_of_lt_of_le hk h.bel.size) (fun e => ?_)).trans (h.bel.block k hk)⟩
  have := hv _ e.symm
  omega
set_option maxHeartbeats 8000000 in
theorem words10 (s : ByteArray) (w : World) (hs : s.size ≤ 140737488355328) :
    Calls Tryd.prog 10 #[.string s] w fun e w' => ∃ v, e = .returned (.tuple #[v, .agg (faultC (lexF s))]) ∧ HasW w' w.heap.size v (okL (lexF s)) ∧ Below w.heap.size w w' := by
  by_cases hbig : 4096 < s.size
  · have hd : decide ((4096 : Int) < (s.size : Int)) = true := decide_eq_true (by omega)
    have hF : lexF s = .error (45, 0) := by unfold lexF; rw [if_pos hbig]
    rw [hF]
    go_enter Tryd.func10, Tryd.ntmps10
    go_wp2_with fail
    first | rw [Exit.noGoto_ret] | skip
    refine bodyPost_ret (results_tmp_cell rfl _ _ w.heap.size 26 _ (0, 0) _ rfl (heap_alloc_new w _) Tryd.underlying26 rfl (info26 _ _)) rfl ?_
    exact ⟨_, rfl, .inl ⟨rfl, rfl⟩, (Below.refl _ w).alloc (Nat.le_refl _) _⟩
  · have hd : decide ((4096 : Int) < (s.size : Int)) = false := decide_eq_false (by omega)
    have hF : lexF s = lexL 0 s.data.toList := by unfold lexF; rw [if_neg hbig]
    rw [hF]
    obtain ⟨TOT, hTOT⟩ : ∃ T, T = lexL 0 s.data.toList := ⟨_, rfl⟩
    rw [← hTOT]
    have HTOT := Lib.hid hTOT
    clear hTOT hF
    go_enter Tryd.func10, Tryd.ntmps10
    go_wp2_with fail
    go_loopw [4, 5] (fun v x wr => ∃ (p : Nat) (acc : List Wd), p ≤ s.size ∧ acc.length ≤ p ∧ x = .int .i64 p ∧ TOT = (lexL p (s.data.toList.drop p)).map (acc ++ ·) ∧ KeepX w wr v acc) (fun _ x _ => s.size - (intOf x).toNat)
    case atStart =>
      have hb1 := Blk.new w 26 #[.int .i64 0, .int .i64 0]
      refine ⟨0, [], by omega, by simp, rfl, ?_, ⟨⟨rfl, .inl ⟨rfl, rfl⟩⟩, hb1, (Below.refl _ w).alloc (Nat.le_refl _) _⟩⟩
      rw [HTOT.out, List.drop_zero]
      cases lexL 0 s.data.toList <;> rfl
    case round =>
      obtain ⟨p, acc, hp, hac, rfl, htot, hkp⟩ := hrel
      by_cases hlt : p < s.size
      · have hdp : decide ((p : Int) < (s.size : Int)) = true := decide_eq_true (by omega)
        have hdrop := str_drop s hlt
        have HP := Lib.hid (And.intro htot (And.intro hkp hdrop))
        clear htot hkp hdrop
        go_wp2_with fail
        refine (blank20 s[p] wr).mono ?_
        rintro e w1 ⟨rfl, rfl⟩
        by_cases hbl : isBlank s[p] = true
        · rw [hbl]
          have HBL := Lib.hid hbl
          clear hbl
          go_wp2_with fail
          refine ⟨⟨p + 1, acc, by omega, by omega, by first | rfl | go_num, ?_, HP.out.2.1⟩, by simp [intOf]; omega⟩
          rw [HP.out.1, HP.out.2.2, lexL_blank (blank_tok HBL.out)]
        · have hbl : isBlank s[p] = false := by simpa using hbl
          rw [hbl]
          go_wp2_with fail
          refine (word21 s p wr hlt (by omega) hbl).mono ?_
          rintro e w2 ⟨rfl, hb2⟩
          have HK2 := Lib.hid (HP.out.2.1.next hb2)
          clear hb2
          cases htok : tokL (s.data.toList.drop p) with
          | blank =>
            rw [HP.out.2.2] at htok
            have := tok_blank htok
            rw [hbl] at this; cases this
          | word k t n =>
            rw [HP.out.2.2] at htok
            have HTK := Lib.hid htok
            clear htok hbl
            dsimp only [tokV]
            have hpos := tokL_pos HTK.out
            have hle := tokL_le HTK.out
            rw [List.length_cons, List.length_drop, str_len] at hle
            obtain ⟨pn, hpn⟩ : ∃ pn, pn = p + n := ⟨_, rfl⟩
            rw [← hpn]
            have hpn1 : p < pn := by omega
            have hpn2 : pn ≤ s.size := by omega
            have HPN := Lib.hid hpn
            clear hpn hpos hle
            go_upto_region 9 with (fail)
            have hb3 := ((Below.refl w2.heap.size w2).alloc (Nat.le_refl _) (.cells #[.int .i64 k, .string ⟨t.toArray⟩, .int .i64 (p : Int)] 31)).alloc (by simp) (.cells #[.int .i64 0, .int .i64 0] 26)
            have hb4 : Blk ((w2.alloc (.cells #[.int .i64 k, .string ⟨t.toArray⟩, .int .i64 (p : Int)] 31)).alloc (.cells #[.int .i64 0, .int .i64 0] 26)) w2.heap.size 31 #[.int .i64 k, .string ⟨t.toArray⟩, .int .i64 (p : Int)] := (Blk.new w2 31 #[.int .i64 k, .string ⟨t.toArray⟩, .int .i64 (p : Int)]).alloc _
            have hb5 : Blk ((w2.alloc (.cells #[.int .i64 k, .string ⟨t.toArray⟩, .int .i64 (p : Int)] 31)).alloc (.cells #[.int .i64 0, .int .i64 0] 26)) (w2.heap.size + 1) 26 #[.int .i64 0, .int .i64 0] := Blk.newAt (w2.alloc (.cells #[.int .i64 k, .string ⟨t.toArray⟩, .int .i64 (p : Int)] 31)) 26 #[.int .i64 0, .int .i64 0] (by simp)
            have hb6 : w2.heap.size + 2 = ((w2.alloc (.cells #[.int .i64 k, .string ⟨t.toArray⟩, .int .i64 (p : Int)] 31)).alloc (.cells #[.int .i64 0, .int .i64 0] 26)).heap.size := by simp
            generalize (w2.alloc (.cells #[.int .i64 k, .string ⟨t.toArray⟩, .int .i64 (p : Int)] 31)).alloc (.cells #[.int .i64 0, .int .i64 0] 26) = w3 at hb3 hb4 hb5 hb6 ⊢
            have hk3 := HK2.out.next hb3
            have g0 : w3.cell? ⟨w2.heap.size + 1, 0, none⟩ = some (.int .i64 0) := Blk.cell hb5 0
            have g1 : w3.cell? ⟨w2.heap.size + 1, 1, none⟩ = some (.int .i64 0) := Blk.cell hb5 1
            have l0 : w3.cell? ⟨w2.heap.size, 0, none⟩ = some (.int .i64 k) := Blk.cell hb4 0
            have l1 : w3.cell? ⟨w2.heap.size, 1, none⟩ = some (.string ⟨t.toArray⟩) := Blk.cell hb4 1
            have l2 : w3.cell? ⟨w2.heap.size, 2, none⟩ = some (.int .i64 (p : Int)) := Blk.cell hb4 2
            have H3 := Lib.hid hk3
            clear hb3 hb4 hb5 hb6 hk3
            obtain ⟨i31, hi31, hz0, hz1, hz2⟩ := info_parts info31
            go_wp2_with (at_builtin; refine wpList_append_own _ rfl _ _ 23 rfl (w.heap.size + 1) 31 i31 (.agg #[.int .i64 0, .string ⟨#[]⟩, .int .i64 0]) 3 32 Tryd.underlying23 hi31 hz0 hz1 hz2 rfl (by decide) _ _ _ rfl (H3.out.row.alloc _) ⟨w3.heap.size, 0, none⟩ 1 1 [.int .i64 k, .string ⟨t.toArray⟩, .int .i64 (p : Int)] rfl rfl (cells3_new w3 31 _ _ _) (one3 _ _ _) (by unfold maxLen; omega) (by omega) (by have := H3.out.size; simp; omega) ?_; intro v6 w6 hown6 hgrow6 _; have HA := Lib.hid (And.intro hown6 hgrow6); clear hown6 hgrow6)
            have hfin : TOT = (lexL pn (s.data.toList.drop pn)).map ((acc ++ [⟨k, t, p⟩]) ++ ·) := by
              have h1 := HP.out.1
              have h2 := lexL_word (p := p) HTK.out
              rw [← HP.out.2.2, List.drop_drop, ← HPN.out] at h2
              rw [h2, map_app] at h1
              exact h1
            have hk := (H3.out.next ((Below.refl w3.heap.size w3).alloc (Nat.le_refl _) (.cells #[.int .i64 k, .string ⟨t.toArray⟩, .int .i64 (p : Int)] 31))).app (wd := ⟨k, t, p⟩) (v' := v6) (w' := w6) HA.out.1 HA.out.2
            exact ⟨⟨pn, acc ++ [⟨k, t, p⟩], by omega, by simp; omega, by first | rfl | go_num, hfin, hk⟩, by simp [intOf]; omega⟩
          | bad e o =>
            rw [HP.out.2.2] at htok
            have HTK := Lib.hid htok
            clear htok hbl
            dsimp only [tokV]
            obtain ⟨pn, hpn⟩ : ∃ pn, pn = p + o := ⟨_, rfl⟩
            rw [← hpn]
            have HPN := Lib.hid hpn
            clear hpn
            have hez : (e == 0) = false := by have := lexL_err (s.data.toList.drop p) p (e := e) (o := p + o) (by rw [HP.out.2.2]; exact lexL_bad HTK.out); simp; omega
            go_upto_region 9 with (fail)
            have hb3 := ((Below.refl w2.heap.size w2).alloc (Nat.le_refl _) (.cells #[.int .i64 0, .string ⟨#[]⟩, .int .i64 0] 31)).alloc (by simp) (.cells #[.int .i64 e, .int .i64 (pn : Int)] 26)
            have hb4 : Blk ((w2.alloc (.cells #[.int .i64 0, .string ⟨#[]⟩, .int .i64 0] 31)).alloc (.cells #[.int .i64 e, .int .i64 (pn : Int)] 26)) w2.heap.size 31 #[.int .i64 0, .string ⟨#[]⟩, .int .i64 0] := (Blk.new w2 31 #[.int .i64 0, .string ⟨#[]⟩, .int .i64 0]).alloc _
            have hb5 : Blk ((w2.alloc (.cells #[.int .i64 0, .string ⟨#[]⟩, .int .i64 0] 31)).alloc (.cells #[.int .i64 e, .int .i64 (pn : Int)] 26)) (w2.heap.size + 1) 26 #[.int .i64 e, .int .i64 (pn : Int)] := Blk.newAt (w2.alloc (.cells #[.int .i64 0, .string ⟨#[]⟩, .int .i64 0] 31)) 26 #[.int .i64 e, .int .i64 (pn : Int)] (by simp)
            have hb6 : w2.heap.size + 2 = ((w2.alloc (.cells #[.int .i64 0, .string ⟨#[]⟩, .int .i64 0] 31)).alloc (.cells #[.int .i64 e, .int .i64 (pn : Int)] 26)).heap.size := by simp
            generalize (w2.alloc (.cells #[.int .i64 0, .string ⟨#[]⟩, .int .i64 0] 31)).alloc (.cells #[.int .i64 e, .int .i64 (pn : Int)] 26) = w3 at hb3 hb4 hb5 hb6 ⊢
            have hk3 := HK2.out.next hb3
            have g0 : w3.cell? ⟨w2.heap.size + 1, 0, none⟩ = some (.int .i64 e) := Blk.cell hb5 0
            have g1 : w3.cell? ⟨w2.heap.size + 1, 1, none⟩ = some (.int .i64 (pn : Int)) := Blk.cell hb5 1
            have l0 : w3.cell? ⟨w2.heap.size, 0, none⟩ = some (.int .i64 0) := Blk.cell hb4 0
            have l1 : w3.cell? ⟨w2.heap.size, 1, none⟩ = some (.string ⟨#[]⟩) := Blk.cell hb4 1
            have l2 : w3.cell? ⟨w2.heap.size, 2, none⟩ = some (.int .i64 0) := Blk.cell hb4 2
            have H3 := Lib.hid hk3
            clear hb3 hb4 hb5 hb6 hk3
            have r0 : w3.cell? ⟨w.heap.size, 0, none⟩ = some (.int .i64 0) := Blk.cell H3.out.res 0
            have r1 : w3.cell? ⟨w.heap.size, 1, none⟩ = some (.int .i64 0) := Blk.cell H3.out.res 1
            have s0 := Blk.free H3.out.res 0
            have s1 := Blk.free H3.out.res 1
            go_wp2_with fail
            go_region
            go_wp2_with fail
            first | rw [Exit.noGoto_ret] | skip
            refine bodyPost_ret (results_tmp_cell rfl _ _ w.heap.size 26 #[.int .i64 e, .int .i64 (pn : Int)] (0, 0) _ rfl (Blk.drew (Blk.set (Blk.set H3.out.res 0 _) 1 _)) Tryd.underlying26 rfl (info26 _ _)) rfl ?_
            have hTT : TOT = .error (e, pn) := by
              have h1 := HP.out.1
              rw [HP.out.2.2, lexL_bad HTK.out, ← HPN.out] at h1
              exact h1
            rw [hTT]
            exact ⟨_, rfl, .inl ⟨rfl, rfl⟩, ((H3.out.bel.setCell (p := ⟨w.heap.size, 0, none⟩) (Nat.le_refl _) _).setCell (p := ⟨w.heap.size, 1, none⟩) (Nat.le_refl _) _).drew⟩
      · have hdp : decide ((p : Int) < (s.size : Int)) = false := decide_eq_false (by omega)
        have hpe : p = s.size := by omega
        have htt : TOT = .ok (acc ++ [⟨6, [], s.size⟩]) := by rw [htot, hpe, str_end s (Nat.le_refl _), lexL_nil]; rfl
        have HP := Lib.hid (And.intro htt hkp)
        have hsz := hkp.size
        obtain ⟨i31, hi31, hz0, hz1, hz2⟩ := info_parts info31
        clear htot htt hkp
        go_wp2_with (at_builtin; refine wpList_append_own _ rfl _ _ 23 rfl (w.heap.size + 1) 31 i31 (.agg #[.int .i64 0, .string ⟨#[]⟩, .int .i64 0]) 3 32 Tryd.underlying23 hi31 hz0 hz1 hz2 rfl (by decide) _ _ _ rfl (HP.out.2.row.alloc _) ⟨wr.heap.size, 0, none⟩ 1 1 [.int .i64 6, .string ⟨#[]⟩, .int .i64 (s.size : Int)] rfl rfl (cells3_new wr 31 _ _ _) (one3 _ _ _) (by unfold maxLen; omega) (by omega) (by simp; omega) ?_; intro v6 w6 hown6 hgrow6 _; have hk6 := (HP.out.2.next ((Below.refl wr.heap.size wr).alloc (Nat.le_refl _) (.cells #[.int .i64 6, .string ⟨#[]⟩, .int .i64 (s.size : Int)] 31))).app (wd := ⟨6, [], s.size⟩) (v' := v6) (w' := w6) hown6 hgrow6; have hw6 := HasW.of hk6.row; have r0 := Blk.cell hk6.res 0; have r1 := Blk.cell hk6.res 1; have s0 := Blk.free hk6.res 0; have s1 := Blk.free hk6.res 1; have HA := Lib.hid (And.intro hk6 hw6); clear hown6 hgrow6 hk6 hw6)
        first | rw [Exit.noGoto_ret] | skip
        refine bodyPost_ret (results_tmp_cell rfl _ _ w.heap.size 26 #[.int .i64 0, .int .i64 0] (0, 0) _ rfl (Blk.set (Blk.set HA.out.1.res 0 _) 1 _) Tryd.underlying26 rfl (info26 _ _)) rfl ?_
        rw [HP.out.1]
        exact ⟨_, rfl, ((HA.out.2.other (p := ⟨w.heap.size, 0, none⟩) (by simp) _).other (p := ⟨w.heap.size, 1, none⟩) (by simp) _).base (by omega), (HA.out.1.bel.setCell (p := ⟨w.heap.size, 0, none⟩) (Nat.le_refl _) _).setCell (p := ⟨w.heap.size, 1, none⟩) (Nat.le_refl _) _⟩
end Go.Proofs.YtofjifhnkcghpaaDoor
