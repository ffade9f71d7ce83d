/- DictOrder: the walk. -/
import Derived.Test.YtiihnepfcgmghaaS
import Derived.Test.YtiihnepfcgmghaaBase15
namespace Go.Proofs.Ytiihnepfcgmghaa
open Go.RowKit Go.Maps
set_option linter.unusedVariables false
set_option linter.unusedSimpArgs false
set_option maxRecDepth 100000 in
set_option maxHeartbeats 32000000 in
theorem order5 (v : Value) (T : List ByteArray) (hT : ∀ s ∈ T, s.size ≤ maxLen) (w : World) (hr : RowS w.heap.size w v T) (hlen : T.length * 16 ≤ 140737488351232) :
    Calls Try.prog 5 #[v] w fun e w' => e = .returned (.bool true) ∧ Below w.heap.size w w' := by
  obtain ⟨i0, hi0, hz0, hz1, hz2⟩ := info_parts info3
  obtain ⟨i1, hj0, hy0, hy1, hy2⟩ := info_parts info9
  obtain ⟨ta, tc, rfl, hcap, hmax, hcT⟩ := hr.open
  have HT := Lib.hid hcT
  have HS := Lib.hid hT
  have HAW := Lib.hid (awake8 w)
  clear hcT hr hT
  go_enter Try.func5, Try.ntmps5
  go_wp2_with fail
  refine HAW.out.mono ?_
  rintro e w2 ⟨rfl, hB2⟩
  have HB2 := Lib.hid hB2
  have HN := Lib.hid (new9p w2)
  unfold ptrV at HN
  clear hB2 HAW
  go_wp2_with fail
  refine HN.out.mono ?_
  rintro e w3 ⟨rfl, hS⟩
  have HD := Lib.hid hS
  clear hS HN
  go_wp2_with fail
  go_loopw [5, 6, 7] (fun u y s wr => ∃ (i : Nat) (F : Nat → Prop) (l K : List ByteArray) (I : List Nat), i ≤ T.length ∧ i ≤ 200 ∧ s = .int .i64 i ∧ DF w2 F w2.heap.size wr l ∧ Kept l K I ∧ K.length ≤ i ∧ l.length ≤ i ∧ RowG w2 F wr 3 u I.length (natV I) ∧ RowG w2 F wr 9 y K.length (K.map Value.string)) (fun _ _ s _ => T.length - (intOf s).toNat)
  case atStart => exact ⟨0, _, [], [], [], by omega, by omega, rfl, HD.out, Kept.nil, by simp, by simp, RowG.nil _ _ _ _, RowG.nil _ _ _ _⟩
  case round =>
    obtain ⟨i, F, l, K, I, hi, hi2, rfl, hS, hk, hKi, hli, hru, hry⟩ := hrel
    obtain ⟨ua, uc, rfl⟩ := owns_form hru.owns
    obtain ⟨ya, yc, rfl⟩ := owns_form hry.owns
    by_cases hlt : i < T.length ∧ i < 200
    · obtain ⟨hlt1, hlt2⟩ := hlt
      have hd1 : decide ((i : Int) < T.length) = true := decide_eq_true (by omega)
      have hd2 : decide ((i : Int) < 200) = true := decide_eq_true (by omega)
      obtain ⟨bt, off, rfl, hbt, hct⟩ := HT.out (by omega)
      have hw : w.heap.size ≤ w2.heap.size := HB2.out.size
      have GC := Lib.hid (fun (wx : World) (hb : Below w2.heap.size w2 wx) => ((hb.cell (p := ⟨bt, off + i, none⟩) (by show bt < _; omega)).trans (HB2.out.cell (p := ⟨bt, off + i, none⟩) hbt)).trans (hct i hlt1))
      have hsz := HS.out _ (getD_mem (d := ByteArray.empty) hlt1)
      generalize T.getD i ByteArray.empty = tx at *
      have g1 := GC.out wr hS.below
      have HP := Lib.hid (hS.put tx hsz (by omega))
      have HI := Lib.hid (And.intro hS (And.intro hk (And.intro hKi (And.intro hli (And.intro hru hry)))))
      unfold ptrV at HP
      clear hct HT HS hS hk hKi hli hru hry
      by_cases hlong : 64 < tx.size
      · have hd3 : decide ((64 : Int) < tx.size) = true := decide_eq_true (by omega)
        unfold putId putEr putT at HP
        rw [if_pos hlong, if_pos hlong, if_pos hlong] at HP
        go_wp2_with fail
        refine HP.out.mono ?_
        rintro e w4 ⟨k, rfl, ht, hk4, h4⟩
        have g1 := GC.out w4 h4.below
        have H4 := Lib.hid (And.intro h4 (And.intro (HI.out.2.2.2.2.1.call (k := k) ht) (HI.out.2.2.2.2.2.call (k := k) ht)))
        clear h4 HP ht hk4
        go_wp2_with fail
        go_roundw
        case rel => exact ⟨i + 1, _, l, K, I, by omega, by omega, by go_num, H4.out.1, HI.out.2.1, by have := HI.out.2.2.1; omega, by have := HI.out.2.2.2.1; omega, H4.out.2.1, H4.out.2.2⟩
        case measure => simp [intOf]; omega
      · have hd3 : decide ((64 : Int) < tx.size) = false := decide_eq_false (by omega)
        unfold putId putEr putT at HP
        rw [if_neg hlong, if_neg hlong, if_neg hlong] at HP
        have hlen1 : I.length ≤ 200 := by have := HI.out.2.1.len; have := HI.out.2.2.1; omega
        have hlen2 : K.length ≤ 200 := by have := HI.out.2.2.1; omega
        go_wp2_with fail
        refine HP.out.mono ?_
        rintro e w4 ⟨k, rfl, ht, hk4, h4⟩
        have g1 := GC.out w4 h4.below
        have H4 := Lib.hid (And.intro h4 (And.intro (HI.out.2.2.2.2.1.call (k := k) ht) (HI.out.2.2.2.2.2.call (k := k) ht)))
        clear h4 HP ht hk4
        go_upto_region 17 with (at_builtin; refine wpList_append_own5 _ rfl _ _ 31 rfl w2.heap.size 3 i0 (.int .i64 0) 1 8 Try.underlying31 hi0 hz0 hz1 hz2 rfl (by decide) (.slice ua I.length uc) I.length (natV I) rfl (H4.out.2.1.owns.alloc (Obj.cells #[.int .i64 ((putN l tx : Nat) : Int)] 3)) ⟨w4.heap.size, 0, none⟩ 1 1 [.int .i64 ((putN l tx : Nat) : Int)] rfl rfl (cell_one_new' _ _ _) (by intro u hu; simp at hu; subst hu; rfl) (by unfold maxLen; omega) (by omega) (by have := H4.out.1.below.size; simp; omega) ?_; intro v' w5 hown hgrow hat; obtain ⟨v5a, v5c, hv5⟩ := owns_form hown; subst hv5)
        obtain ⟨h5, hr5, ht5⟩ := RowG.push H4.out.1 H4.out.2.1 hown hgrow hat
        have g1 := GC.out w5 h5.below
        have H5 := Lib.hid (And.intro h5 (And.intro hr5 (H4.out.2.2.keep ht5 (H4.out.2.1.apart H4.out.2.2 (by decide)))))
        clear h5 hr5 ht5 hown hgrow hat
        go_upto_region 9 with (at_builtin; refine wpList_append_own5 _ rfl _ _ 34 rfl w2.heap.size 9 i1 (.string ⟨#[]⟩) 1 16 Try.underlying34 hj0 hy0 hy1 hy2 rfl (by decide) (.slice ya K.length yc) K.length (K.map Value.string) rfl (H5.out.2.2.owns.alloc (Obj.cells #[.string tx] 9)) ⟨w5.heap.size, 0, none⟩ 1 1 [.string tx] rfl rfl (cell_one_new' _ _ _) (by intro u hu; simp at hu; subst hu; rfl) (by unfold maxLen; omega) (by omega) (by have := H5.out.1.below.size; simp; omega) ?_; intro v' w6 hown hgrow hat; obtain ⟨v6a, v6c, hv6⟩ := owns_form hown; subst hv6)
        obtain ⟨h6, hr6, ht6⟩ := RowG.push H5.out.1 H5.out.2.2 hown hgrow hat
        have H6 := Lib.hid (And.intro h6 (And.intro (H5.out.2.1.keep ht6 (H5.out.2.2.apart H5.out.2.1 (by decide))) hr6))
        clear h6 hr6 ht6 hown hgrow hat
        go_wp2_with fail
        go_roundw
        case rel =>
          refine ⟨i + 1, _, putL l tx, K ++ [tx], I ++ [putN l tx], by omega, by omega, by go_num, H6.out.1, HI.out.2.1.step (by omega), ?_, ?_, ?_, ?_⟩
          · have := HI.out.2.2.1; simp; omega
          · have := HI.out.2.2.2.1; have := putL_len l tx; omega
          · rw [List.length_append, show natV (I ++ [putN l tx]) = natV I ++ [.int .i64 ((putN l tx : Nat) : Int)] by unfold natV; rw [List.map_append]; rfl]; exact H6.out.2.1
          · rw [List.length_append, List.map_append]; exact H6.out.2.2
        case measure => simp [intOf]; omega
    · have hor : (decide ((i : Int) < T.length) = false ∧ T.length ≤ i) ∨ (decide ((i : Int) < T.length) = true ∧ i < T.length ∧ decide ((i : Int) < 200) = false ∧ 200 ≤ i) := by
        by_cases h : i < T.length
        · exact .inr ⟨decide_eq_true (by omega), h, decide_eq_false (by omega), by omega⟩
        · exact .inl ⟨decide_eq_false (by omega), by omega⟩
      have hKn : K.length ≤ 200 := by omega
      have hln : l.length ≤ 200 := by omega
      have HI := Lib.hid (And.intro hS (And.intro hk (And.intro hru hry)))
      have HL := Lib.hid (lenD hS.dic)
      have hmk := fun w => mk39 l.length (by omega) w
      unfold ptrV at HL
      clear hS hk hKi hli hi hi2 hlt HT HS hcap hmax hlen HD hru hry
      rcases hor with ⟨hd1, hd3⟩ | ⟨hd1, hd3, hd2, hd4⟩ <;> (
        go_wp2_with fail
        refine HL.out.mono ?_
        rintro e w4 ⟨rfl, rfl⟩
        clear HL
        go_wp2_with fail
        have hb : Blk (wr.alloc (Obj.cells (Array.replicate l.length (Value.bool false)) 4)) wr.heap.size 4 (boolV (List.replicate l.length false)) := by rw [boolV_rep]; exact Blk.new wr 4 _
        have ht : Turn (fun _ => False) wr (wr.alloc (Obj.cells (Array.replicate l.length (Value.bool false)) 4)) := (Turn.refl _ wr).alloc _
        have H5 := Lib.hid (And.intro (HI.out.1.turn ht (fun k h => h.elim)) (And.intro (HI.out.2.2.1.keep ht (fun g h h2 => h2)) (And.intro (HI.out.2.2.2.keep ht (fun g h h2 => h2)) (And.intro hb (And.intro (show ¬ F wr.heap.size from fun h => by have := (HI.out.1.sub _ h).2; omega) HI.out.1.below.size)))))
        have HK := Lib.hid HI.out.2.1
        clear hb ht hmk HI
        generalize wr.alloc (Obj.cells (Array.replicate l.length (Value.bool false)) 4) = w5 at *
        obtain ⟨b, hb⟩ : ∃ b, b = wr.heap.size := ⟨_, rfl⟩
        rw [← hb] at H5 ⊢
        clear hb
        go_loopw [11] (fun s wx => ∃ (j : Nat) (F' : Nat → Prop) (S : List Bool), j ≤ K.length ∧ s = .int .i64 j ∧ DF w2 F' w2.heap.size wx l ∧ RowG w2 F' wx 3 (.slice ua I.length uc) I.length (natV I) ∧ RowG w2 F' wx 9 (.slice ya K.length yc) K.length (K.map Value.string) ∧ Blk wx b 4 (boolV S) ∧ (¬ F' b ∧ w2.heap.size ≤ b) ∧ MarkQ l I j S) (fun s _ => K.length - (intOf s).toNat)
        case atStart => exact ⟨0, _, _, by omega, rfl, H5.out.1, H5.out.2.1, H5.out.2.2.1, H5.out.2.2.2.1, H5.out.2.2.2.2, MarkQ.zero _ _⟩
        case round =>
          obtain ⟨j, F', S, hj, rfl, h1, h2, h3, h4, h5, h6⟩ := hrel
          by_cases hlt : j < K.length
          · have hd5 : decide ((j : Int) < K.length) = true := decide_eq_true (by omega)
            have hji : j < I.length := by rw [HK.out.len]; exact hlt
            obtain ⟨ub, uo, rfl⟩ := h2.somewhere (by omega)
            obtain ⟨yb, yo, rfl⟩ := h3.somewhere (by omega)
            obtain ⟨e1, e2, e3⟩ := HK.out.get hlt
            have cu := h2.cell hji
            rw [nat_at I hji] at cu
            have cy := h3.cell hlt
            rw [str_at K hlt] at cy
            have HF := Lib.hid (findD h1.dic (K.getD j ByteArray.empty) (by have := HK.out.short _ (getD_mem (d := ByteArray.empty) hlt); unfold maxLen; omega))
            have HTX := Lib.hid (textD h1.dic e2)
            have HR := Lib.hid (h1.rank e2)
            unfold findV at HF
            rw [e1] at HF
            rw [e3] at HTX
            simp only [Option.getD_some, Option.isSome_some] at HF
            unfold ptrV at HF HTX HR
            have HJ := Lib.hid (And.intro h1 (And.intro h2 (And.intro h3 (And.intro h4 (And.intro h5 h6)))))
            have HE := Lib.hid (And.intro e1 (And.intro e2 e3))
            clear h1 h2 h3 h4 h5 h6 e1 e2 e3
            obtain ⟨x, hx⟩ : ∃ x, x = I.getD j 0 := ⟨_, rfl⟩
            obtain ⟨tj, htj⟩ : ∃ tj, tj = K.getD j ByteArray.empty := ⟨_, rfl⟩
            rw [← hx] at cu HF HTX HR HE
            rw [← htj] at cy HF HTX HE
            have HX := Lib.hid (And.intro hx htj)
            clear hx htj
            go_wp2_with fail
            refine HF.out.mono ?_
            rintro e wy ⟨rfl, rfl⟩
            clear HF
            go_wp2_with fail
            refine HTX.out.mono ?_
            rintro e wy ⟨rfl, rfl⟩
            clear HTX
            go_wp2_with fail
            refine HR.out.mono ?_
            rintro e wy ⟨r, s, k, rfl, hs, hsr, ht, hk, hd⟩
            have H7 := Lib.hid (And.intro hd (And.intro (HJ.out.2.1.call (k := k) ht) (And.intro (HJ.out.2.2.1.call (k := k) ht) (And.intro (HJ.out.2.2.2.1.turn ht HJ.out.2.2.2.2.1.1) (And.intro (show ¬ (F' b ∨ (wr.heap.size ≤ b ∧ b < k)) from fun h => by
              rcases h with h | h
              · exact HJ.out.2.2.2.2.1.1 h
              · have := HJ.out.2.2.2.1.lt; omega) (And.intro hs hsr))))))
            have hrs := (List.getElem?_eq_some_iff.1 hsr).1
            rw [hs.len] at hrs
            have hSl := HJ.out.2.2.2.2.2.1
            have cu1 := H7.out.2.1.cell hji
            rw [nat_at I hji, ← HX.out.1] at cu1
            have cy1 := H7.out.2.2.1.cell hlt
            rw [str_at K hlt, ← HX.out.2] at cy1
            have hr1 : decide ((r : Int) < 0) = false := decide_eq_false (by omega)
            have hr2 : decide ((l.length : Int) ≤ r) = false := decide_eq_false (by omega)
            have f0 := Blk.free H7.out.2.2.2.1 r
            have c0 : wy.cell? ⟨b, r, none⟩ = some (.bool (S.getD r false)) := (Blk.cell H7.out.2.2.2.1 r).trans (boolV_get S (by omega))
            clear hs hsr ht hk hd HR cu cy hSl
            go_upto_region 28 with fail
            have ht8 : Turn (fun k => k = b) wy (wy.setCell ⟨b, r, none⟩ (.bool true)) := (Turn.refl (fun k => k = b) wy).setCell (p := ⟨b, r, none⟩) rfl (.bool true)
            have H8 := Lib.hid (And.intro (H7.out.1.turn ht8 (fun k hk => by subst hk; exact ⟨HJ.out.2.2.2.2.1.2, H7.out.2.2.2.2.1⟩)) (And.intro (H7.out.2.1.keep ht8 (fun g hg e => by obtain ⟨cs, h⟩ := owns_blk H7.out.2.1.owns g hg; exact Blk.ne_type h H7.out.2.2.2.1 (by decide) e)) (And.intro (H7.out.2.2.1.keep ht8 (fun g hg e => by obtain ⟨cs, h⟩ := owns_blk H7.out.2.2.1.owns g hg; exact Blk.ne_type h H7.out.2.2.2.1 (by decide) e)) (And.intro (show Blk (wy.setCell ⟨b, r, none⟩ (.bool true)) b 4 (boolV (S.set r true)) by rw [← boolV_set]; exact Blk.set H7.out.2.2.2.1 r (.bool true)) (HJ.out.2.2.2.2.2.step HK.out.nodup H7.out.2.2.2.2.2.1 (HX.out.1 ▸ H7.out.2.2.2.2.2.2))))))
            clear ht8 f0 c0 cu1 cy1
            generalize wy.setCell ⟨b, r, none⟩ (.bool true) = wz at *
            by_cases hj0 : j = 0
            · subst hj0
              go_wp2_with fail
              go_roundw
              case rel => exact ⟨1, _, _, by omega, rfl, H8.out.1, H8.out.2.1, H8.out.2.2.1, H8.out.2.2.2.1, ⟨H7.out.2.2.2.2.1, HJ.out.2.2.2.2.1.2⟩, H8.out.2.2.2.2⟩
              case measure => simp [intOf]; omega
            · obtain ⟨m, rfl⟩ : ∃ m, j = m + 1 := ⟨j - 1, by omega⟩
              have hd6 : decide ((0 : Int) < ((m + 1 : Nat) : Int)) = true := decide_eq_true (by omega)
              have hmi : m < I.length := by omega
              have hmK : m < K.length := by omega
              obtain ⟨e1, e2, e3⟩ := HK.out.get hmK
              have cu := H8.out.2.1.cell hmi
              rw [nat_at I hmi] at cu
              have HR := Lib.hid (H8.out.1.rank e2)
              unfold ptrV at HR
              have HE2 := Lib.hid (And.intro e1 (And.intro e2 e3))
              clear e1 e2 e3
              generalize I.getD m 0 = x' at *
              obtain ⟨tm, htm⟩ : ∃ tm, tm = K.getD m ByteArray.empty := ⟨_, rfl⟩
              rw [← htm] at HE2
              have HM := Lib.hid htm
              clear htm
              go_wp2_with fail
              refine HR.out.mono ?_
              rintro e wq ⟨r', s', k2, rfl, hs', hsr', ht', hk', hd'⟩
              have es := sort_one HK.out.nodup H7.out.2.2.2.2.2.1 hs'
              subst es
              have tri := ranks_tri HK.out.nodup hs' H7.out.2.2.2.2.2.2 hsr' HE.out.2.2 HE2.out.2.2
              have H9 := Lib.hid (And.intro hd' (And.intro (H8.out.2.1.call (k := k2) ht') (And.intro (H8.out.2.2.1.call (k := k2) ht') (And.intro (H8.out.2.2.2.1.turn ht' H7.out.2.2.2.2.1) (show ¬ ((F' b ∨ (wr.heap.size ≤ b ∧ b < k)) ∨ (wz.heap.size ≤ b ∧ b < k2)) from fun h => by
                rcases h with h | h
                · exact H7.out.2.2.2.2.1 h
                · have := H8.out.2.2.2.1.lt; omega)))))
              have cm := H9.out.2.2.1.cell hmK
              rw [str_at K hmK, ← HM.out] at cm
              have cn := H9.out.2.2.1.cell hlt
              rw [str_at K hlt, ← HX.out.2] at cn
              clear hs' hsr' ht' hk' hd' HR cu
              rcases tri with ⟨t1, t2⟩ | ⟨t1, t2⟩ | ⟨t1, t2, t3⟩
              · have hA : decide ((r' : Int) < r) = true := decide_eq_true (by omega)
                have hA2 : decide ((r' : Int) = r) = false := decide_eq_false (by omega)
                have hC : (tm.toList == tj.toList) = false := by
                  rw [beq_eq_false_iff_ne]
                  intro e
                  have e := toList_inj e
                  subst e
                  rw [ltS_irrefl] at t2; cases t2
                unfold ltS at t2
                go_wp2_with fail
                go_quiet (fail)
                go_wp2_with fail
                go_roundw
                case rel => exact ⟨m + 2, _, _, by omega, by go_num, H9.out.1.drewN _, H9.out.2.1.drewN _, H9.out.2.2.1.drewN _, H9.out.2.2.2.1.drewN _, ⟨H9.out.2.2.2.2, HJ.out.2.2.2.2.1.2⟩, H8.out.2.2.2.2⟩
                case measure => simp [intOf]; omega
              · subst t1 t2
                have hB := ltS_irrefl tm
                unfold ltS at hB
                go_wp2_with fail
                go_quiet (fail)
                go_wp2_with fail
                go_roundw
                case rel => exact ⟨m + 2, _, _, by omega, by go_num, H9.out.1.drewN _, H9.out.2.1.drewN _, H9.out.2.2.1.drewN _, H9.out.2.2.2.1.drewN _, ⟨H9.out.2.2.2.2, HJ.out.2.2.2.2.1.2⟩, H8.out.2.2.2.2⟩
                case measure => simp [intOf]; omega
              · have hA : decide ((r' : Int) < r) = false := decide_eq_false (by omega)
                have hA2 : decide ((r' : Int) = r) = false := decide_eq_false (by omega)
                have hA3 : decide (r' < r) = false := decide_eq_false (by omega)
                have hA4 : decide (r' = r) = false := decide_eq_false (by omega)
                have hn1 : ¬ r' < r := by omega
                have hn2 : ¬ r' = r := by omega
                unfold ltS at t2
                go_wp2_with fail
                go_quiet (fail)
                go_wp2_with fail
                go_roundw
                case rel => exact ⟨m + 2, _, _, by omega, by go_num, H9.out.1.drewN _, H9.out.2.1.drewN _, H9.out.2.2.1.drewN _, H9.out.2.2.2.1.drewN _, ⟨H9.out.2.2.2.2, HJ.out.2.2.2.2.1.2⟩, H8.out.2.2.2.2⟩
                case measure => simp [intOf]; omega
          · have hd5 : decide ((j : Int) < K.length) = false := decide_eq_false (by omega)
            obtain rfl : j = K.length := by omega
            have HJ := Lib.hid (And.intro h1 (And.intro h4 h6))
            have hSl := h6.1
            clear h1 h2 h3 h4 h5 h6
            have HM := Lib.hid (HJ.out.2.2.full HK.out)
            clear hKn hj hlt
            go_wp2_with fail
            obtain ⟨wr0, hwr0⟩ : ∃ x, x = wr := ⟨_, rfl⟩
            subst hwr0
            go_loopw [20] (fun s wx => ∃ r : Nat, r ≤ l.length ∧ s = .int .i64 r ∧ Below wr0.heap.size wr0 wx) (fun s _ => l.length - (intOf s).toNat)
            case atStart => exact ⟨0, by omega, rfl, Below.refl _ _⟩
            case round =>
              obtain ⟨r, hr, rfl, hB⟩ := hrel
              by_cases hlt : r < l.length
              · have hd6 : decide ((r : Int) < l.length) = true := decide_eq_true (by omega)
                have c0 : wr.cell? ⟨b, r, none⟩ = some (.bool true) := by
                  rw [hB.cell (p := ⟨b, r, none⟩) HJ.out.2.1.lt, Blk.cell HJ.out.2.1 r, boolV_get S (by omega), HM.out r (by omega)]
                have HB := Lib.hid hB
                clear hB
                go_wp2_with fail
                go_roundw
                case rel => exact ⟨r + 1, by omega, by go_num, HB.out⟩
                case measure => simp [intOf]; omega
              · have hd6 : decide ((r : Int) < l.length) = false := decide_eq_false (by omega)
                have HB := Lib.hid hB
                clear hB
                go_wp2_with fail
                go_ret
                exact ⟨rfl, Below.call HB2.out (Below.call HJ.out.1.below HB.out)⟩)
theorem orderLaw (v : Value) (w : World) (T : List ByteArray) (hr : Row w.heap.size w v T.length 1 (T.map Value.string)) (hT : ∀ s ∈ T, s.size ≤ maxLen) (hlen : T.length * 16 ≤ 140737488351232) :
    Calls Try.prog 5 #[v] w fun e w' => e = .returned (.bool true) ∧ Below w.heap.size w w' := order5 v T hT w hr hlen
end Go.Proofs.Ytiihnepfcgmghaa
