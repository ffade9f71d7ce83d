/- FactsSnapshots: the walk. -/
import Derived.Test.YtdpgpcffhhdpiaaZB
namespace Go.Proofs.Ytdpgpcffhhdpiaa
open Go.RowKit Go.Maps
set_option linter.unusedVariables false
set_option linter.unusedSimpArgs false

theorem info30 : (Try.prog.info? 30).map (fun i => (i.zero, i.size, i.bytes)) = some (some (.slice none 0 0), 1, 24) := by kernel_rfl
/-- the store behind i batches, and what was told behind each of them -/
def ToldAt (w1 : World) (bs : List (List FactT)) (i : Nat) (tv : Value) (wr : World) : Prop :=
  ∃ (F : Nat → Prop) (ts : List Value), StoF F w1 w1.heap.size wr 2 1 (sbs bs i) ∧ ts.length = i ∧ wr.ownsRow w1.heap.size 30 1 tv i ts ∧ (∀ g, tv.ownBlock = some g → ¬ F g) ∧
    ∀ (j : Nat) (t : Value), ts[j]? = some t → RowK (fun k => F k ∨ tv.ownBlock = some k) wr t (flat (sbs bs (j + 1)))
theorem told_step {w1 wr w4 w5 w6 w7 : World} {F : Nat → Prop} {ts : List Value} {bs : List (List FactT)} {b : List FactT} {i : Nat} {tv tv7 v6 : Value} (hb : bs[i]? = some b) (hS : StoF F w1 w1.heap.size wr 2 1 (sbs bs i)) (hts : ts.length = i) (hown : wr.ownsRow w1.heap.size 30 1 tv i ts) (hnF : ∀ g, tv.ownBlock = some g → ¬ F g)
    (hK : ∀ (j : Nat) (t : Value), ts[j]? = some t → RowK (fun k => F k ∨ tv.ownBlock = some k) wr t (flat (sbs bs (j + 1))))
    (hB4 : Below wr.heap.size wr w4) (hT5 : Turn F w4 w5) (hS5 : StoF (fun k => F k ∨ (w4.heap.size ≤ k ∧ k < w5.heap.size)) w1 w1.heap.size w5 2 1 (sbs bs i ++ [soundL b])) (hB6 : Below w5.heap.size w5 w6) (hF6 : FactsN w5.heap.size w6 v6 (flat (sbs bs (i + 1))))
    (hown7 : w7.ownsRow w1.heap.size 30 1 tv7 (i + 1) (ts ++ [v6])) (hg7 : (w6.alloc (Obj.cells #[v6] 30)).grownBy w7 tv.ownBlock) (hat : tv7.ownBlock = tv.ownBlock ∨ tv7.ownBlock = some (w6.alloc (Obj.cells #[v6] 30)).heap.size) : ToldAt w1 bs (i + 1) tv7 w7 := by
  have s4 := hB4.size
  have s5 := hT5.size
  have s6 := hB6.size
  rw [alloc_size] at hat
  have T4 : Turn (fun g => tv.ownBlock = some g) w6 w7 := ((Turn.refl (fun g => tv.ownBlock = some g) w6).alloc _).grown hg7 (fun g hg => hg)
  have hlt : ∀ g, tv.ownBlock = some g → w1.heap.size ≤ g ∧ g < wr.heap.size := fun g hg => hown.lt g hg
  have TK : Turn (fun k => F k ∨ tv.ownBlock = some k) wr w7 := (((Turn.of_below hB4 (fun k h1 h2 => by omega)).trans (hT5.mono (fun k _ h => .inl h))).trans (Turn.of_below hB6 (fun k h1 h2 => by omega))).trans (T4.mono (fun k _ h => .inr h))
  have hsub : ∀ k, F k → k < wr.heap.size := fun k hk => (hS.sub k hk).2
  have hS7 : StoF (fun k => F k ∨ (w4.heap.size ≤ k ∧ k < w5.heap.size)) w1 w1.heap.size w7 2 1 (sbs bs (i + 1)) := by
    rw [sbs_succ hb]
    refine (hS5.step hB6).turn T4 (fun k hk => ⟨(hlt k hk).1, fun hF => ?_⟩)
    rcases hF with hF | hF
    · exact hnF k hk hF
    · have := (hlt k hk).2; omega
  refine ⟨_, ts ++ [v6], hS7, by simp [hts], hown7, fun g hg hF => ?_, fun j t ht => ?_⟩
  · rcases hat with ha | ha
    · rw [ha] at hg
      rcases hF with hF | hF
      · exact hnF g hg hF
      · have := (hlt g hg).2; omega
    · rw [ha] at hg
      injection hg with hg
      rcases hF with hF | hF
      · have := hsub g hF; omega
      · omega
  · by_cases hj : j < i
    · rw [List.getElem?_append_left (by omega)] at ht
      refine (hK j t ht).turn TK (fun k hk => ?_)
      rcases hk with (hk | hk) | hk
      · exact .inl (.inl hk)
      · exact .inr (by omega)
      · rcases hat with ha | ha
        · rw [ha] at hk; exact .inl (.inr hk)
        · rw [ha] at hk; injection hk with hk; exact .inr (by omega)
    · have hj2 : j = i := by have := (List.getElem?_eq_some_iff.1 ht).1; simp at this; omega
      subst hj2
      rw [List.getElem?_append_right (by omega), hts, Nat.sub_self] at ht
      cases ht
      refine RowK.turn (K := fun k => k < w5.heap.size) (hF6.rowK (fun k hk _ => hk)) (T4.mono (fun k _ hk => by have := (hlt k hk).2; omega)) (fun k hk => ?_)
      rcases hk with (hk | hk) | hk
      · have := hsub k hk; exact .inl (by omega)
      · exact .inl hk.2
      · rcases hat with ha | ha
        · rw [ha] at hk; have := (hlt k hk).2; exact .inl (by omega)
        · rw [ha] at hk; injection hk with hk; exact .inr (by omega)
theorem cut_le (bs : List (List FactT)) (a b : Int) : (cutB bs a b).length ≤ (flat bs).length := by
  have := toE_ends_le bs a b
  rw [cut_len]; omega
theorem FactsP.cells {A : Nat} {w : World} {v : Value} {l : List FactT} {ps : List (Value × Value)} (h : FactsP A w v l ps) : Row w.heap.size w v l.length 2 (ps.flatMap (fun p => [p.1, p.2])) := Row.of_owns h.2.1
theorem FactsP.lower {A A' : Nat} {w : World} {v : Value} {l : List FactT} {ps : List (Value × Value)} (h : FactsP A w v l ps) (hA : A' ≤ A) : FactsP A' w v l ps :=
  ⟨h.1, owns_lower h.2.1 hA, fun k f p hf hp => ⟨owns_lower (h.2.2 k f p hf hp).1 hA, owns_lower (h.2.2 k f p hf hp).2 hA⟩⟩
theorem FactsR.grown {A A2 : Nat} {w w0 w5 : World} {v : Value} {l : List FactT} {ps : List (Value × Value)} (h : FactsR A A2 w v l ps) (hA : A2 ≤ w.heap.size) (hg : w.grownBy w5 v.ownBlock) : Below A2 w w5 :=
  ((Turn.refl (fun g => v.ownBlock = some g) w).grown hg (fun g hg => hg)).below hA (fun k hk hg => by have := (h.2.lt k hg).1; omega)
theorem cell_one_at (w : World) (T : TypeId) (x : Value) : ∀ j u, [x][j]? = some u → (w.alloc (Obj.cells #[x] T)).cell? ((⟨w.heap.size, 0, none⟩ : Addr).add j) = some u := cell_one_new' w T x

set_option maxRecDepth 100000 in
set_option maxHeartbeats 64000000 in
theorem snap3 (v0 : Value) (bs : List (List FactT)) (ca cb : Int) (w : World) (hbs : RowBs w v0 bs) (hsh : ∀ b ∈ bs, ∀ f ∈ b, shortF f) (hca : allInt ca) (hcb : allInt cb) :
    Calls Try.prog 3 #[v0, .int .i64 ca, .int .i64 cb] w fun e w' => e = .returned (.bool true) ∧ Below w.heap.size w w' := by
  obtain ⟨i0, hi0, hz0, hz1, hz2⟩ := info_parts info41'
  obtain ⟨i1, hi1, hy0, hy1, hy2⟩ := info_parts info30
  have HAW := Lib.hid (awake8 w)
  obtain ⟨a0, cap0, rfl, hcap1, hcap2, hop⟩ := hbs.open
  have HOP := Lib.hid hop
  have HSH := Lib.hid hsh
  have HCA := Lib.hid (And.intro hca hcb)
  clear hbs hsh hca hcb hop
  by_cases hlong : 12 < bs.length
  · have hd0 : decide (12 < (bs.length : Int)) = true := decide_eq_true (by omega)
    go_enter Try.func3, Try.ntmps3
    go_wp2_with fail
    refine HAW.out.mono ?_
    rintro e w1 ⟨rfl, hB1⟩
    have HB1 := Lib.hid hB1
    have HN := Lib.hid (newF 2 1 (by omega) (by omega) w1)
    unfold intV ptrV at HN
    clear hB1
    go_wp2_with fail
    refine HN.out.mono ?_
    rintro e w2 ⟨rfl, hS⟩
    have HS := Lib.hid hS
    clear hS HN
    go_upto_region 9 with fail
    obtain ⟨n, hn⟩ : ∃ n : Nat, n = 12 := ⟨_, rfl⟩
    have hnl : n ≤ bs.length := by omega
    have hn12 : n ≤ 12 := by omega
    rw [show (12 : Int) = ((n : Nat) : Int) by omega]
    clear hn
    go_wp2_with fail
    go_loopw [10, 12] (fun tv s wr => ∃ i : Nat, i ≤ n ∧ s = .int .i64 i ∧ ToldAt w1 bs i tv wr) (fun _ s _ => n - (intOf s).toNat)
    case atStart => exact ⟨0, by omega, rfl, _, [], HS.out, rfl, World.ownsRow_nil _ _ _ _, (fun g hg => by cases hg), (fun j t ht => by cases ht)⟩
    case round =>
      obtain ⟨i, hi, rfl, F, ts, hS, hts, hown, hnF, hK⟩ := hrel
      obtain ⟨tva, tvc, htv⟩ := owns_form hown
      subst htv
      by_cases hlt : i < n
      · obtain ⟨b, hb⟩ : ∃ b, bs[i]? = some b := ⟨_, List.getElem?_eq_getElem (by omega)⟩
        obtain ⟨g, off, x, rfl, hg, hcell, hF⟩ := HOP.out i b hb
        have hBw : Below w.heap.size w wr := Below.call HB1.out hS.below
        have hc := (hBw.cell (p := ⟨g, off + i, none⟩) hg).trans hcell
        have hrk : RowK F wr x b := (RowF.mono hF hBw (Nat.le_refl _)).rowK hBw.size (fun k hk => Nat.le_trans HB1.out.size (hS.sub k hk).1)
        have HSO := Lib.hid (sound11 F x b wr hrk (HSH.out b (List.mem_of_getElem? hb)))
        have HT := Lib.hid (And.intro hb (And.intro hS (And.intro hts (And.intro hown (And.intro hnF hK)))))
        have hnI : decide ((i : Int) < (n : Int)) = true := decide_eq_true (by omega)
        clear hb hS hts hown hnF hK hF hrk hcell hBw
        go_wp2_with fail
        refine HSO.out.mono ?_
        rintro e w4 ⟨sv, sn, sc, rfl, hB4, hr4⟩
        have HB4 := Lib.hid hB4
        have HAP := Lib.hid (appendF (HT.out.2.1.step hB4) (.slice sv sn sc) (soundL b) (hr4.mono (fun k hk => ⟨hk, (HT.out.2.1.sub k hk).2⟩)) short_sound (by have := flat_sbs_le bs i; rw [sbs_len (by omega)]; omega) (ck_sound (by omega) b))
        rw [sbs_len (by omega)] at HAP
        unfold intV ptrV at HAP
        simp only [Int.natCast_add, Int.natCast_one] at HAP
        clear hB4 hr4 HSO
        go_wp2_with fail
        refine HAP.out.mono ?_
        rintro e w5 ⟨rfl, hT5, hS5⟩
        have HT5 := Lib.hid (And.intro hT5 hS5)
        have HSC := Lib.hid (scanS hS5.sto 0 ((i : Int) + 1) (by unfold allInt; omega) (by unfold allInt; omega))
        have hcz := cut_zero (bs := sbs bs (i + 1)) (b := i + 1) (by rw [sbs_len (by omega)]; omega)
        rw [sbs_succ HT.out.1, Int.natCast_add, Int.natCast_one] at hcz
        rw [hcz, ← sbs_succ HT.out.1, List.take_of_length_le (by rw [sbs_len (by omega)]; omega)] at HSC
        unfold ptrV at HSC
        clear hT5 hS5 HAP hcz
        go_wp2_with fail
        refine HSC.out.mono ?_
        rintro e w6 ⟨v6, rfl, hB6, hF6⟩
        obtain ⟨a6, c6, rfl⟩ := hF6.rowF.form
        have HF6 := Lib.hid (And.intro hB6 hF6)
        have HOW := Lib.hid (show w6.ownsRow w1.heap.size 30 1 (.slice tva i tvc) i ts from owns_b1 (owns_turn (owns_b1 HT.out.2.2.2.1 HB4.out) HT5.out.1 (fun g hg => HT.out.2.2.2.2.1 g hg)) hB6)
        have hsz6 : w1.heap.size ≤ w6.heap.size := by
          have h1 := HT.out.2.1.below.size
          have h2 := HB4.out.size
          have h3 := HT5.out.1.size
          have h4 := hB6.size
          omega
        clear hB6 hF6 HSC
        go_upto_region 11 with (at_builtin; refine wpList_append_own5 _ rfl _ _ 22 rfl w1.heap.size 30 i1 _ 1 24 Try.underlying22 hi1 hy0 hy1 hy2 rfl (by decide) (.slice tva i tvc) i ts rfl (HOW.out.alloc _) ⟨w6.heap.size, 0, none⟩ 1 1 [.slice a6 (flat (sbs bs (i + 1))).length c6] rfl rfl (cell_one_at w6 30 _) (by intro u hu; simp at hu; subst hu; rfl) (by unfold maxLen; omega) (by omega) (by simp; omega) ?_; intro v' w7 hown7 hgrow hat; obtain ⟨v7a, v7c, hv7⟩ := owns_form hown7; subst hv7)
        have hnew := told_step HT.out.1 HT.out.2.1 HT.out.2.2.1 HT.out.2.2.2.1 HT.out.2.2.2.2.1 HT.out.2.2.2.2.2 HB4.out HT5.out.1 HT5.out.2 HF6.out.1 HF6.out.2 hown7 hgrow hat
        have HR := Lib.hid hnew
        clear hnew hown7 hgrow hat
        go_wp2_with fail
        go_roundw
        case rel => exact ⟨i + 1, by omega, by go_num, HR.out⟩
        case measure => simp [intOf]; omega
      · obtain rfl : i = n := by omega
        have HT := Lib.hid (And.intro hS.sto (And.intro hown hK))
        have HTS := Lib.hid hts
        obtain ⟨w9, hw9⟩ : ∃ w9, w9 = wr := ⟨_, rfl⟩
        subst hw9
        have hw19 : w1.heap.size ≤ w9.heap.size := hS.below.size
        have HST := Lib.hid hS.sto
        have hflat := flat_sbs_le bs i
        clear hS hts hown hnF hK
        go_wp2_with fail
        go_loopw [15] (fun s wr => ∃ q : Nat, q ≤ i ∧ s = .int .i64 q ∧ Below w9.heap.size w9 wr) (fun s _ => i - (intOf s).toNat)
        case atStart => exact ⟨0, by omega, rfl, Below.refl _ _⟩
        case round =>
          obtain ⟨q, hq, rfl, hB⟩ := hrel
          by_cases hltq : q < i
          · have HB := Lib.hid hB
            have hcz := cut_zero (bs := sbs bs i) (b := q + 1) (by rw [sbs_len (by omega)]; omega)
            rw [sbs_take (by omega), Int.natCast_add, Int.natCast_one] at hcz
            have HCZ := Lib.hid hcz
            have HSC := Lib.hid (scanS (HST.out.step hB) 0 ((q : Int) + 1) (by unfold allInt; omega) (by unfold allInt; omega))
            rw [hcz] at HSC
            unfold ptrV at HSC
            have hfq := flat_sbs_le bs (q + 1)
            obtain ⟨-, ta, tc, htv, -, -, htc⟩ := Row.of_owns HT.out.2.1
            injection htv with e1 e2 e3
            subst e1 e3
            obtain ⟨gt, ot, rfl, hgt, htq⟩ := htc (by omega)
            have hcell := htq q (by omega)
            obtain ⟨t, ht⟩ : ∃ t, ts[q]? = some t := ⟨_, List.getElem?_eq_getElem (by rw [HTS.out]; exact hltq)⟩
            rw [List.getD_eq_getElem?_getD, ht] at hcell
            have HTQ := Lib.hid (HT.out.2.2 q t ht)
            obtain ⟨qa, qc, rfl⟩ := HTQ.out.rowF.form
            have HCE := Lib.hid (And.intro hgt hcell)
            have hqi : decide ((q : Int) < (i : Int)) = true := decide_eq_true (by omega)
            clear hB hcz htc htq ht hgt hcell
            go_wp2_with fail
            refine HSC.out.mono ?_
            rintro e w10 ⟨v6, rfl, hB6, hF6⟩
            obtain ⟨a6, c6, rfl⟩ := hF6.rowF.form
            have HB10 := Lib.hid (Below.call HB.out hB6)
            have hc10 : w10.cell? ⟨gt, ot + q, none⟩ = some (.slice qa (flat (sbs bs (q + 1))).length qc) := (HB10.out.cell (p := ⟨gt, ot + q, none⟩) HCE.out.1).trans HCE.out.2
            have HSA := Lib.hid (same13 _ _ (.slice a6 (flat (sbs bs (q + 1))).length c6) (.slice qa (flat (sbs bs (q + 1))).length qc) (flat (sbs bs (q + 1))) w10 hF6.rowF (HTQ.out.below HB10.out).rowF (by omega))
            clear hB6 hF6 HSC
            go_wp2_with fail
            refine HSA.out.mono ?_
            rintro e w11 ⟨rfl, nd, rfl⟩
            have HSZ := Lib.hid (sizeS ((HST.out.step HB10.out).step (Below.drewN (Below.refl _ w10) nd)) 0 ((q : Int) + 1) (by unfold allInt; omega) (by unfold allInt; omega))
            rw [HCZ.out] at HSZ
            unfold intV ptrV at HSZ
            clear hc10 HSA
            go_wp2_with fail
            refine HSZ.out.mono ?_
            rintro e w12 ⟨rfl, hB12⟩
            have HB12 := Lib.hid hB12
            clear hB12 HSZ
            go_wp2_with fail
            go_roundw
            case rel => exact ⟨q + 1, by omega, by go_num, Below.call (Below.drewN HB10.out nd) HB12.out⟩
            case measure => simp [intOf]; omega
          · obtain rfl : q = i := by omega
            obtain ⟨wA, hwA⟩ : ∃ wA, wA = wr := ⟨_, rfl⟩
            subst hwA
            have HBC := Lib.hid hB
            have HC1 := Lib.hid (cut15 ca HCA.out.1 q (by omega) wA)
            have hX := cutN_le ca q
            clear hB
            generalize cutN ca q = X at *
            have HC2 := Lib.hid (cut15 cb HCA.out.2 (q - X) (by omega) wA)
            have hZ := cutN_le cb (q - X)
            rw [show ((q - X : Nat) : Int) = (q : Int) - (X : Int) by omega] at HC2
            generalize cutN cb (q - X) = Z at *
            go_wp2_with fail
            refine HC1.out.mono ?_
            rintro e w10 ⟨rfl, rfl⟩
            go_wp2_with fail
            refine HC2.out.mono ?_
            rintro e w10 ⟨rfl, rfl⟩
            clear HC1 HC2
            have hAC : w9.heap.size ≤ wA.heap.size := HBC.out.size
            have HBA := Lib.hid (Below.refl wA.heap.size wA)
            have HR0 := Lib.hid (show FactsR wA.heap.size wA.heap.size wA (.slice none 0 0) [] [] from ⟨FactsP.nil _ _, World.ownsRow_nil _ _ _ _⟩)
            have HSC := Lib.hid (scanS (HST.out.over hw19 HBC.out) (0) ((X : Int)) (by unfold allInt; omega) (by unfold allInt; omega))
            unfold ptrV at HSC
            go_wp2_with fail
            refine HSC.out.mono ?_
            rintro e wS1 ⟨v1, rfl, hB, hF⟩
            obtain ⟨ps1, hF⟩ := hF
            obtain ⟨a1, c1, hv⟩ := owns_form hF.2.1
            subst hv
            have HF1 := Lib.hid (hF.lower (A' := wA.heap.size) HBA.out.size)
            have HOLD := Lib.hid (HR0.out.below hB)
            have HBA2 := Lib.hid (Below.call HBA.out hB)
            have HBC2 := Lib.hid (Below.call HBC.out hB)
            have hsz := HBA2.out.size
            have hl1 := cut_le (sbs bs q) (0) ((X : Int))
            clear hB hF HSC
            go_upto_region 27 with (at_builtin; refine wpList_append_row rfl _ _ 30 rfl wA.heap.size 41 i0 _ 2 48 Try.underlying30 hi0 hz0 hz1 hz2 rfl (by decide) (.slice none 0 0) (0) ([]) rfl HOLD.out.2 wS1.heap.size (.slice a1 (cutB (sbs bs q) (0) ((X : Int))).length c1) (cutB (sbs bs q) (0) ((X : Int))).length (ps1.flatMap (fun p => [p.1, p.2])) rfl HF1.out.cells HF1.out.one (by unfold maxLen; omega) (by omega) hsz ?_; intro v' wT1 hown hgrow hat; rw [Nat.zero_add, List.nil_append] at hown; obtain ⟨b1, d1, hv⟩ := owns_form hown; subst hv)
            have hR := HOLD.out.append HF1.out (Nat.le_refl _) (by rw [List.length_nil, Nat.zero_add]; exact hown) hgrow
            rw [List.nil_append, List.nil_append] at hR
            have hG := HOLD.out.grown (w0 := w) hsz hgrow
            have HR1 := Lib.hid hR
            have HBA := Lib.hid (HBA2.out.trans hG)
            have HBC := Lib.hid (HBC2.out.trans (hG.mono hAC))
            clear hR hG hown hgrow hat HOLD HBA2 HBC2 hsz
            have HSC := Lib.hid (scanS (HST.out.over hw19 HBC.out) ((X : Int)) ((X : Int) + (Z : Int)) (by unfold allInt; omega) (by unfold allInt; omega))
            unfold ptrV at HSC
            go_wp2_with fail
            refine HSC.out.mono ?_
            rintro e wS2 ⟨v2, rfl, hB, hF⟩
            obtain ⟨ps2, hF⟩ := hF
            obtain ⟨a2, c2, hv⟩ := owns_form hF.2.1
            subst hv
            have HF2 := Lib.hid (hF.lower (A' := wA.heap.size) HBA.out.size)
            have HOLD := Lib.hid (HR1.out.below hB)
            have HBA2 := Lib.hid (Below.call HBA.out hB)
            have HBC2 := Lib.hid (Below.call HBC.out hB)
            have hsz := HBA2.out.size
            have hl2 := cut_le (sbs bs q) ((X : Int)) ((X : Int) + (Z : Int))
            clear hB hF HSC
            go_upto_region 28 with (at_builtin; refine wpList_append_row rfl _ _ 30 rfl wA.heap.size 41 i0 _ 2 48 Try.underlying30 hi0 hz0 hz1 hz2 rfl (by decide) (.slice b1 (cutB (sbs bs q) (0) ((X : Int))).length d1) ((cutB (sbs bs q) (0) ((X : Int))).length) (ps1.flatMap (fun p => [p.1, p.2])) rfl HOLD.out.2 wS2.heap.size (.slice a2 (cutB (sbs bs q) ((X : Int)) ((X : Int) + (Z : Int))).length c2) (cutB (sbs bs q) ((X : Int)) ((X : Int) + (Z : Int))).length (ps2.flatMap (fun p => [p.1, p.2])) rfl HF2.out.cells HF2.out.one (by unfold maxLen; omega) (by omega) hsz ?_; intro v' wT2 hown hgrow hat; obtain ⟨b2, d2, hv⟩ := owns_form hown; subst hv)
            have hR := HOLD.out.append HF2.out (Nat.le_refl _) hown hgrow
            have hG := HOLD.out.grown (w0 := w) hsz hgrow
            have HR2 := Lib.hid hR
            have HBA := Lib.hid (HBA2.out.trans hG)
            have HBC := Lib.hid (HBC2.out.trans (hG.mono hAC))
            clear hR hG hown hgrow hat HOLD HBA2 HBC2 hsz
            have HSC := Lib.hid (scanS (HST.out.over hw19 HBC.out) ((X : Int) + (Z : Int)) ((q : Int)) (by unfold allInt; omega) (by unfold allInt; omega))
            unfold ptrV at HSC
            go_wp2_with fail
            refine HSC.out.mono ?_
            rintro e wS3 ⟨v3, rfl, hB, hF⟩
            obtain ⟨ps3, hF⟩ := hF
            obtain ⟨a3, c3, hv⟩ := owns_form hF.2.1
            subst hv
            have HF3 := Lib.hid (hF.lower (A' := wA.heap.size) HBA.out.size)
            have HOLD := Lib.hid (HR2.out.below hB)
            have HBA2 := Lib.hid (Below.call HBA.out hB)
            have HBC2 := Lib.hid (Below.call HBC.out hB)
            have hsz := HBA2.out.size
            have hl3 := cut_le (sbs bs q) ((X : Int) + (Z : Int)) ((q : Int))
            clear hB hF HSC
            go_upto_region 29 with (at_builtin; refine wpList_append_row rfl _ _ 30 rfl wA.heap.size 41 i0 _ 2 48 Try.underlying30 hi0 hz0 hz1 hz2 rfl (by decide) (.slice b2 ((cutB (sbs bs q) (0) ((X : Int))).length + (cutB (sbs bs q) ((X : Int)) ((X : Int) + (Z : Int))).length) d2) ((cutB (sbs bs q) (0) ((X : Int))).length + (cutB (sbs bs q) ((X : Int)) ((X : Int) + (Z : Int))).length) (ps1.flatMap (fun p => [p.1, p.2]) ++ ps2.flatMap (fun p => [p.1, p.2])) rfl (by have := HOLD.out.2; rw [List.length_append, List.flatMap_append] at this; exact this) wS3.heap.size (.slice a3 (cutB (sbs bs q) ((X : Int) + (Z : Int)) ((q : Int))).length c3) (cutB (sbs bs q) ((X : Int) + (Z : Int)) ((q : Int))).length (ps3.flatMap (fun p => [p.1, p.2])) rfl HF3.out.cells HF3.out.one (by unfold maxLen; omega) (by omega) hsz ?_; intro v' wT3 hown hgrow hat; obtain ⟨b3, d3, hv⟩ := owns_form hown; subst hv)
            have hR := HOLD.out.append HF3.out (Nat.le_refl _) (by rw [List.length_append, List.flatMap_append]; exact hown) hgrow
            have hG := HOLD.out.grown (w0 := w) hsz hgrow
            have HR3 := Lib.hid hR
            have HBA := Lib.hid (HBA2.out.trans hG)
            have HBC := Lib.hid (HBC2.out.trans (hG.mono hAC))
            clear hR hG hown hgrow hat HOLD HBA2 HBC2 hsz
            have hall := cut_parts (bs := sbs bs q) (x := X) (y := X + Z) (n := q) (sbs_len (by omega)) (by omega) (by omega)
            rw [Int.natCast_add] at hall
            have hlen := congrArg List.length hall
            rw [List.length_append, List.length_append] at hlen
            have HRA := HR3.out
            rw [hall] at HRA
            have HALL := Lib.hid HRA
            simp only [hlen]
            rw [hlen] at HALL
            have HSC := Lib.hid (scanS (HST.out.over hw19 HBC.out) 0 (q : Int) (by unfold allInt; omega) (by unfold allInt; omega))
            have hcz := cut_zero (bs := sbs bs q) (b := q) (by rw [sbs_len (by omega)]; omega)
            rw [hcz, List.take_of_length_le (by rw [sbs_len (by omega)]; omega)] at HSC
            unfold ptrV at HSC
            clear hcz hall hlen HRA
            go_wp2_with fail
            refine HSC.out.mono ?_
            rintro e w20 ⟨v20, rfl, hB20, hF20⟩
            have HSA := Lib.hid (same13 _ _ (.slice b3 (flat (sbs bs q)).length d3) v20 (flat (sbs bs q)) w20 (FactsN.rowF ⟨_, (HALL.out.below hB20).1⟩) hF20.rowF (by omega))
            obtain ⟨a20, c20, rfl⟩ := hF20.rowF.form
            have HBA := Lib.hid (Below.call HBA.out hB20)
            have HBC := Lib.hid (Below.call HBC.out hB20)
            clear hB20 hF20 HSC
            go_wp2_with fail
            refine HSA.out.mono ?_
            rintro e w21 ⟨rfl, nd, rfl⟩
            have HLN := Lib.hid (lenS (HST.out.over hw19 (Below.drewN HBC.out nd)))
            unfold intV ptrV at HLN
            clear HSA
            go_wp2_with fail
            refine HLN.out.mono ?_
            rintro e w22 ⟨rfl, nd2, rfl⟩
            go_wp2_with fail
            go_ret
            exact ⟨rfl, Below.drewN ((Below.call HB1.out HST.out.below).trans (HBC.out.mono (Nat.le_trans HB1.out.size hw19))) (nd + nd2)⟩
  · have hd0 : decide (12 < (bs.length : Int)) = false := decide_eq_false (by omega)
    go_enter Try.func3, Try.ntmps3
    go_wp2_with fail
    refine HAW.out.mono ?_
    rintro e w1 ⟨rfl, hB1⟩
    have HB1 := Lib.hid hB1
    have HN := Lib.hid (newF 2 1 (by omega) (by omega) w1)
    unfold intV ptrV at HN
    clear hB1
    go_wp2_with fail
    refine HN.out.mono ?_
    rintro e w2 ⟨rfl, hS⟩
    have HS := Lib.hid hS
    clear hS HN
    go_upto_region 9 with fail
    obtain ⟨n, hn⟩ : ∃ n : Nat, n = bs.length := ⟨_, rfl⟩
    have hnl : n ≤ bs.length := by omega
    have hn12 : n ≤ 12 := by omega
    rw [← hn]
    clear hn
    go_wp2_with fail
    go_loopw [10, 12] (fun tv s wr => ∃ i : Nat, i ≤ n ∧ s = .int .i64 i ∧ ToldAt w1 bs i tv wr) (fun _ s _ => n - (intOf s).toNat)
    case atStart => exact ⟨0, by omega, rfl, _, [], HS.out, rfl, World.ownsRow_nil _ _ _ _, (fun g hg => by cases hg), (fun j t ht => by cases ht)⟩
    case round =>
      obtain ⟨i, hi, rfl, F, ts, hS, hts, hown, hnF, hK⟩ := hrel
      obtain ⟨tva, tvc, htv⟩ := owns_form hown
      subst htv
      by_cases hlt : i < n
      · obtain ⟨b, hb⟩ : ∃ b, bs[i]? = some b := ⟨_, List.getElem?_eq_getElem (by omega)⟩
        obtain ⟨g, off, x, rfl, hg, hcell, hF⟩ := HOP.out i b hb
        have hBw : Below w.heap.size w wr := Below.call HB1.out hS.below
        have hc := (hBw.cell (p := ⟨g, off + i, none⟩) hg).trans hcell
        have hrk : RowK F wr x b := (RowF.mono hF hBw (Nat.le_refl _)).rowK hBw.size (fun k hk => Nat.le_trans HB1.out.size (hS.sub k hk).1)
        have HSO := Lib.hid (sound11 F x b wr hrk (HSH.out b (List.mem_of_getElem? hb)))
        have HT := Lib.hid (And.intro hb (And.intro hS (And.intro hts (And.intro hown (And.intro hnF hK)))))
        have hnI : decide ((i : Int) < (n : Int)) = true := decide_eq_true (by omega)
        clear hb hS hts hown hnF hK hF hrk hcell hBw
        go_wp2_with fail
        refine HSO.out.mono ?_
        rintro e w4 ⟨sv, sn, sc, rfl, hB4, hr4⟩
        have HB4 := Lib.hid hB4
        have HAP := Lib.hid (appendF (HT.out.2.1.step hB4) (.slice sv sn sc) (soundL b) (hr4.mono (fun k hk => ⟨hk, (HT.out.2.1.sub k hk).2⟩)) short_sound (by have := flat_sbs_le bs i; rw [sbs_len (by omega)]; omega) (ck_sound (by omega) b))
        rw [sbs_len (by omega)] at HAP
        unfold intV ptrV at HAP
        simp only [Int.natCast_add, Int.natCast_one] at HAP
        clear hB4 hr4 HSO
        go_wp2_with fail
        refine HAP.out.mono ?_
        rintro e w5 ⟨rfl, hT5, hS5⟩
        have HT5 := Lib.hid (And.intro hT5 hS5)
        have HSC := Lib.hid (scanS hS5.sto 0 ((i : Int) + 1) (by unfold allInt; omega) (by unfold allInt; omega))
        have hcz := cut_zero (bs := sbs bs (i + 1)) (b := i + 1) (by rw [sbs_len (by omega)]; omega)
        rw [sbs_succ HT.out.1, Int.natCast_add, Int.natCast_one] at hcz
        rw [hcz, ← sbs_succ HT.out.1, List.take_of_length_le (by rw [sbs_len (by omega)]; omega)] at HSC
        unfold ptrV at HSC
        clear hT5 hS5 HAP hcz
        go_wp2_with fail
        refine HSC.out.mono ?_
        rintro e w6 ⟨v6, rfl, hB6, hF6⟩
        obtain ⟨a6, c6, rfl⟩ := hF6.rowF.form
        have HF6 := Lib.hid (And.intro hB6 hF6)
        have HOW := Lib.hid (show w6.ownsRow w1.heap.size 30 1 (.slice tva i tvc) i ts from owns_b1 (owns_turn (owns_b1 HT.out.2.2.2.1 HB4.out) HT5.out.1 (fun g hg => HT.out.2.2.2.2.1 g hg)) hB6)
        have hsz6 : w1.heap.size ≤ w6.heap.size := by
          have h1 := HT.out.2.1.below.size
          have h2 := HB4.out.size
          have h3 := HT5.out.1.size
          have h4 := hB6.size
          omega
        clear hB6 hF6 HSC
        go_upto_region 11 with (at_builtin; refine wpList_append_own5 _ rfl _ _ 22 rfl w1.heap.size 30 i1 _ 1 24 Try.underlying22 hi1 hy0 hy1 hy2 rfl (by decide) (.slice tva i tvc) i ts rfl (HOW.out.alloc _) ⟨w6.heap.size, 0, none⟩ 1 1 [.slice a6 (flat (sbs bs (i + 1))).length c6] rfl rfl (cell_one_at w6 30 _) (by intro u hu; simp at hu; subst hu; rfl) (by unfold maxLen; omega) (by omega) (by simp; omega) ?_; intro v' w7 hown7 hgrow hat; obtain ⟨v7a, v7c, hv7⟩ := owns_form hown7; subst hv7)
        have hnew := told_step HT.out.1 HT.out.2.1 HT.out.2.2.1 HT.out.2.2.2.1 HT.out.2.2.2.2.1 HT.out.2.2.2.2.2 HB4.out HT5.out.1 HT5.out.2 HF6.out.1 HF6.out.2 hown7 hgrow hat
        have HR := Lib.hid hnew
        clear hnew hown7 hgrow hat
        go_wp2_with fail
        go_roundw
        case rel => exact ⟨i + 1, by omega, by go_num, HR.out⟩
        case measure => simp [intOf]; omega
      · obtain rfl : i = n := by omega
        have HT := Lib.hid (And.intro hS.sto (And.intro hown hK))
        have HTS := Lib.hid hts
        obtain ⟨w9, hw9⟩ : ∃ w9, w9 = wr := ⟨_, rfl⟩
        subst hw9
        have hw19 : w1.heap.size ≤ w9.heap.size := hS.below.size
        have HST := Lib.hid hS.sto
        have hflat := flat_sbs_le bs i
        clear hS hts hown hnF hK
        go_wp2_with fail
        go_loopw [15] (fun s wr => ∃ q : Nat, q ≤ i ∧ s = .int .i64 q ∧ Below w9.heap.size w9 wr) (fun s _ => i - (intOf s).toNat)
        case atStart => exact ⟨0, by omega, rfl, Below.refl _ _⟩
        case round =>
          obtain ⟨q, hq, rfl, hB⟩ := hrel
          by_cases hltq : q < i
          · have HB := Lib.hid hB
            have hcz := cut_zero (bs := sbs bs i) (b := q + 1) (by rw [sbs_len (by omega)]; omega)
            rw [sbs_take (by omega), Int.natCast_add, Int.natCast_one] at hcz
            have HCZ := Lib.hid hcz
            have HSC := Lib.hid (scanS (HST.out.step hB) 0 ((q : Int) + 1) (by unfold allInt; omega) (by unfold allInt; omega))
            rw [hcz] at HSC
            unfold ptrV at HSC
            have hfq := flat_sbs_le bs (q + 1)
            obtain ⟨-, ta, tc, htv, -, -, htc⟩ := Row.of_owns HT.out.2.1
            injection htv with e1 e2 e3
            subst e1 e3
            obtain ⟨gt, ot, rfl, hgt, htq⟩ := htc (by omega)
            have hcell := htq q (by omega)
            obtain ⟨t, ht⟩ : ∃ t, ts[q]? = some t := ⟨_, List.getElem?_eq_getElem (by rw [HTS.out]; exact hltq)⟩
            rw [List.getD_eq_getElem?_getD, ht] at hcell
            have HTQ := Lib.hid (HT.out.2.2 q t ht)
            obtain ⟨qa, qc, rfl⟩ := HTQ.out.rowF.form
            have HCE := Lib.hid (And.intro hgt hcell)
            have hqi : decide ((q : Int) < (i : Int)) = true := decide_eq_true (by omega)
            clear hB hcz htc htq ht hgt hcell
            go_wp2_with fail
            refine HSC.out.mono ?_
            rintro e w10 ⟨v6, rfl, hB6, hF6⟩
            obtain ⟨a6, c6, rfl⟩ := hF6.rowF.form
            have HB10 := Lib.hid (Below.call HB.out hB6)
            have hc10 : w10.cell? ⟨gt, ot + q, none⟩ = some (.slice qa (flat (sbs bs (q + 1))).length qc) := (HB10.out.cell (p := ⟨gt, ot + q, none⟩) HCE.out.1).trans HCE.out.2
            have HSA := Lib.hid (same13 _ _ (.slice a6 (flat (sbs bs (q + 1))).length c6) (.slice qa (flat (sbs bs (q + 1))).length qc) (flat (sbs bs (q + 1))) w10 hF6.rowF (HTQ.out.below HB10.out).rowF (by omega))
            clear hB6 hF6 HSC
            go_wp2_with fail
            refine HSA.out.mono ?_
            rintro e w11 ⟨rfl, nd, rfl⟩
            have HSZ := Lib.hid (sizeS ((HST.out.step HB10.out).step (Below.drewN (Below.refl _ w10) nd)) 0 ((q : Int) + 1) (by unfold allInt; omega) (by unfold allInt; omega))
            rw [HCZ.out] at HSZ
            unfold intV ptrV at HSZ
            clear hc10 HSA
            go_wp2_with fail
            refine HSZ.out.mono ?_
            rintro e w12 ⟨rfl, hB12⟩
            have HB12 := Lib.hid hB12
            clear hB12 HSZ
            go_wp2_with fail
            go_roundw
            case rel => exact ⟨q + 1, by omega, by go_num, Below.call (Below.drewN HB10.out nd) HB12.out⟩
            case measure => simp [intOf]; omega
          · obtain rfl : q = i := by omega
            obtain ⟨wA, hwA⟩ : ∃ wA, wA = wr := ⟨_, rfl⟩
            subst hwA
            have HBC := Lib.hid hB
            have HC1 := Lib.hid (cut15 ca HCA.out.1 q (by omega) wA)
            have hX := cutN_le ca q
            clear hB
            generalize cutN ca q = X at *
            have HC2 := Lib.hid (cut15 cb HCA.out.2 (q - X) (by omega) wA)
            have hZ := cutN_le cb (q - X)
            rw [show ((q - X : Nat) : Int) = (q : Int) - (X : Int) by omega] at HC2
            generalize cutN cb (q - X) = Z at *
            go_wp2_with fail
            refine HC1.out.mono ?_
            rintro e w10 ⟨rfl, rfl⟩
            go_wp2_with fail
            refine HC2.out.mono ?_
            rintro e w10 ⟨rfl, rfl⟩
            clear HC1 HC2
            have hAC : w9.heap.size ≤ wA.heap.size := HBC.out.size
            have HBA := Lib.hid (Below.refl wA.heap.size wA)
            have HR0 := Lib.hid (show FactsR wA.heap.size wA.heap.size wA (.slice none 0 0) [] [] from ⟨FactsP.nil _ _, World.ownsRow_nil _ _ _ _⟩)
            have HSC := Lib.hid (scanS (HST.out.over hw19 HBC.out) (0) ((X : Int)) (by unfold allInt; omega) (by unfold allInt; omega))
            unfold ptrV at HSC
            go_wp2_with fail
            refine HSC.out.mono ?_
            rintro e wS1 ⟨v1, rfl, hB, hF⟩
            obtain ⟨ps1, hF⟩ := hF
            obtain ⟨a1, c1, hv⟩ := owns_form hF.2.1
            subst hv
            have HF1 := Lib.hid (hF.lower (A' := wA.heap.size) HBA.out.size)
            have HOLD := Lib.hid (HR0.out.below hB)
            have HBA2 := Lib.hid (Below.call HBA.out hB)
            have HBC2 := Lib.hid (Below.call HBC.out hB)
            have hsz := HBA2.out.size
            have hl1 := cut_le (sbs bs q) (0) ((X : Int))
            clear hB hF HSC
            go_upto_region 27 with (at_builtin; refine wpList_append_row rfl _ _ 30 rfl wA.heap.size 41 i0 _ 2 48 Try.underlying30 hi0 hz0 hz1 hz2 rfl (by decide) (.slice none 0 0) (0) ([]) rfl HOLD.out.2 wS1.heap.size (.slice a1 (cutB (sbs bs q) (0) ((X : Int))).length c1) (cutB (sbs bs q) (0) ((X : Int))).length (ps1.flatMap (fun p => [p.1, p.2])) rfl HF1.out.cells HF1.out.one (by unfold maxLen; omega) (by omega) hsz ?_; intro v' wT1 hown hgrow hat; rw [Nat.zero_add, List.nil_append] at hown; obtain ⟨b1, d1, hv⟩ := owns_form hown; subst hv)
            have hR := HOLD.out.append HF1.out (Nat.le_refl _) (by rw [List.length_nil, Nat.zero_add]; exact hown) hgrow
            rw [List.nil_append, List.nil_append] at hR
            have hG := HOLD.out.grown (w0 := w) hsz hgrow
            have HR1 := Lib.hid hR
            have HBA := Lib.hid (HBA2.out.trans hG)
            have HBC := Lib.hid (HBC2.out.trans (hG.mono hAC))
            clear hR hG hown hgrow hat HOLD HBA2 HBC2 hsz
            have HSC := Lib.hid (scanS (HST.out.over hw19 HBC.out) ((X : Int)) ((X : Int) + (Z : Int)) (by unfold allInt; omega) (by unfold allInt; omega))
            unfold ptrV at HSC
            go_wp2_with fail
            refine HSC.out.mono ?_
            rintro e wS2 ⟨v2, rfl, hB, hF⟩
            obtain ⟨ps2, hF⟩ := hF
            obtain ⟨a2, c2, hv⟩ := owns_form hF.2.1
            subst hv
            have HF2 := Lib.hid (hF.lower (A' := wA.heap.size) HBA.out.size)
            have HOLD := Lib.hid (HR1.out.below hB)
            have HBA2 := Lib.hid (Below.call HBA.out hB)
            have HBC2 := Lib.hid (Below.call HBC.out hB)
            have hsz := HBA2.out.size
            have hl2 := cut_le (sbs bs q) ((X : Int)) ((X : Int) + (Z : Int))
            clear hB hF HSC
            go_upto_region 28 with (at_builtin; refine wpList_append_row rfl _ _ 30 rfl wA.heap.size 41 i0 _ 2 48 Try.underlying30 hi0 hz0 hz1 hz2 rfl (by decide) (.slice b1 (cutB (sbs bs q) (0) ((X : Int))).length d1) ((cutB (sbs bs q) (0) ((X : Int))).length) (ps1.flatMap (fun p => [p.1, p.2])) rfl HOLD.out.2 wS2.heap.size (.slice a2 (cutB (sbs bs q) ((X : Int)) ((X : Int) + (Z : Int))).length c2) (cutB (sbs bs q) ((X : Int)) ((X : Int) + (Z : Int))).length (ps2.flatMap (fun p => [p.1, p.2])) rfl HF2.out.cells HF2.out.one (by unfold maxLen; omega) (by omega) hsz ?_; intro v' wT2 hown hgrow hat; obtain ⟨b2, d2, hv⟩ := owns_form hown; subst hv)
            have hR := HOLD.out.append HF2.out (Nat.le_refl _) hown hgrow
            have hG := HOLD.out.grown (w0 := w) hsz hgrow
            have HR2 := Lib.hid hR
            have HBA := Lib.hid (HBA2.out.trans hG)
            have HBC := Lib.hid (HBC2.out.trans (hG.mono hAC))
            clear hR hG hown hgrow hat HOLD HBA2 HBC2 hsz
            have HSC := Lib.hid (scanS (HST.out.over hw19 HBC.out) ((X : Int) + (Z : Int)) ((q : Int)) (by unfold allInt; omega) (by unfold allInt; omega))
            unfold ptrV at HSC
            go_wp2_with fail
            refine HSC.out.mono ?_
            rintro e wS3 ⟨v3, rfl, hB, hF⟩
            obtain ⟨ps3, hF⟩ := hF
            obtain ⟨a3, c3, hv⟩ := owns_form hF.2.1
            subst hv
            have HF3 := Lib.hid (hF.lower (A' := wA.heap.size) HBA.out.size)
            have HOLD := Lib.hid (HR2.out.below hB)
            have HBA2 := Lib.hid (Below.call HBA.out hB)
            have HBC2 := Lib.hid (Below.call HBC.out hB)
            have hsz := HBA2.out.size
            have hl3 := cut_le (sbs bs q) ((X : Int) + (Z : Int)) ((q : Int))
            clear hB hF HSC
            go_upto_region 29 with (at_builtin; refine wpList_append_row rfl _ _ 30 rfl wA.heap.size 41 i0 _ 2 48 Try.underlying30 hi0 hz0 hz1 hz2 rfl (by decide) (.slice b2 ((cutB (sbs bs q) (0) ((X : Int))).length + (cutB (sbs bs q) ((X : Int)) ((X : Int) + (Z : Int))).length) d2) ((cutB (sbs bs q) (0) ((X : Int))).length + (cutB (sbs bs q) ((X : Int)) ((X : Int) + (Z : Int))).length) (ps1.flatMap (fun p => [p.1, p.2]) ++ ps2.flatMap (fun p => [p.1, p.2])) rfl (by have := HOLD.out.2; rw [List.length_append, List.flatMap_append] at this; exact this) wS3.heap.size (.slice a3 (cutB (sbs bs q) ((X : Int) + (Z : Int)) ((q : Int))).length c3) (cutB (sbs bs q) ((X : Int) + (Z : Int)) ((q : Int))).length (ps3.flatMap (fun p => [p.1, p.2])) rfl HF3.out.cells HF3.out.one (by unfold maxLen; omega) (by omega) hsz ?_; intro v' wT3 hown hgrow hat; obtain ⟨b3, d3, hv⟩ := owns_form hown; subst hv)
            have hR := HOLD.out.append HF3.out (Nat.le_refl _) (by rw [List.length_append, List.flatMap_append]; exact hown) hgrow
            have hG := HOLD.out.grown (w0 := w) hsz hgrow
            have HR3 := Lib.hid hR
            have HBA := Lib.hid (HBA2.out.trans hG)
            have HBC := Lib.hid (HBC2.out.trans (hG.mono hAC))
            clear hR hG hown hgrow hat HOLD HBA2 HBC2 hsz
            have hall := cut_parts (bs := sbs bs q) (x := X) (y := X + Z) (n := q) (sbs_len (by omega)) (by omega) (by omega)
            rw [Int.natCast_add] at hall
            have hlen := congrArg List.length hall
            rw [List.length_append, List.length_append] at hlen
            have HRA := HR3.out
            rw [hall] at HRA
            have HALL := Lib.hid HRA
            simp only [hlen]
            rw [hlen] at HALL
            have HSC := Lib.hid (scanS (HST.out.over hw19 HBC.out) 0 (q : Int) (by unfold allInt; omega) (by unfold allInt; omega))
            have hcz := cut_zero (bs := sbs bs q) (b := q) (by rw [sbs_len (by omega)]; omega)
            rw [hcz, List.take_of_length_le (by rw [sbs_len (by omega)]; omega)] at HSC
            unfold ptrV at HSC
            clear hcz hall hlen HRA
            go_wp2_with fail
            refine HSC.out.mono ?_
            rintro e w20 ⟨v20, rfl, hB20, hF20⟩
            have HSA := Lib.hid (same13 _ _ (.slice b3 (flat (sbs bs q)).length d3) v20 (flat (sbs bs q)) w20 (FactsN.rowF ⟨_, (HALL.out.below hB20).1⟩) hF20.rowF (by omega))
            obtain ⟨a20, c20, rfl⟩ := hF20.rowF.form
            have HBA := Lib.hid (Below.call HBA.out hB20)
            have HBC := Lib.hid (Below.call HBC.out hB20)
            clear hB20 hF20 HSC
            go_wp2_with fail
            refine HSA.out.mono ?_
            rintro e w21 ⟨rfl, nd, rfl⟩
            have HLN := Lib.hid (lenS (HST.out.over hw19 (Below.drewN HBC.out nd)))
            unfold intV ptrV at HLN
            clear HSA
            go_wp2_with fail
            refine HLN.out.mono ?_
            rintro e w22 ⟨rfl, nd2, rfl⟩
            go_wp2_with fail
            go_ret
            exact ⟨rfl, Below.drewN ((Below.call HB1.out HST.out.below).trans (HBC.out.mono (Nat.le_trans HB1.out.size hw19))) (nd + nd2)⟩
theorem snapLaw (v : Value) (ca cb : Int) (w : World) (bs : List (List FactT)) (hbs : RowBs w v bs) (hsh : ∀ b ∈ bs, ∀ f ∈ b, shortF f) (hca : (Lit.int .i64 ca).wf = true) (hcb : (Lit.int .i64 cb).wf = true) :
    Calls Try.prog 3 #[v, .int .i64 ca, .int .i64 cb] w fun e w' => e = .returned (.bool true) ∧ Below w.heap.size w w' := snap3 v bs ca cb w hbs hsh (wf_bd hca) (wf_bd hcb)
end Go.Proofs.Ytdpgpcffhhdpiaa
