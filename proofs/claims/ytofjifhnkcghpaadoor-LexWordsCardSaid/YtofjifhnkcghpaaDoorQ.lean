/- LexSpread's walk. -/
import Derived.Test.YtofjifhnkcghpaaDoorP
import Derived.Test.YtofjifhnkcghpaaDoorBase10
namespace Go.Proofs.YtofjifhnkcghpaaDoor
open Go.RowKit
set_option linter.unusedVariables false
set_option linter.unusedSimpArgs false
set_option maxRecDepth 100000
theorem own_ge {w : World} {base : Nat} {e : TypeId} {size n : Nat} {v : Value} {xs : List Value} (h : w.ownsRow base e size v n xs) {g : Nat} (hg : v.ownBlock = some g) : base ≤ g := by
  rcases h.2 with ⟨rfl, -⟩ | ⟨g', cap, cur, rfl, hg', _⟩
  · cases hg
  · cases hg; exact hg'
def padsB : List (List UInt8) := [[32], [10], [9, 32], [32, 13, 10, 32, 32]]
def padN (bl : List Int) (i : Nat) : Nat := (Int.tmod (bl.getD i 0) 4).natAbs
def padOf (bl : List Int) (i : Nat) : List UInt8 := padsB.getD (padN bl i) [32]
theorem padN_lt (bl : List Int) (i : Nat) : padN bl i < 4 := by
  unfold padN
  have h1 := Int.tmod_lt_of_pos (bl.getD i 0) (show (0 : Int) < 4 by decide)
  have h2 := Int.lt_tmod_of_pos (bl.getD i 0) (show (0 : Int) < 4 by decide)
  omega
theorem pads_all : ∀ p ∈ padsB, p ≠ [] ∧ (∀ c ∈ p, isBlank c = true) ∧ p.length ≤ 5 := by decide
theorem padOf_mem (bl : List Int) (i : Nat) : padOf bl i ∈ padsB := by
  have h := padN_lt bl i
  unfold padOf
  rw [List.getD_eq_getElem?_getD, List.getElem?_eq_getElem (show padN bl i < padsB.length from h)]
  exact List.getElem_mem _
theorem padOf_ok (bl : List Int) (i : Nat) : padOf bl i ≠ [] ∧ ∀ c ∈ padOf bl i, isBlank c = true := ⟨(pads_all _ (padOf_mem bl i)).1, (pads_all _ (padOf_mem bl i)).2.1⟩
theorem spreadTo_len (pad : Nat → List UInt8) (ws : List Wd) (hp : ∀ i, (pad i).length ≤ 5) : ∀ i, (∀ j, j < i → (writtenL (ws.getD j ⟨0, [], 0⟩).kind (ws.getD j ⟨0, [], 0⟩).text).length ≤ 4096) → (spreadTo pad ws i).length ≤ i * 4101
  | 0, _ => by simp [spreadTo]
  | i + 1, h => by
    have ih := spreadTo_len pad ws hp i (fun j hj => h j (by omega))
    have h1 := h i (by omega)
    have h2 := hp i
    simp only [spreadTo, List.length_append]
    omega
theorem four_cells (w : World) (k : Nat) (hk : k < 4) : (w.alloc (.cells #[.string ⟨#[32]⟩, .string ⟨#[10]⟩, .string ⟨#[9, 32]⟩, .string ⟨#[32, 13, 10, 32, 32]⟩] 9)).cell? ⟨w.heap.size, k, none⟩ = some (.string ⟨(padsB.getD k [32]).toArray⟩) := by
  rw [Blk.cell (Blk.new w 9 _) k]
  match k, hk with
  | 0, _ => rfl
  | 1, _ => rfl
  | 2, _ => rfl
  | 3, _ => rfl
set_option maxHeartbeats 8000000 in
theorem spread5 (s : ByteArray) (bl : List Int) (v1 : Value) (w : World) (hs : s.size ≤ 140737488351232) (h1 : Row w.heap.size w v1 bl.length 1 (bl.map (Value.int .i64))) (hbl : ∀ y ∈ bl, (Lit.int .i64 y).wf = true) (h : GW w) :
    Calls Tryd.prog 5 #[.string s, v1] w fun e w' => e = .returned (.bool true) ∧ Below w.heap.size w w' := by
  have HG := Lib.hid h
  clear h
  obtain ⟨hl2, a2, cap2, rfl, hcap2, hmax2, hcell2⟩ := h1
  obtain ⟨nb, hnb⟩ : ∃ n, n = bl.length := ⟨_, rfl⟩
  rw [← hnb] at hcap2 hcell2 hl2 ⊢
  have HBL := Lib.hid (And.intro hcell2 (And.intro hl2 (And.intro hbl hnb)))
  clear hcell2 hl2 hbl hnb
  have H9 := Lib.hid (awake9 w HG.out)
  obtain ⟨r, hr⟩ : ∃ r, lexF s = r := ⟨_, rfl⟩
  cases r with
  | error q =>
    obtain ⟨e, o⟩ := q
    obtain ⟨ho, he⟩ := lexF_err hr
    have HR := Lib.hid hr
    clear hr
    rcases he with rfl | rfl
    all_goals (
      go_enter Tryd.func5, Tryd.ntmps5
      go_wp2_with fail
      refine H9.out.mono ?_
      rintro e w1 ⟨rfl, hb1⟩
      have HB1 := Lib.hid hb1
      clear hb1
      go_wp2_with fail
      refine (words11G s w1 (by omega) (HG.out.below HB1.out) HR.out).mono ?_
      rintro e w2 ⟨v2, rfl, hv2, hb2⟩
      dsimp only [faultC, okL] at hv2 ⊢
      obtain ⟨a3, c3, hv2e⟩ := hv2.form
      subst hv2e
      have HB2 := Lib.hid (Below.call HB1.out hb2)
      clear hv2 hb2
      go_wp2_with fail
      go_ret
      exact ⟨rfl, HB2.out.alloc HB2.out.size _⟩)
  | ok ws =>
    obtain ⟨h4, hl⟩ := lexF_ok hr
    have hfm := lex_forms hl
    have HR := Lib.hid (And.intro hr (And.intro hl hfm))
    obtain ⟨n, hn⟩ : ∃ n, n = ws.length := ⟨_, rfl⟩
    have hn1 : 1 ≤ n := by rw [hn]; exact hfm.2.1
    have hn2 : n ≤ 4097 := by rw [hn]; have := hfm.1; rw [str_len] at this; omega
    have hne : ws ≠ [] := by rintro rfl; simp at hn; omega
    have hwl : ∀ (j : Nat) (wd : Wd), ws[j]? = some wd → (writtenL wd.kind wd.text).length ≤ 4096 ∧ wd.text.length ≤ 4096 := by
      intro j wd hj
      have hjl := (List.getElem?_eq_some_iff.1 hj).1
      by_cases hlast : j + 1 < ws.length
      · obtain ⟨x, w', e1, e2, e3⟩ := hfm.2.2.1 j hlast
        rw [hj] at e1; cases e1
        rw [str_len] at e3
        have h5 := e2.len
        refine ⟨by omega, ?_⟩
        have : wd.text.length ≤ (writtenL wd.kind wd.text).length := by
          unfold writtenL
          split
          · simp [quoteL, quoteB_len]; omega
          · exact Nat.le_refl _
        omega
      · have hjj : j = ws.length - 1 := by omega
        rw [hjj, hfm.2.2.2] at hj
        cases hj
        simp [writtenL]
    have hsl : ∀ i, i ≤ n → (spreadTo (padOf bl) ws i).length ≤ i * 4101 := fun i hi => spreadTo_len _ ws (fun k => (pads_all _ (padOf_mem bl k)).2.2) i (fun j hj => by
      have hjl : j < ws.length := by omega
      have := (hwl j ws[j] (List.getElem?_eq_getElem hjl)).1
      rw [List.getD_eq_getElem?_getD, List.getElem?_eq_getElem hjl]; exact this)
    have HWL := Lib.hid (And.intro hwl hsl)
    clear hr hl hfm hwl hsl
    go_enter Tryd.func5, Tryd.ntmps5
    go_wp2_with fail
    refine H9.out.mono ?_
    rintro e w1 ⟨rfl, hb1⟩
    have HB1 := Lib.hid hb1
    clear hb1
    go_wp2_with fail
    refine (words11G s w1 (by omega) (HG.out.below HB1.out) HR.out.1).mono ?_
    rintro e w2 ⟨v2, rfl, hv2, hb2⟩
    dsimp only [faultC, okL] at hv2 ⊢
    obtain ⟨g, c, hve, hg, hgw, hc, -, hcell⟩ := hv2.open hne
    rw [← hn] at hve hc
    subst hve
    obtain ⟨w3, hw3⟩ : ∃ w3, w3 = w2.alloc (.cells #[.int .i64 0, .int .i64 0] 26) := ⟨_, rfl⟩
    have hal := (Below.refl w2.heap.size w2).alloc (Nat.le_refl _) (.cells #[.int .i64 0, .int .i64 0] 26)
    rw [← hw3] at hal
    have hb3 : Below w.heap.size w w3 := Below.call (Below.call HB1.out hb2) hal
    have hc3 : ∀ k wd, ws[k]? = some wd → w3.cell? ⟨g, k * 3, none⟩ = some (.int .i64 wd.kind) ∧ w3.cell? ⟨g, k * 3 + 1, none⟩ = some (.string ⟨wd.text.toArray⟩) ∧ w3.cell? ⟨g, k * 3 + 2, none⟩ = some (.int .i64 (wd.place : Int)) := fun k wd hk =>
      ⟨(hal.cell (by exact hgw)).trans (hcell k wd hk).1, (hal.cell (by exact hgw)).trans (hcell k wd hk).2.1, (hal.cell (by exact hgw)).trans (hcell k wd hk).2.2⟩
    have hgw3 : g < w3.heap.size := Nat.lt_of_lt_of_le hgw hal.size
    have H3 := Lib.hid (And.intro hb3 (And.intro hc3 (And.intro hgw3 hw3)))
    have HN := Lib.hid hn
    clear hv2 hb2 hcell hg hgw hal hb3 hc3 hgw3 hw3 hn hne
    have hd0 : ((n : Int) == 0) = false := by simp; omega
    go_upto_region 3 with (fail)
    change Code.wp Tryd.prog _ _ _ (w2.alloc (.cells #[.int .i64 0, .int .i64 0] 26))
    have f0 : (w2.alloc (.cells #[.int .i64 0, .int .i64 0] 26)).cell? ⟨w2.heap.size, 0, none⟩ = some (.int .i64 0) := Blk.cell (Blk.new w2 26 _) 0
    rw [← H3.out.2.2.2] at f0 ⊢
    go_wp2_with fail
    clear f0
    go_loopw [8, 9, 10] (fun sv pv x wr => ∃ (i : Nat) (S : ByteArray), i + 1 ≤ n ∧ x = .int .i64 i ∧ sv = .string S ∧ S.data.toList = spreadTo (padOf bl) ws i ∧ wr.ownsRow w3.heap.size 3 1 pv i ((List.range i).map fun j => Value.int .i64 (((spreadTo (padOf bl) ws j).length + (padOf bl j).length : Nat) : Int)) ∧ Below w3.heap.size w3 wr) (fun _ _ x _ => n - (intOf x).toNat)
    case atStart => exact ⟨0, ⟨#[]⟩, by omega, rfl, rfl, rfl, ⟨rfl, .inl ⟨rfl, rfl⟩⟩, Below.refl _ _⟩
    case round =>
      obtain ⟨i, S, hi, rfl, rfl, hS, hrow, hbr⟩ := hrel
      by_cases hin : i + 1 < n
      · have hdi : decide ((i : Int) + 1 < (n : Int)) = true := decide_eq_true (by omega)
        obtain ⟨wd, hwd⟩ : ∃ wd, ws[i]? = some wd := ⟨_, List.getElem?_eq_getElem (by rw [← HN.out]; omega)⟩
        obtain ⟨k, hk⟩ : ∃ k, k = padN bl i := ⟨_, rfl⟩
        have hk4 : k < 4 := by rw [hk]; exact padN_lt bl i
        obtain ⟨P, hP⟩ : ∃ P : ByteArray, P = ⟨(padsB.getD k [32]).toArray⟩ := ⟨_, rfl⟩
        have hPl : P.data.toList = padOf bl i := by rw [hP, hk]; rfl
        have hSs : S.size = (spreadTo (padOf bl) ws i).length := by rw [← hS]; rfl
        have hPs : P.size = (padOf bl i).length := by rw [← hPl]; rfl
        have hS1 := HWL.out.2 i (by omega)
        have hP1 := (pads_all _ (padOf_mem bl i)).2.2
        have q1 : ¬ 9223372036854775807 < S.size + P.size := by omega
        have h4c := four_cells wr k hk4
        rw [← hP] at h4c
        have HS := Lib.hid (And.intro hS (And.intro hwd (And.intro hPl (And.intro hSs (And.intro hPs (And.intro hS1 hP1))))))
        have HROW := Lib.hid (And.intro hrow hbr)
        clear hS hwd hP hPl hSs hPs hS1 hP1 hrow hbr
        by_cases hib : i < nb
        · have hdb : decide ((i : Int) < (nb : Int)) = true := decide_eq_true (by omega)
          obtain ⟨b, off, rfl, hb, hcl⟩ := HBL.out.1 (by omega)
          obtain ⟨x, hx⟩ : ∃ x, x = bl.getD i 0 := ⟨_, rfl⟩
          have hcx : wr.cell? ⟨b, off + i, none⟩ = some (.int .i64 x) := by
            have hb2 : Below w.heap.size w wr := Below.call H3.out.1 HROW.out.2
            rw [hb2.cell (by exact hb), hcl i (by omega), hx]
            have : i < bl.length := by rw [← HBL.out.2.2.2]; exact hib
            simp [List.getD_eq_getElem?_getD, this]
          have hkx : k = (Int.tmod x 4).natAbs := by rw [hk, hx]; rfl
          clear hcl hb hx hk
          by_cases hneg : Int.tmod x 4 < 0
          · have htm : x.tmod 4 = -(k : Int) := by omega
            have hk0 : 0 < k := by omega
            have hk1 : decide (0 < k) = true := decide_eq_true hk0
            clear hkx hneg
            go_upto_region 19 with (fail)
            change Code.wp Tryd.prog _ _ _ (wr.alloc (.cells #[.string ⟨#[32]⟩, .string ⟨#[10]⟩, .string ⟨#[9, 32]⟩, .string ⟨#[32, 13, 10, 32, 32]⟩] 9))
            obtain ⟨wa, hwa⟩ : ∃ wa, wa = wr.alloc (.cells #[.string ⟨#[32]⟩, .string ⟨#[10]⟩, .string ⟨#[9, 32]⟩, .string ⟨#[32, 13, 10, 32, 32]⟩] 9) := ⟨_, rfl⟩
            have hba : Below wr.heap.size wr wa := by rw [hwa]; exact (Below.refl _ wr).alloc (Nat.le_refl _) _
            rw [← hwa]
            have HA := Lib.hid (And.intro (owns_below HROW.out.1 hba (Nat.le_refl _)) (Below.call HROW.out.2 hba))
            clear hba hwa h4c
            obtain ⟨i3, hi3, hz0, hz1, hz2⟩ := info_parts (show (Tryd.prog.info? 3).map (fun i => (i.zero, i.size, i.bytes)) = some (some (.int .i64 0), 1, 8) by kernel_rfl)
            go_wp2_with (at_builtin; refine wpList_append_own _ rfl _ _ 34 rfl w3.heap.size 3 i3 (.int .i64 0) 1 8 Tryd.underlying34 hi3 hz0 hz1 hz2 rfl (by decide) _ _ _ rfl (HA.out.1.alloc _) ⟨wa.heap.size, 0, none⟩ 1 1 [.int .i64 ((S.size : Int) + (P.size : Int))] rfl rfl (cell_one_new' _ _ _) (by intro u hu; simp at hu; subst hu; rfl) (by unfold maxLen; omega) (by omega) (by have := HA.out.2.size; simp; omega) ?_; intro v6 w6 hown6 hgrow6 _; have hb6 := (HA.out.2.trans (((Below.refl wa.heap.size wa).alloc (Nat.le_refl _) (.cells #[.int .i64 ((S.size : Int) + (P.size : Int))] 3)).mono HA.out.2.size)).grown hgrow6 (by have := HA.out.2.size; simp; omega) (fun q hq => own_ge HA.out.1 hq); obtain ⟨l0, l1, l2⟩ := H3.out.2.1 i wd HS.out.2.1; have l0 := (hb6.cell (by exact H3.out.2.2.1)).trans l0; have l1 := (hb6.cell (by exact H3.out.2.2.1)).trans l1; have l2 := (hb6.cell (by exact H3.out.2.2.1)).trans l2; have HG6 := Lib.hid (And.intro hown6 hb6); clear hown6 hgrow6 hb6)
            obtain ⟨hw1, hw2⟩ := HWL.out.1 i wd HS.out.2.1
            have HW := written19 wd.kind ⟨wd.text.toArray⟩ (wd.place : Int) w6 (by show wd.text.length ≤ _; omega) (HG.out.below (Below.call H3.out.1 HG6.out.2))
            obtain ⟨WR, hWR⟩ : ∃ WR : ByteArray, WR = ⟨(writtenL wd.kind (⟨wd.text.toArray⟩ : ByteArray).data.toList).toArray⟩ := ⟨_, rfl⟩
            rw [← hWR] at HW
            have hWl : WR.data.toList = writtenL wd.kind wd.text := by rw [hWR]
            have hWs : WR.size = (writtenL wd.kind wd.text).length := by rw [hWR]; rfl
            refine HW.mono ?_
            rintro e w7 ⟨rfl, hb7⟩
            have q2 : ¬ 9223372036854775807 < S.size + P.size + WR.size := by have h1 := HS.out.2.2.2.1; have h2 := HS.out.2.2.2.2.1; have h3 := HS.out.2.2.2.2.2; omega
            have HF := Lib.hid (And.intro hWl (And.intro hb7 hWs))
            clear hw1 hw2 HW hWR hWl hWs hb7 l0 l1 l2
            go_wp2_with fail
            have hSn : (S ++ P ++ WR).data.toList = spreadTo (padOf bl) ws (i + 1) := by
              have hg : ws.getD i ⟨0, [], 0⟩ = wd := by rw [List.getD_eq_getElem?_getD, HS.out.2.1]; rfl
              simp only [spreadTo, hg]
              simp [HS.out.1, HS.out.2.2.1, HF.out.1]
            have hrow6 : w7.ownsRow w3.heap.size 3 1 v6 (i + 1) ((List.range (i + 1)).map fun j => Value.int .i64 (((spreadTo (padOf bl) ws j).length + (padOf bl j).length : Nat) : Int)) := by
              have h5 := owns_below HG6.out.1 HF.out.2.1 (Nat.le_refl _)
              rw [List.range_succ, List.map_append]
              rw [HS.out.2.2.2.1, HS.out.2.2.2.2.1] at h5
              exact h5
            exact ⟨⟨i + 1, S ++ P ++ WR, by omega, by first | rfl | go_num, rfl, hSn, hrow6, Below.call HG6.out.2 HF.out.2.1⟩, by simp [intOf]; omega⟩
          · have htm : x.tmod 4 = (k : Int) := by omega
            have hrd : decide ((k : Int) < 0) = false := decide_eq_false (by omega)
            clear hkx hneg
            go_upto_region 19 with (fail)
            change Code.wp Tryd.prog _ _ _ (wr.alloc (.cells #[.string ⟨#[32]⟩, .string ⟨#[10]⟩, .string ⟨#[9, 32]⟩, .string ⟨#[32, 13, 10, 32, 32]⟩] 9))
            obtain ⟨wa, hwa⟩ : ∃ wa, wa = wr.alloc (.cells #[.string ⟨#[32]⟩, .string ⟨#[10]⟩, .string ⟨#[9, 32]⟩, .string ⟨#[32, 13, 10, 32, 32]⟩] 9) := ⟨_, rfl⟩
            have hba : Below wr.heap.size wr wa := by rw [hwa]; exact (Below.refl _ wr).alloc (Nat.le_refl _) _
            rw [← hwa]
            have HA := Lib.hid (And.intro (owns_below HROW.out.1 hba (Nat.le_refl _)) (Below.call HROW.out.2 hba))
            clear hba hwa h4c
            obtain ⟨i3, hi3, hz0, hz1, hz2⟩ := info_parts (show (Tryd.prog.info? 3).map (fun i => (i.zero, i.size, i.bytes)) = some (some (.int .i64 0), 1, 8) by kernel_rfl)
            go_wp2_with (at_builtin; refine wpList_append_own _ rfl _ _ 34 rfl w3.heap.size 3 i3 (.int .i64 0) 1 8 Tryd.underlying34 hi3 hz0 hz1 hz2 rfl (by decide) _ _ _ rfl (HA.out.1.alloc _) ⟨wa.heap.size, 0, none⟩ 1 1 [.int .i64 ((S.size : Int) + (P.size : Int))] rfl rfl (cell_one_new' _ _ _) (by intro u hu; simp at hu; subst hu; rfl) (by unfold maxLen; omega) (by omega) (by have := HA.out.2.size; simp; omega) ?_; intro v6 w6 hown6 hgrow6 _; have hb6 := (HA.out.2.trans (((Below.refl wa.heap.size wa).alloc (Nat.le_refl _) (.cells #[.int .i64 ((S.size : Int) + (P.size : Int))] 3)).mono HA.out.2.size)).grown hgrow6 (by have := HA.out.2.size; simp; omega) (fun q hq => own_ge HA.out.1 hq); obtain ⟨l0, l1, l2⟩ := H3.out.2.1 i wd HS.out.2.1; have l0 := (hb6.cell (by exact H3.out.2.2.1)).trans l0; have l1 := (hb6.cell (by exact H3.out.2.2.1)).trans l1; have l2 := (hb6.cell (by exact H3.out.2.2.1)).trans l2; have HG6 := Lib.hid (And.intro hown6 hb6); clear hown6 hgrow6 hb6)
            obtain ⟨hw1, hw2⟩ := HWL.out.1 i wd HS.out.2.1
            have HW := written19 wd.kind ⟨wd.text.toArray⟩ (wd.place : Int) w6 (by show wd.text.length ≤ _; omega) (HG.out.below (Below.call H3.out.1 HG6.out.2))
            obtain ⟨WR, hWR⟩ : ∃ WR : ByteArray, WR = ⟨(writtenL wd.kind (⟨wd.text.toArray⟩ : ByteArray).data.toList).toArray⟩ := ⟨_, rfl⟩
            rw [← hWR] at HW
            have hWl : WR.data.toList = writtenL wd.kind wd.text := by rw [hWR]
            have hWs : WR.size = (writtenL wd.kind wd.text).length := by rw [hWR]; rfl
            refine HW.mono ?_
            rintro e w7 ⟨rfl, hb7⟩
            have q2 : ¬ 9223372036854775807 < S.size + P.size + WR.size := by have h1 := HS.out.2.2.2.1; have h2 := HS.out.2.2.2.2.1; have h3 := HS.out.2.2.2.2.2; omega
            have HF := Lib.hid (And.intro hWl (And.intro hb7 hWs))
            clear hw1 hw2 HW hWR hWl hWs hb7 l0 l1 l2
            go_wp2_with fail
            have hSn : (S ++ P ++ WR).data.toList = spreadTo (padOf bl) ws (i + 1) := by
              have hg : ws.getD i ⟨0, [], 0⟩ = wd := by rw [List.getD_eq_getElem?_getD, HS.out.2.1]; rfl
              simp only [spreadTo, hg]
              simp [HS.out.1, HS.out.2.2.1, HF.out.1]
            have hrow6 : w7.ownsRow w3.heap.size 3 1 v6 (i + 1) ((List.range (i + 1)).map fun j => Value.int .i64 (((spreadTo (padOf bl) ws j).length + (padOf bl j).length : Nat) : Int)) := by
              have h5 := owns_below HG6.out.1 HF.out.2.1 (Nat.le_refl _)
              rw [List.range_succ, List.map_append]
              rw [HS.out.2.2.2.1, HS.out.2.2.2.2.1] at h5
              exact h5
            exact ⟨⟨i + 1, S ++ P ++ WR, by omega, by first | rfl | go_num, rfl, hSn, hrow6, Below.call HG6.out.2 HF.out.2.1⟩, by simp [intOf]; omega⟩
        · have hdb : decide ((i : Int) < (nb : Int)) = false := decide_eq_false (by omega)
          have hk0 : k = 0 := by
            have : bl.getD i 0 = 0 := by rw [List.getD_eq_getElem?_getD, List.getElem?_eq_none (by rw [← HBL.out.2.2.2]; omega)]; rfl
            rw [hk]; unfold padN; rw [this]; rfl
          clear hk
          subst hk0
          go_upto_region 19 with (fail)
          change Code.wp Tryd.prog _ _ _ (wr.alloc (.cells #[.string ⟨#[32]⟩, .string ⟨#[10]⟩, .string ⟨#[9, 32]⟩, .string ⟨#[32, 13, 10, 32, 32]⟩] 9))
          obtain ⟨wa, hwa⟩ : ∃ wa, wa = wr.alloc (.cells #[.string ⟨#[32]⟩, .string ⟨#[10]⟩, .string ⟨#[9, 32]⟩, .string ⟨#[32, 13, 10, 32, 32]⟩] 9) := ⟨_, rfl⟩
          have hba : Below wr.heap.size wr wa := by rw [hwa]; exact (Below.refl _ wr).alloc (Nat.le_refl _) _
          rw [← hwa]
          have HA := Lib.hid (And.intro (owns_below HROW.out.1 hba (Nat.le_refl _)) (Below.call HROW.out.2 hba))
          clear hba hwa h4c
          obtain ⟨i3, hi3, hz0, hz1, hz2⟩ := info_parts (show (Tryd.prog.info? 3).map (fun i => (i.zero, i.size, i.bytes)) = some (some (.int .i64 0), 1, 8) by kernel_rfl)
          go_wp2_with (at_builtin; refine wpList_append_own _ rfl _ _ 34 rfl w3.heap.size 3 i3 (.int .i64 0) 1 8 Tryd.underlying34 hi3 hz0 hz1 hz2 rfl (by decide) _ _ _ rfl (HA.out.1.alloc _) ⟨wa.heap.size, 0, none⟩ 1 1 [.int .i64 ((S.size : Int) + (P.size : Int))] rfl rfl (cell_one_new' _ _ _) (by intro u hu; simp at hu; subst hu; rfl) (by unfold maxLen; omega) (by omega) (by have := HA.out.2.size; simp; omega) ?_; intro v6 w6 hown6 hgrow6 _; have hb6 := (HA.out.2.trans (((Below.refl wa.heap.size wa).alloc (Nat.le_refl _) (.cells #[.int .i64 ((S.size : Int) + (P.size : Int))] 3)).mono HA.out.2.size)).grown hgrow6 (by have := HA.out.2.size; simp; omega) (fun q hq => own_ge HA.out.1 hq); obtain ⟨l0, l1, l2⟩ := H3.out.2.1 i wd HS.out.2.1; have l0 := (hb6.cell (by exact H3.out.2.2.1)).trans l0; have l1 := (hb6.cell (by exact H3.out.2.2.1)).trans l1; have l2 := (hb6.cell (by exact H3.out.2.2.1)).trans l2; have HG6 := Lib.hid (And.intro hown6 hb6); clear hown6 hgrow6 hb6)
          obtain ⟨hw1, hw2⟩ := HWL.out.1 i wd HS.out.2.1
          have HW := written19 wd.kind ⟨wd.text.toArray⟩ (wd.place : Int) w6 (by show wd.text.length ≤ _; omega) (HG.out.below (Below.call H3.out.1 HG6.out.2))
          obtain ⟨WR, hWR⟩ : ∃ WR : ByteArray, WR = ⟨(writtenL wd.kind (⟨wd.text.toArray⟩ : ByteArray).data.toList).toArray⟩ := ⟨_, rfl⟩
          rw [← hWR] at HW
          have hWl : WR.data.toList = writtenL wd.kind wd.text := by rw [hWR]
          have hWs : WR.size = (writtenL wd.kind wd.text).length := by rw [hWR]; rfl
          refine HW.mono ?_
          rintro e w7 ⟨rfl, hb7⟩
          have q2 : ¬ 9223372036854775807 < S.size + P.size + WR.size := by have h1 := HS.out.2.2.2.1; have h2 := HS.out.2.2.2.2.1; have h3 := HS.out.2.2.2.2.2; omega
          have HF := Lib.hid (And.intro hWl (And.intro hb7 hWs))
          clear hw1 hw2 HW hWR hWl hWs hb7 l0 l1 l2
          go_wp2_with fail
          have hSn : (S ++ P ++ WR).data.toList = spreadTo (padOf bl) ws (i + 1) := by
            have hg : ws.getD i ⟨0, [], 0⟩ = wd := by rw [List.getD_eq_getElem?_getD, HS.out.2.1]; rfl
            simp only [spreadTo, hg]
            simp [HS.out.1, HS.out.2.2.1, HF.out.1]
          have hrow6 : w7.ownsRow w3.heap.size 3 1 v6 (i + 1) ((List.range (i + 1)).map fun j => Value.int .i64 (((spreadTo (padOf bl) ws j).length + (padOf bl j).length : Nat) : Int)) := by
            have h5 := owns_below HG6.out.1 HF.out.2.1 (Nat.le_refl _)
            rw [List.range_succ, List.map_append]
            rw [HS.out.2.2.2.1, HS.out.2.2.2.2.1] at h5
            exact h5
          exact ⟨⟨i + 1, S ++ P ++ WR, by omega, by first | rfl | go_num, rfl, hSn, hrow6, Below.call HG6.out.2 HF.out.2.1⟩, by simp [intOf]; omega⟩
      · have hie : i + 1 = n := by omega
        have hdi : decide ((i : Int) + 1 < (n : Int)) = false := decide_eq_false (by omega)
        have hSs : S.size = (spreadTo (padOf bl) ws i).length := by rw [← hS]; rfl
        have hSb := HWL.out.2 i (by omega)
        have hlS : lexL 0 S.data.toList = .ok (newW (padOf bl) 0 0 ws) := by
          have h1 := spread_two (padOf bl) ws i (by rw [← HN.out]; omega)
          have h2 : spreadS (padOf bl) i (ws.drop i) = [] := by
            have hil : i < ws.length := by rw [← HN.out]; omega
            rw [List.drop_eq_getElem_cons hil, show ws.drop (i + 1) = [] from List.drop_eq_nil_of_le (by rw [← HN.out]; omega)]
            simp [spreadS]
          rw [h2, List.append_nil] at h1
          rw [hS, h1]
          exact spread_lex (padOf bl) (padOf_ok bl) ws 0 0 (by rintro e; have := HN.out; rw [e] at this; simp at this; omega) (fun j hj => by
            obtain ⟨x, w', e1, e2, e3⟩ := HR.out.2.2.2.2.1 j hj
            exact ⟨x, w', e1, e2⟩)
        have hFS : lexF S = if 4096 < S.size then .error (45, 0) else .ok (newW (padOf bl) 0 0 ws) := by unfold lexF; rw [hlS]
        have HS := Lib.hid (And.intro hSs (And.intro hFS (And.intro hrow hbr)))
        have hSz : S.size ≤ 140737488355328 := by omega
        clear hSs hSb hlS hFS hrow hbr hS
        by_cases hbig : 4096 < S.size
        · have hdg : decide ((4096 : Int) < (S.size : Int)) = true := decide_eq_true (by omega)
          have HW := Lib.hid (words11G S wr hSz (HG.out.below (Below.call H3.out.1 HS.out.2.2.2)) (by rw [HS.out.2.1, if_pos hbig]))
          go_wp2_with fail
          refine HW.out.mono ?_
          rintro e w8 ⟨v8, rfl, hv8, hb8⟩
          dsimp only [faultC, okL] at hv8 ⊢
          obtain ⟨a8, c8, hv8e⟩ := hv8.form
          subst hv8e
          have HB8 := Lib.hid (Below.call (Below.call H3.out.1 HS.out.2.2.2) hb8)
          clear hv8 hb8
          go_wp2_with fail
          go_ret
          exact ⟨rfl, HB8.out.alloc HB8.out.size _⟩
        · have hdg : decide ((4096 : Int) < (S.size : Int)) = false := decide_eq_false (by omega)
          have HW := Lib.hid (words11G S wr hSz (HG.out.below (Below.call H3.out.1 HS.out.2.2.2)) (by rw [HS.out.2.1, if_neg hbig]))
          obtain ⟨ms, hms⟩ : ∃ ms, ms = newW (padOf bl) 0 0 ws := ⟨_, rfl⟩
          rw [← hms] at HW
          have hml : ms.length = n := by rw [hms, newW_len]; exact HN.out.symm
          have hmat : ∀ j, j < n → ms[j]? = some (if j + 1 < n then ⟨(ws.getD j ⟨0, [], 0⟩).kind, (ws.getD j ⟨0, [], 0⟩).text, (spreadTo (padOf bl) ws j).length + (padOf bl j).length⟩ else ⟨6, [], (spreadTo (padOf bl) ws j).length⟩) := fun j hj => by
            have h1 := newW_at (padOf bl) ws ws 0 rfl (by rw [← HN.out]; omega) j (by rw [← HN.out]; exact hj)
            rw [hms]
            simpa [HN.out, spreadTo] using h1
          have hmne : ms ≠ [] := by rintro rfl; simp at hml; omega
          go_wp2_with fail
          refine HW.out.mono ?_
          rintro e w8 ⟨v8, rfl, hv8, hb8⟩
          dsimp only [faultC, okL] at hv8 ⊢
          obtain ⟨g8, c8, hve8, hg8, hgw8, hc8, -, hcell8⟩ := hv8.open hmne
          rw [hml] at hve8 hc8
          subst hve8
          obtain ⟨w9, hw9⟩ : ∃ w9, w9 = w8.alloc (.cells #[.int .i64 0, .int .i64 0] 26) := ⟨_, rfl⟩
          have hal := (Below.refl w8.heap.size w8).alloc (Nat.le_refl _) (.cells #[.int .i64 0, .int .i64 0] 26)
          rw [← hw9] at hal
          have hb9 : Below wr.heap.size wr w9 := Below.call hb8 hal
          have hc9 : ∀ k wd, ms[k]? = some wd → w9.cell? ⟨g8, k * 3, none⟩ = some (.int .i64 wd.kind) ∧ w9.cell? ⟨g8, k * 3 + 1, none⟩ = some (.string ⟨wd.text.toArray⟩) ∧ w9.cell? ⟨g8, k * 3 + 2, none⟩ = some (.int .i64 (wd.place : Int)) := fun k wd hk =>
            ⟨(hal.cell (by exact hgw8)).trans (hcell8 k wd hk).1, (hal.cell (by exact hgw8)).trans (hcell8 k wd hk).2.1, (hal.cell (by exact hgw8)).trans (hcell8 k wd hk).2.2⟩
          have hgw9 : g8 < w9.heap.size := Nat.lt_of_lt_of_le hgw8 hal.size
          have hrow9 := owns_below HS.out.2.2.1 hb9 (Nat.le_refl _)
          have HX9 := Lib.hid (Below.call HS.out.2.2.2 hb9)
          have H9' := Lib.hid (And.intro hb9 (And.intro hc9 (And.intro hgw9 (And.intro hw9 (And.intro hrow9 hmat)))))
          clear hv8 hb8 hcell8 hg8 hgw8 hal hb9 hc9 hgw9 hw9 hrow9 hmat hms hml hmne
          have hnn : ((n : Int) != (n : Int)) = false := by simp
          go_upto_region 24 with (fail)
          change Code.wp Tryd.prog _ _ _ (w8.alloc (.cells #[.int .i64 0, .int .i64 0] 26))
          have f0 : (w8.alloc (.cells #[.int .i64 0, .int .i64 0] 26)).cell? ⟨w8.heap.size, 0, none⟩ = some (.int .i64 0) := Blk.cell (Blk.new w8 26 _) 0
          rw [← H9'.out.2.2.2.1] at f0 ⊢
          go_wp2_with fail
          clear f0
          go_loopw [15] (fun x wz => ∃ (j : Nat), j + 1 ≤ n ∧ x = .int .i64 j ∧ Below w9.heap.size w9 wz) (fun x _ => n - (intOf x).toNat)
          case atStart => exact ⟨0, by omega, rfl, Below.refl _ _⟩
          case round =>
            obtain ⟨j, hj, rfl, hbz⟩ := hrel
            by_cases hjn : j + 1 < n
            · have hdj : decide ((j : Int) + 1 < (n : Int)) = true := decide_eq_true (by omega)
              obtain ⟨wd, hwd⟩ : ∃ wd, ws[j]? = some wd := ⟨_, List.getElem?_eq_getElem (by rw [← HN.out]; omega)⟩
              have hgd : ws.getD j ⟨0, [], 0⟩ = wd := by rw [List.getD_eq_getElem?_getD, hwd]; rfl
              have hm := H9'.out.2.2.2.2.2 j (by omega)
              rw [if_pos hjn, hgd] at hm
              obtain ⟨y0, y1, y2⟩ := H9'.out.2.1 j _ hm
              obtain ⟨x0, x1, x2⟩ := H3.out.2.1 j wd hwd
              have y0 := (hbz.cell (by exact H9'.out.2.2.1)).trans y0
              have y1 := (hbz.cell (by exact H9'.out.2.2.1)).trans y1
              have y2 := (hbz.cell (by exact H9'.out.2.2.1)).trans y2
              have hbw := Below.call HX9.out hbz
              have x0 := (hbw.cell (by exact H3.out.2.2.1)).trans x0
              have x1 := (hbw.cell (by exact H3.out.2.2.1)).trans x1
              have x2 := (hbw.cell (by exact H3.out.2.2.1)).trans x2
              have hrz := owns_below H9'.out.2.2.2.2.1 hbz (Nat.le_refl _)
              have hpc : ∃ gp cp, u9 = .slice (some ⟨gp, 0, none⟩) i cp ∧ i ≤ cp ∧ wr.cell? ⟨gp, j, none⟩ = some (.int .i64 (((spreadTo (padOf bl) ws j).length + (padOf bl j).length : Nat) : Int)) := by
                rcases hrz.2 with ⟨_, h0⟩ | ⟨gp, cp, cur, e1, e2, e3, e4, e5, e6, e7⟩
                · omega
                · refine ⟨gp, cp, e1, e4, ?_⟩
                  have h8 : ((List.range i).map fun j => Value.int .i64 (((spreadTo (padOf bl) ws j).length + (padOf bl j).length : Nat) : Int))[j]? = some (.int .i64 (((spreadTo (padOf bl) ws j).length + (padOf bl j).length : Nat) : Int)) := by
                    rw [List.getElem?_map, List.getElem?_range (by omega)]; rfl
                  rw [← e7, List.getElem?_take, if_pos (by omega)] at h8
                  simpa [World.cell?, e3] using h8
              obtain ⟨gp, cp, hpe, hpi, hpcell⟩ := hpc
              obtain ⟨T, hT⟩ : ∃ T : ByteArray, T = ⟨wd.text.toArray⟩ := ⟨_, rfl⟩
              rw [← hT] at x1 y1
              obtain ⟨pl, hpl⟩ : ∃ pl : Nat, pl = (spreadTo (padOf bl) ws j).length + (padOf bl j).length := ⟨_, rfl⟩
              rw [← hpl] at hpcell y2
              subst hpe
              have HBZ := Lib.hid hbz
              clear hbz hbw hrz hm hwd hgd hT hpl
              go_wp2_with fail
              go_quiet (fail)
              go_wp2_with fail
              exact ⟨⟨j + 1, by omega, by first | rfl | go_num, Below.drewN HBZ.out _⟩, by simp [intOf]; omega⟩
            · have hjn2 : n = j + 1 := by omega
              have hij : i = j := by omega
              have hdj : decide ((j : Int) + 1 < (n : Int)) = false := decide_eq_false (by omega)
              have hm := H9'.out.2.2.2.2.2 j (by omega)
              rw [if_neg hjn, ← hij, ← HS.out.1, hij] at hm
              obtain ⟨y0, y1, y2⟩ := H9'.out.2.1 j _ hm
              have y0 := (hbz.cell (by exact H9'.out.2.2.1)).trans y0
              have y1 := (hbz.cell (by exact H9'.out.2.2.1)).trans y1
              have y2 := (hbz.cell (by exact H9'.out.2.2.1)).trans y2
              have HBZ := Lib.hid hbz
              clear hbz hm hij hie
              subst hjn2
              go_wp2_with fail
              go_ret
              exact ⟨rfl, Below.call (Below.call H3.out.1 HX9.out) HBZ.out⟩
theorem spreadLaw (s : ByteArray) (v1 : Value) (w : World) (hs : s.size ≤ 140737488351232) (bl : List Int) (h1 : Row w.heap.size w v1 bl.length 1 (bl.map (Value.int .i64))) (hbl : ∀ y ∈ bl, (Lit.int .i64 y).wf = true) (_hsz : bl.length * 8 ≤ 140737488351232) (h : GW w) :
    Calls Tryd.prog 5 #[.string s, v1] w fun e w' => e = .returned (.bool true) ∧ Below w.heap.size w w' := spread5 s bl v1 w hs h1 hbl h
end Go.Proofs.YtofjifhnkcghpaaDoor
