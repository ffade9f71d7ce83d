/- LexPlaces: its plain law, its walk. -/
import Derived.Test.YtofjifhnkcghpaaDoorM
namespace Go.Proofs.YtofjifhnkcghpaaDoor
open Go.RowKit
set_option linter.unusedVariables false
set_option linter.unusedSimpArgs false
set_option maxRecDepth 100000
section
variable {L : List UInt8} {ws : List Wd} {i q : Nat} {wd : Wd}
theorem drop_i (hg : ws[i]? = some wd) : ws.drop i = wd :: ws.drop (i + 1) := by
  have hi := (List.getElem?_eq_some_iff.1 hg)
  rw [List.drop_eq_getElem_cons hi.1, hi.2]
theorem pl_ge (h : lexL q (L.drop q) = .ok (ws.drop i)) (hg : ws[i]? = some wd) : q ≤ wd.place := by
  obtain ⟨w, ws', e, h2⟩ := place_ge h
  rw [drop_i hg] at e
  injection e with e1 e2
  rw [e1]; exact h2
theorem pl_blank (h : lexL q (L.drop q) = .ok (ws.drop i)) (hg : ws[i]? = some wd) (hq : q < wd.place) : q < L.length ∧ isBlank (L.getD q 0) = true ∧ lexL (q + 1) (L.drop (q + 1)) = .ok (ws.drop i) := by
  rcases lexL_cases h with ⟨e1, e2⟩ | ⟨c, r', e1, hb, hl⟩ | ⟨c, r', k, t, n, ws', e1, ht, e2, hl⟩
  · rw [drop_i hg] at e2
    injection e2 with e2 e3
    rw [e2] at hq
    exact absurd hq (Nat.lt_irrefl _)
  · have hlt : q < L.length := by
      have := congrArg List.length e1
      rw [List.length_drop, List.length_cons] at this; omega
    rw [List.drop_eq_getElem_cons hlt] at e1
    injection e1 with e1 e3
    refine ⟨hlt, ?_, by rw [e3]; exact hl⟩
    rw [List.getD_eq_getElem?_getD, List.getElem?_eq_getElem hlt]
    show isBlank L[q] = true
    rw [e1]; exact hb
  · rw [drop_i hg] at e2
    injection e2 with e2 e3
    rw [e2] at hq
    exact absurd hq (Nat.lt_irrefl _)
theorem pl_word (h : lexL q (L.drop q) = .ok (ws.drop i)) (hg : ws[i]? = some wd) (hq : wd.place = q) (hqL : q ≤ L.length) : q + (writtenL wd.kind wd.text).length ≤ L.length ∧ wd.text.length ≤ L.length ∧
    ((i + 1 < ws.length ∧ lexL (q + (writtenL wd.kind wd.text).length) (L.drop (q + (writtenL wd.kind wd.text).length)) = .ok (ws.drop (i + 1))) ∨ (i + 1 = ws.length ∧ q + (writtenL wd.kind wd.text).length = L.length)) := by
  have hi := (List.getElem?_eq_some_iff.1 hg).1
  rcases lexL_cases h with ⟨e1, e2⟩ | ⟨c, r', e1, hb, hl⟩ | ⟨c, r', k, t, n, ws', e1, ht, e2, hl⟩
  · rw [drop_i hg] at e2
    injection e2 with e2 e3
    have h1 := congrArg List.length e1
    have h2 := congrArg List.length e3
    rw [List.length_drop] at h1 h2
    simp only [List.length_nil] at h1 h2
    subst e2
    refine ⟨by simp [writtenL]; omega, by simp, .inr ⟨by omega, by simp [writtenL]; omega⟩⟩
  · obtain ⟨w, ws', e, h2⟩ := place_ge hl
    rw [drop_i hg] at e
    injection e with e3 e4
    subst e3
    omega
  · rw [drop_i hg] at e2
    injection e2 with e2 e3
    subst e2
    have hn := tokL_le ht
    have hf := (tok_form ht).1
    have hlen : (writtenL k t).length = n := by
      rw [hf.len, List.length_take]; omega
    have hd := congrArg List.length e1
    rw [List.length_drop] at hd
    have htl : t.length ≤ n := by
      rw [← hlen]; unfold writtenL
      split
      · simp [quoteL, quoteB_len]; omega
      · exact Nat.le_refl _
    obtain ⟨w2, ws2, e5, -⟩ := place_ge hl
    have h6 : 0 < (ws.drop (i + 1)).length := by rw [e3, e5]; simp
    rw [List.length_drop] at h6
    refine ⟨by show q + (writtenL k t).length ≤ _; rw [hlen]; omega, by show t.length ≤ _; omega, .inl ⟨by omega, ?_⟩⟩
    show lexL (q + (writtenL k t).length) (L.drop (q + (writtenL k t).length)) = _
    rw [hlen, e3, ← List.drop_drop]; exact hl
end
theorem lexF_err {s : ByteArray} {e : Int} {o : Nat} (h : lexF s = .error (e, o)) : o ≤ s.size ∧ (e = 40 ∨ e = 45) := by
  unfold lexF at h
  split at h
  · injection h with h; injection h with h1 h2; subst h1 h2; exact ⟨Nat.zero_le _, .inr rfl⟩
  · have := lexL_err _ _ h
    rw [str_len] at this
    exact ⟨by omega, this.2⟩
theorem lexF_ok {s : ByteArray} {ws : List Wd} (h : lexF s = .ok ws) : s.size ≤ 4096 ∧ lexL 0 s.data.toList = .ok ws := by
  unfold lexF at h
  split at h
  · cases h
  · exact ⟨by omega, h⟩
theorem eq32 (c : UInt8) : (((c.toNat : Nat) : Int) == 32) = decide (c = 32) := eqN 32 (by decide) c
theorem eq9 (c : UInt8) : (((c.toNat : Nat) : Int) == 9) = decide (c = 9) := eqN 9 (by decide) c
theorem eq10 (c : UInt8) : (((c.toNat : Nat) : Int) == 10) = decide (c = 10) := eqN 10 (by decide) c
theorem eq13 (c : UInt8) : (((c.toNat : Nat) : Int) == 13) = decide (c = 13) := eqN 13 (by decide) c
theorem blank4 {c : UInt8} (h : isBlank c = true) : c = 32 ∨ c = 9 ∨ c = 10 ∨ c = 13 := by
  simp [isBlank] at h
  rcases h with ((h | h) | h) | h <;> simp [h]
set_option maxHeartbeats 4000000 in
theorem places7 (s : ByteArray) (w : World) (hs : s.size ≤ 140737488351232) (h : GW w) : Calls Tryd.prog 7 #[.string s] w fun e w' => e = .returned (.bool true) ∧ Below w.heap.size w w' := by
  have HG := Lib.hid h
  clear h
  have H9 := Lib.hid (awake9 w HG.out)
  obtain ⟨r, hr⟩ : ∃ r, lexF s = r := ⟨_, rfl⟩
  cases r with
  | error q =>
    obtain ⟨e, o⟩ := q
    obtain ⟨ho, he⟩ := lexF_err hr
    have HR := Lib.hid hr
    have d0 : decide ((0 : Int) ≤ (o : Int)) = true := decide_eq_true (by omega)
    have d1 : decide ((o : Int) ≤ (s.size : Int)) = true := decide_eq_true (by omega)
    clear hr
    rcases he with rfl | rfl
    all_goals (
      go_enter Tryd.func7, Tryd.ntmps7
      go_wp2_with fail
      refine H9.out.mono ?_
      rintro e w1 ⟨rfl, hb1⟩
      have HB1 := Lib.hid hb1
      clear hb1
      go_wp2_with fail
      refine (words11G s w1 (by omega) (HG.out.below HB1.out) HR.out).mono ?_
      rintro e w2 ⟨v2, rfl, hv2, hb2⟩
      dsimp only [faultC, okL] at hv2 ⊢
      obtain ⟨a2, c2, hv2e⟩ := hv2.form
      subst hv2e
      have HB2 := Lib.hid (Below.call HB1.out hb2)
      clear hv2 hb2
      go_wp2_with fail
      go_ret
      exact ⟨rfl, HB2.out.alloc HB2.out.size _⟩)
  | ok ws =>
    obtain ⟨h4, hl⟩ := lexF_ok hr
    have hfm := lex_forms hl
    have HR := Lib.hid (And.intro hr (And.intro hl hfm))
    obtain ⟨n, hn⟩ : ∃ n, n = ws.length := ⟨_, rfl⟩
    have hn1 : 1 ≤ n := by rw [hn]; exact hfm.2.1
    have hn2 : n ≤ 4097 := by rw [hn]; have := hfm.1; rw [str_len] at this; omega
    have hne : ws ≠ [] := by rintro rfl; simp at hn; omega
    clear hr hl hfm
    go_enter Tryd.func7, Tryd.ntmps7
    go_wp2_with fail
    refine H9.out.mono ?_
    rintro e w1 ⟨rfl, hb1⟩
    have HB1 := Lib.hid hb1
    clear hb1
    go_wp2_with fail
    refine (words11G s w1 (by omega) (HG.out.below HB1.out) HR.out.1).mono ?_
    rintro e w2 ⟨v2, rfl, hv2, hb2⟩
    dsimp only [faultC, okL] at hv2 ⊢
    obtain ⟨g, c, hve, hg, hgw, hc, -, hcell⟩ := hv2.open hne
    rw [← hn] at hve hc
    subst hve
    obtain ⟨w3, hw3⟩ : ∃ w3, w3 = w2.alloc (.cells #[.int .i64 0, .int .i64 0] 26) := ⟨_, rfl⟩
    have hal := (Below.refl w2.heap.size w2).alloc (Nat.le_refl _) (.cells #[.int .i64 0, .int .i64 0] 26)
    rw [← hw3] at hal
    have hb3 : Below w.heap.size w w3 := Below.call (Below.call HB1.out hb2) hal
    have hc3 : ∀ k wd, ws[k]? = some wd → w3.cell? ⟨g, k * 3, none⟩ = some (.int .i64 wd.kind) ∧ w3.cell? ⟨g, k * 3 + 1, none⟩ = some (.string ⟨wd.text.toArray⟩) ∧ w3.cell? ⟨g, k * 3 + 2, none⟩ = some (.int .i64 (wd.place : Int)) := fun k wd hk =>
      ⟨(hal.cell (by exact hgw)).trans (hcell k wd hk).1, (hal.cell (by exact hgw)).trans (hcell k wd hk).2.1, (hal.cell (by exact hgw)).trans (hcell k wd hk).2.2⟩
    have hgw3 : g < w3.heap.size := Nat.lt_of_lt_of_le hgw hal.size
    have H3 := Lib.hid (And.intro hb3 (And.intro hc3 (And.intro hgw3 hw3)))
    have HN := Lib.hid hn
    clear hv2 hb2 hcell hg hgw hal hb3 hc3 hgw3 hw3 hn hne
    go_upto_region 3 with (fail)
    change Code.wp Tryd.prog _ _ _ (w2.alloc (.cells #[.int .i64 0, .int .i64 0] 26))
    have f0 : (w2.alloc (.cells #[.int .i64 0, .int .i64 0] 26)).cell? ⟨w2.heap.size, 0, none⟩ = some (.int .i64 0) := Blk.cell (Blk.new w2 26 _) 0
    rw [← H3.out.2.2.2] at f0 ⊢
    go_wp2_with fail
    clear f0
    go_loopw [6, 7, 8] (fun a x m wr => ∃ (i p : Nat), i ≤ n ∧ x = .int .i64 i ∧ a = .int .i64 p ∧ p ≤ s.size ∧ ((i < n ∧ lexL p (s.data.toList.drop p) = .ok (ws.drop i)) ∨ (i = n ∧ p = s.size)) ∧ Below w3.heap.size w3 wr) (fun _ x _ _ => n - (intOf x).toNat)
    case atStart => exact ⟨0, 0, by omega, rfl, rfl, by omega, .inl ⟨by omega, HR.out.2.1⟩, Below.refl _ _⟩
    case round =>
      obtain ⟨i, p, hi, rfl, rfl, hp, hst, hbr⟩ := hrel
      by_cases hin : i < n
      · have hl : lexL p (s.data.toList.drop p) = .ok (ws.drop i) := by rcases hst with h | h; exact h.2; omega
        obtain ⟨wd, hwd⟩ : ∃ wd, ws[i]? = some wd := ⟨_, List.getElem?_eq_getElem (by rw [← HN.out]; exact hin)⟩
        have hdi : decide ((i : Int) < (n : Int)) = true := decide_eq_true (by omega)
        obtain ⟨c0, c1, c2⟩ := H3.out.2.1 i wd hwd
        have c0 := (hbr.cell (by exact H3.out.2.2.1)).trans c0
        have c1 := (hbr.cell (by exact H3.out.2.2.1)).trans c1
        have c2 := (hbr.cell (by exact H3.out.2.2.1)).trans c2
        obtain ⟨P, hP⟩ : ∃ P, P = wd.place := ⟨_, rfl⟩
        rw [← hP] at c2
        have HL := Lib.hid (And.intro hl (And.intro hwd (And.intro hP hbr)))
        clear hl hwd hP hbr hst
        go_wp2_with fail
        go_loopw [6] (fun a wq => ∃ (q : Nat), q ≤ P ∧ q ≤ s.size ∧ a = .int .i64 q ∧ lexL q (s.data.toList.drop q) = .ok (ws.drop i) ∧ wq = wr) (fun a _ => P - (intOf a).toNat)
        case atStart => exact ⟨p, by rw [HL.out.2.2.1]; exact pl_ge HL.out.1 HL.out.2.1, hp, rfl, HL.out.1, rfl⟩
        case round =>
          obtain ⟨q, hqP, hqs, rfl, hlq, rfl⟩ := hrel
          by_cases hlt : q < P
          · have hdq : decide ((q : Int) < (P : Int)) = true := decide_eq_true (by omega)
            obtain ⟨b1, b2, b3⟩ := pl_blank hlq HL.out.2.1 (by rw [← HL.out.2.2.1]; exact hlt)
            have b1 : q < s.size := b1
            have hsd : decide ((s.size : Int) ≤ (q : Int)) = false := decide_eq_false (by omega)
            have hsq : s.data.toList.getD q 0 = s[q] := by
              have := str_drop s b1
              rw [List.getD_eq_getElem?_getD, ← List.head?_drop, this]; rfl
            rw [hsq] at b2
            have HBq := Lib.hid b3
            have hz : (((s[q].toNat : Nat) : Int) != 32) = false ∨ ((((s[q].toNat : Nat) : Int) != 32) = true ∧ (((s[q].toNat : Nat) : Int) != 9) = false) ∨ ((((s[q].toNat : Nat) : Int) != 32) = true ∧ (((s[q].toNat : Nat) : Int) != 9) = true ∧ (((s[q].toNat : Nat) : Int) != 10) = false) ∨ ((((s[q].toNat : Nat) : Int) != 32) = true ∧ (((s[q].toNat : Nat) : Int) != 9) = true ∧ (((s[q].toNat : Nat) : Int) != 10) = true ∧ (((s[q].toNat : Nat) : Int) != 13) = false) := by
              unfold bne
              rw [eq32, eq9, eq10, eq13]
              rcases blank4 b2 with e | e | e | e <;> rw [e] <;> decide
            have HZ := Lib.hid hz
            clear hlq b3 hsq b2 hz
            rcases HZ.out with z1 | ⟨z1, z2⟩ | ⟨z1, z2, z3⟩ | ⟨z1, z2, z3, z4⟩
            all_goals (
              go_wp2_with fail
              go_roundw
              case rel => exact ⟨q + 1, by omega, by omega, by go_num, HBq.out, by first | rfl | trivial⟩
              case measure => simp [intOf]; omega)
          · have hdq : decide ((q : Int) < (P : Int)) = false := decide_eq_false (by omega)
            have hqe : q = P := by omega
            subst hqe
            obtain ⟨m1, m2, m3⟩ := pl_word hlq HL.out.2.1 HL.out.2.2.1.symm hqs
            rw [str_len] at m1 m2 m3
            obtain ⟨N, hN⟩ : ∃ N, N = (writtenL wd.kind wd.text).length := ⟨_, rfl⟩
            rw [← hN] at m1 m3
            have HW := written19 wd.kind ⟨wd.text.toArray⟩ (q : Int) wr (by show wd.text.length ≤ _; omega) (HG.out.below (Below.call H3.out.1 HL.out.2.2.2))
            obtain ⟨WR, hWR⟩ : ∃ WR : ByteArray, WR = ⟨(writtenL wd.kind (⟨wd.text.toArray⟩ : ByteArray).data.toList).toArray⟩ := ⟨_, rfl⟩
            rw [← hWR] at HW
            have hWs : WR.size = N := by rw [hWR, hN]; rfl
            have HW := Lib.hid HW
            have hd9 : decide ((s.size : Int) < (q : Int) + (N : Int)) = false := decide_eq_false (by omega)
            have HWW := Lib.hid (show wrap64 ((q : Int) + (WR.size : Int)) = (q : Int) + (N : Int) by rw [w64 (by omega), hWs])
            have HM := Lib.hid (And.intro m1 (And.intro m3 hWs))
            clear hlq m1 m2 m3 hN hWR hWs
            go_wp2_with fail
            refine HW.out.mono ?_
            rintro e w5 ⟨rfl, hb5⟩
            have e2 : w5.cell? ⟨g, i * 3 + 2, none⟩ = some (.int .i64 (q : Int)) := (hb5.cell (by show g < _; exact Nat.lt_of_lt_of_le H3.out.2.2.1 HL.out.2.2.2.size)).trans c2
            have H5 := Lib.hid (Below.call HL.out.2.2.2 hb5)
            clear hb5 c0 c1 c2
            have hww := HWW.out
            go_wp2_with fail
            clear hww
            refine ⟨⟨i + 1, q + N, by omega, by first | rfl | go_num, by rw [HWW.out]; rfl, HM.out.1, ?_, H5.out⟩, by simp [intOf]; omega⟩
            have := HM.out.2.1
            rw [HN.out]
            exact this
      · have hie : i = n := by omega
        have hpe : p = s.size := by rcases hst with h | h; omega; exact h.2
        subst hie
        subst hpe
        have hdi : decide ((i : Int) < (i : Int)) = false := decide_eq_false (by omega)
        have hd0 : decide ((0 : Int) < (i : Int)) = true := decide_eq_true (by omega)
        have HB := Lib.hid hbr
        clear hst hbr
        go_wp2_with fail
        go_ret
        exact ⟨rfl, Below.call H3.out.1 HB.out⟩
end Go.Proofs.YtofjifhnkcghpaaDoor
