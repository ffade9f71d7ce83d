/- LexCase's walk. -/
import Derived.Test.YtofjifhnkcghpaaDoorP
namespace Go.Proofs.YtofjifhnkcghpaaDoor
open Go.RowKit
set_option linter.unusedVariables false
set_option linter.unusedSimpArgs false
set_option maxRecDepth 100000
theorem wpList_valW {P : Program} {ops : Array Oper} {Q : Exit → Act → World → Prop} {rest : List Oper} {o : Oper} {a : Act} {w w' : World} (hgd : o.guard = none) (d : Option Tmp) (hd : o.dst = d) (v : Value) (hx : (execOp a.eval o).run P w = .ok (.value v) w') (h : wpList P ops Q rest (a.put d v) w') : wpList P ops Q (o :: rest) a w := by
  subst hd
  refine wpList_plain hgd fun K hK => ?_
  unfold Oper.wp
  rw [hx]
  exact hK _ _ h
theorem exec_conv {P : Program} {o : Oper} {a : Act} {w w' : World} {s d : TypeId} {x : Operand} (ho : o.op = .convert s d x) {xv v : Value} (hx : a.eval x = xv) (h : (convert s d xv).run P w = .ok v w') : (execOp a.eval o).run P w = .ok (.value v) w' := by
  unfold execOp
  simp only [ho, hx, h, Sem.run_bind, Sem.run_pure, Result.andThen_ok]
theorem altGo_len : ∀ (t : List UInt8) (o : Bool), (altGo o t).length = t.length
  | [], _ => rfl
  | c :: r, o => by simp [altGo, altGo_len r]
theorem altGo_at : ∀ (t : List UInt8) (o : Bool) (j : Nat), (altGo o t)[j]? = t[j]?.map fun c => if (decide (j % 2 = 1) != o) then c + 32 else c
  | [], _, _ => by simp [altGo]
  | c :: r, o, 0 => by cases o <;> simp [altGo]
  | c :: r, o, j + 1 => by
    simp only [altGo, List.getElem?_cons_succ]
    rw [altGo_at r (!o) j]
    congr 1
    funext c
    have : (decide (j % 2 = 1) != !o) = (decide ((j + 1) % 2 = 1) != o) := by
      have h : decide ((j + 1) % 2 = 1) = !decide (j % 2 = 1) := by rw [Bool.eq_iff_iff]; simp; omega
      rw [h]
      cases decide (j % 2 = 1) <;> cases o <;> rfl
    rw [this]
def altTo (t : List UInt8) (k : Nat) : List UInt8 := (altGo false t).take k ++ t.drop k
theorem altTo_len (t : List UInt8) (k : Nat) : (altTo t k).length = t.length := by
  unfold altTo
  rw [List.length_append, List.length_take, altGo_len, List.length_drop]; omega
theorem altTo_at (t : List UInt8) (k j : Nat) : (altTo t k)[j]? = t[j]?.map fun c => if j < k ∧ j % 2 = 1 then c + 32 else c := by
  unfold altTo
  by_cases hj : j < k
  · by_cases hl : j < t.length
    · rw [List.getElem?_append_left (by rw [List.length_take, altGo_len]; omega), List.getElem?_take, if_pos hj, altGo_at]
      congr 1; funext c
      by_cases h2 : j % 2 = 1 <;> simp [hj, h2]
    · rw [List.getElem?_eq_none (by rw [List.length_append, List.length_take, altGo_len, List.length_drop]; omega), List.getElem?_eq_none (by omega)]; rfl
  · by_cases hl : k ≤ t.length
    · rw [List.getElem?_append_right (by rw [List.length_take, altGo_len]; omega), List.length_take, altGo_len, Nat.min_eq_left hl, List.getElem?_drop, show k + (j - k) = j by omega]
      simp [hj]
    · rw [List.getElem?_eq_none (by rw [List.length_append, List.length_take, altGo_len, List.length_drop]; omega), List.getElem?_eq_none (by omega)]; rfl
theorem altTo_zero (t : List UInt8) : altTo t 0 = t := by simp [altTo]
theorem altTo_full (t : List UInt8) : altTo t t.length = altGo false t := by
  unfold altTo
  rw [List.take_of_length_le (by rw [altGo_len]; exact Nat.le_refl _), List.drop_length, List.append_nil]
theorem altTo_even {t : List UInt8} {k : Nat} (h : ¬ k % 2 = 1) : altTo t (k + 1) = altTo t k := by
  apply List.ext_getElem?
  intro j
  rw [altTo_at, altTo_at]
  congr 1; funext c
  by_cases hj : j = k
  · subst hj; simp [h]
  · by_cases hk : j < k
    · simp [hk, show j < k + 1 by omega]
    · simp [hk, show ¬ j < k + 1 by omega]
theorem altTo_odd {t : List UInt8} {k : Nat} (h : k % 2 = 1) (hk : k < t.length) : altTo t (k + 1) = (altTo t k).set k (t.getD k 0 + 32) := by
  apply List.ext_getElem?
  intro j
  rw [altTo_at, List.getElem?_set, altTo_at, altTo_len]
  by_cases hj : k = j
  · subst hj
    rw [if_pos rfl, if_pos hk, List.getD_eq_getElem?_getD, List.getElem?_eq_getElem hk]
    simp [h]
  · rw [if_neg hj]
    congr 1; funext c
    by_cases hk2 : j < k
    · simp [hk2, show j < k + 1 by omega]
    · simp [hk2, show ¬ j < k + 1 by omega]
theorem altTo_getD {t : List UInt8} {k : Nat} (hk : k < t.length) : (altTo t k).getD k 0 = t.getD k 0 := by
  rw [List.getD_eq_getElem?_getD, altTo_at, List.getD_eq_getElem?_getD, List.getElem?_eq_getElem hk]
  simp
/-- bytes that a conversion has laid -/
def ByB (w : World) (g : Nat) (l : List UInt8) : Prop := ∃ cur fr, w.heap[g]? = some (.cells cur 5 (fr, fr + 1)) ∧ l.length ≤ fr ∧ l.length ≤ cur.size ∧ ∀ j, j < l.length → cur[j]? = some (.int .u8 ((l.getD j 0).toNat : Int))
theorem ByB.cell {w : World} {g : Nat} {l : List UInt8} (h : ByB w g l) {j : Nat} (hj : j < l.length) : w.cell? ⟨g, j, none⟩ = some (.int .u8 ((l.getD j 0).toNat : Int)) := by
  obtain ⟨cur, fr, h1, h2, h3, h4⟩ := h
  simp only [World.cell?, h1]
  exact h4 j hj
theorem ByB.thaw {w : World} {g : Nat} {l : List UInt8} (h : ByB w g l) {j : Nat} (hj : j < l.length) : w.frozen? ⟨g, j, none⟩ = false := by
  obtain ⟨cur, fr, h1, h2, h3, h4⟩ := h
  simp [World.frozen?, h1]
  omega
theorem ByB.set {w : World} {g : Nat} {l : List UInt8} (h : ByB w g l) (j : Nat) (hj : j < l.length) (c : UInt8) : ByB (w.setCell ⟨g, j, none⟩ (.int .u8 (c.toNat : Int))) g (l.set j c) := by
  obtain ⟨cur, fr, h1, h2, h3, h4⟩ := h
  refine ⟨cur.setIfInBounds j (.int .u8 (c.toNat : Int)), fr, ?_, by simpa using h2, by simpa using h3, fun i hi => ?_⟩
  · simp only [World.setCell, Array.getElem?_modify, if_true]
    rw [h1]; rfl
  · simp only [List.length_set] at hi
    rw [Array.getElem?_setIfInBounds, List.getD_eq_getElem?_getD, List.getElem?_set]
    by_cases he : j = i
    · subst he
      rw [if_pos rfl, if_pos (by omega), if_pos rfl, if_pos hi]; rfl
    · rw [if_neg he, if_neg he, h4 i hi, List.getD_eq_getElem?_getD]
theorem ByB.of_row (w : World) (s : ByteArray) (c : Nat) : ByB (w.alloc (.cells (bytesRow s c) 5 ((bytesRow s c).size, (bytesRow s c).size + 1))) w.heap.size s.data.toList := by
  have hsz : (bytesRow s c).size = s.size + (c - s.size) := by
    unfold bytesRow
    rw [Array.size_append, Array.size_map, Array.size_replicate]; rfl
  refine ⟨bytesRow s c, (bytesRow s c).size, heap_alloc_new w _, by rw [hsz, str_len]; omega, by rw [hsz, str_len]; omega, fun j hj => ?_⟩
  rw [str_len] at hj
  unfold bytesRow
  rw [Array.getElem?_append_left (by simp; exact hj)]
  have hj2 : j < s.data.size := hj
  rw [Array.getElem?_map, Array.getElem?_eq_getElem hj2, List.getD_eq_getElem?_getD, Array.getElem?_toList, Array.getElem?_eq_getElem hj2]
  rfl
theorem ba_app2 (a b : ByteArray) : (a ++ b).data.toList = a.data.toList ++ b.data.toList := by simp
theorem case_len {L : List UInt8} {ws : List Wd} (h : lexL 0 L = .ok ws) : (caseW L 0 ws).length = L.length := by
  have h1 := (lex_forms h).2.2.2
  have h2 := (lex_forms (case_lex L 0 L ws h rfl).1).2.2.2
  rw [h1] at h2
  injection h2 with h2
  injection h2 with _ _ h2
  omega
theorem pl_skip {L : List UInt8} {ws : List Wd} {i : Nat} {wd : Wd} (hg : ws[i]? = some wd) : ∀ (m q : Nat), wd.place - q ≤ m → lexL q (L.drop q) = .ok (ws.drop i) → q ≤ L.length → lexL wd.place (L.drop wd.place) = .ok (ws.drop i) ∧ wd.place ≤ L.length
  | m, q, hm, h, hq => by
    have hge := pl_ge h hg
    by_cases he : q = wd.place
    · subst he; exact ⟨h, hq⟩
    · cases m with
      | zero => omega
      | succ m =>
        obtain ⟨a1, a2, a3⟩ := pl_blank h hg (by omega)
        exact pl_skip hg m (q + 1) (by omega) a3 (by omega)
theorem altW_len (k : Int) (t : List UInt8) : (altW k t).length = (writtenL k t).length := by
  unfold altW
  split
  · rename_i h; subst h; rw [altGo_len]; rfl
  · rfl
theorem kws_small : ∀ t ∈ kws, ∀ c ∈ t, c.toNat ≤ 90 := by decide
theorem plus32 : ∀ c : UInt8, c.toNat ≤ 90 → ((c + 32).toNat : Int) = (c.toNat : Int) + 32 := u8all (p := fun c => c.toNat ≤ 90 → ((c + 32).toNat : Int) = (c.toNat : Int) + 32) (by decide)
set_option maxHeartbeats 8000000 in
theorem case8 (s : ByteArray) (w : World) (hs : s.size ≤ 140737488351232) (h : GW w) : Calls Tryd.prog 8 #[.string s] w fun e w' => e = .returned (.bool true) ∧ Below w.heap.size w w' := by
  have HG := Lib.hid h
  clear h
  have H9 := Lib.hid (awake9 w HG.out)
  obtain ⟨r, hr⟩ : ∃ r, lexF s = r := ⟨_, rfl⟩
  cases r with
  | error q =>
    obtain ⟨e, o⟩ := q
    obtain ⟨ho, he⟩ := lexF_err hr
    have HR := Lib.hid hr
    clear hr
    rcases he with rfl | rfl
    all_goals (
      go_enter Tryd.func8, Tryd.ntmps8
      go_wp2_with fail
      refine H9.out.mono ?_
      rintro e w1 ⟨rfl, hb1⟩
      have HB1 := Lib.hid hb1
      clear hb1
      go_wp2_with fail
      refine (words11G s w1 (by omega) (HG.out.below HB1.out) HR.out).mono ?_
      rintro e w2 ⟨v2, rfl, hv2, hb2⟩
      dsimp only [faultC, okL] at hv2 ⊢
      obtain ⟨a3, c3, hv2e⟩ := hv2.form
      subst hv2e
      have HB2 := Lib.hid (Below.call HB1.out hb2)
      clear hv2 hb2
      go_wp2_with fail
      go_ret
      exact ⟨rfl, HB2.out.alloc HB2.out.size _⟩)
  | ok ws =>
    obtain ⟨h4, hl⟩ := lexF_ok hr
    have hfm := lex_forms hl
    have HR := Lib.hid (And.intro hr (And.intro hl hfm))
    obtain ⟨n, hn⟩ : ∃ n, n = ws.length := ⟨_, rfl⟩
    have hn1 : 1 ≤ n := by rw [hn]; exact hfm.2.1
    have hn2 : n ≤ 4097 := by rw [hn]; have := hfm.1; rw [str_len] at this; omega
    have hne : ws ≠ [] := by rintro rfl; simp at hn; omega
    have hwl : ∀ (j : Nat) (wd : Wd), ws[j]? = some wd → (writtenL wd.kind wd.text).length ≤ 4096 ∧ wd.text.length ≤ 4096 := by
      intro j wd hj
      have hjl := (List.getElem?_eq_some_iff.1 hj).1
      by_cases hlast : j + 1 < ws.length
      · obtain ⟨x, w', e1, e2, e3⟩ := hfm.2.2.1 j hlast
        rw [hj] at e1; cases e1
        rw [str_len] at e3
        have h5 := e2.len
        refine ⟨by omega, ?_⟩
        have : wd.text.length ≤ (writtenL wd.kind wd.text).length := by
          unfold writtenL
          split
          · simp [quoteL, quoteB_len]; omega
          · exact Nat.le_refl _
        omega
      · have hjj : j = ws.length - 1 := by omega
        rw [hjj, hfm.2.2.2] at hj
        cases hj
        simp [writtenL]
    have HWL := Lib.hid hwl
    clear hr hl hfm hwl
    go_enter Tryd.func8, Tryd.ntmps8
    go_wp2_with fail
    refine H9.out.mono ?_
    rintro e w1 ⟨rfl, hb1⟩
    have HB1 := Lib.hid hb1
    clear hb1
    go_wp2_with fail
    refine (words11G s w1 (by omega) (HG.out.below HB1.out) HR.out.1).mono ?_
    rintro e w2 ⟨v2, rfl, hv2, hb2⟩
    dsimp only [faultC, okL] at hv2 ⊢
    obtain ⟨g, c, hve, hg, hgw, hc, -, hcell⟩ := hv2.open hne
    rw [← hn] at hve hc
    have hv2k := hv2
    rw [hve] at hv2k
    have HV2 := Lib.hid hv2k
    clear hv2k
    subst hve
    obtain ⟨w3, hw3⟩ : ∃ w3, w3 = w2.alloc (.cells #[.int .i64 0, .int .i64 0] 26) := ⟨_, rfl⟩
    have hal := (Below.refl w2.heap.size w2).alloc (Nat.le_refl _) (.cells #[.int .i64 0, .int .i64 0] 26)
    rw [← hw3] at hal
    have hb3 : Below w.heap.size w w3 := Below.call (Below.call HB1.out hb2) hal
    have hc3 : ∀ k wd, ws[k]? = some wd → w3.cell? ⟨g, k * 3, none⟩ = some (.int .i64 wd.kind) ∧ w3.cell? ⟨g, k * 3 + 1, none⟩ = some (.string ⟨wd.text.toArray⟩) ∧ w3.cell? ⟨g, k * 3 + 2, none⟩ = some (.int .i64 (wd.place : Int)) := fun k wd hk =>
      ⟨(hal.cell (by exact hgw)).trans (hcell k wd hk).1, (hal.cell (by exact hgw)).trans (hcell k wd hk).2.1, (hal.cell (by exact hgw)).trans (hcell k wd hk).2.2⟩
    have hgw3 : g < w3.heap.size := Nat.lt_of_lt_of_le hgw hal.size
    have hlw := HV2.out.below hal (Nat.le_refl _)
    have HLW := Lib.hid hlw
    have HFW := Lib.hid (show Blk w3 w2.heap.size 26 #[.int .i64 0, .int .i64 0] by rw [hw3]; exact Blk.new w2 26 _)
    clear hlw
    have H3 := Lib.hid (And.intro hb3 (And.intro hc3 (And.intro hgw3 hw3)))
    have HN := Lib.hid hn
    clear hv2 hb2 hcell hg hgw hal hb3 hc3 hgw3 hw3 hn hne
    have f0 : (w2.alloc (.cells #[.int .i64 0, .int .i64 0] 26)).cell? ⟨w2.heap.size, 0, none⟩ = some (.int .i64 0) := Blk.cell (Blk.new w2 26 _) 0
    go_upto_region 3 with (fail)
    change Code.wp Tryd.prog _ _ _ (w2.alloc (.cells #[.int .i64 0, .int .i64 0] 26))
    rw [← H3.out.2.2.2] at f0 ⊢
    go_wp2_with fail
    clear f0
    have hcl := case_len HR.out.2.1
    rw [str_len] at hcl
    have HCL := Lib.hid hcl
    clear hcl
    go_loopw [6, 7, 8, 9, 10, 11] (fun sv pv x _ _ _ wr => ∃ (i p : Nat) (S : ByteArray), i ≤ n ∧ x = .int .i64 i ∧ pv = .int .i64 p ∧ sv = .string S ∧ p ≤ s.size ∧ ((i < n ∧ lexL p (s.data.toList.drop p) = .ok (ws.drop i)) ∨ (i = n ∧ p = s.size)) ∧ S.data.toList ++ caseW s.data.toList p (ws.drop i) = caseW s.data.toList 0 ws ∧ Below w3.heap.size w3 wr) (fun _ _ x _ _ _ _ => n - (intOf x).toNat)
    case atStart => exact ⟨0, 0, ⟨#[]⟩, by omega, rfl, rfl, rfl, by omega, .inl ⟨by omega, HR.out.2.1⟩, rfl, Below.refl _ _⟩
    case round =>
      obtain ⟨i, p, S, hi, rfl, rfl, rfl, hp, hst, hS, hbr⟩ := hrel
      have hSs : S.size ≤ 4096 := by
        have := congrArg List.length hS
        rw [List.length_append, HCL.out, str_len] at this
        omega
      by_cases hin : i < n
      · have hdi : decide ((i : Int) < (n : Int)) = true := decide_eq_true (by omega)
        have hl : lexL p (s.data.toList.drop p) = .ok (ws.drop i) := by rcases hst with h | h; exact h.2; omega
        obtain ⟨wd, hwd⟩ : ∃ wd, ws[i]? = some wd := ⟨_, List.getElem?_eq_getElem (by rw [← HN.out]; exact hin)⟩
        obtain ⟨c0, c1, c2⟩ := H3.out.2.1 i wd hwd
        have c0 := (hbr.cell (by exact H3.out.2.2.1)).trans c0
        have c1 := (hbr.cell (by exact H3.out.2.2.1)).trans c1
        have c2 := (hbr.cell (by exact H3.out.2.2.1)).trans c2
        obtain ⟨hlP, hPL⟩ := pl_skip hwd _ p (Nat.le_refl _) hl hp
        rw [str_len] at hPL
        have hpP := pl_ge hl hwd
        obtain ⟨m1, m2, m3⟩ := pl_word hlP hwd rfl hPL
        rw [str_len] at m1 m2 m3
        obtain ⟨P, hP⟩ : ∃ P, P = wd.place := ⟨_, rfl⟩
        obtain ⟨K, hK⟩ : ∃ K, K = wd.kind := ⟨_, rfl⟩
        rw [← hP] at c2 hPL hpP m1 m3 hlP
        rw [← hK] at c0 m1 m3
        obtain ⟨N, hN⟩ : ∃ N, N = (writtenL K wd.text).length := ⟨_, rfl⟩
        rw [← hN] at m1 m3
        have HW := written19 K ⟨wd.text.toArray⟩ (P : Int) wr (by show wd.text.length ≤ _; omega) (HG.out.below (Below.call H3.out.1 hbr))
        obtain ⟨WR, hWR⟩ : ∃ WR : ByteArray, WR = ⟨(writtenL K (⟨wd.text.toArray⟩ : ByteArray).data.toList).toArray⟩ := ⟨_, rfl⟩
        rw [← hWR] at HW
        have hWl : WR.data.toList = writtenL K wd.text := by rw [hWR]
        have hWs : WR.size = N := by rw [← str_len, hWl, hN]
        have hxl : (s.extract p P).data.toList = (s.data.toList.drop p).take (P - p) := Lib.extract_data s p P
        have hcw : caseW s.data.toList p (ws.drop i) = (s.data.toList.drop p).take (P - p) ++ (altW K wd.text ++ caseW s.data.toList (P + N) (ws.drop (i + 1))) := by
          rw [drop_i hwd]
          simp only [caseW]
          rw [← hP, ← hK, altW_len, ← hN]
        rw [hcw] at hS
        have hstn : (i + 1 < n ∧ lexL (P + N) (s.data.toList.drop (P + N)) = .ok (ws.drop (i + 1))) ∨ (i + 1 = n ∧ P + N = s.size) := by rw [HN.out]; exact m3
        have HS := Lib.hid (And.intro hS (And.intro hxl (And.intro hWl (And.intro hWs (And.intro hstn (And.intro hwd (And.intro hK hbr)))))))
        have HW := Lib.hid HW
        have HWW := Lib.hid (show wrap64 ((P : Int) + (N : Int)) = ((P + N : Nat) : Int) by rw [w64 (by omega)]; omega)
        have hN4 : N ≤ 4096 := by omega
        clear hS hxl hWl hstn hwd hK hbr hWR hN hP m2 m3 hlP hl hst hcw hWs
        go_wp2_with fail
        refine HW.out.mono ?_
        rintro e w5 ⟨rfl, hb5⟩
        have c0 := (hb5.cell (by show g < _; exact Nat.lt_of_lt_of_le H3.out.2.2.1 HS.out.2.2.2.2.2.2.2.size)).trans c0
        have c2 := (hb5.cell (by show g < _; exact Nat.lt_of_lt_of_le H3.out.2.2.1 HS.out.2.2.2.2.2.2.2.size)).trans c2
        have H5 := Lib.hid (Below.call HS.out.2.2.2.2.2.2.2 hb5)
        have hW9 : WR.size ≤ 4096 := by rw [HS.out.2.2.2.1]; exact hN4
        clear hb5 c1
        by_cases hk2 : K = 2
        · subst hk2
          have hkw : wd.text ∈ kws := by
            have hlt : i + 1 < ws.length := by
              by_cases hx : i + 1 < ws.length
              · exact hx
              · have h9 := HR.out.2.2.2.2.2
                have hil : i < ws.length := (List.getElem?_eq_some_iff.1 HS.out.2.2.2.2.2.1).1
                rw [show ws.length - 1 = i by omega, HS.out.2.2.2.2.2.1] at h9
                injection h9 with h9
                have := HS.out.2.2.2.2.2.2.1
                rw [h9] at this
                cases this
            obtain ⟨x, w', e1, e2, -⟩ := HR.out.2.2.2.2.1 i hlt
            rw [HS.out.2.2.2.2.2.1] at e1
            cases e1
            rw [← HS.out.2.2.2.2.2.2.1] at e2
            rcases e2 with ⟨e, _⟩ | ⟨-, e, h1, h2, h3⟩ | ⟨e, _⟩ | ⟨e, _⟩ | ⟨e, _⟩
            · cases e
            · rw [← e]; simpa [isKw] using h3
            · cases e
            · cases e
            · cases e
          have hWt : WR.data.toList = wd.text := by rw [HS.out.2.2.1]; rfl
          obtain ⟨t, ht⟩ : ∃ t, t = wd.text := ⟨_, rfl⟩
          rw [← ht] at hkw hWt
          have hsm := kws_small t hkw
          have htl : t.length = N := by rw [← hWt, str_len]; exact HS.out.2.2.2.1
          have HT := Lib.hid (And.intro ht (And.intro hWt hsm))
          clear ht hkw hWt hsm
          go_upto_region 13 with (fail)
          refine wp_region_lit ?_
          refine wpList_val rfl (some 51) rfl (.string WR) rfl ?_
          simp only [Act.put, List.setIfInBounds_toArray, List.set_cons_zero, List.set_cons_succ]
          refine wpList_valW (w' := w5.drew.alloc (.cells (bytesRow WR (grownCap w5 WR.size 0 5)) 5 ((bytesRow WR (grownCap w5 WR.size 0 5)).size, (bytesRow WR (grownCap w5 WR.size 0 5)).size + 1))) rfl (some 52) rfl (.slice (some ⟨w5.heap.size, 0, none⟩) WR.size (grownCap w5 WR.size 0 5)) (exec_conv rfl rfl (run_bytes_of_string w5 9 38 5 WR Tryd.underlying9 Tryd.underlying38 Tryd.underlying5)) ?_
          simp only [Act.put, List.setIfInBounds_toArray, List.set_cons_zero, List.set_cons_succ]
          refine wpList_val rfl (some 10) rfl (.slice (some ⟨w5.heap.size, 0, none⟩) WR.size (grownCap w5 WR.size 0 5)) rfl ?_
          simp only [Act.put, List.setIfInBounds_toArray, List.set_cons_zero, List.set_cons_succ]
          refine wpList_nil ?_
          obtain ⟨cp, hcp⟩ : ∃ cp, cp = grownCap w5 WR.size 0 5 := ⟨_, rfl⟩
          rw [← hcp]
          obtain ⟨w6, hw6⟩ : ∃ w6, w6 = w5.drew.alloc (.cells (bytesRow WR cp) 5 ((bytesRow WR cp).size, (bytesRow WR cp).size + 1)) := ⟨_, rfl⟩
          rw [← hw6]
          have hby : ByB w6 w5.heap.size t := by rw [hw6, ← HT.out.2.1]; exact ByB.of_row w5.drew WR cp
          have hb6 : Below w5.heap.size w5 w6 := by rw [hw6]; exact ((Below.refl _ w5).drew).alloc (Nat.le_refl _) _
          have HBY := Lib.hid (And.intro hby hb6)
          obtain ⟨gb, hgb⟩ : ∃ gb, gb = w5.heap.size := ⟨_, rfl⟩
          rw [← hgb] at HBY ⊢
          have HGB := Lib.hid hgb
          clear hcp hw6 hby hb6 hgb
          rw [show WR.size = N from HS.out.2.2.2.1]
          go_wp2_with fail
          go_loopw [11] (fun x wz => ∃ k : Nat, k ≤ N ∧ x = .int .i64 k ∧ ByB wz gb (altTo t k) ∧ Below w5.heap.size w5 wz) (fun x _ => N - (intOf x).toNat)
          case atStart => exact ⟨0, by omega, rfl, by rw [altTo_zero]; exact HBY.out.1, HGB.out ▸ HBY.out.2⟩
          case round =>
            obtain ⟨k, hk, rfl, hbz, hbw⟩ := hrel
            by_cases hkn : k < N
            · have hdk : decide ((k : Int) < (N : Int)) = true := decide_eq_true (by omega)
              have hln : k < (altTo t k).length := by rw [altTo_len]; omega
              have d1 := hbz.cell hln
              have d2 := hbz.thaw hln
              rw [altTo_getD (by omega)] at d1
              obtain ⟨cc, hcc⟩ : ∃ cc, cc = t.getD k 0 := ⟨_, rfl⟩
              rw [← hcc] at d1
              have hc90 : cc.toNat ≤ 90 := by
                rw [hcc, List.getD_eq_getElem?_getD, List.getElem?_eq_getElem (by omega)]
                exact HT.out.2.2 _ (List.getElem_mem _)
              have HZ := Lib.hid (And.intro hbz (And.intro hbw hcc))
              clear hbz hbw hcc
              by_cases hodd : k % 2 = 1
              · have hm : ((k : Int) % 2 == 1) = true := by simp; omega
                go_wp2_with fail
                have hnb : ByB (wr.setCell ⟨gb, k, none⟩ (.int .u8 (((cc.toNat : Nat) : Int) + 32))) gb (altTo t (k + 1)) := by
                  rw [altTo_odd hodd (by omega), ← plus32 cc hc90, ← HZ.out.2.2]
                  exact HZ.out.1.set k (by rw [altTo_len]; omega) (cc + 32)
                exact ⟨⟨k + 1, by omega, by first | rfl | go_num, hnb, HZ.out.2.1.setCell (p := ⟨gb, k, none⟩) (by rw [HGB.out]; exact Nat.le_refl _) _⟩, by simp [intOf]; omega⟩
              · have hm : ((k : Int) % 2 == 1) = false := by simp; omega
                go_wp2_with fail
                exact ⟨⟨k + 1, by omega, by first | rfl | go_num, by rw [altTo_even hodd]; exact HZ.out.1, HZ.out.2.1⟩, by simp [intOf]; omega⟩
            · have hdk : decide ((k : Int) < (N : Int)) = false := decide_eq_false (by omega)
              have hkN : k = t.length := by omega
              rw [hkN, altTo_full] at hbz
              obtain ⟨l, hl⟩ : ∃ l, l = altGo false t := ⟨_, rfl⟩
              rw [← hl] at hbz
              have hll : l.length = N := by rw [hl, altGo_len]; exact htl
              have hconv := run_convert_bytes_back (P := Tryd.prog) wr 38 9 5 ⟨gb, 0, none⟩ cp l Tryd.underlying38 Tryd.underlying5 Tryd.underlying9 (fun j hj => by
                have e : ((⟨gb, 0, none⟩ : Addr).add j) = ⟨gb, j, none⟩ := by
                  unfold Addr.add
                  split
                  · rename_i h0; subst h0; rfl
                  · simp
                rw [e, hbz.cell hj, List.getD_eq_getElem?_getD, List.getElem?_eq_getElem hj]; rfl)
              rw [hll] at hconv
              obtain ⟨Y, hY⟩ : ∃ Y : ByteArray, Y = ⟨l.toArray⟩ := ⟨_, rfl⟩
              rw [← hY] at hconv
              have hYs : Y.size = N := by rw [hY]; exact hll
              have hYl : Y.data.toList = altW 2 wd.text := by rw [hY, ← HT.out.1]; show l = _; rw [hl]; rfl
              have hx2 := (hbw.cell (by show g < _; exact Nat.lt_of_lt_of_le H3.out.2.2.1 H5.out.size)).trans c2
              have HZ := Lib.hid (And.intro hYs (And.intro hYl hbw))
              have hY9 : Y.size ≤ 4096 := by omega
              clear hbz hbw hl hY hll hYs hYl hkN c0 c2
              go_wp2_with fail
              have hS' : (S ++ s.extract p P ++ Y).data.toList ++ caseW s.data.toList (P + N) (ws.drop (i + 1)) = caseW s.data.toList 0 ws := by
                have h1 := HS.out.1
                rw [← HZ.out.2.1] at h1
                rw [ba_app2, ba_app2, HS.out.2.1, ← h1]
                simp
              exact ⟨⟨i + 1, P + N, S ++ s.extract p P ++ Y, by omega, by first | rfl | go_num, by rw [HZ.out.1]; first | rfl | exact congrArg _ HWW.out | go_num, rfl, by omega, HS.out.2.2.2.2.1, hS', Below.call H5.out HZ.out.2.2⟩, by simp [intOf]; omega⟩
        · have hkb : (K == 2) = false := by simpa using hk2
          go_wp2_with fail
          have hS' : (S ++ s.extract p P ++ WR).data.toList ++ caseW s.data.toList (P + N) (ws.drop (i + 1)) = caseW s.data.toList 0 ws := by
            have h1 := HS.out.1
            rw [show altW K wd.text = WR.data.toList by unfold altW; rw [if_neg hk2, HS.out.2.2.1]] at h1
            rw [ba_app2, ba_app2, HS.out.2.1, ← h1]
            simp
          exact ⟨⟨i + 1, P + N, S ++ s.extract p P ++ WR, by omega, by first | rfl | go_num, by rw [HS.out.2.2.2.1]; first | rfl | exact congrArg _ HWW.out | go_num, rfl, by omega, HS.out.2.2.2.2.1, hS', H5.out⟩, by simp [intOf]; omega⟩
      · have hie : i = n := by omega
        have hdi : decide ((i : Int) < (n : Int)) = false := decide_eq_false (by omega)
        have hSl : S.data.toList = caseW s.data.toList 0 ws := by
          rw [hie, HN.out, List.drop_length] at hS
          simpa [caseW] using hS
        have hFS : lexF S = .ok ws := by
          unfold lexF
          rw [if_neg (by omega), hSl]
          exact (case_lex s.data.toList 0 s.data.toList ws HR.out.2.1 rfl).1
        have HB := Lib.hid hbr
        have HW := Lib.hid (words11G S wr (by omega) (HG.out.below (Below.call H3.out.1 hbr)) hFS)
        clear hS hst hbr hSl hFS
        go_wp2_with fail
        refine HW.out.mono ?_
        rintro e w8 ⟨v8, rfl, hv8, hb8⟩
        dsimp only [faultC, okL] at hv8 ⊢
        obtain ⟨a8, c8, hve8⟩ := hv8.form
        rw [← HN.out] at hve8
        subst hve8
        obtain ⟨w9, hw9⟩ : ∃ w9, w9 = w8.alloc (.cells #[.int .i64 0, .int .i64 0] 26) := ⟨_, rfl⟩
        have hal := (Below.refl w8.heap.size w8).alloc (Nat.le_refl _) (.cells #[.int .i64 0, .int .i64 0] 26)
        rw [← hw9] at hal
        have hb9 : Below w3.heap.size w3 w9 := Below.call (Below.call HB.out hb8) hal
        have hv9 : HasW w9 wr.heap.size (.slice a8 n c8) ws := hv8.below hal (Nat.le_refl _)
        have hl9 := HLW.out.below hb9 (Nat.le_refl _)
        have f0 : (w8.alloc (.cells #[.int .i64 0, .int .i64 0] 26)).cell? ⟨w8.heap.size, 0, none⟩ = some (.int .i64 0) := Blk.cell (Blk.new w8 26 _) 0
        have f1 : (w8.alloc (.cells #[.int .i64 0, .int .i64 0] 26)).cell? ⟨w8.heap.size, 1, none⟩ = some (.int .i64 0) := Blk.cell (Blk.new w8 26 _) 1
        have hb3w := Blk.below HFW.out hb9 (Blk.lt HFW.out)
        have e0 := Blk.cell hb3w 0
        have e1 := Blk.cell hb3w 1
        have HS12 := Lib.hid (same12 ws _ _ _ _ w9 hl9 hv9 (by rw [← HN.out]; omega))
        have HB9 := Lib.hid (And.intro hb9 hw9)
        rw [← hw9] at f0 f1
        clear hv8 hb8 hal hb9 hv9 hl9 hw9 hb3w
        go_upto_region 23 with (fail)
        change Code.wp Tryd.prog _ _ _ (w8.alloc (.cells #[.int .i64 0, .int .i64 0] 26))
        rw [← HB9.out.2]
        go_wp2_with fail
        refine HS12.out.mono ?_
        rintro e w10 ⟨rfl, hb10⟩
        go_wp2_with fail
        go_ret
        exact ⟨rfl, Below.call (Below.call H3.out.1 HB9.out.1) hb10⟩
end Go.Proofs.YtofjifhnkcghpaaDoor
