/- The reference's word. -/
import Derived.Test.YtofjifhnkcghpaaDoorV
namespace Go.Proofs.YtofjifhnkcghpaaDoor
open Go.RowKit
set_option linter.unusedVariables false
set_option linter.unusedSimpArgs false
set_option maxRecDepth 100000
def signsL : List (List UInt8) := [[40], [41], [44], [42], [61], [45], [60, 62], [60, 61], [60], [62, 61], [62]]
def signsB : List ByteArray := signsL.map fun k => ⟨k.toArray⟩
def signsC : Array Value := (signsB.map Value.string).toArray
theorem signsB_at : ∀ j, j < 11 → signsC[j]? = some (.string (signsB.getD j ByteArray.empty)) := by
  intro j hj
  have : j < signsB.length := hj
  simp [signsC, List.getD_eq_getElem?_getD, this]
theorem signsB_list : ∀ j, j < 11 → (signsB.getD j ByteArray.empty).data.toList = signsL.getD j [] := by decide
theorem signsB_size : ∀ j, j < 11 → (signsB.getD j ByteArray.empty).size ≤ 2 := by decide
def starts (j : Nat) (l : List UInt8) : Bool := (signsL.getD j []).isPrefixOf l
theorem sign_hit {c : UInt8} {r : List UInt8} (h : isBlank c = false ∧ isLetter c = false ∧ isDigit c = false ∧ c ≠ 39) {i : Nat} (hi : i < 11) (hm : starts i (c :: r) = true) (hno : ∀ j, j < i → starts j (c :: r) = false) :
    tokL (c :: r) = .word 5 (signsL.getD i []) (signsL.getD i []).length := by
  have one : ∀ d : UInt8, isSign d = true → two d r = false → c = d → tokL (c :: r) = .word 5 [d] 1 := fun d h1 h2 e => by
    subst e; exact tok_sign1 ⟨h.1, h.2.1, h.2.2.1, h.2.2.2, h1⟩ h2
  match i, hi with
  | 0, _ => exact one 40 (by decide) (by simp [two]) (by have := hm; simp [starts, signsL, List.isPrefixOf] at this; exact this.symm)
  | 1, _ => exact one 41 (by decide) (by simp [two]) (by have := hm; simp [starts, signsL, List.isPrefixOf] at this; exact this.symm)
  | 2, _ => exact one 44 (by decide) (by simp [two]) (by have := hm; simp [starts, signsL, List.isPrefixOf] at this; exact this.symm)
  | 3, _ => exact one 42 (by decide) (by simp [two]) (by have := hm; simp [starts, signsL, List.isPrefixOf] at this; exact this.symm)
  | 4, _ => exact one 61 (by decide) (by simp [two]) (by have := hm; simp [starts, signsL, List.isPrefixOf] at this; exact this.symm)
  | 5, _ => exact one 45 (by decide) (by simp [two]) (by have := hm; simp [starts, signsL, List.isPrefixOf] at this; exact this.symm)
  | 6, _ =>
    cases r with
    | nil => simp [starts, signsL, List.isPrefixOf] at hm
    | cons d r =>
      simp [starts, signsL, List.isPrefixOf] at hm
      obtain ⟨e1, e2⟩ := hm
      subst e1 e2
      exact tok_sign2 ⟨h.1, h.2.1, h.2.2.1, h.2.2.2, by decide⟩ (by simp [two])
  | 7, _ =>
    cases r with
    | nil => simp [starts, signsL, List.isPrefixOf] at hm
    | cons d r =>
      simp [starts, signsL, List.isPrefixOf] at hm
      obtain ⟨e1, e2⟩ := hm
      subst e1 e2
      exact tok_sign2 ⟨h.1, h.2.1, h.2.2.1, h.2.2.2, by decide⟩ (by simp [two])
  | 8, _ =>
    have hc : c = 60 := by have := hm; simp [starts, signsL, List.isPrefixOf] at this; exact this.symm
    subst hc
    have h6 := hno 6 (by omega)
    have h7 := hno 7 (by omega)
    refine one 60 (by decide) ?_ rfl
    cases r with
    | nil => simp [two]
    | cons d r =>
      simp [starts, signsL, List.isPrefixOf] at h6 h7
      simp [two, Ne.symm h6, Ne.symm h7]
  | 9, _ =>
    cases r with
    | nil => simp [starts, signsL, List.isPrefixOf] at hm
    | cons d r =>
      simp [starts, signsL, List.isPrefixOf] at hm
      obtain ⟨e1, e2⟩ := hm
      subst e1 e2
      exact tok_sign2 ⟨h.1, h.2.1, h.2.2.1, h.2.2.2, by decide⟩ (by simp [two])
  | 10, _ =>
    have hc : c = 62 := by have := hm; simp [starts, signsL, List.isPrefixOf] at this; exact this.symm
    subst hc
    have h9 := hno 9 (by omega)
    refine one 62 (by decide) ?_ rfl
    cases r with
    | nil => simp [two]
    | cons d r =>
      simp [starts, signsL, List.isPrefixOf] at h9
      simp [two]
      exact fun e => h9 e.symm
theorem sign_none {c : UInt8} {r : List UInt8} (h : isBlank c = false ∧ isLetter c = false ∧ isDigit c = false ∧ c ≠ 39) (hno : ∀ j, j < 11 → starts j (c :: r) = false) : tokL (c :: r) = .bad 40 0 := by
  have hs : isSign c = false := by
    have k : ∀ j, j < 11 → ∀ d, signsL.getD j [] = [d] → c ≠ d := fun j hj d hd e => by
      have := hno j hj
      unfold starts at this
      rw [hd, e] at this
      simp [List.isPrefixOf] at this
    have a0 := k 0 (by omega) 40 rfl
    have a1 := k 1 (by omega) 41 rfl
    have a2 := k 2 (by omega) 44 rfl
    have a3 := k 3 (by omega) 42 rfl
    have a4 := k 4 (by omega) 61 rfl
    have a5 := k 5 (by omega) 45 rfl
    have a6 := k 8 (by omega) 60 rfl
    have a7 := k 10 (by omega) 62 rfl
    simp [isSign, a0, a1, a2, a3, a4, a5, a6, a7]
  obtain ⟨h1, h2, h3, h4⟩ := h
  simp only [tokL, h1, h2, h3, hs]; rw [if_neg (by simp), if_neg (by simp), if_neg (by simp), if_neg h4, if_neg (by simp)]
theorem starts_ext (s : ByteArray) (p j : Nat) (hj : j < 11) : starts j (s.data.toList.drop p) = (decide (p + (signsB.getD j ByteArray.empty).size ≤ s.size) && decide (s.extract p (p + (signsB.getD j ByteArray.empty).size) = signsB.getD j ByteArray.empty)) := by
  obtain ⟨K, hK⟩ : ∃ K, K = signsB.getD j ByteArray.empty := ⟨_, rfl⟩
  have hl := signsB_list j hj
  rw [← hK] at hl ⊢
  have hpos : 0 < K.size := by
    have : ∀ j, j < 11 → 0 < (signsB.getD j ByteArray.empty).size := by decide
    rw [hK]; exact this j hj
  unfold starts
  rw [← hl, Bool.eq_iff_iff, List.isPrefixOf_iff_prefix, List.prefix_iff_eq_take]
  simp only [Bool.and_eq_true, decide_eq_true_eq]
  rw [str_len]
  constructor
  · intro e
    have h1 := congrArg List.length e
    rw [str_len, List.length_take, List.length_drop, str_len] at h1
    refine ⟨by omega, WideShapes.bytes_inj ?_⟩
    rw [ext_list, ← e]
  · rintro ⟨_, e⟩
    have := congrArg (fun b : ByteArray => b.data.toList) e
    simp only [ext_list] at this
    exact this.symm
set_option maxHeartbeats 8000000 in
theorem word21 (s : ByteArray) (p : Nat) (w : World) (hp : p < s.size) (hs : s.size ≤ 4096) (hnb : isBlank s[p] = false) : Calls Tryd.prog 21 #[.string s, .int .i64 p] w fun e w' => e = .returned (tokV p (tokL (s.data.toList.drop p))) ∧ Below w.heap.size w w' := by
  obtain ⟨c, hc⟩ : ∃ c, c = s[p] := ⟨_, rfl⟩
  have hdrop : s.data.toList.drop p = c :: s.data.toList.drop (p + 1) := by rw [hc]; exact str_drop s hp
  have hz1 := Blk.new w 31 #[.int .i64 0, .string ⟨#[]⟩, .int .i64 0]
  have hz2 := Blk.newAt (w.alloc (.cells #[.int .i64 0, .string ⟨#[]⟩, .int .i64 0] 31)) 26 #[.int .i64 0, .int .i64 0] (b := w.heap.size + 1) (by simp)
  have hz0 : Below w.heap.size w ((w.alloc (.cells #[.int .i64 0, .string ⟨#[]⟩, .int .i64 0] 31)).alloc (.cells #[.int .i64 0, .int .i64 0] 26)) := ((Below.refl _ w).alloc (Nat.le_refl _) _).alloc (by simp) _
  obtain ⟨w0, hw0⟩ : ∃ w0, w0 = (w.alloc (.cells #[.int .i64 0, .string ⟨#[]⟩, .int .i64 0] 31)).alloc (.cells #[.int .i64 0, .int .i64 0] 26) := ⟨_, rfl⟩
  rw [← hw0] at hz2 hz0
  have hz3 : Blk w0 w.heap.size 31 #[.int .i64 0, .string ⟨#[]⟩, .int .i64 0] := by rw [hw0]; exact hz1.alloc _
  have HR := Lib.hid (And.intro hz3 (And.intro hz2 hz0))
  have HW0 := Lib.hid hw0
  rw [← hc] at hnb
  have HC := Lib.hid (And.intro hdrop (And.intro hnb hc))
  clear hz1 hz2 hz0 hz3 hw0 hdrop hnb hc
  go_enter Tryd.func21, Tryd.ntmps21
  go_upto_region 1 with (fail)
  change Code.wp Tryd.prog _ _ _ ((w.alloc (.cells #[.int .i64 0, .string ⟨#[]⟩, .int .i64 0] 31)).alloc (.cells #[.int .i64 0, .int .i64 0] 26))
  rw [← HW0.out]
  have HL := Lib.hid (letter30 c w0)
  have HD := Lib.hid (digit31 c w0)
  go_wp2_with fail
  rw [← HC.out.2.2]
  refine HL.out.mono ?_
  rintro e w1 ⟨rfl, rfl⟩
  by_cases hlet : isLetter c = true
  · rw [hlet]
    obtain ⟨N, hN⟩ : ∃ N, N = p + ((s.data.toList.drop p).takeWhile isW).length := ⟨_, rfl⟩
    have HN := Lib.hid hN
    clear hN
    go_wp2_with fail
    go_loopw [8] (fun a wr => ∃ q : Nat, p ≤ q ∧ q ≤ s.size ∧ a = .int .i64 q ∧ N = q + ((s.data.toList.drop q).takeWhile isW).length ∧ w0 = wr) (fun a _ => s.size - (intOf a).toNat)
    case atStart => exact ⟨p, by omega, by omega, rfl, HN.out, rfl⟩
    case round =>
      obtain ⟨q, hpq, hq1, rfl, hqe, rfl⟩ := hrel
      have hexit : (q = s.size ∨ ∃ hh : q < s.size, isW s[q] = false) → N = q := fun he => by
        rcases he with he | ⟨hh, he⟩
        · rw [str_end s (by omega)] at hqe; simpa using hqe
        · rw [str_drop s hh, List.takeWhile_cons, if_neg (by rw [he]; simp)] at hqe; simpa using hqe
      have hnext : ∀ hh : q < s.size, isW s[q] = true → N = (q + 1) + ((s.data.toList.drop (q + 1)).takeWhile isW).length := fun hh he => by
        rw [str_drop s hh, List.takeWhile_cons, if_pos he, List.length_cons] at hqe
        omega
      have HX := Lib.hid (And.intro hexit hnext)
      clear hexit hnext hqe
      by_cases hlt : q < s.size
      · have hdq : decide ((q : Int) < (s.size : Int)) = true := decide_eq_true (by omega)
        have HL2 := Lib.hid (letter30 s[q] w0)
        have HD2 := Lib.hid (digit31 s[q] w0)
        obtain ⟨b1, hb1⟩ : ∃ b, b = isLetter s[q] := ⟨_, rfl⟩
        obtain ⟨b2, hb2⟩ : ∃ b, b = isDigit s[q] := ⟨_, rfl⟩
        rw [← hb1] at HL2
        rw [← hb2] at HD2
        have HBB := Lib.hid (show isW s[q] = (b1 || b2) by rw [hb1, hb2]; rfl)
        clear hb1 hb2
        cases b1
        · cases b2
          · have hNq := HX.out.1 (.inr ⟨hlt, HBB.out⟩)
            go_wp2_with fail
            refine HL2.out.mono ?_
            rintro e w1 ⟨rfl, rfl⟩
            go_wp2_with fail
            refine HD2.out.mono ?_
            rintro e w1 ⟨rfl, rfl⟩
            obtain ⟨n, hn⟩ : ∃ n, n = q - p := ⟨_, rfl⟩
            have hqn : q = p + n := by omega
            have hnl : n = ((s.data.toList.drop p).takeWhile isW).length := by have := HN.out; omega
            obtain ⟨X, hX⟩ : ∃ X, X = s.extract p q := ⟨_, rfl⟩
            have hXl : X.data.toList = (s.data.toList.drop p).takeWhile isW := by rw [hX, hqn, ext_list, hnl]; exact (tw_take _).1
            have hXs : X.size = n := by rw [← str_len, hXl]; exact hnl.symm
            obtain ⟨kw, hkw⟩ : ∃ kw, kw = isKw X.data.toList := ⟨_, rfl⟩
            have hXe : X = ⟨((s.data.toList.drop p).takeWhile isW).toArray⟩ := WideShapes.bytes_inj hXl
            have HX2 := Lib.hid (And.intro hX (And.intro hXl (And.intro hXs (And.intro hkw (And.intro hnl hXe)))))
            have HQN := Lib.hid hqn
            have H16 := isKw16 X w0 (by omega)
            rw [← hkw] at H16
            have H16 := Lib.hid H16
            clear hX hXl hXs hkw hnl hXe hn hNq hqn
            cases kw
            · by_cases hbg : 32 < n
              · have hd32 : decide ((32 : Int) < (X.size : Int)) = true := decide_eq_true (by have := HX2.out.2.2.1; omega)
                have htok : tokL (s.data.toList.drop p) = .bad 45 0 := by
                  have h1 := tok_long (c := c) (r := s.data.toList.drop (p + 1)) ⟨HC.out.2.1, hlet⟩
                  rw [← HC.out.1, ← HX2.out.2.1, str_len, HX2.out.2.2.1] at h1
                  exact h1 HX2.out.2.2.2.1.symm hbg
                have HTK := Lib.hid htok
                clear htok
                go_wp2_with fail
                rw [← HX2.out.1]
                refine H16.out.mono ?_
                rintro e w2 ⟨rfl, hb2⟩
                have HR2 := Lib.hid (And.intro (Blk.below HR.out.1 hb2 (Blk.lt HR.out.1)) (And.intro (Blk.below HR.out.2.1 hb2 (Blk.lt HR.out.2.1)) (Below.call HR.out.2.2 hb2)))
                have r0 : w2.cell? ⟨w.heap.size, 0, none⟩ = some (.int .i64 0) := Blk.cell HR2.out.1 0
                have r1 : w2.cell? ⟨w.heap.size, 1, none⟩ = some (.string ⟨#[]⟩) := Blk.cell HR2.out.1 1
                have r2 : w2.cell? ⟨w.heap.size, 2, none⟩ = some (.int .i64 0) := Blk.cell HR2.out.1 2
                have s0 := Blk.free HR2.out.1 0
                have s1 := Blk.free HR2.out.1 1
                have s2 := Blk.free HR2.out.1 2
                have g0 : w2.cell? ⟨w.heap.size + 1, 0, none⟩ = some (.int .i64 0) := Blk.cell HR2.out.2.1 0
                have g1 : w2.cell? ⟨w.heap.size + 1, 1, none⟩ = some (.int .i64 0) := Blk.cell HR2.out.2.1 1
                have z0 := Blk.free HR2.out.2.1 0
                have z1 := Blk.free HR2.out.2.1 1
                clear hb2
                go_wp2_with fail
                refine bodyPost_ret (results_cell_tmp_cell rfl _ _ w.heap.size (w.heap.size + 1) 31 26 #[(.int .i64 0), (.string ⟨#[]⟩), (.int .i64 0)] #[(.int .i64 45), (.int .i64 (p : Int))] (0, 0) (0, 0) _ _ rfl (show Blk _ w.heap.size 31 #[(.int .i64 0), (.string ⟨#[]⟩), (.int .i64 0)] from Blk.other (Blk.other (Blk.set (Blk.set (Blk.set HR2.out.1 0 (.int .i64 0)) 1 (.string ⟨#[]⟩)) 2 (.int .i64 0)) (p := ⟨w.heap.size + 1, 0, none⟩) (by simp) (.int .i64 45)) (p := ⟨w.heap.size + 1, 1, none⟩) (by simp) (.int .i64 (p : Int))) Tryd.underlying31 rfl (info31z _ _ _) rfl (show Blk _ (w.heap.size + 1) 26 #[(.int .i64 45), (.int .i64 (p : Int))] from Blk.set (Blk.set (Blk.other (Blk.other (Blk.other HR2.out.2.1 (p := ⟨w.heap.size, 0, none⟩) (by simp) (.int .i64 0)) (p := ⟨w.heap.size, 1, none⟩) (by simp) (.string ⟨#[]⟩)) (p := ⟨w.heap.size, 2, none⟩) (by simp) (.int .i64 0)) 0 (.int .i64 45)) 1 (.int .i64 (p : Int))) Tryd.underlying26 rfl (info26 _ _)) rfl ?_
                refine ⟨by rw [HTK.out]; rfl, ((((HR2.out.2.2.setCell (p := ⟨w.heap.size, 0, none⟩) (Nat.le_refl _) (.int .i64 0)).setCell (p := ⟨w.heap.size, 1, none⟩) (Nat.le_refl _) (.string ⟨#[]⟩)).setCell (p := ⟨w.heap.size, 2, none⟩) (Nat.le_refl _) (.int .i64 0)).setCell (p := ⟨w.heap.size + 1, 0, none⟩) (by simp) (.int .i64 45)).setCell (p := ⟨w.heap.size + 1, 1, none⟩) (by simp) (.int .i64 (p : Int))⟩
              · have hd32 : decide ((32 : Int) < (X.size : Int)) = false := decide_eq_false (by have := HX2.out.2.2.1; omega)
                have htok : tokL (s.data.toList.drop p) = .word 1 ((s.data.toList.drop p).takeWhile isW) n := by
                  have h1 := tok_name (c := c) (r := s.data.toList.drop (p + 1)) ⟨HC.out.2.1, hlet⟩
                  rw [← HC.out.1, ← HX2.out.2.1, str_len, HX2.out.2.2.1] at h1
                  rw [← HX2.out.2.1]
                  exact h1 HX2.out.2.2.2.1.symm (by omega)
                have HTK := Lib.hid htok
                clear htok
                go_wp2_with fail
                rw [← HX2.out.1]
                refine H16.out.mono ?_
                rintro e w2 ⟨rfl, hb2⟩
                have HR2 := Lib.hid (And.intro (Blk.below HR.out.1 hb2 (Blk.lt HR.out.1)) (And.intro (Blk.below HR.out.2.1 hb2 (Blk.lt HR.out.2.1)) (Below.call HR.out.2.2 hb2)))
                have r0 : w2.cell? ⟨w.heap.size, 0, none⟩ = some (.int .i64 0) := Blk.cell HR2.out.1 0
                have r1 : w2.cell? ⟨w.heap.size, 1, none⟩ = some (.string ⟨#[]⟩) := Blk.cell HR2.out.1 1
                have r2 : w2.cell? ⟨w.heap.size, 2, none⟩ = some (.int .i64 0) := Blk.cell HR2.out.1 2
                have s0 := Blk.free HR2.out.1 0
                have s1 := Blk.free HR2.out.1 1
                have s2 := Blk.free HR2.out.1 2
                have g0 : w2.cell? ⟨w.heap.size + 1, 0, none⟩ = some (.int .i64 0) := Blk.cell HR2.out.2.1 0
                have g1 : w2.cell? ⟨w.heap.size + 1, 1, none⟩ = some (.int .i64 0) := Blk.cell HR2.out.2.1 1
                have z0 := Blk.free HR2.out.2.1 0
                have z1 := Blk.free HR2.out.2.1 1
                clear hb2
                go_wp2_with fail
                refine bodyPost_ret (results_cell_tmp_cell rfl _ _ w.heap.size (w.heap.size + 1) 31 26 #[(.int .i64 1), (.string X), (.int .i64 (p : Int))] #[(.int .i64 0), (.int .i64 0)] (0, 0) (0, 0) _ _ rfl (show Blk _ w.heap.size 31 #[(.int .i64 1), (.string X), (.int .i64 (p : Int))] from Blk.other (Blk.other (Blk.set (Blk.set (Blk.set HR2.out.1 0 (.int .i64 1)) 1 (.string X)) 2 (.int .i64 (p : Int))) (p := ⟨w.heap.size + 1, 0, none⟩) (by simp) (.int .i64 0)) (p := ⟨w.heap.size + 1, 1, none⟩) (by simp) (.int .i64 0)) Tryd.underlying31 rfl (info31z _ _ _) rfl (show Blk _ (w.heap.size + 1) 26 #[(.int .i64 0), (.int .i64 0)] from Blk.set (Blk.set (Blk.other (Blk.other (Blk.other HR2.out.2.1 (p := ⟨w.heap.size, 0, none⟩) (by simp) (.int .i64 1)) (p := ⟨w.heap.size, 1, none⟩) (by simp) (.string X)) (p := ⟨w.heap.size, 2, none⟩) (by simp) (.int .i64 (p : Int))) 0 (.int .i64 0)) 1 (.int .i64 0)) Tryd.underlying26 rfl (info26 _ _)) rfl ?_
                refine ⟨by rw [HTK.out]; unfold tokV; dsimp only; rw [← HX2.out.2.2.2.2.2, ← HQN.out]; rfl, ((((HR2.out.2.2.setCell (p := ⟨w.heap.size, 0, none⟩) (Nat.le_refl _) (.int .i64 1)).setCell (p := ⟨w.heap.size, 1, none⟩) (Nat.le_refl _) (.string X)).setCell (p := ⟨w.heap.size, 2, none⟩) (Nat.le_refl _) (.int .i64 (p : Int))).setCell (p := ⟨w.heap.size + 1, 0, none⟩) (by simp) (.int .i64 0)).setCell (p := ⟨w.heap.size + 1, 1, none⟩) (by simp) (.int .i64 0)⟩
            · have htok : tokL (s.data.toList.drop p) = .word 2 (((s.data.toList.drop p).takeWhile isW).map up) n := by
                have h1 := tok_kw (c := c) (r := s.data.toList.drop (p + 1)) ⟨HC.out.2.1, hlet⟩
                rw [← HC.out.1, ← HX2.out.2.1, str_len, HX2.out.2.2.1] at h1
                rw [← HX2.out.2.1]
                exact h1 HX2.out.2.2.2.1.symm
              have HTK := Lib.hid htok
              clear htok
              go_wp2_with fail
              rw [← HX2.out.1]
              refine H16.out.mono ?_
              rintro e w2 ⟨rfl, hb2⟩
              have HR2 := Lib.hid (And.intro (Blk.below HR.out.1 hb2 (Blk.lt HR.out.1)) (And.intro (Blk.below HR.out.2.1 hb2 (Blk.lt HR.out.2.1)) (Below.call HR.out.2.2 hb2)))
              clear hb2
              go_wp2_with fail
              refine (capitals34 X w2 (by have := HX2.out.2.2.1; have := HQN.out; omega)).mono ?_
              rintro e w3 ⟨rfl, hb3⟩
              have HR3 := Lib.hid (And.intro (Blk.below HR2.out.1 hb3 (Blk.lt HR2.out.1)) (And.intro (Blk.below HR2.out.2.1 hb3 (Blk.lt HR2.out.2.1)) (Below.call HR2.out.2.2 hb3)))
              have r0 : w3.cell? ⟨w.heap.size, 0, none⟩ = some (.int .i64 0) := Blk.cell HR3.out.1 0
              have r1 : w3.cell? ⟨w.heap.size, 1, none⟩ = some (.string ⟨#[]⟩) := Blk.cell HR3.out.1 1
              have r2 : w3.cell? ⟨w.heap.size, 2, none⟩ = some (.int .i64 0) := Blk.cell HR3.out.1 2
              have s0 := Blk.free HR3.out.1 0
              have s1 := Blk.free HR3.out.1 1
              have s2 := Blk.free HR3.out.1 2
              have g0 : w3.cell? ⟨w.heap.size + 1, 0, none⟩ = some (.int .i64 0) := Blk.cell HR3.out.2.1 0
              have g1 : w3.cell? ⟨w.heap.size + 1, 1, none⟩ = some (.int .i64 0) := Blk.cell HR3.out.2.1 1
              have z0 := Blk.free HR3.out.2.1 0
              have z1 := Blk.free HR3.out.2.1 1
              clear hb3
              go_wp2_with fail
              refine bodyPost_ret (results_cell_tmp_cell rfl _ _ w.heap.size (w.heap.size + 1) 31 26 #[(.int .i64 2), (.string ⟨(X.data.toList.map up).toArray⟩), (.int .i64 (p : Int))] #[(.int .i64 0), (.int .i64 0)] (0, 0) (0, 0) _ _ rfl (show Blk _ w.heap.size 31 #[(.int .i64 2), (.string ⟨(X.data.toList.map up).toArray⟩), (.int .i64 (p : Int))] from Blk.other (Blk.other (Blk.set (Blk.set (Blk.set HR3.out.1 0 (.int .i64 2)) 1 (.string ⟨(X.data.toList.map up).toArray⟩)) 2 (.int .i64 (p : Int))) (p := ⟨w.heap.size + 1, 0, none⟩) (by simp) (.int .i64 0)) (p := ⟨w.heap.size + 1, 1, none⟩) (by simp) (.int .i64 0)) Tryd.underlying31 rfl (info31z _ _ _) rfl (show Blk _ (w.heap.size + 1) 26 #[(.int .i64 0), (.int .i64 0)] from Blk.set (Blk.set (Blk.other (Blk.other (Blk.other HR3.out.2.1 (p := ⟨w.heap.size, 0, none⟩) (by simp) (.int .i64 2)) (p := ⟨w.heap.size, 1, none⟩) (by simp) (.string ⟨(X.data.toList.map up).toArray⟩)) (p := ⟨w.heap.size, 2, none⟩) (by simp) (.int .i64 (p : Int))) 0 (.int .i64 0)) 1 (.int .i64 0)) Tryd.underlying26 rfl (info26 _ _)) rfl ?_
              refine ⟨by rw [HTK.out]; unfold tokV; dsimp only; rw [← HX2.out.2.1, ← HQN.out]; rfl, ((((HR3.out.2.2.setCell (p := ⟨w.heap.size, 0, none⟩) (Nat.le_refl _) (.int .i64 2)).setCell (p := ⟨w.heap.size, 1, none⟩) (Nat.le_refl _) (.string ⟨(X.data.toList.map up).toArray⟩)).setCell (p := ⟨w.heap.size, 2, none⟩) (Nat.le_refl _) (.int .i64 (p : Int))).setCell (p := ⟨w.heap.size + 1, 0, none⟩) (by simp) (.int .i64 0)).setCell (p := ⟨w.heap.size + 1, 1, none⟩) (by simp) (.int .i64 0)⟩
          · go_wp2_with fail
            refine HL2.out.mono ?_
            rintro e w1 ⟨rfl, rfl⟩
            go_wp2_with fail
            refine HD2.out.mono ?_
            rintro e w1 ⟨rfl, rfl⟩
            go_wp2_with fail
            exact ⟨⟨q + 1, by omega, by omega, by first | rfl | go_num, HX.out.2 hlt HBB.out, by first | rfl | trivial⟩, by simp [intOf]; omega⟩
        · go_wp2_with fail
          refine HL2.out.mono ?_
          rintro e w1 ⟨rfl, rfl⟩
          go_wp2_with fail
          exact ⟨⟨q + 1, by omega, by omega, by first | rfl | go_num, HX.out.2 hlt HBB.out, by first | rfl | trivial⟩, by simp [intOf]; omega⟩
      · have hdq : decide ((q : Int) < (s.size : Int)) = false := decide_eq_false (by omega)
        have hNq := HX.out.1 (.inl (by omega))
        obtain ⟨n, hn⟩ : ∃ n, n = q - p := ⟨_, rfl⟩
        have hqn : q = p + n := by omega
        have hnl : n = ((s.data.toList.drop p).takeWhile isW).length := by have := HN.out; omega
        obtain ⟨X, hX⟩ : ∃ X, X = s.extract p q := ⟨_, rfl⟩
        have hXl : X.data.toList = (s.data.toList.drop p).takeWhile isW := by rw [hX, hqn, ext_list, hnl]; exact (tw_take _).1
        have hXs : X.size = n := by rw [← str_len, hXl]; exact hnl.symm
        obtain ⟨kw, hkw⟩ : ∃ kw, kw = isKw X.data.toList := ⟨_, rfl⟩
        have hXe : X = ⟨((s.data.toList.drop p).takeWhile isW).toArray⟩ := WideShapes.bytes_inj hXl
        have HX2 := Lib.hid (And.intro hX (And.intro hXl (And.intro hXs (And.intro hkw (And.intro hnl hXe)))))
        have HQN := Lib.hid hqn
        have H16 := isKw16 X w0 (by omega)
        rw [← hkw] at H16
        have H16 := Lib.hid H16
        clear hX hXl hXs hkw hnl hXe hn hNq hqn
        cases kw
        · by_cases hbg : 32 < n
          · have hd32 : decide ((32 : Int) < (X.size : Int)) = true := decide_eq_true (by have := HX2.out.2.2.1; omega)
            have htok : tokL (s.data.toList.drop p) = .bad 45 0 := by
              have h1 := tok_long (c := c) (r := s.data.toList.drop (p + 1)) ⟨HC.out.2.1, hlet⟩
              rw [← HC.out.1, ← HX2.out.2.1, str_len, HX2.out.2.2.1] at h1
              exact h1 HX2.out.2.2.2.1.symm hbg
            have HTK := Lib.hid htok
            clear htok
            go_wp2_with fail
            rw [← HX2.out.1]
            refine H16.out.mono ?_
            rintro e w2 ⟨rfl, hb2⟩
            have HR2 := Lib.hid (And.intro (Blk.below HR.out.1 hb2 (Blk.lt HR.out.1)) (And.intro (Blk.below HR.out.2.1 hb2 (Blk.lt HR.out.2.1)) (Below.call HR.out.2.2 hb2)))
            have r0 : w2.cell? ⟨w.heap.size, 0, none⟩ = some (.int .i64 0) := Blk.cell HR2.out.1 0
            have r1 : w2.cell? ⟨w.heap.size, 1, none⟩ = some (.string ⟨#[]⟩) := Blk.cell HR2.out.1 1
            have r2 : w2.cell? ⟨w.heap.size, 2, none⟩ = some (.int .i64 0) := Blk.cell HR2.out.1 2
            have s0 := Blk.free HR2.out.1 0
            have s1 := Blk.free HR2.out.1 1
            have s2 := Blk.free HR2.out.1 2
            have g0 : w2.cell? ⟨w.heap.size + 1, 0, none⟩ = some (.int .i64 0) := Blk.cell HR2.out.2.1 0
            have g1 : w2.cell? ⟨w.heap.size + 1, 1, none⟩ = some (.int .i64 0) := Blk.cell HR2.out.2.1 1
            have z0 := Blk.free HR2.out.2.1 0
            have z1 := Blk.free HR2.out.2.1 1
            clear hb2
            go_wp2_with fail
            refine bodyPost_ret (results_cell_tmp_cell rfl _ _ w.heap.size (w.heap.size + 1) 31 26 #[(.int .i64 0), (.string ⟨#[]⟩), (.int .i64 0)] #[(.int .i64 45), (.int .i64 (p : Int))] (0, 0) (0, 0) _ _ rfl (show Blk _ w.heap.size 31 #[(.int .i64 0), (.string ⟨#[]⟩), (.int .i64 0)] from Blk.other (Blk.other (Blk.set (Blk.set (Blk.set HR2.out.1 0 (.int .i64 0)) 1 (.string ⟨#[]⟩)) 2 (.int .i64 0)) (p := ⟨w.heap.size + 1, 0, none⟩) (by simp) (.int .i64 45)) (p := ⟨w.heap.size + 1, 1, none⟩) (by simp) (.int .i64 (p : Int))) Tryd.underlying31 rfl (info31z _ _ _) rfl (show Blk _ (w.heap.size + 1) 26 #[(.int .i64 45), (.int .i64 (p : Int))] from Blk.set (Blk.set (Blk.other (Blk.other (Blk.other HR2.out.2.1 (p := ⟨w.heap.size, 0, none⟩) (by simp) (.int .i64 0)) (p := ⟨w.heap.size, 1, none⟩) (by simp) (.string ⟨#[]⟩)) (p := ⟨w.heap.size, 2, none⟩) (by simp) (.int .i64 0)) 0 (.int .i64 45)) 1 (.int .i64 (p : Int))) Tryd.underlying26 rfl (info26 _ _)) rfl ?_
            refine ⟨by rw [HTK.out]; rfl, ((((HR2.out.2.2.setCell (p := ⟨w.heap.size, 0, none⟩) (Nat.le_refl _) (.int .i64 0)).setCell (p := ⟨w.heap.size, 1, none⟩) (Nat.le_refl _) (.string ⟨#[]⟩)).setCell (p := ⟨w.heap.size, 2, none⟩) (Nat.le_refl _) (.int .i64 0)).setCell (p := ⟨w.heap.size + 1, 0, none⟩) (by simp) (.int .i64 45)).setCell (p := ⟨w.heap.size + 1, 1, none⟩) (by simp) (.int .i64 (p : Int))⟩
          · have hd32 : decide ((32 : Int) < (X.size : Int)) = false := decide_eq_false (by have := HX2.out.2.2.1; omega)
            have htok : tokL (s.data.toList.drop p) = .word 1 ((s.data.toList.drop p).takeWhile isW) n := by
              have h1 := tok_name (c := c) (r := s.data.toList.drop (p + 1)) ⟨HC.out.2.1, hlet⟩
              rw [← HC.out.1, ← HX2.out.2.1, str_len, HX2.out.2.2.1] at h1
              rw [← HX2.out.2.1]
              exact h1 HX2.out.2.2.2.1.symm (by omega)
            have HTK := Lib.hid htok
            clear htok
            go_wp2_with fail
            rw [← HX2.out.1]
            refine H16.out.mono ?_
            rintro e w2 ⟨rfl, hb2⟩
            have HR2 := Lib.hid (And.intro (Blk.below HR.out.1 hb2 (Blk.lt HR.out.1)) (And.intro (Blk.below HR.out.2.1 hb2 (Blk.lt HR.out.2.1)) (Below.call HR.out.2.2 hb2)))
            have r0 : w2.cell? ⟨w.heap.size, 0, none⟩ = some (.int .i64 0) := Blk.cell HR2.out.1 0
            have r1 : w2.cell? ⟨w.heap.size, 1, none⟩ = some (.string ⟨#[]⟩) := Blk.cell HR2.out.1 1
            have r2 : w2.cell? ⟨w.heap.size, 2, none⟩ = some (.int .i64 0) := Blk.cell HR2.out.1 2
            have s0 := Blk.free HR2.out.1 0
            have s1 := Blk.free HR2.out.1 1
            have s2 := Blk.free HR2.out.1 2
            have g0 : w2.cell? ⟨w.heap.size + 1, 0, none⟩ = some (.int .i64 0) := Blk.cell HR2.out.2.1 0
            have g1 : w2.cell? ⟨w.heap.size + 1, 1, none⟩ = some (.int .i64 0) := Blk.cell HR2.out.2.1 1
            have z0 := Blk.free HR2.out.2.1 0
            have z1 := Blk.free HR2.out.2.1 1
            clear hb2
            go_wp2_with fail
            refine bodyPost_ret (results_cell_tmp_cell rfl _ _ w.heap.size (w.heap.size + 1) 31 26 #[(.int .i64 1), (.string X), (.int .i64 (p : Int))] #[(.int .i64 0), (.int .i64 0)] (0, 0) (0, 0) _ _ rfl (show Blk _ w.heap.size 31 #[(.int .i64 1), (.string X), (.int .i64 (p : Int))] from Blk.other (Blk.other (Blk.set (Blk.set (Blk.set HR2.out.1 0 (.int .i64 1)) 1 (.string X)) 2 (.int .i64 (p : Int))) (p := ⟨w.heap.size + 1, 0, none⟩) (by simp) (.int .i64 0)) (p := ⟨w.heap.size + 1, 1, none⟩) (by simp) (.int .i64 0)) Tryd.underlying31 rfl (info31z _ _ _) rfl (show Blk _ (w.heap.size + 1) 26 #[(.int .i64 0), (.int .i64 0)] from Blk.set (Blk.set (Blk.other (Blk.other (Blk.other HR2.out.2.1 (p := ⟨w.heap.size, 0, none⟩) (by simp) (.int .i64 1)) (p := ⟨w.heap.size, 1, none⟩) (by simp) (.string X)) (p := ⟨w.heap.size, 2, none⟩) (by simp) (.int .i64 (p : Int))) 0 (.int .i64 0)) 1 (.int .i64 0)) Tryd.underlying26 rfl (info26 _ _)) rfl ?_
            refine ⟨by rw [HTK.out]; unfold tokV; dsimp only; rw [← HX2.out.2.2.2.2.2, ← HQN.out]; rfl, ((((HR2.out.2.2.setCell (p := ⟨w.heap.size, 0, none⟩) (Nat.le_refl _) (.int .i64 1)).setCell (p := ⟨w.heap.size, 1, none⟩) (Nat.le_refl _) (.string X)).setCell (p := ⟨w.heap.size, 2, none⟩) (Nat.le_refl _) (.int .i64 (p : Int))).setCell (p := ⟨w.heap.size + 1, 0, none⟩) (by simp) (.int .i64 0)).setCell (p := ⟨w.heap.size + 1, 1, none⟩) (by simp) (.int .i64 0)⟩
        · have htok : tokL (s.data.toList.drop p) = .word 2 (((s.data.toList.drop p).takeWhile isW).map up) n := by
            have h1 := tok_kw (c := c) (r := s.data.toList.drop (p + 1)) ⟨HC.out.2.1, hlet⟩
            rw [← HC.out.1, ← HX2.out.2.1, str_len, HX2.out.2.2.1] at h1
            rw [← HX2.out.2.1]
            exact h1 HX2.out.2.2.2.1.symm
          have HTK := Lib.hid htok
          clear htok
          go_wp2_with fail
          rw [← HX2.out.1]
          refine H16.out.mono ?_
          rintro e w2 ⟨rfl, hb2⟩
          have HR2 := Lib.hid (And.intro (Blk.below HR.out.1 hb2 (Blk.lt HR.out.1)) (And.intro (Blk.below HR.out.2.1 hb2 (Blk.lt HR.out.2.1)) (Below.call HR.out.2.2 hb2)))
          clear hb2
          go_wp2_with fail
          refine (capitals34 X w2 (by have := HX2.out.2.2.1; have := HQN.out; omega)).mono ?_
          rintro e w3 ⟨rfl, hb3⟩
          have HR3 := Lib.hid (And.intro (Blk.below HR2.out.1 hb3 (Blk.lt HR2.out.1)) (And.intro (Blk.below HR2.out.2.1 hb3 (Blk.lt HR2.out.2.1)) (Below.call HR2.out.2.2 hb3)))
          have r0 : w3.cell? ⟨w.heap.size, 0, none⟩ = some (.int .i64 0) := Blk.cell HR3.out.1 0
          have r1 : w3.cell? ⟨w.heap.size, 1, none⟩ = some (.string ⟨#[]⟩) := Blk.cell HR3.out.1 1
          have r2 : w3.cell? ⟨w.heap.size, 2, none⟩ = some (.int .i64 0) := Blk.cell HR3.out.1 2
          have s0 := Blk.free HR3.out.1 0
          have s1 := Blk.free HR3.out.1 1
          have s2 := Blk.free HR3.out.1 2
          have g0 : w3.cell? ⟨w.heap.size + 1, 0, none⟩ = some (.int .i64 0) := Blk.cell HR3.out.2.1 0
          have g1 : w3.cell? ⟨w.heap.size + 1, 1, none⟩ = some (.int .i64 0) := Blk.cell HR3.out.2.1 1
          have z0 := Blk.free HR3.out.2.1 0
          have z1 := Blk.free HR3.out.2.1 1
          clear hb3
          go_wp2_with fail
          refine bodyPost_ret (results_cell_tmp_cell rfl _ _ w.heap.size (w.heap.size + 1) 31 26 #[(.int .i64 2), (.string ⟨(X.data.toList.map up).toArray⟩), (.int .i64 (p : Int))] #[(.int .i64 0), (.int .i64 0)] (0, 0) (0, 0) _ _ rfl (show Blk _ w.heap.size 31 #[(.int .i64 2), (.string ⟨(X.data.toList.map up).toArray⟩), (.int .i64 (p : Int))] from Blk.other (Blk.other (Blk.set (Blk.set (Blk.set HR3.out.1 0 (.int .i64 2)) 1 (.string ⟨(X.data.toList.map up).toArray⟩)) 2 (.int .i64 (p : Int))) (p := ⟨w.heap.size + 1, 0, none⟩) (by simp) (.int .i64 0)) (p := ⟨w.heap.size + 1, 1, none⟩) (by simp) (.int .i64 0)) Tryd.underlying31 rfl (info31z _ _ _) rfl (show Blk _ (w.heap.size + 1) 26 #[(.int .i64 0), (.int .i64 0)] from Blk.set (Blk.set (Blk.other (Blk.other (Blk.other HR3.out.2.1 (p := ⟨w.heap.size, 0, none⟩) (by simp) (.int .i64 2)) (p := ⟨w.heap.size, 1, none⟩) (by simp) (.string ⟨(X.data.toList.map up).toArray⟩)) (p := ⟨w.heap.size, 2, none⟩) (by simp) (.int .i64 (p : Int))) 0 (.int .i64 0)) 1 (.int .i64 0)) Tryd.underlying26 rfl (info26 _ _)) rfl ?_
          refine ⟨by rw [HTK.out]; unfold tokV; dsimp only; rw [← HX2.out.2.1, ← HQN.out]; rfl, ((((HR3.out.2.2.setCell (p := ⟨w.heap.size, 0, none⟩) (Nat.le_refl _) (.int .i64 2)).setCell (p := ⟨w.heap.size, 1, none⟩) (Nat.le_refl _) (.string ⟨(X.data.toList.map up).toArray⟩)).setCell (p := ⟨w.heap.size, 2, none⟩) (Nat.le_refl _) (.int .i64 (p : Int))).setCell (p := ⟨w.heap.size + 1, 0, none⟩) (by simp) (.int .i64 0)).setCell (p := ⟨w.heap.size + 1, 1, none⟩) (by simp) (.int .i64 0)⟩
  · have hlet : isLetter c = false := by simpa using hlet
    rw [hlet]
    go_wp2_with fail
    refine HD.out.mono ?_
    rintro e w1 ⟨rfl, rfl⟩
    by_cases hdig : isDigit c = true
    · rw [hdig]
      have HLT := Lib.hid hlet
      clear hlet
      obtain ⟨N, hN⟩ : ∃ N, N = p + ((s.data.toList.drop p).takeWhile isDigit).length := ⟨_, rfl⟩
      have HN := Lib.hid hN
      clear hN
      go_wp2_with fail
      go_loopw [8] (fun a wr => ∃ q : Nat, p ≤ q ∧ q ≤ s.size ∧ a = .int .i64 q ∧ N = q + ((s.data.toList.drop q).takeWhile isDigit).length ∧ w0 = wr) (fun a _ => s.size - (intOf a).toNat)
      case atStart => exact ⟨p, by omega, by omega, rfl, HN.out, rfl⟩
      case round =>
        obtain ⟨q, hpq, hq1, rfl, hqe, rfl⟩ := hrel
        have hexit : (q = s.size ∨ ∃ hh : q < s.size, isDigit s[q] = false) → N = q := fun he => by
          rcases he with he | ⟨hh, he⟩
          · rw [str_end s (by omega)] at hqe; simpa using hqe
          · rw [str_drop s hh, List.takeWhile_cons, if_neg (by rw [he]; simp)] at hqe; simpa using hqe
        have hnext : ∀ hh : q < s.size, isDigit s[q] = true → N = (q + 1) + ((s.data.toList.drop (q + 1)).takeWhile isDigit).length := fun hh he => by
          rw [str_drop s hh, List.takeWhile_cons, if_pos he, List.length_cons] at hqe
          omega
        have HX := Lib.hid (And.intro hexit hnext)
        clear hexit hnext hqe
        by_cases hlt : q < s.size
        · have hdq : decide ((q : Int) < (s.size : Int)) = true := decide_eq_true (by omega)
          have HD2 := Lib.hid (digit31 s[q] w0)
          obtain ⟨b2, hb2⟩ : ∃ b, b = isDigit s[q] := ⟨_, rfl⟩
          rw [← hb2] at HD2
          have HBB := Lib.hid hb2
          clear hb2
          cases b2
          · have hNq := HX.out.1 (.inr ⟨hlt, HBB.out.symm⟩)
            go_wp2_with fail
            refine HD2.out.mono ?_
            rintro e w1 ⟨rfl, rfl⟩
            obtain ⟨n, hn⟩ : ∃ n, n = q - p := ⟨_, rfl⟩
            have hqn : q = p + n := by omega
            have hnl : n = ((s.data.toList.drop p).takeWhile isDigit).length := by have := HN.out; omega
            have HND := Lib.hid hnl
            have HDG := Lib.hid hdig
            clear hnl hn hNq hdig
            have q48 := eq48 c
            have r0 : w0.cell? ⟨w.heap.size, 0, none⟩ = some (.int .i64 0) := Blk.cell HR.out.1 0
            have r1 : w0.cell? ⟨w.heap.size, 1, none⟩ = some (.string ⟨#[]⟩) := Blk.cell HR.out.1 1
            have r2 : w0.cell? ⟨w.heap.size, 2, none⟩ = some (.int .i64 0) := Blk.cell HR.out.1 2
            have s0 := Blk.free HR.out.1 0
            have s1 := Blk.free HR.out.1 1
            have s2 := Blk.free HR.out.1 2
            have g0 : w0.cell? ⟨w.heap.size + 1, 0, none⟩ = some (.int .i64 0) := Blk.cell HR.out.2.1 0
            have g1 : w0.cell? ⟨w.heap.size + 1, 1, none⟩ = some (.int .i64 0) := Blk.cell HR.out.2.1 1
            have z0 := Blk.free HR.out.2.1 0
            have z1 := Blk.free HR.out.2.1 1
            by_cases hzd : 1 < n ∧ c = 48
            · obtain ⟨hone, hz⟩ := hzd
              have d1 : decide ((1 : Int) < (q : Int) - (p : Int)) = true := decide_eq_true (by omega)
              rw [decide_eq_true hz] at q48
              have htok : tokL (s.data.toList.drop p) = .bad 40 0 := by
                have h1 := tok_num0 (c := c) (r := s.data.toList.drop (p + 1)) ⟨HC.out.2.1, HLT.out, HDG.out⟩
                rw [← HC.out.1, ← HND.out] at h1
                rw [HC.out.1]; rw [HC.out.1] at h1
                exact h1 hone hz
              have HTK := Lib.hid htok
              have HQN := Lib.hid hqn
              clear htok hz hqn hone
              go_wp2_with fail
              refine bodyPost_ret (results_cell_tmp_cell rfl _ _ w.heap.size (w.heap.size + 1) 31 26 #[(.int .i64 0), (.string ⟨#[]⟩), (.int .i64 0)] #[(.int .i64 40), (.int .i64 (p : Int))] (0, 0) (0, 0) _ _ rfl (show Blk _ w.heap.size 31 #[(.int .i64 0), (.string ⟨#[]⟩), (.int .i64 0)] from Blk.other (Blk.other (Blk.set (Blk.set (Blk.set HR.out.1 0 (.int .i64 0)) 1 (.string ⟨#[]⟩)) 2 (.int .i64 0)) (p := ⟨w.heap.size + 1, 0, none⟩) (by simp) (.int .i64 40)) (p := ⟨w.heap.size + 1, 1, none⟩) (by simp) (.int .i64 (p : Int))) Tryd.underlying31 rfl (info31z _ _ _) rfl (show Blk _ (w.heap.size + 1) 26 #[(.int .i64 40), (.int .i64 (p : Int))] from Blk.set (Blk.set (Blk.other (Blk.other (Blk.other HR.out.2.1 (p := ⟨w.heap.size, 0, none⟩) (by simp) (.int .i64 0)) (p := ⟨w.heap.size, 1, none⟩) (by simp) (.string ⟨#[]⟩)) (p := ⟨w.heap.size, 2, none⟩) (by simp) (.int .i64 0)) 0 (.int .i64 40)) 1 (.int .i64 (p : Int))) Tryd.underlying26 rfl (info26 _ _)) rfl ?_
              refine ⟨by rw [HTK.out]; rfl, ((((HR.out.2.2.setCell (p := ⟨w.heap.size, 0, none⟩) (Nat.le_refl _) (.int .i64 0)).setCell (p := ⟨w.heap.size, 1, none⟩) (Nat.le_refl _) (.string ⟨#[]⟩)).setCell (p := ⟨w.heap.size, 2, none⟩) (Nat.le_refl _) (.int .i64 0)).setCell (p := ⟨w.heap.size + 1, 0, none⟩) (by simp) (.int .i64 40)).setCell (p := ⟨w.heap.size + 1, 1, none⟩) (by simp) (.int .i64 (p : Int))⟩
            · have HZD := Lib.hid hzd
              have hsplit : (decide ((1 : Int) < (q : Int) - (p : Int)) = false) ∨ (decide ((1 : Int) < (q : Int) - (p : Int)) = true ∧ (((c.toNat : Nat) : Int) == 48) = false) := by
                by_cases hone : 1 < n
                · exact .inr ⟨decide_eq_true (by omega), by rw [q48]; exact decide_eq_false (fun e => hzd ⟨hone, e⟩)⟩
                · exact .inl (decide_eq_false (by omega))
              have HSP := Lib.hid hsplit
              clear hzd q48 hsplit
              by_cases h19 : 19 < n
              · have d19 : decide ((19 : Int) < (q : Int) - (p : Int)) = true := decide_eq_true (by omega)
                have htok : tokL (s.data.toList.drop p) = .bad 45 0 := by
                  have h1 := tok_num1 (c := c) (r := s.data.toList.drop (p + 1)) ⟨HC.out.2.1, HLT.out, HDG.out⟩
                  rw [← HC.out.1, ← HND.out] at h1
                  rw [HC.out.1]; rw [HC.out.1] at h1
                  exact h1 HZD.out h19
                have HTK := Lib.hid htok
                have HQN := Lib.hid hqn
                clear htok hqn h19
                rcases HSP.out with d1 | ⟨d1, q48⟩
                · go_wp2_with fail
                  refine bodyPost_ret (results_cell_tmp_cell rfl _ _ w.heap.size (w.heap.size + 1) 31 26 #[(.int .i64 0), (.string ⟨#[]⟩), (.int .i64 0)] #[(.int .i64 45), (.int .i64 (p : Int))] (0, 0) (0, 0) _ _ rfl (show Blk _ w.heap.size 31 #[(.int .i64 0), (.string ⟨#[]⟩), (.int .i64 0)] from Blk.other (Blk.other (Blk.set (Blk.set (Blk.set HR.out.1 0 (.int .i64 0)) 1 (.string ⟨#[]⟩)) 2 (.int .i64 0)) (p := ⟨w.heap.size + 1, 0, none⟩) (by simp) (.int .i64 45)) (p := ⟨w.heap.size + 1, 1, none⟩) (by simp) (.int .i64 (p : Int))) Tryd.underlying31 rfl (info31z _ _ _) rfl (show Blk _ (w.heap.size + 1) 26 #[(.int .i64 45), (.int .i64 (p : Int))] from Blk.set (Blk.set (Blk.other (Blk.other (Blk.other HR.out.2.1 (p := ⟨w.heap.size, 0, none⟩) (by simp) (.int .i64 0)) (p := ⟨w.heap.size, 1, none⟩) (by simp) (.string ⟨#[]⟩)) (p := ⟨w.heap.size, 2, none⟩) (by simp) (.int .i64 0)) 0 (.int .i64 45)) 1 (.int .i64 (p : Int))) Tryd.underlying26 rfl (info26 _ _)) rfl ?_
                  refine ⟨by rw [HTK.out]; rfl, ((((HR.out.2.2.setCell (p := ⟨w.heap.size, 0, none⟩) (Nat.le_refl _) (.int .i64 0)).setCell (p := ⟨w.heap.size, 1, none⟩) (Nat.le_refl _) (.string ⟨#[]⟩)).setCell (p := ⟨w.heap.size, 2, none⟩) (Nat.le_refl _) (.int .i64 0)).setCell (p := ⟨w.heap.size + 1, 0, none⟩) (by simp) (.int .i64 45)).setCell (p := ⟨w.heap.size + 1, 1, none⟩) (by simp) (.int .i64 (p : Int))⟩
                · go_wp2_with fail
                  refine bodyPost_ret (results_cell_tmp_cell rfl _ _ w.heap.size (w.heap.size + 1) 31 26 #[(.int .i64 0), (.string ⟨#[]⟩), (.int .i64 0)] #[(.int .i64 45), (.int .i64 (p : Int))] (0, 0) (0, 0) _ _ rfl (show Blk _ w.heap.size 31 #[(.int .i64 0), (.string ⟨#[]⟩), (.int .i64 0)] from Blk.other (Blk.other (Blk.set (Blk.set (Blk.set HR.out.1 0 (.int .i64 0)) 1 (.string ⟨#[]⟩)) 2 (.int .i64 0)) (p := ⟨w.heap.size + 1, 0, none⟩) (by simp) (.int .i64 45)) (p := ⟨w.heap.size + 1, 1, none⟩) (by simp) (.int .i64 (p : Int))) Tryd.underlying31 rfl (info31z _ _ _) rfl (show Blk _ (w.heap.size + 1) 26 #[(.int .i64 45), (.int .i64 (p : Int))] from Blk.set (Blk.set (Blk.other (Blk.other (Blk.other HR.out.2.1 (p := ⟨w.heap.size, 0, none⟩) (by simp) (.int .i64 0)) (p := ⟨w.heap.size, 1, none⟩) (by simp) (.string ⟨#[]⟩)) (p := ⟨w.heap.size, 2, none⟩) (by simp) (.int .i64 0)) 0 (.int .i64 45)) 1 (.int .i64 (p : Int))) Tryd.underlying26 rfl (info26 _ _)) rfl ?_
                  refine ⟨by rw [HTK.out]; rfl, ((((HR.out.2.2.setCell (p := ⟨w.heap.size, 0, none⟩) (Nat.le_refl _) (.int .i64 0)).setCell (p := ⟨w.heap.size, 1, none⟩) (Nat.le_refl _) (.string ⟨#[]⟩)).setCell (p := ⟨w.heap.size, 2, none⟩) (Nat.le_refl _) (.int .i64 0)).setCell (p := ⟨w.heap.size + 1, 0, none⟩) (by simp) (.int .i64 45)).setCell (p := ⟨w.heap.size + 1, 1, none⟩) (by simp) (.int .i64 (p : Int))⟩
              · have d19 : decide ((19 : Int) < (q : Int) - (p : Int)) = false := decide_eq_false (by omega)
                have HQN := Lib.hid hqn
                clear hqn
                have HL3 := Lib.hid (letter30 s[q] w0)
                obtain ⟨b3, hb3⟩ : ∃ b, b = isLetter s[q] := ⟨_, rfl⟩
                rw [← hb3] at HL3
                have hhd : isLetter ((s.data.toList.drop q).headD 0) = b3 := by rw [str_drop s hlt]; exact hb3.symm
                clear hb3
                cases b3
                · skip
                  have hext : s.extract p q = ⟨((s.data.toList.drop p).takeWhile isDigit).toArray⟩ := by rw [HQN.out, ext_str, HND.out, (tw_take _).1]
                  have htok : tokL (s.data.toList.drop p) = .word 3 ((s.data.toList.drop p).takeWhile isDigit) n := by
                    have h1 := tok_num3 (c := c) (r := s.data.toList.drop (p + 1)) ⟨HC.out.2.1, HLT.out, HDG.out⟩
                    rw [← HC.out.1, ← HND.out, ← (tw_take (f := isDigit) (s.data.toList.drop p)).2, ← HND.out, List.drop_drop, ← HQN.out] at h1
                    rw [HC.out.1]; rw [HC.out.1] at h1
                    exact h1 HZD.out h19 hhd
                  have HTK := Lib.hid (And.intro hext htok)
                  clear hext htok hhd
                  clear h19
                  rcases HSP.out with d1 | ⟨d1, q48⟩
                  · go_wp2_with fail
                    refine HL3.out.mono ?_
                    rintro e w1 ⟨rfl, rfl⟩
                    go_wp2_with fail
                    refine bodyPost_ret (results_cell_tmp_cell rfl _ _ w.heap.size (w.heap.size + 1) 31 26 #[(.int .i64 3), (.string (s.extract p q)), (.int .i64 (p : Int))] #[(.int .i64 0), (.int .i64 0)] (0, 0) (0, 0) _ _ rfl (show Blk _ w.heap.size 31 #[(.int .i64 3), (.string (s.extract p q)), (.int .i64 (p : Int))] from Blk.other (Blk.other (Blk.set (Blk.set (Blk.set HR.out.1 0 (.int .i64 3)) 1 (.string (s.extract p q))) 2 (.int .i64 (p : Int))) (p := ⟨w.heap.size + 1, 0, none⟩) (by simp) (.int .i64 0)) (p := ⟨w.heap.size + 1, 1, none⟩) (by simp) (.int .i64 0)) Tryd.underlying31 rfl (info31z _ _ _) rfl (show Blk _ (w.heap.size + 1) 26 #[(.int .i64 0), (.int .i64 0)] from Blk.set (Blk.set (Blk.other (Blk.other (Blk.other HR.out.2.1 (p := ⟨w.heap.size, 0, none⟩) (by simp) (.int .i64 3)) (p := ⟨w.heap.size, 1, none⟩) (by simp) (.string (s.extract p q))) (p := ⟨w.heap.size, 2, none⟩) (by simp) (.int .i64 (p : Int))) 0 (.int .i64 0)) 1 (.int .i64 0)) Tryd.underlying26 rfl (info26 _ _)) rfl ?_
                    refine ⟨by rw [HTK.out.2]; unfold tokV; dsimp only; rw [← HTK.out.1, ← HQN.out]; rfl, ((((HR.out.2.2.setCell (p := ⟨w.heap.size, 0, none⟩) (Nat.le_refl _) (.int .i64 3)).setCell (p := ⟨w.heap.size, 1, none⟩) (Nat.le_refl _) (.string (s.extract p q))).setCell (p := ⟨w.heap.size, 2, none⟩) (Nat.le_refl _) (.int .i64 (p : Int))).setCell (p := ⟨w.heap.size + 1, 0, none⟩) (by simp) (.int .i64 0)).setCell (p := ⟨w.heap.size + 1, 1, none⟩) (by simp) (.int .i64 0)⟩
                  · go_wp2_with fail
                    refine HL3.out.mono ?_
                    rintro e w1 ⟨rfl, rfl⟩
                    go_wp2_with fail
                    refine bodyPost_ret (results_cell_tmp_cell rfl _ _ w.heap.size (w.heap.size + 1) 31 26 #[(.int .i64 3), (.string (s.extract p q)), (.int .i64 (p : Int))] #[(.int .i64 0), (.int .i64 0)] (0, 0) (0, 0) _ _ rfl (show Blk _ w.heap.size 31 #[(.int .i64 3), (.string (s.extract p q)), (.int .i64 (p : Int))] from Blk.other (Blk.other (Blk.set (Blk.set (Blk.set HR.out.1 0 (.int .i64 3)) 1 (.string (s.extract p q))) 2 (.int .i64 (p : Int))) (p := ⟨w.heap.size + 1, 0, none⟩) (by simp) (.int .i64 0)) (p := ⟨w.heap.size + 1, 1, none⟩) (by simp) (.int .i64 0)) Tryd.underlying31 rfl (info31z _ _ _) rfl (show Blk _ (w.heap.size + 1) 26 #[(.int .i64 0), (.int .i64 0)] from Blk.set (Blk.set (Blk.other (Blk.other (Blk.other HR.out.2.1 (p := ⟨w.heap.size, 0, none⟩) (by simp) (.int .i64 3)) (p := ⟨w.heap.size, 1, none⟩) (by simp) (.string (s.extract p q))) (p := ⟨w.heap.size, 2, none⟩) (by simp) (.int .i64 (p : Int))) 0 (.int .i64 0)) 1 (.int .i64 0)) Tryd.underlying26 rfl (info26 _ _)) rfl ?_
                    refine ⟨by rw [HTK.out.2]; unfold tokV; dsimp only; rw [← HTK.out.1, ← HQN.out]; rfl, ((((HR.out.2.2.setCell (p := ⟨w.heap.size, 0, none⟩) (Nat.le_refl _) (.int .i64 3)).setCell (p := ⟨w.heap.size, 1, none⟩) (Nat.le_refl _) (.string (s.extract p q))).setCell (p := ⟨w.heap.size, 2, none⟩) (Nat.le_refl _) (.int .i64 (p : Int))).setCell (p := ⟨w.heap.size + 1, 0, none⟩) (by simp) (.int .i64 0)).setCell (p := ⟨w.heap.size + 1, 1, none⟩) (by simp) (.int .i64 0)⟩
                · have htok : tokL (s.data.toList.drop p) = .bad 40 n := by
                    have h1 := tok_num2 (c := c) (r := s.data.toList.drop (p + 1)) ⟨HC.out.2.1, HLT.out, HDG.out⟩
                    rw [← HC.out.1, ← HND.out, ← (tw_take (f := isDigit) (s.data.toList.drop p)).2, ← HND.out, List.drop_drop, ← HQN.out] at h1
                    rw [HC.out.1]; rw [HC.out.1] at h1
                    exact h1 HZD.out h19 hhd
                  have HTK := Lib.hid htok
                  clear htok hhd h19
                  rcases HSP.out with d1 | ⟨d1, q48⟩
                  · go_wp2_with fail
                    refine HL3.out.mono ?_
                    rintro e w1 ⟨rfl, rfl⟩
                    go_wp2_with fail
                    refine bodyPost_ret (results_cell_tmp_cell rfl _ _ w.heap.size (w.heap.size + 1) 31 26 #[(.int .i64 0), (.string ⟨#[]⟩), (.int .i64 0)] #[(.int .i64 40), (.int .i64 (q : Int))] (0, 0) (0, 0) _ _ rfl (show Blk _ w.heap.size 31 #[(.int .i64 0), (.string ⟨#[]⟩), (.int .i64 0)] from Blk.other (Blk.other (Blk.set (Blk.set (Blk.set HR.out.1 0 (.int .i64 0)) 1 (.string ⟨#[]⟩)) 2 (.int .i64 0)) (p := ⟨w.heap.size + 1, 0, none⟩) (by simp) (.int .i64 40)) (p := ⟨w.heap.size + 1, 1, none⟩) (by simp) (.int .i64 (q : Int))) Tryd.underlying31 rfl (info31z _ _ _) rfl (show Blk _ (w.heap.size + 1) 26 #[(.int .i64 40), (.int .i64 (q : Int))] from Blk.set (Blk.set (Blk.other (Blk.other (Blk.other HR.out.2.1 (p := ⟨w.heap.size, 0, none⟩) (by simp) (.int .i64 0)) (p := ⟨w.heap.size, 1, none⟩) (by simp) (.string ⟨#[]⟩)) (p := ⟨w.heap.size, 2, none⟩) (by simp) (.int .i64 0)) 0 (.int .i64 40)) 1 (.int .i64 (q : Int))) Tryd.underlying26 rfl (info26 _ _)) rfl ?_
                    refine ⟨by rw [HTK.out]; unfold tokV; dsimp only; rw [← HQN.out]; rfl, ((((HR.out.2.2.setCell (p := ⟨w.heap.size, 0, none⟩) (Nat.le_refl _) (.int .i64 0)).setCell (p := ⟨w.heap.size, 1, none⟩) (Nat.le_refl _) (.string ⟨#[]⟩)).setCell (p := ⟨w.heap.size, 2, none⟩) (Nat.le_refl _) (.int .i64 0)).setCell (p := ⟨w.heap.size + 1, 0, none⟩) (by simp) (.int .i64 40)).setCell (p := ⟨w.heap.size + 1, 1, none⟩) (by simp) (.int .i64 (q : Int))⟩
                  · go_wp2_with fail
                    refine HL3.out.mono ?_
                    rintro e w1 ⟨rfl, rfl⟩
                    go_wp2_with fail
                    refine bodyPost_ret (results_cell_tmp_cell rfl _ _ w.heap.size (w.heap.size + 1) 31 26 #[(.int .i64 0), (.string ⟨#[]⟩), (.int .i64 0)] #[(.int .i64 40), (.int .i64 (q : Int))] (0, 0) (0, 0) _ _ rfl (show Blk _ w.heap.size 31 #[(.int .i64 0), (.string ⟨#[]⟩), (.int .i64 0)] from Blk.other (Blk.other (Blk.set (Blk.set (Blk.set HR.out.1 0 (.int .i64 0)) 1 (.string ⟨#[]⟩)) 2 (.int .i64 0)) (p := ⟨w.heap.size + 1, 0, none⟩) (by simp) (.int .i64 40)) (p := ⟨w.heap.size + 1, 1, none⟩) (by simp) (.int .i64 (q : Int))) Tryd.underlying31 rfl (info31z _ _ _) rfl (show Blk _ (w.heap.size + 1) 26 #[(.int .i64 40), (.int .i64 (q : Int))] from Blk.set (Blk.set (Blk.other (Blk.other (Blk.other HR.out.2.1 (p := ⟨w.heap.size, 0, none⟩) (by simp) (.int .i64 0)) (p := ⟨w.heap.size, 1, none⟩) (by simp) (.string ⟨#[]⟩)) (p := ⟨w.heap.size, 2, none⟩) (by simp) (.int .i64 0)) 0 (.int .i64 40)) 1 (.int .i64 (q : Int))) Tryd.underlying26 rfl (info26 _ _)) rfl ?_
                    refine ⟨by rw [HTK.out]; unfold tokV; dsimp only; rw [← HQN.out]; rfl, ((((HR.out.2.2.setCell (p := ⟨w.heap.size, 0, none⟩) (Nat.le_refl _) (.int .i64 0)).setCell (p := ⟨w.heap.size, 1, none⟩) (Nat.le_refl _) (.string ⟨#[]⟩)).setCell (p := ⟨w.heap.size, 2, none⟩) (Nat.le_refl _) (.int .i64 0)).setCell (p := ⟨w.heap.size + 1, 0, none⟩) (by simp) (.int .i64 40)).setCell (p := ⟨w.heap.size + 1, 1, none⟩) (by simp) (.int .i64 (q : Int))⟩
          · go_wp2_with fail
            refine HD2.out.mono ?_
            rintro e w1 ⟨rfl, rfl⟩
            go_wp2_with fail
            exact ⟨⟨q + 1, by omega, by omega, by first | rfl | go_num, HX.out.2 hlt HBB.out.symm, by first | rfl | trivial⟩, by simp [intOf]; omega⟩
        · have hdq : decide ((q : Int) < (s.size : Int)) = false := decide_eq_false (by omega)
          have hNq := HX.out.1 (.inl (by omega))
          obtain ⟨n, hn⟩ : ∃ n, n = q - p := ⟨_, rfl⟩
          have hqn : q = p + n := by omega
          have hnl : n = ((s.data.toList.drop p).takeWhile isDigit).length := by have := HN.out; omega
          have HND := Lib.hid hnl
          have HDG := Lib.hid hdig
          clear hnl hn hNq hdig
          have q48 := eq48 c
          have r0 : w0.cell? ⟨w.heap.size, 0, none⟩ = some (.int .i64 0) := Blk.cell HR.out.1 0
          have r1 : w0.cell? ⟨w.heap.size, 1, none⟩ = some (.string ⟨#[]⟩) := Blk.cell HR.out.1 1
          have r2 : w0.cell? ⟨w.heap.size, 2, none⟩ = some (.int .i64 0) := Blk.cell HR.out.1 2
          have s0 := Blk.free HR.out.1 0
          have s1 := Blk.free HR.out.1 1
          have s2 := Blk.free HR.out.1 2
          have g0 : w0.cell? ⟨w.heap.size + 1, 0, none⟩ = some (.int .i64 0) := Blk.cell HR.out.2.1 0
          have g1 : w0.cell? ⟨w.heap.size + 1, 1, none⟩ = some (.int .i64 0) := Blk.cell HR.out.2.1 1
          have z0 := Blk.free HR.out.2.1 0
          have z1 := Blk.free HR.out.2.1 1
          by_cases hzd : 1 < n ∧ c = 48
          · obtain ⟨hone, hz⟩ := hzd
            have d1 : decide ((1 : Int) < (q : Int) - (p : Int)) = true := decide_eq_true (by omega)
            rw [decide_eq_true hz] at q48
            have htok : tokL (s.data.toList.drop p) = .bad 40 0 := by
              have h1 := tok_num0 (c := c) (r := s.data.toList.drop (p + 1)) ⟨HC.out.2.1, HLT.out, HDG.out⟩
              rw [← HC.out.1, ← HND.out] at h1
              rw [HC.out.1]; rw [HC.out.1] at h1
              exact h1 hone hz
            have HTK := Lib.hid htok
            have HQN := Lib.hid hqn
            clear htok hz hqn hone
            go_wp2_with fail
            refine bodyPost_ret (results_cell_tmp_cell rfl _ _ w.heap.size (w.heap.size + 1) 31 26 #[(.int .i64 0), (.string ⟨#[]⟩), (.int .i64 0)] #[(.int .i64 40), (.int .i64 (p : Int))] (0, 0) (0, 0) _ _ rfl (show Blk _ w.heap.size 31 #[(.int .i64 0), (.string ⟨#[]⟩), (.int .i64 0)] from Blk.other (Blk.other (Blk.set (Blk.set (Blk.set HR.out.1 0 (.int .i64 0)) 1 (.string ⟨#[]⟩)) 2 (.int .i64 0)) (p := ⟨w.heap.size + 1, 0, none⟩) (by simp) (.int .i64 40)) (p := ⟨w.heap.size + 1, 1, none⟩) (by simp) (.int .i64 (p : Int))) Tryd.underlying31 rfl (info31z _ _ _) rfl (show Blk _ (w.heap.size + 1) 26 #[(.int .i64 40), (.int .i64 (p : Int))] from Blk.set (Blk.set (Blk.other (Blk.other (Blk.other HR.out.2.1 (p := ⟨w.heap.size, 0, none⟩) (by simp) (.int .i64 0)) (p := ⟨w.heap.size, 1, none⟩) (by simp) (.string ⟨#[]⟩)) (p := ⟨w.heap.size, 2, none⟩) (by simp) (.int .i64 0)) 0 (.int .i64 40)) 1 (.int .i64 (p : Int))) Tryd.underlying26 rfl (info26 _ _)) rfl ?_
            refine ⟨by rw [HTK.out]; rfl, ((((HR.out.2.2.setCell (p := ⟨w.heap.size, 0, none⟩) (Nat.le_refl _) (.int .i64 0)).setCell (p := ⟨w.heap.size, 1, none⟩) (Nat.le_refl _) (.string ⟨#[]⟩)).setCell (p := ⟨w.heap.size, 2, none⟩) (Nat.le_refl _) (.int .i64 0)).setCell (p := ⟨w.heap.size + 1, 0, none⟩) (by simp) (.int .i64 40)).setCell (p := ⟨w.heap.size + 1, 1, none⟩) (by simp) (.int .i64 (p : Int))⟩
          · have HZD := Lib.hid hzd
            have hsplit : (decide ((1 : Int) < (q : Int) - (p : Int)) = false) ∨ (decide ((1 : Int) < (q : Int) - (p : Int)) = true ∧ (((c.toNat : Nat) : Int) == 48) = false) := by
              by_cases hone : 1 < n
              · exact .inr ⟨decide_eq_true (by omega), by rw [q48]; exact decide_eq_false (fun e => hzd ⟨hone, e⟩)⟩
              · exact .inl (decide_eq_false (by omega))
            have HSP := Lib.hid hsplit
            clear hzd q48 hsplit
            by_cases h19 : 19 < n
            · have d19 : decide ((19 : Int) < (q : Int) - (p : Int)) = true := decide_eq_true (by omega)
              have htok : tokL (s.data.toList.drop p) = .bad 45 0 := by
                have h1 := tok_num1 (c := c) (r := s.data.toList.drop (p + 1)) ⟨HC.out.2.1, HLT.out, HDG.out⟩
                rw [← HC.out.1, ← HND.out] at h1
                rw [HC.out.1]; rw [HC.out.1] at h1
                exact h1 HZD.out h19
              have HTK := Lib.hid htok
              have HQN := Lib.hid hqn
              clear htok hqn h19
              rcases HSP.out with d1 | ⟨d1, q48⟩
              · go_wp2_with fail
                refine bodyPost_ret (results_cell_tmp_cell rfl _ _ w.heap.size (w.heap.size + 1) 31 26 #[(.int .i64 0), (.string ⟨#[]⟩), (.int .i64 0)] #[(.int .i64 45), (.int .i64 (p : Int))] (0, 0) (0, 0) _ _ rfl (show Blk _ w.heap.size 31 #[(.int .i64 0), (.string ⟨#[]⟩), (.int .i64 0)] from Blk.other (Blk.other (Blk.set (Blk.set (Blk.set HR.out.1 0 (.int .i64 0)) 1 (.string ⟨#[]⟩)) 2 (.int .i64 0)) (p := ⟨w.heap.size + 1, 0, none⟩) (by simp) (.int .i64 45)) (p := ⟨w.heap.size + 1, 1, none⟩) (by simp) (.int .i64 (p : Int))) Tryd.underlying31 rfl (info31z _ _ _) rfl (show Blk _ (w.heap.size + 1) 26 #[(.int .i64 45), (.int .i64 (p : Int))] from Blk.set (Blk.set (Blk.other (Blk.other (Blk.other HR.out.2.1 (p := ⟨w.heap.size, 0, none⟩) (by simp) (.int .i64 0)) (p := ⟨w.heap.size, 1, none⟩) (by simp) (.string ⟨#[]⟩)) (p := ⟨w.heap.size, 2, none⟩) (by simp) (.int .i64 0)) 0 (.int .i64 45)) 1 (.int .i64 (p : Int))) Tryd.underlying26 rfl (info26 _ _)) rfl ?_
                refine ⟨by rw [HTK.out]; rfl, ((((HR.out.2.2.setCell (p := ⟨w.heap.size, 0, none⟩) (Nat.le_refl _) (.int .i64 0)).setCell (p := ⟨w.heap.size, 1, none⟩) (Nat.le_refl _) (.string ⟨#[]⟩)).setCell (p := ⟨w.heap.size, 2, none⟩) (Nat.le_refl _) (.int .i64 0)).setCell (p := ⟨w.heap.size + 1, 0, none⟩) (by simp) (.int .i64 45)).setCell (p := ⟨w.heap.size + 1, 1, none⟩) (by simp) (.int .i64 (p : Int))⟩
              · go_wp2_with fail
                refine bodyPost_ret (results_cell_tmp_cell rfl _ _ w.heap.size (w.heap.size + 1) 31 26 #[(.int .i64 0), (.string ⟨#[]⟩), (.int .i64 0)] #[(.int .i64 45), (.int .i64 (p : Int))] (0, 0) (0, 0) _ _ rfl (show Blk _ w.heap.size 31 #[(.int .i64 0), (.string ⟨#[]⟩), (.int .i64 0)] from Blk.other (Blk.other (Blk.set (Blk.set (Blk.set HR.out.1 0 (.int .i64 0)) 1 (.string ⟨#[]⟩)) 2 (.int .i64 0)) (p := ⟨w.heap.size + 1, 0, none⟩) (by simp) (.int .i64 45)) (p := ⟨w.heap.size + 1, 1, none⟩) (by simp) (.int .i64 (p : Int))) Tryd.underlying31 rfl (info31z _ _ _) rfl (show Blk _ (w.heap.size + 1) 26 #[(.int .i64 45), (.int .i64 (p : Int))] from Blk.set (Blk.set (Blk.other (Blk.other (Blk.other HR.out.2.1 (p := ⟨w.heap.size, 0, none⟩) (by simp) (.int .i64 0)) (p := ⟨w.heap.size, 1, none⟩) (by simp) (.string ⟨#[]⟩)) (p := ⟨w.heap.size, 2, none⟩) (by simp) (.int .i64 0)) 0 (.int .i64 45)) 1 (.int .i64 (p : Int))) Tryd.underlying26 rfl (info26 _ _)) rfl ?_
                refine ⟨by rw [HTK.out]; rfl, ((((HR.out.2.2.setCell (p := ⟨w.heap.size, 0, none⟩) (Nat.le_refl _) (.int .i64 0)).setCell (p := ⟨w.heap.size, 1, none⟩) (Nat.le_refl _) (.string ⟨#[]⟩)).setCell (p := ⟨w.heap.size, 2, none⟩) (Nat.le_refl _) (.int .i64 0)).setCell (p := ⟨w.heap.size + 1, 0, none⟩) (by simp) (.int .i64 45)).setCell (p := ⟨w.heap.size + 1, 1, none⟩) (by simp) (.int .i64 (p : Int))⟩
            · have d19 : decide ((19 : Int) < (q : Int) - (p : Int)) = false := decide_eq_false (by omega)
              have HQN := Lib.hid hqn
              clear hqn
              have hhd : isLetter ((s.data.toList.drop q).headD 0) = false := by rw [str_end s (by omega)]; rfl
              have hext : s.extract p q = ⟨((s.data.toList.drop p).takeWhile isDigit).toArray⟩ := by rw [HQN.out, ext_str, HND.out, (tw_take _).1]
              have htok : tokL (s.data.toList.drop p) = .word 3 ((s.data.toList.drop p).takeWhile isDigit) n := by
                have h1 := tok_num3 (c := c) (r := s.data.toList.drop (p + 1)) ⟨HC.out.2.1, HLT.out, HDG.out⟩
                rw [← HC.out.1, ← HND.out, ← (tw_take (f := isDigit) (s.data.toList.drop p)).2, ← HND.out, List.drop_drop, ← HQN.out] at h1
                rw [HC.out.1]; rw [HC.out.1] at h1
                exact h1 HZD.out h19 hhd
              have HTK := Lib.hid (And.intro hext htok)
              clear hext htok hhd
              clear h19
              rcases HSP.out with d1 | ⟨d1, q48⟩
              · go_wp2_with fail
                refine bodyPost_ret (results_cell_tmp_cell rfl _ _ w.heap.size (w.heap.size + 1) 31 26 #[(.int .i64 3), (.string (s.extract p q)), (.int .i64 (p : Int))] #[(.int .i64 0), (.int .i64 0)] (0, 0) (0, 0) _ _ rfl (show Blk _ w.heap.size 31 #[(.int .i64 3), (.string (s.extract p q)), (.int .i64 (p : Int))] from Blk.other (Blk.other (Blk.set (Blk.set (Blk.set HR.out.1 0 (.int .i64 3)) 1 (.string (s.extract p q))) 2 (.int .i64 (p : Int))) (p := ⟨w.heap.size + 1, 0, none⟩) (by simp) (.int .i64 0)) (p := ⟨w.heap.size + 1, 1, none⟩) (by simp) (.int .i64 0)) Tryd.underlying31 rfl (info31z _ _ _) rfl (show Blk _ (w.heap.size + 1) 26 #[(.int .i64 0), (.int .i64 0)] from Blk.set (Blk.set (Blk.other (Blk.other (Blk.other HR.out.2.1 (p := ⟨w.heap.size, 0, none⟩) (by simp) (.int .i64 3)) (p := ⟨w.heap.size, 1, none⟩) (by simp) (.string (s.extract p q))) (p := ⟨w.heap.size, 2, none⟩) (by simp) (.int .i64 (p : Int))) 0 (.int .i64 0)) 1 (.int .i64 0)) Tryd.underlying26 rfl (info26 _ _)) rfl ?_
                refine ⟨by rw [HTK.out.2]; unfold tokV; dsimp only; rw [← HTK.out.1, ← HQN.out]; rfl, ((((HR.out.2.2.setCell (p := ⟨w.heap.size, 0, none⟩) (Nat.le_refl _) (.int .i64 3)).setCell (p := ⟨w.heap.size, 1, none⟩) (Nat.le_refl _) (.string (s.extract p q))).setCell (p := ⟨w.heap.size, 2, none⟩) (Nat.le_refl _) (.int .i64 (p : Int))).setCell (p := ⟨w.heap.size + 1, 0, none⟩) (by simp) (.int .i64 0)).setCell (p := ⟨w.heap.size + 1, 1, none⟩) (by simp) (.int .i64 0)⟩
              · go_wp2_with fail
                refine bodyPost_ret (results_cell_tmp_cell rfl _ _ w.heap.size (w.heap.size + 1) 31 26 #[(.int .i64 3), (.string (s.extract p q)), (.int .i64 (p : Int))] #[(.int .i64 0), (.int .i64 0)] (0, 0) (0, 0) _ _ rfl (show Blk _ w.heap.size 31 #[(.int .i64 3), (.string (s.extract p q)), (.int .i64 (p : Int))] from Blk.other (Blk.other (Blk.set (Blk.set (Blk.set HR.out.1 0 (.int .i64 3)) 1 (.string (s.extract p q))) 2 (.int .i64 (p : Int))) (p := ⟨w.heap.size + 1, 0, none⟩) (by simp) (.int .i64 0)) (p := ⟨w.heap.size + 1, 1, none⟩) (by simp) (.int .i64 0)) Tryd.underlying31 rfl (info31z _ _ _) rfl (show Blk _ (w.heap.size + 1) 26 #[(.int .i64 0), (.int .i64 0)] from Blk.set (Blk.set (Blk.other (Blk.other (Blk.other HR.out.2.1 (p := ⟨w.heap.size, 0, none⟩) (by simp) (.int .i64 3)) (p := ⟨w.heap.size, 1, none⟩) (by simp) (.string (s.extract p q))) (p := ⟨w.heap.size, 2, none⟩) (by simp) (.int .i64 (p : Int))) 0 (.int .i64 0)) 1 (.int .i64 0)) Tryd.underlying26 rfl (info26 _ _)) rfl ?_
                refine ⟨by rw [HTK.out.2]; unfold tokV; dsimp only; rw [← HTK.out.1, ← HQN.out]; rfl, ((((HR.out.2.2.setCell (p := ⟨w.heap.size, 0, none⟩) (Nat.le_refl _) (.int .i64 3)).setCell (p := ⟨w.heap.size, 1, none⟩) (Nat.le_refl _) (.string (s.extract p q))).setCell (p := ⟨w.heap.size, 2, none⟩) (Nat.le_refl _) (.int .i64 (p : Int))).setCell (p := ⟨w.heap.size + 1, 0, none⟩) (by simp) (.int .i64 0)).setCell (p := ⟨w.heap.size + 1, 1, none⟩) (by simp) (.int .i64 0)⟩
    · have hdig : isDigit c = false := by simpa using hdig
      rw [hdig]
      have hq := eq39 c
      by_cases h39 : c = 39
      · rw [decide_eq_true h39] at hq
        have htok : tokL (s.data.toList.drop p) = quoTok (txtL (s.data.toList.drop (p + 1))) := by rw [HC.out.1, h39]; exact quo_tok _
        have HTK := Lib.hid htok
        clear htok hlet hdig
        go_wp2_with fail
        refine (quoted36 s p w0 hp hs).mono ?_
        rintro e w2 ⟨rfl, hb2⟩
        rw [← HTK.out]
        have HR2 := Lib.hid (And.intro (Blk.below HR.out.1 hb2 (Blk.lt HR.out.1)) (And.intro (Blk.below HR.out.2.1 hb2 (Blk.lt HR.out.2.1)) (Below.call HR.out.2.2 hb2)))
        have r0 : w2.cell? ⟨w.heap.size, 0, none⟩ = some (.int .i64 0) := Blk.cell HR2.out.1 0
        have r1 : w2.cell? ⟨w.heap.size, 1, none⟩ = some (.string ⟨#[]⟩) := Blk.cell HR2.out.1 1
        have r2 : w2.cell? ⟨w.heap.size, 2, none⟩ = some (.int .i64 0) := Blk.cell HR2.out.1 2
        have s0 := Blk.free HR2.out.1 0
        have s1 := Blk.free HR2.out.1 1
        have s2 := Blk.free HR2.out.1 2
        have g0 : w2.cell? ⟨w.heap.size + 1, 0, none⟩ = some (.int .i64 0) := Blk.cell HR2.out.2.1 0
        have g1 : w2.cell? ⟨w.heap.size + 1, 1, none⟩ = some (.int .i64 0) := Blk.cell HR2.out.2.1 1
        have z0 := Blk.free HR2.out.2.1 0
        have z1 := Blk.free HR2.out.2.1 1
        clear hb2
        have hnbt : ∃ k t n, tokL (s.data.toList.drop p) = .word k t n ∨ ∃ e o, tokL (s.data.toList.drop p) = .bad e o := by
          cases ht : tokL (s.data.toList.drop p) with
          | blank =>
            rw [HC.out.1] at ht
            have := tok_blank ht
            rw [HC.out.2.1] at this; cases this
          | word k t n => exact ⟨k, t, n, .inl rfl⟩
          | bad e o => exact ⟨0, [], 0, .inr ⟨e, o, rfl⟩⟩
        obtain ⟨tk, htk⟩ : ∃ tk, tk = tokL (s.data.toList.drop p) := ⟨_, rfl⟩
        rw [← htk] at hnbt
        try rw [← htk]
        have HK := Lib.hid htk
        clear htk
        cases tk with
        | blank => obtain ⟨k, t, n, e | ⟨e, o, e2⟩⟩ := hnbt; cases e; cases e2
        | word k t n =>
          dsimp only [tokV]
          obtain ⟨pn, hpn⟩ : ∃ pn, pn = p + n := ⟨_, rfl⟩
          rw [← hpn]
          have HPN := Lib.hid hpn
          clear hpn
          go_wp2_with fail
          refine bodyPost_ret (results_cell_tmp_cell rfl _ _ w.heap.size (w.heap.size + 1) 31 26 #[(.int .i64 k), (.string ⟨t.toArray⟩), (.int .i64 (p : Int))] #[(.int .i64 0), (.int .i64 0)] (0, 0) (0, 0) _ _ rfl (show Blk _ w.heap.size 31 #[(.int .i64 k), (.string ⟨t.toArray⟩), (.int .i64 (p : Int))] from Blk.other (Blk.other (Blk.set (Blk.set (Blk.set HR2.out.1 0 (.int .i64 k)) 1 (.string ⟨t.toArray⟩)) 2 (.int .i64 (p : Int))) (p := ⟨w.heap.size + 1, 0, none⟩) (by simp) (.int .i64 0)) (p := ⟨w.heap.size + 1, 1, none⟩) (by simp) (.int .i64 0)) Tryd.underlying31 rfl (info31z _ _ _) rfl (show Blk _ (w.heap.size + 1) 26 #[(.int .i64 0), (.int .i64 0)] from Blk.set (Blk.set (Blk.other (Blk.other (Blk.other HR2.out.2.1 (p := ⟨w.heap.size, 0, none⟩) (by simp) (.int .i64 k)) (p := ⟨w.heap.size, 1, none⟩) (by simp) (.string ⟨t.toArray⟩)) (p := ⟨w.heap.size, 2, none⟩) (by simp) (.int .i64 (p : Int))) 0 (.int .i64 0)) 1 (.int .i64 0)) Tryd.underlying26 rfl (info26 _ _)) rfl ?_
          refine ⟨by rw [← HK.out]; unfold tokV; dsimp only; rw [← HPN.out]; rfl, ((((HR2.out.2.2.setCell (p := ⟨w.heap.size, 0, none⟩) (Nat.le_refl _) (.int .i64 k)).setCell (p := ⟨w.heap.size, 1, none⟩) (Nat.le_refl _) (.string ⟨t.toArray⟩)).setCell (p := ⟨w.heap.size, 2, none⟩) (Nat.le_refl _) (.int .i64 (p : Int))).setCell (p := ⟨w.heap.size + 1, 0, none⟩) (by simp) (.int .i64 0)).setCell (p := ⟨w.heap.size + 1, 1, none⟩) (by simp) (.int .i64 0)⟩
        | bad e o =>
          dsimp only [tokV]
          obtain ⟨pn, hpn⟩ : ∃ pn, pn = p + o := ⟨_, rfl⟩
          rw [← hpn]
          have HPN := Lib.hid hpn
          clear hpn
          go_wp2_with fail
          refine bodyPost_ret (results_cell_tmp_cell rfl _ _ w.heap.size (w.heap.size + 1) 31 26 #[(.int .i64 0), (.string ⟨#[]⟩), (.int .i64 0)] #[(.int .i64 e), (.int .i64 (pn : Int))] (0, 0) (0, 0) _ _ rfl (show Blk _ w.heap.size 31 #[(.int .i64 0), (.string ⟨#[]⟩), (.int .i64 0)] from Blk.other (Blk.other (Blk.set (Blk.set (Blk.set HR2.out.1 0 (.int .i64 0)) 1 (.string ⟨#[]⟩)) 2 (.int .i64 0)) (p := ⟨w.heap.size + 1, 0, none⟩) (by simp) (.int .i64 e)) (p := ⟨w.heap.size + 1, 1, none⟩) (by simp) (.int .i64 (pn : Int))) Tryd.underlying31 rfl (info31z _ _ _) rfl (show Blk _ (w.heap.size + 1) 26 #[(.int .i64 e), (.int .i64 (pn : Int))] from Blk.set (Blk.set (Blk.other (Blk.other (Blk.other HR2.out.2.1 (p := ⟨w.heap.size, 0, none⟩) (by simp) (.int .i64 0)) (p := ⟨w.heap.size, 1, none⟩) (by simp) (.string ⟨#[]⟩)) (p := ⟨w.heap.size, 2, none⟩) (by simp) (.int .i64 0)) 0 (.int .i64 e)) 1 (.int .i64 (pn : Int))) Tryd.underlying26 rfl (info26 _ _)) rfl ?_
          refine ⟨by rw [← HK.out]; unfold tokV; dsimp only; rw [← HPN.out]; rfl, ((((HR2.out.2.2.setCell (p := ⟨w.heap.size, 0, none⟩) (Nat.le_refl _) (.int .i64 0)).setCell (p := ⟨w.heap.size, 1, none⟩) (Nat.le_refl _) (.string ⟨#[]⟩)).setCell (p := ⟨w.heap.size, 2, none⟩) (Nat.le_refl _) (.int .i64 0)).setCell (p := ⟨w.heap.size + 1, 0, none⟩) (by simp) (.int .i64 e)).setCell (p := ⟨w.heap.size + 1, 1, none⟩) (by simp) (.int .i64 (pn : Int))⟩
      · rw [decide_eq_false h39] at hq
        have hfour : isBlank c = false ∧ isLetter c = false ∧ isDigit c = false ∧ c ≠ 39 := ⟨HC.out.2.1, hlet, hdig, h39⟩
        have HF := Lib.hid hfour
        clear hfour hlet hdig h39
        go_wp2_with fail
        change Code.wp Tryd.prog _ _ _ (w0.alloc (.cells signsC 9))
        have hb1 : Below w0.heap.size w0 (w0.alloc (.cells signsC 9)) := (Below.refl w0.heap.size w0).alloc (Nat.le_refl _) _
        have hb0 : w.heap.size + 2 ≤ w0.heap.size := by have := Blk.lt HR.out.2.1; omega
        have hn1 := Blk.new w0 9 signsC
        obtain ⟨w1, hw1⟩ : ∃ w1, w1 = w0.alloc (.cells signsC 9) := ⟨_, rfl⟩
        rw [← hw1] at hb1 hn1 ⊢
        obtain ⟨g, hg⟩ : ∃ g, g = w0.heap.size := ⟨_, rfl⟩
        rw [← hg] at hn1 hb0 ⊢
        have HR1 := Lib.hid (And.intro (by rw [hw1]; exact HR.out.1.alloc _) (And.intro (by rw [hw1]; exact HR.out.2.1.alloc _) (And.intro (by rw [hw1]; exact HR.out.2.2.alloc (by omega) _) hn1)) : Blk w1 w.heap.size 31 #[.int .i64 0, .string ⟨#[]⟩, .int .i64 0] ∧ Blk w1 (w.heap.size + 1) 26 #[.int .i64 0, .int .i64 0] ∧ Below w.heap.size w w1 ∧ Blk w1 g 9 signsC)
        clear hb1 hb0 hn1 hw1 hg HW0
        go_loopw [12, 13] (fun x _ wr => ∃ i nn : Nat, i ≤ 11 ∧ x = .int .i64 i ∧ (∀ j, j < i → starts j (s.data.toList.drop p) = false) ∧ wr = w1.drewN nn) (fun x _ _ => 11 - (intOf x).toNat)
        case atStart => exact ⟨0, 0, by omega, rfl, fun j hj => by omega, by first | rfl | simp⟩
        case round =>
          obtain ⟨i, nn, hi, rfl, hno, rfl⟩ := hrel
          by_cases hlt : i < 11
          · have hd : decide ((i : Int) < 11) = true := decide_eq_true (by omega)
            obtain ⟨K, hK⟩ : ∃ K, K = signsB.getD i ByteArray.empty := ⟨_, rfl⟩
            have hc : w1.cell? ⟨g, i, none⟩ = some (.string K) := by rw [Blk.cell HR1.out.2.2.2 i, signsB_at i hlt, hK]
            have hKs : K.size ≤ 2 := by rw [hK]; exact signsB_size i hlt
            have hst := starts_ext s p i hlt
            rw [← hK] at hst
            have HN := Lib.hid (And.intro hno hK)
            clear hno hK
            by_cases hfit : p + K.size ≤ s.size
            · have hdf : decide ((p : Int) + (K.size : Int) ≤ (s.size : Int)) = true := decide_eq_true (by omega)
              have he := strEq (s.extract p (p + K.size)) K
              by_cases hKT : s.extract p (p + K.size) = K
              · rw [decide_eq_true hKT] at he
                rw [decide_eq_true hKT, decide_eq_true hfit] at hst
                have HST := Lib.hid hst
                clear hst hKT
                have htok : tokL (s.data.toList.drop p) = .word 5 (signsL.getD i []) (signsL.getD i []).length := by
                  have h1 := sign_hit (c := c) (r := s.data.toList.drop (p + 1)) HF.out hlt
                  rw [← HC.out.1] at h1
                  exact h1 HST.out HN.out.1
                have hKl : signsL.getD i [] = K.data.toList := by rw [HN.out.2]; exact (signsB_list i hlt).symm
                rw [hKl, str_len] at htok
                have HTK := Lib.hid htok
                clear htok hKl
                go_wp2_with fail
                go_quiet (fail)
                have HRQ := Lib.hid (And.intro (HR1.out.1) (And.intro (HR1.out.2.1) (Below.drewN HR1.out.2.2.1 (nn + nq))) : Blk (w1.drewN (nn + nq)) w.heap.size 31 #[.int .i64 0, .string ⟨#[]⟩, .int .i64 0] ∧ Blk (w1.drewN (nn + nq)) (w.heap.size + 1) 26 #[.int .i64 0, .int .i64 0] ∧ Below w.heap.size w (w1.drewN (nn + nq)))
                have r0 : w1.cell? ⟨w.heap.size, 0, none⟩ = some (.int .i64 0) := Blk.cell HR1.out.1 0
                have r1 : w1.cell? ⟨w.heap.size, 1, none⟩ = some (.string ⟨#[]⟩) := Blk.cell HR1.out.1 1
                have r2 : w1.cell? ⟨w.heap.size, 2, none⟩ = some (.int .i64 0) := Blk.cell HR1.out.1 2
                have s0 := Blk.free HR1.out.1 0
                have s1 := Blk.free HR1.out.1 1
                have s2 := Blk.free HR1.out.1 2
                have g0 : w1.cell? ⟨w.heap.size + 1, 0, none⟩ = some (.int .i64 0) := Blk.cell HR1.out.2.1 0
                have g1 : w1.cell? ⟨w.heap.size + 1, 1, none⟩ = some (.int .i64 0) := Blk.cell HR1.out.2.1 1
                have z0 := Blk.free HR1.out.2.1 0
                have z1 := Blk.free HR1.out.2.1 1
                obtain ⟨pk, hpk⟩ : ∃ pk : Nat, pk = p + K.size := ⟨_, rfl⟩
                go_wp2_with fail
                first | rw [Exit.noGoto_ret] | skip
                refine bodyPost_ret (results_cell_tmp_cell rfl _ _ w.heap.size (w.heap.size + 1) 31 26 #[(.int .i64 5), (.string K), (.int .i64 (p : Int))] #[(.int .i64 0), (.int .i64 0)] (0, 0) (0, 0) _ _ rfl (show Blk _ w.heap.size 31 #[(.int .i64 5), (.string K), (.int .i64 (p : Int))] from Blk.other (Blk.other (Blk.set (Blk.set (Blk.set HRQ.out.1 0 (.int .i64 5)) 1 (.string K)) 2 (.int .i64 (p : Int))) (p := ⟨w.heap.size + 1, 0, none⟩) (by simp) (.int .i64 0)) (p := ⟨w.heap.size + 1, 1, none⟩) (by simp) (.int .i64 0)) Tryd.underlying31 rfl (info31z _ _ _) rfl (show Blk _ (w.heap.size + 1) 26 #[(.int .i64 0), (.int .i64 0)] from Blk.set (Blk.set (Blk.other (Blk.other (Blk.other HRQ.out.2.1 (p := ⟨w.heap.size, 0, none⟩) (by simp) (.int .i64 5)) (p := ⟨w.heap.size, 1, none⟩) (by simp) (.string K)) (p := ⟨w.heap.size, 2, none⟩) (by simp) (.int .i64 (p : Int))) 0 (.int .i64 0)) 1 (.int .i64 0)) Tryd.underlying26 rfl (info26 _ _)) rfl ?_
                refine ⟨by rw [HTK.out]; unfold tokV; dsimp only; rfl, ((((HRQ.out.2.2.setCell (p := ⟨w.heap.size, 0, none⟩) (Nat.le_refl _) (.int .i64 5)).setCell (p := ⟨w.heap.size, 1, none⟩) (Nat.le_refl _) (.string K)).setCell (p := ⟨w.heap.size, 2, none⟩) (Nat.le_refl _) (.int .i64 (p : Int))).setCell (p := ⟨w.heap.size + 1, 0, none⟩) (by simp) (.int .i64 0)).setCell (p := ⟨w.heap.size + 1, 1, none⟩) (by simp) (.int .i64 0)⟩
              · rw [decide_eq_false hKT] at he
                rw [decide_eq_false hKT, decide_eq_true hfit] at hst
                have HST := Lib.hid hst
                clear hst hKT
                go_wp2_with fail
                go_quiet (fail)
                go_wp2_with fail
                go_roundw
                case rel =>
                  refine ⟨i + 1, nn + nq, by omega, by go_num, fun j hj => ?_, by first | rfl | trivial⟩
                  by_cases hji : j = i
                  · rw [hji]; have := HST.out; simpa using this
                  · exact HN.out.1 j (by omega)
                case measure => simp [intOf]; omega
            · have hdf : decide ((p : Int) + (K.size : Int) ≤ (s.size : Int)) = false := decide_eq_false (by omega)
              rw [decide_eq_false hfit] at hst
              have HST := Lib.hid hst
              clear hst
              go_wp2_with fail
              go_quiet (fail)
              go_wp2_with fail
              go_roundw
              case rel =>
                refine ⟨i + 1, nn + nq, by omega, by go_num, fun j hj => ?_, by first | rfl | trivial⟩
                by_cases hji : j = i
                · rw [hji]; have := HST.out; simpa using this
                · exact HN.out.1 j (by omega)
              case measure => simp [intOf]; omega
          · have hi11 : i = 11 := by omega
            subst hi11
            have hd : decide ((11 : Int) < 11) = false := by decide
            have htok : tokL (s.data.toList.drop p) = .bad 40 0 := by
              have h1 := sign_none (c := c) (r := s.data.toList.drop (p + 1)) HF.out
              rw [← HC.out.1] at h1
              exact h1 hno
            have HTK := Lib.hid htok
            clear htok hno
            have HRQ := Lib.hid (And.intro (HR1.out.1) (And.intro (HR1.out.2.1) (Below.drewN HR1.out.2.2.1 nn)) : Blk (w1.drewN nn) w.heap.size 31 #[.int .i64 0, .string ⟨#[]⟩, .int .i64 0] ∧ Blk (w1.drewN nn) (w.heap.size + 1) 26 #[.int .i64 0, .int .i64 0] ∧ Below w.heap.size w (w1.drewN nn))
            have r0 : (w1.drewN nn).cell? ⟨w.heap.size, 0, none⟩ = some (.int .i64 0) := Blk.cell HRQ.out.1 0
            have r1 : (w1.drewN nn).cell? ⟨w.heap.size, 1, none⟩ = some (.string ⟨#[]⟩) := Blk.cell HRQ.out.1 1
            have r2 : (w1.drewN nn).cell? ⟨w.heap.size, 2, none⟩ = some (.int .i64 0) := Blk.cell HRQ.out.1 2
            have s0 := Blk.free HRQ.out.1 0
            have s1 := Blk.free HRQ.out.1 1
            have s2 := Blk.free HRQ.out.1 2
            have g0 : (w1.drewN nn).cell? ⟨w.heap.size + 1, 0, none⟩ = some (.int .i64 0) := Blk.cell HRQ.out.2.1 0
            have g1 : (w1.drewN nn).cell? ⟨w.heap.size + 1, 1, none⟩ = some (.int .i64 0) := Blk.cell HRQ.out.2.1 1
            have z0 := Blk.free HRQ.out.2.1 0
            have z1 := Blk.free HRQ.out.2.1 1
            go_wp2_with fail
            refine bodyPost_ret (results_cell_tmp_cell rfl _ _ w.heap.size (w.heap.size + 1) 31 26 #[(.int .i64 0), (.string ⟨#[]⟩), (.int .i64 0)] #[(.int .i64 40), (.int .i64 (p : Int))] (0, 0) (0, 0) _ _ rfl (show Blk _ w.heap.size 31 #[(.int .i64 0), (.string ⟨#[]⟩), (.int .i64 0)] from Blk.other (Blk.other (Blk.set (Blk.set (Blk.set HRQ.out.1 0 (.int .i64 0)) 1 (.string ⟨#[]⟩)) 2 (.int .i64 0)) (p := ⟨w.heap.size + 1, 0, none⟩) (by simp) (.int .i64 40)) (p := ⟨w.heap.size + 1, 1, none⟩) (by simp) (.int .i64 (p : Int))) Tryd.underlying31 rfl (info31z _ _ _) rfl (show Blk _ (w.heap.size + 1) 26 #[(.int .i64 40), (.int .i64 (p : Int))] from Blk.set (Blk.set (Blk.other (Blk.other (Blk.other HRQ.out.2.1 (p := ⟨w.heap.size, 0, none⟩) (by simp) (.int .i64 0)) (p := ⟨w.heap.size, 1, none⟩) (by simp) (.string ⟨#[]⟩)) (p := ⟨w.heap.size, 2, none⟩) (by simp) (.int .i64 0)) 0 (.int .i64 40)) 1 (.int .i64 (p : Int))) Tryd.underlying26 rfl (info26 _ _)) rfl ?_
            refine ⟨by rw [HTK.out]; rfl, ((((HRQ.out.2.2.setCell (p := ⟨w.heap.size, 0, none⟩) (Nat.le_refl _) (.int .i64 0)).setCell (p := ⟨w.heap.size, 1, none⟩) (Nat.le_refl _) (.string ⟨#[]⟩)).setCell (p := ⟨w.heap.size, 2, none⟩) (Nat.le_refl _) (.int .i64 0)).setCell (p := ⟨w.heap.size + 1, 0, none⟩) (by simp) (.int .i64 40)).setCell (p := ⟨w.heap.size + 1, 1, none⟩) (by simp) (.int .i64 (p : Int))⟩
end Go.Proofs.YtofjifhnkcghpaaDoor
