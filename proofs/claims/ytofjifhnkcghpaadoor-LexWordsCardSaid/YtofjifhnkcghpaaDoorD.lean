/- The laws on words, plainly. -/
import Derived.Test.YtofjifhnkcghpaaDoorC
namespace Go.Proofs.YtofjifhnkcghpaaDoor
set_option linter.unusedVariables false
set_option linter.unusedSimpArgs false
set_option maxRecDepth 100000
theorem tok_blank {c : UInt8} {r : List UInt8} (h : tokL (c :: r) = .blank) : isBlank c = true := by
  simp only [tokL] at h
  split at h
  · assumption
  · repeat' split at h
    all_goals cases h
theorem blank_tok {c : UInt8} {r : List UInt8} (h : isBlank c = true) : tokL (c :: r) = .blank := by
  simp only [tokL]; rw [if_pos h]
theorem lexL_cases {p : Nat} {r : List UInt8} {ws : List Wd} (h : lexL p r = .ok ws) : (r = [] ∧ ws = [⟨6, [], p⟩]) ∨ (∃ c r', r = c :: r' ∧ isBlank c = true ∧ lexL (p + 1) r' = .ok ws) ∨
    (∃ c r' k t n ws', r = c :: r' ∧ tokL (c :: r') = .word k t n ∧ ws = ⟨k, t, p⟩ :: ws' ∧ lexL (p + n) (r.drop n) = .ok ws') := by
  cases r with
  | nil => rw [lexL_nil] at h; injection h with h; exact .inl ⟨rfl, h.symm⟩
  | cons c r =>
    cases ht : tokL (c :: r) with
    | blank => rw [lexL_blank ht] at h; exact .inr (.inl ⟨c, r, rfl, tok_blank ht, h⟩)
    | bad e o => rw [lexL_bad ht] at h; cases h
    | word k t n =>
      rw [lexL_word ht] at h
      cases hr : lexL (p + n) ((c :: r).drop n) with
      | error e => rw [hr] at h; cases h
      | ok ws' => rw [hr] at h; injection h with h; exact .inr (.inr ⟨c, r, k, t, n, ws', rfl, ht, h.symm, hr⟩)
/-- by the text's length -/
theorem lex_ind {Q : Nat → List UInt8 → List Wd → Prop} (h0 : ∀ p, Q p [] [⟨6, [], p⟩]) (h1 : ∀ p c r ws, isBlank c = true → lexL (p + 1) r = .ok ws → Q (p + 1) r ws → Q p (c :: r) ws)
    (h2 : ∀ p c r k t n ws, tokL (c :: r) = .word k t n → lexL (p + n) ((c :: r).drop n) = .ok ws → Q (p + n) ((c :: r).drop n) ws → Q p (c :: r) (⟨k, t, p⟩ :: ws)) :
    ∀ (p : Nat) (r : List UInt8) (ws : List Wd), lexL p r = .ok ws → Q p r ws := by
  have key : ∀ (m : Nat) (r : List UInt8), r.length ≤ m → ∀ p ws, lexL p r = .ok ws → Q p r ws := by
    intro m
    induction m with
    | zero =>
      intro r hm p ws h
      have : r = [] := List.eq_nil_of_length_eq_zero (by omega)
      subst this
      rw [lexL_nil] at h; injection h with h; subst h; exact h0 p
    | succ m ih =>
      intro r hm p ws h
      rcases lexL_cases h with ⟨rfl, rfl⟩ | ⟨c, r', rfl, hb, hl⟩ | ⟨c, r', k, t, n, ws', rfl, ht, rfl, hl⟩
      · exact h0 p
      · exact h1 p c r' ws hb hl (ih r' (by simp at hm; omega) _ _ hl)
      · have hn := tokL_pos ht
        exact h2 p c r' k t n ws' ht hl (ih _ (by rw [List.length_drop]; simp at hm ⊢; omega) _ _ hl)
  exact fun p r ws h => key r.length r (Nat.le_refl _) p ws h
theorem lexL_err : ∀ (r : List UInt8) (p : Nat) {e : Int} {o : Nat}, lexL p r = .error (e, o) → o ≤ p + r.length ∧ (e = 40 ∨ e = 45) := by
  have key : ∀ (m : Nat) (r : List UInt8), r.length ≤ m → ∀ (p : Nat) {e : Int} {o : Nat}, lexL p r = .error (e, o) → o ≤ p + r.length ∧ (e = 40 ∨ e = 45) := by
    intro m
    induction m with
    | zero =>
      intro r hm p e o h
      have : r = [] := List.eq_nil_of_length_eq_zero (by omega)
      subst this
      rw [lexL_nil] at h; cases h
    | succ m ih =>
      intro r hm p e o h
      cases r with
      | nil => rw [lexL_nil] at h; cases h
      | cons c r =>
        simp only [List.length_cons] at hm
        cases ht : tokL (c :: r) with
        | blank =>
          rw [lexL_blank ht] at h
          have := ih r (by omega) _ h
          simp only [List.length_cons]
          exact ⟨by omega, this.2⟩
        | bad e' o' =>
          rw [lexL_bad ht] at h
          injection h with h
          injection h with h1 h2
          subst h1 h2
          have := tokL_bad_le ht
          exact ⟨by omega, this.2⟩
        | word k t n =>
          have hn := tokL_pos ht
          have hn2 := tokL_le ht
          rw [lexL_word ht] at h
          cases hr : lexL (p + n) ((c :: r).drop n) with
          | ok ws' => rw [hr] at h; cases h
          | error q =>
            rw [hr] at h
            injection h with h
            subst h
            have hd : ((c :: r).drop n).length = r.length + 1 - n := by rw [List.length_drop, List.length_cons]
            have := ih _ (by omega) _ hr
            simp only [List.length_cons] at hn2 ⊢
            exact ⟨by omega, this.2⟩
  exact fun r p e o h => key r.length r (Nat.le_refl _) p h
theorem place_ge {p : Nat} {r : List UInt8} {ws : List Wd} (h : lexL p r = .ok ws) : ∃ w ws', ws = w :: ws' ∧ p ≤ w.place := by
  refine lex_ind (Q := fun p r ws => ∃ w ws', ws = w :: ws' ∧ p ≤ w.place) ?_ ?_ ?_ p r ws h
  · intro p; exact ⟨_, _, rfl, Nat.le_refl _⟩
  · rintro p c r ws - - ⟨w, ws', e, h⟩; exact ⟨w, ws', e, by omega⟩
  · intro p c r k t n ws _ _ _; exact ⟨_, _, rfl, Nat.le_refl _⟩
/-- how many words there are, and of which kinds; each is formed, but for the last, which is the end -/
theorem lex_forms {p : Nat} {r : List UInt8} {ws : List Wd} (h : lexL p r = .ok ws) : ws.length ≤ r.length + 1 ∧ 1 ≤ ws.length ∧ (∀ i, i + 1 < ws.length → ∃ x w, ws[i]? = some w ∧ Formed w.kind w.text x ∧ x.length ≤ r.length) ∧ ws[ws.length - 1]? = some ⟨6, [], p + r.length⟩ := by
  refine lex_ind (Q := fun p r ws => ws.length ≤ r.length + 1 ∧ 1 ≤ ws.length ∧ (∀ i, i + 1 < ws.length → ∃ x w, ws[i]? = some w ∧ Formed w.kind w.text x ∧ x.length ≤ r.length) ∧ ws[ws.length - 1]? = some ⟨6, [], p + r.length⟩) ?_ ?_ ?_ p r ws h
  · intro p; exact ⟨by simp, by simp, fun i hi => by simp at hi, by simp⟩
  · rintro p c r ws - - ⟨h1, h2, h3, h4⟩
    refine ⟨by simp; omega, h2, fun i hi => ?_, by rw [h4, List.length_cons, show p + 1 + r.length = p + (r.length + 1) by omega]⟩
    obtain ⟨x, w, e1, e2, e3⟩ := h3 i hi
    exact ⟨x, w, e1, e2, by simp; omega⟩
  · rintro p c r k t n ws ht hl ⟨h1, h2, h3, h4⟩
    have hn := tokL_pos ht
    have hn2 := tokL_le ht
    have hd : ((c :: r).drop n).length = r.length + 1 - n := by rw [List.length_drop, List.length_cons]
    simp only [List.length_cons] at hn2 h1 ⊢
    refine ⟨by omega, by omega, fun i hi => ?_, ?_⟩
    · cases i with
      | zero => exact ⟨_, _, rfl, (tok_form ht).1, by rw [List.length_take]; simp; omega⟩
      | succ i =>
        obtain ⟨x, w, e1, e2, e3⟩ := h3 i (by omega)
        exact ⟨x, w, by simpa using e1, e2, by omega⟩
    · have : ws.length + 1 - 1 = (ws.length - 1) + 1 := by omega
      rw [this, List.getElem?_cons_succ, h4, hd]
      congr 2; omega
/-! ### in quotes -/
theorem quote_lex (s : List UInt8) : lexL 0 (quoteL s) = if 64 < s.length then .error (45, 0) else .ok [⟨4, s, 0⟩, ⟨6, [], (quoteL s).length⟩] := by
  by_cases h : 64 < s.length
  · rw [if_pos h]
    have hq := txtL_of s [] (by decide)
    have ht : tokL (39 :: (quoteB s ++ [39])) = .bad 45 0 := by
      simp only [tokL, hq, show isBlank 39 = false from by decide, show isLetter 39 = false from by decide, show isDigit 39 = false from by decide]
      rw [if_neg (by simp), if_neg (by simp), if_neg (by simp), if_pos trivial, if_pos h]
    exact lexL_bad ht
  · rw [if_neg h]
    have ht := tok_of (k := 4) (t := s) (x := quoteL s) (y := []) (.inr (.inr (.inr (.inl ⟨rfl, rfl, by omega⟩)))) (blank_bound (.inl rfl))
    rw [List.append_nil] at ht
    have ht2 : tokL (39 :: (quoteB s ++ [39])) = .word 4 s (quoteL s).length := ht
    have := lexL_word (p := 0) ht2
    show lexL 0 (39 :: (quoteB s ++ [39])) = _
    rw [this, show (39 :: (quoteB s ++ [39]) : List UInt8) = quoteL s from rfl, List.drop_length, lexL_nil, Nat.zero_add]
    rfl
/-! ### written again, with other blanks between -/
section
variable (pad : Nat → List UInt8)
def spreadS : Nat → List Wd → List UInt8
  | _, [] => []
  | i, w :: ws => if ws = [] then [] else pad i ++ (writtenL w.kind w.text ++ spreadS (i + 1) ws)
def newW : Nat → Nat → List Wd → List Wd
  | _, _, [] => []
  | p, i, w :: ws => if ws = [] then [⟨6, [], p⟩] else ⟨w.kind, w.text, p + (pad i).length⟩ :: newW (p + (pad i).length + (writtenL w.kind w.text).length) (i + 1) ws
def spreadTo (ws : List Wd) : Nat → List UInt8
  | 0 => []
  | i + 1 => spreadTo ws i ++ (pad i ++ writtenL (ws.getD i ⟨0, [], 0⟩).kind (ws.getD i ⟨0, [], 0⟩).text)
theorem spread_two (ws : List Wd) : ∀ i, i + 1 ≤ ws.length → spreadTo pad ws i ++ spreadS pad i (ws.drop i) = spreadS pad 0 ws
  | 0, _ => by simp [spreadTo]
  | i + 1, h => by
    have ih := spread_two ws i (by omega)
    rw [← ih]
    have hi : i < ws.length := by omega
    rw [List.drop_eq_getElem_cons hi]
    have hne : ws.drop (i + 1) ≠ [] := by intro e; have := congrArg List.length e; simp at this; omega
    have hg : ws.getD i ⟨0, [], 0⟩ = ws[i] := by simp [List.getD_eq_getElem?_getD, hi]
    simp only [spreadS, spreadTo, hne, if_false, hg, List.append_assoc]
theorem lex_pad : ∀ (b : List UInt8) (p : Nat) (r : List UInt8), (∀ c ∈ b, isBlank c = true) → lexL p (b ++ r) = lexL (p + b.length) r
  | [], p, r, _ => rfl
  | c :: b, p, r, h => by
    have h1 : lexL p (c :: (b ++ r)) = lexL (p + 1) (b ++ r) := lexL_blank (blank_tok (h c (by simp)))
    rw [List.cons_append, h1, lex_pad b (p + 1) r (fun x hx => h x (by simp [hx]))]
    rw [List.length_cons, show p + 1 + b.length = p + (b.length + 1) by omega]
variable (hpad : ∀ i, pad i ≠ [] ∧ ∀ c ∈ pad i, isBlank c = true)
include hpad
theorem spread_head (i : Nat) (ws : List Wd) : spreadS pad i ws = [] ∨ isBlank ((spreadS pad i ws).headD 0) = true := by
  cases ws with
  | nil => exact .inl rfl
  | cons w ws =>
    by_cases h : ws = []
    · left; simp [spreadS, h]
    · right
      simp only [spreadS, h, if_false]
      cases hp : pad i with
      | nil => exact absurd hp (hpad i).1
      | cons c b => exact (hpad i).2 c (by rw [hp]; simp)
theorem spread_lex : ∀ (ws : List Wd) (p i : Nat), ws ≠ [] → (∀ j, j + 1 < ws.length → ∃ x w, ws[j]? = some w ∧ Formed w.kind w.text x) → lexL p (spreadS pad i ws) = .ok (newW pad p i ws)
  | [], p, i, h, _ => absurd rfl h
  | w :: ws, p, i, _, hf => by
    by_cases h : ws = []
    · subst h; simp [spreadS, newW, lexL_nil]
    · simp only [spreadS, newW, h, if_false]
      rw [lex_pad _ _ _ (hpad i).2]
      have hlen : 1 < (w :: ws).length := by
        cases ws with
        | nil => exact absurd rfl h
        | cons a b => simp
      obtain ⟨x, w', e, hx⟩ := hf 0 hlen
      simp at e
      subst e
      have hF := hx.again
      have ht := tok_of hF (blank_bound (k := w.kind) (x := writtenL w.kind w.text) (spread_head pad hpad (i + 1) ws))
      have hne : writtenL w.kind w.text ≠ [] := by
        intro e
        have e2 := hF.len
        rw [e] at hF
        rcases hF with ⟨_, _, _, h2, _⟩ | ⟨_, _, _, h2, _⟩ | ⟨_, _, _, h2, _⟩ | ⟨_, h2, _⟩ | ⟨_, _, h2⟩
        · exact absurd h2 (by decide)
        · exact absurd h2 (by decide)
        · exact absurd rfl h2
        · cases h2
        · rcases h2 with ⟨c, h2, _⟩ | ⟨c, d, h2, _⟩ <;> cases h2
      have ih := spread_lex ws (p + (pad i).length + (writtenL w.kind w.text).length) (i + 1) h (fun j hj => by
        obtain ⟨x, w', e1, e2⟩ := hf (j + 1) (by simp; omega)
        exact ⟨x, w', by simpa using e1, e2⟩)
      cases hc : writtenL w.kind w.text with
      | nil => exact absurd hc hne
      | cons c x' =>
        rw [hc] at ht ih
        rw [List.cons_append] at ht ⊢
        rw [lexL_word ht]
        have hd : (c :: (x' ++ spreadS pad (i + 1) ws)).drop (c :: x').length = spreadS pad (i + 1) ws := by
          rw [← List.cons_append, List.drop_left]
        rw [hd, ih]; rfl
omit hpad in
theorem newW_len : ∀ (ws : List Wd) (p i : Nat), (newW pad p i ws).length = ws.length
  | [], _, _ => rfl
  | w :: ws, p, i => by
    by_cases h : ws = []
    · subst h; simp [newW]
    · simp only [newW, h, if_false, List.length_cons, newW_len ws]
omit hpad in
theorem newW_at (ws0 : List Wd) : ∀ (ws : List Wd) (i : Nat), ws = ws0.drop i → i + 1 ≤ ws0.length → ∀ j, j < ws.length → (newW pad (spreadTo pad ws0 i).length i ws)[j]? = some (if j + 1 < ws.length then ⟨(ws0.getD (i + j) ⟨0, [], 0⟩).kind, (ws0.getD (i + j) ⟨0, [], 0⟩).text, (spreadTo pad ws0 (i + j)).length + (pad (i + j)).length⟩ else ⟨6, [], (spreadTo pad ws0 (i + j)).length⟩)
  | [], i, hw, h, j, hj => by simp at hj
  | w :: ws, i, hw, h, j, hj => by
    have hi : i < ws0.length := by omega
    rw [List.drop_eq_getElem_cons hi] at hw
    injection hw with hw1 hw2
    have hg : ws0.getD i ⟨0, [], 0⟩ = w := by rw [hw1]; simp [List.getD_eq_getElem?_getD, hi]
    by_cases hn : ws = []
    · have : j = 0 := by rw [hn] at hj; simp at hj; exact hj
      subst this
      simp [newW, hn]
    · have hl : 0 < ws.length := by cases ws; exact absurd rfl hn; simp
      have hl2 : ws.length = ws0.length - (i + 1) := by rw [hw2]; simp
      simp only [newW, hn, if_false]
      cases j with
      | zero => rw [List.getElem?_cons_zero, if_pos (by simp only [List.length_cons]; omega), Nat.add_zero, hg]
      | succ j =>
        have ih := newW_at ws0 ws (i + 1) hw2 (by omega) j (by simpa using hj)
        have e : (spreadTo pad ws0 (i + 1)).length = (spreadTo pad ws0 i).length + (pad i).length + (writtenL w.kind w.text).length := by
          simp only [spreadTo, hg, List.length_append]; omega
        rw [e, show i + 1 + j = i + (j + 1) by omega] at ih
        rw [List.getElem?_cons_succ, ih]
        simp
end
/-! ### keywords in other letters -/
def altGo : Bool → List UInt8 → List UInt8
  | _, [] => []
  | o, c :: r => (if o then c + 32 else c) :: altGo (!o) r
def altW (k : Int) (t : List UInt8) : List UInt8 := if k = 2 then altGo false t else writtenL k t
def caseW (text : List UInt8) : Nat → List Wd → List UInt8
  | _, [] => []
  | p, w :: ws => (text.drop p).take (w.place - p) ++ (altW w.kind w.text ++ caseW text (w.place + (altW w.kind w.text).length) ws)
theorem alt_kw : ∀ t ∈ kws, (altGo false t).map up = t ∧ (∀ b ∈ altGo false t, isW b = true) ∧ isLetter ((altGo false t).headD 0) = true := by decide
theorem alt_formed {k : Int} {t x : List UInt8} (h : Formed k t x) : Formed k t (altW k t) ∧ (altW k t).length = x.length ∧ ((altW k t).headD 0 = x.headD 0 ∨ (isLetter ((altW k t).headD 0) = true ∧ isLetter (x.headD 0) = true)) := by
  by_cases hk : k = 2
  · subst hk
    rcases h with ⟨e, _⟩ | ⟨-, rfl, h1, h2, h3⟩ | ⟨e, _⟩ | ⟨e, _⟩ | ⟨e, _⟩
    · omega
    · have hm : x.map up ∈ kws := by simpa [isKw] using h3
      obtain ⟨g1, g2, g3⟩ := alt_kw _ hm
      have e : altW 2 (x.map up) = altGo false (x.map up) := by simp [altW]
      rw [e]
      have hl := congrArg List.length g1
      simp only [List.length_map] at hl
      refine ⟨.inr (.inl ⟨rfl, g1, g2, g3, ?_⟩), hl, .inr ⟨g3, h2⟩⟩
      unfold isKw
      rw [g1]
      exact decide_eq_true hm
    · omega
    · omega
    · omega
  · have e : altW k t = x := by unfold altW; rw [if_neg hk]; exact h.same hk
    rw [e]
    exact ⟨h, rfl, .inl rfl⟩
theorem bound_compat {k : Int} {x x' y y' : List UInt8} (h : Bound k x y) (hf : Formed k x x ∨ True) (hx : x'.length = x.length) (hs : k = 5 → x' = x) (hy : y'.headD 0 = y.headD 0 ∨ (isLetter (y'.headD 0) = true ∧ isLetter (y.headD 0) = true)) : Bound k x' y' := by
  rcases hy with e | ⟨e1, e2⟩
  · refine ⟨fun hk => by rw [e]; exact h.1 hk, fun hk => by rw [e]; exact h.2.1 hk, fun hk hl => ?_⟩
    rw [two_head, e, ← two_head, hs hk]
    exact h.2.2 hk (by rw [← hx]; exact hl)
  · have key : ∀ c, isLetter c = true → isW c = true ∧ c ≠ 39 ∧ c ≠ 61 ∧ c ≠ 62 := u8all (by decide)
    obtain ⟨a1, a2, a3, a4⟩ := key _ e1
    refine ⟨fun hk => ?_, fun _ => a2, fun _ _ => ?_⟩
    · have := h.1 hk
      rw [isLetter_W e2] at this; cases this
    · simp only [two, beq_eq_false_iff_ne.2 a3, beq_eq_false_iff_ne.2 a4, Bool.or_self, Bool.and_false]
theorem case_lex (text : List UInt8) : ∀ (p : Nat) (r : List UInt8) (ws : List Wd), lexL p r = .ok ws → r = text.drop p → lexL p (caseW text p ws) = .ok ws ∧ ((caseW text p ws).headD 0 = r.headD 0 ∨ (isLetter ((caseW text p ws).headD 0) = true ∧ isLetter (r.headD 0) = true)) := by
  refine lex_ind ?_ ?_ ?_
  · intro p _
    have e : caseW text p [⟨6, [], p⟩] = [] := by simp [caseW, altW, writtenL]
    rw [e]
    exact ⟨rfl, .inl rfl⟩
  · intro p c r ws hb hl ih hr
    have hr' : r = text.drop (p + 1) := by
      rw [← List.drop_drop, ← hr]; rfl
    obtain ⟨i1, i2⟩ := ih hr'
    obtain ⟨w, ws', rfl, hge⟩ := place_ge hl
    have e : caseW text p (w :: ws') = c :: caseW text (p + 1) (w :: ws') := by
      have h1 : w.place - p = (w.place - (p + 1)) + 1 := by omega
      simp only [caseW]
      rw [← hr, ← hr', h1, List.take_succ_cons, List.cons_append]
    rw [e]
    exact ⟨by rw [lexL_blank (blank_tok hb)]; exact i1, .inl rfl⟩
  · intro p c r k t n ws ht hl ih hr
    have hn := tokL_pos ht
    have hn2 := tokL_le ht
    have hdr : (c :: r).drop n = text.drop (p + n) := by rw [hr, List.drop_drop]
    obtain ⟨i1, i2⟩ := ih hdr
    obtain ⟨hF, hB⟩ := tok_form ht
    obtain ⟨a1, a2, a3⟩ := alt_formed hF
    have hlen : ((c :: r).take n).length = n := by rw [List.length_take]; omega
    have e : caseW text p (⟨k, t, p⟩ :: ws) = altW k t ++ caseW text (p + n) ws := by
      simp only [caseW, Nat.sub_self, List.take_zero, List.nil_append, a2, hlen]
    rw [e]
    have hb2 : Bound k (altW k t) (caseW text (p + n) ws) := bound_compat hB (.inr trivial) a2 (fun hk => by
      have hk2 : k ≠ 2 := by omega
      unfold altW; rw [if_neg hk2]; exact hF.same hk2) i2
    have ht2 := tok_of a1 hb2
    rw [a2, hlen] at ht2
    have hx : ((c :: r).take n).headD 0 = c := by
      cases n with
      | zero => omega
      | succ n => rfl
    cases hc : altW k t with
    | nil => rw [hc] at a2; rw [hlen] at a2; simp at a2; omega
    | cons d x' =>
      rw [hc] at ht2 a2 a3
      rw [hx] at a3
      refine ⟨?_, ?_⟩
      · rw [List.cons_append] at ht2 ⊢
        rw [lexL_word ht2]
        have hd : (d :: (x' ++ caseW text (p + n) ws)).drop n = caseW text (p + n) ws := by
          rw [← List.cons_append, ← hlen, ← a2, List.drop_left]
        rw [hd, i1]; rfl
      · exact a3
end Go.Proofs.YtofjifhnkcghpaaDoor
