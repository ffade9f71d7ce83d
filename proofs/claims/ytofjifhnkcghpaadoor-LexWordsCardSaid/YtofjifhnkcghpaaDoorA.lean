/- The words of a text, plainly. -/
import Derived.Lib.MapLaws
import Derived.Lib.TrimAscii
namespace Go.Proofs.YtofjifhnkcghpaaDoor
set_option linter.unusedVariables false
set_option linter.unusedSimpArgs false
def isBlank (c : UInt8) : Bool := c == 32 || c == 9 || c == 10 || c == 13
def isLetter (c : UInt8) : Bool := (decide (97 ≤ c) && decide (c ≤ 122)) || (decide (65 ≤ c) && decide (c ≤ 90)) || c == 95
def isDigit (c : UInt8) : Bool := decide (48 ≤ c) && decide (c ≤ 57)
def isW (c : UInt8) : Bool := isLetter c || isDigit c
def isSign (c : UInt8) : Bool := c == 40 || c == 41 || c == 44 || c == 42 || c == 61 || c == 45 || c == 60 || c == 62
def up (c : UInt8) : UInt8 := if 97 ≤ c ∧ c ≤ 122 then c - 32 else c
/-- SELECT, FROM, WHERE, GROUP, BY, ROLLUP, CUBE, GROUPING, SETS, COUNT, SUM, MIN, MAX, AND, OR, NOT, IN -/
def kws : List (List UInt8) := [[83, 69, 76, 69, 67, 84], [70, 82, 79, 77], [87, 72, 69, 82, 69], [71, 82, 79, 85, 80], [66, 89], [82, 79, 76, 76, 85, 80], [67, 85, 66, 69], [71, 82, 79, 85, 80, 73, 78, 71], [83, 69, 84, 83], [67, 79, 85, 78, 84], [83, 85, 77], [77, 73, 78], [77, 65, 88], [65, 78, 68], [79, 82], [78, 79, 84], [73, 78]]
def isKw (t : List UInt8) : Bool := decide (t.map up ∈ kws)
def isName (t : List UInt8) : Bool := decide (t ≠ []) && decide (t.length ≤ 32) && isLetter (t.headD 0) && !isKw t && t.all isW
def quoteB : List UInt8 → List UInt8
  | [] => []
  | c :: r => if c = 39 then 39 :: 39 :: quoteB r else c :: quoteB r
def quoteL (t : List UInt8) : List UInt8 := 39 :: (quoteB t ++ [39])
/-- behind the opening quote: what it says, and how many bytes are taken, the closing quote too -/
def txtL : List UInt8 → Option (List UInt8 × Nat)
  | [] => none
  | c :: r => if c = 39 then (match r with
      | [] => some ([], 1)
      | d :: r' => if d = 39 then (txtL r').map (fun p => (39 :: p.1, p.2 + 2)) else some ([], 1))
    else (txtL r).map (fun p => (c :: p.1, p.2 + 1))
inductive Tok where
  | blank : Tok
  | word : Int → List UInt8 → Nat → Tok
  | bad : Int → Nat → Tok
def two (c : UInt8) (r : List UInt8) : Bool := (c == 60 && (r.headD 0 == 62 || r.headD 0 == 61)) || (c == 62 && r.headD 0 == 61)
def tokL : List UInt8 → Tok
  | [] => .bad 40 0
  | c :: r =>
    if isBlank c then .blank
    else if isLetter c then
      if isKw ((c :: r).takeWhile isW) then .word 2 (((c :: r).takeWhile isW).map up) ((c :: r).takeWhile isW).length
      else if 32 < ((c :: r).takeWhile isW).length then .bad 45 0
      else .word 1 ((c :: r).takeWhile isW) ((c :: r).takeWhile isW).length
    else if isDigit c then
      if 1 < ((c :: r).takeWhile isDigit).length ∧ c = 48 then .bad 40 0
      else if 19 < ((c :: r).takeWhile isDigit).length then .bad 45 0
      else if isLetter (((c :: r).dropWhile isDigit).headD 0) then .bad 40 ((c :: r).takeWhile isDigit).length
      else .word 3 ((c :: r).takeWhile isDigit) ((c :: r).takeWhile isDigit).length
    else if c = 39 then match txtL r with
      | none => .bad 40 0
      | some p => if 64 < p.1.length then .bad 45 0 else .word 4 p.1 (p.2 + 1)
    else if isSign c then if two c r then .word 5 [c, r.headD 0] 2 else .word 5 [c] 1
    else .bad 40 0
structure Wd where
  kind : Int
  text : List UInt8
  place : Nat
def lexGo : Nat → Nat → List UInt8 → Except (Int × Nat) (List Wd)
  | _, p, [] => .ok [⟨6, [], p⟩]
  | 0, _, _ :: _ => .ok []
  | f + 1, p, c :: r => match tokL (c :: r) with
    | .blank => lexGo f (p + 1) r
    | .word k t n => (lexGo f (p + n) ((c :: r).drop n)).map (⟨k, t, p⟩ :: ·)
    | .bad e o => .error (e, p + o)
def lexL (p : Nat) (r : List UInt8) : Except (Int × Nat) (List Wd) := lexGo r.length p r
theorem takeWhile_pos {c : UInt8} {r : List UInt8} {f : UInt8 → Bool} (h : f c = true) : 1 ≤ ((c :: r).takeWhile f).length := by
  rw [List.takeWhile_cons, if_pos h]; simp
theorem isLetter_W {c : UInt8} (h : isLetter c = true) : isW c = true := by simp [isW, h]
theorem isDigit_W {c : UInt8} (h : isDigit c = true) : isW c = true := by simp [isW, h]
theorem tokL_pos {c : UInt8} {r : List UInt8} {k : Int} {t : List UInt8} {n : Nat} (h : tokL (c :: r) = .word k t n) : 1 ≤ n := by
  simp only [tokL] at h
  split at h
  · cases h
  split at h
  · rename_i hl
    split at h
    · injection h with h1 h2 h3; subst h3; exact takeWhile_pos (isLetter_W hl)
    split at h
    · cases h
    · injection h with h1 h2 h3; subst h3; exact takeWhile_pos (isLetter_W hl)
  split at h
  · rename_i hd
    split at h
    · cases h
    split at h
    · cases h
    split at h
    · cases h
    · injection h with h1 h2 h3; subst h3; exact takeWhile_pos hd
  split at h
  · split at h
    · cases h
    · split at h
      · cases h
      · injection h with h1 h2 h3; omega
  split at h
  · split at h
    · injection h with h1 h2 h3; omega
    · injection h with h1 h2 h3; omega
  · cases h
theorem lexGo_fuel : ∀ (f p : Nat) (r : List UInt8), r.length ≤ f → lexGo f p r = lexL p r := by
  have key : ∀ (m f g p : Nat) (r : List UInt8), r.length ≤ m → r.length ≤ f → r.length ≤ g → lexGo f p r = lexGo g p r := by
    intro m
    induction m with
    | zero =>
      intro f g p r hm hf hg
      have : r = [] := List.eq_nil_of_length_eq_zero (by omega)
      subst this
      cases f <;> cases g <;> rfl
    | succ m ih =>
      intro f g p r hm hf hg
      cases r with
      | nil => cases f <;> cases g <;> rfl
      | cons c r =>
        simp only [List.length_cons] at hm hf hg
        obtain ⟨f, rfl⟩ : ∃ x, f = x + 1 := ⟨f - 1, by omega⟩
        obtain ⟨g, rfl⟩ : ∃ x, g = x + 1 := ⟨g - 1, by omega⟩
        simp only [lexGo]
        cases ht : tokL (c :: r) with
        | blank => exact ih f g _ _ (by omega) (by omega) (by omega)
        | bad e o => rfl
        | word k t n =>
          have hn := tokL_pos ht
          have : ((c :: r).drop n).length ≤ r.length := by rw [List.length_drop, List.length_cons]; omega
          simp only
          rw [ih f g _ _ (by omega) (by omega) (by omega)]
  intro f p r h
  exact key r.length f r.length p r (Nat.le_refl _) h (Nat.le_refl _)
theorem lexL_nil (p : Nat) : lexL p [] = .ok [⟨6, [], p⟩] := rfl
theorem lexL_blank {p : Nat} {c : UInt8} {r : List UInt8} (h : tokL (c :: r) = .blank) : lexL p (c :: r) = lexL (p + 1) r := by
  show lexGo (r.length + 1) p (c :: r) = _
  simp only [lexGo, h]
  exact lexGo_fuel _ _ _ (Nat.le_refl _)
theorem lexL_bad {p : Nat} {c : UInt8} {r : List UInt8} {e : Int} {o : Nat} (h : tokL (c :: r) = .bad e o) : lexL p (c :: r) = .error (e, p + o) := by
  show lexGo (r.length + 1) p (c :: r) = _
  simp only [lexGo, h]
theorem lexL_word {p : Nat} {c : UInt8} {r : List UInt8} {k : Int} {t : List UInt8} {n : Nat} (h : tokL (c :: r) = .word k t n) : lexL p (c :: r) = (lexL (p + n) ((c :: r).drop n)).map (⟨k, t, p⟩ :: ·) := by
  show lexGo (r.length + 1) p (c :: r) = _
  have hn := tokL_pos h
  simp only [lexGo, h]
  rw [lexGo_fuel _ _ _ (by rw [List.length_drop, List.length_cons]; omega)]
theorem txtL_le : ∀ (r : List UInt8) {t : List UInt8} {n : Nat}, txtL r = some (t, n) → 1 ≤ n ∧ n ≤ r.length ∧ t.length + 1 ≤ n := by
  have key : ∀ (m : Nat) (r : List UInt8), r.length ≤ m → ∀ {t : List UInt8} {n : Nat}, txtL r = some (t, n) → 1 ≤ n ∧ n ≤ r.length ∧ t.length + 1 ≤ n := by
    intro m
    induction m with
    | zero =>
      intro r hm t n h
      have : r = [] := List.eq_nil_of_length_eq_zero (by omega)
      subst this
      simp [txtL] at h
    | succ m ih =>
      intro r hm t n h
      cases r with
      | nil => simp [txtL] at h
      | cons c r =>
        simp only [List.length_cons] at hm ⊢
        rw [txtL.eq_def] at h
        dsimp only at h
        split at h
        · cases r with
          | nil => simp at h; obtain ⟨rfl, rfl⟩ := h; simp
          | cons d r' =>
            dsimp only at h
            split at h
            · rw [Option.map_eq_some_iff] at h
              obtain ⟨⟨t', n'⟩, h1, h2⟩ := h
              injection h2 with h3 h4
              subst h3 h4
              simp only [List.length_cons] at hm ⊢
              have := ih r' (by omega) h1
              omega
            · simp at h; obtain ⟨rfl, rfl⟩ := h; simp
        · rw [Option.map_eq_some_iff] at h
          obtain ⟨⟨t', n'⟩, h1, h2⟩ := h
          injection h2 with h3 h4
          subst h3 h4
          have := ih r (by omega) h1
          simp only [List.length_cons]
          omega
  exact fun r t n h => key r.length r (Nat.le_refl _) h
theorem tokL_le {c : UInt8} {r : List UInt8} {k : Int} {t : List UInt8} {n : Nat} (h : tokL (c :: r) = .word k t n) : n ≤ (c :: r).length := by
  have hw : ∀ f : UInt8 → Bool, ((c :: r).takeWhile f).length ≤ (c :: r).length := fun f => (List.takeWhile_sublist f).length_le
  simp only [tokL] at h
  split at h
  · cases h
  split at h
  · split at h
    · injection h with h1 h2 h3; subst h3; exact hw _
    split at h
    · cases h
    · injection h with h1 h2 h3; subst h3; exact hw _
  split at h
  · split at h
    · cases h
    split at h
    · cases h
    split at h
    · cases h
    · injection h with h1 h2 h3; subst h3; exact hw _
  split at h
  · split at h
    · cases h
    · rename_i p hp
      split at h
      · cases h
      · injection h with h1 h2 h3
        have := (txtL_le r (t := p.1) (n := p.2) hp).2.1
        simp only [List.length_cons]; omega
  split at h
  · split at h
    · rename_i h2
      injection h with h1 h3 h4
      cases r with
      | nil => simp [two] at h2
      | cons d r => simp; omega
    · injection h with h1 h2 h3; simp; omega
  · cases h
theorem tokL_bad_le {c : UInt8} {r : List UInt8} {e : Int} {o : Nat} (h : tokL (c :: r) = .bad e o) : o ≤ (c :: r).length ∧ (e = 40 ∨ e = 45) := by
  have hw : ∀ f : UInt8 → Bool, ((c :: r).takeWhile f).length ≤ (c :: r).length := fun f => (List.takeWhile_sublist f).length_le
  simp only [tokL] at h
  repeat' split at h
  all_goals first | cases h; done | (injection h with h1 h2; subst h1 h2; first | exact ⟨Nat.zero_le _, by simp⟩ | exact ⟨hw _, by simp⟩)
end Go.Proofs.YtofjifhnkcghpaaDoor
