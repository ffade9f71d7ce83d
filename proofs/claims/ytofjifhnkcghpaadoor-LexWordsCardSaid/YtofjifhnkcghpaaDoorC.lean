/- What a word looks like in a text, and what may stand behind it (plain). -/
import Derived.Test.YtofjifhnkcghpaaDoorB
namespace Go.Proofs.YtofjifhnkcghpaaDoor
set_option linter.unusedVariables false
set_option linter.unusedSimpArgs false
set_option maxRecDepth 100000
theorem u8all {p : UInt8 → Prop} (h : ∀ n : Fin 256, p (UInt8.ofNat n.val)) (c : UInt8) : p c := by
  have := h ⟨c.toNat, c.toNat_lt⟩
  simpa using this
theorem tw_app {f : UInt8 → Bool} : ∀ {x y : List UInt8}, (∀ b ∈ x, f b = true) → f (y.headD 0) = false ∨ y = [] → (x ++ y).takeWhile f = x ∧ (x ++ y).dropWhile f = y
  | [], y, _, h => by
    cases y with
    | nil => exact ⟨rfl, rfl⟩
    | cons c r =>
      have hc : f c = false := by rcases h with h | h; exact h; cases h
      simp [hc]
  | b :: x, y, hx, h => by
    have hb := hx b (by simp)
    have ih := tw_app (x := x) (y := y) (fun z hz => hx z (by simp [hz])) h
    simp [hb, ih.1, ih.2]
theorem tw_take {f : UInt8 → Bool} : ∀ (r : List UInt8), r.take (r.takeWhile f).length = r.takeWhile f ∧ r.drop (r.takeWhile f).length = r.dropWhile f
  | [] => ⟨rfl, rfl⟩
  | c :: r => by
    by_cases h : f c = true
    · have := tw_take (f := f) r
      simp [h, this.1, this.2]
    · simp [h]
theorem tw_all {f : UInt8 → Bool} : ∀ (r : List UInt8), ∀ b ∈ r.takeWhile f, f b = true
  | [], b, h => by cases h
  | c :: r, b, h => by
    by_cases hc : f c = true
    · rw [List.takeWhile_cons, if_pos hc] at h
      rcases List.mem_cons.1 h with rfl | h
      · exact hc
      · exact tw_all r b h
    · rw [List.takeWhile_cons, if_neg hc] at h; cases h
theorem dw_head {f : UInt8 → Bool} (h0 : f 0 = false) : ∀ (r : List UInt8), f ((r.dropWhile f).headD 0) = false
  | [] => h0
  | c :: r => by
    by_cases hc : f c = true
    · rw [List.dropWhile_cons, if_pos hc]; exact dw_head h0 r
    · rw [List.dropWhile_cons, if_neg hc]; simpa using hc
theorem W0 : isW 0 = false := by decide
theorem D0 : isDigit 0 = false := by decide
theorem txtL_form : ∀ (r : List UInt8) {t : List UInt8} {n : Nat}, txtL r = some (t, n) → r.take n = quoteB t ++ [39] ∧ (r.drop n).headD 0 ≠ 39 := by
  have key : ∀ (m : Nat) (r : List UInt8), r.length ≤ m → ∀ {t : List UInt8} {n : Nat}, txtL r = some (t, n) → r.take n = quoteB t ++ [39] ∧ (r.drop n).headD 0 ≠ 39 := by
    intro m
    induction m with
    | zero =>
      intro r hm t n h
      have : r = [] := List.eq_nil_of_length_eq_zero (by omega)
      subst this
      simp [txtL] at h
    | succ m ih =>
      intro r hm t n h
      cases r with
      | nil => simp [txtL] at h
      | cons c r =>
        simp only [List.length_cons] at hm
        rw [txtL.eq_def] at h
        dsimp only at h
        split at h
        · rename_i hc
          subst hc
          cases r with
          | nil => simp at h; obtain ⟨rfl, rfl⟩ := h; simp [quoteB]
          | cons d r' =>
            dsimp only at h
            split at h
            · rename_i hd
              subst hd
              rw [Option.map_eq_some_iff] at h
              obtain ⟨⟨t', n'⟩, h1, h2⟩ := h
              injection h2 with h3 h4
              subst h3 h4
              simp only [List.length_cons] at hm
              have := ih r' (by omega) h1
              exact ⟨by simp [quoteB, this.1], by simpa using this.2⟩
            · rename_i hd
              simp at h; obtain ⟨rfl, rfl⟩ := h
              simp [quoteB, hd]
        · rename_i hc
          rw [Option.map_eq_some_iff] at h
          obtain ⟨⟨t', n'⟩, h1, h2⟩ := h
          injection h2 with h3 h4
          subst h3 h4
          have := ih r (by omega) h1
          exact ⟨by simp [quoteB, hc, this.1], by simpa using this.2⟩
  exact fun r t n h => key r.length r (Nat.le_refl _) h
theorem txtL_of : ∀ (t y : List UInt8), y.headD 0 ≠ 39 → txtL (quoteB t ++ 39 :: y) = some (t, (quoteB t).length + 1)
  | [], y, h => by
    cases y with
    | nil => rfl
    | cons d r =>
      have hd : d ≠ 39 := h
      show txtL (39 :: d :: r) = _
      rw [txtL.eq_def]
      simp [hd, quoteB]
  | c :: t, y, h => by
    have ih := txtL_of t y h
    by_cases hc : c = 39
    · subst hc
      rw [txtL.eq_def]
      simp [quoteB, ih]
    · rw [txtL.eq_def]
      simp [quoteB, hc, ih]
/-- the word's own bytes -/
def Formed (k : Int) (t x : List UInt8) : Prop :=
  (k = 1 ∧ x = t ∧ (∀ b ∈ x, isW b = true) ∧ isLetter (x.headD 0) = true ∧ isKw x = false ∧ x.length ≤ 32) ∨
  (k = 2 ∧ x.map up = t ∧ (∀ b ∈ x, isW b = true) ∧ isLetter (x.headD 0) = true ∧ isKw x = true) ∨
  (k = 3 ∧ x = t ∧ (∀ b ∈ x, isDigit b = true) ∧ x ≠ [] ∧ ¬ (1 < x.length ∧ x.headD 0 = 48) ∧ x.length ≤ 19) ∨
  (k = 4 ∧ x = quoteL t ∧ t.length ≤ 64) ∨
  (k = 5 ∧ x = t ∧ ((∃ c, x = [c] ∧ isSign c = true) ∨ (∃ c d, x = [c, d] ∧ isSign c = true ∧ two c [d] = true)))
/-- what stands behind it -/
def Bound (k : Int) (x y : List UInt8) : Prop :=
  (k = 1 ∨ k = 2 ∨ k = 3 → isW (y.headD 0) = false) ∧ (k = 4 → y.headD 0 ≠ 39) ∧ (k = 5 → x.length = 1 → two (x.headD 0) y = false)
theorem two_head (c : UInt8) (r : List UInt8) : two c r = two c [r.headD 0] := rfl
theorem tok_form {c : UInt8} {r : List UInt8} {k : Int} {t : List UInt8} {n : Nat} (h : tokL (c :: r) = .word k t n) : Formed k t ((c :: r).take n) ∧ Bound k ((c :: r).take n) ((c :: r).drop n) := by
  simp only [tokL] at h
  split at h
  · cases h
  split at h
  · rename_i hl
    have hh : ((c :: r).takeWhile isW).headD 0 = c := by rw [List.takeWhile_cons, if_pos (isLetter_W hl)]; rfl
    split at h
    · rename_i hk
      injection h with h1 h2 h3; subst h1 h2 h3
      rw [(tw_take (f := isW) (c :: r)).1, (tw_take (f := isW) (c :: r)).2]
      exact ⟨.inr (.inl ⟨rfl, rfl, tw_all _, by rw [hh]; exact hl, hk⟩), fun _ => dw_head W0 _, by simp, by simp⟩
    split at h
    · cases h
    · rename_i hk hn
      injection h with h1 h2 h3; subst h1 h2 h3
      rw [(tw_take (f := isW) (c :: r)).1, (tw_take (f := isW) (c :: r)).2]
      exact ⟨.inl ⟨rfl, rfl, tw_all _, by rw [hh]; exact hl, by simpa using hk, by omega⟩, fun _ => dw_head W0 _, by simp, by simp⟩
  split at h
  · rename_i hl hd
    have hh : ((c :: r).takeWhile isDigit).headD 0 = c := by rw [List.takeWhile_cons, if_pos hd]; rfl
    split at h
    · cases h
    split at h
    · cases h
    split at h
    · cases h
    · rename_i h4 h5 h6
      injection h with h1 h2 h3; subst h1 h2 h3
      rw [(tw_take (f := isDigit) (c :: r)).1, (tw_take (f := isDigit) (c :: r)).2]
      refine ⟨.inr (.inr (.inl ⟨rfl, rfl, tw_all _, by rw [List.takeWhile_cons, if_pos hd]; simp, by rw [hh]; exact h4, by omega⟩)), fun _ => ?_, by simp, by simp⟩
      have h7 := dw_head (f := isDigit) D0 (c :: r)
      unfold isW
      rw [h7]
      simpa using h6
  split at h
  · rename_i hc
    subst hc
    split at h
    · cases h
    · rename_i p hp
      split at h
      · cases h
      · rename_i hn
        injection h with h1 h2 h3; subst h1 h2 h3
        have := txtL_form r (t := p.1) (n := p.2) hp
        refine ⟨.inr (.inr (.inr (.inl ⟨rfl, by simp [quoteL, this.1], by omega⟩))), by simp, fun _ => by simpa using this.2, by simp⟩
  split at h
  · rename_i hs
    split at h
    · rename_i h2
      injection h with h1 h3 h4; subst h1 h3 h4
      cases r with
      | nil => simp [two] at h2
      | cons d r =>
        refine ⟨.inr (.inr (.inr (.inr ⟨rfl, rfl, .inr ⟨c, d, rfl, hs, h2⟩⟩))), by simp, by simp, by simp⟩
    · rename_i h2
      injection h with h1 h3 h4; subst h1 h3 h4
      exact ⟨.inr (.inr (.inr (.inr ⟨rfl, rfl, .inl ⟨c, rfl, hs⟩⟩))), by simp, by simp, fun _ _ => by simpa using h2⟩
  · cases h
theorem isLetter_facts {c : UInt8} (h : isLetter c = true) : isBlank c = false :=
  u8all (p := fun c => isLetter c = true → isBlank c = false) (by decide) c h
theorem isDigit_facts {c : UInt8} (h : isDigit c = true) : isBlank c = false ∧ isLetter c = false :=
  u8all (p := fun c => isDigit c = true → isBlank c = false ∧ isLetter c = false) (by decide) c h
theorem isSign_facts {c : UInt8} (h : isSign c = true) : isBlank c = false ∧ isLetter c = false ∧ isDigit c = false ∧ c ≠ 39 :=
  u8all (p := fun c => isSign c = true → isBlank c = false ∧ isLetter c = false ∧ isDigit c = false ∧ c ≠ 39) (by decide) c h
theorem tok_of {k : Int} {t x y : List UInt8} (hf : Formed k t x) (hb : Bound k x y) : tokL (x ++ y) = .word k t x.length := by
  have hor : ∀ {f : UInt8 → Bool}, f (y.headD 0) = false → f (y.headD 0) = false ∨ y = [] := fun h => .inl h
  rcases hf with ⟨rfl, rfl, h1, h2, h3, h4⟩ | ⟨rfl, rfl, h1, h2, h3⟩ | ⟨rfl, rfl, h1, h2, h3, h4⟩ | ⟨rfl, rfl, h1⟩ | ⟨rfl, rfl, h1⟩
  · have hw := tw_app h1 (hor (hb.1 (.inl rfl)))
    cases x with
    | nil => exact absurd h2 (by decide)
    | cons c x =>
      have hc : isLetter c = true := h2
      have hw1 : (c :: (x ++ y)).takeWhile isW = c :: x := hw.1
      show tokL (c :: (x ++ y)) = _
      simp only [tokL, isLetter_facts hc, hc, hw1, h3]
      rw [if_neg (by simp), if_pos trivial, if_neg (by simp), if_neg (by omega)]
  · have hw := tw_app h1 (hor (hb.1 (.inr (.inl rfl))))
    cases x with
    | nil => exact absurd h2 (by decide)
    | cons c x =>
      have hc : isLetter c = true := h2
      have hw1 : (c :: (x ++ y)).takeWhile isW = c :: x := hw.1
      show tokL (c :: (x ++ y)) = _
      simp only [tokL, isLetter_facts hc, hc, hw1, h3]
      rw [if_neg (by simp), if_pos trivial, if_pos trivial]
  · have hbw := hb.1 (.inr (.inr rfl))
    have hbd : isDigit (y.headD 0) = false ∧ isLetter (y.headD 0) = false := by
      simp only [isW, Bool.or_eq_false_iff] at hbw; exact ⟨hbw.2, hbw.1⟩
    have hw := tw_app h1 (hor hbd.1)
    cases x with
    | nil => exact absurd rfl h2
    | cons c x =>
      have hc : isDigit c = true := h1 c (by simp)
      have hw1 : (c :: (x ++ y)).takeWhile isDigit = c :: x := hw.1
      have hw2 : (c :: (x ++ y)).dropWhile isDigit = y := hw.2
      have h3' : ¬ (1 < (c :: x).length ∧ c = 48) := h3
      show tokL (c :: (x ++ y)) = _
      simp only [tokL, (isDigit_facts hc).1, (isDigit_facts hc).2, hc, hw1, hw2, hbd.2]
      rw [if_neg (by simp), if_neg (by simp), if_pos trivial, if_neg h3', if_neg (by omega), if_neg (by simp)]
  · have hq := txtL_of t y (hb.2.1 rfl)
    show tokL (39 :: ((quoteB t ++ [39]) ++ y)) = _
    rw [show (quoteB t ++ [39]) ++ y = quoteB t ++ 39 :: y by simp]
    simp only [tokL, hq, show isBlank 39 = false from by decide, show isLetter 39 = false from by decide, show isDigit 39 = false from by decide]
    rw [if_neg (by simp), if_neg (by simp), if_neg (by simp), if_pos trivial, if_neg (by omega)]
    simp [quoteL]
  · rcases h1 with ⟨c, rfl, hs⟩ | ⟨c, d, rfl, hs, h2⟩
    · have h2 : two c y = false := hb.2.2 rfl rfl
      obtain ⟨f1, f2, f3, f4⟩ := isSign_facts hs
      show tokL (c :: y) = _
      simp only [tokL, f1, f2, f3, hs, h2]
      rw [if_neg (by simp), if_neg (by simp), if_neg (by simp), if_neg f4, if_pos trivial, if_neg (by simp)]
      rfl
    · obtain ⟨f1, f2, f3, f4⟩ := isSign_facts hs
      show tokL (c :: d :: y) = _
      have h2' : two c (d :: y) = true := h2
      simp only [tokL, f1, f2, f3, hs, h2']
      rw [if_neg (by simp), if_neg (by simp), if_neg (by simp), if_neg f4, if_pos trivial, if_pos trivial]
      rfl
/-- a word as it stands in a text -/
def writtenL (k : Int) (t : List UInt8) : List UInt8 := if k = 4 then quoteL t else t
theorem up_up : ∀ b : UInt8, up (up b) = up b := u8all (by decide)
theorem up_W : ∀ b : UInt8, isW b = true → isW (up b) = true := u8all (by decide)
theorem up_L : ∀ b : UInt8, isLetter b = true → isLetter (up b) = true := u8all (by decide)
theorem Formed.len {k : Int} {t x : List UInt8} (h : Formed k t x) : (writtenL k t).length = x.length := by
  unfold writtenL
  rcases h with ⟨rfl, rfl, _⟩ | ⟨rfl, rfl, _⟩ | ⟨rfl, rfl, _⟩ | ⟨rfl, rfl, _⟩ | ⟨rfl, rfl, _⟩ <;> simp
theorem Formed.same {k : Int} {t x : List UInt8} (h : Formed k t x) (hk : k ≠ 2) : writtenL k t = x := by
  unfold writtenL
  rcases h with ⟨rfl, rfl, _⟩ | ⟨rfl, rfl, _⟩ | ⟨rfl, rfl, _⟩ | ⟨rfl, rfl, _⟩ | ⟨rfl, rfl, _⟩ <;> first | (exact absurd rfl hk) | simp
theorem headD_map_up (x : List UInt8) : (x.map up).headD 0 = up (x.headD 0) := by cases x <;> rfl
theorem Formed.again {k : Int} {t x : List UInt8} (h : Formed k t x) : Formed k t (writtenL k t) := by
  by_cases hk : k = 2
  · rcases h with ⟨e, _⟩ | ⟨rfl, rfl, h1, h2, h3⟩ | ⟨e, _⟩ | ⟨e, _⟩ | ⟨e, _⟩
    · omega
    · have e : (x.map up).map up = x.map up := by rw [List.map_map]; exact List.map_congr_left fun b _ => up_up b
      refine .inr (.inl ⟨rfl, e, fun b hb => ?_, ?_, ?_⟩)
      · obtain ⟨c, hc, rfl⟩ := List.mem_map.1 hb
        exact up_W _ (h1 c hc)
      · show isLetter ((x.map up).headD 0) = true
        rw [headD_map_up]; exact up_L _ h2
      · show isKw (x.map up) = true
        unfold isKw at h3 ⊢
        rw [e]; exact h3
    · omega
    · omega
    · omega
  · rw [h.same hk]; exact h
theorem blank_bound {k : Int} {x y : List UInt8} (h : y = [] ∨ isBlank (y.headD 0) = true) : Bound k x y := by
  have key : ∀ c, (c = 0 ∨ isBlank c = true) → isW c = false ∧ c ≠ 39 ∧ c ≠ 61 ∧ c ≠ 62 := u8all (by decide)
  have hc : y.headD 0 = 0 ∨ isBlank (y.headD 0) = true := by rcases h with rfl | h; exact .inl rfl; exact .inr h
  obtain ⟨h1, h2, h3, h4⟩ := key _ hc
  refine ⟨fun _ => h1, fun _ => h2, fun _ _ => ?_⟩
  simp only [two, beq_eq_false_iff_ne.2 h3, beq_eq_false_iff_ne.2 h4, Bool.or_self, Bool.and_false]
end Go.Proofs.YtofjifhnkcghpaaDoor
