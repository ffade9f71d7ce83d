/- strings.Map's way with capitals, plainly. -/
import Derived.Test.YtofjifhnkcghpaaDoorA
import Derived.Lib.TrimUEq
namespace Go.Proofs.YtofjifhnkcghpaaDoor
open Go.Lib
set_option linter.unusedVariables false
set_option linter.unusedSimpArgs false
def upR (r : Int) : Int := if 97 ≤ r ∧ r ≤ 122 then r - 32 else r
theorem decodeN_ge (n b0 b1 b2 b3 : Nat) (h : 128 ≤ b0) : 128 ≤ (decodeN n b0 b1 b2 b3).1 := by
  unfold decodeN
  repeat' split
  all_goals (first | omega | (simp only; omega))
theorem decodeL_ge (b : UInt8) (t : List UInt8) (h : 128 ≤ b.toNat) : 128 ≤ (decodeL (b :: t)).1 := by
  rw [decodeL_N]
  exact decodeN_ge _ _ _ _ _ (by simpa using h)
theorem encodeRune_ge (r : Int) (h : 128 ≤ r) : ∃ b t, encodeRune r = b :: t ∧ 128 ≤ b.toNat := by
  have key : ∃ x l, encodeRuneZ r = x :: l ∧ 128 ≤ x ∧ x < 256 := by
    unfold encodeRuneZ
    repeat' split
    all_goals first | exact ⟨_, _, rfl, by omega, by omega⟩ | omega
  obtain ⟨x, l, h1, h2, h3⟩ := key
  refine ⟨_, _, by unfold encodeRune; rw [h1]; rfl, ?_⟩
  have : x.toNat < 256 := by omega
  simp [UInt8.toNat_ofNat', Nat.mod_eq_of_lt this]
  omega
theorem up_toNat (b : UInt8) : ((up b).toNat : Int) = upR b.toNat := by
  unfold up upR
  by_cases h : 97 ≤ b ∧ b ≤ 122
  · have h1 : 97 ≤ b.toNat ∧ b.toNat ≤ 122 := ⟨by have := h.1; exact this, by have := h.2; exact this⟩
    rw [if_pos h, if_pos ⟨by omega, by omega⟩]
    rw [UInt8.toNat_sub_of_le _ _ (by show (32 : Nat) ≤ b.toNat; omega)]
    show ((b.toNat - 32 : Nat) : Int) = _
    omega
  · have h1 : ¬ (97 ≤ b.toNat ∧ b.toNat ≤ 122) := fun e => h ⟨e.1, e.2⟩
    rw [if_neg h, if_neg (by omega)]
theorem encode_small (r : Int) (h0 : 0 ≤ r) (h1 : r ≤ 127) : encodeRune r = [r.toNat.toUInt8] := by
  unfold encodeRune
  rw [encodeRuneZ_one h0 h1]; rfl
theorem mapD_ascii (b : UInt8) (t : List UInt8) (h : b.toNat < 128) : mapD upR (b :: t) = up b :: mapD upR t := by
  rw [mapD_step upR (b :: t) (by simp), decodeL_ascii b t h]
  have e := up_toNat b
  have hu : upR (b.toNat : Int) ≤ 127 ∧ 0 ≤ upR (b.toNat : Int) := by unfold upR; split <;> omega
  rw [if_pos hu.2, encode_small _ hu.2 hu.1, ← e]
  simp
theorem mapD_nil : mapD upR [] = [] := rfl
theorem mapD_high (b : UInt8) (t : List UInt8) (h : 128 ≤ b.toNat) : ∃ c r, mapD upR (b :: t) = c :: r ∧ 128 ≤ c.toNat := by
  rw [mapD_step upR (b :: t) (by simp)]
  have hg := decodeL_ge b t h
  have hu : upR ((decodeL (b :: t)).1 : Int) = (decodeL (b :: t)).1 := by unfold upR; rw [if_neg (by omega)]
  rw [hu, if_pos (by omega)]
  obtain ⟨c, r, h1, h2⟩ := encodeRune_ge ((decodeL (b :: t)).1 : Int) (by omega)
  exact ⟨c, _, by rw [h1]; rfl, h2⟩
theorem mapD_all : ∀ (l : List UInt8), (∀ b ∈ l, b.toNat < 128) → mapD upR l = l.map up
  | [], _ => rfl
  | b :: t, h => by rw [mapD_ascii b t (h b (by simp)), mapD_all t (fun x hx => h x (by simp [hx]))]; rfl
theorem mapD_some : ∀ (l : List UInt8), (∃ b ∈ l, 128 ≤ b.toNat) → ∃ c ∈ mapD upR l, 128 ≤ c.toNat
  | [], h => by obtain ⟨b, hb, _⟩ := h; cases hb
  | b :: t, h => by
    by_cases hb : 128 ≤ b.toNat
    · obtain ⟨c, r, h1, h2⟩ := mapD_high b t hb
      exact ⟨c, by rw [h1]; simp, h2⟩
    · rw [mapD_ascii b t (by omega)]
      obtain ⟨x, hx, hx2⟩ := h
      rcases List.mem_cons.1 hx with rfl | hx
      · omega
      · obtain ⟨c, hc, hc2⟩ := mapD_some t ⟨x, hx, hx2⟩
        exact ⟨c, by simp [hc], hc2⟩
theorem up_high {b : UInt8} (h : 128 ≤ b.toNat) : up b = b := by
  unfold up
  rw [if_neg]
  intro e
  have : b.toNat ≤ 122 := e.2
  omega
theorem kws_low : ∀ k ∈ kws, ∀ b ∈ k, b.toNat < 128 := by decide
theorem isKw_mapD (l : List UInt8) : decide (mapD upR l ∈ kws) = isKw l := by
  unfold isKw
  by_cases h : ∃ b ∈ l, 128 ≤ b.toNat
  · obtain ⟨c, hc, hc2⟩ := mapD_some l h
    obtain ⟨b, hb, hb2⟩ := h
    have h1 : mapD upR l ∉ kws := fun e => by have := kws_low _ e c hc; omega
    have h2 : l.map up ∉ kws := fun e => by
      have := kws_low _ e (up b) (List.mem_map.2 ⟨b, hb, rfl⟩)
      rw [up_high hb2] at this; omega
    rw [decide_eq_false h1, decide_eq_false h2]
  · rw [mapD_all l (fun b hb => by
      by_cases e : 128 ≤ b.toNat
      · exact absurd ⟨b, hb, e⟩ h
      · omega)]
theorem isW_low {b : UInt8} (h : isW b = true) : b.toNat < 128 := by
  simp only [isW, isLetter, isDigit, Bool.or_eq_true, Bool.and_eq_true, decide_eq_true_eq, beq_iff_eq] at h
  rcases h with ((⟨h1, h2⟩ | ⟨h1, h2⟩) | h1) | ⟨h1, h2⟩
  · have : b.toNat ≤ 122 := h2; omega
  · have : b.toNat ≤ 90 := h2; omega
  · subst h1; decide
  · have : b.toNat ≤ 57 := h2; omega
theorem mapD_W {l : List UInt8} (h : ∀ b ∈ l, isW b = true) : mapD upR l = l.map up := mapD_all l (fun b hb => isW_low (h b hb))
end Go.Proofs.YtofjifhnkcghpaaDoor
