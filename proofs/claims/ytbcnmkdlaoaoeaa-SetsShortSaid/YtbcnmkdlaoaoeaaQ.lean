/- SetsShort: its plain law; names. -/
import Derived.Test.YtbcnmkdlaoaoeaaO
namespace Go.Proofs.Ytbcnmkdlaoaoeaa
open Go.RowKit
set_option linter.unusedVariables false
set_option linter.unusedSimpArgs false

/-- the names whose bits are set, of the first m -/
def subTo (l : List ByteArray) (n k : Nat) : Nat → List ByteArray
  | 0 => []
  | m + 1 => if k.testBit (n - 1 - m) then subTo l n k m ++ [l.getD m ByteArray.empty] else subTo l n k m
theorem subTo_len (l : List ByteArray) (n k m : Nat) : (subTo l n k m).length ≤ m := by
  induction m with
  | zero => simp [subTo]
  | succ m ih =>
    simp only [subTo]
    split
    · rw [List.length_append, List.length_singleton]; omega
    · omega
theorem subTo_in (l : List ByteArray) (n k m : Nat) (hm : m ≤ l.length) : ∀ s ∈ subTo l n k m, s ∈ l := by
  induction m with
  | zero => simp [subTo]
  | succ m ih =>
    intro s hs
    simp only [subTo] at hs
    split at hs
    · rcases List.mem_append.1 hs with h | h
      · exact ih (by omega) s h
      · have : s = l.getD m ByteArray.empty := by simpa using h
        rw [this, List.getD_eq_getElem?_getD, List.getElem?_eq_getElem (by omega)]
        exact List.getElem_mem (by omega)
    · exact ih (by omega) s hs
def rollL (l : List ByteArray) : List (List ByteArray) := (List.range (l.length + 1)).map fun j => l.take (l.length - j)
def cubeL (l : List ByteArray) : List (List ByteArray) := (List.range (2 ^ l.length)).map fun j => subTo l l.length (2 ^ l.length - 1 - j) l.length

theorem ofS_sub (dims l : List ByteArray) (n k m : Nat) : ofS dims (subTo l n k m) = cubeTo dims l n k m := by
  induction m with
  | zero => rfl
  | succ m ih =>
    rw [cubeTo_step, ← ih]
    unfold cubeStep
    simp only [subTo]
    split
    · unfold ofS
      rw [List.foldl_append]
      simp [ofOne]
    · rfl
theorem pow_le6 {n : Nat} (h : n ≤ 6) : 1 ≤ 2 ^ n ∧ 2 ^ n ≤ 64 := pow6 h
theorem own_roll (dims l : List ByteArray) (h6 : l.length ≤ 6) : ownL dims ⟨4, [], rollL l⟩ = ownL dims ⟨2, l, []⟩ := by
  have h1 : ownN ⟨4, [], rollL l⟩ = l.length + 1 := by simp [ownN, rollL]; omega
  have h2 : ownN ⟨2, l, []⟩ = l.length + 1 := by simp [ownN]; omega
  unfold ownL seqJ
  rw [h1, h2]
  apply List.map_congr_left
  intro j hj
  have hj' : j < l.length + 1 := by simpa using hj
  simp [ownF, rollL, List.getD_eq_getElem?_getD, hj']
theorem own_cube (dims l : List ByteArray) (h6 : l.length ≤ 6) : ownL dims ⟨4, [], cubeL l⟩ = ownL dims ⟨3, l, []⟩ := by
  have hp := pow_le6 h6
  have hm : min l.length 7 = l.length := by omega
  have h1 : ownN ⟨4, [], cubeL l⟩ = 2 ^ l.length := by simp [ownN, cubeL]; omega
  have h2 : ownN ⟨3, l, []⟩ = 2 ^ l.length := by simp [ownN, hm]; omega
  unfold ownL seqJ
  rw [h1, h2]
  apply List.map_congr_left
  intro j hj
  have hj' : j < 2 ^ l.length := by simpa using hj
  have e : (cubeL l).getD j [] = subTo l l.length (2 ^ l.length - 1 - j) l.length := by simp [cubeL, List.getD_eq_getElem?_getD, hj']
  simp only [ownF]
  rw [if_neg (by decide), if_neg (by decide), if_neg (by decide), if_neg (by decide), if_neg (by decide), if_pos trivial, e, hm]
  exact ofS_sub _ _ _ _ _
theorem known_all {dims l : List ByteArray} (h : ∀ s ∈ l, s ∈ dims) : knownB dims l = true := by
  unfold knownB
  rw [Bool.not_eq_true', List.any_eq_false]
  intro s hs
  have : dims.any (isS s) = true := by
    rw [List.any_eq_true]
    exact ⟨s, h s hs, by simp [isS]⟩
  simp [this]
theorem choices_one (dims : List ByteArray) (g : Grp) : choices dims [g] = ownL dims g := by
  unfold choices
  simp [prodL]
theorem expand_one (dims : List ByteArray) (g : Grp) (h6 : dims.length ≤ 6) (hs : soundB g = true) (hb : badB dims g = false) (hn : ownN g ≤ 64) : expandL dims [g] = (ownL dims g, 0) := by
  rw [expandL_eq dims [g] h6, choices_one]
  have h1 : ([g].any fun g => !(soundB g)) = false := by simp [hs]
  have h2 : [g].any (badB dims) = false := by simp [hb]
  rw [h1, h2, ownL_len]
  simp
  omega
theorem short_law (dims l : List ByteArray) (h6 : dims.length ≤ 6) (hl0 : 0 < l.length) (hl6 : l.length ≤ 6) (hin : ∀ s ∈ l, s ∈ dims) :
    expandL dims [⟨2, l, []⟩] = (ownL dims ⟨2, l, []⟩, 0) ∧ expandL dims [⟨4, [], rollL l⟩] = (ownL dims ⟨2, l, []⟩, 0) ∧
    expandL dims [⟨3, l, []⟩] = (ownL dims ⟨3, l, []⟩, 0) ∧ expandL dims [⟨4, [], cubeL l⟩] = (ownL dims ⟨3, l, []⟩, 0) ∧
    (ownL dims ⟨2, l, []⟩).length = l.length + 1 ∧ (ownL dims ⟨3, l, []⟩).length = 2 ^ l.length := by
  have hp := pow_le6 hl6
  have hm : min l.length 7 = l.length := by omega
  have n2 : ownN ⟨2, l, []⟩ = l.length + 1 := by simp [ownN]; omega
  have n3 : ownN ⟨3, l, []⟩ = 2 ^ l.length := by simp [ownN, hm]; omega
  have n4 : ownN ⟨4, [], rollL l⟩ = l.length + 1 := by simp [ownN, rollL]; omega
  have n5 : ownN ⟨4, [], cubeL l⟩ = 2 ^ l.length := by simp [ownN, cubeL]; omega
  have hk := known_all hin
  have hb2 : badB dims ⟨2, l, []⟩ = false := by simp [badB, hk]
  have hb3 : badB dims ⟨3, l, []⟩ = false := by simp [badB, hk]
  have hb4 : badB dims ⟨4, [], rollL l⟩ = false := by
    have h : ((rollL l).any fun x => !(knownB dims x)) = false := by
      rw [List.any_eq_false]
      intro x hx
      unfold rollL at hx
      rw [List.mem_map] at hx
      obtain ⟨j, _, rfl⟩ := hx
      have := known_all (dims := dims) (l := l.take (l.length - j)) (fun s hs => hin s (List.mem_of_mem_take hs))
      simp [this]
    simpa [badB] using h
  have hb5 : badB dims ⟨4, [], cubeL l⟩ = false := by
    have h : ((cubeL l).any fun x => !(knownB dims x)) = false := by
      rw [List.any_eq_false]
      intro x hx
      unfold cubeL at hx
      rw [List.mem_map] at hx
      obtain ⟨j, _, rfl⟩ := hx
      have := known_all (dims := dims) (l := subTo l l.length (2 ^ l.length - 1 - j) l.length) (fun s hs => hin s (subTo_in l _ _ _ (Nat.le_refl _) s hs))
      simp [this]
    simpa [badB] using h
  refine ⟨expand_one _ _ h6 (by simp [soundB, hl0]) hb2 (by omega), ?_, expand_one _ _ h6 (by simp [soundB, hl0]) hb3 (by omega), ?_, by rw [ownL_len, n2], by rw [ownL_len, n3]⟩
  · rw [expand_one _ _ h6 (by simp [soundB]) hb4 (by omega), own_roll dims l hl6]
  · rw [expand_one _ _ h6 (by simp [soundB]) hb5 (by omega), own_cube dims l hl6]
end Go.Proofs.Ytbcnmkdlaoaoeaa
