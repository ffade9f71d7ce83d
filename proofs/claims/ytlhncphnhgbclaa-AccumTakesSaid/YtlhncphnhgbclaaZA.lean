/- What is kept hangs on no parting: the plain law of AccumParts. -/
import Derived.Test.YtlhncphnhgbclaaZ
import Derived.Test.YtlhncphnhgbclaaP
namespace Go.Proofs.Ytlhncphnhgbclaa
open Go.RowKit
set_option linter.unusedVariables false
set_option linter.unusedSimpArgs false

def foldT (xs : List Int) : Prt := xs.foldl takeP zeroP
theorem foldT_snoc (xs : List Int) (y : Int) : foldT (xs ++ [y]) = takeP (foldT xs) y := by simp [foldT]
def GoodP (p : Prt) : Prop := p.any = true ∨ p = zeroP
theorem takeP_any (p : Prt) (y : Int) : (takeP p y).any = true := by unfold takeP; split <;> rfl
theorem foldT_good (xs : List Int) : GoodP (foldT xs) := by
  rcases List.eq_nil_or_concat xs with rfl | ⟨l, y, rfl⟩
  · exact .inr rfl
  · left; rw [List.concat_eq_append, foldT_snoc]; exact takeP_any _ _
theorem both_take (p q : Prt) (y : Int) (hp : GoodP p) (hq : GoodP q) : bothP p (takeP q y) = takeP (bothP p q) y := by
  rcases hp with hp | rfl <;> rcases hq with hq | rfl
  · have e1 : takeP q y = ⟨true, w128 (q.sum + y), if y < q.mn then y else q.mn, if q.mx < y then y else q.mx⟩ := by unfold takeP; rw [if_pos hq]
    have e2 : bothP p q = ⟨true, w128 (p.sum + q.sum), if q.mn < p.mn then q.mn else p.mn, if p.mx < q.mx then q.mx else p.mx⟩ := by unfold bothP; rw [if_pos (by simp [hp, hq])]
    rw [e2]
    unfold takeP bothP
    rw [if_pos hq]
    simp only [hp, Bool.true_and, if_true, Prt.mk.injEq, true_and]
    refine ⟨?_, ?_, ?_⟩
    · unfold w128; omega
    · (repeat' split) <;> omega
    · (repeat' split) <;> omega
  · have e2 : bothP p zeroP = p := by unfold bothP; simp [hp, zeroP]
    rw [e2]
    unfold takeP bothP
    simp only [zeroP, hp, Bool.true_and, if_true, Bool.false_eq_true, if_false, Prt.mk.injEq, true_and, Int.zero_add]
    exact ⟨by unfold w128; omega, trivial⟩
  · have e2 : bothP zeroP q = q := by unfold bothP; simp [hq, zeroP]
    rw [e2]
    unfold bothP
    simp [takeP_any, zeroP]
  · have e2 : bothP zeroP zeroP = zeroP := rfl
    rw [e2]
    unfold bothP
    simp [takeP_any, zeroP]
theorem rev_ind {P : List Int → Prop} (h0 : P []) (h1 : ∀ l y, P l → P (l ++ [y])) (xs : List Int) : P xs := by
  have h : ∀ l : List Int, P l.reverse := by
    intro l
    induction l with
    | nil => exact h0
    | cons y l ih => rw [List.reverse_cons]; exact h1 _ _ ih
  have := h xs.reverse
  rwa [List.reverse_reverse] at this
theorem both_fold (xs ys : List Int) : bothP (foldT xs) (foldT ys) = foldT (xs ++ ys) := by
  refine rev_ind (P := fun ys => bothP (foldT xs) (foldT ys) = foldT (xs ++ ys)) ?_ (fun l y ih => ?_) ys
  · rw [List.append_nil]
    have h0 : foldT [] = zeroP := rfl
    rw [h0]
    rcases foldT_good xs with h | h
    · unfold bothP; simp [h, zeroP]
    · rw [h]; rfl
  · rw [foldT_snoc, both_take _ _ _ (foldT_good _) (foldT_good _), ih, ← List.append_assoc, foldT_snoc]
theorem foldT_bd (xs : List Int) : xs ≠ [] → (foldT xs).any = true ∧ (foldT xs).mn ≤ (foldT xs).mx := by
  intro h
  have key : ∀ xs : List Int, xs = [] ∨ ((foldT xs).any = true ∧ (foldT xs).mn ≤ (foldT xs).mx) := by
    refine rev_ind (.inl rfl) (fun l y ih => ?_)
    · right
      rw [foldT_snoc]
      refine ⟨takeP_any _ _, ?_⟩
      rcases ih with rfl | ⟨h1, h2⟩
      · exact Int.le_refl _
      · unfold takeP; rw [if_pos h1]; dsimp only; (repeat' split) <;> omega
  exact (key xs).resolve_left h

/-- the parts of facts of two measures -/
def partsOf (X : List (Int × Int)) : List Prt := [foldT (X.map (·.1)), foldT (X.map (·.2))]
theorem parts_len (X : List (Int × Int)) : (partsOf X).length = 2 := rfl
theorem parts_take (X : List (Int × Int)) (x y : Int) : takeL (partsOf X) [x, y] = partsOf (X ++ [(x, y)]) := by
  have h : takeL (partsOf X) [x, y] = [takeP (foldT (X.map (·.1))) x, takeP (foldT (X.map (·.2))) y] := rfl
  rw [h]
  unfold partsOf
  rw [List.map_append, List.map_append]
  simp only [List.map_cons, List.map_nil, foldT_snoc]
theorem parts_merge (X Y : List (Int × Int)) : mergeL (partsOf X) (partsOf Y) = partsOf (X ++ Y) := by
  have h : mergeL (partsOf X) (partsOf Y) = [bothP (foldT (X.map (·.1))) (foldT (Y.map (·.1))), bothP (foldT (X.map (·.2))) (foldT (Y.map (·.2)))] := rfl
  rw [h, both_fold, both_fold]
  unfold partsOf
  rw [List.map_append, List.map_append]
theorem parts_long (X Y : List (Int × Int)) : (longL (partsOf X) (partsOf Y)).length = 2 := rfl
theorem parts_perm {X Y : List (Int × Int)} (h : X.Perm Y) : partsOf X = partsOf Y := by
  have h1 : foldT (X.map (·.1)) = foldT (Y.map (·.1)) := fold_perm (h.map _)
  have h2 : foldT (X.map (·.2)) = foldT (Y.map (·.2)) := fold_perm (h.map _)
  unfold partsOf
  rw [h1, h2]
theorem parts_valid (X : List (Int × Int)) : validB (X.length : Int) (partsOf X) 2 = true := by
  cases X with
  | nil => rfl
  | cons f X =>
    obtain ⟨a1, a2⟩ := foldT_bd (((f :: X) : List (Int × Int)).map (·.1)) (by simp)
    obtain ⟨b1, b2⟩ := foldT_bd (((f :: X) : List (Int × Int)).map (·.2)) (by simp)
    have h : anyBad ((f :: X).length : Int) (partsOf (f :: X)) = (badB ((f :: X).length : Int) (foldT ((f :: X).map (·.1))) || badB ((f :: X).length : Int) (foldT ((f :: X).map (·.2)))) := by
      show ([0, 1] : List Nat).any _ = _
      simp [partsOf]
    have hn : ((((f :: X).length : Nat) : Int) == 0) = false := by simp; omega
    have c1 : badB ((f :: X).length : Int) (foldT ((f :: X).map (·.1))) = false := by
      unfold badB; rw [a1, if_pos rfl, hn, Bool.false_or]; exact decide_eq_false (by omega)
    have c2 : badB ((f :: X).length : Int) (foldT ((f :: X).map (·.2))) = false := by
      unfold badB; rw [b1, if_pos rfl, hn, Bool.false_or]; exact decide_eq_false (by omega)
    unfold validB
    rw [h, c1, c2]
    have : decide ((0 : Int) ≤ ((f :: X).length : Nat)) = true := decide_eq_true (by omega)
    rw [this]
    rfl
end Go.Proofs.Ytlhncphnhgbclaa
