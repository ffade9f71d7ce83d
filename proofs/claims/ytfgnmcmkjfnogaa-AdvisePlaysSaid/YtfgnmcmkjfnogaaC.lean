/- WHAT IS CHOSEN, as plain functions on lists: both the program and the reference tell this. -/
import Derived.Test.YtfgnmcmkjfnogaaA3
namespace Go.Proofs.Ytfgnmcmkjfnogaa
open Go.RowKit
set_option linter.unusedVariables false
set_option linter.unusedSimpArgs false

/-- is set s, of benefit b, better than the best one so far? -/
def betterB (Y : List Int) (best most : Int) (s : Nat) (b : Int) : Bool :=
  decide (best < 0) || decide (most * (spaceZ Y s + 1) < b * (spaceZ Y best.toNat + 1))
/-- is set s out of the question? -/
def skipB (Y out : List Int) (budget : Int) (s : Nat) : Bool := hasZ out s || decide (budget < spaceZ Y s)
/-- one step of the look for the best -/
def pickOne (W R Y C out : List Int) (budget : Int) (bm : Int × Int) (s : Nat) : Int × Int :=
  if skipB Y out budget s then bm else
  if decide (0 < benTo s W C (R.getD s 0) 64) && betterB Y bm.1 bm.2 s (benTo s W C (R.getD s 0) 64) then ((s : Int), benTo s W C (R.getD s 0) 64) else bm
/-- the best of the first k sets, and its benefit -/
def pickTo (W R Y C out : List Int) (budget : Int) : Nat → Int × Int
  | 0 => (-1, 0)
  | k + 1 => pickOne W R Y C out budget (pickTo W R Y C out budget k) k

/-- what holds of the best one -/
structure PickOk (W R Y C out : List Int) (budget : Int) (k : Nat) (bm : Int × Int) : Prop where
  lo : -1 ≤ bm.1
  hi : bm.1 < k
  m0 : 0 ≤ bm.2
  m1 : bm.2 ≤ 68719476736
  none : bm.1 = -1 → bm.2 = 0
  fits : 0 ≤ bm.1 → spaceZ Y bm.1.toNat ≤ budget
  fresh : 0 ≤ bm.1 → hasZ out bm.1 = false
  gain : 0 ≤ bm.1 → 0 < bm.2
  val : 0 ≤ bm.1 → bm.2 = benTo bm.1 W C (R.getD bm.1.toNat 0) 64
theorem pick_ok (W R Y C out : List Int) (budget : Int) (k : Nat) : PickOk W R Y C out budget k (pickTo W R Y C out budget k) := by
  induction k with
  | zero => exact ⟨by simp [pickTo], by simp [pickTo], by simp [pickTo], by simp [pickTo], by simp [pickTo], by simp [pickTo], by simp [pickTo], by simp [pickTo], by simp [pickTo]⟩
  | succ k ih =>
    obtain ⟨h1, h2, h3, h4, h5, h6, h7, h8, h9⟩ := ih
    have hb := benTo_bd k W C (R.getD k 0) 64
    have keep : PickOk W R Y C out budget (k + 1) (pickTo W R Y C out budget k) := ⟨h1, by omega, h3, h4, h5, h6, h7, h8, h9⟩
    simp only [pickTo, pickOne]
    split
    · exact keep
    · rename_i hs
      split
      · rename_i hg
        simp only [Bool.and_eq_true, decide_eq_true_eq] at hg
        simp only [skipB, Bool.or_eq_true, decide_eq_true_eq, not_or, Bool.not_eq_true] at hs
        exact ⟨by dsimp only; omega, by dsimp only; omega, by dsimp only; omega, by dsimp only; omega, by dsimp only; omega, fun _ => by simpa using hs.2, fun _ => by simpa using hs.1, fun _ => hg.1, fun _ => by simp⟩
      · exact keep

/-- the costs behind a choice -/
def costOne (R C : List Int) (best : Nat) (n : Nat) : Int :=
  if coversB best n then (if keepZ (R.getD best 0) 16777216 < C.getD n 0 then keepZ (R.getD best 0) 16777216 else C.getD n 0) else C.getD n 0
def costNext (R C : List Int) (best : Nat) : List Int := (List.range 64).map (costOne R C best)
theorem costNext_len (R C : List Int) (best : Nat) : (costNext R C best).length = 64 := by simp [costNext]
theorem costNext_at (R C : List Int) (best n : Nat) (h : n < 64) : (costNext R C best).getD n 0 = costOne R C best n := by simp [costNext, h]

/-- what is chosen, from some chosen ones, a budget and costs on, with so many rounds at the most -/
def chooseGo (W R Y : List Int) : Nat → List Int → Int → List Int → List Int
  | 0, out, _, _ => out
  | n + 1, out, budget, C =>
    if (pickTo W R Y C out budget 64).1 < 0 then out
    else chooseGo W R Y n (out ++ [(pickTo W R Y C out budget 64).1]) (budget - spaceZ Y (pickTo W R Y C out budget 64).1.toNat) (costNext R C (pickTo W R Y C out budget 64).1.toNat)
def cost0 (facts : Int) : List Int := List.replicate 64 (keepZ facts 16777216)
def chooseL (W R Y : List Int) (facts budget : Int) : List Int := chooseGo W R Y 16 [] budget (cost0 facts)

theorem chooseGo_len (W R Y : List Int) (n : Nat) : ∀ out budget C, (chooseGo W R Y n out budget C).length ≤ out.length + n := by
  induction n with
  | zero => intro out b C; simp [chooseGo]
  | succ n ih => intro out b C; simp only [chooseGo]; split; omega; have := ih (out ++ [(pickTo W R Y C out b 64).1]) (b - spaceZ Y (pickTo W R Y C out b 64).1.toNat) (costNext R C (pickTo W R Y C out b 64).1.toNat); simp at this; omega

end Go.Proofs.Ytfgnmcmkjfnogaa
