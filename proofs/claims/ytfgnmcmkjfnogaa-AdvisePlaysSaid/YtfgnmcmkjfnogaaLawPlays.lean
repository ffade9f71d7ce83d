/- AdvisePlays: the row of the law, out of its walk: for every input the call returns true, and each argument reads behind it as it read before. -/
import Derived.Test.YtfgnmcmkjfnogaaRows
import Derived.Test.YtfgnmcmkjfnogaaV
import Derived.Test.YtfgnmcmkjfnogaaBase5
import Derived.Test.YtfgnmcmkjfnogaaBase7
import Derived.WalkKit
import Derived.ProofKit
import Derived.OpenShut
import Derived.ShutString
import Derived.ChangeOld
import Derived.Below
import Derived.SizedLaws
import Derived.Carry
namespace Go.Proofs.Ytfgnmcmkjfnogaa.advisePlays
open Go.ChangeShapes Go.WideShapes Go.ChangeAt Go.RowKit
open Go.ChangeMaps (open_string shut_string)
set_option linter.unusedVariables false
theorem own : ownKnob Try.prog.godebug = none := by kernel_rfl
theorem laidOut : laidOutB Try.prog = true := by kernel_rfl
theorem cells2 : Try.prog.cellTypes Try.prog.depth 24 = some (List.replicate 258 3) := by kernel_rfl
set_option maxRecDepth 100000 in
theorem lifted (os : Os) (started : os.Started) (H : Type) (enc : TypeId × Value → H) :
    ReturnsInHanded {} Try.checked os 8 .any (Rows.advisePlaysSpec.pre6 enc Try.prog Try.f8 Rows.advisePlaysRow.domain false) (Rows.advisePlaysSpec.post enc Try.prog Try.f8 false true false false) := by
  refine returnsInHanded_of_change_sized (C := Try.checked) own started (by kernel_rfl) Try.func8
    (ChangeSpec.witness6 (enc := enc) (C := Try.checked) false ⟨#[], #[.slice none 0 0, .slice none 0 0, .agg (Array.replicate 258 (.int .i64 0))], []⟩ 8 (by kernel_rfl) (by kernel_rfl) (by kernel_rfl) (by kernel_rfl)) ?_
  intro W base args ds gs before hval0 hW hcnd hsz0 _
  have hsz : (DataW.weightsEach Try.prog (Try.f8.params.toList ++ Rows.advisePlaysSpec.plain.varTypes Try.prog) (ds ++ gs)).all (· ≤ reachBytes) = true := hsz0
  have hval : ∀ (j : Nat) t v, Try.f8.params[j]? = some t → args[j]? = some v → Value.okWide Try.prog W .any base t v := hval0
  have hW' := hW
  obtain ⟨p, q, hA0, hV, rfl, hfz, hnd⟩ := hW
  have hA : DataW.TrodAll enc Try.prog W 0 (fun _ => true) true Try.f8.params.toList args.toList ds p := hA0
  rw [Try.params8] at hA hval hsz
  obtain ⟨v0, vs0, d0, ds0, p0, q0, hargs, rfl, rfl, h0, r0⟩ := trodAll_cons hA
  obtain ⟨v1, vs1, d1, ds1, p1, q1, rfl, rfl, rfl, h1, r1⟩ := trodAll_cons r0
  obtain ⟨v2, vs2, d2, ds2, p2, q2, rfl, rfl, rfl, h2, r2⟩ := trodAll_cons r1
  obtain ⟨rfl, rfl, rfl⟩ := trodAll_nil r2
  obtain rfl : args = #[v0, v1, v2] := by cases args; simp_all
  obtain ⟨rfl, rfl⟩ := trodVars_none hV
  have k0 := h0
  have lt0 : ∀ x ∈ p0, x.block < W.heap.size := by obtain ⟨m, hm⟩ := k0; exact DataW.trod_lt m _ _ _ hm
  have k1 := h1
  have lt1 : ∀ x ∈ p1, x.block < W.heap.size := by obtain ⟨m, hm⟩ := k1; exact DataW.trod_lt m _ _ _ hm
  have k2 := h2
  have lt2 : ∀ x ∈ p2, x.block < W.heap.size := by obtain ⟨m, hm⟩ := k2; exact DataW.trod_lt m _ _ _ hm
  obtain ⟨n0, a0, r0', z0⟩ := open_nums Try.underlying26 (c := 1) (by kernel_rfl) (by decide) (el_int Try.underlying3) (okWide_slice Try.underlying26 (hval 0 26 v0 rfl rfl)) h0
  have w0 : n0 * 8 ≤ 140737488351232 := by
    rcases z0 with h | ⟨el, s, hd, he⟩
    · rw [h]; decide
    · subst hd
      have := sized_slice hsz (j := 0) (t := 26) rfl rfl Try.underlying26
      rw [show Try.prog.bytesOf 3 = 8 from by kernel_rfl] at this
      rw [← he]; exact Nat.le_trans (Nat.mul_le_mul_right _ (Nat.le_add_right _ _)) this
  obtain ⟨a1, r1', z1⟩ := open_bools Try.underlying48 (by kernel_rfl) Try.underlying4 (okWide_slice Try.underlying48 (hval 1 48 v1 rfl rfl)) h1
  obtain ⟨a2, rfl, n2, w2⟩ := open_intRow Try.underlying24 (by simp) cells2 Try.underlying3 (by kernel_rfl) (hval 2 24 v2 rfl rfl)
  refine (playsLaw v0 v1 a2 W n0 a0 r0' w0 a1 r1' n2 w2).mono fun e W' ⟨he, bel⟩ => ?_
  subst he
  exact ⟨_, rfl, _, _, _, [], _, [], hW', trodAll_mk1 (shut_bool Try.underlying4 _), trodAll_cons_mk (Below.trod laidOut (by kernel_rfl) (of_decide_eq_true (by kernel_rfl)) k0 bel lt0) (trodAll_cons_mk (Below.trod laidOut (by kernel_rfl) (of_decide_eq_true (by kernel_rfl)) k1 bel lt1) (trodAll_cons_mk (Below.trod laidOut (by kernel_rfl) (of_decide_eq_true (by kernel_rfl)) k2 bel lt2) (trodAll_mk0))), rfl, bel.frame _, fun h => by cases h⟩
theorem over : Rows.advisePlaysRow.holds Try.pinned (OpenSpec.ofChange Rows.advisePlaysSpec) :=
  OpenClaim.holds_of_wide 8 Try.f8 rfl rfl rfl rfl rfl rfl rfl ⟨rfl, rfl, rfl, rfl, rfl⟩ rfl rfl rfl rfl rfl (by kernel_rfl) Try.func8 (by kernel_rfl)
    (of_decide_eq_true (by kernel_rfl)) (by unfold Func.isWrapper; first | (rw [if_pos (by decide +kernel)]; kernel_rfl) | (rw [if_neg (by decide +kernel)]; exact ⟨rfl, rfl⟩))
    (fun os started H enc _ => lifted os started H enc)
theorem proved : Rows.AdvisePlaysSaid := over
#print axioms proved
end Go.Proofs.Ytfgnmcmkjfnogaa.advisePlays
namespace Go.Proofs.Ytfgnmcmkjfnogaa
theorem advisePlays_holds : Rows.AdvisePlaysSaid := advisePlays.proved
end Go.Proofs.Ytfgnmcmkjfnogaa

