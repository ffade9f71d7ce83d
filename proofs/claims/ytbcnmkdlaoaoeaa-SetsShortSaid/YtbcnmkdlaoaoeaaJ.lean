/- Expand: plain words, and the list of lists that it collects. -/
import Derived.Test.YtbcnmkdlaoaoeaaI
import Derived.Test.YtbcnmkdlaoaoeaaBase12
import Derived.Maps.AppendAt
namespace Go.Proofs.Ytbcnmkdlaoaoeaa
open Go.RowKit
set_option linter.unusedVariables false
set_option linter.unusedSimpArgs false

/-- has an element a name that is unknown? -/
def badB (dims : List ByteArray) (g : Grp) : Bool := if g.kind = 4 then g.sets.any (fun l => !(knownB dims l)) else !(knownB dims g.cols)
def choices (dims : List ByteArray) (gs : List Grp) : List Nat := prodL (gs.map (ownL dims)) 0
/-- the list of grouping sets, and the error's number -/
def expandL (dims : List ByteArray) (gs : List Grp) : List Nat × Int :=
  if 6 < dims.length ∨ (gs.any fun g => !(soundB g)) = true then ([], 1)
  else if gs.any (badB dims) = true then ([], 42)
  else if (gs.any fun g => decide (ownN g = 0)) = true then ([], 0)
  else if 64 < (choices dims gs).length then ([], 46)
  else (choices dims gs, 0)

theorem ownL_lt (dims : List ByteArray) (g : Grp) : ∀ x ∈ ownL dims g, x < 64 := by
  intro x hx
  unfold ownL seqJ at hx
  rw [List.mem_map] at hx
  obtain ⟨j, _, rfl⟩ := hx
  unfold ownF
  split
  · exact ofS_lt _ _
  · split
    · exact ofS_lt _ _
    · split
      · exact cubeTo_lt _ _ _ _ _
      · exact ofS_lt _ _
theorem ownL_len (dims : List ByteArray) (g : Grp) : (ownL dims g).length = ownN g := by unfold ownL; exact seqJ_len _ _
theorem natV_eq (l : List Nat) : natV l = (l.map fun n : Nat => (n : Int)).map (Value.int .i64) := by simp [natV]
theorem RowI.of_nat {w : World} {base : Nat} {e : TypeId} {v : Value} {n : Nat} {l : List Nat} (h : w.ownsRow base e 1 v n (natV l)) : RowI w.heap.size w v (l.map fun n : Nat => (n : Int)) := by
  rw [natV_eq] at h; exact RowI.of_owns h

/-- the list of lists, so far -/
structure ES (b0 b6 b7 : Nat) (vd : Value) (f : Nat → List Nat) (k : Nat) (ve : Value) (vs : List Value) (w : World) : Prop where
  box : Blk w b0 24 #[vd]
  fn : Blk w b6 47 #[.func (Fn.func 19) #[] #[.pointer (some ⟨b0, 0, none⟩)]]
  eb : Blk w b7 48 #[ve]
  own : w.ownsRow (b7 + 1) 22 1 ve k vs
  row : ∀ j, j < k → w.ownsRow (b7 + 1) 3 1 (vs.getD j undef) (f j).length (natV (f j)) ∧ ((vs.getD j undef).ownBlock = none ∨ (vs.getD j undef).ownBlock ≠ ve.ownBlock)
  ord : b0 < b6 ∧ b6 < b7

theorem ES.push {b0 b6 b7 : Nat} {vd ve vn v' : Value} {f : Nat → List Nat} {k : Nat} {vs : List Value} {w w3 w4 : World} {o : Obj} (h : ES b0 b6 b7 vd f k ve vs w) (hB : Below w.heap.size w w3) (hn : w3.ownsRow w.heap.size 3 1 vn (f k).length (natV (f k)))
    (hown : w4.ownsRow (b7 + 1) 22 1 v' (k + 1) (vs ++ [vn])) (hg : (w3.alloc o).grownBy w4 ve.ownBlock) (hat : v'.ownBlock = ve.ownBlock ∨ v'.ownBlock = some (w3.alloc o).heap.size) :
    ES b0 b6 b7 vd f (k + 1) v' (vs ++ [vn]) (w4.setCell ⟨b7, 0, none⟩ v') ∧ Below b7 w (w4.setCell ⟨b7, 0, none⟩ v') := by
  have hord := h.ord
  have hne : ∀ b, b ≤ b7 → some b ≠ ve.ownBlock := fun b hb e => by have h1 := h.own.lt _ e.symm; omega
  have hlt := h.eb.lt
  have b0' := Blk.grown ((Blk.below h.box hB h.box.lt).alloc o) hg (hne _ (by omega))
  have b6' := Blk.grown ((Blk.below h.fn hB h.fn.lt).alloc o) hg (hne _ (by omega))
  have b7' := Blk.grown ((Blk.below h.eb hB h.eb.lt).alloc o) hg (hne _ (by omega))
  have hvl : vs.length = k := by have := h.own.1; simpa using this
  have hsz := hB.size
  have hB4 : Below b7 w w4 := by
    have hb0 : Below b7 w (w3.alloc o) := (hB.mono (by omega)).alloc (by omega) o
    exact hb0.grown hg (by simp; omega) (fun k hk => by have := (h.own.lt k hk).1; omega)
  have hB5 := below_cell hB4 (p := ⟨b7, 0, none⟩) (Nat.le_refl _) v'
  refine ⟨⟨b0'.other (by show b7 ≠ b0; omega) _, b6'.other (by show b7 ≠ b6; omega) _, Blk.set b7' 0 v', owns_cell_other hown (by show b7 < b7 + 1; omega) v', fun j hj => ?_, hord⟩, hB5⟩
  by_cases e : j = k
  · subst e
    have e1 : (vs ++ [vn]).getD j undef = vn := by simp [List.getD_eq_getElem?_getD, ← hvl]
    rw [e1]
    have hap : vn.ownBlock = none ∨ vn.ownBlock ≠ ve.ownBlock := by
      cases hv : vn.ownBlock with
      | none => exact .inl rfl
      | some g => exact .inr fun e => by have h1 := (hn.lt g hv).1; have h2 := (h.own.lt g e.symm).2; omega
    refine ⟨owns_cell_other (owns_base ((hn.alloc o).kept hg hap) (by omega)) (by show b7 < b7 + 1; omega) v', ?_⟩
    rcases hat with e | e
    · rw [e]; exact hap
    · cases hv : vn.ownBlock with
      | none => exact .inl rfl
      | some g => exact .inr fun h3 => by rw [e] at h3; injection h3 with h3; have h1 := (hn.lt g hv).2; simp at h3; omega
  · have hj' : j < k := by omega
    have e1 : (vs ++ [vn]).getD j undef = vs.getD j undef := by
      simp only [List.getD_eq_getElem?_getD, List.getElem?_append_left (show j < vs.length by omega)]
    rw [e1]
    obtain ⟨h1, h2⟩ := h.row j hj'
    refine ⟨owns_cell_other (((owns_below h1 hB (Nat.le_refl _)).alloc o).kept hg h2) (by show b7 < b7 + 1; omega) v', ?_⟩
    rcases hat with e | e
    · rw [e]; exact h2
    · cases hv : (vs.getD j undef).ownBlock with
      | none => exact .inl rfl
      | some g => exact .inr fun h3 => by rw [e] at h3; injection h3 with h3; have h1 := (h1.lt g hv).2; simp at h3; omega

theorem ES.rows {b0 b6 b7 : Nat} {vd ve : Value} {f : Nat → List Nat} {k : Nat} {vs : List Value} {w : World} (h : ES b0 b6 b7 vd f k ve vs w) (E : List (List Nat)) (hE : E.length = k) (hf : ∀ j, j < k → f j = E.getD j []) : RowLL w.heap.size w ve E := by
  subst hE
  refine ⟨vs, by have := h.own.1; simpa using this, Row.of_owns h.own, fun j hj => ?_⟩
  have := (h.row j hj).1
  rw [hf j hj] at this
  exact RowI.of_nat this

theorem clip27 (B : Nat) (v : Value) (l : List Int) (w : World) (hr : RowI B w v l) : Calls Try.prog 27 #[v] w fun e w' => ∃ v', e = .returned v' ∧ RowI B w v' l ∧ w = w' := by
  obtain ⟨hl, a, cap, rfl, h1, h2, h3⟩ := hr
  have h2' : cap ≤ 9223372036854775807 := by simpa [maxLen] using h2
  have H3 := Lib.hid h3
  have HL := Lib.hid hl
  clear h3 hl
  by_cases hn : 0 < l.length
  · obtain ⟨b, off, rfl, hb, hc⟩ := H3.out hn
    have HC := Lib.hid hc
    clear hc H3
    go_enter Try.func27, Try.ntmps27
    go_wp2_with fail
    go_ret
    exact ⟨_, rfl, ⟨HL.out, some ⟨b, off, none⟩, l.length, rfl, Nat.le_refl _, by omega, fun _ => ⟨b, off, rfl, hb, HC.out⟩⟩, rfl⟩
  · have h0 : l.length = 0 := by omega
    have h0' : l = [] := List.eq_nil_of_length_eq_zero h0
    subst h0'
    clear H3 HL hn h0 h1
    cases a with
    | none =>
      go_enter Try.func27, Try.ntmps27
      go_wp2_with fail
      go_ret
      exact ⟨_, rfl, ⟨by simp, _, _, rfl, Nat.zero_le _, by unfold maxLen; omega, fun h => absurd h (by simp)⟩, rfl⟩
    | some a =>
      go_enter Try.func27, Try.ntmps27
      go_wp2_with fail
      go_ret
      exact ⟨_, rfl, ⟨by simp, _, _, rfl, Nat.zero_le _, by unfold maxLen; omega, fun h => absurd h (by simp)⟩, rfl⟩
end Go.Proofs.Ytbcnmkdlaoaoeaa
