/- DictOrder: what its loops know; the plain law. -/
import Derived.Test.YtiihnepfcgmghaaP
namespace Go.Proofs.Ytiihnepfcgmghaa
open Go.RowKit Go.Maps
set_option linter.unusedVariables false
set_option linter.unusedSimpArgs false

/-- a row of one-cell values that the dictionary's calls leave alone -/
structure RowG (w0 : World) (F : Nat → Prop) (w : World) (e : TypeId) (v : Value) (n : Nat) (xs : List Value) : Prop where
  owns : w.ownsRow w0.heap.size e 1 v n xs
  out : ∀ g, v.ownBlock = some g → ¬ F g
section
variable {w0 w w' : World} {F : Nat → Prop} {D : Nat} {l : List ByteArray} {v v' : Value} {n : Nat} {xs : List Value} {e : TypeId}
theorem RowG.nil (w0 : World) (F : Nat → Prop) (w : World) (e : TypeId) : RowG w0 F w e (.slice none 0 0) 0 [] := ⟨World.ownsRow_nil _ _ _ _, fun g h => by cases h⟩
theorem RowG.call {k : Nat} (h : RowG w0 F w e v n xs) (ht : Turn F w w') : RowG w0 (fun j => F j ∨ (w.heap.size ≤ j ∧ j < k)) w' e v n xs :=
  ⟨owns_turn h.owns ht h.out, fun g hg hF => by
    have := (h.owns.lt g hg).2
    rcases hF with hF | hF
    · exact h.out g hg hF
    · omega⟩
theorem RowG.keep {G : Nat → Prop} (h : RowG w0 F w e v n xs) (ht : Turn G w w') (hG : ∀ g, v.ownBlock = some g → ¬ G g) : RowG w0 F w' e v n xs :=
  ⟨owns_turn h.owns ht hG, h.out⟩
theorem RowG.drewN (h : RowG w0 F w e v n xs) (m : Nat) : RowG w0 F (w.drewN m) e v n xs :=
  h.keep (G := fun _ => False) (Turn.of_below (B := w.heap.size) (Below.drewN (Below.refl _ _) m) (fun k h1 h2 => by omega)) (fun g h h2 => h2)
theorem DF.drewN (h : DF w0 F D w l) (m : Nat) : DF w0 F D (w.drewN m) l := h.step (Below.drewN (Below.refl _ _) m)
/-- one more is appended -/
theorem RowG.push {o : Obj} {u : Value} (hd : DF w0 F D w l) (h : RowG w0 F w e v n xs) (hown : w'.ownsRow w0.heap.size e 1 v' (n + 1) (xs ++ [u])) (hg : (w.alloc o).grownBy w' v.ownBlock) (hat : v'.ownBlock = v.ownBlock ∨ v'.ownBlock = some (w.alloc o).heap.size) :
    DF w0 F D w' l ∧ RowG w0 F w' e v' (n + 1) (xs ++ [u]) ∧ Turn (fun g => v.ownBlock = some g) w w' := by
  have ht : Turn (fun g => v.ownBlock = some g) w w' := ((Turn.refl (fun g => v.ownBlock = some g) w).alloc o).grown hg (fun g hg => hg)
  refine ⟨hd.turn ht (fun k hk => ⟨(h.owns.lt k hk).1, h.out k hk⟩), ⟨hown, fun g hg2 hF => ?_⟩, ht⟩
  rcases hat with e | e
  · exact h.out g (e ▸ hg2) hF
  · rw [e] at hg2
    injection hg2 with hg2
    subst hg2
    have := (hd.sub _ hF).2
    rw [alloc_size] at this
    omega
theorem RowG.apart {e2 : TypeId} {v2 : Value} {n2 : Nat} {xs2 : List Value} (h : RowG w0 F w e v n xs) (h2 : RowG w0 F w e2 v2 n2 xs2) (hne : e ≠ e2) : ∀ g, v2.ownBlock = some g → ¬ v.ownBlock = some g := fun g hg hg2 => by
  obtain ⟨cs, h1⟩ := owns_blk h.owns g hg2
  obtain ⟨cs2, h3⟩ := owns_blk h2.owns g hg
  exact Blk.ne_type h1 h3 hne rfl
end
theorem RowG.somewhere {w0 w : World} {F : Nat → Prop} {e : TypeId} {a : Option Addr} {n c : Nat} {xs : List Value} (h : RowG w0 F w e (.slice a n c) n xs) (hn : 0 < n) : ∃ b off, a = some ⟨b, off, none⟩ := by
  obtain ⟨-, a', c', hv, -, -, hc⟩ := Row.of_owns h.owns
  injection hv with e1
  obtain ⟨b, off, ha, -⟩ := hc hn
  exact ⟨b, off, e1.trans ha⟩
theorem RowG.cell {w0 w : World} {F : Nat → Prop} {e : TypeId} {b off n c : Nat} {xs : List Value} (h : RowG w0 F w e (.slice (some ⟨b, off, none⟩) n c) n xs) {j : Nat} (hj : j < n) : w.cell? ⟨b, off + j, none⟩ = some (xs.getD j undef) := by
  obtain ⟨-, a', c', hv, -, -, hc⟩ := Row.of_owns h.owns
  injection hv with e1
  obtain ⟨b2, off2, ha, -, hc⟩ := hc (by omega)
  rw [← e1] at ha
  injection ha with ha
  injection ha with e2 e3
  subst e2 e3
  exact hc j (by omega)
theorem str_at (K : List ByteArray) {j : Nat} (hj : j < K.length) : (K.map Value.string).getD j undef = .string (K.getD j ByteArray.empty) := by simp [List.getD_eq_getElem?_getD, hj]
theorem nat_at (I : List Nat) {j : Nat} (hj : j < I.length) : (natV I).getD j undef = .int .i64 ((I.getD j 0 : Nat) : Int) := by unfold natV; simp [List.getD_eq_getElem?_getD, hj]
/-- the texts that were put, and their numbers -/
structure Kept (l K : List ByteArray) (I : List Nat) : Prop where
  nodup : l.Nodup
  len : I.length = K.length
  at_ : ∀ (j : Nat) (t : ByteArray) (x : Nat), K[j]? = some t → I[j]? = some x → idx l t = some x
  all : ∀ t ∈ l, t ∈ K
  short : ∀ t ∈ K, t.size ≤ 64
theorem Kept.nil : Kept [] [] [] := ⟨List.nodup_nil, rfl, fun j t x h => by simp at h, fun t h => by simp at h, fun t h => by simp at h⟩
theorem Kept.step {l K : List ByteArray} {I : List Nat} (h : Kept l K I) {s : ByteArray} (hs : s.size ≤ 64) : Kept (putL l s) (K ++ [s]) (I ++ [putN l s]) := by
  refine ⟨putL_nodup h.nodup, by simp [h.len], fun j t x hk hi => ?_, fun t ht => ?_, fun t ht => ?_⟩
  · by_cases hj : j < K.length
    · rw [List.getElem?_append_left hj] at hk
      rw [List.getElem?_append_left (by rw [h.len]; exact hj)] at hi
      exact idx_keep h.nodup (h.at_ j t x hk hi)
    · have hj2 : j = K.length := by
        have := (List.getElem?_eq_some_iff.1 hk).1
        simp at this; omega
      subst hj2
      rw [List.getElem?_append_right (Nat.le_refl _), Nat.sub_self] at hk
      rw [← h.len, List.getElem?_append_right (Nat.le_refl _), Nat.sub_self] at hi
      simp at hk hi
      subst hk hi
      exact putN_idx h.nodup
  · rcases putL_mem.1 ht with ht | rfl
    · exact List.mem_append_left _ (h.all t ht)
    · simp
  · rcases List.mem_append.1 ht with ht | ht
    · exact h.short t ht
    · simp at ht; subst ht; exact hs
theorem Kept.get {l K : List ByteArray} {I : List Nat} (h : Kept l K I) {j : Nat} (hj : j < K.length) : idx l (K.getD j ByteArray.empty) = some (I.getD j 0) ∧ I.getD j 0 < l.length ∧ l.getD (I.getD j 0) ByteArray.empty = K.getD j ByteArray.empty := by
  have hi : j < I.length := by rw [h.len]; exact hj
  have e1 : K[j]? = some (K.getD j ByteArray.empty) := by rw [List.getD_eq_getElem?_getD, List.getElem?_eq_getElem hj]; rfl
  have e2 : I[j]? = some (I.getD j 0) := by rw [List.getD_eq_getElem?_getD, List.getElem?_eq_getElem hi]; rfl
  have e3 := h.at_ j _ _ e1 e2
  refine ⟨e3, idx_lt e3, ?_⟩
  have e4 := idx_get e3
  rw [@List.getD_eq_getElem?_getD _ l, e4]; rfl
/-- the marks: every rank that was met is marked -/
def Marks (s : List Nat) (I : List Nat) (j : Nat) (S : List Bool) : Prop := S.length = s.length ∧ ∀ (j' : Nat), j' < j → ∀ (r : Nat), s[r]? = some (I.getD j' 0) → S[r]? = some true
theorem Marks.zero (s I : List Nat) : Marks s I 0 (List.replicate s.length false) := ⟨by simp, fun j' h => by omega⟩
theorem Marks.step {s I : List Nat} {j r : Nat} {S : List Bool} (hn : s.Nodup) (h : Marks s I j S) (hr : s[r]? = some (I.getD j 0)) : Marks s I (j + 1) (S.set r true) := by
  refine ⟨by rw [List.length_set]; exact h.1, fun j' hj' r' hr' => ?_⟩
  have hrl : r < S.length := by rw [h.1]; exact (List.getElem?_eq_some_iff.1 hr).1
  by_cases e : r = r'
  · subst e; rw [List.getElem?_set_self hrl]
  · rw [List.getElem?_set_ne e]
    refine h.2 j' ?_ r' hr'
    rcases Nat.lt_or_eq_of_le (Nat.le_of_lt_succ hj') with h1 | h1
    · exact h1
    · subst h1
      obtain ⟨h1, h2⟩ := List.getElem?_eq_some_iff.1 hr
      obtain ⟨h3, h4⟩ := List.getElem?_eq_some_iff.1 hr'
      exact absurd ((List.getElem_inj hn).1 (h2.trans h4.symm)) e
theorem IsSort.nodup {l : List ByteArray} {s : List Nat} (h : IsSort l s) : s.Nodup := h.1.nodup_iff.2 List.nodup_range
theorem Marks.full {l K : List ByteArray} {I s : List Nat} {S : List Bool} (hk : Kept l K I) (hs : IsSort l s) (h : Marks s I K.length S) : ∀ r, r < S.length → S.getD r false = true := fun r hr => by
  rw [h.1] at hr
  have hm : s[r] < l.length := List.mem_range.1 (hs.1.mem_iff.1 (List.getElem_mem hr))
  obtain ⟨j, hj⟩ := List.mem_iff_getElem?.1 (hk.all _ (List.getElem_mem hm))
  have hjl := (List.getElem?_eq_some_iff.1 hj).1
  have e := (hk.get hjl).1
  rw [List.getD_eq_getElem?_getD, hj] at e
  have e2 := idx_at hk.nodup (List.getElem?_eq_getElem hm)
  have e3 := Option.some.inj (e2.symm.trans e)
  have := h.2 j hjl r (by rw [List.getElem?_eq_getElem hr, e3])
  rw [List.getD_eq_getElem?_getD, this]; rfl
def MarkQ (l : List ByteArray) (I : List Nat) (j : Nat) (S : List Bool) : Prop := S.length = l.length ∧ ((j = 0 ∧ S = List.replicate l.length false) ∨ ∃ s, IsSort l s ∧ Marks s I j S)
theorem MarkQ.zero (l : List ByteArray) (I : List Nat) : MarkQ l I 0 (List.replicate l.length false) := ⟨by simp, .inl ⟨rfl, rfl⟩⟩
theorem MarkQ.step {l : List ByteArray} {I s : List Nat} {j r : Nat} {S : List Bool} (hn : l.Nodup) (h : MarkQ l I j S) (hs : IsSort l s) (hr : s[r]? = some (I.getD j 0)) : MarkQ l I (j + 1) (S.set r true) := by
  refine ⟨by rw [List.length_set]; exact h.1, .inr ⟨s, hs, ?_⟩⟩
  rcases h.2 with ⟨rfl, rfl⟩ | ⟨s', hs', hm⟩
  · refine Marks.step hs.nodup ?_ hr
    rw [← hs.len]; exact Marks.zero _ _
  · have e := sort_one hn hs hs'
    subst e
    exact Marks.step hs.nodup hm hr
theorem MarkQ.full {l K : List ByteArray} {I : List Nat} {S : List Bool} (hk : Kept l K I) (h : MarkQ l I K.length S) : ∀ r, r < S.length → S.getD r false = true := by
  rcases h.2 with ⟨h0, -⟩ | ⟨s, hs, hm⟩
  · intro r hr
    rw [h.1] at hr
    have := hk.all _ (List.getElem_mem hr)
    rw [List.eq_nil_of_length_eq_zero h0] at this
    simp at this
  · exact hm.full hk hs
/-- how two ranks lie is how two texts lie -/
theorem ranks_tri {l : List ByteArray} {s : List Nat} (hn : l.Nodup) (hs : IsSort l s) {r r' x x' : Nat} (h : s[r]? = some x) (h' : s[r']? = some x') {t t' : ByteArray} (ht : l.getD x ByteArray.empty = t) (ht' : l.getD x' ByteArray.empty = t') :
    (r' < r ∧ ltS t' t = true) ∨ (r' = r ∧ t' = t) ∨ (r < r' ∧ ltS t' t = false ∧ (t'.toList == t.toList) = false) := by
  obtain ⟨hr, e⟩ := List.getElem?_eq_some_iff.1 h
  obtain ⟨hr', e'⟩ := List.getElem?_eq_some_iff.1 h'
  have hxl : x < l.length := List.mem_range.1 (hs.1.mem_iff.1 (e ▸ List.getElem_mem hr))
  have hxl' : x' < l.length := List.mem_range.1 (hs.1.mem_iff.1 (e' ▸ List.getElem_mem hr'))
  have hne : r ≠ r' → t' ≠ t := fun hrr he => by
    subst ht ht'
    rw [List.getD_eq_getElem?_getD, List.getD_eq_getElem?_getD, List.getElem?_eq_getElem hxl, List.getElem?_eq_getElem hxl'] at he
    simp only [Option.getD_some] at he
    have := (List.getElem_inj hn).1 he
    subst this
    exact hrr ((List.getElem_inj hs.nodup).1 (e.trans e'.symm))
  rcases Nat.lt_trichotomy r' r with h1 | h1 | h1
  · refine .inl ⟨h1, ?_⟩
    have := List.pairwise_iff_getElem.1 hs.2 r' r hr' hr h1
    rw [e, e', ht, ht'] at this
    cases hc : ltS t' t
    · exact absurd (ltS_tri hc this) (hne (by omega))
    · rfl
  · subst h1
    refine .inr (.inl ⟨rfl, ?_⟩)
    have : x = x' := e.symm.trans e'
    subst this
    rw [← ht, ← ht']
  · refine .inr (.inr ⟨h1, ?_, ?_⟩)
    · have := List.pairwise_iff_getElem.1 hs.2 r r' hr hr' h1
      rw [e, e', ht, ht'] at this
      exact this
    · rw [beq_eq_false_iff_ne]
      intro he
      exact hne (by omega) (toList_inj he)
/-- what is made: a row of bools -/
theorem info4 : (Try.prog.info? 4).map (fun i => (i.zero, i.size, i.bytes)) = some (some (.bool false), 1, 1) := by kernel_rfl
theorem mk39 (d : Nat) (hd : d ≤ 4096) (w : World) : (Instr.makeSlice 39 (.int .i64 (d : Int)) (.int .i64 (d : Int))).run Try.prog w = .ok (.slice (some ⟨w.heap.size, 0, none⟩) d d) (w.alloc (.cells (List.replicate d (Value.bool false)).toArray 4)) := by
  rw [← made_rep]
  exact run_make_row' 39 4 _ 1 Try.underlying39 info4 rfl .i64 .i64 d (by omega) (by omega) w
def boolV (S : List Bool) : Array Value := (S.map Value.bool).toArray
theorem boolV_set (S : List Bool) (r : Nat) : (boolV S).setIfInBounds r (.bool true) = boolV (S.set r true) := by
  unfold boolV
  rw [List.setIfInBounds_toArray, List.map_set]
theorem boolV_get (S : List Bool) {r : Nat} (h : r < S.length) : (boolV S)[r]? = some (.bool (S.getD r false)) := by
  unfold boolV
  simp [List.getD_eq_getElem?_getD, h]
theorem boolV_rep (n : Nat) : Array.replicate n (Value.bool false) = boolV (List.replicate n false) := by unfold boolV; rw [List.map_replicate]; simp
end Go.Proofs.Ytiihnepfcgmghaa
