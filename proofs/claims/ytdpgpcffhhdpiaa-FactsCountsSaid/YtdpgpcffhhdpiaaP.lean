/- A store of facts as a list of batches. -/
import Derived.Test.YtdpgpcffhhdpiaaO
namespace Go.Proofs.Ytdpgpcffhhdpiaa
open Go.RowKit Go.Maps
set_option linter.unusedVariables false
set_option linter.unusedSimpArgs false

def flat (bs : List (List FactT)) : List FactT := bs.flatten
def endsOf (bs : List (List FactT)) : List Nat := (List.range bs.length).map (fun k => (flat (bs.take (k + 1))).length)
theorem endsOf_len (bs : List (List FactT)) : (endsOf bs).length = bs.length := by simp [endsOf]
theorem flat_append (a b : List (List FactT)) : flat (a ++ b) = flat a ++ flat b := by simp [flat]
theorem flat_one (l : List FactT) : flat [l] = l := by simp [flat]
theorem endsOf_push (bs : List (List FactT)) (l : List FactT) : endsOf (bs ++ [l]) = endsOf bs ++ [(flat bs).length + l.length] := by
  unfold endsOf
  rw [List.length_append, List.length_singleton, List.range_succ, List.map_append]
  congr 1
  · refine List.map_congr_left (fun k hk => ?_)
    have := List.mem_range.1 hk
    rw [List.take_append_of_le_length (by omega)]
  · simp only [List.map_cons, List.map_nil]
    rw [List.take_of_length_le (by simp), flat_append, flat_one, List.length_append]
theorem flat_take_le (bs : List (List FactT)) (k : Nat) : (flat (bs.take k)).length ≤ (flat bs).length := by
  conv => rhs; rw [← List.take_append_drop k bs, flat_append, List.length_append]
  omega
theorem flat_mono (bs : List (List FactT)) {j k : Nat} (h : j ≤ k) : (flat (bs.take j)).length ≤ (flat (bs.take k)).length := by
  have := flat_take_le (bs.take k) j
  rw [List.take_take, Nat.min_eq_left h] at this
  exact this
theorem clampE_le (n : Nat) (v : Int) : clampE n v ≤ n := by unfold clampE; omega
theorem atE_ends (bs : List (List FactT)) (v : Int) : atE (endsOf bs) v = (flat (bs.take (clampE bs.length v))).length := by
  unfold atE
  rw [endsOf_len]
  have hk := clampE_le bs.length v
  generalize clampE bs.length v = k at *
  unfold atN
  by_cases h0 : k = 0
  · subst h0; simp [flat]
  · rw [if_neg h0]
    unfold endsOf
    rw [List.getD_eq_getElem?_getD, List.getElem?_map, List.getElem?_range (by omega)]
    simp only [Option.map_some, Option.getD_some]
    rw [show k - 1 + 1 = k by omega]
/-- the facts of the batches behind one up to another -/
def cutB (bs : List (List FactT)) (a b : Int) : List FactT := flat ((bs.take (clampE bs.length b)).drop (clampE bs.length a))
theorem toE_ends_le (bs : List (List FactT)) (a b : Int) : toE (endsOf bs) a b ≤ (flat bs).length := by
  unfold toE
  rw [atE_ends, atE_ends]
  have h1 := flat_take_le bs (clampE bs.length a)
  have h2 := flat_take_le bs (clampE bs.length b)
  omega
theorem cut_eq (bs : List (List FactT)) (a b : Int) : cutB bs a b = ((flat bs).drop (atE (endsOf bs) a)).take (toE (endsOf bs) a b - atE (endsOf bs) a) := by
  unfold toE cutB
  rw [atE_ends, atE_ends]
  have ha := clampE_le bs.length a
  have hb := clampE_le bs.length b
  generalize clampE bs.length a = x at *
  generalize clampE bs.length b = y at *
  rcases Nat.le_total x y with h | h
  · have e1 : (flat (bs.take x)).length ≤ (flat (bs.take y)).length := flat_mono bs h
    rw [Nat.max_eq_right e1]
    have e2 : flat bs = flat (bs.take x) ++ (flat ((bs.take y).drop x) ++ flat (bs.drop y)) := by
      rw [← List.append_assoc, ← flat_append, ← flat_append]
      congr 1
      have : bs.take x = (bs.take y).take x := by rw [List.take_take, Nat.min_eq_left h]
      rw [this, List.take_append_drop, List.take_append_drop]
    have e3 : (flat (bs.take y)).length = (flat (bs.take x)).length + (flat ((bs.take y).drop x)).length := by
      rw [← List.length_append, ← flat_append]
      have : bs.take x = (bs.take y).take x := by rw [List.take_take, Nat.min_eq_left h]
      rw [this, List.take_append_drop]
    rw [e2, List.drop_left, e3, Nat.add_sub_cancel_left, List.take_left]
  · have e1 : (flat (bs.take y)).length ≤ (flat (bs.take x)).length := flat_mono bs h
    rw [Nat.max_eq_left e1, Nat.sub_self, List.take_zero, List.drop_eq_nil_of_le (by rw [List.length_take]; omega)]
    rfl
/-- A STORE of these batches -/
def BAt (F : Nat → Prop) (B : Nat) (w : World) (d m : Nat) (bs : List (List FactT)) : Prop := SAt F B w d m (flat bs) (endsOf bs)
theorem right_dims {d m : Nat} {f : FactT} (h : rightF d m f = true) : f.dims.length = d ∧ f.meas.length = m ∧ ∀ s ∈ f.dims, s.size ≤ 64 := by
  unfold rightF at h
  simp only [Bool.and_eq_true, decide_eq_true_eq, Bool.not_eq_true'] at h
  refine ⟨h.1.1, h.1.2, fun s hs => ?_⟩
  have := List.any_eq_false.1 h.2 s hs
  simpa using this
theorem factAt_eq {d m : Nat} {fs : List FactT} {p : Nat} (hp : p < fs.length) (h : ∀ f ∈ fs, rightF d m f = true) : factAt d m (dimAt fs) (meaAt fs) p = fs[p] := by
  obtain ⟨h1, h2, -⟩ := right_dims (h fs[p] (List.getElem_mem hp))
  unfold factAt dimAt meaAt
  rw [List.getD_eq_getElem?_getD, List.getElem?_eq_getElem hp]
  simp only [Option.getD_some]
  generalize fs[p] = f at *
  obtain ⟨dims, meas⟩ := f
  simp only at h1 h2 ⊢
  subst h1 h2
  congr 1
  · apply List.ext_getElem
    · simp
    · intro i h1 h2
      simp [h2]
  · apply List.ext_getElem
    · simp
    · intro i h1 h2
      simp [h2]
theorem factsL_eq {d m : Nat} {fs : List FactT} {a k : Nat} (hk : a + k ≤ fs.length) (h : ∀ f ∈ fs, rightF d m f = true) : factsL d m (dimAt fs) (meaAt fs) a k = (fs.drop a).take k := by
  unfold factsL
  apply List.ext_getElem
  · simp; omega
  · intro i h1 h2
    have hi : i < k := by simpa using h1
    rw [List.getElem_map, List.getElem_range, List.getElem_take, List.getElem_drop, factAt_eq (by omega) h]
theorem puts_nodup {L ts : List ByteArray} (h : L.Nodup) : (puts L ts).Nodup := by
  unfold puts
  induction ts generalizing L with
  | nil => exact h
  | cons t ts ih =>
    rw [List.foldl_cons]
    refine ih ?_
    by_cases ht : t ∈ L
    · rw [putL_in ht]; exact h
    · rw [putL_new ht, List.nodup_append]
      exact ⟨h, by simp, fun a ha b hb e => by rw [List.mem_singleton] at hb; subst hb; subst e; exact ht ha⟩
theorem valsI_nodup (fs : List FactT) (i : Nat) : (valsI fs i).Nodup := puts_nodup List.nodup_nil
def allInt (v : Int) : Prop := -9223372036854775808 ≤ v ∧ v ≤ 9223372036854775807
section
variable {F : Nat → Prop} {B : Nat} {w : World} {d m : Nat} {bs : List (List FactT)}
theorem BAt.below {w' : World} (h : BAt F B w d m bs) (hB : Below w.heap.size w w') : BAt F B w' d m bs := ⟨h.core.below hB, h.last, h.right⟩
theorem BAt.mono {G : Nat → Prop} (h : BAt F B w d m bs) (hG : ∀ k, F k → G k) : BAt G B w d m bs := by
  obtain ⟨⟨q, hq⟩, h2, h3⟩ := h; exact ⟨⟨q, hq.mono hG⟩, h2, h3⟩
theorem BAt.turn {G : Nat → Prop} {w' : World} (h : BAt F B w d m bs) (ht : Turn G w w') (hFG : ∀ k, F k → ¬ G k) : BAt F B w' d m bs := ⟨h.core.keep ht hFG, h.last, h.right⟩
theorem newB (d m : Nat) (hd : 1 ≤ d ∧ d ≤ 6) (hm : 1 ≤ m ∧ m ≤ 4) (w : World) :
    Calls Try.prog 9 #[intV d, intV m] w fun e w' => e = .returned (.tuple #[ptrV w.heap.size, .int .i64 0]) ∧ Below w.heap.size w w' ∧ BAt (fun k => w.heap.size ≤ k ∧ k < w'.heap.size) w.heap.size w' d m [] := by
  refine (new9 d m hd hm w).mono ?_
  rintro e w' ⟨rfl, hB, q, hq⟩
  exact ⟨rfl, hB, ⟨⟨q, hq.congr (fun i _ => rfl) (fun i p _ hp => by simp [flat] at hp) (fun i p _ hp => by simp [flat] at hp)⟩, rfl, fun f hf => by simp [flat] at hf⟩⟩
theorem appendB (h : BAt F B w d m bs) (v : Value) (l : List FactT) (hr : RowK F w v l) (hl : ∀ f ∈ l, shortF f) (hF : ∀ k, F k → k < w.heap.size) (hbd : (flat bs).length + 64 < 4294967296 ∧ bs.length + 1 < 4294967296) :
    Calls Try.prog 10 #[ptrV B, v] w fun e w' =>
      (checkE d m (valsI (flat bs)) l ≠ 0 ∧ e = .returned (.tuple #[.int .i64 0, .int .i64 (checkE d m (valsI (flat bs)) l)]) ∧ Below w.heap.size w w') ∨
      (checkE d m (valsI (flat bs)) l = 0 ∧ e = .returned (.tuple #[intV (bs.length + 1), .int .i64 0]) ∧ Turn F w w' ∧ BAt (fun k => F k ∨ (w.heap.size ≤ k ∧ k < w'.heap.size)) B w' d m (bs ++ [l])) := by
  refine (append10 F B d m (flat bs) (endsOf bs) v l w h hr hl hF (by rw [endsOf_len]; exact hbd)).mono ?_
  rintro e w' hh
  rcases hh with ⟨h1, h2, h3⟩ | ⟨h1, h2, h3, h4⟩
  · exact .inl ⟨h1, h2, h3⟩
  · refine .inr ⟨h1, by rw [h2, endsOf_len], h3, ?_⟩
    unfold BAt
    rw [flat_append, flat_one, endsOf_push]
    exact h4
theorem seqB (h : BAt F B w d m bs) : Calls Try.prog 21 #[ptrV B] w fun e w' => e = .returned (intV bs.length) ∧ w = w' := by
  have := seq21 h.core
  rw [endsOf_len] at this
  exact this
theorem lenB (h : BAt F B w d m bs) : Calls Try.prog 16 #[ptrV B] w fun e w' => e = .returned (intV (flat bs).length) ∧ ∃ n, w' = w.drewN n := by
  have := len16 h.core
  rw [h.last] at this
  exact this
theorem segsB (h : BAt F B w d m bs) (hl : (flat bs).length < 4294967296) : Calls Try.prog 17 #[ptrV B] w fun e w' => e = .returned (intV (((flat bs).length + 255) / 256)) ∧ ∃ n, w' = w.drewN n := by
  have := segs17 h.core (by rw [h.last]; exact hl)
  rw [h.last] at this
  exact this
theorem scanB (h : BAt F B w d m bs) (a b : Int) (ha : allInt a) (hb : allInt b) : Calls Try.prog 12 #[ptrV B, .int .i64 a, .int .i64 b] w fun e w' => ∃ v, e = .returned v ∧ Below w.heap.size w w' ∧ FactsN w.heap.size w' v (cutB bs a b) := by
  have hle := toE_ends_le bs a b
  have hle2 : atE (endsOf bs) a ≤ toE (endsOf bs) a b := Nat.le_max_left _ _
  have := scan12 h.core a b ha hb (fun i p _ hp => by omega) (fun i p _ hp => by omega)
  rw [factsL_eq (by omega) h.right, ← cut_eq] at this
  exact this
theorem cut_len (bs : List (List FactT)) (a b : Int) : (cutB bs a b).length = toE (endsOf bs) a b - atE (endsOf bs) a := by
  have hle := toE_ends_le bs a b
  have hle2 : atE (endsOf bs) a ≤ toE (endsOf bs) a b := Nat.le_max_left _ _
  rw [cut_eq, List.length_take, List.length_drop]; omega
theorem sizeB (h : BAt F B w d m bs) (a b : Int) (ha : allInt a) (hb : allInt b) : Calls Try.prog 14 #[ptrV B, .int .i64 a, .int .i64 b] w fun e w' => e = .returned (intV (cutB bs a b).length) ∧ Below w.heap.size w w' := by
  rw [cut_len]
  exact size14 h.core a b ha hb
theorem valuesB (h : BAt F B w d m bs) (i : Int) (hi : allInt i) : Calls Try.prog 18 #[ptrV B, .int .i64 i] w fun e w' => e = .returned (intV (if 0 ≤ i ∧ i < d then (valsI (flat bs) i.toNat).length else 0)) ∧ Below w.heap.size w w' := values18 h.core i hi
/-- how many facts have this text -/
def cntF (i : Nat) (s : ByteArray) (l : List FactT) : Nat := (l.filter (fun f => decide (f.dims.getD i ByteArray.empty = s))).length
theorem cntT_eq (fs : List FactT) (i : Nat) (s : ByteArray) {n : Nat} (hn : n ≤ fs.length) : cntT (dimAt fs) i s n = cntF i s (fs.take n) := by
  induction n with
  | zero => rfl
  | succ n ih =>
    rw [cntT_succ, ih (by omega), List.take_add_one, List.getElem?_eq_getElem (by omega)]
    unfold cntF
    rw [List.filter_append, List.length_append]
    congr 1
    have e : dimAt fs i n = fs[n].dims.getD i ByteArray.empty := by
      have e0 : fs.getD n fact0 = fs[n] := by rw [List.getD_eq_getElem?_getD, List.getElem?_eq_getElem (by omega)]; rfl
      unfold dimAt; rw [e0]
    rw [e]
    by_cases hh : fs[n].dims.getD i ByteArray.empty = s
    · rw [if_pos hh]; simp only [Option.toList_some]; rw [List.filter_cons, if_pos (by simpa using hh)]; rfl
    · rw [if_neg hh]; simp only [Option.toList_some]; rw [List.filter_cons, if_neg (by simpa using hh)]; rfl
theorem clampE_zero (n : Nat) : clampE n 0 = 0 := by unfold clampE; omega
theorem matchB (h : BAt F B w d m bs) (i : Int) (hi : allInt i) (s : ByteArray) (hs : s.size ≤ maxLen) (b : Int) (hb : allInt b) :
    Calls Try.prog 19 #[ptrV B, .int .i64 i, .string s, .int .i64 b] w fun e w' => e = .returned (intV (if 0 ≤ i ∧ i < d then cntF i.toNat s (cutB bs 0 b) else 0)) ∧ Below w.heap.size w w' := by
  have hle := toE_ends_le bs 0 b
  have := match19 h.core i hi s hs b hb (fun i p _ hp => by omega) (fun i => valsI_nodup (flat bs) i)
  rw [cntT_eq _ _ _ hle] at this
  rw [cut_eq, atE_zero, List.drop_zero, Nat.sub_zero]
  exact this
end
end Go.Proofs.Ytdpgpcffhhdpiaa
