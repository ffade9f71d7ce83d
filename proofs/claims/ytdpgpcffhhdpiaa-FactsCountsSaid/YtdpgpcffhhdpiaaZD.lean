/- FactsCounts: the plain law. -/
import Derived.Test.YtdpgpcffhhdpiaaZC
namespace Go.Proofs.Ytdpgpcffhhdpiaa
open Go.RowKit Go.Maps
set_option linter.unusedVariables false
set_option linter.unusedSimpArgs false

def textOf (d : Nat) (f : FactT) : ByteArray := f.dims.getD d ByteArray.empty
def sumC (d : Nat) (L : List ByteArray) (all : List FactT) : Nat := (L.map (fun s => cntF d s all)).sum
theorem sumC_snoc (d : Nat) (L : List ByteArray) (s : ByteArray) (all : List FactT) : sumC d (L ++ [s]) all = sumC d L all + cntF d s all := by simp [sumC]
theorem cntF_cons (d : Nat) (s : ByteArray) (f : FactT) (all : List FactT) : cntF d s (f :: all) = (if textOf d f = s then 1 else 0) + cntF d s all := by
  unfold cntF textOf
  rw [List.filter_cons]
  by_cases h : f.dims.getD d ByteArray.empty = s
  · rw [if_pos (by simpa using h), if_pos h, List.length_cons]; omega
  · rw [if_neg (by simpa using h), if_neg h]; omega
def hasT (L : List ByteArray) (t : ByteArray) : Bool := L.any (fun s => decide (s = t))
theorem hasT_iff {L : List ByteArray} {t : ByteArray} : hasT L t = true ↔ t ∈ L := by
  unfold hasT; rw [List.any_eq_true]
  exact ⟨fun ⟨s, hs, h⟩ => by simp only [decide_eq_true_eq] at h; exact h ▸ hs, fun h => ⟨t, h, by simp⟩⟩
theorem sum_one {L : List ByteArray} (h : L.Nodup) (t : ByteArray) : (L.map (fun s => if t = s then 1 else 0)).sum = if hasT L t then 1 else 0 := by
  induction L with
  | nil => rfl
  | cons s L ih =>
    rw [List.nodup_cons] at h
    rw [List.map_cons, List.sum_cons, ih h.2]
    by_cases e : t = s
    · subst e
      rw [if_pos rfl, if_neg (fun hh => h.1 (hasT_iff.1 hh)), if_pos (hasT_iff.2 (by simp))]
    · rw [if_neg e]
      have : hasT (s :: L) t = hasT L t := by unfold hasT; rw [List.any_cons, decide_eq_false (fun he => e he.symm), Bool.false_or]
      rw [this]
      omega
theorem sum_add (L : List ByteArray) (f g : ByteArray → Nat) : (L.map (fun s => f s + g s)).sum = (L.map f).sum + (L.map g).sum := by
  induction L with
  | nil => rfl
  | cons s L ih => simp only [List.map_cons, List.sum_cons, ih]; omega
theorem sumC_cons {L : List ByteArray} (h : L.Nodup) (d : Nat) (f : FactT) (all : List FactT) : sumC d L (f :: all) = (if hasT L (textOf d f) then 1 else 0) + sumC d L all := by
  unfold sumC
  rw [show (fun s => cntF d s (f :: all)) = fun s => (if textOf d f = s then 1 else 0) + cntF d s all from funext (fun s => cntF_cons d s f all), sum_add, sum_one h]
theorem sumC_nil (d : Nat) (L : List ByteArray) : sumC d L [] = 0 := by
  unfold sumC
  induction L with
  | nil => rfl
  | cons s L ih => rw [List.map_cons, List.sum_cons, ih]; rfl
theorem sumC_le {L : List ByteArray} (h : L.Nodup) (d : Nat) (all : List FactT) : sumC d L all ≤ all.length := by
  induction all with
  | nil => rw [sumC_nil]; exact Nat.zero_le _
  | cons f all ih =>
    rw [sumC_cons h, List.length_cons]
    by_cases e : hasT L (textOf d f) = true
    · rw [if_pos e]; omega
    · rw [if_neg e]; omega
theorem sumC_all {L : List ByteArray} (h : L.Nodup) (d : Nat) (all : List FactT) (hm : ∀ f ∈ all, textOf d f ∈ L) : sumC d L all = all.length := by
  induction all with
  | nil => exact sumC_nil d L
  | cons f all ih =>
    rw [sumC_cons h, List.length_cons, if_pos (hasT_iff.2 (hm f (by simp))), ih (fun g hg => hm g (by simp [hg]))]
    omega
theorem mem_putL {L : List ByteArray} {s t : ByteArray} : t ∈ putL L s ↔ t ∈ L ∨ t = s := by
  by_cases h : s ∈ L
  · rw [putL_in h]
    exact ⟨.inl, fun h' => h'.elim id (fun e => e ▸ h)⟩
  · rw [putL_new h, List.mem_append, List.mem_singleton]
theorem mem_puts {L ts : List ByteArray} {t : ByteArray} : t ∈ puts L ts ↔ t ∈ L ∨ t ∈ ts := by
  unfold puts
  induction ts generalizing L with
  | nil => simp
  | cons s ts ih =>
    rw [List.foldl_cons, ih, mem_putL, List.mem_cons, or_assoc]
theorem mem_vals {all : List FactT} {d : Nat} {f : FactT} (h : f ∈ all) : textOf d f ∈ valsI all d := by
  unfold valsI
  rw [mem_puts]
  exact .inr (List.mem_map.2 ⟨f, h, rfl⟩)
theorem counts_all (d : Nat) (all : List FactT) : sumC d (valsI all d) all = all.length := sumC_all (valsI_nodup all d) d all (fun f hf => mem_vals hf)
theorem vals_step {all : List FactT} {k d : Nat} {f : FactT} (h : all[k]? = some f) : valsI (all.take (k + 1)) d = putL (valsI (all.take k) d) (textOf d f) := by
  have e : all.take (k + 1) = all.take k ++ [f] := by rw [List.take_add_one, h]; rfl
  rw [e, valsI_push]; rfl
theorem vals_le (fs : List FactT) (d : Nat) : (valsI fs d).length ≤ fs.length := by
  have := puts_size [] (col d fs)
  unfold valsI
  simp only [List.length_nil, col, List.length_map] at *
  omega
theorem sbs_right {bs : List (List FactT)} {n : Nat} {f : FactT} (h : f ∈ flat (sbs bs n)) : f.dims.length = 2 := by
  unfold flat sbs at h
  rw [List.mem_flatten] at h
  obtain ⟨l, hl, hf⟩ := h
  rw [List.mem_map] at hl
  obtain ⟨x, -, rfl⟩ := hl
  exact (right_dims (right_sound hf)).1
theorem sbs_short {bs : List (List FactT)} {n : Nat} {f : FactT} (h : f ∈ flat (sbs bs n)) (d : Nat) : (textOf d f).size ≤ 64 := by
  unfold flat sbs at h
  rw [List.mem_flatten] at h
  obtain ⟨l, hl, hf⟩ := h
  rw [List.mem_map] at hl
  obtain ⟨x, -, rfl⟩ := hl
  have := (right_dims (right_sound hf)).2.2
  unfold textOf
  by_cases hd : d < f.dims.length
  · exact this _ (getD_mem hd)
  · rw [List.getD_eq_getElem?_getD, List.getElem?_eq_none (by omega)]
    exact Nat.zero_le _
theorem take_has {V : List ByteArray} {j : Nat} (hj : j < V.length) (t : ByteArray) : hasT (V.take (j + 1)) t = (hasT (V.take j) t || decide (V.getD j ByteArray.empty = t)) := by
  have e : V.getD j ByteArray.empty = V[j] := by rw [List.getD_eq_getElem?_getD, List.getElem?_eq_getElem hj]; rfl
  rw [List.take_add_one, List.getElem?_eq_getElem hj, Option.toList_some, e]
  unfold hasT
  rw [List.any_append]
  simp
end Go.Proofs.Ytdpgpcffhhdpiaa
