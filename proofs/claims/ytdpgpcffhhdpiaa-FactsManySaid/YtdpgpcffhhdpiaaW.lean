/- FactsMany: the plain law. -/
import Derived.Test.YtdpgpcffhhdpiaaV
namespace Go.Proofs.Ytdpgpcffhhdpiaa
open Go.RowKit Go.Maps
set_option linter.unusedVariables false
set_option linter.unusedSimpArgs false

def one (k : Nat) : ByteArray := ⟨#[(97 + k % 3).toUInt8]⟩
def fm (text : ByteArray) (q k : Nat) : FactT := ⟨[text ++ one k], [(q : Int), -(q : Int)]⟩
def batM (text : ByteArray) (i : Nat) : List FactT := (List.range 64).map (fun k => fm text (i * 64 + k) k)
def batsM (text : ByteArray) (n : Nat) : List (List FactT) := (List.range n).map (batM text)
theorem batsM_succ (text : ByteArray) (n : Nat) : batsM text (n + 1) = batsM text n ++ [batM text n] := by unfold batsM; rw [List.range_succ, List.map_append]; rfl
theorem batsM_len (text : ByteArray) (n : Nat) : (batsM text n).length = n := by simp [batsM]
theorem flat_many (text : ByteArray) (n : Nat) : flat (batsM text n) = (List.range (64 * n)).map (fun q => fm text q (q % 64)) := by
  induction n with
  | zero => rfl
  | succ n ih =>
    rw [batsM_succ, flat_append, flat_one, ih, Nat.mul_succ, List.range_add, List.map_append]
    congr 1
    unfold batM
    rw [List.map_map]
    refine List.map_congr_left (fun k hk => ?_)
    have := List.mem_range.1 hk
    simp only [Function.comp]
    rw [show n * 64 + k = 64 * n + k by omega, show (64 * n + k) % 64 = k by omega]
theorem flat_many_len (text : ByteArray) (n : Nat) : (flat (batsM text n)).length = 64 * n := by rw [flat_many]; simp
theorem flat_many_get (text : ByteArray) (n : Nat) {q : Nat} (hq : q < 64 * n) : (flat (batsM text n))[q]? = some (fm text q (q % 64)) := by
  rw [flat_many, List.getElem?_map, List.getElem?_range hq]; rfl
theorem one_inj {text : ByteArray} {k j : Nat} (h : text ++ one k = text ++ one j) : k % 3 = j % 3 := by
  have h1 := congrArg ByteArray.data h
  rw [ByteArray.data_append, ByteArray.data_append] at h1
  have h2 := congrArg Array.toList h1
  rw [Array.toList_append, Array.toList_append] at h2
  have h3 := List.append_cancel_left h2
  simp only [one, List.cons.injEq, and_true] at h3
  have e1 := congrArg UInt8.toNat h3
  simp only [Nat.toUInt8_eq, UInt8.toNat_ofNat'] at e1
  omega
theorem one_mod {k j : Nat} (h : k % 3 = j % 3) : one k = one j := by unfold one; rw [h]
theorem one_dec (text : ByteArray) (k : Nat) : decide (text ++ one k = text ++ one 0) = decide (k % 3 = 0) := by
  by_cases h : k % 3 = 0
  · rw [one_mod (j := 0) (by omega)]; simp [h]
  · rw [decide_eq_false (fun e => h (one_inj e)), decide_eq_false h]
theorem right_two {s : ByteArray} {n m : Int} (h : s.size ≤ 64) : rightF 1 2 ⟨[s], [n, m]⟩ = true := by
  simp only [rightF, List.length_singleton, List.length_cons, List.length_nil, List.any_cons, List.any_nil, Bool.or_false, decide_true, Bool.and_self, Bool.true_and, Bool.not_eq_true', decide_eq_false_iff_not]
  omega
theorem one_size (k : Nat) : (one k).size = 1 := rfl
theorem ck_many {text : ByteArray} (hb : text.size ≤ 60) {i : Nat} (hi : i < 30) : checkE 1 2 (valsI (flat (batsM text i))) (batM text i) = 0 := by
  refine check_ok (by simp [batM]) (fun f hf => ?_) ?_
  · unfold batM at hf
    rw [List.mem_map] at hf
    obtain ⟨k, -, rfl⟩ := hf
    refine right_two ?_
    rw [ByteArray.size_append, one_size]
    omega
  · rw [← valsI_append]
    unfold valsI
    have h := puts_size [] (col 0 (flat (batsM text i) ++ batM text i))
    have e : (col 0 (flat (batsM text i) ++ batM text i)).length = 64 * i + 64 := by
      unfold col; rw [List.length_map, List.length_append, flat_many_len]; simp [batM]
    simp only [List.length_nil] at h
    omega
theorem short_many {text : ByteArray} (hb : text.size ≤ 60) (i : Nat) : ∀ f ∈ batM text i, shortF f := fun f hf s hs => by
  unfold batM at hf
  rw [List.mem_map] at hf
  obtain ⟨k, -, rfl⟩ := hf
  simp only [fm, List.mem_singleton] at hs
  subst hs
  rw [ByteArray.size_append, one_size]
  omega
theorem cut_all (bs : List (List FactT)) : cutB bs 0 bs.length = flat bs := by
  unfold cutB
  rw [clampE_zero, show clampE bs.length (bs.length : Int) = bs.length by unfold clampE; omega, List.take_length, List.drop_zero]
theorem many_vals (text : ByteArray) (n : Nat) : (valsI (flat (batsM text n)) 0).length = if 0 < n then 3 else 0 := by
  by_cases h : 0 < n
  · rw [if_pos h]
    unfold valsI col
    rw [flat_many, List.map_map, show 64 * n = 3 + (64 * n - 3) by omega, List.range_add, List.map_append, puts_append]
    have e : (List.range 3).map ((fun f : FactT => f.dims.getD 0 ByteArray.empty) ∘ fun q => fm text q (q % 64)) = [text ++ one 0, text ++ one 1, text ++ one 2] := by rfl
    rw [e, puts_new (L := []) (by
      rw [List.nil_append]
      refine List.nodup_cons.2 ⟨?_, List.nodup_cons.2 ⟨?_, by simp⟩⟩
      · simp only [List.mem_cons, List.not_mem_nil, or_false, not_or]
        exact ⟨fun e => by have := one_inj e; omega, fun e => by have := one_inj e; omega⟩
      · simp only [List.mem_cons, List.not_mem_nil, or_false]
        exact fun e => by have := one_inj e; omega), puts_old (fun t ht => by
      rw [List.map_map, List.mem_map] at ht
      obtain ⟨q, -, rfl⟩ := ht
      simp only [Function.comp, fm, List.getD_cons_zero, List.nil_append]
      obtain ⟨r, hr, e⟩ : ∃ r, r < 3 ∧ one ((3 + q) % 64) = one r := ⟨((3 + q) % 64) % 3, by omega, one_mod (by omega)⟩
      rw [e]
      match r, hr with
      | 0, _ => simp
      | 1, _ => simp
      | 2, _ => simp)]
    rfl
  · obtain rfl : n = 0 := by omega
    rfl
theorem cntF_append (i : Nat) (s : ByteArray) (a b : List FactT) : cntF i s (a ++ b) = cntF i s a + cntF i s b := by unfold cntF; rw [List.filter_append, List.length_append]
theorem many_match (text : ByteArray) (n : Nat) : cntF 0 (text ++ one 0) (flat (batsM text n)) = 22 * n := by
  induction n with
  | zero => rfl
  | succ n ih =>
    rw [batsM_succ, flat_append, flat_one, cntF_append, ih]
    have : cntF 0 (text ++ one 0) (batM text n) = 22 := by
      unfold cntF batM
      rw [List.filter_map, List.length_map]
      have e : ((fun f : FactT => decide (f.dims.getD 0 ByteArray.empty = text ++ one 0)) ∘ fun k => fm text (n * 64 + k) k) = fun k => decide (k % 3 = 0) := by
        funext k
        exact one_dec text k
      rw [e]
      rfl
    omega
end Go.Proofs.Ytdpgpcffhhdpiaa
