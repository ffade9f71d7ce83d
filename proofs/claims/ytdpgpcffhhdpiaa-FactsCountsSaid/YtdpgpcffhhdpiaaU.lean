/- FactsFull: the plain law. -/
import Derived.Test.YtdpgpcffhhdpiaaT
namespace Go.Proofs.Ytdpgpcffhhdpiaa
open Go.RowKit Go.Maps
set_option linter.unusedVariables false
set_option linter.unusedSimpArgs false

def two (i k : Nat) : ByteArray := ⟨#[i.toUInt8, k.toUInt8]⟩
def fb (base : ByteArray) (i k : Nat) : FactT := ⟨[base ++ two i k], [1]⟩
def batF (base : ByteArray) (i : Nat) : List FactT := (List.range 64).map (fb base i)
def batsF (base : ByteArray) (n : Nat) : List (List FactT) := (List.range n).map (batF base)
theorem batsF_succ (base : ByteArray) (n : Nat) : batsF base (n + 1) = batsF base n ++ [batF base n] := by unfold batsF; rw [List.range_succ, List.map_append]; rfl
theorem flat_bats (base : ByteArray) (n : Nat) : flat (batsF base n) = (List.range (64 * n)).map (fun q => fb base (q / 64) (q % 64)) := by
  induction n with
  | zero => rfl
  | succ n ih =>
    rw [batsF_succ, flat_append, flat_one, ih, Nat.mul_succ, List.range_add, List.map_append]
    congr 1
    unfold batF
    rw [List.map_map]
    refine List.map_congr_left (fun k hk => ?_)
    have := List.mem_range.1 hk
    simp only [Function.comp]
    rw [show (64 * n + k) / 64 = n by omega, show (64 * n + k) % 64 = k by omega]
theorem flat_bats_len (base : ByteArray) (n : Nat) : (flat (batsF base n)).length = 64 * n := by rw [flat_bats]; simp
theorem two_inj {base : ByteArray} {i k j m : Nat} (hi : i < 256) (hk : k < 256) (hj : j < 256) (hm : m < 256) (h : base ++ two i k = base ++ two j m) : i = j ∧ k = m := by
  have h1 := congrArg ByteArray.data h
  rw [ByteArray.data_append, ByteArray.data_append] at h1
  have h2 := congrArg Array.toList h1
  rw [Array.toList_append, Array.toList_append] at h2
  have h3 := List.append_cancel_left h2
  simp only [two, List.cons.injEq, and_true] at h3
  have e1 := congrArg UInt8.toNat h3.1
  have e2 := congrArg UInt8.toNat h3.2
  simp only [Nat.toUInt8_eq, UInt8.toNat_ofNat'] at e1 e2
  omega
theorem puts_new {L ts : List ByteArray} (h : (L ++ ts).Nodup) : puts L ts = L ++ ts := by
  unfold puts
  induction ts generalizing L with
  | nil => simp
  | cons t ts ih =>
    rw [List.foldl_cons, putL_new (fun hm => by
      rw [List.nodup_append] at h
      exact h.2.2 t hm t (by simp) rfl), ih (by simpa using h)]
    simp
theorem puts_old {L ts : List ByteArray} (h : ∀ t ∈ ts, t ∈ L) : puts L ts = L := by
  unfold puts
  induction ts with
  | nil => rfl
  | cons t ts ih => rw [List.foldl_cons, putL_in (h t (by simp)), ih (fun t ht => h t (by simp [ht]))]
/-- the texts of all facts -/
def many : Nat := 4096
def txt (base : ByteArray) : List ByteArray := (List.range many).map (fun q => base ++ two (q / 64) (q % 64))
theorem col_bats (base : ByteArray) : col 0 (flat (batsF base 64)) = txt base := by
  unfold col txt
  rw [flat_bats, List.map_map]
  rw [show 64 * 64 = many from rfl]
  rfl
theorem txt_nodup (base : ByteArray) : (txt base).Nodup := by
  unfold txt
  refine List.Pairwise.map _ (fun a b hab => ?_) (List.pairwise_lt_range.imp_of_mem (S := fun a b => a < b ∧ a < 4096 ∧ b < 4096) (fun ha hb h => ⟨h, by have := List.mem_range.1 ha; unfold many at this; omega, by have := List.mem_range.1 hb; unfold many at this; omega⟩))
  intro he
  have := two_inj (by omega) (by omega) (by omega) (by omega) he
  omega
theorem vals_bats (base : ByteArray) : valsI (flat (batsF base 64)) 0 = txt base := by
  unfold valsI
  rw [col_bats, puts_new (by rw [List.nil_append]; exact txt_nodup base), List.nil_append]
theorem txt_len (base : ByteArray) : (txt base).length = 4096 := by simp [txt, many]
theorem txt_size {base t : ByteArray} (h : t ∈ txt base) : t.size = base.size + 2 := by
  unfold txt at h
  rw [List.mem_map] at h
  obtain ⟨q, -, rfl⟩ := h
  rw [ByteArray.size_append]; rfl
def olds (base : ByteArray) (k : Nat) : List FactT := List.replicate k ⟨[base ++ ⟨#[3, 4]⟩], [2]⟩
def freshF (base : ByteArray) : FactT := ⟨[base ++ ⟨#[110, 101, 119]⟩], [3]⟩
theorem two34 : two (196 / 64) (196 % 64) = ⟨#[3, 4]⟩ := by kernel_rfl
theorem old_in (base : ByteArray) : base ++ ⟨#[3, 4]⟩ ∈ txt base := by
  have h : (196 : Nat) ∈ List.range many := by rw [List.mem_range]; unfold many; omega
  have h2 := List.mem_map_of_mem (f := fun q => base ++ two (q / 64) (q % 64)) h
  rw [two34] at h2
  exact h2
theorem new_out (base : ByteArray) : base ++ ⟨#[110, 101, 119]⟩ ∉ txt base := fun h => by
  have := txt_size h
  rw [ByteArray.size_append] at this
  have e : (⟨#[110, 101, 119]⟩ : ByteArray).size = 3 := rfl
  omega
theorem check_ok {L : Nat → List ByteArray} {l : List FactT} {m : Nat} (h1 : l.length ≤ 64) (h2 : ∀ f ∈ l, rightF 1 m f = true) (h3 : (puts (L 0) (col 0 l)).length ≤ 4096) : checkE 1 m L l = 0 := by
  unfold checkE
  rw [if_neg (by omega), if_neg (by rw [List.any_eq_true]; rintro ⟨f, hf, hh⟩; rw [h2 f hf] at hh; cases hh), if_neg (by
    rw [List.any_eq_true]; rintro ⟨i, hi, hh⟩
    have : i = 0 := by have := List.mem_range.1 hi; omega
    subst this
    simp at hh; omega)]
theorem right_one {s : ByteArray} {n : Int} (h : s.size ≤ 64) : rightF 1 1 ⟨[s], [n]⟩ = true := by
  simp only [rightF, List.length_singleton, List.any_cons, List.any_nil, Bool.or_false, decide_true, Bool.and_self, Bool.true_and, Bool.not_eq_true', decide_eq_false_iff_not]
  omega
theorem ck_bat {base : ByteArray} (hb : base.size ≤ 60) {i : Nat} (hi : i < 64) : checkE 1 1 (valsI (flat (batsF base i))) (batF base i) = 0 := by
  refine check_ok (by simp [batF]) (fun f hf => ?_) ?_
  · unfold batF at hf
    rw [List.mem_map] at hf
    obtain ⟨k, -, rfl⟩ := hf
    refine right_one ?_
    rw [ByteArray.size_append]
    have e : (two i k).size = 2 := rfl
    omega
  · rw [← valsI_append]
    unfold valsI
    have h := puts_size [] (col 0 (flat (batsF base i) ++ batF base i))
    have e : (col 0 (flat (batsF base i) ++ batF base i)).length = 64 * i + 64 := by
      unfold col; rw [List.length_map, List.length_append, flat_bats_len]; simp [batF]
    simp only [List.length_nil] at h
    omega
theorem col_olds (base : ByteArray) (k : Nat) : ∀ t ∈ col 0 (olds base k), t ∈ txt base := fun t ht => by
  unfold col olds at ht
  rw [List.mem_map] at ht
  obtain ⟨f, hf, rfl⟩ := ht
  rw [List.mem_replicate] at hf
  rw [hf.2]
  exact old_in base
theorem right_olds {base : ByteArray} (hb : base.size ≤ 60) (k : Nat) : ∀ f ∈ olds base k, rightF 1 1 f = true := fun f hf => by
  unfold olds at hf
  rw [List.mem_replicate] at hf
  rw [hf.2]
  refine right_one ?_
  rw [ByteArray.size_append]
  have e : (⟨#[3, 4]⟩ : ByteArray).size = 2 := rfl
  omega
theorem ck_olds {base : ByteArray} (hb : base.size ≤ 60) {k : Nat} (hk : k ≤ 20) : checkE 1 1 (valsI (flat (batsF base 64))) (olds base k) = 0 := by
  refine check_ok (by simp [olds]; omega) (right_olds hb k) ?_
  rw [vals_bats, puts_old (col_olds base k), txt_len]
  omega
theorem col_append (a b : List FactT) : col 0 (a ++ b) = col 0 a ++ col 0 b := by simp [col]
theorem puts_append (L a b : List ByteArray) : puts L (a ++ b) = puts (puts L a) b := by unfold puts; rw [List.foldl_append]
theorem ck_with {base : ByteArray} (hb : base.size ≤ 60) {k : Nat} (hk : k ≤ 20) : checkE 1 1 (valsI (flat (batsF base 64))) (olds base k ++ [freshF base]) = 12 := by
  unfold checkE
  rw [if_neg (by simp [olds]; omega), if_neg (by
    rw [List.any_eq_true]; rintro ⟨f, hf, hh⟩
    rw [List.mem_append] at hf
    rcases hf with hf | hf
    · rw [right_olds hb k f hf] at hh; cases hh
    · rw [List.mem_singleton] at hf
      subst hf
      have : rightF 1 1 (freshF base) = true := right_one (by
        rw [ByteArray.size_append]
        have e : (⟨#[110, 101, 119]⟩ : ByteArray).size = 3 := rfl
        omega)
      rw [this] at hh; cases hh), if_pos (by
    rw [List.any_eq_true]
    refine ⟨0, by simp, ?_⟩
    rw [col_append, puts_append, vals_bats, puts_old (col_olds base k)]
    have e : puts (txt base) (col 0 [freshF base]) = txt base ++ [base ++ ⟨#[110, 101, 119]⟩] := by
      unfold puts col
      simp only [List.map_cons, List.map_nil, List.foldl_cons, List.foldl_nil]
      exact putL_new (new_out base)
    rw [e, List.length_append, txt_len]
    rfl)]
theorem full_len (base : ByteArray) (k : Nat) : (flat (batsF base 64 ++ [olds base k])).length = 4096 + k := by
  rw [flat_append, flat_one, List.length_append, flat_bats_len]; simp [olds]
theorem full_vals (base : ByteArray) (k : Nat) : (valsI (flat (batsF base 64 ++ [olds base k])) 0).length = 4096 := by
  rw [flat_append, flat_one, valsI_append, vals_bats, puts_old (col_olds base k), txt_len]
theorem full_match (base : ByteArray) (k : Nat) (b : Int) : cntF 0 (base ++ ⟨#[110, 101, 119]⟩) (cutB (batsF base 64 ++ [olds base k]) 0 b) = 0 := by
  unfold cntF
  rw [List.length_eq_zero_iff, List.filter_eq_nil_iff]
  intro f hf
  have hf2 : f ∈ flat (batsF base 64 ++ [olds base k]) := by
    rw [cut_eq] at hf
    exact List.mem_of_mem_drop (List.mem_of_mem_take hf)
  rw [flat_append, flat_one, List.mem_append] at hf2
  have : f.dims.getD 0 ByteArray.empty ∈ txt base := by
    rcases hf2 with h | h
    · rw [← col_bats]; exact List.mem_map.2 ⟨f, h, rfl⟩
    · exact col_olds base k _ (List.mem_map.2 ⟨f, h, rfl⟩)
  simp only [decide_eq_true_eq]
  intro he
  rw [he] at this
  exact new_out base this
theorem FactsN.lower {A A' : Nat} {w : World} {v : Value} {l : List FactT} (h : FactsN A w v l) (hA : A' ≤ A) : FactsN A' w v l := by
  obtain ⟨ps, h1, h2, h3⟩ := h
  exact ⟨ps, h1, owns_lower h2 hA, fun k f p hf hp => ⟨owns_lower (h3 k f p hf hp).1 hA, owns_lower (h3 k f p hf hp).2 hA⟩⟩
end Go.Proofs.Ytdpgpcffhhdpiaa
