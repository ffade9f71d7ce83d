/- Text and Rank of any number. -/
import Derived.Test.YtiihnepfcgmghaaV
namespace Go.Proofs.Ytiihnepfcgmghaa
open Go.RowKit Go.Maps
set_option linter.unusedVariables false
set_option linter.unusedSimpArgs false

def inR (l : List ByteArray) (n : Int) : Bool := decide (0 ≤ n) && decide (n < l.length)
def textV (l : List ByteArray) (n : Int) : ByteArray := if inR l n then l.getD n.toNat ByteArray.empty else ⟨#[]⟩
def rankN (l : List ByteArray) (i : Nat) : Nat := l.countP (fun t => ltS t (l.getD i ByteArray.empty))
def rankV (l : List ByteArray) (n : Int) : Nat := if inR l n then rankN l n.toNat else 0
theorem inR_yes {l : List ByteArray} {i : Nat} (h : i < l.length) : inR l (i : Int) = true := by unfold inR; simp; omega
theorem inR_cases (l : List ByteArray) (n : Int) : (inR l n = true ∧ ∃ i : Nat, n = i ∧ i < l.length) ∨ (inR l n = false ∧ (n < 0 ∨ (0 ≤ n ∧ (l.length : Int) ≤ n))) := by
  unfold inR
  by_cases h1 : 0 ≤ n
  · by_cases h2 : n < l.length
    · refine .inl ⟨by simp [h1, h2], n.toNat, by omega, by omega⟩
    · refine .inr ⟨by simp [h2], .inr ⟨h1, by omega⟩⟩
  · refine .inr ⟨by simp [h1], .inl (by omega)⟩
theorem rtext29 (R : Nat) (l : List ByteArray) (n : Int) (hn : -9223372036854775808 ≤ n ∧ n ≤ 9223372036854775807) (w : World) {a : Option Addr} {c : Nat} (h : RefQ R w l a c) : Calls Try.prog 29 #[ptrV R, .int .i64 n] w fun e w' => e = .returned (.tuple #[.string (textV l n), .bool (inR l n)]) ∧ w = w' := by
  unfold ptrV textV
  have c0 := h.cell
  rcases inR_cases l n with ⟨e, i, rfl, hi⟩ | ⟨e, h1 | ⟨h1, h2⟩⟩
  · rw [e, if_pos rfl]
    have hd1 : decide ((i : Int) < 0) = false := decide_eq_false (by omega)
    have hd2 : decide ((l.length : Int) ≤ i) = false := decide_eq_false (by omega)
    obtain ⟨b, off, rfl, -⟩ := h.some_ (by omega)
    obtain ⟨-, c1⟩ := h.text b off rfl i hi
    rw [Int.toNat_natCast]
    generalize l.getD i ByteArray.empty = t at *
    clear h e
    go_enter Try.func29, Try.ntmps29
    go_wp2_with fail
    go_ret2
    exact ⟨rfl, rfl⟩
  · rw [e, if_neg (by simp)]
    have hd1 : decide (n < 0) = true := decide_eq_true (by omega)
    clear h e
    go_enter Try.func29, Try.ntmps29
    go_wp2_with fail
    go_ret2
    exact ⟨rfl, rfl⟩
  · rw [e, if_neg (by simp)]
    have hd1 : decide (n < 0) = false := decide_eq_false (by omega)
    have hd2 : decide ((l.length : Int) ≤ n) = true := decide_eq_true (by omega)
    have hn0 : ¬ n < 0 := by omega
    clear h e
    go_enter Try.func29, Try.ntmps29
    go_wp2_with fail
    go_ret2
    exact ⟨rfl, rfl⟩
theorem textAll {F : Nat → Prop} {D : Nat} {w : World} {l : List ByteArray} (h : Dic F D w l) (n : Int) (hn : -9223372036854775808 ≤ n ∧ n ≤ 9223372036854775807) : Calls Try.prog 16 #[ptrV D, .int .i64 n] w fun e w' => e = .returned (.tuple #[.string (textV l n), .bool (inR l n)]) ∧ w = w' := by
  unfold textV
  rcases inR_cases l n with ⟨e, i, rfl, hi⟩ | ⟨e, h1⟩
  · rw [e, if_pos rfl, Int.toNat_natCast]
    exact textD h hi
  · rw [e, if_neg (by simp)]
    obtain ⟨vo, h⟩ := h.any
    have hz := h.size
    obtain ⟨⟨vt, vm, hb, ho, hf, hm⟩, hd, -, hsm⟩ := h
    obtain ⟨a, c, rfl⟩ := owns_form ho
    have c0 : w.cell? ⟨D, 0, none⟩ = some (.slice a l.length c) := Blk.cell hb 0
    unfold ptrV
    clear hm ho hf hb hsm e
    rcases h1 with h1 | ⟨h1, h2⟩
    · have hd1 : decide (n < 0) = true := decide_eq_true (by omega)
      go_enter Try.func16, Try.ntmps16
      go_wp2_with fail
      go_ret2
      exact ⟨rfl, rfl⟩
    · have hd1 : decide (n < 0) = false := decide_eq_false (by omega)
      have hd2 : decide ((l.length : Int) ≤ n) = true := decide_eq_true (by omega)
      have hn0 : ¬ n < 0 := by omega
      go_enter Try.func16, Try.ntmps16
      go_wp2_with fail
      go_ret2
      exact ⟨rfl, rfl⟩
/-- a number's place is how many texts are below its own -/
theorem place_low {l : List ByteArray} {s : List Nat} (hn : l.Nodup) (hs : IsSort l s) {i j : Nat} (hj : s[j]? = some i) : lowC l s (l.getD i ByteArray.empty) = j := by
  obtain ⟨hjl, e⟩ := List.getElem?_eq_some_iff.1 hj
  have key : ∀ (k : Nat) (hk : k < s.length), ltS (l.getD s[k] ByteArray.empty) (l.getD i ByteArray.empty) = decide (k < j) := fun k hk => by
    rcases ranks_tri hn hs hj (List.getElem?_eq_getElem hk) rfl rfl with ⟨h1, h2⟩ | ⟨h1, h2⟩ | ⟨h1, h2, -⟩
    · rw [h2]; simp [h1]
    · subst h1; rw [h2, ltS_irrefl]; simp
    · rw [h2]; simp; omega
  unfold lowC
  rw [← List.take_append_drop j s, List.countP_append]
  have e1 : (s.take j).countP (fun x => ltS (l.getD x ByteArray.empty) (l.getD i ByteArray.empty)) = j := by
    have : (s.take j).countP (fun x => ltS (l.getD x ByteArray.empty) (l.getD i ByteArray.empty)) = (s.take j).length := by
      rw [List.countP_eq_length]
      intro x hx
      obtain ⟨k, hk, rfl⟩ := List.getElem_of_mem hx
      rw [List.length_take] at hk
      rw [List.getElem_take, key k (by omega)]
      simp; omega
    rw [this, List.length_take]; omega
  have e2 : (s.drop j).countP (fun x => ltS (l.getD x ByteArray.empty) (l.getD i ByteArray.empty)) = 0 := by
    rw [List.countP_eq_zero]
    intro x hx
    obtain ⟨k, hk, rfl⟩ := List.getElem_of_mem hx
    rw [List.length_drop] at hk
    rw [List.getElem_drop, key (j + k) (by omega)]
    simp
  rw [e1, e2]; omega
theorem lowC_list {l : List ByteArray} {s : List Nat} (hs : IsSort l s) (t : ByteArray) : lowC l s t = l.countP (fun x => ltS x t) := by
  unfold lowC
  rw [hs.1.countP_eq]
  have e : l = (List.range l.length).map (fun i => l.getD i ByteArray.empty) := by
    apply List.ext_getElem
    · simp
    · intro i h1 h2
      simp [List.getD_eq_getElem?_getD, h1]
  conv => rhs; rw [e, List.countP_map]
  rfl
theorem place_rank {l : List ByteArray} {s : List Nat} (hn : l.Nodup) (hs : IsSort l s) {i j : Nat} (hj : s[j]? = some i) : rankN l i = j := by
  unfold rankN
  rw [← lowC_list hs, place_low hn hs hj]
theorem DF.rankAll {w0 w : World} {F : Nat → Prop} {D : Nat} {l : List ByteArray} (h : DF w0 F D w l) (hl : l.Nodup) (n : Int) (hn : -9223372036854775808 ≤ n ∧ n ≤ 9223372036854775807) : Calls Try.prog 17 #[ptrV D, .int .i64 n] w fun e w' => ∃ k, e = .returned (.tuple #[.int .i64 ((rankV l n : Nat) : Int), .bool (inR l n)]) ∧ Turn F w w' ∧ w.heap.size ≤ k ∧ DF w0 (fun j => F j ∨ (w.heap.size ≤ j ∧ j < k)) D w' l := by
  unfold rankV
  rcases inR_cases l n with ⟨e, i, rfl, hi⟩ | ⟨e, h1⟩
  · rw [e, if_pos rfl, Int.toNat_natCast]
    refine (h.rank hi).mono ?_
    rintro e w' ⟨j, s, k, rfl, hs, hj, ht, hk, hd⟩
    exact ⟨k, by rw [place_rank hl hs hj], ht, hk, hd⟩
  · rw [e, if_neg (by simp)]
    have HH := Lib.hid h
    have hfin : ∃ k, Turn F w w ∧ w.heap.size ≤ k ∧ DF w0 (fun j => F j ∨ (w.heap.size ≤ j ∧ j < k)) D w l := ⟨w.heap.size, Turn.refl _ _, Nat.le_refl _, h.below, fun j hj => h.sub j (by rcases hj with hj | hj; exact hj; omega), h.dic.mono (fun j hj => .inl hj)⟩
    have HF := Lib.hid hfin
    obtain ⟨vo, h⟩ := h.dic.any
    have hz := h.size
    obtain ⟨⟨vt, vm, hb, ho, hf, hm⟩, hd, -, hsm⟩ := h
    obtain ⟨a, c, rfl⟩ := owns_form ho
    have c0 : w.cell? ⟨D, 0, none⟩ = some (.slice a l.length c) := Blk.cell hb 0
    unfold ptrV
    clear hm ho hf hb hsm e hfin
    rcases h1 with h1 | ⟨h1, h2⟩
    · have hd1 : decide (n < 0) = true := decide_eq_true (by omega)
      go_enter Try.func17, Try.ntmps17
      go_wp2_with fail
      go_ret2
      obtain ⟨k, h1, h2, h3⟩ := HF.out
      first | exact ⟨k, rfl, h1, h2, h3⟩ | exact ⟨rfl, h1, k, h2, h3⟩
    · have hd1 : decide (n < 0) = false := decide_eq_false (by omega)
      have hd2 : decide ((l.length : Int) ≤ n) = true := decide_eq_true (by omega)
      have hn0 : ¬ n < 0 := by omega
      go_enter Try.func17, Try.ntmps17
      go_wp2_with fail
      go_ret2
      obtain ⟨k, h1, h2, h3⟩ := HF.out
      first | exact ⟨k, rfl, h1, h2, h3⟩ | exact ⟨rfl, h1, k, h2, h3⟩
theorem countP_step {l : List ByteArray} (p : ByteArray → Bool) {i : Nat} (hi : i < l.length) : (l.take (i + 1)).countP p = (l.take i).countP p + (if p (l.getD i ByteArray.empty) then 1 else 0) := by
  rw [List.take_succ_eq_append_getElem hi, List.countP_append, List.getD_eq_getElem?_getD, List.getElem?_eq_getElem hi]
  simp [List.countP_cons]
set_option maxRecDepth 100000 in
set_option maxHeartbeats 4000000 in
theorem rrank30 (R : Nat) (l : List ByteArray) (n : Int) (hn : -9223372036854775808 ≤ n ∧ n ≤ 9223372036854775807) (w : World) {a : Option Addr} {c : Nat} (h : RefQ R w l a c) (hl : l.length ≤ 4096) (hsh : ∀ s ∈ l, s.size ≤ 64) : Calls Try.prog 30 #[ptrV R, .int .i64 n] w fun e w' => e = .returned (.tuple #[.int .i64 ((rankV l n : Nat) : Int), .bool (inR l n)]) ∧ Below w.heap.size w w' := by
  unfold ptrV rankV
  have c0 := h.cell
  have H := Lib.hid h
  rcases inR_cases l n with ⟨e, i, rfl, hi⟩ | ⟨e, h1 | ⟨h1, h2⟩⟩
  · rw [e, if_pos rfl, Int.toNat_natCast]
    have hd1 : decide ((i : Int) < 0) = false := decide_eq_false (by omega)
    have hd2 : decide ((l.length : Int) ≤ i) = false := decide_eq_false (by omega)
    obtain ⟨b, off, rfl, -⟩ := h.some_ (by omega)
    have HSH := Lib.hid hsh
    clear h e hsh
    go_enter Try.func30, Try.ntmps30
    go_wp2_with fail
    go_loopw [6, 7] (fun u v wr => ∃ j : Nat, j ≤ l.length ∧ v = .int .i64 j ∧ u = .int .i64 (((l.take j).countP (fun t => ltS t (l.getD i ByteArray.empty)) : Nat) : Int) ∧ Below w.heap.size w wr) (fun _ v _ => l.length - (intOf v).toNat)
    case atStart => exact ⟨0, by omega, rfl, rfl, Below.refl _ _⟩
    case round =>
      obtain ⟨j, hj, rfl, rfl, hB⟩ := hrel
      have HQ := Lib.hid (H.out.step hB)
      have c0 := HQ.out.cell
      have HB := Lib.hid hB
      clear hB
      by_cases h1 : j < l.length
      · have hd3 : decide ((j : Int) < l.length) = true := decide_eq_true (by omega)
        obtain ⟨-, c1⟩ := HQ.out.text b off rfl j h1
        obtain ⟨-, c2⟩ := HQ.out.text b off rfl i hi
        have HC := Lib.hid (countP_step (l := l) (fun t => ltS t (l.getD i ByteArray.empty)) h1)
        have hcl : (l.take j).countP (fun t => ltS t (l.getD i ByteArray.empty)) ≤ 4096 := Nat.le_trans List.countP_le_length (by rw [List.length_take]; omega)
        obtain ⟨q, hq⟩ : ∃ q, q = (l.take j).countP (fun t => ltS t (l.getD i ByteArray.empty)) := ⟨_, rfl⟩
        rw [← hq] at HC hcl ⊢
        obtain ⟨t, ht⟩ : ∃ t, t = l.getD j ByteArray.empty := ⟨_, rfl⟩
        obtain ⟨u, hu⟩ : ∃ u, u = l.getD i ByteArray.empty := ⟨_, rfl⟩
        have h64 : (64 : Nat) ≤ maxLen := by decide
        have HL := Lib.hid (fun wx => less39 t u (Nat.le_trans (ht ▸ HSH.out _ (getD_mem h1)) h64) (Nat.le_trans (hu ▸ HSH.out _ (getD_mem hi)) h64) wx)
        rw [← ht] at c1 HC
        rw [← hu] at c2 HC
        have HU := Lib.hid hu
        clear hq ht hu
        have HW := Lib.hid (H.out)
        go_wp2_with fail
        go_quiet ((go_at_call 39; exact Calls.quiet_of (HL.out _)))
        have hq5 : q ≤ 9223372036854775807 := by omega
        cases hlt : ltS t u
        · rw [hlt] at HC
          go_wp2_with fail
          go_roundw
          case rel => exact ⟨j + 1, by omega, by go_num, by rw [← HU.out, HC.out]; rfl, Below.drewN HB.out _⟩
          case measure => simp [intOf]; omega
        · rw [hlt] at HC
          go_wp2_with fail
          go_roundw
          case rel => exact ⟨j + 1, by omega, by go_num, by rw [← HU.out, HC.out]; rfl, Below.drewN HB.out _⟩
          case measure => simp [intOf]; omega
      · have hd3 : decide ((j : Int) < l.length) = false := decide_eq_false (by omega)
        obtain rfl : j = l.length := by omega
        rw [List.take_length]
        go_wp2_with fail
        go_ret2
        refine ⟨?_, HB.out⟩
        unfold rankN
        rfl
  · rw [e, if_neg (by simp)]
    have hd1 : decide (n < 0) = true := decide_eq_true (by omega)
    clear h e
    go_enter Try.func30, Try.ntmps30
    go_wp2_with fail
    go_ret2
    exact ⟨rfl, Below.refl _ _⟩
  · rw [e, if_neg (by simp)]
    have hd1 : decide (n < 0) = false := decide_eq_false (by omega)
    have hd2 : decide ((l.length : Int) ≤ n) = true := decide_eq_true (by omega)
    have hn0 : ¬ n < 0 := by omega
    clear h e
    go_enter Try.func30, Try.ntmps30
    go_wp2_with fail
    go_ret2
    exact ⟨rfl, Below.refl _ _⟩
end Go.Proofs.Ytiihnepfcgmghaa
