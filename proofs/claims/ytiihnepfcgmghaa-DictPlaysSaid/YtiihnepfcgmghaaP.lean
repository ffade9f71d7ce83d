/- What the other laws of the dictionary share: same, rows that are kept, Put of any text; the plain law of stretches. -/
import Derived.Test.YtiihnepfcgmghaaO
namespace Go.Proofs.Ytiihnepfcgmghaa
open Go.RowKit Go.Maps
set_option linter.unusedVariables false
set_option linter.unusedSimpArgs false

theorem same14 (B1 B2 : Nat) (v1 v2 : Value) (l : List Int) (w : World) (h1 : RowI B1 w v1 l) (h2 : RowI B2 w v2 l) :
    Calls Try.prog 14 #[v1, v2] w fun e w' => e = .returned (.bool true) ∧ Below w.heap.size w w' := by
  obtain ⟨a1, cap1, rfl, hcap1, hmax1, hc1⟩ := h1.open
  obtain ⟨a2, cap2, rfl, hcap2, hmax2, hc2⟩ := h2.open
  have HC1 := Lib.hid hc1
  have HC2 := Lib.hid hc2
  clear hc1 hc2
  go_enter Try.func14, Try.ntmps14
  go_wp2_with fail
  go_loopw [5] (fun i wr => ∃ k n : Nat, k ≤ l.length ∧ i = .int .i64 k ∧ wr = w.drewN n) (fun i _ => l.length - (intOf i).toNat)
  case atStart => exact ⟨0, 0, by omega, rfl, rfl⟩
  case round =>
    obtain ⟨k, n, hk, rfl, rfl⟩ := hrel
    by_cases hlt : k < l.length
    · obtain ⟨b1, off1, rfl, hb1, hcell1⟩ := HC1.out (by omega)
      obtain ⟨b2, off2, rfl, hb2, hcell2⟩ := HC2.out (by omega)
      have g1 := hcell1 k hlt
      have g2 := hcell2 k hlt
      generalize l.getD k 0 = y at g1 g2
      have hkI : decide ((k : Int) < l.length) = true := decide_eq_true (by omega)
      clear hcell1 hcell2 HC1 HC2
      go_wp2_with fail
      go_quiet (fail)
      go_wp2_with fail
      go_roundw
      case rel => exact ⟨k + 1, _, by omega, by go_num, rfl⟩
      case measure => simp [intOf]; omega
    · have hkI : decide ((k : Int) < l.length) = false := decide_eq_false (by omega)
      clear HC1 HC2
      go_wp2_with fail
      go_ret
      exact ⟨rfl, Below.drewN (Below.refl _ _) n⟩

theorem Row.take {B : Nat} {w : World} {a : Option Addr} {n cap size m : Nat} {xs : List Value} (h : Row B w (.slice a n cap) n size xs) (hm : m ≤ n) : Row B w (.slice a m cap) m size (xs.take (m * size)) := by
  obtain ⟨hl, a', cap', hv, h1, h2, h3⟩ := h
  injection hv with e1 e2 e3
  subst e1 e3
  have hle : m * size ≤ n * size := Nat.mul_le_mul_right _ hm
  refine ⟨by rw [List.length_take]; omega, a, cap, rfl, by omega, h2, fun h0 => ?_⟩
  obtain ⟨b, off, ha, hb, hc⟩ := h3 (by omega)
  refine ⟨b, off, ha, hb, fun j hj => ?_⟩
  rw [hc j (by omega), List.getD_eq_getElem?_getD, List.getD_eq_getElem?_getD, List.getElem?_take_of_lt hj]
theorem natV_ints (s : List Nat) : natV s = (s.map Int.ofNat).map (Value.int .i64) := by unfold natV; rw [List.map_map]; rfl
theorem natV_one (s : List Nat) : ∀ u ∈ natV s, u.oneCell' = true := fun u hu => by unfold natV at hu; rw [List.mem_map] at hu; obtain ⟨x, -, rfl⟩ := hu; rfl
theorem rowI_nat {B n : Nat} {w : World} {v : Value} {s : List Nat} (h : Row B w v n 1 (natV s)) (hn : n = s.length) : RowI B w v (s.map Int.ofNat) := by
  subst hn
  unfold RowI
  rw [List.length_map, ← natV_ints]
  exact h

/-- a row of numbers that the dictionary's calls leave alone -/
structure RowO (w0 : World) (F : Nat → Prop) (w : World) (v : Value) (s : List Nat) : Prop where
  owns : w.ownsRow w0.heap.size 3 1 v s.length (natV s)
  out : ∀ g, v.ownBlock = some g → ¬ F g
section
variable {w0 w w' : World} {F : Nat → Prop} {D : Nat} {l : List ByteArray} {v : Value} {s : List Nat}
theorem RowO.new {k : Nat} (hd : DF w0 F D w l) (hk : w.heap.size ≤ k) (h : w'.ownsRow k 3 1 v s.length (natV s)) : RowO w0 (fun j => F j ∨ (w.heap.size ≤ j ∧ j < k)) w' v s :=
  ⟨owns_lower h (Nat.le_trans hd.below.size hk), fun g hg hF => by
    have := (h.lt g hg).1
    rcases hF with hF | hF
    · have := (hd.sub g hF).2; omega
    · omega⟩
theorem RowO.call {k : Nat} (h : RowO w0 F w v s) (ht : Turn F w w') : RowO w0 (fun j => F j ∨ (w.heap.size ≤ j ∧ j < k)) w' v s :=
  ⟨owns_turn h.owns ht h.out, fun g hg hF => by
    have := (h.owns.lt g hg).2
    rcases hF with hF | hF
    · exact h.out g hg hF
    · omega⟩
theorem RowO.below (h : RowO w0 F w v s) (hB : Below w.heap.size w w') : RowO w0 F w' v s :=
  ⟨owns_turn h.owns (Turn.of_below (F := fun _ => False) hB (fun k h1 h2 => by omega)) (fun g hg h => h), h.out⟩
theorem RowO.row (h : RowO w0 F w v s) : RowI w.heap.size w v (s.map Int.ofNat) := rowI_nat (Row.of_owns h.owns) rfl
/-- more is appended -/
theorem RowO.more {v' : Value} {s2 : List Nat} (hd : DF w0 F D w l) (h : RowO w0 F w v s) (hown : w'.ownsRow w0.heap.size 3 1 v' (s.length + s2.length) (natV s ++ natV s2)) (hg : w.grownBy w' v.ownBlock) (hat : v'.ownBlock = v.ownBlock ∨ v'.ownBlock = some w.heap.size) :
    DF w0 F D w' l ∧ RowO w0 F w' v' (s ++ s2) := by
  have ht : Turn (fun g => v.ownBlock = some g) w w' := (Turn.refl (fun g => v.ownBlock = some g) w).grown hg (fun g hg => hg)
  refine ⟨hd.turn ht (fun k hk => ⟨(h.owns.lt k hk).1, h.out k hk⟩), ?_, fun g hg2 hF => ?_⟩
  · rw [List.length_append, show natV (s ++ s2) = natV s ++ natV s2 by unfold natV; rw [List.map_append]]; exact hown
  · rcases hat with e | e
    · exact h.out g (e ▸ hg2) hF
    · rw [e] at hg2
      injection hg2 with hg2
      subst hg2
      have := (hd.sub _ hF).2
      omega
theorem RowO.first {v' : Value} {s2 : List Nat} (hd : DF w0 F D w l) (hown : w'.ownsRow w0.heap.size 3 1 v' s2.length (natV s2)) (hg : w.grownBy w' (Value.slice none 0 0).ownBlock) (hat : v'.ownBlock = (Value.slice none 0 0).ownBlock ∨ v'.ownBlock = some w.heap.size) :
    DF w0 F D w' l ∧ RowO w0 F w' v' s2 := by
  have h0 : RowO w0 F w (.slice none 0 0) [] := ⟨World.ownsRow_nil _ _ _ _, fun g h => by cases h⟩
  have h := RowO.more (s2 := s2) hd h0 (by rw [List.length_nil, Nat.zero_add]; exact hown) hg hat
  exact h
theorem RowO.nil (w0 : World) (F : Nat → Prop) (w : World) : RowO w0 F w (.slice none 0 0) [] := ⟨World.ownsRow_nil _ _ _ _, fun g h => by cases h⟩
end
theorem putL_mem {l : List ByteArray} {s t : ByteArray} : t ∈ putL l s ↔ t ∈ l ∨ t = s := by
  unfold putL
  cases h : idx l s with
  | none => simp
  | some i =>
    have := List.mem_of_getElem? (idx_get h)
    constructor
    · exact fun h => .inl h
    · rintro (h | rfl)
      · exact h
      · exact this
theorem putL_nodup {l : List ByteArray} {s : ByteArray} (h : l.Nodup) : (putL l s).Nodup := by
  unfold putL
  cases hi : idx l s with
  | some i => exact h
  | none =>
    have := idx_none.1 hi
    rw [List.nodup_append]
    exact ⟨h, by simp, fun a ha b hb => by simp at hb; subst hb; intro e; subst e; exact this ha⟩
theorem putL_len (l : List ByteArray) (s : ByteArray) : (putL l s).length ≤ l.length + 1 := by unfold putL; cases idx l s <;> simp
theorem putN_idx {l : List ByteArray} {s : ByteArray} (h : l.Nodup) : idx (putL l s) s = some (putN l s) := by
  have hn := putL_nodup (s := s) h
  unfold putL putN at *
  cases hi : idx l s with
  | some i => exact hi
  | none =>
    rw [hi] at hn
    exact idx_at hn (by simp)
theorem idx_keep {l : List ByteArray} {s t : ByteArray} (hl : l.Nodup) {i : Nat} (h : idx l t = some i) : idx (putL l s) t = some i := by
  refine idx_at (putL_nodup hl) ?_
  have := idx_get h
  unfold putL
  cases idx l s with
  | some _ => exact this
  | none =>
    have h2 := idx_lt h
    show (l ++ [s])[i]? = some t
    rw [List.getElem?_append_left h2]; exact this
/-- what Put leaves -/
def putT (l : List ByteArray) (s : ByteArray) : List ByteArray := if 64 < s.size then l else putL l s
def putId (l : List ByteArray) (s : ByteArray) : Int := if 64 < s.size then 0 else (putN l s : Nat)
def putEr (s : ByteArray) : Int := if 64 < s.size then 45 else 0
theorem DF.put {w0 w : World} {F : Nat → Prop} {D : Nat} {l : List ByteArray} (h : DF w0 F D w l) (s : ByteArray) (hs : s.size ≤ maxLen) (hl : l.length < 4096) :
    Calls Try.prog 10 #[ptrV D, .string s] w fun e w' => ∃ k, e = .returned (.tuple #[.int .i64 (putId l s), .int .i64 (putEr s)]) ∧ Turn F w w' ∧ w.heap.size ≤ k ∧ DF w0 (fun j => F j ∨ (w.heap.size ≤ j ∧ j < k)) D w' (putT l s) := by
  unfold putT putId putEr
  by_cases hlong : 64 < s.size
  · rw [if_pos hlong, if_pos hlong, if_pos hlong]
    refine (putD_long D w s hlong hs).mono ?_
    rintro e w' ⟨rfl, rfl⟩
    refine ⟨w.heap.size, rfl, Turn.refl _ _, Nat.le_refl _, h.below, fun j hj => h.sub j ?_, h.dic.mono (fun j hj => .inl hj)⟩
    rcases hj with hj | hj
    · exact hj
    · omega
  · rw [if_neg hlong, if_neg hlong, if_neg hlong]
    unfold putL putN
    cases hi : idx l s with
    | some i =>
      refine (putD_found h.dic s (by omega) hi).mono ?_
      rintro e w' ⟨rfl, rfl⟩
      refine ⟨w.heap.size, rfl, Turn.refl _ _, Nat.le_refl _, h.below, fun j hj => h.sub j ?_, h.dic.mono (fun j hj => .inl hj)⟩
      rcases hj with hj | hj
      · exact hj
      · omega
    | none =>
      refine (h.put_new s (by omega) hi hl).mono ?_
      rintro e w' ⟨rfl, ht, hd⟩
      exact ⟨w'.heap.size, rfl, ht, ht.size, hd⟩
theorem putT_nodup {l : List ByteArray} {s : ByteArray} (h : l.Nodup) : (putT l s).Nodup := by unfold putT; split; exact h; exact putL_nodup h
theorem putT_len (l : List ByteArray) (s : ByteArray) : (putT l s).length ≤ l.length + 1 := by unfold putT; split; omega; exact putL_len l s

/-! ### the plain law of stretches -/
theorem lowC_mono {l : List ByteArray} (s : List Nat) {a b : ByteArray} (h : ltS b a = false) : lowC l s a ≤ lowC l s b := by
  unfold lowC
  refine List.countP_mono_left (fun x _ hx => ?_)
  cases hc : ltS (l.getD x ByteArray.empty) b
  · have h2 := ltS_ntrans hc h
    rw [hx] at h2; cases h2
  · rfl
theorem betw_app {l : List ByteArray} {s : List Nat} {a b c : ByteArray} (h1 : ltS b a = false) (h2 : ltS c b = false) : betw l s a b ++ betw l s b c = betw l s a c := by
  have e1 := lowC_mono (l := l) s h1
  have e2 := lowC_mono (l := l) s h2
  unfold betw
  have e3 : s.drop (lowC l s b) = (s.drop (lowC l s a)).drop (lowC l s b - lowC l s a) := by rw [List.drop_drop]; congr 1; omega
  rw [e3, ← List.take_add]
  congr 1; omega
theorem ltS_empty (t : ByteArray) : ltS t ⟨#[]⟩ = false := by
  rw [ltS_eq]
  show Op.bytesLess t.data.toList [] = false
  cases t.data.toList <;> rfl
theorem lowC_empty (l : List ByteArray) (s : List Nat) : lowC l s ⟨#[]⟩ = 0 := by
  unfold lowC
  rw [List.countP_eq_zero]
  intro x _
  rw [ltS_empty]; simp
theorem betw_empty (l : List ByteArray) (s : List Nat) (t : ByteArray) : betw l s ⟨#[]⟩ t = s.take (lowC l s t) := by
  unfold betw
  rw [lowC_empty]; rfl
theorem betw_len (l : List ByteArray) (s : List Nat) (a b : ByteArray) : (betw l s a b).length ≤ s.length := by
  unfold betw
  rw [List.length_take, List.length_drop]; omega
theorem betw_empty_len (l : List ByteArray) (s : List Nat) (t : ByteArray) : s.take (betw l s ⟨#[]⟩ t).length = betw l s ⟨#[]⟩ t := by
  have h := lowC_le l s t
  rw [betw_empty, List.length_take, Nat.min_eq_left h]
theorem IsSort.len {l : List ByteArray} {s : List Nat} (h : IsSort l s) : s.length = l.length := by
  have := h.1.length_eq; simpa using this
end Go.Proofs.Ytiihnepfcgmghaa
