/- FactsSnapshots: the plain law, and a store with the set of its blocks. -/
import Derived.Test.YtdpgpcffhhdpiaaZA
namespace Go.Proofs.Ytdpgpcffhhdpiaa
open Go.RowKit Go.Maps
set_option linter.unusedVariables false
set_option linter.unusedSimpArgs false

/-- a store whose blocks are F -/
structure StoF (F : Nat → Prop) (w0 : World) (B : Nat) (w : World) (d m : Nat) (bs : List (List FactT)) : Prop where
  below : Below w0.heap.size w0 w
  sub : ∀ k, F k → w0.heap.size ≤ k ∧ k < w.heap.size
  at_ : BAt F B w d m bs
section
variable {F G K K' : Nat → Prop} {w0 w w' : World} {B d m : Nat} {bs : List (List FactT)} {v : Value} {l : List FactT}
theorem StoF.sto (h : StoF F w0 B w d m bs) : Sto w0 w.heap.size B w d m bs := ⟨h.below, Nat.le_refl _, F, h.sub, h.at_⟩
theorem StoF.step (h : StoF F w0 B w d m bs) (hB : Below w.heap.size w w') : StoF F w0 B w' d m bs :=
  ⟨Below.call h.below hB, fun k hk => ⟨(h.sub k hk).1, Nat.lt_of_lt_of_le (h.sub k hk).2 hB.size⟩, h.at_.below hB⟩
theorem StoF.turn (h : StoF F w0 B w d m bs) (ht : Turn G w w') (hG : ∀ k, G k → w0.heap.size ≤ k ∧ ¬ F k) : StoF F w0 B w' d m bs :=
  ⟨h.below.trans (ht.below h.below.size (fun k hk hg => by have := (hG k hg).1; omega)), fun k hk => ⟨(h.sub k hk).1, Nat.lt_of_lt_of_le (h.sub k hk).2 ht.size⟩, h.at_.turn ht (fun k hk hg => (hG k hg).2 hk)⟩
theorem newF (d m : Nat) (hd : 1 ≤ d ∧ d ≤ 6) (hm : 1 ≤ m ∧ m ≤ 4) (w : World) :
    Calls Try.prog 9 #[intV d, intV m] w fun e w' => e = .returned (.tuple #[ptrV w.heap.size, .int .i64 0]) ∧ StoF (fun k => w.heap.size ≤ k ∧ k < w'.heap.size) w w.heap.size w' d m [] :=
  (newB d m hd hm w).mono fun e w' ⟨h1, h2, h3⟩ => ⟨h1, h2, fun k hk => hk, h3⟩
theorem appendF (h : StoF F w0 B w d m bs) (v : Value) (l : List FactT) (hr : RowK F w v l) (hl : ∀ f ∈ l, shortF f) (hbd : (flat bs).length + 64 < 4294967296 ∧ bs.length + 1 < 4294967296) (hck : checkE d m (valsI (flat bs)) l = 0) :
    Calls Try.prog 10 #[ptrV B, v] w fun e w' => e = .returned (.tuple #[intV (bs.length + 1), .int .i64 0]) ∧ Turn F w w' ∧ StoF (fun k => F k ∨ (w.heap.size ≤ k ∧ k < w'.heap.size)) w0 B w' d m (bs ++ [l]) := by
  refine (appendB h.at_ v l hr hl (fun k hk => (h.sub k hk).2) hbd).mono ?_
  rintro e w' hh
  rcases hh with ⟨h0, -⟩ | ⟨-, hb, hc, hd⟩
  · exact absurd hck h0
  · refine ⟨hb, hc, ⟨h.below.trans (hc.below h.below.size (fun k hk hF => by have := h.sub k hF; omega)), fun k hk => ?_, hd⟩⟩
    rcases hk with hk | hk
    · exact ⟨(h.sub k hk).1, Nat.lt_of_lt_of_le (h.sub k hk).2 hc.size⟩
    · exact ⟨Nat.le_trans h.below.size hk.1, hk.2⟩
theorem RowK.turn (h : RowK K w v l) (ht : Turn K w w') (hK : ∀ k, K' k → K k ∨ w.heap.size ≤ k) : RowK K' w' v l := by
  obtain ⟨ps, h1, h2⟩ := h
  exact ⟨ps, h1, fun w'' ht' => h2 w'' (ht.wide ht' hK)⟩
theorem RowK.below (h : RowK K w v l) (hB : Below w.heap.size w w') : RowK K w' v l := h.turn (Turn.of_below hB (fun k h1 h2 => by omega)) (fun k hk => .inl hk)
theorem RowK.mono (h : RowK K w v l) (hK : ∀ k, K' k → K k) : RowK K' w v l := h.turn (Turn.refl _ _) (fun k hk => .inl (hK k hk))
theorem RowK.rowF (h : RowK K w v l) : RowF w.heap.size w v l := h.row (Turn.refl _ _)
end
/-- the batches that came, each as sound as it may be -/
def sbs (bs : List (List FactT)) (i : Nat) : List (List FactT) := (bs.take i).map soundL
theorem sbs_succ {bs : List (List FactT)} {i : Nat} {b : List FactT} (h : bs[i]? = some b) : sbs bs (i + 1) = sbs bs i ++ [soundL b] := by
  unfold sbs; rw [List.take_add_one, h, List.map_append]; rfl
theorem sbs_len {bs : List (List FactT)} {i : Nat} (h : i ≤ bs.length) : (sbs bs i).length = i := by unfold sbs; rw [List.length_map, List.length_take]; omega
theorem sbs_take {bs : List (List FactT)} {i n : Nat} (h : i ≤ n) : (sbs bs n).take i = sbs bs i := by unfold sbs; rw [← List.map_take, List.take_take, Nat.min_eq_left h]
theorem flat_len_le {L : List (List FactT)} {c : Nat} (h : ∀ b ∈ L, b.length ≤ c) : (flat L).length ≤ c * L.length := by
  induction L with
  | nil => simp [flat]
  | cons b L ih =>
    have h1 := h b (by simp)
    have h2 := ih (fun b hb => h b (by simp [hb]))
    unfold flat at *
    rw [List.flatten_cons, List.length_append, List.length_cons, Nat.mul_succ]
    omega
theorem flat_sbs_le (bs : List (List FactT)) (i : Nat) : (flat (sbs bs i)).length ≤ 64 * i := by
  refine Nat.le_trans (flat_len_le (c := 64) (fun b hb => ?_)) (Nat.mul_le_mul_left _ ?_)
  · unfold sbs at hb
    rw [List.mem_map] at hb
    obtain ⟨x, -, rfl⟩ := hb
    exact soundL_le x
  · unfold sbs; rw [List.length_map, List.length_take]; omega
theorem sound_mem {l : List FactT} {f : FactT} (h : f ∈ soundL l) : ∃ g ∈ l, goodS g = true ∧ f = cutS g := by
  unfold soundL at h
  have := List.mem_of_mem_take h
  rw [List.mem_map] at this
  obtain ⟨g, hg, rfl⟩ := this
  rw [List.mem_filter] at hg
  exact ⟨g, hg.1, hg.2, rfl⟩
theorem right_sound {l : List FactT} {f : FactT} (h : f ∈ soundL l) : rightF 2 1 f = true := by
  obtain ⟨g, -, hg, rfl⟩ := sound_mem h
  unfold goodS at hg
  simp only [Bool.and_eq_true, decide_eq_true_eq] at hg
  obtain ⟨⟨⟨g1, g2⟩, g3⟩, g4⟩ := hg
  unfold rightF cutS
  rw [decide_eq_true (by rw [List.length_take]; omega), decide_eq_true (by rw [List.length_take]; omega)]
  simp only [Bool.true_and, Bool.not_eq_true', List.any_eq_false, decide_eq_true_eq]
  intro s hs
  match hd : g.dims, g1 with
  | a :: b :: r, _ =>
    rw [hd] at hs g3 g4
    simp only [List.take_succ_cons, List.take_zero, List.mem_cons, List.not_mem_nil, or_false] at hs
    simp only [List.getD_cons_zero, List.getD_cons_succ] at g3 g4
    rcases hs with rfl | rfl <;> omega
theorem short_sound {l : List FactT} : ∀ f ∈ soundL l, shortF f := fun f hf s hs => by
  have h := right_sound hf
  obtain ⟨-, -, h3⟩ := right_dims h
  have := h3 s hs
  omega
theorem ck_sound {bs : List (List FactT)} {i : Nat} (hi : i ≤ 12) (l : List FactT) : checkE 2 1 (valsI (flat (sbs bs i))) (soundL l) = 0 := by
  unfold checkE
  have h0 := soundL_le l
  rw [if_neg (by omega), if_neg (by rw [List.any_eq_true]; rintro ⟨f, hf, hh⟩; rw [right_sound hf] at hh; cases hh), if_neg (by
    rw [List.any_eq_true]; rintro ⟨j, hj, hh⟩
    rw [decide_eq_true_eq, ← valsI_append] at hh
    unfold valsI at hh
    have h := puts_size [] (col j (flat (sbs bs i) ++ soundL l))
    have e : (col j (flat (sbs bs i) ++ soundL l)).length ≤ 64 * i + 64 := by
      unfold col; rw [List.length_map, List.length_append]
      have := flat_sbs_le bs i
      omega
    simp only [List.length_nil] at h
    omega)]
theorem cut_nat {bs : List (List FactT)} {a b : Nat} (ha : a ≤ bs.length) (hb : b ≤ bs.length) : cutB bs (a : Int) (b : Int) = flat ((bs.take b).drop a) := by
  unfold cutB
  rw [show clampE bs.length (b : Int) = b by unfold clampE; omega, show clampE bs.length (a : Int) = a by unfold clampE; omega]
theorem cut_zero {bs : List (List FactT)} {b : Nat} (hb : b ≤ bs.length) : cutB bs 0 (b : Int) = flat (bs.take b) := by
  have := cut_nat (bs := bs) (a := 0) (by omega) hb
  simpa using this
theorem cut_parts {bs : List (List FactT)} {x y n : Nat} (hn : bs.length = n) (hxy : x ≤ y) (hy : y ≤ n) : (cutB bs 0 (x : Int) ++ cutB bs (x : Int) (y : Int)) ++ cutB bs (y : Int) (n : Int) = flat bs := by
  subst hn
  rw [cut_zero (by omega), cut_nat (by omega) hy, cut_nat hy (Nat.le_refl _), ← flat_append, ← flat_append, List.take_length]
  congr 1
  have e : bs.take x = (bs.take y).take x := by rw [List.take_take, Nat.min_eq_left hxy]
  rw [e, List.take_append_drop, List.take_append_drop]
/-- facts behind facts -/
theorem FactsR.append {A A2 : Nat} {w w5 : World} {v v2 v' : Value} {l l2 : List FactT} {ps ps2 : List (Value × Value)} (h : FactsR A A2 w v l ps) (h2 : FactsP A w v2 l2 ps2) (hA : A ≤ A2)
    (hown : w5.ownsRow A2 41 2 v' (l.length + l2.length) (ps.flatMap (fun p => [p.1, p.2]) ++ ps2.flatMap (fun p => [p.1, p.2]))) (hg : w.grownBy w5 v.ownBlock) : FactsR A A2 w5 v' (l ++ l2) (ps ++ ps2) := by
  have key : ∀ {e : TypeId} {v1 : Value} {n : Nat} {xs : List Value}, w.ownsRow A e 1 v1 n xs → e ≠ 41 → w5.ownsRow A e 1 v1 n xs := fun ho he => by
    have ht : Turn (fun g => v.ownBlock = some g) w w5 := (Turn.refl (fun g => v.ownBlock = some g) w).grown hg (fun g hg => hg)
    refine owns_turn ho ht (fun g hg' hv => ?_)
    obtain ⟨cs, hb⟩ := owns_blk ho g hg'
    exact owns_ne h.1.2.1 hb (fun e => he e.symm) g hv rfl
  refine ⟨⟨by simp [h.1.1, h2.1], ?_, fun k f p hf hp => ?_⟩, ?_⟩
  · rw [List.length_append, List.flatMap_append]; exact owns_lower hown hA
  · by_cases hk : k < l.length
    · rw [List.getElem?_append_left hk] at hf
      rw [List.getElem?_append_left (by rw [h.1.1]; exact hk)] at hp
      exact ⟨key (h.1.2.2 k f p hf hp).1 (by decide), key (h.1.2.2 k f p hf hp).2 (by decide)⟩
    · rw [List.getElem?_append_right (by omega)] at hf
      rw [List.getElem?_append_right (by rw [h.1.1]; omega), h.1.1] at hp
      exact ⟨key (h2.2.2 _ f p hf hp).1 (by decide), key (h2.2.2 _ f p hf hp).2 (by decide)⟩
  · rw [List.length_append, List.flatMap_append]; exact hown
end Go.Proofs.Ytdpgpcffhhdpiaa
