/- AccumParts: the walk. -/
import Derived.Test.YtlhncphnhgbclaaZA
import Derived.Test.YtlhncphnhgbclaaBase11
import Derived.Test.YtlhncphnhgbclaaS
import Derived.Deep.DeepCutAuto
namespace Go.Proofs.Ytlhncphnhgbclaa
open Go.RowKit
set_option linter.unusedVariables false
set_option linter.unusedSimpArgs false

theorem wpList_store_mid {P : Program} {ops : Array Oper} {rest : List Oper} {o : Oper} {a : Act} {w : World} {Q : Exit → Act → World → Prop} (hgd : o.guard = none) (ty : TypeId) (x y : Operand) (ho : o.op = .store ty x y)
    (g off : Nat) (cells : Array Value) (hx : a.eval x = .pointer (some ⟨g, off, none⟩)) (hy : a.eval y = .agg cells)
    (t : TypeId) (old new : Array Value) (hg : w.heap[g]? = some (.cells old t (0, 0))) (hi : (P.info? ty).map (·.size) = some cells.size) (hfit : off + cells.size ≤ old.size) (h1 : cells.all (·.oneCell') = true)
    (hnew : (old.toList.take off ++ cells.toList ++ old.toList.drop (off + cells.size)).toArray = new)
    (h : wpList P ops Q rest (a.put o.dst undef) (w.setRow g new)) : wpList P ops Q (o :: rest) a w :=
  wpList_plain hgd fun _ hK => by
    unfold Oper.wp
    rw [exec_store_mid ty x y ho g off cells hx hy t old hg hi hfit h1, hnew, Oper.upon_skip]
    exact hK _ _ h

theorem owns_row_other {w : World} {base : Nat} {e : TypeId} {size : Nat} {v : Value} {n : Nat} {xs : List Value} (h : w.ownsRow base e size v n xs) {g5 : Nat} (hne : ∀ g, v.ownBlock = some g → g ≠ g5) (cs : Array Value) : (w.setRow g5 cs).ownsRow base e size v n xs := by
  refine ⟨h.1, ?_⟩
  rcases h.2 with h2 | ⟨g, cap, cur, hv, hg, hh, r⟩
  · exact .inl h2
  · exact .inr ⟨g, cap, cur, hv, hg, (setRow_other w g5 g cs (hne g (by rw [hv]; rfl))).trans hh, r⟩

/-- an accumulator's value v has the facts X; its row is in none of the two blocks -/
structure Ac (wr : World) (b6 b7 : Nat) (v : Value) (X : List (Int × Int)) : Prop where
  own : wr.ownsRow 0 46 5 v 2 (partsC (partsOf X))
  ne : ∀ g, v.ownBlock = some g → g ≠ b6 ∧ g ≠ b7
section
variable {w wr w' : World} {b6 b7 : Nat} {v : Value} {X : List (Int × Int)}
theorem Ac.below (h : Ac wr b6 b7 v X) (hb : Below wr.heap.size wr w') : Ac w' b6 b7 v X := ⟨owns_below h.own hb (Nat.le_refl _), h.ne⟩
theorem Ac.other (h : Ac wr b6 b7 v X) {g : Nat} (hg : g = b6 ∨ g = b7) (cs : Array Value) : Ac (wr.setRow g cs) b6 b7 v X := by
  refine ⟨⟨h.own.1, ?_⟩, h.ne⟩
  rcases h.own.2 with h2 | ⟨g2, cap, cur, hv, h0, hh, r⟩
  · exact .inl h2
  · have := h.ne g2 (by rw [hv]; rfl)
    exact .inr ⟨g2, cap, cur, hv, h0, (setRow_other wr g g2 _ (by rcases hg with e | e <;> omega)).trans hh, r⟩
theorem Ac.new {base : Nat} (h : wr.ownsRow base 46 5 v 2 (partsC (partsOf X))) (hb : b6 < base ∧ b7 < base) : Ac wr b6 b7 v X :=
  ⟨owns_base h (Nat.zero_le _), fun g hg => by have := (h.lt g hg).1; omega⟩
theorem Ac.row (h : Ac wr b6 b7 v X) : RowP wr.heap.size wr v (partsOf X) := Row.of_owns h.own
theorem Ac.som (h : Ac wr b6 b7 v X) : Som v (partsOf X).length := owns_som h.own
end

/-- how things stand: all facts in one variable, the four parts in another -/
structure St (w wr : World) (b6 b7 : Nat) (A X0 X1 X2 X3 : List (Int × Int)) (n n0 n1 n2 n3 : Int) (v v0 v1 v2 v3 : Value) : Prop where
  h6 : Blk wr b6 39 #[.int .i64 n, v]
  h7 : Blk wr b7 54 #[.int .i64 n0, v0, .int .i64 n1, v1, .int .i64 n2, v2, .int .i64 n3, v3]
  a : Ac wr b6 b7 v A
  a0 : Ac wr b6 b7 v0 X0
  a1 : Ac wr b6 b7 v1 X1
  a2 : Ac wr b6 b7 v2 X2
  a3 : Ac wr b6 b7 v3 X3
  e : n = (A.length : Int)
  e0 : n0 = (X0.length : Int)
  e1 : n1 = (X1.length : Int)
  e2 : n2 = (X2.length : Int)
  e3 : n3 = (X3.length : Int)
  tu : Below w.heap.size w wr
  lb : w.heap.size ≤ b6 ∧ b6 < b7
section
variable {w wr w' : World} {b6 b7 : Nat} {A X0 X1 X2 X3 : List (Int × Int)} {n n0 n1 n2 n3 : Int} {v v0 v1 v2 v3 : Value}
theorem St.lt (h : St w wr b6 b7 A X0 X1 X2 X3 n n0 n1 n2 n3 v v0 v1 v2 v3) : b7 < wr.heap.size := h.h7.lt
theorem St.below (h : St w wr b6 b7 A X0 X1 X2 X3 n n0 n1 n2 n3 v v0 v1 v2 v3) (hb : Below wr.heap.size wr w') : St w w' b6 b7 A X0 X1 X2 X3 n n0 n1 n2 n3 v v0 v1 v2 v3 :=
  ⟨Blk.below h.h6 hb h.h6.lt, Blk.below h.h7 hb h.h7.lt, h.a.below hb, h.a0.below hb, h.a1.below hb, h.a2.below hb, h.a3.below hb, h.e, h.e0, h.e1, h.e2, h.e3, Below.call h.tu hb, h.lb⟩
theorem St.all (h : St w wr b6 b7 A X0 X1 X2 X3 n n0 n1 n2 n3 v v0 v1 v2 v3) {v' : Value} {A' : List (Int × Int)} {n' : Int} (hb : Below wr.heap.size wr w') (ho : w'.ownsRow wr.heap.size 46 5 v' 2 (partsC (partsOf A'))) (hn : n' = (A'.length : Int)) :
    St w (w'.setRow b6 #[.int .i64 n', v']) b6 b7 A' X0 X1 X2 X3 n' n0 n1 n2 n3 v' v0 v1 v2 v3 := by
  have h1 := h.below hb
  have hl := h.lt
  have hlb := h.lb
  exact ⟨Blk.setRow h1.h6, Blk.otherRow h1.h7 (by omega), (Ac.new ho ⟨by omega, hl⟩).other (.inl rfl) _, h1.a0.other (.inl rfl) _, h1.a1.other (.inl rfl) _, h1.a2.other (.inl rfl) _, h1.a3.other (.inl rfl) _, hn, h1.e0, h1.e1, h1.e2, h1.e3, Below.setRow h1.tu hlb.1 _, hlb⟩
theorem St.part0 (h : St w wr b6 b7 A X0 X1 X2 X3 n n0 n1 n2 n3 v v0 v1 v2 v3) {v' : Value} {A' : List (Int × Int)} {n' : Int} (hb : Below wr.heap.size wr w') (ho : w'.ownsRow wr.heap.size 46 5 v' 2 (partsC (partsOf A'))) (hn : n' = (A'.length : Int)) :
    St w (w'.setRow b7 #[.int .i64 n', v', .int .i64 n1, v1, .int .i64 n2, v2, .int .i64 n3, v3]) b6 b7 A A' X1 X2 X3 n n' n1 n2 n3 v v' v1 v2 v3 := by
  have h1 := h.below hb
  have hl := h.lt
  have hlb := h.lb
  exact ⟨Blk.otherRow h1.h6 (by omega), Blk.setRow h1.h7, h1.a.other (.inr rfl) _, (Ac.new ho ⟨by omega, hl⟩).other (.inr rfl) _, h1.a1.other (.inr rfl) _, h1.a2.other (.inr rfl) _, h1.a3.other (.inr rfl) _, h1.e, hn, h1.e1, h1.e2, h1.e3, Below.setRow h1.tu (by omega) _, hlb⟩
theorem St.part1 (h : St w wr b6 b7 A X0 X1 X2 X3 n n0 n1 n2 n3 v v0 v1 v2 v3) {v' : Value} {A' : List (Int × Int)} {n' : Int} (hb : Below wr.heap.size wr w') (ho : w'.ownsRow wr.heap.size 46 5 v' 2 (partsC (partsOf A'))) (hn : n' = (A'.length : Int)) :
    St w (w'.setRow b7 #[.int .i64 n0, v0, .int .i64 n', v', .int .i64 n2, v2, .int .i64 n3, v3]) b6 b7 A X0 A' X2 X3 n n0 n' n2 n3 v v0 v' v2 v3 := by
  have h1 := h.below hb
  have hl := h.lt
  have hlb := h.lb
  exact ⟨Blk.otherRow h1.h6 (by omega), Blk.setRow h1.h7, h1.a.other (.inr rfl) _, h1.a0.other (.inr rfl) _, (Ac.new ho ⟨by omega, hl⟩).other (.inr rfl) _, h1.a2.other (.inr rfl) _, h1.a3.other (.inr rfl) _, h1.e, h1.e0, hn, h1.e2, h1.e3, Below.setRow h1.tu (by omega) _, hlb⟩
theorem St.part2 (h : St w wr b6 b7 A X0 X1 X2 X3 n n0 n1 n2 n3 v v0 v1 v2 v3) {v' : Value} {A' : List (Int × Int)} {n' : Int} (hb : Below wr.heap.size wr w') (ho : w'.ownsRow wr.heap.size 46 5 v' 2 (partsC (partsOf A'))) (hn : n' = (A'.length : Int)) :
    St w (w'.setRow b7 #[.int .i64 n0, v0, .int .i64 n1, v1, .int .i64 n', v', .int .i64 n3, v3]) b6 b7 A X0 X1 A' X3 n n0 n1 n' n3 v v0 v1 v' v3 := by
  have h1 := h.below hb
  have hl := h.lt
  have hlb := h.lb
  exact ⟨Blk.otherRow h1.h6 (by omega), Blk.setRow h1.h7, h1.a.other (.inr rfl) _, h1.a0.other (.inr rfl) _, h1.a1.other (.inr rfl) _, (Ac.new ho ⟨by omega, hl⟩).other (.inr rfl) _, h1.a3.other (.inr rfl) _, h1.e, h1.e0, h1.e1, hn, h1.e3, Below.setRow h1.tu (by omega) _, hlb⟩
theorem St.part3 (h : St w wr b6 b7 A X0 X1 X2 X3 n n0 n1 n2 n3 v v0 v1 v2 v3) {v' : Value} {A' : List (Int × Int)} {n' : Int} (hb : Below wr.heap.size wr w') (ho : w'.ownsRow wr.heap.size 46 5 v' 2 (partsC (partsOf A'))) (hn : n' = (A'.length : Int)) :
    St w (w'.setRow b7 #[.int .i64 n0, v0, .int .i64 n1, v1, .int .i64 n2, v2, .int .i64 n', v']) b6 b7 A X0 X1 X2 A' n n0 n1 n2 n' v v0 v1 v2 v' := by
  have h1 := h.below hb
  have hl := h.lt
  have hlb := h.lb
  exact ⟨Blk.otherRow h1.h6 (by omega), Blk.setRow h1.h7, h1.a.other (.inr rfl) _, h1.a0.other (.inr rfl) _, h1.a1.other (.inr rfl) _, h1.a2.other (.inr rfl) _, (Ac.new ho ⟨by omega, hl⟩).other (.inr rfl) _, h1.e, h1.e0, h1.e1, h1.e2, hn, Below.setRow h1.tu (by omega) _, hlb⟩
end
theorem info54 : (Try.prog.info? 54).map (·.size) = some 8 := by kernel_rfl

theorem perm20 {X0 X1 X2 X3 A : List (Int × Int)} (h : (X0 ++ X1 ++ X2 ++ X3).Perm A) : (X3 ++ (X1 ++ (X2 ++ X0))).Perm A := by
  refine List.Perm.trans ?_ h
  refine List.Perm.trans (List.perm_append_comm) ?_
  refine List.Perm.append_right _ ?_
  have e : X1 ++ (X2 ++ X0) = (X1 ++ X2) ++ X0 := by simp
  rw [e]
  refine List.Perm.trans (List.perm_append_comm) ?_
  have e2 : X0 ++ (X1 ++ X2) = X0 ++ X1 ++ X2 := by simp
  rw [e2]
theorem perm3 {X0 X1 X2 X3 A : List (Int × Int)} {f : Int × Int} (h : (X0 ++ X1 ++ X2 ++ X3).Perm A) : (X0 ++ X1 ++ X2 ++ (X3 ++ [f])).Perm (A ++ [f]) := by
  rw [← List.append_assoc]; exact h.append_right _
theorem perm2 {X0 X1 X2 X3 A : List (Int × Int)} {f : Int × Int} (h : (X0 ++ X1 ++ X2 ++ X3).Perm A) : (X0 ++ X1 ++ (X2 ++ [f]) ++ X3).Perm (A ++ [f]) := by
  refine List.Perm.trans ?_ (h.append_right [f])
  have e1 : X0 ++ X1 ++ (X2 ++ [f]) ++ X3 = (X0 ++ X1 ++ X2) ++ ([f] ++ X3) := by simp
  have e2 : X0 ++ X1 ++ X2 ++ X3 ++ [f] = (X0 ++ X1 ++ X2) ++ (X3 ++ [f]) := by simp
  rw [e1, e2]
  exact List.perm_append_comm.append_left _
theorem perm1 {X0 X1 X2 X3 A : List (Int × Int)} {f : Int × Int} (h : (X0 ++ X1 ++ X2 ++ X3).Perm A) : (X0 ++ (X1 ++ [f]) ++ X2 ++ X3).Perm (A ++ [f]) := by
  have h2 : (X0 ++ X1 ++ (X2 ++ X3)).Perm A := by rw [← List.append_assoc]; exact h
  have := perm2 (X0 := X0) (X1 := []) (X2 := X1) (X3 := X2 ++ X3) (A := A) (f := f) (by simpa using h2)
  simpa using this
theorem perm0 {X0 X1 X2 X3 A : List (Int × Int)} {f : Int × Int} (h : (X0 ++ X1 ++ X2 ++ X3).Perm A) : ((X0 ++ [f]) ++ X1 ++ X2 ++ X3).Perm (A ++ [f]) := by
  have := perm2 (X0 := []) (X1 := []) (X2 := X0) (X3 := X1 ++ X2 ++ X3) (A := A) (f := f) (by simpa using h)
  simpa using this
theorem flat2 (F : List (Int × Int)) (k r : Nat) (hk : k < F.length) (hr : r < 2) : (F.flatMap fun f => [Value.int .i64 f.1, .int .i64 f.2]).getD (k * 2 + r) undef = [Value.int .i64 (F.getD k (0, 0)).1, .int .i64 (F.getD k (0, 0)).2].getD r undef := by
  induction F generalizing k with
  | nil => simp at hk
  | cons f F ih =>
    rw [List.flatMap_cons, List.getD_eq_getElem?_getD]
    cases k with
    | zero =>
      rw [List.getElem?_append_left (by simp; omega)]
      simp [List.getD_eq_getElem?_getD]
    | succ k =>
      rw [List.getElem?_append_right (by simp; omega)]
      simp at hk
      have := ih k (by omega)
      rw [List.getD_eq_getElem?_getD] at this
      rw [show (k + 1) * 2 + r - [Value.int .i64 f.1, .int .i64 f.2].length = k * 2 + r by simp; omega, this]
      simp [List.getD_eq_getElem?_getD]

set_option maxRecDepth 100000 in
set_option maxHeartbeats 8000000 in
theorem parts9 (vf vp : Value) (F : List (Int × Int)) (ps : List Int) (w : World) (h1 : Row w.heap.size w vf F.length 2 (F.flatMap fun f => [.int .i64 f.1, .int .i64 f.2])) (h2 : RowI w.heap.size w vp ps)
    (hF : ∀ f ∈ F, (-9223372036854775808 ≤ f.1 ∧ f.1 ≤ 9223372036854775807) ∧ (-9223372036854775808 ≤ f.2 ∧ f.2 ≤ 9223372036854775807)) :
    Calls Try.prog 9 #[vf, vp] w fun e w' => e = .returned (.bool true) ∧ Below w.heap.size w w' := by
  obtain ⟨hlen, a1, k1, rfl, hk1, hm1, hc1⟩ := h1
  obtain ⟨a2, k2, rfl, hk2, hm2, hc2⟩ := h2.open
  have hm1 : k1 ≤ 9223372036854775807 := by simpa [maxLen] using hm1
  have HC1 := Lib.hid hc1
  have HC2 := Lib.hid hc2
  have HF := Lib.hid hF
  clear hlen hc1 hc2 h2 hF
  go_enter Try.func9, Try.ntmps9
  go_wp2_with fail
  refine (awake10 _).mono ?_
  rintro e w1 ⟨rfl, hX1⟩
  go_wp2_with fail
  refine (new21 2 2 _ (by decide) (by omega)).mono ?_
  rintro e w2 ⟨va, rfl, own6, hX2⟩
  obtain ⟨aa', ca', rfl⟩ := owns_form own6
  go_upto_region 3 with (fail)
  have hX3 := Below.al (Below.call hX1 hX2) (Obj.cells #[.int .i64 0, (.slice aa' 2 ca')] 39)
  have hb6 : Blk (w2.alloc (Obj.cells #[.int .i64 0, (.slice aa' 2 ca')] 39)) w2.heap.size 39 #[.int .i64 0, (.slice aa' 2 ca')] := Blk.newAt _ _ _ rfl
  have hs2 : w.heap.size ≤ w2.heap.size := (Below.call hX1 hX2).size
  have own6' := owns_base (owns_below own6 (Below.al (Below.refl _ _) (Obj.cells #[.int .i64 0, (.slice aa' 2 ca')] 39)) (Nat.le_refl _)) (Nat.zero_le _)
  have ne6 : ∀ g, (Value.slice aa' 2 ca').ownBlock = some g → g < w2.heap.size := fun g hg => (own6.lt g hg).2
  obtain ⟨b6, hB6⟩ : ∃ b, b = w2.heap.size := ⟨_, rfl⟩
  obtain ⟨w3, hw3⟩ : ∃ w3, w3 = w2.alloc (Obj.cells #[.int .i64 0, (.slice aa' 2 ca')] 39) := ⟨_, rfl⟩
  have hl6 : w3.heap.size = b6 + 1 := by rw [hw3, hB6]; simp
  rw [← hB6] at hb6 ne6 hs2 ⊢
  rw [← hw3] at hX3 hb6 own6' ⊢
  have HL6 := Lib.hid hl6
  clear hX1 hX2 own6 hB6 hw3 hl6
  go_upto_region 5 with (fail)
  have hl6 := HL6.out
  obtain ⟨w4, hw4⟩ : ∃ w4, w4 = w3.alloc (Obj.cells #[.int .i64 0, .slice none 0 0, .int .i64 0, .slice none 0 0, .int .i64 0, .slice none 0 0, .int .i64 0, .slice none 0 0] 54) := ⟨_, rfl⟩
  obtain ⟨b7, hb7e⟩ : ∃ b7, w3.heap.size = b7 := ⟨_, rfl⟩
  have hb7 : Blk w4 b7 54 #[.int .i64 0, .slice none 0 0, .int .i64 0, .slice none 0 0, .int .i64 0, .slice none 0 0, .int .i64 0, .slice none 0 0] := by rw [hw4, ← hb7e]; exact Blk.new _ _ _
  have hb6 := Blk.alloc hb6 (Obj.cells #[.int .i64 0, .slice none 0 0, .int .i64 0, .slice none 0 0, .int .i64 0, .slice none 0 0, .int .i64 0, .slice none 0 0] 54)
  have hX4 := Below.al hX3 (Obj.cells #[.int .i64 0, .slice none 0 0, .int .i64 0, .slice none 0 0, .int .i64 0, .slice none 0 0, .int .i64 0, .slice none 0 0] 54)
  have own6' := owns_below own6' (Below.al (Below.refl _ _) (Obj.cells #[.int .i64 0, .slice none 0 0, .int .i64 0, .slice none 0 0, .int .i64 0, .slice none 0 0, .int .i64 0, .slice none 0 0] 54)) (Nat.le_refl _)
  rw [← hw4] at hb6 hX4 own6' ⊢
  rw [hb7e]
  have hlt67 : b6 < b7 := by omega
  have hac : Ac w4 b6 b7 (.slice aa' 2 ca') [] := ⟨own6', fun g hg => by have := ne6 g hg; omega⟩
  have HI := Lib.hid (And.intro hb6 (And.intro hb7 (And.intro hX4 (And.intro hac (And.intro hs2 hlt67)))))
  clear hX3 hX4 hb6 hb7 own6' ne6 hl6 hs2 hw4 hb7e hac hlt67
  go_loopw [8] (fun i wr => ∃ (k : Nat) (v0 v1 v2 v3 : Value), k ≤ 4 ∧ i = .int .i64 k ∧ Blk wr b6 39 #[.int .i64 0, .slice aa' 2 ca'] ∧ Blk wr b7 54 #[.int .i64 0, v0, .int .i64 0, v1, .int .i64 0, v2, .int .i64 0, v3] ∧ Below w.heap.size w wr ∧ Ac wr b6 b7 (.slice aa' 2 ca') [] ∧
    (0 < k → Ac wr b6 b7 v0 []) ∧ (1 < k → Ac wr b6 b7 v1 []) ∧ (2 < k → Ac wr b6 b7 v2 []) ∧ (3 < k → Ac wr b6 b7 v3 [])) (fun i _ => 4 - (intOf i).toNat)
  case atStart => exact ⟨0, _, _, _, _, by omega, rfl, HI.out.1, HI.out.2.1, HI.out.2.2.1, HI.out.2.2.2.1, fun h => absurd h (by omega), fun h => absurd h (by omega), fun h => absurd h (by omega), fun h => absurd h (by omega)⟩
  case round =>
    obtain ⟨k, v0, v1, v2, v3, hk, rfl, h6, h7, hB, ha, hq0, hq1, hq2, hq3⟩ := hrel
    have HIN := Lib.hid (And.intro ha (And.intro hq0 (And.intro hq1 (And.intro hq2 hq3))))
    clear ha hq0 hq1 hq2 hq3
    have hlt67 := HI.out.2.2.2.2.2
    have hwl6 := HI.out.2.2.2.2.1
    rcases (by omega : k = 0 ∨ k = 1 ∨ k = 2 ∨ k = 3 ∨ k = 4) with rfl | rfl | rfl | rfl | rfl
    · as_aux_lemma =>
        go_wp2_with fail
        refine (new21 2 2 _ (by decide) (by omega)).mono ?_
        rintro e wn ⟨vn, rfl, ownn, hXn⟩
        obtain ⟨an, cn, rfl⟩ := owns_form ownn
        have h7n := Blk.below h7 hXn (Blk.lt h7)
        have h6n := Blk.below h6 hXn (Blk.lt h6)
        have hl7 := Blk.lt h7
        go_wp2_with (refine wpList_store_mid rfl 39 _ _ rfl b7 0 #[.int .i64 0, .slice an 2 cn] rfl rfl 54 #[.int .i64 0, v0, .int .i64 0, v1, .int .i64 0, v2, .int .i64 0, v3] #[.int .i64 0, .slice an 2 cn, .int .i64 0, v1, .int .i64 0, v2, .int .i64 0, v3] h7n info39 (by simp) (by simp [Value.oneCell']) rfl ?_)
        go_roundw
        case rel => exact ⟨1, .slice an 2 cn, v1, v2, v3, by omega, by first | rfl | go_num, Blk.otherRow h6n (by omega), Blk.setRow h7n, Below.setRow (Below.call hB hXn) (by omega) _, (HIN.out.1.below hXn).other (.inr rfl) _, fun _ => (Ac.new ownn ⟨by omega, hl7⟩).other (.inr rfl) _, fun h => absurd h (by omega), fun h => absurd h (by omega), fun h => absurd h (by omega)⟩
        case measure => simp [intOf]
    · as_aux_lemma =>
        go_wp2_with fail
        refine (new21 2 2 _ (by decide) (by omega)).mono ?_
        rintro e wn ⟨vn, rfl, ownn, hXn⟩
        obtain ⟨an, cn, rfl⟩ := owns_form ownn
        have h7n := Blk.below h7 hXn (Blk.lt h7)
        have h6n := Blk.below h6 hXn (Blk.lt h6)
        have hl7 := Blk.lt h7
        go_wp2_with (refine wpList_store_mid rfl 39 _ _ rfl b7 2 #[.int .i64 0, .slice an 2 cn] rfl rfl 54 #[.int .i64 0, v0, .int .i64 0, v1, .int .i64 0, v2, .int .i64 0, v3] #[.int .i64 0, v0, .int .i64 0, .slice an 2 cn, .int .i64 0, v2, .int .i64 0, v3] h7n info39 (by simp) (by simp [Value.oneCell']) rfl ?_)
        go_roundw
        case rel => exact ⟨2, v0, .slice an 2 cn, v2, v3, by omega, by first | rfl | go_num, Blk.otherRow h6n (by omega), Blk.setRow h7n, Below.setRow (Below.call hB hXn) (by omega) _, (HIN.out.1.below hXn).other (.inr rfl) _, fun _ => ((HIN.out.2.1 (by omega)).below hXn).other (.inr rfl) _, fun _ => (Ac.new ownn ⟨by omega, hl7⟩).other (.inr rfl) _, fun h => absurd h (by omega), fun h => absurd h (by omega)⟩
        case measure => simp [intOf]
    · as_aux_lemma =>
        go_wp2_with fail
        refine (new21 2 2 _ (by decide) (by omega)).mono ?_
        rintro e wn ⟨vn, rfl, ownn, hXn⟩
        obtain ⟨an, cn, rfl⟩ := owns_form ownn
        have h7n := Blk.below h7 hXn (Blk.lt h7)
        have h6n := Blk.below h6 hXn (Blk.lt h6)
        have hl7 := Blk.lt h7
        go_wp2_with (refine wpList_store_mid rfl 39 _ _ rfl b7 4 #[.int .i64 0, .slice an 2 cn] rfl rfl 54 #[.int .i64 0, v0, .int .i64 0, v1, .int .i64 0, v2, .int .i64 0, v3] #[.int .i64 0, v0, .int .i64 0, v1, .int .i64 0, .slice an 2 cn, .int .i64 0, v3] h7n info39 (by simp) (by simp [Value.oneCell']) rfl ?_)
        go_roundw
        case rel => exact ⟨3, v0, v1, .slice an 2 cn, v3, by omega, by first | rfl | go_num, Blk.otherRow h6n (by omega), Blk.setRow h7n, Below.setRow (Below.call hB hXn) (by omega) _, (HIN.out.1.below hXn).other (.inr rfl) _, fun _ => ((HIN.out.2.1 (by omega)).below hXn).other (.inr rfl) _, fun _ => ((HIN.out.2.2.1 (by omega)).below hXn).other (.inr rfl) _, fun _ => (Ac.new ownn ⟨by omega, hl7⟩).other (.inr rfl) _, fun h => absurd h (by omega)⟩
        case measure => simp [intOf]
    · as_aux_lemma =>
        go_wp2_with fail
        refine (new21 2 2 _ (by decide) (by omega)).mono ?_
        rintro e wn ⟨vn, rfl, ownn, hXn⟩
        obtain ⟨an, cn, rfl⟩ := owns_form ownn
        have h7n := Blk.below h7 hXn (Blk.lt h7)
        have h6n := Blk.below h6 hXn (Blk.lt h6)
        have hl7 := Blk.lt h7
        go_wp2_with (refine wpList_store_mid rfl 39 _ _ rfl b7 6 #[.int .i64 0, .slice an 2 cn] rfl rfl 54 #[.int .i64 0, v0, .int .i64 0, v1, .int .i64 0, v2, .int .i64 0, v3] #[.int .i64 0, v0, .int .i64 0, v1, .int .i64 0, v2, .int .i64 0, .slice an 2 cn] h7n info39 (by simp) (by simp [Value.oneCell']) rfl ?_)
        go_roundw
        case rel => exact ⟨4, v0, v1, v2, .slice an 2 cn, by omega, by first | rfl | go_num, Blk.otherRow h6n (by omega), Blk.setRow h7n, Below.setRow (Below.call hB hXn) (by omega) _, (HIN.out.1.below hXn).other (.inr rfl) _, fun _ => ((HIN.out.2.1 (by omega)).below hXn).other (.inr rfl) _, fun _ => ((HIN.out.2.2.1 (by omega)).below hXn).other (.inr rfl) _, fun _ => ((HIN.out.2.2.2.1 (by omega)).below hXn).other (.inr rfl) _, fun _ => (Ac.new ownn ⟨by omega, hl7⟩).other (.inr rfl) _⟩
        case measure => simp [intOf]
    · have hst : St w wr b6 b7 [] [] [] [] [] 0 0 0 0 0 (.slice aa' 2 ca') v0 v1 v2 v3 :=
        ⟨h6, h7, HIN.out.1, HIN.out.2.1 (by omega), HIN.out.2.2.1 (by omega), HIN.out.2.2.2.1 (by omega), HIN.out.2.2.2.2 (by omega), rfl, rfl, rfl, rfl, rfl, hB, hwl6, hlt67⟩
      have HST := Lib.hid hst
      clear hst h6 h7 hB HIN HI
      go_wp2_with fail
      go_loopw [9] (fun i wr => ∃ (k : Nat) (A X0 X1 X2 X3 : List (Int × Int)) (n n0 n1 n2 n3 : Int) (v v0 v1 v2 v3 : Value), k ≤ F.length ∧ k ≤ 200 ∧ i = .int .i64 k ∧ A.length = k ∧ (X0 ++ X1 ++ X2 ++ X3).Perm A ∧ St w wr b6 b7 A X0 X1 X2 X3 n n0 n1 n2 n3 v v0 v1 v2 v3) (fun i _ => 200 - (intOf i).toNat)
      case atStart => exact ⟨0, [], [], [], [], [], _, _, _, _, _, _, _, _, _, _, by omega, by omega, rfl, rfl, List.Perm.refl _, HST.out⟩
      case round =>
        obtain ⟨k, A, X0, X1, X2, X3, n, n0, n1, n2, n3, v, v0, v1, v2, v3, hkF, hk2, rfl, hAk, hperm, hS⟩ := hrel
        have HS := Lib.hid hS
        have HAK := Lib.hid hAk
        have HPERM := Lib.hid hperm
        clear hS hAk hperm
        by_cases hlt : k < F.length ∧ k < 200
        · have d1 : decide ((k : Int) < F.length) = true := by simp; omega
          have d2 : decide ((k : Int) < 200) = true := by simp; omega
          have d3 : decide (k < F.length) = true := by simp; omega
          have d4 : decide (k < 200) = true := by simp; omega
          have hkf : k < F.length := hlt.1
          have hkI : (k : Int) < F.length := by omega
          have hk200 : k < 200 := hlt.2
          clear hlt
          obtain ⟨bf, off, rfl, hbf, hcf⟩ := HC1.out (by omega)
          obtain ⟨⟨x, y⟩, hxy⟩ : ∃ f, f = F.getD k (0, 0) := ⟨_, rfl⟩
          have hbd := HF.out (F.getD k (0, 0)) (by rw [List.getD_eq_getElem?_getD, List.getElem?_eq_getElem hkf]; exact List.getElem_mem hkf)
          rw [← hxy] at hbd
          have f0 : wr.cell? ⟨bf, off + k * 2, none⟩ = some (.int .i64 x) := by
            rw [HS.out.tu.cell (by exact hbf), hcf (k * 2) (by omega)]
            have := flat2 F k 0 hkf (by omega)
            rw [Nat.add_zero] at this
            rw [this, ← hxy]; rfl
          have f1 : wr.cell? ⟨bf, off + k * 2 + 1, none⟩ = some (.int .i64 y) := by
            rw [HS.out.tu.cell (by exact hbf), Nat.add_assoc, hcf (k * 2 + 1) (by omega), flat2 F k 1 hkf (by omega), ← hxy]; rfl
          have HBD := Lib.hid hbd
          have hms : ∀ i, i < [x, y].length → -9223372036854775808 ≤ [x, y].getD i 0 ∧ [x, y].getD i 0 ≤ 9223372036854775807 := by
            intro i hi
            have hi2 : i < 2 := hi
            match i, hi2 with
            | 0, _ => exact HBD.out.1
            | 1, _ => exact HBD.out.2
          have HMS := Lib.hid hms
          clear hcf hxy hbd hms
          by_cases hp : k < ps.length
          · have e1 : decide ((k : Int) < ps.length) = true := by simp; omega
            have e2 : decide (k < ps.length) = true := by simp; omega
            have hpI : (k : Int) < ps.length := by omega
            obtain ⟨bp, op, rfl, hbp, hcp⟩ := HC2.out (by omega)
            obtain ⟨r, hr⟩ : ∃ r, (ps.getD k 0).tmod 4 = r := ⟨_, rfl⟩
            have hr7 : r = 0 ∨ r = 1 ∨ r = 2 ∨ r = 3 ∨ r = -1 ∨ r = -2 ∨ r = -3 := by
              have h1 := Int.tmod_lt_of_pos (ps.getD k 0) (show (0 : Int) < 4 by decide)
              have h2 := Int.lt_tmod_of_pos (ps.getD k 0) (show (0 : Int) < 4 by decide)
              rw [hr] at h1 h2
              omega
            obtain ⟨z, hz⟩ : ∃ z, ps.getD k 0 = z := ⟨_, rfl⟩
            have g0 : wr.cell? ⟨bp, op + k, none⟩ = some (.int .i64 z) := by rw [HS.out.tu.cell (by exact hbp), hcp k hp, hz]
            rw [hz] at hr
            clear hcp hz
            rcases hr7 with rfl | rfl | rfl | rfl | rfl | rfl | rfl
            · as_aux_lemma =>
                go_upto_region 16 with (fail)
                refine wp_region_still_tail 10 (by kernel_rfl) (by kernel_rfl) ?_
                simp only [List.take_succ_cons, List.take_zero, List.drop_succ_cons, List.drop_zero]
                repeat still_step
                refine wpStill_nil ?_
                change wpList _ _ _ _ _ wr.drew
                go_upto_region 17 with (fail)
                obtain ⟨w5, hw5⟩ : ∃ w5, w5 = (wr.alloc (Obj.cells #[.int .i64 x, .int .i64 y] 2)).drew := ⟨_, rfl⟩
                obtain ⟨b5, hb5⟩ : ∃ b5, wr.heap.size = b5 := ⟨_, rfl⟩
                have hS5 : St w w5 b6 b7 A X0 X1 X2 X3 n n0 n1 n2 n3 v v0 v1 v2 v3 := by rw [hw5]; exact HS.out.below (Below.drew (Below.al (Below.refl _ _) _))
                have harr : Arr w5 b5 2 [x, y] := by rw [hw5, ← hb5]; exact Blk.drew (Blk.new wr 2 _)
                rw [hb5, ← hw5]
                have hl5 : b5 < w5.heap.size := Blk.lt harr
                have ht := take27 (partsOf A) [x, y] n v (.slice (some ⟨b5, 0, none⟩) 2 2) w5 hS5.a.row hS5.a.som (RowI.of_blk harr rfl (by decide)) (by rw [parts_len]; decide) HMS.out
                have hlA : n = (A.length : Int) := hS5.e
                have hAk := HAK.out
                rw [parts_take, parts_len, show wrap64 (n + 1) = n + 1 from w64 (by omega)] at ht
                have HT := Lib.hid ht
                have HS5 := Lib.hid hS5
                have HAR := Lib.hid harr
                clear ht hS5 harr hw5 hb5 f0 f1 hlA hAk HS
                go_wp2_with (refine wpList_load_at rfl 39 _ rfl b6 0 rfl #[.int .i64 n, v] _ (fun j hj => by rw [Nat.zero_add]; exact Blk.cell HS5.out.h6 j) Try.underlying39 rfl info39 ?_)
                refine HT.out.mono ?_
                rintro e w6 ⟨v', rfl, hown, hB6⟩
                obtain ⟨a', c', rfl⟩ := owns_form hown
                have hS7 := HS5.out.all (A' := A ++ [(x, y)]) (n' := n + 1) hB6 hown (by have := HS5.out.e; rw [List.length_append]; simp; omega)
                have h6 := (HS5.out.below hB6).h6
                have harr7 := Blk.otherRow (cs' := #[.int .i64 (n + 1), .slice a' 2 c']) (Blk.below HAR.out hB6 hl5) (show b5 ≠ b6 by have := HS5.out.h6; intro e; subst e; unfold Blk at this; have h2 := HAR.out; unfold Arr Blk at h2; rw [this] at h2; simp at h2)
                have HS7 := Lib.hid hS7
                have HAR7 := Lib.hid harr7
                have H6 := Lib.hid h6
                clear hS7 harr7 h6 hown hB6 HT
                go_upto_region 18 with (refine wpList_store_row rfl 39 _ _ rfl b6 #[.int .i64 (n + 1), .slice a' 2 c'] rfl rfl 39 _ H6.out info39 rfl (by simp [Value.oneCell']) ?_)
                obtain ⟨w7, hw7⟩ : ∃ w7, w7 = w6.setRow b6 #[.int .i64 (n + 1), .slice a' 2 c'] := ⟨_, rfl⟩
                rw [← hw7] at HS7 HAR7 ⊢
                clear hw7 H6 HS5 HAR hl5
                have ht := take27 (partsOf X0) [x, y] n0 v0 (.slice (some ⟨b5, 0, none⟩) 2 2) w7 HS7.out.a0.row HS7.out.a0.som (RowI.of_blk HAR7.out rfl (by decide)) (by rw [parts_len]; decide) HMS.out
                have hlX : n0 = (X0.length : Int) := HS7.out.e0
                have hXk : X0.length ≤ A.length := by have := HPERM.out.length_eq; simp at this; omega
                have hAk := HAK.out
                rw [parts_take, parts_len, show wrap64 (n0 + 1) = n0 + 1 from w64 (by omega)] at ht
                have HT := Lib.hid ht
                clear ht hlX hXk hAk
                go_wp2_with (refine wpList_load_at rfl 39 _ rfl b7 0 rfl #[.int .i64 n0, v0] _ (fun j hj => by have hj2 : j < 2 := hj; rw [Blk.cell HS7.out.h7]; match j, hj2 with | 0, _ => rfl | 1, _ => rfl) Try.underlying39 rfl info39 ?_)
                refine HT.out.mono ?_
                rintro e w8 ⟨v'', rfl, hown, hB8⟩
                obtain ⟨a5, c5, rfl⟩ := owns_form hown
                have hS9 := HS7.out.part0 (A' := X0 ++ [(x, y)]) (n' := n0 + 1) hB8 hown (by have := HS7.out.e0; rw [List.length_append]; simp; omega)
                have h7 := (HS7.out.below hB8).h7
                have HS9 := Lib.hid hS9
                have H7 := Lib.hid h7
                clear hS9 h7 hown hB8 HT HS7 HAR7
                go_wp2_with (refine wpList_store_mid rfl 39 _ _ rfl b7 0 #[.int .i64 (n0 + 1), .slice a5 2 c5] rfl rfl 54 #[.int .i64 n0, v0, .int .i64 n1, v1, .int .i64 n2, v2, .int .i64 n3, v3] #[.int .i64 (n0 + 1), .slice a5 2 c5, .int .i64 n1, v1, .int .i64 n2, v2, .int .i64 n3, v3] H7.out info39 (by simp) (by simp [Value.oneCell']) rfl ?_)
                go_roundw
                case rel =>
                  (repeat apply Exists.intro)
                  refine ⟨⟨k + 1, A ++ [(x, y)], X0 ++ [(x, y)], X1, X2, X3, n + 1, n0 + 1, n1, n2, n3, .slice a' 2 c', .slice a5 2 c5, v1, v2, v3, by omega, by omega, by go_num, by have := HAK.out; rw [List.length_append]; simp; omega, perm0 HPERM.out, HS9.out⟩, rfl⟩
                case measure => simp [intOf]; omega
            · as_aux_lemma =>
                go_upto_region 16 with (fail)
                refine wp_region_still_tail 10 (by kernel_rfl) (by kernel_rfl) ?_
                simp only [List.take_succ_cons, List.take_zero, List.drop_succ_cons, List.drop_zero]
                repeat still_step
                refine wpStill_nil ?_
                change wpList _ _ _ _ _ wr.drew
                go_upto_region 17 with (fail)
                obtain ⟨w5, hw5⟩ : ∃ w5, w5 = (wr.alloc (Obj.cells #[.int .i64 x, .int .i64 y] 2)).drew := ⟨_, rfl⟩
                obtain ⟨b5, hb5⟩ : ∃ b5, wr.heap.size = b5 := ⟨_, rfl⟩
                have hS5 : St w w5 b6 b7 A X0 X1 X2 X3 n n0 n1 n2 n3 v v0 v1 v2 v3 := by rw [hw5]; exact HS.out.below (Below.drew (Below.al (Below.refl _ _) _))
                have harr : Arr w5 b5 2 [x, y] := by rw [hw5, ← hb5]; exact Blk.drew (Blk.new wr 2 _)
                rw [hb5, ← hw5]
                have hl5 : b5 < w5.heap.size := Blk.lt harr
                have ht := take27 (partsOf A) [x, y] n v (.slice (some ⟨b5, 0, none⟩) 2 2) w5 hS5.a.row hS5.a.som (RowI.of_blk harr rfl (by decide)) (by rw [parts_len]; decide) HMS.out
                have hlA : n = (A.length : Int) := hS5.e
                have hAk := HAK.out
                rw [parts_take, parts_len, show wrap64 (n + 1) = n + 1 from w64 (by omega)] at ht
                have HT := Lib.hid ht
                have HS5 := Lib.hid hS5
                have HAR := Lib.hid harr
                clear ht hS5 harr hw5 hb5 f0 f1 hlA hAk HS
                go_wp2_with (refine wpList_load_at rfl 39 _ rfl b6 0 rfl #[.int .i64 n, v] _ (fun j hj => by rw [Nat.zero_add]; exact Blk.cell HS5.out.h6 j) Try.underlying39 rfl info39 ?_)
                refine HT.out.mono ?_
                rintro e w6 ⟨v', rfl, hown, hB6⟩
                obtain ⟨a', c', rfl⟩ := owns_form hown
                have hS7 := HS5.out.all (A' := A ++ [(x, y)]) (n' := n + 1) hB6 hown (by have := HS5.out.e; rw [List.length_append]; simp; omega)
                have h6 := (HS5.out.below hB6).h6
                have harr7 := Blk.otherRow (cs' := #[.int .i64 (n + 1), .slice a' 2 c']) (Blk.below HAR.out hB6 hl5) (show b5 ≠ b6 by have := HS5.out.h6; intro e; subst e; unfold Blk at this; have h2 := HAR.out; unfold Arr Blk at h2; rw [this] at h2; simp at h2)
                have HS7 := Lib.hid hS7
                have HAR7 := Lib.hid harr7
                have H6 := Lib.hid h6
                clear hS7 harr7 h6 hown hB6 HT
                go_upto_region 18 with (refine wpList_store_row rfl 39 _ _ rfl b6 #[.int .i64 (n + 1), .slice a' 2 c'] rfl rfl 39 _ H6.out info39 rfl (by simp [Value.oneCell']) ?_)
                obtain ⟨w7, hw7⟩ : ∃ w7, w7 = w6.setRow b6 #[.int .i64 (n + 1), .slice a' 2 c'] := ⟨_, rfl⟩
                rw [← hw7] at HS7 HAR7 ⊢
                clear hw7 H6 HS5 HAR hl5
                have ht := take27 (partsOf X1) [x, y] n1 v1 (.slice (some ⟨b5, 0, none⟩) 2 2) w7 HS7.out.a1.row HS7.out.a1.som (RowI.of_blk HAR7.out rfl (by decide)) (by rw [parts_len]; decide) HMS.out
                have hlX : n1 = (X1.length : Int) := HS7.out.e1
                have hXk : X1.length ≤ A.length := by have := HPERM.out.length_eq; simp at this; omega
                have hAk := HAK.out
                rw [parts_take, parts_len, show wrap64 (n1 + 1) = n1 + 1 from w64 (by omega)] at ht
                have HT := Lib.hid ht
                clear ht hlX hXk hAk
                go_wp2_with (refine wpList_load_at rfl 39 _ rfl b7 2 rfl #[.int .i64 n1, v1] _ (fun j hj => by have hj2 : j < 2 := hj; rw [Blk.cell HS7.out.h7]; match j, hj2 with | 0, _ => rfl | 1, _ => rfl) Try.underlying39 rfl info39 ?_)
                refine HT.out.mono ?_
                rintro e w8 ⟨v'', rfl, hown, hB8⟩
                obtain ⟨a5, c5, rfl⟩ := owns_form hown
                have hS9 := HS7.out.part1 (A' := X1 ++ [(x, y)]) (n' := n1 + 1) hB8 hown (by have := HS7.out.e1; rw [List.length_append]; simp; omega)
                have h7 := (HS7.out.below hB8).h7
                have HS9 := Lib.hid hS9
                have H7 := Lib.hid h7
                clear hS9 h7 hown hB8 HT HS7 HAR7
                go_wp2_with (refine wpList_store_mid rfl 39 _ _ rfl b7 2 #[.int .i64 (n1 + 1), .slice a5 2 c5] rfl rfl 54 #[.int .i64 n0, v0, .int .i64 n1, v1, .int .i64 n2, v2, .int .i64 n3, v3] #[.int .i64 n0, v0, .int .i64 (n1 + 1), .slice a5 2 c5, .int .i64 n2, v2, .int .i64 n3, v3] H7.out info39 (by simp) (by simp [Value.oneCell']) rfl ?_)
                go_roundw
                case rel =>
                  (repeat apply Exists.intro)
                  refine ⟨⟨k + 1, A ++ [(x, y)], X0, X1 ++ [(x, y)], X2, X3, n + 1, n0, n1 + 1, n2, n3, .slice a' 2 c', v0, .slice a5 2 c5, v2, v3, by omega, by omega, by go_num, by have := HAK.out; rw [List.length_append]; simp; omega, perm1 HPERM.out, HS9.out⟩, rfl⟩
                case measure => simp [intOf]; omega
            · as_aux_lemma =>
                go_upto_region 16 with (fail)
                refine wp_region_still_tail 10 (by kernel_rfl) (by kernel_rfl) ?_
                simp only [List.take_succ_cons, List.take_zero, List.drop_succ_cons, List.drop_zero]
                repeat still_step
                refine wpStill_nil ?_
                change wpList _ _ _ _ _ wr.drew
                go_upto_region 17 with (fail)
                obtain ⟨w5, hw5⟩ : ∃ w5, w5 = (wr.alloc (Obj.cells #[.int .i64 x, .int .i64 y] 2)).drew := ⟨_, rfl⟩
                obtain ⟨b5, hb5⟩ : ∃ b5, wr.heap.size = b5 := ⟨_, rfl⟩
                have hS5 : St w w5 b6 b7 A X0 X1 X2 X3 n n0 n1 n2 n3 v v0 v1 v2 v3 := by rw [hw5]; exact HS.out.below (Below.drew (Below.al (Below.refl _ _) _))
                have harr : Arr w5 b5 2 [x, y] := by rw [hw5, ← hb5]; exact Blk.drew (Blk.new wr 2 _)
                rw [hb5, ← hw5]
                have hl5 : b5 < w5.heap.size := Blk.lt harr
                have ht := take27 (partsOf A) [x, y] n v (.slice (some ⟨b5, 0, none⟩) 2 2) w5 hS5.a.row hS5.a.som (RowI.of_blk harr rfl (by decide)) (by rw [parts_len]; decide) HMS.out
                have hlA : n = (A.length : Int) := hS5.e
                have hAk := HAK.out
                rw [parts_take, parts_len, show wrap64 (n + 1) = n + 1 from w64 (by omega)] at ht
                have HT := Lib.hid ht
                have HS5 := Lib.hid hS5
                have HAR := Lib.hid harr
                clear ht hS5 harr hw5 hb5 f0 f1 hlA hAk HS
                go_wp2_with (refine wpList_load_at rfl 39 _ rfl b6 0 rfl #[.int .i64 n, v] _ (fun j hj => by rw [Nat.zero_add]; exact Blk.cell HS5.out.h6 j) Try.underlying39 rfl info39 ?_)
                refine HT.out.mono ?_
                rintro e w6 ⟨v', rfl, hown, hB6⟩
                obtain ⟨a', c', rfl⟩ := owns_form hown
                have hS7 := HS5.out.all (A' := A ++ [(x, y)]) (n' := n + 1) hB6 hown (by have := HS5.out.e; rw [List.length_append]; simp; omega)
                have h6 := (HS5.out.below hB6).h6
                have harr7 := Blk.otherRow (cs' := #[.int .i64 (n + 1), .slice a' 2 c']) (Blk.below HAR.out hB6 hl5) (show b5 ≠ b6 by have := HS5.out.h6; intro e; subst e; unfold Blk at this; have h2 := HAR.out; unfold Arr Blk at h2; rw [this] at h2; simp at h2)
                have HS7 := Lib.hid hS7
                have HAR7 := Lib.hid harr7
                have H6 := Lib.hid h6
                clear hS7 harr7 h6 hown hB6 HT
                go_upto_region 18 with (refine wpList_store_row rfl 39 _ _ rfl b6 #[.int .i64 (n + 1), .slice a' 2 c'] rfl rfl 39 _ H6.out info39 rfl (by simp [Value.oneCell']) ?_)
                obtain ⟨w7, hw7⟩ : ∃ w7, w7 = w6.setRow b6 #[.int .i64 (n + 1), .slice a' 2 c'] := ⟨_, rfl⟩
                rw [← hw7] at HS7 HAR7 ⊢
                clear hw7 H6 HS5 HAR hl5
                have ht := take27 (partsOf X2) [x, y] n2 v2 (.slice (some ⟨b5, 0, none⟩) 2 2) w7 HS7.out.a2.row HS7.out.a2.som (RowI.of_blk HAR7.out rfl (by decide)) (by rw [parts_len]; decide) HMS.out
                have hlX : n2 = (X2.length : Int) := HS7.out.e2
                have hXk : X2.length ≤ A.length := by have := HPERM.out.length_eq; simp at this; omega
                have hAk := HAK.out
                rw [parts_take, parts_len, show wrap64 (n2 + 1) = n2 + 1 from w64 (by omega)] at ht
                have HT := Lib.hid ht
                clear ht hlX hXk hAk
                go_wp2_with (refine wpList_load_at rfl 39 _ rfl b7 4 rfl #[.int .i64 n2, v2] _ (fun j hj => by have hj2 : j < 2 := hj; rw [Blk.cell HS7.out.h7]; match j, hj2 with | 0, _ => rfl | 1, _ => rfl) Try.underlying39 rfl info39 ?_)
                refine HT.out.mono ?_
                rintro e w8 ⟨v'', rfl, hown, hB8⟩
                obtain ⟨a5, c5, rfl⟩ := owns_form hown
                have hS9 := HS7.out.part2 (A' := X2 ++ [(x, y)]) (n' := n2 + 1) hB8 hown (by have := HS7.out.e2; rw [List.length_append]; simp; omega)
                have h7 := (HS7.out.below hB8).h7
                have HS9 := Lib.hid hS9
                have H7 := Lib.hid h7
                clear hS9 h7 hown hB8 HT HS7 HAR7
                go_wp2_with (refine wpList_store_mid rfl 39 _ _ rfl b7 4 #[.int .i64 (n2 + 1), .slice a5 2 c5] rfl rfl 54 #[.int .i64 n0, v0, .int .i64 n1, v1, .int .i64 n2, v2, .int .i64 n3, v3] #[.int .i64 n0, v0, .int .i64 n1, v1, .int .i64 (n2 + 1), .slice a5 2 c5, .int .i64 n3, v3] H7.out info39 (by simp) (by simp [Value.oneCell']) rfl ?_)
                go_roundw
                case rel =>
                  (repeat apply Exists.intro)
                  refine ⟨⟨k + 1, A ++ [(x, y)], X0, X1, X2 ++ [(x, y)], X3, n + 1, n0, n1, n2 + 1, n3, .slice a' 2 c', v0, v1, .slice a5 2 c5, v3, by omega, by omega, by go_num, by have := HAK.out; rw [List.length_append]; simp; omega, perm2 HPERM.out, HS9.out⟩, rfl⟩
                case measure => simp [intOf]; omega
            · as_aux_lemma =>
                go_upto_region 16 with (fail)
                refine wp_region_still_tail 10 (by kernel_rfl) (by kernel_rfl) ?_
                simp only [List.take_succ_cons, List.take_zero, List.drop_succ_cons, List.drop_zero]
                repeat still_step
                refine wpStill_nil ?_
                change wpList _ _ _ _ _ wr.drew
                go_upto_region 17 with (fail)
                obtain ⟨w5, hw5⟩ : ∃ w5, w5 = (wr.alloc (Obj.cells #[.int .i64 x, .int .i64 y] 2)).drew := ⟨_, rfl⟩
                obtain ⟨b5, hb5⟩ : ∃ b5, wr.heap.size = b5 := ⟨_, rfl⟩
                have hS5 : St w w5 b6 b7 A X0 X1 X2 X3 n n0 n1 n2 n3 v v0 v1 v2 v3 := by rw [hw5]; exact HS.out.below (Below.drew (Below.al (Below.refl _ _) _))
                have harr : Arr w5 b5 2 [x, y] := by rw [hw5, ← hb5]; exact Blk.drew (Blk.new wr 2 _)
                rw [hb5, ← hw5]
                have hl5 : b5 < w5.heap.size := Blk.lt harr
                have ht := take27 (partsOf A) [x, y] n v (.slice (some ⟨b5, 0, none⟩) 2 2) w5 hS5.a.row hS5.a.som (RowI.of_blk harr rfl (by decide)) (by rw [parts_len]; decide) HMS.out
                have hlA : n = (A.length : Int) := hS5.e
                have hAk := HAK.out
                rw [parts_take, parts_len, show wrap64 (n + 1) = n + 1 from w64 (by omega)] at ht
                have HT := Lib.hid ht
                have HS5 := Lib.hid hS5
                have HAR := Lib.hid harr
                clear ht hS5 harr hw5 hb5 f0 f1 hlA hAk HS
                go_wp2_with (refine wpList_load_at rfl 39 _ rfl b6 0 rfl #[.int .i64 n, v] _ (fun j hj => by rw [Nat.zero_add]; exact Blk.cell HS5.out.h6 j) Try.underlying39 rfl info39 ?_)
                refine HT.out.mono ?_
                rintro e w6 ⟨v', rfl, hown, hB6⟩
                obtain ⟨a', c', rfl⟩ := owns_form hown
                have hS7 := HS5.out.all (A' := A ++ [(x, y)]) (n' := n + 1) hB6 hown (by have := HS5.out.e; rw [List.length_append]; simp; omega)
                have h6 := (HS5.out.below hB6).h6
                have harr7 := Blk.otherRow (cs' := #[.int .i64 (n + 1), .slice a' 2 c']) (Blk.below HAR.out hB6 hl5) (show b5 ≠ b6 by have := HS5.out.h6; intro e; subst e; unfold Blk at this; have h2 := HAR.out; unfold Arr Blk at h2; rw [this] at h2; simp at h2)
                have HS7 := Lib.hid hS7
                have HAR7 := Lib.hid harr7
                have H6 := Lib.hid h6
                clear hS7 harr7 h6 hown hB6 HT
                go_upto_region 18 with (refine wpList_store_row rfl 39 _ _ rfl b6 #[.int .i64 (n + 1), .slice a' 2 c'] rfl rfl 39 _ H6.out info39 rfl (by simp [Value.oneCell']) ?_)
                obtain ⟨w7, hw7⟩ : ∃ w7, w7 = w6.setRow b6 #[.int .i64 (n + 1), .slice a' 2 c'] := ⟨_, rfl⟩
                rw [← hw7] at HS7 HAR7 ⊢
                clear hw7 H6 HS5 HAR hl5
                have ht := take27 (partsOf X3) [x, y] n3 v3 (.slice (some ⟨b5, 0, none⟩) 2 2) w7 HS7.out.a3.row HS7.out.a3.som (RowI.of_blk HAR7.out rfl (by decide)) (by rw [parts_len]; decide) HMS.out
                have hlX : n3 = (X3.length : Int) := HS7.out.e3
                have hXk : X3.length ≤ A.length := by have := HPERM.out.length_eq; simp at this; omega
                have hAk := HAK.out
                rw [parts_take, parts_len, show wrap64 (n3 + 1) = n3 + 1 from w64 (by omega)] at ht
                have HT := Lib.hid ht
                clear ht hlX hXk hAk
                go_wp2_with (refine wpList_load_at rfl 39 _ rfl b7 6 rfl #[.int .i64 n3, v3] _ (fun j hj => by have hj2 : j < 2 := hj; rw [Blk.cell HS7.out.h7]; match j, hj2 with | 0, _ => rfl | 1, _ => rfl) Try.underlying39 rfl info39 ?_)
                refine HT.out.mono ?_
                rintro e w8 ⟨v'', rfl, hown, hB8⟩
                obtain ⟨a5, c5, rfl⟩ := owns_form hown
                have hS9 := HS7.out.part3 (A' := X3 ++ [(x, y)]) (n' := n3 + 1) hB8 hown (by have := HS7.out.e3; rw [List.length_append]; simp; omega)
                have h7 := (HS7.out.below hB8).h7
                have HS9 := Lib.hid hS9
                have H7 := Lib.hid h7
                clear hS9 h7 hown hB8 HT HS7 HAR7
                go_wp2_with (refine wpList_store_mid rfl 39 _ _ rfl b7 6 #[.int .i64 (n3 + 1), .slice a5 2 c5] rfl rfl 54 #[.int .i64 n0, v0, .int .i64 n1, v1, .int .i64 n2, v2, .int .i64 n3, v3] #[.int .i64 n0, v0, .int .i64 n1, v1, .int .i64 n2, v2, .int .i64 (n3 + 1), .slice a5 2 c5] H7.out info39 (by simp) (by simp [Value.oneCell']) rfl ?_)
                go_roundw
                case rel =>
                  (repeat apply Exists.intro)
                  refine ⟨⟨k + 1, A ++ [(x, y)], X0, X1, X2, X3 ++ [(x, y)], n + 1, n0, n1, n2, n3 + 1, .slice a' 2 c', v0, v1, v2, .slice a5 2 c5, by omega, by omega, by go_num, by have := HAK.out; rw [List.length_append]; simp; omega, perm3 HPERM.out, HS9.out⟩, rfl⟩
                case measure => simp [intOf]; omega
            · as_aux_lemma =>
                go_upto_region 16 with (fail)
                refine wp_region_still_tail 10 (by kernel_rfl) (by kernel_rfl) ?_
                simp only [List.take_succ_cons, List.take_zero, List.drop_succ_cons, List.drop_zero]
                repeat still_step
                refine wpStill_nil ?_
                change wpList _ _ _ _ _ wr.drew
                go_upto_region 17 with (fail)
                obtain ⟨w5, hw5⟩ : ∃ w5, w5 = (wr.alloc (Obj.cells #[.int .i64 x, .int .i64 y] 2)).drew := ⟨_, rfl⟩
                obtain ⟨b5, hb5⟩ : ∃ b5, wr.heap.size = b5 := ⟨_, rfl⟩
                have hS5 : St w w5 b6 b7 A X0 X1 X2 X3 n n0 n1 n2 n3 v v0 v1 v2 v3 := by rw [hw5]; exact HS.out.below (Below.drew (Below.al (Below.refl _ _) _))
                have harr : Arr w5 b5 2 [x, y] := by rw [hw5, ← hb5]; exact Blk.drew (Blk.new wr 2 _)
                rw [hb5, ← hw5]
                have hl5 : b5 < w5.heap.size := Blk.lt harr
                have ht := take27 (partsOf A) [x, y] n v (.slice (some ⟨b5, 0, none⟩) 2 2) w5 hS5.a.row hS5.a.som (RowI.of_blk harr rfl (by decide)) (by rw [parts_len]; decide) HMS.out
                have hlA : n = (A.length : Int) := hS5.e
                have hAk := HAK.out
                rw [parts_take, parts_len, show wrap64 (n + 1) = n + 1 from w64 (by omega)] at ht
                have HT := Lib.hid ht
                have HS5 := Lib.hid hS5
                have HAR := Lib.hid harr
                clear ht hS5 harr hw5 hb5 f0 f1 hlA hAk HS
                go_wp2_with (refine wpList_load_at rfl 39 _ rfl b6 0 rfl #[.int .i64 n, v] _ (fun j hj => by rw [Nat.zero_add]; exact Blk.cell HS5.out.h6 j) Try.underlying39 rfl info39 ?_)
                refine HT.out.mono ?_
                rintro e w6 ⟨v', rfl, hown, hB6⟩
                obtain ⟨a', c', rfl⟩ := owns_form hown
                have hS7 := HS5.out.all (A' := A ++ [(x, y)]) (n' := n + 1) hB6 hown (by have := HS5.out.e; rw [List.length_append]; simp; omega)
                have h6 := (HS5.out.below hB6).h6
                have harr7 := Blk.otherRow (cs' := #[.int .i64 (n + 1), .slice a' 2 c']) (Blk.below HAR.out hB6 hl5) (show b5 ≠ b6 by have := HS5.out.h6; intro e; subst e; unfold Blk at this; have h2 := HAR.out; unfold Arr Blk at h2; rw [this] at h2; simp at h2)
                have HS7 := Lib.hid hS7
                have HAR7 := Lib.hid harr7
                have H6 := Lib.hid h6
                clear hS7 harr7 h6 hown hB6 HT
                go_upto_region 18 with (refine wpList_store_row rfl 39 _ _ rfl b6 #[.int .i64 (n + 1), .slice a' 2 c'] rfl rfl 39 _ H6.out info39 rfl (by simp [Value.oneCell']) ?_)
                obtain ⟨w7, hw7⟩ : ∃ w7, w7 = w6.setRow b6 #[.int .i64 (n + 1), .slice a' 2 c'] := ⟨_, rfl⟩
                rw [← hw7] at HS7 HAR7 ⊢
                clear hw7 H6 HS5 HAR hl5
                have ht := take27 (partsOf X1) [x, y] n1 v1 (.slice (some ⟨b5, 0, none⟩) 2 2) w7 HS7.out.a1.row HS7.out.a1.som (RowI.of_blk HAR7.out rfl (by decide)) (by rw [parts_len]; decide) HMS.out
                have hlX : n1 = (X1.length : Int) := HS7.out.e1
                have hXk : X1.length ≤ A.length := by have := HPERM.out.length_eq; simp at this; omega
                have hAk := HAK.out
                rw [parts_take, parts_len, show wrap64 (n1 + 1) = n1 + 1 from w64 (by omega)] at ht
                have HT := Lib.hid ht
                clear ht hlX hXk hAk
                go_wp2_with (refine wpList_load_at rfl 39 _ rfl b7 2 rfl #[.int .i64 n1, v1] _ (fun j hj => by have hj2 : j < 2 := hj; rw [Blk.cell HS7.out.h7]; match j, hj2 with | 0, _ => rfl | 1, _ => rfl) Try.underlying39 rfl info39 ?_)
                refine HT.out.mono ?_
                rintro e w8 ⟨v'', rfl, hown, hB8⟩
                obtain ⟨a5, c5, rfl⟩ := owns_form hown
                have hS9 := HS7.out.part1 (A' := X1 ++ [(x, y)]) (n' := n1 + 1) hB8 hown (by have := HS7.out.e1; rw [List.length_append]; simp; omega)
                have h7 := (HS7.out.below hB8).h7
                have HS9 := Lib.hid hS9
                have H7 := Lib.hid h7
                clear hS9 h7 hown hB8 HT HS7 HAR7
                go_wp2_with (refine wpList_store_mid rfl 39 _ _ rfl b7 2 #[.int .i64 (n1 + 1), .slice a5 2 c5] rfl rfl 54 #[.int .i64 n0, v0, .int .i64 n1, v1, .int .i64 n2, v2, .int .i64 n3, v3] #[.int .i64 n0, v0, .int .i64 (n1 + 1), .slice a5 2 c5, .int .i64 n2, v2, .int .i64 n3, v3] H7.out info39 (by simp) (by simp [Value.oneCell']) rfl ?_)
                go_roundw
                case rel =>
                  (repeat apply Exists.intro)
                  refine ⟨⟨k + 1, A ++ [(x, y)], X0, X1 ++ [(x, y)], X2, X3, n + 1, n0, n1 + 1, n2, n3, .slice a' 2 c', v0, .slice a5 2 c5, v2, v3, by omega, by omega, by go_num, by have := HAK.out; rw [List.length_append]; simp; omega, perm1 HPERM.out, HS9.out⟩, rfl⟩
                case measure => simp [intOf]; omega
            · as_aux_lemma =>
                go_upto_region 16 with (fail)
                refine wp_region_still_tail 10 (by kernel_rfl) (by kernel_rfl) ?_
                simp only [List.take_succ_cons, List.take_zero, List.drop_succ_cons, List.drop_zero]
                repeat still_step
                refine wpStill_nil ?_
                change wpList _ _ _ _ _ wr.drew
                go_upto_region 17 with (fail)
                obtain ⟨w5, hw5⟩ : ∃ w5, w5 = (wr.alloc (Obj.cells #[.int .i64 x, .int .i64 y] 2)).drew := ⟨_, rfl⟩
                obtain ⟨b5, hb5⟩ : ∃ b5, wr.heap.size = b5 := ⟨_, rfl⟩
                have hS5 : St w w5 b6 b7 A X0 X1 X2 X3 n n0 n1 n2 n3 v v0 v1 v2 v3 := by rw [hw5]; exact HS.out.below (Below.drew (Below.al (Below.refl _ _) _))
                have harr : Arr w5 b5 2 [x, y] := by rw [hw5, ← hb5]; exact Blk.drew (Blk.new wr 2 _)
                rw [hb5, ← hw5]
                have hl5 : b5 < w5.heap.size := Blk.lt harr
                have ht := take27 (partsOf A) [x, y] n v (.slice (some ⟨b5, 0, none⟩) 2 2) w5 hS5.a.row hS5.a.som (RowI.of_blk harr rfl (by decide)) (by rw [parts_len]; decide) HMS.out
                have hlA : n = (A.length : Int) := hS5.e
                have hAk := HAK.out
                rw [parts_take, parts_len, show wrap64 (n + 1) = n + 1 from w64 (by omega)] at ht
                have HT := Lib.hid ht
                have HS5 := Lib.hid hS5
                have HAR := Lib.hid harr
                clear ht hS5 harr hw5 hb5 f0 f1 hlA hAk HS
                go_wp2_with (refine wpList_load_at rfl 39 _ rfl b6 0 rfl #[.int .i64 n, v] _ (fun j hj => by rw [Nat.zero_add]; exact Blk.cell HS5.out.h6 j) Try.underlying39 rfl info39 ?_)
                refine HT.out.mono ?_
                rintro e w6 ⟨v', rfl, hown, hB6⟩
                obtain ⟨a', c', rfl⟩ := owns_form hown
                have hS7 := HS5.out.all (A' := A ++ [(x, y)]) (n' := n + 1) hB6 hown (by have := HS5.out.e; rw [List.length_append]; simp; omega)
                have h6 := (HS5.out.below hB6).h6
                have harr7 := Blk.otherRow (cs' := #[.int .i64 (n + 1), .slice a' 2 c']) (Blk.below HAR.out hB6 hl5) (show b5 ≠ b6 by have := HS5.out.h6; intro e; subst e; unfold Blk at this; have h2 := HAR.out; unfold Arr Blk at h2; rw [this] at h2; simp at h2)
                have HS7 := Lib.hid hS7
                have HAR7 := Lib.hid harr7
                have H6 := Lib.hid h6
                clear hS7 harr7 h6 hown hB6 HT
                go_upto_region 18 with (refine wpList_store_row rfl 39 _ _ rfl b6 #[.int .i64 (n + 1), .slice a' 2 c'] rfl rfl 39 _ H6.out info39 rfl (by simp [Value.oneCell']) ?_)
                obtain ⟨w7, hw7⟩ : ∃ w7, w7 = w6.setRow b6 #[.int .i64 (n + 1), .slice a' 2 c'] := ⟨_, rfl⟩
                rw [← hw7] at HS7 HAR7 ⊢
                clear hw7 H6 HS5 HAR hl5
                have ht := take27 (partsOf X2) [x, y] n2 v2 (.slice (some ⟨b5, 0, none⟩) 2 2) w7 HS7.out.a2.row HS7.out.a2.som (RowI.of_blk HAR7.out rfl (by decide)) (by rw [parts_len]; decide) HMS.out
                have hlX : n2 = (X2.length : Int) := HS7.out.e2
                have hXk : X2.length ≤ A.length := by have := HPERM.out.length_eq; simp at this; omega
                have hAk := HAK.out
                rw [parts_take, parts_len, show wrap64 (n2 + 1) = n2 + 1 from w64 (by omega)] at ht
                have HT := Lib.hid ht
                clear ht hlX hXk hAk
                go_wp2_with (refine wpList_load_at rfl 39 _ rfl b7 4 rfl #[.int .i64 n2, v2] _ (fun j hj => by have hj2 : j < 2 := hj; rw [Blk.cell HS7.out.h7]; match j, hj2 with | 0, _ => rfl | 1, _ => rfl) Try.underlying39 rfl info39 ?_)
                refine HT.out.mono ?_
                rintro e w8 ⟨v'', rfl, hown, hB8⟩
                obtain ⟨a5, c5, rfl⟩ := owns_form hown
                have hS9 := HS7.out.part2 (A' := X2 ++ [(x, y)]) (n' := n2 + 1) hB8 hown (by have := HS7.out.e2; rw [List.length_append]; simp; omega)
                have h7 := (HS7.out.below hB8).h7
                have HS9 := Lib.hid hS9
                have H7 := Lib.hid h7
                clear hS9 h7 hown hB8 HT HS7 HAR7
                go_wp2_with (refine wpList_store_mid rfl 39 _ _ rfl b7 4 #[.int .i64 (n2 + 1), .slice a5 2 c5] rfl rfl 54 #[.int .i64 n0, v0, .int .i64 n1, v1, .int .i64 n2, v2, .int .i64 n3, v3] #[.int .i64 n0, v0, .int .i64 n1, v1, .int .i64 (n2 + 1), .slice a5 2 c5, .int .i64 n3, v3] H7.out info39 (by simp) (by simp [Value.oneCell']) rfl ?_)
                go_roundw
                case rel =>
                  (repeat apply Exists.intro)
                  refine ⟨⟨k + 1, A ++ [(x, y)], X0, X1, X2 ++ [(x, y)], X3, n + 1, n0, n1, n2 + 1, n3, .slice a' 2 c', v0, v1, .slice a5 2 c5, v3, by omega, by omega, by go_num, by have := HAK.out; rw [List.length_append]; simp; omega, perm2 HPERM.out, HS9.out⟩, rfl⟩
                case measure => simp [intOf]; omega
            · as_aux_lemma =>
                go_upto_region 16 with (fail)
                refine wp_region_still_tail 10 (by kernel_rfl) (by kernel_rfl) ?_
                simp only [List.take_succ_cons, List.take_zero, List.drop_succ_cons, List.drop_zero]
                repeat still_step
                refine wpStill_nil ?_
                change wpList _ _ _ _ _ wr.drew
                go_upto_region 17 with (fail)
                obtain ⟨w5, hw5⟩ : ∃ w5, w5 = (wr.alloc (Obj.cells #[.int .i64 x, .int .i64 y] 2)).drew := ⟨_, rfl⟩
                obtain ⟨b5, hb5⟩ : ∃ b5, wr.heap.size = b5 := ⟨_, rfl⟩
                have hS5 : St w w5 b6 b7 A X0 X1 X2 X3 n n0 n1 n2 n3 v v0 v1 v2 v3 := by rw [hw5]; exact HS.out.below (Below.drew (Below.al (Below.refl _ _) _))
                have harr : Arr w5 b5 2 [x, y] := by rw [hw5, ← hb5]; exact Blk.drew (Blk.new wr 2 _)
                rw [hb5, ← hw5]
                have hl5 : b5 < w5.heap.size := Blk.lt harr
                have ht := take27 (partsOf A) [x, y] n v (.slice (some ⟨b5, 0, none⟩) 2 2) w5 hS5.a.row hS5.a.som (RowI.of_blk harr rfl (by decide)) (by rw [parts_len]; decide) HMS.out
                have hlA : n = (A.length : Int) := hS5.e
                have hAk := HAK.out
                rw [parts_take, parts_len, show wrap64 (n + 1) = n + 1 from w64 (by omega)] at ht
                have HT := Lib.hid ht
                have HS5 := Lib.hid hS5
                have HAR := Lib.hid harr
                clear ht hS5 harr hw5 hb5 f0 f1 hlA hAk HS
                go_wp2_with (refine wpList_load_at rfl 39 _ rfl b6 0 rfl #[.int .i64 n, v] _ (fun j hj => by rw [Nat.zero_add]; exact Blk.cell HS5.out.h6 j) Try.underlying39 rfl info39 ?_)
                refine HT.out.mono ?_
                rintro e w6 ⟨v', rfl, hown, hB6⟩
                obtain ⟨a', c', rfl⟩ := owns_form hown
                have hS7 := HS5.out.all (A' := A ++ [(x, y)]) (n' := n + 1) hB6 hown (by have := HS5.out.e; rw [List.length_append]; simp; omega)
                have h6 := (HS5.out.below hB6).h6
                have harr7 := Blk.otherRow (cs' := #[.int .i64 (n + 1), .slice a' 2 c']) (Blk.below HAR.out hB6 hl5) (show b5 ≠ b6 by have := HS5.out.h6; intro e; subst e; unfold Blk at this; have h2 := HAR.out; unfold Arr Blk at h2; rw [this] at h2; simp at h2)
                have HS7 := Lib.hid hS7
                have HAR7 := Lib.hid harr7
                have H6 := Lib.hid h6
                clear hS7 harr7 h6 hown hB6 HT
                go_upto_region 18 with (refine wpList_store_row rfl 39 _ _ rfl b6 #[.int .i64 (n + 1), .slice a' 2 c'] rfl rfl 39 _ H6.out info39 rfl (by simp [Value.oneCell']) ?_)
                obtain ⟨w7, hw7⟩ : ∃ w7, w7 = w6.setRow b6 #[.int .i64 (n + 1), .slice a' 2 c'] := ⟨_, rfl⟩
                rw [← hw7] at HS7 HAR7 ⊢
                clear hw7 H6 HS5 HAR hl5
                have ht := take27 (partsOf X3) [x, y] n3 v3 (.slice (some ⟨b5, 0, none⟩) 2 2) w7 HS7.out.a3.row HS7.out.a3.som (RowI.of_blk HAR7.out rfl (by decide)) (by rw [parts_len]; decide) HMS.out
                have hlX : n3 = (X3.length : Int) := HS7.out.e3
                have hXk : X3.length ≤ A.length := by have := HPERM.out.length_eq; simp at this; omega
                have hAk := HAK.out
                rw [parts_take, parts_len, show wrap64 (n3 + 1) = n3 + 1 from w64 (by omega)] at ht
                have HT := Lib.hid ht
                clear ht hlX hXk hAk
                go_wp2_with (refine wpList_load_at rfl 39 _ rfl b7 6 rfl #[.int .i64 n3, v3] _ (fun j hj => by have hj2 : j < 2 := hj; rw [Blk.cell HS7.out.h7]; match j, hj2 with | 0, _ => rfl | 1, _ => rfl) Try.underlying39 rfl info39 ?_)
                refine HT.out.mono ?_
                rintro e w8 ⟨v'', rfl, hown, hB8⟩
                obtain ⟨a5, c5, rfl⟩ := owns_form hown
                have hS9 := HS7.out.part3 (A' := X3 ++ [(x, y)]) (n' := n3 + 1) hB8 hown (by have := HS7.out.e3; rw [List.length_append]; simp; omega)
                have h7 := (HS7.out.below hB8).h7
                have HS9 := Lib.hid hS9
                have H7 := Lib.hid h7
                clear hS9 h7 hown hB8 HT HS7 HAR7
                go_wp2_with (refine wpList_store_mid rfl 39 _ _ rfl b7 6 #[.int .i64 (n3 + 1), .slice a5 2 c5] rfl rfl 54 #[.int .i64 n0, v0, .int .i64 n1, v1, .int .i64 n2, v2, .int .i64 n3, v3] #[.int .i64 n0, v0, .int .i64 n1, v1, .int .i64 n2, v2, .int .i64 (n3 + 1), .slice a5 2 c5] H7.out info39 (by simp) (by simp [Value.oneCell']) rfl ?_)
                go_roundw
                case rel =>
                  (repeat apply Exists.intro)
                  refine ⟨⟨k + 1, A ++ [(x, y)], X0, X1, X2, X3 ++ [(x, y)], n + 1, n0, n1, n2, n3 + 1, .slice a' 2 c', v0, v1, v2, .slice a5 2 c5, by omega, by omega, by go_num, by have := HAK.out; rw [List.length_append]; simp; omega, perm3 HPERM.out, HS9.out⟩, rfl⟩
                case measure => simp [intOf]; omega
          · have e1 : decide ((k : Int) < ps.length) = false := by simp; omega
            have e2 : decide (k < ps.length) = false := by simp; omega
            as_aux_lemma =>
              go_upto_region 16 with (fail)
              refine wp_region_still_tail 10 (by kernel_rfl) (by kernel_rfl) ?_
              simp only [List.take_succ_cons, List.take_zero, List.drop_succ_cons, List.drop_zero]
              repeat still_step
              refine wpStill_nil ?_
              change wpList _ _ _ _ _ wr.drew
              go_upto_region 17 with (fail)
              obtain ⟨w5, hw5⟩ : ∃ w5, w5 = (wr.alloc (Obj.cells #[.int .i64 x, .int .i64 y] 2)).drew := ⟨_, rfl⟩
              obtain ⟨b5, hb5⟩ : ∃ b5, wr.heap.size = b5 := ⟨_, rfl⟩
              have hS5 : St w w5 b6 b7 A X0 X1 X2 X3 n n0 n1 n2 n3 v v0 v1 v2 v3 := by rw [hw5]; exact HS.out.below (Below.drew (Below.al (Below.refl _ _) _))
              have harr : Arr w5 b5 2 [x, y] := by rw [hw5, ← hb5]; exact Blk.drew (Blk.new wr 2 _)
              rw [hb5, ← hw5]
              have hl5 : b5 < w5.heap.size := Blk.lt harr
              have ht := take27 (partsOf A) [x, y] n v (.slice (some ⟨b5, 0, none⟩) 2 2) w5 hS5.a.row hS5.a.som (RowI.of_blk harr rfl (by decide)) (by rw [parts_len]; decide) HMS.out
              have hlA : n = (A.length : Int) := hS5.e
              have hAk := HAK.out
              rw [parts_take, parts_len, show wrap64 (n + 1) = n + 1 from w64 (by omega)] at ht
              have HT := Lib.hid ht
              have HS5 := Lib.hid hS5
              have HAR := Lib.hid harr
              clear ht hS5 harr hw5 hb5 f0 f1 hlA hAk HS
              go_wp2_with (refine wpList_load_at rfl 39 _ rfl b6 0 rfl #[.int .i64 n, v] _ (fun j hj => by rw [Nat.zero_add]; exact Blk.cell HS5.out.h6 j) Try.underlying39 rfl info39 ?_)
              refine HT.out.mono ?_
              rintro e w6 ⟨v', rfl, hown, hB6⟩
              obtain ⟨a', c', rfl⟩ := owns_form hown
              have hS7 := HS5.out.all (A' := A ++ [(x, y)]) (n' := n + 1) hB6 hown (by have := HS5.out.e; rw [List.length_append]; simp; omega)
              have h6 := (HS5.out.below hB6).h6
              have harr7 := Blk.otherRow (cs' := #[.int .i64 (n + 1), .slice a' 2 c']) (Blk.below HAR.out hB6 hl5) (show b5 ≠ b6 by have := HS5.out.h6; intro e; subst e; unfold Blk at this; have h2 := HAR.out; unfold Arr Blk at h2; rw [this] at h2; simp at h2)
              have HS7 := Lib.hid hS7
              have HAR7 := Lib.hid harr7
              have H6 := Lib.hid h6
              clear hS7 harr7 h6 hown hB6 HT
              go_upto_region 18 with (refine wpList_store_row rfl 39 _ _ rfl b6 #[.int .i64 (n + 1), .slice a' 2 c'] rfl rfl 39 _ H6.out info39 rfl (by simp [Value.oneCell']) ?_)
              obtain ⟨w7, hw7⟩ : ∃ w7, w7 = w6.setRow b6 #[.int .i64 (n + 1), .slice a' 2 c'] := ⟨_, rfl⟩
              rw [← hw7] at HS7 HAR7 ⊢
              clear hw7 H6 HS5 HAR hl5
              have ht := take27 (partsOf X0) [x, y] n0 v0 (.slice (some ⟨b5, 0, none⟩) 2 2) w7 HS7.out.a0.row HS7.out.a0.som (RowI.of_blk HAR7.out rfl (by decide)) (by rw [parts_len]; decide) HMS.out
              have hlX : n0 = (X0.length : Int) := HS7.out.e0
              have hXk : X0.length ≤ A.length := by have := HPERM.out.length_eq; simp at this; omega
              have hAk := HAK.out
              rw [parts_take, parts_len, show wrap64 (n0 + 1) = n0 + 1 from w64 (by omega)] at ht
              have HT := Lib.hid ht
              clear ht hlX hXk hAk
              go_wp2_with (refine wpList_load_at rfl 39 _ rfl b7 0 rfl #[.int .i64 n0, v0] _ (fun j hj => by have hj2 : j < 2 := hj; rw [Blk.cell HS7.out.h7]; match j, hj2 with | 0, _ => rfl | 1, _ => rfl) Try.underlying39 rfl info39 ?_)
              refine HT.out.mono ?_
              rintro e w8 ⟨v'', rfl, hown, hB8⟩
              obtain ⟨a5, c5, rfl⟩ := owns_form hown
              have hS9 := HS7.out.part0 (A' := X0 ++ [(x, y)]) (n' := n0 + 1) hB8 hown (by have := HS7.out.e0; rw [List.length_append]; simp; omega)
              have h7 := (HS7.out.below hB8).h7
              have HS9 := Lib.hid hS9
              have H7 := Lib.hid h7
              clear hS9 h7 hown hB8 HT HS7 HAR7
              go_wp2_with (refine wpList_store_mid rfl 39 _ _ rfl b7 0 #[.int .i64 (n0 + 1), .slice a5 2 c5] rfl rfl 54 #[.int .i64 n0, v0, .int .i64 n1, v1, .int .i64 n2, v2, .int .i64 n3, v3] #[.int .i64 (n0 + 1), .slice a5 2 c5, .int .i64 n1, v1, .int .i64 n2, v2, .int .i64 n3, v3] H7.out info39 (by simp) (by simp [Value.oneCell']) rfl ?_)
              go_roundw
              case rel =>
                (repeat apply Exists.intro)
                refine ⟨⟨k + 1, A ++ [(x, y)], X0 ++ [(x, y)], X1, X2, X3, n + 1, n0 + 1, n1, n2, n3, .slice a' 2 c', .slice a5 2 c5, v1, v2, v3, by omega, by omega, by go_num, by have := HAK.out; rw [List.length_append]; simp; omega, perm0 HPERM.out, HS9.out⟩, rfl⟩
              case measure => simp [intOf]; omega
        · rcases Nat.lt_or_ge k F.length with hkl | hkl
          · as_aux_lemma =>
              have d1 : decide ((k : Int) < F.length) = true := by simp; omega
              have d2 : decide (k < F.length) = true := by simp; omega
              have d3 : decide ((k : Int) < 200) = false := by simp; omega
              have d4 : decide (k < 200) = false := by simp; omega
              have hnb : (0 ≤ n0 ∧ 0 ≤ n1 ∧ 0 ≤ n2 ∧ 0 ≤ n3) ∧ n0 + n1 + n2 + n3 = n ∧ n ≤ 200 := by
                have q := HS.out.e; have q0 := HS.out.e0; have q1 := HS.out.e1; have q2 := HS.out.e2; have q3 := HS.out.e3
                have hl := HPERM.out.length_eq
                have := HAK.out
                simp at hl
                omega
              have HNB := Lib.hid hnb
              clear hnb
              obtain ⟨wz, hwz⟩ : ∃ wz : World, wz = wr := ⟨_, rfl⟩
              rw [← hwz] at HS ⊢
              clear hwz
              go_upto_region 19 with fail
              go_cut [12] (fun d wx => ∃ (g5 : Nat) (v5 : Value), d = .pointer (some ⟨g5, 0, none⟩) ∧ Blk wx g5 39 #[.int .i64 n, v5] ∧ wx.ownsRow 0 46 5 v5 2 (partsC (partsOf A)) ∧ Below wz.heap.size wz wx)
              case first =>
                refine hp_start (fun w' => Below wz.heap.size wz w') 13 rfl (by kernel_rfl) (fun c a a' w hd h => ⟨hd ▸ h.1, h.2⟩) (fun hP => ?_)
                rw [show Array.replicate 13 false = #[false, false, false, false, false, false, false, false, false, false, false, false, false] from rfl]
                have T0 : Below wz.heap.size wz wz.drew := (Below.refl _ _).drew
                have S0 := HS.out.below T0
                refine hp_take hP 0 (some 69) _ rfl rfl (by kernel_rfl) rfl (fun w' hS' => by go_simp; rfl) T0 ?_
                simp only [Act.put, List.setIfInBounds_toArray, List.set_cons_zero, List.set_cons_succ]
                refine hp_load_at hP 1 (some 70) rfl rfl (by kernel_rfl) rfl 39 _ rfl b7 0 rfl #[.int .i64 n0, v0] _ (fun w' hS' j hj => by have hj2 : j < 2 := hj; rw [hS'.cell (show b7 < wz.heap.size from HS.out.lt), Blk.cell HS.out.h7]; match j, hj2 with | 0, _ => rfl | 1, _ => rfl) Try.underlying39 rfl info39 T0 ?_
                simp only [Act.put, List.setIfInBounds_toArray, List.set_cons_zero, List.set_cons_succ]
                refine hp_take hP 2 (some 71) _ rfl rfl (by kernel_rfl) rfl (fun w' hS' => by go_simp; rfl) T0 ?_
                simp only [Act.put, List.setIfInBounds_toArray, List.set_cons_zero, List.set_cons_succ]
                refine hp_load_at hP 3 (some 72) rfl rfl (by kernel_rfl) rfl 39 _ rfl b7 2 rfl #[.int .i64 n1, v1] _ (fun w' hS' j hj => by have hj2 : j < 2 := hj; rw [hS'.cell (show b7 < wz.heap.size from HS.out.lt), Blk.cell HS.out.h7]; match j, hj2 with | 0, _ => rfl | 1, _ => rfl) Try.underlying39 rfl info39 T0 ?_
                simp only [Act.put, List.setIfInBounds_toArray, List.set_cons_zero, List.set_cons_succ]
                refine hp_take hP 5 (some 74) _ rfl rfl (by kernel_rfl) rfl (fun w' hS' => by go_simp; rfl) T0 ?_
                simp only [Act.put, List.setIfInBounds_toArray, List.set_cons_zero, List.set_cons_succ]
                refine hp_load_at hP 6 (some 75) rfl rfl (by kernel_rfl) rfl 39 _ rfl b7 4 rfl #[.int .i64 n2, v2] _ (fun w' hS' j hj => by have hj2 : j < 2 := hj; rw [hS'.cell (show b7 < wz.heap.size from HS.out.lt), Blk.cell HS.out.h7]; match j, hj2 with | 0, _ => rfl | 1, _ => rfl) Try.underlying39 rfl info39 T0 ?_
                simp only [Act.put, List.setIfInBounds_toArray, List.set_cons_zero, List.set_cons_succ]
                refine hp_take hP 7 (some 76) _ rfl rfl (by kernel_rfl) rfl (fun w' hS' => by go_simp; rfl) T0 ?_
                simp only [Act.put, List.setIfInBounds_toArray, List.set_cons_zero, List.set_cons_succ]
                refine hp_load_at hP 8 (some 77) rfl rfl (by kernel_rfl) rfl 39 _ rfl b7 6 rfl #[.int .i64 n3, v3] _ (fun w' hS' j hj => by have hj2 : j < 2 := hj; rw [hS'.cell (show b7 < wz.heap.size from HS.out.lt), Blk.cell HS.out.h7]; match j, hj2 with | 0, _ => rfl | 1, _ => rfl) Try.underlying39 rfl info39 T0 ?_
                simp only [Act.put, List.setIfInBounds_toArray, List.set_cons_zero, List.set_cons_succ]
                refine hp_two 4 11 (by kernel_rfl) ?_ ?_
                · have hm := merge29 (partsOf (X0)) (partsOf (X1)) (n0) (n1) (v0) (v1) wz.drew S0.a0.row S0.a0.som S0.a1.row S0.a1.som (by rw [parts_len]; decide) (by rw [parts_len]; decide)
                  rw [parts_merge, parts_long, show wrap64 ((n0) + (n1)) = n0 + n1 from by have hh := HNB.out; rw [w64 (by omega)]] at hm
                  refine wpOp_call 4 (some 73) rfl rfl rfl 29 #[.agg #[.int .i64 (n0), v0], .agg #[.int .i64 (n1), v1]] (by go_simp; try rfl) (hm.mono ?_)
                  rintro e w0 ⟨q0, rfl, o0, B0⟩
                  obtain ⟨a0, c0, rfl⟩ := owns_form o0
                  clear hm
                  have T0 := Below.call T0 B0
                  refine ⟨_, rfl, T0, ?_⟩
                  simp only [Act.put, List.setIfInBounds_toArray, List.set_cons_zero, List.set_cons_succ]
                  have S0 := S0.below B0
                  refine hp_two 9 11 (by kernel_rfl) ?_ ?_
                  · have hm := merge29 (partsOf (X2)) (partsOf (X3)) (n2) (n3) (v2) (v3) w0 S0.a2.row S0.a2.som S0.a3.row S0.a3.som (by rw [parts_len]; decide) (by rw [parts_len]; decide)
                    rw [parts_merge, parts_long, show wrap64 ((n2) + (n3)) = n2 + n3 from by have hh := HNB.out; rw [w64 (by omega)]] at hm
                    refine wpOp_call 9 (some 78) rfl rfl rfl 29 #[.agg #[.int .i64 (n2), v2], .agg #[.int .i64 (n3), v3]] (by go_simp; try rfl) (hm.mono ?_)
                    rintro e wp1 ⟨qp1, rfl, op1, Bp1⟩
                    obtain ⟨ap1, cp1, rfl⟩ := owns_form op1
                    clear hm
                    have Tp1 := Below.call T0 Bp1
                    refine ⟨_, rfl, Tp1, ?_⟩
                    simp only [Act.put, List.setIfInBounds_toArray, List.set_cons_zero, List.set_cons_succ]
                    have Sp1 := S0.below Bp1
                    have op1_0 := owns_below o0 Bp1 (Nat.le_refl _)
                    refine hp_two 10 11 (by kernel_rfl) ?_ ?_
                    · have hm := merge29 (partsOf (X0 ++ X1)) (partsOf (X2 ++ X3)) (n0 + n1) (n2 + n3) (.slice a0 2 c0) (.slice ap1 2 cp1) wp1 (Row.of_owns op1_0) (owns_som op1_0) (Row.of_owns op1) (owns_som op1) (by rw [parts_len]; decide) (by rw [parts_len]; decide)
                      rw [parts_merge, parts_long, show wrap64 ((n0 + n1) + (n2 + n3)) = n from by have hh := HNB.out; rw [w64 (by omega)]; omega] at hm
                      rw [parts_perm (X := (X0 ++ X1) ++ (X2 ++ X3)) (Y := A) (by rw [← List.append_assoc]; exact HPERM.out)] at hm
                      refine wpOp_call 10 (some 79) rfl rfl rfl 29 #[.agg #[.int .i64 (n0 + n1), .slice a0 2 c0], .agg #[.int .i64 (n2 + n3), .slice ap1 2 cp1]] (by go_simp; try rfl) (hm.mono ?_)
                      rintro e wpp2 ⟨qpp2, rfl, opp2, Bpp2⟩
                      obtain ⟨app2, cpp2, rfl⟩ := owns_form opp2
                      clear hm
                      have Tpp2 := Below.call Tp1 Bpp2
                      refine ⟨_, rfl, Tpp2, ?_⟩
                      simp only [Act.put, List.setIfInBounds_toArray, List.set_cons_zero, List.set_cons_succ]
                      have Spp2 := Sp1.below Bpp2
                      have opp2_0 := owns_below op1_0 Bpp2 (Nat.le_refl _)
                      have opp2_1 := owns_below op1 Bpp2 (Nat.le_refl _)
                      have Tpppz : Below wz.heap.size wz (wpp2.alloc (Obj.cells #[.int .i64 0, .slice none 0 0] 39)) := Below.al Tpp2 _
                      refine hp_val 11 (some 12) rfl rfl (by kernel_rfl) rfl (.pointer (some ⟨wpp2.heap.size, 0, none⟩)) (wpp2.alloc (Obj.cells #[.int .i64 0, .slice none 0 0] 39)) (by go_simp; try rfl) Tpppz ?_
                      simp only [Act.put, List.setIfInBounds_toArray, List.set_cons_zero, List.set_cons_succ]
                      have Spppz := Spp2.below (Below.al (Below.refl _ _) (Obj.cells #[.int .i64 0, .slice none 0 0] 39))
                      have opppz_0 := owns_below opp2_0 (Below.al (Below.refl _ _) (Obj.cells #[.int .i64 0, .slice none 0 0] 39)) (Nat.le_refl _)
                      have opppz_1 := owns_below opp2_1 (Below.al (Below.refl _ _) (Obj.cells #[.int .i64 0, .slice none 0 0] 39)) (Nat.le_refl _)
                      have opppz_2 := owns_below opp2 (Below.al (Below.refl _ _) (Obj.cells #[.int .i64 0, .slice none 0 0] 39)) (Nat.le_refl _)
                      have hgpppz : Blk (wpp2.alloc (Obj.cells #[.int .i64 0, .slice none 0 0] 39)) wpp2.heap.size 39 #[.int .i64 0, .slice none 0 0] := Blk.newAt _ _ _ rfl
                      have gepppz : wz.heap.size ≤ wpp2.heap.size := Tpp2.size
                      obtain ⟨ypppz, hypppz⟩ : ∃ y, y = wpp2.alloc (Obj.cells #[.int .i64 0, .slice none 0 0] 39) := ⟨_, rfl⟩
                      rw [← hypppz] at Tpppz Spppz hgpppz opppz_0 opppz_1 opppz_2 ⊢
                      clear hypppz
                      have nzpppz : ∀ g, (Value.slice app2 2 cpp2).ownBlock = some g → g < wpp2.heap.size := fun g hg => (opp2.lt g hg).2
                      refine hp_store_row 12 rfl rfl (by kernel_rfl) rfl 39 _ _ rfl wpp2.heap.size #[.int .i64 n, .slice app2 2 cpp2] rfl rfl 39 _ hgpppz info39 rfl (by simp [Value.oneCell']) (Below.setRow Tpppz gepppz _) ?_
                      simp only [List.setIfInBounds_toArray, List.set_cons_zero, List.set_cons_succ]
                      refine hk_done (by kernel_rfl) ?_
                      have hfin := owns_row_other (owns_base opppz_2 (Nat.zero_le _)) (g5 := wpp2.heap.size) (fun g hg => by have h1 := opppz_2.lt g hg; have h2 := nzpppz g hg; omega) #[.int .i64 n, .slice app2 2 cpp2]
                      have hblk := Blk.setRow (cs' := #[.int .i64 n, .slice app2 2 cpp2]) hgpppz
                      have hbel := Below.setRow Tpppz gepppz #[.int .i64 n, .slice app2 2 cpp2]
                      have HFIN := Lib.hid (And.intro hblk (And.intro hfin hbel))
                      clear hfin hblk hbel
                      go_wp2_with fail
                      go_meet
                      exact ⟨_, _, rfl, HFIN.out.1, HFIN.out.2.1, HFIN.out.2.2⟩
                    · have Tppz : Below wz.heap.size wz (wp1.alloc (Obj.cells #[.int .i64 0, .slice none 0 0] 39)) := Below.al Tp1 _
                      refine wpOp_val 11 (some 12) rfl rfl rfl (.pointer (some ⟨wp1.heap.size, 0, none⟩)) (wp1.alloc (Obj.cells #[.int .i64 0, .slice none 0 0] 39)) (by go_simp; try rfl) ⟨Tppz, ?_⟩
                      simp only [Act.put, List.setIfInBounds_toArray, List.set_cons_zero, List.set_cons_succ]
                      have Sppz := Sp1.below (Below.al (Below.refl _ _) (Obj.cells #[.int .i64 0, .slice none 0 0] 39))
                      have oppz_0 := owns_below op1_0 (Below.al (Below.refl _ _) (Obj.cells #[.int .i64 0, .slice none 0 0] 39)) (Nat.le_refl _)
                      have oppz_1 := owns_below op1 (Below.al (Below.refl _ _) (Obj.cells #[.int .i64 0, .slice none 0 0] 39)) (Nat.le_refl _)
                      have hgppz : Blk (wp1.alloc (Obj.cells #[.int .i64 0, .slice none 0 0] 39)) wp1.heap.size 39 #[.int .i64 0, .slice none 0 0] := Blk.newAt _ _ _ rfl
                      have geppz : wz.heap.size ≤ wp1.heap.size := Tp1.size
                      obtain ⟨yppz, hyppz⟩ : ∃ y, y = wp1.alloc (Obj.cells #[.int .i64 0, .slice none 0 0] 39) := ⟨_, rfl⟩
                      rw [← hyppz] at Tppz Sppz hgppz oppz_0 oppz_1 ⊢
                      clear hyppz
                      have hm := merge29 (partsOf (X0 ++ X1)) (partsOf (X2 ++ X3)) (n0 + n1) (n2 + n3) (.slice a0 2 c0) (.slice ap1 2 cp1) yppz (Row.of_owns oppz_0) (owns_som oppz_0) (Row.of_owns oppz_1) (owns_som oppz_1) (by rw [parts_len]; decide) (by rw [parts_len]; decide)
                      rw [parts_merge, parts_long, show wrap64 ((n0 + n1) + (n2 + n3)) = n from by have hh := HNB.out; rw [w64 (by omega)]; omega] at hm
                      rw [parts_perm (X := (X0 ++ X1) ++ (X2 ++ X3)) (Y := A) (by rw [← List.append_assoc]; exact HPERM.out)] at hm
                      refine hp_call 10 (some 79) rfl rfl (by kernel_rfl) rfl 29 #[.agg #[.int .i64 (n0 + n1), .slice a0 2 c0], .agg #[.int .i64 (n2 + n3), .slice ap1 2 cp1]] (by go_simp; try rfl) (hm.mono ?_)
                      rintro e wppr2 ⟨qppr2, rfl, oppr2, Bppr2⟩
                      obtain ⟨appr2, cppr2, rfl⟩ := owns_form oppr2
                      clear hm
                      have Tppr2 := Below.call Tppz Bppr2
                      refine ⟨_, rfl, Tppr2, ?_⟩
                      simp only [Act.put, List.setIfInBounds_toArray, List.set_cons_zero, List.set_cons_succ]
                      have Sppr2 := Sppz.below Bppr2
                      have oppr2_0 := owns_below oppz_0 Bppr2 (Nat.le_refl _)
                      have oppr2_1 := owns_below oppz_1 Bppr2 (Nat.le_refl _)
                      have hgppr2 := Blk.below hgppz Bppr2 (Blk.lt hgppz)
                      refine hp_store_row 12 rfl rfl (by kernel_rfl) rfl 39 _ _ rfl wp1.heap.size #[.int .i64 n, .slice appr2 2 cppr2] rfl rfl 39 _ hgppr2 info39 rfl (by simp [Value.oneCell']) (Below.setRow Tppr2 geppz _) ?_
                      simp only [List.setIfInBounds_toArray, List.set_cons_zero, List.set_cons_succ]
                      refine hk_done (by kernel_rfl) ?_
                      have hfin := owns_row_other (owns_base oppr2 (Nat.zero_le _)) (g5 := wp1.heap.size) (fun g hg => by have h1 := oppr2.lt g hg; have h2 := Blk.lt hgppz; have h3 : True := trivial; omega) #[.int .i64 n, .slice appr2 2 cppr2]
                      have hblk := Blk.setRow (cs' := #[.int .i64 n, .slice appr2 2 cppr2]) hgppr2
                      have hbel := Below.setRow Tppr2 geppz #[.int .i64 n, .slice appr2 2 cppr2]
                      have HFIN := Lib.hid (And.intro hblk (And.intro hfin hbel))
                      clear hfin hblk hbel
                      go_wp2_with fail
                      go_meet
                      exact ⟨_, _, rfl, HFIN.out.1, HFIN.out.2.1, HFIN.out.2.2⟩
                  · have Tpz : Below wz.heap.size wz (w0.alloc (Obj.cells #[.int .i64 0, .slice none 0 0] 39)) := Below.al T0 _
                    refine wpOp_val 11 (some 12) rfl rfl rfl (.pointer (some ⟨w0.heap.size, 0, none⟩)) (w0.alloc (Obj.cells #[.int .i64 0, .slice none 0 0] 39)) (by go_simp; try rfl) ⟨Tpz, ?_⟩
                    simp only [Act.put, List.setIfInBounds_toArray, List.set_cons_zero, List.set_cons_succ]
                    have Spz := S0.below (Below.al (Below.refl _ _) (Obj.cells #[.int .i64 0, .slice none 0 0] 39))
                    have opz_0 := owns_below o0 (Below.al (Below.refl _ _) (Obj.cells #[.int .i64 0, .slice none 0 0] 39)) (Nat.le_refl _)
                    have hgpz : Blk (w0.alloc (Obj.cells #[.int .i64 0, .slice none 0 0] 39)) w0.heap.size 39 #[.int .i64 0, .slice none 0 0] := Blk.newAt _ _ _ rfl
                    have gepz : wz.heap.size ≤ w0.heap.size := T0.size
                    obtain ⟨ypz, hypz⟩ : ∃ y, y = w0.alloc (Obj.cells #[.int .i64 0, .slice none 0 0] 39) := ⟨_, rfl⟩
                    rw [← hypz] at Tpz Spz hgpz opz_0 ⊢
                    clear hypz
                    have hm := merge29 (partsOf (X2)) (partsOf (X3)) (n2) (n3) (v2) (v3) ypz Spz.a2.row Spz.a2.som Spz.a3.row Spz.a3.som (by rw [parts_len]; decide) (by rw [parts_len]; decide)
                    rw [parts_merge, parts_long, show wrap64 ((n2) + (n3)) = n2 + n3 from by have hh := HNB.out; rw [w64 (by omega)]] at hm
                    refine hp_call 9 (some 78) rfl rfl (by kernel_rfl) rfl 29 #[.agg #[.int .i64 (n2), v2], .agg #[.int .i64 (n3), v3]] (by go_simp; try rfl) (hm.mono ?_)
                    rintro e wpr1 ⟨qpr1, rfl, opr1, Bpr1⟩
                    obtain ⟨apr1, cpr1, rfl⟩ := owns_form opr1
                    clear hm
                    have Tpr1 := Below.call Tpz Bpr1
                    refine ⟨_, rfl, Tpr1, ?_⟩
                    simp only [Act.put, List.setIfInBounds_toArray, List.set_cons_zero, List.set_cons_succ]
                    have Spr1 := Spz.below Bpr1
                    have opr1_0 := owns_below opz_0 Bpr1 (Nat.le_refl _)
                    have hgpr1 := Blk.below hgpz Bpr1 (Blk.lt hgpz)
                    have hm := merge29 (partsOf (X0 ++ X1)) (partsOf (X2 ++ X3)) (n0 + n1) (n2 + n3) (.slice a0 2 c0) (.slice apr1 2 cpr1) wpr1 (Row.of_owns opr1_0) (owns_som opr1_0) (Row.of_owns opr1) (owns_som opr1) (by rw [parts_len]; decide) (by rw [parts_len]; decide)
                    rw [parts_merge, parts_long, show wrap64 ((n0 + n1) + (n2 + n3)) = n from by have hh := HNB.out; rw [w64 (by omega)]; omega] at hm
                    rw [parts_perm (X := (X0 ++ X1) ++ (X2 ++ X3)) (Y := A) (by rw [← List.append_assoc]; exact HPERM.out)] at hm
                    refine hp_call 10 (some 79) rfl rfl (by kernel_rfl) rfl 29 #[.agg #[.int .i64 (n0 + n1), .slice a0 2 c0], .agg #[.int .i64 (n2 + n3), .slice apr1 2 cpr1]] (by go_simp; try rfl) (hm.mono ?_)
                    rintro e wpr2 ⟨qpr2, rfl, opr2, Bpr2⟩
                    obtain ⟨apr2, cpr2, rfl⟩ := owns_form opr2
                    clear hm
                    have Tpr2 := Below.call Tpr1 Bpr2
                    refine ⟨_, rfl, Tpr2, ?_⟩
                    simp only [Act.put, List.setIfInBounds_toArray, List.set_cons_zero, List.set_cons_succ]
                    have Spr2 := Spr1.below Bpr2
                    have opr2_0 := owns_below opr1_0 Bpr2 (Nat.le_refl _)
                    have opr2_1 := owns_below opr1 Bpr2 (Nat.le_refl _)
                    have hgpr2 := Blk.below hgpr1 Bpr2 (Blk.lt hgpr1)
                    refine hp_store_row 12 rfl rfl (by kernel_rfl) rfl 39 _ _ rfl w0.heap.size #[.int .i64 n, .slice apr2 2 cpr2] rfl rfl 39 _ hgpr2 info39 rfl (by simp [Value.oneCell']) (Below.setRow Tpr2 gepz _) ?_
                    simp only [List.setIfInBounds_toArray, List.set_cons_zero, List.set_cons_succ]
                    refine hk_done (by kernel_rfl) ?_
                    have hfin := owns_row_other (owns_base opr2 (Nat.zero_le _)) (g5 := w0.heap.size) (fun g hg => by have h1 := opr2.lt g hg; have h2 := Blk.lt hgpr1; have h3 : True := trivial; omega) #[.int .i64 n, .slice apr2 2 cpr2]
                    have hblk := Blk.setRow (cs' := #[.int .i64 n, .slice apr2 2 cpr2]) hgpr2
                    have hbel := Below.setRow Tpr2 gepz #[.int .i64 n, .slice apr2 2 cpr2]
                    have HFIN := Lib.hid (And.intro hblk (And.intro hfin hbel))
                    clear hfin hblk hbel
                    go_wp2_with fail
                    go_meet
                    exact ⟨_, _, rfl, HFIN.out.1, HFIN.out.2.1, HFIN.out.2.2⟩
                · have Tz : Below wz.heap.size wz (wz.drew.alloc (Obj.cells #[.int .i64 0, .slice none 0 0] 39)) := Below.al T0 _
                  refine wpOp_val 11 (some 12) rfl rfl rfl (.pointer (some ⟨wz.drew.heap.size, 0, none⟩)) (wz.drew.alloc (Obj.cells #[.int .i64 0, .slice none 0 0] 39)) (by go_simp; try rfl) ⟨Tz, ?_⟩
                  simp only [Act.put, List.setIfInBounds_toArray, List.set_cons_zero, List.set_cons_succ]
                  have Sz := S0.below (Below.al (Below.refl _ _) (Obj.cells #[.int .i64 0, .slice none 0 0] 39))
                  have hgz : Blk (wz.drew.alloc (Obj.cells #[.int .i64 0, .slice none 0 0] 39)) wz.drew.heap.size 39 #[.int .i64 0, .slice none 0 0] := Blk.newAt _ _ _ rfl
                  have gez : wz.heap.size ≤ wz.drew.heap.size := T0.size
                  obtain ⟨yz, hyz⟩ : ∃ y, y = wz.drew.alloc (Obj.cells #[.int .i64 0, .slice none 0 0] 39) := ⟨_, rfl⟩
                  rw [← hyz] at Tz Sz hgz  ⊢
                  clear hyz
                  have hm := merge29 (partsOf (X0)) (partsOf (X1)) (n0) (n1) (v0) (v1) yz Sz.a0.row Sz.a0.som Sz.a1.row Sz.a1.som (by rw [parts_len]; decide) (by rw [parts_len]; decide)
                  rw [parts_merge, parts_long, show wrap64 ((n0) + (n1)) = n0 + n1 from by have hh := HNB.out; rw [w64 (by omega)]] at hm
                  refine hp_call 4 (some 73) rfl rfl (by kernel_rfl) rfl 29 #[.agg #[.int .i64 (n0), v0], .agg #[.int .i64 (n1), v1]] (by go_simp; try rfl) (hm.mono ?_)
                  rintro e wr0 ⟨qr0, rfl, or0, Br0⟩
                  obtain ⟨ar0, cr0, rfl⟩ := owns_form or0
                  clear hm
                  have Tr0 := Below.call Tz Br0
                  refine ⟨_, rfl, Tr0, ?_⟩
                  simp only [Act.put, List.setIfInBounds_toArray, List.set_cons_zero, List.set_cons_succ]
                  have Sr0 := Sz.below Br0
                  have hgr0 := Blk.below hgz Br0 (Blk.lt hgz)
                  have hm := merge29 (partsOf (X2)) (partsOf (X3)) (n2) (n3) (v2) (v3) wr0 Sr0.a2.row Sr0.a2.som Sr0.a3.row Sr0.a3.som (by rw [parts_len]; decide) (by rw [parts_len]; decide)
                  rw [parts_merge, parts_long, show wrap64 ((n2) + (n3)) = n2 + n3 from by have hh := HNB.out; rw [w64 (by omega)]] at hm
                  refine hp_call 9 (some 78) rfl rfl (by kernel_rfl) rfl 29 #[.agg #[.int .i64 (n2), v2], .agg #[.int .i64 (n3), v3]] (by go_simp; try rfl) (hm.mono ?_)
                  rintro e wr1 ⟨qr1, rfl, or1, Br1⟩
                  obtain ⟨ar1, cr1, rfl⟩ := owns_form or1
                  clear hm
                  have Tr1 := Below.call Tr0 Br1
                  refine ⟨_, rfl, Tr1, ?_⟩
                  simp only [Act.put, List.setIfInBounds_toArray, List.set_cons_zero, List.set_cons_succ]
                  have Sr1 := Sr0.below Br1
                  have or1_0 := owns_below or0 Br1 (Nat.le_refl _)
                  have hgr1 := Blk.below hgr0 Br1 (Blk.lt hgr0)
                  have hm := merge29 (partsOf (X0 ++ X1)) (partsOf (X2 ++ X3)) (n0 + n1) (n2 + n3) (.slice ar0 2 cr0) (.slice ar1 2 cr1) wr1 (Row.of_owns or1_0) (owns_som or1_0) (Row.of_owns or1) (owns_som or1) (by rw [parts_len]; decide) (by rw [parts_len]; decide)
                  rw [parts_merge, parts_long, show wrap64 ((n0 + n1) + (n2 + n3)) = n from by have hh := HNB.out; rw [w64 (by omega)]; omega] at hm
                  rw [parts_perm (X := (X0 ++ X1) ++ (X2 ++ X3)) (Y := A) (by rw [← List.append_assoc]; exact HPERM.out)] at hm
                  refine hp_call 10 (some 79) rfl rfl (by kernel_rfl) rfl 29 #[.agg #[.int .i64 (n0 + n1), .slice ar0 2 cr0], .agg #[.int .i64 (n2 + n3), .slice ar1 2 cr1]] (by go_simp; try rfl) (hm.mono ?_)
                  rintro e wr2 ⟨qr2, rfl, or2, Br2⟩
                  obtain ⟨ar2, cr2, rfl⟩ := owns_form or2
                  clear hm
                  have Tr2 := Below.call Tr1 Br2
                  refine ⟨_, rfl, Tr2, ?_⟩
                  simp only [Act.put, List.setIfInBounds_toArray, List.set_cons_zero, List.set_cons_succ]
                  have Sr2 := Sr1.below Br2
                  have or2_0 := owns_below or1_0 Br2 (Nat.le_refl _)
                  have or2_1 := owns_below or1 Br2 (Nat.le_refl _)
                  have hgr2 := Blk.below hgr1 Br2 (Blk.lt hgr1)
                  refine hp_store_row 12 rfl rfl (by kernel_rfl) rfl 39 _ _ rfl wz.drew.heap.size #[.int .i64 n, .slice ar2 2 cr2] rfl rfl 39 _ hgr2 info39 rfl (by simp [Value.oneCell']) (Below.setRow Tr2 gez _) ?_
                  simp only [List.setIfInBounds_toArray, List.set_cons_zero, List.set_cons_succ]
                  refine hk_done (by kernel_rfl) ?_
                  have hfin := owns_row_other (owns_base or2 (Nat.zero_le _)) (g5 := wz.drew.heap.size) (fun g hg => by have h1 := or2.lt g hg; have h2 := Blk.lt hgr1; have h3 : True := trivial; omega) #[.int .i64 n, .slice ar2 2 cr2]
                  have hblk := Blk.setRow (cs' := #[.int .i64 n, .slice ar2 2 cr2]) hgr2
                  have hbel := Below.setRow Tr2 gez #[.int .i64 n, .slice ar2 2 cr2]
                  have HFIN := Lib.hid (And.intro hblk (And.intro hfin hbel))
                  clear hfin hblk hbel
                  go_wp2_with fail
                  go_meet
                  exact ⟨_, _, rfl, HFIN.out.1, HFIN.out.2.1, HFIN.out.2.2⟩
              case rest =>
                obtain ⟨g5, v5, rfl, hblk, hown, hbel⟩ := hcut
                have HY := Lib.hid (HS.out.below hbel)
                have H5 := Lib.hid (And.intro hblk hown)
                clear hblk hown hbel HS
                obtain ⟨wy, hwy⟩ : ∃ wy : World, wy = wc := ⟨_, rfl⟩
                rw [← hwy] at HY H5 ⊢
                clear hwy
                go_upto_region 20 with fail
                go_cut [13] (fun d wx => ∃ (g6 : Nat) (v6 : Value), d = .pointer (some ⟨g6, 0, none⟩) ∧ Blk wx g6 39 #[.int .i64 n, v6] ∧ wx.ownsRow 0 46 5 v6 2 (partsC (partsOf A)) ∧ Below wy.heap.size wy wx)
                case first =>
                  refine hp_start (fun w' => Below wy.heap.size wy w') 13 rfl (by kernel_rfl) (fun c a a' w hd h => ⟨hd ▸ h.1, h.2⟩) (fun hP => ?_)
                  rw [show Array.replicate 13 false = #[false, false, false, false, false, false, false, false, false, false, false, false, false] from rfl]
                  have T0 : Below wy.heap.size wy wy.drew := (Below.refl _ _).drew
                  have S0 := HY.out.below T0
                  refine hp_take hP 0 (some 80) _ rfl rfl (by kernel_rfl) rfl (fun w' hS' => by go_simp; rfl) T0 ?_
                  simp only [Act.put, List.setIfInBounds_toArray, List.set_cons_zero, List.set_cons_succ]
                  refine hp_load_at hP 1 (some 81) rfl rfl (by kernel_rfl) rfl 39 _ rfl b7 6 rfl #[.int .i64 n3, v3] _ (fun w' hS' j hj => by have hj2 : j < 2 := hj; rw [hS'.cell (show b7 < wy.heap.size from HY.out.lt), Blk.cell HY.out.h7]; match j, hj2 with | 0, _ => rfl | 1, _ => rfl) Try.underlying39 rfl info39 T0 ?_
                  simp only [Act.put, List.setIfInBounds_toArray, List.set_cons_zero, List.set_cons_succ]
                  refine hp_take hP 2 (some 82) _ rfl rfl (by kernel_rfl) rfl (fun w' hS' => by go_simp; rfl) T0 ?_
                  simp only [Act.put, List.setIfInBounds_toArray, List.set_cons_zero, List.set_cons_succ]
                  refine hp_load_at hP 3 (some 83) rfl rfl (by kernel_rfl) rfl 39 _ rfl b7 2 rfl #[.int .i64 n1, v1] _ (fun w' hS' j hj => by have hj2 : j < 2 := hj; rw [hS'.cell (show b7 < wy.heap.size from HY.out.lt), Blk.cell HY.out.h7]; match j, hj2 with | 0, _ => rfl | 1, _ => rfl) Try.underlying39 rfl info39 T0 ?_
                  simp only [Act.put, List.setIfInBounds_toArray, List.set_cons_zero, List.set_cons_succ]
                  refine hp_take hP 4 (some 84) _ rfl rfl (by kernel_rfl) rfl (fun w' hS' => by go_simp; rfl) T0 ?_
                  simp only [Act.put, List.setIfInBounds_toArray, List.set_cons_zero, List.set_cons_succ]
                  refine hp_load_at hP 5 (some 85) rfl rfl (by kernel_rfl) rfl 39 _ rfl b7 4 rfl #[.int .i64 n2, v2] _ (fun w' hS' j hj => by have hj2 : j < 2 := hj; rw [hS'.cell (show b7 < wy.heap.size from HY.out.lt), Blk.cell HY.out.h7]; match j, hj2 with | 0, _ => rfl | 1, _ => rfl) Try.underlying39 rfl info39 T0 ?_
                  simp only [Act.put, List.setIfInBounds_toArray, List.set_cons_zero, List.set_cons_succ]
                  refine hp_take hP 6 (some 86) _ rfl rfl (by kernel_rfl) rfl (fun w' hS' => by go_simp; rfl) T0 ?_
                  simp only [Act.put, List.setIfInBounds_toArray, List.set_cons_zero, List.set_cons_succ]
                  refine hp_load_at hP 7 (some 87) rfl rfl (by kernel_rfl) rfl 39 _ rfl b7 0 rfl #[.int .i64 n0, v0] _ (fun w' hS' j hj => by have hj2 : j < 2 := hj; rw [hS'.cell (show b7 < wy.heap.size from HY.out.lt), Blk.cell HY.out.h7]; match j, hj2 with | 0, _ => rfl | 1, _ => rfl) Try.underlying39 rfl info39 T0 ?_
                  simp only [Act.put, List.setIfInBounds_toArray, List.set_cons_zero, List.set_cons_succ]
                  refine hp_two 8 11 (by kernel_rfl) ?_ ?_
                  · have hm := merge29 (partsOf (X2)) (partsOf (X0)) (n2) (n0) (v2) (v0) wy.drew S0.a2.row S0.a2.som S0.a0.row S0.a0.som (by rw [parts_len]; decide) (by rw [parts_len]; decide)
                    rw [parts_merge, parts_long, show wrap64 ((n2) + (n0)) = n2 + n0 from by have hh := HNB.out; rw [w64 (by omega)]] at hm
                    refine wpOp_call 8 (some 88) rfl rfl rfl 29 #[.agg #[.int .i64 (n2), v2], .agg #[.int .i64 (n0), v0]] (by go_simp; try rfl) (hm.mono ?_)
                    rintro e w0 ⟨q0, rfl, o0, B0⟩
                    obtain ⟨a0, c0, rfl⟩ := owns_form o0
                    clear hm
                    have T0 := Below.call T0 B0
                    refine ⟨_, rfl, T0, ?_⟩
                    simp only [Act.put, List.setIfInBounds_toArray, List.set_cons_zero, List.set_cons_succ]
                    have S0 := S0.below B0
                    refine hp_two 9 11 (by kernel_rfl) ?_ ?_
                    · have hm := merge29 (partsOf (X1)) (partsOf (X2 ++ X0)) (n1) (n2 + n0) (v1) (.slice a0 2 c0) w0 S0.a1.row S0.a1.som (Row.of_owns o0) (owns_som o0) (by rw [parts_len]; decide) (by rw [parts_len]; decide)
                      rw [parts_merge, parts_long, show wrap64 ((n1) + (n2 + n0)) = n1 + (n2 + n0) from by have hh := HNB.out; rw [w64 (by omega)]] at hm
                      refine wpOp_call 9 (some 89) rfl rfl rfl 29 #[.agg #[.int .i64 (n1), v1], .agg #[.int .i64 (n2 + n0), .slice a0 2 c0]] (by go_simp; try rfl) (hm.mono ?_)
                      rintro e wp1 ⟨qp1, rfl, op1, Bp1⟩
                      obtain ⟨ap1, cp1, rfl⟩ := owns_form op1
                      clear hm
                      have Tp1 := Below.call T0 Bp1
                      refine ⟨_, rfl, Tp1, ?_⟩
                      simp only [Act.put, List.setIfInBounds_toArray, List.set_cons_zero, List.set_cons_succ]
                      have Sp1 := S0.below Bp1
                      have op1_0 := owns_below o0 Bp1 (Nat.le_refl _)
                      refine hp_two 10 11 (by kernel_rfl) ?_ ?_
                      · have hm := merge29 (partsOf (X3)) (partsOf (X1 ++ (X2 ++ X0))) (n3) (n1 + (n2 + n0)) (v3) (.slice ap1 2 cp1) wp1 Sp1.a3.row Sp1.a3.som (Row.of_owns op1) (owns_som op1) (by rw [parts_len]; decide) (by rw [parts_len]; decide)
                        rw [parts_merge, parts_long, show wrap64 ((n3) + (n1 + (n2 + n0))) = n from by have hh := HNB.out; rw [w64 (by omega)]; omega] at hm
                        rw [parts_perm (X := X3 ++ (X1 ++ (X2 ++ X0))) (Y := A) (perm20 HPERM.out)] at hm
                        refine wpOp_call 10 (some 90) rfl rfl rfl 29 #[.agg #[.int .i64 (n3), v3], .agg #[.int .i64 (n1 + (n2 + n0)), .slice ap1 2 cp1]] (by go_simp; try rfl) (hm.mono ?_)
                        rintro e wpp2 ⟨qpp2, rfl, opp2, Bpp2⟩
                        obtain ⟨app2, cpp2, rfl⟩ := owns_form opp2
                        clear hm
                        have Tpp2 := Below.call Tp1 Bpp2
                        refine ⟨_, rfl, Tpp2, ?_⟩
                        simp only [Act.put, List.setIfInBounds_toArray, List.set_cons_zero, List.set_cons_succ]
                        have Spp2 := Sp1.below Bpp2
                        have opp2_0 := owns_below op1_0 Bpp2 (Nat.le_refl _)
                        have opp2_1 := owns_below op1 Bpp2 (Nat.le_refl _)
                        have Tpppz : Below wy.heap.size wy (wpp2.alloc (Obj.cells #[.int .i64 0, .slice none 0 0] 39)) := Below.al Tpp2 _
                        refine hp_val 11 (some 13) rfl rfl (by kernel_rfl) rfl (.pointer (some ⟨wpp2.heap.size, 0, none⟩)) (wpp2.alloc (Obj.cells #[.int .i64 0, .slice none 0 0] 39)) (by go_simp; try rfl) Tpppz ?_
                        simp only [Act.put, List.setIfInBounds_toArray, List.set_cons_zero, List.set_cons_succ]
                        have Spppz := Spp2.below (Below.al (Below.refl _ _) (Obj.cells #[.int .i64 0, .slice none 0 0] 39))
                        have opppz_0 := owns_below opp2_0 (Below.al (Below.refl _ _) (Obj.cells #[.int .i64 0, .slice none 0 0] 39)) (Nat.le_refl _)
                        have opppz_1 := owns_below opp2_1 (Below.al (Below.refl _ _) (Obj.cells #[.int .i64 0, .slice none 0 0] 39)) (Nat.le_refl _)
                        have opppz_2 := owns_below opp2 (Below.al (Below.refl _ _) (Obj.cells #[.int .i64 0, .slice none 0 0] 39)) (Nat.le_refl _)
                        have hgpppz : Blk (wpp2.alloc (Obj.cells #[.int .i64 0, .slice none 0 0] 39)) wpp2.heap.size 39 #[.int .i64 0, .slice none 0 0] := Blk.newAt _ _ _ rfl
                        have gepppz : wy.heap.size ≤ wpp2.heap.size := Tpp2.size
                        obtain ⟨ypppz, hypppz⟩ : ∃ y, y = wpp2.alloc (Obj.cells #[.int .i64 0, .slice none 0 0] 39) := ⟨_, rfl⟩
                        rw [← hypppz] at Tpppz Spppz hgpppz opppz_0 opppz_1 opppz_2 ⊢
                        clear hypppz
                        have nzpppz : ∀ g, (Value.slice app2 2 cpp2).ownBlock = some g → g < wpp2.heap.size := fun g hg => (opp2.lt g hg).2
                        refine hp_store_row 12 rfl rfl (by kernel_rfl) rfl 39 _ _ rfl wpp2.heap.size #[.int .i64 n, .slice app2 2 cpp2] rfl rfl 39 _ hgpppz info39 rfl (by simp [Value.oneCell']) (Below.setRow Tpppz gepppz _) ?_
                        simp only [List.setIfInBounds_toArray, List.set_cons_zero, List.set_cons_succ]
                        refine hk_done (by kernel_rfl) ?_
                        have hfin := owns_row_other (owns_base opppz_2 (Nat.zero_le _)) (g5 := wpp2.heap.size) (fun g hg => by have h1 := opppz_2.lt g hg; have h2 := nzpppz g hg; omega) #[.int .i64 n, .slice app2 2 cpp2]
                        have hblk := Blk.setRow (cs' := #[.int .i64 n, .slice app2 2 cpp2]) hgpppz
                        have hbel := Below.setRow Tpppz gepppz #[.int .i64 n, .slice app2 2 cpp2]
                        have HFIN := Lib.hid (And.intro hblk (And.intro hfin hbel))
                        clear hfin hblk hbel
                        go_wp2_with fail
                        go_meet
                        exact ⟨_, _, rfl, HFIN.out.1, HFIN.out.2.1, HFIN.out.2.2⟩
                      · have Tppz : Below wy.heap.size wy (wp1.alloc (Obj.cells #[.int .i64 0, .slice none 0 0] 39)) := Below.al Tp1 _
                        refine wpOp_val 11 (some 13) rfl rfl rfl (.pointer (some ⟨wp1.heap.size, 0, none⟩)) (wp1.alloc (Obj.cells #[.int .i64 0, .slice none 0 0] 39)) (by go_simp; try rfl) ⟨Tppz, ?_⟩
                        simp only [Act.put, List.setIfInBounds_toArray, List.set_cons_zero, List.set_cons_succ]
                        have Sppz := Sp1.below (Below.al (Below.refl _ _) (Obj.cells #[.int .i64 0, .slice none 0 0] 39))
                        have oppz_0 := owns_below op1_0 (Below.al (Below.refl _ _) (Obj.cells #[.int .i64 0, .slice none 0 0] 39)) (Nat.le_refl _)
                        have oppz_1 := owns_below op1 (Below.al (Below.refl _ _) (Obj.cells #[.int .i64 0, .slice none 0 0] 39)) (Nat.le_refl _)
                        have hgppz : Blk (wp1.alloc (Obj.cells #[.int .i64 0, .slice none 0 0] 39)) wp1.heap.size 39 #[.int .i64 0, .slice none 0 0] := Blk.newAt _ _ _ rfl
                        have geppz : wy.heap.size ≤ wp1.heap.size := Tp1.size
                        obtain ⟨yppz, hyppz⟩ : ∃ y, y = wp1.alloc (Obj.cells #[.int .i64 0, .slice none 0 0] 39) := ⟨_, rfl⟩
                        rw [← hyppz] at Tppz Sppz hgppz oppz_0 oppz_1 ⊢
                        clear hyppz
                        have hm := merge29 (partsOf (X3)) (partsOf (X1 ++ (X2 ++ X0))) (n3) (n1 + (n2 + n0)) (v3) (.slice ap1 2 cp1) yppz Sppz.a3.row Sppz.a3.som (Row.of_owns oppz_1) (owns_som oppz_1) (by rw [parts_len]; decide) (by rw [parts_len]; decide)
                        rw [parts_merge, parts_long, show wrap64 ((n3) + (n1 + (n2 + n0))) = n from by have hh := HNB.out; rw [w64 (by omega)]; omega] at hm
                        rw [parts_perm (X := X3 ++ (X1 ++ (X2 ++ X0))) (Y := A) (perm20 HPERM.out)] at hm
                        refine hp_call 10 (some 90) rfl rfl (by kernel_rfl) rfl 29 #[.agg #[.int .i64 (n3), v3], .agg #[.int .i64 (n1 + (n2 + n0)), .slice ap1 2 cp1]] (by go_simp; try rfl) (hm.mono ?_)
                        rintro e wppr2 ⟨qppr2, rfl, oppr2, Bppr2⟩
                        obtain ⟨appr2, cppr2, rfl⟩ := owns_form oppr2
                        clear hm
                        have Tppr2 := Below.call Tppz Bppr2
                        refine ⟨_, rfl, Tppr2, ?_⟩
                        simp only [Act.put, List.setIfInBounds_toArray, List.set_cons_zero, List.set_cons_succ]
                        have Sppr2 := Sppz.below Bppr2
                        have oppr2_0 := owns_below oppz_0 Bppr2 (Nat.le_refl _)
                        have oppr2_1 := owns_below oppz_1 Bppr2 (Nat.le_refl _)
                        have hgppr2 := Blk.below hgppz Bppr2 (Blk.lt hgppz)
                        refine hp_store_row 12 rfl rfl (by kernel_rfl) rfl 39 _ _ rfl wp1.heap.size #[.int .i64 n, .slice appr2 2 cppr2] rfl rfl 39 _ hgppr2 info39 rfl (by simp [Value.oneCell']) (Below.setRow Tppr2 geppz _) ?_
                        simp only [List.setIfInBounds_toArray, List.set_cons_zero, List.set_cons_succ]
                        refine hk_done (by kernel_rfl) ?_
                        have hfin := owns_row_other (owns_base oppr2 (Nat.zero_le _)) (g5 := wp1.heap.size) (fun g hg => by have h1 := oppr2.lt g hg; have h2 := Blk.lt hgppz; have h3 : True := trivial; omega) #[.int .i64 n, .slice appr2 2 cppr2]
                        have hblk := Blk.setRow (cs' := #[.int .i64 n, .slice appr2 2 cppr2]) hgppr2
                        have hbel := Below.setRow Tppr2 geppz #[.int .i64 n, .slice appr2 2 cppr2]
                        have HFIN := Lib.hid (And.intro hblk (And.intro hfin hbel))
                        clear hfin hblk hbel
                        go_wp2_with fail
                        go_meet
                        exact ⟨_, _, rfl, HFIN.out.1, HFIN.out.2.1, HFIN.out.2.2⟩
                    · have Tpz : Below wy.heap.size wy (w0.alloc (Obj.cells #[.int .i64 0, .slice none 0 0] 39)) := Below.al T0 _
                      refine wpOp_val 11 (some 13) rfl rfl rfl (.pointer (some ⟨w0.heap.size, 0, none⟩)) (w0.alloc (Obj.cells #[.int .i64 0, .slice none 0 0] 39)) (by go_simp; try rfl) ⟨Tpz, ?_⟩
                      simp only [Act.put, List.setIfInBounds_toArray, List.set_cons_zero, List.set_cons_succ]
                      have Spz := S0.below (Below.al (Below.refl _ _) (Obj.cells #[.int .i64 0, .slice none 0 0] 39))
                      have opz_0 := owns_below o0 (Below.al (Below.refl _ _) (Obj.cells #[.int .i64 0, .slice none 0 0] 39)) (Nat.le_refl _)
                      have hgpz : Blk (w0.alloc (Obj.cells #[.int .i64 0, .slice none 0 0] 39)) w0.heap.size 39 #[.int .i64 0, .slice none 0 0] := Blk.newAt _ _ _ rfl
                      have gepz : wy.heap.size ≤ w0.heap.size := T0.size
                      obtain ⟨ypz, hypz⟩ : ∃ y, y = w0.alloc (Obj.cells #[.int .i64 0, .slice none 0 0] 39) := ⟨_, rfl⟩
                      rw [← hypz] at Tpz Spz hgpz opz_0 ⊢
                      clear hypz
                      have hm := merge29 (partsOf (X1)) (partsOf (X2 ++ X0)) (n1) (n2 + n0) (v1) (.slice a0 2 c0) ypz Spz.a1.row Spz.a1.som (Row.of_owns opz_0) (owns_som opz_0) (by rw [parts_len]; decide) (by rw [parts_len]; decide)
                      rw [parts_merge, parts_long, show wrap64 ((n1) + (n2 + n0)) = n1 + (n2 + n0) from by have hh := HNB.out; rw [w64 (by omega)]] at hm
                      refine hp_call 9 (some 89) rfl rfl (by kernel_rfl) rfl 29 #[.agg #[.int .i64 (n1), v1], .agg #[.int .i64 (n2 + n0), .slice a0 2 c0]] (by go_simp; try rfl) (hm.mono ?_)
                      rintro e wpr1 ⟨qpr1, rfl, opr1, Bpr1⟩
                      obtain ⟨apr1, cpr1, rfl⟩ := owns_form opr1
                      clear hm
                      have Tpr1 := Below.call Tpz Bpr1
                      refine ⟨_, rfl, Tpr1, ?_⟩
                      simp only [Act.put, List.setIfInBounds_toArray, List.set_cons_zero, List.set_cons_succ]
                      have Spr1 := Spz.below Bpr1
                      have opr1_0 := owns_below opz_0 Bpr1 (Nat.le_refl _)
                      have hgpr1 := Blk.below hgpz Bpr1 (Blk.lt hgpz)
                      have hm := merge29 (partsOf (X3)) (partsOf (X1 ++ (X2 ++ X0))) (n3) (n1 + (n2 + n0)) (v3) (.slice apr1 2 cpr1) wpr1 Spr1.a3.row Spr1.a3.som (Row.of_owns opr1) (owns_som opr1) (by rw [parts_len]; decide) (by rw [parts_len]; decide)
                      rw [parts_merge, parts_long, show wrap64 ((n3) + (n1 + (n2 + n0))) = n from by have hh := HNB.out; rw [w64 (by omega)]; omega] at hm
                      rw [parts_perm (X := X3 ++ (X1 ++ (X2 ++ X0))) (Y := A) (perm20 HPERM.out)] at hm
                      refine hp_call 10 (some 90) rfl rfl (by kernel_rfl) rfl 29 #[.agg #[.int .i64 (n3), v3], .agg #[.int .i64 (n1 + (n2 + n0)), .slice apr1 2 cpr1]] (by go_simp; try rfl) (hm.mono ?_)
                      rintro e wpr2 ⟨qpr2, rfl, opr2, Bpr2⟩
                      obtain ⟨apr2, cpr2, rfl⟩ := owns_form opr2
                      clear hm
                      have Tpr2 := Below.call Tpr1 Bpr2
                      refine ⟨_, rfl, Tpr2, ?_⟩
                      simp only [Act.put, List.setIfInBounds_toArray, List.set_cons_zero, List.set_cons_succ]
                      have Spr2 := Spr1.below Bpr2
                      have opr2_0 := owns_below opr1_0 Bpr2 (Nat.le_refl _)
                      have opr2_1 := owns_below opr1 Bpr2 (Nat.le_refl _)
                      have hgpr2 := Blk.below hgpr1 Bpr2 (Blk.lt hgpr1)
                      refine hp_store_row 12 rfl rfl (by kernel_rfl) rfl 39 _ _ rfl w0.heap.size #[.int .i64 n, .slice apr2 2 cpr2] rfl rfl 39 _ hgpr2 info39 rfl (by simp [Value.oneCell']) (Below.setRow Tpr2 gepz _) ?_
                      simp only [List.setIfInBounds_toArray, List.set_cons_zero, List.set_cons_succ]
                      refine hk_done (by kernel_rfl) ?_
                      have hfin := owns_row_other (owns_base opr2 (Nat.zero_le _)) (g5 := w0.heap.size) (fun g hg => by have h1 := opr2.lt g hg; have h2 := Blk.lt hgpr1; have h3 : True := trivial; omega) #[.int .i64 n, .slice apr2 2 cpr2]
                      have hblk := Blk.setRow (cs' := #[.int .i64 n, .slice apr2 2 cpr2]) hgpr2
                      have hbel := Below.setRow Tpr2 gepz #[.int .i64 n, .slice apr2 2 cpr2]
                      have HFIN := Lib.hid (And.intro hblk (And.intro hfin hbel))
                      clear hfin hblk hbel
                      go_wp2_with fail
                      go_meet
                      exact ⟨_, _, rfl, HFIN.out.1, HFIN.out.2.1, HFIN.out.2.2⟩
                  · have Tz : Below wy.heap.size wy (wy.drew.alloc (Obj.cells #[.int .i64 0, .slice none 0 0] 39)) := Below.al T0 _
                    refine wpOp_val 11 (some 13) rfl rfl rfl (.pointer (some ⟨wy.drew.heap.size, 0, none⟩)) (wy.drew.alloc (Obj.cells #[.int .i64 0, .slice none 0 0] 39)) (by go_simp; try rfl) ⟨Tz, ?_⟩
                    simp only [Act.put, List.setIfInBounds_toArray, List.set_cons_zero, List.set_cons_succ]
                    have Sz := S0.below (Below.al (Below.refl _ _) (Obj.cells #[.int .i64 0, .slice none 0 0] 39))
                    have hgz : Blk (wy.drew.alloc (Obj.cells #[.int .i64 0, .slice none 0 0] 39)) wy.drew.heap.size 39 #[.int .i64 0, .slice none 0 0] := Blk.newAt _ _ _ rfl
                    have gez : wy.heap.size ≤ wy.drew.heap.size := T0.size
                    obtain ⟨yz, hyz⟩ : ∃ y, y = wy.drew.alloc (Obj.cells #[.int .i64 0, .slice none 0 0] 39) := ⟨_, rfl⟩
                    rw [← hyz] at Tz Sz hgz  ⊢
                    clear hyz
                    have hm := merge29 (partsOf (X2)) (partsOf (X0)) (n2) (n0) (v2) (v0) yz Sz.a2.row Sz.a2.som Sz.a0.row Sz.a0.som (by rw [parts_len]; decide) (by rw [parts_len]; decide)
                    rw [parts_merge, parts_long, show wrap64 ((n2) + (n0)) = n2 + n0 from by have hh := HNB.out; rw [w64 (by omega)]] at hm
                    refine hp_call 8 (some 88) rfl rfl (by kernel_rfl) rfl 29 #[.agg #[.int .i64 (n2), v2], .agg #[.int .i64 (n0), v0]] (by go_simp; try rfl) (hm.mono ?_)
                    rintro e wr0 ⟨qr0, rfl, or0, Br0⟩
                    obtain ⟨ar0, cr0, rfl⟩ := owns_form or0
                    clear hm
                    have Tr0 := Below.call Tz Br0
                    refine ⟨_, rfl, Tr0, ?_⟩
                    simp only [Act.put, List.setIfInBounds_toArray, List.set_cons_zero, List.set_cons_succ]
                    have Sr0 := Sz.below Br0
                    have hgr0 := Blk.below hgz Br0 (Blk.lt hgz)
                    have hm := merge29 (partsOf (X1)) (partsOf (X2 ++ X0)) (n1) (n2 + n0) (v1) (.slice ar0 2 cr0) wr0 Sr0.a1.row Sr0.a1.som (Row.of_owns or0) (owns_som or0) (by rw [parts_len]; decide) (by rw [parts_len]; decide)
                    rw [parts_merge, parts_long, show wrap64 ((n1) + (n2 + n0)) = n1 + (n2 + n0) from by have hh := HNB.out; rw [w64 (by omega)]] at hm
                    refine hp_call 9 (some 89) rfl rfl (by kernel_rfl) rfl 29 #[.agg #[.int .i64 (n1), v1], .agg #[.int .i64 (n2 + n0), .slice ar0 2 cr0]] (by go_simp; try rfl) (hm.mono ?_)
                    rintro e wr1 ⟨qr1, rfl, or1, Br1⟩
                    obtain ⟨ar1, cr1, rfl⟩ := owns_form or1
                    clear hm
                    have Tr1 := Below.call Tr0 Br1
                    refine ⟨_, rfl, Tr1, ?_⟩
                    simp only [Act.put, List.setIfInBounds_toArray, List.set_cons_zero, List.set_cons_succ]
                    have Sr1 := Sr0.below Br1
                    have or1_0 := owns_below or0 Br1 (Nat.le_refl _)
                    have hgr1 := Blk.below hgr0 Br1 (Blk.lt hgr0)
                    have hm := merge29 (partsOf (X3)) (partsOf (X1 ++ (X2 ++ X0))) (n3) (n1 + (n2 + n0)) (v3) (.slice ar1 2 cr1) wr1 Sr1.a3.row Sr1.a3.som (Row.of_owns or1) (owns_som or1) (by rw [parts_len]; decide) (by rw [parts_len]; decide)
                    rw [parts_merge, parts_long, show wrap64 ((n3) + (n1 + (n2 + n0))) = n from by have hh := HNB.out; rw [w64 (by omega)]; omega] at hm
                    rw [parts_perm (X := X3 ++ (X1 ++ (X2 ++ X0))) (Y := A) (perm20 HPERM.out)] at hm
                    refine hp_call 10 (some 90) rfl rfl (by kernel_rfl) rfl 29 #[.agg #[.int .i64 (n3), v3], .agg #[.int .i64 (n1 + (n2 + n0)), .slice ar1 2 cr1]] (by go_simp; try rfl) (hm.mono ?_)
                    rintro e wr2 ⟨qr2, rfl, or2, Br2⟩
                    obtain ⟨ar2, cr2, rfl⟩ := owns_form or2
                    clear hm
                    have Tr2 := Below.call Tr1 Br2
                    refine ⟨_, rfl, Tr2, ?_⟩
                    simp only [Act.put, List.setIfInBounds_toArray, List.set_cons_zero, List.set_cons_succ]
                    have Sr2 := Sr1.below Br2
                    have or2_0 := owns_below or1_0 Br2 (Nat.le_refl _)
                    have or2_1 := owns_below or1 Br2 (Nat.le_refl _)
                    have hgr2 := Blk.below hgr1 Br2 (Blk.lt hgr1)
                    refine hp_store_row 12 rfl rfl (by kernel_rfl) rfl 39 _ _ rfl wy.drew.heap.size #[.int .i64 n, .slice ar2 2 cr2] rfl rfl 39 _ hgr2 info39 rfl (by simp [Value.oneCell']) (Below.setRow Tr2 gez _) ?_
                    simp only [List.setIfInBounds_toArray, List.set_cons_zero, List.set_cons_succ]
                    refine hk_done (by kernel_rfl) ?_
                    have hfin := owns_row_other (owns_base or2 (Nat.zero_le _)) (g5 := wy.drew.heap.size) (fun g hg => by have h1 := or2.lt g hg; have h2 := Blk.lt hgr1; have h3 : True := trivial; omega) #[.int .i64 n, .slice ar2 2 cr2]
                    have hblk := Blk.setRow (cs' := #[.int .i64 n, .slice ar2 2 cr2]) hgr2
                    have hbel := Below.setRow Tr2 gez #[.int .i64 n, .slice ar2 2 cr2]
                    have HFIN := Lib.hid (And.intro hblk (And.intro hfin hbel))
                    clear hfin hblk hbel
                    go_wp2_with fail
                    go_meet
                    exact ⟨_, _, rfl, HFIN.out.1, HFIN.out.2.1, HFIN.out.2.2⟩
                case rest =>
                  obtain ⟨g6, v6, rfl, hblk, hown, hbel⟩ := hcut
                  have HX := Lib.hid (HY.out.below hbel)
                  have H7 := Lib.hid (And.intro (Blk.below H5.out.1 hbel (Blk.lt H5.out.1)) (owns_below H5.out.2 hbel (Nat.le_refl _)))
                  have H8 := Lib.hid (And.intro hblk hown)
                  clear hblk hown hbel HY H5
                  obtain ⟨wx, hwx⟩ : ∃ wx : World, wx = wc := ⟨_, rfl⟩
                  rw [← hwx] at HX H7 H8 ⊢
                  clear hwx
                  go_wp2_with (first | (refine wpList_load_at rfl 39 _ rfl g5 0 rfl #[.int .i64 n, v5] _ (fun j hj => by rw [Nat.zero_add]; exact Blk.cell H7.out.1 j) Try.underlying39 rfl info39 ?_) | (refine wpList_load_at rfl 39 _ rfl b6 0 rfl #[.int .i64 n, v] _ (fun j hj => by rw [Nat.zero_add]; exact Blk.cell HX.out.h6 j) Try.underlying39 rfl info39 ?_))
                  refine (same22 n v5 v (partsOf A) wx (Row.of_owns H7.out.2) HX.out.a.row).mono ?_
                  rintro e wu ⟨rfl, hBu⟩
                  have HU := Lib.hid (HX.out.below hBu)
                  have H9 := Lib.hid (And.intro (Blk.below H8.out.1 hBu (Blk.lt H8.out.1)) (owns_below H8.out.2 hBu (Nat.le_refl _)))
                  clear HX H7 H8 hBu
                  go_wp2_with (first | (refine wpList_load_at rfl 39 _ rfl g6 0 rfl #[.int .i64 n, v6] _ (fun j hj => by rw [Nat.zero_add]; exact Blk.cell H9.out.1 j) Try.underlying39 rfl info39 ?_) | (refine wpList_load_at rfl 39 _ rfl b6 0 rfl #[.int .i64 n, v] _ (fun j hj => by rw [Nat.zero_add]; exact Blk.cell HU.out.h6 j) Try.underlying39 rfl info39 ?_))
                  refine (same22 n v6 v (partsOf A) wu (Row.of_owns H9.out.2) HU.out.a.row).mono ?_
                  rintro e wt ⟨rfl, hBt⟩
                  have HT := Lib.hid (HU.out.below hBt)
                  clear HU H9 hBt
                  go_wp2_with (refine wpList_load_at_g rfl 39 _ rfl b6 0 rfl #[.int .i64 n, v] _ (fun j hj => by rw [Nat.zero_add]; exact Blk.cell HT.out.h6 j) Try.underlying39 rfl info39 ?_)
                  have hv := valid25g n 2 v (partsOf A) wt HT.out.a.row
                  rw [show validB n (partsOf A) 2 = true by rw [HT.out.e]; exact parts_valid A] at hv
                  refine hv.mono ?_
                  rintro e ws ⟨rfl, hBs⟩
                  have HR := Lib.hid (Below.call HT.out.tu hBs)
                  clear HT hBs hv
                  go_wp2_with fail
                  go_ret
                  exact ⟨by first | rfl | simp, HR.out⟩
          · as_aux_lemma =>
              have d1 : decide ((k : Int) < F.length) = false := by simp; omega
              have d2 : decide (k < F.length) = false := by simp; omega
              have hnb : (0 ≤ n0 ∧ 0 ≤ n1 ∧ 0 ≤ n2 ∧ 0 ≤ n3) ∧ n0 + n1 + n2 + n3 = n ∧ n ≤ 200 := by
                have q := HS.out.e; have q0 := HS.out.e0; have q1 := HS.out.e1; have q2 := HS.out.e2; have q3 := HS.out.e3
                have hl := HPERM.out.length_eq
                have := HAK.out
                simp at hl
                omega
              have HNB := Lib.hid hnb
              clear hnb
              obtain ⟨wz, hwz⟩ : ∃ wz : World, wz = wr := ⟨_, rfl⟩
              rw [← hwz] at HS ⊢
              clear hwz
              go_upto_region 19 with fail
              go_cut [12] (fun d wx => ∃ (g5 : Nat) (v5 : Value), d = .pointer (some ⟨g5, 0, none⟩) ∧ Blk wx g5 39 #[.int .i64 n, v5] ∧ wx.ownsRow 0 46 5 v5 2 (partsC (partsOf A)) ∧ Below wz.heap.size wz wx)
              case first =>
                refine hp_start (fun w' => Below wz.heap.size wz w') 13 rfl (by kernel_rfl) (fun c a a' w hd h => ⟨hd ▸ h.1, h.2⟩) (fun hP => ?_)
                rw [show Array.replicate 13 false = #[false, false, false, false, false, false, false, false, false, false, false, false, false] from rfl]
                have T0 : Below wz.heap.size wz wz.drew := (Below.refl _ _).drew
                have S0 := HS.out.below T0
                refine hp_take hP 0 (some 69) _ rfl rfl (by kernel_rfl) rfl (fun w' hS' => by go_simp; rfl) T0 ?_
                simp only [Act.put, List.setIfInBounds_toArray, List.set_cons_zero, List.set_cons_succ]
                refine hp_load_at hP 1 (some 70) rfl rfl (by kernel_rfl) rfl 39 _ rfl b7 0 rfl #[.int .i64 n0, v0] _ (fun w' hS' j hj => by have hj2 : j < 2 := hj; rw [hS'.cell (show b7 < wz.heap.size from HS.out.lt), Blk.cell HS.out.h7]; match j, hj2 with | 0, _ => rfl | 1, _ => rfl) Try.underlying39 rfl info39 T0 ?_
                simp only [Act.put, List.setIfInBounds_toArray, List.set_cons_zero, List.set_cons_succ]
                refine hp_take hP 2 (some 71) _ rfl rfl (by kernel_rfl) rfl (fun w' hS' => by go_simp; rfl) T0 ?_
                simp only [Act.put, List.setIfInBounds_toArray, List.set_cons_zero, List.set_cons_succ]
                refine hp_load_at hP 3 (some 72) rfl rfl (by kernel_rfl) rfl 39 _ rfl b7 2 rfl #[.int .i64 n1, v1] _ (fun w' hS' j hj => by have hj2 : j < 2 := hj; rw [hS'.cell (show b7 < wz.heap.size from HS.out.lt), Blk.cell HS.out.h7]; match j, hj2 with | 0, _ => rfl | 1, _ => rfl) Try.underlying39 rfl info39 T0 ?_
                simp only [Act.put, List.setIfInBounds_toArray, List.set_cons_zero, List.set_cons_succ]
                refine hp_take hP 5 (some 74) _ rfl rfl (by kernel_rfl) rfl (fun w' hS' => by go_simp; rfl) T0 ?_
                simp only [Act.put, List.setIfInBounds_toArray, List.set_cons_zero, List.set_cons_succ]
                refine hp_load_at hP 6 (some 75) rfl rfl (by kernel_rfl) rfl 39 _ rfl b7 4 rfl #[.int .i64 n2, v2] _ (fun w' hS' j hj => by have hj2 : j < 2 := hj; rw [hS'.cell (show b7 < wz.heap.size from HS.out.lt), Blk.cell HS.out.h7]; match j, hj2 with | 0, _ => rfl | 1, _ => rfl) Try.underlying39 rfl info39 T0 ?_
                simp only [Act.put, List.setIfInBounds_toArray, List.set_cons_zero, List.set_cons_succ]
                refine hp_take hP 7 (some 76) _ rfl rfl (by kernel_rfl) rfl (fun w' hS' => by go_simp; rfl) T0 ?_
                simp only [Act.put, List.setIfInBounds_toArray, List.set_cons_zero, List.set_cons_succ]
                refine hp_load_at hP 8 (some 77) rfl rfl (by kernel_rfl) rfl 39 _ rfl b7 6 rfl #[.int .i64 n3, v3] _ (fun w' hS' j hj => by have hj2 : j < 2 := hj; rw [hS'.cell (show b7 < wz.heap.size from HS.out.lt), Blk.cell HS.out.h7]; match j, hj2 with | 0, _ => rfl | 1, _ => rfl) Try.underlying39 rfl info39 T0 ?_
                simp only [Act.put, List.setIfInBounds_toArray, List.set_cons_zero, List.set_cons_succ]
                refine hp_two 4 11 (by kernel_rfl) ?_ ?_
                · have hm := merge29 (partsOf (X0)) (partsOf (X1)) (n0) (n1) (v0) (v1) wz.drew S0.a0.row S0.a0.som S0.a1.row S0.a1.som (by rw [parts_len]; decide) (by rw [parts_len]; decide)
                  rw [parts_merge, parts_long, show wrap64 ((n0) + (n1)) = n0 + n1 from by have hh := HNB.out; rw [w64 (by omega)]] at hm
                  refine wpOp_call 4 (some 73) rfl rfl rfl 29 #[.agg #[.int .i64 (n0), v0], .agg #[.int .i64 (n1), v1]] (by go_simp; try rfl) (hm.mono ?_)
                  rintro e w0 ⟨q0, rfl, o0, B0⟩
                  obtain ⟨a0, c0, rfl⟩ := owns_form o0
                  clear hm
                  have T0 := Below.call T0 B0
                  refine ⟨_, rfl, T0, ?_⟩
                  simp only [Act.put, List.setIfInBounds_toArray, List.set_cons_zero, List.set_cons_succ]
                  have S0 := S0.below B0
                  refine hp_two 9 11 (by kernel_rfl) ?_ ?_
                  · have hm := merge29 (partsOf (X2)) (partsOf (X3)) (n2) (n3) (v2) (v3) w0 S0.a2.row S0.a2.som S0.a3.row S0.a3.som (by rw [parts_len]; decide) (by rw [parts_len]; decide)
                    rw [parts_merge, parts_long, show wrap64 ((n2) + (n3)) = n2 + n3 from by have hh := HNB.out; rw [w64 (by omega)]] at hm
                    refine wpOp_call 9 (some 78) rfl rfl rfl 29 #[.agg #[.int .i64 (n2), v2], .agg #[.int .i64 (n3), v3]] (by go_simp; try rfl) (hm.mono ?_)
                    rintro e wp1 ⟨qp1, rfl, op1, Bp1⟩
                    obtain ⟨ap1, cp1, rfl⟩ := owns_form op1
                    clear hm
                    have Tp1 := Below.call T0 Bp1
                    refine ⟨_, rfl, Tp1, ?_⟩
                    simp only [Act.put, List.setIfInBounds_toArray, List.set_cons_zero, List.set_cons_succ]
                    have Sp1 := S0.below Bp1
                    have op1_0 := owns_below o0 Bp1 (Nat.le_refl _)
                    refine hp_two 10 11 (by kernel_rfl) ?_ ?_
                    · have hm := merge29 (partsOf (X0 ++ X1)) (partsOf (X2 ++ X3)) (n0 + n1) (n2 + n3) (.slice a0 2 c0) (.slice ap1 2 cp1) wp1 (Row.of_owns op1_0) (owns_som op1_0) (Row.of_owns op1) (owns_som op1) (by rw [parts_len]; decide) (by rw [parts_len]; decide)
                      rw [parts_merge, parts_long, show wrap64 ((n0 + n1) + (n2 + n3)) = n from by have hh := HNB.out; rw [w64 (by omega)]; omega] at hm
                      rw [parts_perm (X := (X0 ++ X1) ++ (X2 ++ X3)) (Y := A) (by rw [← List.append_assoc]; exact HPERM.out)] at hm
                      refine wpOp_call 10 (some 79) rfl rfl rfl 29 #[.agg #[.int .i64 (n0 + n1), .slice a0 2 c0], .agg #[.int .i64 (n2 + n3), .slice ap1 2 cp1]] (by go_simp; try rfl) (hm.mono ?_)
                      rintro e wpp2 ⟨qpp2, rfl, opp2, Bpp2⟩
                      obtain ⟨app2, cpp2, rfl⟩ := owns_form opp2
                      clear hm
                      have Tpp2 := Below.call Tp1 Bpp2
                      refine ⟨_, rfl, Tpp2, ?_⟩
                      simp only [Act.put, List.setIfInBounds_toArray, List.set_cons_zero, List.set_cons_succ]
                      have Spp2 := Sp1.below Bpp2
                      have opp2_0 := owns_below op1_0 Bpp2 (Nat.le_refl _)
                      have opp2_1 := owns_below op1 Bpp2 (Nat.le_refl _)
                      have Tpppz : Below wz.heap.size wz (wpp2.alloc (Obj.cells #[.int .i64 0, .slice none 0 0] 39)) := Below.al Tpp2 _
                      refine hp_val 11 (some 12) rfl rfl (by kernel_rfl) rfl (.pointer (some ⟨wpp2.heap.size, 0, none⟩)) (wpp2.alloc (Obj.cells #[.int .i64 0, .slice none 0 0] 39)) (by go_simp; try rfl) Tpppz ?_
                      simp only [Act.put, List.setIfInBounds_toArray, List.set_cons_zero, List.set_cons_succ]
                      have Spppz := Spp2.below (Below.al (Below.refl _ _) (Obj.cells #[.int .i64 0, .slice none 0 0] 39))
                      have opppz_0 := owns_below opp2_0 (Below.al (Below.refl _ _) (Obj.cells #[.int .i64 0, .slice none 0 0] 39)) (Nat.le_refl _)
                      have opppz_1 := owns_below opp2_1 (Below.al (Below.refl _ _) (Obj.cells #[.int .i64 0, .slice none 0 0] 39)) (Nat.le_refl _)
                      have opppz_2 := owns_below opp2 (Below.al (Below.refl _ _) (Obj.cells #[.int .i64 0, .slice none 0 0] 39)) (Nat.le_refl _)
                      have hgpppz : Blk (wpp2.alloc (Obj.cells #[.int .i64 0, .slice none 0 0] 39)) wpp2.heap.size 39 #[.int .i64 0, .slice none 0 0] := Blk.newAt _ _ _ rfl
                      have gepppz : wz.heap.size ≤ wpp2.heap.size := Tpp2.size
                      obtain ⟨ypppz, hypppz⟩ : ∃ y, y = wpp2.alloc (Obj.cells #[.int .i64 0, .slice none 0 0] 39) := ⟨_, rfl⟩
                      rw [← hypppz] at Tpppz Spppz hgpppz opppz_0 opppz_1 opppz_2 ⊢
                      clear hypppz
                      have nzpppz : ∀ g, (Value.slice app2 2 cpp2).ownBlock = some g → g < wpp2.heap.size := fun g hg => (opp2.lt g hg).2
                      refine hp_store_row 12 rfl rfl (by kernel_rfl) rfl 39 _ _ rfl wpp2.heap.size #[.int .i64 n, .slice app2 2 cpp2] rfl rfl 39 _ hgpppz info39 rfl (by simp [Value.oneCell']) (Below.setRow Tpppz gepppz _) ?_
                      simp only [List.setIfInBounds_toArray, List.set_cons_zero, List.set_cons_succ]
                      refine hk_done (by kernel_rfl) ?_
                      have hfin := owns_row_other (owns_base opppz_2 (Nat.zero_le _)) (g5 := wpp2.heap.size) (fun g hg => by have h1 := opppz_2.lt g hg; have h2 := nzpppz g hg; omega) #[.int .i64 n, .slice app2 2 cpp2]
                      have hblk := Blk.setRow (cs' := #[.int .i64 n, .slice app2 2 cpp2]) hgpppz
                      have hbel := Below.setRow Tpppz gepppz #[.int .i64 n, .slice app2 2 cpp2]
                      have HFIN := Lib.hid (And.intro hblk (And.intro hfin hbel))
                      clear hfin hblk hbel
                      go_wp2_with fail
                      go_meet
                      exact ⟨_, _, rfl, HFIN.out.1, HFIN.out.2.1, HFIN.out.2.2⟩
                    · have Tppz : Below wz.heap.size wz (wp1.alloc (Obj.cells #[.int .i64 0, .slice none 0 0] 39)) := Below.al Tp1 _
                      refine wpOp_val 11 (some 12) rfl rfl rfl (.pointer (some ⟨wp1.heap.size, 0, none⟩)) (wp1.alloc (Obj.cells #[.int .i64 0, .slice none 0 0] 39)) (by go_simp; try rfl) ⟨Tppz, ?_⟩
                      simp only [Act.put, List.setIfInBounds_toArray, List.set_cons_zero, List.set_cons_succ]
                      have Sppz := Sp1.below (Below.al (Below.refl _ _) (Obj.cells #[.int .i64 0, .slice none 0 0] 39))
                      have oppz_0 := owns_below op1_0 (Below.al (Below.refl _ _) (Obj.cells #[.int .i64 0, .slice none 0 0] 39)) (Nat.le_refl _)
                      have oppz_1 := owns_below op1 (Below.al (Below.refl _ _) (Obj.cells #[.int .i64 0, .slice none 0 0] 39)) (Nat.le_refl _)
                      have hgppz : Blk (wp1.alloc (Obj.cells #[.int .i64 0, .slice none 0 0] 39)) wp1.heap.size 39 #[.int .i64 0, .slice none 0 0] := Blk.newAt _ _ _ rfl
                      have geppz : wz.heap.size ≤ wp1.heap.size := Tp1.size
                      obtain ⟨yppz, hyppz⟩ : ∃ y, y = wp1.alloc (Obj.cells #[.int .i64 0, .slice none 0 0] 39) := ⟨_, rfl⟩
                      rw [← hyppz] at Tppz Sppz hgppz oppz_0 oppz_1 ⊢
                      clear hyppz
                      have hm := merge29 (partsOf (X0 ++ X1)) (partsOf (X2 ++ X3)) (n0 + n1) (n2 + n3) (.slice a0 2 c0) (.slice ap1 2 cp1) yppz (Row.of_owns oppz_0) (owns_som oppz_0) (Row.of_owns oppz_1) (owns_som oppz_1) (by rw [parts_len]; decide) (by rw [parts_len]; decide)
                      rw [parts_merge, parts_long, show wrap64 ((n0 + n1) + (n2 + n3)) = n from by have hh := HNB.out; rw [w64 (by omega)]; omega] at hm
                      rw [parts_perm (X := (X0 ++ X1) ++ (X2 ++ X3)) (Y := A) (by rw [← List.append_assoc]; exact HPERM.out)] at hm
                      refine hp_call 10 (some 79) rfl rfl (by kernel_rfl) rfl 29 #[.agg #[.int .i64 (n0 + n1), .slice a0 2 c0], .agg #[.int .i64 (n2 + n3), .slice ap1 2 cp1]] (by go_simp; try rfl) (hm.mono ?_)
                      rintro e wppr2 ⟨qppr2, rfl, oppr2, Bppr2⟩
                      obtain ⟨appr2, cppr2, rfl⟩ := owns_form oppr2
                      clear hm
                      have Tppr2 := Below.call Tppz Bppr2
                      refine ⟨_, rfl, Tppr2, ?_⟩
                      simp only [Act.put, List.setIfInBounds_toArray, List.set_cons_zero, List.set_cons_succ]
                      have Sppr2 := Sppz.below Bppr2
                      have oppr2_0 := owns_below oppz_0 Bppr2 (Nat.le_refl _)
                      have oppr2_1 := owns_below oppz_1 Bppr2 (Nat.le_refl _)
                      have hgppr2 := Blk.below hgppz Bppr2 (Blk.lt hgppz)
                      refine hp_store_row 12 rfl rfl (by kernel_rfl) rfl 39 _ _ rfl wp1.heap.size #[.int .i64 n, .slice appr2 2 cppr2] rfl rfl 39 _ hgppr2 info39 rfl (by simp [Value.oneCell']) (Below.setRow Tppr2 geppz _) ?_
                      simp only [List.setIfInBounds_toArray, List.set_cons_zero, List.set_cons_succ]
                      refine hk_done (by kernel_rfl) ?_
                      have hfin := owns_row_other (owns_base oppr2 (Nat.zero_le _)) (g5 := wp1.heap.size) (fun g hg => by have h1 := oppr2.lt g hg; have h2 := Blk.lt hgppz; have h3 : True := trivial; omega) #[.int .i64 n, .slice appr2 2 cppr2]
                      have hblk := Blk.setRow (cs' := #[.int .i64 n, .slice appr2 2 cppr2]) hgppr2
                      have hbel := Below.setRow Tppr2 geppz #[.int .i64 n, .slice appr2 2 cppr2]
                      have HFIN := Lib.hid (And.intro hblk (And.intro hfin hbel))
                      clear hfin hblk hbel
                      go_wp2_with fail
                      go_meet
                      exact ⟨_, _, rfl, HFIN.out.1, HFIN.out.2.1, HFIN.out.2.2⟩
                  · have Tpz : Below wz.heap.size wz (w0.alloc (Obj.cells #[.int .i64 0, .slice none 0 0] 39)) := Below.al T0 _
                    refine wpOp_val 11 (some 12) rfl rfl rfl (.pointer (some ⟨w0.heap.size, 0, none⟩)) (w0.alloc (Obj.cells #[.int .i64 0, .slice none 0 0] 39)) (by go_simp; try rfl) ⟨Tpz, ?_⟩
                    simp only [Act.put, List.setIfInBounds_toArray, List.set_cons_zero, List.set_cons_succ]
                    have Spz := S0.below (Below.al (Below.refl _ _) (Obj.cells #[.int .i64 0, .slice none 0 0] 39))
                    have opz_0 := owns_below o0 (Below.al (Below.refl _ _) (Obj.cells #[.int .i64 0, .slice none 0 0] 39)) (Nat.le_refl _)
                    have hgpz : Blk (w0.alloc (Obj.cells #[.int .i64 0, .slice none 0 0] 39)) w0.heap.size 39 #[.int .i64 0, .slice none 0 0] := Blk.newAt _ _ _ rfl
                    have gepz : wz.heap.size ≤ w0.heap.size := T0.size
                    obtain ⟨ypz, hypz⟩ : ∃ y, y = w0.alloc (Obj.cells #[.int .i64 0, .slice none 0 0] 39) := ⟨_, rfl⟩
                    rw [← hypz] at Tpz Spz hgpz opz_0 ⊢
                    clear hypz
                    have hm := merge29 (partsOf (X2)) (partsOf (X3)) (n2) (n3) (v2) (v3) ypz Spz.a2.row Spz.a2.som Spz.a3.row Spz.a3.som (by rw [parts_len]; decide) (by rw [parts_len]; decide)
                    rw [parts_merge, parts_long, show wrap64 ((n2) + (n3)) = n2 + n3 from by have hh := HNB.out; rw [w64 (by omega)]] at hm
                    refine hp_call 9 (some 78) rfl rfl (by kernel_rfl) rfl 29 #[.agg #[.int .i64 (n2), v2], .agg #[.int .i64 (n3), v3]] (by go_simp; try rfl) (hm.mono ?_)
                    rintro e wpr1 ⟨qpr1, rfl, opr1, Bpr1⟩
                    obtain ⟨apr1, cpr1, rfl⟩ := owns_form opr1
                    clear hm
                    have Tpr1 := Below.call Tpz Bpr1
                    refine ⟨_, rfl, Tpr1, ?_⟩
                    simp only [Act.put, List.setIfInBounds_toArray, List.set_cons_zero, List.set_cons_succ]
                    have Spr1 := Spz.below Bpr1
                    have opr1_0 := owns_below opz_0 Bpr1 (Nat.le_refl _)
                    have hgpr1 := Blk.below hgpz Bpr1 (Blk.lt hgpz)
                    have hm := merge29 (partsOf (X0 ++ X1)) (partsOf (X2 ++ X3)) (n0 + n1) (n2 + n3) (.slice a0 2 c0) (.slice apr1 2 cpr1) wpr1 (Row.of_owns opr1_0) (owns_som opr1_0) (Row.of_owns opr1) (owns_som opr1) (by rw [parts_len]; decide) (by rw [parts_len]; decide)
                    rw [parts_merge, parts_long, show wrap64 ((n0 + n1) + (n2 + n3)) = n from by have hh := HNB.out; rw [w64 (by omega)]; omega] at hm
                    rw [parts_perm (X := (X0 ++ X1) ++ (X2 ++ X3)) (Y := A) (by rw [← List.append_assoc]; exact HPERM.out)] at hm
                    refine hp_call 10 (some 79) rfl rfl (by kernel_rfl) rfl 29 #[.agg #[.int .i64 (n0 + n1), .slice a0 2 c0], .agg #[.int .i64 (n2 + n3), .slice apr1 2 cpr1]] (by go_simp; try rfl) (hm.mono ?_)
                    rintro e wpr2 ⟨qpr2, rfl, opr2, Bpr2⟩
                    obtain ⟨apr2, cpr2, rfl⟩ := owns_form opr2
                    clear hm
                    have Tpr2 := Below.call Tpr1 Bpr2
                    refine ⟨_, rfl, Tpr2, ?_⟩
                    simp only [Act.put, List.setIfInBounds_toArray, List.set_cons_zero, List.set_cons_succ]
                    have Spr2 := Spr1.below Bpr2
                    have opr2_0 := owns_below opr1_0 Bpr2 (Nat.le_refl _)
                    have opr2_1 := owns_below opr1 Bpr2 (Nat.le_refl _)
                    have hgpr2 := Blk.below hgpr1 Bpr2 (Blk.lt hgpr1)
                    refine hp_store_row 12 rfl rfl (by kernel_rfl) rfl 39 _ _ rfl w0.heap.size #[.int .i64 n, .slice apr2 2 cpr2] rfl rfl 39 _ hgpr2 info39 rfl (by simp [Value.oneCell']) (Below.setRow Tpr2 gepz _) ?_
                    simp only [List.setIfInBounds_toArray, List.set_cons_zero, List.set_cons_succ]
                    refine hk_done (by kernel_rfl) ?_
                    have hfin := owns_row_other (owns_base opr2 (Nat.zero_le _)) (g5 := w0.heap.size) (fun g hg => by have h1 := opr2.lt g hg; have h2 := Blk.lt hgpr1; have h3 : True := trivial; omega) #[.int .i64 n, .slice apr2 2 cpr2]
                    have hblk := Blk.setRow (cs' := #[.int .i64 n, .slice apr2 2 cpr2]) hgpr2
                    have hbel := Below.setRow Tpr2 gepz #[.int .i64 n, .slice apr2 2 cpr2]
                    have HFIN := Lib.hid (And.intro hblk (And.intro hfin hbel))
                    clear hfin hblk hbel
                    go_wp2_with fail
                    go_meet
                    exact ⟨_, _, rfl, HFIN.out.1, HFIN.out.2.1, HFIN.out.2.2⟩
                · have Tz : Below wz.heap.size wz (wz.drew.alloc (Obj.cells #[.int .i64 0, .slice none 0 0] 39)) := Below.al T0 _
                  refine wpOp_val 11 (some 12) rfl rfl rfl (.pointer (some ⟨wz.drew.heap.size, 0, none⟩)) (wz.drew.alloc (Obj.cells #[.int .i64 0, .slice none 0 0] 39)) (by go_simp; try rfl) ⟨Tz, ?_⟩
                  simp only [Act.put, List.setIfInBounds_toArray, List.set_cons_zero, List.set_cons_succ]
                  have Sz := S0.below (Below.al (Below.refl _ _) (Obj.cells #[.int .i64 0, .slice none 0 0] 39))
                  have hgz : Blk (wz.drew.alloc (Obj.cells #[.int .i64 0, .slice none 0 0] 39)) wz.drew.heap.size 39 #[.int .i64 0, .slice none 0 0] := Blk.newAt _ _ _ rfl
                  have gez : wz.heap.size ≤ wz.drew.heap.size := T0.size
                  obtain ⟨yz, hyz⟩ : ∃ y, y = wz.drew.alloc (Obj.cells #[.int .i64 0, .slice none 0 0] 39) := ⟨_, rfl⟩
                  rw [← hyz] at Tz Sz hgz  ⊢
                  clear hyz
                  have hm := merge29 (partsOf (X0)) (partsOf (X1)) (n0) (n1) (v0) (v1) yz Sz.a0.row Sz.a0.som Sz.a1.row Sz.a1.som (by rw [parts_len]; decide) (by rw [parts_len]; decide)
                  rw [parts_merge, parts_long, show wrap64 ((n0) + (n1)) = n0 + n1 from by have hh := HNB.out; rw [w64 (by omega)]] at hm
                  refine hp_call 4 (some 73) rfl rfl (by kernel_rfl) rfl 29 #[.agg #[.int .i64 (n0), v0], .agg #[.int .i64 (n1), v1]] (by go_simp; try rfl) (hm.mono ?_)
                  rintro e wr0 ⟨qr0, rfl, or0, Br0⟩
                  obtain ⟨ar0, cr0, rfl⟩ := owns_form or0
                  clear hm
                  have Tr0 := Below.call Tz Br0
                  refine ⟨_, rfl, Tr0, ?_⟩
                  simp only [Act.put, List.setIfInBounds_toArray, List.set_cons_zero, List.set_cons_succ]
                  have Sr0 := Sz.below Br0
                  have hgr0 := Blk.below hgz Br0 (Blk.lt hgz)
                  have hm := merge29 (partsOf (X2)) (partsOf (X3)) (n2) (n3) (v2) (v3) wr0 Sr0.a2.row Sr0.a2.som Sr0.a3.row Sr0.a3.som (by rw [parts_len]; decide) (by rw [parts_len]; decide)
                  rw [parts_merge, parts_long, show wrap64 ((n2) + (n3)) = n2 + n3 from by have hh := HNB.out; rw [w64 (by omega)]] at hm
                  refine hp_call 9 (some 78) rfl rfl (by kernel_rfl) rfl 29 #[.agg #[.int .i64 (n2), v2], .agg #[.int .i64 (n3), v3]] (by go_simp; try rfl) (hm.mono ?_)
                  rintro e wr1 ⟨qr1, rfl, or1, Br1⟩
                  obtain ⟨ar1, cr1, rfl⟩ := owns_form or1
                  clear hm
                  have Tr1 := Below.call Tr0 Br1
                  refine ⟨_, rfl, Tr1, ?_⟩
                  simp only [Act.put, List.setIfInBounds_toArray, List.set_cons_zero, List.set_cons_succ]
                  have Sr1 := Sr0.below Br1
                  have or1_0 := owns_below or0 Br1 (Nat.le_refl _)
                  have hgr1 := Blk.below hgr0 Br1 (Blk.lt hgr0)
                  have hm := merge29 (partsOf (X0 ++ X1)) (partsOf (X2 ++ X3)) (n0 + n1) (n2 + n3) (.slice ar0 2 cr0) (.slice ar1 2 cr1) wr1 (Row.of_owns or1_0) (owns_som or1_0) (Row.of_owns or1) (owns_som or1) (by rw [parts_len]; decide) (by rw [parts_len]; decide)
                  rw [parts_merge, parts_long, show wrap64 ((n0 + n1) + (n2 + n3)) = n from by have hh := HNB.out; rw [w64 (by omega)]; omega] at hm
                  rw [parts_perm (X := (X0 ++ X1) ++ (X2 ++ X3)) (Y := A) (by rw [← List.append_assoc]; exact HPERM.out)] at hm
                  refine hp_call 10 (some 79) rfl rfl (by kernel_rfl) rfl 29 #[.agg #[.int .i64 (n0 + n1), .slice ar0 2 cr0], .agg #[.int .i64 (n2 + n3), .slice ar1 2 cr1]] (by go_simp; try rfl) (hm.mono ?_)
                  rintro e wr2 ⟨qr2, rfl, or2, Br2⟩
                  obtain ⟨ar2, cr2, rfl⟩ := owns_form or2
                  clear hm
                  have Tr2 := Below.call Tr1 Br2
                  refine ⟨_, rfl, Tr2, ?_⟩
                  simp only [Act.put, List.setIfInBounds_toArray, List.set_cons_zero, List.set_cons_succ]
                  have Sr2 := Sr1.below Br2
                  have or2_0 := owns_below or1_0 Br2 (Nat.le_refl _)
                  have or2_1 := owns_below or1 Br2 (Nat.le_refl _)
                  have hgr2 := Blk.below hgr1 Br2 (Blk.lt hgr1)
                  refine hp_store_row 12 rfl rfl (by kernel_rfl) rfl 39 _ _ rfl wz.drew.heap.size #[.int .i64 n, .slice ar2 2 cr2] rfl rfl 39 _ hgr2 info39 rfl (by simp [Value.oneCell']) (Below.setRow Tr2 gez _) ?_
                  simp only [List.setIfInBounds_toArray, List.set_cons_zero, List.set_cons_succ]
                  refine hk_done (by kernel_rfl) ?_
                  have hfin := owns_row_other (owns_base or2 (Nat.zero_le _)) (g5 := wz.drew.heap.size) (fun g hg => by have h1 := or2.lt g hg; have h2 := Blk.lt hgr1; have h3 : True := trivial; omega) #[.int .i64 n, .slice ar2 2 cr2]
                  have hblk := Blk.setRow (cs' := #[.int .i64 n, .slice ar2 2 cr2]) hgr2
                  have hbel := Below.setRow Tr2 gez #[.int .i64 n, .slice ar2 2 cr2]
                  have HFIN := Lib.hid (And.intro hblk (And.intro hfin hbel))
                  clear hfin hblk hbel
                  go_wp2_with fail
                  go_meet
                  exact ⟨_, _, rfl, HFIN.out.1, HFIN.out.2.1, HFIN.out.2.2⟩
              case rest =>
                obtain ⟨g5, v5, rfl, hblk, hown, hbel⟩ := hcut
                have HY := Lib.hid (HS.out.below hbel)
                have H5 := Lib.hid (And.intro hblk hown)
                clear hblk hown hbel HS
                obtain ⟨wy, hwy⟩ : ∃ wy : World, wy = wc := ⟨_, rfl⟩
                rw [← hwy] at HY H5 ⊢
                clear hwy
                go_upto_region 20 with fail
                go_cut [13] (fun d wx => ∃ (g6 : Nat) (v6 : Value), d = .pointer (some ⟨g6, 0, none⟩) ∧ Blk wx g6 39 #[.int .i64 n, v6] ∧ wx.ownsRow 0 46 5 v6 2 (partsC (partsOf A)) ∧ Below wy.heap.size wy wx)
                case first =>
                  refine hp_start (fun w' => Below wy.heap.size wy w') 13 rfl (by kernel_rfl) (fun c a a' w hd h => ⟨hd ▸ h.1, h.2⟩) (fun hP => ?_)
                  rw [show Array.replicate 13 false = #[false, false, false, false, false, false, false, false, false, false, false, false, false] from rfl]
                  have T0 : Below wy.heap.size wy wy.drew := (Below.refl _ _).drew
                  have S0 := HY.out.below T0
                  refine hp_take hP 0 (some 80) _ rfl rfl (by kernel_rfl) rfl (fun w' hS' => by go_simp; rfl) T0 ?_
                  simp only [Act.put, List.setIfInBounds_toArray, List.set_cons_zero, List.set_cons_succ]
                  refine hp_load_at hP 1 (some 81) rfl rfl (by kernel_rfl) rfl 39 _ rfl b7 6 rfl #[.int .i64 n3, v3] _ (fun w' hS' j hj => by have hj2 : j < 2 := hj; rw [hS'.cell (show b7 < wy.heap.size from HY.out.lt), Blk.cell HY.out.h7]; match j, hj2 with | 0, _ => rfl | 1, _ => rfl) Try.underlying39 rfl info39 T0 ?_
                  simp only [Act.put, List.setIfInBounds_toArray, List.set_cons_zero, List.set_cons_succ]
                  refine hp_take hP 2 (some 82) _ rfl rfl (by kernel_rfl) rfl (fun w' hS' => by go_simp; rfl) T0 ?_
                  simp only [Act.put, List.setIfInBounds_toArray, List.set_cons_zero, List.set_cons_succ]
                  refine hp_load_at hP 3 (some 83) rfl rfl (by kernel_rfl) rfl 39 _ rfl b7 2 rfl #[.int .i64 n1, v1] _ (fun w' hS' j hj => by have hj2 : j < 2 := hj; rw [hS'.cell (show b7 < wy.heap.size from HY.out.lt), Blk.cell HY.out.h7]; match j, hj2 with | 0, _ => rfl | 1, _ => rfl) Try.underlying39 rfl info39 T0 ?_
                  simp only [Act.put, List.setIfInBounds_toArray, List.set_cons_zero, List.set_cons_succ]
                  refine hp_take hP 4 (some 84) _ rfl rfl (by kernel_rfl) rfl (fun w' hS' => by go_simp; rfl) T0 ?_
                  simp only [Act.put, List.setIfInBounds_toArray, List.set_cons_zero, List.set_cons_succ]
                  refine hp_load_at hP 5 (some 85) rfl rfl (by kernel_rfl) rfl 39 _ rfl b7 4 rfl #[.int .i64 n2, v2] _ (fun w' hS' j hj => by have hj2 : j < 2 := hj; rw [hS'.cell (show b7 < wy.heap.size from HY.out.lt), Blk.cell HY.out.h7]; match j, hj2 with | 0, _ => rfl | 1, _ => rfl) Try.underlying39 rfl info39 T0 ?_
                  simp only [Act.put, List.setIfInBounds_toArray, List.set_cons_zero, List.set_cons_succ]
                  refine hp_take hP 6 (some 86) _ rfl rfl (by kernel_rfl) rfl (fun w' hS' => by go_simp; rfl) T0 ?_
                  simp only [Act.put, List.setIfInBounds_toArray, List.set_cons_zero, List.set_cons_succ]
                  refine hp_load_at hP 7 (some 87) rfl rfl (by kernel_rfl) rfl 39 _ rfl b7 0 rfl #[.int .i64 n0, v0] _ (fun w' hS' j hj => by have hj2 : j < 2 := hj; rw [hS'.cell (show b7 < wy.heap.size from HY.out.lt), Blk.cell HY.out.h7]; match j, hj2 with | 0, _ => rfl | 1, _ => rfl) Try.underlying39 rfl info39 T0 ?_
                  simp only [Act.put, List.setIfInBounds_toArray, List.set_cons_zero, List.set_cons_succ]
                  refine hp_two 8 11 (by kernel_rfl) ?_ ?_
                  · have hm := merge29 (partsOf (X2)) (partsOf (X0)) (n2) (n0) (v2) (v0) wy.drew S0.a2.row S0.a2.som S0.a0.row S0.a0.som (by rw [parts_len]; decide) (by rw [parts_len]; decide)
                    rw [parts_merge, parts_long, show wrap64 ((n2) + (n0)) = n2 + n0 from by have hh := HNB.out; rw [w64 (by omega)]] at hm
                    refine wpOp_call 8 (some 88) rfl rfl rfl 29 #[.agg #[.int .i64 (n2), v2], .agg #[.int .i64 (n0), v0]] (by go_simp; try rfl) (hm.mono ?_)
                    rintro e w0 ⟨q0, rfl, o0, B0⟩
                    obtain ⟨a0, c0, rfl⟩ := owns_form o0
                    clear hm
                    have T0 := Below.call T0 B0
                    refine ⟨_, rfl, T0, ?_⟩
                    simp only [Act.put, List.setIfInBounds_toArray, List.set_cons_zero, List.set_cons_succ]
                    have S0 := S0.below B0
                    refine hp_two 9 11 (by kernel_rfl) ?_ ?_
                    · have hm := merge29 (partsOf (X1)) (partsOf (X2 ++ X0)) (n1) (n2 + n0) (v1) (.slice a0 2 c0) w0 S0.a1.row S0.a1.som (Row.of_owns o0) (owns_som o0) (by rw [parts_len]; decide) (by rw [parts_len]; decide)
                      rw [parts_merge, parts_long, show wrap64 ((n1) + (n2 + n0)) = n1 + (n2 + n0) from by have hh := HNB.out; rw [w64 (by omega)]] at hm
                      refine wpOp_call 9 (some 89) rfl rfl rfl 29 #[.agg #[.int .i64 (n1), v1], .agg #[.int .i64 (n2 + n0), .slice a0 2 c0]] (by go_simp; try rfl) (hm.mono ?_)
                      rintro e wp1 ⟨qp1, rfl, op1, Bp1⟩
                      obtain ⟨ap1, cp1, rfl⟩ := owns_form op1
                      clear hm
                      have Tp1 := Below.call T0 Bp1
                      refine ⟨_, rfl, Tp1, ?_⟩
                      simp only [Act.put, List.setIfInBounds_toArray, List.set_cons_zero, List.set_cons_succ]
                      have Sp1 := S0.below Bp1
                      have op1_0 := owns_below o0 Bp1 (Nat.le_refl _)
                      refine hp_two 10 11 (by kernel_rfl) ?_ ?_
                      · have hm := merge29 (partsOf (X3)) (partsOf (X1 ++ (X2 ++ X0))) (n3) (n1 + (n2 + n0)) (v3) (.slice ap1 2 cp1) wp1 Sp1.a3.row Sp1.a3.som (Row.of_owns op1) (owns_som op1) (by rw [parts_len]; decide) (by rw [parts_len]; decide)
                        rw [parts_merge, parts_long, show wrap64 ((n3) + (n1 + (n2 + n0))) = n from by have hh := HNB.out; rw [w64 (by omega)]; omega] at hm
                        rw [parts_perm (X := X3 ++ (X1 ++ (X2 ++ X0))) (Y := A) (perm20 HPERM.out)] at hm
                        refine wpOp_call 10 (some 90) rfl rfl rfl 29 #[.agg #[.int .i64 (n3), v3], .agg #[.int .i64 (n1 + (n2 + n0)), .slice ap1 2 cp1]] (by go_simp; try rfl) (hm.mono ?_)
                        rintro e wpp2 ⟨qpp2, rfl, opp2, Bpp2⟩
                        obtain ⟨app2, cpp2, rfl⟩ := owns_form opp2
                        clear hm
                        have Tpp2 := Below.call Tp1 Bpp2
                        refine ⟨_, rfl, Tpp2, ?_⟩
                        simp only [Act.put, List.setIfInBounds_toArray, List.set_cons_zero, List.set_cons_succ]
                        have Spp2 := Sp1.below Bpp2
                        have opp2_0 := owns_below op1_0 Bpp2 (Nat.le_refl _)
                        have opp2_1 := owns_below op1 Bpp2 (Nat.le_refl _)
                        have Tpppz : Below wy.heap.size wy (wpp2.alloc (Obj.cells #[.int .i64 0, .slice none 0 0] 39)) := Below.al Tpp2 _
                        refine hp_val 11 (some 13) rfl rfl (by kernel_rfl) rfl (.pointer (some ⟨wpp2.heap.size, 0, none⟩)) (wpp2.alloc (Obj.cells #[.int .i64 0, .slice none 0 0] 39)) (by go_simp; try rfl) Tpppz ?_
                        simp only [Act.put, List.setIfInBounds_toArray, List.set_cons_zero, List.set_cons_succ]
                        have Spppz := Spp2.below (Below.al (Below.refl _ _) (Obj.cells #[.int .i64 0, .slice none 0 0] 39))
                        have opppz_0 := owns_below opp2_0 (Below.al (Below.refl _ _) (Obj.cells #[.int .i64 0, .slice none 0 0] 39)) (Nat.le_refl _)
                        have opppz_1 := owns_below opp2_1 (Below.al (Below.refl _ _) (Obj.cells #[.int .i64 0, .slice none 0 0] 39)) (Nat.le_refl _)
                        have opppz_2 := owns_below opp2 (Below.al (Below.refl _ _) (Obj.cells #[.int .i64 0, .slice none 0 0] 39)) (Nat.le_refl _)
                        have hgpppz : Blk (wpp2.alloc (Obj.cells #[.int .i64 0, .slice none 0 0] 39)) wpp2.heap.size 39 #[.int .i64 0, .slice none 0 0] := Blk.newAt _ _ _ rfl
                        have gepppz : wy.heap.size ≤ wpp2.heap.size := Tpp2.size
                        obtain ⟨ypppz, hypppz⟩ : ∃ y, y = wpp2.alloc (Obj.cells #[.int .i64 0, .slice none 0 0] 39) := ⟨_, rfl⟩
                        rw [← hypppz] at Tpppz Spppz hgpppz opppz_0 opppz_1 opppz_2 ⊢
                        clear hypppz
                        have nzpppz : ∀ g, (Value.slice app2 2 cpp2).ownBlock = some g → g < wpp2.heap.size := fun g hg => (opp2.lt g hg).2
                        refine hp_store_row 12 rfl rfl (by kernel_rfl) rfl 39 _ _ rfl wpp2.heap.size #[.int .i64 n, .slice app2 2 cpp2] rfl rfl 39 _ hgpppz info39 rfl (by simp [Value.oneCell']) (Below.setRow Tpppz gepppz _) ?_
                        simp only [List.setIfInBounds_toArray, List.set_cons_zero, List.set_cons_succ]
                        refine hk_done (by kernel_rfl) ?_
                        have hfin := owns_row_other (owns_base opppz_2 (Nat.zero_le _)) (g5 := wpp2.heap.size) (fun g hg => by have h1 := opppz_2.lt g hg; have h2 := nzpppz g hg; omega) #[.int .i64 n, .slice app2 2 cpp2]
                        have hblk := Blk.setRow (cs' := #[.int .i64 n, .slice app2 2 cpp2]) hgpppz
                        have hbel := Below.setRow Tpppz gepppz #[.int .i64 n, .slice app2 2 cpp2]
                        have HFIN := Lib.hid (And.intro hblk (And.intro hfin hbel))
                        clear hfin hblk hbel
                        go_wp2_with fail
                        go_meet
                        exact ⟨_, _, rfl, HFIN.out.1, HFIN.out.2.1, HFIN.out.2.2⟩
                      · have Tppz : Below wy.heap.size wy (wp1.alloc (Obj.cells #[.int .i64 0, .slice none 0 0] 39)) := Below.al Tp1 _
                        refine wpOp_val 11 (some 13) rfl rfl rfl (.pointer (some ⟨wp1.heap.size, 0, none⟩)) (wp1.alloc (Obj.cells #[.int .i64 0, .slice none 0 0] 39)) (by go_simp; try rfl) ⟨Tppz, ?_⟩
                        simp only [Act.put, List.setIfInBounds_toArray, List.set_cons_zero, List.set_cons_succ]
                        have Sppz := Sp1.below (Below.al (Below.refl _ _) (Obj.cells #[.int .i64 0, .slice none 0 0] 39))
                        have oppz_0 := owns_below op1_0 (Below.al (Below.refl _ _) (Obj.cells #[.int .i64 0, .slice none 0 0] 39)) (Nat.le_refl _)
                        have oppz_1 := owns_below op1 (Below.al (Below.refl _ _) (Obj.cells #[.int .i64 0, .slice none 0 0] 39)) (Nat.le_refl _)
                        have hgppz : Blk (wp1.alloc (Obj.cells #[.int .i64 0, .slice none 0 0] 39)) wp1.heap.size 39 #[.int .i64 0, .slice none 0 0] := Blk.newAt _ _ _ rfl
                        have geppz : wy.heap.size ≤ wp1.heap.size := Tp1.size
                        obtain ⟨yppz, hyppz⟩ : ∃ y, y = wp1.alloc (Obj.cells #[.int .i64 0, .slice none 0 0] 39) := ⟨_, rfl⟩
                        rw [← hyppz] at Tppz Sppz hgppz oppz_0 oppz_1 ⊢
                        clear hyppz
                        have hm := merge29 (partsOf (X3)) (partsOf (X1 ++ (X2 ++ X0))) (n3) (n1 + (n2 + n0)) (v3) (.slice ap1 2 cp1) yppz Sppz.a3.row Sppz.a3.som (Row.of_owns oppz_1) (owns_som oppz_1) (by rw [parts_len]; decide) (by rw [parts_len]; decide)
                        rw [parts_merge, parts_long, show wrap64 ((n3) + (n1 + (n2 + n0))) = n from by have hh := HNB.out; rw [w64 (by omega)]; omega] at hm
                        rw [parts_perm (X := X3 ++ (X1 ++ (X2 ++ X0))) (Y := A) (perm20 HPERM.out)] at hm
                        refine hp_call 10 (some 90) rfl rfl (by kernel_rfl) rfl 29 #[.agg #[.int .i64 (n3), v3], .agg #[.int .i64 (n1 + (n2 + n0)), .slice ap1 2 cp1]] (by go_simp; try rfl) (hm.mono ?_)
                        rintro e wppr2 ⟨qppr2, rfl, oppr2, Bppr2⟩
                        obtain ⟨appr2, cppr2, rfl⟩ := owns_form oppr2
                        clear hm
                        have Tppr2 := Below.call Tppz Bppr2
                        refine ⟨_, rfl, Tppr2, ?_⟩
                        simp only [Act.put, List.setIfInBounds_toArray, List.set_cons_zero, List.set_cons_succ]
                        have Sppr2 := Sppz.below Bppr2
                        have oppr2_0 := owns_below oppz_0 Bppr2 (Nat.le_refl _)
                        have oppr2_1 := owns_below oppz_1 Bppr2 (Nat.le_refl _)
                        have hgppr2 := Blk.below hgppz Bppr2 (Blk.lt hgppz)
                        refine hp_store_row 12 rfl rfl (by kernel_rfl) rfl 39 _ _ rfl wp1.heap.size #[.int .i64 n, .slice appr2 2 cppr2] rfl rfl 39 _ hgppr2 info39 rfl (by simp [Value.oneCell']) (Below.setRow Tppr2 geppz _) ?_
                        simp only [List.setIfInBounds_toArray, List.set_cons_zero, List.set_cons_succ]
                        refine hk_done (by kernel_rfl) ?_
                        have hfin := owns_row_other (owns_base oppr2 (Nat.zero_le _)) (g5 := wp1.heap.size) (fun g hg => by have h1 := oppr2.lt g hg; have h2 := Blk.lt hgppz; have h3 : True := trivial; omega) #[.int .i64 n, .slice appr2 2 cppr2]
                        have hblk := Blk.setRow (cs' := #[.int .i64 n, .slice appr2 2 cppr2]) hgppr2
                        have hbel := Below.setRow Tppr2 geppz #[.int .i64 n, .slice appr2 2 cppr2]
                        have HFIN := Lib.hid (And.intro hblk (And.intro hfin hbel))
                        clear hfin hblk hbel
                        go_wp2_with fail
                        go_meet
                        exact ⟨_, _, rfl, HFIN.out.1, HFIN.out.2.1, HFIN.out.2.2⟩
                    · have Tpz : Below wy.heap.size wy (w0.alloc (Obj.cells #[.int .i64 0, .slice none 0 0] 39)) := Below.al T0 _
                      refine wpOp_val 11 (some 13) rfl rfl rfl (.pointer (some ⟨w0.heap.size, 0, none⟩)) (w0.alloc (Obj.cells #[.int .i64 0, .slice none 0 0] 39)) (by go_simp; try rfl) ⟨Tpz, ?_⟩
                      simp only [Act.put, List.setIfInBounds_toArray, List.set_cons_zero, List.set_cons_succ]
                      have Spz := S0.below (Below.al (Below.refl _ _) (Obj.cells #[.int .i64 0, .slice none 0 0] 39))
                      have opz_0 := owns_below o0 (Below.al (Below.refl _ _) (Obj.cells #[.int .i64 0, .slice none 0 0] 39)) (Nat.le_refl _)
                      have hgpz : Blk (w0.alloc (Obj.cells #[.int .i64 0, .slice none 0 0] 39)) w0.heap.size 39 #[.int .i64 0, .slice none 0 0] := Blk.newAt _ _ _ rfl
                      have gepz : wy.heap.size ≤ w0.heap.size := T0.size
                      obtain ⟨ypz, hypz⟩ : ∃ y, y = w0.alloc (Obj.cells #[.int .i64 0, .slice none 0 0] 39) := ⟨_, rfl⟩
                      rw [← hypz] at Tpz Spz hgpz opz_0 ⊢
                      clear hypz
                      have hm := merge29 (partsOf (X1)) (partsOf (X2 ++ X0)) (n1) (n2 + n0) (v1) (.slice a0 2 c0) ypz Spz.a1.row Spz.a1.som (Row.of_owns opz_0) (owns_som opz_0) (by rw [parts_len]; decide) (by rw [parts_len]; decide)
                      rw [parts_merge, parts_long, show wrap64 ((n1) + (n2 + n0)) = n1 + (n2 + n0) from by have hh := HNB.out; rw [w64 (by omega)]] at hm
                      refine hp_call 9 (some 89) rfl rfl (by kernel_rfl) rfl 29 #[.agg #[.int .i64 (n1), v1], .agg #[.int .i64 (n2 + n0), .slice a0 2 c0]] (by go_simp; try rfl) (hm.mono ?_)
                      rintro e wpr1 ⟨qpr1, rfl, opr1, Bpr1⟩
                      obtain ⟨apr1, cpr1, rfl⟩ := owns_form opr1
                      clear hm
                      have Tpr1 := Below.call Tpz Bpr1
                      refine ⟨_, rfl, Tpr1, ?_⟩
                      simp only [Act.put, List.setIfInBounds_toArray, List.set_cons_zero, List.set_cons_succ]
                      have Spr1 := Spz.below Bpr1
                      have opr1_0 := owns_below opz_0 Bpr1 (Nat.le_refl _)
                      have hgpr1 := Blk.below hgpz Bpr1 (Blk.lt hgpz)
                      have hm := merge29 (partsOf (X3)) (partsOf (X1 ++ (X2 ++ X0))) (n3) (n1 + (n2 + n0)) (v3) (.slice apr1 2 cpr1) wpr1 Spr1.a3.row Spr1.a3.som (Row.of_owns opr1) (owns_som opr1) (by rw [parts_len]; decide) (by rw [parts_len]; decide)
                      rw [parts_merge, parts_long, show wrap64 ((n3) + (n1 + (n2 + n0))) = n from by have hh := HNB.out; rw [w64 (by omega)]; omega] at hm
                      rw [parts_perm (X := X3 ++ (X1 ++ (X2 ++ X0))) (Y := A) (perm20 HPERM.out)] at hm
                      refine hp_call 10 (some 90) rfl rfl (by kernel_rfl) rfl 29 #[.agg #[.int .i64 (n3), v3], .agg #[.int .i64 (n1 + (n2 + n0)), .slice apr1 2 cpr1]] (by go_simp; try rfl) (hm.mono ?_)
                      rintro e wpr2 ⟨qpr2, rfl, opr2, Bpr2⟩
                      obtain ⟨apr2, cpr2, rfl⟩ := owns_form opr2
                      clear hm
                      have Tpr2 := Below.call Tpr1 Bpr2
                      refine ⟨_, rfl, Tpr2, ?_⟩
                      simp only [Act.put, List.setIfInBounds_toArray, List.set_cons_zero, List.set_cons_succ]
                      have Spr2 := Spr1.below Bpr2
                      have opr2_0 := owns_below opr1_0 Bpr2 (Nat.le_refl _)
                      have opr2_1 := owns_below opr1 Bpr2 (Nat.le_refl _)
                      have hgpr2 := Blk.below hgpr1 Bpr2 (Blk.lt hgpr1)
                      refine hp_store_row 12 rfl rfl (by kernel_rfl) rfl 39 _ _ rfl w0.heap.size #[.int .i64 n, .slice apr2 2 cpr2] rfl rfl 39 _ hgpr2 info39 rfl (by simp [Value.oneCell']) (Below.setRow Tpr2 gepz _) ?_
                      simp only [List.setIfInBounds_toArray, List.set_cons_zero, List.set_cons_succ]
                      refine hk_done (by kernel_rfl) ?_
                      have hfin := owns_row_other (owns_base opr2 (Nat.zero_le _)) (g5 := w0.heap.size) (fun g hg => by have h1 := opr2.lt g hg; have h2 := Blk.lt hgpr1; have h3 : True := trivial; omega) #[.int .i64 n, .slice apr2 2 cpr2]
                      have hblk := Blk.setRow (cs' := #[.int .i64 n, .slice apr2 2 cpr2]) hgpr2
                      have hbel := Below.setRow Tpr2 gepz #[.int .i64 n, .slice apr2 2 cpr2]
                      have HFIN := Lib.hid (And.intro hblk (And.intro hfin hbel))
                      clear hfin hblk hbel
                      go_wp2_with fail
                      go_meet
                      exact ⟨_, _, rfl, HFIN.out.1, HFIN.out.2.1, HFIN.out.2.2⟩
                  · have Tz : Below wy.heap.size wy (wy.drew.alloc (Obj.cells #[.int .i64 0, .slice none 0 0] 39)) := Below.al T0 _
                    refine wpOp_val 11 (some 13) rfl rfl rfl (.pointer (some ⟨wy.drew.heap.size, 0, none⟩)) (wy.drew.alloc (Obj.cells #[.int .i64 0, .slice none 0 0] 39)) (by go_simp; try rfl) ⟨Tz, ?_⟩
                    simp only [Act.put, List.setIfInBounds_toArray, List.set_cons_zero, List.set_cons_succ]
                    have Sz := S0.below (Below.al (Below.refl _ _) (Obj.cells #[.int .i64 0, .slice none 0 0] 39))
                    have hgz : Blk (wy.drew.alloc (Obj.cells #[.int .i64 0, .slice none 0 0] 39)) wy.drew.heap.size 39 #[.int .i64 0, .slice none 0 0] := Blk.newAt _ _ _ rfl
                    have gez : wy.heap.size ≤ wy.drew.heap.size := T0.size
                    obtain ⟨yz, hyz⟩ : ∃ y, y = wy.drew.alloc (Obj.cells #[.int .i64 0, .slice none 0 0] 39) := ⟨_, rfl⟩
                    rw [← hyz] at Tz Sz hgz  ⊢
                    clear hyz
                    have hm := merge29 (partsOf (X2)) (partsOf (X0)) (n2) (n0) (v2) (v0) yz Sz.a2.row Sz.a2.som Sz.a0.row Sz.a0.som (by rw [parts_len]; decide) (by rw [parts_len]; decide)
                    rw [parts_merge, parts_long, show wrap64 ((n2) + (n0)) = n2 + n0 from by have hh := HNB.out; rw [w64 (by omega)]] at hm
                    refine hp_call 8 (some 88) rfl rfl (by kernel_rfl) rfl 29 #[.agg #[.int .i64 (n2), v2], .agg #[.int .i64 (n0), v0]] (by go_simp; try rfl) (hm.mono ?_)
                    rintro e wr0 ⟨qr0, rfl, or0, Br0⟩
                    obtain ⟨ar0, cr0, rfl⟩ := owns_form or0
                    clear hm
                    have Tr0 := Below.call Tz Br0
                    refine ⟨_, rfl, Tr0, ?_⟩
                    simp only [Act.put, List.setIfInBounds_toArray, List.set_cons_zero, List.set_cons_succ]
                    have Sr0 := Sz.below Br0
                    have hgr0 := Blk.below hgz Br0 (Blk.lt hgz)
                    have hm := merge29 (partsOf (X1)) (partsOf (X2 ++ X0)) (n1) (n2 + n0) (v1) (.slice ar0 2 cr0) wr0 Sr0.a1.row Sr0.a1.som (Row.of_owns or0) (owns_som or0) (by rw [parts_len]; decide) (by rw [parts_len]; decide)
                    rw [parts_merge, parts_long, show wrap64 ((n1) + (n2 + n0)) = n1 + (n2 + n0) from by have hh := HNB.out; rw [w64 (by omega)]] at hm
                    refine hp_call 9 (some 89) rfl rfl (by kernel_rfl) rfl 29 #[.agg #[.int .i64 (n1), v1], .agg #[.int .i64 (n2 + n0), .slice ar0 2 cr0]] (by go_simp; try rfl) (hm.mono ?_)
                    rintro e wr1 ⟨qr1, rfl, or1, Br1⟩
                    obtain ⟨ar1, cr1, rfl⟩ := owns_form or1
                    clear hm
                    have Tr1 := Below.call Tr0 Br1
                    refine ⟨_, rfl, Tr1, ?_⟩
                    simp only [Act.put, List.setIfInBounds_toArray, List.set_cons_zero, List.set_cons_succ]
                    have Sr1 := Sr0.below Br1
                    have or1_0 := owns_below or0 Br1 (Nat.le_refl _)
                    have hgr1 := Blk.below hgr0 Br1 (Blk.lt hgr0)
                    have hm := merge29 (partsOf (X3)) (partsOf (X1 ++ (X2 ++ X0))) (n3) (n1 + (n2 + n0)) (v3) (.slice ar1 2 cr1) wr1 Sr1.a3.row Sr1.a3.som (Row.of_owns or1) (owns_som or1) (by rw [parts_len]; decide) (by rw [parts_len]; decide)
                    rw [parts_merge, parts_long, show wrap64 ((n3) + (n1 + (n2 + n0))) = n from by have hh := HNB.out; rw [w64 (by omega)]; omega] at hm
                    rw [parts_perm (X := X3 ++ (X1 ++ (X2 ++ X0))) (Y := A) (perm20 HPERM.out)] at hm
                    refine hp_call 10 (some 90) rfl rfl (by kernel_rfl) rfl 29 #[.agg #[.int .i64 (n3), v3], .agg #[.int .i64 (n1 + (n2 + n0)), .slice ar1 2 cr1]] (by go_simp; try rfl) (hm.mono ?_)
                    rintro e wr2 ⟨qr2, rfl, or2, Br2⟩
                    obtain ⟨ar2, cr2, rfl⟩ := owns_form or2
                    clear hm
                    have Tr2 := Below.call Tr1 Br2
                    refine ⟨_, rfl, Tr2, ?_⟩
                    simp only [Act.put, List.setIfInBounds_toArray, List.set_cons_zero, List.set_cons_succ]
                    have Sr2 := Sr1.below Br2
                    have or2_0 := owns_below or1_0 Br2 (Nat.le_refl _)
                    have or2_1 := owns_below or1 Br2 (Nat.le_refl _)
                    have hgr2 := Blk.below hgr1 Br2 (Blk.lt hgr1)
                    refine hp_store_row 12 rfl rfl (by kernel_rfl) rfl 39 _ _ rfl wy.drew.heap.size #[.int .i64 n, .slice ar2 2 cr2] rfl rfl 39 _ hgr2 info39 rfl (by simp [Value.oneCell']) (Below.setRow Tr2 gez _) ?_
                    simp only [List.setIfInBounds_toArray, List.set_cons_zero, List.set_cons_succ]
                    refine hk_done (by kernel_rfl) ?_
                    have hfin := owns_row_other (owns_base or2 (Nat.zero_le _)) (g5 := wy.drew.heap.size) (fun g hg => by have h1 := or2.lt g hg; have h2 := Blk.lt hgr1; have h3 : True := trivial; omega) #[.int .i64 n, .slice ar2 2 cr2]
                    have hblk := Blk.setRow (cs' := #[.int .i64 n, .slice ar2 2 cr2]) hgr2
                    have hbel := Below.setRow Tr2 gez #[.int .i64 n, .slice ar2 2 cr2]
                    have HFIN := Lib.hid (And.intro hblk (And.intro hfin hbel))
                    clear hfin hblk hbel
                    go_wp2_with fail
                    go_meet
                    exact ⟨_, _, rfl, HFIN.out.1, HFIN.out.2.1, HFIN.out.2.2⟩
                case rest =>
                  obtain ⟨g6, v6, rfl, hblk, hown, hbel⟩ := hcut
                  have HX := Lib.hid (HY.out.below hbel)
                  have H7 := Lib.hid (And.intro (Blk.below H5.out.1 hbel (Blk.lt H5.out.1)) (owns_below H5.out.2 hbel (Nat.le_refl _)))
                  have H8 := Lib.hid (And.intro hblk hown)
                  clear hblk hown hbel HY H5
                  obtain ⟨wx, hwx⟩ : ∃ wx : World, wx = wc := ⟨_, rfl⟩
                  rw [← hwx] at HX H7 H8 ⊢
                  clear hwx
                  go_wp2_with (first | (refine wpList_load_at rfl 39 _ rfl g5 0 rfl #[.int .i64 n, v5] _ (fun j hj => by rw [Nat.zero_add]; exact Blk.cell H7.out.1 j) Try.underlying39 rfl info39 ?_) | (refine wpList_load_at rfl 39 _ rfl b6 0 rfl #[.int .i64 n, v] _ (fun j hj => by rw [Nat.zero_add]; exact Blk.cell HX.out.h6 j) Try.underlying39 rfl info39 ?_))
                  refine (same22 n v5 v (partsOf A) wx (Row.of_owns H7.out.2) HX.out.a.row).mono ?_
                  rintro e wu ⟨rfl, hBu⟩
                  have HU := Lib.hid (HX.out.below hBu)
                  have H9 := Lib.hid (And.intro (Blk.below H8.out.1 hBu (Blk.lt H8.out.1)) (owns_below H8.out.2 hBu (Nat.le_refl _)))
                  clear HX H7 H8 hBu
                  go_wp2_with (first | (refine wpList_load_at rfl 39 _ rfl g6 0 rfl #[.int .i64 n, v6] _ (fun j hj => by rw [Nat.zero_add]; exact Blk.cell H9.out.1 j) Try.underlying39 rfl info39 ?_) | (refine wpList_load_at rfl 39 _ rfl b6 0 rfl #[.int .i64 n, v] _ (fun j hj => by rw [Nat.zero_add]; exact Blk.cell HU.out.h6 j) Try.underlying39 rfl info39 ?_))
                  refine (same22 n v6 v (partsOf A) wu (Row.of_owns H9.out.2) HU.out.a.row).mono ?_
                  rintro e wt ⟨rfl, hBt⟩
                  have HT := Lib.hid (HU.out.below hBt)
                  clear HU H9 hBt
                  go_wp2_with (refine wpList_load_at_g rfl 39 _ rfl b6 0 rfl #[.int .i64 n, v] _ (fun j hj => by rw [Nat.zero_add]; exact Blk.cell HT.out.h6 j) Try.underlying39 rfl info39 ?_)
                  have hv := valid25g n 2 v (partsOf A) wt HT.out.a.row
                  rw [show validB n (partsOf A) 2 = true by rw [HT.out.e]; exact parts_valid A] at hv
                  refine hv.mono ?_
                  rintro e ws ⟨rfl, hBs⟩
                  have HR := Lib.hid (Below.call HT.out.tu hBs)
                  clear HT hBs hv
                  go_wp2_with fail
                  go_ret
                  exact ⟨by first | rfl | simp, HR.out⟩
end Go.Proofs.Ytlhncphnhgbclaa
