/- AccumTakes: the walk. -/
import Derived.Test.YtlhncphnhgbclaaZF
import Derived.Test.YtlhncphnhgbclaaS
import Derived.Deep.DeepCutAuto
namespace Go.Proofs.Ytlhncphnhgbclaa
open Go.RowKit
set_option linter.unusedVariables false
set_option linter.unusedSimpArgs false

theorem wpList_store_md {P : Program} {ops : Array Oper} {rest : List Oper} {o : Oper} {a : Act} {w : World} {Q : Exit → Act → World → Prop} (hgd : o.guard = none) (ty : TypeId) (x y : Operand) (ho : o.op = .store ty x y)
    (g off : Nat) (cells : Array Value) (hx : a.eval x = .pointer (some ⟨g, off, none⟩)) (hy : a.eval y = .agg cells)
    (t : TypeId) (old : Array Value) (hg : w.heap[g]? = some (.cells old t (0, 0))) (hi : (P.info? ty).map (·.size) = some cells.size) (hfit : off + cells.size ≤ old.size) (h1 : cells.all (·.oneCell') = true)
    (h : ∀ new : Array Value, new.size = old.size → wpList P ops Q rest (a.put o.dst undef) (w.setRow g new)) : wpList P ops Q (o :: rest) a w :=
  wpList_plain hgd fun _ hK => by
    unfold Oper.wp
    rw [exec_store_mid ty x y ho g off cells hx hy t old hg hi hfit h1, Oper.upon_skip]
    exact hK _ _ (h _ (by simp; omega))

/-- nothing has turned but the block of a slice -/
structure OnlyV (v : Value) (w w' : World) : Prop where
  os : w'.os = w.os
  tape : w'.tape = w.tape
  output : w'.output = w.output
  size : w'.heap.size = w.heap.size
  block : ∀ k, some k ≠ v.ownBlock → w'.heap[k]? = w.heap[k]?
theorem OnlyV.refl (v : Value) (w : World) : OnlyV v w w := ⟨rfl, rfl, rfl, rfl, fun _ _ => rfl⟩
theorem OnlyV.row {v : Value} {w w' : World} (h : OnlyV v w w') {g : Nat} (hg : v.ownBlock = some g) (cs : Array Value) : OnlyV v w (w'.setRow g cs) :=
  ⟨h.os, h.tape, h.output, by rw [← h.size]; simp [World.setRow], fun k hk => (setRow_other w' g k cs (fun e => hk (by rw [hg, e]))).trans (h.block k hk)⟩
theorem Blk.onlyV {v : Value} {w w' : World} {b : Nat} {T : TypeId} {cs : Array Value} (h : Blk w b T cs) (ho : OnlyV v w w') (hne : some b ≠ v.ownBlock) : Blk w' b T cs := (ho.block b hne).trans h
theorem owns_onlyV {v v2 : Value} {w w' : World} {base : Nat} {e : TypeId} {size n : Nat} {xs : List Value} (h : w.ownsRow base e size v2 n xs) (ho : OnlyV v w w') (hne : ∀ g, v2.ownBlock = some g → some g ≠ v.ownBlock) : w'.ownsRow base e size v2 n xs := by
  refine ⟨h.1, ?_⟩
  rcases h.2 with h2 | ⟨g, cap, cur, hv, hg, hh, r⟩
  · exact .inl h2
  · exact .inr ⟨g, cap, cur, hv, hg, (ho.block g (hne g (by rw [hv]; rfl))).trans hh, r⟩
theorem OnlyV.below {v : Value} {w w' : World} {B : Nat} (h : OnlyV v w w') (hB : ∀ g, v.ownBlock = some g → B ≤ g) : Below B w w' :=
  ⟨h.os, h.tape, h.output, by rw [h.size]; exact Nat.le_refl _, fun k hk => h.block k (fun e => by have := hB k e.symm; omega)⟩

/-- of a copy with one more behind it: all but the last -/
theorem copy_row {w : World} {base g cap : Nat} {ps : List Prt} (h : w.ownsRow base 46 5 (.slice (some ⟨g, 0, none⟩) (ps.length + 1) cap) (ps.length + 1) (partsC (ps ++ [p77]))) : RowP w.heap.size w (.slice (some ⟨g, 0, none⟩) ps.length cap) ps := by
  have hc := @World.ownsRow.cells _ _ _ _ _ _ _ h
  have hl := h.lt g rfl
  obtain ⟨h1, h2⟩ : ps.length + 1 ≤ cap ∧ cap ≤ maxLen := by
    rcases h.2 with ⟨e, -⟩ | ⟨g', cap', cur, hv, _, _, h1, h2, _⟩
    · cases e
    · injection hv with _ _ e3; subst e3; exact ⟨h1, h2⟩
  refine ⟨partsC_len ps, some ⟨g, 0, none⟩, cap, rfl, by omega, h2, fun _ => ⟨g, 0, rfl, hl.2, fun j hj => ?_⟩⟩
  have hj2 : j < (partsC ps).length := by rw [partsC_len]; exact hj
  have := hc (g := g) rfl j ((partsC ps).getD j undef) (by rw [partsC_snoc, List.getElem?_append_left hj2, List.getD_eq_getElem?_getD, List.getElem?_eq_getElem hj2]; rfl)
  have e : (⟨g, 0, none⟩ : Addr).add j = ⟨g, 0 + j, none⟩ := by unfold Addr.add; split <;> simp_all
  rw [e] at this
  exact this
/-- and the last -/
theorem copy_last {w : World} {base g cap : Nat} {ps : List Prt} (h : w.ownsRow base 46 5 (.slice (some ⟨g, 0, none⟩) (ps.length + 1) cap) (ps.length + 1) (partsC (ps ++ [p77]))) : w.cell? ⟨g, ps.length * 5 + 3, none⟩ = some (.int .i64 77) := by
  have hc := @World.ownsRow.cells _ _ _ _ _ _ _ h
  have := hc (g := g) rfl (ps.length * 5 + 3) (.int .i64 77) (by rw [partsC_snoc, List.getElem?_append_right (by rw [partsC_len]; omega), partsC_len, show ps.length * 5 + 3 - ps.length * 5 = 3 by omega]; rfl)
  have e : (⟨g, 0, none⟩ : Addr).add (ps.length * 5 + 3) = ⟨g, ps.length * 5 + 3, none⟩ := by unfold Addr.add; split <;> simp_all
  rw [e] at this
  exact this
theorem copy_cap {w : World} {base g cap : Nat} {ps : List Prt} (h : w.ownsRow base 46 5 (.slice (some ⟨g, 0, none⟩) (ps.length + 1) cap) (ps.length + 1) (partsC (ps ++ [p77]))) : ps.length + 1 ≤ cap := by
  rcases h.2 with ⟨e, -⟩ | ⟨g', cap', cur, hv, _, _, h1, h2, _⟩
  · cases e
  · injection hv with _ _ e3; subst e3; exact h1

theorem longL_or (ps qs : List Prt) : longL ps qs = ps ∨ longL ps qs = qs := by unfold longL; split <;> simp
theorem own_cur {w : World} {base n cap : Nat} {a : Option Addr} {xs : List Value} (h : w.ownsRow base 46 5 (.slice a n cap) n xs) : 0 < n → ∃ (g : Nat) (cur : Array Value), a = some ⟨g, 0, none⟩ ∧ Blk w g 46 cur ∧ n ≤ cap ∧ cur.size = cap * 5 := by
  intro h0
  rcases h.2 with ⟨-, e⟩ | ⟨g, cap', cur, hv, _, hh, h1, _, h3, _⟩
  · omega
  · injection hv with e1 e2 e3
    subst e3
    exact ⟨g, cur, e1, hh, h1, h3⟩

set_option maxRecDepth 100000 in
set_option maxHeartbeats 8000000 in
theorem takes8 (ps qs : List Prt) (ms : List Int) (c1 c2 : Int) (v1 v2 vm : Value) (w : World) (h1 : RowP w.heap.size w v1 ps) (hv1 : Som v1 ps.length) (h2 : RowP w.heap.size w v2 qs) (hv2 : Som v2 qs.length) (hm : RowI w.heap.size w vm ms)
    (hb1 : ps.length * 40 ≤ 140737488351232) (hb2 : qs.length * 40 ≤ 140737488351232) (hms : ∀ i, i < ms.length → -9223372036854775808 ≤ ms.getD i 0 ∧ ms.getD i 0 ≤ 9223372036854775807) :
    Calls Try.prog 8 #[.agg #[.int .i64 c1, v1], .agg #[.int .i64 c2, v2], vm] w fun e w' => e = .returned (.bool true) ∧ Below w.heap.size w w' := by
  obtain ⟨i0, hi, hz0, hz1, hz2⟩ := info_parts Try.info46
  have HM := Lib.hid hm
  have HMS := Lib.hid hms
  have H1 := Lib.hid (And.intro h1 hv1)
  have H2 := Lib.hid (And.intro h2 hv2)
  clear hm hms h1 hv1 h2 hv2
  go_enter Try.func8, Try.ntmps8
  go_wp2_with fail
  obtain ⟨w1, hw1⟩ : ∃ w1, w1 = (w.alloc (Obj.cells #[.int .i64 c1, v1] 39)).alloc (Obj.cells #[.int .i64 c2, v2] 39) := ⟨_, rfl⟩
  have fA : Blk w1 w.heap.size 39 #[.int .i64 c1, v1] := by rw [hw1]; exact (Blk.newAt _ _ _ rfl).alloc _
  have fB : Blk w1 (w.heap.size + 1) 39 #[.int .i64 c2, v2] := by rw [hw1]; exact Blk.newAt _ _ _ (by simp)
  have tu : Below w.heap.size w w1 := by rw [hw1]; exact Below.al (Below.al (Below.refl _ _) _) _
  rw [← hw1]
  clear hw1
  refine (awake10 w1).mono ?_
  rintro e w2 ⟨rfl, hB⟩
  have fA := Blk.below fA hB (Blk.lt fA)
  have fB := Blk.below fB hB (Blk.lt fB)
  have tu := Below.call tu hB
  clear hB
  have q0 : w.heap.size + 1 < w2.heap.size := Blk.lt fB
  have rr := Row.mono H1.out.1 tu tu.size
  go_upto_region 3 with (first | (refine wpList_load_at rfl 39 _ rfl (w.heap.size) 0 rfl #[.int .i64 c1, v1] _ (fun j hj => by rw [Nat.zero_add]; exact Blk.cell fA j) Try.underlying39 rfl info39 ?_) | (go_at_call 28; refine (copied28 ps c1 v1 w2 rr H1.out.2 hb1).mono ?_; rintro e w3 ⟨gw3, kw3, rfl, oX, hB⟩))
  have fA := Blk.below fA hB (Blk.lt fA)
  have fB := Blk.below fB hB (Blk.lt fB)
  have tu := Below.call tu hB
  have loX := oX.lt gw3 rfl
  have sw3 := hB.size
  have fA := Blk.alloc fA (Obj.cells #[.int .i64 c1, .slice (some ⟨gw3, 0, none⟩) ps.length kw3] 39)
  have fB := Blk.alloc fB (Obj.cells #[.int .i64 c1, .slice (some ⟨gw3, 0, none⟩) ps.length kw3] 39)
  have oX := oX.alloc (Obj.cells #[.int .i64 c1, .slice (some ⟨gw3, 0, none⟩) ps.length kw3] 39)
  have tu := Below.al tu (Obj.cells #[.int .i64 c1, .slice (some ⟨gw3, 0, none⟩) ps.length kw3] 39)
  have fX : Blk (w3.alloc (Obj.cells #[.int .i64 c1, .slice (some ⟨gw3, 0, none⟩) ps.length kw3] 39)) w3.heap.size 39 #[.int .i64 c1, .slice (some ⟨gw3, 0, none⟩) ps.length kw3] := Blk.newAt _ _ _ rfl
  obtain ⟨w4, hw4⟩ : ∃ y, y = w3.alloc (Obj.cells #[.int .i64 c1, .slice (some ⟨gw3, 0, none⟩) ps.length kw3] 39) := ⟨_, rfl⟩
  obtain ⟨bx, hbx⟩ : ∃ b, w3.heap.size = b := ⟨_, rfl⟩
  rw [← hw4] at fA fB fX oX tu ⊢
  rw [hbx] at fX loX ⊢
  have ew4 : w4.heap.size = bx + 1 := by rw [hw4, ← hbx]; simp
  have qbx : w2.heap.size ≤ bx := by omega
  have Ew4 := Lib.hid ew4
  clear hw4 hbx hB rr ew4 sw3
  have rr := Row.mono H2.out.1 tu tu.size
  go_upto_region 4 with (first | (refine wpList_load_at rfl 39 _ rfl (w.heap.size + 1) 0 rfl #[.int .i64 c2, v2] _ (fun j hj => by rw [Nat.zero_add]; exact Blk.cell fB j) Try.underlying39 rfl info39 ?_) | (go_at_call 28; refine (copied28 qs c2 v2 w4 rr H2.out.2 hb2).mono ?_; rintro e w5 ⟨gw5, kw5, rfl, oY, hB⟩))
  have fA := Blk.below fA hB (Blk.lt fA)
  have fB := Blk.below fB hB (Blk.lt fB)
  have fX := Blk.below fX hB (Blk.lt fX)
  have oX := owns_below oX hB (Nat.le_refl _)
  have tu := Below.call tu hB
  have loY := oY.lt gw5 rfl
  have sw5 := hB.size
  have fA := Blk.alloc fA (Obj.cells #[.int .i64 c2, .slice (some ⟨gw5, 0, none⟩) qs.length kw5] 39)
  have fB := Blk.alloc fB (Obj.cells #[.int .i64 c2, .slice (some ⟨gw5, 0, none⟩) qs.length kw5] 39)
  have fX := Blk.alloc fX (Obj.cells #[.int .i64 c2, .slice (some ⟨gw5, 0, none⟩) qs.length kw5] 39)
  have oX := oX.alloc (Obj.cells #[.int .i64 c2, .slice (some ⟨gw5, 0, none⟩) qs.length kw5] 39)
  have oY := oY.alloc (Obj.cells #[.int .i64 c2, .slice (some ⟨gw5, 0, none⟩) qs.length kw5] 39)
  have tu := Below.al tu (Obj.cells #[.int .i64 c2, .slice (some ⟨gw5, 0, none⟩) qs.length kw5] 39)
  have fY : Blk (w5.alloc (Obj.cells #[.int .i64 c2, .slice (some ⟨gw5, 0, none⟩) qs.length kw5] 39)) w5.heap.size 39 #[.int .i64 c2, .slice (some ⟨gw5, 0, none⟩) qs.length kw5] := Blk.newAt _ _ _ rfl
  obtain ⟨w6, hw6⟩ : ∃ y, y = w5.alloc (Obj.cells #[.int .i64 c2, .slice (some ⟨gw5, 0, none⟩) qs.length kw5] 39) := ⟨_, rfl⟩
  obtain ⟨by_, hby_⟩ : ∃ b, w5.heap.size = b := ⟨_, rfl⟩
  rw [← hw6] at fA fB fX fY oX oY tu ⊢
  rw [hby_] at fY loY ⊢
  have ew6 : w6.heap.size = by_ + 1 := by rw [hw6, ← hby_]; simp
  have qby_ : w4.heap.size ≤ by_ := by omega
  have Ew6 := Lib.hid ew6
  clear hw6 hby_ hB rr ew6 sw5
  go_upto_region 5 with (first | (refine wpList_load_at rfl 39 _ rfl (bx) 0 rfl #[.int .i64 c1, .slice (some ⟨gw3, 0, none⟩) ps.length kw3] _ (fun j hj => by rw [Nat.zero_add]; exact Blk.cell fX j) Try.underlying39 rfl info39 ?_) | (go_at_call 27; refine (take27 ps ms c1 (.slice (some ⟨gw3, 0, none⟩) ps.length kw3) vm w6 (copy_row oX) (.inr ⟨_, _, rfl⟩) (RowI.mono HM.out tu tu.size) (by omega) HMS.out).mono ?_; rintro e w7 ⟨vt, rfl, oT, hB⟩; obtain ⟨aT, kT, rfl⟩ := owns_form oT))
  have fA := Blk.below fA hB (Blk.lt fA)
  have fB := Blk.below fB hB (Blk.lt fB)
  have fX := Blk.below fX hB (Blk.lt fX)
  have fY := Blk.below fY hB (Blk.lt fY)
  have oX := owns_below oX hB (Nat.le_refl _)
  have oY := owns_below oY hB (Nat.le_refl _)
  have tu := Below.call tu hB
  have loT := hB.size
  have fA := Blk.alloc fA (Obj.cells #[.int .i64 (wrap64 (c1 + 1)), .slice aT ps.length kT] 39)
  have fB := Blk.alloc fB (Obj.cells #[.int .i64 (wrap64 (c1 + 1)), .slice aT ps.length kT] 39)
  have fX := Blk.alloc fX (Obj.cells #[.int .i64 (wrap64 (c1 + 1)), .slice aT ps.length kT] 39)
  have fY := Blk.alloc fY (Obj.cells #[.int .i64 (wrap64 (c1 + 1)), .slice aT ps.length kT] 39)
  have noT : ∀ g, (Value.slice aT ps.length kT).ownBlock = some g → w6.heap.size ≤ g ∧ g < w7.heap.size := fun g hg => oT.lt g hg
  have oX := oX.alloc (Obj.cells #[.int .i64 (wrap64 (c1 + 1)), .slice aT ps.length kT] 39)
  have oY := oY.alloc (Obj.cells #[.int .i64 (wrap64 (c1 + 1)), .slice aT ps.length kT] 39)
  have oT := oT.alloc (Obj.cells #[.int .i64 (wrap64 (c1 + 1)), .slice aT ps.length kT] 39)
  have tu := Below.al tu (Obj.cells #[.int .i64 (wrap64 (c1 + 1)), .slice aT ps.length kT] 39)
  have fT : Blk (w7.alloc (Obj.cells #[.int .i64 (wrap64 (c1 + 1)), .slice aT ps.length kT] 39)) w7.heap.size 39 #[.int .i64 (wrap64 (c1 + 1)), .slice aT ps.length kT] := Blk.newAt _ _ _ rfl
  obtain ⟨w8, hw8⟩ : ∃ y, y = w7.alloc (Obj.cells #[.int .i64 (wrap64 (c1 + 1)), .slice aT ps.length kT] 39) := ⟨_, rfl⟩
  obtain ⟨bt, hbt⟩ : ∃ b, w7.heap.size = b := ⟨_, rfl⟩
  rw [← hw8] at fA fB fX fY fT oX oY oT tu ⊢
  rw [hbt] at fT noT ⊢
  have ew8 : w8.heap.size = bt + 1 := by rw [hw8, ← hbt]; simp
  have qbt : w6.heap.size ≤ bt := by omega
  have Ew8 := Lib.hid ew8
  have NoT := Lib.hid noT
  clear hw8 hbt hB ew8 noT loT
  go_upto_region 6 with (first | (refine wpList_load_at rfl 39 _ rfl (bx) 0 rfl #[.int .i64 c1, .slice (some ⟨gw3, 0, none⟩) ps.length kw3] _ (fun j hj => by rw [Nat.zero_add]; exact Blk.cell fX j) Try.underlying39 rfl info39 ?_) | (refine wpList_load_at rfl 39 _ rfl (by_) 0 rfl #[.int .i64 c2, .slice (some ⟨gw5, 0, none⟩) qs.length kw5] _ (fun j hj => by rw [Nat.zero_add]; exact Blk.cell fY j) Try.underlying39 rfl info39 ?_) | (go_at_call 29; refine (merge29 ps qs c1 c2 (.slice (some ⟨gw3, 0, none⟩) ps.length kw3) (.slice (some ⟨gw5, 0, none⟩) qs.length kw5) w8 (copy_row oX) (.inr ⟨_, _, rfl⟩) (copy_row oY) (.inr ⟨_, _, rfl⟩) (by omega) (by omega)).mono ?_; rintro e w9 ⟨vm2, rfl, oM, hB⟩; obtain ⟨aM, kM, rfl⟩ := owns_form oM))
  have fA := Blk.below fA hB (Blk.lt fA)
  have fB := Blk.below fB hB (Blk.lt fB)
  have fX := Blk.below fX hB (Blk.lt fX)
  have fY := Blk.below fY hB (Blk.lt fY)
  have fT := Blk.below fT hB (Blk.lt fT)
  have oX := owns_below oX hB (Nat.le_refl _)
  have oY := owns_below oY hB (Nat.le_refl _)
  have oT := owns_below oT hB (Nat.le_refl _)
  have tu := Below.call tu hB
  have loM := hB.size
  have fA := Blk.alloc fA (Obj.cells #[.int .i64 (wrap64 (c1 + c2)), .slice aM (longL ps qs).length kM] 39)
  have fB := Blk.alloc fB (Obj.cells #[.int .i64 (wrap64 (c1 + c2)), .slice aM (longL ps qs).length kM] 39)
  have fX := Blk.alloc fX (Obj.cells #[.int .i64 (wrap64 (c1 + c2)), .slice aM (longL ps qs).length kM] 39)
  have fY := Blk.alloc fY (Obj.cells #[.int .i64 (wrap64 (c1 + c2)), .slice aM (longL ps qs).length kM] 39)
  have fT := Blk.alloc fT (Obj.cells #[.int .i64 (wrap64 (c1 + c2)), .slice aM (longL ps qs).length kM] 39)
  have noM : ∀ g, (Value.slice aM (longL ps qs).length kM).ownBlock = some g → w8.heap.size ≤ g ∧ g < w9.heap.size := fun g hg => oM.lt g hg
  have oX := oX.alloc (Obj.cells #[.int .i64 (wrap64 (c1 + c2)), .slice aM (longL ps qs).length kM] 39)
  have oY := oY.alloc (Obj.cells #[.int .i64 (wrap64 (c1 + c2)), .slice aM (longL ps qs).length kM] 39)
  have oT := oT.alloc (Obj.cells #[.int .i64 (wrap64 (c1 + c2)), .slice aM (longL ps qs).length kM] 39)
  have oM := oM.alloc (Obj.cells #[.int .i64 (wrap64 (c1 + c2)), .slice aM (longL ps qs).length kM] 39)
  have tu := Below.al tu (Obj.cells #[.int .i64 (wrap64 (c1 + c2)), .slice aM (longL ps qs).length kM] 39)
  have fM : Blk (w9.alloc (Obj.cells #[.int .i64 (wrap64 (c1 + c2)), .slice aM (longL ps qs).length kM] 39)) w9.heap.size 39 #[.int .i64 (wrap64 (c1 + c2)), .slice aM (longL ps qs).length kM] := Blk.newAt _ _ _ rfl
  obtain ⟨w10, hw10⟩ : ∃ y, y = w9.alloc (Obj.cells #[.int .i64 (wrap64 (c1 + c2)), .slice aM (longL ps qs).length kM] 39) := ⟨_, rfl⟩
  obtain ⟨bm, hbm⟩ : ∃ b, w9.heap.size = b := ⟨_, rfl⟩
  rw [← hw10] at fA fB fX fY fT fM oX oY oT oM tu ⊢
  rw [hbm] at fM noM ⊢
  have ew10 : w10.heap.size = bm + 1 := by rw [hw10, ← hbm]; simp
  have qbm : w8.heap.size ≤ bm := by omega
  have Ew10 := Lib.hid ew10
  have NoM := Lib.hid noM
  clear hw10 hbm hB ew10 noM loM
  refine hp_start (fun w' => Below w10.heap.size w10 w') 6 rfl (by kernel_rfl) (fun c a a' w hd h => ⟨hd ▸ h.1, h.2⟩) (fun hP => ?_)
  rw [show Array.replicate 6 false = #[false, false, false, false, false, false] from rfl]
  have T0 : Below w10.heap.size w10 w10.drew := (Below.refl _ _).drew
  refine hp_load_at hP 0 (some 37) rfl rfl (by kernel_rfl) rfl 39 _ rfl (bt) 0 rfl #[.int .i64 (wrap64 (c1 + 1)), .slice aT ps.length kT] _ (fun w' hS' j hj => by rw [Nat.zero_add, Below.cell hS' (Blk.lt fT), Blk.cell fT]) Try.underlying39 rfl info39 T0 ?_
  simp only [Act.put, List.setIfInBounds_toArray, List.set_cons_zero, List.set_cons_succ]
  refine hp_load_at hP 1 (some 38) rfl rfl (by kernel_rfl) rfl 39 _ rfl (w.heap.size) 0 rfl #[.int .i64 c1, v1] _ (fun w' hS' j hj => by rw [Nat.zero_add, Below.cell hS' (Blk.lt fA), Blk.cell fA]) Try.underlying39 rfl info39 T0 ?_
  simp only [Act.put, List.setIfInBounds_toArray, List.set_cons_zero, List.set_cons_succ]
  refine hp_take hP 2 (some 39) _ rfl rfl (by kernel_rfl) rfl (fun w' hS' => by go_simp; rfl) T0 ?_
  simp only [Act.put, List.setIfInBounds_toArray, List.set_cons_zero, List.set_cons_succ]
  have hB : Below w10.heap.size w10 w10.drew := T0
  have fA := Blk.below fA hB (Blk.lt fA)
  have fB := Blk.below fB hB (Blk.lt fB)
  have fX := Blk.below fX hB (Blk.lt fX)
  have fY := Blk.below fY hB (Blk.lt fY)
  have fT := Blk.below fT hB (Blk.lt fT)
  have fM := Blk.below fM hB (Blk.lt fM)
  have oX := owns_below oX hB (Nat.le_refl _)
  have oY := owns_below oY hB (Nat.le_refl _)
  have oT := owns_below oT hB (Nat.le_refl _)
  have oM := owns_below oM hB (Nat.le_refl _)
  have tu := Below.call tu hB
  clear hB
  refine hp_call 3 (some 40) rfl rfl (by kernel_rfl) rfl 30 #[.agg #[.int .i64 c1, v1], vm] (by go_simp; try rfl) ((take30 ps ms c1 v1 vm (w10.drew) (Row.mono H1.out.1 tu tu.size) (RowI.mono HM.out tu tu.size) hb1 HMS.out).mono ?_)
  rintro e w11 ⟨vw11, rfl, oD, hB⟩
  have T1 := Below.call T0 hB
  refine ⟨_, rfl, T1, ?_⟩
  simp only [Act.put, List.setIfInBounds_toArray, List.set_cons_zero, List.set_cons_succ]
  have fA := Blk.below fA hB (Blk.lt fA)
  have fB := Blk.below fB hB (Blk.lt fB)
  have fX := Blk.below fX hB (Blk.lt fX)
  have fY := Blk.below fY hB (Blk.lt fY)
  have fT := Blk.below fT hB (Blk.lt fT)
  have fM := Blk.below fM hB (Blk.lt fM)
  have oX := owns_below oX hB (Nat.le_refl _)
  have oY := owns_below oY hB (Nat.le_refl _)
  have oT := owns_below oT hB (Nat.le_refl _)
  have oM := owns_below oM hB (Nat.le_refl _)
  have tu := Below.call tu hB
  clear hB
  have rw1 : RowP w11.heap.size w11 (.slice aT ps.length kT) (takeL ps ms) := by unfold RowP; rw [takeL_len]; exact Row.of_owns oT
  have rw2 : RowP w11.heap.size w11 vw11 (takeL ps ms) := by unfold RowP; rw [takeL_len]; exact Row.of_owns oD
  refine hp_call 4 (some 41) rfl rfl (by kernel_rfl) rfl 22 #[.agg #[.int .i64 (wrap64 (c1 + 1)), .slice aT ps.length kT], .agg #[.int .i64 (wrap64 (c1 + 1)), vw11]] (by go_simp; try rfl) ((same22 _ _ _ _ w11 rw1 rw2).mono ?_)
  rintro e w12 ⟨rfl, hB⟩
  have T2 := Below.call T1 hB
  refine ⟨_, rfl, T2, ?_⟩
  simp only [Act.put, List.setIfInBounds_toArray, List.set_cons_zero, List.set_cons_succ]
  have fA := Blk.below fA hB (Blk.lt fA)
  have fB := Blk.below fB hB (Blk.lt fB)
  have fX := Blk.below fX hB (Blk.lt fX)
  have fY := Blk.below fY hB (Blk.lt fY)
  have fT := Blk.below fT hB (Blk.lt fT)
  have fM := Blk.below fM hB (Blk.lt fM)
  have oX := owns_below oX hB (Nat.le_refl _)
  have oY := owns_below oY hB (Nat.le_refl _)
  have oT := owns_below oT hB (Nat.le_refl _)
  have oM := owns_below oM hB (Nat.le_refl _)
  have tu := Below.call tu hB
  clear hB oD rw1 rw2
  refine hp_take hP 5 (some 14) _ rfl rfl (by kernel_rfl) rfl (fun w' hS' => by go_simp; rfl) T2 ?_
  simp only [Act.put, List.setIfInBounds_toArray, List.set_cons_zero, List.set_cons_succ]
  refine hk_done (by kernel_rfl) ?_
  clear T0 T1 T2 hP
  go_upto_region 7 with fail
  refine hp_start (fun w' => Below w12.heap.size w12 w') 6 rfl (by kernel_rfl) (fun c a a' w hd h => ⟨hd ▸ h.1, h.2⟩) (fun hP => ?_)
  rw [show Array.replicate 6 false = #[false, false, false, false, false, false] from rfl]
  have T0 : Below w12.heap.size w12 w12.drew := (Below.refl _ _).drew
  refine hp_load_at hP 0 (some 42) rfl rfl (by kernel_rfl) rfl 39 _ rfl (bm) 0 rfl #[.int .i64 (wrap64 (c1 + c2)), .slice aM (longL ps qs).length kM] _ (fun w' hS' j hj => by rw [Nat.zero_add, Below.cell hS' (Blk.lt fM), Blk.cell fM]) Try.underlying39 rfl info39 T0 ?_
  simp only [Act.put, List.setIfInBounds_toArray, List.set_cons_zero, List.set_cons_succ]
  refine hp_load_at hP 1 (some 43) rfl rfl (by kernel_rfl) rfl 39 _ rfl (w.heap.size) 0 rfl #[.int .i64 c1, v1] _ (fun w' hS' j hj => by rw [Nat.zero_add, Below.cell hS' (Blk.lt fA), Blk.cell fA]) Try.underlying39 rfl info39 T0 ?_
  simp only [Act.put, List.setIfInBounds_toArray, List.set_cons_zero, List.set_cons_succ]
  refine hp_load_at hP 2 (some 44) rfl rfl (by kernel_rfl) rfl 39 _ rfl (w.heap.size + 1) 0 rfl #[.int .i64 c2, v2] _ (fun w' hS' j hj => by rw [Nat.zero_add, Below.cell hS' (Blk.lt fB), Blk.cell fB]) Try.underlying39 rfl info39 T0 ?_
  simp only [Act.put, List.setIfInBounds_toArray, List.set_cons_zero, List.set_cons_succ]
  have hB : Below w12.heap.size w12 w12.drew := T0
  have fA := Blk.below fA hB (Blk.lt fA)
  have fB := Blk.below fB hB (Blk.lt fB)
  have fX := Blk.below fX hB (Blk.lt fX)
  have fY := Blk.below fY hB (Blk.lt fY)
  have fT := Blk.below fT hB (Blk.lt fT)
  have fM := Blk.below fM hB (Blk.lt fM)
  have oX := owns_below oX hB (Nat.le_refl _)
  have oY := owns_below oY hB (Nat.le_refl _)
  have oT := owns_below oT hB (Nat.le_refl _)
  have oM := owns_below oM hB (Nat.le_refl _)
  have tu := Below.call tu hB
  clear hB
  refine hp_call 3 (some 45) rfl rfl (by kernel_rfl) rfl 31 #[.agg #[.int .i64 c1, v1], .agg #[.int .i64 c2, v2]] (by go_simp; try rfl) ((merge31 ps qs c1 c2 v1 v2 (w12.drew) (Row.mono H1.out.1 tu tu.size) (Row.mono H2.out.1 tu tu.size) hb1 hb2).mono ?_)
  rintro e w13 ⟨vw13, rfl, oD, hB⟩
  have T1 := Below.call T0 hB
  refine ⟨_, rfl, T1, ?_⟩
  simp only [Act.put, List.setIfInBounds_toArray, List.set_cons_zero, List.set_cons_succ]
  have fA := Blk.below fA hB (Blk.lt fA)
  have fB := Blk.below fB hB (Blk.lt fB)
  have fX := Blk.below fX hB (Blk.lt fX)
  have fY := Blk.below fY hB (Blk.lt fY)
  have fT := Blk.below fT hB (Blk.lt fT)
  have fM := Blk.below fM hB (Blk.lt fM)
  have oX := owns_below oX hB (Nat.le_refl _)
  have oY := owns_below oY hB (Nat.le_refl _)
  have oT := owns_below oT hB (Nat.le_refl _)
  have oM := owns_below oM hB (Nat.le_refl _)
  have tu := Below.call tu hB
  clear hB
  have rw1 : RowP w13.heap.size w13 (.slice aM (longL ps qs).length kM) (mergeL ps qs) := by unfold RowP; rw [mergeL_len]; exact Row.of_owns oM
  have rw2 : RowP w13.heap.size w13 vw13 (mergeL ps qs) := by unfold RowP; rw [mergeL_len]; exact Row.of_owns oD
  refine hp_call 4 (some 46) rfl rfl (by kernel_rfl) rfl 22 #[.agg #[.int .i64 (wrap64 (c1 + c2)), .slice aM (longL ps qs).length kM], .agg #[.int .i64 (wrap64 (c1 + c2)), vw13]] (by go_simp; try rfl) ((same22 _ _ _ _ w13 rw1 rw2).mono ?_)
  rintro e w14 ⟨rfl, hB⟩
  have T2 := Below.call T1 hB
  refine ⟨_, rfl, T2, ?_⟩
  simp only [Act.put, List.setIfInBounds_toArray, List.set_cons_zero, List.set_cons_succ]
  have fA := Blk.below fA hB (Blk.lt fA)
  have fB := Blk.below fB hB (Blk.lt fB)
  have fX := Blk.below fX hB (Blk.lt fX)
  have fY := Blk.below fY hB (Blk.lt fY)
  have fT := Blk.below fT hB (Blk.lt fT)
  have fM := Blk.below fM hB (Blk.lt fM)
  have oX := owns_below oX hB (Nat.le_refl _)
  have oY := owns_below oY hB (Nat.le_refl _)
  have oT := owns_below oT hB (Nat.le_refl _)
  have oM := owns_below oM hB (Nat.le_refl _)
  have tu := Below.call tu hB
  clear hB oD rw1 rw2
  refine hp_take hP 5 (some 15) _ rfl rfl (by kernel_rfl) rfl (fun w' hS' => by go_simp; rfl) T2 ?_
  simp only [Act.put, List.setIfInBounds_toArray, List.set_cons_zero, List.set_cons_succ]
  refine hk_done (by kernel_rfl) ?_
  clear T0 T1 T2 hP
  go_upto_region 8 with fail
  have hord : w.heap.size + 1 < gw3 ∧ gw3 < bx ∧ bx < gw5 ∧ gw5 < by_ ∧ by_ < bt ∧ bt < bm := by
    have e1 := Ew4.out
    have e2 := Ew6.out
    have e3 := Ew8.out
    have e4 := Ew10.out
    omega
  have nT : ∀ g, (Value.slice aT ps.length kT).ownBlock = some g → by_ < g ∧ g < bt := fun g hg => by
    have := NoT.out g hg
    have e2 := Ew6.out
    omega
  have nM : ∀ g, (Value.slice aM (longL ps qs).length kM).ownBlock = some g → bt < g ∧ g < bm := fun g hg => by
    have := NoM.out g hg
    have e2 := Ew8.out
    omega
  have HT := Lib.hid (owns_base oT (Nat.zero_le _))
  have HMR := Lib.hid (owns_base oM (Nat.zero_le _))
  have HX := Lib.hid (owns_base oX (Nat.zero_le _))
  have HY := Lib.hid (owns_base oY (Nat.zero_le _))
  have HF := Lib.hid (And.intro fA (And.intro fB (And.intro fX (And.intro fY (And.intro fT fM)))))
  have HTU := Lib.hid tu
  have NT := Lib.hid nT
  have NM := Lib.hid nM
  have HO := Lib.hid hord
  clear fA fB fX fY fT fM oT oM oX oY tu nT nM hord
  clear NoT NoM Ew4 Ew6 Ew8 Ew10 loX loY
  go_upto_region 9 with fail
  go_loopw [16] (fun i wr => ∃ k : Nat, k ≤ ps.length ∧ i = .int .i64 k ∧ OnlyV (.slice aT ps.length kT) w14 wr ∧ (0 < ps.length → ∃ (g : Nat) (cur : Array Value), aT = some ⟨g, 0, none⟩ ∧ Blk wr g 46 cur ∧ ps.length ≤ kT ∧ cur.size = kT * 5)) (fun i _ => ps.length - (intOf i).toNat)
  case atStart => exact ⟨0, by omega, rfl, OnlyV.refl _ _, own_cur HT.out⟩
  case round =>
    obtain ⟨k, hk, rfl, hO, hcur⟩ := hrel
    have ht : Blk wr bt 39 #[.int .i64 (wrap64 (c1 + 1)), .slice aT ps.length kT] := (HF.out.2.2.2.2.1).onlyV hO (fun e => by have := NT.out bt e.symm; have := HO.out; omega)
    have cT : wr.cell? ⟨bt, 1, none⟩ = some (.slice aT ps.length kT) := Blk.cell ht 1
    have HOV := Lib.hid hO
    have HCUR := Lib.hid hcur
    clear ht hO hcur
    by_cases hlt : k < ps.length
    · have d1 : decide ((k : Int) < ps.length) = true := by simp; omega
      have hI : (k : Int) < ps.length := by omega
      have hkb : k ≤ 9000000000000000 := by omega
      obtain ⟨g, cur, rfl, hb, hc1, hc2⟩ := HCUR.out (by omega)
      have HB := Lib.hid hb
      clear hb
      go_wp2_with (refine wpList_store_md rfl 46 _ _ rfl g (k * 5) #[.bool false, .int .i64 0, .int .u64 0, .int .i64 (-9), .int .i64 0] (by first | rfl | (go_simp; first | done | rfl) | (show Value.pointer _ = _; simp)) rfl 46 cur HB.out info46s (by rw [hc2]; simp; omega) (by simp [Value.oneCell']) (fun new hn => ?_))
      go_roundw
      case rel => exact ⟨k + 1, by omega, by go_num, HOV.out.row rfl _, fun _ => ⟨g, new, rfl, Blk.setRow HB.out, hc1, by rw [hn, hc2]⟩⟩
      case measure => simp [intOf]; omega
    · have d1 : decide ((k : Int) < ps.length) = false := by simp; omega
      have hk' : k = ps.length := by omega
      subst hk'
      obtain ⟨wt, hwt⟩ : ∃ wt : World, wt = wr := ⟨_, rfl⟩
      subst hwt
      have nTM : ∀ g, (Value.slice aM (longL ps qs).length kM).ownBlock = some g → some g ≠ (Value.slice aT ps.length kT).ownBlock := fun g hg e => by have h1 := NM.out g hg; have h2 := NT.out g e.symm; omega
      have HM2 := Lib.hid (owns_onlyV HMR.out HOV.out nTM)
      have HBM := Lib.hid (HF.out.2.2.2.2.2.onlyV HOV.out (fun e => by have := NT.out bm e.symm; have := HO.out; omega))
      clear nTM HCUR
      go_upto_region 13 with fail
      clear cT
      go_loopw [17] (fun i wr => ∃ k : Nat, k ≤ (longL ps qs).length ∧ i = .int .i64 k ∧ OnlyV (.slice aM (longL ps qs).length kM) wt wr ∧ (0 < (longL ps qs).length → ∃ (g : Nat) (cur : Array Value), aM = some ⟨g, 0, none⟩ ∧ Blk wr g 46 cur ∧ (longL ps qs).length ≤ kM ∧ cur.size = kM * 5)) (fun i _ => (longL ps qs).length - (intOf i).toNat)
      case atStart => exact ⟨0, by omega, rfl, OnlyV.refl _ _, own_cur HM2.out⟩
      case round =>
        obtain ⟨k, hk, rfl, hO, hcur⟩ := hrel
        have ht : Blk wr bm 39 #[.int .i64 (wrap64 (c1 + c2)), .slice aM (longL ps qs).length kM] := (HBM.out).onlyV hO (fun e => by have := NM.out bm e.symm; have := HO.out; omega)
        have cT : wr.cell? ⟨bm, 1, none⟩ = some (.slice aM (longL ps qs).length kM) := Blk.cell ht 1
        have HOW := Lib.hid hO
        have HCUW := Lib.hid hcur
        clear ht hO hcur
        by_cases hlt : k < (longL ps qs).length
        · have d1 : decide ((k : Int) < (longL ps qs).length) = true := by simp; omega
          have hI : (k : Int) < (longL ps qs).length := by omega
          have hkb : k ≤ 9000000000000000 := by rcases longL_or ps qs with e | e <;> rw [e] at hlt <;> omega
          obtain ⟨g, cur, rfl, hb, hc1, hc2⟩ := HCUW.out (by omega)
          have HB := Lib.hid hb
          clear hb
          go_wp2_with (refine wpList_store_md rfl 46 _ _ rfl g (k * 5) #[.bool false, .int .i64 0, .int .u64 0, .int .i64 (-9), .int .i64 0] (by first | rfl | (go_simp; first | done | rfl) | (show Value.pointer _ = _; simp)) rfl 46 cur HB.out info46s (by rw [hc2]; simp; omega) (by simp [Value.oneCell']) (fun new hn => ?_))
          go_roundw
          case rel => exact ⟨k + 1, by omega, by go_num, HOW.out.row rfl _, fun _ => ⟨g, new, rfl, Blk.setRow HB.out, hc1, by rw [hn, hc2]⟩⟩
          case measure => simp [intOf]; omega
        · have d1 : decide ((k : Int) < (longL ps qs).length) = false := by simp; omega
          have hk' : k = (longL ps qs).length := by omega
          subst hk'
          obtain ⟨wu, hwu⟩ : ∃ wu : World, wu = wr := ⟨_, rfl⟩
          subst hwu

          have fr : ∀ (b : Nat) (T : TypeId) (cs : Array Value), Blk w14 b T cs → (b < gw5 + 1 ∨ b = by_ ∨ b = bt ∨ b = bm) → b ≤ bm → Blk wu b T cs := fun b T cs h h1 h2 =>
            (h.onlyV HOV.out (fun e => by have := NT.out b e.symm; have := HO.out; omega)).onlyV HOW.out (fun e => by have := NM.out b e.symm; have := HO.out; omega)
          have fA := fr _ _ _ HF.out.1 (by have := HO.out; omega) (by have := HO.out; omega)
          have fB := fr _ _ _ HF.out.2.1 (by have := HO.out; omega) (by have := HO.out; omega)
          have fX := fr _ _ _ HF.out.2.2.1 (by have := HO.out; omega) (by have := HO.out; omega)
          have fY := fr _ _ _ HF.out.2.2.2.1 (by have := HO.out; omega) (by have := HO.out; omega)
          have oX := owns_onlyV (owns_onlyV HX.out HOV.out (fun g hg e => by have h1 := NT.out g e.symm; have hg2 : gw3 = g := Option.some.inj hg; have := HO.out; omega)) HOW.out (fun g hg e => by have h1 := NM.out g e.symm; have hg2 : gw3 = g := Option.some.inj hg; have := HO.out; omega)
          have oY := owns_onlyV (owns_onlyV HY.out HOV.out (fun g hg e => by have h1 := NT.out g e.symm; have hg2 : gw5 = g := Option.some.inj hg; have := HO.out; omega)) HOW.out (fun g hg e => by have h1 := NM.out g e.symm; have hg2 : gw5 = g := Option.some.inj hg; have := HO.out; omega)
          have tu : Below w.heap.size w wu := (HTU.out.trans (HOV.out.below (fun g hg => by have := NT.out g hg; have := HO.out; omega))).trans (HOW.out.below (fun g hg => by have := NM.out g hg; have := HO.out; omega))
          clear fr HCUW
          go_upto_region 17 with (first | (refine wpList_load_at rfl 39 _ rfl (bx) 0 rfl #[.int .i64 c1, .slice (some ⟨gw3, 0, none⟩) ps.length kw3] _ (fun j hj => by rw [Nat.zero_add]; exact Blk.cell fX j) Try.underlying39 rfl info39 ?_) | (refine wpList_load_at rfl 39 _ rfl (w.heap.size) 0 rfl #[.int .i64 c1, v1] _ (fun j hj => by rw [Nat.zero_add]; exact Blk.cell fA j) Try.underlying39 rfl info39 ?_) | (go_at_call 22; refine (same22 _ _ _ ps wu (copy_row oX) (Row.mono H1.out.1 tu tu.size)).mono ?_; rintro e wx ⟨rfl, hB⟩))
          clear cT
          have fA := Blk.below fA hB (Blk.lt fA)
          have fB := Blk.below fB hB (Blk.lt fB)
          have fX := Blk.below fX hB (Blk.lt fX)
          have fY := Blk.below fY hB (Blk.lt fY)
          have oX := owns_below oX hB (Nat.le_refl _)
          have oY := owns_below oY hB (Nat.le_refl _)
          have tu := Below.call tu hB
          clear hB
          go_upto_region 18 with (first | (refine wpList_load_at rfl 39 _ rfl (by_) 0 rfl #[.int .i64 c2, .slice (some ⟨gw5, 0, none⟩) qs.length kw5] _ (fun j hj => by rw [Nat.zero_add]; exact Blk.cell fY j) Try.underlying39 rfl info39 ?_) | (refine wpList_load_at rfl 39 _ rfl (w.heap.size + 1) 0 rfl #[.int .i64 c2, v2] _ (fun j hj => by rw [Nat.zero_add]; exact Blk.cell fB j) Try.underlying39 rfl info39 ?_) | (go_at_call 22; refine (same22 _ _ _ qs wx (copy_row oY) (Row.mono H2.out.1 tu tu.size)).mono ?_; rintro e wy ⟨rfl, hB⟩))
          have fA := Blk.below fA hB (Blk.lt fA)
          have fB := Blk.below fB hB (Blk.lt fB)
          have fX := Blk.below fX hB (Blk.lt fX)
          have fY := Blk.below fY hB (Blk.lt fY)
          have oX := owns_below oX hB (Nat.le_refl _)
          have oY := owns_below oY hB (Nat.le_refl _)
          have tu := Below.call tu hB
          clear hB
          have cX := copy_last oX
          have cY := copy_last oY
          have kX := copy_cap oX
          have kY := copy_cap oY
          have p1 : ((ps.length : Int) + 1 - 1) = ps.length := by omega
          have p2 : ((qs.length : Int) + 1 - 1) = qs.length := by omega
          have p3 : (ps.length : Int) < ps.length + 1 := by omega
          have p4 : (qs.length : Int) < qs.length + 1 := by omega
          have FIN := Lib.hid tu
          clear fA fB fX fY oX oY tu
          go_wp2_with fail
          go_ret
          exact ⟨by first | rfl | simp, FIN.out⟩
end Go.Proofs.Ytlhncphnhgbclaa
