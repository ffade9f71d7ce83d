/- CodecWrites' plain law: what is laid down is the reference's bytes, or the first error. -/
import Derived.Test.YtocanbdpdnkapaaT
namespace Go.Proofs.Ytocanbdpdnkapaa
open Go.RowKit
set_option linter.unusedVariables false
set_option linter.unusedSimpArgs false

/-- two writers are alike -/
structure Sim (x y : WrS) : Prop where
  e : x.e = y.e
  l : x.e = 0 → x.l = y.l
theorem Sim.refl (x : WrS) : Sim x x := ⟨rfl, fun _ => rfl⟩
theorem Sim.trans {x y z : WrS} (h : Sim x y) (h2 : Sim y z) : Sim x z := ⟨h.e.trans h2.e, fun hx => (h.l hx).trans (h2.l (h.e ▸ hx))⟩
theorem lay_err {x : WrS} (h : x.e ≠ 0) (s : ByteArray) : layW x s = x := if_pos h
theorem fail_err {x : WrS} (h : x.e ≠ 0) (e : Int) : failW x e = x := if_pos h
theorem lay_big {x : WrS} {s : ByteArray} (h : x.e = 0) (hs : 65536 < x.l.length + s.size) : layW x s = ⟨x.l, 23⟩ := by unfold layW; rw [if_neg (by simp [h]), if_pos hs]
theorem lay_fit {x : WrS} {s : ByteArray} (h : x.e = 0) (hs : ¬ 65536 < x.l.length + s.size) : layW x s = ⟨x.l ++ s.data.toList, 0⟩ := by unfold layW; rw [if_neg (by simp [h]), if_neg hs]
theorem size_toList (s : ByteArray) : s.data.toList.length = s.size := by rw [Array.length_toList]; rfl
theorem toList_append (a b : ByteArray) : (a ++ b).data.toList = a.data.toList ++ b.data.toList := by simp
theorem Sim.lay {x y : WrS} (h : Sim x y) (s : ByteArray) : Sim (layW x s) (layW y s) := by
  by_cases hx : x.e = 0
  · have hy : y.e = 0 := h.e ▸ hx
    have hl := h.l hx
    by_cases hb : 65536 < x.l.length + s.size
    · rw [lay_big hx hb, lay_big hy (by rw [← hl]; exact hb)]
      exact ⟨rfl, fun h => by cases h⟩
    · rw [lay_fit hx hb, lay_fit hy (by rw [← hl]; exact hb), hl]
      exact Sim.refl _
  · rw [lay_err hx, lay_err (fun hy => hx (h.e.trans hy))]
    exact h
theorem Sim.fail {x y : WrS} (h : Sim x y) (e : Int) : Sim (failW x e) (failW y e) := by
  by_cases hx : x.e = 0
  · have hy : y.e = 0 := h.e ▸ hx
    unfold failW
    rw [if_neg (by simp [hx]), if_neg (by simp [hy]), h.l hx]
    exact Sim.refl _
  · rw [fail_err hx, fail_err (fun hy => hx (h.e.trans hy))]
    exact h
theorem lay_two (x : WrS) (a b : ByteArray) : Sim (layW (layW x a) b) (layW x (a ++ b)) := by
  by_cases hx : x.e = 0
  · have hsz : (a ++ b).size = a.size + b.size := ByteArray.size_append
    by_cases ha : 65536 < x.l.length + a.size
    · rw [lay_big hx ha, lay_err (by simp), lay_big hx (by omega)]
      exact Sim.refl _
    · rw [lay_fit hx ha]
      by_cases hb : 65536 < x.l.length + a.size + b.size
      · rw [lay_big rfl (by rw [List.length_append, size_toList]; exact hb), lay_big hx (by omega)]
        exact ⟨rfl, fun h => by cases h⟩
      · rw [lay_fit rfl (by rw [List.length_append, size_toList]; exact hb), lay_fit hx (by omega), toList_append]
        exact ⟨rfl, fun _ => List.append_assoc _ _ _⟩
  · rw [lay_err hx, lay_err hx, lay_err hx]
    exact Sim.refl _

theorem count_lay (x : WrS) {n : Nat} (h : n ≤ 4294967295) : countW x n = layW x (leS n 4) := by
  unfold countW
  rw [if_neg (by omega), Int.toNat_natCast]
theorem text_sim {x y : WrS} (h : Sim x y) {s : ByteArray} (hs : s.size ≤ Small) : Sim (textW x s) (layW y (textB s)) := by
  unfold Small at hs
  unfold textW textB
  rw [count_lay x (by omega)]
  exact ((h.lay _).lay _).trans (lay_two _ _ _)
theorem fold_sim {α : Type} (f : WrS → α → WrS) (g : α → ByteArray) (l : List α) (hf : ∀ x y a, a ∈ l → Sim x y → Sim (f x a) (layW y (g a))) (x' x : WrS) (a0 : ByteArray) (h : Sim x' (layW x a0)) :
    Sim (l.foldl f x') (layW x (l.foldl (fun a y => a ++ g y) a0)) := by
  induction l generalizing x' a0 with
  | nil => exact h
  | cons c l ih => exact ih (fun x y a ha => hf x y a (List.mem_cons_of_mem _ ha)) _ _ ((hf _ _ c (List.mem_cons_self) h).trans (lay_two _ _ _))
theorem texts_sim {x y : WrS} (h : Sim x y) {l : List ByteArray} (hl : ∀ s ∈ l, s.size ≤ Small) (hn : l.length ≤ Small) : Sim (textsW x l) (layW y (textsB l)) := by
  unfold Small at hn
  unfold textsW textsB
  rw [count_lay x (by omega)]
  exact fold_sim textW textB l (fun x y s hs h => text_sim h (hl s hs)) _ _ _ (h.lay _)
theorem fact_sim {x y : WrS} (h : Sim x y) {f : FactT} (hf : okF f) : Sim (factW x f) (layW y (factB f)) := by
  have hm := hf.m
  unfold Small at hm
  unfold factW intsW factB
  rw [count_lay _ (by omega)]
  exact fold_sim intW (fun n => leS (u64 n) 8) f.meas (fun x y n _ h => h.lay _) _ _ _ (((texts_sim h hf.t hf.d).lay _).trans (lay_two _ _ _))
theorem cell_sim {x y : WrS} (h : Sim x y) {c : CellT} {b : ByteArray} (hs : c.t.size ≤ Small) (hc : cellB c = some b) : Sim (cellW x c) (layW y b) := by
  unfold cellB at hc
  unfold cellW
  by_cases h0 : c.k = 0 ∧ c.n = 0 ∧ c.t.size = 0
  · rw [if_pos h0] at hc ⊢; cases hc; exact h.lay _
  · rw [if_neg h0] at hc ⊢
    by_cases h1 : c.k = 1 ∧ c.t.size = 0
    · rw [if_pos h1] at hc ⊢; cases hc; exact ((h.lay _).lay _).trans (lay_two _ _ _)
    · rw [if_neg h1] at hc ⊢
      by_cases h2 : c.k = 2 ∧ c.n = 0
      · rw [if_pos h2] at hc ⊢; cases hc; exact (text_sim (h.lay _) hs).trans (lay_two _ _ _)
      · rw [if_neg h2] at hc; cases hc
theorem cell_none {x : WrS} {c : CellT} (hc : cellB c = none) : cellW x c = failW x 1 := by
  unfold cellB at hc
  unfold cellW
  by_cases h0 : c.k = 0 ∧ c.n = 0 ∧ c.t.size = 0
  · rw [if_pos h0] at hc; cases hc
  · rw [if_neg h0] at hc ⊢
    by_cases h1 : c.k = 1 ∧ c.t.size = 0
    · rw [if_pos h1] at hc; cases hc
    · rw [if_neg h1] at hc ⊢
      by_cases h2 : c.k = 2 ∧ c.n = 0
      · rw [if_pos h2] at hc; cases hc
      · rw [if_neg h2]
theorem cells_sim (l : List CellT) (hl : ∀ c ∈ l, c.t.size ≤ Small) (x' x : WrS) (a b : ByteArray) (h : Sim x' (layW x a)) (hg : cellsGo a l = some b) : Sim (l.foldl cellW x') (layW x b) := by
  induction l generalizing x' a with
  | nil => cases hg; exact h
  | cons c l ih =>
    unfold cellsGo at hg
    cases hc : cellB c with
    | none => rw [hc] at hg; cases hg
    | some d =>
      rw [hc] at hg
      exact ih (fun c h => hl c (List.mem_cons_of_mem _ h)) _ _ ((cell_sim h (hl c List.mem_cons_self) hc).trans (lay_two _ _ _)) hg
/-- nothing is laid behind an error -/
theorem foldl_err {α : Type} (f : WrS → α → WrS) (hf : ∀ x a, x.e ≠ 0 → f x a = x) (l : List α) (x : WrS) (h : x.e ≠ 0) : l.foldl f x = x := by
  induction l with
  | nil => rfl
  | cons a l ih => rw [List.foldl_cons, hf x a h]; exact ih
theorem count_err {x : WrS} (h : x.e ≠ 0) (n : Int) : countW x n = x := by
  unfold countW
  split
  · exact fail_err h _
  · exact lay_err h _
theorem text_err {x : WrS} (h : x.e ≠ 0) (s : ByteArray) : textW x s = x := by unfold textW; rw [count_err h, lay_err h]
theorem int_err {x : WrS} (h : x.e ≠ 0) (n : Int) : intW x n = x := lay_err h _
theorem texts_err {x : WrS} (h : x.e ≠ 0) (l : List ByteArray) : textsW x l = x := by
  unfold textsW; rw [count_err h]; exact foldl_err textW (fun x a h => text_err h a) l x h
theorem cell_err {x : WrS} (h : x.e ≠ 0) (c : CellT) : cellW x c = x := by
  unfold cellW
  split
  · exact lay_err h _
  · split
    · rw [lay_err h]; exact int_err h _
    · split
      · rw [lay_err h]; exact text_err h _
      · exact fail_err h _
theorem cells_err {x : WrS} (h : x.e ≠ 0) (l : List CellT) : cellsW x l = x := by
  unfold cellsW; rw [count_err h]; exact foldl_err cellW (fun x a h => cell_err h a) l x h
theorem fact_err {x : WrS} (h : x.e ≠ 0) (f : FactT) : factW x f = x := by
  unfold factW intsW; rw [texts_err h, count_err h]; exact foldl_err intW (fun x a h => int_err h a) _ x h
theorem facts_err {x : WrS} (h : x.e ≠ 0) (l : List FactT) : factsW x l = x := by
  unfold factsW; rw [count_err h]; exact foldl_err factW (fun x a h => fact_err h a) l x h
theorem layT_err {x : WrS} (h : x.e ≠ 0) (t : ThingT) : layT x t = x := by
  unfold layT
  repeat' split
  · exact lay_err h _
  · exact int_err h _
  · exact count_err h _
  · exact text_err h _
  · exact texts_err h _
  · exact cell_err h _
  · exact cells_err h _
  · exact fact_err h _
  · exact facts_err h _
  · unfold schemaW; rw [texts_err h]; exact texts_err h _
theorem byte_num (n : Int) : byteS (u8 n) = leS (u64 n) 1 := by
  unfold byteS leS leB
  simp
  unfold u8 u64
  apply UInt8.toNat_inj.1
  rw [UInt8.toNat_ofNat', UInt8.toNat_ofNat']
  omega
theorem headD_mem {α : Type} {P : α → Prop} {l : List α} {d : α} (hl : ∀ x ∈ l, P x) (hd : P d) : P (l.headD d) := by
  cases l with
  | nil => exact hd
  | cons a l => exact hl a (by simp)
theorem layT_some {x : WrS} {t : ThingT} (hu : okU t) {b : ByteArray} (hb : bytesT t = some b) : Sim (layT x t) (layW x b) := by
  have hn2 := hu.c.2
  have hn3 := hu.f.2
  unfold Small at hn2 hn3
  unfold bytesT at hb
  unfold layT
  by_cases h0 : t.k = 0
  · rw [if_pos h0] at hb ⊢; cases hb; rw [byte_num]; exact Sim.refl _
  rw [if_neg h0] at hb ⊢
  by_cases h1 : t.k = 1
  · rw [if_pos h1] at hb ⊢; cases hb; exact Sim.refl _
  rw [if_neg h1] at hb ⊢
  by_cases h2 : t.k = 2
  · rw [if_pos h2] at hb ⊢
    split at hb
    · cases hb
    · rename_i hr
      cases hb
      obtain ⟨m, hm⟩ : ∃ m : Nat, t.n = m := ⟨t.n.toNat, by omega⟩
      have e : u64 t.n = m := by unfold u64; omega
      rw [e, hm, count_lay x (by omega)]
      exact Sim.refl _
  rw [if_neg h2] at hb ⊢
  by_cases h3 : t.k = 3
  · rw [if_pos h3] at hb ⊢; cases hb; exact text_sim (Sim.refl x) hu.s
  rw [if_neg h3] at hb ⊢
  by_cases h4 : t.k = 4
  · rw [if_pos h4] at hb ⊢; cases hb; exact texts_sim (Sim.refl x) hu.l.1 hu.l.2
  rw [if_neg h4] at hb ⊢
  by_cases h5 : t.k = 5
  · rw [if_pos h5] at hb ⊢; exact cell_sim (Sim.refl x) (headD_mem (P := fun c : CellT => c.t.size ≤ Small) hu.c.1 (Nat.zero_le _)) hb
  rw [if_neg h5] at hb ⊢
  by_cases h6 : t.k = 6
  · rw [if_pos h6] at hb ⊢
    unfold cellsW
    rw [count_lay x (by omega)]
    exact cells_sim _ hu.c.1 _ _ _ _ (Sim.refl _) hb
  rw [if_neg h6] at hb ⊢
  by_cases h7 : t.k = 7
  · rw [if_pos h7] at hb ⊢; cases hb; exact fact_sim (Sim.refl x) (headD_mem (P := okF) hu.f.1 okF0)
  rw [if_neg h7] at hb ⊢
  by_cases h8 : t.k = 8
  · rw [if_pos h8] at hb ⊢; cases hb
    unfold factsW factsB
    rw [count_lay x (by omega)]
    exact fold_sim factW factB _ (fun x y f hf h => fact_sim h (hu.f.1 f hf)) _ _ _ (Sim.refl _)
  rw [if_neg h8] at hb ⊢
  cases hb
  exact (texts_sim (texts_sim (Sim.refl x) hu.l.1 hu.l.2) hu.m.1 hu.m.2).trans (lay_two _ _ _)
theorem cells_none (l : List CellT) (hl : ∀ c ∈ l, c.t.size ≤ Small) (y : WrS) (a : ByteArray) (n : Nat) (hy : (y.e = 0 ∧ n = y.l.length ∧ n ≤ 65536) ∨ (y.e = 23 ∧ 65536 < n)) (hg : cellsGo a l = none) : (l.foldl cellW y).e = spGo n l := by
  induction l generalizing y a n with
  | nil => cases hg
  | cons c l ih =>
    rw [List.foldl_cons]
    unfold cellsGo at hg
    unfold spGo
    rcases hy with ⟨he, hn, hle⟩ | ⟨he, hn⟩
    · rw [if_neg (by omega)]
      cases hc : cellB c with
      | none =>
        rw [cell_none hc]
        have e1 : (failW y 1).e = 1 := by unfold failW; rw [if_neg (by simp [he])]
        rw [foldl_err cellW (fun x a h => cell_err h a) l _ (by rw [e1]; decide)]
        exact e1
      | some b =>
        rw [hc] at hg
        have hs := cell_sim (Sim.refl y) (hl c List.mem_cons_self) hc
        refine ih (fun c h => hl c (List.mem_cons_of_mem _ h)) _ _ _ ?_ hg
        by_cases hb : 65536 < y.l.length + b.size
        · rw [lay_big he hb] at hs
          exact .inr ⟨hs.e, by omega⟩
        · rw [lay_fit he hb] at hs
          exact .inl ⟨hs.e, by rw [hs.l hs.e]; show _ = (y.l ++ b.data.toList).length; rw [List.length_append, size_toList]; omega, by omega⟩
    · rw [if_pos hn, cell_err (by rw [he]; decide), foldl_err cellW (fun x a h => cell_err h a) l _ (by rw [he]; decide)]
      exact he
theorem spGo_ne (n : Nat) (l : List CellT) : spGo n l ≠ 0 := by
  induction l generalizing n with
  | nil => show (1 : Int) ≠ 0; decide
  | cons c l ih =>
    unfold spGo
    split
    · decide
    · split
      · decide
      · exact ih _
theorem spoilt_ne (n : Nat) (t : ThingT) : spoiltT n t ≠ 0 := by
  unfold spoiltT
  split
  · exact spGo_ne _ _
  · decide
theorem layT_none {x : WrS} {t : ThingT} (hu : okU t) (hx : x.e = 0) (hl : x.l.length ≤ 65536) (hb : bytesT t = none) : (layT x t).e = spoiltT x.l.length t := by
  have hn2 := hu.c.2
  unfold Small at hn2
  have ef : (failW x 1).e = 1 := by unfold failW; rw [if_neg (by simp [hx])]
  unfold bytesT at hb
  unfold layT spoiltT
  by_cases h0 : t.k = 0
  · rw [if_pos h0] at hb; cases hb
  rw [if_neg h0] at hb ⊢
  by_cases h1 : t.k = 1
  · rw [if_pos h1] at hb; cases hb
  rw [if_neg h1] at hb ⊢
  by_cases h2 : t.k = 2
  · rw [if_pos h2] at hb ⊢
    split at hb
    · rename_i hr
      rw [if_neg (by omega)]
      unfold countW
      rw [if_pos hr]
      exact ef
    · cases hb
  rw [if_neg h2] at hb ⊢
  by_cases h3 : t.k = 3
  · rw [if_pos h3] at hb; cases hb
  rw [if_neg h3] at hb ⊢
  by_cases h4 : t.k = 4
  · rw [if_pos h4] at hb; cases hb
  rw [if_neg h4] at hb ⊢
  by_cases h5 : t.k = 5
  · rw [if_pos h5] at hb ⊢; rw [if_neg (by omega), cell_none hb]; exact ef
  rw [if_neg h5] at hb ⊢
  by_cases h6 : t.k = 6
  · rw [if_pos h6] at hb ⊢
    rw [if_pos h6]
    unfold cellsW
    rw [count_lay x (by omega)]
    refine cells_none _ hu.c.1 _ _ _ ?_ hb
    by_cases hb : 65536 < x.l.length + (leS t.cells.length 4).size
    · rw [lay_big hx hb]
      rw [leS_size] at hb
      exact .inr ⟨rfl, hb⟩
    · rw [lay_fit hx hb]
      rw [leS_size] at hb
      exact .inl ⟨rfl, by show _ = (x.l ++ _).length; rw [List.length_append, size_toList, leS_size], by omega⟩
  rw [if_neg h6] at hb ⊢
  by_cases h7 : t.k = 7
  · rw [if_pos h7] at hb; cases hb
  rw [if_neg h7] at hb ⊢
  by_cases h8 : t.k = 8
  · rw [if_pos h8] at hb; cases hb
  rw [if_neg h8] at hb
  cases hb
theorem cellsGo_size {l : List CellT} (hl : ∀ c ∈ l, c.t.size ≤ Small) {a b : ByteArray} (h : cellsGo a l = some b) : b.size ≤ a.size + l.length * 1048600 := by
  induction l generalizing a with
  | nil => cases h; omega
  | cons c l ih =>
    unfold cellsGo at h
    cases hc : cellB c with
    | none => rw [hc] at h; cases h
    | some d =>
      rw [hc] at h
      have := ih (fun c h => hl c (List.mem_cons_of_mem _ h)) h
      have h2 := cellB_size (hl c List.mem_cons_self) hc
      rw [ByteArray.size_append] at this
      rw [List.length_cons, Nat.add_mul]
      omega
theorem bytesT_size {t : ThingT} (hu : okU t) {b : ByteArray} (h : bytesT t = some b) : b.size ≤ 4611686018427387904 := by
  obtain ⟨h1, ⟨h2, h3⟩, ⟨h4, h5⟩, ⟨h6, h7⟩, ⟨h8, h9⟩⟩ := hu
  have z1 := textsB_size t.l h2
  have z2 := textsB_size t.meas h8
  have z3 := foldl_size factB 1099524210696 t.facts (leS t.facts.length 4) (fun f hf => factB_size (h6 f hf))
  have z4 := factB_size (headD_mem (P := okF) h6 okF0)
  rw [leS_size] at z3
  unfold Small at *
  have y1 : t.l.length * 1048580 ≤ 1048576 * 1048580 := Nat.mul_le_mul_right _ h3
  have y2 : t.meas.length * 1048580 ≤ 1048576 * 1048580 := Nat.mul_le_mul_right _ h9
  have y3 : t.facts.length * 1099524210696 ≤ 1048576 * 1099524210696 := Nat.mul_le_mul_right _ h7
  have y4 : t.cells.length * 1048600 ≤ 1048576 * 1048600 := Nat.mul_le_mul_right _ h5
  unfold bytesT at h
  repeat' split at h
  · cases h; rw [leS_size]; omega
  · cases h; rw [leS_size]; omega
  · cases h
  · cases h; rw [leS_size]; omega
  · cases h; rw [textB_size]; omega
  · cases h; omega
  · have := cellB_size (headD_mem (P := fun c : CellT => c.t.size ≤ Small) h4 (Nat.zero_le _)) h; omega
  · have := cellsGo_size h4 h; rw [leS_size] at this; omega
  · cases h; omega
  · cases h; unfold factsB; omega
  · cases h; rw [ByteArray.size_append]; omega
/-- the reference's text and error -/
structure WantS where
  s : ByteArray
  e : Int
def stepS (x : WantS) (t : ThingT) : WantS :=
  if x.e ≠ 0 then x else match bytesT t with
  | none => ⟨x.s, spoiltT x.s.size t⟩
  | some b => ⟨x.s ++ b, if 65536 < (x.s ++ b).size then 23 else 0⟩
structure RelS (x : WrS) (y : WantS) : Prop where
  e : x.e = y.e
  l : y.e = 0 → y.s.data.toList = x.l ∧ y.s.size ≤ 65536
theorem RelS.step {x : WrS} {y : WantS} (h : RelS x y) {t : ThingT} (hu : okU t) : RelS (layT x t) (stepS y t) := by
  unfold stepS
  by_cases hy : y.e = 0
  · rw [if_neg (by simp [hy])]
    have hx : x.e = 0 := h.e.trans hy
    obtain ⟨hl, hz⟩ := h.l hy
    have hlen : y.s.size = x.l.length := by rw [← hl, size_toList]
    cases hb : bytesT t with
    | none => exact ⟨by rw [layT_none hu hx (by omega) hb, hlen], fun h => absurd h (spoilt_ne _ _)⟩
    | some b =>
      have hs := layT_some (x := x) hu hb
      have hsz : (y.s ++ b).size = y.s.size + b.size := ByteArray.size_append
      show RelS _ ⟨y.s ++ b, if 65536 < (y.s ++ b).size then 23 else 0⟩
      by_cases hbig : 65536 < x.l.length + b.size
      · rw [lay_big hx hbig] at hs
        rw [if_pos (by omega)]
        exact ⟨hs.e, fun h => by cases h⟩
      · rw [lay_fit hx hbig] at hs
        rw [if_neg (by omega)]
        exact ⟨hs.e, fun _ => ⟨by rw [hs.l hs.e]; show (y.s ++ b).data.toList = x.l ++ b.data.toList; rw [toList_append, hl], by show (y.s ++ b).size ≤ 65536; omega⟩⟩
  · rw [if_pos hy, layT_err (fun hx => hy (h.e.symm.trans hx))]
    exact h
end Go.Proofs.Ytocanbdpdnkapaa
