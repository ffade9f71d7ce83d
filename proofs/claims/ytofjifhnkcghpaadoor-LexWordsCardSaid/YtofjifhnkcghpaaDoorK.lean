/- Quotes; a word as it stands in a text; words read. -/
import Derived.Test.YtofjifhnkcghpaaDoorJ
namespace Go.Proofs.YtofjifhnkcghpaaDoor
open Go.RowKit
set_option linter.unusedVariables false
set_option linter.unusedSimpArgs false
set_option maxRecDepth 100000
theorem index39_hit (r : List UInt8) : Lib.index (39 :: r) [39] = 0 := by simp [Lib.index, List.isPrefixOf]
theorem index39_skip {c : UInt8} (r : List UInt8) (h : c ≠ 39) : Lib.index (c :: r) [39] = if Lib.index r [39] == -1 then -1 else Lib.index r [39] + 1 := by
  have : ((39 : UInt8) == c) = false := by simp; exact fun e => h e.symm
  simp [Lib.index, List.isPrefixOf, this]
theorem replaceK_quote : ∀ (l : List UInt8), Lib.replaceK [39] [39, 39] (l.count 39) l = quoteB l
  | [] => by simp [Lib.replaceK, quoteB]
  | c :: r => by
    have ih := replaceK_quote r
    by_cases hc : c = 39
    · subst hc
      rw [List.count_cons_self, Lib.replaceK, index39_hit]
      simp [quoteB, ih]
    · have hcnt : (c :: r).count 39 = r.count 39 := List.count_cons_of_ne hc
      rw [hcnt]
      simp only [quoteB, hc, if_false]
      cases hk : r.count 39 with
      | zero =>
        rw [hk] at ih
        simp only [Lib.replaceK] at ih ⊢
        rw [← ih]
      | succ m =>
        rw [hk] at ih
        have hpos : 0 < Lib.count r [39] := by rw [Lib.count_one]; omega
        obtain ⟨i, hi⟩ := Lib.index_of_count hpos
        have h1 : ¬ ((i : Int) == -1) = true := by simp
        rw [Lib.replaceK, hi, if_neg h1] at ih
        rw [Lib.replaceK, index39_skip r hc, hi, if_neg h1, if_neg (by simp; omega)]
        rw [show ((i : Int) + 1).toNat = i + 1 by omega]
        rw [show (i : Int).toNat = i by omega] at ih
        rw [List.take_succ_cons, ← ih]
        show _ = c :: (r.take i ++ [39, 39] ++ Lib.replaceK [39] [39, 39] m (r.drop (i + 1)))
        rw [show i + 1 + [(39 : UInt8)].length = (i + 1) + 1 by rfl, List.drop_succ_cons]
        rfl
theorem replaceAll_quote (l : List UInt8) : Lib.replaceAll l [39] [39, 39] = quoteB l := by
  unfold Lib.replaceAll Lib.replace Lib.replaceNum
  rw [if_neg (by decide), if_pos (.inl (by decide)), Lib.count_one]
  exact replaceK_quote l
/-- what a law's world holds -/
structure GW (w : World) : Prop where
  kt : KT w
  ut : UT w
  pos : 0 < w.heap.size
  ml : ∃ m, w.cell? ⟨replL_ren.g 1, 0, none⟩ = some (.int .i64 m)
theorem cell_lt {w : World} {b o : Nat} {v : Value} (h : w.cell? ⟨b, o, none⟩ = some v) : b < w.heap.size := by
  unfold World.cell? at h
  by_cases hb : b < w.heap.size
  · exact hb
  · have : w.heap[b]? = none := Array.getElem?_eq_none (by omega)
    simp [this] at h
theorem GW.below {w w' : World} (h : GW w) (hb : Below w.heap.size w w') : GW w' := by
  obtain ⟨m, hm⟩ := h.ml
  exact ⟨h.kt.below hb h.pos, h.ut.below hb, Nat.lt_of_lt_of_le h.pos hb.size, ⟨m, (hb.cell (by exact cell_lt hm)).trans hm⟩⟩
theorem extraR : Builder.Extra Tryd.prog replL_ren := {
  sizeBuilder := by kernel_rfl
  liesBuilder := by kernel_rfl
  t5 := replL.t5
  a5 := replL.a5
  z5 := replL.z5
  v5 := replL.v5
  infoByte := by kernel_rfl
  cellsByte := by kernel_rfl
  sizeByte := by kernel_rfl
  neB5 := by decide }
theorem quoteB_len : ∀ l : List UInt8, (quoteB l).length = l.length + l.count 39
  | [] => rfl
  | c :: r => by
    have ih := quoteB_len r
    by_cases hc : c = 39
    · subst hc; simp [quoteB, ih]; omega
    · simp [quoteB, hc, ih, List.count_cons_of_ne hc]; omega
theorem quote17 (s : ByteArray) (w : World) (hs : s.size ≤ 1048576) (h : GW w) : Calls Tryd.prog 17 #[.string s] w fun e w' => e = .returned (.string ⟨(quoteL s.data.toList).toArray⟩) ∧ Below w.heap.size w w' := by
  obtain ⟨m, hm⟩ := h.ml
  have hcn : s.data.toList.count 39 ≤ s.size := by rw [← str_len]; exact List.count_le_length
  have hlen : s.size + Lib.countB s ⟨#[39]⟩ * (⟨#[39, 39]⟩ : ByteArray).size ≤ 140737488355328 := by
    have e : Lib.countB s ⟨#[39]⟩ = s.data.toList.count 39 := Lib.count_one 39 s.data.toList
    rw [e]
    show s.size + s.data.toList.count 39 * 2 ≤ _
    omega
  have HC := Any.strings_ReplaceAll replL extraR s ⟨#[39]⟩ ⟨#[39, 39]⟩ m w (by omega) hm (by decide) hlen
  rw [show (Lib.replaceAll s.data.toList (⟨#[39]⟩ : ByteArray).data.toList (⟨#[39, 39]⟩ : ByteArray).data.toList) = quoteB s.data.toList from replaceAll_quote _] at HC
  obtain ⟨Q, hQ⟩ : ∃ Q : ByteArray, Q = ⟨(quoteB s.data.toList).toArray⟩ := ⟨_, rfl⟩
  rw [← hQ] at HC
  have hQs : Q.size = s.size + s.data.toList.count 39 := by rw [hQ]; exact quoteB_len _
  have q1 : ¬ 9223372036854775807 < 1 + Q.size := by omega
  have q2 : ¬ 9223372036854775807 < 1 + Q.size + 1 := by omega
  have HQ := Lib.hid hQ
  have HC := Lib.hid HC
  clear hm hlen hcn h hQ hQs
  go_enter Tryd.func17, Tryd.ntmps17
  go_wp2_with fail
  refine HC.out.mono ?_
  rintro e w1 ⟨rfl, hb1⟩
  go_wp2_with fail
  go_ret
  refine ⟨?_, hb1⟩
  show Ending.returned (Value.string ((⟨#[39]⟩ : ByteArray) ++ Q ++ (⟨#[39]⟩ : ByteArray))) = _
  have e : (⟨#[39]⟩ : ByteArray) ++ Q ++ (⟨#[39]⟩ : ByteArray) = ⟨(quoteL s.data.toList).toArray⟩ := WideShapes.bytes_inj (by rw [HQ.out]; simp [quoteL])
  rw [e]
theorem written19 (k : Int) (s : ByteArray) (p : Int) (w : World) (hs : s.size ≤ 1048576) (h : GW w) : Calls Tryd.prog 19 #[.agg #[.int .i64 k, .string s, .int .i64 p]] w fun e w' => e = .returned (.string ⟨(writtenL k s.data.toList).toArray⟩) ∧ Below w.heap.size w w' := by
  have hb1 := (Below.refl w.heap.size w).alloc (Nat.le_refl _) (.cells #[.int .i64 k, .string s, .int .i64 p] 31)
  have HQ := Lib.hid (quote17 s _ hs (h.below hb1))
  have HB := Lib.hid hb1
  clear hb1 h
  by_cases hk : k = 4
  · subst hk
    go_enter Tryd.func19, Tryd.ntmps19
    go_wp2_with fail
    refine HQ.out.mono ?_
    rintro e w1 ⟨rfl, hb2⟩
    go_wp2_with fail
    go_ret
    exact ⟨rfl, Below.call HB.out hb2⟩
  · have hkd : (k == 4) = false := by simpa using hk
    have hkw : writtenL k s.data.toList = s.data.toList := by unfold writtenL; rw [if_neg hk]
    rw [hkw]
    go_enter Tryd.func19, Tryd.ntmps19
    go_wp2_with fail
    go_ret
    exact ⟨rfl, HB.out⟩
/-- the words' cells -/
theorem rowC_at : ∀ (l : List Wd) (k j : Nat) (w : Wd), l[k]? = some w → j < 3 → (rowC l)[k * 3 + j]? = (wordC w)[j]?
  | [], k, j, w, h, _ => by simp at h
  | a :: l, 0, j, w, h, hj => by
    simp at h; subst h
    have e : rowC (a :: l) = wordC a ++ rowC l := by simp [rowC]
    rw [e, Nat.zero_mul, Nat.zero_add, List.getElem?_append_left (by simp [wordC]; exact hj)]
  | a :: l, k + 1, j, w, h, hj => by
    have e : rowC (a :: l) = wordC a ++ rowC l := by simp [rowC]
    rw [e, List.getElem?_append_right (by simp [wordC]; omega), show (k + 1) * 3 + j - (wordC a).length = k * 3 + j by simp [wordC]; omega]
    exact rowC_at l k j w (by simpa using h) hj
theorem HasW.open {w : World} {base : Nat} {v : Value} {l : List Wd} (h : HasW w base v l) (hne : l ≠ []) : ∃ g c, v = .slice (some ⟨g, 0, none⟩) l.length c ∧ base ≤ g ∧ g < w.heap.size ∧ l.length ≤ c ∧ (∀ j, w.frozen? ⟨g, j, none⟩ = false) ∧
    ∀ k wd, l[k]? = some wd → w.cell? ⟨g, k * 3, none⟩ = some (.int .i64 wd.kind) ∧ w.cell? ⟨g, k * 3 + 1, none⟩ = some (.string ⟨wd.text.toArray⟩) ∧ w.cell? ⟨g, k * 3 + 2, none⟩ = some (.int .i64 (wd.place : Int)) := by
  rcases h with ⟨_, h2⟩ | ⟨g, c, cur, h1, h2, h3, h4, h5⟩
  · exact absurd h2 hne
  · refine ⟨g, c, h1, h2, (Array.getElem?_eq_some_iff.1 h3).1, h5, fun j => by simp [World.frozen?, h3], fun k wd hk => ?_⟩
    have hkl : k < l.length := (List.getElem?_eq_some_iff.1 hk).1
    have key : ∀ j, j < 3 → w.cell? ⟨g, k * 3 + j, none⟩ = (wordC wd)[j]? := fun j hj => by
      rw [← rowC_at l k j wd hk hj, ← h4, List.getElem?_take, if_pos (by omega)]
      simp [World.cell?, h3]
    exact ⟨key 0 (by omega), key 1 (by omega), key 2 (by omega)⟩
end Go.Proofs.YtofjifhnkcghpaaDoor
