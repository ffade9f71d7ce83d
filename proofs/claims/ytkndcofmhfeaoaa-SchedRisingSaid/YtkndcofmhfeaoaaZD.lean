/- Lists of lists of numbers as an argument. -/
import Derived.Test.YtkndcofmhfeaoaaZ
import Derived.Test.YtkndcofmhfeaoaaZC
import Derived.Test.YtkndcofmhfeaoaaBase14
namespace Go.Proofs.Ytkndcofmhfeaoaa
open Go.RowKit Go.Maps Go.WideShapes Go.ChangeShapes
set_option linter.unusedVariables false
set_option linter.unusedSimpArgs false
/-- lists of numbers that can be read -/
def RowII (B : Nat) (w : World) (v : Value) (ls : List (List Int)) : Prop := ∃ vs : List Value, vs.length = ls.length ∧ Row B w v ls.length 1 vs ∧ ∀ (k : Nat) (l : List Int) (x : Value), ls[k]? = some l → vs[k]? = some x → RowI B w x l
section
variable {H : Type} {enc : TypeId × Value → H} {w : World} {base : Nat} {sp : Nat → Bool} {held : Bool}
theorem el_nums : ∀ n cs x, DataW.trod enc Try.prog w base sp held n 22 cs = some x → ∃ q : Value × List Int, cs = [q.1] ∧ (RowI w.heap.size w q.1 q.2 ∧ ∀ y ∈ q.2, (Lit.int .i64 y).wf = true) := by
  intro n cs x h
  obtain ⟨v, k, xs, rfl, hr, hok⟩ := open_rowsN (okc := fun cs => ∃ s : Int, cs = [.int .i64 s] ∧ (Lit.int .i64 s).wf = true) Try.underlying22 (by kernel_rfl : Try.prog.cellsOf 3 = 1) (by omega) (fun n cs x h => by
    obtain ⟨s, h1, -, h2⟩ := DataW.trod_int Try.underlying3 h
    exact ⟨s, h1, h2⟩) n cs x h
  obtain ⟨l, rfl, h1, h2⟩ := rows_choose (c := 1) (by omega) (fun s => [Value.int .i64 s]) (fun _ => rfl) hr hok
  exact ⟨(v, l), rfl, row_one h1, h2⟩
theorem open_intss {v : Value} {d : DataW H} {ps : List MemPlace} (hv : ∃ a len cap, v = .slice a len cap) (hd : DataW.Trod enc Try.prog w base sp held 35 v d ps) :
    ∃ ls : List (List Int), RowII w.heap.size w v ls ∧ (∀ l ∈ ls, ∀ y ∈ l, (Lit.int .i64 y).wf = true) := by
  obtain ⟨n, xs, hr, hok, -⟩ := open_rows (okc := fun cs => ∃ q : Value × List Int, cs = [q.1] ∧ (RowI w.heap.size w q.1 q.2 ∧ ∀ y ∈ q.2, (Lit.int .i64 y).wf = true)) Try.underlying35 (by kernel_rfl : Try.prog.cellsOf 22 = 1) (by omega) el_nums hv hd
  obtain ⟨l, rfl, h1, hel⟩ := rows_choose (c := 1) (by omega) (fun q : Value × List Int => [q.1]) (fun _ => rfl) hr hok
  have h2 := row_one (f := fun q : Value × List Int => q.1) h1
  refine ⟨l.map (·.2), ⟨l.map (·.1), by simp, by simpa using h2, fun k b x hb hx => ?_⟩, fun b hb => ?_⟩
  · rw [List.getElem?_map, Option.map_eq_some_iff] at hb hx
    obtain ⟨q, hq, rfl⟩ := hb
    obtain ⟨q2, hq2, rfl⟩ := hx
    obtain rfl : q = q2 := Option.some.inj (hq.symm.trans hq2)
    exact (hel q (List.mem_of_getElem? hq)).1
  · rw [List.mem_map] at hb
    obtain ⟨q, hq, rfl⟩ := hb
    exact (hel q hq).2
end
theorem RowII.mono {B B' : Nat} {w w' : World} {v : Value} {ls : List (List Int)} (h : RowII B w v ls) (hb : Below B w w') (hB : B ≤ B') : RowII B' w' v ls := by
  obtain ⟨vs, h1, h2, h3⟩ := h
  exact ⟨vs, h1, h2.mono hb hB, fun k l x hl hx => (h3 k l x hl hx).mono hb hB⟩
/-- of numbers by 8: those of 0 .. n - 1 that one of the list is, rising, 4 at most (SchedRising's locks of a task) -/
def has8 (l : List Int) (n : Int) : Bool := l.any fun y => decide (y % 8 = n)
def locksTo (l : List Int) : Nat → List Int
  | 0 => []
  | n + 1 => if (locksTo l n).length < 4 && has8 l (n : Int) then locksTo l n ++ [(n : Int)] else locksTo l n
theorem locksTo_len (l : List Int) (n : Nat) : (locksTo l n).length ≤ 4 := by
  induction n with
  | zero => simp [locksTo]
  | succ n ih =>
    simp only [locksTo]
    split
    · rename_i h
      simp at h
      simp; omega
    · exact ih
theorem locksTo_bd (l : List Int) (n : Nat) : ∀ y ∈ locksTo l n, 0 ≤ y ∧ y < (n : Int) := by
  induction n with
  | zero => intro y hy; cases hy
  | succ n ih =>
    intro y hy
    simp only [locksTo] at hy
    split at hy
    · rcases List.mem_append.1 hy with hy | hy
      · have := ih y hy; omega
      · simp at hy; subst hy; omega
    · have := ih y hy; omega
theorem locksTo_rise (l : List Int) (n : Nat) : (locksTo l n).Pairwise (· < ·) := by
  induction n with
  | zero => simp [locksTo]
  | succ n ih =>
    simp only [locksTo]
    split
    · rw [List.pairwise_append]
      refine ⟨ih, by simp, fun a ha b hb => ?_⟩
      simp at hb; subst hb
      exact (locksTo_bd l n a ha).2
    · exact ih
/-- once there are 4, that is all -/
theorem locksTo_full (l : List Int) {n : Nat} (h : (locksTo l n).length = 4) : ∀ m, n ≤ m → locksTo l m = locksTo l n := by
  intro m hm
  induction m with
  | zero => have : n = 0 := by omega
            rw [this]
  | succ m ih =>
    by_cases e : n = m + 1
    · rw [e]
    · have := ih (by omega)
      simp only [locksTo]
      rw [this, h]
      simp
theorem and7 (x : Int) : bits .and .i64 x 7 = x % 8 := by
  have e2 : (7 : Int) = ((7 : Nat) : Int) := rfl
  have h2 : (BitVec.ofInt 64 ((7 : Nat) : Int)).toNat = 7 := by
    rw [BitVec.ofInt_natCast, BitVec.toNat_ofNat]
  have h1 : (BitVec.ofInt 64 x).toNat = (x % 18446744073709551616).toNat := by
    rw [BitVec.toNat_ofInt]; rfl
  rw [e2]
  show IntKind.i64.wrap ((BitVec.ofInt 64 x &&& BitVec.ofInt 64 ((7 : Nat) : Int)).toNat : Int) = _
  rw [BitVec.toNat_and, h1, h2, show (7 : Nat) = 2 ^ 3 - 1 from rfl, Nat.and_two_pow_sub_one_eq_mod, IntKind.wrap_i64]
  omega
/-- rows of numbers of the caller's own, in a row of its own -/
structure RowY (G : Nat → Prop) (B : Nat) (w : World) (v : Value) (vs : List Value) (ls : List (List Int)) : Prop where
  len : vs.length = ls.length
  own : ownsIn w B 22 v ls.length vs
  out : ∀ g, v.ownBlock = some g → ¬ G g
  each : ∀ (k : Nat) (l : List Int) (x : Value), ls[k]? = some l → vs[k]? = some x → RowZ G B w x l
section
variable {G : Nat → Prop} {B : Nat} {w w' : World} {v : Value} {vs : List Value} {ls : List (List Int)}
theorem RowY.nil (G : Nat → Prop) (B : Nat) (w : World) : RowY G B w (.slice none 0 0) [] [] := ⟨rfl, ⟨rfl, .inl ⟨rfl, rfl⟩⟩, fun g h => (by cases h), fun k l x h => (by simp at h)⟩
theorem RowY.turn (h : RowY G B w v vs ls) (ht : Turn G w w') : RowY (Fn G w w') B w' v vs ls :=
  ⟨h.len, h.own.block (fun g hg => ht.block g (h.own.lt hg) (h.out g hg)), fun g hg e => by
    rcases e with e | e
    · exact h.out g hg e
    · have := h.own.lt hg; omega, fun k l x h1 h2 => (h.each k l x h1 h2).turn ht⟩
theorem RowY.below (h : RowY G B w v vs ls) (hb : Below w.heap.size w w') : RowY G B w' v vs ls :=
  ⟨h.len, h.own.block (fun g hg => hb.block g (h.own.lt hg)), h.out, fun k l x h1 h2 => (h.each k l x h1 h2).below hb⟩
/-- a row of numbers that is none of these has grown -/
theorem RowY.grown (h : RowY G B w v vs ls) {u : Value} {n : Nat} {xs : List Value} (hu : ownsIn w B 3 u n xs) (hn : ∀ (k : Nat) (x : Value), vs[k]? = some x → ∀ g, x.ownBlock = some g → some g ≠ u.ownBlock) (hg : w.grownBy w' u.ownBlock) : RowY G B w' v vs ls :=
  ⟨h.len, h.own.block (fun g hv => hg.block g (h.own.lt hv) (fun e => by
    obtain ⟨cur, hh⟩ := h.own.own hv
    obtain ⟨cur', hh'⟩ := hu.own e.symm
    rw [hh] at hh'
    cases hh')), h.out, fun k l x h1 h2 => (h.each k l x h1 h2).grown hg (hn k x h2)⟩
/-- one more row -/
theorem RowY.app (h : RowY G B w v vs ls) (hG : ∀ k, G k → k < w.heap.size) {x : Value} {l : List Int} (hx : RowZ G B w x l) {u : Value} (hg : w.grownBy w' v.ownBlock) (h2 : ownsIn w' B 22 u (ls.length + 1) (vs ++ [x])) (hv : ∀ g, u.ownBlock = some g → v.ownBlock = some g ∨ w.heap.size ≤ g) : RowY G B w' u (vs ++ [x]) (ls ++ [l]) := by
  have hne : ∀ {y : Value} {m : List Int}, RowZ G B w y m → ∀ g, y.ownBlock = some g → some g ≠ v.ownBlock := fun {y m} hy g hyg e => by
    obtain ⟨cur, hh⟩ := hy.own.own hyg
    obtain ⟨cur', hh'⟩ := h.own.own e.symm
    rw [hh] at hh'
    cases hh'
  refine ⟨by simp [h.len], by rw [List.length_append]; exact h2, fun g hg' e => ?_, fun k m y h3 h4 => ?_⟩
  · rcases hv g hg' with h1 | h1
    · exact h.out g h1 e
    · have := hG g e; omega
  · by_cases hk : k < ls.length
    · rw [List.getElem?_append_left hk] at h3
      rw [List.getElem?_append_left (by rw [h.len]; exact hk)] at h4
      have hy := h.each k m y h3 h4
      exact hy.grown hg (hne hy)
    · have hk2 : k = ls.length := by
        have := (List.getElem?_eq_some_iff.1 h3).1
        simp at this; omega
      subst hk2
      rw [List.getElem?_append_right (Nat.le_refl _)] at h3
      rw [List.getElem?_append_right (by rw [h.len]; exact Nat.le_refl _), h.len] at h4
      simp at h3 h4
      subst h3 h4
      exact hx.grown hg (hne hx)
end
end Go.Proofs.Ytkndcofmhfeaoaa
