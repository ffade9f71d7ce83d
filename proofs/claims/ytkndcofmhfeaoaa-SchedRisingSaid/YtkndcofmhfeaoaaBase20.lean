/- What a part of the heap may turn; maps from texts, as lists of entries. -/
import Derived.Test.YtkndcofmhfeaoaaBase19
import Derived.Test.YtkndcofmhfeaoaaBase16
import Derived.Test.YtkndcofmhfeaoaaBase15
import Derived.Test.YtkndcofmhfeaoaaBase13
import Derived.Maps.OwnSet
import Derived.StringKeys
namespace Go.Proofs.Ytkndcofmhfeaoaa
open Go.RowKit Go.Maps Go.WideMaps
set_option linter.unusedVariables false
set_option linter.unusedSimpArgs false

/-- outside the blocks of F the world is as it was -/
structure Turn (F : Nat → Prop) (w w' : World) : Prop where
  os : w'.os = w.os
  tape : w'.tape = w.tape
  output : w'.output = w.output
  size : w.heap.size ≤ w'.heap.size
  block : ∀ k, k < w.heap.size → ¬ F k → w'.heap[k]? = w.heap[k]?

section
variable {F G : Nat → Prop} {w w' w'' : World}
theorem Turn.refl (F : Nat → Prop) (w : World) : Turn F w w := ⟨rfl, rfl, rfl, Nat.le_refl _, fun _ _ _ => rfl⟩
theorem Turn.trans (h : Turn F w w') (k : Turn F w' w'') : Turn F w w'' :=
  ⟨k.os.trans h.os, k.tape.trans h.tape, k.output.trans h.output, Nat.le_trans h.size k.size, fun i hi hF => (k.block i (Nat.lt_of_lt_of_le hi h.size) hF).trans (h.block i hi hF)⟩
theorem Turn.mono (h : Turn F w w') (hG : ∀ k, k < w.heap.size → F k → G k) : Turn G w w' := ⟨h.os, h.tape, h.output, h.size, fun k hk hn => h.block k hk (fun hF => hn (hG k hk hF))⟩
theorem Turn.alloc (h : Turn F w w') (o : Obj) : Turn F w (w'.alloc o) :=
  ⟨h.os, h.tape, h.output, Nat.le_trans h.size (by simp), fun k hk hF => (Below.heap_alloc _ _ _ (Nat.lt_of_lt_of_le hk h.size)).trans (h.block k hk hF)⟩
theorem Turn.setCell (h : Turn F w w') {p : Addr} (hp : F p.block) (u : Value) : Turn F w (w'.setCell p u) :=
  ⟨h.os, h.tape, h.output, Nat.le_trans h.size (by simp [World.setCell]), fun k hk hF => (Below.heap_setCell _ _ _ _ (fun e => hF (by rw [e]; exact hp))).trans (h.block k hk hF)⟩
theorem Turn.setRow (h : Turn F w w') {g : Nat} (hp : F g) (cs : Array Value) : Turn F w (w'.setRow g cs) :=
  ⟨h.os, h.tape, h.output, Nat.le_trans h.size (by simp [World.setRow]), fun k hk hF => (setRow_other w' g k cs (fun e => hF (by rw [e]; exact hp))).trans (h.block k hk hF)⟩
theorem Turn.map (h : Turn F w w') {b : Nat} (hp : F b) (hm : w'.mapTurned w'' b) : Turn F w w'' :=
  h.trans ⟨hm.grown.os, hm.grown.tape, hm.grown.output, hm.grown.size, fun k hk hF => hm.grown.block k hk (fun e => hF (by cases e; exact hp))⟩
theorem Turn.drew (h : Turn F w w') : Turn F w w'.drew := ⟨h.os, h.tape, h.output, h.size, h.block⟩
theorem Turn.below (h : Turn F w w') {B : Nat} (hB : B ≤ w.heap.size) (hF : ∀ k, k < B → ¬ F k) : Below B w w' := ⟨h.os, h.tape, h.output, h.size, fun k hk => h.block k (by omega) (hF k hk)⟩
theorem Turn.of_below {B : Nat} (h : Below B w w') (hF : ∀ k, B ≤ k → k < w.heap.size → F k) : Turn F w w' :=
  ⟨h.os, h.tape, h.output, h.size, fun k hk hn => h.block k (Nat.lt_of_not_le fun hle => hn (hF k hle hk))⟩
theorem Blk.turn {b : Nat} {T : TypeId} {cs : Array Value} (h : Blk w b T cs) (ht : Turn F w w') (hF : ¬ F b) : Blk w' b T cs := (ht.block b h.lt hF).trans h
end

theorem tight {H : Type} {P : Program} {k : TypeId} {R : Value → Option (DataW H × List MemPlace)} {w : World} {b n : Nat} {D : DataW H} (h : w.ownsMap P k R b n D) : w.ownsMap P k R b (Maps.size D) D := by
  obtain ⟨es, clock, hb, F, hs, rfl⟩ := h
  refine ⟨es, clock, hb, F, ?_, rfl⟩
  simp [Maps.size, length_sorted]

/-- the entry at a text -/
def look (l : List (ByteArray × DataW Unit)) (s : ByteArray) : Option (DataW Unit) := (l.find? fun p => decide (p.1 = s)).map (·.2)
theorem look_none {l : List (ByteArray × DataW Unit)} {s : ByteArray} : look l s = none ↔ ∀ p ∈ l, p.1 ≠ s := by
  unfold look
  simp [List.find?_eq_none]
theorem look_cons (p : ByteArray × DataW Unit) (l : List (ByteArray × DataW Unit)) (s : ByteArray) : look (p :: l) s = if p.1 = s then some p.2 else look l s := by
  unfold look
  rw [List.find?_cons]
  by_cases h : p.1 = s
  · simp [h]
  · simp [h]
theorem look_append (l m : List (ByteArray × DataW Unit)) (s : ByteArray) : look (l ++ m) s = (look l s).or (look m s) := by
  unfold look
  rw [List.find?_append]
  cases l.find? (fun p => decide (p.1 = s)) <;> simp
def lookD (l : List (ByteArray × DataW Unit)) (s : ByteArray) (z : DataW Unit) : DataW Unit := (look l s).getD z
theorem key_ne {s t : ByteArray} (h : s ≠ t) : (Lit.string s.data.toList) ≠ .string t.data.toList := fun e => by
  injection e with e
  exact h (ByteArray.ext (Array.toList_inj.1 e))

/-- BLOCK bm IS A MAP from texts, with just these entries -/
structure SMap (P : Program) (k : TypeId) (R : Value → Option (DataW Unit × List MemPlace)) (w : World) (bm : Nat) (l : List (ByteArray × DataW Unit)) : Prop where
  apart : l.Pairwise (fun p q => p.1 ≠ q.1)
  map : ∃ D, w.ownsMap P k R bm l.length D ∧ Maps.size D = l.length ∧ ∀ s z, D.atKey (.string s.data.toList) z = lookD l s z
section
variable {P : Program} {k : TypeId} {R : Value → Option (DataW Unit × List MemPlace)} {w w' : World} {bm : Nat} {l : List (ByteArray × DataW Unit)}
theorem SMap.made (w : World) (P : Program) (k : TypeId) (R : Value → Option (DataW Unit × List MemPlace)) : SMap P k R (w.alloc (.map #[] 0)) w.heap.size [] :=
  ⟨List.Pairwise.nil, _, World.ownsMap_made w P k _, rfl, fun s z => rfl⟩
theorem SMap.lt (h : SMap P k R w bm l) : bm < w.heap.size := by obtain ⟨-, D, hD, -⟩ := h; exact hD.lt
theorem SMap.isMap (h : SMap P k R w bm l) : ∃ es clock, w.heap[bm]? = some (.map es clock) := by
  obtain ⟨-, D, ⟨es, clock, h, -⟩, -⟩ := h; exact ⟨es, clock, h⟩
theorem SMap.block (h : SMap P k R w bm l) (hb : w'.heap[bm]? = w.heap[bm]?) : SMap P k R w' bm l := by
  obtain ⟨ha, D, ⟨es, clock, h1, h2, h3, h4⟩, h5⟩ := h
  exact ⟨ha, D, ⟨es, clock, hb.trans h1, h2, h3, h4⟩, h5⟩
theorem SMap.turn {F : Nat → Prop} (h : SMap P k R w bm l) (ht : Turn F w w') (hF : ¬ F bm) : SMap P k R w' bm l := h.block (ht.block bm h.lt hF)
theorem SMap.alloc (h : SMap P k R w bm l) (o : Obj) : SMap P k R (w.alloc o) bm l := h.block (Below.heap_alloc _ _ _ h.lt)
theorem SMap.has {D : DataW Unit} (h : ∀ s z, D.atKey (.string s.data.toList) z = lookD l s z) (s : ByteArray) : Maps.has D (.string s.data.toList) = (look l s).isSome := by
  cases hx : look l s with
  | none => exact has_false_of_atKey (fun z => by rw [h s z]; simp [lookD, hx])
  | some b => exact has_true_of_atKey (y := b) (fun z => by rw [h s z]; simp [lookD, hx])
theorem SMap.len {t e : TypeId} (h : SMap P k R w bm l) (ht : P.underlying t = some (.map k e)) (ty : TypeId) : (Builtin.len_ #[t] ty #[.map (some bm)]).run P w = .ok (.int .i64 (l.length : Nat)) w := by
  obtain ⟨-, D, hown, hs, hat⟩ := h
  rw [hown.len ht, hs]
theorem SMap.look_ok {t e : TypeId} (h : SMap P k R w bm l) (hk : P.underlying k = some .string) (ht : P.underlying t = some (.map k e)) {z : Value} (hz : (zeroValue e).run P w = .ok z w) {zd : DataW Unit} {zp : List MemPlace} (hzd : R z = some (zd, zp)) {s : ByteArray} (hs : s.size ≤ maxLen) :
    ∃ v ps, (Instr.lookup t (.map (some bm)) (.string s) true).run P w = .ok (.tuple #[v, .bool (look l s).isSome]) w ∧ R v = some (lookD l s zd, ps) := by
  obtain ⟨-, D, hown, -, hat⟩ := h
  obtain ⟨v, ps, hrun, hv⟩ := hown.look_ok (string_keyed hk) ht hz hzd (keyOf_string_mk hk hs)
  rw [SMap.has hat] at hrun
  rw [hat] at hv
  exact ⟨v, ps, hrun, hv⟩
theorem SMap.store {t e : TypeId} (h : SMap P k R w bm l) (hk : P.underlying k = some .string) (ht : P.underlying t = some (.map k e)) (hn : l.length < maxLen) {s : ByteArray} (hs : s.size ≤ maxLen) {v : Value} {d : DataW Unit} {ps : List MemPlace} (hv : R v = some (d, ps)) (hnew : look l s = none) :
    ∃ w', (Instr.mapUpdate t (.map (some bm)) (.string s) v).run P w = .ok () w' ∧ SMap P k R w' bm (l ++ [(s, d)]) ∧ w.mapTurned w' bm := by
  obtain ⟨ha, D, hown, hsz, hat⟩ := h
  obtain ⟨w', hrun, hown', hturn⟩ := hown.store (string_keyed hk) ht hn (keyOf_string_mk hk hs) hv
  have ht' := hown.tidy (string_keyed hk)
  refine ⟨w', hrun, ⟨?_, _, hown'.mono (by simp), ?_, ?_⟩, hturn⟩
  · rw [List.pairwise_append]
    refine ⟨ha, by simp, fun p hp q hq => ?_⟩
    simp only [List.mem_cons, List.not_mem_nil, or_false] at hq
    subst hq
    exact look_none.1 hnew p hp
  · rw [size_put ht', SMap.has hat, hnew]
    simp [hsz]
  · intro t z
    by_cases e : t = s
    · subst e
      rw [atKey_put_same ht'.isMap (by trivial)]
      simp [lookD, look_append, hnew, look_cons]
    · rw [atKey_put_other (key_ne e), hat]
      have : look [(s, d)] t = none := by rw [look_cons, if_neg (fun h => e h.symm)]; rfl
      simp [lookD, look_append, this]
theorem SMap.again {t e : TypeId} (h : SMap P k R w bm l) (hk : P.underlying k = some .string) (ht : P.underlying t = some (.map k e)) (hn : l.length < maxLen) {s : ByteArray} (hs : s.size ≤ maxLen) {v : Value} {d : DataW Unit} {ps : List MemPlace} (hv : R v = some (d, ps)) (hold : look l s = some d) :
    ∃ w', (Instr.mapUpdate t (.map (some bm)) (.string s) v).run P w = .ok () w' ∧ SMap P k R w' bm l ∧ w.mapTurned w' bm := by
  obtain ⟨ha, D, hown, hsz, hat⟩ := h
  obtain ⟨w', hrun, hown', hturn⟩ := hown.store (string_keyed hk) ht hn (keyOf_string_mk hk hs) hv
  have ht' := hown.tidy (string_keyed hk)
  have hs2 : Maps.size (D.put (.string s.data.toList) d) = l.length := by rw [size_put ht', SMap.has hat, hold]; simp [hsz]
  refine ⟨w', hrun, ⟨ha, _, ?_, hs2, ?_⟩, hturn⟩
  · have := tight hown'; rwa [hs2] at this
  · intro t z
    by_cases e : t = s
    · subst e
      rw [atKey_put_same ht'.isMap (by trivial)]
      simp [lookD, hold]
    · rw [atKey_put_other (key_ne e), hat]
end
theorem owns_lower {w : World} {b b' : Nat} {e : TypeId} {size n : Nat} {v : Value} {xs : List Value} (h : w.ownsRow b e size v n xs) (hb : b' ≤ b) : w.ownsRow b' e size v n xs := by
  refine ⟨h.1, ?_⟩
  rcases h.2 with h1 | ⟨g, cap, cur, hv, hg, q⟩
  · exact .inl h1
  · exact .inr ⟨g, cap, cur, hv, Nat.le_trans hb hg, q⟩
theorem owns_form {w : World} {base : Nat} {e : TypeId} {size : Nat} {v : Value} {n : Nat} {xs : List Value} (h : w.ownsRow base e size v n xs) : ∃ a c, v = .slice a n c := by
  rcases h.2 with ⟨rfl, rfl⟩ | ⟨g, cap, cur, rfl, _⟩
  · exact ⟨none, 0, rfl⟩
  · exact ⟨_, cap, rfl⟩
theorem owns_cell_other {w : World} {base : Nat} {e : TypeId} {size : Nat} {v : Value} {n : Nat} {xs : List Value} (h : w.ownsRow base e size v n xs) {p : Addr} (hne : p.block < base) (u : Value) : (w.setCell p u).ownsRow base e size v n xs := by
  refine ⟨h.1, ?_⟩
  rcases h.2 with h2 | ⟨g, cap, cur, hv, hg, hh, r⟩
  · exact .inl h2
  · exact .inr ⟨g, cap, cur, hv, hg, (Below.heap_setCell w p u g (by omega)).trans hh, r⟩
def RowR {α : Type} (c : Nat) (cells : α → List Value) (B : Nat) (w : World) (v : Value) (l : List α) : Prop :=
  ∃ a cap, v = .slice a l.length cap ∧ l.length ≤ cap ∧ cap ≤ 9223372036854775807 ∧
    (0 < l.length → ∃ b off, a = some ⟨b, off, none⟩ ∧ b < B ∧ ∀ k x, l[k]? = some x → ∀ j, j < c → w.cell? ⟨b, off + k * c + j, none⟩ = (cells x)[j]?)
theorem RowR.mono {α : Type} {c : Nat} {cells : α → List Value} {B B' : Nat} {w w' : World} {v : Value} {l : List α} (h : RowR c cells B w v l) (hb : Below B w w') (hB : B ≤ B') : RowR c cells B' w' v l := by
  obtain ⟨a, cap, hv, h1, h2, h3⟩ := h
  refine ⟨a, cap, hv, h1, h2, fun hn => ?_⟩
  obtain ⟨b, off, ha, hb', hc⟩ := h3 hn
  exact ⟨b, off, ha, by omega, fun k x hx j hj => (hb.cell (by exact hb')).trans (hc k x hx j hj)⟩
theorem RowR.nil {α : Type} (c : Nat) (cells : α → List Value) (B : Nat) (w : World) : RowR c cells B w (.slice none 0 0) [] := ⟨none, 0, rfl, Nat.le_refl _, by omega, fun h => absurd h (by simp)⟩
theorem rec_cell {α : Type} {c : Nat} {cells : α → List Value} {l : List α} (hl : ∀ x ∈ l, (cells x).length = c) {k j : Nat} {x : α} (hx : l[k]? = some x) (hj : j < c) : (l.flatMap cells)[k * c + j]? = (cells x)[j]? := by
  induction l generalizing k with
  | nil => simp at hx
  | cons y l ih =>
    have hy := hl y (by simp)
    rw [List.flatMap_cons]
    cases k with
    | zero =>
      simp at hx; subst hx
      rw [Nat.zero_mul, Nat.zero_add, List.getElem?_append_left (by omega)]
    | succ k =>
      have e : (k + 1) * c + j = (k * c + j) + c := by rw [Nat.add_mul]; omega
      rw [e, List.getElem?_append_right (by omega), hy, Nat.add_sub_cancel]
      exact ih (fun z hz => hl z (by simp [hz])) (by simpa using hx)
theorem RowR.of_owns {α : Type} {c : Nat} {cells : α → List Value} {w : World} {base : Nat} {e : TypeId} {v : Value} {l : List α} (hl : ∀ x ∈ l, (cells x).length = c) (h : w.ownsRow base e c v l.length (l.flatMap cells)) : RowR c cells w.heap.size w v l := by
  obtain ⟨hlen, a, cap, hv, h1, h2, h3⟩ := Row.of_owns h
  refine ⟨a, cap, hv, h1, by simpa [maxLen] using h2, fun hn => ?_⟩
  obtain ⟨b, off, ha, hb', hc⟩ := h3 hn
  refine ⟨b, off, ha, hb', fun k x hx j hj => ?_⟩
  have hk : k < l.length := (List.getElem?_eq_some_iff.1 hx).1
  have hlt : k * c + j < l.length * c := by have := Nat.mul_le_mul_right c hk; rw [Nat.succ_mul] at this; omega
  rw [Nat.add_assoc, hc _ hlt, ← rec_cell hl hx hj, List.getD_eq_getElem?_getD, List.getElem?_eq_getElem (by omega)]
  rfl
theorem rows_choose {α : Type} {c : Nat} (hc0 : 0 < c) (cells : α → List Value) (hlen : ∀ a, (cells a).length = c) {p : α → Prop} {B : Nat} {w : World} {v : Value} {k : Nat} {xs : List Value} (hr : Row B w v k c xs) (hok : ∀ i, i < k → ∃ a, (xs.drop (i * c)).take c = cells a ∧ p a) :
    ∃ l : List α, l.length = k ∧ RowR c cells B w v l ∧ ∀ a ∈ l, p a := by
  obtain ⟨hl, a, cap, hv, h1, h2, h3⟩ := hr
  by_cases hk : k = 0
  · subst hk
    exact ⟨[], rfl, ⟨a, cap, hv, h1, by simpa [maxLen] using h2, fun h => absurd h (by simp)⟩, fun a h => by cases h⟩
  · obtain ⟨a0, -⟩ := hok 0 (by omega)
    have hat : ∀ i, ∃ a, i < k → (xs.drop (i * c)).take c = cells a ∧ p a := fun i => by
      by_cases hi : i < k
      · obtain ⟨a, h⟩ := hok i hi; exact ⟨a, fun _ => h⟩
      · exact ⟨a0, fun h => absurd h hi⟩
    let f : Nat → α := fun i => Classical.choose (hat i)
    have hf : ∀ i, i < k → (xs.drop (i * c)).take c = cells (f i) ∧ p (f i) := fun i => Classical.choose_spec (hat i)
    refine ⟨(List.range k).map f, by simp, ⟨a, cap, by rw [hv]; simp, by simpa using h1, by simpa [maxLen] using h2, fun _ => ?_⟩, fun a ha => ?_⟩
    · obtain ⟨b, off, ha, hb, hc⟩ := h3 (by omega)
      refine ⟨b, off, ha, hb, fun i x hx j hj => ?_⟩
      have hi : i < k := by
        have := (List.getElem?_eq_some_iff.1 hx).1
        simpa using this
      have hxe : x = f i := by
        rw [List.getElem?_map, List.getElem?_range hi] at hx
        simpa using hx.symm
      have hlt : i * c + j < k * c := by have := Nat.mul_le_mul_right c hi; rw [Nat.succ_mul] at this; omega
      rw [Nat.add_assoc, hc _ hlt, hxe, ← (hf i hi).1, List.getElem?_take_of_lt hj, List.getElem?_drop, List.getD_eq_getElem?_getD, List.getElem?_eq_getElem (by omega)]
      rfl
    · rw [List.mem_map] at ha
      obtain ⟨i, hi, rfl⟩ := ha
      exact (hf i (by simpa using hi)).2
theorem row_one {α : Type} {f : α → Value} {B : Nat} {w : World} {v : Value} {l : List α} (h : RowR 1 (fun a => [f a]) B w v l) : Row B w v l.length 1 (l.map f) := by
  obtain ⟨a, cap, hv, h1, h2, h3⟩ := h
  refine ⟨by simp, a, cap, hv, h1, by simpa [maxLen] using h2, fun hn => ?_⟩
  obtain ⟨b, off, ha, hb, hc⟩ := h3 hn
  refine ⟨b, off, ha, hb, fun j hj => ?_⟩
  have hj' : j < l.length := by omega
  have := hc j l[j] (List.getElem?_eq_getElem hj') 0 (by omega)
  rw [Nat.mul_one, Nat.add_zero] at this
  rw [this]
  simp [List.getD_eq_getElem?_getD, hj']

end Go.Proofs.Ytkndcofmhfeaoaa
