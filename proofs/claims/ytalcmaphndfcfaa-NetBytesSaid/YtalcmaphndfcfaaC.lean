/- What a net is: its connections; those that are at their end go. -/
import Derived.Test.YtalcmaphndfcfaaB
namespace Go.Proofs.Ytalcmaphndfcfaa
open Go.RowKit Go.Maps
set_option linter.unusedVariables false
set_option linter.unusedSimpArgs false

/-- a connection: its number, its block; by the side to which they lead: what has arrived, what is under way, whether it is shut, whether the side was told -/
structure Cn where
  num : Int
  blk : Nat
  th0 : ByteArray
  un0 : ByteArray
  sh0 : Bool
  to0 : Bool
  th1 : ByteArray
  un1 : ByteArray
  sh1 : Bool
  to1 : Bool
  cut : Bool

def Cn.cells (c : Cn) : Array Value := #[.string c.th0, .string c.un0, .bool c.sh0, .bool c.to0, .string c.th1, .string c.un1, .bool c.sh1, .bool c.to1, .bool c.cut]
def Cn.gone (c : Cn) : Bool := if c.cut then c.to0 && c.to1 else c.sh0 && c.sh1 && decide (c.th0.size + c.un0.size + c.th1.size + c.un1.size = 0)

/-- where a connection stands -/
def findC (L : List Cn) (x : Int) : Option Cn := L.find? fun c => decide (c.num = x)
def keysOf (L : List Cn) : List (Int × Nat) := L.map fun c => (c.num, c.blk)
theorem at_keys (L : List Cn) (x : Int) : at_ (keysOf L) x = (findC L x).map (·.blk) := by
  induction L with
  | nil => rfl
  | cons c r ih =>
    have e : keysOf (c :: r) = (c.num, c.blk) :: keysOf r := rfl
    rw [e, at_cons, ih]
    unfold findC
    rw [List.find?_cons]
    by_cases h : c.num = x <;> simp [h]
theorem findC_mem {L : List Cn} {x : Int} {c : Cn} (h : findC L x = some c) : c ∈ L ∧ c.num = x := ⟨List.mem_of_find?_eq_some h, by simpa using List.find?_some h⟩

/-- the net's map and its connections -/
structure Conns (F : Nat → Prop) (w : World) (mv : Value) (L : List Cn) : Prop where
  map : (mv = .map none ∧ L = []) ∨ ∃ bm, mv = .map (some bm) ∧ F bm ∧ PMap Try.prog 3 w bm (keysOf L)
  wf : ∀ c ∈ L, (Lit.int .i64 c.num).wf = true
  blk : ∀ c ∈ L, F c.blk ∧ Blk w c.blk 64 c.cells
  apart : L.Pairwise fun a b => a.num ≠ b.num ∧ a.blk ≠ b.blk
  fits : ∀ c ∈ L, c.th0.size + c.un0.size ≤ 65536 ∧ c.th1.size + c.un1.size ≤ 65536

theorem uniq {L : List Cn} (h : L.Pairwise fun a b => a.num ≠ b.num ∧ a.blk ≠ b.blk) {a b : Cn} (ha : a ∈ L) (hb : b ∈ L) (e : a.num = b.num ∨ a.blk = b.blk) : a = b := by
  induction L with
  | nil => cases ha
  | cons c r ih =>
    obtain ⟨h1, h2⟩ := List.pairwise_cons.1 h
    rcases List.mem_cons.1 ha with e1 | ha1 <;> rcases List.mem_cons.1 hb with e2 | hb1
    · rw [e1, e2]
    · subst e1; have := h1 b hb1; rcases e with e | e
      · exact absurd e this.1
      · exact absurd e this.2
    · subst e2; have := h1 a ha1; rcases e with e | e
      · exact absurd e.symm this.1
      · exact absurd e.symm this.2
    · exact ih h2 ha1 hb1

/-- A NET lies in block bn: its number of connections made, its connections -/
structure NetAt (F : Nat → Prop) (w : World) (bn : Nat) (made : Int) (L : List Cn) : Prop where
  own : F bn
  net : ∃ mv, Blk w bn 55 #[.int .i64 made, mv] ∧ Conns F w mv L

section
variable {F G : Nat → Prop} {w w' : World} {mv : Value} {L : List Cn} {bn : Nat} {made : Int}

theorem Conns.turn (h : Conns F w mv L) (ht : Turn G w w') (hd : ∀ k, F k → ¬ G k) : Conns F w' mv L := by
  obtain ⟨h1, h2, h3, h4, h5⟩ := h
  refine ⟨?_, h2, fun c hc => ⟨(h3 c hc).1, Blk.turn (h3 c hc).2 ht (hd _ (h3 c hc).1)⟩, h4, h5⟩
  rcases h1 with h1 | ⟨bm, e, hF, hm⟩
  · exact .inl h1
  · exact .inr ⟨bm, e, hF, hm.turn ht (hd _ hF)⟩
theorem NetAt.turn (h : NetAt F w bn made L) (ht : Turn G w w') (hd : ∀ k, F k → ¬ G k) : NetAt F w' bn made L := by
  obtain ⟨h0, mv, h1, h2⟩ := h
  exact ⟨h0, mv, Blk.turn h1 ht (hd _ h0), h2.turn ht hd⟩
theorem NetAt.alloc (h : NetAt F w bn made L) (o : Obj) : NetAt F (w.alloc o) bn made L :=
  h.turn (G := fun _ => False) ((Turn.refl _ _).alloc o) (fun _ _ h => h)
theorem NetAt.lt (h : NetAt F w bn made L) : bn < w.heap.size := by obtain ⟨-, mv, h, -⟩ := h; exact h.lt
theorem Conns.ne (h : Conns F w mv L) (hb : Blk w bn 55 #[.int .i64 made, mv]) {c : Cn} (hc : c ∈ L) : c.blk ≠ bn := by
  intro e
  have h1 := (h.blk c hc).2
  rw [e] at h1
  unfold Blk at h1 hb
  rw [h1] at hb
  simp at hb
theorem Conns.look (h : Conns F w mv L) {x : Int} (hx : (Lit.int .i64 x).wf = true) : (Instr.lookup 53 mv (.int .i64 x) false).run Try.prog w = .ok (pv ((findC L x).map (·.blk))) w := by
  rw [← at_keys]
  have hz : (zeroValue 57).run Try.prog w = .ok (.pointer none) w := by kernel_rfl
  rcases h.map with ⟨rfl, rfl⟩ | ⟨bm, rfl, -, hm⟩
  · exact Maps.look_nil false (int_keyed Try.underlying3) Try.underlying53 hz (keyOf_int_mk Try.underlying3 hx)
  · exact hm.look Try.underlying3 Try.underlying53 hz hx
theorem Conns.len (h : Conns F w mv L) (ty : TypeId) : (Builtin.len_ #[53] ty #[mv]).run Try.prog w = .ok (.int .i64 (L.length : Nat)) w := by
  rcases h.map with ⟨rfl, rfl⟩ | ⟨bm, rfl, -, hm⟩
  · exact Maps.len_nil Try.underlying53 ty
  · have := hm.len Try.underlying53 ty
    simpa [keysOf] using this

/-- the connections with another in the place of one -/
def updC (L : List Cn) (c : Cn) : List Cn := L.map fun x => if x.num = c.num then c else x
def dropC (L : List Cn) (x : Int) : List Cn := L.filter fun c => decide (c.num ≠ x)

theorem keys_upd {c c' : Cn} (hn : c'.num = c.num) (hb : c'.blk = c.blk) (ha : L.Pairwise fun a b => a.num ≠ b.num ∧ a.blk ≠ b.blk) (hc : c ∈ L) : keysOf (updC L c') = keysOf L := by
  unfold keysOf updC
  rw [List.map_map]
  apply List.map_congr_left
  intro x hx
  simp only [Function.comp]
  split
  · rename_i e
    rw [uniq ha hx hc (.inl (e.trans hn)), hn, hb]
  · rfl
theorem upd_mem {c' x : Cn} (h : x ∈ updC L c') : (x = c' ∨ (x ∈ L ∧ x.num ≠ c'.num)) := by
  unfold updC at h
  obtain ⟨y, hy, rfl⟩ := List.mem_map.1 h
  by_cases e : y.num = c'.num
  · rw [if_pos e]; exact .inl rfl
  · rw [if_neg e]; exact .inr ⟨hy, e⟩
theorem find_upd (L : List Cn) (c' : Cn) (x : Int) : findC (updC L c') x = if x = c'.num then (findC L x).map (fun _ => c') else findC L x := by
  induction L with
  | nil => simp [findC, updC]
  | cons y r ih =>
    have e : updC (y :: r) c' = (if y.num = c'.num then c' else y) :: updC r c' := rfl
    rw [e]
    unfold findC at ih ⊢
    rw [List.find?_cons, List.find?_cons, ih]
    by_cases h1 : y.num = c'.num
    · rw [if_pos h1]
      by_cases h2 : x = c'.num
      · simp [h1, h2]
      · have h3 : ¬ c'.num = x := fun e => h2 e.symm
        have h4 : ¬ y.num = x := fun e => h2 (e.symm.trans h1)
        simp [h2, h3, h4]
    · rw [if_neg h1]
      by_cases h2 : x = c'.num
      · have h4 : ¬ y.num = x := fun e => h1 (e.trans h2)
        simp only [h4, decide_false, h2, if_true]
        simp [h1]
      · by_cases h4 : y.num = x <;> simp [h2, h4]
theorem find_drop (L : List Cn) (x y : Int) : findC (dropC L x) y = if y = x then none else findC L y := by
  induction L with
  | nil => simp [findC, dropC]
  | cons c r ih =>
    unfold findC dropC at *
    rw [List.filter_cons]
    by_cases e : c.num = x
    · rw [if_neg (by simpa using e), ih, List.find?_cons]
      by_cases h : y = x
      · simp [h]
      · have : ¬ c.num = y := fun e' => h (e'.symm.trans e)
        simp [h, this]
    · rw [if_pos (by simpa using e), List.find?_cons, List.find?_cons, ih]
      by_cases h2 : c.num = y
      · have : ¬ y = x := fun e' => e (h2.trans e')
        simp [h2, this]
      · simp [h2]

/-- one connection is written -/
theorem Conns.set (h : Conns F w mv L) {c c' : Cn} (hc : c ∈ L) (hn : c'.num = c.num) (hb : c'.blk = c.blk) (hbl : Blk w' c.blk 64 c'.cells)
    (ht : Turn (fun k => k = c.blk) w w') (hf : c'.th0.size + c'.un0.size ≤ 65536 ∧ c'.th1.size + c'.un1.size ≤ 65536) : Conns F w' mv (updC L c') := by
  obtain ⟨h1, h2, h3, h4, h5⟩ := h
  have hk := keys_upd hn hb h4 hc
  refine ⟨?_, ?_, ?_, ?_, ?_⟩
  · rcases h1 with ⟨-, rfl⟩ | ⟨bm, e, hF, hm⟩
    · cases hc
    · refine .inr ⟨bm, e, hF, ?_⟩
      rw [hk]
      refine hm.turn ht ?_
      intro e
      subst e
      obtain ⟨es, clock, hmm⟩ := hm.isMap
      have := (h3 c hc).2
      unfold Blk at this
      rw [hmm] at this
      simp at this
  · intro x hx
    rcases upd_mem hx with rfl | ⟨hx, -⟩
    · rw [hn]; exact h2 c hc
    · exact h2 x hx
  · intro x hx
    rcases upd_mem hx with rfl | ⟨hx, hne⟩
    · rw [hb]; exact ⟨(h3 c hc).1, hbl⟩
    · refine ⟨(h3 x hx).1, Blk.turn (h3 x hx).2 ht ?_⟩
      intro e
      exact hne ((congrArg Cn.num (uniq h4 hx hc (.inr e))).trans hn.symm)
  · unfold updC
    rw [List.pairwise_map]
    refine (List.Pairwise.and_mem.1 h4).imp ?_
    rintro a b ⟨ha, hb', h6, h7⟩
    split <;> split
    · rename_i e1 e2; exact absurd (e1.trans e2.symm) h6
    · rename_i e1 e2
      refine ⟨fun e => e2 e.symm, fun e => ?_⟩
      have := uniq h4 hb' hc (.inr (e.symm.trans hb))
      exact e2 (by rw [this, hn])
    · rename_i e1 e2
      refine ⟨e1, fun e => ?_⟩
      have := uniq h4 ha hc (.inr (e.trans hb))
      exact e1 (by rw [this, hn])
    · exact ⟨h6, h7⟩
  · intro x hx
    rcases upd_mem hx with rfl | ⟨hx, -⟩
    · exact hf
    · exact h5 x hx

/-- one connection goes -/
theorem Conns.del (h : Conns F w mv L) {x : Int} (hx : (Lit.int .i64 x).wf = true) (hm : ∃ c, findC L x = some c) : 
    ∃ bm, mv = .map (some bm) ∧ F bm ∧ ∀ ty, ∃ w', (Builtin.delete_ #[53, 3] ty #[mv, .int .i64 x]).run Try.prog w = .ok (.tuple #[]) w' ∧ Conns F w' mv (dropC L x) ∧ w.mapTurned w' bm := by
  obtain ⟨h1, h2, h3, h4, h5⟩ := h
  rcases h1 with ⟨-, rfl⟩ | ⟨bm, rfl, hF, hp⟩
  · obtain ⟨c, hc⟩ := hm; cases hc
  refine ⟨bm, rfl, hF, fun ty => ?_⟩
  obtain ⟨w', hrun, hp', ht⟩ := hp.drop Try.underlying3 Try.underlying53 hx ty
  have hk : (keysOf L).filter (fun p => decide (p.1 ≠ x)) = keysOf (dropC L x) := by
    unfold keysOf dropC
    rw [List.filter_map]
    rfl
  rw [hk] at hp'
  have hmem : ∀ c, c ∈ dropC L x → c ∈ L := fun c hc => (List.mem_filter.1 hc).1
  refine ⟨w', hrun, ⟨.inr ⟨bm, rfl, hF, hp'⟩, fun c hc => h2 c (hmem c hc), fun c hc => ⟨(h3 c (hmem c hc)).1, ?_⟩, h4.filter _, fun c hc => h5 c (hmem c hc)⟩, ht⟩
  have hb := (h3 c (hmem c hc)).2
  refine Blk.grown hb ht.grown ?_
  intro e
  cases e
  obtain ⟨es, clock, hmm⟩ := hp.isMap
  unfold Blk at hb
  rw [hmm] at hb
  simp at hb

theorem Turn.one {b : Nat} (h : Turn (fun k => k = b) w w') (hF : F b) : Turn F w w' := h.mono (fun k _ e => e ▸ hF)
end
end Go.Proofs.Ytalcmaphndfcfaa
