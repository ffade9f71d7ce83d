/- A store of facts: what one step of Append makes of its parts. -/
import Derived.Test.YtdpgpcffhhdpiaaH
namespace Go.Proofs.Ytdpgpcffhhdpiaa
open Go.RowKit Go.Maps
set_option linter.unusedVariables false
set_option linter.unusedSimpArgs false

section
variable {q : PartsV} {F : Nat → Prop} {B : Nat} {w : World} {d m ng : Nat} {L : Nat → List ByteArray} {okD okM : Nat → Nat → Prop} {T : Nat → Nat → ByteArray} {Y : Nat → Nat → Int} {ends : List Nat}
theorem putL_get {l : List ByteArray} {t : ByteArray} : (putL l t)[putN l t]? = some t := by
  unfold putL putN
  cases h : idx l t with
  | some i => exact idx_get h
  | none => simp
theorem putL_keep {l : List ByteArray} {t s : ByteArray} {x : Nat} (h : l[x]? = some s) : (putL l t)[x]? = some s := by
  by_cases ht : t ∈ l
  · rw [putL_in ht]; exact h
  · rw [putL_new ht, List.getElem?_append_left (List.getElem?_eq_some_iff.1 h).1]; exact h
theorem putN_lt {l : List ByteArray} {t : ByteArray} (h : (putL l t).length ≤ 4096) : putN l t < 4096 := by
  have := (List.getElem?_eq_some_iff.1 (putL_get (l := l) (t := t))).1
  omega
/-- a text's number is laid into a segment -/
theorem CoreQ.putD (h : CoreQ q F B w d m L ng okD okM T Y ends) {i0 p0 g D : Nat} {t : ByteArray} {w2 : World} (hi0 : i0 < d) (hD : q.ds[i0]? = some D) (hg : q.gs[p0 / 256]? = some g) (ht : Turn (q.Fs i0) w w2)
    (hd : DictAt (fun k => q.Fs i0 k ∨ (w.heap.size ≤ k ∧ k < w2.heap.size)) D w2 (putL (L i0) t)) (hno : ¬ okD i0 p0) :
    ∃ q', q'.gs = q.gs ∧ q'.ds = q.ds ∧ CoreQ q' (fun k => F k ∨ (w.heap.size ≤ k ∧ k < w2.heap.size)) B (w2.setCell ⟨g, i0 * 256 + p0 % 256, none⟩ (.int .u16 (putN (L i0) t : Nat))) d m (fun i => if i = i0 then putL (L i0) t else L i) ng (fun i p => okD i p ∨ (i = i0 ∧ p = p0)) okM (fun i p => if i = i0 ∧ p = p0 then t else T i p) Y ends := by
  obtain ⟨hFg, csg, hbg, hsg⟩ := h.seg _ g hg
  have haw := h.away i0
  have hgF : ¬ q.Fs i0 g := fun hk => (haw g hi0 hk).2.2.2.2 (List.mem_of_getElem? hg)
  have hbg2 : Blk w2 g 64 csg := Blk.turn hbg ht hgF
  have hdl := h.hd
  have hi6 : i0 < 6 := by omega
  have hin : ∀ (k : Nat) {T' : TypeId} {cs : Array Value}, Blk w2 k T' cs → T' ≠ 64 → g ≠ k := fun k T' cs hk hT e => Blk.ne_type hk hbg2 hT e.symm
  -- a row of another type is kept
  have hrow : ∀ {e : TypeId} {v : Value} {n : Nat} {xs : List Value}, w.ownsRow 0 e 1 v n xs → (∀ k, q.Fs i0 k → v.ownBlock ≠ some k) → e ≠ 64 → (w2.setCell ⟨g, i0 * 256 + p0 % 256, none⟩ (.int .u16 (putN (L i0) t : Nat))).ownsRow 0 e 1 v n xs := fun ho hne hT => by
    have ho2 := owns_turn ho ht (fun b hb hk => hne b hk hb)
    exact ownsRow_setCell_other ho2 (a := ⟨g, i0 * 256 + p0 % 256, none⟩) (fun e => owns_ne ho2 hbg2 hT g e rfl) _
  have htS : Turn (fun k => k = g) w2 (w2.setCell ⟨g, i0 * 256 + p0 % 256, none⟩ (.int .u16 (putN (L i0) t : Nat))) := (Turn.refl (fun k => k = g) w2).setCell (p := ⟨g, i0 * 256 + p0 % 256, none⟩) rfl _
  have hcellg : ∀ j, j ≠ i0 * 256 + p0 % 256 → (w2.setCell ⟨g, i0 * 256 + p0 % 256, none⟩ (.int .u16 (putN (L i0) t : Nat))).cell? ⟨g, j, none⟩ = w.cell? ⟨g, j, none⟩ := fun j hj => by
    rw [Blk.cell (Blk.set hbg2 (i0 * 256 + p0 % 256) _) j, Array.getElem?_setIfInBounds, if_neg (fun e => hj e.symm), Blk.cell hbg j]
  have hcello : ∀ (g' j : Nat), g' ≠ g → g' < w.heap.size → ¬ q.Fs i0 g' → (w2.setCell ⟨g, i0 * 256 + p0 % 256, none⟩ (.int .u16 (putN (L i0) t : Nat))).cell? ⟨g', j, none⟩ = w.cell? ⟨g', j, none⟩ := fun g' j hne hlt hf =>
    (World.cell?_of_block (Below.heap_setCell _ _ _ _ hne)).trans (World.cell?_of_block (ht.block g' hlt hf))
  refine ⟨{ q with Fs := fun i k => if i = i0 then q.Fs i0 k ∨ (w.heap.size ≤ k ∧ k < w2.heap.size) else q.Fs i k }, rfl, rfl, ?_⟩
  constructor
  · exact Blk.other (Blk.turn h.blk ht (fun hk => (haw B hi0 hk).1 rfl)) (show g ≠ B from hin B (Blk.turn h.blk ht (fun hk => (haw B hi0 hk).1 rfl)) (by decide)) _
  · exact hrow h.dO (fun k hk => (haw k hi0 hk).2.1) (by decide)
  · exact h.dl
  · exact fun b hb => .inl (h.dF b hb)
  · exact hrow h.sO (fun k hk => (haw k hi0 hk).2.2.1) (by decide)
  · exact h.sl
  · exact fun b hb => .inl (h.sF b hb)
  · exact hrow h.eO (fun k hk => (haw k hi0 hk).2.2.2.1) (by decide)
  · exact fun b hb => .inl (h.eF b hb)
  · intro i D' hi
    by_cases hii : i = i0
    · subst hii
      have : D' = D := Option.some.inj (hi.symm.trans hD)
      subst this
      simp only [if_true]
      refine hd.keep htS (fun k hk e => ?_)
      subst e
      rcases hk with hk | hk
      · exact hgF hk
      · have := hbg.lt; omega
    · simp only [if_neg hii]
      have hlt : i < d := by rw [← h.dl]; exact (List.getElem?_eq_some_iff.1 hi).1
      refine ((h.dict i D' hi).keep ht (fun k hk hk2 => h.apart i i0 k hlt hi0 hii hk hk2)).keep htS (fun k hk e => ?_)
      subst e
      exact (h.away i k hlt hk).2.2.2.2 (List.mem_of_getElem? hg)
  · intro i k hlt hk
    have hsz : (w2.setCell ⟨g, i0 * 256 + p0 % 256, none⟩ (.int .u16 (putN (L i0) t : Nat))).heap.size = w2.heap.size := by simp [World.setCell]
    rw [hsz]
    by_cases hii : i = i0
    · subst hii
      simp only [if_true] at hk
      rcases hk with hk | hk
      · have := h.dsub i k hlt hk
        exact ⟨.inl this.1, Nat.lt_of_lt_of_le this.2 ht.size⟩
      · exact ⟨.inr hk, hk.2⟩
    · simp only [if_neg hii] at hk
      have := h.dsub i k hlt hk
      exact ⟨.inl this.1, Nat.lt_of_lt_of_le this.2 ht.size⟩
  · intro i j k hi hj hij hk hk2
    by_cases hii : i = i0
    · subst hii
      have hji : j ≠ i := fun e => hij e.symm
      simp only [if_true] at hk
      simp only [if_neg hji] at hk2
      rcases hk with hk | hk
      · exact h.apart i j k hi hj hij hk hk2
      · have := (h.dsub j k hj hk2).2; omega
    · simp only [if_neg hii] at hk
      by_cases hjj : j = i0
      · subst hjj
        simp only [if_true] at hk2
        rcases hk2 with hk2 | hk2
        · exact h.apart i j k hi hj hij hk hk2
        · have := (h.dsub i k hi hk).2; omega
      · simp only [if_neg hjj] at hk2
        exact h.apart i j k hi hj hij hk hk2
  · intro i k hi hk
    by_cases hii : i = i0
    · subst hii
      simp only [if_true] at hk
      rcases hk with hk | hk
      · exact h.away i k hi hk
      · have hB := h.blk.lt
        refine ⟨by omega, fun e => ?_, fun e => ?_, fun e => ?_, fun e => ?_⟩
        · have := (h.dO.lt k e).2; omega
        · have := (h.sO.lt k e).2; omega
        · have := (h.eO.lt k e).2; omega
        · obtain ⟨j, hj⟩ := List.mem_iff_getElem?.1 e
          obtain ⟨-, cs, hb, -⟩ := h.seg j k hj
          have := hb.lt; omega
    · simp only [if_neg hii] at hk
      exact h.away i k hi hk
  · intro j g' hj
    obtain ⟨h1, cs, h2, h3⟩ := h.seg j g' hj
    have hg'F : ¬ q.Fs i0 g' := fun hk => (haw g' hi0 hk).2.2.2.2 (List.mem_of_getElem? hj)
    by_cases hgg : g' = g
    · subst hgg
      exact ⟨.inl h1, _, Blk.set hbg2 _ _, by simpa using hsg⟩
    · exact ⟨.inl h1, cs, Blk.other (Blk.turn h2 ht hg'F) (show g ≠ g' from fun e => hgg e.symm) _, h3⟩
  · exact h.inj
  · intro i p hi hp
    by_cases hip : i = i0 ∧ p = p0
    · obtain ⟨rfl, rfl⟩ := hip
      refine ⟨g, putN (L i) t, hg, ?_, putN_lt hd.size, ?_⟩
      · rw [Blk.cell (Blk.set hbg2 (i * 256 + p % 256) _), Array.getElem?_setIfInBounds, if_pos rfl, if_pos (by omega)]
      · simp only [and_self, if_true]
        exact putL_get
    · rw [if_neg hip]
      have hp' : okD i p := hp.resolve_right hip
      obtain ⟨g', x, h1, h2, h3, h4⟩ := h.cd i p hi hp'
      obtain ⟨-, cs, hb', -⟩ := h.seg _ g' h1
      have hg'F : ¬ q.Fs i0 g' := fun hk => (haw g' hi0 hk).2.2.2.2 (List.mem_of_getElem? h1)
      refine ⟨g', x, h1, ?_, h3, ?_⟩
      · by_cases hgg : g' = g
        · subst hgg
          rw [hcellg _ (fun e => ?_)]
          · exact h2
          · have := h.inj _ _ _ h1 hg
            exact hip ⟨by omega, by omega⟩
        · rw [hcello g' _ hgg hb'.lt hg'F]; exact h2
      · by_cases hii : i = i0
        · subst hii; rw [if_pos rfl]; exact putL_keep h4
        · rw [if_neg hii]; exact h4
  · intro i p hi hp
    obtain ⟨g', h1, h2⟩ := h.cm i p hi hp
    obtain ⟨-, cs, hb', -⟩ := h.seg _ g' h1
    have hg'F : ¬ q.Fs i0 g' := fun hk => (haw g' hi0 hk).2.2.2.2 (List.mem_of_getElem? h1)
    refine ⟨g', h1, ?_⟩
    by_cases hgg : g' = g
    · subst hgg
      rw [hcellg _ (by omega)]
      exact h2
    · rw [hcello g' _ hgg hb'.lt hg'F]; exact h2
  · exact .inl h.fB
  · exact h.hd
  · exact h.hm
  · exact h.small
  · exact h.few
/-- a number is laid into a segment -/
theorem CoreQ.putM (h : CoreQ q F B w d m L ng okD okM T Y ends) {i0 p0 g : Nat} {n : Int} (hi0 : i0 < m) (hg : q.gs[p0 / 256]? = some g) (hno : ¬ okM i0 p0) :
    CoreQ q F B (w.setCell ⟨g, 1536 + i0 * 256 + p0 % 256, none⟩ (.int .i64 n)) d m L ng okD (fun i p => okM i p ∨ (i = i0 ∧ p = p0)) T (fun i p => if i = i0 ∧ p = p0 then n else Y i p) ends := by
  obtain ⟨hFg, csg, hbg, hsg⟩ := h.seg _ g hg
  have hm := h.hm
  have hdl := h.hd
  have htS : Turn (fun k => k = g) w (w.setCell ⟨g, 1536 + i0 * 256 + p0 % 256, none⟩ (.int .i64 n)) := (Turn.refl (fun k => k = g) w).setCell (p := ⟨g, 1536 + i0 * 256 + p0 % 256, none⟩) rfl _
  have hrow : ∀ {e : TypeId} {v : Value} {k : Nat} {xs : List Value}, w.ownsRow 0 e 1 v k xs → e ≠ 64 → (w.setCell ⟨g, 1536 + i0 * 256 + p0 % 256, none⟩ (.int .i64 n)).ownsRow 0 e 1 v k xs := fun ho hT =>
    ownsRow_setCell_other ho (a := ⟨g, 1536 + i0 * 256 + p0 % 256, none⟩) (fun e => owns_ne ho hbg hT g e rfl) _
  have hcellg : ∀ j, j ≠ 1536 + i0 * 256 + p0 % 256 → (w.setCell ⟨g, 1536 + i0 * 256 + p0 % 256, none⟩ (.int .i64 n)).cell? ⟨g, j, none⟩ = w.cell? ⟨g, j, none⟩ := fun j hj => by
    rw [Blk.cell (Blk.set hbg (1536 + i0 * 256 + p0 % 256) _) j, Array.getElem?_setIfInBounds, if_neg (fun e => hj e.symm), Blk.cell hbg j]
  have hcello : ∀ (g' j : Nat), g' ≠ g → (w.setCell ⟨g, 1536 + i0 * 256 + p0 % 256, none⟩ (.int .i64 n)).cell? ⟨g', j, none⟩ = w.cell? ⟨g', j, none⟩ := fun g' j hne => World.cell?_of_block (Below.heap_setCell _ _ _ _ hne)
  have hsz : (w.setCell ⟨g, 1536 + i0 * 256 + p0 % 256, none⟩ (.int .i64 n)).heap.size = w.heap.size := by simp [World.setCell]
  constructor
  · exact Blk.other h.blk (show g ≠ B from fun e => Blk.ne_type h.blk hbg (by decide) e.symm) _
  · exact hrow h.dO (by decide)
  · exact h.dl
  · exact h.dF
  · exact hrow h.sO (by decide)
  · exact h.sl
  · exact h.sF
  · exact hrow h.eO (by decide)
  · exact h.eF
  · intro i D hi
    have hlt : i < d := by rw [← h.dl]; exact (List.getElem?_eq_some_iff.1 hi).1
    exact (h.dict i D hi).keep htS (fun k hk e => by subst e; exact (h.away i k hlt hk).2.2.2.2 (List.mem_of_getElem? hg))
  · intro i k hi hk; rw [hsz]; exact h.dsub i k hi hk
  · exact h.apart
  · exact h.away
  · intro j g' hj
    obtain ⟨h1, cs, h2, h3⟩ := h.seg j g' hj
    by_cases hgg : g' = g
    · subst hgg; exact ⟨h1, _, Blk.set h2 _ _, by simpa using h3⟩
    · exact ⟨h1, cs, Blk.other h2 (show g ≠ g' from fun e => hgg e.symm) _, h3⟩
  · exact h.inj
  · intro i p hi hp
    obtain ⟨g', x, h1, h2, h3, h4⟩ := h.cd i p hi hp
    refine ⟨g', x, h1, ?_, h3, h4⟩
    by_cases hgg : g' = g
    · subst hgg; rw [hcellg _ (by omega)]; exact h2
    · rw [hcello g' _ hgg]; exact h2
  · intro i p hi hp
    by_cases hip : i = i0 ∧ p = p0
    · obtain ⟨rfl, rfl⟩ := hip
      refine ⟨g, hg, ?_⟩
      rw [Blk.cell (Blk.set hbg (1536 + i * 256 + p % 256) _), Array.getElem?_setIfInBounds, if_pos rfl, if_pos (by omega)]
      simp
    · rw [if_neg hip]
      obtain ⟨g', h1, h2⟩ := h.cm i p hi (hp.resolve_right hip)
      refine ⟨g', h1, ?_⟩
      by_cases hgg : g' = g
      · subst hgg
        rw [hcellg _ (fun e => ?_)]
        · exact h2
        · have := h.inj _ _ _ h1 hg
          exact hip ⟨by omega, by omega⟩
      · rw [hcello g' _ hgg]; exact h2
  · exact h.fB
  · exact h.hd
  · exact h.hm
  · exact h.small
  · exact h.few
/-- what is kept where nothing but the store's own block, one of its slices' blocks (of a type of its own) and new ones have turned -/
theorem CoreQ.rest (h : CoreQ q F B w d m L ng okD okM T Y ends) {w3 : World} {G : Nat → Prop} (ht : Turn G w w3) (hGd : ∀ i k, i < d → q.Fs i k → ¬ G k) (hGs : ∀ g, g ∈ q.gs → ¬ G g) :
    (∀ (i D : Nat), q.ds[i]? = some D → DictAt (q.Fs i) D w3 (L i)) ∧ (∀ (i k : Nat), i < d → q.Fs i k → F k ∧ k < w3.heap.size) ∧ (∀ (j g : Nat), q.gs[j]? = some g → F g ∧ ∃ cs : Array Value, Blk w3 g 64 cs ∧ cs.size = 2560) ∧
    (∀ (i p : Nat), i < d → okD i p → ∃ g x : Nat, q.gs[p / 256]? = some g ∧ w3.cell? ⟨g, i * 256 + p % 256, none⟩ = some (.int .u16 (x : Int)) ∧ x < 4096 ∧ (L i)[x]? = some (T i p)) ∧
    (∀ (i p : Nat), i < m → okM i p → ∃ g : Nat, q.gs[p / 256]? = some g ∧ w3.cell? ⟨g, 1536 + i * 256 + p % 256, none⟩ = some (.int .i64 (Y i p))) := by
  refine ⟨fun i D hi => ?_, fun i k hi hk => ⟨(h.dsub i k hi hk).1, Nat.lt_of_lt_of_le (h.dsub i k hi hk).2 ht.size⟩, fun j g hj => ?_, fun i p hi hp => ?_, fun i p hi hp => ?_⟩
  · have hlt : i < d := by rw [← h.dl]; exact (List.getElem?_eq_some_iff.1 hi).1
    exact (h.dict i D hi).keep ht (fun k hk => hGd i k hlt hk)
  · obtain ⟨h1, cs, h2, h3⟩ := h.seg j g hj
    exact ⟨h1, cs, Blk.turn h2 ht (hGs g (List.mem_of_getElem? hj)), h3⟩
  · obtain ⟨g, x, h1, h2, h3, h4⟩ := h.cd i p hi hp
    obtain ⟨-, cs, hb, -⟩ := h.seg _ g h1
    exact ⟨g, x, h1, (World.cell?_of_block (ht.block g hb.lt (hGs g (List.mem_of_getElem? h1)))).trans h2, h3, h4⟩
  · obtain ⟨g, h1, h2⟩ := h.cm i p hi hp
    obtain ⟨-, cs, hb, -⟩ := h.seg _ g h1
    exact ⟨g, h1, (World.cell?_of_block (ht.block g hb.lt (hGs g (List.mem_of_getElem? h1)))).trans h2⟩
/-- an end more -/
theorem CoreQ.putE (h : CoreQ q F B w d m L ng okD okM T Y ends) {n : Nat} (hn : n < 4294967296) (hfew : ends.length + 1 < 4294967296) {w2 : World} {v' : Value} (hown : w2.ownsRow 0 3 1 v' (ends.length + 1) (ends.map intV ++ [intV n]))
    (hg : (w.alloc (Obj.cells #[intV n] 3)).grownBy w2 q.vE.ownBlock) (hat : v'.ownBlock = q.vE.ownBlock ∨ v'.ownBlock = some (w.heap.size + 1)) :
    ∃ q', CoreQ q' (fun k => F k ∨ (w.heap.size ≤ k ∧ k < w2.heap.size)) B (w2.setCell ⟨B, 3, none⟩ v') d m L ng okD okM T Y (ends ++ [n]) := by
  have ht : Turn (fun k => k = B ∨ q.vE.ownBlock = some k) w (w2.setCell ⟨B, 3, none⟩ v') :=
    (((Turn.refl (fun k => k = B ∨ q.vE.ownBlock = some k) w).alloc _).grown hg (fun g hg => .inr hg)).setCell (p := ⟨B, 3, none⟩) (.inl rfl) v'
  have ht2 : Turn (fun k => k = B ∨ q.vE.ownBlock = some k) w w2 := ((Turn.refl (fun k => k = B ∨ q.vE.ownBlock = some k) w).alloc _).grown hg (fun g hg => .inr hg)
  have hB2 : Blk w2 B 50 #[q.vD, intV m, q.vS, q.vE] := Blk.grown (h.blk.alloc _) hg (fun e => owns_ne h.eO h.blk (by decide) B e.symm rfl)
  have hgs : ∀ g, g ∈ q.gs → ¬ (g = B ∨ q.vE.ownBlock = some g) := fun g hgm hG => by
    obtain ⟨j, hj⟩ := List.mem_iff_getElem?.1 hgm
    obtain ⟨-, cs, hb, -⟩ := h.seg j g hj
    rcases hG with rfl | e
    · exact Blk.ne_type h.blk hb (by decide) rfl
    · exact owns_ne h.eO hb (by decide) g e rfl
  obtain ⟨r1, r2, r3, r4, r5⟩ := h.rest ht (fun i k hi hk hG => by
    have := h.away i k hi hk
    rcases hG with e | e
    · exact this.1 e
    · exact this.2.2.2.1 e) hgs
  have hsz : (w2.setCell ⟨B, 3, none⟩ v').heap.size = w2.heap.size := by simp [World.setCell]
  have hrow : ∀ {e : TypeId} {v : Value} {k : Nat} {xs : List Value}, w.ownsRow 0 e 1 v k xs → e ≠ 50 → e ≠ 3 → (w2.setCell ⟨B, 3, none⟩ v').ownsRow 0 e 1 v k xs := fun ho h1 h2 =>
    owns_turn ho ht (fun g hg hG => by
      rcases hG with rfl | e
      · exact owns_ne ho h.blk h1 g hg rfl
      · obtain ⟨cs, hc⟩ := owns_blk h.eO g e
        exact owns_ne ho hc h2 g hg rfl)
  refine ⟨{ q with vE := v' }, ?_⟩
  constructor
  · exact Blk.set hB2 3 v'
  · exact hrow h.dO (by decide) (by decide)
  · exact h.dl
  · exact fun g hg => .inl (h.dF g hg)
  · exact hrow h.sO (by decide) (by decide)
  · exact h.sl
  · exact fun g hg => .inl (h.sF g hg)
  · have := ownsRow_setCell_other hown (a := ⟨B, 3, none⟩) (fun e => owns_ne hown hB2 (by decide) B e rfl) v'
    rw [List.length_append, List.map_append]
    exact this
  · intro g hg'
    rcases hat with e | e
    · exact .inl (h.eF g (e ▸ hg'))
    · have e2 : w.heap.size + 1 = g := by have := e.symm.trans hg'; injection this
      have := (hown.lt g hg').2
      exact .inr ⟨by omega, this⟩
  · exact r1
  · intro i k hi hk
    have := r2 i k hi hk
    exact ⟨.inl this.1, this.2⟩
  · exact h.apart
  · intro i k hi hk
    have := h.away i k hi hk
    refine ⟨this.1, this.2.1, this.2.2.1, fun e => ?_, this.2.2.2.2⟩
    rcases hat with e2 | e2
    · exact this.2.2.2.1 (e2 ▸ e)
    · have e3 : w.heap.size + 1 = k := by have := e2.symm.trans e; injection this
      have := (h.dsub i k hi hk).2
      omega
  · intro j g hj
    obtain ⟨h1, h2⟩ := r3 j g hj
    exact ⟨.inl h1, h2⟩
  · exact h.inj
  · exact r4
  · exact r5
  · exact .inl h.fB
  · exact h.hd
  · exact h.hm
  · intro x hx
    rcases List.mem_append.1 hx with hx | hx
    · exact h.small x hx
    · rw [List.mem_singleton.1 hx]; exact hn
  · exact ⟨by rw [List.length_append]; exact hfew, h.few.2⟩
/-- a segment more -/
theorem CoreQ.putS (h : CoreQ q F B w d m L ng okD okM T Y ends) {Z : Array Value} (hZ : Z.size = 2560) (hfew : ng + 1 < 4294967296) {w2 : World} {v' : Value} (hown : w2.ownsRow 0 57 1 v' (ng + 1) (q.gs.map ptrV ++ [ptrV w.heap.size]))
    (hg : ((w.alloc (Obj.cells Z 64)).alloc (Obj.cells #[ptrV w.heap.size] 57)).grownBy w2 q.vS.ownBlock) (hat : v'.ownBlock = q.vS.ownBlock ∨ v'.ownBlock = some (w.heap.size + 2)) :
    ∃ q', q'.ds = q.ds ∧ q'.gs = q.gs ++ [w.heap.size] ∧ CoreQ q' (fun k => F k ∨ (w.heap.size ≤ k ∧ k < w2.heap.size)) B (w2.setCell ⟨B, 2, none⟩ v') d m L (ng + 1) okD okM T Y ends := by
  have ht : Turn (fun k => k = B ∨ q.vS.ownBlock = some k) w (w2.setCell ⟨B, 2, none⟩ v') :=
    ((((Turn.refl (fun k => k = B ∨ q.vS.ownBlock = some k) w).alloc _).alloc _).grown hg (fun g hg => .inr hg)).setCell (p := ⟨B, 2, none⟩) (.inl rfl) v'
  have ht2 : Turn (fun k => k = B ∨ q.vS.ownBlock = some k) w w2 := (((Turn.refl (fun k => k = B ∨ q.vS.ownBlock = some k) w).alloc _).alloc _).grown hg (fun g hg => .inr hg)
  have hB2 : Blk w2 B 50 #[q.vD, intV m, q.vS, q.vE] := Blk.grown ((h.blk.alloc _).alloc _) hg (fun e => owns_ne h.sO h.blk (by decide) B e.symm rfl)
  have hgs : ∀ g, g ∈ q.gs → ¬ (g = B ∨ q.vS.ownBlock = some g) := fun g hgm hG => by
    obtain ⟨j, hj⟩ := List.mem_iff_getElem?.1 hgm
    obtain ⟨-, cs, hb, -⟩ := h.seg j g hj
    rcases hG with rfl | e
    · exact Blk.ne_type h.blk hb (by decide) rfl
    · exact owns_ne h.sO hb (by decide) g e rfl
  obtain ⟨r1, r2, r3, r4, r5⟩ := h.rest ht (fun i k hi hk hG => by
    have := h.away i k hi hk
    rcases hG with e | e
    · exact this.1 e
    · exact this.2.2.1 e) hgs
  have hsz : (w2.setCell ⟨B, 2, none⟩ v').heap.size = w2.heap.size := by simp [World.setCell]
  have hrow : ∀ {e : TypeId} {v : Value} {k : Nat} {xs : List Value}, w.ownsRow 0 e 1 v k xs → e ≠ 50 → e ≠ 57 → (w2.setCell ⟨B, 2, none⟩ v').ownsRow 0 e 1 v k xs := fun ho h1 h2 =>
    owns_turn ho ht (fun g hg hG => by
      rcases hG with rfl | e
      · exact owns_ne ho h.blk h1 g hg rfl
      · obtain ⟨cs, hc⟩ := owns_blk h.sO g e
        exact owns_ne ho hc h2 g hg rfl)
  have hlen := h.sl
  have hgb : Blk w2 w.heap.size 64 Z := Blk.grown ((Blk.new w 64 Z).alloc _) hg (fun e => by have := (h.sO.lt _ e.symm).2; omega)
  have hgb3 : Blk (w2.setCell ⟨B, 2, none⟩ v') w.heap.size 64 Z := Blk.other hgb (show B ≠ w.heap.size by have := h.blk.lt; omega) _
  have hget : ∀ (j g : Nat), q.gs[j]? = some g → (q.gs ++ [w.heap.size])[j]? = some g := fun j g hj => by rw [List.getElem?_append_left (List.getElem?_eq_some_iff.1 hj).1]; exact hj
  have hinv : ∀ (j g : Nat), (q.gs ++ [w.heap.size])[j]? = some g → q.gs[j]? = some g ∨ (j = q.gs.length ∧ g = w.heap.size) := fun j g hj => by
    rcases Nat.lt_or_ge j q.gs.length with h1 | h1
    · rw [List.getElem?_append_left h1] at hj; exact .inl hj
    · rw [List.getElem?_append_right h1] at hj
      cases hh : j - q.gs.length with
      | zero => rw [hh] at hj; simp at hj; exact .inr ⟨by omega, hj.symm⟩
      | succ n => rw [hh] at hj; simp at hj
  have hlt : ∀ g, g ∈ q.gs → g < w.heap.size := fun g hgm => by
    obtain ⟨j, hj⟩ := List.mem_iff_getElem?.1 hgm
    obtain ⟨-, cs, hb, -⟩ := h.seg j g hj
    exact hb.lt
  refine ⟨{ q with vS := v', gs := q.gs ++ [w.heap.size] }, rfl, rfl, ?_⟩
  constructor
  · exact Blk.set hB2 2 v'
  · exact hrow h.dO (by decide) (by decide)
  · exact h.dl
  · exact fun g hg => .inl (h.dF g hg)
  · have := ownsRow_setCell_other hown (a := ⟨B, 2, none⟩) (fun e => owns_ne hown hB2 (by decide) B e rfl) v'
    rw [List.map_append]
    exact this
  · simp [hlen]
  · intro g hg'
    rcases hat with e | e
    · exact .inl (h.sF g (e ▸ hg'))
    · have e2 : w.heap.size + 2 = g := by have := e.symm.trans hg'; injection this
      have := (hown.lt g hg').2
      exact .inr ⟨by omega, this⟩
  · exact hrow h.eO (by decide) (by decide)
  · exact fun g hg => .inl (h.eF g hg)
  · exact r1
  · intro i k hi hk
    have := r2 i k hi hk
    exact ⟨.inl this.1, this.2⟩
  · exact h.apart
  · intro i k hi hk
    have := h.away i k hi hk
    have hk2 := (h.dsub i k hi hk).2
    refine ⟨this.1, this.2.1, fun e => ?_, this.2.2.2.1, fun e => ?_⟩
    · rcases hat with e2 | e2
      · exact this.2.2.1 (e2 ▸ e)
      · have e3 : w.heap.size + 2 = k := by have := e2.symm.trans e; injection this
        omega
    · rcases List.mem_append.1 e with e | e
      · exact this.2.2.2.2 e
      · have := List.mem_singleton.1 e; omega
  · intro j g hj
    rcases hinv j g hj with hj | ⟨-, rfl⟩
    · obtain ⟨h1, h2⟩ := r3 j g hj
      exact ⟨.inl h1, h2⟩
    · exact ⟨.inr ⟨Nat.le_refl _, hgb.lt⟩, Z, hgb3, hZ⟩
  · intro i j g hi hj
    rcases hinv i g hi with hi | ⟨hi, hi2⟩
    · rcases hinv j g hj with hj | ⟨hj, hj2⟩
      · exact h.inj i j g hi hj
      · have := hlt g (List.mem_of_getElem? hi); omega
    · rcases hinv j g hj with hj | ⟨hj, hj2⟩
      · have := hlt g (List.mem_of_getElem? hj); omega
      · omega
  · intro i p hi hp
    obtain ⟨g, x, h1, h2⟩ := r4 i p hi hp
    exact ⟨g, x, hget _ _ h1, h2⟩
  · intro i p hi hp
    obtain ⟨g, h1, h2⟩ := r5 i p hi hp
    exact ⟨g, hget _ _ h1, h2⟩
  · exact .inl h.fB
  · exact h.hd
  · exact h.hm
  · exact h.small
  · exact ⟨h.few.1, hfew⟩
end
end Go.Proofs.Ytdpgpcffhhdpiaa
