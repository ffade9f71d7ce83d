/- A store of facts: Append. -/
import Derived.Test.YtdpgpcffhhdpiaaI
import Derived.Great.BuildSlice
namespace Go.Proofs.Ytdpgpcffhhdpiaa
open Go.RowKit Go.Maps
set_option linter.unusedVariables false
set_option linter.unusedSimpArgs false

def fact0 : FactT := ⟨[], []⟩
def dimAt (fs : List FactT) (i p : Nat) : ByteArray := (fs.getD p fact0).dims.getD i ByteArray.empty
def meaAt (fs : List FactT) (i p : Nat) : Int := (fs.getD p fact0).meas.getD i 0
def valsI (fs : List FactT) (i : Nat) : List ByteArray := puts [] (col i fs)
/-- A STORE in block B with these facts and ends -/
structure SAt (F : Nat → Prop) (B : Nat) (w : World) (d m : Nat) (fs : List FactT) (ends : List Nat) : Prop where
  core : Core F B w d m (valsI fs) ((fs.length + 255) / 256) (fun _ p => p < fs.length) (fun _ p => p < fs.length) (dimAt fs) (meaAt fs) ends
  last : lastE ends = fs.length
  right : ∀ f ∈ fs, rightF d m f = true
/-- facts that can be read, whatever has turned in F -/
def RowK (F : Nat → Prop) (w : World) (v : Value) (l : List FactT) : Prop :=
  ∃ ps : List (Value × Value), ps.length = l.length ∧ ∀ w', Turn F w w' → RowR 2 (fun p => [p.1, p.2]) w'.heap.size w' v ps ∧ ∀ (k : Nat) (f : FactT) (p : Value × Value), l[k]? = some f → ps[k]? = some p → RowS w'.heap.size w' p.1 f.dims ∧ RowI w'.heap.size w' p.2 f.meas
theorem RowK.row {F : Nat → Prop} {w : World} {v : Value} {l : List FactT} (h : RowK F w v l) {w' : World} (ht : Turn F w w') : RowF w'.heap.size w' v l := by
  obtain ⟨ps, h1, h2⟩ := h
  exact ⟨ps, h1, (h2 w' ht).1, (h2 w' ht).2⟩
theorem RowF.rowK {F : Nat → Prop} {A : Nat} {w : World} {v : Value} {l : List FactT} (h : RowF A w v l) (hA : A ≤ w.heap.size) (hF : ∀ k, F k → A ≤ k) : RowK F w v l := by
  obtain ⟨ps, h1, h2, h3⟩ := h
  refine ⟨ps, h1, fun w' ht => ?_⟩
  have hB : Below A w w' := ht.below hA (fun k hk hf => by have := hF k hf; omega)
  exact ⟨h2.mono hB (Nat.le_trans hA ht.size), fun k f p hf hp => ⟨RowS.mono (h3 k f p hf hp).1 hB (Nat.le_trans hA ht.size), RowI.mono (h3 k f p hf hp).2 hB (Nat.le_trans hA ht.size)⟩⟩
section
variable {q : PartsV} {F : Nat → Prop} {B : Nat} {w : World} {d m ng : Nat} {L L' : Nat → List ByteArray} {okD okM okD' okM' : Nat → Nat → Prop} {T T' : Nat → Nat → ByteArray} {Y Y' : Nat → Nat → Int} {ends : List Nat}
theorem CoreQ.congr (h : CoreQ q F B w d m L ng okD okM T Y ends) (hL : ∀ i, i < d → L i = L' i) (hD : ∀ i p, i < d → okD' i p → okD i p ∧ T i p = T' i p) (hM : ∀ i p, i < m → okM' i p → okM i p ∧ Y i p = Y' i p) : CoreQ q F B w d m L' ng okD' okM' T' Y' ends :=
  { h with
    dict := fun i D hi => by rw [← hL i (by rw [← h.dl]; exact (List.getElem?_eq_some_iff.1 hi).1)]; exact h.dict i D hi
    cd := fun i p hi hp => by
      obtain ⟨g, x, h1, h2, h3, h4⟩ := h.cd i p hi (hD i p hi hp).1
      exact ⟨g, x, h1, h2, h3, by rw [← hL i hi, ← (hD i p hi hp).2]; exact h4⟩
    cm := fun i p hi hp => by
      obtain ⟨g, h1, h2⟩ := h.cm i p hi (hM i p hi hp).1
      exact ⟨g, h1, by rw [← (hM i p hi hp).2]; exact h2⟩ }
theorem CoreQ.mono (h : CoreQ q F B w d m L ng okD okM T Y ends) {G : Nat → Prop} (hG : ∀ k, F k → G k) : CoreQ q G B w d m L ng okD okM T Y ends :=
  { h with
    dF := fun g hg => hG g (h.dF g hg)
    sF := fun g hg => hG g (h.sF g hg)
    eF := fun g hg => hG g (h.eF g hg)
    dsub := fun i k hi hk => ⟨hG k (h.dsub i k hi hk).1, (h.dsub i k hi hk).2⟩
    seg := fun j g hj => ⟨hG g (h.seg j g hj).1, (h.seg j g hj).2⟩
    fB := hG B h.fB }
end
theorem dimAt_old {fs : List FactT} {f : FactT} {i p : Nat} (h : p < fs.length) : dimAt (fs ++ [f]) i p = dimAt fs i p := by
  have e : (fs ++ [f]).getD p fact0 = fs.getD p fact0 := by rw [List.getD_eq_getElem?_getD, List.getElem?_append_left h, List.getD_eq_getElem?_getD]
  unfold dimAt; rw [e]
theorem dimAt_new {fs : List FactT} {f : FactT} {i : Nat} : dimAt (fs ++ [f]) i fs.length = f.dims.getD i ByteArray.empty := by
  have e : (fs ++ [f]).getD fs.length fact0 = f := by rw [List.getD_eq_getElem?_getD, List.getElem?_append_right (Nat.le_refl _)]; simp
  unfold dimAt; rw [e]
theorem meaAt_old {fs : List FactT} {f : FactT} {i p : Nat} (h : p < fs.length) : meaAt (fs ++ [f]) i p = meaAt fs i p := by
  have e : (fs ++ [f]).getD p fact0 = fs.getD p fact0 := by rw [List.getD_eq_getElem?_getD, List.getElem?_append_left h, List.getD_eq_getElem?_getD]
  unfold meaAt; rw [e]
theorem meaAt_new {fs : List FactT} {f : FactT} {i : Nat} : meaAt (fs ++ [f]) i fs.length = f.meas.getD i 0 := by
  have e : (fs ++ [f]).getD fs.length fact0 = f := by rw [List.getD_eq_getElem?_getD, List.getElem?_append_right (Nat.le_refl _)]; simp
  unfold meaAt; rw [e]
theorem valsI_push (fs : List FactT) (f : FactT) (i : Nat) : valsI (fs ++ [f]) i = putL (valsI fs i) (f.dims.getD i ByteArray.empty) := by
  unfold valsI col puts
  rw [List.map_append, List.foldl_append]
  rfl
theorem valsI_append (fs l : List FactT) (i : Nat) : valsI (fs ++ l) i = puts (valsI fs i) (col i l) := by
  unfold valsI col puts
  rw [List.map_append, List.foldl_append]
theorem puts_mono (L ts us : List ByteArray) : (puts L ts).length ≤ (puts L (ts ++ us)).length := by
  have : puts L (ts ++ us) = puts (puts L ts) us := by unfold puts; rw [List.foldl_append]
  rw [this, puts_pre (puts L ts) us, List.length_append]
  omega
theorem info57 : (Try.prog.info? 57).map (fun i => (i.zero, i.size, i.bytes)) = some (some (.pointer none), 1, 8) := by kernel_rfl
theorem info3 : (Try.prog.info? 3).map (fun i => (i.zero, i.size, i.bytes)) = some (some (.int .i64 0), 1, 8) := by kernel_rfl

theorem Turn.wide {F G : Nat → Prop} {w w1 w2 : World} (h : Turn F w w1) (k : Turn G w1 w2) (hG : ∀ x, G x → F x ∨ w.heap.size ≤ x) : Turn F w w2 :=
  ⟨k.os.trans h.os, k.tape.trans h.tape, k.output.trans h.output, Nat.le_trans h.size k.size, fun i hi hn => (k.block i (Nat.lt_of_lt_of_le hi h.size) (fun hg => by rcases hG i hg with h' | h'; exact hn h'; omega)).trans (h.block i hi hn)⟩
/-- one fact f is being laid behind the facts gs: its dimensions below j, its measures below i, into segment g; c9 is the walk's own copy of it -/
structure In (F : Nat → Prop) (w : World) (B d m : Nat) (gs : List FactT) (f : FactT) (ends : List Nat) (c9 : Nat) (cs9 : Array Value) (g j i : Nat) (wr : World) : Prop where
  turn : Turn F w wr
  blk9 : Blk wr c9 41 cs9
  core : ∃ (q : PartsV) (F2 : Nat → Prop), CoreQ q F2 B wr d m (fun a => if a < j then putL (valsI gs a) (f.dims.getD a ByteArray.empty) else valsI gs a) (gs.length / 256 + 1)
      (fun a p => p < gs.length ∨ (a < j ∧ p = gs.length)) (fun a p => p < gs.length ∨ (a < i ∧ p = gs.length)) (dimAt (gs ++ [f])) (meaAt (gs ++ [f])) ends ∧
    (∀ x, F2 x → F x ∨ (w.heap.size ≤ x ∧ x < wr.heap.size ∧ x ≠ c9)) ∧ q.gs[gs.length / 256]? = some g
theorem In.start {F F2 : Nat → Prop} {w wr : World} {B d m : Nat} {gs : List FactT} {f : FactT} {ends : List Nat} {c9 : Nat} {cs9 : Array Value} {g : Nat} {q : PartsV} (ht : Turn F w wr) (hb : Blk wr c9 41 cs9)
    (h : CoreQ q F2 B wr d m (valsI gs) (gs.length / 256 + 1) (fun _ p => p < gs.length) (fun _ p => p < gs.length) (dimAt gs) (meaAt gs) ends) (hF : ∀ x, F2 x → F x ∨ (w.heap.size ≤ x ∧ x < wr.heap.size ∧ x ≠ c9)) (hg : q.gs[gs.length / 256]? = some g) :
    In F w B d m gs f ends c9 cs9 g 0 0 wr :=
  ⟨ht, hb, q, F2, h.congr (fun i _ => by simp) (fun i p _ hp => by
      have hp : p < gs.length := by rcases hp with h | h; exact h; omega
      exact ⟨hp, (dimAt_old hp).symm⟩) (fun i p _ hp => by
      have hp : p < gs.length := by rcases hp with h | h; exact h; omega
      exact ⟨hp, (meaAt_old hp).symm⟩), hF, hg⟩
theorem In.done {F : Nat → Prop} {w wr : World} {B d m : Nat} {gs : List FactT} {f : FactT} {ends : List Nat} {c9 : Nat} {cs9 : Array Value} {g : Nat} (h : In F w B d m gs f ends c9 cs9 g d m wr) :
    Turn F w wr ∧ ∃ F2 : Nat → Prop, (∀ x, F2 x → F x ∨ (w.heap.size ≤ x ∧ x < wr.heap.size)) ∧ Core F2 B wr d m (valsI (gs ++ [f])) (((gs ++ [f]).length + 255) / 256) (fun _ p => p < (gs ++ [f]).length) (fun _ p => p < (gs ++ [f]).length) (dimAt (gs ++ [f])) (meaAt (gs ++ [f])) ends := by
  obtain ⟨ht, -, q, F2, hq, hF, -⟩ := h
  refine ⟨ht, F2, fun x hx => (hF x hx).imp id (fun h => ⟨h.1, h.2.1⟩), q, ?_⟩
  have e : ((gs ++ [f]).length + 255) / 256 = gs.length / 256 + 1 := by rw [List.length_append]; simp only [List.length_singleton]; omega
  rw [e]
  have e2 : (gs ++ [f]).length = gs.length + 1 := by simp
  rw [e2]
  refine hq.congr (fun i hi => ?_) (fun i p hi hp => ⟨by omega, rfl⟩) (fun i p hi hp => ⟨by omega, rfl⟩)
  rw [valsI_push]; simp [hi]
theorem In.dim {F : Nat → Prop} {w wr w2 : World} {B d m : Nat} {gs : List FactT} {f : FactT} {ends : List Nat} {c9 : Nat} {cs9 : Array Value} {g j : Nat} {q : PartsV} {F2 : Nat → Prop} (ht : Turn F w wr) (hb : Blk wr c9 41 cs9)
    (hq : CoreQ q F2 B wr d m (fun a => if a < j then putL (valsI gs a) (f.dims.getD a ByteArray.empty) else valsI gs a) (gs.length / 256 + 1)
      (fun a p => p < gs.length ∨ (a < j ∧ p = gs.length)) (fun a p => p < gs.length ∨ (a < 0 ∧ p = gs.length)) (dimAt (gs ++ [f])) (meaAt (gs ++ [f])) ends)
    (hF : ∀ x, F2 x → F x ∨ (w.heap.size ≤ x ∧ x < wr.heap.size ∧ x ≠ c9)) (hc9 : w.heap.size ≤ c9) (hFw : ∀ x, F x → x < w.heap.size) (hg : q.gs[gs.length / 256]? = some g) (hj : j < d) {D : Nat} (hD : q.ds[j]? = some D) (h2 : Turn (q.Fs j) wr w2)
    (hd : DictAt (fun k => q.Fs j k ∨ (wr.heap.size ≤ k ∧ k < w2.heap.size)) D w2 (putL (valsI gs j) (f.dims.getD j ByteArray.empty))) :
    In F w B d m gs f ends c9 cs9 g (j + 1) 0 (w2.setCell ⟨g, j * 256 + gs.length % 256, none⟩ (.int .u16 (putN (valsI gs j) (f.dims.getD j ByteArray.empty) : Nat))) := by
  have hL : (if j < j then putL (valsI gs j) (f.dims.getD j ByteArray.empty) else valsI gs j) = valsI gs j := by simp
  obtain ⟨q', hq1, hq2, hq'⟩ := hq.putD (i0 := j) (p0 := gs.length) (t := f.dims.getD j ByteArray.empty) hj hD hg h2 (by simp only [hL]; exact hd) (by omega)
  simp only [hL] at hq'
  have hFs : ∀ x, q.Fs j x → F2 x := fun x hx => (hq.dsub j x hj hx).1
  have hlt : c9 < wr.heap.size := hb.lt
  have hn9 : ¬ F2 c9 := fun h => by rcases hF c9 h with h | h; have := hFw c9 h; omega; exact h.2.2 rfl
  have hgF : F2 g := (hq.seg _ g hg).1
  have hgne : g ≠ c9 := fun e => hn9 (e ▸ hgF)
  have htt : Turn (fun x => F2 x) wr w2 := h2.mono (fun k _ hk => hFs k hk)
  refine ⟨?_, Blk.other (Blk.turn hb htt hn9) hgne _, q', _, hq'.congr (fun i hi => ?_) (fun i p hi hp => ?_) (fun i p hi hp => ⟨hp, rfl⟩), fun x hx => ?_, by rw [hq1]; exact hg⟩
  · have h3 : Turn F w w2 := ⟨htt.os.trans ht.os, htt.tape.trans ht.tape, htt.output.trans ht.output, Nat.le_trans ht.size htt.size, fun k hk hn => by
      refine (htt.block k (Nat.lt_of_lt_of_le hk ht.size) (fun h => ?_)).trans (ht.block k hk hn)
      rcases hF k h with h | h
      · exact hn h
      · omega⟩
    rcases hF g hgF with h | h
    · exact h3.setCell (p := ⟨g, j * 256 + gs.length % 256, none⟩) h _
    · exact ⟨h3.os, h3.tape, h3.output, by simpa using h3.size, fun k hk hn => (Below.heap_setCell _ _ _ _ (show k ≠ g by omega)).trans (h3.block k hk hn)⟩
  · by_cases hij : i = j
    · subst hij; simp
    · have : (i < j + 1) = (i < j) := by apply propext; omega
      simp [hij, this]
  · refine ⟨?_, ?_⟩
    · rcases hp with h | ⟨h1, h2⟩
      · exact .inl (.inl h)
      · by_cases hij : i = j
        · exact .inr ⟨hij, h2⟩
        · exact .inl (.inr ⟨by omega, h2⟩)
    · by_cases hij : i = j ∧ p = gs.length
      · obtain ⟨rfl, rfl⟩ := hij
        rw [if_pos ⟨rfl, rfl⟩, dimAt_new]
      · rw [if_neg hij]
  · have hs2 : (w2.setCell ⟨g, j * 256 + gs.length % 256, none⟩ (.int .u16 (putN (valsI gs j) (f.dims.getD j ByteArray.empty) : Nat))).heap.size = w2.heap.size := by simp
    have h1 := htt.size
    have h0 := ht.size
    rw [hs2]
    rcases hx with h | h
    · exact (hF x h).imp id (fun h => ⟨h.1, by omega, h.2.2⟩)
    · exact .inr ⟨by omega, h.2, by omega⟩
theorem In.mea {F : Nat → Prop} {w wr : World} {B d m : Nat} {gs : List FactT} {f : FactT} {ends : List Nat} {c9 : Nat} {cs9 : Array Value} {g i : Nat} (h : In F w B d m gs f ends c9 cs9 g d i wr)
    (hc9 : w.heap.size ≤ c9) (hFw : ∀ x, F x → x < w.heap.size) (hi : i < m) :
    In F w B d m gs f ends c9 cs9 g d (i + 1) (wr.setCell ⟨g, 1536 + i * 256 + gs.length % 256, none⟩ (.int .i64 (f.meas.getD i 0))) := by
  obtain ⟨ht, hb, q, F2, hq, hF, hg⟩ := h
  have hq' := hq.putM (i0 := i) (p0 := gs.length) (n := f.meas.getD i 0) hi hg (by omega)
  have hlt : c9 < wr.heap.size := hb.lt
  have hn9 : ¬ F2 c9 := fun h => by rcases hF c9 h with h | h; have := hFw c9 h; omega; exact h.2.2 rfl
  have hgF : F2 g := (hq.seg _ g hg).1
  have hgne : g ≠ c9 := fun e => hn9 (e ▸ hgF)
  refine ⟨?_, Blk.other hb hgne _, q, F2, hq'.congr (fun i hi => rfl) (fun i p hi hp => ⟨hp, rfl⟩) (fun a p ha hp => ?_), fun x hx => (hF x hx).imp id (fun h => ⟨h.1, by simpa using h.2.1, h.2.2⟩), hg⟩
  · rcases hF g hgF with h | h
    · exact ht.setCell (p := ⟨g, 1536 + i * 256 + gs.length % 256, none⟩) h _
    · exact ⟨ht.os, ht.tape, ht.output, by simpa using ht.size, fun k hk hn => (Below.heap_setCell _ _ _ _ (show k ≠ g by omega)).trans (ht.block k hk hn)⟩
  · refine ⟨?_, ?_⟩
    · rcases hp with h | ⟨h1, h2⟩
      · exact .inl (.inl h)
      · by_cases hij : a = i
        · exact .inr ⟨hij, h2⟩
        · exact .inl (.inr ⟨by omega, h2⟩)
    · by_cases hij : a = i ∧ p = gs.length
      · obtain ⟨rfl, rfl⟩ := hij
        rw [if_pos ⟨rfl, rfl⟩, meaAt_new]
      · rw [if_neg hij]
theorem built64 : (Try.prog.built 64 []).map (·.size) = some 2560 := by kernel_rfl
theorem built64' : ∃ Z : Array Value, Z.size = 2560 ∧ Try.prog.built 64 [] = some Z := by
  have h := built64
  cases hb : Try.prog.built 64 [] with
  | none => rw [hb] at h; cases h
  | some Z =>
    rw [hb] at h
    exact ⟨Z, by simpa using h, rfl⟩

theorem In.start9 {F F2 : Nat → Prop} {w wc w5 : World} {B d m : Nat} {gs : List FactT} {f : FactT} {ends : List Nat} {c9 : Nat} {cs9 Z : Array Value} {q : PartsV} {v' : Value} (ht : Turn F w wc) (hb : Blk wc c9 41 cs9)
    (h : CoreQ q F2 B wc d m (valsI gs) (gs.length / 256) (fun _ p => p < gs.length) (fun _ p => p < gs.length) (dimAt gs) (meaAt gs) ends) (hF : ∀ x, F2 x → F x ∨ (w.heap.size ≤ x ∧ x < wc.heap.size ∧ x ≠ c9)) (hFw : ∀ x, F x → x < w.heap.size) (hc9 : w.heap.size ≤ c9)
    (hZ : Z.size = 2560) (hfew : gs.length < 4294967296) (hown : w5.ownsRow 0 57 1 v' (gs.length / 256 + 1) (q.gs.map ptrV ++ [ptrV wc.heap.size]))
    (hg : ((wc.alloc (Obj.cells Z 64)).alloc (Obj.cells #[ptrV wc.heap.size] 57)).grownBy w5 q.vS.ownBlock) (hat : v'.ownBlock = q.vS.ownBlock ∨ v'.ownBlock = some (wc.heap.size + 2)) :
    In F w B d m gs f ends c9 cs9 wc.heap.size 0 0 (w5.setCell ⟨B, 2, none⟩ v') := by
  obtain ⟨q', h1, h2, h3⟩ := h.putS hZ (by omega) hown hg hat
  have hn9 : ¬ F2 c9 := fun h => by rcases hF c9 h with h | h; have := hFw c9 h; omega; exact h.2.2 rfl
  have hG : Turn (fun k => k = B ∨ q.vS.ownBlock = some k) wc (w5.setCell ⟨B, 2, none⟩ v') := ((((Turn.refl (fun k => k = B ∨ q.vS.ownBlock = some k) wc).alloc _).alloc _).grown hg (fun g hg => .inr hg)).setCell (p := ⟨B, 2, none⟩) (.inl rfl) v'
  have hGF : ∀ x, x = B ∨ q.vS.ownBlock = some x → F2 x := fun x hx => by
    rcases hx with rfl | hx
    · exact h.fB
    · exact h.sF x hx
  have hlt := hb.lt
  have hsz : (w5.setCell ⟨B, 2, none⟩ v').heap.size = w5.heap.size := by simp
  have hs5 := hG.size
  refine In.start (ht.wide hG (fun x hx => (hF x (hGF x hx)).imp id (fun h => h.1))) (Blk.turn hb hG (fun h => hn9 (hGF _ h))) h3 (fun x hx => ?_) ?_
  · rcases hx with h | h
    · exact (hF x h).imp id (fun h => ⟨h.1, by omega, h.2.2⟩)
    · have := ht.size
      exact .inr ⟨by omega, by omega, by omega⟩
  · rw [h2, List.getElem?_append_right (by rw [h.sl]; exact Nat.le_refl _), h.sl, Nat.sub_self]; rfl

set_option maxRecDepth 100000 in
set_option maxHeartbeats 64000000 in
theorem append10 (F : Nat → Prop) (B : Nat) (d m : Nat) (fs : List FactT) (ends : List Nat) (v : Value) (l : List FactT) (w : World) (h : SAt F B w d m fs ends) (hr : RowK F w v l) (hl : ∀ f ∈ l, shortF f) (hF : ∀ k, F k → k < w.heap.size)
    (hbd : fs.length + 64 < 4294967296 ∧ ends.length + 1 < 4294967296) :
    Calls Try.prog 10 #[ptrV B, v] w fun e w' =>
      (checkE d m (valsI fs) l ≠ 0 ∧ e = .returned (.tuple #[.int .i64 0, .int .i64 (checkE d m (valsI fs) l)]) ∧ Below w.heap.size w w') ∨
      (checkE d m (valsI fs) l = 0 ∧ e = .returned (.tuple #[intV (ends.length + 1), .int .i64 0]) ∧ Turn F w w' ∧ SAt (fun k => F k ∨ (w.heap.size ≤ k ∧ k < w'.heap.size)) B w' d m (fs ++ l) (ends ++ [fs.length + l.length])) := by
  have hrow := hr.row (Turn.refl F w)
  have HCK := Lib.hid (check20 h.core w.heap.size (Nat.le_refl _) v l hrow hl)
  have HCE := Lib.hid (show checkE d m (valsI fs) l = if 64 < l.length then 46 else if l.any (fun f => !(rightF d m f)) then 26 else if (List.range d).any (fun i => decide (4096 < (puts (valsI fs i) (col i l)).length)) then 12 else 0 from rfl)
  obtain ⟨ps, hps, hrk⟩ := hr
  obtain ⟨⟨a, cap, rfl, hcap, hmax, -⟩, -⟩ := hrk w (Turn.refl F w)
  rw [hps] at HCK hcap hrk ⊢
  have HRK := Lib.hid hrk
  have HPS := Lib.hid hps
  have HS := Lib.hid h
  generalize checkE d m (valsI fs) l = ck at *
  unfold ptrV at HCK ⊢
  by_cases hck : ck = 0
  · subst hck
    have HLT := Lib.hid (show l.length ≤ 64 ∧ (∀ f ∈ l, rightF d m f = true) ∧ ∀ i, i < d → (puts (valsI fs i) (col i l)).length ≤ 4096 by
      have hce := HCE.out
      by_cases h1 : 64 < l.length
      · rw [if_pos h1] at hce; cases hce
      · rw [if_neg h1] at hce
        by_cases h2 : l.any (fun f => !(rightF d m f)) = true
        · rw [if_pos h2] at hce; cases hce
        · rw [if_neg h2] at hce
          by_cases h3 : (List.range d).any (fun i => decide (4096 < (puts (valsI fs i) (col i l)).length)) = true
          · rw [if_pos h3] at hce; cases hce
          · refine ⟨by omega, fun f hf => ?_, fun i hi => ?_⟩
            · have h2 : l.any (fun f => !(rightF d m f)) = false := by rw [Bool.not_eq_true] at h2; exact h2
              have := List.any_eq_false.1 h2 f hf
              cases hr2 : rightF d m f with
              | true => rfl
              | false => rw [hr2] at this; exact absurd rfl this
            · have h3 : (List.range d).any (fun i => decide (4096 < (puts (valsI fs i) (col i l)).length)) = false := by rw [Bool.not_eq_true] at h3; exact h3
              have := List.any_eq_false.1 h3 i (List.mem_range.2 hi)
              simp only [decide_eq_true_eq] at this
              omega)
    have hl64 := HLT.out.1
    clear HCE h hrow hl hrk hps
    go_enter Try.func10, Try.ntmps10
    go_wp2_with fail
    refine HCK.out.mono ?_
    rintro e w1 ⟨rfl, hB1⟩
    have hS1 := HS.out.core.below hB1
    have HLN := Lib.hid (len16 hS1)
    have HB1 := Lib.hid hB1
    have HC1 := Lib.hid hS1
    rw [HS.out.last] at HLN
    unfold ptrV intV at HLN
    clear hS1 hB1
    go_wp2_with fail
    refine HLN.out.mono ?_
    rintro e w2 ⟨rfl, n2, rfl⟩
    have HT2 := Lib.hid (show Turn F w (w1.drewN n2) from Turn.of_below (Below.drewN HB1.out n2) (fun k h1 h2 => by omega))
    have HC2 := Lib.hid (HC1.out.below (Below.drewN (Below.refl _ w1) n2))
    have HSZ2 := Lib.hid (show w.heap.size ≤ (w1.drewN n2).heap.size from (Below.drewN HB1.out n2).size)
    generalize w1.drewN n2 = w2 at *
    clear HC1 HB1 HLN HCK
    go_wp2_with fail
    go_loopw [7, 28] (fun t i wr => ∃ (k : Nat) (F2 : Nat → Prop), k ≤ l.length ∧ i = .int .i64 k ∧ t = .int .i64 ((fs.length + k : Nat) : Int) ∧ Turn F w wr ∧ (∀ x, F2 x → F x ∨ (w.heap.size ≤ x ∧ x < wr.heap.size)) ∧
      Core F2 B wr d m (valsI (fs ++ l.take k)) ((fs.length + k + 255) / 256) (fun _ p => p < fs.length + k) (fun _ p => p < fs.length + k) (dimAt (fs ++ l.take k)) (meaAt (fs ++ l.take k)) ends) (fun _ i _ => l.length - (intOf i).toNat)
    case atStart => exact ⟨0, F, by omega, rfl, by simp, HT2.out, fun x hx => .inl hx, by simpa using HC2.out⟩
    case round =>
      obtain ⟨k, F2, hk, rfl, rfl, hT, hF2, hC⟩ := hrel
      have hbd1 := hbd.1
      by_cases hlt : k < l.length
      · skip
        obtain ⟨⟨vd, vm⟩, hget⟩ : ∃ p, ps[k]? = some p := ⟨_, List.getElem?_eq_getElem (by rw [HPS.out]; exact hlt)⟩
        obtain ⟨f, hgetf⟩ : ∃ p, l[k]? = some p := ⟨_, List.getElem?_eq_getElem hlt⟩
        obtain ⟨⟨a', cap', hv', -, -, hcl⟩, -⟩ := HRK.out wr hT
        obtain ⟨-, hfl⟩ := HRK.out wr hT
        obtain ⟨hdr, hmr⟩ := hfl k f _ hgetf hget
        injection hv' with hv1 hv2 hv3
        subst hv1
        obtain ⟨g0, off, rfl, hg0, hcell⟩ := hcl (by rw [HPS.out]; omega)
        obtain ⟨ad, cd, hvd, hcd1, hcd2, hcd⟩ := hdr.open
        obtain ⟨am, cm, hvm, hcm1, hcm2, hcm⟩ := hmr.open
        simp only at hvd hvm
        subst hvd hvm
        have hgood := HLT.out.2.1 f (List.mem_of_getElem? hgetf)
        unfold rightF at hgood
        simp only [Bool.and_eq_true, decide_eq_true_eq, Bool.not_eq_true'] at hgood
        obtain ⟨⟨hg1, hg2⟩, hg3⟩ := hgood
        have HG3 := Lib.hid hg3
        have HRD := Lib.hid (show ∀ w', Turn F w w' → 0 < d → ∃ bd od, ad = some ⟨bd, od, none⟩ ∧ ∀ j, j < d → w'.cell? ⟨bd, od + j, none⟩ = some (.string (f.dims.getD j ByteArray.empty)) from fun w' ht h0 => by
          obtain ⟨a2, c2, hv2, -, -, hc2⟩ := ((HRK.out w' ht).2 k f _ hgetf hget).1.open
          simp only at hv2
          injection hv2 with e1 e2 e3
          subst e1
          obtain ⟨bd, od, h1, -, h2⟩ := hc2 (by omega)
          exact ⟨bd, od, h1, fun j hj => h2 j (by omega)⟩)
        have HRM := Lib.hid (show ∀ w', Turn F w w' → 0 < m → ∃ bd od, am = some ⟨bd, od, none⟩ ∧ ∀ j, j < m → w'.cell? ⟨bd, od + j, none⟩ = some (.int .i64 (f.meas.getD j 0)) from fun w' ht h0 => by
          obtain ⟨a2, c2, hv2, -, -, hc2⟩ := ((HRK.out w' ht).2 k f _ hgetf hget).2.open
          simp only at hv2
          injection hv2 with e1 e2 e3
          subst e1
          obtain ⟨bd, od, h1, -, h2⟩ := hc2 (by omega)
          exact ⟨bd, od, h1, fun j hj => h2 j (by omega)⟩)
        rw [hg1] at hcd hcd1 hget
        rw [hg2] at hcm hcm1 hget
        have x0 : wr.cell? ⟨g0, off + k * 2 + 0, none⟩ = some (.slice ad d cd) := hcell k _ hget 0 (by omega)
        have x1 : wr.cell? ⟨g0, off + k * 2 + 1, none⟩ = some (.slice am m cm) := hcell k _ hget 1 (by omega)
        have HX := Lib.hid (And.intro x0 x1)
        have HGET := Lib.hid (And.intro hget hgetf)
        have HTF := Lib.hid (And.intro hT (And.intro hF2 hC))
        have hkI : decide ((k : Int) < l.length) = true := decide_eq_true (by omega)
        clear hcell hget hgetf hdr hmr hcd hcm hg3 x0 x1 hT hF2 hC hcl hfl hv2 hv3
        go_upto_region 8 with (refine wpList_load_at rfl 41 _ rfl g0 (off + k * 2) rfl #[.slice ad d cd, .slice am m cm] _ (fun j hj => by match j, hj with | 0, _ => exact HX.out.1 | 1, _ => exact HX.out.2) Try.underlying41 rfl info41 ?_)
        obtain ⟨wc, hwc⟩ : ∃ wc, wc = wr.alloc (Obj.cells #[.slice ad d cd, .slice am m cm] 41) := ⟨_, rfl⟩
        obtain ⟨c9, hc9⟩ : ∃ c9, c9 = wr.heap.size := ⟨_, rfl⟩
        have HWC := Lib.hid (And.intro hwc hc9)
        rw [← hwc, ← hc9]
        clear hwc hc9
        obtain ⟨hT, hF2, hC⟩ := HTF.out
        have hglen : (fs ++ l.take k).length = fs.length + k := by rw [List.length_append, List.length_take]; omega
        have hgs1 : fs ++ l.take (k + 1) = (fs ++ l.take k) ++ [f] := by rw [List.take_add_one, HGET.out.2]; simp
        have hroom : ∀ i, i < d → (putL (valsI (fs ++ l.take k) i) (f.dims.getD i ByteArray.empty)).length ≤ 4096 := fun i hi => by
          rw [← valsI_push, ← hgs1, valsI_append]
          have h1 := puts_mono (valsI fs i) (col i (l.take (k + 1))) (col i (l.drop (k + 1)))
          have e : col i (l.take (k + 1)) ++ col i (l.drop (k + 1)) = col i l := by unfold col; rw [← List.map_append, List.take_append_drop]
          rw [e] at h1
          have := HLT.out.2.2 i hi
          omega
        obtain ⟨gs, hgs⟩ : ∃ gs, gs = fs ++ l.take k := ⟨_, rfl⟩
        rw [← hgs] at hglen hgs1 hroom hC
        obtain ⟨q, hq⟩ := hC
        have hFw : ∀ x, F x → x < w.heap.size := hF
        have hnew9 := Blk.new wr 41 #[.slice ad d cd, .slice am m cm]
        rw [← HWC.out.1, ← HWC.out.2] at hnew9
        have hcF : Turn (fun _ => False) wr wc := by rw [HWC.out.1]; exact (Turn.refl _ wr).alloc _
        have hqc := hq.keep hcF (fun k _ h => h)
        have hTc : Turn F w wc := by rw [HWC.out.1]; exact hT.alloc _
        have hwr9 : wr.heap.size = c9 := HWC.out.2.symm
        have hwc9 : wc.heap.size = c9 + 1 := by rw [HWC.out.1, alloc_size, hwr9]
        have hFc : ∀ x, F2 x → F x ∨ (w.heap.size ≤ x ∧ x < wc.heap.size ∧ x ≠ c9) := fun x hx => (hF2 x hx).imp id (fun h => ⟨h.1, by omega, by omega⟩)
        have h9w : w.heap.size ≤ c9 := by have := hT.size; omega
        have HGS := Lib.hid (And.intro hgs (And.intro hgs1 hroom))
        rw [← hglen] at hqc
        have HGL := Lib.hid hglen
        have hn9 : gs.length < 4294967296 := by omega
        have H9 := Lib.hid (And.intro hnew9 (And.intro hqc (And.intro hTc (And.intro hFc h9w))))
        have hhm := hqc.hm
        have hhd := hqc.hd
        clear hT hF2 hq hcF hTc hwr9 hwc9 hFc h9w hgs hgs1 hroom hqc hnew9
        obtain ⟨q1, q2, q3, q4, q5, q6⟩ := q
        have hsO := H9.out.2.1.sO
        have hbB := H9.out.2.1.blk
        simp only at hsO hbB
        obtain ⟨aS, cS, rfl⟩ := owns_form hsO
        have z2 : wc.cell? ⟨B, 2, none⟩ = some (.slice aS ((gs.length + 255) / 256) cS) := Blk.cell hbB 2
        have fr2 : wc.frozen? ⟨B, 2, none⟩ = false := Blk.free hbB 2
        obtain ⟨n, hn⟩ : ∃ n, n = gs.length := ⟨_, rfl⟩
        have hnn : (fs.length : Int) + (k : Int) = (n : Int) := by omega
        simp only [hnn]
        rw [← hn] at z2 hn9 H9
        clear hglen hsO hbB hnn
        have HN := Lib.hid hn
        clear hn
        by_cases hr0 : n % 256 = 0
        · have hng : (n + 255) / 256 = n / 256 := by omega
          rw [hng] at z2 H9
          have d8 : (((n / 256 : Nat) : Int) == ((n / 256 : Nat) : Int)) = true := by simp
          obtain ⟨i0, hi0, hz0, hz1, hz2⟩ := info_parts info57
          obtain ⟨Z, hZ1, hZ2⟩ := built64'
          have HZ := Lib.hid (And.intro hZ1 hZ2)
          clear hng hr0 hZ1 hZ2
          go_upto_region 10 with (first | (refine wpList_buildTo rfl 64 _ rfl (some 45) rfl Z (by simpa using HZ.out.2) ?_) | (at_builtin; go_loud (refine wpList_append_own5 _ rfl _ _ 47 rfl 0 57 i0 (.pointer none) 1 8 Try.underlying47 hi0 hz0 hz1 hz2 rfl (by decide) (.slice aS (n / 256) cS) (n / 256) _ rfl ((H9.out.2.1.sO.alloc (Obj.cells Z 64)).alloc (Obj.cells #[ptrV wc.heap.size] 57)) ⟨wc.heap.size + 1, 0, none⟩ 1 1 [ptrV wc.heap.size] rfl rfl (by have := cell_one_new' (wc.alloc (Obj.cells Z 64)) 57 (ptrV wc.heap.size); simpa [ptrV] using this) (by intro u hu; simp at hu; subst hu; rfl) (by unfold maxLen; omega) (by omega) (Nat.zero_le _) ?_); intro v' w5 hown5 hgrow hat; have hb5 := Blk.grown ((H9.out.2.1.blk.alloc (Obj.cells Z 64)).alloc (Obj.cells #[ptrV wc.heap.size] 57)) hgrow (fun e => owns_ne H9.out.2.1.sO H9.out.2.1.blk (by decide) B e.symm rfl); have f0 := Blk.free hb5 2; have g0 := Blk.cell hb5 2; clear hb5; obtain ⟨v5a, v5c, hv5⟩ := owns_form hown5; subst hv5))
          have HI := Lib.hid (In.start9 (f := f) (q := ⟨q1, .slice aS (n / 256) cS, q3, q4, q5, q6⟩) H9.out.2.2.1 H9.out.1 (by rw [← HN.out]; exact H9.out.2.1) H9.out.2.2.2.1 hFw H9.out.2.2.2.2 HZ.out.1 (by have := HN.out; omega) (by rw [← HN.out]; exact hown5) hgrow (hat.imp id (fun h => h.trans (by simp))))
          generalize w5.setCell ⟨B, 2, none⟩ (.slice v5a (n / 256 + 1) v5c) = w9 at HI ⊢
          clear hown5 hgrow hat f0 g0 H9 HZ z2 fr2 d8
          generalize wc.heap.size = g at *
          obtain ⟨-, hb9, q, F3, hq, -, hgg⟩ := HI.out
          obtain ⟨p1, p2, p3, p4, p5, p6⟩ := q
          have hsO := hq.sO
          have hbB := hq.blk
          rw [← HN.out] at hsO hgg
          simp only at hsO hbB hgg
          obtain ⟨hl2, aS2, cS2, hv2, hcap2, hmax2, hc2⟩ := Row.of_owns hsO
          subst hv2
          obtain ⟨gb, go2, rfl, hgb, hcell2⟩ := hc2 (by omega)
          have z2 : w9.cell? ⟨B, 2, none⟩ = some (.slice (some ⟨gb, go2, none⟩) (n / 256 + 1) cS2) := Blk.cell hbB 2
          have zz : w9.cell? ⟨gb, go2 + n / 256, none⟩ = some (.pointer (some ⟨g, 0, none⟩)) := by
            rw [hcell2 (n / 256) (by omega), List.getD_eq_getElem?_getD, List.getElem?_map, hgg]
            rfl
          have y0 : w9.cell? ⟨c9, 0, none⟩ = some (.slice ad d cd) := Blk.cell hb9 0
          clear hcell2 hc2 hsO hbB hgg hq hb9 hl2 hgb
          go_wp2_with fail
          clear z2 zz y0
          go_loopw [64] (fun i wr' => ∃ j : Nat, j ≤ d ∧ i = .int .i64 j ∧ In F w B d m gs f ends c9 #[.slice ad d cd, .slice am m cm] g j 0 wr') (fun i _ => d - (intOf i).toNat)
          case atStart => exact ⟨0, by omega, rfl, HI.out⟩
          case round =>
            obtain ⟨j, hj, rfl, hin⟩ := hrel
            clear HI
            by_cases hjd : j < d
            · obtain ⟨hTt, hb9, q, F4, hq, hFb, hgg⟩ := hin
              obtain ⟨bd, od, had, hrd⟩ := HRD.out _ hTt (by omega)
              have hx := hrd j hjd
              obtain ⟨D, hD⟩ : ∃ D, q.ds[j]? = some D := ⟨_, List.getElem?_eq_getElem (by rw [hq.dl]; exact hjd)⟩
              have hdict := hq.dict j D hD
              simp only [Nat.lt_irrefl, if_false] at hdict
              have hdO := hq.dO
              have hbB := hq.blk
              obtain ⟨csg, hbg, hsg⟩ := (hq.seg _ g hgg).2
              have hgF : ¬ q.Fs j g := fun hk => (hq.away j g hjd hk).2.2.2.2 (List.mem_of_getElem? hgg)
              have hroom := HGS.out.2.2 j hjd
              have htm : f.dims.getD j ByteArray.empty ∈ f.dims := getD_mem (by omega)
              have hts : (f.dims.getD j ByteArray.empty).size ≤ 64 := by
                have := List.any_eq_false.1 HG3.out _ htm
                simpa using this
              have HQ := Lib.hid (And.intro hTt (And.intro hb9 (And.intro hq (And.intro hFb (And.intro hgg hD)))))
              obtain ⟨vD, hvD⟩ : ∃ v, v = q.vD := ⟨_, rfl⟩
              obtain ⟨vS, hvS⟩ : ∃ v, v = q.vS := ⟨_, rfl⟩
              obtain ⟨vE, hvE⟩ : ∃ v, v = q.vE := ⟨_, rfl⟩
              rw [← hvD, ← hvS, ← hvE] at hbB
              rw [← hvD] at hdO
              clear hvD hvS hvE
              obtain ⟨-, aD, cD, hv3, hcap3, hmax3, hc3⟩ := Row.of_owns hdO
              subst hv3
              obtain ⟨vb, vo, rfl, hvb, hcell3⟩ := hc3 (by omega)
              have y0 : World.cell? wr ⟨B, 0, none⟩ = some (.slice (some ⟨vb, vo, none⟩) d cD) := Blk.cell hbB 0
              have y1 : World.cell? wr ⟨vb, vo + j, none⟩ = some (.pointer (some ⟨D, 0, none⟩)) := by
                rw [hcell3 j (by omega), List.getD_eq_getElem?_getD, List.getElem?_map, hD]
                rfl
              obtain ⟨t, ht⟩ : ∃ t, t = f.dims.getD j ByteArray.empty := ⟨_, rfl⟩
              rw [← ht] at hx hroom hts
              have HP := Lib.hid (put24 (q.Fs j) D (valsI gs j) t hts _ hdict (by
                unfold putL at hroom
                cases hi : idx (valsI gs j) t with
                | some i => exact .inl (by simp)
                | none => rw [hi] at hroom; simp at hroom; exact .inr (by omega)))
              have hN := putN_lt hroom
              have HNN := Lib.hid (show putN (valsI gs j) t = putN (valsI gs j) (f.dims.getD j ByteArray.empty) by rw [ht])
              have HTT := Lib.hid ht
              have hk256 : n % 256 < 256 := Nat.mod_lt _ (by omega)
              have hci : j * 256 + n % 256 < csg.size := by omega
              have HBG := Lib.hid (And.intro hbg (And.intro hgF hci))
              have hjI : decide ((j : Int) < d) = true := decide_eq_true (by omega)
              subst had
              clear hcell3 hc3 hdO hbB hq hb9 hFb hTt hgg hdict hrd htm hroom hts ht hgF hsg hD hbg hcap3 hmax3 hvb
              go_wp2_with fail
              refine HP.out.mono ?_
              rintro e w2 ⟨rfl, ht2, hd2⟩
              have hbg2 := Blk.turn HBG.out.1 ht2 HBG.out.2.1
              have fg := Blk.free hbg2 (j * 256 + n % 256)
              have cg := Blk.cell hbg2 (j * 256 + n % 256)
              rw [Array.getElem?_eq_getElem HBG.out.2.2] at cg
              have HD2 := Lib.hid (And.intro ht2 hd2)
              generalize putN (valsI gs j) t = N at *
              clear ht2 hd2 hbg2 y0 y1 hx HP
              go_wp2_with fail
              go_roundw
              case rel =>
                refine ⟨j + 1, by omega, by go_num, ?_⟩
                have hd9 := HD2.out.2
                rw [HTT.out] at hd9
                have h := In.dim HQ.out.1 HQ.out.2.1 HQ.out.2.2.1 HQ.out.2.2.2.1 (by have h1 := HTF.out.1.size; have h2 := HWC.out.2; omega) hF HQ.out.2.2.2.2.1 hjd HQ.out.2.2.2.2.2 HD2.out.1 hd9
                rw [← HNN.out, ← HN.out] at h
                exact h
              case measure => simp [intOf]; omega
            · obtain rfl : j = d := by omega
              have y0 : wr.cell? ⟨c9, 1, none⟩ = some (.slice am m cm) := Blk.cell hin.blk9 1
              have hjI : decide ((j : Int) < j) = false := by simp
              have HI2 := Lib.hid hin
              clear hin hjd
              go_wp2_with fail
              clear y0
              go_loopw [94] (fun i wr' => ∃ i1 : Nat, i1 ≤ m ∧ i = .int .i64 i1 ∧ In F w B j m gs f ends c9 #[.slice ad j cd, .slice am m cm] g j i1 wr') (fun i _ => m - (intOf i).toNat)
              case atStart => exact ⟨0, by omega, rfl, HI2.out⟩
              case round =>
                obtain ⟨i1, hi1, rfl, hin⟩ := hrel
                clear HI2
                rename_i wr3
                by_cases him : i1 < m
                · obtain ⟨bd, od, had, hrd⟩ := HRM.out _ hin.turn (by omega)
                  have hx := hrd i1 him
                  obtain ⟨q, F4, hq, hFb, hgg⟩ := hin.core
                  obtain ⟨csg, hbg, hsg⟩ := (hq.seg _ g hgg).2
                  have hk256 : n % 256 < 256 := Nat.mod_lt _ (by omega)
                  have hci : 1536 + i1 * 256 + n % 256 < csg.size := by omega
                  have fg := Blk.free hbg (1536 + i1 * 256 + n % 256)
                  have cg := Blk.cell hbg (1536 + i1 * 256 + n % 256)
                  rw [Array.getElem?_eq_getElem hci] at cg
                  obtain ⟨t, ht⟩ : ∃ t, t = f.meas.getD i1 0 := ⟨_, rfl⟩
                  rw [← ht] at hx
                  have HTT := Lib.hid ht
                  have HI3 := Lib.hid hin
                  have hjI : decide ((i1 : Int) < m) = true := decide_eq_true (by omega)
                  subst had
                  clear hin hq hFb hgg hbg hsg ht hrd
                  go_wp2_with fail
                  go_roundw
                  case rel =>
                    refine ⟨i1 + 1, by omega, by go_num, ?_⟩
                    have h := In.mea HI3.out (by have h1 := HTF.out.1.size; have h2 := HWC.out.2; omega) hF him
                    rw [← HTT.out, ← HN.out] at h
                    exact h
                  case measure => simp [intOf]; omega
                · obtain rfl : i1 = m := by omega
                  have hjI : decide ((i1 : Int) < i1) = false := by simp
                  have HI3 := Lib.hid hin
                  clear hin him
                  go_wp2_with fail
                  go_roundw
                  case rel =>
                    obtain ⟨hT9, F9, hF9, hC9⟩ := HI3.out.done
                    have hl9 : (gs ++ [f]).length = fs.length + (k + 1) := by rw [List.length_append, HGL.out]; rfl
                    rw [hl9, ← HGS.out.2.1] at hC9
                    refine ⟨k + 1, F9, by omega, by go_num, ?_, hT9, hF9, hC9⟩
                    have h1 := HN.out
                    have h2 := HGL.out
                    rw [show ((fs.length + (k + 1) : Nat) : Int) = (n : Int) + 1 by omega]
                  case measure => simp [intOf]; omega
        · have hng : (n + 255) / 256 = n / 256 + 1 := by omega
          rw [hng] at z2 H9
          have d8 : (((n / 256 : Nat) : Int) == ((n / 256 + 1 : Nat) : Int)) = false := by rw [beq_eq_false_iff_ne]; omega
          clear hng hr0
          go_upto_region 10 with fail
          obtain ⟨g, hg⟩ : ∃ g, q5[n / 256]? = some g := ⟨_, List.getElem?_eq_getElem (by have := H9.out.2.1.sl; simp only at this; omega)⟩
          have HI := Lib.hid (In.start (f := f) H9.out.2.2.1 H9.out.1 (by rw [← HN.out]; exact H9.out.2.1) H9.out.2.2.2.1 (by rw [← HN.out]; exact hg))
          clear hg H9 z2 fr2 d8
          obtain ⟨w9, hw9⟩ : ∃ w9, w9 = wc := ⟨_, rfl⟩
          rw [← hw9] at HI ⊢
          clear hw9
          obtain ⟨-, hb9, q, F3, hq, -, hgg⟩ := HI.out
          obtain ⟨p1, p2, p3, p4, p5, p6⟩ := q
          have hsO := hq.sO
          have hbB := hq.blk
          rw [← HN.out] at hsO hgg
          simp only at hsO hbB hgg
          obtain ⟨hl2, aS2, cS2, hv2, hcap2, hmax2, hc2⟩ := Row.of_owns hsO
          subst hv2
          obtain ⟨gb, go2, rfl, hgb, hcell2⟩ := hc2 (by omega)
          have z2 : w9.cell? ⟨B, 2, none⟩ = some (.slice (some ⟨gb, go2, none⟩) (n / 256 + 1) cS2) := Blk.cell hbB 2
          have zz : w9.cell? ⟨gb, go2 + n / 256, none⟩ = some (.pointer (some ⟨g, 0, none⟩)) := by
            rw [hcell2 (n / 256) (by omega), List.getD_eq_getElem?_getD, List.getElem?_map, hgg]
            rfl
          have y0 : w9.cell? ⟨c9, 0, none⟩ = some (.slice ad d cd) := Blk.cell hb9 0
          clear hcell2 hc2 hsO hbB hgg hq hb9 hl2 hgb
          go_wp2_with fail
          clear z2 zz y0
          go_loopw [64] (fun i wr' => ∃ j : Nat, j ≤ d ∧ i = .int .i64 j ∧ In F w B d m gs f ends c9 #[.slice ad d cd, .slice am m cm] g j 0 wr') (fun i _ => d - (intOf i).toNat)
          case atStart => exact ⟨0, by omega, rfl, HI.out⟩
          case round =>
            obtain ⟨j, hj, rfl, hin⟩ := hrel
            clear HI
            by_cases hjd : j < d
            · obtain ⟨hTt, hb9, q, F4, hq, hFb, hgg⟩ := hin
              obtain ⟨bd, od, had, hrd⟩ := HRD.out _ hTt (by omega)
              have hx := hrd j hjd
              obtain ⟨D, hD⟩ : ∃ D, q.ds[j]? = some D := ⟨_, List.getElem?_eq_getElem (by rw [hq.dl]; exact hjd)⟩
              have hdict := hq.dict j D hD
              simp only [Nat.lt_irrefl, if_false] at hdict
              have hdO := hq.dO
              have hbB := hq.blk
              obtain ⟨csg, hbg, hsg⟩ := (hq.seg _ g hgg).2
              have hgF : ¬ q.Fs j g := fun hk => (hq.away j g hjd hk).2.2.2.2 (List.mem_of_getElem? hgg)
              have hroom := HGS.out.2.2 j hjd
              have htm : f.dims.getD j ByteArray.empty ∈ f.dims := getD_mem (by omega)
              have hts : (f.dims.getD j ByteArray.empty).size ≤ 64 := by
                have := List.any_eq_false.1 HG3.out _ htm
                simpa using this
              have HQ := Lib.hid (And.intro hTt (And.intro hb9 (And.intro hq (And.intro hFb (And.intro hgg hD)))))
              obtain ⟨vD, hvD⟩ : ∃ v, v = q.vD := ⟨_, rfl⟩
              obtain ⟨vS, hvS⟩ : ∃ v, v = q.vS := ⟨_, rfl⟩
              obtain ⟨vE, hvE⟩ : ∃ v, v = q.vE := ⟨_, rfl⟩
              rw [← hvD, ← hvS, ← hvE] at hbB
              rw [← hvD] at hdO
              clear hvD hvS hvE
              obtain ⟨-, aD, cD, hv3, hcap3, hmax3, hc3⟩ := Row.of_owns hdO
              subst hv3
              obtain ⟨vb, vo, rfl, hvb, hcell3⟩ := hc3 (by omega)
              have y0 : World.cell? wr ⟨B, 0, none⟩ = some (.slice (some ⟨vb, vo, none⟩) d cD) := Blk.cell hbB 0
              have y1 : World.cell? wr ⟨vb, vo + j, none⟩ = some (.pointer (some ⟨D, 0, none⟩)) := by
                rw [hcell3 j (by omega), List.getD_eq_getElem?_getD, List.getElem?_map, hD]
                rfl
              obtain ⟨t, ht⟩ : ∃ t, t = f.dims.getD j ByteArray.empty := ⟨_, rfl⟩
              rw [← ht] at hx hroom hts
              have HP := Lib.hid (put24 (q.Fs j) D (valsI gs j) t hts _ hdict (by
                unfold putL at hroom
                cases hi : idx (valsI gs j) t with
                | some i => exact .inl (by simp)
                | none => rw [hi] at hroom; simp at hroom; exact .inr (by omega)))
              have hN := putN_lt hroom
              have HNN := Lib.hid (show putN (valsI gs j) t = putN (valsI gs j) (f.dims.getD j ByteArray.empty) by rw [ht])
              have HTT := Lib.hid ht
              have hk256 : n % 256 < 256 := Nat.mod_lt _ (by omega)
              have hci : j * 256 + n % 256 < csg.size := by omega
              have HBG := Lib.hid (And.intro hbg (And.intro hgF hci))
              have hjI : decide ((j : Int) < d) = true := decide_eq_true (by omega)
              subst had
              clear hcell3 hc3 hdO hbB hq hb9 hFb hTt hgg hdict hrd htm hroom hts ht hgF hsg hD hbg hcap3 hmax3 hvb
              go_wp2_with fail
              refine HP.out.mono ?_
              rintro e w2 ⟨rfl, ht2, hd2⟩
              have hbg2 := Blk.turn HBG.out.1 ht2 HBG.out.2.1
              have fg := Blk.free hbg2 (j * 256 + n % 256)
              have cg := Blk.cell hbg2 (j * 256 + n % 256)
              rw [Array.getElem?_eq_getElem HBG.out.2.2] at cg
              have HD2 := Lib.hid (And.intro ht2 hd2)
              generalize putN (valsI gs j) t = N at *
              clear ht2 hd2 hbg2 y0 y1 hx HP
              go_wp2_with fail
              go_roundw
              case rel =>
                refine ⟨j + 1, by omega, by go_num, ?_⟩
                have hd9 := HD2.out.2
                rw [HTT.out] at hd9
                have h := In.dim HQ.out.1 HQ.out.2.1 HQ.out.2.2.1 HQ.out.2.2.2.1 (by have h1 := HTF.out.1.size; have h2 := HWC.out.2; omega) hF HQ.out.2.2.2.2.1 hjd HQ.out.2.2.2.2.2 HD2.out.1 hd9
                rw [← HNN.out, ← HN.out] at h
                exact h
              case measure => simp [intOf]; omega
            · obtain rfl : j = d := by omega
              have y0 : wr.cell? ⟨c9, 1, none⟩ = some (.slice am m cm) := Blk.cell hin.blk9 1
              have hjI : decide ((j : Int) < j) = false := by simp
              have HI2 := Lib.hid hin
              clear hin hjd
              go_wp2_with fail
              clear y0
              go_loopw [94] (fun i wr' => ∃ i1 : Nat, i1 ≤ m ∧ i = .int .i64 i1 ∧ In F w B j m gs f ends c9 #[.slice ad j cd, .slice am m cm] g j i1 wr') (fun i _ => m - (intOf i).toNat)
              case atStart => exact ⟨0, by omega, rfl, HI2.out⟩
              case round =>
                obtain ⟨i1, hi1, rfl, hin⟩ := hrel
                clear HI2
                rename_i wr3
                by_cases him : i1 < m
                · obtain ⟨bd, od, had, hrd⟩ := HRM.out _ hin.turn (by omega)
                  have hx := hrd i1 him
                  obtain ⟨q, F4, hq, hFb, hgg⟩ := hin.core
                  obtain ⟨csg, hbg, hsg⟩ := (hq.seg _ g hgg).2
                  have hk256 : n % 256 < 256 := Nat.mod_lt _ (by omega)
                  have hci : 1536 + i1 * 256 + n % 256 < csg.size := by omega
                  have fg := Blk.free hbg (1536 + i1 * 256 + n % 256)
                  have cg := Blk.cell hbg (1536 + i1 * 256 + n % 256)
                  rw [Array.getElem?_eq_getElem hci] at cg
                  obtain ⟨t, ht⟩ : ∃ t, t = f.meas.getD i1 0 := ⟨_, rfl⟩
                  rw [← ht] at hx
                  have HTT := Lib.hid ht
                  have HI3 := Lib.hid hin
                  have hjI : decide ((i1 : Int) < m) = true := decide_eq_true (by omega)
                  subst had
                  clear hin hq hFb hgg hbg hsg ht hrd
                  go_wp2_with fail
                  go_roundw
                  case rel =>
                    refine ⟨i1 + 1, by omega, by go_num, ?_⟩
                    have h := In.mea HI3.out (by have h1 := HTF.out.1.size; have h2 := HWC.out.2; omega) hF him
                    rw [← HTT.out, ← HN.out] at h
                    exact h
                  case measure => simp [intOf]; omega
                · obtain rfl : i1 = m := by omega
                  have hjI : decide ((i1 : Int) < i1) = false := by simp
                  have HI3 := Lib.hid hin
                  clear hin him
                  go_wp2_with fail
                  go_roundw
                  case rel =>
                    obtain ⟨hT9, F9, hF9, hC9⟩ := HI3.out.done
                    have hl9 : (gs ++ [f]).length = fs.length + (k + 1) := by rw [List.length_append, HGL.out]; rfl
                    rw [hl9, ← HGS.out.2.1] at hC9
                    refine ⟨k + 1, F9, by omega, by go_num, ?_, hT9, hF9, hC9⟩
                    have h1 := HN.out
                    have h2 := HGL.out
                    rw [show ((fs.length + (k + 1) : Nat) : Int) = (n : Int) + 1 by omega]
                  case measure => simp [intOf]; omega
      · obtain rfl : k = l.length := by omega
        have hkI : decide ((l.length : Int) < l.length) = false := by simp
        obtain ⟨n, hn⟩ : ∃ n, n = fs.length + l.length := ⟨_, rfl⟩
        have hnn : (fs.length : Int) + (l.length : Int) = (n : Int) := by omega
        have hn9 : n < 4294967296 := by omega
        rw [List.take_length, ← hn] at hC
        simp only [Int.natCast_add, hnn]
        obtain ⟨q, hq⟩ := hC
        have HQ := Lib.hid (And.intro hq (And.intro hT hF2))
        have HN := Lib.hid hn
        have hbB := hq.blk
        have heO := hq.eO
        obtain ⟨q1, q2, q3, q4, q5, q6⟩ := q
        simp only at hbB heO
        obtain ⟨aE, cE, rfl⟩ := owns_form heO
        have z3 : wr.cell? ⟨B, 3, none⟩ = some (.slice aE ends.length cE) := Blk.cell hbB 3
        obtain ⟨i0, hi0, hz0, hz1, hz2⟩ := info_parts info3
        have HE := Lib.hid (And.intro heO hbB)
        have hbe := hbd.2
        clear hq hT hF2 hnn hn hbB heO hlt
        go_upto_region 25 with (at_builtin; refine wpList_append_own5 _ rfl _ _ 48 rfl 0 3 i0 (.int .i64 0) 1 8 Try.underlying48 hi0 hz0 hz1 hz2 rfl (by decide) (.slice aE ends.length cE) ends.length _ rfl (HE.out.1.alloc (Obj.cells #[intV n] 3)) ⟨wr.heap.size, 0, none⟩ 1 1 [intV n] rfl rfl (by have := cell_one_new' wr 3 (intV n); simpa [intV] using this) (by intro u hu; simp at hu; subst hu; rfl) (by unfold maxLen; omega) (by omega) (Nat.zero_le _) ?_; intro v' w5 hown5 hgrow hat; have hb5 := Blk.grown (HE.out.2.alloc (Obj.cells #[intV n] 3)) hgrow (fun e => owns_ne HE.out.1 HE.out.2 (by decide) B e.symm rfl); have f0 := Blk.free hb5 3; have g0 := Blk.cell hb5 3; clear hb5; obtain ⟨v5a, v5c, hv5⟩ := owns_form hown5; subst hv5)
        have hhat : (Value.slice v5a (ends.length + 1) v5c).ownBlock = (Value.slice aE ends.length cE).ownBlock ∨ (Value.slice v5a (ends.length + 1) v5c).ownBlock = some (wr.heap.size + 1) := hat.imp id (fun h => h.trans (by simp))
        obtain ⟨q', hq'⟩ := HQ.out.1.putE (n := n) hn9 (by omega) hown5 hgrow hhat
        have hG : Turn (fun k => k = B ∨ (Value.slice aE ends.length cE).ownBlock = some k) wr (w5.setCell ⟨B, 3, none⟩ (.slice v5a (ends.length + 1) v5c)) :=
          (((Turn.refl (fun k => k = B ∨ (Value.slice aE ends.length cE).ownBlock = some k) wr).alloc (Obj.cells #[intV n] 3)).grown hgrow (fun g hg => .inr hg)).setCell (p := ⟨B, 3, none⟩) (.inl rfl) _
        have HT9 := Lib.hid (HQ.out.2.1.wide hG (fun x hx => by
          have : F2 x := by
            rcases hx with rfl | hx
            · exact HQ.out.1.fB
            · exact HQ.out.1.eF x hx
          exact (HQ.out.2.2 x this).imp id (fun h => h.1)))
        have hs5 : wr.heap.size ≤ w5.heap.size := by have := hG.size; simpa using this
        have z3' : (w5.setCell ⟨B, 3, none⟩ (.slice v5a (ends.length + 1) v5c)).cell? ⟨B, 3, none⟩ = some (.slice v5a (ends.length + 1) v5c) := by
          obtain ⟨qa, qb, qc, qd, qe, qf⟩ := q'
          have hb9 := hq'.blk
          have hb5 := Blk.grown (HE.out.2.alloc (Obj.cells #[intV n] 3)) hgrow (fun e => owns_ne HE.out.1 HE.out.2 (by decide) B e.symm rfl)
          have := Blk.cell (Blk.set hb5 3 (.slice v5a (ends.length + 1) v5c)) 3
          simpa using this
        have hszw : (w5.setCell ⟨B, 3, none⟩ (.slice v5a (ends.length + 1) v5c)).heap.size = w5.heap.size := by simp
        have HQ' := Lib.hid (And.intro hq' (And.intro hs5 hszw))
        generalize w5.setCell ⟨B, 3, none⟩ (.slice v5a (ends.length + 1) v5c) = w9 at *
        clear hown5 hgrow hat hhat hG f0 g0 z3 hs5 hszw hq'
        go_wp2_with fail
        go_ret2
        refine ⟨by simp [intV], HT9.out, ?_⟩
        have hsz := HQ'.out.2.2
        refine ⟨⟨q', ?_⟩, by unfold lastE; rw [List.getLastD_concat, List.length_append], fun f hf => ?_⟩
        · have e1 : (fs ++ l).length = n := by rw [List.length_append, HN.out]
          rw [e1, ← HN.out]
          refine HQ'.out.1.mono (fun x hx => ?_)
          have h0 := HQ.out.2.1.size
          have h1 := HQ'.out.2.1
          rcases hx with hx | hx
          · exact (HQ.out.2.2 x hx).imp id (fun h => ⟨h.1, by omega⟩)
          · exact .inr ⟨by omega, by omega⟩
        · rcases List.mem_append.1 hf with h | h
          · exact HS.out.right f h
          · exact HLT.out.2.1 f h
  · have hne : (ck != 0) = true := by simpa using hck
    clear HCE h hrow hl hrk hps
    go_enter Try.func10, Try.ntmps10
    go_wp2_with fail
    refine HCK.out.mono ?_
    rintro e w1 ⟨rfl, hB1⟩
    have HB1 := Lib.hid hB1
    clear hB1
    go_wp2_with fail
    go_ret2
    exact .inl ⟨hck, rfl, HB1.out⟩
end Go.Proofs.Ytdpgpcffhhdpiaa
