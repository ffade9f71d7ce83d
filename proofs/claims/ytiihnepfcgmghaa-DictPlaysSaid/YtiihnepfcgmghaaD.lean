/- Numbers sorted by their texts: the library's SortFunc. -/
import Derived.Test.YtiihnepfcgmghaaC
namespace Go.Proofs.Ytiihnepfcgmghaa
open Go.RowKit Go.Maps Go.Sort Go.Shelf
set_option linter.unusedVariables false
set_option linter.unusedSimpArgs false

theorem bl_irrefl : ∀ x : List UInt8, Op.bytesLess x x = false
  | [] => rfl
  | a :: x => by unfold Op.bytesLess; simp [bl_irrefl x]
theorem bl_trans : ∀ {x y z : List UInt8}, Op.bytesLess x y = true → Op.bytesLess y z = true → Op.bytesLess x z = true
  | _, [], _, h, _ => by simp [Op.bytesLess] at h
  | _, _ :: _, [], _, h => by simp [Op.bytesLess] at h
  | [], _ :: _, _ :: _, _, _ => rfl
  | a :: x, b :: y, c :: z, h1, h2 => by
    unfold Op.bytesLess at *
    simp only [Bool.or_eq_true, decide_eq_true_eq, Bool.and_eq_true, beq_iff_eq] at *
    rcases h1 with h1 | ⟨h1, h3⟩ <;> rcases h2 with h2 | ⟨h2, h4⟩
    · exact .inl (UInt8.lt_trans h1 h2)
    · subst h2; exact .inl h1
    · subst h1; exact .inl h2
    · subst h1 h2; exact .inr ⟨rfl, bl_trans h3 h4⟩
theorem bl_tri : ∀ {x y : List UInt8}, Op.bytesLess x y = false → Op.bytesLess y x = false → x = y
  | [], [], _, _ => rfl
  | [], _ :: _, h, _ => by simp [Op.bytesLess] at h
  | _ :: _, [], _, h => by simp [Op.bytesLess] at h
  | a :: x, b :: y, h1, h2 => by
    unfold Op.bytesLess at *
    simp only [Bool.or_eq_false_iff, decide_eq_false_iff_not, Bool.and_eq_false_imp, beq_iff_eq] at *
    have hab : a = b := UInt8.le_antisymm (UInt8.not_lt.1 h2.1) (UInt8.not_lt.1 h1.1)
    subst hab
    rw [bl_tri (h1.2 rfl) (h2.2 rfl)]
theorem ltS_irrefl (s : ByteArray) : ltS s s = false := bl_irrefl _
theorem ltS_trans {s t u : ByteArray} (h1 : ltS s t = true) (h2 : ltS t u = true) : ltS s u = true := bl_trans h1 h2
theorem toList_inj {s t : ByteArray} (h : s.toList = t.toList) : s = t := ByteArray.ext (Array.toList_inj.1 (by rw [← ByteArray.toList_eq, ← ByteArray.toList_eq]; exact h))
theorem ltS_tri {s t : ByteArray} (h1 : ltS s t = false) (h2 : ltS t s = false) : s = t := toList_inj (bl_tri h1 h2)
theorem ltS_asymm {s t : ByteArray} (h : ltS s t = true) : ltS t s = false := by
  cases h2 : ltS t s
  · rfl
  · have := ltS_trans h h2; rw [ltS_irrefl] at this; cases this
theorem ltS_ntrans {s t u : ByteArray} (h1 : ltS s t = false) (h2 : ltS t u = false) : ltS s u = false := by
  cases h : ltS s u
  · rfl
  · exfalso
    cases h3 : ltS t s
    · have := ltS_tri h1 h3; subst this; rw [h] at h2; cases h2
    · have := ltS_trans h3 h; rw [this] at h2; cases h2
theorem cmp_lt (s t : ByteArray) : decide (cmpS s t < 0) = ltS s t := by
  unfold cmpS
  cases h : ltS s t
  · cases h2 : (s.toList == t.toList) <;> rfl
  · rfl
/-- sorted by their texts -/
def SortedT (l : List ByteArray) (s : List Nat) : Prop := s.Pairwise (fun a b => ltS (l.getD b ByteArray.empty) (l.getD a ByteArray.empty) = false)
theorem sw_cell {α : Type} [Inhabited α] (enc : α → Value) (w : World) (blk off m : Nat) (dk : Array α) (os : Array Obj) (a : Addr) (h1 : a.block ≠ blk) (h2 : a.block < w.heap.size) : (sortWorld enc w blk off m dk os).cell? a = w.cell? a := by
  unfold sortWorld
  rw [cell?_grow _ _ _ (by simpa [putRow, mapBlock, Sort.ahead] using h2), cell?_putRow_other _ _ _ _ _ _ (.inl h1)]
  rfl
theorem sw_heap {α : Type} [Inhabited α] (enc : α → Value) (w : World) (blk m : Nat) (dk : Array α) (os : Array Obj) (k : Nat) (h1 : k ≠ blk) (h2 : k < w.heap.size) : (sortWorld enc w blk 0 m dk os).heap[k]? = w.heap[k]? := by
  unfold sortWorld
  rw [heap_grow_old _ _ (by simpa [putRow, mapBlock, Sort.ahead] using h2)]
  simp [putRow, mapBlock, Sort.ahead, Array.getElem?_modify, Ne.symm h1]
theorem sw_turn {α : Type} [Inhabited α] (enc : α → Value) (w : World) (blk m : Nat) (dk : Array α) (os : Array Obj) : Turn (fun k => k = blk) w (sortWorld enc w blk 0 m dk os) :=
  ⟨rfl, rfl, rfl, by simp [sortWorld, grow, putRow, mapBlock, Sort.ahead], fun k hk hn => sw_heap enc w blk m dk os k hn hk⟩
theorem sw_row {α : Type} [Inhabited α] (enc : α → Value) (w : World) (blk m : Nat) (dk : Array α) (os : Array Obj) (cur : Array Value) (T : TypeId) (hb : Blk w blk T cur) (hs : cur.size = dk.size) : Blk (sortWorld enc w blk 0 m dk os) blk T (dk.toList.map enc).toArray := by
  have hlt := hb.lt
  unfold Blk at *
  unfold sortWorld
  rw [heap_grow_old _ _ (by simpa [putRow, mapBlock, Sort.ahead] using hlt)]
  simp only [putRow, mapBlock, Sort.ahead, Array.getElem?_modify, if_true, hb, Option.map_some, onCells]
  congr 2
  apply Array.ext
  · simp [putCells, hs]
  · intro i h1 h2
    have h3 : i < dk.size := by simp [putCells] at h1; omega
    simp [putCells, h3]
theorem extract_all {α : Type} (d : Array α) (n : Nat) (h : d.size = n) : d.extract 0 n = d := by subst h; simp
def upTo (n : Nat) : List Int := (List.range n).map Int.ofNat
set_option maxHeartbeats 4000000 in
theorem sort36 (x D bt off c bs : Nat) (l : List ByteArray) (w : World) (hl : l.length ≤ 4096) (hx : w.cell? ⟨x, 0, none⟩ = some (.pointer (some ⟨D, 0, none⟩))) (hD : 0 < l.length → w.cell? ⟨D, 0, none⟩ = some (.slice (some ⟨bt, off, none⟩) l.length c)) (ht : ∀ i, i < l.length → w.cell? ⟨bt, off + i, none⟩ = some (.string (l.getD i ByteArray.empty)))
    (hb : Arr w bs 3 (upTo l.length)) (h1 : x ≠ bs ∧ x < w.heap.size) (h2 : D ≠ bs ∧ D < w.heap.size) (h3 : 0 < l.length → bt ≠ bs ∧ bt < w.heap.size) :
    Calls Try.prog 36 #[.slice (some ⟨bs, 0, none⟩) l.length l.length, .func (.func 37) #[] #[.pointer (some ⟨x, 0, none⟩)]] w fun e w' =>
      e = .returned (.tuple #[]) ∧ ∃ s : List Nat, s.Perm (List.range l.length) ∧ SortedT l s ∧ Arr w' bs 3 (s.map Int.ofNat) ∧ Turn (fun k => k = bs) w w' := by
  by_cases h0 : l.length = 0
  · have hc := AnyF.slices_SortFunc_none { sortF with } (some ⟨bs, 0, none⟩) l.length (.func (.func 37) #[] #[.pointer (some ⟨x, 0, none⟩)]) w
    rw [h0] at hc hb ⊢
    change Calls Try.prog 36 _ _ _ at hc
    refine hc.mono ?_
    rintro e w' ⟨rfl, rfl⟩
    exact ⟨rfl, [], by simp, List.Pairwise.nil, hb, Turn.refl _ _⟩
  · have hpos : 0 < l.length := by omega
    haveI : Inhabited (Fin l.length) := ⟨⟨0, hpos⟩⟩
    have eg : ∀ args w, (callFunc 37 args).run Try.prog w = .ok (.enter 37 args) w := enters_of Try.func37 (by kernel_rfl) rfl
    let enc : Fin l.length → Value := fun i => .int .i64 (i.val : Int)
    let cf : Fin l.length → Fin l.length → Int := fun a b => cmpS (l.getD a.val ByteArray.empty) (l.getD b.val ByteArray.empty)
    have hlt : ∀ a b, ltOf cf a b = ltS (l.getD a.val ByteArray.empty) (l.getD b.val ByteArray.empty) := fun a b => cmp_lt _ _
    have hO : SWO (ltOf cf) := ⟨fun a => by rw [hlt]; exact ltS_irrefl _, fun a b c h h' => by rw [hlt] at *; exact ltS_trans h h', fun a b c h h' => by rw [hlt] at *; exact ltS_ntrans h h'⟩
    have hcmp : CmpReads Try.prog 37 #[.pointer (some ⟨x, 0, none⟩)] enc cf bs 0 (List.finRange l.length).toArray.size w := fun m os dk hs a b => by
      refine closure37 x D bt off l.length c a.val b.val _ _ (sortWorld enc w bs 0 m dk os) ?_ ?_ a.isLt b.isLt hl ?_ ?_
      · rw [sw_cell _ _ _ _ _ _ _ _ h1.1 h1.2]; exact hx
      · rw [sw_cell _ _ _ _ _ _ _ _ h2.1 h2.2]; exact hD hpos
      · rw [sw_cell _ _ _ _ _ _ _ _ (h3 hpos).1 (h3 hpos).2]; exact ht a.val a.isLt
      · rw [sw_cell _ _ _ _ _ _ _ _ (h3 hpos).1 (h3 hpos).2]; exact ht b.val b.isLt
    have hsz : (List.finRange l.length).toArray.size = l.length := by simp
    have hH : Holds enc w bs 0 (List.finRange l.length).toArray := fun j hj => by
      rw [hsz] at hj
      refine ⟨?_, hb.free _⟩
      rw [Nat.zero_add, hb.cell (by simp [upTo]; exact hj)]
      have e : (List.finRange l.length).toArray[j]! = ⟨j, hj⟩ := by
        rw [getElem!_pos _ j (by rw [hsz]; exact hj)]
        simp
      rw [e]
      simp [upTo, enc, List.getD_eq_getElem?_getD, hj]
    have hcon := Any.slices_SortFunc sortF enc (fun _ => rfl) cf hO 37 #[.pointer (some ⟨x, 0, none⟩)] bs 0 l.length (List.finRange l.length).toArray w eg hcmp.lays hH (Blk.lt hb) (by rw [hsz]; omega)
    rw [hsz] at hcon
    change Calls Try.prog 36 _ _ _ at hcon
    refine hcon.mono ?_
    rintro e w' ⟨rfl, d', n, os, ⟨hp1, -, hp3⟩, hs, rfl⟩
    have hd' : d'.size = l.length := by rw [hp1, hsz]
    have hperm : d'.toList.Perm (List.finRange l.length) := by
      have e1 := extract_all d' _ hd'
      have e2 := extract_all (List.finRange l.length).toArray _ hsz
      rw [e1, e2] at hp3
      exact hp3
    refine ⟨rfl, d'.toList.map Fin.val, ?_, ?_, ?_, sw_turn _ _ _ _ _ _⟩
    · have := hperm.map Fin.val
      have e : (List.finRange l.length).map Fin.val = List.range l.length := by
        apply List.ext_getElem
        · simp
        · intro i h1 h2; simp
      rw [e] at this
      exact this
    · unfold SortedT
      rw [List.pairwise_map, List.pairwise_iff_getElem]
      intro i j hi hj hij
      have := hs i j (Nat.zero_le _) hij (by simp at hj; omega)
      rw [hlt, getElem!_pos _ i (by simpa using hi), getElem!_pos _ j (by simpa using hj)] at this
      simpa using this
    · have := sw_row enc w bs n d' os _ 3 hb (by rw [size_ints, hd']; simp [upTo])
      unfold Arr ints
      rw [List.map_map, List.map_map]
      exact this
end Go.Proofs.Ytiihnepfcgmghaa
