/- Between. -/
import Derived.Test.YtiihnepfcgmghaaI
namespace Go.Proofs.Ytiihnepfcgmghaa
open Go.RowKit Go.Maps Go.Sort Go.Shelf
set_option linter.unusedVariables false
set_option linter.unusedSimpArgs false

/-- how many of the sorted texts are below a text -/
def lowC (l : List ByteArray) (s : List Nat) (t : ByteArray) : Nat := s.countP (fun i => ltS (l.getD i ByteArray.empty) t)
/-- the texts of a dictionary, where a walk finds them -/
def TextsAt (w : World) (D : Nat) (l : List ByteArray) : Prop := 0 < l.length → ∃ bt off c, w.cell? ⟨D, 0, none⟩ = some (.slice (some ⟨bt, off, none⟩) l.length c) ∧ D < w.heap.size ∧ bt < w.heap.size ∧ (∃ cs, Blk w bt 9 cs) ∧ ∀ j, j < l.length → w.cell? ⟨bt, off + j, none⟩ = some (.string (l.getD j ByteArray.empty))
theorem DictAt.texts {F : Nat → Prop} {D : Nat} {w : World} {l : List ByteArray} {vo : Value} (h : DictAt F D w l vo) : TextsAt w D l := fun h0 => by
  obtain ⟨vt, vm, hb, ho, -⟩ := h.cells
  rcases ho.2 with ⟨-, e⟩ | ⟨g, cap, cur, rfl, -, hh, -⟩
  · omega
  · have hc := Blk.cell hb 0
    refine ⟨g, 0, cap, hc, hb.lt, (Array.getElem?_eq_some_iff.1 hh).1, ⟨cur, hh⟩, fun j hj => ?_⟩
    obtain ⟨a, c, hv, -, -, hcl⟩ := RowS.open (RowS.of_owns ho)
    obtain ⟨b, off, ha, -, hcl⟩ := hcl h0
    injection hv with e1
    rw [ha] at e1
    injection e1 with e1
    injection e1 with e1 e2
    subst e1 e2
    exact hcl j hj
theorem sorted_mono {l : List ByteArray} {s : List Nat} (h : SortedT l s) (t : ByteArray) {i j : Nat} {a b : Nat} (hij : i ≤ j) (ha : s[i]? = some a) (hb : s[j]? = some b) (hl : ltS (l.getD b ByteArray.empty) t = true) : ltS (l.getD a ByteArray.empty) t = true := by
  rcases Nat.eq_or_lt_of_le hij with e | hlt
  · subst e; rw [ha] at hb; cases hb; exact hl
  · obtain ⟨hi, hai⟩ := List.getElem?_eq_some_iff.1 ha
    obtain ⟨hj, hbj⟩ := List.getElem?_eq_some_iff.1 hb
    have := List.pairwise_iff_getElem.1 h i j hi hj hlt
    rw [hai, hbj] at this
    cases hc : ltS (l.getD a ByteArray.empty) t
    · have h2 := ltS_ntrans this hc
      rw [hl] at h2; cases h2
    · rfl
set_option maxHeartbeats 4000000 in
theorem search24 (x D bs : Nat) (l : List ByteArray) (s : List Nat) (t : ByteArray) (w : World) (hl : l.length ≤ 4096) (hx : w.cell? ⟨x, 0, none⟩ = some (.pointer (some ⟨D, 0, none⟩))) (ht : TextsAt w D l) (hs : IsSort l s)
    (hb : Arr w bs 3 (s.map Int.ofNat)) (h1 : x ≠ bs ∧ x < w.heap.size) (hDb : D ≠ bs) (h3 : ∀ bt cs, Blk w bt 9 cs → bt ≠ bs) :
    Calls Try.prog 24 #[.slice (some ⟨bs, 0, none⟩) l.length l.length, .string t, .func (.func 25) #[] #[.pointer (some ⟨x, 0, none⟩)]] w fun e w' =>
      ∃ f, e = .returned (.tuple #[.int .i64 ((lowC l s t : Nat) : Int), .bool f]) ∧ Below w.heap.size w w' := by
  by_cases h0 : l.length = 0
  · have hc := Any.slices_BinarySearchFunc_none searchF (some ⟨bs, 0, none⟩) l.length (.string t) (.func (.func 25) #[] #[.pointer (some ⟨x, 0, none⟩)]) w
    have hs0 : s = [] := by have := hs.1.length_eq; rw [h0] at this; exact List.eq_nil_of_length_eq_zero (by simpa using this)
    subst hs0
    rw [h0] at hc ⊢
    change Calls Try.prog 24 _ _ _ at hc
    refine hc.mono ?_
    rintro e w' ⟨rfl, rfl⟩
    exact ⟨false, rfl, Below.refl _ _⟩
  · have hpos : 0 < l.length := by omega
    haveI : Inhabited (Fin l.length) := ⟨⟨0, hpos⟩⟩
    have eg : ∀ args w, (callFunc 25 args).run Try.prog w = .ok (.enter 25 args) w := enters_of Try.func25 (by kernel_rfl) rfl
    obtain ⟨bt, off, c, hD, hDl, hbl, ⟨cs, hcs⟩, htx⟩ := ht hpos
    have hbt := h3 bt cs hcs
    let enc : Fin l.length → Value := fun i => .int .i64 (i.val : Int)
    let cft : Fin l.length → Int := fun a => cmpS (l.getD a.val ByteArray.empty) t
    have hlt : ∀ a, decide (cft a < 0) = ltS (l.getD a.val ByteArray.empty) t := fun a => cmp_lt _ _
    obtain ⟨d, hd, hds⟩ : ∃ d : Array (Fin l.length), d.toList.map Fin.val = s ∧ d.size = l.length := by
      have hmem : ∀ a ∈ s, a < l.length := fun a ha => List.mem_range.1 (hs.1.mem_iff.1 ha)
      have hsl : s.length = l.length := by have := hs.1.length_eq; simpa using this
      refine ⟨(s.pmap (fun a h => (⟨a, h⟩ : Fin l.length)) hmem).toArray, ?_, by simpa using hsl⟩
      simp [List.map_pmap]
    have hcmp : CmpLaysT Try.prog 25 #[.pointer (some ⟨x, 0, none⟩)] enc (.string t) cft bs 0 d.size w := fun m os dk hs a => by
      refine Calls.mono (closure25 x D bt off l.length c a.val (l.getD a.val ByteArray.empty) t (sortWorld enc w bs 0 m dk os) ?_ ?_ a.isLt hl ?_) ?_
      · rw [sw_cell _ _ _ _ _ _ _ _ h1.1 h1.2]; exact hx
      · rw [sw_cell _ _ _ _ _ _ _ _ hDb hDl]; exact hD
      · rw [sw_cell _ _ _ _ _ _ _ _ hbt hbl]; exact htx a.val a.isLt
      · rintro e w' ⟨rfl, rfl⟩
        exact ⟨rfl, 0, #[], rfl⟩
    have hget : ∀ j, j < d.size → s[j]? = some (d[j]!).val := fun j hj => by
      rw [← hd, List.getElem?_map, Array.getElem?_toList, Array.getElem?_eq_getElem hj, getElem!_pos d j hj]; rfl
    have hH : Holds enc w bs 0 d := fun j hj => by
      refine ⟨?_, hb.free _⟩
      have hj2 : j < s.length := by rw [← hd]; simpa using hj
      rw [Nat.zero_add, hb.cell (j := j) (by simpa using hj2)]
      have := hget j hj
      simp [List.getD_eq_getElem?_getD, this, enc]
    have hcon := Any.slices_BinarySearchFunc searchF enc (fun _ => rfl) (.string t) cft 25 #[.pointer (some ⟨x, 0, none⟩)] bs 0 l.length d w eg hcmp hH (Blk.lt hb) (by omega) (fun a b hab hbd hlt' => by
      have h7 : ltS (l.getD (d[b]!).val ByteArray.empty) t = true := by rw [← hlt]; exact decide_eq_true hlt'
      have h8 := sorted_mono hs.2 t hab (hget a (by omega)) (hget b hbd) h7
      rw [← hlt] at h8
      exact of_decide_eq_true h8)
    rw [hds] at hcon
    change Calls Try.prog 24 _ _ _ at hcon
    refine hcon.mono ?_
    rintro e w' ⟨rfl, n, os, hw⟩
    have hcount : d.toList.countP (fun x => decide (cft x < 0)) = lowC l s t := by
      unfold lowC
      rw [← hd, List.countP_map]
      refine List.countP_congr (fun a _ => ?_)
      rw [hlt]; rfl
    rw [hcount]
    refine ⟨_, rfl, ?_⟩
    have hst := sw_turn enc w bs n d os
    rw [← hw] at hst
    have hrow := sw_row enc w bs n d os _ 3 hb (by rw [size_ints, hds]; simp; have := hs.1.length_eq; simpa using this)
    rw [← hw] at hrow
    refine ⟨hst.os, hst.tape, hst.output, hst.size, fun k hk => ?_⟩
    by_cases e : k = bs
    · subst e
      have e2 : (d.toList.map enc).toArray = ints (s.map Int.ofNat) := by unfold ints; rw [← hd, List.map_map, List.map_map]; rfl
      rw [e2] at hrow
      exact hrow.trans hb.symm
    · exact hst.block k hk e
theorem place23 (x x7 D bs : Nat) (l : List ByteArray) (s : List Nat) (t : ByteArray) (w : World) (hl : l.length ≤ 4096) (hx : Blk w x 23 #[ptrV D]) (hx7 : Blk w x7 31 #[rowV bs l.length]) (ht : TextsAt w D l) (hs : IsSort l s)
    (hb : Arr w bs 3 (s.map Int.ofNat)) (hDb : D ≠ bs) :
    Calls Try.prog 23 #[.string t, ptrV x7, ptrV x] w fun e w' => e = .returned (.int .i64 ((lowC l s t : Nat) : Int)) ∧ Below w.heap.size w w' := by
  have HS := Lib.hid (search24 x D bs l s t w hl (Blk.cell hx 0) ht hs hb ⟨Blk.ne_type hx hb (by decide), hx.lt⟩ hDb (fun bt cs h => Blk.ne_type h hb (by decide)))
  have c7 : w.cell? ⟨x7, 0, none⟩ = some (.slice (some ⟨bs, 0, none⟩) l.length l.length) := Blk.cell hx7 0
  unfold ptrV
  clear hx hx7 ht hs hb hDb
  go_enter Try.func23, Try.ntmps23
  go_wp2_with fail
  refine HS.out.mono ?_
  rintro e w1 ⟨f, rfl, hB⟩
  have HB := Lib.hid hB
  clear hB
  go_wp2_with fail
  go_ret
  exact ⟨rfl, HB.out⟩
/-- the numbers of the texts from one up to another -/
def betw (l : List ByteArray) (s : List Nat) (a b : ByteArray) : List Nat := (s.drop (lowC l s a)).take (lowC l s b - lowC l s a)
theorem lowC_le (l : List ByteArray) (s : List Nat) (t : ByteArray) : lowC l s t ≤ s.length := List.countP_le_length
theorem Turn.texts {F G : Nat → Prop} {D : Nat} {w w' : World} {l : List ByteArray} {vo : Value} (h : DictAt F D w l vo) (ht : Turn G w w') (hFG : ∀ k, F k → ¬ G k) : TextsAt w' D l := (h.keep ht hFG).texts
theorem TextsAt.below {D : Nat} {w w' : World} {l : List ByteArray} (h : TextsAt w D l) (hB : Below w.heap.size w w') : TextsAt w' D l := fun h0 => by
  obtain ⟨bt, off, c, h1, h2, h3, ⟨cs, h4⟩, h5⟩ := h h0
  exact ⟨bt, off, c, (hB.cell (p := ⟨D, 0, none⟩) h2).trans h1, Nat.lt_of_lt_of_le h2 hB.size, Nat.lt_of_lt_of_le h3 hB.size, ⟨cs, h4.below hB h3⟩, fun j hj => (hB.cell (p := ⟨bt, _, none⟩) h3).trans (h5 j hj)⟩
set_option maxRecDepth 100000 in
set_option maxHeartbeats 4000000 in
theorem between13 (F : Nat → Prop) (D : Nat) (l : List ByteArray) (a b : ByteArray) (w : World) (h : Dic F D w l) (hF : ∀ k, F k → k < w.heap.size) :
    Calls Try.prog 13 #[ptrV D, .string a, .string b] w fun e w' => ∃ v s k, e = .returned v ∧ IsSort l s ∧ After F D w l k w' ∧ w'.ownsRow k 3 1 v (betw l s a b).length (natV (betw l s a b)) := by
  have hz := h.size
  have hB0 := Below.al (Below.refl w.heap.size w) (Obj.cells #[.pointer (some ⟨D, 0, none⟩)] 23)
  have hx := Blk.new w 23 #[.pointer (some ⟨D, 0, none⟩)]
  have h1 : Dic F D (w.alloc (Obj.cells #[.pointer (some ⟨D, 0, none⟩)] 23)) l := by
    have hT : Turn (fun k => w.heap.size ≤ k) w (w.alloc (Obj.cells #[.pointer (some ⟨D, 0, none⟩)] 23)) := (Turn.refl _ w).alloc _
    rcases h with h | ⟨O, s, r, bs, br, h⟩
    · exact .inl (h.keep hT (fun k hk hn => by have := hF k hk; omega))
    · exact .inr ⟨O, s, r, bs, br, h.keep hT (fun k hk hn => by have := hF k hk; omega)⟩
  have c0 : (w.alloc (Obj.cells #[.pointer (some ⟨D, 0, none⟩)] 23)).cell? ⟨w.heap.size, 0, none⟩ = some (.pointer (some ⟨D, 0, none⟩)) := Blk.cell hx 0
  have hs1 : (w.alloc (Obj.cells #[.pointer (some ⟨D, 0, none⟩)] 23)).heap.size = w.heap.size + 1 := alloc_size _ _
  have HO := Lib.hid (ordered22 F D l _ h1 (fun k hk => by have := hF k hk; omega))
  have HX := Lib.hid (And.intro hx (And.intro hB0 hs1))
  unfold ptrV at *
  clear h h1 hx hB0 hs1
  go_enter Try.func13, Try.ntmps13
  go_upto_region 3 with fail
  obtain ⟨w1, hw1⟩ : ∃ w1, w1 = w.alloc (Obj.cells #[.pointer (some ⟨D, 0, none⟩)] 23) := ⟨_, rfl⟩
  obtain ⟨n0, hn0⟩ : ∃ n0, n0 = w.heap.size := ⟨_, rfl⟩
  have HN0 := Lib.hid hn0
  rw [← hw1, ← hn0] at HX c0 ⊢
  rw [← hw1] at HO
  clear hw1 hn0
  go_wp2_with fail
  refine HO.out.mono ?_
  rintro e w2 ⟨O, s, r, bs, br, rfl, hT, hs⟩
  have hnF : ¬ F n0 := fun hk => by have := hF _ hk; have := HN0.out; omega
  have hx2 := HX.out.1.turn hT hnF
  have cO : w2.cell? ⟨O, 3, none⟩ = some (.slice (some ⟨bs, 0, none⟩) l.length l.length) := Blk.cell hs.ord.cells 3
  have HS := Lib.hid (And.intro hT (And.intro hs hx2))
  clear hT hs hx2 HO c0
  go_upto_region 4 with fail
  clear cO
  have hx7 := Blk.new w2 31 #[rowV bs l.length]
  have hB3 := Below.al (Below.refl w2.heap.size w2) (Obj.cells #[rowV bs l.length] 31)
  unfold rowV at hx7 hB3
  have hDb : D ≠ bs := by
    obtain ⟨vt, vm, hb, -⟩ := HS.out.2.1.at_.cells
    exact Blk.ne_type hb HS.out.2.1.ord.num (by decide)
  obtain ⟨w3, hw3⟩ : ∃ w3, w3 = w2.alloc (Obj.cells #[.slice (some ⟨bs, 0, none⟩) l.length l.length] 31) := ⟨_, rfl⟩
  rw [← hw3] at hx7 hB3 ⊢
  have hB3l : w2.heap.size < w3.heap.size := by rw [hw3, alloc_size]; omega
  clear hw3
  have ht3 : TextsAt w3 D l := HS.out.2.1.at_.texts.below hB3
  have hn3 : Arr w3 bs 3 (s.map Int.ofNat) := Blk.below HS.out.2.1.ord.num hB3 HS.out.2.1.ord.num.lt
  have hx3 := Blk.below HS.out.2.2 hB3 HS.out.2.2.lt
  have hiss : IsSort l s := ⟨HS.out.2.1.ord.perm, HS.out.2.1.ord.sorted⟩
  have HP1 := Lib.hid (place23 n0 w2.heap.size D bs l s a w3 hz hx3 hx7 ht3 hiss hn3 hDb)
  have H3 := Lib.hid (And.intro hx3 (And.intro hx7 (And.intro ht3 (And.intro hn3 hB3))))
  unfold ptrV at HP1
  clear hx7 ht3 hn3 hx3 hB3
  go_wp2_with fail
  refine HP1.out.mono ?_
  rintro e w4 ⟨rfl, hB4⟩
  have HP2 := Lib.hid (place23 n0 w2.heap.size D bs l s b w4 hz (H3.out.1.below hB4 H3.out.1.lt) (H3.out.2.1.below hB4 H3.out.2.1.lt) (H3.out.2.2.1.below hB4) hiss (Blk.below H3.out.2.2.2.1 hB4 H3.out.2.2.2.1.lt) hDb)
  have HB4 := Lib.hid hB4
  unfold ptrV at HP2
  clear hB4 HP1
  go_wp2_with fail
  refine HP2.out.mono ?_
  rintro e w5 ⟨rfl, hB5⟩
  have HB5 := Lib.hid (Below.call (Below.call H3.out.2.2.2.2 HB4.out) hB5)
  have c7 : w5.cell? ⟨w2.heap.size, 0, none⟩ = some (.slice (some ⟨bs, 0, none⟩) l.length l.length) := Blk.cell ((H3.out.2.1.below HB4.out H3.out.2.1.lt).below hB5 (H3.out.2.1.below HB4.out H3.out.2.1.lt).lt) 0
  have hnum5 : Arr w5 bs 3 (s.map Int.ofNat) := Blk.below HS.out.2.1.ord.num HB5.out HS.out.2.1.ord.num.lt
  have HNM := Lib.hid hnum5
  have hla := lowC_le l s a
  have hlb := lowC_le l s b
  have hsl := HS.out.2.1.ord.len
  have HISS := Lib.hid hiss
  have HBT := Lib.hid (show betw l s a b = (s.drop (lowC l s a)).take (lowC l s b - lowC l s a) from rfl)
  obtain ⟨res, hres⟩ : ∃ res, betw l s a b = res := ⟨_, rfl⟩
  rw [hres] at HBT
  have HBR := Lib.hid hres
  clear hres
  generalize lowC l s a = lo at *
  generalize lowC l s b = up at *
  have hAfter : ∀ w', Below w5.heap.size w5 w' → After F D w l w2.heap.size w' := fun w' hB' => by
    have hB6 := Below.call HB5.out hB'
    have hsz := HX.out.2.2
    refine ⟨((Turn.of_below HX.out.2.1 (fun k h1 h2 => by have := HN0.out; omega)).trans HS.out.1).trans (Turn.of_below hB6 (fun k h1 h2 => by have := HX.out.2.1.size; have := HS.out.1.size; have := HN0.out; omega)), by have := HX.out.2.1.size; have := HS.out.1.size; have := HN0.out; omega, hB6.size, .inr ⟨O, s, r, bs, br, (HS.out.2.1.keep (G := fun k => w2.heap.size ≤ k) ⟨hB6.os, hB6.tape, hB6.output, hB6.size, fun k hk hn => hB6.block k hk⟩ (fun k hk hn => ?_)).mono (fun k hk => ?_)⟩⟩
    · rcases hk with hk | hk
      · have := hF k hk; have := HS.out.1.size; have := HN0.out; omega
      · omega
    · rcases hk with hk | hk
      · exact .inl hk
      · exact .inr ⟨by have := HN0.out; omega, hk.2⟩
  have HAF := Lib.hid hAfter
  clear hB5 HP2 hnum5 hiss hAfter
  by_cases hle : up ≤ lo
  · have hre : res = [] := by rw [HBT.out, show up - lo = 0 by omega, List.take_zero]
    subst hre
    have hleI : (up : Int) ≤ (lo : Int) := by omega
    go_wp2_with fail
    go_ret
    exact ⟨.slice none 0 0, s, _, rfl, HISS.out, HAF.out w5 (Below.refl _ _), by rw [HBR.out]; exact World.ownsRow_nil _ _ _ _⟩
  · have hlt : lo < up := by omega
    have hrl : res.length = up - lo := by rw [HBT.out, List.length_take, List.length_drop]; omega
    have HC := Lib.hid (clone21 bs lo (up - lo) (l.length - lo) res w5 hrl (by omega) (fun j hj => by
      rw [Arr.cell HNM.out (j := lo + j) (by simp; omega), HBT.out]
      rw [List.getD_eq_getElem?_getD, List.getD_eq_getElem?_getD, List.getElem?_map, List.getElem?_take_of_lt hj, List.getElem?_drop, List.getElem?_eq_getElem (by omega)]
      rfl))
    have hltI : ¬ (up : Int) ≤ (lo : Int) := by omega
    go_wp2_with fail
    refine HC.out.mono ?_
    rintro e w6 ⟨v, rfl, hown, hB6⟩
    have H6 := Lib.hid (And.intro hown hB6)
    obtain ⟨av, cv, rfl⟩ := owns_form hown
    clear hown hB6 c7 HC
    go_wp2_with fail
    go_ret
    refine ⟨_, s, _, rfl, HISS.out, HAF.out w6 H6.out.2, ?_⟩
    show w6.ownsRow w2.heap.size 3 1 (.slice av (up - lo) cv) _ _
    rw [HBR.out, hrl]
    exact owns_base H6.out.1 HB5.out.size
end Go.Proofs.Ytiihnepfcgmghaa
