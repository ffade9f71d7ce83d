/- ordered, Sorted, Rank. -/
import Derived.Test.YtiihnepfcgmghaaG
namespace Go.Proofs.Ytiihnepfcgmghaa
open Go.RowKit Go.Maps
set_option linter.unusedVariables false
set_option linter.unusedSimpArgs false

/-- a dictionary whose order is there -/
structure DictS (F : Nat → Prop) (D : Nat) (w : World) (l : List ByteArray) (O : Nat) (s : List Nat) (r : List Int) (bs br : Nat) : Prop where
  at_ : DictAt F D w l (ptrV O)
  ord : OrdQ w O 1 0 l s r bs br
  fO : F O
  fs : F bs
  fr : F br
theorem DictS.keep {F G : Nat → Prop} {D : Nat} {w w' : World} {l : List ByteArray} {O : Nat} {s : List Nat} {r : List Int} {bs br : Nat} (h : DictS F D w l O s r bs br) (ht : Turn G w w') (hFG : ∀ k, F k → ¬ G k) : DictS F D w' l O s r bs br :=
  ⟨h.at_.keep ht hFG, h.ord.turn ht (hFG _ h.fO) (hFG _ h.fs) (hFG _ h.fr), h.fO, h.fs, h.fr⟩
theorem DictS.mono {F G : Nat → Prop} {D : Nat} {w : World} {l : List ByteArray} {O : Nat} {s : List Nat} {r : List Int} {bs br : Nat} (h : DictS F D w l O s r bs br) (hFG : ∀ k, F k → G k) : DictS G D w l O s r bs br :=
  ⟨h.at_.mono hFG, h.ord, hFG _ h.fO, hFG _ h.fs, hFG _ h.fr⟩
theorem owns_turn {G : Nat → Prop} {w w' : World} {base : Nat} {e : TypeId} {size n : Nat} {v : Value} {xs : List Value} (h : w.ownsRow base e size v n xs) (ht : Turn G w w') (hG : ∀ g, v.ownBlock = some g → ¬ G g) : w'.ownsRow base e size v n xs := by
  refine ⟨h.1, ?_⟩
  rcases h.2 with h1 | ⟨g, cap, cur, hv, hg, hh, q⟩
  · exact .inl h1
  · exact .inr ⟨g, cap, cur, hv, hg, (ht.block g (Array.getElem?_eq_some_iff.1 hh).1 (hG g (by rw [hv]; rfl))).trans hh, q⟩
set_option maxRecDepth 100000 in
set_option maxHeartbeats 4000000 in
theorem ordered22_new (F : Nat → Prop) (D : Nat) (l : List ByteArray) (w : World) (h : DictAt F D w l (.pointer none)) (hF : ∀ k, F k → k < w.heap.size) :
    Calls Try.prog 22 #[ptrV D] w fun e w' => e = .returned (ptrV (w.heap.size + 1)) ∧ Turn (fun k => k = D) w w' ∧ ∃ s r bs br, DictS (fun k => F k ∨ (w.heap.size ≤ k ∧ k < w'.heap.size)) D w' l (w.heap.size + 1) s r bs br := by
  have hz := h.size
  obtain ⟨⟨vt, vm, hb, ho, hf, hm⟩, hd, -, hsm⟩ := h
  have HB := Lib.hid (And.intro hb (And.intro ho (And.intro hf (And.intro hm (And.intro hd hsm)))))
  have hlt := hb.lt
  have hb1 := (hb.alloc (Obj.cells #[.pointer (some ⟨D, 0, none⟩)] 23))
  have hb2 := hb1.alloc (Obj.cells #[.int .u32 0, .int .i32 0, .int .u32 0, .slice none 0 0, .slice none 0 0] 73)
  have f2 := Blk.free hb2 2
  have c2 := Blk.cell hb2 2
  have c2' := Blk.cell hb1 2
  clear hb ho hf hm hb1 hb2
  unfold ptrV
  go_enter Try.func22, Try.ntmps22
  go_upto_region 3 with fail
  have e1 : (w.setCell ⟨D, 2, none⟩ (.pointer (some ⟨w.heap.size + 1, 0, none⟩))).heap.size = w.heap.size := by simp [World.setCell]
  have d1 := ((Blk.set HB.out.1 2 (.pointer (some ⟨w.heap.size + 1, 0, none⟩))).alloc (Obj.cells #[.pointer (some ⟨D, 0, none⟩)] 23)).alloc (Obj.cells #[.int .u32 0, .int .i32 0, .int .u32 0, .slice none 0 0, .slice none 0 0] 73)
  have d2 := (Blk.newAt (w.setCell ⟨D, 2, none⟩ (.pointer (some ⟨w.heap.size + 1, 0, none⟩))) 23 #[.pointer (some ⟨D, 0, none⟩)] (b := w.heap.size) e1.symm).alloc (Obj.cells #[.int .u32 0, .int .i32 0, .int .u32 0, .slice none 0 0, .slice none 0 0] 73)
  have d3 := Blk.newAt ((w.setCell ⟨D, 2, none⟩ (.pointer (some ⟨w.heap.size + 1, 0, none⟩))).alloc (Obj.cells #[.pointer (some ⟨D, 0, none⟩)] 23)) 73 #[.int .u32 0, .int .i32 0, .int .u32 0, .slice none 0 0, .slice none 0 0] (b := w.heap.size + 1) (by rw [alloc_size, e1])
  have d4 := ((ownsRow_setCell_other HB.out.2.1 (a := ⟨D, 2, none⟩) (fun e => owns_ne HB.out.2.1 HB.out.1 (by decide) D e rfl) (.pointer (some ⟨w.heap.size + 1, 0, none⟩))).alloc (Obj.cells #[.pointer (some ⟨D, 0, none⟩)] 23)).alloc (Obj.cells #[.int .u32 0, .int .i32 0, .int .u32 0, .slice none 0 0, .slice none 0 0] 73)
  have d5 := (((Turn.refl (fun k => k = D) w).setCell (p := ⟨D, 2, none⟩) rfl (.pointer (some ⟨w.heap.size + 1, 0, none⟩))).alloc (Obj.cells #[.pointer (some ⟨D, 0, none⟩)] 23)).alloc (Obj.cells #[.int .u32 0, .int .i32 0, .int .u32 0, .slice none 0 0, .slice none 0 0] 73)
  have d6 : (((w.setCell ⟨D, 2, none⟩ (.pointer (some ⟨w.heap.size + 1, 0, none⟩))).alloc (Obj.cells #[.pointer (some ⟨D, 0, none⟩)] 23)).alloc (Obj.cells #[.int .u32 0, .int .i32 0, .int .u32 0, .slice none 0 0, .slice none 0 0] 73)).heap.size = w.heap.size + 2 := by rw [alloc_size, alloc_size, e1]
  have HD := Lib.hid (And.intro d1 (And.intro d2 (And.intro d3 (And.intro d4 (And.intro d5 d6)))))
  clear d1 d2 d3 d4 d5 d6 e1 f2 c2 c2'
  generalize ((w.setCell ⟨D, 2, none⟩ (.pointer (some ⟨w.heap.size + 1, 0, none⟩))).alloc (Obj.cells #[.pointer (some ⟨D, 0, none⟩)] 23)).alloc (Obj.cells #[.int .u32 0, .int .i32 0, .int .u32 0, .slice none 0 0, .slice none 0 0] 73) = w3 at *
  obtain ⟨n0, hn0⟩ : ∃ n0, n0 = w.heap.size := ⟨_, rfl⟩
  have HN0 := Lib.hid hn0
  rw [← hn0] at HD ⊢
  clear hn0
  have c1 : w3.cell? ⟨n0, 0, none⟩ = some (.pointer (some ⟨D, 0, none⟩)) := Blk.cell HD.out.2.1 0
  have c2 : w3.cell? ⟨D, 2, none⟩ = some (.pointer (some ⟨n0 + 1, 0, none⟩)) := Blk.cell HD.out.1 2
  go_upto_region 4 with fail
  have hd4 := HD.out.1.alloc (Obj.cells #[.pointer (some ⟨n0 + 1, 0, none⟩)] 55)
  have h14 := HD.out.2.1.alloc (Obj.cells #[.pointer (some ⟨n0 + 1, 0, none⟩)] 55)
  have hO4 := HD.out.2.2.1.alloc (Obj.cells #[.pointer (some ⟨n0 + 1, 0, none⟩)] 55)
  have ho4 := HD.out.2.2.2.1.alloc (Obj.cells #[.pointer (some ⟨n0 + 1, 0, none⟩)] 55)
  have h34 := Blk.new w3 55 #[.pointer (some ⟨n0 + 1, 0, none⟩)]
  have ht4 := HD.out.2.2.2.2.1.alloc (Obj.cells #[.pointer (some ⟨n0 + 1, 0, none⟩)] 55)
  have hs4 : (w3.alloc (Obj.cells #[.pointer (some ⟨n0 + 1, 0, none⟩)] 55)).heap.size = n0 + 3 := by rw [alloc_size, HD.out.2.2.2.2.2]
  generalize w3.alloc (Obj.cells #[.pointer (some ⟨n0 + 1, 0, none⟩)] 55) = w4 at *
  generalize w3.heap.size = x3 at *
  have HDO := Lib.hid (do34_first n0 x3 D (n0 + 1) l vt vm (.pointer (some ⟨n0 + 1, 0, none⟩)) w4 h14 h34 hO4 hd4 ho4 hz)
  have n3 : x3 ≠ n0 + 1 := Blk.ne_type h34 hO4 (by decide)
  have nD : D ≠ n0 + 1 := Blk.ne_type hd4 hO4 (by decide)
  have H4 := Lib.hid (And.intro hd4 (And.intro h34 (And.intro ht4 hs4)))
  unfold ptrV at HDO
  clear hd4 h14 hO4 ho4 h34 ht4 hs4 c1 c2
  have c3 : w4.cell? ⟨x3, 0, none⟩ = some (.pointer (some ⟨n0 + 1, 0, none⟩)) := Blk.cell H4.out.2.1 0
  go_wp2_with fail
  refine HDO.out.mono ?_
  rintro e w5 ⟨rfl, ht5, s, r, bs, br, hq, hbs, hbr⟩
  have c35 : w5.cell? ⟨x3, 0, none⟩ = some (.pointer (some ⟨n0 + 1, 0, none⟩)) := Blk.cell (H4.out.2.1.turn ht5 n3) 0
  have H5 := Lib.hid (And.intro ht5 (And.intro hq (And.intro hbs hbr)))
  clear ht5 hq hbs hbr c3 HDO
  go_wp2_with fail
  go_ret
  have T5 : Turn (fun k => k = D) w w5 := H4.out.2.2.1.wide H5.out.1 (fun k hk => .inr (by rw [← HN0.out]; omega))
  have hs5 := H5.out.1.size
  have hs4 := H4.out.2.2.2
  have e0 := HN0.out
  subst e0
  obtain ⟨hb, ho, hf, hm, hd, hsm⟩ := HB.out
  refine ⟨rfl, T5, s, r, bs, br, ⟨⟨⟨vt, vm, H4.out.1.turn H5.out.1 nD, owns_turn ho T5 (fun g hg e => owns_ne ho hb (by decide) g hg e), fun g hg => .inl (hf g hg), ?_⟩, .inl hd, hz, hsm⟩, H5.out.2.1, .inr ⟨by omega, by omega⟩, .inr ⟨by have := H5.out.2.2.1; omega, H5.out.2.1.num.lt⟩, .inr ⟨by have := H5.out.2.2.2; omega, H5.out.2.1.rnk.lt⟩⟩⟩
  rcases hm with h1 | ⟨bm, h1, h2, h3⟩
  · exact .inl h1
  · exact .inr ⟨bm, h1, h2.turn T5 (fun e => by obtain ⟨es, ck, hq⟩ := h2.isMap; exact Blk.ne_map hb hq e.symm), .inl h3⟩
theorem ordered22_old (F : Nat → Prop) (D : Nat) (l : List ByteArray) (O : Nat) (s : List Nat) (r : List Int) (bs br : Nat) (w : World) (h : DictS F D w l O s r bs br) :
    Calls Try.prog 22 #[ptrV D] w fun e w' => e = .returned (ptrV O) ∧ Below w.heap.size w w' := by
  obtain ⟨vt, vm, hb, -⟩ := h.at_.cells
  have hO := h.ord.cells
  have c2 : (w.alloc (Obj.cells #[.pointer (some ⟨D, 0, none⟩)] 23)).cell? ⟨D, 2, none⟩ = some (.pointer (some ⟨O, 0, none⟩)) := Blk.cell (hb.alloc _) 2
  have HB0 := Lib.hid (Below.al (Below.al (Below.refl w.heap.size w) (Obj.cells #[.pointer (some ⟨D, 0, none⟩)] 23)) (Obj.cells #[.pointer (some ⟨O, 0, none⟩)] 55))
  have hO2 := (hO.alloc (Obj.cells #[.pointer (some ⟨D, 0, none⟩)] 23)).alloc (Obj.cells #[.pointer (some ⟨O, 0, none⟩)] 55)
  have c3 : ((w.alloc (Obj.cells #[.pointer (some ⟨D, 0, none⟩)] 23)).alloc (Obj.cells #[.pointer (some ⟨O, 0, none⟩)] 55)).cell? ⟨w.heap.size + 1, 0, none⟩ = some (.pointer (some ⟨O, 0, none⟩)) := Blk.cell (Blk.newAt (w.alloc (Obj.cells #[.pointer (some ⟨D, 0, none⟩)] 23)) 55 #[.pointer (some ⟨O, 0, none⟩)] (b := w.heap.size + 1) (by rw [alloc_size])) 0
  have HDO := Lib.hid (do34_done O 0 _ _ (.func (Fn.func 35) #[] #[.pointer (some ⟨w.heap.size, 0, none⟩), .pointer (some ⟨w.heap.size + 1, 0, none⟩)]) _ hO2)
  unfold ptrV at *
  clear h hb hO hO2
  go_enter Try.func22, Try.ntmps22
  go_wp2_with fail
  refine HDO.out.mono ?_
  rintro e w5 ⟨rfl, rfl⟩
  go_wp2_with fail
  go_ret
  exact ⟨rfl, HB0.out⟩
/-- a dictionary, its order there or not -/
def Dic (F : Nat → Prop) (D : Nat) (w : World) (l : List ByteArray) : Prop := DictAt F D w l (.pointer none) ∨ ∃ O s r bs br, DictS F D w l O s r bs br
theorem ordered22 (F : Nat → Prop) (D : Nat) (l : List ByteArray) (w : World) (h : Dic F D w l) (hF : ∀ k, F k → k < w.heap.size) :
    Calls Try.prog 22 #[ptrV D] w fun e w' => ∃ O s r bs br, e = .returned (ptrV O) ∧ Turn F w w' ∧ DictS (fun k => F k ∨ (w.heap.size ≤ k ∧ k < w'.heap.size)) D w' l O s r bs br := by
  rcases h with h | ⟨O, s, r, bs, br, h⟩
  · refine (ordered22_new F D l w h hF).mono ?_
    rintro e w' ⟨rfl, ht, s, r, bs, br, hs⟩
    exact ⟨_, s, r, bs, br, rfl, ht.mono (fun k _ e => by rw [e]; exact h.fd), hs⟩
  · refine (ordered22_old F D l O s r bs br w h).mono ?_
    rintro e w' ⟨rfl, hB⟩
    exact ⟨O, s, r, bs, br, rfl, Turn.of_below hB (fun k h1 h2 => by omega), (h.keep (G := fun k => w.heap.size ≤ k) ⟨hB.os, hB.tape, hB.output, hB.size, fun k hk hn => hB.block k hk⟩ (fun k hk hn => by have := hF k hk; omega)).mono (fun k hk => .inl hk)⟩
end Go.Proofs.Ytiihnepfcgmghaa
