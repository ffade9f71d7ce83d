/- The document's dictionary: Put. -/
import Derived.Test.YtiihnepfcgmghaaW
namespace Go.Proofs.Ytiihnepfcgmghaa
open Go.RowKit Go.Maps
set_option linter.unusedVariables false
set_option linter.unusedSimpArgs false

/-- what the document's Put leaves, under the bound of 4096 -/
def fullT (l : List ByteArray) (s : ByteArray) : Bool := decide (s.size ≤ 64) && (idx l s).isNone && decide (4096 ≤ l.length)
theorem RefAt.step {w0 w w' : World} {G : Nat → Prop} {R : Nat} {l : List ByteArray} (h : RefAt w0 G R w l) (hB : Below w.heap.size w w') : RefAt w0 G R w' l := by
  obtain ⟨v, hb, ho, hg⟩ := h.cells
  exact ⟨Below.call h.below hB, ⟨v, hb.below hB hb.lt, owns_turn ho (Turn.of_below (F := fun _ => False) hB (fun k h1 h2 => by omega)) (fun g h h2 => h2), hg⟩, h.root, fun k hk => ⟨(h.sub k hk).1, Nat.lt_of_lt_of_le (h.sub k hk).2 hB.size⟩, h.size, h.short⟩
theorem RefAt.turn {w0 w w' : World} {G H : Nat → Prop} {R : Nat} {l : List ByteArray} (h : RefAt w0 G R w l) (ht : Turn H w w') (hH : ∀ k, H k → w0.heap.size ≤ k ∧ ¬ G k) : RefAt w0 G R w' l := by
  obtain ⟨v, hb, ho, hg⟩ := h.cells
  exact ⟨h.below.trans (ht.below h.below.size (fun k hk h2 => by have := (hH k h2).1; omega)), ⟨v, hb.turn ht (fun h2 => (hH _ h2).2 h.root), owns_turn ho ht (fun g h1 h2 => (hH _ h2).2 (hg g h1)), hg⟩, h.root, fun k hk => ⟨(h.sub k hk).1, Nat.lt_of_lt_of_le (h.sub k hk).2 ht.size⟩, h.size, h.short⟩
theorem RefAt.wide {w0 w : World} {G : Nat → Prop} {R : Nat} {l : List ByteArray} (h : RefAt w0 G R w l) {m k : Nat} (hm : w0.heap.size ≤ m) (hk : k ≤ w.heap.size) : RefAt w0 (fun j => G j ∨ (m ≤ j ∧ j < k)) R w l := by
  obtain ⟨v, hb, ho, hg⟩ := h.cells
  exact ⟨h.below, ⟨v, hb, ho, fun g hg2 => .inl (hg g hg2)⟩, .inl h.root, fun j hj => by
    rcases hj with hj | hj
    · exact h.sub j hj
    · omega, h.size, h.short⟩
set_option maxRecDepth 100000 in
set_option maxHeartbeats 4000000 in
theorem rput31 {w0 w : World} {G : Nat → Prop} {R : Nat} {l : List ByteArray} (h : RefAt w0 G R w l) (s : ByteArray) (hs : s.size ≤ maxLen) (hl : l.length < 4096) :
    Calls Try.prog 31 #[ptrV R, .string s] w fun e w' => ∃ k, e = .returned (.tuple #[.int .i64 (putId l s), .int .i64 (putEr s)]) ∧ Turn G w w' ∧ w.heap.size ≤ k ∧ RefAt w0 (fun j => G j ∨ (w.heap.size ≤ j ∧ j < k)) R w' (putT l s) := by
  obtain ⟨i0, hi0, hz0, hz1, hz2⟩ := info_parts info9
  obtain ⟨a, c, hq⟩ := h.q
  have c0 := hq.cell
  have HH := Lib.hid h
  unfold putT putId putEr
  by_cases hlong : 64 < s.size
  · rw [if_pos hlong, if_pos hlong, if_pos hlong]
    have d0 : decide ((64 : Int) < s.size) = true := decide_eq_true (by omega)
    unfold maxLen at hs
    unfold ptrV
    clear h hq
    go_enter Try.func31, Try.ntmps31
    go_wp2_with fail
    go_ret2
    first | exact ⟨w.heap.size, rfl, Turn.refl _ _, Nat.le_refl _, HH.out.wide HH.out.below.size (Nat.le_refl _)⟩ | exact ⟨rfl, Turn.refl _ _, w.heap.size, Nat.le_refl _, HH.out.wide HH.out.below.size (Nat.le_refl _)⟩
  · rw [if_neg hlong, if_neg hlong, if_neg hlong]
    have d0 : decide ((64 : Int) < s.size) = false := decide_eq_false (by omega)
    have HF := Lib.hid (rfind27 R l s w hq (by omega))
    unfold findV ptrV at HF
    unfold putL putN
    cases hi : idx l s with
    | some i =>
      rw [hi] at HF
      simp only [Option.getD_some, Option.isSome_some] at HF
      unfold maxLen at hs
      unfold ptrV
      clear h hq hi
      go_enter Try.func31, Try.ntmps31
      go_wp2_with fail
      refine HF.out.mono ?_
      rintro e w1 ⟨rfl, hB⟩
      have HB := Lib.hid hB
      clear hB HF
      go_wp2_with fail
      go_ret2
      have hst := HH.out.step HB.out
      have hT : Turn G w w1 := Turn.of_below HB.out (fun k h1 h2 => by omega)
      first | exact ⟨w1.heap.size, rfl, hT, hT.size, hst.wide HH.out.below.size (Nat.le_refl _)⟩ | exact ⟨rfl, hT, w1.heap.size, hT.size, hst.wide HH.out.below.size (Nat.le_refl _)⟩
    | none =>
      rw [hi] at HF
      simp only [Option.getD_none, Option.isSome_none] at HF
      unfold maxLen at hs
      unfold ptrV
      clear h hq
      have hd2 : decide ((4096 : Int) ≤ l.length) = false := decide_eq_false (by omega)
      go_enter Try.func31, Try.ntmps31
      go_wp2_with fail
      refine HF.out.mono ?_
      rintro e w1 ⟨rfl, hB⟩
      have H1 := Lib.hid (HH.out.step hB)
      have HB := Lib.hid hB
      obtain ⟨v, hb, ho, hg⟩ := H1.out.cells
      obtain ⟨a1, cc1, rfl⟩ := owns_form ho
      have HO := Lib.hid (And.intro hb (And.intro ho hg))
      have c0 : w1.cell? ⟨R, 0, none⟩ = some (.slice a1 l.length cc1) := Blk.cell hb 0
      have f0 := Blk.free hb 0
      clear hB HF hb ho hg
      go_upto_region 9 with (at_builtin; refine wpList_append_own5 _ rfl _ _ 34 rfl w0.heap.size 9 i0 (.string ⟨#[]⟩) 1 16 Try.underlying34 hi0 hz0 hz1 hz2 rfl (by decide) (.slice a1 l.length cc1) l.length (l.map Value.string) rfl (HO.out.2.1.alloc (Obj.cells #[.string s] 9)) ⟨w1.heap.size, 0, none⟩ 1 1 [.string s] rfl rfl (cell_one_new' _ _ _) (by intro u hu; simp at hu; subst hu; rfl) (by unfold maxLen; omega) (by omega) (by have := H1.out.below.size; simp; omega) ?_; intro v' w5 hown5 hgrow hat; have hb5 := Blk.grown (HO.out.1.alloc (Obj.cells #[.string s] 9)) hgrow (fun e => owns_ne HO.out.2.1 HO.out.1 (by decide) R e.symm rfl); have f5 := Blk.free hb5 0; have g5 := Blk.cell hb5 0; obtain ⟨v5a, v5c, hv5⟩ := owns_form hown5; subst hv5)
      have hb6 := Blk.set hb5 0 (.slice v5a (l.length + 1) v5c)
      have ho6 := ownsRow_setCell_other hown5 (a := ⟨R, 0, none⟩) (fun e => owns_ne hown5 hb5 (by decide) R e rfl) (.slice v5a (l.length + 1) v5c)
      have ht6 := (((Turn.of_below (F := G) HB.out (fun k h1 h2 => by omega)).alloc (Obj.cells #[.string s] 9)).grown hgrow (fun g hg => HO.out.2.2 g hg)).setCell (p := ⟨R, 0, none⟩) HH.out.root (.slice v5a (l.length + 1) v5c)
      have hf6 : ∀ g, (Value.slice v5a (l.length + 1) v5c).ownBlock = some g → G g ∨ w.heap.size ≤ g := fun g hg => by
        rcases hat with h | h
        · exact .inl (HO.out.2.2 g (h ▸ hg))
        · right
          have hs := HB.out.size
          have e := h.symm.trans hg
          injection e with e
          rw [← e]; rw [alloc_size]; omega
      clear hb5 f5 g5 hgrow hown5 hat f0 c0
      generalize w5.setCell ⟨R, 0, none⟩ (.slice v5a (l.length + 1) v5c) = w6 at *
      have c6 : w6.cell? ⟨R, 0, none⟩ = some (.slice v5a (l.length + 1) v5c) := Blk.cell hb6 0
      have hbl := HH.out.below.trans (ht6.below HH.out.below.size (fun k hk hg => by have := (HH.out.sub k hg).1; omega))
      have HR := Lib.hid (And.intro ht6 (show RefAt w0 (fun j => G j ∨ (w.heap.size ≤ j ∧ j < w6.heap.size)) R w6 (l ++ [s]) from ⟨hbl, ⟨_, hb6, by rw [List.length_append, List.map_append]; exact ho6, fun g hg => by
          rcases hf6 g hg with h | h
          · exact .inl h
          · exact .inr ⟨h, (ho6.lt g hg).2⟩⟩, .inl HH.out.root, fun k hk => by
          rcases hk with hk | hk
          · exact ⟨(HH.out.sub k hk).1, Nat.lt_of_lt_of_le (HH.out.sub k hk).2 ht6.size⟩
          · exact ⟨Nat.le_trans HH.out.below.size hk.1, hk.2⟩, by rw [List.length_append]; simp; omega, fun x hx => by
          rw [List.mem_append] at hx
          rcases hx with hx | hx
          · exact HH.out.short x hx
          · simp at hx; subst hx; omega⟩))
      clear hb6 ho6 ht6 hf6 hbl
      go_wp2_with fail
      go_ret2
      first | exact ⟨w6.heap.size, by go_num, HR.out.1, HR.out.1.size, HR.out.2⟩ | exact ⟨by go_num, HR.out.1, w6.heap.size, HR.out.1.size, HR.out.2⟩ | exact ⟨w6.heap.size, rfl, HR.out.1, HR.out.1.size, HR.out.2⟩ | exact ⟨rfl, HR.out.1, w6.heap.size, HR.out.1.size, HR.out.2⟩
end Go.Proofs.Ytiihnepfcgmghaa
