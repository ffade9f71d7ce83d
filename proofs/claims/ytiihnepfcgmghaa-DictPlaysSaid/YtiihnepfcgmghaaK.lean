/- All of the dictionary's calls; nil receivers. -/
import Derived.Test.YtiihnepfcgmghaaJ
namespace Go.Proofs.Ytiihnepfcgmghaa
open Go.RowKit Go.Maps
set_option linter.unusedVariables false
set_option linter.unusedSimpArgs false

theorem Dic.any {F : Nat → Prop} {D : Nat} {w : World} {l : List ByteArray} (h : Dic F D w l) : ∃ vo, DictAt F D w l vo := by
  rcases h with h | ⟨O, s, r, bs, br, h⟩
  · exact ⟨_, h⟩
  · exact ⟨_, h.at_⟩
theorem Dic.keep {F G : Nat → Prop} {D : Nat} {w w' : World} {l : List ByteArray} (h : Dic F D w l) (ht : Turn G w w') (hFG : ∀ k, F k → ¬ G k) : Dic F D w' l := by
  rcases h with h | ⟨O, s, r, bs, br, h⟩
  · exact .inl (h.keep ht hFG)
  · exact .inr ⟨O, s, r, bs, br, h.keep ht hFG⟩
theorem Dic.mono {F G : Nat → Prop} {D : Nat} {w : World} {l : List ByteArray} (h : Dic F D w l) (hFG : ∀ k, F k → G k) : Dic G D w l := by
  rcases h with h | ⟨O, s, r, bs, br, h⟩
  · exact .inl (h.mono hFG)
  · exact .inr ⟨O, s, r, bs, br, h.mono hFG⟩
theorem Dic.new (w : World) : Dic (fun k => k = w.heap.size) w.heap.size (w.alloc (Obj.cells #[.slice none 0 0, .map none, .pointer none] 57)) [] := .inl (DictAt.new w)
theorem lenD {F : Nat → Prop} {D : Nat} {w : World} {l : List ByteArray} (h : Dic F D w l) : Calls Try.prog 11 #[ptrV D] w fun e w' => e = .returned (.int .i64 (l.length : Nat)) ∧ w = w' := by
  obtain ⟨vo, h⟩ := h.any
  exact len11 F D l w h
theorem findD {F : Nat → Prop} {D : Nat} {w : World} {l : List ByteArray} (h : Dic F D w l) (s : ByteArray) (hs : s.size ≤ maxLen) : Calls Try.prog 15 #[ptrV D, .string s] w fun e w' => e = .returned (findV l s) ∧ w = w' := by
  obtain ⟨vo, h⟩ := h.any
  exact find15 F D l s w h hs
theorem textD {F : Nat → Prop} {D : Nat} {w : World} {l : List ByteArray} (h : Dic F D w l) {i : Nat} (hi : i < l.length) : Calls Try.prog 16 #[ptrV D, .int .i64 (i : Int)] w fun e w' => e = .returned (.tuple #[.string (l.getD i ByteArray.empty), .bool true]) ∧ w = w' := by
  obtain ⟨vo, h⟩ := h.any
  exact text16 F D l i hi w h
theorem putD_long (D : Nat) (w : World) (s : ByteArray) (hs : 64 < s.size) (hm : s.size ≤ maxLen) : Calls Try.prog 10 #[ptrV D, .string s] w fun e w' => e = .returned (.tuple #[.int .i64 0, .int .i64 45]) ∧ w = w' := by
  unfold maxLen at hm
  have d0 : decide ((64 : Int) < s.size) = true := decide_eq_true (by omega)
  unfold ptrV
  go_enter Try.func10, Try.ntmps10
  go_wp2_with fail
  go_ret2
  exact ⟨rfl, rfl⟩
theorem putD_found {F : Nat → Prop} {D : Nat} {w : World} {l : List ByteArray} (h : Dic F D w l) (s : ByteArray) (hs : s.size ≤ 64) {i : Nat} (hi : idx l s = some i) : Calls Try.prog 10 #[ptrV D, .string s] w fun e w' => e = .returned (.tuple #[.int .i64 (i : Nat), .int .i64 0]) ∧ w = w' := by
  obtain ⟨vo, h⟩ := h.any
  have hml : (64 : Nat) ≤ maxLen := by decide
  have hz := h.size
  obtain ⟨⟨vt, vm, hb, ho, hf, hm⟩, hd, -, hsm⟩ := h
  have hlk := find_look (w := w) (s := s) (hm.imp id (fun ⟨bm, h1, h2, h3⟩ => ⟨bm, h1, h2, trivial⟩)) (by omega)
  have c1 : w.cell? ⟨D, 1, none⟩ = some vm := Blk.cell hb 1
  have d0 : decide ((64 : Int) < s.size) = false := decide_eq_false (by omega)
  unfold findV at hlk
  rw [hi] at hlk
  simp only [Option.getD_some, Option.isSome_some] at hlk
  unfold ptrV
  clear hm ho hf hb hsm hi
  go_enter Try.func10, Try.ntmps10
  go_wp2_with fail
  go_ret2
  exact ⟨rfl, rfl⟩
theorem putD_full {F : Nat → Prop} {D : Nat} {w : World} {l : List ByteArray} (h : Dic F D w l) (s : ByteArray) (hs : s.size ≤ 64) (hi : idx l s = none) (hl : l.length = 4096) : Calls Try.prog 10 #[ptrV D, .string s] w fun e w' => e = .returned (.tuple #[.int .i64 0, .int .i64 12]) ∧ w = w' := by
  obtain ⟨vo, h⟩ := h.any
  have hml : (64 : Nat) ≤ maxLen := by decide
  obtain ⟨⟨vt, vm, hb, ho, hf, hm⟩, hd, -, hsm⟩ := h
  have hlk := find_look (w := w) (s := s) (hm.imp id (fun ⟨bm, h1, h2, h3⟩ => ⟨bm, h1, h2, trivial⟩)) (by omega)
  obtain ⟨a, c, rfl⟩ := owns_form ho
  have c0 : w.cell? ⟨D, 0, none⟩ = some (.slice a l.length c) := Blk.cell hb 0
  rw [hl] at c0
  have c1 : w.cell? ⟨D, 1, none⟩ = some vm := Blk.cell hb 1
  have d0 : decide ((64 : Int) < s.size) = false := decide_eq_false (by omega)
  unfold findV at hlk
  rw [hi] at hlk
  simp only [Option.getD_none, Option.isSome_none] at hlk
  unfold ptrV
  clear hm ho hf hb hsm hi hl
  go_enter Try.func10, Try.ntmps10
  go_wp2_with fail
  go_ret2
  exact ⟨rfl, rfl⟩
theorem putD_new {F : Nat → Prop} {D : Nat} {w : World} {l : List ByteArray} (h : Dic F D w l) (s : ByteArray) (hs : s.size ≤ 64) (hi : idx l s = none) (hl : l.length < 4096) : Calls Try.prog 10 #[ptrV D, .string s] w fun e w' => e = .returned (.tuple #[.int .i64 (l.length : Nat), .int .i64 0]) ∧ Turn F w w' ∧ Dic (fun k => F k ∨ (w.heap.size ≤ k ∧ k < w'.heap.size)) D w' (l ++ [s]) := by
  obtain ⟨vo, h⟩ := h.any
  refine (put10 F D l s hs w h (.inr hl)).mono ?_
  rintro e w' ⟨rfl, ht, hd⟩
  have h1 : putN l s = l.length := by unfold putN; rw [hi]
  have h2 : putL l s = l ++ [s] := by unfold putL; rw [hi]
  have h3 : putV l s vo = .pointer none := by unfold putV; rw [hi]
  rw [h2, h3] at hd
  exact ⟨by rw [h1], ht, .inl hd⟩
theorem put10_nil (s : ByteArray) (w : World) : Calls Try.prog 10 #[.pointer none, .string s] w fun e w' => e = .returned (.tuple #[.int .i64 0, .int .i64 1]) ∧ w = w' := by
  go_enter Try.func10, Try.ntmps10
  go_wp2_with fail
  go_ret2
  exact ⟨rfl, rfl⟩
theorem text16_nil (n : Int) (w : World) : Calls Try.prog 16 #[.pointer none, .int .i64 n] w fun e w' => e = .returned (.tuple #[.string ⟨#[]⟩, .bool false]) ∧ w = w' := by
  go_enter Try.func16, Try.ntmps16
  go_wp2_with fail
  go_ret2
  exact ⟨rfl, rfl⟩
theorem rank17_nil (n : Int) (w : World) : Calls Try.prog 17 #[.pointer none, .int .i64 n] w fun e w' => e = .returned (.tuple #[.int .i64 0, .bool false]) ∧ w = w' := by
  go_enter Try.func17, Try.ntmps17
  go_wp2_with fail
  go_ret2
  exact ⟨rfl, rfl⟩
theorem sorted12_nil (w : World) : Calls Try.prog 12 #[.pointer none] w fun e w' => e = .returned (.slice none 0 0) ∧ w = w' := by
  go_enter Try.func12, Try.ntmps12
  go_wp2_with fail
  go_ret
  exact ⟨rfl, rfl⟩
theorem between13_nil (a b : ByteArray) (w : World) : Calls Try.prog 13 #[.pointer none, .string a, .string b] w fun e w' => e = .returned (.slice none 0 0) ∧ Below w.heap.size w w' := by
  have hB := Below.al (Below.refl w.heap.size w) (Obj.cells #[.pointer none] 23)
  have c0 : (w.alloc (Obj.cells #[.pointer none] 23)).cell? ⟨w.heap.size, 0, none⟩ = some (.pointer none) := Blk.cell (Blk.new w 23 #[.pointer none]) 0
  have HB := Lib.hid hB
  clear hB
  go_enter Try.func13, Try.ntmps13
  go_wp2_with fail
  go_ret
  exact ⟨rfl, HB.out⟩
theorem copy20_nil (w : World) : Calls Try.prog 20 #[.pointer none] w fun e w' => e = .returned (.pointer none) ∧ w = w' := by
  go_enter Try.func20, Try.ntmps20
  go_wp2_with fail
  go_ret
  exact ⟨rfl, rfl⟩
/-- what is sorted by texts that are unlike each other is sorted in one way -/
theorem sort_one {l : List ByteArray} {s s' : List Nat} (hn : l.Nodup) (h : IsSort l s) (h' : IsSort l s') : s = s' := by
  refine List.Perm.eq_of_pairwise (le := fun a b => ltS (l.getD b ByteArray.empty) (l.getD a ByteArray.empty) = false) (fun a b ha hb h1 h2 => ?_) h.2 h'.2 (h.1.trans h'.1.symm)
  have hal : a < l.length := List.mem_range.1 (h.1.mem_iff.1 ha)
  have hbl : b < l.length := List.mem_range.1 (h'.1.mem_iff.1 hb)
  have e := ltS_tri h2 h1
  rw [List.getD_eq_getElem?_getD, List.getD_eq_getElem?_getD, List.getElem?_eq_getElem hal, List.getElem?_eq_getElem hbl] at e
  simp only [Option.getD_some] at e
  rcases Nat.lt_trichotomy a b with h3 | h3 | h3
  · exact absurd e (List.pairwise_iff_getElem.1 hn a b hal hbl h3)
  · exact h3
  · exact absurd e.symm (List.pairwise_iff_getElem.1 hn b a hbl hal h3)
theorem ltS_eq (s t : ByteArray) : ltS s t = Op.bytesLess s.data.toList t.data.toList := by unfold ltS; rw [ByteArray.toList_eq, ByteArray.toList_eq]
end Go.Proofs.Ytiihnepfcgmghaa
