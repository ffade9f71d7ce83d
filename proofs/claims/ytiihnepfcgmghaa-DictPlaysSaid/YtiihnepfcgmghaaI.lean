/- Sorted, Rank. -/
import Derived.Test.YtiihnepfcgmghaaH
namespace Go.Proofs.Ytiihnepfcgmghaa
open Go.RowKit Go.Maps
set_option linter.unusedVariables false
set_option linter.unusedSimpArgs false

def IsSort (l : List ByteArray) (s : List Nat) : Prop := s.Perm (List.range l.length) ∧ SortedT l s
def natV (l : List Nat) : List Value := l.map (fun n : Nat => Value.int .i64 (n : Int))
theorem clone21 (b off n c : Nat) (l : List Nat) (w : World) (hl : l.length = n) (hn : n ≤ 4096) (hc : ∀ j, j < n → w.cell? ⟨b, off + j, none⟩ = some (.int .i64 ((l.getD j 0 : Nat) : Int))) :
    Calls Try.prog 21 #[.slice (some ⟨b, off, none⟩) n c] w fun e w' => ∃ v', e = .returned v' ∧ w'.ownsRow w.heap.size 3 1 v' n (natV l) ∧ Below w.heap.size w w' := by
  obtain ⟨i0, hi0, hz0, hz1, hz2⟩ := info_parts info3
  have h := AnyE.slices_Clone cloneI i0 (.int .i64 0) 1 8 hi0 hz0 hz1 hz2 rfl (by decide) (fun w => Try.sizeOf3 w) b off n c (natV l) w (by simp [natV, hl]) (by unfold maxLen; omega) (by omega) (fun j u hu => by
    have hj : j < n := by have := (List.getElem?_eq_some_iff.1 hu).1; simp [natV] at this; omega
    rw [hc j hj]
    unfold natV at hu
    rw [List.getElem?_map, List.getElem?_eq_getElem (by omega)] at hu
    rw [List.getD_eq_getElem?_getD, List.getElem?_eq_getElem (by omega)]
    exact hu) (fun u hu => by unfold natV at hu; rw [List.mem_map] at hu; obtain ⟨x, -, rfl⟩ := hu; rfl)
  change Calls Try.prog 21 _ _ _ at h
  refine h.mono ?_
  rintro e w' ⟨v', he, hown, -, hB⟩
  exact ⟨v', he, hown, hB⟩
theorem OrdQ.cellN {w : World} {O : Nat} {d m : Int} {l : List ByteArray} {s : List Nat} {r : List Int} {bs br : Nat} (h : OrdQ w O d m l s r bs br) {j : Nat} (hj : j < s.length) : w.cell? ⟨bs, j, none⟩ = some (.int .i64 ((s.getD j 0 : Nat) : Int)) := by
  rw [Arr.cell h.num (j := j) (by simpa using hj)]
  simp [List.getD_eq_getElem?_getD, hj]
theorem OrdQ.len {w : World} {O : Nat} {d m : Int} {l : List ByteArray} {s : List Nat} {r : List Int} {bs br : Nat} (h : OrdQ w O d m l s r bs br) : s.length = l.length := by have := h.perm.length_eq; simpa using this
theorem OrdQ.rankN {w : World} {O : Nat} {d m : Int} {l : List ByteArray} {s : List Nat} {r : List Int} {bs br : Nat} (h : OrdQ w O d m l s r bs br) {i : Nat} (hi : i < l.length) : ∃ j, j < l.length ∧ s[j]? = some i ∧ w.cell? ⟨br, i, none⟩ = some (.int .i64 (j : Int)) := by
  have hm : i ∈ s := h.perm.mem_iff.2 (List.mem_range.2 hi)
  obtain ⟨j, hj, hji⟩ := List.getElem_of_mem hm
  have hjl : j < l.length := by have := h.len; omega
  have := h.rank.2 j hj
  rw [List.getD_eq_getElem?_getD (l := s), List.getElem?_eq_getElem hj] at this
  simp only [Option.getD_some, hji] at this
  refine ⟨j, hjl, by rw [List.getElem?_eq_getElem hj, hji], ?_⟩
  rw [Arr.cell h.rnk (j := i) (by rw [h.rank.1, h.len]; exact hi), this]
theorem DictAt.bounded {F : Nat → Prop} {D : Nat} {w : World} {l : List ByteArray} {vo : Value} (h : DictAt F D w l vo) : l.length ≤ 4096 := h.size
theorem Dic.size {F : Nat → Prop} {D : Nat} {w : World} {l : List ByteArray} (h : Dic F D w l) : l.length ≤ 4096 := by
  rcases h with h | ⟨O, s, r, bs, br, h⟩
  · exact h.size
  · exact h.at_.size
/-- what a call leaves behind: the dictionary (its blocks are those of F, and new ones below k), and new memory from k on -/
structure After (F : Nat → Prop) (D : Nat) (w : World) (l : List ByteArray) (k : Nat) (w' : World) : Prop where
  turn : Turn F w w'
  low : w.heap.size ≤ k
  high : k ≤ w'.heap.size
  dic : Dic (fun j => F j ∨ (w.heap.size ≤ j ∧ j < k)) D w' l
set_option maxHeartbeats 4000000 in
theorem sorted12 (F : Nat → Prop) (D : Nat) (l : List ByteArray) (w : World) (h : Dic F D w l) (hF : ∀ k, F k → k < w.heap.size) :
    Calls Try.prog 12 #[ptrV D] w fun e w' => ∃ v s k, e = .returned v ∧ IsSort l s ∧ After F D w l k w' ∧ w'.ownsRow k 3 1 v l.length (natV s) := by
  have HO := Lib.hid (ordered22 F D l w h hF)
  have hz := h.size
  unfold ptrV at *
  clear h
  go_enter Try.func12, Try.ntmps12
  go_wp2_with fail
  refine HO.out.mono ?_
  rintro e w1 ⟨O, s, r, bs, br, rfl, hT, hs⟩
  have c3 : w1.cell? ⟨O, 3, none⟩ = some (.slice (some ⟨bs, 0, none⟩) l.length l.length) := Blk.cell hs.ord.cells 3
  have HC := Lib.hid (clone21 bs 0 l.length l.length s w1 hs.ord.len hz (fun j hj => by rw [Nat.zero_add]; exact hs.ord.cellN (by rw [hs.ord.len]; exact hj)))
  have HS := Lib.hid (And.intro hT hs)
  clear hT hs HO
  go_wp2_with fail
  refine HC.out.mono ?_
  rintro e w2 ⟨v, rfl, hown, hB⟩
  have H2 := Lib.hid (And.intro hown hB)
  obtain ⟨av, cv, rfl⟩ := owns_form hown
  clear hown hB c3 HC
  go_wp2_with fail
  go_ret
  obtain ⟨hT, hs⟩ := HS.out
  obtain ⟨hown, hB⟩ := H2.out
  refine ⟨_, s, w1.heap.size, rfl, ⟨hs.ord.perm, hs.ord.sorted⟩, ⟨hT.trans (Turn.of_below hB (fun k h1 h2 => by omega)), hT.size, hB.size, .inr ⟨O, s, r, bs, br, hs.keep (G := fun k => w1.heap.size ≤ k) ⟨hB.os, hB.tape, hB.output, hB.size, fun k hk hn => hB.block k hk⟩ (fun k hk hn => ?_)⟩⟩, hown⟩
  rcases hk with hk | hk
  · have := hF k hk; have := hT.size; omega
  · omega
set_option maxHeartbeats 4000000 in
theorem rank17 (F : Nat → Prop) (D : Nat) (l : List ByteArray) (i : Nat) (hi : i < l.length) (w : World) (h : Dic F D w l) (hF : ∀ k, F k → k < w.heap.size) :
    Calls Try.prog 17 #[ptrV D, .int .i64 (i : Int)] w fun e w' => ∃ j s k, e = .returned (.tuple #[.int .i64 ((j : Nat) : Int), .bool true]) ∧ IsSort l s ∧ s[j]? = some i ∧ After F D w l k w' := by
  have HO := Lib.hid (ordered22 F D l w h hF)
  have hz := h.size
  obtain ⟨va, vc, c0⟩ : ∃ va vc, w.cell? ⟨D, 0, none⟩ = some (.slice va l.length vc) := by
    rcases h with h | ⟨O, s, r, bs, br, h⟩
    · obtain ⟨vt, vm, hb, ho, -⟩ := h.cells
      obtain ⟨a, c, rfl⟩ := owns_form ho
      exact ⟨a, c, Blk.cell hb 0⟩
    · obtain ⟨vt, vm, hb, ho, -⟩ := h.at_.cells
      obtain ⟨a, c, rfl⟩ := owns_form ho
      exact ⟨a, c, Blk.cell hb 0⟩
  have d1 : decide ((i : Int) < 0) = false := decide_eq_false (by omega)
  have d2 : decide ((l.length : Int) ≤ i) = false := decide_eq_false (by omega)
  unfold ptrV at *
  clear h
  go_enter Try.func17, Try.ntmps17
  go_wp2_with fail
  refine HO.out.mono ?_
  rintro e w1 ⟨O, s, r, bs, br, rfl, hT, hs⟩
  have c4 : w1.cell? ⟨O, 4, none⟩ = some (.slice (some ⟨br, 0, none⟩) l.length l.length) := Blk.cell hs.ord.cells 4
  obtain ⟨j, hj, hsj, hcj⟩ := hs.ord.rankN hi
  have HS := Lib.hid (And.intro hT (And.intro hs hsj))
  clear hT hs hsj HO
  go_wp2_with fail
  go_ret2
  obtain ⟨hT, hs, hsj⟩ := HS.out
  exact ⟨j, s, w1.heap.size, rfl, ⟨hs.ord.perm, hs.ord.sorted⟩, hsj, ⟨hT, hT.size, Nat.le_refl _, .inr ⟨O, s, r, bs, br, hs⟩⟩⟩
end Go.Proofs.Ytiihnepfcgmghaa
