/- The document's dictionary: Sorted. -/
import Derived.Test.YtiihnepfcgmghaaX
namespace Go.Proofs.Ytiihnepfcgmghaa
open Go.RowKit Go.Maps
set_option linter.unusedVariables false
set_option linter.unusedSimpArgs false

theorem countP_prefix {α : Type} (p : α → Bool) : ∀ (s : List α), (∀ (i j : Nat) (hi : i < s.length) (hj : j < s.length), i ≤ j → p s[j] = true → p s[i] = true) → ∀ (k : Nat) (hk : k < s.length), p s[k] = decide (k < s.countP p)
  | [], _, k, hk => by simp at hk
  | x :: s, h, k, hk => by
    have ih := countP_prefix p s (fun i j hi hj hij hp => by
      have := h (i + 1) (j + 1) (by simp; omega) (by simp; omega) (by omega)
      simpa using this hp)
    cases hx : p x
    · have h0 : s.countP p = 0 := by
        rw [List.countP_eq_zero]
        intro y hy
        obtain ⟨j, hj, rfl⟩ := List.getElem_of_mem hy
        intro hp
        have := h 0 (j + 1) (by simp) (by simp; omega) (by omega) (by simpa using hp)
        simp at this
        rw [hx] at this; cases this
      rw [List.countP_cons, hx, h0]
      cases k with
      | zero => simpa using hx
      | succ k =>
        have hk2 : k < s.length := by simpa using hk
        have := ih k hk2
        rw [h0] at this
        simpa using this
    · rw [List.countP_cons, hx]
      cases k with
      | zero => simpa using hx
      | succ k =>
        have hk2 : k < s.length := by simpa using hk
        have := ih k hk2
        simp only [List.getElem_cons_succ, this]
        simp
theorem filter_mid {α : Type} (q : α → Bool) : ∀ (s : List α) (la lb : Nat), (∀ (k : Nat) (hk : k < s.length), q s[k] = (decide (la ≤ k) && decide (k < lb))) → s.filter q = (s.drop la).take (lb - la)
  | [], la, lb, _ => by simp
  | x :: s, la, lb, h => by
    have h0 := h 0 (by simp)
    simp only [List.getElem_cons_zero] at h0
    have hs : ∀ (k : Nat) (hk : k < s.length), q s[k] = (decide (la ≤ k + 1) && decide (k + 1 < lb)) := fun k hk => by
      have := h (k + 1) (by simp; omega)
      simpa using this
    cases la with
    | zero =>
      cases lb with
      | zero =>
        have ih := filter_mid q s 0 0 (fun k hk => by rw [hs k hk]; simp)
        rw [List.filter_cons, h0]; simpa using ih
      | succ m =>
        have ih := filter_mid q s 0 m (fun k hk => by rw [hs k hk]; simp)
        rw [List.filter_cons, h0]
        simp at ih
        simp [ih]
    | succ m =>
      have ih := filter_mid q s m (lb - 1) (fun k hk => by
        rw [hs k hk]
        congr 1
        · simp
        · rw [decide_eq_decide]; omega)
      rw [List.filter_cons, h0]
      simp only [Nat.le_zero_eq, Nat.add_one_ne_zero, decide_false, Bool.false_and, Bool.false_eq_true, if_false, List.drop_succ_cons]
      rw [ih]
      congr 1; omega
theorem low_at {l : List ByteArray} {s : List Nat} (hs : IsSort l s) (t : ByteArray) {k : Nat} (hk : k < s.length) : ltS (l.getD s[k] ByteArray.empty) t = decide (k < lowC l s t) :=
  countP_prefix (fun i => ltS (l.getD i ByteArray.empty) t) s (fun i j hi hj hij hp => sorted_mono hs.2 t hij (List.getElem?_eq_getElem hi) (List.getElem?_eq_getElem hj) hp) k hk
/-- what the document takes of the sorted numbers -/
def midB (l : List ByteArray) (a b : ByteArray) (i : Nat) : Bool := !ltS (l.getD i ByteArray.empty) a && ltS (l.getD i ByteArray.empty) b
theorem mid_betw {l : List ByteArray} {s : List Nat} (hs : IsSort l s) (a b : ByteArray) : s.filter (midB l a b) = betw l s a b := by
  unfold betw
  refine filter_mid _ s _ _ (fun k hk => ?_)
  unfold midB
  rw [low_at hs a hk, low_at hs b hk]
  congr 1
  simp only [← decide_not, Nat.not_lt]
theorem rank_le {l : List ByteArray} {s : List Nat} (hn : l.Nodup) (hs : IsSort l s) {i : Nat} (hi : i < l.length) : rankN l i < l.length ∧ s[rankN l i]? = some i := by
  have hm : i ∈ s := hs.1.mem_iff.2 (List.mem_range.2 hi)
  obtain ⟨j, hj⟩ := List.mem_iff_getElem?.1 hm
  have e := place_rank hn hs hj
  have h2 := (List.getElem?_eq_some_iff.1 hj).1
  rw [hs.len] at h2
  rw [e]
  exact ⟨h2, hj⟩
set_option maxRecDepth 100000 in
set_option maxHeartbeats 4000000 in
theorem rsorted19 (R : Nat) (l : List ByteArray) (s : List Nat) (w : World) {a : Option Addr} {c : Nat} (h : RefQ R w l a c) (hl : l.length ≤ 4096) (hsh : ∀ s ∈ l, s.size ≤ 64) (hn : l.Nodup) (hs : IsSort l s) :
    Calls Try.prog 19 #[ptrV R] w fun e w' => e = .returned (.slice (some ⟨w.heap.size, 0, none⟩) l.length l.length) ∧ Blk w' w.heap.size 3 (ints (s.map Int.ofNat)) ∧ Below w.heap.size w w' := by
  have hmk := mk31 l.length hl w
  have c0 := h.cell
  have H := Lib.hid h
  have HN := Lib.hid (And.intro hsh (And.intro hn hs))
  unfold ptrV
  have e0 : (List.replicate l.length (Value.int .i64 0)).toArray = ints (fillL l.length 0) := fillL_zero _
  rw [e0] at hmk
  clear h hsh hn hs e0
  go_enter Try.func19, Try.ntmps19
  go_wp2_with fail
  have HB := Lib.hid (Below.al (Below.refl w.heap.size w) (Obj.cells (ints (fillL l.length 0)) 3))
  have HK := Lib.hid (Blk.new w 3 (ints (fillL l.length 0)))
  clear hmk
  generalize w.alloc (Obj.cells (ints (fillL l.length 0)) 3) = w1 at *
  go_loopw [4] (fun u wr => ∃ (i : Nat) (L : List Int), i ≤ l.length ∧ u = .int .i64 i ∧ L.length = l.length ∧ (∀ j, j < i → L.getD (rankN l j) 0 = (j : Int)) ∧ Blk wr w.heap.size 3 (ints L) ∧ Below w.heap.size w wr) (fun u _ => l.length - (intOf u).toNat)
  case atStart => exact ⟨0, _, by omega, rfl, by simp [fillL], fun j h => by omega, HK.out, HB.out⟩
  case round =>
    obtain ⟨i, L, hi, rfl, hL, hp, hb, hB⟩ := hrel
    have HQ := Lib.hid (H.out.step hB)
    have c0 := HQ.out.cell
    have HI := Lib.hid (And.intro hL (And.intro hp (And.intro hb hB)))
    clear hL hp hb hB
    by_cases h1 : i < l.length
    · have hd3 : decide ((i : Int) < l.length) = true := decide_eq_true (by omega)
      have HR := Lib.hid (rrank30 R l i (by omega) wr HQ.out hl HN.out.1)
      obtain ⟨hr, hri⟩ := rank_le HN.out.2.1 HN.out.2.2 h1
      have HRI := Lib.hid hri
      unfold rankV at HR
      rw [inR_yes h1, if_pos rfl, Int.toNat_natCast] at HR
      unfold ptrV at HR
      clear hri
      obtain ⟨r, er⟩ : ∃ r, r = rankN l i := ⟨_, rfl⟩
      rw [← er] at HR hr
      have ER := Lib.hid er
      clear er
      go_wp2_with fail
      refine HR.out.mono ?_
      rintro e w2 ⟨rfl, hB2⟩
      have hbb := HI.out.2.2.1.below hB2 HI.out.2.2.1.lt
      have f0 := Blk.free hbb r
      have g0 := Blk.cell hbb r
      have hsz : r < (ints L).size := by rw [size_ints, HI.out.1]; exact hr
      rw [Array.getElem?_eq_getElem hsz] at g0
      generalize (ints L)[r] = y0 at g0
      have HB2 := Lib.hid (And.intro hB2 hbb)
      clear hB2 HR hbb hsz
      go_wp2_with fail
      have hb3 : Blk (w2.setCell ⟨w.heap.size, r, none⟩ (.int .i64 (i : Int))) w.heap.size 3 (ints (L.set r (i : Int))) := by
        have h := Blk.set HB2.out.2 r (.int .i64 (i : Int))
        have e : (ints L).setIfInBounds r (.int .i64 (i : Int)) = ints (L.set r (i : Int)) := by unfold ints; rw [List.setIfInBounds_toArray, List.map_set]
        rw [e] at h
        exact h
      have hB3 : Below w.heap.size w (w2.setCell ⟨w.heap.size, r, none⟩ (.int .i64 (i : Int))) := (HI.out.2.2.2.trans (HB2.out.1.mono HI.out.2.2.2.size)).trans (((Turn.refl (fun k => k = w.heap.size) w2).setCell (p := ⟨w.heap.size, r, none⟩) rfl (.int .i64 (i : Int))).below (Nat.le_trans HI.out.2.2.2.size HB2.out.1.size) (fun k h1 h2 => by omega))
      have H3 := Lib.hid (And.intro hb3 hB3)
      clear hb3 hB3 f0 g0
      generalize w2.setCell ⟨w.heap.size, r, none⟩ (.int .i64 (i : Int)) = w3 at *
      go_roundw
      case rel =>
        refine ⟨i + 1, L.set r (i : Int), by omega, by go_num, by rw [List.length_set]; exact HI.out.1, fun j hj => ?_, H3.out.1, H3.out.2⟩
        have hrL : r < L.length := by rw [HI.out.1]; exact hr
        by_cases e : j = i
        · subst e
          rw [← ER.out, List.getD_eq_getElem?_getD, List.getElem?_set_self hrL]; rfl
        · have hji : j < i := by omega
          have hjr := rank_le HN.out.2.1 HN.out.2.2 (show j < l.length by omega)
          have hne : r ≠ rankN l j := fun h => by
            have := HRI.out
            rw [← ER.out, h, hjr.2] at this
            injection this with this
            omega
          rw [List.getD_eq_getElem?_getD, List.getElem?_set_ne hne, ← List.getD_eq_getElem?_getD]
          exact HI.out.2.1 j hji
      case measure => simp [intOf]; omega
    · have hd3 : decide ((i : Int) < l.length) = false := decide_eq_false (by omega)
      obtain rfl : i = l.length := by omega
      have eL : L = s.map Int.ofNat := by
        apply List.ext_getElem
        · rw [HI.out.1, List.length_map, HN.out.2.2.len]
        · intro r h1 h2
          rw [List.length_map] at h2
          have hm : s[r] < l.length := List.mem_range.1 (HN.out.2.2.1.mem_iff.1 (List.getElem_mem h2))
          have e1 := place_rank HN.out.2.1 HN.out.2.2 (List.getElem?_eq_getElem h2)
          have e2 := HI.out.2.1 s[r] hm
          rw [e1, List.getD_eq_getElem?_getD, List.getElem?_eq_getElem h1] at e2
          rw [List.getElem_map]
          exact e2
      go_wp2_with fail
      go_ret
      exact ⟨rfl, eL ▸ HI.out.2.2.1, HI.out.2.2.2⟩
end Go.Proofs.Ytiihnepfcgmghaa
