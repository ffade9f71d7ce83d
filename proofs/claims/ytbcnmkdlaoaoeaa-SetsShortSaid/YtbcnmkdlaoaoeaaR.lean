/- SetsShort: names. -/
import Derived.Test.YtbcnmkdlaoaoeaaQ
namespace Go.Proofs.Ytbcnmkdlaoaoeaa
open Go.RowKit
set_option linter.unusedVariables false
set_option linter.unusedSimpArgs false

def rawI (p : Int) : Nat := if p < 0 then (-(p + 1)).toNat else p.toNat
def nameAt (dims : List ByteArray) (p : Int) : ByteArray := dims.getD (rawI p % dims.length) ByteArray.empty
def namesP (dims : List ByteArray) (picks : List Int) (n : Nat) : List ByteArray := (picks.take n).map (nameAt dims)
theorem namesP_step (dims : List ByteArray) (picks : List Int) (n : Nat) (h : n < picks.length) : (namesP dims picks (n + 1)).map Value.string = (namesP dims picks n).map Value.string ++ [.string (nameAt dims (picks.getD n 0))] := by
  unfold namesP
  rw [List.take_add_one, List.getElem?_eq_getElem h, List.getD_eq_getElem?_getD, List.getElem?_eq_getElem h]
  rw [List.map_append, List.map_append]
  rfl
theorem rawI_neg {p : Int} {y : Nat} (h : p < 0) (hy : rawI p = y) : -(p + 1) = (y : Int) := by
  unfold rawI at hy
  rw [if_pos h] at hy
  omega
theorem rawI_pos {p : Int} {y : Nat} (h : ¬ p < 0) (hy : rawI p = y) : p = (y : Int) := by
  unfold rawI at hy
  rw [if_neg h] at hy
  omega
theorem namesP_len (dims : List ByteArray) (picks : List Int) (n : Nat) (h : n ≤ picks.length) : (namesP dims picks n).length = n := by
  unfold namesP
  rw [List.length_map, List.length_take]; omega
theorem namesP_in (dims : List ByteArray) (picks : List Int) (n : Nat) (h0 : 0 < dims.length) : ∀ s ∈ namesP dims picks n, s ∈ dims := by
  intro s hs
  unfold namesP at hs
  rw [List.mem_map] at hs
  obtain ⟨p, _, rfl⟩ := hs
  unfold nameAt
  rw [List.getD_eq_getElem?_getD, List.getElem?_eq_getElem (Nat.mod_lt _ h0)]
  exact List.getElem_mem _

set_option maxHeartbeats 4000000 in
theorem names7 (dims : List ByteArray) (vd : Value) (picks : List Int) (vp : Value) (w : World) (hd : RowS w.heap.size w vd dims) (h0 : 0 < dims.length) (hp : RowI w.heap.size w vp picks) (hb : ∀ p ∈ picks, -9223372036854775808 ≤ p ∧ p ≤ 9223372036854775807) :
    Calls Try.prog 7 #[vd, vp, .int .i64 6] w fun e w' => ∃ v, e = .returned v ∧ w'.ownsRow w.heap.size 9 1 v (min picks.length 6) ((namesP dims picks (min picks.length 6)).map Value.string) ∧ Below w.heap.size w w' := by
  obtain ⟨i0, hi, hz0, hz1, hz2⟩ := info_parts Try.info9
  obtain ⟨a1, k1, rfl, hk1, hm1, hc1⟩ := hd.open
  obtain ⟨a2, k2, rfl, hk2, hm2, hc2⟩ := hp.open
  obtain ⟨bd, od, rfl, hbd, hcd⟩ := hc1 h0
  have HC1 := Lib.hid hcd
  have HC2 := Lib.hid hc2
  have HBP := Lib.hid (show ∀ k, k < picks.length → -9223372036854775808 ≤ picks.getD k 0 ∧ picks.getD k 0 ≤ 9223372036854775807 from fun k hk => hb _ (by rw [List.getD_eq_getElem?_getD, List.getElem?_eq_getElem hk]; exact List.getElem_mem hk))
  clear hc1 hc2 hcd hb hd hp
  obtain ⟨N, hN⟩ : ∃ N, min picks.length 6 = N := ⟨_, rfl⟩
  rw [hN]
  have hN6 : N ≤ 6 := by omega
  have hNp : N ≤ picks.length := by omega
  have HN := Lib.hid hN
  clear hN
  go_enter Try.func7, Try.ntmps7
  go_wp2_with fail
  go_loopw [7, 8] (fun v i wr => ∃ k : Nat, k ≤ N ∧ i = .int .i64 k ∧ wr.ownsRow w.heap.size 9 1 v k ((namesP dims picks k).map Value.string) ∧ Below w.heap.size w wr) (fun _ i _ => N - (intOf i).toNat)
  case atStart => exact ⟨0, by omega, rfl, World.ownsRow_nil _ _ _ _, Below.refl _ _⟩
  case round =>
    obtain ⟨k, hk, rfl, hown, hB⟩ := hrel
    obtain ⟨an, kn, rfl⟩ := owns_form hown
    have HH := Lib.hid (And.intro hown hB)
    have hsz := hB.size
    clear hown hB
    by_cases hlt : k < N
    · have hI1 : (k : Int) < picks.length := by omega
      have hI2 : (k : Int) < 6 := by omega
      obtain ⟨bp, op, rfl, hbp, hcp⟩ := HC2.out (by omega)
      have hpb := HBP.out k (by omega)
      have q1 := (HH.out.2.cell (p := ⟨bp, op + k, none⟩) (by exact hbp)).trans (hcp k (by omega))
      have hst := namesP_step dims picks k (by omega)
      obtain ⟨p, hp⟩ : ∃ p, picks.getD k 0 = p := ⟨_, rfl⟩
      rw [hp] at hpb q1 hst
      unfold nameAt at hst
      have hyl : rawI p % dims.length < dims.length := Nat.mod_lt _ h0
      have q2 := (HH.out.2.cell (p := ⟨bd, od + rawI p % dims.length, none⟩) (by exact hbd)).trans (HC1.out _ hyl)
      obtain ⟨s, hs⟩ : ∃ s, dims.getD (rawI p % dims.length) ByteArray.empty = s := ⟨_, rfl⟩
      rw [hs] at q2 hst
      obtain ⟨y, hy⟩ : ∃ y, rawI p = y := ⟨_, rfl⟩
      rw [hy] at q2 hyl
      have HST := Lib.hid hst
      clear hst hs hp hcp
      have hd0 : (0 : Int) < dims.length := by omega
      have hdz : ((dims.length : Int) == 0) = false := beq_eq_false_iff_ne.2 (by omega)
      by_cases hneg : p < 0
      · have ey := rawI_neg hneg hy
        have hyb : (y : Int) ≤ 9223372036854775807 := by omega
        clear hy
        have EY := Lib.hid ey
        clear ey
        go_upto_region 8 with fail
        rw [EY.out]
        clear hneg hpb q1
        go_wp2_with (at_builtin; refine wpList_append_own _ rfl _ _ 24 rfl w.heap.size 9 i0 (.string ByteArray.empty) 1 16 Try.underlying24 hi hz0 hz1 hz2 rfl (by decide) _ _ _ rfl (HH.out.1.alloc _) ⟨wr.heap.size, 0, none⟩ 1 1 [.string s] rfl rfl (cell_one_new' _ _ _) (by intro u hu; simp at hu; subst hu; rfl) (by unfold maxLen; omega) (by omega) (by simp; omega) ?_; intro v' w2 hown' hgrow _)
        have hB' := Below.appended HH.out.2 hsz HH.out.1 _ hgrow
        go_roundw
        case rel => exact ⟨k + 1, by omega, by go_num, by rw [HST.out]; exact hown', hB'⟩
        case measure => simp [intOf]; omega
      · have ey := rawI_pos hneg hy
        subst ey
        have d0 : decide ((y : Int) < 0) = false := by simp
        clear hneg hy
        go_wp2_with (at_builtin; refine wpList_append_own _ rfl _ _ 24 rfl w.heap.size 9 i0 (.string ByteArray.empty) 1 16 Try.underlying24 hi hz0 hz1 hz2 rfl (by decide) _ _ _ rfl (HH.out.1.alloc _) ⟨wr.heap.size, 0, none⟩ 1 1 [.string s] rfl rfl (cell_one_new' _ _ _) (by intro u hu; simp at hu; subst hu; rfl) (by unfold maxLen; omega) (by omega) (by simp; omega) ?_; intro v' w2 hown' hgrow _)
        have hB' := Below.appended HH.out.2 hsz HH.out.1 _ hgrow
        go_roundw
        case rel => exact ⟨k + 1, by omega, by go_num, by rw [HST.out]; exact hown', hB'⟩
        case measure => simp [intOf]; omega
    · have hk' : k = N := by omega
      subst hk'
      by_cases h1 : k < picks.length
      · have h2 : k = 6 := by have := HN.out; omega
        have HK := Lib.hid h2
        have d1 : (k : Int) < picks.length := by omega
        have d2 : decide ((k : Int) < 6) = false := decide_eq_false (by omega)
        clear h2
        go_wp2_with fail
        go_ret
        exact ⟨_, rfl, HH.out.1, HH.out.2⟩
      · have d1 : decide ((k : Int) < picks.length) = false := decide_eq_false (by omega)
        go_wp2_with fail
        go_ret
        exact ⟨_, rfl, HH.out.1, HH.out.2⟩
end Go.Proofs.Ytbcnmkdlaoaoeaa
