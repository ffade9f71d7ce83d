/- Names and the reference's Names. -/
import Derived.Test.YtbcnmkdlaoaoeaaC
namespace Go.Proofs.Ytbcnmkdlaoaoeaa
open Go.RowKit
set_option linter.unusedVariables false
set_option linter.unusedSimpArgs false

/-- a slice of texts that can be read -/
def RowS (B : Nat) (w : World) (v : Value) (l : List ByteArray) : Prop := Row B w v l.length 1 (l.map Value.string)
theorem RowS.mono {B B' : Nat} {w w' : World} {v : Value} {l : List ByteArray} (h : RowS B w v l) (hb : Below B w w') (hB : B ≤ B') : RowS B' w' v l := Row.mono h hb hB
theorem RowS.nil (B : Nat) (w : World) : RowS B w (.slice none 0 0) [] := Row.nil B w 1
theorem RowS.of_owns {w : World} {base : Nat} {e : TypeId} {v : Value} {n : Nat} {l : List ByteArray} (h : w.ownsRow base e 1 v n (l.map Value.string)) : RowS w.heap.size w v l := by
  have hn : n = l.length := by have := h.1; simpa using this.symm
  subst hn; exact Row.of_owns h
theorem RowS.open {B : Nat} {w : World} {v : Value} {l : List ByteArray} (h : RowS B w v l) : ∃ a cap, v = .slice a l.length cap ∧ l.length ≤ cap ∧ cap ≤ 9223372036854775807 ∧
    (0 < l.length → ∃ b off, a = some ⟨b, off, none⟩ ∧ b < B ∧ ∀ j, j < l.length → w.cell? ⟨b, off + j, none⟩ = some (.string (l.getD j ByteArray.empty))) := by
  obtain ⟨hl, a, cap, hv, h1, h2, h3⟩ := h
  refine ⟨a, cap, hv, h1, by simpa [maxLen] using h2, fun hn => ?_⟩
  obtain ⟨b, off, ha, hb', hc⟩ := h3 hn
  refine ⟨b, off, ha, hb', fun j hj => ?_⟩
  rw [hc j (by omega)]
  simp [List.getD_eq_getElem?_getD, hj]

theorem listTo_in (set : Int) (k : Nat) : ∀ x ∈ listTo set k, 0 ≤ x ∧ x < k := by
  induction k with
  | zero => intro x h; simp [listTo] at h
  | succ k ih =>
    intro x h
    simp only [listTo] at h
    split at h
    · rcases List.mem_append.1 h with h | h
      · have := ih x h; omega
      · simp at h; omega
    · have := ih x h; omega
theorem listL_in (set : Int) : ∀ x ∈ listL set, 0 ≤ x ∧ x < 6 := by
  unfold listL
  split
  · exact listTo_in set 6
  · intro x h; simp at h
theorem listL_len (set : Int) : (listL set).length ≤ 6 := by
  unfold listL
  split
  · exact listTo_len set 6
  · simp
theorem listL_at (set : Int) (k : Nat) (h : k < (listL set).length) : 0 ≤ (listL set).getD k 0 ∧ (listL set).getD k 0 < 6 := by
  apply listL_in set
  rw [List.getD_eq_getElem?_getD, List.getElem?_eq_getElem h]
  exact List.getElem_mem h

/-- the names of some dimensions -/
def nameOf (dims : List ByteArray) (i : Int) : List ByteArray := if i < dims.length then [dims.getD i.toNat ByteArray.empty] else []
def namesL (dims : List ByteArray) (l : List Int) : List ByteArray := l.flatMap (nameOf dims)
theorem namesL_step (dims : List ByteArray) (l : List Int) (k : Nat) (h : k < l.length) : namesL dims (l.take (k + 1)) = namesL dims (l.take k) ++ nameOf dims (l.getD k 0) := by
  unfold namesL
  rw [List.take_add_one, List.getElem?_eq_getElem h, List.flatMap_append, List.getD_eq_getElem?_getD, List.getElem?_eq_getElem h]
  simp
theorem namesL_len (dims : List ByteArray) (l : List Int) : (namesL dims l).length ≤ l.length := by
  induction l with
  | nil => simp [namesL]
  | cons x r ih =>
    have : (nameOf dims x).length ≤ 1 := by unfold nameOf; split <;> simp
    simp only [namesL, List.flatMap_cons, List.length_append, List.length_cons] at *
    omega
theorem Try.info9 : (Try.prog.info? 9).map (fun i => (i.zero, i.size, i.bytes)) = some (some (.string ByteArray.empty), 1, 16) := by kernel_rfl

set_option maxHeartbeats 4000000 in
theorem names12 (dims : List ByteArray) (vd : Value) (set : Int) (w : World) (hd : RowS w.heap.size w vd dims) (hset : -9223372036854775808 ≤ set ∧ set ≤ 9223372036854775807) :
    Calls Try.prog 12 #[vd, .int .i64 set] w fun e w' => ∃ v, e = .returned v ∧ w'.ownsRow w.heap.size 9 1 v (namesL dims (listL set)).length ((namesL dims (listL set)).map Value.string) ∧ Below w.heap.size w w' := by
  obtain ⟨i0, hi, hz0, hz1, hz2⟩ := info_parts Try.info9
  obtain ⟨a1, k1, rfl, hk1, hm1, hc1⟩ := hd.open
  have HC1 := Lib.hid hc1
  have hlen := listL_len set
  have hat := listL_at set
  obtain ⟨l, hl⟩ : ∃ l, l = listL set := ⟨_, rfl⟩
  have hll := list10 set w
  rw [← hl] at hlen hat hll ⊢
  have HAT := Lib.hid hat
  have HLL := Lib.hid hll
  clear hl hc1 hat hll hd
  go_enter Try.func12, Try.ntmps12
  go_wp2_with (go_at_call 10; refine HLL.out.mono ?_; rintro e w1 ⟨vl, rfl, hown, hB⟩; obtain ⟨a2, k2, rfl, hk2, hm2, hc2⟩ := (RowI.of_owns hown).open)
  all_goals
    have hB1 := hB
    have HC2 := Lib.hid hc2
    clear hown hc2 hB
    go_loopw [5, 11] (fun v i wr => ∃ k : Nat, k ≤ l.length ∧ i = .int .i64 k ∧ wr.ownsRow w1.heap.size 9 1 v (namesL dims (l.take k)).length ((namesL dims (l.take k)).map Value.string) ∧ Below w1.heap.size w1 wr) (fun _ i _ => l.length - (intOf i).toNat)
    case atStart => exact ⟨0, by omega, rfl, World.ownsRow_nil _ _ _ _, Below.refl _ _⟩
    case round =>
      obtain ⟨k, hk, rfl, hown, hB⟩ := hrel
      have hlen2 := namesL_len dims (l.take k)
      rw [List.length_take] at hlen2
      have hlen3 : (namesL dims (l.take k)).length ≤ 6 := by omega
      clear hlen2
      obtain ⟨an, kn, rfl⟩ := owns_form hown
      have HH := Lib.hid (And.intro hown hB)
      have hsz1 := hB1.size
      have hsz2 := hB.size
      clear hown hB
      by_cases hlt : k < l.length
      · have hI : (k : Int) < l.length := by omega
        obtain ⟨b2, o2, rfl, hb2, hcell2⟩ := HC2.out (by omega)
        obtain ⟨y, hy, hy2⟩ : ∃ y, Hid (l.getD k 0 = y) ∧ w1.cell? ⟨b2, o2 + k, none⟩ = some (.int .i64 y) := ⟨_, rfl, hcell2 k hlt⟩
        have cy : wr.cell? ⟨b2, o2 + k, none⟩ = some (.int .i64 y) := by rw [HH.out.2.cell (by exact hb2)]; exact hy2
        have hyb := HAT.out k hlt
        rw [hy.out] at hyb
        have hst := namesL_step dims l k hlt
        rw [hy.out] at hst
        clear hcell2 hy2 hy
        obtain ⟨m, rfl⟩ : ∃ m : Nat, y = m := ⟨y.toNat, by omega⟩
        by_cases hm : m < dims.length
        · have hmI : (m : Int) < dims.length := by omega
          obtain ⟨b1, o1, rfl, hb1, hcell1⟩ := HC1.out (by omega)
          obtain ⟨s, hs, hs2⟩ : ∃ s, Hid (dims.getD m ByteArray.empty = s) ∧ w.cell? ⟨b1, o1 + m, none⟩ = some (.string s) := ⟨_, rfl, hcell1 m hm⟩
          have cs : wr.cell? ⟨b1, o1 + m, none⟩ = some (.string s) := by rw [HH.out.2.cell (show b1 < w1.heap.size by omega), hB1.cell (by exact hb1)]; exact hs2
          have hn : nameOf dims m = [s] := by unfold nameOf; rw [if_pos hmI, Int.toNat_natCast, hs.out]
          rw [hn] at hst
          have HST := Lib.hid hst
          clear hst hn hcell1 hs2 hs
          go_wp2_with (at_builtin; refine wpList_append_own _ rfl _ _ 24 rfl w1.heap.size 9 i0 (.string ByteArray.empty) 1 16 Try.underlying24 hi hz0 hz1 hz2 rfl (by decide) _ _ _ rfl (HH.out.1.alloc _) ⟨wr.heap.size, 0, none⟩ 1 1 [.string s] rfl rfl (cell_one_new' _ _ _) (by intro u hu; simp at hu; subst hu; rfl) (by unfold maxLen; omega) (by omega) (by simp; omega) ?_; intro v' w2 hown' hgrow _)
          have hB' := Below.appended HH.out.2 hsz2 HH.out.1 _ hgrow
          go_roundw
          case rel => exact ⟨k + 1, by omega, by go_num, by rw [HST.out]; simpa using hown', hB'⟩
          case measure => simp [intOf]; omega
        · have d1 : decide ((m : Int) < dims.length) = false := by simp; omega
          have hn : nameOf dims m = [] := by unfold nameOf; rw [if_neg (by omega)]
          rw [hn, List.append_nil] at hst
          have HST := Lib.hid hst
          clear hst hn
          go_wp2_with (fail)
          go_roundw
          case rel => exact ⟨k + 1, by omega, by go_num, by rw [HST.out]; exact HH.out.1, HH.out.2⟩
          case measure => simp [intOf]; omega
      · have d1 : decide ((k : Int) < l.length) = false := by simp; omega
        have hk' : k = l.length := by omega
        subst hk'
        rw [List.take_length] at HH ⊢
        go_wp2_with (fail)
        go_ret
        exact ⟨_, rfl, owns_base HH.out.1 hsz1, Below.call hB1 HH.out.2⟩

set_option maxHeartbeats 4000000 in
theorem names13 (dims : List ByteArray) (vd : Value) (set : Int) (w : World) (hd : RowS w.heap.size w vd dims) (hset : -9223372036854775808 ≤ set ∧ set ≤ 9223372036854775807) :
    Calls Try.prog 13 #[vd, .int .i64 set] w fun e w' => ∃ v, e = .returned v ∧ w'.ownsRow w.heap.size 9 1 v (namesL dims (listL set)).length ((namesL dims (listL set)).map Value.string) ∧ Below w.heap.size w w' := by
  obtain ⟨i0, hi, hz0, hz1, hz2⟩ := info_parts Try.info9
  obtain ⟨a1, k1, rfl, hk1, hm1, hc1⟩ := hd.open
  have HC1 := Lib.hid hc1
  have hlen := listL_len set
  have hat := listL_at set
  obtain ⟨l, hl⟩ : ∃ l, l = listL set := ⟨_, rfl⟩
  have hll := list11 set w hset
  rw [← hl] at hlen hat hll ⊢
  have HAT := Lib.hid hat
  have HLL := Lib.hid hll
  clear hl hc1 hat hll hd
  go_enter Try.func13, Try.ntmps13
  go_wp2_with (go_at_call 11; refine HLL.out.mono ?_; rintro e w1 ⟨vl, rfl, hown, hB⟩; obtain ⟨a2, k2, rfl, hk2, hm2, hc2⟩ := (RowI.of_owns hown).open)
  all_goals
    have hB1 := hB
    have HC2 := Lib.hid hc2
    clear hown hc2 hB
    go_loopw [5, 7] (fun v i wr => ∃ k : Nat, k ≤ l.length ∧ i = .int .i64 k ∧ wr.ownsRow w1.heap.size 9 1 v (namesL dims (l.take k)).length ((namesL dims (l.take k)).map Value.string) ∧ Below w1.heap.size w1 wr) (fun _ i _ => l.length - (intOf i).toNat)
    case atStart => exact ⟨0, by omega, rfl, World.ownsRow_nil _ _ _ _, Below.refl _ _⟩
    case round =>
      obtain ⟨k, hk, rfl, hown, hB⟩ := hrel
      have hlen2 := namesL_len dims (l.take k)
      rw [List.length_take] at hlen2
      have hlen3 : (namesL dims (l.take k)).length ≤ 6 := by omega
      clear hlen2
      obtain ⟨an, kn, rfl⟩ := owns_form hown
      have HH := Lib.hid (And.intro hown hB)
      have hsz1 := hB1.size
      have hsz2 := hB.size
      clear hown hB
      by_cases hlt : k < l.length
      · have hI : (k : Int) < l.length := by omega
        obtain ⟨b2, o2, rfl, hb2, hcell2⟩ := HC2.out (by omega)
        obtain ⟨y, hy, hy2⟩ : ∃ y, Hid (l.getD k 0 = y) ∧ w1.cell? ⟨b2, o2 + k, none⟩ = some (.int .i64 y) := ⟨_, rfl, hcell2 k hlt⟩
        have cy : wr.cell? ⟨b2, o2 + k, none⟩ = some (.int .i64 y) := by rw [HH.out.2.cell (by exact hb2)]; exact hy2
        have hyb := HAT.out k hlt
        rw [hy.out] at hyb
        have hst := namesL_step dims l k hlt
        rw [hy.out] at hst
        clear hcell2 hy2 hy
        obtain ⟨m, rfl⟩ : ∃ m : Nat, y = m := ⟨y.toNat, by omega⟩
        by_cases hm : m < dims.length
        · have hmI : (m : Int) < dims.length := by omega
          obtain ⟨b1, o1, rfl, hb1, hcell1⟩ := HC1.out (by omega)
          obtain ⟨s, hs, hs2⟩ : ∃ s, Hid (dims.getD m ByteArray.empty = s) ∧ w.cell? ⟨b1, o1 + m, none⟩ = some (.string s) := ⟨_, rfl, hcell1 m hm⟩
          have cs : wr.cell? ⟨b1, o1 + m, none⟩ = some (.string s) := by rw [HH.out.2.cell (show b1 < w1.heap.size by omega), hB1.cell (by exact hb1)]; exact hs2
          have hn : nameOf dims m = [s] := by unfold nameOf; rw [if_pos hmI, Int.toNat_natCast, hs.out]
          rw [hn] at hst
          have HST := Lib.hid hst
          clear hst hn hcell1 hs2 hs
          go_wp2_with (at_builtin; refine wpList_append_own _ rfl _ _ 24 rfl w1.heap.size 9 i0 (.string ByteArray.empty) 1 16 Try.underlying24 hi hz0 hz1 hz2 rfl (by decide) _ _ _ rfl (HH.out.1.alloc _) ⟨wr.heap.size, 0, none⟩ 1 1 [.string s] rfl rfl (cell_one_new' _ _ _) (by intro u hu; simp at hu; subst hu; rfl) (by unfold maxLen; omega) (by omega) (by simp; omega) ?_; intro v' w2 hown' hgrow _)
          have hB' := Below.appended HH.out.2 hsz2 HH.out.1 _ hgrow
          go_roundw
          case rel => exact ⟨k + 1, by omega, by go_num, by rw [HST.out]; simpa using hown', hB'⟩
          case measure => simp [intOf]; omega
        · have d1 : decide ((m : Int) < dims.length) = false := by simp; omega
          have hn : nameOf dims m = [] := by unfold nameOf; rw [if_neg (by omega)]
          rw [hn, List.append_nil] at hst
          have HST := Lib.hid hst
          clear hst hn
          go_wp2_with (fail)
          go_roundw
          case rel => exact ⟨k + 1, by omega, by go_num, by rw [HST.out]; exact HH.out.1, HH.out.2⟩
          case measure => simp [intOf]; omega
      · have d1 : decide ((k : Int) < l.length) = false := by simp; omega
        have hk' : k = l.length := by omega
        subst hk'
        rw [List.take_length] at HH ⊢
        go_wp2_with (fail)
        go_ret
        exact ⟨_, rfl, owns_base HH.out.1 hsz1, Below.call hB1 HH.out.2⟩

end Go.Proofs.Ytbcnmkdlaoaoeaa
