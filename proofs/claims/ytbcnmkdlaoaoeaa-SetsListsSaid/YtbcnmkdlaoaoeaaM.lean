/- SetsLists: a set is told as its dimensions, and made of them. -/
import Derived.Test.YtbcnmkdlaoaoeaaL
import Derived.Test.YtbcnmkdlaoaoeaaBase14
namespace Go.Proofs.Ytbcnmkdlaoaoeaa
open Go.RowKit
set_option linter.unusedVariables false
set_option linter.unusedSimpArgs false

theorem back' : ∀ a : Fin 64, ofN (listL ((a.val : Nat) : Int)) = a.val := by decide +kernel
theorem back_eq (set : Int) (h0 : 0 ≤ set) (h1 : set ≤ 63) : ((ofN (listL set) : Nat) : Int) = set := by
  obtain ⟨m, rfl⟩ : ∃ m : Nat, set = m := ⟨set.toNat, by omega⟩
  exact congrArg (fun n : Nat => (n : Int)) (back' ⟨m, by omega⟩)

set_option maxHeartbeats 4000000 in
set_option maxRecDepth 100000 in
theorem lists5 (set : Int) (hset : -9223372036854775808 ≤ set ∧ set ≤ 9223372036854775807) (vl vd : Value) (l : List Int) (dims : List ByteArray) (w : World) (hl : RowI w.heap.size w vl l) (hd : RowS w.heap.size w vd dims) :
    Calls Try.prog 5 #[.int .i64 set, vl, vd] w fun e w' => e = .returned (.bool true) ∧ Below w.heap.size w w' := by
  obtain ⟨al, kl, rfl, -⟩ := hl.open
  obtain ⟨ad, kd, rfl, -⟩ := hd.open
  have HLD := Lib.hid (And.intro hl hd)
  clear hl hd
  go_enter Try.func5, Try.ntmps5
  go_wp2_with fail
  refine (awake6 w).mono ?_
  rintro e w1 ⟨rfl, hB1⟩
  have HB1 := Lib.hid hB1
  go_wp2_with fail
  refine (list10 set w1).mono ?_
  rintro e w2 ⟨va, rfl, hown1, hB2⟩
  obtain ⟨a1, k1, rfl⟩ := owns_form hown1
  have HR1 := Lib.hid (RowI.of_owns hown1)
  have HB2 := Lib.hid (Below.call hB1 hB2)
  clear hown1 hB2 hB1
  go_wp2_with fail
  refine (list11 set w2 hset).mono ?_
  rintro e w3 ⟨vb, rfl, hown2, hB3⟩
  obtain ⟨a2, k2, rfl⟩ := owns_form hown2
  have HR2 := Lib.hid (RowI.of_owns hown2)
  have HR1' := Lib.hid (HR1.out.mono hB3 hB3.size)
  have HB3 := Lib.hid (Below.call HB2.out hB3)
  clear hown2 hB3
  go_wp2_with fail
  refine (same9 w3.heap.size _ _ _ _ w3 HR1'.out HR2.out).mono ?_
  rw [show decide (listL set = listL set) = true by simp]
  rintro e w4 ⟨rfl, n4, rfl⟩
  have HB4 := Lib.hid (Below.drewN HB3.out n4)
  go_wp2_with fail
  refine (names12 dims _ set _ (HLD.out.2.mono HB4.out HB4.out.size) hset).mono ?_
  rintro e w5 ⟨vn, rfl, hown3, hB5⟩
  obtain ⟨a3, k3, rfl⟩ := owns_form hown3
  have HR3 := Lib.hid (RowS.of_owns hown3)
  have HB5 := Lib.hid (Below.call HB4.out hB5)
  clear hown3 hB5
  go_wp2_with fail
  refine (names13 dims _ set _ (HLD.out.2.mono HB5.out HB5.out.size) hset).mono ?_
  rintro e w6 ⟨vm, rfl, hown4, hB6⟩
  obtain ⟨a4, k4, rfl⟩ := owns_form hown4
  have HR4 := Lib.hid (RowS.of_owns hown4)
  have HR3' := Lib.hid (HR3.out.mono hB6 hB6.size)
  have HB6 := Lib.hid (Below.call HB5.out hB6)
  have hnl := namesL_len dims (listL set)
  have hll := listL_len set
  clear hown4 hB6 HR1 HR2 HR1' HR3 HB1 HB2 HB3 HB4 HB5
  have HO1 := Lib.hid (of14 _ _ l w6 (HLD.out.1.mono HB6.out HB6.out.size))
  have HO2 := Lib.hid (of15 _ _ l w6 (HLD.out.1.mono HB6.out HB6.out.size))
  obtain ⟨ns, hns⟩ : ∃ ns, ns = namesL dims (listL set) := ⟨_, rfl⟩
  rw [← hns] at HR3' HR4 hnl ⊢
  clear hns
  obtain ⟨a5, k5, hv5, hk5, hm5, hc5⟩ := HR3'.out.open
  obtain ⟨a6, k6, hv6, hk6, hm6, hc6⟩ := HR4.out.open
  injection hv5 with e1 _ e2
  injection hv6 with e3 _ e4
  subst e1 e2 e3 e4
  have HC5 := Lib.hid hc5
  have HC6 := Lib.hid hc6
  clear hc5 hc6
  go_wp2_with (first | (go_at_call 14; refine HO1.out.mono ?_; rintro e w3 ⟨rfl, rfl⟩) | (go_at_call 15; refine HO2.out.mono ?_; rintro e w4 ⟨rfl, rfl⟩))
  go_loopw [11] (fun i wr => ∃ k n : Nat, k ≤ ns.length ∧ i = .int .i64 k ∧ wr = w6.drewN n) (fun i _ => ns.length - (intOf i).toNat)
  case atStart => exact ⟨0, 0, by omega, rfl, rfl⟩
  case round =>
    obtain ⟨k, n, hk, rfl, rfl⟩ := hrel
    by_cases hlt : k < ns.length
    · obtain ⟨b5, o5, rfl, hb5, hc5⟩ := HC5.out (by omega)
      obtain ⟨b6, o6, rfl, hb6, hc6⟩ := HC6.out (by omega)
      have q5 := hc5 k hlt
      have q6 := hc6 k hlt
      obtain ⟨s, hs⟩ : ∃ s, ns.getD k ByteArray.empty = s := ⟨_, rfl⟩
      rw [hs] at q5 q6
      have hI : (k : Int) < ns.length := by omega
      clear hc5 hc6 HC5 HC6 hs
      go_wp2_with fail
      go_quiet (fail)
      go_wp2_with fail
      go_roundw
      case rel => exact ⟨k + 1, _, by omega, by go_num, rfl⟩
      case measure => simp [intOf]; omega
    · have hk' : k = ns.length := by omega
      have HKK := Lib.hid hk'
      clear hk'
      go_wp2_with fail
      refine (list10 set _).mono ?_
      rintro e w7 ⟨v7, rfl, hown7, hB7⟩
      obtain ⟨a7, k7, rfl⟩ := owns_form hown7
      have HB7 := Lib.hid (Below.call (Below.drewN HB6.out n) hB7)
      have HR7 := Lib.hid (RowI.of_owns hown7)
      clear hown7 hB7
      go_wp2_with fail
      refine (of14 w7.heap.size _ (listL set) w7 HR7.out).mono ?_
      rintro e w8 ⟨rfl, rfl⟩
      by_cases h0 : 0 ≤ set
      · by_cases h1 : set ≤ 63
        · rw [back_eq set h0 h1]
          have d0 : decide (set < 0) = false := by simp; omega
          have d1 : decide (63 < set) = false := by simp; omega
          go_wp2_with fail
          go_ret
          exact ⟨rfl, HB7.out⟩
        · have d0 : decide (set < 0) = false := by simp; omega
          have d1 : decide (63 < set) = true := by simp; omega
          go_wp2_with fail
          go_ret
          exact ⟨rfl, HB7.out⟩
      · have d0 : decide (set < 0) = true := by simp; omega
        go_wp2_with fail
        go_ret
        exact ⟨rfl, HB7.out⟩

theorem listsLaw (set : Int) (vl vd : Value) (w : World) (hset : (Lit.int .i64 set).wf = true) (n : Nat) (l : List Int) (hl : Row w.heap.size w vl n 1 (l.map (Value.int .i64))) (hlw : n * 8 ≤ 140737488351232)
    (dims : List ByteArray) (hd : Row w.heap.size w vd dims.length 1 (dims.map Value.string)) (hdx : ∀ s ∈ dims, s.size ≤ maxLen) (hdw : dims.length * 16 ≤ 140737488351232) :
    Calls Try.prog 5 #[.int .i64 set, vl, vd] w fun e w' => e = .returned (.bool true) ∧ Below w.heap.size w w' := by
  have hn : n = l.length := by have := hl.len; simpa using this.symm
  subst hn
  exact lists5 set (wf_bd hset) vl vd l dims w hl hd
end Go.Proofs.Ytbcnmkdlaoaoeaa
