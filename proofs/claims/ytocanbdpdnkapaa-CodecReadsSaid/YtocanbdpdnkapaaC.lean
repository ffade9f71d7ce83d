/- The table: made once; Sum by it. -/
import Derived.Test.YtocanbdpdnkapaaB
namespace Go.Proofs.Ytocanbdpdnkapaa
open Go.RowKit
set_option linter.unusedVariables false
set_option linter.unusedSimpArgs false

/-- nothing has turned but block b (and new memory) -/
structure Only (b : Nat) (w w' : World) : Prop where
  os : w'.os = w.os
  tape : w'.tape = w.tape
  output : w'.output = w.output
  size : w.heap.size ≤ w'.heap.size
  block : ∀ k, k < w.heap.size → k ≠ b → w'.heap[k]? = w.heap[k]?
theorem Only.refl (b : Nat) (w : World) : Only b w w := ⟨rfl, rfl, rfl, Nat.le_refl _, fun _ _ _ => rfl⟩
theorem Only.drew {b : Nat} {a w : World} (h : Only b a w) : Only b a w.drew := ⟨h.os, h.tape, h.output, h.size, h.block⟩
theorem Only.drewN {b : Nat} {a w : World} (h : Only b a w) (n : Nat) : Only b a (w.drewN n) := ⟨h.os, h.tape, h.output, h.size, h.block⟩
theorem Only.set {b : Nat} {a w : World} (h : Only b a w) (i : Nat) (v : Value) : Only b a (w.setCell ⟨b, i, none⟩ v) :=
  ⟨h.os, h.tape, h.output, by simp [World.setCell]; exact h.size, fun k hk hne => (Below.heap_setCell w ⟨b, i, none⟩ v k hne).trans (h.block k hk hne)⟩
theorem Only.trans {b : Nat} {a w w' : World} (h : Only b a w) (h' : Only b w w') : Only b a w' :=
  ⟨h'.os.trans h.os, h'.tape.trans h.tape, h'.output.trans h.output, Nat.le_trans h.size h'.size, fun k hk hne => (h'.block k (Nat.lt_of_lt_of_le hk h.size) hne).trans (h.block k hk hne)⟩
theorem Only.blk {b p : Nat} {w w' : World} {T : TypeId} {cs : Array Value} (h : Only b w w') (hb : Blk w p T cs) (hne : p ≠ b) : Blk w' p T cs := (h.block p hb.lt hne).trans hb
theorem Only.below {b B : Nat} {w w' : World} (h : Only b w w') (hb : B ≤ b) (hs : B ≤ w.heap.size) : Below B w w' := ⟨h.os, h.tape, h.output, h.size, fun k hk => h.block k (by omega) (by omega)⟩
theorem Only.of_below {b : Nat} {w w' : World} (h : Below w.heap.size w w') : Only b w w' := ⟨h.os, h.tape, h.output, h.size, fun k hk _ => h.block k hk⟩

/-- a table's cells -/
def tcL (d m : Int) (l : List Nat) : List Value := .int .u32 d :: .int .i32 m :: .int .u32 0 :: l.map fun n : Nat => Value.int .u32 (n : Int)
def tc (d m : Int) (l : List Nat) : Array Value := (tcL d m l).toArray
theorem tc_0 (d m : Int) (l : List Nat) : (tc d m l)[0]? = some (.int .u32 d) := by simp [tc, tcL]
theorem tc_1 (d m : Int) (l : List Nat) : (tc d m l)[1]? = some (.int .i32 m) := by simp [tc, tcL]
theorem tc_at (d m : Int) (l : List Nat) (k : Nat) (h : k < l.length) : (tc d m l)[3 + k]? = some (.int .u32 (l.getD k 0 : Nat)) := by
  rw [Nat.add_comm]; simp [tc, tcL, List.getD_eq_getElem?_getD, h]
theorem tc_set0 (d m x : Int) (l : List Nat) : (tc d m l).setIfInBounds 0 (.int .u32 x) = tc x m l := by simp [tc, tcL]
theorem tc_set1 (d m x : Int) (l : List Nat) : (tc d m l).setIfInBounds 1 (.int .i32 x) = tc d x l := by simp [tc, tcL]
theorem tc_set (d m : Int) (l : List Nat) (k n : Nat) : (tc d m l).setIfInBounds (3 + k) (.int .u32 (n : Nat)) = tc d m (l.set k n) := by
  rw [Nat.add_comm]; simp [tc, tcL, List.map_set]
def tabTo (k : Nat) : List Nat := (List.range 256).map fun i => if i < k then tabC i else 0
theorem tabTo_len (k : Nat) : (tabTo k).length = 256 := by simp [tabTo]
theorem tabTo_step (k : Nat) : (tabTo k).set k (tabC k) = tabTo (k + 1) := by
  apply List.ext_getElem
  · simp [tabTo]
  · intro i h1 h2
    rw [List.getElem_set]
    simp only [tabTo, List.getElem_map, List.getElem_range]
    by_cases e : k = i
    · subst e; simp
    · rw [if_neg e]
      by_cases hi : i < k
      · rw [if_pos hi, if_pos (by omega)]
      · rw [if_neg hi, if_neg (by omega)]
theorem tabTo_at (i : Nat) (h : i < 256) : (tabTo 256).getD i 0 = tabC i := by simp [tabTo, List.getD_eq_getElem?_getD, h]

theorem mask1 {y : Nat} (hl : y < 4294967296) (h : y % 2 = 1) : bits .and .u32 3988292384 (IntKind.u32.wrap (-1)) = 3988292384 := by decide +kernel
theorem and1 {y : Nat} (hl : y < 4294967296) : bits .and .u32 (y : Int) 1 = ((y % 2 : Nat) : Int) := by
  have := u32_and_nat y 1 hl (by omega)
  rw [Nat.and_one_is_mod] at this
  exact this

set_option maxRecDepth 100000 in
set_option maxHeartbeats 4000000 in
theorem fill37 (B p : Nat) (d m : Int) (w : World) (hp : Blk w p 23 #[.pointer (some ⟨B, 0, none⟩)]) (hB : Blk w B 38 (tc d m (tabTo 0))) (hne : p ≠ B) :
    Calls Try.prog 37 #[.pointer (some ⟨p, 0, none⟩)] w fun e w' => e = .returned (.tuple #[]) ∧ Blk w' B 38 (tc d m (tabTo 256)) ∧ Only B w w' := by
  go_enter Try.func37, Try.ntmps37
  go_wp2
  go_loopw [3] (fun i wr => ∃ k : Nat, k ≤ 256 ∧ i = .int .i64 k ∧ Blk wr B 38 (tc d m (tabTo k)) ∧ Only B w wr) (fun i _ => 256 - (intOf i).toNat)
  case atStart => exact ⟨0, by omega, rfl, hB, Only.refl _ _⟩
  case round =>
    obtain ⟨k, hk, rfl, hBk, hO⟩ := hrel
    have hpk := hO.blk hp hne
    have HBK := Lib.hid hBk
    have HO := Lib.hid hO
    have HPK := Lib.hid hpk
    clear hBk hO hpk
    by_cases hlt : k < 256
    · have hkI : (k : Int) < 256 := by omega
      go_wp2
      go_loopw [2, 8] (fun c i wr' => ∃ q : Nat, q ≤ 8 ∧ i = .int .i64 q ∧ c = .int .u32 (stepN q k : Nat) ∧ wr' = wr) (fun _ i _ => 8 - (intOf i).toNat)
      case atStart => exact ⟨0, by omega, rfl, rfl, rfl⟩
      case round =>
        obtain ⟨q, hq, rfl, rfl, rfl⟩ := hrel
        have hl := stepN_lt q (c := k) (by omega)
        by_cases hq8 : q < 8
        · have hs2 : stepN (q + 1) k = stepC (stepN q k) := rfl
          obtain ⟨y, hy⟩ : ∃ y, stepN q k = y := ⟨_, rfl⟩
          rw [hy] at hs2 hl ⊢
          unfold stepC at hs2
          have ha := and1 hl
          by_cases ho : y % 2 = 1
          · rw [if_pos ho] at hs2
            rw [ho] at ha
            have hz : bits .xor .u32 ((y : Int) / 2) 3988292384 = ((y / 2 ^^^ 3988292384 : Nat) : Int) := u32_xor_nat (y / 2) 3988292384 (by omega) (by omega)
            obtain ⟨z, hz2⟩ : ∃ z, y / 2 ^^^ 3988292384 = z := ⟨_, rfl⟩
            rw [hz2] at hs2 hz
            have hm1 : bits .and .u32 3988292384 4294967295 = 3988292384 := by decide +kernel
            have HS := Lib.hid hs2
            clear hs2 hz2 ho
            go_wp2
            go_roundw
            case rel => exact ⟨q + 1, by omega, by go_num, by rw [HS.out], trivial⟩
            case measure => simp [intOf]; omega
          · rw [if_neg ho, Nat.xor_zero] at hs2
            rw [show y % 2 = 0 by omega] at ha
            have hz : bits .xor .u32 ((y : Int) / 2) 0 = ((y / 2 : Nat) : Int) := by
              have := u32_xor_nat (y / 2) 0 (by omega) (by omega)
              rw [Nat.xor_zero] at this
              exact this
            have hm1 : bits .and .u32 3988292384 0 = 0 := by decide +kernel
            have HS := Lib.hid hs2
            clear hs2 ho
            go_wp2
            go_roundw
            case rel => exact ⟨q + 1, by omega, by go_num, by rw [HS.out]; rfl, trivial⟩
            case measure => simp [intOf]; omega
        · obtain rfl : q = 8 := by omega
          have ht : stepN 8 k = tabC k := rfl
          rw [ht]
          obtain ⟨z, hz⟩ : ∃ z, tabC k = z := ⟨_, rfl⟩
          have hst := tabTo_step k
          rw [hz] at hst ⊢
          have HST := Lib.hid hst
          have cp : wr.cell? ⟨p, 0, none⟩ = some (.pointer (some ⟨B, 0, none⟩)) := Blk.cell HPK.out 0
          have cb : wr.cell? ⟨B, 3 + k, none⟩ = some (.int .u32 ((tabTo k).getD k 0 : Nat)) := (Blk.cell HBK.out (3 + k)).trans (tc_at _ _ _ k (by rw [tabTo_len]; exact hlt))
          have fb : wr.frozen? ⟨B, 3 + k, none⟩ = false := Blk.free HBK.out _
          have hset := Blk.set HBK.out (3 + k) (.int .u32 (z : Nat))
          rw [tc_set, hst] at hset
          have HSET := Lib.hid hset
          have HO2 := Lib.hid (HO.out.set (3 + k) (.int .u32 (z : Nat)))
          clear hst hset ht hz
          go_wp2
          go_roundw
          case rel => exact ⟨k + 1, by omega, by go_num, HSET.out, HO2.out⟩
          case measure => simp [intOf]; omega
    · obtain rfl : k = 256 := by omega
      go_wp2
      go_end0
      exact ⟨rfl, HBK.out, HO.out⟩

theorem unlock93 (a : Addr) (u : FrameMode) (w : World) (hc : w.cell? a = some (.int .i32 1)) (hz : w.frozen? a = false) :
    CallsD Try.prog 93 #[.pointer (some a)] u w fun e u' w' => u' = u ∧ (e = .returned (.tuple #[]) ∧ w' = w.setCell a (.int .i32 0)) := by
  go_enter_d Try.func93, Try.ntmps93
  go_wp2_with (go_at_call 100; refine (unlock100 a w hc hz).mono ?_; rintro e w' ⟨rfl, rfl⟩)
  go_end0
  exact ⟨rfl, rfl⟩

set_option maxRecDepth 100000 in
set_option maxHeartbeats 1600000 in
theorem slow79 (B p : Nat) (w : World) (hp : Blk w p 23 #[.pointer (some ⟨B, 0, none⟩)]) (hB : Blk w B 38 (tc 0 0 (tabTo 0))) (hne : p ≠ B) :
    Calls Try.prog 79 #[.pointer (some ⟨B, 0, none⟩), .func (Fn.func 37) #[] #[.pointer (some ⟨p, 0, none⟩)]] w fun e w' => e = .returned (.tuple #[]) ∧ Blk w' B 38 (tc 1 0 (tabTo 256)) ∧ Only B w w' := by
  have hnot : ∀ (x : Bool) (w : World), (Op.unary .not (.bool x)).run Try.prog w = .ok (.bool (!x)) w := fun _ _ => rfl
  have hB1 := Blk.set hB 1 (.int .i32 1)
  rw [tc_set1] at hB1
  have hO1 := (Only.refl B w).set 1 (.int .i32 1)
  have hp1 := hO1.blk hp hne
  have HL := Lib.hid (lock92 ⟨B, 1, none⟩ w ((Blk.cell hB 1).trans (tc_1 _ _ _)) (Blk.free hB 1))
  obtain ⟨w1, hw1⟩ : ∃ w1, w1 = w.setCell ⟨B, 1, none⟩ (.int .i32 1) := ⟨_, rfl⟩
  rw [← hw1] at hB1 hO1 hp1 HL
  have HLD := Lib.hid (load78 ⟨B, 0, none⟩ 0 w1 ((Blk.cell hB1 0).trans (tc_0 _ _ _)))
  have HF := Lib.hid (fill37 B p 0 1 w1 hp1 hB1 hne)
  have HO1 := Lib.hid hO1
  clear hB1 hO1 hp1 hw1 hp hB
  go_enter_defers Try.func79, Try.ntmps79
  go_wp2_with fail
  refine HL.out.mono ?_
  rintro e w' ⟨rfl, rfl⟩
  go_wp2_with fail
  refine HLD.out.mono ?_
  rintro e w' ⟨rfl, rfl⟩
  go_wp2_with fail
  refine HF.out.mono ?_
  rintro e w2 ⟨rfl, hB2, hO2⟩
  have hB3 := Blk.set (Blk.drew hB2) 0 (.int .u32 1)
  rw [tc_set0] at hB3
  have hO3 := (hO2.drew).set 0 (.int .u32 1)
  have hB4 := Blk.set hB3 1 (.int .i32 0)
  rw [tc_set1] at hB4
  have hO4 := hO3.set 1 (.int .i32 0)
  have HFIN := Lib.hid (And.intro hB4 (HO1.out.trans hO4))
  have HS := Lib.hid (store_deferred ⟨B, 0, none⟩ _ .returning w2 ((Blk.cell hB2 0).trans (tc_0 _ _ _)) (Blk.free hB2 0))
  have HU := Lib.hid (unlock93 ⟨B, 1, none⟩ .returning _ ((Blk.cell hB3 1).trans (tc_1 _ _ _)) (Blk.free hB3 1))
  clear hB2 hO2 hB3 hO3 hB4 hO4 HF HLD HL
  go_wp2_with fail
  refine leaves_cons (f := 94) (args := #[.pointer (some ⟨B, 0, none⟩), .bool true]) (by simp) (by simp [go_sem]) ?_
  refine HS.out.mono ?_
  rintro e u' w'' ⟨rfl, rfl, rfl⟩
  refine leaves_cons (f := 93) (args := #[.pointer (some ⟨B, 1, none⟩)]) (by simp [settle]) (by simp [go_sem]) ?_
  refine HU.out.mono ?_
  rintro e u' w'' ⟨rfl, rfl, rfl⟩
  have hfin := HFIN.out
  simp [Leaves, settle, results, Try.results79]
  exact hfin

theorem do36_first (B p : Nat) (w : World) (hp : Blk w p 23 #[.pointer (some ⟨B, 0, none⟩)]) (hB : Blk w B 38 (tc 0 0 (tabTo 0))) (hne : p ≠ B) :
    Calls Try.prog 36 #[.pointer (some ⟨B, 0, none⟩), .func (Fn.func 37) #[] #[.pointer (some ⟨p, 0, none⟩)]] w fun e w' => e = .returned (.tuple #[]) ∧ Blk w' B 38 (tc 1 0 (tabTo 256)) ∧ Only B w w' := by
  have HLD := Lib.hid (load78 ⟨B, 0, none⟩ 0 w ((Blk.cell hB 0).trans (tc_0 _ _ _)))
  have HS := Lib.hid (slow79 B p w hp hB hne)
  clear hp hB
  go_enter Try.func36, Try.ntmps36
  go_wp2_with fail
  refine HLD.out.mono ?_
  rintro e w' ⟨rfl, rfl⟩
  go_wp2_with fail
  refine HS.out.mono ?_
  rintro e w' ⟨rfl, h1, h2⟩
  go_wp2_with fail
  go_end0
  exact ⟨rfl, h1, h2⟩
theorem do36_done (B p : Nat) (l : List Nat) (w : World) (hB : Blk w B 38 (tc 1 0 l)) :
    Calls Try.prog 36 #[.pointer (some ⟨B, 0, none⟩), .func (Fn.func 37) #[] #[.pointer (some ⟨p, 0, none⟩)]] w fun e w' => e = .returned (.tuple #[]) ∧ w = w' := by
  have HLD := Lib.hid (load78 ⟨B, 0, none⟩ 1 w ((Blk.cell hB 0).trans (tc_0 _ _ _)))
  clear hB
  go_enter Try.func36, Try.ntmps36
  go_wp2_with fail
  refine HLD.out.mono ?_
  rintro e w' ⟨rfl, rfl⟩
  go_wp2_with fail
  go_end0
  exact ⟨rfl, rfl⟩
end Go.Proofs.Ytocanbdpdnkapaa
