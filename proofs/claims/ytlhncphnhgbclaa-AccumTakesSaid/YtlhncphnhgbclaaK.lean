/- Accumulators: Same and Valid, where they tell true. -/
import Derived.Test.YtlhncphnhgbclaaJ
namespace Go.Proofs.Ytlhncphnhgbclaa
open Go.RowKit
set_option linter.unusedVariables false
set_option linter.unusedSimpArgs false

def partA (p : Prt) : Array Value := #[.bool p.any, .int .i64 (hiW p.sum), .int .u64 (loW p.sum), .int .i64 p.mn, .int .i64 p.mx]
theorem RowP.open {B : Nat} {w : World} {v : Value} {ps : List Prt} (h : RowP B w v ps) : ∃ a cap, v = .slice a ps.length cap ∧ ps.length ≤ cap ∧ cap ≤ 9223372036854775807 ∧
    (0 < ps.length → ∃ b off, a = some ⟨b, off, none⟩ ∧ b < B ∧ ∀ k j, k < ps.length → j < 5 → w.cell? ⟨b, off + k * 5 + j, none⟩ = (partA (ps.getD k zeroP))[j]?) := by
  obtain ⟨hl, a, cap, hv, h1, h2, h3⟩ := h
  refine ⟨a, cap, hv, h1, by simpa [maxLen] using h2, fun hn => ?_⟩
  obtain ⟨b, off, ha, hb', hc⟩ := h3 hn
  refine ⟨b, off, ha, hb', fun k j hk hj => ?_⟩
  rw [Nat.add_assoc, hc (k * 5 + j) (by omega)]
  have := partsC_at ps k j hk hj
  rw [List.getD_eq_getElem?_getD, this, List.getD_eq_getElem?_getD, List.getElem?_eq_getElem hk, Option.getD_some]
  rcases (by omega : j = 0 ∨ j = 1 ∨ j = 2 ∨ j = 3 ∨ j = 4) with rfl | rfl | rfl | rfl | rfl <;> rfl

set_option maxHeartbeats 4000000 in
theorem equal39 (v1 v2 : Value) (ps : List Prt) (w : World) (h1 : RowP w.heap.size w v1 ps) (h2 : RowP w.heap.size w v2 ps) :
    Calls Try.prog 39 #[v1, v2] w fun e w' => e = .returned (.bool true) ∧ Below w.heap.size w w' := by
  obtain ⟨a1, cap1, rfl, hcap1, hmax1, hc1⟩ := h1.open
  obtain ⟨a2, cap2, rfl, hcap2, hmax2, hc2⟩ := h2.open
  have HC1 := Lib.hid hc1
  have HC2 := Lib.hid hc2
  clear hc1 hc2
  go_enter Try.func39, Try.ntmps39
  go_wp2_with fail
  go_loopw [5, 13] (fun _ i wr => ∃ k : Nat, k ≤ ps.length ∧ i = .int .i64 k ∧ Below w.heap.size w wr) (fun _ i _ => ps.length - (intOf i).toNat)
  case atStart => exact ⟨0, by omega, rfl, Below.refl _ _⟩
  case round =>
    obtain ⟨k, hk, rfl, hB⟩ := hrel
    by_cases hlt : k < ps.length
    · have d1 : decide ((k : Int) < ps.length) = true := by simp; omega
      obtain ⟨b1, off1, rfl, hb1, hcell1⟩ := HC1.out (by omega)
      obtain ⟨b2, off2, rfl, hb2, hcell2⟩ := HC2.out (by omega)
      obtain ⟨p, hp⟩ : ∃ p, ps.getD k zeroP = p := ⟨_, rfl⟩
      have l1 : b1 < wr.heap.size := Nat.lt_of_lt_of_le hb1 hB.size
      have l2 : b2 < wr.heap.size := Nat.lt_of_lt_of_le hb2 hB.size
      have q1 : ∀ j, j < 5 → wr.cell? ⟨b1, off1 + k * 5 + j, none⟩ = (partA p)[j]? := fun j hj => by rw [hB.cell (by exact hb1), hcell1 k j hlt hj, hp]
      have q2 : ∀ j, j < 5 → wr.cell? ⟨b2, off2 + k * 5 + j, none⟩ = (partA p)[j]? := fun j hj => by rw [hB.cell (by exact hb2), hcell2 k j hlt hj, hp]
      unfold partA at q1 q2
      have Q1 := Lib.hid q1
      have Q2 := Lib.hid q2
      clear hcell1 hcell2 q1 q2 hp h1 h2
      go_wp2_with fail
      refine wp_region_below (by kernel_rfl) (by kernel_rfl) ?_
      refine qb_pure rfl _ (fun w' hB' => by go_simp; rfl) ?_
      simp only [Act.put, List.setIfInBounds_toArray, List.set_cons_zero, List.set_cons_succ]
      refine qb_pure rfl _ (fun w' hB' => by go_simp; rfl) ?_
      simp only [Act.put, List.setIfInBounds_toArray, List.set_cons_zero, List.set_cons_succ]
      refine qb_pure rfl (.pointer (some ⟨b1, off1 + k * 5, none⟩)) (fun w' hB' => by go_simp) ?_
      simp only [Act.put, List.setIfInBounds_toArray, List.set_cons_zero, List.set_cons_succ]
      refine qb_load_at rfl 46 (.tmp 18) rfl b1 (off1 + k * 5) rfl #[.bool p.any, .int .i64 (hiW p.sum), .int .u64 (loW p.sum), .int .i64 p.mn, .int .i64 p.mx] _ l1 Q1.out Try.underlying46 rfl info46s ?_
      simp only [Act.put, List.setIfInBounds_toArray, List.set_cons_zero, List.set_cons_succ]
      refine qb_pure rfl _ (fun w' hB' => by go_simp; rfl) ?_
      simp only [Act.put, List.setIfInBounds_toArray, List.set_cons_zero, List.set_cons_succ]
      refine qb_pure rfl _ (fun w' hB' => by go_simp; rfl) ?_
      simp only [Act.put, List.setIfInBounds_toArray, List.set_cons_zero, List.set_cons_succ]
      refine qb_pure rfl (.pointer (some ⟨b2, off2 + k * 5, none⟩)) (fun w' hB' => by go_simp) ?_
      simp only [Act.put, List.setIfInBounds_toArray, List.set_cons_zero, List.set_cons_succ]
      refine qb_load_at rfl 46 (.tmp 22) rfl b2 (off2 + k * 5) rfl #[.bool p.any, .int .i64 (hiW p.sum), .int .u64 (loW p.sum), .int .i64 p.mn, .int .i64 p.mx] _ l2 Q2.out Try.underlying46 rfl info46s ?_
      simp only [Act.put, List.setIfInBounds_toArray, List.set_cons_zero, List.set_cons_succ]
      refine qb_pure rfl (.bool false) (fun w' hB' => by go_simp) ?_
      simp only [Act.put, List.setIfInBounds_toArray, List.set_cons_zero, List.set_cons_succ]
      refine qb_nil ?_
      intro w2 hB2
      have hB3 := Below.call hB hB2
      go_wp2_with fail
      go_roundw
      case rel => exact ⟨k + 1, by omega, by go_num, hB3⟩
      case measure => simp [intOf]; omega
    · obtain rfl : k = ps.length := by omega
      go_wp2_with fail
      go_ret
      exact ⟨rfl, hB⟩

theorem same24 (c : Int) (v1 v2 : Value) (ps : List Prt) (w : World) (h1 : RowP w.heap.size w v1 ps) (h2 : RowP w.heap.size w v2 ps) :
    Calls Try.prog 24 #[.agg #[.int .i64 c, v1], .agg #[.int .i64 c, v2]] w fun e w' => e = .returned (.bool true) ∧ Below w.heap.size w w' := by
  have hB : Below w.heap.size w ((w.alloc (Obj.cells #[.int .i64 c, v1] 39)).alloc (Obj.cells #[.int .i64 c, v2] 39)) := Below.al (Below.al (Below.refl _ _) _) _
  have h1' : RowP ((w.alloc (Obj.cells #[.int .i64 c, v1] 39)).alloc (Obj.cells #[.int .i64 c, v2] 39)).heap.size ((w.alloc (Obj.cells #[.int .i64 c, v1] 39)).alloc (Obj.cells #[.int .i64 c, v2] 39)) v1 ps := Row.mono h1 hB hB.size
  have h2' : RowP ((w.alloc (Obj.cells #[.int .i64 c, v1] 39)).alloc (Obj.cells #[.int .i64 c, v2] 39)).heap.size ((w.alloc (Obj.cells #[.int .i64 c, v1] 39)).alloc (Obj.cells #[.int .i64 c, v2] 39)) v2 ps := Row.mono h2 hB hB.size
  have H1 := Lib.hid h1'
  have H2 := Lib.hid h2'
  have HB := Lib.hid hB
  clear h1 h2 h1' h2' hB
  go_enter Try.func24, Try.ntmps24
  go_wp2_with fail
  refine (equal39 v1 v2 ps _ H1.out H2.out).mono ?_
  rintro e w2 ⟨rfl, hB2⟩
  have hB3 := Below.call HB.out hB2
  go_wp2_with fail
  go_ret
  exact ⟨rfl, hB3⟩

theorem valid41 (p : Prt) (bx : Nat) (c : Int) (v : Value) (w : World) (hb : Blk w bx 39 #[.int .i64 c, v]) (hc : (c == 0) = false) (hm : p.mn ≤ p.mx) :
    Calls Try.prog 41 #[.agg #[.bool true, .int .i64 (hiW p.sum), .int .u64 (loW p.sum), .int .i64 p.mn, .int .i64 p.mx], .pointer (some ⟨bx, 0, none⟩)] w fun e w' => e = .returned (.bool false) ∧ Below w.heap.size w w' := by
  have hl := Blk.lt hb
  have c0 : (w.alloc (Obj.cells #[.bool true, .int .i64 (hiW p.sum), .int .u64 (loW p.sum), .int .i64 p.mn, .int .i64 p.mx] 46)).cell? ⟨bx, 0, none⟩ = some (.int .i64 c) := Blk.cell (Blk.alloc hb _) 0
  have hm2 : decide (p.mx < p.mn) = false := by simp; omega
  go_enter Try.func41, Try.ntmps41
  go_wp2_with fail
  go_ret
  exact ⟨rfl, Below.al (Below.refl _ _) _⟩

set_option maxHeartbeats 4000000 in
theorem index47 (v : Value) (ps : List Prt) (bx : Nat) (c : Int) (va : Value) (w : World) (h1 : RowP w.heap.size w v ps) (hb : Blk w bx 39 #[.int .i64 c, va]) (hc : (c == 0) = false) (hp : ∀ i, i < ps.length → (ps.getD i zeroP).any = true ∧ (ps.getD i zeroP).mn ≤ (ps.getD i zeroP).mx) :
    Calls Try.prog 47 #[v, .func (.func 41) #[] #[.pointer (some ⟨bx, 0, none⟩)]] w fun e w' => e = .returned (.int .i64 (-1)) ∧ Below w.heap.size w w' := by
  obtain ⟨a1, cap1, rfl, hcap1, hmax1, hc1⟩ := h1.open
  have HC1 := Lib.hid hc1
  have HP := Lib.hid hp
  have hl := Blk.lt hb
  clear hc1 hp h1
  go_enter Try.func47, Try.ntmps47
  go_wp2_with fail
  go_loopw [5, 8] (fun _ i wr => ∃ k : Nat, k ≤ ps.length ∧ i = .int .i64 k ∧ Below w.heap.size w wr) (fun _ i _ => ps.length - (intOf i).toNat)
  case atStart => exact ⟨0, by omega, rfl, Below.refl _ _⟩
  case round =>
    obtain ⟨k, hk, rfl, hB⟩ := hrel
    by_cases hlt : k < ps.length
    · have d1 : decide ((k : Int) < ps.length) = true := by simp; omega
      obtain ⟨b1, off1, rfl, hb1, hcell1⟩ := HC1.out (by omega)
      obtain ⟨p, hpe⟩ : ∃ p, ps.getD k zeroP = p := ⟨_, rfl⟩
      have hpp := HP.out k hlt
      rw [hpe] at hpp
      have q1 : ∀ j, j < 5 → wr.cell? ⟨b1, off1 + k * 5 + j, none⟩ = (partA p)[j]? := fun j hj => by rw [hB.cell (by exact hb1), hcell1 k j hlt hj, hpe]
      unfold partA at q1
      have Q1 := Lib.hid q1
      have hbr := Blk.below hb hB hl
      clear hcell1 q1 hpe
      have c0 : wr.cell? ⟨b1, off1 + k * 5, none⟩ = some (.bool true) := by rw [← hpp.1]; exact Q1.out 0 (by decide)
      have HM := Lib.hid hpp.2
      have c1 : wr.cell? ⟨b1, off1 + k * 5 + 1, none⟩ = some (.int .i64 (hiW p.sum)) := Q1.out 1 (by decide)
      have c2 : wr.cell? ⟨b1, off1 + k * 5 + 2, none⟩ = some (.int .u64 (loW p.sum)) := Q1.out 2 (by decide)
      have c3 : wr.cell? ⟨b1, off1 + k * 5 + 3, none⟩ = some (.int .i64 p.mn) := Q1.out 3 (by decide)
      have c4 : wr.cell? ⟨b1, off1 + k * 5 + 4, none⟩ = some (.int .i64 p.mx) := Q1.out 4 (by decide)
      clear hpp
      go_wp2_with fail
      refine (valid41 p bx c va _ hbr hc HM.out).mono ?_
      rintro e w2 ⟨rfl, hB2⟩
      have hB3 := Below.call hB hB2
      go_wp2_with fail
      go_roundw
      case rel => exact ⟨k + 1, by omega, by go_num, hB3⟩
      case measure => simp [intOf]; omega
    · obtain rfl : k = ps.length := by omega
      go_wp2_with fail
      go_ret
      exact ⟨rfl, hB⟩

theorem contains40 (v : Value) (ps : List Prt) (bx : Nat) (c : Int) (va : Value) (w : World) (h1 : RowP w.heap.size w v ps) (hb : Blk w bx 39 #[.int .i64 c, va]) (hc : (c == 0) = false) (hp : ∀ i, i < ps.length → (ps.getD i zeroP).any = true ∧ (ps.getD i zeroP).mn ≤ (ps.getD i zeroP).mx) :
    Calls Try.prog 40 #[v, .func (.func 41) #[] #[.pointer (some ⟨bx, 0, none⟩)]] w fun e w' => e = .returned (.bool false) ∧ Below w.heap.size w w' := by
  have HP := Lib.hid hp
  clear hp
  go_enter Try.func40, Try.ntmps40
  go_wp2_with fail
  refine (index47 v ps bx c va _ h1 hb hc HP.out).mono ?_
  rintro e w2 ⟨rfl, hB2⟩
  go_wp2_with fail
  go_ret
  exact ⟨rfl, hB2⟩

theorem valid25 (c m : Int) (v : Value) (ps : List Prt) (w : World) (h1 : RowP w.heap.size w v ps) (hc : 0 < c) (hm : m = ps.length) (hp : ∀ i, i < ps.length → (ps.getD i zeroP).any = true ∧ (ps.getD i zeroP).mn ≤ (ps.getD i zeroP).mx) :
    Calls Try.prog 25 #[.agg #[.int .i64 c, v], .int .i64 m] w fun e w' => e = .returned (.bool true) ∧ Below w.heap.size w w' := by
  have hmf : ∀ (fn : Fn) (first cap : Array Value) (w : World), (Instr.makeFunc fn first cap).run Try.prog w = .ok (.func fn first cap) w := fun _ _ _ _ => rfl
  have hc0 : (c == 0) = false := by simp; omega
  have hc1 : decide (0 ≤ c) = true := by simp; omega
  obtain ⟨a1, cap1, rfl, hcap1, hmax1, -⟩ := h1.open
  have hB : Below w.heap.size w (w.alloc (Obj.cells #[.int .i64 c, .slice a1 ps.length cap1] 39)) := Below.al (Below.refl _ _) _
  have h1' : RowP (w.alloc (Obj.cells #[.int .i64 c, .slice a1 ps.length cap1] 39)).heap.size (w.alloc (Obj.cells #[.int .i64 c, .slice a1 ps.length cap1] 39)) (.slice a1 ps.length cap1) ps := Row.mono h1 hB hB.size
  have hb : Blk (w.alloc (Obj.cells #[.int .i64 c, .slice a1 ps.length cap1] 39)) w.heap.size 39 #[.int .i64 c, .slice a1 ps.length cap1] := Blk.newAt _ _ _ rfl
  have H1 := Lib.hid h1'
  have HB := Lib.hid hB
  have HP := Lib.hid hp
  have HBB := Lib.hid hb
  subst hm
  clear h1 h1' hB hp hb
  go_enter Try.func25, Try.ntmps25
  go_wp2_with fail
  refine (contains40 _ ps w.heap.size c _ _ H1.out HBB.out hc0 HP.out).mono ?_
  rintro e w2 ⟨rfl, hB2⟩
  have hB3 := Below.call HB.out hB2
  go_wp2_with fail
  go_ret
  exact ⟨rfl, hB3⟩
end Go.Proofs.Ytlhncphnhgbclaa
