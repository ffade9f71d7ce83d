/- The program's Orders: what is to be begun, what is to be let go. -/
import Derived.Test.YtfgnmcmkjfnogaaE
namespace Go.Proofs.Ytfgnmcmkjfnogaa
open Go.RowKit
set_option linter.unusedVariables false
set_option linter.unusedSimpArgs false

/-- the set of the i-th view, and its state: views lie flat, six numbers each -/
def vSet (xs : List Int) (i : Nat) : Int := xs.getD (i * 6) 0
def vState (xs : List Int) (i : Nat) : Int := xs.getD (i * 6 + 1) 0
def isV (s : Int) (xs : List Int) (i : Nat) : Bool := vSet xs i == s
def liveV (s : Int) (xs : List Int) (i : Nat) : Bool := vSet xs i == s && (vState xs i == 1 || vState xs i == 2)
/-- does something hold of one of the first n? -/
def anyTo (p : Nat → Bool) (n : Nat) : Bool := (List.range n).any p
theorem anyTo_yes {p : Nat → Bool} {n k : Nat} (hk : k < n) (h : p k = true) : anyTo p n = true := by
  simp only [anyTo, List.any_eq_true]; exact ⟨k, by simpa using hk, h⟩
theorem anyTo_no {p : Nat → Bool} {n : Nat} (h : ∀ k, k < n → p k = false) : anyTo p n = false := by
  simp only [anyTo, List.any_eq_false]; intro k hk; simp [h k (by simpa using hk)]

/-- the cells of the i-th view -/
def vCells (xs : List Int) (i : Nat) : Array Value := ints [xs.getD (i * 6) 0, xs.getD (i * 6 + 1) 0, xs.getD (i * 6 + 2) 0, xs.getD (i * 6 + 3) 0, xs.getD (i * 6 + 4) 0, xs.getD (i * 6 + 5) 0]

theorem isV36 (s : Int) (xs : List Int) (i c : Nat) (w : World) (hc : w.cell? ⟨c, 0, none⟩ = some (.int .i64 s)) (hl : c < w.heap.size) :
    Calls Try.prog 36 #[.agg (vCells xs i), .pointer (some ⟨c, 0, none⟩)] w fun e w' => e = .returned (.bool (isV s xs i)) ∧ Below w.heap.size w w' := by
  unfold isV vSet vCells
  generalize xs.getD (i * 6) 0 = a0
  generalize xs.getD (i * 6 + 1) 0 = a1
  generalize xs.getD (i * 6 + 2) 0 = a2
  generalize xs.getD (i * 6 + 3) 0 = a3
  generalize xs.getD (i * 6 + 4) 0 = a4
  generalize xs.getD (i * 6 + 5) 0 = a5
  have hc' : ∀ o, (w.alloc o).cell? ⟨c, 0, none⟩ = some (.int .i64 s) := fun o => (World.cell?_alloc_past _ _ _ hl).trans hc
  simp only [ints, List.map_cons, List.map_nil]
  go_enter Try.func36, Try.ntmps36
  go_wp2_with fail
  try go_quiet (fail)
  try go_wp2_with fail
  go_ret
  exact ⟨rfl, by first | exact ((Below.refl _ _).alloc (Nat.le_refl _) _) | exact ((Below.refl _ _).alloc (Nat.le_refl _) _).drewN _⟩

theorem live37 (s : Int) (xs : List Int) (i c : Nat) (w : World) (hc : w.cell? ⟨c, 0, none⟩ = some (.int .i64 s)) (hl : c < w.heap.size) :
    Calls Try.prog 37 #[.agg (vCells xs i), .pointer (some ⟨c, 0, none⟩)] w fun e w' => e = .returned (.bool (liveV s xs i)) ∧ Below w.heap.size w w' := by
  unfold liveV vSet vState vCells
  generalize xs.getD (i * 6) 0 = a0
  generalize xs.getD (i * 6 + 1) 0 = a1
  generalize xs.getD (i * 6 + 2) 0 = a2
  generalize xs.getD (i * 6 + 3) 0 = a3
  generalize xs.getD (i * 6 + 4) 0 = a4
  generalize xs.getD (i * 6 + 5) 0 = a5
  have hc' : ∀ o, (w.alloc o).cell? ⟨c, 0, none⟩ = some (.int .i64 s) := fun o => (World.cell?_alloc_past _ _ _ hl).trans hc
  simp only [ints, List.map_cons, List.map_nil]
  obtain ⟨e1, h1⟩ : ∃ e1, (a0 == s) = e1 := ⟨_, rfl⟩
  obtain ⟨e2, h2⟩ : ∃ e2, (a1 == 1) = e2 := ⟨_, rfl⟩
  obtain ⟨e3, h3⟩ : ∃ e3, (a1 == 2) = e3 := ⟨_, rfl⟩
  cases e1 <;> cases e2
  all_goals
    go_enter Try.func37, Try.ntmps37
    go_wp2_with fail
    try go_quiet (fail)
    try go_wp2_with fail
    go_ret
    exact ⟨ret_bool (by simp [h1, h2, h3]), by first | exact ((Below.refl _ _).alloc (Nat.le_refl _) _) | exact ((Below.refl _ _).alloc (Nat.le_refl _) _).drewN _⟩

/-- views that can be read -/
def RowV (B : Nat) (w : World) (v : Value) (n : Nat) (xs : List Int) : Prop := Row B w v n 6 (xs.map (Value.int .i64))
theorem RowV.open {B : Nat} {w : World} {v : Value} {n : Nat} {xs : List Int} (h : RowV B w v n xs) : ∃ a cap, v = .slice a n cap ∧ n ≤ cap ∧ cap ≤ 9223372036854775807 ∧ xs.length = n * 6 ∧
    (0 < n → ∃ b off, a = some ⟨b, off, none⟩ ∧ b < B ∧ ∀ i j, i < n → j < 6 → w.cell? ⟨b, off + i * 6 + j, none⟩ = some (.int .i64 (xs.getD (i * 6 + j) 0))) := by
  obtain ⟨hl, a, cap, hv, h1, h2, h3⟩ := h
  refine ⟨a, cap, hv, h1, by simpa [maxLen] using h2, by simpa using hl, fun hn => ?_⟩
  obtain ⟨b, off, ha, hb', hc⟩ := h3 hn
  refine ⟨b, off, ha, hb', fun i j hi hj => ?_⟩
  have hij : i * 6 + j < n * 6 := by omega
  rw [Nat.add_assoc, hc _ hij]
  have : i * 6 + j < xs.length := by simp at hl; omega
  simp [List.getD_eq_getElem?_getD, this]
theorem RowV.mono {B B' : Nat} {w w' : World} {v : Value} {n : Nat} {xs : List Int} (h : RowV B w v n xs) (hb : Below B w w') (hB : B ≤ B') : RowV B' w' v n xs := Row.mono h hb hB

theorem Try.info38 : (Try.prog.info? 38).map (·.size) = some 6 := by kernel_rfl

theorem indexV41 (F c : Nat) (p : List Int → Nat → Bool) (s : Int) (n : Nat) (xs : List Int) (v : Value) (hcf : ∀ args w, (callFunc F args).run Try.prog w = .ok (.enter F args) w)
    (hF : ∀ (i : Nat) (w : World), w.cell? ⟨c, 0, none⟩ = some (.int .i64 s) → c < w.heap.size →
      Calls Try.prog F #[.agg (vCells xs i), .pointer (some ⟨c, 0, none⟩)] w fun e w' => e = .returned (.bool (p xs i)) ∧ Below w.heap.size w w')
    (w : World) (hc : w.cell? ⟨c, 0, none⟩ = some (.int .i64 s)) (hl : c < w.heap.size) (hr : RowV w.heap.size w v n xs) :
    Calls Try.prog 41 #[v, .func (.func F) #[] #[.pointer (some ⟨c, 0, none⟩)]] w fun e w' => (∃ r, e = .returned (.int .i64 r) ∧ decide (0 ≤ r) = anyTo (p xs) n) ∧ Below w.heap.size w w' := by
  have HF := Lib.hid hF
  clear hF
  obtain ⟨a, cap, rfl, hcap, hmax, hlen, hcell⟩ := hr.open
  go_enter Try.func41, Try.ntmps41
  go_wp2_with fail
  go_loopw [8] (fun i wr => ∃ k : Nat, k ≤ n ∧ i = .int .i64 k ∧ Hid (∀ j, j < k → p xs j = false) ∧ Below w.heap.size w wr) (fun i _ => n - (intOf i).toNat)
  case atStart => exact ⟨0, by omega, rfl, fun j h => absurd h (by omega), Below.refl _ _⟩
  case round =>
    obtain ⟨k, hk, rfl, HN, hB⟩ := hrel
    by_cases hlt : k < n
    · obtain ⟨b, off, rfl, hb, hcl⟩ := hcell (by omega)
      have hcs : ∀ j, j < (vCells xs k).size → wr.cell? ⟨b, off + k * 6 + j, none⟩ = (vCells xs k)[j]? := by
        intro j hj
        have hj6 : j < 6 := by simpa [vCells, ints] using hj
        rw [hB.cell (by exact hb), hcl k j hlt hj6]
        match j, hj6 with
        | 0, _ => rfl
        | 1, _ => rfl
        | 2, _ => rfl
        | 3, _ => rfl
        | 4, _ => rfl
        | 5, _ => rfl
      have HCS := Lib.hid hcs
      have hcr : wr.cell? ⟨c, 0, none⟩ = some (.int .i64 s) := (hB.cell (by exact hl)).trans hc
      have hsz := hB.size
      clear hcell hcl hcs
      go_wp2_with (refine wpList_load_at rfl 38 _ rfl _ _ rfl (vCells xs k) _ HCS.out Try.underlying38 rfl Try.info38 ?_)
      refine (HF.out k _ hcr (by omega)).mono ?_
      cases hp : p xs k
      · rintro e w1 ⟨rfl, hB1⟩
        have HP := Lib.hid hp
        clear hp
        go_wp2_with fail
        go_roundw
        case rel =>
          refine ⟨k + 1, by omega, by go_num, ?_, hB.trans (hB1.mono hsz)⟩
          intro j hj
          by_cases e : j = k
          · subst e; exact HP.out
          · exact HN.out j (by omega)
        case measure => simp [intOf]; omega
      · rintro e w1 ⟨rfl, hB1⟩
        have HP := Lib.hid hp
        clear hp
        go_wp2_with fail
        go_ret
        exact ⟨⟨_, rfl, by rw [anyTo_yes hlt HP.out]; simp⟩, hB.trans (hB1.mono hsz)⟩
    · go_wp2_with fail
      go_ret
      exact ⟨⟨_, rfl, by rw [anyTo_no fun j hj => HN.out j (by omega)]; rfl⟩, hB⟩

theorem containsV35 (F c : Nat) (p : List Int → Nat → Bool) (s : Int) (n : Nat) (xs : List Int) (v : Value) (hcf : ∀ args w, (callFunc F args).run Try.prog w = .ok (.enter F args) w)
    (hF : ∀ (i : Nat) (w : World), w.cell? ⟨c, 0, none⟩ = some (.int .i64 s) → c < w.heap.size →
      Calls Try.prog F #[.agg (vCells xs i), .pointer (some ⟨c, 0, none⟩)] w fun e w' => e = .returned (.bool (p xs i)) ∧ Below w.heap.size w w')
    (w : World) (hc : w.cell? ⟨c, 0, none⟩ = some (.int .i64 s)) (hl : c < w.heap.size) (hr : RowV w.heap.size w v n xs) :
    Calls Try.prog 35 #[v, .func (.func F) #[] #[.pointer (some ⟨c, 0, none⟩)]] w fun e w' => e = .returned (.bool (anyTo (p xs) n)) ∧ Below w.heap.size w w' := by
  go_enter Try.func35, Try.ntmps35
  go_wp2_with (go_at_call 41; refine (indexV41 F c p s n xs v hcf hF _ hc hl hr).mono ?_; rintro e w1 ⟨⟨r, rfl, hr'⟩, hB⟩; have HR := Lib.hid hr'; clear hr')
  go_ret
  exact ⟨ret_bool HR.out, hB⟩

theorem cf36 : ∀ args w, (callFunc 36 args).run Try.prog w = .ok (.enter 36 args) w := fun _ _ => rfl
theorem cf37 : ∀ args w, (callFunc 37 args).run Try.prog w = .ok (.enter 37 args) w := fun _ _ => rfl

/-- what is to be begun, as far as the k-th wanted one -/
def beginTo (want xs : List Int) (n : Nat) : Nat → List Int
  | 0 => []
  | k + 1 => if coversB (want.getD k 0) 0 && !hasZ (beginTo want xs n k) (want.getD k 0) && !anyTo (isV (want.getD k 0) xs) n then beginTo want xs n k ++ [want.getD k 0] else beginTo want xs n k
theorem beginTo_len (want xs : List Int) (n k : Nat) : (beginTo want xs n k).length ≤ k := by
  induction k with
  | zero => simp [beginTo]
  | succ k ih => simp only [beginTo]; split <;> (try simp) <;> omega
/-- what is to be let go, of the first k sets -/
def leaveTo (want xs : List Int) (n : Nat) : Nat → List Int
  | 0 => []
  | k + 1 => if !hasZ want (k : Int) && anyTo (liveV (k : Int) xs) n then leaveTo want xs n k ++ [(k : Int)] else leaveTo want xs n k
theorem leaveTo_len (want xs : List Int) (n k : Nat) : (leaveTo want xs n k).length ≤ k := by
  induction k with
  | zero => simp [leaveTo]
  | succ k ih => simp only [leaveTo]; split <;> (try simp) <;> omega

set_option maxRecDepth 100000 in
set_option maxHeartbeats 4000000 in
theorem orders17 (want xs : List Int) (n : Nat) (v1 v2 : Value) (w : World) (h1 : RowI w.heap.size w v1 want) (h2 : RowV w.heap.size w v2 n xs) (hsz : want.length * 8 ≤ 140737488351232) :
    Calls Try.prog 17 #[v1, v2] w fun e w' => ∃ b l, e = .returned (.tuple #[b, l]) ∧
      w'.ownsRow w.heap.size 3 1 b (beginTo want xs n want.length).length ((beginTo want xs n want.length).map (Value.int .i64)) ∧
      w'.ownsRow w.heap.size 3 1 l (leaveTo want xs n 64).length ((leaveTo want xs n 64).map (Value.int .i64)) ∧ Below w.heap.size w w' := by
  obtain ⟨i0, hi, hz0, hz1, hz2⟩ := info_parts Try.info3
  have hmf : ∀ (fn : Fn) (first cap : Array Value) (w : World), (Instr.makeFunc fn first cap).run Try.prog w = .ok (.func fn first cap) w := fun _ _ _ _ => rfl
  obtain ⟨a1, c1, rfl, hc1, hm1, hcell1⟩ := h1.open
  go_enter Try.func17, Try.ntmps17
  go_wp2_with fail
  go_loopw [6, 13] (fun v i wr => ∃ k : Nat, k ≤ want.length ∧ i = .int .i64 k ∧ wr.ownsRow w.heap.size 3 1 v (beginTo want xs n k).length ((beginTo want xs n k).map (Value.int .i64)) ∧ Below w.heap.size w wr) (fun _ i _ => want.length - (intOf i).toNat)
  case atStart => exact ⟨0, by omega, rfl, World.ownsRow_nil _ _ _ _, Below.refl _ _⟩
  case round =>
    obtain ⟨k, hk, rfl, hown, hB⟩ := hrel
    have hs := hB.size
    by_cases hlt : k < want.length
    · obtain ⟨b, off, rfl, hb, hcl⟩ := hcell1 (by omega)
      obtain ⟨s, hs', hck⟩ : ∃ s, Hid (want.getD k 0 = s) ∧ wr.cell? ⟨b, off + k, none⟩ = some (.int .i64 s) := ⟨_, rfl, (hB.cell (by exact hb)).trans (hcl k hlt)⟩
      have hstep : beginTo want xs n (k + 1) = if coversB s 0 && !hasZ (beginTo want xs n k) s && !anyTo (isV s xs) n then beginTo want xs n k ++ [s] else beginTo want xs n k := by
        simp only [beginTo]; rw [hs'.out]
      have hlen := beginTo_len want xs n k
      clear hcell1 hcl
      obtain ⟨c, hcv⟩ : ∃ c, Hid (coversB s 0 = c) := ⟨_, rfl⟩
      obtain ⟨t, ht⟩ : ∃ t, Hid (hasZ (beginTo want xs n k) s = t) := ⟨_, rfl⟩
      obtain ⟨y, hy⟩ : ∃ y, Hid (anyTo (isV s xs) n = y) := ⟨_, rfl⟩
      rw [hcv.out, ht.out, hy.out] at hstep
      have HSTEP := Lib.hid hstep
      clear hstep
      go_wp2_with fail
      refine (covers16 _ _ _).mono ?_
      rw [hcv.out]
      rintro e w2 ⟨rfl, hw2⟩
      have hB2 : Below w.heap.size w w2 := by rw [← hw2]; exact hB.alloc hs _
      have own2 : w2.ownsRow w.heap.size 3 1 u6 (beginTo want xs n k).length ((beginTo want xs n k).map (Value.int .i64)) := by rw [← hw2]; exact hown.alloc _
      have cs2 : w2.cell? ⟨wr.heap.size, 0, none⟩ = some (.int .i64 s) := by rw [← hw2, World.cell?_alloc_at _ _ _ _ rfl]; rfl
      have hz2' : wr.heap.size < w2.heap.size := by rw [← hw2]; simp
      have hs2 := hB2.size
      have row2 := RowI.of_owns own2
      have rowV2 := RowV.mono h2 hB2 hs2
      clear hw2 hck hB hown
      generalize wr.heap.size = cb at *
      cases c
      · go_wp2_with fail
        go_roundw
        case rel => exact ⟨k + 1, by omega, by go_num, by rw [HSTEP.out]; exact own2, hB2⟩
        case measure => simp [intOf]; omega
      · cases t
        · go_wp2_with (first | (go_at_call 30; refine (contains30 _ _ _ _ _ row2).mono ?_; rw [ht.out]; rintro e w' ⟨rfl, rfl⟩))
          refine (containsV35 36 cb (isV s) s n xs v2 cf36 (fun i w h h' => isV36 s xs i cb w h h') _ cs2 hz2' rowV2).mono ?_
          rw [hy.out]
          rintro e w3 ⟨rfl, hB3⟩
          have hB4 : Below w.heap.size w w3 := hB2.trans (hB3.mono hs2)
          have own3 := owns_below own2 hB3 (Nat.le_refl _)
          have cs3 : w3.cell? ⟨cb, 0, none⟩ = some (.int .i64 s) := (hB3.cell (by exact hz2')).trans cs2
          have hs3 := hB4.size
          clear hB2 hB3 own2 cs2 row2 rowV2
          cases y
          · go_wp2_with (at_builtin; refine wpList_append_own _ rfl _ _ 26 rfl w.heap.size 3 i0 (.int .i64 0) 1 8 Try.underlying26 hi hz0 hz1 hz2 rfl (by decide) _ _ _ rfl (own3.alloc _) ⟨w3.heap.size, 0, none⟩ 1 1 [.int .i64 s] rfl rfl (cell_one_new' _ _ _) (by intro u hu; simp at hu; subst hu; rfl) (by unfold maxLen; omega) (by omega) (by simp; omega) ?_; intro v' w5 hown5 hgrow _; have hB5 := Below.appended hB4 hs3 own3 _ hgrow)
            clear own3 hgrow hB4 cs3
            go_roundw
            case rel => exact ⟨k + 1, by omega, by go_num, by rw [HSTEP.out]; simpa using hown5, hB5⟩
            case measure => simp [intOf]; omega
          · go_wp2_with fail
            go_roundw
            case rel => exact ⟨k + 1, by omega, by go_num, by rw [HSTEP.out]; exact own3, hB4⟩
            case measure => simp [intOf]; omega
        · go_wp2_with (first | (go_at_call 30; refine (contains30 _ _ _ _ _ row2).mono ?_; rw [ht.out]; rintro e w' ⟨rfl, rfl⟩))
          go_roundw
          case rel => exact ⟨k + 1, by omega, by go_num, by rw [HSTEP.out]; exact own2, hB2⟩
          case measure => simp [intOf]; omega
    · have hk' : k = want.length := by omega
      rw [hk'] at hown
      clear hk'
      have hkb : decide ((k : Int) < want.length) = false := by simp; omega
      have hlb := beginTo_len want xs n want.length
      go_wp2_with fail
      obtain ⟨vb, rfl⟩ : ∃ x, x = u6 := ⟨_, rfl⟩
      obtain ⟨wo, rfl⟩ : ∃ x : World, x = wr := ⟨_, rfl⟩
      go_loopw [7, 36] (fun v i wr => ∃ j : Nat, j ≤ 64 ∧ i = .int .i64 j ∧ wr.ownsRow wo.heap.size 3 1 v (leaveTo want xs n j).length ((leaveTo want xs n j).map (Value.int .i64)) ∧ Below wo.heap.size wo wr) (fun _ i _ => 64 - (intOf i).toNat)
      case atStart => exact ⟨0, by omega, rfl, World.ownsRow_nil _ _ _ _, Below.refl _ _⟩
      case round =>
        obtain ⟨j, hj, rfl, hownl, hBl⟩ := hrel
        have hsl := hBl.size
        by_cases hjt : j < 64
        · have hstep : leaveTo want xs n (j + 1) = if !hasZ want (j : Int) && anyTo (liveV (j : Int) xs) n then leaveTo want xs n j ++ [(j : Int)] else leaveTo want xs n j := rfl
          have hlen := leaveTo_len want xs n j
          obtain ⟨t, ht⟩ : ∃ t, Hid (hasZ want (j : Int) = t) := ⟨_, rfl⟩
          obtain ⟨y, hy⟩ : ∃ y, Hid (anyTo (liveV (j : Int) xs) n = y) := ⟨_, rfl⟩
          rw [ht.out, hy.out] at hstep
          have HSTEP := Lib.hid hstep
          clear hstep
          have hjb : decide ((j : Int) < 64) = true := by simp; omega
          go_wp2_with fail
          have hBx : Below w.heap.size w wr := hB.trans (hBl.mono hs)
          refine (contains30 wr.heap.size _ want _ _ ((RowI.mono h1 hBx (Nat.le_trans hBx.size (Nat.le_refl _))).mono ((Below.refl _ _).alloc (Nat.le_refl _) _) (Nat.le_refl _))).mono ?_
          rw [ht.out]
          rintro e w2 ⟨rfl, hw2⟩
          have hB2 : Below wo.heap.size wo w2 := by rw [← hw2]; exact hBl.alloc hsl _
          have own2 : w2.ownsRow wo.heap.size 3 1 u7 (leaveTo want xs n j).length ((leaveTo want xs n j).map (Value.int .i64)) := by rw [← hw2]; exact hownl.alloc _
          have cs2 : w2.cell? ⟨wr.heap.size, 0, none⟩ = some (.int .i64 (j : Int)) := by rw [← hw2, World.cell?_alloc_at _ _ _ _ rfl]; rfl
          have hz2' : wr.heap.size < w2.heap.size := by rw [← hw2]; simp
          have hs2 := hB2.size
          have hBw : Below w.heap.size w w2 := hB.trans (hB2.mono hs)
          have rowV2 := RowV.mono h2 hBw hBw.size
          clear hw2 hBl hownl hBx
          generalize wr.heap.size = cb at *
          cases t
          · go_wp2_with fail
            refine (containsV35 37 cb (liveV j) j n xs v2 cf37 (fun i w h h' => live37 j xs i cb w h h') _ cs2 hz2' rowV2).mono ?_
            rw [hy.out]
            rintro e w3 ⟨rfl, hB3⟩
            have hB4 : Below wo.heap.size wo w3 := hB2.trans (hB3.mono hs2)
            have own3 := owns_below own2 hB3 (Nat.le_refl _)
            have cs3 : w3.cell? ⟨cb, 0, none⟩ = some (.int .i64 (j : Int)) := (hB3.cell (by exact hz2')).trans cs2
            have hs3 := hB4.size
            clear hB2 hB3 own2 cs2 rowV2
            cases y
            · go_wp2_with fail
              go_roundw
              case rel => exact ⟨j + 1, by omega, by go_num, by rw [HSTEP.out]; exact own3, hB4⟩
              case measure => simp [intOf]; omega
            · go_wp2_with (at_builtin; refine wpList_append_own _ rfl _ _ 26 rfl wo.heap.size 3 i0 (.int .i64 0) 1 8 Try.underlying26 hi hz0 hz1 hz2 rfl (by decide) _ _ _ rfl (own3.alloc _) ⟨w3.heap.size, 0, none⟩ 1 1 [.int .i64 (j : Int)] rfl rfl (cell_one_new' _ _ _) (by intro u hu; simp at hu; subst hu; rfl) (by unfold maxLen; omega) (by omega) (by simp; omega) ?_; intro v' w5 hown5 hgrow _; have hB5 := Below.appended hB4 hs3 own3 _ hgrow)
              clear own3 hgrow hB4 cs3
              go_roundw
              case rel => exact ⟨j + 1, by omega, by go_num, by rw [HSTEP.out]; simpa using hown5, hB5⟩
              case measure => simp [intOf]; omega
          · go_wp2_with fail
            go_roundw
            case rel => exact ⟨j + 1, by omega, by go_num, by rw [HSTEP.out]; exact own2, hB2⟩
            case measure => simp [intOf]; omega
        · obtain rfl : j = 64 := by omega
          go_wp2_with fail
          go_ret2
          exact ⟨_, _, rfl, owns_below hown hBl (Nat.le_refl _), owns_base hownl hs, hB.trans (hBl.mono hs)⟩

end Go.Proofs.Ytfgnmcmkjfnogaa
