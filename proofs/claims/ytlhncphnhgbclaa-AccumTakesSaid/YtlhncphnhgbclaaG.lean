/- Sums as texts: the program's. -/
import Derived.Test.YtlhncphnhgbclaaF
import Derived.Laws.IdiomStrings
namespace Go.Proofs.Ytlhncphnhgbclaa
open Go.RowKit
set_option linter.unusedVariables false
set_option linter.unusedSimpArgs false

/-- the last digit as a byte -/
def dgt (u : Nat) : UInt8 := UInt8.ofNat (48 + u % 10)
theorem dgt_nat (u : Nat) : (dgt u).toNat = 48 + u % 10 := by
  unfold dgt
  rw [UInt8.toNat_ofNat']
  omega
/-- a number's digits, ahead of others -/
def decF : Nat → Nat → List UInt8 → List UInt8
  | 0, _, s => s
  | n + 1, u, s => if u / 10 = 0 then dgt u :: s else decF n (u / 10) (dgt u :: s)
/-- a sum's text -/
def txt (a : Int) : List UInt8 := if a < 0 then 45 :: decF 39 a.natAbs [] else decF 39 a.natAbs []
/-- forty bytes, the last of which are told -/
def cel (s : List UInt8) : Array Value := (List.replicate (40 - s.length) (Value.int .u8 0) ++ s.map fun b => Value.int .u8 (b.toNat : Int)).toArray
theorem cel_size (s : List UInt8) (h : s.length ≤ 40) : (cel s).size = 40 := by simp [cel]; omega
theorem cel_set (s : List UInt8) (d : UInt8) (m : Nat) (h : s.length + 1 + m = 40) : (cel s).setIfInBounds m (Value.int .u8 (d.toNat : Int)) = cel (d :: s) := by
  unfold cel
  rw [List.setIfInBounds_toArray]
  congr 1
  have e1 : 40 - s.length = m + 1 := by omega
  have e2 : 40 - (d :: s).length = m := by simp; omega
  rw [e1, e2, List.set_append_left _ _ (by simp)]
  rw [show List.replicate (m + 1) (Value.int IntKind.u8 0) = List.replicate m (Value.int .u8 0) ++ [Value.int .u8 0] from List.replicate_succ']
  rw [List.set_append_right _ _ (by simp)]
  simp
theorem cel_at (s : List UInt8) (m j : Nat) (h : s.length + m = 40) (hj : j < s.length) : (cel s)[m + j]? = some (Value.int .u8 ((s[j]).toNat : Int)) := by
  unfold cel
  rw [List.getElem?_toArray, List.getElem?_append_right (by simp; omega)]
  simp only [List.length_replicate, show m + j - (40 - s.length) = j by omega]
  simp [hj]
theorem zv63 : ∀ w, (zeroValue 63).run Try.prog w = .ok (.agg (cel [])) w := fun _ => by kernel_rfl

theorem uns_abs (a : Int) (ha : In128 a) (h : a < 0) : hiU (w128 (-a)) = ((a.natAbs / 18446744073709551616 : Nat) : Int) ∧ loW (w128 (-a)) = ((a.natAbs % 18446744073709551616 : Nat) : Int) := by
  unfold In128 at ha; unfold hiU hiW loW w128; omega
theorem uns_abs0 (a : Int) (ha : In128 a) (h : ¬ a < 0) : hiU a = ((a.natAbs / 18446744073709551616 : Nat) : Int) ∧ loW a = ((a.natAbs % 18446744073709551616 : Nat) : Int) := by
  unfold In128 at ha; unfold hiU hiW loW; omega
theorem abs_lt (a : Int) (ha : In128 a) : a.natAbs < 10 ^ 39 := by unfold In128 at ha; omega
theorem dec_len (n u : Nat) (s : List UInt8) : (decF n u s).length ≤ n + s.length := by
  induction n generalizing u s with
  | zero => simp [decF]
  | succ n ih =>
    simp only [decF]
    split
    · simp; omega
    · have := ih (u / 10) (dgt u :: s)
      simp at this
      omega

set_option maxRecDepth 100000 in
set_option maxHeartbeats 8000000 in
theorem text19_pos (a : Int) (w : World) (ha : In128 a) (h0 : ¬ a < 0) :
    Calls Try.prog 19 #[sumV a] w fun e w' => e = .returned (.string ⟨(txt a).toArray⟩) ∧ Below w.heap.size w w' := by
  have hzv := zv63
  have hneg : decide (hiW a < 0) = false := by simp; unfold hiW; omega
  have hua := uns_abs0 a ha h0
  have htx : txt a = decF 39 a.natAbs [] := by unfold txt; rw [if_neg h0]
  have HTX := Lib.hid htx
  have hlt39 := abs_lt a ha
  have hlt128 : a.natAbs < 340282366920938463463374607431768211456 := by unfold In128 at ha; omega
  obtain ⟨N0, hN0⟩ : ∃ N0, a.natAbs = N0 := ⟨_, rfl⟩
  rw [hN0] at hua hlt39 hlt128 HTX
  clear htx hN0
  obtain ⟨H0, hH0, g1⟩ : ∃ H : Int, Hid (((N0 / 18446744073709551616 : Nat) : Int) = H) ∧ IntKind.u64.wrap (hiW a) = H := ⟨_, rfl, by rw [← hua.1, IntKind.wrap_u64]; rfl⟩
  obtain ⟨L0, hL0, g2⟩ : ∃ L : Int, Hid (((N0 % 18446744073709551616 : Nat) : Int) = L) ∧ loW a = L := ⟨_, rfl, hua.2⟩
  clear hua
  unfold sumV
  rw [g2]
  go_enter Try.func19, Try.ntmps19
  go_upto_region 4 with (fail)
  have hb2 : Blk (w.alloc (Obj.cells #[Value.int .i64 (hiW a), .int .u64 L0] 24)) w.heap.size 24 #[Value.int .i64 (hiW a), .int .u64 L0] := Blk.newAt _ _ _ rfl
  have hB2 : Below w.heap.size w (w.alloc (Obj.cells #[Value.int .i64 (hiW a), .int .u64 L0] 24)) := Below.al (Below.refl _ _) _
  generalize w.alloc (Obj.cells #[Value.int .i64 (hiW a), .int .u64 L0] 24) = w2 at *
  have k0 : w2.cell? ⟨w.heap.size, 0, none⟩ = some (.int .i64 (hiW a)) := Blk.cell hb2 0
  have k1 : w2.cell? ⟨w.heap.size, 1, none⟩ = some (.int .u64 L0) := Blk.cell hb2 1
  have hl2 := Blk.lt hb2
  clear hb2
  go_region
  go_wp2_with fail
  obtain ⟨b6, hb6⟩ : ∃ b6, b6 = w2.heap.size := ⟨_, rfl⟩
  have hs2 := hB2.size
  have hc6 : Blk (w2.drew.alloc (Obj.cells (cel []) 63)) b6 63 (cel []) := Blk.newAt _ _ _ hb6
  have hB3 : Below w.heap.size w (w2.drew.alloc (Obj.cells (cel []) 63)) := Below.al (Below.drew hB2) _
  have h6 : w.heap.size ≤ b6 := by omega
  rw [← hb6]
  clear k0 k1 hl2 hB2 hs2 hb6
  go_loopg [4, 5, 7, 8] 39 (fun n hi lo at_ rest wr => ∃ (N : Nat) (s : List UInt8), 1 ≤ n ∧ N < 340282366920938463463374607431768211456 ∧ N < 10 ^ n ∧ s.length + n = 39 ∧ hi = .int .u64 ((N / 18446744073709551616 : Nat) : Int) ∧ lo = .int .u64 ((N % 18446744073709551616 : Nat) : Int) ∧ at_ = .int .i64 ((n + 1 : Nat) : Int) ∧
    Hid (decF n N s = decF 39 N0 []) ∧ Blk wr b6 63 (cel s) ∧ Below w.heap.size w wr)
  case atStart => exact ⟨N0, [], by omega, hlt128, hlt39, rfl, by rw [hH0.out], by rw [hL0.out], rfl, rfl, hc6, hB3⟩
  case round =>
    obtain ⟨N, s, hn, hN128, hNn, hsl, rfl, rfl, rfl, hdec, hC, hB⟩ := hrel
    obtain ⟨m, rfl⟩ : ∃ m, gk = m + 1 := ⟨gk - 1, by omega⟩
    obtain ⟨H, hH⟩ : ∃ H : Int, ((N / 18446744073709551616 : Nat) : Int) = H := ⟨_, rfl⟩
    obtain ⟨L, hL⟩ : ∃ L : Int, ((N % 18446744073709551616 : Nat) : Int) = L := ⟨_, rfl⟩
    have hH2 : 0 ≤ H := by omega
    have hH3 : H < 18446744073709551616 := by omega
    have hL2 : 0 ≤ L ∧ L < 18446744073709551616 := by omega
    obtain ⟨Q, hQ, q1⟩ : ∃ Q : Int, Hid (((N / 10 % 18446744073709551616 : Nat) : Int) = Q) ∧ (H % 10 * 18446744073709551616 + L) / 10 = Q := ⟨_, rfl, by omega⟩
    obtain ⟨R, hR, q2⟩ : ∃ R : Int, Hid (((N % 10 : Nat) : Int) = R) ∧ (H % 10 * 18446744073709551616 + L) % 10 = R := ⟨_, rfl, by omega⟩
    obtain ⟨H', hH', q3⟩ : ∃ H' : Int, Hid (((N / 10 / 18446744073709551616 : Nat) : Int) = H') ∧ H / 10 = H' := ⟨_, rfl, by omega⟩
    rw [hH, hL]
    have e38 := fun w => div38 (H % 10) L w hL2.1 hL2.2 (by omega) (by omega)
    rw [q1, q2] at e38
    have hR2 : 0 ≤ R ∧ R < 10 := by have := hR.out; omega
    have hd : 48 + R = (((dgt N).toNat : Nat) : Int) := by rw [dgt_nat]; have := hR.out; omega
    have HD := Lib.hid hd
    have r1 : IntKind.u64.wrap (48 + R) = 48 + R := by rw [IntKind.wrap_u64]; omega
    have r2 : IntKind.u8.wrap (48 + R) = 48 + R := by rw [IntKind.wrap_u8']; omega
    have hA1 : s.length + 1 + (m + 1) = 40 := by omega
    have at1 : (((m + 1 + 1 : Nat) : Int) - 1) = ((m + 1 : Nat) : Int) := by omega
    have hmb : decide (((m + 1 : Nat) : Int) < 40) = true := by simp; omega
    obtain ⟨v0, c0⟩ : ∃ v0, wr.cell? ⟨b6, m + 1, none⟩ = some v0 := by
      refine ⟨(cel s)[m + 1]'(by rw [cel_size _ (by omega)]; omega), ?_⟩
      rw [Blk.cell hC, Array.getElem?_eq_getElem]
    have f0 := Blk.free hC (m + 1)
    have hCq : ∀ q, Blk ((wr.drewN q).setCell ⟨b6, m + 1, none⟩ (.int .u8 (48 + R))) b6 63 (cel (dgt N :: s)) := by
      intro q
      have h := Blk.set (Blk.drewN hC q) (m + 1) (.int .u8 (48 + R))
      rw [HD.out, cel_set s (dgt N) (m + 1) hA1, ← HD.out] at h
      exact h
    have HCQ := Lib.hid hCq
    clear hd q1 q2 hL hH hCq
    by_cases hz : N / 10 = 0
    · have z1 : (H' == 0) = true := by have := hH'.out; rw [hz] at this; simp at this; simp [← this]
      have z2 : (Q == 0) = true := by have := hQ.out; rw [hz] at this; simp at this; simp [← this]
      have hres : decF 39 N0 [] = dgt N :: s := by rw [← hdec.out, decF, if_pos hz]
      obtain ⟨ln, hln⟩ : ∃ ln, (dgt N :: s).length = ln := ⟨_, rfl⟩
      have hln2 : ln = 39 - m := by rw [← hln]; simp; omega
      have hsl : ∀ W, (Instr.sliceAt 63 (.pointer (some ⟨b6, 0, none⟩)) (some (.int .i64 ((m : Int) + 1))) none none).run Try.prog W = .ok (.slice (some ⟨b6, m + 1, none⟩) ln (39 - m)) W := by
        intro W
        rw [run_sliceAt_array_l W 63 ⟨b6, 0, none⟩ Try.underlying63 .i64 ((m : Int) + 1) (by omega) (by show (m : Int) + 1 ≤ (40 : Nat); omega)]
        have e1 : (sizeOf (Try.prog.elem 63)).run Try.prog W = .ok 1 W := by kernel_rfl
        rw [e1]
        have e2 : ((m : Int) + 1).toNat = m + 1 := by omega
        simp only [Result.andThen, slicedAt, e2]
        have e3 : Try.prog.arrayLen 63 = 40 := by kernel_rfl
        rw [e3, if_neg (by omega), hln2]
        simp [Addr.add, show 40 - (m + 1) = 39 - m by omega]
      have hcv : ∀ q, (convert 64 9 (.slice (some ⟨b6, m + 1, none⟩) ln (39 - m))).run Try.prog ((wr.drewN q).setCell ⟨b6, m + 1, none⟩ (.int .u8 (48 + R))) = .ok (.string ⟨(dgt N :: s).toArray⟩) ((wr.drewN q).setCell ⟨b6, m + 1, none⟩ (.int .u8 (48 + R))) := by
        intro q
        rw [← hln]
        refine run_convert_bytes_back _ 64 9 5 _ _ (dgt N :: s) Try.underlying64 Try.underlying5 Try.underlying9 (fun j hj => ?_)
        have := Blk.cell (HCQ.out q) (m + 1 + j)
        rw [cel_at (dgt N :: s) (m + 1) j (by simp; omega) hj] at this
        have ea : (⟨b6, m + 1, none⟩ : Addr).add j = ⟨b6, m + 1 + j, none⟩ := by unfold Addr.add; split <;> simp_all
        rw [ea]
        exact this
      obtain ⟨S, hS⟩ : ∃ S : ByteArray, ⟨(dgt N :: s).toArray⟩ = S := ⟨_, rfl⟩
      rw [hS] at hcv
      have HSS := Lib.hid hS
      have HRS := Lib.hid hres
      clear hS hres hln hln2
      go_wp2_with (first | (go_at_call 38; refine (e38 _).mono ?_; rintro e w3 ⟨rfl, q, rfl⟩) | simp only [hsl] | simp only [hcv])
      go_ret
      exact ⟨by rw [HTX.out, HRS.out, HSS.out]; rfl, (Below.drewN hB q).setCell (p := ⟨b6, m + 1, none⟩) (by exact h6) _⟩
    · have hres : decF m (N / 10) (dgt N :: s) = decF 39 N0 [] := by rw [← hdec.out, decF, if_neg hz]
      have hlt' : N / 10 < 10 ^ m := by rw [Nat.pow_succ] at hNn; omega
      have hm1 : 1 ≤ m := by
        rcases Nat.eq_zero_or_pos m with h | h
        · subst h; simp at hlt'; omega
        · exact h
      have HRES := Lib.hid hres
      have HLT := Lib.hid hlt'
      clear hres hlt' hNn
      by_cases hz1 : H' = 0
      · have z1 : (H' == 0) = true := by simpa using hz1
        have z2 : (Q == 0) = false := by
          have g1 := hQ.out
          have g2 := hH'.out
          simp only [beq_eq_false_iff_ne, ne_eq]
          intro h; omega
        have HZ1 := Lib.hid hz1
        clear hz1
        go_wp2_with (go_at_call 38; refine (e38 _).mono ?_; rintro e w3 ⟨rfl, q, rfl⟩)
        go_roundg m
        case measure => omega
        case rel => exact ⟨N / 10, dgt N :: s, hm1, by omega, HLT.out, by simp; omega, by rw [hH'.out]; try (first | rfl | rw [HZ1.out]), by rw [hQ.out], by go_num, HRES.out, HCQ.out q, (Below.drewN hB q).setCell (p := ⟨b6, m + 1, none⟩) (by exact h6) _⟩
      · have z1 : (H' == 0) = false := by simpa using hz1
        go_wp2_with (go_at_call 38; refine (e38 _).mono ?_; rintro e w3 ⟨rfl, q, rfl⟩)
        go_roundg m
        case measure => omega
        case rel => exact ⟨N / 10, dgt N :: s, hm1, by omega, HLT.out, by simp; omega, by rw [hH'.out]; try (first | rfl | rw [HZ1.out]), by rw [hQ.out], by go_num, HRES.out, HCQ.out q, (Below.drewN hB q).setCell (p := ⟨b6, m + 1, none⟩) (by exact h6) _⟩

set_option maxRecDepth 100000 in
set_option maxHeartbeats 8000000 in
theorem text19_neg (a : Int) (w : World) (ha : In128 a) (h0 : a < 0) :
    Calls Try.prog 19 #[sumV a] w fun e w' => e = .returned (.string ⟨(txt a).toArray⟩) ∧ Below w.heap.size w w' := by
  have hzv := zv63
  have hneg : decide (hiW a < 0) = true := by simp; unfold hiW; omega
  have hua := uns_abs a ha h0
  have htx : txt a = 45 :: decF 39 a.natAbs [] := by unfold txt; rw [if_pos h0]
  have HTX := Lib.hid htx
  have hlt39 := abs_lt a ha
  have hlt128 : a.natAbs < 340282366920938463463374607431768211456 := by unfold In128 at ha; omega
  obtain ⟨N0, hN0⟩ : ∃ N0, a.natAbs = N0 := ⟨_, rfl⟩
  rw [hN0] at hua hlt39 hlt128 HTX
  clear htx hN0
  have e17 := fun w => minus17 a w
  obtain ⟨b, hb⟩ : ∃ b, w128 (-a) = b := ⟨_, rfl⟩
  rw [hb] at e17 hua
  obtain ⟨H0, hH0, g1⟩ : ∃ H : Int, Hid (((N0 / 18446744073709551616 : Nat) : Int) = H) ∧ IntKind.u64.wrap (hiW b) = H := ⟨_, rfl, by rw [← hua.1, IntKind.wrap_u64]; rfl⟩
  obtain ⟨L0, hL0, g2⟩ : ∃ L : Int, Hid (((N0 % 18446744073709551616 : Nat) : Int) = L) ∧ loW b = L := ⟨_, rfl, hua.2⟩
  clear hb hua
  unfold sumV at e17
  rw [g2] at e17
  unfold sumV
  go_enter Try.func19, Try.ntmps19
  go_wp2_with fail
  refine (e17 _).mono ?_
  rintro e w1 ⟨rfl, hB1⟩
  have hb1 : Blk w1 w.heap.size 24 #[.int .i64 (hiW a), .int .u64 (loW a)] := Blk.below (Blk.newAt _ _ _ rfl) hB1 (by simp)
  have hBw : Below w.heap.size w w1 := Below.call (Below.al (Below.refl _ _) _) hB1
  clear hB1
  go_upto_region 4 with (refine wpList_store_row rfl 24 _ _ rfl w.heap.size #[.int .i64 (hiW b), .int .u64 L0] rfl rfl 24 _ hb1 info24 rfl (by simp [Value.oneCell']) ?_)
  have hb2 := Blk.setRow (cs' := #[Value.int .i64 (hiW b), .int .u64 L0]) hb1
  have hB2 := Below.setRow hBw (Nat.le_refl _) #[Value.int .i64 (hiW b), .int .u64 L0]
  generalize w1.setRow w.heap.size #[Value.int .i64 (hiW b), .int .u64 L0] = w2 at *
  have k0 : w2.cell? ⟨w.heap.size, 0, none⟩ = some (.int .i64 (hiW b)) := Blk.cell hb2 0
  have k1 : w2.cell? ⟨w.heap.size, 1, none⟩ = some (.int .u64 L0) := Blk.cell hb2 1
  clear hb1 hBw
  have hl2 := Blk.lt hb2
  clear hb2
  refine wp_region_below (by kernel_rfl) (by kernel_rfl) ?_
  refine qb_pure rfl _ (fun w' hB' => by go_simp; rfl) ?_
  simp only [Act.put, List.setIfInBounds_toArray, List.set_cons_zero, List.set_cons_succ]
  refine qb_pure rfl _ (fun w' hB' => by have cc := (hB'.cell (by exact hl2)).trans k0; go_simp; rfl) ?_
  simp only [Act.put, List.setIfInBounds_toArray, List.set_cons_zero, List.set_cons_succ]
  refine qb_pure rfl _ (fun w' hB' => by go_simp; rfl) ?_
  simp only [Act.put, List.setIfInBounds_toArray, List.set_cons_zero, List.set_cons_succ]
  refine qb_pure rfl _ (fun w' hB' => by go_simp; rfl) ?_
  simp only [Act.put, List.setIfInBounds_toArray, List.set_cons_zero, List.set_cons_succ]
  refine qb_pure rfl _ (fun w' hB' => by have cc := (hB'.cell (by exact hl2)).trans k1; go_simp; rfl) ?_
  simp only [Act.put, List.setIfInBounds_toArray, List.set_cons_zero, List.set_cons_succ]
  refine qb_pure rfl _ (fun w' hB' => by go_simp; rfl) ?_
  simp only [Act.put, List.setIfInBounds_toArray, List.set_cons_zero, List.set_cons_succ]
  refine qb_pure rfl _ (fun w' hB' => by go_simp; rfl) ?_
  simp only [Act.put, List.setIfInBounds_toArray, List.set_cons_zero, List.set_cons_succ]
  refine qb_nil ?_
  intro w3 hB3
  have hB2 := Below.call hB2 hB3
  go_wp2_with fail
  obtain ⟨b6, hb6⟩ : ∃ b6, b6 = w3.heap.size := ⟨_, rfl⟩
  have hs2 := hB2.size
  have hc6 : Blk (w3.alloc (Obj.cells (cel []) 63)) b6 63 (cel []) := Blk.newAt _ _ _ hb6
  have hB3 : Below w.heap.size w (w3.alloc (Obj.cells (cel []) 63)) := Below.al (hB2) _
  have h6 : w.heap.size ≤ b6 := by omega
  rw [← hb6]
  clear k0 k1 hl2 hB2 hs2 hb6
  go_loopg [4, 5, 7, 8] 39 (fun n hi lo at_ rest wr => ∃ (N : Nat) (s : List UInt8), 1 ≤ n ∧ N < 340282366920938463463374607431768211456 ∧ N < 10 ^ n ∧ s.length + n = 39 ∧ hi = .int .u64 ((N / 18446744073709551616 : Nat) : Int) ∧ lo = .int .u64 ((N % 18446744073709551616 : Nat) : Int) ∧ at_ = .int .i64 ((n + 1 : Nat) : Int) ∧
    Hid (decF n N s = decF 39 N0 []) ∧ Blk wr b6 63 (cel s) ∧ Below w.heap.size w wr)
  case atStart => exact ⟨N0, [], by omega, hlt128, hlt39, rfl, by rw [hH0.out], by rw [hL0.out], rfl, rfl, hc6, hB3⟩
  case round =>
    obtain ⟨N, s, hn, hN128, hNn, hsl, rfl, rfl, rfl, hdec, hC, hB⟩ := hrel
    obtain ⟨m, rfl⟩ : ∃ m, gk = m + 1 := ⟨gk - 1, by omega⟩
    obtain ⟨H, hH⟩ : ∃ H : Int, ((N / 18446744073709551616 : Nat) : Int) = H := ⟨_, rfl⟩
    obtain ⟨L, hL⟩ : ∃ L : Int, ((N % 18446744073709551616 : Nat) : Int) = L := ⟨_, rfl⟩
    have hH2 : 0 ≤ H := by omega
    have hH3 : H < 18446744073709551616 := by omega
    have hL2 : 0 ≤ L ∧ L < 18446744073709551616 := by omega
    obtain ⟨Q, hQ, q1⟩ : ∃ Q : Int, Hid (((N / 10 % 18446744073709551616 : Nat) : Int) = Q) ∧ (H % 10 * 18446744073709551616 + L) / 10 = Q := ⟨_, rfl, by omega⟩
    obtain ⟨R, hR, q2⟩ : ∃ R : Int, Hid (((N % 10 : Nat) : Int) = R) ∧ (H % 10 * 18446744073709551616 + L) % 10 = R := ⟨_, rfl, by omega⟩
    obtain ⟨H', hH', q3⟩ : ∃ H' : Int, Hid (((N / 10 / 18446744073709551616 : Nat) : Int) = H') ∧ H / 10 = H' := ⟨_, rfl, by omega⟩
    rw [hH, hL]
    have e38 := fun w => div38 (H % 10) L w hL2.1 hL2.2 (by omega) (by omega)
    rw [q1, q2] at e38
    have hR2 : 0 ≤ R ∧ R < 10 := by have := hR.out; omega
    have hd : 48 + R = (((dgt N).toNat : Nat) : Int) := by rw [dgt_nat]; have := hR.out; omega
    have HD := Lib.hid hd
    have r1 : IntKind.u64.wrap (48 + R) = 48 + R := by rw [IntKind.wrap_u64]; omega
    have r2 : IntKind.u8.wrap (48 + R) = 48 + R := by rw [IntKind.wrap_u8']; omega
    have hA1 : s.length + 1 + (m + 1) = 40 := by omega
    have at1 : (((m + 1 + 1 : Nat) : Int) - 1) = ((m + 1 : Nat) : Int) := by omega
    have hmb : decide (((m + 1 : Nat) : Int) < 40) = true := by simp; omega
    obtain ⟨v0, c0⟩ : ∃ v0, wr.cell? ⟨b6, m + 1, none⟩ = some v0 := by
      refine ⟨(cel s)[m + 1]'(by rw [cel_size _ (by omega)]; omega), ?_⟩
      rw [Blk.cell hC, Array.getElem?_eq_getElem]
    have f0 := Blk.free hC (m + 1)
    have hCq : ∀ q, Blk ((wr.drewN q).setCell ⟨b6, m + 1, none⟩ (.int .u8 (48 + R))) b6 63 (cel (dgt N :: s)) := by
      intro q
      have h := Blk.set (Blk.drewN hC q) (m + 1) (.int .u8 (48 + R))
      rw [HD.out, cel_set s (dgt N) (m + 1) hA1, ← HD.out] at h
      exact h
    have HCQ := Lib.hid hCq
    clear hd q1 q2 hL hH hCq
    by_cases hz : N / 10 = 0
    · have z1 : (H' == 0) = true := by have := hH'.out; rw [hz] at this; simp at this; simp [← this]
      have z2 : (Q == 0) = true := by have := hQ.out; rw [hz] at this; simp at this; simp [← this]
      have hres : decF 39 N0 [] = dgt N :: s := by rw [← hdec.out, decF, if_pos hz]
      obtain ⟨ln, hln⟩ : ∃ ln, (45 :: dgt N :: s).length = ln := ⟨_, rfl⟩
      have hln2 : ln = 40 - m := by rw [← hln]; simp; omega
      have hmm : decide ((m : Int) < 40) = true := by simp; omega
      have hsl : ∀ W, (Instr.sliceAt 63 (.pointer (some ⟨b6, 0, none⟩)) (some (.int .i64 (m : Int))) none none).run Try.prog W = .ok (.slice (some ⟨b6, m, none⟩) ln (40 - m)) W := by
        intro W
        rw [run_sliceAt_array_l W 63 ⟨b6, 0, none⟩ Try.underlying63 .i64 (m : Int) (by omega) (by show (m : Int) ≤ (40 : Nat); omega)]
        have e1 : (sizeOf (Try.prog.elem 63)).run Try.prog W = .ok 1 W := by kernel_rfl
        rw [e1]
        have e2 : (m : Int).toNat = m := by omega
        simp only [Result.andThen, slicedAt, e2]
        have e3 : Try.prog.arrayLen 63 = 40 := by kernel_rfl
        rw [e3, if_neg (by omega), hln2]
        unfold Addr.add
        split <;> simp_all
      obtain ⟨vm, hvm⟩ : ∃ v, (cel (dgt N :: s))[m]? = some v := ⟨(cel (dgt N :: s))[m]'(by rw [cel_size _ (by simp; omega)]; omega), by rw [Array.getElem?_eq_getElem]⟩
      have hcm : ∀ q, ((wr.drewN q).setCell ⟨b6, m + 1, none⟩ (.int .u8 (48 + R))).cell? ⟨b6, m, none⟩ = some vm := fun q => (Blk.cell (HCQ.out q) m).trans hvm
      have hfm : ∀ q, ((wr.drewN q).setCell ⟨b6, m + 1, none⟩ (.int .u8 (48 + R))).frozen? ⟨b6, m, none⟩ = false := fun q => Blk.free (HCQ.out q) m
      have hCq2 : ∀ q, Blk (((wr.drewN q).setCell ⟨b6, m + 1, none⟩ (.int .u8 (48 + R))).setCell ⟨b6, m, none⟩ (.int .u8 45)) b6 63 (cel (45 :: dgt N :: s)) := by
        intro q
        have h := Blk.set (HCQ.out q) m (.int .u8 (((45 : UInt8).toNat : Nat) : Int))
        rw [cel_set (dgt N :: s) 45 m (by simp; omega)] at h
        exact h
      have hcv : ∀ q, (convert 64 9 (.slice (some ⟨b6, m, none⟩) ln (40 - m))).run Try.prog (((wr.drewN q).setCell ⟨b6, m + 1, none⟩ (.int .u8 (48 + R))).setCell ⟨b6, m, none⟩ (.int .u8 45)) = .ok (.string ⟨(45 :: dgt N :: s).toArray⟩) (((wr.drewN q).setCell ⟨b6, m + 1, none⟩ (.int .u8 (48 + R))).setCell ⟨b6, m, none⟩ (.int .u8 45)) := by
        intro q
        rw [← hln]
        refine run_convert_bytes_back _ 64 9 5 _ _ (45 :: dgt N :: s) Try.underlying64 Try.underlying5 Try.underlying9 (fun j hj => ?_)
        have := Blk.cell (hCq2 q) (m + j)
        rw [cel_at (45 :: dgt N :: s) m j (by simp; omega) hj] at this
        have ea : (⟨b6, m, none⟩ : Addr).add j = ⟨b6, m + j, none⟩ := by unfold Addr.add; split <;> simp_all
        rw [ea]
        exact this
      obtain ⟨S, hS⟩ : ∃ S : ByteArray, ⟨(45 :: dgt N :: s).toArray⟩ = S := ⟨_, rfl⟩
      rw [hS] at hcv
      have HSS := Lib.hid hS
      have HRS := Lib.hid hres
      clear hS hres hln hln2 hvm hCq2
      go_wp2_with (first | (go_at_call 38; refine (e38 _).mono ?_; rintro e w3 ⟨rfl, q, rfl⟩) | simp only [hsl] | simp only [hcv])
      go_ret
      exact ⟨by rw [HTX.out, HRS.out, HSS.out]; rfl, ((Below.drewN hB q).setCell (p := ⟨b6, m + 1, none⟩) (by exact h6) _).setCell (p := ⟨b6, m, none⟩) (by exact h6) _⟩
    · have hres : decF m (N / 10) (dgt N :: s) = decF 39 N0 [] := by rw [← hdec.out, decF, if_neg hz]
      have hlt' : N / 10 < 10 ^ m := by rw [Nat.pow_succ] at hNn; omega
      have hm1 : 1 ≤ m := by
        rcases Nat.eq_zero_or_pos m with h | h
        · subst h; simp at hlt'; omega
        · exact h
      have HRES := Lib.hid hres
      have HLT := Lib.hid hlt'
      clear hres hlt' hNn
      by_cases hz1 : H' = 0
      · have z1 : (H' == 0) = true := by simpa using hz1
        have z2 : (Q == 0) = false := by
          have g1 := hQ.out
          have g2 := hH'.out
          simp only [beq_eq_false_iff_ne, ne_eq]
          intro h; omega
        have HZ1 := Lib.hid hz1
        clear hz1
        go_wp2_with (go_at_call 38; refine (e38 _).mono ?_; rintro e w3 ⟨rfl, q, rfl⟩)
        go_roundg m
        case measure => omega
        case rel => exact ⟨N / 10, dgt N :: s, hm1, by omega, HLT.out, by simp; omega, by rw [hH'.out]; try (first | rfl | rw [HZ1.out]), by rw [hQ.out], by go_num, HRES.out, HCQ.out q, (Below.drewN hB q).setCell (p := ⟨b6, m + 1, none⟩) (by exact h6) _⟩
      · have z1 : (H' == 0) = false := by simpa using hz1
        go_wp2_with (go_at_call 38; refine (e38 _).mono ?_; rintro e w3 ⟨rfl, q, rfl⟩)
        go_roundg m
        case measure => omega
        case rel => exact ⟨N / 10, dgt N :: s, hm1, by omega, HLT.out, by simp; omega, by rw [hH'.out]; try (first | rfl | rw [HZ1.out]), by rw [hQ.out], by go_num, HRES.out, HCQ.out q, (Below.drewN hB q).setCell (p := ⟨b6, m + 1, none⟩) (by exact h6) _⟩

theorem text19 (a : Int) (w : World) (ha : In128 a) : Calls Try.prog 19 #[sumV a] w fun e w' => e = .returned (.string ⟨(txt a).toArray⟩) ∧ Below w.heap.size w w' := by
  by_cases h : a < 0
  · exact text19_neg a w ha h
  · exact text19_pos a w ha h
end Go.Proofs.Ytlhncphnhgbclaa
