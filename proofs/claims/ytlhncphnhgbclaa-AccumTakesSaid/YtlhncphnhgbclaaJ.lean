/- Accumulators: Take. -/
import Derived.Test.YtlhncphnhgbclaaI
import Derived.Test.YtlhncphnhgbclaaBase9
namespace Go.Proofs.Ytlhncphnhgbclaa
open Go.RowKit
set_option linter.unusedVariables false
set_option linter.unusedSimpArgs false

/-- the first n parts of a block -/
def PartAt (cur : Array Value) (n : Nat) (f : Nat → Prt) : Prop := ∀ i r, i < n → r < 5 → cur[i * 5 + r]? = (partC (f i))[r]?
theorem PartAt.of (ps : List Prt) (cur : Array Value) (h : cur.toList.take (ps.length * 5) = partsC ps) : PartAt cur ps.length (fun i => ps.getD i zeroP) := by
  intro i r hi hr
  have h1 := partsC_at ps i r hi hr
  rw [← h, List.getElem?_take, if_pos (by omega)] at h1
  rw [← Array.getElem?_toList, h1]
  simp [List.getD_eq_getElem?_getD, hi]
theorem PartAt.to (qs : List Prt) (cur : Array Value) (n : Nat) (f : Nat → Prt) (hl : qs.length = n) (hs : n * 5 ≤ cur.size) (h : PartAt cur n f) (hf : ∀ i, i < n → qs.getD i zeroP = f i) : cur.toList.take (n * 5) = partsC qs := by
  apply List.ext_getElem?
  intro j
  by_cases hj : j < n * 5
  · have hi : j / 5 < n := by omega
    have e : j / 5 * 5 + j % 5 = j := by omega
    rw [List.getElem?_take, if_pos hj, ← e, Array.getElem?_toList, h (j / 5) (j % 5) hi (by omega), partsC_at qs (j / 5) (j % 5) (by omega) (by omega)]
    have := hf (j / 5) hi
    rw [List.getD_eq_getElem?_getD, List.getElem?_eq_getElem (by omega)] at this
    simp only [Option.getD_some] at this
    rw [this]
  · rw [List.getElem?_eq_none (by simp; omega), List.getElem?_eq_none (by rw [partsC_len]; omega)]
theorem PartAt.set {cur cur' : Array Value} {n : Nat} {f : Nat → Prt} (h : PartAt cur n f) (k : Nat) (p : Prt) (hother : ∀ j, (j < k * 5 ∨ k * 5 + 5 ≤ j) → cur'[j]? = cur[j]?) (hk : ∀ r, r < 5 → cur'[k * 5 + r]? = (partC p)[r]?) :
    PartAt cur' n (fun i => if i = k then p else f i) := by
  intro i r hi hr
  by_cases e : i = k
  · subst e; simp only [if_true]; exact hk r hr
  · simp only [if_neg e]; rw [hother _ (by omega)]; exact h i r hi hr

/-- one measure, with a number more -/
def takeP (p : Prt) (n : Int) : Prt := if p.any then ⟨true, w128 (p.sum + n), if n < p.mn then n else p.mn, if p.mx < n then n else p.mx⟩ else ⟨true, w128 (p.sum + n), n, n⟩
def takeF (ps : List Prt) (ms : List Int) (k i : Nat) : Prt := if i < k then takeP (ps.getD i zeroP) (ms.getD i 0) else ps.getD i zeroP
def takeL (ps : List Prt) (ms : List Int) : List Prt := (List.range ps.length).map (takeF ps ms (min ps.length ms.length))
theorem takeL_len (ps : List Prt) (ms : List Int) : (takeL ps ms).length = ps.length := by simp [takeL]
theorem takeL_at (ps : List Prt) (ms : List Int) (i : Nat) (h : i < ps.length) : (takeL ps ms).getD i zeroP = takeF ps ms (min ps.length ms.length) i := by simp [takeL, List.getD_eq_getElem?_getD, h]
theorem takeF_step (ps : List Prt) (ms : List Int) (k : Nat) : takeF ps ms (k + 1) = fun i => if i = k then takeP (ps.getD k zeroP) (ms.getD k 0) else takeF ps ms k i := by
  funext i
  unfold takeF
  by_cases e : i = k
  · subst e; rw [if_pos (by omega), if_pos rfl]
  · rw [if_neg e]
    by_cases h : i < k
    · rw [if_pos h, if_pos (by omega)]
    · rw [if_neg h, if_neg (by omega)]
theorem takeF_zero (ps : List Prt) (ms : List Int) : takeF ps ms 0 = fun i => ps.getD i zeroP := by
  funext i; unfold takeF; rw [if_neg (by omega)]
theorem takeF_at (ps : List Prt) (ms : List Int) (k : Nat) : takeF ps ms k k = ps.getD k zeroP := by unfold takeF; rw [if_neg (by omega)]

theorem range_getD (ps : List Prt) : (List.range ps.length).map (fun i => ps.getD i zeroP) = ps := by
  apply List.ext_getElem
  · simp
  · intro i h1 h2
    simp [List.getD_eq_getElem?_getD, h2]
theorem owns_form {w : World} {base : Nat} {e : TypeId} {size : Nat} {v : Value} {n : Nat} {xs : List Value} (h : w.ownsRow base e size v n xs) : ∃ a c, v = .slice a n c := by
  rcases h.2 with ⟨rfl, rfl⟩ | ⟨g, cap, cur, rfl, _⟩
  · exact ⟨none, 0, rfl⟩
  · exact ⟨_, cap, rfl⟩

set_option maxRecDepth 100000 in
set_option maxHeartbeats 8000000 in
theorem take27 (ps : List Prt) (ms : List Int) (cnt : Int) (v v1 : Value) (w : World) (h : RowP w.heap.size w v ps) (hv : Som v ps.length) (h1 : RowI w.heap.size w v1 ms)
    (hb : ps.length * 40 ≤ 140737488355328) (hms : ∀ i, i < ms.length → -9223372036854775808 ≤ ms.getD i 0 ∧ ms.getD i 0 ≤ 9223372036854775807) :
    Calls Try.prog 27 #[.agg #[.int .i64 cnt, v], v1] w fun e w' => ∃ v', e = .returned (.agg #[.int .i64 (wrap64 (cnt + 1)), v']) ∧ w'.ownsRow w.heap.size 46 5 v' ps.length (partsC (takeL ps ms)) ∧ Below w.heap.size w w' := by
  obtain ⟨a1, cap1, rfl, hcap1, hmax1, hc1⟩ := h1.open
  have HC1 := Lib.hid hc1
  have HMS := Lib.hid hms
  have HROW := Lib.hid h
  obtain ⟨cn, hcn⟩ : ∃ cn, IntKind.i64.wrap (cnt + 1) = cn := ⟨_, rfl⟩
  have HCN := Lib.hid hcn
  clear hc1 hms h hcn
  go_enter Try.func27, Try.ntmps27
  go_wp2_with fail
  obtain ⟨w1, hw1⟩ : ∃ w1, w1 = (w.alloc (Obj.cells #[.int .i64 cnt, v] 39)).alloc (Obj.cells #[.int .i64 0, .slice none 0 0] 39) := ⟨_, rfl⟩
  have hb1 : Blk w1 w.heap.size 39 #[.int .i64 cnt, v] := by rw [hw1]; exact (Blk.newAt _ _ _ rfl).alloc _
  have hb2 : Blk w1 (w.heap.size + 1) 39 #[.int .i64 0, .slice none 0 0] := by rw [hw1]; exact Blk.newAt _ _ _ (by simp)
  have hB : Below w.heap.size w w1 := by rw [hw1]; exact Below.al (Below.al (Below.refl _ _) _) _
  rw [← hw1]
  clear hw1
  have hs1 := Blk.lt hb2
  have hl0 := Blk.lt hb1
  have k0 : w1.cell? ⟨w.heap.size, 0, none⟩ = some (.int .i64 cnt) := Blk.cell hb1 0
  have k1 : w1.cell? ⟨w.heap.size, 1, none⟩ = some v := Blk.cell hb1 1
  refine hp_start (fun w' => Below (w.heap.size + 1) w1 w') 9 rfl (by kernel_rfl) (fun c a a' w hd h => ⟨hd ▸ h.1, h.2⟩) (fun hP => ?_)
  rw [show Array.replicate 9 false = #[false, false, false, false, false, false, false, false, false] from rfl]
  have HS0 : Below (w.heap.size + 1) w1 w1.drew := (Below.refl _ _).drew
  refine hp_take hP 0 (some 9) _ rfl rfl (by kernel_rfl) rfl (fun w' hS' => by go_simp; rfl) HS0 ?_
  simp only [Act.put, List.setIfInBounds_toArray, List.set_cons_zero, List.set_cons_succ]
  refine hp_take hP 1 (some 10) _ rfl rfl (by kernel_rfl) rfl (fun w' hS' => by have cc := (hS'.cell (by exact Nat.lt_succ_self _)).trans k0; go_simp; rfl) HS0 ?_
  simp only [Act.put, List.setIfInBounds_toArray, List.set_cons_zero, List.set_cons_succ]
  refine hp_take hP 2 (some 11) (.int .i64 cn) rfl rfl (by kernel_rfl) rfl (fun w' hS' => by have h2 := HCN.out; go_simp) HS0 ?_
  simp only [Act.put, List.setIfInBounds_toArray, List.set_cons_zero, List.set_cons_succ]
  refine hp_take hP 3 (some 12) _ rfl rfl (by kernel_rfl) rfl (fun w' hS' => by go_simp; rfl) HS0 ?_
  simp only [Act.put, List.setIfInBounds_toArray, List.set_cons_zero, List.set_cons_succ]
  refine hp_take hP 4 (some 13) _ rfl rfl (by kernel_rfl) rfl (fun w' hS' => by have cc := (hS'.cell (by exact Nat.lt_succ_self _)).trans k1; go_simp; rfl) HS0 ?_
  simp only [Act.put, List.setIfInBounds_toArray, List.set_cons_zero, List.set_cons_succ]
  have hrow1 : Row w1.drew.heap.size w1.drew v ps.length 5 (partsC ps) := Row.mono HROW.out (Below.drew hB) (by have e : w1.drew.heap.size = w1.heap.size := rfl; omega)
  refine hp_two 5 7 (by kernel_rfl) ?_ ?_
  · refine wpOp_call 5 (some 14) rfl rfl rfl 42 #[v] (by go_simp) ((clone42 v ps.length (partsC ps) _ hrow1 hv (partsC_one ps) hb).mono ?_)
    rintro e w2 ⟨v2, rfl, hown2, hB2⟩
    have HS1 : Below (w.heap.size + 1) w1 w2 := HS0.trans (hB2.mono (Nat.le_of_lt hs1))
    refine ⟨_, rfl, HS1, ?_⟩
    simp only [Act.put, List.setIfInBounds_toArray, List.set_cons_zero, List.set_cons_succ]
    obtain ⟨a2, c2, rfl⟩ := owns_form hown2
    refine hp_take hP 6 (some 15) _ rfl rfl (by kernel_rfl) rfl (fun w' hS' => by go_simp; rfl) HS1 ?_
    simp only [Act.put, List.setIfInBounds_toArray, List.set_cons_zero, List.set_cons_succ]
    have HS2 : Below (w.heap.size + 1) w1 (w2.alloc (Obj.cells #[.int .i64 0, .slice none 0 0] 39)) := HS1.alloc (by have := hB2.size; have e : w1.drew.heap.size = w1.heap.size := rfl; omega) _
    refine hp_val 7 (some 5) rfl rfl (by kernel_rfl) rfl (.pointer (some ⟨w2.heap.size, 0, none⟩)) (w2.alloc (Obj.cells #[.int .i64 0, .slice none 0 0] 39)) (by go_simp) HS2 ?_
    simp only [Act.put, List.setIfInBounds_toArray, List.set_cons_zero, List.set_cons_succ]
    have hg : Blk (w2.alloc (Obj.cells #[.int .i64 0, .slice none 0 0] 39)) w2.heap.size 39 #[.int .i64 0, .slice none 0 0] := Blk.newAt _ _ _ rfl
    have hs2 : w1.heap.size ≤ w2.heap.size := hB2.size
    refine hp_store_row 8 rfl rfl (by kernel_rfl) rfl 39 _ _ rfl w2.heap.size #[.int .i64 cn, .slice a2 ps.length c2] rfl rfl 39 _ hg info39 rfl (by simp [Value.oneCell']) (Below.setRow HS2 (by omega) _) ?_
    simp only [List.setIfInBounds_toArray, List.set_cons_zero, List.set_cons_succ]
    refine hk_done (by kernel_rfl) ?_
    have hown : ((w2.alloc (Obj.cells #[.int .i64 0, .slice none 0 0] 39)).setRow w2.heap.size #[.int .i64 cn, .slice a2 ps.length c2]).ownsRow w1.heap.size 46 5 (.slice a2 ps.length c2) ps.length (partsC ps) := owns_below hown2 (Below.setRow (Below.al (Below.refl _ _) _) (Nat.le_refl _) _) (Nat.le_refl _)
    have hne : ∀ g, (Value.slice a2 ps.length c2).ownBlock = some g → g ≠ w2.heap.size := fun g hg => by have := (hown2.lt g hg).2; omega
    have hg5 := Blk.setRow (cs' := #[.int .i64 cn, .slice a2 ps.length c2]) hg
    have hBz := hB.trans ((Below.setRow HS2 (show w.heap.size + 1 ≤ w2.heap.size by omega) #[.int .i64 cn, .slice a2 ps.length c2]).mono (Nat.le_succ _))
    have hbz : Blk ((w2.alloc (Obj.cells #[.int .i64 0, .slice none 0 0] 39)).setRow w2.heap.size #[.int .i64 cn, .slice a2 ps.length c2]) (w.heap.size + 1) 39 #[.int .i64 0, .slice none 0 0] :=
      Blk.otherRow ((Blk.below (Blk.drew hb2) hB2 hs1).alloc _) (by omega)
    have hown := owns_base hown (show w.heap.size + 2 ≤ w1.heap.size by omega)
    obtain ⟨g5, hg5e⟩ : ∃ g, g = w2.heap.size := ⟨_, rfl⟩
    have hg5l : w.heap.size + 1 < g5 := by omega
    rw [← hg5e] at hown hne hg5 hBz hbz ⊢
    generalize (w2.alloc (Obj.cells #[.int .i64 0, .slice none 0 0] 39)).setRow g5 #[.int .i64 cn, .slice a2 ps.length c2] = wz at *
    clear hg HS2 HS1 hg5e hown2 hB2 hs2 hrow1 HS0 hB hb1 hb2 k0 k1 hP
    have c1g : wz.cell? ⟨g5, 1, none⟩ = some (.slice a2 ps.length c2) := Blk.cell hg5 1
    have hlen0 : (Value.slice a2 ps.length c2) = .slice a2 ps.length c2 := rfl
    have hcapn : ps.length ≤ c2 ∧ c2 ≤ maxLen := by
      rcases hown.2 with ⟨h, h2⟩ | ⟨g, cap, cur, hv, _, _, hc1, hc2, _⟩
      · injection h with _ h3 h4; rw [h3, h4]; exact ⟨Nat.le_refl _, by unfold maxLen; omega⟩
      · injection hv with _ _ h4; rw [h4]; exact ⟨hc1, hc2⟩
    rcases Nat.lt_or_ge ms.length ps.length with hmin | hmin
    · have hI : (ms.length : Int) < ps.length := by omega
      obtain ⟨L, hL⟩ : ∃ L, min ps.length ms.length = L := ⟨_, rfl⟩
      have hLn : L ≤ ps.length := by omega
      have hLm : L ≤ ms.length := by omega
      have hLX : L = ms.length := by omega
      have HL := Lib.hid hL
      clear hL
      go_wp2_with fail
      go_loopw [6, 7, 8, 22] (fun _ _ _ j wr => ∃ k : Nat, k ≤ L ∧ j = .int .i64 k ∧ Blk wr g5 39 #[.int .i64 cn, .slice a2 ps.length c2] ∧ Blk wr (w.heap.size + 1) 39 #[.int .i64 0, .slice none 0 0] ∧ Below w.heap.size w wr ∧
        wr.ownsRow (w.heap.size + 2) 46 5 (.slice a2 ps.length c2) ps.length (partsC ((List.range ps.length).map (takeF ps ms k)))) (fun _ _ _ j _ => L - (intOf j).toNat)
      case atStart => exact ⟨0, by omega, rfl, hg5, hbz, hBz, by rw [takeF_zero, range_getD]; exact hown⟩
      case round =>
        obtain ⟨k, hk, rfl, hG, hZ, hB, hO⟩ := hrel
        by_cases hlt : k < L
        · rcases hO.2 with ⟨h, h2⟩ | ⟨g, cap, cur, hv2, hgb, hgh, hgc1, hgc2, hgs, hgt⟩
          · omega
          injection hv2 with e1 e2 e3
          subst e1 e3
          have hgne : g ≠ g5 := hne g rfl
          have hPA : PartAt cur ps.length (takeF ps ms k) := by
            have h1 := PartAt.of ((List.range ps.length).map (takeF ps ms k)) cur (by simpa using hgt)
            intro i r hi hr
            have := h1 i r (by simpa using hi) hr
            simpa [List.getD_eq_getElem?_getD, hi] using this
          have hkn : k < ps.length := by omega
          have hkm : k < ms.length := by omega
          have hC : Blk wr g 46 cur := hgh
          obtain ⟨p, hp⟩ : ∃ p, ps.getD k zeroP = p := ⟨_, rfl⟩
          obtain ⟨x, hx⟩ : ∃ x, ms.getD k 0 = x := ⟨_, rfl⟩
          have hx64 := HMS.out k hkm
          rw [hx] at hx64
          have hcell : ∀ r, r < 5 → cur[k * 5 + r]? = (partC p)[r]? := by
            intro r hr
            have := hPA k r hkn hr
            rw [takeF_at, hp] at this
            exact this
          have hsz : k * 5 + 5 ≤ cur.size := by rw [hgs]; omega
          obtain ⟨b', off, rfl, hb', hcl⟩ := HC1.out (by omega)
          have cm : wr.cell? ⟨b', off + k, none⟩ = some (.int .i64 x) := by rw [hB.cell (by exact hb'), hcl k hkm, hx]
          have cg1 : wr.cell? ⟨g5, 1, none⟩ = some (.slice (some ⟨g, 0, none⟩) ps.length c2) := Blk.cell hG 1
          have dn : decide ((k : Int) < ps.length) = true := by simp; omega
          have dm : decide ((k : Int) < ms.length) = true := by simp; omega
          have HX := Lib.hid hx
          have HP := Lib.hid hp
          have HCL := Lib.hid hcell
          have HPA := Lib.hid hPA
          clear hcl hx hp hcell hPA hgt hO hgh hLX
          go_wp2_with fail
          go_quiet (fail)
          have hCq : Blk (wr.drewN nq) g 46 cur := hC
          have hGq : Blk (wr.drewN nq) g5 39 #[.int .i64 cn, .slice (some ⟨g, 0, none⟩) ps.length c2] := hG
          have hZq : Blk (wr.drewN nq) (w.heap.size + 1) 39 #[.int .i64 0, .slice none 0 0] := hZ
          have hBq : Below w.heap.size w (wr.drewN nq) := Below.drewN hB nq
          generalize wr.drewN nq = wq at *
          clear hC hG hZ hB cm cg1
          have hlg := Blk.lt hCq
          have hlG := Blk.lt hGq
          have hlZ := Blk.lt hZq
          have y1 : wq.cell? ⟨g, k * 5 + 1, none⟩ = some (.int .i64 (hiW p.sum)) := (Blk.cell hCq _).trans (HCL.out 1 (by omega))
          have y2 : wq.cell? ⟨g, k * 5 + 1 + 1, none⟩ = some (.int .u64 (loW p.sum)) := (Blk.cell hCq _).trans (HCL.out 2 (by omega))
          have y3 : wq.cell? ⟨g, k * 5 + 2, none⟩ = some (.int .u64 (loW p.sum)) := (Blk.cell hCq _).trans (HCL.out 2 (by omega))
          go_wp2_with fail
          refine (add15 p.sum x _ hx64).mono ?_
          rintro e w3 ⟨rfl, hB3⟩
          have hC3 := Blk.below hCq hB3 hlg
          have hG3 := Blk.below hGq hB3 hlG
          have hZ3 := Blk.below hZq hB3 hlZ
          have hBw3 := Below.call hBq hB3
          clear hCq hGq hZq hBq hB3 hlg hlG hlZ y1 y2 y3
          obtain ⟨S, hS⟩ : ∃ S, w128 (p.sum + x) = S := ⟨_, rfl⟩
          rw [hS]
          have HS := Lib.hid hS
          clear hS
          have d1 : w3.cell? ⟨g, k * 5 + 1, none⟩ = some (.int .i64 (hiW p.sum)) := (Blk.cell hC3 _).trans (HCL.out 1 (by omega))
          have d2 : w3.cell? ⟨g, k * 5 + 1 + 1, none⟩ = some (.int .u64 (loW p.sum)) := (Blk.cell hC3 _).trans (HCL.out 2 (by omega))
          have d3 : w3.cell? ⟨g, k * 5 + 2, none⟩ = some (.int .u64 (loW p.sum)) := (Blk.cell hC3 _).trans (HCL.out 2 (by omega))
          have f3 := Blk.free hC3
          unfold sumV
          go_upto_region 7 with (fail)
          have hA1 := Blk.set (Blk.set hC3 (k * 5 + 1) (.int .i64 (hiW S))) (k * 5 + 1 + 1) (.int .u64 (loW S))
          have hG4 := Blk.other (Blk.other hG3 (p := ⟨g, k * 5 + 1, none⟩) hgne (.int .i64 (hiW S))) (p := ⟨g, k * 5 + 1 + 1, none⟩) hgne (.int .u64 (loW S))
          have hZ4 := Blk.other (Blk.other hZ3 (p := ⟨g, k * 5 + 1, none⟩) (by show g ≠ w.heap.size + 1; omega) (.int .i64 (hiW S))) (p := ⟨g, k * 5 + 1 + 1, none⟩) (by show g ≠ w.heap.size + 1; omega) (.int .u64 (loW S))
          have hB4 := (hBw3.setCell (p := ⟨g, k * 5 + 1, none⟩) (by show w.heap.size ≤ g; omega) (.int .i64 (hiW S))).setCell (p := ⟨g, k * 5 + 1 + 1, none⟩) (by show w.heap.size ≤ g; omega) (.int .u64 (loW S))
          generalize (w3.setCell ⟨g, k * 5 + 1, none⟩ (.int .i64 (hiW S))).setCell ⟨g, k * 5 + 1 + 1, none⟩ (.int .u64 (loW S)) = wa at *
          obtain ⟨ca, hca⟩ : ∃ ca, (cur.setIfInBounds (k * 5 + 1) (.int .i64 (hiW S))).setIfInBounds (k * 5 + 1 + 1) (.int .u64 (loW S)) = ca := ⟨_, rfl⟩
          rw [hca] at hA1
          have q0 : ca[k * 5]? = some (.bool p.any) := by rw [← hca, Array.getElem?_setIfInBounds_ne (by omega), Array.getElem?_setIfInBounds_ne (by omega)]; exact HCL.out 0 (by omega)
          have q1 : ca[k * 5 + 1]? = some (.int .i64 (hiW S)) := by rw [← hca, Array.getElem?_setIfInBounds_ne (by omega), Array.getElem?_setIfInBounds_self_of_lt (by omega)]
          have q2 : ca[k * 5 + 2]? = some (.int .u64 (loW S)) := by rw [← hca, Array.getElem?_setIfInBounds_self_of_lt (by simp; omega)]
          have q3 : ca[k * 5 + 3]? = some (.int .i64 p.mn) := by rw [← hca, Array.getElem?_setIfInBounds_ne (by omega), Array.getElem?_setIfInBounds_ne (by omega)]; exact HCL.out 3 (by omega)
          have q4 : ca[k * 5 + 4]? = some (.int .i64 p.mx) := by rw [← hca, Array.getElem?_setIfInBounds_ne (by omega), Array.getElem?_setIfInBounds_ne (by omega)]; exact HCL.out 4 (by omega)
          have qo : ∀ j, (j < k * 5 ∨ k * 5 + 5 ≤ j) → ca[j]? = cur[j]? := fun j hj => by rw [← hca, Array.getElem?_setIfInBounds_ne (by omega), Array.getElem?_setIfInBounds_ne (by omega)]
          have qs : ca.size = cur.size := by rw [← hca]; simp
          have QO := Lib.hid qo
          have s0 : k * 5 < cur.size := by omega
          have s3 : k * 5 + 3 < cur.size := by omega
          have s4 : k * 5 + 4 < cur.size := by omega
          clear hca qo hC3 hG3 hZ3 hBw3 d1 d2 d3 f3
          have z0 : wa.cell? ⟨g, k * 5, none⟩ = some (.bool p.any) := (Blk.cell hA1 _).trans q0
          have z3 : wa.cell? ⟨g, k * 5 + 3, none⟩ = some (.int .i64 p.mn) := (Blk.cell hA1 _).trans q3
          have z4 : wa.cell? ⟨g, k * 5 + 4, none⟩ = some (.int .i64 p.mx) := (Blk.cell hA1 _).trans q4
          have fa := Blk.free hA1
          cases hany : p.any with
          | true =>
            rw [hany] at z0 q0
            go_wp2_with fail
            go_region
            go_wp2_with fail
            have hA5 : Blk (((wa).setCell ⟨g, k * 5 + 3, none⟩ (.int .i64 (if x < p.mn then x else p.mn))).setCell ⟨g, k * 5 + 4, none⟩ (.int .i64 (if p.mx < x then x else p.mx))).drew g 46 (((ca).setIfInBounds (k * 5 + 3) (.int .i64 (if x < p.mn then x else p.mn))).setIfInBounds (k * 5 + 4) (.int .i64 (if p.mx < x then x else p.mx))) := Blk.set (Blk.set (hA1) (k * 5 + 3) (.int .i64 (if x < p.mn then x else p.mn))) (k * 5 + 4) (.int .i64 (if p.mx < x then x else p.mx))
            have hG5 : Blk (((wa).setCell ⟨g, k * 5 + 3, none⟩ (.int .i64 (if x < p.mn then x else p.mn))).setCell ⟨g, k * 5 + 4, none⟩ (.int .i64 (if p.mx < x then x else p.mx))).drew g5 39 #[.int .i64 cn, .slice (some ⟨g, 0, none⟩) ps.length c2] := Blk.other (Blk.other (hG4) (p := ⟨g, k * 5 + 3, none⟩) hgne (.int .i64 (if x < p.mn then x else p.mn))) (p := ⟨g, k * 5 + 4, none⟩) hgne (.int .i64 (if p.mx < x then x else p.mx))
            have hZ5 : Blk (((wa).setCell ⟨g, k * 5 + 3, none⟩ (.int .i64 (if x < p.mn then x else p.mn))).setCell ⟨g, k * 5 + 4, none⟩ (.int .i64 (if p.mx < x then x else p.mx))).drew (w.heap.size + 1) 39 #[.int .i64 0, .slice none 0 0] := Blk.other (Blk.other (hZ4) (p := ⟨g, k * 5 + 3, none⟩) (by show g ≠ w.heap.size + 1; omega) (.int .i64 (if x < p.mn then x else p.mn))) (p := ⟨g, k * 5 + 4, none⟩) (by show g ≠ w.heap.size + 1; omega) (.int .i64 (if p.mx < x then x else p.mx))
            have hB5 : Below w.heap.size w (((wa).setCell ⟨g, k * 5 + 3, none⟩ (.int .i64 (if x < p.mn then x else p.mn))).setCell ⟨g, k * 5 + 4, none⟩ (.int .i64 (if p.mx < x then x else p.mx))).drew := Below.drew (((hB4).setCell (p := ⟨g, k * 5 + 3, none⟩) (by show w.heap.size ≤ g; omega) (.int .i64 (if x < p.mn then x else p.mn))).setCell (p := ⟨g, k * 5 + 4, none⟩) (by show w.heap.size ≤ g; omega) (.int .i64 (if p.mx < x then x else p.mx)))
            have hk5 : ∀ r, r < 5 → (((ca).setIfInBounds (k * 5 + 3) (.int .i64 (if x < p.mn then x else p.mn))).setIfInBounds (k * 5 + 4) (.int .i64 (if p.mx < x then x else p.mx)))[k * 5 + r]? = (partC (takeP p x))[r]? := by
              intro r hr
              have htk : takeP p x = ⟨true, S, if x < p.mn then x else p.mn, if p.mx < x then x else p.mx⟩ := by unfold takeP; rw [hany, HS.out]; simp
              rw [htk]
              rcases (by omega : r = 0 ∨ r = 1 ∨ r = 2 ∨ r = 3 ∨ r = 4) with rfl | rfl | rfl | rfl | rfl 
              · rw [Array.getElem?_setIfInBounds_ne (by omega), Array.getElem?_setIfInBounds_ne (by omega)]; exact q0
              · rw [Array.getElem?_setIfInBounds_ne (by omega), Array.getElem?_setIfInBounds_ne (by omega), q1]; rfl
              · rw [Array.getElem?_setIfInBounds_ne (by omega), Array.getElem?_setIfInBounds_ne (by omega), q2]; rfl
              · rw [Array.getElem?_setIfInBounds_ne (by omega), Array.getElem?_setIfInBounds_self_of_lt (by rw [qs]; exact s3)]; rfl
              · rw [Array.getElem?_setIfInBounds_self_of_lt (by rw [Array.size_setIfInBounds, qs]; exact s4)]; rfl
            have ho5 : ∀ j, (j < k * 5 ∨ k * 5 + 5 ≤ j) → (((ca).setIfInBounds (k * 5 + 3) (.int .i64 (if x < p.mn then x else p.mn))).setIfInBounds (k * 5 + 4) (.int .i64 (if p.mx < x then x else p.mx)))[j]? = cur[j]? := fun j hj => by
              rw [Array.getElem?_setIfInBounds_ne (by omega), Array.getElem?_setIfInBounds_ne (by omega)]; exact QO.out j hj
            have hs5 : (((ca).setIfInBounds (k * 5 + 3) (.int .i64 (if x < p.mn then x else p.mn))).setIfInBounds (k * 5 + 4) (.int .i64 (if p.mx < x then x else p.mx))).size = c2 * 5 := by simp [qs, hgs]
            have hP5 : PartAt (((ca).setIfInBounds (k * 5 + 3) (.int .i64 (if x < p.mn then x else p.mn))).setIfInBounds (k * 5 + 4) (.int .i64 (if p.mx < x then x else p.mx))) ps.length (takeF ps ms (k + 1)) := by
              rw [takeF_step, HP.out, HX.out]
              exact PartAt.set HPA.out k _ ho5 hk5
            generalize (((ca).setIfInBounds (k * 5 + 3) (.int .i64 (if x < p.mn then x else p.mn))).setIfInBounds (k * 5 + 4) (.int .i64 (if p.mx < x then x else p.mx))) = cf at *
            generalize (((wa).setCell ⟨g, k * 5 + 3, none⟩ (.int .i64 (if x < p.mn then x else p.mn))).setCell ⟨g, k * 5 + 4, none⟩ (.int .i64 (if p.mx < x then x else p.mx))).drew = wf at *
            go_roundw
            case rel =>
              refine ⟨k + 1, by omega, by go_num, hG5, hZ5, hB5, ⟨by rw [partsC_len]; simp, .inr ⟨g, c2, cf, rfl, hgb, hA5, hgc1, hgc2, hs5, ?_⟩⟩⟩
              exact PartAt.to _ cf ps.length _ (by simp) (by omega) hP5 (fun i hi => by simp [List.getD_eq_getElem?_getD, hi])
            case measure => simp [intOf]; omega
          | false =>
            rw [hany] at z0 q0
            go_upto_region 9 with (fail)
            have hA6 := Blk.set (Blk.set (Blk.set hA1 (k * 5) (.bool true)) (k * 5 + 3) (.int .i64 x)) (k * 5 + 4) (.int .i64 x)
            have hG6 := Blk.other (Blk.other (Blk.other hG4 (p := ⟨g, k * 5, none⟩) hgne (.bool true)) (p := ⟨g, k * 5 + 3, none⟩) hgne (.int .i64 x)) (p := ⟨g, k * 5 + 4, none⟩) hgne (.int .i64 x)
            have hgz : g ≠ w.heap.size + 1 := by omega
            have hgw : w.heap.size ≤ g := by omega
            have hZ6 := Blk.other (Blk.other (Blk.other hZ4 (p := ⟨g, k * 5, none⟩) hgz (.bool true)) (p := ⟨g, k * 5 + 3, none⟩) hgz (.int .i64 x)) (p := ⟨g, k * 5 + 4, none⟩) hgz (.int .i64 x)
            have hB6 := ((hB4.setCell (p := ⟨g, k * 5, none⟩) hgw (.bool true)).setCell (p := ⟨g, k * 5 + 3, none⟩) hgw (.int .i64 x)).setCell (p := ⟨g, k * 5 + 4, none⟩) hgw (.int .i64 x)
            generalize ((wa.setCell ⟨g, k * 5, none⟩ (.bool true)).setCell ⟨g, k * 5 + 3, none⟩ (.int .i64 x)).setCell ⟨g, k * 5 + 4, none⟩ (.int .i64 x) = wb at *
            obtain ⟨cb, hcb⟩ : ∃ cb, ((ca.setIfInBounds (k * 5) (.bool true)).setIfInBounds (k * 5 + 3) (.int .i64 x)).setIfInBounds (k * 5 + 4) (.int .i64 x) = cb := ⟨_, rfl⟩
            rw [hcb] at hA6
            have u0 : cb[k * 5]? = some (.bool true) := by rw [← hcb, Array.getElem?_setIfInBounds_ne (by omega), Array.getElem?_setIfInBounds_ne (by omega), Array.getElem?_setIfInBounds_self_of_lt (by omega)]
            have u1 : cb[k * 5 + 1]? = some (.int .i64 (hiW S)) := by rw [← hcb, Array.getElem?_setIfInBounds_ne (by omega), Array.getElem?_setIfInBounds_ne (by omega), Array.getElem?_setIfInBounds_ne (by omega), q1]
            have u2 : cb[k * 5 + 2]? = some (.int .u64 (loW S)) := by rw [← hcb, Array.getElem?_setIfInBounds_ne (by omega), Array.getElem?_setIfInBounds_ne (by omega), Array.getElem?_setIfInBounds_ne (by omega), q2]
            have u3 : cb[k * 5 + 3]? = some (.int .i64 x) := by rw [← hcb, Array.getElem?_setIfInBounds_ne (by omega), Array.getElem?_setIfInBounds_self_of_lt (by simp; omega)]
            have u4 : cb[k * 5 + 4]? = some (.int .i64 x) := by rw [← hcb, Array.getElem?_setIfInBounds_self_of_lt (by simp; omega)]
            have us : cb.size = cur.size := by rw [← hcb]; simp [qs]
            have qo2 : ∀ j, (j < k * 5 ∨ k * 5 + 5 ≤ j) → cb[j]? = cur[j]? := fun j hj => by rw [← hcb, Array.getElem?_setIfInBounds_ne (by omega), Array.getElem?_setIfInBounds_ne (by omega), Array.getElem?_setIfInBounds_ne (by omega)]; exact QO.out j hj
            have UO := Lib.hid qo2
            clear hcb qo2 q0 q1 q2 q3 q4 qs QO z0 z3 z4 fa hA1 hG4 hZ4 hB4
            have z3 : wb.cell? ⟨g, k * 5 + 3, none⟩ = some (.int .i64 x) := (Blk.cell hA6 _).trans u3
            have z4 : wb.cell? ⟨g, k * 5 + 4, none⟩ = some (.int .i64 x) := (Blk.cell hA6 _).trans u4
            have fa := Blk.free hA6
            go_wp2_with fail
            go_region
            go_wp2_with fail
            have hA5 : Blk (((wb).setCell ⟨g, k * 5 + 3, none⟩ (.int .i64 (x))).setCell ⟨g, k * 5 + 4, none⟩ (.int .i64 (x))).drew g 46 (((cb).setIfInBounds (k * 5 + 3) (.int .i64 (x))).setIfInBounds (k * 5 + 4) (.int .i64 (x))) := Blk.set (Blk.set (hA6) (k * 5 + 3) (.int .i64 (x))) (k * 5 + 4) (.int .i64 (x))
            have hG5 : Blk (((wb).setCell ⟨g, k * 5 + 3, none⟩ (.int .i64 (x))).setCell ⟨g, k * 5 + 4, none⟩ (.int .i64 (x))).drew g5 39 #[.int .i64 cn, .slice (some ⟨g, 0, none⟩) ps.length c2] := Blk.other (Blk.other (hG6) (p := ⟨g, k * 5 + 3, none⟩) hgne (.int .i64 (x))) (p := ⟨g, k * 5 + 4, none⟩) hgne (.int .i64 (x))
            have hZ5 : Blk (((wb).setCell ⟨g, k * 5 + 3, none⟩ (.int .i64 (x))).setCell ⟨g, k * 5 + 4, none⟩ (.int .i64 (x))).drew (w.heap.size + 1) 39 #[.int .i64 0, .slice none 0 0] := Blk.other (Blk.other (hZ6) (p := ⟨g, k * 5 + 3, none⟩) (by show g ≠ w.heap.size + 1; omega) (.int .i64 (x))) (p := ⟨g, k * 5 + 4, none⟩) (by show g ≠ w.heap.size + 1; omega) (.int .i64 (x))
            have hB5 : Below w.heap.size w (((wb).setCell ⟨g, k * 5 + 3, none⟩ (.int .i64 (x))).setCell ⟨g, k * 5 + 4, none⟩ (.int .i64 (x))).drew := Below.drew (((hB6).setCell (p := ⟨g, k * 5 + 3, none⟩) (by show w.heap.size ≤ g; omega) (.int .i64 (x))).setCell (p := ⟨g, k * 5 + 4, none⟩) (by show w.heap.size ≤ g; omega) (.int .i64 (x)))
            have hk5 : ∀ r, r < 5 → (((cb).setIfInBounds (k * 5 + 3) (.int .i64 (x))).setIfInBounds (k * 5 + 4) (.int .i64 (x)))[k * 5 + r]? = (partC (takeP p x))[r]? := by
              intro r hr
              have htk : takeP p x = ⟨true, S, x, x⟩ := by unfold takeP; rw [hany, HS.out]; simp
              rw [htk]
              rcases (by omega : r = 0 ∨ r = 1 ∨ r = 2 ∨ r = 3 ∨ r = 4) with rfl | rfl | rfl | rfl | rfl 
              · rw [Array.getElem?_setIfInBounds_ne (by omega), Array.getElem?_setIfInBounds_ne (by omega)]; exact u0
              · rw [Array.getElem?_setIfInBounds_ne (by omega), Array.getElem?_setIfInBounds_ne (by omega), u1]; rfl
              · rw [Array.getElem?_setIfInBounds_ne (by omega), Array.getElem?_setIfInBounds_ne (by omega), u2]; rfl
              · rw [Array.getElem?_setIfInBounds_ne (by omega), Array.getElem?_setIfInBounds_self_of_lt (by rw [us]; exact s3)]; rfl
              · rw [Array.getElem?_setIfInBounds_self_of_lt (by rw [Array.size_setIfInBounds, us]; exact s4)]; rfl
            have ho5 : ∀ j, (j < k * 5 ∨ k * 5 + 5 ≤ j) → (((cb).setIfInBounds (k * 5 + 3) (.int .i64 (x))).setIfInBounds (k * 5 + 4) (.int .i64 (x)))[j]? = cur[j]? := fun j hj => by
              rw [Array.getElem?_setIfInBounds_ne (by omega), Array.getElem?_setIfInBounds_ne (by omega)]; exact UO.out j hj
            have hs5 : (((cb).setIfInBounds (k * 5 + 3) (.int .i64 (x))).setIfInBounds (k * 5 + 4) (.int .i64 (x))).size = c2 * 5 := by simp [us, hgs]
            have hP5 : PartAt (((cb).setIfInBounds (k * 5 + 3) (.int .i64 (x))).setIfInBounds (k * 5 + 4) (.int .i64 (x))) ps.length (takeF ps ms (k + 1)) := by
              rw [takeF_step, HP.out, HX.out]
              exact PartAt.set HPA.out k _ ho5 hk5
            generalize (((cb).setIfInBounds (k * 5 + 3) (.int .i64 (x))).setIfInBounds (k * 5 + 4) (.int .i64 (x))) = cf at *
            generalize (((wb).setCell ⟨g, k * 5 + 3, none⟩ (.int .i64 (x))).setCell ⟨g, k * 5 + 4, none⟩ (.int .i64 (x))).drew = wf at *
            go_roundw
            case rel =>
              refine ⟨k + 1, by omega, by go_num, hG5, hZ5, hB5, ⟨by rw [partsC_len]; simp, .inr ⟨g, c2, cf, rfl, hgb, hA5, hgc1, hgc2, hs5, ?_⟩⟩⟩
              exact PartAt.to _ cf ps.length _ (by simp) (by omega) hP5 (fun i hi => by simp [List.getD_eq_getElem?_getD, hi])
            case measure => simp [intOf]; omega
        · obtain rfl : k = L := by omega
          have dx : decide ((k : Int) < ms.length) = false := by simp; omega
          have e0 : wr.cell? ⟨g5, 0, none⟩ = some (.int .i64 cn) := Blk.cell hG 0
          have e1 : wr.cell? ⟨g5, 1, none⟩ = some (.slice a2 ps.length c2) := Blk.cell hG 1
          go_wp2_with (refine wpList_store_row rfl 39 _ _ rfl (w.heap.size + 1) #[.int .i64 cn, .slice a2 ps.length c2] rfl rfl 39 _ hZ info39 rfl (by simp [Value.oneCell']) ?_)
          have hZr := Blk.setRow (cs' := #[.int .i64 cn, .slice a2 ps.length c2]) hZ
          refine bodyPost_ret (results_cell_row rfl _ _ (w.heap.size + 1) 39 #[.int .i64 cn, .slice a2 ps.length c2] (0, 0) _ rfl hZr Try.underlying39 rfl info39) rfl ?_
          refine ⟨.slice a2 ps.length c2, by rw [← HCN.out, IntWalk.i64_left], ?_, Below.setRow hB (Nat.le_succ _) _⟩
          have hq : (List.range ps.length).map (takeF ps ms k) = takeL ps ms := by unfold takeL; rw [HL.out]
          rw [hq] at hO
          refine ⟨hO.1, ?_⟩
          rcases hO.2 with h | ⟨g, cap, cur, hv2, hgb, hh, r⟩
          · exact .inl h
          · refine .inr ⟨g, cap, cur, hv2, by omega, ?_, r⟩
            exact (setRow_other wr (w.heap.size + 1) g _ (by omega)).trans hh
    · have hI : ¬ ((ms.length : Int) < ps.length) := by omega
      obtain ⟨L, hL⟩ : ∃ L, min ps.length ms.length = L := ⟨_, rfl⟩
      have hLn : L ≤ ps.length := by omega
      have hLm : L ≤ ms.length := by omega
      have hLX : L = ps.length := by omega
      have HL := Lib.hid hL
      clear hL
      go_wp2_with fail
      go_loopw [6, 7, 8, 22] (fun _ _ _ j wr => ∃ k : Nat, k ≤ L ∧ j = .int .i64 k ∧ Blk wr g5 39 #[.int .i64 cn, .slice a2 ps.length c2] ∧ Blk wr (w.heap.size + 1) 39 #[.int .i64 0, .slice none 0 0] ∧ Below w.heap.size w wr ∧
        wr.ownsRow (w.heap.size + 2) 46 5 (.slice a2 ps.length c2) ps.length (partsC ((List.range ps.length).map (takeF ps ms k)))) (fun _ _ _ j _ => L - (intOf j).toNat)
      case atStart => exact ⟨0, by omega, rfl, hg5, hbz, hBz, by rw [takeF_zero, range_getD]; exact hown⟩
      case round =>
        obtain ⟨k, hk, rfl, hG, hZ, hB, hO⟩ := hrel
        by_cases hlt : k < L
        · rcases hO.2 with ⟨h, h2⟩ | ⟨g, cap, cur, hv2, hgb, hgh, hgc1, hgc2, hgs, hgt⟩
          · omega
          injection hv2 with e1 e2 e3
          subst e1 e3
          have hgne : g ≠ g5 := hne g rfl
          have hPA : PartAt cur ps.length (takeF ps ms k) := by
            have h1 := PartAt.of ((List.range ps.length).map (takeF ps ms k)) cur (by simpa using hgt)
            intro i r hi hr
            have := h1 i r (by simpa using hi) hr
            simpa [List.getD_eq_getElem?_getD, hi] using this
          have hkn : k < ps.length := by omega
          have hkm : k < ms.length := by omega
          have hC : Blk wr g 46 cur := hgh
          obtain ⟨p, hp⟩ : ∃ p, ps.getD k zeroP = p := ⟨_, rfl⟩
          obtain ⟨x, hx⟩ : ∃ x, ms.getD k 0 = x := ⟨_, rfl⟩
          have hx64 := HMS.out k hkm
          rw [hx] at hx64
          have hcell : ∀ r, r < 5 → cur[k * 5 + r]? = (partC p)[r]? := by
            intro r hr
            have := hPA k r hkn hr
            rw [takeF_at, hp] at this
            exact this
          have hsz : k * 5 + 5 ≤ cur.size := by rw [hgs]; omega
          obtain ⟨b', off, rfl, hb', hcl⟩ := HC1.out (by omega)
          have cm : wr.cell? ⟨b', off + k, none⟩ = some (.int .i64 x) := by rw [hB.cell (by exact hb'), hcl k hkm, hx]
          have cg1 : wr.cell? ⟨g5, 1, none⟩ = some (.slice (some ⟨g, 0, none⟩) ps.length c2) := Blk.cell hG 1
          have dn : decide ((k : Int) < ps.length) = true := by simp; omega
          have dm : decide ((k : Int) < ms.length) = true := by simp; omega
          have HX := Lib.hid hx
          have HP := Lib.hid hp
          have HCL := Lib.hid hcell
          have HPA := Lib.hid hPA
          clear hcl hx hp hcell hPA hgt hO hgh hLX
          go_wp2_with fail
          go_quiet (fail)
          have hCq : Blk (wr.drewN nq) g 46 cur := hC
          have hGq : Blk (wr.drewN nq) g5 39 #[.int .i64 cn, .slice (some ⟨g, 0, none⟩) ps.length c2] := hG
          have hZq : Blk (wr.drewN nq) (w.heap.size + 1) 39 #[.int .i64 0, .slice none 0 0] := hZ
          have hBq : Below w.heap.size w (wr.drewN nq) := Below.drewN hB nq
          generalize wr.drewN nq = wq at *
          clear hC hG hZ hB cm cg1
          have hlg := Blk.lt hCq
          have hlG := Blk.lt hGq
          have hlZ := Blk.lt hZq
          have y1 : wq.cell? ⟨g, k * 5 + 1, none⟩ = some (.int .i64 (hiW p.sum)) := (Blk.cell hCq _).trans (HCL.out 1 (by omega))
          have y2 : wq.cell? ⟨g, k * 5 + 1 + 1, none⟩ = some (.int .u64 (loW p.sum)) := (Blk.cell hCq _).trans (HCL.out 2 (by omega))
          have y3 : wq.cell? ⟨g, k * 5 + 2, none⟩ = some (.int .u64 (loW p.sum)) := (Blk.cell hCq _).trans (HCL.out 2 (by omega))
          go_wp2_with fail
          refine (add15 p.sum x _ hx64).mono ?_
          rintro e w3 ⟨rfl, hB3⟩
          have hC3 := Blk.below hCq hB3 hlg
          have hG3 := Blk.below hGq hB3 hlG
          have hZ3 := Blk.below hZq hB3 hlZ
          have hBw3 := Below.call hBq hB3
          clear hCq hGq hZq hBq hB3 hlg hlG hlZ y1 y2 y3
          obtain ⟨S, hS⟩ : ∃ S, w128 (p.sum + x) = S := ⟨_, rfl⟩
          rw [hS]
          have HS := Lib.hid hS
          clear hS
          have d1 : w3.cell? ⟨g, k * 5 + 1, none⟩ = some (.int .i64 (hiW p.sum)) := (Blk.cell hC3 _).trans (HCL.out 1 (by omega))
          have d2 : w3.cell? ⟨g, k * 5 + 1 + 1, none⟩ = some (.int .u64 (loW p.sum)) := (Blk.cell hC3 _).trans (HCL.out 2 (by omega))
          have d3 : w3.cell? ⟨g, k * 5 + 2, none⟩ = some (.int .u64 (loW p.sum)) := (Blk.cell hC3 _).trans (HCL.out 2 (by omega))
          have f3 := Blk.free hC3
          unfold sumV
          go_upto_region 7 with (fail)
          have hA1 := Blk.set (Blk.set hC3 (k * 5 + 1) (.int .i64 (hiW S))) (k * 5 + 1 + 1) (.int .u64 (loW S))
          have hG4 := Blk.other (Blk.other hG3 (p := ⟨g, k * 5 + 1, none⟩) hgne (.int .i64 (hiW S))) (p := ⟨g, k * 5 + 1 + 1, none⟩) hgne (.int .u64 (loW S))
          have hZ4 := Blk.other (Blk.other hZ3 (p := ⟨g, k * 5 + 1, none⟩) (by show g ≠ w.heap.size + 1; omega) (.int .i64 (hiW S))) (p := ⟨g, k * 5 + 1 + 1, none⟩) (by show g ≠ w.heap.size + 1; omega) (.int .u64 (loW S))
          have hB4 := (hBw3.setCell (p := ⟨g, k * 5 + 1, none⟩) (by show w.heap.size ≤ g; omega) (.int .i64 (hiW S))).setCell (p := ⟨g, k * 5 + 1 + 1, none⟩) (by show w.heap.size ≤ g; omega) (.int .u64 (loW S))
          generalize (w3.setCell ⟨g, k * 5 + 1, none⟩ (.int .i64 (hiW S))).setCell ⟨g, k * 5 + 1 + 1, none⟩ (.int .u64 (loW S)) = wa at *
          obtain ⟨ca, hca⟩ : ∃ ca, (cur.setIfInBounds (k * 5 + 1) (.int .i64 (hiW S))).setIfInBounds (k * 5 + 1 + 1) (.int .u64 (loW S)) = ca := ⟨_, rfl⟩
          rw [hca] at hA1
          have q0 : ca[k * 5]? = some (.bool p.any) := by rw [← hca, Array.getElem?_setIfInBounds_ne (by omega), Array.getElem?_setIfInBounds_ne (by omega)]; exact HCL.out 0 (by omega)
          have q1 : ca[k * 5 + 1]? = some (.int .i64 (hiW S)) := by rw [← hca, Array.getElem?_setIfInBounds_ne (by omega), Array.getElem?_setIfInBounds_self_of_lt (by omega)]
          have q2 : ca[k * 5 + 2]? = some (.int .u64 (loW S)) := by rw [← hca, Array.getElem?_setIfInBounds_self_of_lt (by simp; omega)]
          have q3 : ca[k * 5 + 3]? = some (.int .i64 p.mn) := by rw [← hca, Array.getElem?_setIfInBounds_ne (by omega), Array.getElem?_setIfInBounds_ne (by omega)]; exact HCL.out 3 (by omega)
          have q4 : ca[k * 5 + 4]? = some (.int .i64 p.mx) := by rw [← hca, Array.getElem?_setIfInBounds_ne (by omega), Array.getElem?_setIfInBounds_ne (by omega)]; exact HCL.out 4 (by omega)
          have qo : ∀ j, (j < k * 5 ∨ k * 5 + 5 ≤ j) → ca[j]? = cur[j]? := fun j hj => by rw [← hca, Array.getElem?_setIfInBounds_ne (by omega), Array.getElem?_setIfInBounds_ne (by omega)]
          have qs : ca.size = cur.size := by rw [← hca]; simp
          have QO := Lib.hid qo
          have s0 : k * 5 < cur.size := by omega
          have s3 : k * 5 + 3 < cur.size := by omega
          have s4 : k * 5 + 4 < cur.size := by omega
          clear hca qo hC3 hG3 hZ3 hBw3 d1 d2 d3 f3
          have z0 : wa.cell? ⟨g, k * 5, none⟩ = some (.bool p.any) := (Blk.cell hA1 _).trans q0
          have z3 : wa.cell? ⟨g, k * 5 + 3, none⟩ = some (.int .i64 p.mn) := (Blk.cell hA1 _).trans q3
          have z4 : wa.cell? ⟨g, k * 5 + 4, none⟩ = some (.int .i64 p.mx) := (Blk.cell hA1 _).trans q4
          have fa := Blk.free hA1
          cases hany : p.any with
          | true =>
            rw [hany] at z0 q0
            go_wp2_with fail
            go_region
            go_wp2_with fail
            have hA5 : Blk (((wa).setCell ⟨g, k * 5 + 3, none⟩ (.int .i64 (if x < p.mn then x else p.mn))).setCell ⟨g, k * 5 + 4, none⟩ (.int .i64 (if p.mx < x then x else p.mx))).drew g 46 (((ca).setIfInBounds (k * 5 + 3) (.int .i64 (if x < p.mn then x else p.mn))).setIfInBounds (k * 5 + 4) (.int .i64 (if p.mx < x then x else p.mx))) := Blk.set (Blk.set (hA1) (k * 5 + 3) (.int .i64 (if x < p.mn then x else p.mn))) (k * 5 + 4) (.int .i64 (if p.mx < x then x else p.mx))
            have hG5 : Blk (((wa).setCell ⟨g, k * 5 + 3, none⟩ (.int .i64 (if x < p.mn then x else p.mn))).setCell ⟨g, k * 5 + 4, none⟩ (.int .i64 (if p.mx < x then x else p.mx))).drew g5 39 #[.int .i64 cn, .slice (some ⟨g, 0, none⟩) ps.length c2] := Blk.other (Blk.other (hG4) (p := ⟨g, k * 5 + 3, none⟩) hgne (.int .i64 (if x < p.mn then x else p.mn))) (p := ⟨g, k * 5 + 4, none⟩) hgne (.int .i64 (if p.mx < x then x else p.mx))
            have hZ5 : Blk (((wa).setCell ⟨g, k * 5 + 3, none⟩ (.int .i64 (if x < p.mn then x else p.mn))).setCell ⟨g, k * 5 + 4, none⟩ (.int .i64 (if p.mx < x then x else p.mx))).drew (w.heap.size + 1) 39 #[.int .i64 0, .slice none 0 0] := Blk.other (Blk.other (hZ4) (p := ⟨g, k * 5 + 3, none⟩) (by show g ≠ w.heap.size + 1; omega) (.int .i64 (if x < p.mn then x else p.mn))) (p := ⟨g, k * 5 + 4, none⟩) (by show g ≠ w.heap.size + 1; omega) (.int .i64 (if p.mx < x then x else p.mx))
            have hB5 : Below w.heap.size w (((wa).setCell ⟨g, k * 5 + 3, none⟩ (.int .i64 (if x < p.mn then x else p.mn))).setCell ⟨g, k * 5 + 4, none⟩ (.int .i64 (if p.mx < x then x else p.mx))).drew := Below.drew (((hB4).setCell (p := ⟨g, k * 5 + 3, none⟩) (by show w.heap.size ≤ g; omega) (.int .i64 (if x < p.mn then x else p.mn))).setCell (p := ⟨g, k * 5 + 4, none⟩) (by show w.heap.size ≤ g; omega) (.int .i64 (if p.mx < x then x else p.mx)))
            have hk5 : ∀ r, r < 5 → (((ca).setIfInBounds (k * 5 + 3) (.int .i64 (if x < p.mn then x else p.mn))).setIfInBounds (k * 5 + 4) (.int .i64 (if p.mx < x then x else p.mx)))[k * 5 + r]? = (partC (takeP p x))[r]? := by
              intro r hr
              have htk : takeP p x = ⟨true, S, if x < p.mn then x else p.mn, if p.mx < x then x else p.mx⟩ := by unfold takeP; rw [hany, HS.out]; simp
              rw [htk]
              rcases (by omega : r = 0 ∨ r = 1 ∨ r = 2 ∨ r = 3 ∨ r = 4) with rfl | rfl | rfl | rfl | rfl 
              · rw [Array.getElem?_setIfInBounds_ne (by omega), Array.getElem?_setIfInBounds_ne (by omega)]; exact q0
              · rw [Array.getElem?_setIfInBounds_ne (by omega), Array.getElem?_setIfInBounds_ne (by omega), q1]; rfl
              · rw [Array.getElem?_setIfInBounds_ne (by omega), Array.getElem?_setIfInBounds_ne (by omega), q2]; rfl
              · rw [Array.getElem?_setIfInBounds_ne (by omega), Array.getElem?_setIfInBounds_self_of_lt (by rw [qs]; exact s3)]; rfl
              · rw [Array.getElem?_setIfInBounds_self_of_lt (by rw [Array.size_setIfInBounds, qs]; exact s4)]; rfl
            have ho5 : ∀ j, (j < k * 5 ∨ k * 5 + 5 ≤ j) → (((ca).setIfInBounds (k * 5 + 3) (.int .i64 (if x < p.mn then x else p.mn))).setIfInBounds (k * 5 + 4) (.int .i64 (if p.mx < x then x else p.mx)))[j]? = cur[j]? := fun j hj => by
              rw [Array.getElem?_setIfInBounds_ne (by omega), Array.getElem?_setIfInBounds_ne (by omega)]; exact QO.out j hj
            have hs5 : (((ca).setIfInBounds (k * 5 + 3) (.int .i64 (if x < p.mn then x else p.mn))).setIfInBounds (k * 5 + 4) (.int .i64 (if p.mx < x then x else p.mx))).size = c2 * 5 := by simp [qs, hgs]
            have hP5 : PartAt (((ca).setIfInBounds (k * 5 + 3) (.int .i64 (if x < p.mn then x else p.mn))).setIfInBounds (k * 5 + 4) (.int .i64 (if p.mx < x then x else p.mx))) ps.length (takeF ps ms (k + 1)) := by
              rw [takeF_step, HP.out, HX.out]
              exact PartAt.set HPA.out k _ ho5 hk5
            generalize (((ca).setIfInBounds (k * 5 + 3) (.int .i64 (if x < p.mn then x else p.mn))).setIfInBounds (k * 5 + 4) (.int .i64 (if p.mx < x then x else p.mx))) = cf at *
            generalize (((wa).setCell ⟨g, k * 5 + 3, none⟩ (.int .i64 (if x < p.mn then x else p.mn))).setCell ⟨g, k * 5 + 4, none⟩ (.int .i64 (if p.mx < x then x else p.mx))).drew = wf at *
            go_roundw
            case rel =>
              refine ⟨k + 1, by omega, by go_num, hG5, hZ5, hB5, ⟨by rw [partsC_len]; simp, .inr ⟨g, c2, cf, rfl, hgb, hA5, hgc1, hgc2, hs5, ?_⟩⟩⟩
              exact PartAt.to _ cf ps.length _ (by simp) (by omega) hP5 (fun i hi => by simp [List.getD_eq_getElem?_getD, hi])
            case measure => simp [intOf]; omega
          | false =>
            rw [hany] at z0 q0
            go_upto_region 9 with (fail)
            have hA6 := Blk.set (Blk.set (Blk.set hA1 (k * 5) (.bool true)) (k * 5 + 3) (.int .i64 x)) (k * 5 + 4) (.int .i64 x)
            have hG6 := Blk.other (Blk.other (Blk.other hG4 (p := ⟨g, k * 5, none⟩) hgne (.bool true)) (p := ⟨g, k * 5 + 3, none⟩) hgne (.int .i64 x)) (p := ⟨g, k * 5 + 4, none⟩) hgne (.int .i64 x)
            have hgz : g ≠ w.heap.size + 1 := by omega
            have hgw : w.heap.size ≤ g := by omega
            have hZ6 := Blk.other (Blk.other (Blk.other hZ4 (p := ⟨g, k * 5, none⟩) hgz (.bool true)) (p := ⟨g, k * 5 + 3, none⟩) hgz (.int .i64 x)) (p := ⟨g, k * 5 + 4, none⟩) hgz (.int .i64 x)
            have hB6 := ((hB4.setCell (p := ⟨g, k * 5, none⟩) hgw (.bool true)).setCell (p := ⟨g, k * 5 + 3, none⟩) hgw (.int .i64 x)).setCell (p := ⟨g, k * 5 + 4, none⟩) hgw (.int .i64 x)
            generalize ((wa.setCell ⟨g, k * 5, none⟩ (.bool true)).setCell ⟨g, k * 5 + 3, none⟩ (.int .i64 x)).setCell ⟨g, k * 5 + 4, none⟩ (.int .i64 x) = wb at *
            obtain ⟨cb, hcb⟩ : ∃ cb, ((ca.setIfInBounds (k * 5) (.bool true)).setIfInBounds (k * 5 + 3) (.int .i64 x)).setIfInBounds (k * 5 + 4) (.int .i64 x) = cb := ⟨_, rfl⟩
            rw [hcb] at hA6
            have u0 : cb[k * 5]? = some (.bool true) := by rw [← hcb, Array.getElem?_setIfInBounds_ne (by omega), Array.getElem?_setIfInBounds_ne (by omega), Array.getElem?_setIfInBounds_self_of_lt (by omega)]
            have u1 : cb[k * 5 + 1]? = some (.int .i64 (hiW S)) := by rw [← hcb, Array.getElem?_setIfInBounds_ne (by omega), Array.getElem?_setIfInBounds_ne (by omega), Array.getElem?_setIfInBounds_ne (by omega), q1]
            have u2 : cb[k * 5 + 2]? = some (.int .u64 (loW S)) := by rw [← hcb, Array.getElem?_setIfInBounds_ne (by omega), Array.getElem?_setIfInBounds_ne (by omega), Array.getElem?_setIfInBounds_ne (by omega), q2]
            have u3 : cb[k * 5 + 3]? = some (.int .i64 x) := by rw [← hcb, Array.getElem?_setIfInBounds_ne (by omega), Array.getElem?_setIfInBounds_self_of_lt (by simp; omega)]
            have u4 : cb[k * 5 + 4]? = some (.int .i64 x) := by rw [← hcb, Array.getElem?_setIfInBounds_self_of_lt (by simp; omega)]
            have us : cb.size = cur.size := by rw [← hcb]; simp [qs]
            have qo2 : ∀ j, (j < k * 5 ∨ k * 5 + 5 ≤ j) → cb[j]? = cur[j]? := fun j hj => by rw [← hcb, Array.getElem?_setIfInBounds_ne (by omega), Array.getElem?_setIfInBounds_ne (by omega), Array.getElem?_setIfInBounds_ne (by omega)]; exact QO.out j hj
            have UO := Lib.hid qo2
            clear hcb qo2 q0 q1 q2 q3 q4 qs QO z0 z3 z4 fa hA1 hG4 hZ4 hB4
            have z3 : wb.cell? ⟨g, k * 5 + 3, none⟩ = some (.int .i64 x) := (Blk.cell hA6 _).trans u3
            have z4 : wb.cell? ⟨g, k * 5 + 4, none⟩ = some (.int .i64 x) := (Blk.cell hA6 _).trans u4
            have fa := Blk.free hA6
            go_wp2_with fail
            go_region
            go_wp2_with fail
            have hA5 : Blk (((wb).setCell ⟨g, k * 5 + 3, none⟩ (.int .i64 (x))).setCell ⟨g, k * 5 + 4, none⟩ (.int .i64 (x))).drew g 46 (((cb).setIfInBounds (k * 5 + 3) (.int .i64 (x))).setIfInBounds (k * 5 + 4) (.int .i64 (x))) := Blk.set (Blk.set (hA6) (k * 5 + 3) (.int .i64 (x))) (k * 5 + 4) (.int .i64 (x))
            have hG5 : Blk (((wb).setCell ⟨g, k * 5 + 3, none⟩ (.int .i64 (x))).setCell ⟨g, k * 5 + 4, none⟩ (.int .i64 (x))).drew g5 39 #[.int .i64 cn, .slice (some ⟨g, 0, none⟩) ps.length c2] := Blk.other (Blk.other (hG6) (p := ⟨g, k * 5 + 3, none⟩) hgne (.int .i64 (x))) (p := ⟨g, k * 5 + 4, none⟩) hgne (.int .i64 (x))
            have hZ5 : Blk (((wb).setCell ⟨g, k * 5 + 3, none⟩ (.int .i64 (x))).setCell ⟨g, k * 5 + 4, none⟩ (.int .i64 (x))).drew (w.heap.size + 1) 39 #[.int .i64 0, .slice none 0 0] := Blk.other (Blk.other (hZ6) (p := ⟨g, k * 5 + 3, none⟩) (by show g ≠ w.heap.size + 1; omega) (.int .i64 (x))) (p := ⟨g, k * 5 + 4, none⟩) (by show g ≠ w.heap.size + 1; omega) (.int .i64 (x))
            have hB5 : Below w.heap.size w (((wb).setCell ⟨g, k * 5 + 3, none⟩ (.int .i64 (x))).setCell ⟨g, k * 5 + 4, none⟩ (.int .i64 (x))).drew := Below.drew (((hB6).setCell (p := ⟨g, k * 5 + 3, none⟩) (by show w.heap.size ≤ g; omega) (.int .i64 (x))).setCell (p := ⟨g, k * 5 + 4, none⟩) (by show w.heap.size ≤ g; omega) (.int .i64 (x)))
            have hk5 : ∀ r, r < 5 → (((cb).setIfInBounds (k * 5 + 3) (.int .i64 (x))).setIfInBounds (k * 5 + 4) (.int .i64 (x)))[k * 5 + r]? = (partC (takeP p x))[r]? := by
              intro r hr
              have htk : takeP p x = ⟨true, S, x, x⟩ := by unfold takeP; rw [hany, HS.out]; simp
              rw [htk]
              rcases (by omega : r = 0 ∨ r = 1 ∨ r = 2 ∨ r = 3 ∨ r = 4) with rfl | rfl | rfl | rfl | rfl 
              · rw [Array.getElem?_setIfInBounds_ne (by omega), Array.getElem?_setIfInBounds_ne (by omega)]; exact u0
              · rw [Array.getElem?_setIfInBounds_ne (by omega), Array.getElem?_setIfInBounds_ne (by omega), u1]; rfl
              · rw [Array.getElem?_setIfInBounds_ne (by omega), Array.getElem?_setIfInBounds_ne (by omega), u2]; rfl
              · rw [Array.getElem?_setIfInBounds_ne (by omega), Array.getElem?_setIfInBounds_self_of_lt (by rw [us]; exact s3)]; rfl
              · rw [Array.getElem?_setIfInBounds_self_of_lt (by rw [Array.size_setIfInBounds, us]; exact s4)]; rfl
            have ho5 : ∀ j, (j < k * 5 ∨ k * 5 + 5 ≤ j) → (((cb).setIfInBounds (k * 5 + 3) (.int .i64 (x))).setIfInBounds (k * 5 + 4) (.int .i64 (x)))[j]? = cur[j]? := fun j hj => by
              rw [Array.getElem?_setIfInBounds_ne (by omega), Array.getElem?_setIfInBounds_ne (by omega)]; exact UO.out j hj
            have hs5 : (((cb).setIfInBounds (k * 5 + 3) (.int .i64 (x))).setIfInBounds (k * 5 + 4) (.int .i64 (x))).size = c2 * 5 := by simp [us, hgs]
            have hP5 : PartAt (((cb).setIfInBounds (k * 5 + 3) (.int .i64 (x))).setIfInBounds (k * 5 + 4) (.int .i64 (x))) ps.length (takeF ps ms (k + 1)) := by
              rw [takeF_step, HP.out, HX.out]
              exact PartAt.set HPA.out k _ ho5 hk5
            generalize (((cb).setIfInBounds (k * 5 + 3) (.int .i64 (x))).setIfInBounds (k * 5 + 4) (.int .i64 (x))) = cf at *
            generalize (((wb).setCell ⟨g, k * 5 + 3, none⟩ (.int .i64 (x))).setCell ⟨g, k * 5 + 4, none⟩ (.int .i64 (x))).drew = wf at *
            go_roundw
            case rel =>
              refine ⟨k + 1, by omega, by go_num, hG5, hZ5, hB5, ⟨by rw [partsC_len]; simp, .inr ⟨g, c2, cf, rfl, hgb, hA5, hgc1, hgc2, hs5, ?_⟩⟩⟩
              exact PartAt.to _ cf ps.length _ (by simp) (by omega) hP5 (fun i hi => by simp [List.getD_eq_getElem?_getD, hi])
            case measure => simp [intOf]; omega
        · obtain rfl : k = L := by omega
          have dx : decide ((k : Int) < ps.length) = false := by simp; omega
          have e0 : wr.cell? ⟨g5, 0, none⟩ = some (.int .i64 cn) := Blk.cell hG 0
          have e1 : wr.cell? ⟨g5, 1, none⟩ = some (.slice a2 ps.length c2) := Blk.cell hG 1
          go_wp2_with (refine wpList_store_row rfl 39 _ _ rfl (w.heap.size + 1) #[.int .i64 cn, .slice a2 ps.length c2] rfl rfl 39 _ hZ info39 rfl (by simp [Value.oneCell']) ?_)
          have hZr := Blk.setRow (cs' := #[.int .i64 cn, .slice a2 ps.length c2]) hZ
          refine bodyPost_ret (results_cell_row rfl _ _ (w.heap.size + 1) 39 #[.int .i64 cn, .slice a2 ps.length c2] (0, 0) _ rfl hZr Try.underlying39 rfl info39) rfl ?_
          refine ⟨.slice a2 ps.length c2, by rw [← HCN.out, IntWalk.i64_left], ?_, Below.setRow hB (Nat.le_succ _) _⟩
          have hq : (List.range ps.length).map (takeF ps ms k) = takeL ps ms := by unfold takeL; rw [HL.out]
          rw [hq] at hO
          refine ⟨hO.1, ?_⟩
          rcases hO.2 with h | ⟨g, cap, cur, hv2, hgb, hh, r⟩
          · exact .inl h
          · refine .inr ⟨g, cap, cur, hv2, by omega, ?_, r⟩
            exact (setRow_other wr (w.heap.size + 1) g _ (by omega)).trans hh
  · have HS1 : Below (w.heap.size + 1) w1 (w1.drew.alloc (Obj.cells #[.int .i64 0, .slice none 0 0] 39)) := HS0.alloc (by exact Nat.le_of_lt hs1) _
    refine wpOp_val 7 (some 5) rfl rfl rfl (.pointer (some ⟨w1.heap.size, 0, none⟩)) (w1.drew.alloc (Obj.cells #[.int .i64 0, .slice none 0 0] 39)) (by go_simp) ⟨HS1, ?_⟩
    simp only [Act.put, List.setIfInBounds_toArray, List.set_cons_zero, List.set_cons_succ]
    refine hp_call 5 (some 14) rfl rfl (by kernel_rfl) rfl 42 #[v] (by go_simp) ((clone42 v ps.length (partsC ps) _ (Row.mono hrow1 (Below.al (Below.refl _ _) _) (by simp)) hv (partsC_one ps) hb).mono ?_)
    rintro e w2 ⟨v2, rfl, hown2, hB2⟩
    have HS2 : Below (w.heap.size + 1) w1 w2 := HS1.trans (hB2.mono (by simp; have e : w1.drew.heap.size = w1.heap.size := rfl; omega))
    refine ⟨_, rfl, HS2, ?_⟩
    simp only [Act.put, List.setIfInBounds_toArray, List.set_cons_zero, List.set_cons_succ]
    obtain ⟨a2, c2, rfl⟩ := owns_form hown2
    refine hp_take hP 6 (some 15) _ rfl rfl (by kernel_rfl) rfl (fun w' hS' => by go_simp; rfl) HS2 ?_
    simp only [Act.put, List.setIfInBounds_toArray, List.set_cons_zero, List.set_cons_succ]
    have hg : Blk w2 w1.heap.size 39 #[.int .i64 0, .slice none 0 0] := Blk.below (Blk.newAt w1.drew 39 _ rfl) hB2 (by simp)
    have hs2 : w1.heap.size + 1 ≤ w2.heap.size := by have := hB2.size; simpa using this
    refine hp_store_row 8 rfl rfl (by kernel_rfl) rfl 39 _ _ rfl w1.heap.size #[.int .i64 cn, .slice a2 ps.length c2] rfl rfl 39 _ hg info39 rfl (by simp [Value.oneCell']) (Below.setRow HS2 (by omega) _) ?_
    simp only [List.setIfInBounds_toArray, List.set_cons_zero, List.set_cons_succ]
    refine hk_done (by kernel_rfl) ?_
    have hne : ∀ g, (Value.slice a2 ps.length c2).ownBlock = some g → g ≠ w1.heap.size := fun g hg => by have := (hown2.lt g hg).1; simp at this; have e : w1.drew.heap.size = w1.heap.size := rfl; omega
    have hown : (w2.setRow w1.heap.size #[.int .i64 cn, .slice a2 ps.length c2]).ownsRow w1.heap.size 46 5 (.slice a2 ps.length c2) ps.length (partsC ps) := by
      refine ⟨hown2.1, ?_⟩
      rcases hown2.2 with h | ⟨g, cap, cur, hv, hg, hh, r⟩
      · exact .inl h
      · refine .inr ⟨g, cap, cur, hv, by simp at hg; have e : w1.drew.heap.size = w1.heap.size := rfl; omega, ?_, r⟩
        exact (setRow_other w2 w1.heap.size g _ (hne g (by rw [hv]; rfl))).trans hh
    have hg5 := Blk.setRow (cs' := #[.int .i64 cn, .slice a2 ps.length c2]) hg
    have hBz := hB.trans ((Below.setRow HS2 (show w.heap.size + 1 ≤ w1.heap.size by omega) #[.int .i64 cn, .slice a2 ps.length c2]).mono (Nat.le_succ _))
    have hbz : Blk (w2.setRow w1.heap.size #[.int .i64 cn, .slice a2 ps.length c2]) (w.heap.size + 1) 39 #[.int .i64 0, .slice none 0 0] :=
      Blk.otherRow (Blk.below ((Blk.drew hb2).alloc _) hB2 (by simp; have e : w1.drew.heap.size = w1.heap.size := rfl; omega)) (by omega)
    have hown := owns_base hown (show w.heap.size + 2 ≤ w1.heap.size by omega)
    obtain ⟨g5, hg5e⟩ : ∃ g, g = w1.heap.size := ⟨_, rfl⟩
    have hg5l : w.heap.size + 1 < g5 := by omega
    rw [← hg5e] at hown hne hg5 hBz hbz ⊢
    generalize w2.setRow g5 #[.int .i64 cn, .slice a2 ps.length c2] = wz at *
    clear hg HS2 HS1 hg5e hown2 hB2 hs2 hrow1 HS0 hB hb1 hb2 k0 k1 hP
    have c1g : wz.cell? ⟨g5, 1, none⟩ = some (.slice a2 ps.length c2) := Blk.cell hg5 1
    have hlen0 : (Value.slice a2 ps.length c2) = .slice a2 ps.length c2 := rfl
    have hcapn : ps.length ≤ c2 ∧ c2 ≤ maxLen := by
      rcases hown.2 with ⟨h, h2⟩ | ⟨g, cap, cur, hv, _, _, hc1, hc2, _⟩
      · injection h with _ h3 h4; rw [h3, h4]; exact ⟨Nat.le_refl _, by unfold maxLen; omega⟩
      · injection hv with _ _ h4; rw [h4]; exact ⟨hc1, hc2⟩
    rcases Nat.lt_or_ge ms.length ps.length with hmin | hmin
    · have hI : (ms.length : Int) < ps.length := by omega
      obtain ⟨L, hL⟩ : ∃ L, min ps.length ms.length = L := ⟨_, rfl⟩
      have hLn : L ≤ ps.length := by omega
      have hLm : L ≤ ms.length := by omega
      have hLX : L = ms.length := by omega
      have HL := Lib.hid hL
      clear hL
      go_wp2_with fail
      go_loopw [6, 7, 8, 22] (fun _ _ _ j wr => ∃ k : Nat, k ≤ L ∧ j = .int .i64 k ∧ Blk wr g5 39 #[.int .i64 cn, .slice a2 ps.length c2] ∧ Blk wr (w.heap.size + 1) 39 #[.int .i64 0, .slice none 0 0] ∧ Below w.heap.size w wr ∧
        wr.ownsRow (w.heap.size + 2) 46 5 (.slice a2 ps.length c2) ps.length (partsC ((List.range ps.length).map (takeF ps ms k)))) (fun _ _ _ j _ => L - (intOf j).toNat)
      case atStart => exact ⟨0, by omega, rfl, hg5, hbz, hBz, by rw [takeF_zero, range_getD]; exact hown⟩
      case round =>
        obtain ⟨k, hk, rfl, hG, hZ, hB, hO⟩ := hrel
        by_cases hlt : k < L
        · rcases hO.2 with ⟨h, h2⟩ | ⟨g, cap, cur, hv2, hgb, hgh, hgc1, hgc2, hgs, hgt⟩
          · omega
          injection hv2 with e1 e2 e3
          subst e1 e3
          have hgne : g ≠ g5 := hne g rfl
          have hPA : PartAt cur ps.length (takeF ps ms k) := by
            have h1 := PartAt.of ((List.range ps.length).map (takeF ps ms k)) cur (by simpa using hgt)
            intro i r hi hr
            have := h1 i r (by simpa using hi) hr
            simpa [List.getD_eq_getElem?_getD, hi] using this
          have hkn : k < ps.length := by omega
          have hkm : k < ms.length := by omega
          have hC : Blk wr g 46 cur := hgh
          obtain ⟨p, hp⟩ : ∃ p, ps.getD k zeroP = p := ⟨_, rfl⟩
          obtain ⟨x, hx⟩ : ∃ x, ms.getD k 0 = x := ⟨_, rfl⟩
          have hx64 := HMS.out k hkm
          rw [hx] at hx64
          have hcell : ∀ r, r < 5 → cur[k * 5 + r]? = (partC p)[r]? := by
            intro r hr
            have := hPA k r hkn hr
            rw [takeF_at, hp] at this
            exact this
          have hsz : k * 5 + 5 ≤ cur.size := by rw [hgs]; omega
          obtain ⟨b', off, rfl, hb', hcl⟩ := HC1.out (by omega)
          have cm : wr.cell? ⟨b', off + k, none⟩ = some (.int .i64 x) := by rw [hB.cell (by exact hb'), hcl k hkm, hx]
          have cg1 : wr.cell? ⟨g5, 1, none⟩ = some (.slice (some ⟨g, 0, none⟩) ps.length c2) := Blk.cell hG 1
          have dn : decide ((k : Int) < ps.length) = true := by simp; omega
          have dm : decide ((k : Int) < ms.length) = true := by simp; omega
          have HX := Lib.hid hx
          have HP := Lib.hid hp
          have HCL := Lib.hid hcell
          have HPA := Lib.hid hPA
          clear hcl hx hp hcell hPA hgt hO hgh hLX
          go_wp2_with fail
          go_quiet (fail)
          have hCq : Blk (wr.drewN nq) g 46 cur := hC
          have hGq : Blk (wr.drewN nq) g5 39 #[.int .i64 cn, .slice (some ⟨g, 0, none⟩) ps.length c2] := hG
          have hZq : Blk (wr.drewN nq) (w.heap.size + 1) 39 #[.int .i64 0, .slice none 0 0] := hZ
          have hBq : Below w.heap.size w (wr.drewN nq) := Below.drewN hB nq
          generalize wr.drewN nq = wq at *
          clear hC hG hZ hB cm cg1
          have hlg := Blk.lt hCq
          have hlG := Blk.lt hGq
          have hlZ := Blk.lt hZq
          have y1 : wq.cell? ⟨g, k * 5 + 1, none⟩ = some (.int .i64 (hiW p.sum)) := (Blk.cell hCq _).trans (HCL.out 1 (by omega))
          have y2 : wq.cell? ⟨g, k * 5 + 1 + 1, none⟩ = some (.int .u64 (loW p.sum)) := (Blk.cell hCq _).trans (HCL.out 2 (by omega))
          have y3 : wq.cell? ⟨g, k * 5 + 2, none⟩ = some (.int .u64 (loW p.sum)) := (Blk.cell hCq _).trans (HCL.out 2 (by omega))
          go_wp2_with fail
          refine (add15 p.sum x _ hx64).mono ?_
          rintro e w3 ⟨rfl, hB3⟩
          have hC3 := Blk.below hCq hB3 hlg
          have hG3 := Blk.below hGq hB3 hlG
          have hZ3 := Blk.below hZq hB3 hlZ
          have hBw3 := Below.call hBq hB3
          clear hCq hGq hZq hBq hB3 hlg hlG hlZ y1 y2 y3
          obtain ⟨S, hS⟩ : ∃ S, w128 (p.sum + x) = S := ⟨_, rfl⟩
          rw [hS]
          have HS := Lib.hid hS
          clear hS
          have d1 : w3.cell? ⟨g, k * 5 + 1, none⟩ = some (.int .i64 (hiW p.sum)) := (Blk.cell hC3 _).trans (HCL.out 1 (by omega))
          have d2 : w3.cell? ⟨g, k * 5 + 1 + 1, none⟩ = some (.int .u64 (loW p.sum)) := (Blk.cell hC3 _).trans (HCL.out 2 (by omega))
          have d3 : w3.cell? ⟨g, k * 5 + 2, none⟩ = some (.int .u64 (loW p.sum)) := (Blk.cell hC3 _).trans (HCL.out 2 (by omega))
          have f3 := Blk.free hC3
          unfold sumV
          go_upto_region 7 with (fail)
          have hA1 := Blk.set (Blk.set hC3 (k * 5 + 1) (.int .i64 (hiW S))) (k * 5 + 1 + 1) (.int .u64 (loW S))
          have hG4 := Blk.other (Blk.other hG3 (p := ⟨g, k * 5 + 1, none⟩) hgne (.int .i64 (hiW S))) (p := ⟨g, k * 5 + 1 + 1, none⟩) hgne (.int .u64 (loW S))
          have hZ4 := Blk.other (Blk.other hZ3 (p := ⟨g, k * 5 + 1, none⟩) (by show g ≠ w.heap.size + 1; omega) (.int .i64 (hiW S))) (p := ⟨g, k * 5 + 1 + 1, none⟩) (by show g ≠ w.heap.size + 1; omega) (.int .u64 (loW S))
          have hB4 := (hBw3.setCell (p := ⟨g, k * 5 + 1, none⟩) (by show w.heap.size ≤ g; omega) (.int .i64 (hiW S))).setCell (p := ⟨g, k * 5 + 1 + 1, none⟩) (by show w.heap.size ≤ g; omega) (.int .u64 (loW S))
          generalize (w3.setCell ⟨g, k * 5 + 1, none⟩ (.int .i64 (hiW S))).setCell ⟨g, k * 5 + 1 + 1, none⟩ (.int .u64 (loW S)) = wa at *
          obtain ⟨ca, hca⟩ : ∃ ca, (cur.setIfInBounds (k * 5 + 1) (.int .i64 (hiW S))).setIfInBounds (k * 5 + 1 + 1) (.int .u64 (loW S)) = ca := ⟨_, rfl⟩
          rw [hca] at hA1
          have q0 : ca[k * 5]? = some (.bool p.any) := by rw [← hca, Array.getElem?_setIfInBounds_ne (by omega), Array.getElem?_setIfInBounds_ne (by omega)]; exact HCL.out 0 (by omega)
          have q1 : ca[k * 5 + 1]? = some (.int .i64 (hiW S)) := by rw [← hca, Array.getElem?_setIfInBounds_ne (by omega), Array.getElem?_setIfInBounds_self_of_lt (by omega)]
          have q2 : ca[k * 5 + 2]? = some (.int .u64 (loW S)) := by rw [← hca, Array.getElem?_setIfInBounds_self_of_lt (by simp; omega)]
          have q3 : ca[k * 5 + 3]? = some (.int .i64 p.mn) := by rw [← hca, Array.getElem?_setIfInBounds_ne (by omega), Array.getElem?_setIfInBounds_ne (by omega)]; exact HCL.out 3 (by omega)
          have q4 : ca[k * 5 + 4]? = some (.int .i64 p.mx) := by rw [← hca, Array.getElem?_setIfInBounds_ne (by omega), Array.getElem?_setIfInBounds_ne (by omega)]; exact HCL.out 4 (by omega)
          have qo : ∀ j, (j < k * 5 ∨ k * 5 + 5 ≤ j) → ca[j]? = cur[j]? := fun j hj => by rw [← hca, Array.getElem?_setIfInBounds_ne (by omega), Array.getElem?_setIfInBounds_ne (by omega)]
          have qs : ca.size = cur.size := by rw [← hca]; simp
          have QO := Lib.hid qo
          have s0 : k * 5 < cur.size := by omega
          have s3 : k * 5 + 3 < cur.size := by omega
          have s4 : k * 5 + 4 < cur.size := by omega
          clear hca qo hC3 hG3 hZ3 hBw3 d1 d2 d3 f3
          have z0 : wa.cell? ⟨g, k * 5, none⟩ = some (.bool p.any) := (Blk.cell hA1 _).trans q0
          have z3 : wa.cell? ⟨g, k * 5 + 3, none⟩ = some (.int .i64 p.mn) := (Blk.cell hA1 _).trans q3
          have z4 : wa.cell? ⟨g, k * 5 + 4, none⟩ = some (.int .i64 p.mx) := (Blk.cell hA1 _).trans q4
          have fa := Blk.free hA1
          cases hany : p.any with
          | true =>
            rw [hany] at z0 q0
            go_wp2_with fail
            go_region
            go_wp2_with fail
            have hA5 : Blk (((wa).setCell ⟨g, k * 5 + 3, none⟩ (.int .i64 (if x < p.mn then x else p.mn))).setCell ⟨g, k * 5 + 4, none⟩ (.int .i64 (if p.mx < x then x else p.mx))).drew g 46 (((ca).setIfInBounds (k * 5 + 3) (.int .i64 (if x < p.mn then x else p.mn))).setIfInBounds (k * 5 + 4) (.int .i64 (if p.mx < x then x else p.mx))) := Blk.set (Blk.set (hA1) (k * 5 + 3) (.int .i64 (if x < p.mn then x else p.mn))) (k * 5 + 4) (.int .i64 (if p.mx < x then x else p.mx))
            have hG5 : Blk (((wa).setCell ⟨g, k * 5 + 3, none⟩ (.int .i64 (if x < p.mn then x else p.mn))).setCell ⟨g, k * 5 + 4, none⟩ (.int .i64 (if p.mx < x then x else p.mx))).drew g5 39 #[.int .i64 cn, .slice (some ⟨g, 0, none⟩) ps.length c2] := Blk.other (Blk.other (hG4) (p := ⟨g, k * 5 + 3, none⟩) hgne (.int .i64 (if x < p.mn then x else p.mn))) (p := ⟨g, k * 5 + 4, none⟩) hgne (.int .i64 (if p.mx < x then x else p.mx))
            have hZ5 : Blk (((wa).setCell ⟨g, k * 5 + 3, none⟩ (.int .i64 (if x < p.mn then x else p.mn))).setCell ⟨g, k * 5 + 4, none⟩ (.int .i64 (if p.mx < x then x else p.mx))).drew (w.heap.size + 1) 39 #[.int .i64 0, .slice none 0 0] := Blk.other (Blk.other (hZ4) (p := ⟨g, k * 5 + 3, none⟩) (by show g ≠ w.heap.size + 1; omega) (.int .i64 (if x < p.mn then x else p.mn))) (p := ⟨g, k * 5 + 4, none⟩) (by show g ≠ w.heap.size + 1; omega) (.int .i64 (if p.mx < x then x else p.mx))
            have hB5 : Below w.heap.size w (((wa).setCell ⟨g, k * 5 + 3, none⟩ (.int .i64 (if x < p.mn then x else p.mn))).setCell ⟨g, k * 5 + 4, none⟩ (.int .i64 (if p.mx < x then x else p.mx))).drew := Below.drew (((hB4).setCell (p := ⟨g, k * 5 + 3, none⟩) (by show w.heap.size ≤ g; omega) (.int .i64 (if x < p.mn then x else p.mn))).setCell (p := ⟨g, k * 5 + 4, none⟩) (by show w.heap.size ≤ g; omega) (.int .i64 (if p.mx < x then x else p.mx)))
            have hk5 : ∀ r, r < 5 → (((ca).setIfInBounds (k * 5 + 3) (.int .i64 (if x < p.mn then x else p.mn))).setIfInBounds (k * 5 + 4) (.int .i64 (if p.mx < x then x else p.mx)))[k * 5 + r]? = (partC (takeP p x))[r]? := by
              intro r hr
              have htk : takeP p x = ⟨true, S, if x < p.mn then x else p.mn, if p.mx < x then x else p.mx⟩ := by unfold takeP; rw [hany, HS.out]; simp
              rw [htk]
              rcases (by omega : r = 0 ∨ r = 1 ∨ r = 2 ∨ r = 3 ∨ r = 4) with rfl | rfl | rfl | rfl | rfl 
              · rw [Array.getElem?_setIfInBounds_ne (by omega), Array.getElem?_setIfInBounds_ne (by omega)]; exact q0
              · rw [Array.getElem?_setIfInBounds_ne (by omega), Array.getElem?_setIfInBounds_ne (by omega), q1]; rfl
              · rw [Array.getElem?_setIfInBounds_ne (by omega), Array.getElem?_setIfInBounds_ne (by omega), q2]; rfl
              · rw [Array.getElem?_setIfInBounds_ne (by omega), Array.getElem?_setIfInBounds_self_of_lt (by rw [qs]; exact s3)]; rfl
              · rw [Array.getElem?_setIfInBounds_self_of_lt (by rw [Array.size_setIfInBounds, qs]; exact s4)]; rfl
            have ho5 : ∀ j, (j < k * 5 ∨ k * 5 + 5 ≤ j) → (((ca).setIfInBounds (k * 5 + 3) (.int .i64 (if x < p.mn then x else p.mn))).setIfInBounds (k * 5 + 4) (.int .i64 (if p.mx < x then x else p.mx)))[j]? = cur[j]? := fun j hj => by
              rw [Array.getElem?_setIfInBounds_ne (by omega), Array.getElem?_setIfInBounds_ne (by omega)]; exact QO.out j hj
            have hs5 : (((ca).setIfInBounds (k * 5 + 3) (.int .i64 (if x < p.mn then x else p.mn))).setIfInBounds (k * 5 + 4) (.int .i64 (if p.mx < x then x else p.mx))).size = c2 * 5 := by simp [qs, hgs]
            have hP5 : PartAt (((ca).setIfInBounds (k * 5 + 3) (.int .i64 (if x < p.mn then x else p.mn))).setIfInBounds (k * 5 + 4) (.int .i64 (if p.mx < x then x else p.mx))) ps.length (takeF ps ms (k + 1)) := by
              rw [takeF_step, HP.out, HX.out]
              exact PartAt.set HPA.out k _ ho5 hk5
            generalize (((ca).setIfInBounds (k * 5 + 3) (.int .i64 (if x < p.mn then x else p.mn))).setIfInBounds (k * 5 + 4) (.int .i64 (if p.mx < x then x else p.mx))) = cf at *
            generalize (((wa).setCell ⟨g, k * 5 + 3, none⟩ (.int .i64 (if x < p.mn then x else p.mn))).setCell ⟨g, k * 5 + 4, none⟩ (.int .i64 (if p.mx < x then x else p.mx))).drew = wf at *
            go_roundw
            case rel =>
              refine ⟨k + 1, by omega, by go_num, hG5, hZ5, hB5, ⟨by rw [partsC_len]; simp, .inr ⟨g, c2, cf, rfl, hgb, hA5, hgc1, hgc2, hs5, ?_⟩⟩⟩
              exact PartAt.to _ cf ps.length _ (by simp) (by omega) hP5 (fun i hi => by simp [List.getD_eq_getElem?_getD, hi])
            case measure => simp [intOf]; omega
          | false =>
            rw [hany] at z0 q0
            go_upto_region 9 with (fail)
            have hA6 := Blk.set (Blk.set (Blk.set hA1 (k * 5) (.bool true)) (k * 5 + 3) (.int .i64 x)) (k * 5 + 4) (.int .i64 x)
            have hG6 := Blk.other (Blk.other (Blk.other hG4 (p := ⟨g, k * 5, none⟩) hgne (.bool true)) (p := ⟨g, k * 5 + 3, none⟩) hgne (.int .i64 x)) (p := ⟨g, k * 5 + 4, none⟩) hgne (.int .i64 x)
            have hgz : g ≠ w.heap.size + 1 := by omega
            have hgw : w.heap.size ≤ g := by omega
            have hZ6 := Blk.other (Blk.other (Blk.other hZ4 (p := ⟨g, k * 5, none⟩) hgz (.bool true)) (p := ⟨g, k * 5 + 3, none⟩) hgz (.int .i64 x)) (p := ⟨g, k * 5 + 4, none⟩) hgz (.int .i64 x)
            have hB6 := ((hB4.setCell (p := ⟨g, k * 5, none⟩) hgw (.bool true)).setCell (p := ⟨g, k * 5 + 3, none⟩) hgw (.int .i64 x)).setCell (p := ⟨g, k * 5 + 4, none⟩) hgw (.int .i64 x)
            generalize ((wa.setCell ⟨g, k * 5, none⟩ (.bool true)).setCell ⟨g, k * 5 + 3, none⟩ (.int .i64 x)).setCell ⟨g, k * 5 + 4, none⟩ (.int .i64 x) = wb at *
            obtain ⟨cb, hcb⟩ : ∃ cb, ((ca.setIfInBounds (k * 5) (.bool true)).setIfInBounds (k * 5 + 3) (.int .i64 x)).setIfInBounds (k * 5 + 4) (.int .i64 x) = cb := ⟨_, rfl⟩
            rw [hcb] at hA6
            have u0 : cb[k * 5]? = some (.bool true) := by rw [← hcb, Array.getElem?_setIfInBounds_ne (by omega), Array.getElem?_setIfInBounds_ne (by omega), Array.getElem?_setIfInBounds_self_of_lt (by omega)]
            have u1 : cb[k * 5 + 1]? = some (.int .i64 (hiW S)) := by rw [← hcb, Array.getElem?_setIfInBounds_ne (by omega), Array.getElem?_setIfInBounds_ne (by omega), Array.getElem?_setIfInBounds_ne (by omega), q1]
            have u2 : cb[k * 5 + 2]? = some (.int .u64 (loW S)) := by rw [← hcb, Array.getElem?_setIfInBounds_ne (by omega), Array.getElem?_setIfInBounds_ne (by omega), Array.getElem?_setIfInBounds_ne (by omega), q2]
            have u3 : cb[k * 5 + 3]? = some (.int .i64 x) := by rw [← hcb, Array.getElem?_setIfInBounds_ne (by omega), Array.getElem?_setIfInBounds_self_of_lt (by simp; omega)]
            have u4 : cb[k * 5 + 4]? = some (.int .i64 x) := by rw [← hcb, Array.getElem?_setIfInBounds_self_of_lt (by simp; omega)]
            have us : cb.size = cur.size := by rw [← hcb]; simp [qs]
            have qo2 : ∀ j, (j < k * 5 ∨ k * 5 + 5 ≤ j) → cb[j]? = cur[j]? := fun j hj => by rw [← hcb, Array.getElem?_setIfInBounds_ne (by omega), Array.getElem?_setIfInBounds_ne (by omega), Array.getElem?_setIfInBounds_ne (by omega)]; exact QO.out j hj
            have UO := Lib.hid qo2
            clear hcb qo2 q0 q1 q2 q3 q4 qs QO z0 z3 z4 fa hA1 hG4 hZ4 hB4
            have z3 : wb.cell? ⟨g, k * 5 + 3, none⟩ = some (.int .i64 x) := (Blk.cell hA6 _).trans u3
            have z4 : wb.cell? ⟨g, k * 5 + 4, none⟩ = some (.int .i64 x) := (Blk.cell hA6 _).trans u4
            have fa := Blk.free hA6
            go_wp2_with fail
            go_region
            go_wp2_with fail
            have hA5 : Blk (((wb).setCell ⟨g, k * 5 + 3, none⟩ (.int .i64 (x))).setCell ⟨g, k * 5 + 4, none⟩ (.int .i64 (x))).drew g 46 (((cb).setIfInBounds (k * 5 + 3) (.int .i64 (x))).setIfInBounds (k * 5 + 4) (.int .i64 (x))) := Blk.set (Blk.set (hA6) (k * 5 + 3) (.int .i64 (x))) (k * 5 + 4) (.int .i64 (x))
            have hG5 : Blk (((wb).setCell ⟨g, k * 5 + 3, none⟩ (.int .i64 (x))).setCell ⟨g, k * 5 + 4, none⟩ (.int .i64 (x))).drew g5 39 #[.int .i64 cn, .slice (some ⟨g, 0, none⟩) ps.length c2] := Blk.other (Blk.other (hG6) (p := ⟨g, k * 5 + 3, none⟩) hgne (.int .i64 (x))) (p := ⟨g, k * 5 + 4, none⟩) hgne (.int .i64 (x))
            have hZ5 : Blk (((wb).setCell ⟨g, k * 5 + 3, none⟩ (.int .i64 (x))).setCell ⟨g, k * 5 + 4, none⟩ (.int .i64 (x))).drew (w.heap.size + 1) 39 #[.int .i64 0, .slice none 0 0] := Blk.other (Blk.other (hZ6) (p := ⟨g, k * 5 + 3, none⟩) (by show g ≠ w.heap.size + 1; omega) (.int .i64 (x))) (p := ⟨g, k * 5 + 4, none⟩) (by show g ≠ w.heap.size + 1; omega) (.int .i64 (x))
            have hB5 : Below w.heap.size w (((wb).setCell ⟨g, k * 5 + 3, none⟩ (.int .i64 (x))).setCell ⟨g, k * 5 + 4, none⟩ (.int .i64 (x))).drew := Below.drew (((hB6).setCell (p := ⟨g, k * 5 + 3, none⟩) (by show w.heap.size ≤ g; omega) (.int .i64 (x))).setCell (p := ⟨g, k * 5 + 4, none⟩) (by show w.heap.size ≤ g; omega) (.int .i64 (x)))
            have hk5 : ∀ r, r < 5 → (((cb).setIfInBounds (k * 5 + 3) (.int .i64 (x))).setIfInBounds (k * 5 + 4) (.int .i64 (x)))[k * 5 + r]? = (partC (takeP p x))[r]? := by
              intro r hr
              have htk : takeP p x = ⟨true, S, x, x⟩ := by unfold takeP; rw [hany, HS.out]; simp
              rw [htk]
              rcases (by omega : r = 0 ∨ r = 1 ∨ r = 2 ∨ r = 3 ∨ r = 4) with rfl | rfl | rfl | rfl | rfl 
              · rw [Array.getElem?_setIfInBounds_ne (by omega), Array.getElem?_setIfInBounds_ne (by omega)]; exact u0
              · rw [Array.getElem?_setIfInBounds_ne (by omega), Array.getElem?_setIfInBounds_ne (by omega), u1]; rfl
              · rw [Array.getElem?_setIfInBounds_ne (by omega), Array.getElem?_setIfInBounds_ne (by omega), u2]; rfl
              · rw [Array.getElem?_setIfInBounds_ne (by omega), Array.getElem?_setIfInBounds_self_of_lt (by rw [us]; exact s3)]; rfl
              · rw [Array.getElem?_setIfInBounds_self_of_lt (by rw [Array.size_setIfInBounds, us]; exact s4)]; rfl
            have ho5 : ∀ j, (j < k * 5 ∨ k * 5 + 5 ≤ j) → (((cb).setIfInBounds (k * 5 + 3) (.int .i64 (x))).setIfInBounds (k * 5 + 4) (.int .i64 (x)))[j]? = cur[j]? := fun j hj => by
              rw [Array.getElem?_setIfInBounds_ne (by omega), Array.getElem?_setIfInBounds_ne (by omega)]; exact UO.out j hj
            have hs5 : (((cb).setIfInBounds (k * 5 + 3) (.int .i64 (x))).setIfInBounds (k * 5 + 4) (.int .i64 (x))).size = c2 * 5 := by simp [us, hgs]
            have hP5 : PartAt (((cb).setIfInBounds (k * 5 + 3) (.int .i64 (x))).setIfInBounds (k * 5 + 4) (.int .i64 (x))) ps.length (takeF ps ms (k + 1)) := by
              rw [takeF_step, HP.out, HX.out]
              exact PartAt.set HPA.out k _ ho5 hk5
            generalize (((cb).setIfInBounds (k * 5 + 3) (.int .i64 (x))).setIfInBounds (k * 5 + 4) (.int .i64 (x))) = cf at *
            generalize (((wb).setCell ⟨g, k * 5 + 3, none⟩ (.int .i64 (x))).setCell ⟨g, k * 5 + 4, none⟩ (.int .i64 (x))).drew = wf at *
            go_roundw
            case rel =>
              refine ⟨k + 1, by omega, by go_num, hG5, hZ5, hB5, ⟨by rw [partsC_len]; simp, .inr ⟨g, c2, cf, rfl, hgb, hA5, hgc1, hgc2, hs5, ?_⟩⟩⟩
              exact PartAt.to _ cf ps.length _ (by simp) (by omega) hP5 (fun i hi => by simp [List.getD_eq_getElem?_getD, hi])
            case measure => simp [intOf]; omega
        · obtain rfl : k = L := by omega
          have dx : decide ((k : Int) < ms.length) = false := by simp; omega
          have e0 : wr.cell? ⟨g5, 0, none⟩ = some (.int .i64 cn) := Blk.cell hG 0
          have e1 : wr.cell? ⟨g5, 1, none⟩ = some (.slice a2 ps.length c2) := Blk.cell hG 1
          go_wp2_with (refine wpList_store_row rfl 39 _ _ rfl (w.heap.size + 1) #[.int .i64 cn, .slice a2 ps.length c2] rfl rfl 39 _ hZ info39 rfl (by simp [Value.oneCell']) ?_)
          have hZr := Blk.setRow (cs' := #[.int .i64 cn, .slice a2 ps.length c2]) hZ
          refine bodyPost_ret (results_cell_row rfl _ _ (w.heap.size + 1) 39 #[.int .i64 cn, .slice a2 ps.length c2] (0, 0) _ rfl hZr Try.underlying39 rfl info39) rfl ?_
          refine ⟨.slice a2 ps.length c2, by rw [← HCN.out, IntWalk.i64_left], ?_, Below.setRow hB (Nat.le_succ _) _⟩
          have hq : (List.range ps.length).map (takeF ps ms k) = takeL ps ms := by unfold takeL; rw [HL.out]
          rw [hq] at hO
          refine ⟨hO.1, ?_⟩
          rcases hO.2 with h | ⟨g, cap, cur, hv2, hgb, hh, r⟩
          · exact .inl h
          · refine .inr ⟨g, cap, cur, hv2, by omega, ?_, r⟩
            exact (setRow_other wr (w.heap.size + 1) g _ (by omega)).trans hh
    · have hI : ¬ ((ms.length : Int) < ps.length) := by omega
      obtain ⟨L, hL⟩ : ∃ L, min ps.length ms.length = L := ⟨_, rfl⟩
      have hLn : L ≤ ps.length := by omega
      have hLm : L ≤ ms.length := by omega
      have hLX : L = ps.length := by omega
      have HL := Lib.hid hL
      clear hL
      go_wp2_with fail
      go_loopw [6, 7, 8, 22] (fun _ _ _ j wr => ∃ k : Nat, k ≤ L ∧ j = .int .i64 k ∧ Blk wr g5 39 #[.int .i64 cn, .slice a2 ps.length c2] ∧ Blk wr (w.heap.size + 1) 39 #[.int .i64 0, .slice none 0 0] ∧ Below w.heap.size w wr ∧
        wr.ownsRow (w.heap.size + 2) 46 5 (.slice a2 ps.length c2) ps.length (partsC ((List.range ps.length).map (takeF ps ms k)))) (fun _ _ _ j _ => L - (intOf j).toNat)
      case atStart => exact ⟨0, by omega, rfl, hg5, hbz, hBz, by rw [takeF_zero, range_getD]; exact hown⟩
      case round =>
        obtain ⟨k, hk, rfl, hG, hZ, hB, hO⟩ := hrel
        by_cases hlt : k < L
        · rcases hO.2 with ⟨h, h2⟩ | ⟨g, cap, cur, hv2, hgb, hgh, hgc1, hgc2, hgs, hgt⟩
          · omega
          injection hv2 with e1 e2 e3
          subst e1 e3
          have hgne : g ≠ g5 := hne g rfl
          have hPA : PartAt cur ps.length (takeF ps ms k) := by
            have h1 := PartAt.of ((List.range ps.length).map (takeF ps ms k)) cur (by simpa using hgt)
            intro i r hi hr
            have := h1 i r (by simpa using hi) hr
            simpa [List.getD_eq_getElem?_getD, hi] using this
          have hkn : k < ps.length := by omega
          have hkm : k < ms.length := by omega
          have hC : Blk wr g 46 cur := hgh
          obtain ⟨p, hp⟩ : ∃ p, ps.getD k zeroP = p := ⟨_, rfl⟩
          obtain ⟨x, hx⟩ : ∃ x, ms.getD k 0 = x := ⟨_, rfl⟩
          have hx64 := HMS.out k hkm
          rw [hx] at hx64
          have hcell : ∀ r, r < 5 → cur[k * 5 + r]? = (partC p)[r]? := by
            intro r hr
            have := hPA k r hkn hr
            rw [takeF_at, hp] at this
            exact this
          have hsz : k * 5 + 5 ≤ cur.size := by rw [hgs]; omega
          obtain ⟨b', off, rfl, hb', hcl⟩ := HC1.out (by omega)
          have cm : wr.cell? ⟨b', off + k, none⟩ = some (.int .i64 x) := by rw [hB.cell (by exact hb'), hcl k hkm, hx]
          have cg1 : wr.cell? ⟨g5, 1, none⟩ = some (.slice (some ⟨g, 0, none⟩) ps.length c2) := Blk.cell hG 1
          have dn : decide ((k : Int) < ps.length) = true := by simp; omega
          have dm : decide ((k : Int) < ms.length) = true := by simp; omega
          have HX := Lib.hid hx
          have HP := Lib.hid hp
          have HCL := Lib.hid hcell
          have HPA := Lib.hid hPA
          clear hcl hx hp hcell hPA hgt hO hgh hLX
          go_wp2_with fail
          go_quiet (fail)
          have hCq : Blk (wr.drewN nq) g 46 cur := hC
          have hGq : Blk (wr.drewN nq) g5 39 #[.int .i64 cn, .slice (some ⟨g, 0, none⟩) ps.length c2] := hG
          have hZq : Blk (wr.drewN nq) (w.heap.size + 1) 39 #[.int .i64 0, .slice none 0 0] := hZ
          have hBq : Below w.heap.size w (wr.drewN nq) := Below.drewN hB nq
          generalize wr.drewN nq = wq at *
          clear hC hG hZ hB cm cg1
          have hlg := Blk.lt hCq
          have hlG := Blk.lt hGq
          have hlZ := Blk.lt hZq
          have y1 : wq.cell? ⟨g, k * 5 + 1, none⟩ = some (.int .i64 (hiW p.sum)) := (Blk.cell hCq _).trans (HCL.out 1 (by omega))
          have y2 : wq.cell? ⟨g, k * 5 + 1 + 1, none⟩ = some (.int .u64 (loW p.sum)) := (Blk.cell hCq _).trans (HCL.out 2 (by omega))
          have y3 : wq.cell? ⟨g, k * 5 + 2, none⟩ = some (.int .u64 (loW p.sum)) := (Blk.cell hCq _).trans (HCL.out 2 (by omega))
          go_wp2_with fail
          refine (add15 p.sum x _ hx64).mono ?_
          rintro e w3 ⟨rfl, hB3⟩
          have hC3 := Blk.below hCq hB3 hlg
          have hG3 := Blk.below hGq hB3 hlG
          have hZ3 := Blk.below hZq hB3 hlZ
          have hBw3 := Below.call hBq hB3
          clear hCq hGq hZq hBq hB3 hlg hlG hlZ y1 y2 y3
          obtain ⟨S, hS⟩ : ∃ S, w128 (p.sum + x) = S := ⟨_, rfl⟩
          rw [hS]
          have HS := Lib.hid hS
          clear hS
          have d1 : w3.cell? ⟨g, k * 5 + 1, none⟩ = some (.int .i64 (hiW p.sum)) := (Blk.cell hC3 _).trans (HCL.out 1 (by omega))
          have d2 : w3.cell? ⟨g, k * 5 + 1 + 1, none⟩ = some (.int .u64 (loW p.sum)) := (Blk.cell hC3 _).trans (HCL.out 2 (by omega))
          have d3 : w3.cell? ⟨g, k * 5 + 2, none⟩ = some (.int .u64 (loW p.sum)) := (Blk.cell hC3 _).trans (HCL.out 2 (by omega))
          have f3 := Blk.free hC3
          unfold sumV
          go_upto_region 7 with (fail)
          have hA1 := Blk.set (Blk.set hC3 (k * 5 + 1) (.int .i64 (hiW S))) (k * 5 + 1 + 1) (.int .u64 (loW S))
          have hG4 := Blk.other (Blk.other hG3 (p := ⟨g, k * 5 + 1, none⟩) hgne (.int .i64 (hiW S))) (p := ⟨g, k * 5 + 1 + 1, none⟩) hgne (.int .u64 (loW S))
          have hZ4 := Blk.other (Blk.other hZ3 (p := ⟨g, k * 5 + 1, none⟩) (by show g ≠ w.heap.size + 1; omega) (.int .i64 (hiW S))) (p := ⟨g, k * 5 + 1 + 1, none⟩) (by show g ≠ w.heap.size + 1; omega) (.int .u64 (loW S))
          have hB4 := (hBw3.setCell (p := ⟨g, k * 5 + 1, none⟩) (by show w.heap.size ≤ g; omega) (.int .i64 (hiW S))).setCell (p := ⟨g, k * 5 + 1 + 1, none⟩) (by show w.heap.size ≤ g; omega) (.int .u64 (loW S))
          generalize (w3.setCell ⟨g, k * 5 + 1, none⟩ (.int .i64 (hiW S))).setCell ⟨g, k * 5 + 1 + 1, none⟩ (.int .u64 (loW S)) = wa at *
          obtain ⟨ca, hca⟩ : ∃ ca, (cur.setIfInBounds (k * 5 + 1) (.int .i64 (hiW S))).setIfInBounds (k * 5 + 1 + 1) (.int .u64 (loW S)) = ca := ⟨_, rfl⟩
          rw [hca] at hA1
          have q0 : ca[k * 5]? = some (.bool p.any) := by rw [← hca, Array.getElem?_setIfInBounds_ne (by omega), Array.getElem?_setIfInBounds_ne (by omega)]; exact HCL.out 0 (by omega)
          have q1 : ca[k * 5 + 1]? = some (.int .i64 (hiW S)) := by rw [← hca, Array.getElem?_setIfInBounds_ne (by omega), Array.getElem?_setIfInBounds_self_of_lt (by omega)]
          have q2 : ca[k * 5 + 2]? = some (.int .u64 (loW S)) := by rw [← hca, Array.getElem?_setIfInBounds_self_of_lt (by simp; omega)]
          have q3 : ca[k * 5 + 3]? = some (.int .i64 p.mn) := by rw [← hca, Array.getElem?_setIfInBounds_ne (by omega), Array.getElem?_setIfInBounds_ne (by omega)]; exact HCL.out 3 (by omega)
          have q4 : ca[k * 5 + 4]? = some (.int .i64 p.mx) := by rw [← hca, Array.getElem?_setIfInBounds_ne (by omega), Array.getElem?_setIfInBounds_ne (by omega)]; exact HCL.out 4 (by omega)
          have qo : ∀ j, (j < k * 5 ∨ k * 5 + 5 ≤ j) → ca[j]? = cur[j]? := fun j hj => by rw [← hca, Array.getElem?_setIfInBounds_ne (by omega), Array.getElem?_setIfInBounds_ne (by omega)]
          have qs : ca.size = cur.size := by rw [← hca]; simp
          have QO := Lib.hid qo
          have s0 : k * 5 < cur.size := by omega
          have s3 : k * 5 + 3 < cur.size := by omega
          have s4 : k * 5 + 4 < cur.size := by omega
          clear hca qo hC3 hG3 hZ3 hBw3 d1 d2 d3 f3
          have z0 : wa.cell? ⟨g, k * 5, none⟩ = some (.bool p.any) := (Blk.cell hA1 _).trans q0
          have z3 : wa.cell? ⟨g, k * 5 + 3, none⟩ = some (.int .i64 p.mn) := (Blk.cell hA1 _).trans q3
          have z4 : wa.cell? ⟨g, k * 5 + 4, none⟩ = some (.int .i64 p.mx) := (Blk.cell hA1 _).trans q4
          have fa := Blk.free hA1
          cases hany : p.any with
          | true =>
            rw [hany] at z0 q0
            go_wp2_with fail
            go_region
            go_wp2_with fail
            have hA5 : Blk (((wa).setCell ⟨g, k * 5 + 3, none⟩ (.int .i64 (if x < p.mn then x else p.mn))).setCell ⟨g, k * 5 + 4, none⟩ (.int .i64 (if p.mx < x then x else p.mx))).drew g 46 (((ca).setIfInBounds (k * 5 + 3) (.int .i64 (if x < p.mn then x else p.mn))).setIfInBounds (k * 5 + 4) (.int .i64 (if p.mx < x then x else p.mx))) := Blk.set (Blk.set (hA1) (k * 5 + 3) (.int .i64 (if x < p.mn then x else p.mn))) (k * 5 + 4) (.int .i64 (if p.mx < x then x else p.mx))
            have hG5 : Blk (((wa).setCell ⟨g, k * 5 + 3, none⟩ (.int .i64 (if x < p.mn then x else p.mn))).setCell ⟨g, k * 5 + 4, none⟩ (.int .i64 (if p.mx < x then x else p.mx))).drew g5 39 #[.int .i64 cn, .slice (some ⟨g, 0, none⟩) ps.length c2] := Blk.other (Blk.other (hG4) (p := ⟨g, k * 5 + 3, none⟩) hgne (.int .i64 (if x < p.mn then x else p.mn))) (p := ⟨g, k * 5 + 4, none⟩) hgne (.int .i64 (if p.mx < x then x else p.mx))
            have hZ5 : Blk (((wa).setCell ⟨g, k * 5 + 3, none⟩ (.int .i64 (if x < p.mn then x else p.mn))).setCell ⟨g, k * 5 + 4, none⟩ (.int .i64 (if p.mx < x then x else p.mx))).drew (w.heap.size + 1) 39 #[.int .i64 0, .slice none 0 0] := Blk.other (Blk.other (hZ4) (p := ⟨g, k * 5 + 3, none⟩) (by show g ≠ w.heap.size + 1; omega) (.int .i64 (if x < p.mn then x else p.mn))) (p := ⟨g, k * 5 + 4, none⟩) (by show g ≠ w.heap.size + 1; omega) (.int .i64 (if p.mx < x then x else p.mx))
            have hB5 : Below w.heap.size w (((wa).setCell ⟨g, k * 5 + 3, none⟩ (.int .i64 (if x < p.mn then x else p.mn))).setCell ⟨g, k * 5 + 4, none⟩ (.int .i64 (if p.mx < x then x else p.mx))).drew := Below.drew (((hB4).setCell (p := ⟨g, k * 5 + 3, none⟩) (by show w.heap.size ≤ g; omega) (.int .i64 (if x < p.mn then x else p.mn))).setCell (p := ⟨g, k * 5 + 4, none⟩) (by show w.heap.size ≤ g; omega) (.int .i64 (if p.mx < x then x else p.mx)))
            have hk5 : ∀ r, r < 5 → (((ca).setIfInBounds (k * 5 + 3) (.int .i64 (if x < p.mn then x else p.mn))).setIfInBounds (k * 5 + 4) (.int .i64 (if p.mx < x then x else p.mx)))[k * 5 + r]? = (partC (takeP p x))[r]? := by
              intro r hr
              have htk : takeP p x = ⟨true, S, if x < p.mn then x else p.mn, if p.mx < x then x else p.mx⟩ := by unfold takeP; rw [hany, HS.out]; simp
              rw [htk]
              rcases (by omega : r = 0 ∨ r = 1 ∨ r = 2 ∨ r = 3 ∨ r = 4) with rfl | rfl | rfl | rfl | rfl 
              · rw [Array.getElem?_setIfInBounds_ne (by omega), Array.getElem?_setIfInBounds_ne (by omega)]; exact q0
              · rw [Array.getElem?_setIfInBounds_ne (by omega), Array.getElem?_setIfInBounds_ne (by omega), q1]; rfl
              · rw [Array.getElem?_setIfInBounds_ne (by omega), Array.getElem?_setIfInBounds_ne (by omega), q2]; rfl
              · rw [Array.getElem?_setIfInBounds_ne (by omega), Array.getElem?_setIfInBounds_self_of_lt (by rw [qs]; exact s3)]; rfl
              · rw [Array.getElem?_setIfInBounds_self_of_lt (by rw [Array.size_setIfInBounds, qs]; exact s4)]; rfl
            have ho5 : ∀ j, (j < k * 5 ∨ k * 5 + 5 ≤ j) → (((ca).setIfInBounds (k * 5 + 3) (.int .i64 (if x < p.mn then x else p.mn))).setIfInBounds (k * 5 + 4) (.int .i64 (if p.mx < x then x else p.mx)))[j]? = cur[j]? := fun j hj => by
              rw [Array.getElem?_setIfInBounds_ne (by omega), Array.getElem?_setIfInBounds_ne (by omega)]; exact QO.out j hj
            have hs5 : (((ca).setIfInBounds (k * 5 + 3) (.int .i64 (if x < p.mn then x else p.mn))).setIfInBounds (k * 5 + 4) (.int .i64 (if p.mx < x then x else p.mx))).size = c2 * 5 := by simp [qs, hgs]
            have hP5 : PartAt (((ca).setIfInBounds (k * 5 + 3) (.int .i64 (if x < p.mn then x else p.mn))).setIfInBounds (k * 5 + 4) (.int .i64 (if p.mx < x then x else p.mx))) ps.length (takeF ps ms (k + 1)) := by
              rw [takeF_step, HP.out, HX.out]
              exact PartAt.set HPA.out k _ ho5 hk5
            generalize (((ca).setIfInBounds (k * 5 + 3) (.int .i64 (if x < p.mn then x else p.mn))).setIfInBounds (k * 5 + 4) (.int .i64 (if p.mx < x then x else p.mx))) = cf at *
            generalize (((wa).setCell ⟨g, k * 5 + 3, none⟩ (.int .i64 (if x < p.mn then x else p.mn))).setCell ⟨g, k * 5 + 4, none⟩ (.int .i64 (if p.mx < x then x else p.mx))).drew = wf at *
            go_roundw
            case rel =>
              refine ⟨k + 1, by omega, by go_num, hG5, hZ5, hB5, ⟨by rw [partsC_len]; simp, .inr ⟨g, c2, cf, rfl, hgb, hA5, hgc1, hgc2, hs5, ?_⟩⟩⟩
              exact PartAt.to _ cf ps.length _ (by simp) (by omega) hP5 (fun i hi => by simp [List.getD_eq_getElem?_getD, hi])
            case measure => simp [intOf]; omega
          | false =>
            rw [hany] at z0 q0
            go_upto_region 9 with (fail)
            have hA6 := Blk.set (Blk.set (Blk.set hA1 (k * 5) (.bool true)) (k * 5 + 3) (.int .i64 x)) (k * 5 + 4) (.int .i64 x)
            have hG6 := Blk.other (Blk.other (Blk.other hG4 (p := ⟨g, k * 5, none⟩) hgne (.bool true)) (p := ⟨g, k * 5 + 3, none⟩) hgne (.int .i64 x)) (p := ⟨g, k * 5 + 4, none⟩) hgne (.int .i64 x)
            have hgz : g ≠ w.heap.size + 1 := by omega
            have hgw : w.heap.size ≤ g := by omega
            have hZ6 := Blk.other (Blk.other (Blk.other hZ4 (p := ⟨g, k * 5, none⟩) hgz (.bool true)) (p := ⟨g, k * 5 + 3, none⟩) hgz (.int .i64 x)) (p := ⟨g, k * 5 + 4, none⟩) hgz (.int .i64 x)
            have hB6 := ((hB4.setCell (p := ⟨g, k * 5, none⟩) hgw (.bool true)).setCell (p := ⟨g, k * 5 + 3, none⟩) hgw (.int .i64 x)).setCell (p := ⟨g, k * 5 + 4, none⟩) hgw (.int .i64 x)
            generalize ((wa.setCell ⟨g, k * 5, none⟩ (.bool true)).setCell ⟨g, k * 5 + 3, none⟩ (.int .i64 x)).setCell ⟨g, k * 5 + 4, none⟩ (.int .i64 x) = wb at *
            obtain ⟨cb, hcb⟩ : ∃ cb, ((ca.setIfInBounds (k * 5) (.bool true)).setIfInBounds (k * 5 + 3) (.int .i64 x)).setIfInBounds (k * 5 + 4) (.int .i64 x) = cb := ⟨_, rfl⟩
            rw [hcb] at hA6
            have u0 : cb[k * 5]? = some (.bool true) := by rw [← hcb, Array.getElem?_setIfInBounds_ne (by omega), Array.getElem?_setIfInBounds_ne (by omega), Array.getElem?_setIfInBounds_self_of_lt (by omega)]
            have u1 : cb[k * 5 + 1]? = some (.int .i64 (hiW S)) := by rw [← hcb, Array.getElem?_setIfInBounds_ne (by omega), Array.getElem?_setIfInBounds_ne (by omega), Array.getElem?_setIfInBounds_ne (by omega), q1]
            have u2 : cb[k * 5 + 2]? = some (.int .u64 (loW S)) := by rw [← hcb, Array.getElem?_setIfInBounds_ne (by omega), Array.getElem?_setIfInBounds_ne (by omega), Array.getElem?_setIfInBounds_ne (by omega), q2]
            have u3 : cb[k * 5 + 3]? = some (.int .i64 x) := by rw [← hcb, Array.getElem?_setIfInBounds_ne (by omega), Array.getElem?_setIfInBounds_self_of_lt (by simp; omega)]
            have u4 : cb[k * 5 + 4]? = some (.int .i64 x) := by rw [← hcb, Array.getElem?_setIfInBounds_self_of_lt (by simp; omega)]
            have us : cb.size = cur.size := by rw [← hcb]; simp [qs]
            have qo2 : ∀ j, (j < k * 5 ∨ k * 5 + 5 ≤ j) → cb[j]? = cur[j]? := fun j hj => by rw [← hcb, Array.getElem?_setIfInBounds_ne (by omega), Array.getElem?_setIfInBounds_ne (by omega), Array.getElem?_setIfInBounds_ne (by omega)]; exact QO.out j hj
            have UO := Lib.hid qo2
            clear hcb qo2 q0 q1 q2 q3 q4 qs QO z0 z3 z4 fa hA1 hG4 hZ4 hB4
            have z3 : wb.cell? ⟨g, k * 5 + 3, none⟩ = some (.int .i64 x) := (Blk.cell hA6 _).trans u3
            have z4 : wb.cell? ⟨g, k * 5 + 4, none⟩ = some (.int .i64 x) := (Blk.cell hA6 _).trans u4
            have fa := Blk.free hA6
            go_wp2_with fail
            go_region
            go_wp2_with fail
            have hA5 : Blk (((wb).setCell ⟨g, k * 5 + 3, none⟩ (.int .i64 (x))).setCell ⟨g, k * 5 + 4, none⟩ (.int .i64 (x))).drew g 46 (((cb).setIfInBounds (k * 5 + 3) (.int .i64 (x))).setIfInBounds (k * 5 + 4) (.int .i64 (x))) := Blk.set (Blk.set (hA6) (k * 5 + 3) (.int .i64 (x))) (k * 5 + 4) (.int .i64 (x))
            have hG5 : Blk (((wb).setCell ⟨g, k * 5 + 3, none⟩ (.int .i64 (x))).setCell ⟨g, k * 5 + 4, none⟩ (.int .i64 (x))).drew g5 39 #[.int .i64 cn, .slice (some ⟨g, 0, none⟩) ps.length c2] := Blk.other (Blk.other (hG6) (p := ⟨g, k * 5 + 3, none⟩) hgne (.int .i64 (x))) (p := ⟨g, k * 5 + 4, none⟩) hgne (.int .i64 (x))
            have hZ5 : Blk (((wb).setCell ⟨g, k * 5 + 3, none⟩ (.int .i64 (x))).setCell ⟨g, k * 5 + 4, none⟩ (.int .i64 (x))).drew (w.heap.size + 1) 39 #[.int .i64 0, .slice none 0 0] := Blk.other (Blk.other (hZ6) (p := ⟨g, k * 5 + 3, none⟩) (by show g ≠ w.heap.size + 1; omega) (.int .i64 (x))) (p := ⟨g, k * 5 + 4, none⟩) (by show g ≠ w.heap.size + 1; omega) (.int .i64 (x))
            have hB5 : Below w.heap.size w (((wb).setCell ⟨g, k * 5 + 3, none⟩ (.int .i64 (x))).setCell ⟨g, k * 5 + 4, none⟩ (.int .i64 (x))).drew := Below.drew (((hB6).setCell (p := ⟨g, k * 5 + 3, none⟩) (by show w.heap.size ≤ g; omega) (.int .i64 (x))).setCell (p := ⟨g, k * 5 + 4, none⟩) (by show w.heap.size ≤ g; omega) (.int .i64 (x)))
            have hk5 : ∀ r, r < 5 → (((cb).setIfInBounds (k * 5 + 3) (.int .i64 (x))).setIfInBounds (k * 5 + 4) (.int .i64 (x)))[k * 5 + r]? = (partC (takeP p x))[r]? := by
              intro r hr
              have htk : takeP p x = ⟨true, S, x, x⟩ := by unfold takeP; rw [hany, HS.out]; simp
              rw [htk]
              rcases (by omega : r = 0 ∨ r = 1 ∨ r = 2 ∨ r = 3 ∨ r = 4) with rfl | rfl | rfl | rfl | rfl 
              · rw [Array.getElem?_setIfInBounds_ne (by omega), Array.getElem?_setIfInBounds_ne (by omega)]; exact u0
              · rw [Array.getElem?_setIfInBounds_ne (by omega), Array.getElem?_setIfInBounds_ne (by omega), u1]; rfl
              · rw [Array.getElem?_setIfInBounds_ne (by omega), Array.getElem?_setIfInBounds_ne (by omega), u2]; rfl
              · rw [Array.getElem?_setIfInBounds_ne (by omega), Array.getElem?_setIfInBounds_self_of_lt (by rw [us]; exact s3)]; rfl
              · rw [Array.getElem?_setIfInBounds_self_of_lt (by rw [Array.size_setIfInBounds, us]; exact s4)]; rfl
            have ho5 : ∀ j, (j < k * 5 ∨ k * 5 + 5 ≤ j) → (((cb).setIfInBounds (k * 5 + 3) (.int .i64 (x))).setIfInBounds (k * 5 + 4) (.int .i64 (x)))[j]? = cur[j]? := fun j hj => by
              rw [Array.getElem?_setIfInBounds_ne (by omega), Array.getElem?_setIfInBounds_ne (by omega)]; exact UO.out j hj
            have hs5 : (((cb).setIfInBounds (k * 5 + 3) (.int .i64 (x))).setIfInBounds (k * 5 + 4) (.int .i64 (x))).size = c2 * 5 := by simp [us, hgs]
            have hP5 : PartAt (((cb).setIfInBounds (k * 5 + 3) (.int .i64 (x))).setIfInBounds (k * 5 + 4) (.int .i64 (x))) ps.length (takeF ps ms (k + 1)) := by
              rw [takeF_step, HP.out, HX.out]
              exact PartAt.set HPA.out k _ ho5 hk5
            generalize (((cb).setIfInBounds (k * 5 + 3) (.int .i64 (x))).setIfInBounds (k * 5 + 4) (.int .i64 (x))) = cf at *
            generalize (((wb).setCell ⟨g, k * 5 + 3, none⟩ (.int .i64 (x))).setCell ⟨g, k * 5 + 4, none⟩ (.int .i64 (x))).drew = wf at *
            go_roundw
            case rel =>
              refine ⟨k + 1, by omega, by go_num, hG5, hZ5, hB5, ⟨by rw [partsC_len]; simp, .inr ⟨g, c2, cf, rfl, hgb, hA5, hgc1, hgc2, hs5, ?_⟩⟩⟩
              exact PartAt.to _ cf ps.length _ (by simp) (by omega) hP5 (fun i hi => by simp [List.getD_eq_getElem?_getD, hi])
            case measure => simp [intOf]; omega
        · obtain rfl : k = L := by omega
          have dx : decide ((k : Int) < ps.length) = false := by simp; omega
          have e0 : wr.cell? ⟨g5, 0, none⟩ = some (.int .i64 cn) := Blk.cell hG 0
          have e1 : wr.cell? ⟨g5, 1, none⟩ = some (.slice a2 ps.length c2) := Blk.cell hG 1
          go_wp2_with (refine wpList_store_row rfl 39 _ _ rfl (w.heap.size + 1) #[.int .i64 cn, .slice a2 ps.length c2] rfl rfl 39 _ hZ info39 rfl (by simp [Value.oneCell']) ?_)
          have hZr := Blk.setRow (cs' := #[.int .i64 cn, .slice a2 ps.length c2]) hZ
          refine bodyPost_ret (results_cell_row rfl _ _ (w.heap.size + 1) 39 #[.int .i64 cn, .slice a2 ps.length c2] (0, 0) _ rfl hZr Try.underlying39 rfl info39) rfl ?_
          refine ⟨.slice a2 ps.length c2, by rw [← HCN.out, IntWalk.i64_left], ?_, Below.setRow hB (Nat.le_succ _) _⟩
          have hq : (List.range ps.length).map (takeF ps ms k) = takeL ps ms := by unfold takeL; rw [HL.out]
          rw [hq] at hO
          refine ⟨hO.1, ?_⟩
          rcases hO.2 with h | ⟨g, cap, cur, hv2, hgb, hh, r⟩
          · exact .inl h
          · refine .inr ⟨g, cap, cur, hv2, by omega, ?_, r⟩
            exact (setRow_other wr (w.heap.size + 1) g _ (by omega)).trans hh
end Go.Proofs.Ytlhncphnhgbclaa
