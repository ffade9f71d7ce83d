/- NetTwo: the walk. -/
import Derived.Test.YtalcmaphndfcfaaN
import Derived.Deep.DeepCutAuto
namespace Go.Proofs.Ytalcmaphndfcfaa
open Go.RowKit Go.Maps
set_option linter.unusedVariables false
set_option linter.unusedSimpArgs false

/-- how things stand behind k rounds: the net; what was sent into each of the two connections, what came out -/
structure TwoAt (w wr : World) (q bn : Nat) (L : List Cn) (k : Nat) (s0 s1 g0 g1 : ByteArray) : Prop where
  net : NetAt (fun k => w.heap.size ≤ k ∧ k < q) wr bn 2 L
  cb : Blk wr q 29 #[.int .i64 1, .int .i64 2]
  sb : Blk wr (q + 1) 30 #[.string s0, .string s1]
  gb : Blk wr (q + 2) 30 #[.string g0, .string g1]
  fl0 : Flow L 1 g0 s0
  fl1 : Flow L 2 g1 s1
  live : Live L 1
  z0 : s0.size ≤ k * 65536
  z1 : s1.size ≤ k * 65536
  tu : Below w.heap.size w wr
  wq : w.heap.size ≤ q
section
variable {w wr wr' : World} {q bn : Nat} {L L' : List Cn} {k : Nat} {s0 s1 g0 g1 t : ByteArray}
theorem TwoAt.lt (h : TwoAt w wr q bn L k s0 s1 g0 g1) : q + 2 < wr.heap.size := h.gb.lt
theorem TwoAt.alloc (h : TwoAt w wr q bn L k s0 s1 g0 g1) (o : Obj) : TwoAt w (wr.alloc o) q bn L k s0 s1 g0 g1 :=
  ⟨h.net.alloc o, h.cb.alloc o, h.sb.alloc o, h.gb.alloc o, h.fl0, h.fl1, h.live, h.z0, h.z1, h.tu.alloc (Nat.le_trans h.wq (by have := h.lt; omega)) o, h.wq⟩
theorem TwoAt.drew (h : TwoAt w wr q bn L k s0 s1 g0 g1) (n : Nat) : TwoAt w (wr.drewN n) q bn L k s0 s1 g0 g1 :=
  ⟨h.net.drewN n, by have := Blk.drewN h.cb n; exact this, by have := Blk.drewN h.sb n; exact this, by have := Blk.drewN h.gb n; exact this, h.fl0, h.fl1, h.live, h.z0, h.z1, Below.drewN h.tu n, h.wq⟩
theorem TwoAt.next (h : TwoAt w wr q bn L k s0 s1 g0 g1) : TwoAt w wr q bn L (k + 1) s0 s1 g0 g1 :=
  ⟨h.net, h.cb, h.sb, h.gb, h.fl0, h.fl1, h.live, Nat.le_trans h.z0 (Nat.mul_le_mul_right _ (Nat.le_succ k)), Nat.le_trans h.z1 (Nat.mul_le_mul_right _ (Nat.le_succ k)), h.tu, h.wq⟩
/-- a call of the net -/
theorem TwoAt.call (h : TwoAt w wr q bn L k s0 s1 g0 g1) (hN : NetAt (fun k => w.heap.size ≤ k ∧ k < q) wr' bn 2 L') (hT : Turn (fun k => w.heap.size ≤ k ∧ k < q) wr wr') (h0 : Flow L' 1 g0 s0) (h1 : Flow L' 2 g1 s1) (hl : Live L' 1) : TwoAt w wr' q bn L' k s0 s1 g0 g1 :=
  ⟨hN, Blk.turn h.cb hT (fun h => by omega), Blk.turn h.sb hT (fun h => by omega), Blk.turn h.gb hT (fun h => by omega), h0, h1, hl, h.z0, h.z1,
    h.tu.trans (hT.below (by have := h.lt; have := h.wq; omega) (fun k hk h => by omega)), h.wq⟩
end

/-- all that is under way is let arrive -/
theorem move11_last {F : Nat → Prop} {w : World} {bn : Nat} {made : Int} {L : List Cn} {g s : ByteArray} (h : NetAt F w bn made L) (hf : Flow L 1 g s) (hl : Live L 1) :
    Calls Try.prog 11 #[.pointer (some ⟨bn, 0, none⟩), .int .i64 1, .int .i64 1, .int .i64 1048576] w fun e w' => ∃ (v : Value) (L' : List Cn), e = .returned v ∧ (∃ a b : Int, v = .tuple #[.int .i64 a, .int .i64 b]) ∧
      NetAt F w' bn made L' ∧ Turn F w w' ∧ Flow L' 1 g s ∧ ∃ c, findC L' 1 = some c ∧ c.cut = false ∧ c.un1.size = 0 := by
  obtain ⟨c, hc, hcut⟩ := hl
  have hfit := (h.fits hc).2
  have hk : tookN 1048576 c.un1.size = c.un1.size := by unfold tookN; omega
  refine (move11_ok1 h 1 1048576 (by decide) hc hcut c.un1.size hk).mono ?_
  rintro e w' ⟨rfl, hN, hT⟩
  refine ⟨_, _, rfl, ⟨_, _, rfl⟩, hN, hT, hf.move hc hcut _, _, upd_self hc (by rw [setTh_num, setUn_num]; exact (findC_mem hc).2), hcut, ?_⟩
  show (c.un1.extract c.un1.size c.un1.size).size = 0
  rw [ByteArray.size_extract]; omega
/-- and all of it is taken -/
theorem take12_last {F : Nat → Prop} {w : World} {bn : Nat} {made : Int} {L : List Cn} {g s : ByteArray} (h : NetAt F w bn made L) (hf : Flow L 1 g s) (hl : ∃ c, findC L 1 = some c ∧ c.cut = false ∧ c.un1.size = 0) :
    Calls Try.prog 12 #[.pointer (some ⟨bn, 0, none⟩), .int .i64 1, .int .i64 1, .int .i64 1048576] w fun e w' => ∃ (t : ByteArray) (er : Int), e = .returned (.tuple #[.string t, .int .i64 er]) ∧ Turn F w w' ∧ g ++ t = s := by
  obtain ⟨c, hc, hcut, hun⟩ := hl
  have hfit := (h.fits hc).2
  obtain ⟨r, h1, h2⟩ := hf
  obtain ⟨h3, h4, h5⟩ := h2 c hc hcut
  have hemp : ∀ b : ByteArray, b.size = 0 → b = ByteArray.empty := fun b hb => ByteArray.size_eq_zero_iff.1 hb
  rw [hemp c.un1 hun, ByteArray.append_empty] at h5
  rw [h5] at h1
  rcases Nat.eq_zero_or_pos c.th1.size with h0 | h0
  · refine (take12_none1 h 1 1048576 (by decide) hc hcut h0).mono ?_
    rintro e w' ⟨rfl, rfl⟩
    refine ⟨_, _, rfl, Turn.refl _ _, ?_⟩
    rw [hemp c.th1 h0] at h1
    exact h1
  · have hk : tookN 1048576 c.th1.size = c.th1.size := by unfold tookN; omega
    refine (take12_ok1 h 1 1048576 (by decide) hc hcut h0 c.th1.size hk).mono ?_
    rintro e w' ⟨rfl, hN, hT⟩
    refine ⟨_, _, rfl, hT, ?_⟩
    rw [ByteArray.extract_zero_size]
    exact h1

theorem run_slice_pre (w : World) (s G : ByteArray) (hle : G.size ≤ s.size) (hpre : s.extract 0 G.size = G) :
    (Instr.slice 9 (.string s) none (some (.int .i64 (G.size : Nat))) none).run Try.prog w = .ok (.string G) w := by
  have h := run_slice_string_to_if (P := Try.prog) (w := w) 9 s .i64 (G.size : Nat) Try.underlying9
  simp only [Int.toNat_natCast, hpre] at h
  rw [h, if_pos (by omega)]
theorem run_neq_self (w : World) (G : ByteArray) : (binOp .neq 9 (.string G) (.string G)).run Try.prog w = .ok (.bool false) w := by
  rw [binOp_string_neq]; simp
set_option maxRecDepth 100000 in
set_option maxHeartbeats 8000000 in
theorem two3 (v : Value) (l : List Op5) (w : World) (hv : Row w.heap.size w v l.length 5 (opsC l)) (hl : l.length * 48 ≤ 140737488351232) (hd : ∀ o ∈ l, o.data.size ≤ 9223372036854775807) :
    Calls Try.prog 3 #[v] w fun e w' => e = .returned (.bool true) ∧ Below w.heap.size w w' := by
  obtain ⟨hlen, a, cap, rfl, hcap, hcap2, hcells⟩ := hv
  have HCE := Lib.hid hcells
  have HD := Lib.hid hd
  have hcm : cap ≤ 9223372036854775807 := by simpa [maxLen] using hcap2
  clear hcells hd hcap2 hlen
  go_enter Try.func3, Try.ntmps3
  go_wp2_with fail
  refine (awake7 _).mono ?_
  rintro e w1 ⟨rfl, hB1⟩
  go_wp2_with fail
  refine (new8 w1 (fun k => w.heap.size ≤ k) hB1.size).mono ?_
  rintro e w2 ⟨rfl, hN, hT, -⟩
  obtain ⟨bn, hbn⟩ : ∃ bn, w1.heap.size = bn := ⟨_, rfl⟩
  have hT1 : Turn (fun k => w.heap.size ≤ k) w w2 := (Turn.of_below hB1 (fun k h _ => h)).trans (hT.mono (fun _ _ h => h.elim))
  rw [hbn] at hN ⊢
  clear hT hB1 hbn
  go_wp2_with fail
  refine (open9_ok hN (by simp) (by omega) (by simp)).mono ?_
  rintro e w3 ⟨rfl, b1, hN2, hT2, hb1⟩
  have hs2 := hT1.size
  replace hN2 : NetAt (fun k => w.heap.size ≤ k) w3 bn 1 [newCn 1 b1] := hN2.mono (fun k _ h => by omega)
  have hT3 := hT1.trans hT2
  clear hN hT1 hT2
  go_wp2_with fail
  refine (open9_ok hN2 (by simp) (by omega) (by simp [newCn])).mono ?_
  rintro e w4 ⟨rfl, b2, hN3, hT4, hb2⟩
  have hs3 := hT3.size
  replace hN3 : NetAt (fun k => w.heap.size ≤ k) w4 bn 2 [newCn 1 b1, newCn 2 b2] := hN3.mono (fun k _ h => by omega)
  have hT5 := hT3.trans hT4
  clear hN2 hT3 hT4
  replace hN3 : NetAt (fun k => w.heap.size ≤ k ∧ k < w4.heap.size) w4 bn 2 [newCn 1 b1, newCn 2 b2] := hN3.mono (fun k h1 h2 => ⟨h2, h1⟩)
  have hs4 := hT5.size
  go_wp2_with fail
  obtain ⟨w5, hw5⟩ : ∃ w5, w5 = ((w4.alloc (Obj.cells #[.int .i64 1, .int .i64 2] 29)).alloc (Obj.cells #[.string ⟨#[]⟩, .string ⟨#[]⟩] 30)).alloc (Obj.cells #[.string ⟨#[]⟩, .string ⟨#[]⟩] 30) := ⟨_, rfl⟩
  obtain ⟨q, hq⟩ : ∃ q, w4.heap.size = q := ⟨_, rfl⟩
  have h0 : TwoAt w w5 q bn [newCn 1 b1, newCn 2 b2] 0 e0 e0 e0 e0 := by
    have hemp : e0 ++ e0 = e0 := rfl
    rw [hw5]
    refine ⟨?_, ?_, ?_, ?_, ⟨e0, hemp, ?_⟩, ⟨e0, hemp, ?_⟩, ⟨newCn 1 b1, rfl, rfl⟩, by decide, by decide, ?_, by omega⟩
    · rw [← hq]; exact ((hN3.alloc _).alloc _).alloc _
    · rw [← hq]; exact ((Blk.new w4 _ _).alloc _).alloc _
    · exact (Blk.newAt _ _ _ (by simp [hq])).alloc _
    · exact Blk.newAt _ _ _ (by simp [hq])
    · intro c hc _
      have hc : some (newCn 1 b1) = some c := hc
      injection hc with hc; subst hc; exact ⟨rfl, rfl, rfl⟩
    · intro c hc _
      have hc : some (newCn 2 b2) = some c := hc
      injection hc with hc; subst hc; exact ⟨rfl, rfl, rfl⟩
    · exact Below.al (Below.al (Below.al (hT5.toBelow) _) _) _
  rw [hq, ← hw5]
  clear hw5 hN3 hT5 hb1 hb2 hs2 hs3 hs4 hq
  go_loopw [12] (fun i wr => ∃ (k : Nat) (L : List Cn) (s0 s1 g0 g1 : ByteArray), k ≤ l.length ∧ i = .int .i64 k ∧ TwoAt w wr q bn L k s0 s1 g0 g1) (fun i _ => l.length - (intOf i).toNat)
  case atStart => exact ⟨0, _, _, _, _, _, by omega, rfl, h0⟩
  case round =>
    obtain ⟨k, L, s0, s1, g0, g1, hk, rfl, hA⟩ := hrel
    by_cases hlt : k < l.length
    · have d1 : decide ((k : Int) < l.length) = true := by simp; omega
      obtain ⟨b', off, rfl, hb', hcl⟩ := HCE.out (by omega)
      obtain ⟨⟨kind, conn, side, many, data⟩, ho⟩ : ∃ o, o = l.getD k op0 := ⟨_, rfl⟩
      have hdm : data.size ≤ 9223372036854775807 := by
        have hm : l.getD k op0 ∈ l := by rw [List.getD_eq_getElem?_getD, List.getElem?_eq_getElem hlt]; exact List.getElem_mem hlt
        have := HD.out _ hm
        rw [← ho] at this; exact this
      have hce : ∀ j, j < 5 → wr.cell? ⟨b', off + k * 5 + j, none⟩ = #[Value.int .i64 kind, .int .i64 conn, .int .i64 side, .int .i64 many, .string data][j]? := by
        intro j hj
        rw [hA.tu.cell (by exact hb'), Nat.add_assoc, hcl (k * 5 + j) (by omega), opsC_at l k j hlt hj, ← ho]
        match j, hj with
        | 0, _ => rfl
        | 1, _ => rfl
        | 2, _ => rfl
        | 3, _ => rfl
        | 4, _ => rfl
      have HCL := Lib.hid hce
      have HA := Lib.hid hA
      clear hcl ho hA hce
      go_upto_region 14 with (refine wpList_load_at rfl 32 _ rfl b' (off + k * 5) rfl #[.int .i64 kind, .int .i64 conn, .int .i64 side, .int .i64 many, .string data] _ (fun j hj => HCL.out j hj) Try.underlying32 rfl info32 ?_)
      obtain ⟨wo, hwo⟩ : ∃ wo, wo = wr.alloc (Obj.cells #[.int .i64 kind, .int .i64 conn, .int .i64 side, .int .i64 many, .string data] 32) := ⟨_, rfl⟩
      obtain ⟨p, hp⟩ : ∃ p, wr.heap.size = p := ⟨_, rfl⟩
      have hO : TwoAt w wo q bn L k s0 s1 g0 g1 := by rw [hwo]; exact HA.out.alloc _
      have hpb : Blk wo p 32 #[.int .i64 kind, .int .i64 conn, .int .i64 side, .int .i64 many, .string data] := by rw [hwo, ← hp]; exact Blk.new _ _ _
      have hpq : q + 2 < p := by rw [← hp]; exact HA.out.lt
      rw [hp, ← hwo]
      have HO := Lib.hid hO
      have HP := Lib.hid hpb
      have p0 : wo.cell? ⟨p, 0, none⟩ = some (.int .i64 kind) := Blk.cell hpb 0
      have p1 : wo.cell? ⟨p, 1, none⟩ = some (.int .i64 conn) := Blk.cell hpb 1
      have p3 : wo.cell? ⟨p, 3, none⟩ = some (.int .i64 many) := Blk.cell hpb 3
      have p4 : wo.cell? ⟨p, 4, none⟩ = some (.string data) := Blk.cell hpb 4
      have hand := and1_i64 conn
      obtain ⟨K, hK⟩ : ∃ K, conn % 2 = K := ⟨_, rfl⟩
      rw [hK] at hand
      have hK2 : K = 0 ∨ K = 1 := by omega
      obtain ⟨R, hR⟩ : ∃ R, kind.tmod 4 = R := ⟨_, rfl⟩
      have hR2 : R = 0 ∨ R = 1 ∨ R = -1 ∨ R = 2 ∨ R = -2 ∨ R = 3 ∨ R = -3 := by
        have h1 := Int.tmod_lt_of_pos kind (show (0 : Int) < 4 by decide)
        have h2 := Int.lt_tmod_of_pos kind (show (0 : Int) < 4 by decide)
        rw [hR] at h1 h2
        omega
      clear hO hpb hwo hp HA HCL hK
      rcases hK2 with rfl | rfl
      · rcases hR2 with rfl | rfl | rfl | rfl | rfl | hR3
        · have a0 : wo.cell? ⟨q, 0, none⟩ = some (.int .i64 1) := Blk.cell HO.out.cb 0
          go_wp2_with fail
          refine hp_start (fun w' => w'.cell? ⟨q, 0, none⟩ = some (.int .i64 1) ∧ w'.cell? ⟨p, 4, none⟩ = some (.string data)) 12 rfl (by kernel_rfl) (fun c a a' w hd h => ⟨hd ▸ h.1, h.2⟩) (fun hP => ?_)
          rw [show Array.replicate 12 false = #[false, false, false, false, false, false, false, false, false, false, false, false] from rfl]
          have HS0 : wo.drew.cell? ⟨q, 0, none⟩ = some (.int .i64 1) ∧ wo.drew.cell? ⟨p, 4, none⟩ = some (.string data) := ⟨a0, p4⟩
          refine hp_take hP 0 (some 65) _ rfl rfl (by kernel_rfl) rfl (fun w' hS' => by go_simp; rfl) HS0 ?_
          simp only [Act.put, List.setIfInBounds_toArray, List.set_cons_zero, List.set_cons_succ]
          refine hp_take hP 1 (some 66) _ rfl rfl (by kernel_rfl) rfl (fun w' hS' => by go_simp; rfl) HS0 ?_
          simp only [Act.put, List.setIfInBounds_toArray, List.set_cons_zero, List.set_cons_succ]
          refine hp_take hP 2 (some 67) _ rfl rfl (by kernel_rfl) rfl (fun w' hS' => by go_simp; rfl) HS0 ?_
          simp only [Act.put, List.setIfInBounds_toArray, List.set_cons_zero, List.set_cons_succ]
          refine hp_take hP 3 (some 68) _ rfl rfl (by kernel_rfl) rfl (fun w' hS' => by have cc := hS'.1; go_simp; rfl) HS0 ?_
          simp only [Act.put, List.setIfInBounds_toArray, List.set_cons_zero, List.set_cons_succ]
          refine hp_take hP 4 (some 69) _ rfl rfl (by kernel_rfl) rfl (fun w' hS' => by go_simp; rfl) HS0 ?_
          simp only [Act.put, List.setIfInBounds_toArray, List.set_cons_zero, List.set_cons_succ]
          refine hp_take hP 5 (some 70) _ rfl rfl (by kernel_rfl) rfl (fun w' hS' => by have cc := hS'.2; go_simp; rfl) HS0 ?_
          simp only [Act.put, List.setIfInBounds_toArray, List.set_cons_zero, List.set_cons_succ]
          refine hp_call 6 (some 71) rfl rfl (by kernel_rfl) rfl 10 #[.pointer (some ⟨bn, 0, none⟩), .int .i64 1, .int .i64 0, .string data] (by go_simp) ((send10_flow (F := fun k => w.heap.size ≤ k ∧ k < q) (w := wo.drew) (HO.out.drew 1).net HO.out.fl0 (by decide) data hdm).mono ?_)
          rintro e w6 ⟨m, er, L', rfl, hN, hT, hnear, hm1, hm2, hcase⟩
          have HS1 : w6.cell? ⟨q, 0, none⟩ = some (.int .i64 1) ∧ w6.cell? ⟨p, 4, none⟩ = some (.string data) := ⟨Blk.cell (Blk.turn (show Blk wo.drew q 29 _ from HO.out.cb) hT (fun h => by omega)) 0, Blk.cell (Blk.turn (show Blk wo.drew p 32 _ from HP.out) hT (fun h => by omega)) 4⟩
          refine ⟨_, rfl, HS1, ?_⟩
          simp only [Act.put, List.setIfInBounds_toArray, List.set_cons_zero, List.set_cons_succ]
          refine hp_take hP 7 (some 64) _ rfl rfl (by kernel_rfl) rfl (fun w' hS' => by go_simp; rfl) HS1 ?_
          simp only [Act.put, List.setIfInBounds_toArray, List.set_cons_zero, List.set_cons_succ]
          refine hp_take hP 8 (some 72) _ rfl rfl (by kernel_rfl) rfl (fun w' hS' => by go_simp; rfl) HS1 ?_
          simp only [Act.put, List.setIfInBounds_toArray, List.set_cons_zero, List.set_cons_succ]
          refine hp_take hP 9 (some 73) _ rfl rfl (by kernel_rfl) rfl (fun w' hS' => by go_simp; rfl) HS1 ?_
          simp only [Act.put, List.setIfInBounds_toArray, List.set_cons_zero, List.set_cons_succ]
          refine hp_take hP 10 (some 15) _ rfl rfl (by kernel_rfl) rfl (fun w' hS' => by go_simp; rfl) HS1 ?_
          simp only [Act.put, List.setIfInBounds_toArray, List.set_cons_zero, List.set_cons_succ]
          refine hp_take hP 11 (some 16) _ rfl rfl (by kernel_rfl) rfl (fun w' hS' => by go_simp; rfl) HS1 ?_
          simp only [Act.put, List.setIfInBounds_toArray, List.set_cons_zero, List.set_cons_succ]
          refine hk_done (by kernel_rfl) ?_
          clear HS0 HS1 hP
          have hm3 : (m : Int) ≤ (data.size : Int) := by omega
          have P4 : w6.cell? ⟨p, 4, none⟩ = some (.string data) := Blk.cell (Blk.turn (show Blk wo.drew p 32 _ from HP.out) hT (fun h => by omega)) 4
          have HF := Lib.hid hcase
          have HN := Lib.hid (And.intro hN (And.intro hT hnear))
          obtain ⟨M, hM⟩ : ∃ M : Int, M = (m : Int) := ⟨_, rfl⟩
          have hM0 : 0 ≤ M := by omega
          have hMd : M ≤ (data.size : Int) := by omega
          have HM := Lib.hid hM
          rw [← hM]
          have HM2 := Lib.hid (And.intro hm1 hm2)
          clear hM hm3 hcase hN hT hnear hm1 hm2 p0 p1 p3 p4 a0
          by_cases her : er = 0
          · subst her
            have hfl : Flow L' 1 g0 (s0 ++ data.extract 0 m) := by
              rcases HF.out with h | h
              · exact absurd rfl h.1
              · exact h.2
            have hother : Flow L' 2 g1 s1 := HO.out.fl1.near HN.out.2.2 (by decide)
            have hlive : Live L' 1 := HO.out.live.near HN.out.2.2
            have hsb6 : Blk w6 (q + 1) 30 #[.string s0, .string s1] := Blk.turn (show Blk wo.drew (q + 1) 30 _ from HO.out.sb) HN.out.2.1 (fun h => by omega)
            have b6 : w6.cell? ⟨q + 1, 0, none⟩ = some (.string s0) := Blk.cell hsb6 0
            have f6 : w6.frozen? ⟨q + 1, 0, none⟩ = false := Blk.free hsb6 0
            have dM0 : decide (0 ≤ M) = true := by simpa using hM0
            have dM1 : decide (M ≤ (data.size : Int)) = true := by simpa using hMd
            have hadd := fun w : World => run_string_add_sum (P := Try.prog) w s0 (data.extract 0 M.toNat) (by rw [ByteArray.size_extract]; have h1 := HO.out.z0; have h2 := HM.out; have h3 := HM2.out; omega)
            have HFL := Lib.hid (And.intro hfl (And.intro hother hlive))
            have HSB := Lib.hid hsb6
            clear hfl hother hlive hsb6
            go_wp2_with fail
            refine wp_region_still_tail 10 (by kernel_rfl) (by kernel_rfl) ?_
            simp only [List.take_succ_cons, List.take_zero, List.drop_succ_cons, List.drop_zero]
            repeat still_step
            refine wpStill_nil ?_
            change wpList _ _ _ _ _ w6.drew
            go_wp2_with fail
            go_roundw
            case rel =>
              have hmM : M.toNat = m := by have := HM.out; omega
              rw [hmM]
              refine ⟨k + 1, L', s0 ++ data.extract 0 m, s1, g0, g1, by omega, by go_num, ?_⟩
              have hN := HN.out
              have hO := HO.out
              have hB : Below w.heap.size w w6 := (Below.drew hO.tu).trans ((hN.2.1).below (by have := hO.lt; have := hO.wq; show w.heap.size ≤ wo.heap.size; omega) (fun k hk h => by omega))
              have hcb6 : Blk w6 q 29 #[.int .i64 1, .int .i64 2] := Blk.turn (show Blk wo.drew q 29 _ from hO.cb) hN.2.1 (fun h => by omega)
              have hgb6 : Blk w6 (q + 2) 30 #[.string g0, .string g1] := Blk.turn (show Blk wo.drew (q + 2) 30 _ from hO.gb) hN.2.1 (fun h => by omega)
              have hT7 : Turn (fun k => k = q + 1) w6.drew (w6.drew.setCell ⟨q + 1, 0, none⟩ (.string (s0 ++ data.extract 0 m))) := Turn.cell _ _ _ _
              refine ⟨(hN.1.drewN 1).turn hT7 (fun k h e => by omega), Blk.turn (show Blk w6.drew q 29 _ from hcb6) hT7 (fun h => by omega), Blk.set (show Blk w6.drew (q + 1) 30 _ from HSB.out) 0 _, Blk.turn (show Blk w6.drew (q + 2) 30 _ from hgb6) hT7 (fun h => by omega), HFL.out.1, HFL.out.2.1, HFL.out.2.2, ?_, ?_, Below.setCell (Below.drew hB) (p := ⟨q + 1, 0, none⟩) (by have := hO.wq; show w.heap.size ≤ q + 1; omega) _, hO.wq⟩
              · refine Nat.le_trans (Nat.le_of_eq ByteArray.size_append) (Nat.le_trans (Nat.add_le_add hO.z0 (show (data.extract 0 m).size ≤ 65536 by rw [ByteArray.size_extract]; have := HM2.out; omega)) (Nat.le_of_eq (Nat.succ_mul k 65536).symm))
              · exact Nat.le_trans hO.z1 (Nat.mul_le_mul_right _ (Nat.le_succ k))
            case measure => simp [intOf]; omega
          · have hern : (er == 0) = false := by simpa using her
            have HER := Lib.hid her
            have hfl : Flow L' 1 g0 s0 := by
              rcases HF.out with h | h
              · exact h.2
              · exact absurd h.1 her
            have hA6 : TwoAt w w6 q bn L' k s0 s1 g0 g1 := (HO.out.drew 1).call HN.out.1 HN.out.2.1 hfl (HO.out.fl1.near HN.out.2.2 (by decide)) (HO.out.live.near HN.out.2.2)
            have HA6 := Lib.hid hA6
            clear her hfl hA6
            go_wp2_with fail
            go_roundw
            case rel => exact ⟨k + 1, L', s0, s1, g0, g1, by omega, by go_num, HA6.out.next⟩
            case measure => simp [intOf]; omega
        · have a0 : wo.cell? ⟨q, 0, none⟩ = some (.int .i64 1) := Blk.cell HO.out.cb 0
          go_wp2_with fail
          refine wp_region_still_tail 6 (by kernel_rfl) (by kernel_rfl) ?_
          simp only [List.take_succ_cons, List.take_zero, List.drop_succ_cons, List.drop_zero]
          repeat still_step
          refine wpStill_nil ?_
          change wpList _ _ _ _ _ wo.drew
          go_wp2_with fail
          refine (move11_flow (F := fun k => w.heap.size ≤ k ∧ k < q) (w := wo.drew) (HO.out.drew 1).net HO.out.fl0 (by decide) many).mono ?_
          rintro e w6 ⟨v6, L', rfl, ⟨ra, rb, rfl⟩, hN, hT, hnear, hfl⟩
          have hA6 : TwoAt w w6 q bn L' k s0 s1 g0 g1 := (HO.out.drew 1).call hN hT hfl (HO.out.fl1.near hnear (by decide)) (HO.out.live.near hnear)
          have HA6 := Lib.hid hA6
          clear hN hT hnear hfl hA6 p0 p1 p3 p4 a0
          go_wp2_with fail
          go_roundw
          case rel => exact ⟨k + 1, L', s0, s1, g0, g1, by omega, by go_num, HA6.out.next⟩
          case measure => simp [intOf]; omega
        · have a0 : wo.cell? ⟨q, 0, none⟩ = some (.int .i64 1) := Blk.cell HO.out.cb 0
          go_wp2_with fail
          refine wp_region_still_tail 6 (by kernel_rfl) (by kernel_rfl) ?_
          simp only [List.take_succ_cons, List.take_zero, List.drop_succ_cons, List.drop_zero]
          repeat still_step
          refine wpStill_nil ?_
          change wpList _ _ _ _ _ wo.drew
          go_wp2_with fail
          refine (move11_flow (F := fun k => w.heap.size ≤ k ∧ k < q) (w := wo.drew) (HO.out.drew 1).net HO.out.fl0 (by decide) many).mono ?_
          rintro e w6 ⟨v6, L', rfl, ⟨ra, rb, rfl⟩, hN, hT, hnear, hfl⟩
          have hA6 : TwoAt w w6 q bn L' k s0 s1 g0 g1 := (HO.out.drew 1).call hN hT hfl (HO.out.fl1.near hnear (by decide)) (HO.out.live.near hnear)
          have HA6 := Lib.hid hA6
          clear hN hT hnear hfl hA6 p0 p1 p3 p4 a0
          go_wp2_with fail
          go_roundw
          case rel => exact ⟨k + 1, L', s0, s1, g0, g1, by omega, by go_num, HA6.out.next⟩
          case measure => simp [intOf]; omega
        · have a0 : wo.cell? ⟨q, 0, none⟩ = some (.int .i64 1) := Blk.cell HO.out.cb 0
          go_wp2_with fail
          refine hp_start (fun w' => w'.cell? ⟨q, 0, none⟩ = some (.int .i64 1) ∧ w'.cell? ⟨p, 3, none⟩ = some (.int .i64 many)) 12 rfl (by kernel_rfl) (fun c a a' w hd h => ⟨hd ▸ h.1, h.2⟩) (fun hP => ?_)
          rw [show Array.replicate 12 false = #[false, false, false, false, false, false, false, false, false, false, false, false] from rfl]
          have HS0 : wo.drew.cell? ⟨q, 0, none⟩ = some (.int .i64 1) ∧ wo.drew.cell? ⟨p, 3, none⟩ = some (.int .i64 many) := ⟨a0, p3⟩
          refine hp_take hP 0 (some 111) _ rfl rfl (by kernel_rfl) rfl (fun w' hS' => by go_simp; rfl) HS0 ?_
          simp only [Act.put, List.setIfInBounds_toArray, List.set_cons_zero, List.set_cons_succ]
          refine hp_take hP 1 (some 112) _ rfl rfl (by kernel_rfl) rfl (fun w' hS' => by go_simp; rfl) HS0 ?_
          simp only [Act.put, List.setIfInBounds_toArray, List.set_cons_zero, List.set_cons_succ]
          refine hp_take hP 2 (some 113) _ rfl rfl (by kernel_rfl) rfl (fun w' hS' => by go_simp; rfl) HS0 ?_
          simp only [Act.put, List.setIfInBounds_toArray, List.set_cons_zero, List.set_cons_succ]
          refine hp_take hP 3 (some 114) _ rfl rfl (by kernel_rfl) rfl (fun w' hS' => by have cc := hS'.1; go_simp; rfl) HS0 ?_
          simp only [Act.put, List.setIfInBounds_toArray, List.set_cons_zero, List.set_cons_succ]
          refine hp_take hP 4 (some 115) _ rfl rfl (by kernel_rfl) rfl (fun w' hS' => by go_simp; rfl) HS0 ?_
          simp only [Act.put, List.setIfInBounds_toArray, List.set_cons_zero, List.set_cons_succ]
          refine hp_take hP 5 (some 116) _ rfl rfl (by kernel_rfl) rfl (fun w' hS' => by have cc := hS'.2; go_simp; rfl) HS0 ?_
          simp only [Act.put, List.setIfInBounds_toArray, List.set_cons_zero, List.set_cons_succ]
          refine hp_call 6 (some 117) rfl rfl (by kernel_rfl) rfl 12 #[.pointer (some ⟨bn, 0, none⟩), .int .i64 1, .int .i64 1, .int .i64 many] (by go_simp) ((take12_flow (F := fun k => w.heap.size ≤ k ∧ k < q) (w := wo.drew) (HO.out.drew 1).net HO.out.fl0 (by decide) many).mono ?_)
          rintro e w6 ⟨tb, er, L', rfl, hN, hT, hnear, hfl⟩
          have HS1 : w6.cell? ⟨q, 0, none⟩ = some (.int .i64 1) ∧ w6.cell? ⟨p, 3, none⟩ = some (.int .i64 many) := ⟨Blk.cell (Blk.turn (show Blk wo.drew q 29 _ from HO.out.cb) hT (fun h => by omega)) 0, Blk.cell (Blk.turn (show Blk wo.drew p 32 _ from HP.out) hT (fun h => by omega)) 3⟩
          refine ⟨_, rfl, HS1, ?_⟩
          simp only [Act.put, List.setIfInBounds_toArray, List.set_cons_zero, List.set_cons_succ]
          refine hp_take hP 7 (some 110) _ rfl rfl (by kernel_rfl) rfl (fun w' hS' => by go_simp; rfl) HS1 ?_
          simp only [Act.put, List.setIfInBounds_toArray, List.set_cons_zero, List.set_cons_succ]
          refine hp_take hP 8 (some 118) _ rfl rfl (by kernel_rfl) rfl (fun w' hS' => by go_simp; rfl) HS1 ?_
          simp only [Act.put, List.setIfInBounds_toArray, List.set_cons_zero, List.set_cons_succ]
          refine hp_take hP 9 (some 119) _ rfl rfl (by kernel_rfl) rfl (fun w' hS' => by go_simp; rfl) HS1 ?_
          simp only [Act.put, List.setIfInBounds_toArray, List.set_cons_zero, List.set_cons_succ]
          refine hp_take hP 10 (some 17) _ rfl rfl (by kernel_rfl) rfl (fun w' hS' => by go_simp; rfl) HS1 ?_
          simp only [Act.put, List.setIfInBounds_toArray, List.set_cons_zero, List.set_cons_succ]
          refine hp_take hP 11 (some 18) _ rfl rfl (by kernel_rfl) rfl (fun w' hS' => by go_simp; rfl) HS1 ?_
          simp only [Act.put, List.setIfInBounds_toArray, List.set_cons_zero, List.set_cons_succ]
          refine hk_done (by kernel_rfl) ?_
          clear HS0 HS1 hP
          have hO := HO.out
          obtain ⟨hle, hpre⟩ := hfl.le
          have hszt : g0.size + tb.size ≤ 9223372036854775807 := by
            have h1 := hle
            rw [ByteArray.size_append] at h1
            have := hO.z0
            omega
          have hadd := fun w : World => run_string_add_sum (P := Try.prog) w g0 tb hszt
          obtain ⟨G, hG⟩ : ∃ G, g0 ++ tb = G := ⟨_, rfl⟩
          rw [hG] at hadd hfl hle hpre
          have hgb6 : Blk w6 (q + 2) 30 #[.string g0, .string g1] := Blk.turn (show Blk wo.drew (q + 2) 30 _ from hO.gb) hT (fun h => by omega)
          have hsb6 : Blk w6 (q + 1) 30 #[.string s0, .string s1] := Blk.turn (show Blk wo.drew (q + 1) 30 _ from hO.sb) hT (fun h => by omega)
          have hcb6 : Blk w6 q 29 #[.int .i64 1, .int .i64 2] := Blk.turn (show Blk wo.drew q 29 _ from hO.cb) hT (fun h => by omega)
          have hB : Below w.heap.size w w6 := (Below.drew hO.tu).trans (hT.below (by have := hO.lt; have := hO.wq; show w.heap.size ≤ wo.heap.size; omega) (fun k hk h => by omega))
          have hT7 : Turn (fun k => k = q + 2) w6 (w6.setCell ⟨q + 2, 0, none⟩ (.string G)) := Turn.cell _ _ _ _
          have hA7 : TwoAt w (w6.setCell ⟨q + 2, 0, none⟩ (.string G)) q bn L' k s0 s1 G g1 := by
            refine ⟨hN.turn hT7 (fun k h e => by omega), Blk.turn hcb6 hT7 (fun h => by omega), Blk.turn hsb6 hT7 (fun h => by omega), Blk.set hgb6 0 _, hfl, hO.fl1.near hnear (by decide), hO.live.near hnear, hO.z0, hO.z1, Below.setCell hB (p := ⟨q + 2, 0, none⟩) (by have := hO.wq; show w.heap.size ≤ q + 2; omega) _, hO.wq⟩
          have g6 : w6.cell? ⟨q + 2, 0, none⟩ = some (.string g0) := Blk.cell hgb6 0
          have f6 : w6.frozen? ⟨q + 2, 0, none⟩ = false := Blk.free hgb6 0
          have HA7 := Lib.hid hA7
          clear hO hfl hN hT hnear hgb6 hsb6 hcb6 hB hT7 hA7 hszt hG p0 p1 p3 p4 a0
          go_upto_region 29 with (fail)
          obtain ⟨w7, hw7⟩ : ∃ w7, w7 = w6.setCell ⟨q + 2, 0, none⟩ (.string G) := ⟨_, rfl⟩
          rw [← hw7] at HA7 ⊢
          clear hw7 g6 f6
          have g7 : w7.cell? ⟨q + 2, 0, none⟩ = some (.string G) := Blk.cell HA7.out.gb 0
          have s7 : w7.cell? ⟨q + 1, 0, none⟩ = some (.string s0) := Blk.cell HA7.out.sb 0
          have d5 : decide ((s0.size : Int) < (G.size : Int)) = false := by simp; omega
          have d6 : decide (s0.size < G.size) = false := by simp; omega
          have hle2 : (G.size : Int) ≤ (s0.size : Int) := by omega
          have hsl := fun w : World => (run_slice_pre w s0 G hle hpre)
          have hneq := fun w : World => (run_neq_self w G)
          have HLE := Lib.hid hle
          have HPRE := Lib.hid hpre
          clear hle hpre
          go_quiet (fail)
          go_wp2_with fail
          go_roundw
          case rel => exact ⟨k + 1, L', s0, s1, G, g1, by omega, by go_num, (HA7.out.drew _).next⟩
          case measure => simp [intOf]; omega
        · have a0 : wo.cell? ⟨q, 0, none⟩ = some (.int .i64 1) := Blk.cell HO.out.cb 0
          go_wp2_with fail
          refine hp_start (fun w' => w'.cell? ⟨q, 0, none⟩ = some (.int .i64 1) ∧ w'.cell? ⟨p, 3, none⟩ = some (.int .i64 many)) 12 rfl (by kernel_rfl) (fun c a a' w hd h => ⟨hd ▸ h.1, h.2⟩) (fun hP => ?_)
          rw [show Array.replicate 12 false = #[false, false, false, false, false, false, false, false, false, false, false, false] from rfl]
          have HS0 : wo.drew.cell? ⟨q, 0, none⟩ = some (.int .i64 1) ∧ wo.drew.cell? ⟨p, 3, none⟩ = some (.int .i64 many) := ⟨a0, p3⟩
          refine hp_take hP 0 (some 111) _ rfl rfl (by kernel_rfl) rfl (fun w' hS' => by go_simp; rfl) HS0 ?_
          simp only [Act.put, List.setIfInBounds_toArray, List.set_cons_zero, List.set_cons_succ]
          refine hp_take hP 1 (some 112) _ rfl rfl (by kernel_rfl) rfl (fun w' hS' => by go_simp; rfl) HS0 ?_
          simp only [Act.put, List.setIfInBounds_toArray, List.set_cons_zero, List.set_cons_succ]
          refine hp_take hP 2 (some 113) _ rfl rfl (by kernel_rfl) rfl (fun w' hS' => by go_simp; rfl) HS0 ?_
          simp only [Act.put, List.setIfInBounds_toArray, List.set_cons_zero, List.set_cons_succ]
          refine hp_take hP 3 (some 114) _ rfl rfl (by kernel_rfl) rfl (fun w' hS' => by have cc := hS'.1; go_simp; rfl) HS0 ?_
          simp only [Act.put, List.setIfInBounds_toArray, List.set_cons_zero, List.set_cons_succ]
          refine hp_take hP 4 (some 115) _ rfl rfl (by kernel_rfl) rfl (fun w' hS' => by go_simp; rfl) HS0 ?_
          simp only [Act.put, List.setIfInBounds_toArray, List.set_cons_zero, List.set_cons_succ]
          refine hp_take hP 5 (some 116) _ rfl rfl (by kernel_rfl) rfl (fun w' hS' => by have cc := hS'.2; go_simp; rfl) HS0 ?_
          simp only [Act.put, List.setIfInBounds_toArray, List.set_cons_zero, List.set_cons_succ]
          refine hp_call 6 (some 117) rfl rfl (by kernel_rfl) rfl 12 #[.pointer (some ⟨bn, 0, none⟩), .int .i64 1, .int .i64 1, .int .i64 many] (by go_simp) ((take12_flow (F := fun k => w.heap.size ≤ k ∧ k < q) (w := wo.drew) (HO.out.drew 1).net HO.out.fl0 (by decide) many).mono ?_)
          rintro e w6 ⟨tb, er, L', rfl, hN, hT, hnear, hfl⟩
          have HS1 : w6.cell? ⟨q, 0, none⟩ = some (.int .i64 1) ∧ w6.cell? ⟨p, 3, none⟩ = some (.int .i64 many) := ⟨Blk.cell (Blk.turn (show Blk wo.drew q 29 _ from HO.out.cb) hT (fun h => by omega)) 0, Blk.cell (Blk.turn (show Blk wo.drew p 32 _ from HP.out) hT (fun h => by omega)) 3⟩
          refine ⟨_, rfl, HS1, ?_⟩
          simp only [Act.put, List.setIfInBounds_toArray, List.set_cons_zero, List.set_cons_succ]
          refine hp_take hP 7 (some 110) _ rfl rfl (by kernel_rfl) rfl (fun w' hS' => by go_simp; rfl) HS1 ?_
          simp only [Act.put, List.setIfInBounds_toArray, List.set_cons_zero, List.set_cons_succ]
          refine hp_take hP 8 (some 118) _ rfl rfl (by kernel_rfl) rfl (fun w' hS' => by go_simp; rfl) HS1 ?_
          simp only [Act.put, List.setIfInBounds_toArray, List.set_cons_zero, List.set_cons_succ]
          refine hp_take hP 9 (some 119) _ rfl rfl (by kernel_rfl) rfl (fun w' hS' => by go_simp; rfl) HS1 ?_
          simp only [Act.put, List.setIfInBounds_toArray, List.set_cons_zero, List.set_cons_succ]
          refine hp_take hP 10 (some 17) _ rfl rfl (by kernel_rfl) rfl (fun w' hS' => by go_simp; rfl) HS1 ?_
          simp only [Act.put, List.setIfInBounds_toArray, List.set_cons_zero, List.set_cons_succ]
          refine hp_take hP 11 (some 18) _ rfl rfl (by kernel_rfl) rfl (fun w' hS' => by go_simp; rfl) HS1 ?_
          simp only [Act.put, List.setIfInBounds_toArray, List.set_cons_zero, List.set_cons_succ]
          refine hk_done (by kernel_rfl) ?_
          clear HS0 HS1 hP
          have hO := HO.out
          obtain ⟨hle, hpre⟩ := hfl.le
          have hszt : g0.size + tb.size ≤ 9223372036854775807 := by
            have h1 := hle
            rw [ByteArray.size_append] at h1
            have := hO.z0
            omega
          have hadd := fun w : World => run_string_add_sum (P := Try.prog) w g0 tb hszt
          obtain ⟨G, hG⟩ : ∃ G, g0 ++ tb = G := ⟨_, rfl⟩
          rw [hG] at hadd hfl hle hpre
          have hgb6 : Blk w6 (q + 2) 30 #[.string g0, .string g1] := Blk.turn (show Blk wo.drew (q + 2) 30 _ from hO.gb) hT (fun h => by omega)
          have hsb6 : Blk w6 (q + 1) 30 #[.string s0, .string s1] := Blk.turn (show Blk wo.drew (q + 1) 30 _ from hO.sb) hT (fun h => by omega)
          have hcb6 : Blk w6 q 29 #[.int .i64 1, .int .i64 2] := Blk.turn (show Blk wo.drew q 29 _ from hO.cb) hT (fun h => by omega)
          have hB : Below w.heap.size w w6 := (Below.drew hO.tu).trans (hT.below (by have := hO.lt; have := hO.wq; show w.heap.size ≤ wo.heap.size; omega) (fun k hk h => by omega))
          have hT7 : Turn (fun k => k = q + 2) w6 (w6.setCell ⟨q + 2, 0, none⟩ (.string G)) := Turn.cell _ _ _ _
          have hA7 : TwoAt w (w6.setCell ⟨q + 2, 0, none⟩ (.string G)) q bn L' k s0 s1 G g1 := by
            refine ⟨hN.turn hT7 (fun k h e => by omega), Blk.turn hcb6 hT7 (fun h => by omega), Blk.turn hsb6 hT7 (fun h => by omega), Blk.set hgb6 0 _, hfl, hO.fl1.near hnear (by decide), hO.live.near hnear, hO.z0, hO.z1, Below.setCell hB (p := ⟨q + 2, 0, none⟩) (by have := hO.wq; show w.heap.size ≤ q + 2; omega) _, hO.wq⟩
          have g6 : w6.cell? ⟨q + 2, 0, none⟩ = some (.string g0) := Blk.cell hgb6 0
          have f6 : w6.frozen? ⟨q + 2, 0, none⟩ = false := Blk.free hgb6 0
          have HA7 := Lib.hid hA7
          clear hO hfl hN hT hnear hgb6 hsb6 hcb6 hB hT7 hA7 hszt hG p0 p1 p3 p4 a0
          go_upto_region 29 with (fail)
          obtain ⟨w7, hw7⟩ : ∃ w7, w7 = w6.setCell ⟨q + 2, 0, none⟩ (.string G) := ⟨_, rfl⟩
          rw [← hw7] at HA7 ⊢
          clear hw7 g6 f6
          have g7 : w7.cell? ⟨q + 2, 0, none⟩ = some (.string G) := Blk.cell HA7.out.gb 0
          have s7 : w7.cell? ⟨q + 1, 0, none⟩ = some (.string s0) := Blk.cell HA7.out.sb 0
          have d5 : decide ((s0.size : Int) < (G.size : Int)) = false := by simp; omega
          have d6 : decide (s0.size < G.size) = false := by simp; omega
          have hle2 : (G.size : Int) ≤ (s0.size : Int) := by omega
          have hsl := fun w : World => (run_slice_pre w s0 G hle hpre)
          have hneq := fun w : World => (run_neq_self w G)
          have HLE := Lib.hid hle
          have HPRE := Lib.hid hpre
          clear hle hpre
          go_quiet (fail)
          go_wp2_with fail
          go_roundw
          case rel => exact ⟨k + 1, L', s0, s1, G, g1, by omega, by go_num, (HA7.out.drew _).next⟩
          case measure => simp [intOf]; omega
        · have r0 : (R == 0) = false := by simp; omega
          have r1 : (R == 1) = false := by simp; omega
          have r2 : (R == -1) = false := by simp; omega
          have r3 : (R == 2) = false := by simp; omega
          have r4 : (R == -2) = false := by simp; omega
          have a1 : wo.cell? ⟨q, 1, none⟩ = some (.int .i64 2) := Blk.cell HO.out.cb 1
          obtain ⟨Z, hZ⟩ : ∃ Z, many.tmod 9 = Z := ⟨_, rfl⟩
          by_cases hz : Z = 0
          · subst hz
            go_wp2_with fail
            refine (cut13_flow (F := fun k => w.heap.size ≤ k ∧ k < q) (w := wo) HO.out.net (x := 2) (by decide)).mono ?_
            rintro e w6 ⟨er, L', rfl, hN, hT, hnear, hfl⟩
            have hA6 : TwoAt w w6 q bn L' k s0 s1 g0 g1 := HO.out.call hN hT (hfl _ _ _ HO.out.fl0) (hfl _ _ _ HO.out.fl1) (HO.out.live.other (hnear 1 (by decide)))
            have HA6 := Lib.hid hA6
            clear hN hT hnear hfl hA6 p0 p1 p3 p4 a1
            go_wp2_with fail
            go_roundw
            case rel => exact ⟨k + 1, L', s0, s1, g0, g1, by omega, by go_num, HA6.out.next⟩
            case measure => simp [intOf]; omega
          · have hz' : (Z == 0) = false := by simpa using hz
            clear hz
            go_wp2_with fail
            go_roundw
            case rel => exact ⟨k + 1, L, s0, s1, g0, g1, by omega, by go_num, HO.out.next⟩
            case measure => simp [intOf]; omega
      · rcases hR2 with rfl | rfl | rfl | rfl | rfl | hR3
        · have a0 : wo.cell? ⟨q, 1, none⟩ = some (.int .i64 2) := Blk.cell HO.out.cb 1
          go_wp2_with fail
          refine hp_start (fun w' => w'.cell? ⟨q, 1, none⟩ = some (.int .i64 2) ∧ w'.cell? ⟨p, 4, none⟩ = some (.string data)) 12 rfl (by kernel_rfl) (fun c a a' w hd h => ⟨hd ▸ h.1, h.2⟩) (fun hP => ?_)
          rw [show Array.replicate 12 false = #[false, false, false, false, false, false, false, false, false, false, false, false] from rfl]
          have HS0 : wo.drew.cell? ⟨q, 1, none⟩ = some (.int .i64 2) ∧ wo.drew.cell? ⟨p, 4, none⟩ = some (.string data) := ⟨a0, p4⟩
          refine hp_take hP 0 (some 65) _ rfl rfl (by kernel_rfl) rfl (fun w' hS' => by go_simp; rfl) HS0 ?_
          simp only [Act.put, List.setIfInBounds_toArray, List.set_cons_zero, List.set_cons_succ]
          refine hp_take hP 1 (some 66) _ rfl rfl (by kernel_rfl) rfl (fun w' hS' => by go_simp; rfl) HS0 ?_
          simp only [Act.put, List.setIfInBounds_toArray, List.set_cons_zero, List.set_cons_succ]
          refine hp_take hP 2 (some 67) _ rfl rfl (by kernel_rfl) rfl (fun w' hS' => by go_simp; rfl) HS0 ?_
          simp only [Act.put, List.setIfInBounds_toArray, List.set_cons_zero, List.set_cons_succ]
          refine hp_take hP 3 (some 68) _ rfl rfl (by kernel_rfl) rfl (fun w' hS' => by have cc := hS'.1; go_simp; rfl) HS0 ?_
          simp only [Act.put, List.setIfInBounds_toArray, List.set_cons_zero, List.set_cons_succ]
          refine hp_take hP 4 (some 69) _ rfl rfl (by kernel_rfl) rfl (fun w' hS' => by go_simp; rfl) HS0 ?_
          simp only [Act.put, List.setIfInBounds_toArray, List.set_cons_zero, List.set_cons_succ]
          refine hp_take hP 5 (some 70) _ rfl rfl (by kernel_rfl) rfl (fun w' hS' => by have cc := hS'.2; go_simp; rfl) HS0 ?_
          simp only [Act.put, List.setIfInBounds_toArray, List.set_cons_zero, List.set_cons_succ]
          refine hp_call 6 (some 71) rfl rfl (by kernel_rfl) rfl 10 #[.pointer (some ⟨bn, 0, none⟩), .int .i64 2, .int .i64 0, .string data] (by go_simp) ((send10_flow (F := fun k => w.heap.size ≤ k ∧ k < q) (w := wo.drew) (HO.out.drew 1).net HO.out.fl1 (by decide) data hdm).mono ?_)
          rintro e w6 ⟨m, er, L', rfl, hN, hT, hnear, hm1, hm2, hcase⟩
          have HS1 : w6.cell? ⟨q, 1, none⟩ = some (.int .i64 2) ∧ w6.cell? ⟨p, 4, none⟩ = some (.string data) := ⟨Blk.cell (Blk.turn (show Blk wo.drew q 29 _ from HO.out.cb) hT (fun h => by omega)) 1, Blk.cell (Blk.turn (show Blk wo.drew p 32 _ from HP.out) hT (fun h => by omega)) 4⟩
          refine ⟨_, rfl, HS1, ?_⟩
          simp only [Act.put, List.setIfInBounds_toArray, List.set_cons_zero, List.set_cons_succ]
          refine hp_take hP 7 (some 64) _ rfl rfl (by kernel_rfl) rfl (fun w' hS' => by go_simp; rfl) HS1 ?_
          simp only [Act.put, List.setIfInBounds_toArray, List.set_cons_zero, List.set_cons_succ]
          refine hp_take hP 8 (some 72) _ rfl rfl (by kernel_rfl) rfl (fun w' hS' => by go_simp; rfl) HS1 ?_
          simp only [Act.put, List.setIfInBounds_toArray, List.set_cons_zero, List.set_cons_succ]
          refine hp_take hP 9 (some 73) _ rfl rfl (by kernel_rfl) rfl (fun w' hS' => by go_simp; rfl) HS1 ?_
          simp only [Act.put, List.setIfInBounds_toArray, List.set_cons_zero, List.set_cons_succ]
          refine hp_take hP 10 (some 15) _ rfl rfl (by kernel_rfl) rfl (fun w' hS' => by go_simp; rfl) HS1 ?_
          simp only [Act.put, List.setIfInBounds_toArray, List.set_cons_zero, List.set_cons_succ]
          refine hp_take hP 11 (some 16) _ rfl rfl (by kernel_rfl) rfl (fun w' hS' => by go_simp; rfl) HS1 ?_
          simp only [Act.put, List.setIfInBounds_toArray, List.set_cons_zero, List.set_cons_succ]
          refine hk_done (by kernel_rfl) ?_
          clear HS0 HS1 hP
          have hm3 : (m : Int) ≤ (data.size : Int) := by omega
          have P4 : w6.cell? ⟨p, 4, none⟩ = some (.string data) := Blk.cell (Blk.turn (show Blk wo.drew p 32 _ from HP.out) hT (fun h => by omega)) 4
          have HF := Lib.hid hcase
          have HN := Lib.hid (And.intro hN (And.intro hT hnear))
          obtain ⟨M, hM⟩ : ∃ M : Int, M = (m : Int) := ⟨_, rfl⟩
          have hM0 : 0 ≤ M := by omega
          have hMd : M ≤ (data.size : Int) := by omega
          have HM := Lib.hid hM
          rw [← hM]
          have HM2 := Lib.hid (And.intro hm1 hm2)
          clear hM hm3 hcase hN hT hnear hm1 hm2 p0 p1 p3 p4 a0
          by_cases her : er = 0
          · subst her
            have hfl : Flow L' 2 g1 (s1 ++ data.extract 0 m) := by
              rcases HF.out with h | h
              · exact absurd rfl h.1
              · exact h.2
            have hother : Flow L' 1 g0 s0 := HO.out.fl0.near HN.out.2.2 (by decide)
            have hlive : Live L' 1 := HO.out.live.near HN.out.2.2
            have hsb6 : Blk w6 (q + 1) 30 #[.string s0, .string s1] := Blk.turn (show Blk wo.drew (q + 1) 30 _ from HO.out.sb) HN.out.2.1 (fun h => by omega)
            have b6 : w6.cell? ⟨q + 1, 1, none⟩ = some (.string s1) := Blk.cell hsb6 1
            have f6 : w6.frozen? ⟨q + 1, 1, none⟩ = false := Blk.free hsb6 1
            have dM0 : decide (0 ≤ M) = true := by simpa using hM0
            have dM1 : decide (M ≤ (data.size : Int)) = true := by simpa using hMd
            have hadd := fun w : World => run_string_add_sum (P := Try.prog) w s1 (data.extract 0 M.toNat) (by rw [ByteArray.size_extract]; have h1 := HO.out.z1; have h2 := HM.out; have h3 := HM2.out; omega)
            have HFL := Lib.hid (And.intro hfl (And.intro hother hlive))
            have HSB := Lib.hid hsb6
            clear hfl hother hlive hsb6
            go_wp2_with fail
            refine wp_region_still_tail 10 (by kernel_rfl) (by kernel_rfl) ?_
            simp only [List.take_succ_cons, List.take_zero, List.drop_succ_cons, List.drop_zero]
            repeat still_step
            refine wpStill_nil ?_
            change wpList _ _ _ _ _ w6.drew
            go_wp2_with fail
            go_roundw
            case rel =>
              have hmM : M.toNat = m := by have := HM.out; omega
              rw [hmM]
              refine ⟨k + 1, L', s0, s1 ++ data.extract 0 m, g0, g1, by omega, by go_num, ?_⟩
              have hN := HN.out
              have hO := HO.out
              have hB : Below w.heap.size w w6 := (Below.drew hO.tu).trans ((hN.2.1).below (by have := hO.lt; have := hO.wq; show w.heap.size ≤ wo.heap.size; omega) (fun k hk h => by omega))
              have hcb6 : Blk w6 q 29 #[.int .i64 1, .int .i64 2] := Blk.turn (show Blk wo.drew q 29 _ from hO.cb) hN.2.1 (fun h => by omega)
              have hgb6 : Blk w6 (q + 2) 30 #[.string g0, .string g1] := Blk.turn (show Blk wo.drew (q + 2) 30 _ from hO.gb) hN.2.1 (fun h => by omega)
              have hT7 : Turn (fun k => k = q + 1) w6.drew (w6.drew.setCell ⟨q + 1, 1, none⟩ (.string (s1 ++ data.extract 0 m))) := Turn.cell _ _ _ _
              refine ⟨(hN.1.drewN 1).turn hT7 (fun k h e => by omega), Blk.turn (show Blk w6.drew q 29 _ from hcb6) hT7 (fun h => by omega), Blk.set (show Blk w6.drew (q + 1) 30 _ from HSB.out) 1 _, Blk.turn (show Blk w6.drew (q + 2) 30 _ from hgb6) hT7 (fun h => by omega), HFL.out.2.1, HFL.out.1, HFL.out.2.2, ?_, ?_, Below.setCell (Below.drew hB) (p := ⟨q + 1, 1, none⟩) (by have := hO.wq; show w.heap.size ≤ q + 1; omega) _, hO.wq⟩
              · exact Nat.le_trans hO.z0 (Nat.mul_le_mul_right _ (Nat.le_succ k))
              · refine Nat.le_trans (Nat.le_of_eq ByteArray.size_append) (Nat.le_trans (Nat.add_le_add hO.z1 (show (data.extract 0 m).size ≤ 65536 by rw [ByteArray.size_extract]; have := HM2.out; omega)) (Nat.le_of_eq (Nat.succ_mul k 65536).symm))
            case measure => simp [intOf]; omega
          · have hern : (er == 0) = false := by simpa using her
            have HER := Lib.hid her
            have hfl : Flow L' 2 g1 s1 := by
              rcases HF.out with h | h
              · exact h.2
              · exact absurd h.1 her
            have hA6 : TwoAt w w6 q bn L' k s0 s1 g0 g1 := (HO.out.drew 1).call HN.out.1 HN.out.2.1 (HO.out.fl0.near HN.out.2.2 (by decide)) hfl (HO.out.live.near HN.out.2.2)
            have HA6 := Lib.hid hA6
            clear her hfl hA6
            go_wp2_with fail
            go_roundw
            case rel => exact ⟨k + 1, L', s0, s1, g0, g1, by omega, by go_num, HA6.out.next⟩
            case measure => simp [intOf]; omega
        · have a0 : wo.cell? ⟨q, 1, none⟩ = some (.int .i64 2) := Blk.cell HO.out.cb 1
          go_wp2_with fail
          refine wp_region_still_tail 6 (by kernel_rfl) (by kernel_rfl) ?_
          simp only [List.take_succ_cons, List.take_zero, List.drop_succ_cons, List.drop_zero]
          repeat still_step
          refine wpStill_nil ?_
          change wpList _ _ _ _ _ wo.drew
          go_wp2_with fail
          refine (move11_flow (F := fun k => w.heap.size ≤ k ∧ k < q) (w := wo.drew) (HO.out.drew 1).net HO.out.fl1 (by decide) many).mono ?_
          rintro e w6 ⟨v6, L', rfl, ⟨ra, rb, rfl⟩, hN, hT, hnear, hfl⟩
          have hA6 : TwoAt w w6 q bn L' k s0 s1 g0 g1 := (HO.out.drew 1).call hN hT (HO.out.fl0.near hnear (by decide)) hfl (HO.out.live.near hnear)
          have HA6 := Lib.hid hA6
          clear hN hT hnear hfl hA6 p0 p1 p3 p4 a0
          go_wp2_with fail
          go_roundw
          case rel => exact ⟨k + 1, L', s0, s1, g0, g1, by omega, by go_num, HA6.out.next⟩
          case measure => simp [intOf]; omega
        · have a0 : wo.cell? ⟨q, 1, none⟩ = some (.int .i64 2) := Blk.cell HO.out.cb 1
          go_wp2_with fail
          refine wp_region_still_tail 6 (by kernel_rfl) (by kernel_rfl) ?_
          simp only [List.take_succ_cons, List.take_zero, List.drop_succ_cons, List.drop_zero]
          repeat still_step
          refine wpStill_nil ?_
          change wpList _ _ _ _ _ wo.drew
          go_wp2_with fail
          refine (move11_flow (F := fun k => w.heap.size ≤ k ∧ k < q) (w := wo.drew) (HO.out.drew 1).net HO.out.fl1 (by decide) many).mono ?_
          rintro e w6 ⟨v6, L', rfl, ⟨ra, rb, rfl⟩, hN, hT, hnear, hfl⟩
          have hA6 : TwoAt w w6 q bn L' k s0 s1 g0 g1 := (HO.out.drew 1).call hN hT (HO.out.fl0.near hnear (by decide)) hfl (HO.out.live.near hnear)
          have HA6 := Lib.hid hA6
          clear hN hT hnear hfl hA6 p0 p1 p3 p4 a0
          go_wp2_with fail
          go_roundw
          case rel => exact ⟨k + 1, L', s0, s1, g0, g1, by omega, by go_num, HA6.out.next⟩
          case measure => simp [intOf]; omega
        · have a0 : wo.cell? ⟨q, 1, none⟩ = some (.int .i64 2) := Blk.cell HO.out.cb 1
          go_wp2_with fail
          refine hp_start (fun w' => w'.cell? ⟨q, 1, none⟩ = some (.int .i64 2) ∧ w'.cell? ⟨p, 3, none⟩ = some (.int .i64 many)) 12 rfl (by kernel_rfl) (fun c a a' w hd h => ⟨hd ▸ h.1, h.2⟩) (fun hP => ?_)
          rw [show Array.replicate 12 false = #[false, false, false, false, false, false, false, false, false, false, false, false] from rfl]
          have HS0 : wo.drew.cell? ⟨q, 1, none⟩ = some (.int .i64 2) ∧ wo.drew.cell? ⟨p, 3, none⟩ = some (.int .i64 many) := ⟨a0, p3⟩
          refine hp_take hP 0 (some 111) _ rfl rfl (by kernel_rfl) rfl (fun w' hS' => by go_simp; rfl) HS0 ?_
          simp only [Act.put, List.setIfInBounds_toArray, List.set_cons_zero, List.set_cons_succ]
          refine hp_take hP 1 (some 112) _ rfl rfl (by kernel_rfl) rfl (fun w' hS' => by go_simp; rfl) HS0 ?_
          simp only [Act.put, List.setIfInBounds_toArray, List.set_cons_zero, List.set_cons_succ]
          refine hp_take hP 2 (some 113) _ rfl rfl (by kernel_rfl) rfl (fun w' hS' => by go_simp; rfl) HS0 ?_
          simp only [Act.put, List.setIfInBounds_toArray, List.set_cons_zero, List.set_cons_succ]
          refine hp_take hP 3 (some 114) _ rfl rfl (by kernel_rfl) rfl (fun w' hS' => by have cc := hS'.1; go_simp; rfl) HS0 ?_
          simp only [Act.put, List.setIfInBounds_toArray, List.set_cons_zero, List.set_cons_succ]
          refine hp_take hP 4 (some 115) _ rfl rfl (by kernel_rfl) rfl (fun w' hS' => by go_simp; rfl) HS0 ?_
          simp only [Act.put, List.setIfInBounds_toArray, List.set_cons_zero, List.set_cons_succ]
          refine hp_take hP 5 (some 116) _ rfl rfl (by kernel_rfl) rfl (fun w' hS' => by have cc := hS'.2; go_simp; rfl) HS0 ?_
          simp only [Act.put, List.setIfInBounds_toArray, List.set_cons_zero, List.set_cons_succ]
          refine hp_call 6 (some 117) rfl rfl (by kernel_rfl) rfl 12 #[.pointer (some ⟨bn, 0, none⟩), .int .i64 2, .int .i64 1, .int .i64 many] (by go_simp) ((take12_flow (F := fun k => w.heap.size ≤ k ∧ k < q) (w := wo.drew) (HO.out.drew 1).net HO.out.fl1 (by decide) many).mono ?_)
          rintro e w6 ⟨tb, er, L', rfl, hN, hT, hnear, hfl⟩
          have HS1 : w6.cell? ⟨q, 1, none⟩ = some (.int .i64 2) ∧ w6.cell? ⟨p, 3, none⟩ = some (.int .i64 many) := ⟨Blk.cell (Blk.turn (show Blk wo.drew q 29 _ from HO.out.cb) hT (fun h => by omega)) 1, Blk.cell (Blk.turn (show Blk wo.drew p 32 _ from HP.out) hT (fun h => by omega)) 3⟩
          refine ⟨_, rfl, HS1, ?_⟩
          simp only [Act.put, List.setIfInBounds_toArray, List.set_cons_zero, List.set_cons_succ]
          refine hp_take hP 7 (some 110) _ rfl rfl (by kernel_rfl) rfl (fun w' hS' => by go_simp; rfl) HS1 ?_
          simp only [Act.put, List.setIfInBounds_toArray, List.set_cons_zero, List.set_cons_succ]
          refine hp_take hP 8 (some 118) _ rfl rfl (by kernel_rfl) rfl (fun w' hS' => by go_simp; rfl) HS1 ?_
          simp only [Act.put, List.setIfInBounds_toArray, List.set_cons_zero, List.set_cons_succ]
          refine hp_take hP 9 (some 119) _ rfl rfl (by kernel_rfl) rfl (fun w' hS' => by go_simp; rfl) HS1 ?_
          simp only [Act.put, List.setIfInBounds_toArray, List.set_cons_zero, List.set_cons_succ]
          refine hp_take hP 10 (some 17) _ rfl rfl (by kernel_rfl) rfl (fun w' hS' => by go_simp; rfl) HS1 ?_
          simp only [Act.put, List.setIfInBounds_toArray, List.set_cons_zero, List.set_cons_succ]
          refine hp_take hP 11 (some 18) _ rfl rfl (by kernel_rfl) rfl (fun w' hS' => by go_simp; rfl) HS1 ?_
          simp only [Act.put, List.setIfInBounds_toArray, List.set_cons_zero, List.set_cons_succ]
          refine hk_done (by kernel_rfl) ?_
          clear HS0 HS1 hP
          have hO := HO.out
          obtain ⟨hle, hpre⟩ := hfl.le
          have hszt : g1.size + tb.size ≤ 9223372036854775807 := by
            have h1 := hle
            rw [ByteArray.size_append] at h1
            have := hO.z1
            omega
          have hadd := fun w : World => run_string_add_sum (P := Try.prog) w g1 tb hszt
          obtain ⟨G, hG⟩ : ∃ G, g1 ++ tb = G := ⟨_, rfl⟩
          rw [hG] at hadd hfl hle hpre
          have hgb6 : Blk w6 (q + 2) 30 #[.string g0, .string g1] := Blk.turn (show Blk wo.drew (q + 2) 30 _ from hO.gb) hT (fun h => by omega)
          have hsb6 : Blk w6 (q + 1) 30 #[.string s0, .string s1] := Blk.turn (show Blk wo.drew (q + 1) 30 _ from hO.sb) hT (fun h => by omega)
          have hcb6 : Blk w6 q 29 #[.int .i64 1, .int .i64 2] := Blk.turn (show Blk wo.drew q 29 _ from hO.cb) hT (fun h => by omega)
          have hB : Below w.heap.size w w6 := (Below.drew hO.tu).trans (hT.below (by have := hO.lt; have := hO.wq; show w.heap.size ≤ wo.heap.size; omega) (fun k hk h => by omega))
          have hT7 : Turn (fun k => k = q + 2) w6 (w6.setCell ⟨q + 2, 1, none⟩ (.string G)) := Turn.cell _ _ _ _
          have hA7 : TwoAt w (w6.setCell ⟨q + 2, 1, none⟩ (.string G)) q bn L' k s0 s1 g0 G := by
            refine ⟨hN.turn hT7 (fun k h e => by omega), Blk.turn hcb6 hT7 (fun h => by omega), Blk.turn hsb6 hT7 (fun h => by omega), Blk.set hgb6 1 _, hO.fl0.near hnear (by decide), hfl, hO.live.near hnear, hO.z0, hO.z1, Below.setCell hB (p := ⟨q + 2, 1, none⟩) (by have := hO.wq; show w.heap.size ≤ q + 2; omega) _, hO.wq⟩
          have g6 : w6.cell? ⟨q + 2, 1, none⟩ = some (.string g1) := Blk.cell hgb6 1
          have f6 : w6.frozen? ⟨q + 2, 1, none⟩ = false := Blk.free hgb6 1
          have HA7 := Lib.hid hA7
          clear hO hfl hN hT hnear hgb6 hsb6 hcb6 hB hT7 hA7 hszt hG p0 p1 p3 p4 a0
          go_upto_region 29 with (fail)
          obtain ⟨w7, hw7⟩ : ∃ w7, w7 = w6.setCell ⟨q + 2, 1, none⟩ (.string G) := ⟨_, rfl⟩
          rw [← hw7] at HA7 ⊢
          clear hw7 g6 f6
          have g7 : w7.cell? ⟨q + 2, 1, none⟩ = some (.string G) := Blk.cell HA7.out.gb 1
          have s7 : w7.cell? ⟨q + 1, 1, none⟩ = some (.string s1) := Blk.cell HA7.out.sb 1
          have d5 : decide ((s1.size : Int) < (G.size : Int)) = false := by simp; omega
          have d6 : decide (s1.size < G.size) = false := by simp; omega
          have hle2 : (G.size : Int) ≤ (s1.size : Int) := by omega
          have hsl := fun w : World => (run_slice_pre w s1 G hle hpre)
          have hneq := fun w : World => (run_neq_self w G)
          have HLE := Lib.hid hle
          have HPRE := Lib.hid hpre
          clear hle hpre
          go_quiet (fail)
          go_wp2_with fail
          go_roundw
          case rel => exact ⟨k + 1, L', s0, s1, g0, G, by omega, by go_num, (HA7.out.drew _).next⟩
          case measure => simp [intOf]; omega
        · have a0 : wo.cell? ⟨q, 1, none⟩ = some (.int .i64 2) := Blk.cell HO.out.cb 1
          go_wp2_with fail
          refine hp_start (fun w' => w'.cell? ⟨q, 1, none⟩ = some (.int .i64 2) ∧ w'.cell? ⟨p, 3, none⟩ = some (.int .i64 many)) 12 rfl (by kernel_rfl) (fun c a a' w hd h => ⟨hd ▸ h.1, h.2⟩) (fun hP => ?_)
          rw [show Array.replicate 12 false = #[false, false, false, false, false, false, false, false, false, false, false, false] from rfl]
          have HS0 : wo.drew.cell? ⟨q, 1, none⟩ = some (.int .i64 2) ∧ wo.drew.cell? ⟨p, 3, none⟩ = some (.int .i64 many) := ⟨a0, p3⟩
          refine hp_take hP 0 (some 111) _ rfl rfl (by kernel_rfl) rfl (fun w' hS' => by go_simp; rfl) HS0 ?_
          simp only [Act.put, List.setIfInBounds_toArray, List.set_cons_zero, List.set_cons_succ]
          refine hp_take hP 1 (some 112) _ rfl rfl (by kernel_rfl) rfl (fun w' hS' => by go_simp; rfl) HS0 ?_
          simp only [Act.put, List.setIfInBounds_toArray, List.set_cons_zero, List.set_cons_succ]
          refine hp_take hP 2 (some 113) _ rfl rfl (by kernel_rfl) rfl (fun w' hS' => by go_simp; rfl) HS0 ?_
          simp only [Act.put, List.setIfInBounds_toArray, List.set_cons_zero, List.set_cons_succ]
          refine hp_take hP 3 (some 114) _ rfl rfl (by kernel_rfl) rfl (fun w' hS' => by have cc := hS'.1; go_simp; rfl) HS0 ?_
          simp only [Act.put, List.setIfInBounds_toArray, List.set_cons_zero, List.set_cons_succ]
          refine hp_take hP 4 (some 115) _ rfl rfl (by kernel_rfl) rfl (fun w' hS' => by go_simp; rfl) HS0 ?_
          simp only [Act.put, List.setIfInBounds_toArray, List.set_cons_zero, List.set_cons_succ]
          refine hp_take hP 5 (some 116) _ rfl rfl (by kernel_rfl) rfl (fun w' hS' => by have cc := hS'.2; go_simp; rfl) HS0 ?_
          simp only [Act.put, List.setIfInBounds_toArray, List.set_cons_zero, List.set_cons_succ]
          refine hp_call 6 (some 117) rfl rfl (by kernel_rfl) rfl 12 #[.pointer (some ⟨bn, 0, none⟩), .int .i64 2, .int .i64 1, .int .i64 many] (by go_simp) ((take12_flow (F := fun k => w.heap.size ≤ k ∧ k < q) (w := wo.drew) (HO.out.drew 1).net HO.out.fl1 (by decide) many).mono ?_)
          rintro e w6 ⟨tb, er, L', rfl, hN, hT, hnear, hfl⟩
          have HS1 : w6.cell? ⟨q, 1, none⟩ = some (.int .i64 2) ∧ w6.cell? ⟨p, 3, none⟩ = some (.int .i64 many) := ⟨Blk.cell (Blk.turn (show Blk wo.drew q 29 _ from HO.out.cb) hT (fun h => by omega)) 1, Blk.cell (Blk.turn (show Blk wo.drew p 32 _ from HP.out) hT (fun h => by omega)) 3⟩
          refine ⟨_, rfl, HS1, ?_⟩
          simp only [Act.put, List.setIfInBounds_toArray, List.set_cons_zero, List.set_cons_succ]
          refine hp_take hP 7 (some 110) _ rfl rfl (by kernel_rfl) rfl (fun w' hS' => by go_simp; rfl) HS1 ?_
          simp only [Act.put, List.setIfInBounds_toArray, List.set_cons_zero, List.set_cons_succ]
          refine hp_take hP 8 (some 118) _ rfl rfl (by kernel_rfl) rfl (fun w' hS' => by go_simp; rfl) HS1 ?_
          simp only [Act.put, List.setIfInBounds_toArray, List.set_cons_zero, List.set_cons_succ]
          refine hp_take hP 9 (some 119) _ rfl rfl (by kernel_rfl) rfl (fun w' hS' => by go_simp; rfl) HS1 ?_
          simp only [Act.put, List.setIfInBounds_toArray, List.set_cons_zero, List.set_cons_succ]
          refine hp_take hP 10 (some 17) _ rfl rfl (by kernel_rfl) rfl (fun w' hS' => by go_simp; rfl) HS1 ?_
          simp only [Act.put, List.setIfInBounds_toArray, List.set_cons_zero, List.set_cons_succ]
          refine hp_take hP 11 (some 18) _ rfl rfl (by kernel_rfl) rfl (fun w' hS' => by go_simp; rfl) HS1 ?_
          simp only [Act.put, List.setIfInBounds_toArray, List.set_cons_zero, List.set_cons_succ]
          refine hk_done (by kernel_rfl) ?_
          clear HS0 HS1 hP
          have hO := HO.out
          obtain ⟨hle, hpre⟩ := hfl.le
          have hszt : g1.size + tb.size ≤ 9223372036854775807 := by
            have h1 := hle
            rw [ByteArray.size_append] at h1
            have := hO.z1
            omega
          have hadd := fun w : World => run_string_add_sum (P := Try.prog) w g1 tb hszt
          obtain ⟨G, hG⟩ : ∃ G, g1 ++ tb = G := ⟨_, rfl⟩
          rw [hG] at hadd hfl hle hpre
          have hgb6 : Blk w6 (q + 2) 30 #[.string g0, .string g1] := Blk.turn (show Blk wo.drew (q + 2) 30 _ from hO.gb) hT (fun h => by omega)
          have hsb6 : Blk w6 (q + 1) 30 #[.string s0, .string s1] := Blk.turn (show Blk wo.drew (q + 1) 30 _ from hO.sb) hT (fun h => by omega)
          have hcb6 : Blk w6 q 29 #[.int .i64 1, .int .i64 2] := Blk.turn (show Blk wo.drew q 29 _ from hO.cb) hT (fun h => by omega)
          have hB : Below w.heap.size w w6 := (Below.drew hO.tu).trans (hT.below (by have := hO.lt; have := hO.wq; show w.heap.size ≤ wo.heap.size; omega) (fun k hk h => by omega))
          have hT7 : Turn (fun k => k = q + 2) w6 (w6.setCell ⟨q + 2, 1, none⟩ (.string G)) := Turn.cell _ _ _ _
          have hA7 : TwoAt w (w6.setCell ⟨q + 2, 1, none⟩ (.string G)) q bn L' k s0 s1 g0 G := by
            refine ⟨hN.turn hT7 (fun k h e => by omega), Blk.turn hcb6 hT7 (fun h => by omega), Blk.turn hsb6 hT7 (fun h => by omega), Blk.set hgb6 1 _, hO.fl0.near hnear (by decide), hfl, hO.live.near hnear, hO.z0, hO.z1, Below.setCell hB (p := ⟨q + 2, 1, none⟩) (by have := hO.wq; show w.heap.size ≤ q + 2; omega) _, hO.wq⟩
          have g6 : w6.cell? ⟨q + 2, 1, none⟩ = some (.string g1) := Blk.cell hgb6 1
          have f6 : w6.frozen? ⟨q + 2, 1, none⟩ = false := Blk.free hgb6 1
          have HA7 := Lib.hid hA7
          clear hO hfl hN hT hnear hgb6 hsb6 hcb6 hB hT7 hA7 hszt hG p0 p1 p3 p4 a0
          go_upto_region 29 with (fail)
          obtain ⟨w7, hw7⟩ : ∃ w7, w7 = w6.setCell ⟨q + 2, 1, none⟩ (.string G) := ⟨_, rfl⟩
          rw [← hw7] at HA7 ⊢
          clear hw7 g6 f6
          have g7 : w7.cell? ⟨q + 2, 1, none⟩ = some (.string G) := Blk.cell HA7.out.gb 1
          have s7 : w7.cell? ⟨q + 1, 1, none⟩ = some (.string s1) := Blk.cell HA7.out.sb 1
          have d5 : decide ((s1.size : Int) < (G.size : Int)) = false := by simp; omega
          have d6 : decide (s1.size < G.size) = false := by simp; omega
          have hle2 : (G.size : Int) ≤ (s1.size : Int) := by omega
          have hsl := fun w : World => (run_slice_pre w s1 G hle hpre)
          have hneq := fun w : World => (run_neq_self w G)
          have HLE := Lib.hid hle
          have HPRE := Lib.hid hpre
          clear hle hpre
          go_quiet (fail)
          go_wp2_with fail
          go_roundw
          case rel => exact ⟨k + 1, L', s0, s1, g0, G, by omega, by go_num, (HA7.out.drew _).next⟩
          case measure => simp [intOf]; omega
        · have r0 : (R == 0) = false := by simp; omega
          have r1 : (R == 1) = false := by simp; omega
          have r2 : (R == -1) = false := by simp; omega
          have r3 : (R == 2) = false := by simp; omega
          have r4 : (R == -2) = false := by simp; omega
          have a1 : wo.cell? ⟨q, 1, none⟩ = some (.int .i64 2) := Blk.cell HO.out.cb 1
          obtain ⟨Z, hZ⟩ : ∃ Z, many.tmod 9 = Z := ⟨_, rfl⟩
          by_cases hz : Z = 0
          · subst hz
            go_wp2_with fail
            refine (cut13_flow (F := fun k => w.heap.size ≤ k ∧ k < q) (w := wo) HO.out.net (x := 2) (by decide)).mono ?_
            rintro e w6 ⟨er, L', rfl, hN, hT, hnear, hfl⟩
            have hA6 : TwoAt w w6 q bn L' k s0 s1 g0 g1 := HO.out.call hN hT (hfl _ _ _ HO.out.fl0) (hfl _ _ _ HO.out.fl1) (HO.out.live.other (hnear 1 (by decide)))
            have HA6 := Lib.hid hA6
            clear hN hT hnear hfl hA6 p0 p1 p3 p4 a1
            go_wp2_with fail
            go_roundw
            case rel => exact ⟨k + 1, L', s0, s1, g0, g1, by omega, by go_num, HA6.out.next⟩
            case measure => simp [intOf]; omega
          · have hz' : (Z == 0) = false := by simpa using hz
            clear hz
            go_wp2_with fail
            go_roundw
            case rel => exact ⟨k + 1, L, s0, s1, g0, g1, by omega, by go_num, HO.out.next⟩
            case measure => simp [intOf]; omega
    · have d1 : decide ((k : Int) < l.length) = false := by simp; omega
      have d2 : decide (k < l.length) = false := by simp; omega
      clear hlt
      have HA := Lib.hid hA
      clear hA
      go_wp2_with fail
      refine (move11_last (F := fun k => w.heap.size ≤ k ∧ k < q) HA.out.net HA.out.fl0 HA.out.live).mono ?_
      rintro e w6 ⟨v6, L', rfl, ⟨ra, rb, rfl⟩, hN, hT, hfl, hall⟩
      have HN := Lib.hid (And.intro hN (And.intro hT (And.intro hfl hall)))
      clear hN hT hfl hall
      go_wp2_with fail
      refine (take12_last (F := fun k => w.heap.size ≤ k ∧ k < q) HN.out.1 HN.out.2.2.1 HN.out.2.2.2).mono ?_
      rintro e w7 ⟨tb, er, rfl, hT, hgs⟩
      have hT2 := HN.out.2.1.trans hT
      have hO := HA.out
      have hB : Below w.heap.size w w7 := hO.tu.trans (hT2.below (by have := hO.lt; have := hO.wq; omega) (fun k hk h => by omega))
      have s7 : w7.cell? ⟨q + 1, 0, none⟩ = some (.string s0) := Blk.cell (Blk.turn hO.sb hT2 (fun h => by omega)) 0
      have g7 : w7.cell? ⟨q + 2, 0, none⟩ = some (.string g0) := Blk.cell (Blk.turn hO.gb hT2 (fun h => by omega)) 0
      have hszt : g0.size + tb.size ≤ 9223372036854775807 := by
        have h1 := congrArg ByteArray.size hgs
        rw [ByteArray.size_append] at h1
        have := hO.z0
        omega
      have hadd := fun w : World => run_string_add_sum (P := Try.prog) w g0 tb hszt
      rw [hgs] at hadd
      have HB := Lib.hid hB
      clear hT hT2 hO hB hszt hgs
      go_wp2_with fail
      go_ret
      exact ⟨by first | rfl | simp, HB.out⟩
end Go.Proofs.Ytalcmaphndfcfaa
