/- NetBytes: the walk. -/
import Derived.Test.YtalcmaphndfcfaaR
import Derived.Test.YtalcmaphndfcfaaO
import Derived.Deep.DeepCutAuto
namespace Go.Proofs.Ytalcmaphndfcfaa
open Go.RowKit Go.Maps
set_option linter.unusedVariables false
set_option linter.unusedSimpArgs false

/-- how things stand behind k rounds: the net; what the sides sent, what they took, which have shut -/
structure BAt (w wr : World) (q bn : Nat) (L : List Cn) (k : Nat) (s0 s1 g0 g1 : ByteArray) (h0 h1 : Bool) : Prop where
  net : NetAt (fun k => w.heap.size ≤ k ∧ k < q) wr bn 1 L
  sb : Blk wr q 30 #[.string s0, .string s1]
  gb : Blk wr (q + 1) 30 #[.string g0, .string g1]
  hb : Blk wr (q + 2) 39 #[.bool h0, .bool h1]
  by_ : Bytes L s0 s1 g0 g1 h0 h1
  z0 : s0.size ≤ k * 65536
  z1 : s1.size ≤ k * 65536
  tu : Below w.heap.size w wr
  wq : w.heap.size ≤ q
section
variable {w wr wr' : World} {q bn : Nat} {L L' : List Cn} {k : Nat} {s0 s1 g0 g1 t : ByteArray} {h0 h1 : Bool}
theorem BAt.lt (h : BAt w wr q bn L k s0 s1 g0 g1 h0 h1) : q + 2 < wr.heap.size := h.hb.lt
theorem BAt.alloc (h : BAt w wr q bn L k s0 s1 g0 g1 h0 h1) (o : Obj) : BAt w (wr.alloc o) q bn L k s0 s1 g0 g1 h0 h1 :=
  ⟨h.net.alloc o, h.sb.alloc o, h.gb.alloc o, h.hb.alloc o, h.by_, h.z0, h.z1, h.tu.alloc (Nat.le_trans h.wq (by have := h.lt; omega)) o, h.wq⟩
theorem BAt.drew (h : BAt w wr q bn L k s0 s1 g0 g1 h0 h1) (n : Nat) : BAt w (wr.drewN n) q bn L k s0 s1 g0 g1 h0 h1 :=
  ⟨h.net.drewN n, by have := Blk.drewN h.sb n; exact this, by have := Blk.drewN h.gb n; exact this, by have := Blk.drewN h.hb n; exact this, h.by_, h.z0, h.z1, Below.drewN h.tu n, h.wq⟩
theorem BAt.next (h : BAt w wr q bn L k s0 s1 g0 g1 h0 h1) : BAt w wr q bn L (k + 1) s0 s1 g0 g1 h0 h1 :=
  ⟨h.net, h.sb, h.gb, h.hb, h.by_, Nat.le_trans h.z0 (Nat.mul_le_mul_right _ (Nat.le_succ k)), Nat.le_trans h.z1 (Nat.mul_le_mul_right _ (Nat.le_succ k)), h.tu, h.wq⟩
/-- a call of the net -/
theorem BAt.call (h : BAt w wr q bn L k s0 s1 g0 g1 h0 h1) (hN : NetAt (fun k => w.heap.size ≤ k ∧ k < q) wr' bn 1 L') (hT : Turn (fun k => w.heap.size ≤ k ∧ k < q) wr wr') (hB : Bytes L' s0 s1 g0 g1 h0 h1) : BAt w wr' q bn L' k s0 s1 g0 g1 h0 h1 :=
  ⟨hN, Blk.turn h.sb hT (fun h => by omega), Blk.turn h.gb hT (fun h => by omega), Blk.turn h.hb hT (fun h => by omega), hB, h.z0, h.z1,
    h.tu.trans (hT.below (by have := h.lt; have := h.wq; omega) (fun k hk h => by omega)), h.wq⟩
theorem NetAt.cellOther (h : NetAt (fun k => w.heap.size ≤ k ∧ k < q) wr bn 1 L) {b : Nat} (hb : q ≤ b) (j : Nat) (u : Value) : NetAt (fun k => w.heap.size ≤ k ∧ k < q) (wr.setCell ⟨b, j, none⟩ u) bn 1 L :=
  h.turn (Turn.cell _ _ _ _) (fun k h e => by omega)
/-- a side sent -/
theorem BAt.sent0 {d : ByteArray} (h : BAt w wr q bn L k s0 s1 g0 g1 h0 h1) (hN : NetAt (fun k => w.heap.size ≤ k ∧ k < q) wr' bn 1 L') (hT : Turn (fun k => w.heap.size ≤ k ∧ k < q) wr wr') (hd : d.size ≤ 65536) (hB : Bytes L' (s0 ++ d) s1 g0 g1 h0 h1) :
    BAt w (wr'.setCell ⟨q, 0, none⟩ (.string (s0 ++ d))) q bn L' (k + 1) (s0 ++ d) s1 g0 g1 h0 h1 :=
  ⟨hN.cellOther (Nat.le_refl _) _ _, Blk.set (Blk.turn h.sb hT (fun h => by omega)) 0 _, Blk.other (Blk.turn h.gb hT (fun h => by omega)) (p := ⟨q, 0, none⟩) (by show q ≠ q + 1; omega) _, Blk.other (Blk.turn h.hb hT (fun h => by omega)) (p := ⟨q, 0, none⟩) (by show q ≠ q + 2; omega) _, hB,
    Nat.le_trans (Nat.le_of_eq ByteArray.size_append) (Nat.le_trans (Nat.add_le_add h.z0 hd) (Nat.le_of_eq (Nat.succ_mul k 65536).symm)), Nat.le_trans h.z1 (Nat.mul_le_mul_right _ (Nat.le_succ k)),
    Below.setCell (h.tu.trans (hT.below (by have := h.lt; have := h.wq; omega) (fun k hk h => by omega))) (p := ⟨q, 0, none⟩) h.wq _, h.wq⟩
theorem BAt.sent1 {d : ByteArray} (h : BAt w wr q bn L k s0 s1 g0 g1 h0 h1) (hN : NetAt (fun k => w.heap.size ≤ k ∧ k < q) wr' bn 1 L') (hT : Turn (fun k => w.heap.size ≤ k ∧ k < q) wr wr') (hd : d.size ≤ 65536) (hB : Bytes L' s0 (s1 ++ d) g0 g1 h0 h1) :
    BAt w (wr'.setCell ⟨q, 1, none⟩ (.string (s1 ++ d))) q bn L' (k + 1) s0 (s1 ++ d) g0 g1 h0 h1 :=
  ⟨hN.cellOther (Nat.le_refl _) _ _, Blk.set (Blk.turn h.sb hT (fun h => by omega)) 1 _, Blk.other (Blk.turn h.gb hT (fun h => by omega)) (p := ⟨q, 1, none⟩) (by show q ≠ q + 1; omega) _, Blk.other (Blk.turn h.hb hT (fun h => by omega)) (p := ⟨q, 1, none⟩) (by show q ≠ q + 2; omega) _, hB,
    Nat.le_trans h.z0 (Nat.mul_le_mul_right _ (Nat.le_succ k)), Nat.le_trans (Nat.le_of_eq ByteArray.size_append) (Nat.le_trans (Nat.add_le_add h.z1 hd) (Nat.le_of_eq (Nat.succ_mul k 65536).symm)),
    Below.setCell (h.tu.trans (hT.below (by have := h.lt; have := h.wq; omega) (fun k hk h => by omega))) (p := ⟨q, 1, none⟩) h.wq _, h.wq⟩
/-- a side took -/
theorem BAt.took0 {G : ByteArray} (h : BAt w wr q bn L k s0 s1 g0 g1 h0 h1) (hN : NetAt (fun k => w.heap.size ≤ k ∧ k < q) wr' bn 1 L') (hT : Turn (fun k => w.heap.size ≤ k ∧ k < q) wr wr') (hB : Bytes L' s0 s1 G g1 h0 h1) :
    BAt w (wr'.setCell ⟨q + 1, 0, none⟩ (.string G)) q bn L' k s0 s1 G g1 h0 h1 :=
  ⟨hN.cellOther (by omega) _ _, Blk.other (Blk.turn h.sb hT (fun h => by omega)) (p := ⟨q + 1, 0, none⟩) (by show q + 1 ≠ q; omega) _, Blk.set (Blk.turn h.gb hT (fun h => by omega)) 0 _, Blk.other (Blk.turn h.hb hT (fun h => by omega)) (p := ⟨q + 1, 0, none⟩) (by show q + 1 ≠ q + 2; omega) _, hB, h.z0, h.z1,
    Below.setCell (h.tu.trans (hT.below (by have := h.lt; have := h.wq; omega) (fun k hk h => by omega))) (p := ⟨q + 1, 0, none⟩) (by have := h.wq; show w.heap.size ≤ q + 1; omega) _, h.wq⟩
/-- a side has shut -/
theorem BAt.shut0 (h : BAt w wr q bn L k s0 s1 g0 g1 h0 h1) (hN : NetAt (fun k => w.heap.size ≤ k ∧ k < q) wr' bn 1 L') (hT : Turn (fun k => w.heap.size ≤ k ∧ k < q) wr wr') (hB : Bytes L' s0 s1 g0 g1 true h1) :
    BAt w (wr'.setCell ⟨q + 2, 0, none⟩ (.bool true)) q bn L' k s0 s1 g0 g1 true h1 :=
  ⟨hN.cellOther (by omega) _ _, Blk.other (Blk.turn h.sb hT (fun h => by omega)) (p := ⟨q + 2, 0, none⟩) (by show q + 2 ≠ q; omega) _, Blk.other (Blk.turn h.gb hT (fun h => by omega)) (p := ⟨q + 2, 0, none⟩) (by show q + 2 ≠ q + 1; omega) _, Blk.set (Blk.turn h.hb hT (fun h => by omega)) 0 _, hB, h.z0, h.z1,
    Below.setCell (h.tu.trans (hT.below (by have := h.lt; have := h.wq; omega) (fun k hk h => by omega))) (p := ⟨q + 2, 0, none⟩) (by have := h.wq; show w.heap.size ≤ q + 2; omega) _, h.wq⟩
/-- a side took -/
theorem BAt.took1 {G : ByteArray} (h : BAt w wr q bn L k s0 s1 g0 g1 h0 h1) (hN : NetAt (fun k => w.heap.size ≤ k ∧ k < q) wr' bn 1 L') (hT : Turn (fun k => w.heap.size ≤ k ∧ k < q) wr wr') (hB : Bytes L' s0 s1 g0 G h0 h1) :
    BAt w (wr'.setCell ⟨q + 1, 1, none⟩ (.string G)) q bn L' k s0 s1 g0 G h0 h1 :=
  ⟨hN.cellOther (by omega) _ _, Blk.other (Blk.turn h.sb hT (fun h => by omega)) (p := ⟨q + 1, 1, none⟩) (by show q + 1 ≠ q; omega) _, Blk.set (Blk.turn h.gb hT (fun h => by omega)) 1 _, Blk.other (Blk.turn h.hb hT (fun h => by omega)) (p := ⟨q + 1, 1, none⟩) (by show q + 1 ≠ q + 2; omega) _, hB, h.z0, h.z1,
    Below.setCell (h.tu.trans (hT.below (by have := h.lt; have := h.wq; omega) (fun k hk h => by omega))) (p := ⟨q + 1, 1, none⟩) (by have := h.wq; show w.heap.size ≤ q + 1; omega) _, h.wq⟩
/-- a side has shut -/
theorem BAt.shut1 (h : BAt w wr q bn L k s0 s1 g0 g1 h0 h1) (hN : NetAt (fun k => w.heap.size ≤ k ∧ k < q) wr' bn 1 L') (hT : Turn (fun k => w.heap.size ≤ k ∧ k < q) wr wr') (hB : Bytes L' s0 s1 g0 g1 h0 true) :
    BAt w (wr'.setCell ⟨q + 2, 1, none⟩ (.bool true)) q bn L' k s0 s1 g0 g1 h0 true :=
  ⟨hN.cellOther (by omega) _ _, Blk.other (Blk.turn h.sb hT (fun h => by omega)) (p := ⟨q + 2, 1, none⟩) (by show q + 2 ≠ q; omega) _, Blk.other (Blk.turn h.gb hT (fun h => by omega)) (p := ⟨q + 2, 1, none⟩) (by show q + 2 ≠ q + 1; omega) _, Blk.set (Blk.turn h.hb hT (fun h => by omega)) 1 _, hB, h.z0, h.z1,
    Below.setCell (h.tu.trans (hT.below (by have := h.lt; have := h.wq; omega) (fun k hk h => by omega))) (p := ⟨q + 2, 1, none⟩) (by have := h.wq; show w.heap.size ≤ q + 2; omega) _, h.wq⟩
end

theorem run_neq_eq (w : World) (G s : ByteArray) (h : G = s) : (binOp .neq 9 (.string G) (.string s)).run Try.prog w = .ok (.bool false) w := by
  subst h; exact run_neq_self w G
set_option maxRecDepth 100000 in
set_option maxHeartbeats 8000000 in
theorem bytes4 (v : Value) (l : List Op5) (w : World) (hv : Row w.heap.size w v l.length 5 (opsC l)) (hl : l.length * 48 ≤ 140737488351232) (hd : ∀ o ∈ l, o.data.size ≤ 9223372036854775807) :
    Calls Try.prog 4 #[v] w fun e w' => e = .returned (.bool true) ∧ Below w.heap.size w w' := by
  obtain ⟨hlen, a, cap, rfl, hcap, hcap2, hcells⟩ := hv
  have HCE := Lib.hid hcells
  have HD := Lib.hid hd
  have hcm : cap ≤ 9223372036854775807 := by simpa [maxLen] using hcap2
  clear hcells hd hcap2 hlen
  go_enter Try.func4, Try.ntmps4
  go_wp2_with fail
  refine (awake7 _).mono ?_
  rintro e w1 ⟨rfl, hB1⟩
  go_wp2_with fail
  refine (new8 w1 (fun k => w.heap.size ≤ k) hB1.size).mono ?_
  rintro e w2 ⟨rfl, hN, hT, -⟩
  obtain ⟨bn, hbn⟩ : ∃ bn, w1.heap.size = bn := ⟨_, rfl⟩
  have hT1 : Turn (fun k => w.heap.size ≤ k) w w2 := (Turn.of_below hB1 (fun k h _ => h)).trans (hT.mono (fun _ _ h => h.elim))
  rw [hbn] at hN ⊢
  clear hT hB1 hbn
  go_wp2_with fail
  refine (open9_ok hN (by simp) (by omega) (by simp)).mono ?_
  rintro e w4 ⟨rfl, b1, hN2, hT2, hb1⟩
  have hs2 := hT1.size
  replace hN2 : NetAt (fun k => w.heap.size ≤ k) w4 bn 1 [newCn 1 b1] := hN2.mono (fun k _ h => by omega)
  have hT5 := hT1.trans hT2
  clear hN hT1 hT2
  have hN3 : NetAt (fun k => w.heap.size ≤ k ∧ k < w4.heap.size) w4 bn 1 [newCn 1 b1] := hN2.mono (fun k h1 h2 => ⟨h2, h1⟩)
  have hs4 := hT5.size
  clear hN2
  go_wp2_with fail
  obtain ⟨w5, hw5⟩ : ∃ w5, w5 = ((w4.alloc (Obj.cells #[.string ⟨#[]⟩, .string ⟨#[]⟩] 30)).alloc (Obj.cells #[.string ⟨#[]⟩, .string ⟨#[]⟩] 30)).alloc (Obj.cells #[.bool false, .bool false] 39) := ⟨_, rfl⟩
  obtain ⟨q, hq⟩ : ∃ q, w4.heap.size = q := ⟨_, rfl⟩
  have h0 : BAt w w5 q bn [newCn 1 b1] 0 e0 e0 e0 e0 false false := by
    have hemp : e0 ++ e0 = e0 := rfl
    rw [hw5]
    refine ⟨?_, ?_, ?_, ?_, ⟨e0, e0, hemp, hemp, ?_⟩, by decide, by decide, ?_, by omega⟩
    · rw [← hq]; exact ((hN3.alloc _).alloc _).alloc _
    · rw [← hq]; exact ((Blk.new w4 _ _).alloc _).alloc _
    · exact (Blk.newAt _ _ _ (by simp [hq])).alloc _
    · exact Blk.newAt _ _ _ (by simp [hq])
    · intro c hc
      have hc : some (newCn 1 b1) = some c := hc
      injection hc with hc; subst hc; exact ⟨rfl, rfl, rfl, rfl, rfl⟩
    · exact Below.al (Below.al (Below.al (hT5.toBelow) _) _) _
  rw [hq, ← hw5]
  clear hw5 hN3 hT5 hb1 hs2 hs4 hq
  go_loopw [10] (fun i wr => ∃ (k : Nat) (L : List Cn) (s0 s1 g0 g1 : ByteArray) (h0 h1 : Bool), k ≤ l.length ∧ i = .int .i64 k ∧ BAt w wr q bn L k s0 s1 g0 g1 h0 h1) (fun i _ => l.length - (intOf i).toNat)
  case atStart => exact ⟨0, _, _, _, _, _, _, _, by omega, rfl, h0⟩
  case round =>
    obtain ⟨k, L, s0, s1, g0, g1, sh0, sh1, hk, rfl, hA⟩ := hrel
    by_cases hlt : k < l.length
    · have d1 : decide ((k : Int) < l.length) = true := by simp; omega
      obtain ⟨b', off, rfl, hb', hcl⟩ := HCE.out (by omega)
      obtain ⟨⟨kind, conn, side, many, data⟩, ho⟩ : ∃ o, o = l.getD k op0 := ⟨_, rfl⟩
      have hdm : data.size ≤ 9223372036854775807 := by
        have hm : l.getD k op0 ∈ l := by rw [List.getD_eq_getElem?_getD, List.getElem?_eq_getElem hlt]; exact List.getElem_mem hlt
        have := HD.out _ hm
        rw [← ho] at this; exact this
      have hce : ∀ j, j < 5 → wr.cell? ⟨b', off + k * 5 + j, none⟩ = #[Value.int .i64 kind, .int .i64 conn, .int .i64 side, .int .i64 many, .string data][j]? := by
        intro j hj
        rw [hA.tu.cell (by exact hb'), Nat.add_assoc, hcl (k * 5 + j) (by omega), opsC_at l k j hlt hj, ← ho]
        match j, hj with
        | 0, _ => rfl
        | 1, _ => rfl
        | 2, _ => rfl
        | 3, _ => rfl
        | 4, _ => rfl
      have HCL := Lib.hid hce
      have HA := Lib.hid hA
      clear hcl ho hA hce
      go_upto_region 13 with (refine wpList_load_at rfl 32 _ rfl b' (off + k * 5) rfl #[.int .i64 kind, .int .i64 conn, .int .i64 side, .int .i64 many, .string data] _ (fun j hj => HCL.out j hj) Try.underlying32 rfl info32 ?_)
      obtain ⟨wo, hwo⟩ : ∃ wo, wo = wr.alloc (Obj.cells #[.int .i64 kind, .int .i64 conn, .int .i64 side, .int .i64 many, .string data] 32) := ⟨_, rfl⟩
      obtain ⟨p, hp⟩ : ∃ p, wr.heap.size = p := ⟨_, rfl⟩
      have hO : BAt w wo q bn L k s0 s1 g0 g1 sh0 sh1 := by rw [hwo]; exact HA.out.alloc _
      have hpb : Blk wo p 32 #[.int .i64 kind, .int .i64 conn, .int .i64 side, .int .i64 many, .string data] := by rw [hwo, ← hp]; exact Blk.new _ _ _
      have hpq : q + 2 < p := by rw [← hp]; exact HA.out.lt
      rw [hp, ← hwo]
      have HO := Lib.hid hO
      have HP := Lib.hid hpb
      have p0 : wo.cell? ⟨p, 0, none⟩ = some (.int .i64 kind) := Blk.cell hpb 0
      have p2 : wo.cell? ⟨p, 2, none⟩ = some (.int .i64 side) := Blk.cell hpb 2
      have p3 : wo.cell? ⟨p, 3, none⟩ = some (.int .i64 many) := Blk.cell hpb 3
      have p4 : wo.cell? ⟨p, 4, none⟩ = some (.string data) := Blk.cell hpb 4
      have hand := and1_i64 side
      obtain ⟨K, hK⟩ : ∃ K, side % 2 = K := ⟨_, rfl⟩
      rw [hK] at hand
      have hK2 : K = 0 ∨ K = 1 := by omega
      obtain ⟨R, hR⟩ : ∃ R, kind.tmod 4 = R := ⟨_, rfl⟩
      have hR2 : R = 0 ∨ R = 1 ∨ R = -1 ∨ R = 2 ∨ R = -2 ∨ R = 3 ∨ R = -3 := by
        have h1 := Int.tmod_lt_of_pos kind (show (0 : Int) < 4 by decide)
        have h2 := Int.lt_tmod_of_pos kind (show (0 : Int) < 4 by decide)
        rw [hR] at h1 h2
        omega
      clear hO hpb hwo hp HA HCL hK
      rcases hK2 with rfl | rfl
      · rcases hR2 with rfl | rfl | rfl | rfl | rfl | hR3
        · as_aux_lemma =>
            go_wp2_with fail
            refine (send10_by0 (F := fun k => w.heap.size ≤ k ∧ k < q) HO.out.net HO.out.by_ data hdm).mono ?_
            rintro e w6 ⟨m, er, L', rfl, hN, hT, hm1, hm2, hcase⟩
            have hm3 : (m : Int) ≤ (data.size : Int) := by omega
            have P4 : w6.cell? ⟨p, 4, none⟩ = some (.string data) := Blk.cell (Blk.turn HP.out hT (fun h => by omega)) 4
            have HF := Lib.hid hcase
            have HN := Lib.hid (And.intro hN hT)
            obtain ⟨M, hM⟩ : ∃ M : Int, M = (m : Int) := ⟨_, rfl⟩
            have hM0 : 0 ≤ M := by omega
            have hMd : M ≤ (data.size : Int) := by omega
            have HM := Lib.hid hM
            rw [← hM]
            have HM2 := Lib.hid (And.intro hm1 hm2)
            clear hM hm3 hcase hN hT hm1 hm2 p0 p2 p3 p4
            by_cases her : er = 0
            · subst her
              have hfl : sh0 = false ∧ Bytes L' (s0 ++ data.extract 0 m) s1 g0 g1 sh0 sh1 := by
                rcases HF.out with h | h
                · exact absurd rfl h.1
                · exact h.2
              have hsb6 : Blk w6 q 30 #[.string s0, .string s1] := Blk.turn HO.out.sb HN.out.2 (fun h => by omega)
              have hhb6 : Blk w6 (q + 2) 39 #[.bool sh0, .bool sh1] := Blk.turn HO.out.hb HN.out.2 (fun h => by omega)
              have b6 : w6.cell? ⟨q, 0, none⟩ = some (.string s0) := Blk.cell hsb6 0
              have f6 : w6.frozen? ⟨q, 0, none⟩ = false := Blk.free hsb6 0
              have k6 : w6.cell? ⟨q + 2, 0, none⟩ = some (.bool sh0) := Blk.cell hhb6 0
              rw [hfl.1] at k6
              have dM0 : decide (M < 0) = false := by simp; omega
              have dM1 : decide ((data.size : Int) < M) = false := by simp; omega
              have hadd := fun w : World => run_string_add_sum (P := Try.prog) w s0 (data.extract 0 M.toNat) (by rw [ByteArray.size_extract]; have h1 := HO.out.z0; have h2 := HM.out; have h3 := HM2.out; omega)
              have hA6 : BAt w (w6.setCell ⟨q, 0, none⟩ (.string (s0 ++ data.extract 0 m))).drew q bn L' (k + 1) (s0 ++ data.extract 0 m) s1 g0 g1 sh0 sh1 :=
                (BAt.sent0 HO.out HN.out.1 HN.out.2 (by rw [ByteArray.size_extract]; have := HM2.out; omega) hfl.2).drew 1
              have hmM : M.toNat = m := by have := HM.out; omega
              rw [← hmM] at hA6
              have HA6 := Lib.hid hA6
              clear hfl hsb6 hhb6 hA6 hmM
              go_wp2_with fail
              refine wp_region_still_tail 10 (by kernel_rfl) (by kernel_rfl) ?_
              simp only [List.take_succ_cons, List.take_zero, List.drop_succ_cons, List.drop_zero]
              repeat still_step
              refine wpStill_nil ?_
              change wpList _ _ _ _ _ w6.drew
              go_upto_region 33 with (fail)
              obtain ⟨w7, hw7⟩ : ∃ w7, w7 = (w6.setCell ⟨q, 0, none⟩ (.string (s0 ++ data.extract 0 M.toNat))).drew := ⟨_, rfl⟩
              rw [← hw7] at HA6 ⊢
              clear hw7 b6 f6 k6 P4 hadd
              go_wp2_with fail
              refine (waits15_by HA6.out.net 0 (by decide)).mono ?_
              rintro e w8 ⟨wa, wb, wn, rfl, ha0, hb0, hab, hw8⟩
              have hA9 := HA6.out.drew wn
              rw [← hw8] at hA9
              have HA9 := Lib.hid hA9
              have dab : decide (65536 < wa + wb) = false := by simp; omega
              clear hA9 hw8
              go_wp2_with fail
              go_roundw
              case rel => exact ⟨k + 1, L', s0 ++ data.extract 0 M.toNat, s1, g0, g1, sh0, sh1, by omega, by go_num, HA9.out⟩
              case measure => simp [intOf]; omega
            · have hern : (er == 0) = false := by simpa using her
              have HER := Lib.hid her
              have hfl : Bytes L' s0 s1 g0 g1 sh0 sh1 := by
                rcases HF.out with h | h
                · exact h.2
                · exact absurd h.1 her
              have HA6 := Lib.hid (HO.out.call HN.out.1 HN.out.2 hfl).next
              clear her hfl
              go_wp2_with fail
              refine (waits15_by HA6.out.net 0 (by decide)).mono ?_
              rintro e w8 ⟨wa, wb, wn, rfl, ha0, hb0, hab, hw8⟩
              have hA9 := HA6.out.drew wn
              rw [← hw8] at hA9
              have HA9 := Lib.hid hA9
              have dab : decide (65536 < wa + wb) = false := by simp; omega
              clear hA9 hw8
              go_wp2_with fail
              go_roundw
              case rel => exact ⟨k + 1, L', s0, s1, g0, g1, sh0, sh1, by omega, by go_num, HA9.out⟩
              case measure => simp [intOf]; omega
        · as_aux_lemma =>
            go_wp2_with fail
            refine (move11_by0 (F := fun k => w.heap.size ≤ k ∧ k < q) HO.out.net HO.out.by_ many).mono ?_
            rintro e w6 ⟨v6, L', rfl, ⟨ra, rb, rfl⟩, hN, hT, hfl⟩
            have HA6 := Lib.hid (HO.out.call hN hT hfl).next
            clear hN hT hfl p0 p2 p3 p4
            go_wp2_with fail
            refine (waits15_by HA6.out.net 0 (by decide)).mono ?_
            rintro e w8 ⟨wa, wb, wn, rfl, ha0, hb0, hab, hw8⟩
            have hA9 := HA6.out.drew wn
            rw [← hw8] at hA9
            have HA9 := Lib.hid hA9
            have dab : decide (65536 < wa + wb) = false := by simp; omega
            clear hA9 hw8
            go_wp2_with fail
            go_roundw
            case rel => exact ⟨k + 1, L', s0, s1, g0, g1, sh0, sh1, by omega, by go_num, HA9.out⟩
            case measure => simp [intOf]; omega
        · as_aux_lemma =>
            go_wp2_with fail
            refine (move11_by0 (F := fun k => w.heap.size ≤ k ∧ k < q) HO.out.net HO.out.by_ many).mono ?_
            rintro e w6 ⟨v6, L', rfl, ⟨ra, rb, rfl⟩, hN, hT, hfl⟩
            have HA6 := Lib.hid (HO.out.call hN hT hfl).next
            clear hN hT hfl p0 p2 p3 p4
            go_wp2_with fail
            refine (waits15_by HA6.out.net 0 (by decide)).mono ?_
            rintro e w8 ⟨wa, wb, wn, rfl, ha0, hb0, hab, hw8⟩
            have hA9 := HA6.out.drew wn
            rw [← hw8] at hA9
            have HA9 := Lib.hid hA9
            have dab : decide (65536 < wa + wb) = false := by simp; omega
            clear hA9 hw8
            go_wp2_with fail
            go_roundw
            case rel => exact ⟨k + 1, L', s0, s1, g0, g1, sh0, sh1, by omega, by go_num, HA9.out⟩
            case measure => simp [intOf]; omega
        · as_aux_lemma =>
            go_wp2_with fail
            refine (take12_by0 (F := fun k => w.heap.size ≤ k ∧ k < q) HO.out.net HO.out.by_ many).mono ?_
            rintro e w6 ⟨tb, er, L', rfl, hN, hT, hfl, hend⟩
            have hO := HO.out
            obtain ⟨G, hG⟩ : ∃ G, g0 ++ tb = G := ⟨_, rfl⟩
            have hszt : g0.size + tb.size ≤ 9223372036854775807 := by
              have h1 := hfl.le0.1
              rw [ByteArray.size_append] at h1
              have := hO.z1
              omega
            have hadd := fun w : World => run_string_add_sum (P := Try.prog) w g0 tb hszt
            rw [hG] at hadd hfl hend
            obtain ⟨hle, hpre⟩ := hfl.le0
            have hA7 : BAt w (w6.setCell ⟨q + 1, 0, none⟩ (.string G)) q bn L' k s0 s1 G g1 sh0 sh1 := hO.took0 hN hT hfl
            have hgb6 : Blk w6 (q + 1) 30 #[.string g0, .string g1] := Blk.turn hO.gb hT (fun h => by omega)
            have g6 : w6.cell? ⟨q + 1, 0, none⟩ = some (.string g0) := Blk.cell hgb6 0
            have f6 : w6.frozen? ⟨q + 1, 0, none⟩ = false := Blk.free hgb6 0
            have HA7 := Lib.hid hA7
            have HEND := Lib.hid hend
            clear hO hfl hN hT hgb6 hA7 hszt hG hend p0 p2 p3 p4
            go_upto_region 30 with (fail)
            obtain ⟨w7, hw7⟩ : ∃ w7, w7 = w6.setCell ⟨q + 1, 0, none⟩ (.string G) := ⟨_, rfl⟩
            rw [← hw7] at HA7 ⊢
            clear hw7 g6 f6 hadd
            have g7 : w7.cell? ⟨q + 1, 0, none⟩ = some (.string G) := Blk.cell HA7.out.gb 0
            have s7 : w7.cell? ⟨q, 1, none⟩ = some (.string s1) := Blk.cell HA7.out.sb 1
            have k7 : w7.cell? ⟨q + 2, 1, none⟩ = some (.bool sh1) := Blk.cell HA7.out.hb 1
            have d5 : decide ((s1.size : Int) < (G.size : Int)) = false := by simp; omega
            have d6 : decide (s1.size < G.size) = false := by simp; omega
            have hle2 : (G.size : Int) ≤ (s1.size : Int) := by omega
            have hsl := fun w : World => (run_slice_pre w s1 G hle hpre)
            have hneq := fun w : World => (run_neq_self w G)
            have HLE := Lib.hid hle
            have HPRE := Lib.hid hpre
            clear hle hpre
            by_cases h16 : er = 16
            · subst h16
              obtain ⟨hsh, hGs⟩ := HEND.out rfl
              rw [hsh] at k7
              clear hsh HEND
              subst hGs
              go_wp2_with fail
              go_quiet (fail)
              have HA6 := Lib.hid (HA7.out.drew nq).next
              clear HA7 g7 s7 k7 hneq hsl
              go_wp2_with fail
              refine (waits15_by HA6.out.net 0 (by decide)).mono ?_
              rintro e w8 ⟨wa, wb, wn, rfl, ha0, hb0, hab, hw8⟩
              have hA9 := HA6.out.drew wn
              rw [← hw8] at hA9
              have HA9 := Lib.hid hA9
              have dab : decide (65536 < wa + wb) = false := by simp; omega
              clear hA9 hw8
              go_wp2_with fail
              go_roundw
              case rel => exact ⟨k + 1, L', s0, G, G, g1, sh0, sh1, by omega, by go_num, HA9.out⟩
              case measure => simp [intOf]; omega
            · have h16' : (er == 16) = false := by simpa using h16
              have H16 := Lib.hid h16
              clear h16 HEND
              go_wp2_with fail
              go_quiet (fail)
              have HA6 := Lib.hid (HA7.out.drew nq).next
              clear HA7 g7 s7 k7 hneq hsl
              go_wp2_with fail
              refine (waits15_by HA6.out.net 0 (by decide)).mono ?_
              rintro e w8 ⟨wa, wb, wn, rfl, ha0, hb0, hab, hw8⟩
              have hA9 := HA6.out.drew wn
              rw [← hw8] at hA9
              have HA9 := Lib.hid hA9
              have dab : decide (65536 < wa + wb) = false := by simp; omega
              clear hA9 hw8
              go_wp2_with fail
              go_roundw
              case rel => exact ⟨k + 1, L', s0, s1, G, g1, sh0, sh1, by omega, by go_num, HA9.out⟩
              case measure => simp [intOf]; omega
        · as_aux_lemma =>
            go_wp2_with fail
            refine (take12_by0 (F := fun k => w.heap.size ≤ k ∧ k < q) HO.out.net HO.out.by_ many).mono ?_
            rintro e w6 ⟨tb, er, L', rfl, hN, hT, hfl, hend⟩
            have hO := HO.out
            obtain ⟨G, hG⟩ : ∃ G, g0 ++ tb = G := ⟨_, rfl⟩
            have hszt : g0.size + tb.size ≤ 9223372036854775807 := by
              have h1 := hfl.le0.1
              rw [ByteArray.size_append] at h1
              have := hO.z1
              omega
            have hadd := fun w : World => run_string_add_sum (P := Try.prog) w g0 tb hszt
            rw [hG] at hadd hfl hend
            obtain ⟨hle, hpre⟩ := hfl.le0
            have hA7 : BAt w (w6.setCell ⟨q + 1, 0, none⟩ (.string G)) q bn L' k s0 s1 G g1 sh0 sh1 := hO.took0 hN hT hfl
            have hgb6 : Blk w6 (q + 1) 30 #[.string g0, .string g1] := Blk.turn hO.gb hT (fun h => by omega)
            have g6 : w6.cell? ⟨q + 1, 0, none⟩ = some (.string g0) := Blk.cell hgb6 0
            have f6 : w6.frozen? ⟨q + 1, 0, none⟩ = false := Blk.free hgb6 0
            have HA7 := Lib.hid hA7
            have HEND := Lib.hid hend
            clear hO hfl hN hT hgb6 hA7 hszt hG hend p0 p2 p3 p4
            go_upto_region 30 with (fail)
            obtain ⟨w7, hw7⟩ : ∃ w7, w7 = w6.setCell ⟨q + 1, 0, none⟩ (.string G) := ⟨_, rfl⟩
            rw [← hw7] at HA7 ⊢
            clear hw7 g6 f6 hadd
            have g7 : w7.cell? ⟨q + 1, 0, none⟩ = some (.string G) := Blk.cell HA7.out.gb 0
            have s7 : w7.cell? ⟨q, 1, none⟩ = some (.string s1) := Blk.cell HA7.out.sb 1
            have k7 : w7.cell? ⟨q + 2, 1, none⟩ = some (.bool sh1) := Blk.cell HA7.out.hb 1
            have d5 : decide ((s1.size : Int) < (G.size : Int)) = false := by simp; omega
            have d6 : decide (s1.size < G.size) = false := by simp; omega
            have hle2 : (G.size : Int) ≤ (s1.size : Int) := by omega
            have hsl := fun w : World => (run_slice_pre w s1 G hle hpre)
            have hneq := fun w : World => (run_neq_self w G)
            have HLE := Lib.hid hle
            have HPRE := Lib.hid hpre
            clear hle hpre
            by_cases h16 : er = 16
            · subst h16
              obtain ⟨hsh, hGs⟩ := HEND.out rfl
              rw [hsh] at k7
              clear hsh HEND
              subst hGs
              go_wp2_with fail
              go_quiet (fail)
              have HA6 := Lib.hid (HA7.out.drew nq).next
              clear HA7 g7 s7 k7 hneq hsl
              go_wp2_with fail
              refine (waits15_by HA6.out.net 0 (by decide)).mono ?_
              rintro e w8 ⟨wa, wb, wn, rfl, ha0, hb0, hab, hw8⟩
              have hA9 := HA6.out.drew wn
              rw [← hw8] at hA9
              have HA9 := Lib.hid hA9
              have dab : decide (65536 < wa + wb) = false := by simp; omega
              clear hA9 hw8
              go_wp2_with fail
              go_roundw
              case rel => exact ⟨k + 1, L', s0, G, G, g1, sh0, sh1, by omega, by go_num, HA9.out⟩
              case measure => simp [intOf]; omega
            · have h16' : (er == 16) = false := by simpa using h16
              have H16 := Lib.hid h16
              clear h16 HEND
              go_wp2_with fail
              go_quiet (fail)
              have HA6 := Lib.hid (HA7.out.drew nq).next
              clear HA7 g7 s7 k7 hneq hsl
              go_wp2_with fail
              refine (waits15_by HA6.out.net 0 (by decide)).mono ?_
              rintro e w8 ⟨wa, wb, wn, rfl, ha0, hb0, hab, hw8⟩
              have hA9 := HA6.out.drew wn
              rw [← hw8] at hA9
              have HA9 := Lib.hid hA9
              have dab : decide (65536 < wa + wb) = false := by simp; omega
              clear hA9 hw8
              go_wp2_with fail
              go_roundw
              case rel => exact ⟨k + 1, L', s0, s1, G, g1, sh0, sh1, by omega, by go_num, HA9.out⟩
              case measure => simp [intOf]; omega
        · have r0 : (R == 0) = false := by simp; omega
          have r1 : (R == 1) = false := by simp; omega
          have r2 : (R == -1) = false := by simp; omega
          have r3 : (R == 2) = false := by simp; omega
          have r4 : (R == -2) = false := by simp; omega
          obtain ⟨Z, hZ⟩ : ∃ Z, many.tmod 5 = Z := ⟨_, rfl⟩
          by_cases hz : Z = 0
          · subst hz
            go_wp2_with fail
            refine (shut14_by0 (F := fun k => w.heap.size ≤ k ∧ k < q) (w := wo) HO.out.net HO.out.by_).mono ?_
            rintro e w6 ⟨er, L', rfl, hN, hT, hcase⟩
            have HF := Lib.hid hcase
            have HN := Lib.hid (And.intro hN hT)
            clear hcase hN hT p0 p2 p3 p4
            by_cases her : er = 0
            · subst her
              have hfl : Bytes L' s0 s1 g0 g1 true sh1 := by
                rcases HF.out with h | h
                · exact absurd rfl h.1
                · exact h.2
              have hhb6 : Blk w6 (q + 2) 39 #[.bool sh0, .bool sh1] := Blk.turn HO.out.hb HN.out.2 (fun h => by omega)
              have k6 : w6.cell? ⟨q + 2, 0, none⟩ = some (.bool sh0) := Blk.cell hhb6 0
              have f6 : w6.frozen? ⟨q + 2, 0, none⟩ = false := Blk.free hhb6 0
              have HA6 := Lib.hid (HO.out.shut0 HN.out.1 HN.out.2 hfl).next
              clear hfl hhb6
              go_upto_region 33 with (fail)
              obtain ⟨w7, hw7⟩ : ∃ w7, w7 = w6.setCell ⟨q + 2, 0, none⟩ (.bool true) := ⟨_, rfl⟩
              rw [← hw7] at HA6 ⊢
              clear hw7 k6 f6
              go_wp2_with fail
              refine (waits15_by HA6.out.net 0 (by decide)).mono ?_
              rintro e w8 ⟨wa, wb, wn, rfl, ha0, hb0, hab, hw8⟩
              have hA9 := HA6.out.drew wn
              rw [← hw8] at hA9
              have HA9 := Lib.hid hA9
              have dab : decide (65536 < wa + wb) = false := by simp; omega
              clear hA9 hw8
              go_wp2_with fail
              go_roundw
              case rel => exact ⟨k + 1, L', s0, s1, g0, g1, true, sh1, by omega, by go_num, HA9.out⟩
              case measure => simp [intOf]; omega
            · have hern : (er == 0) = false := by simpa using her
              have HER := Lib.hid her
              have hfl : Bytes L' s0 s1 g0 g1 sh0 sh1 := by
                rcases HF.out with h | h
                · exact h.2
                · exact absurd h.1 her
              have HA6 := Lib.hid (HO.out.call HN.out.1 HN.out.2 hfl).next
              clear her hfl
              go_wp2_with fail
              refine (waits15_by HA6.out.net 0 (by decide)).mono ?_
              rintro e w8 ⟨wa, wb, wn, rfl, ha0, hb0, hab, hw8⟩
              have hA9 := HA6.out.drew wn
              rw [← hw8] at hA9
              have HA9 := Lib.hid hA9
              have dab : decide (65536 < wa + wb) = false := by simp; omega
              clear hA9 hw8
              go_wp2_with fail
              go_roundw
              case rel => exact ⟨k + 1, L', s0, s1, g0, g1, sh0, sh1, by omega, by go_num, HA9.out⟩
              case measure => simp [intOf]; omega
          · have hz' : (Z == 0) = false := by simpa using hz
            have HA6 := Lib.hid HO.out.next
            clear hz
            go_wp2_with fail
            refine (waits15_by HA6.out.net 0 (by decide)).mono ?_
            rintro e w8 ⟨wa, wb, wn, rfl, ha0, hb0, hab, hw8⟩
            have hA9 := HA6.out.drew wn
            rw [← hw8] at hA9
            have HA9 := Lib.hid hA9
            have dab : decide (65536 < wa + wb) = false := by simp; omega
            clear hA9 hw8
            go_wp2_with fail
            go_roundw
            case rel => exact ⟨k + 1, L, s0, s1, g0, g1, sh0, sh1, by omega, by go_num, HA9.out⟩
            case measure => simp [intOf]; omega
      · rcases hR2 with rfl | rfl | rfl | rfl | rfl | hR3
        · as_aux_lemma =>
            go_wp2_with fail
            refine (send10_by1 (F := fun k => w.heap.size ≤ k ∧ k < q) HO.out.net HO.out.by_ data hdm).mono ?_
            rintro e w6 ⟨m, er, L', rfl, hN, hT, hm1, hm2, hcase⟩
            have hm3 : (m : Int) ≤ (data.size : Int) := by omega
            have P4 : w6.cell? ⟨p, 4, none⟩ = some (.string data) := Blk.cell (Blk.turn HP.out hT (fun h => by omega)) 4
            have HF := Lib.hid hcase
            have HN := Lib.hid (And.intro hN hT)
            obtain ⟨M, hM⟩ : ∃ M : Int, M = (m : Int) := ⟨_, rfl⟩
            have hM0 : 0 ≤ M := by omega
            have hMd : M ≤ (data.size : Int) := by omega
            have HM := Lib.hid hM
            rw [← hM]
            have HM2 := Lib.hid (And.intro hm1 hm2)
            clear hM hm3 hcase hN hT hm1 hm2 p0 p2 p3 p4
            by_cases her : er = 0
            · subst her
              have hfl : sh1 = false ∧ Bytes L' s0 (s1 ++ data.extract 0 m) g0 g1 sh0 sh1 := by
                rcases HF.out with h | h
                · exact absurd rfl h.1
                · exact h.2
              have hsb6 : Blk w6 q 30 #[.string s0, .string s1] := Blk.turn HO.out.sb HN.out.2 (fun h => by omega)
              have hhb6 : Blk w6 (q + 2) 39 #[.bool sh0, .bool sh1] := Blk.turn HO.out.hb HN.out.2 (fun h => by omega)
              have b6 : w6.cell? ⟨q, 1, none⟩ = some (.string s1) := Blk.cell hsb6 1
              have f6 : w6.frozen? ⟨q, 1, none⟩ = false := Blk.free hsb6 1
              have k6 : w6.cell? ⟨q + 2, 1, none⟩ = some (.bool sh1) := Blk.cell hhb6 1
              rw [hfl.1] at k6
              have dM0 : decide (M < 0) = false := by simp; omega
              have dM1 : decide ((data.size : Int) < M) = false := by simp; omega
              have hadd := fun w : World => run_string_add_sum (P := Try.prog) w s1 (data.extract 0 M.toNat) (by rw [ByteArray.size_extract]; have h1 := HO.out.z1; have h2 := HM.out; have h3 := HM2.out; omega)
              have hA6 : BAt w (w6.setCell ⟨q, 1, none⟩ (.string (s1 ++ data.extract 0 m))).drew q bn L' (k + 1) s0 (s1 ++ data.extract 0 m) g0 g1 sh0 sh1 :=
                (BAt.sent1 HO.out HN.out.1 HN.out.2 (by rw [ByteArray.size_extract]; have := HM2.out; omega) hfl.2).drew 1
              have hmM : M.toNat = m := by have := HM.out; omega
              rw [← hmM] at hA6
              have HA6 := Lib.hid hA6
              clear hfl hsb6 hhb6 hA6 hmM
              go_wp2_with fail
              refine wp_region_still_tail 10 (by kernel_rfl) (by kernel_rfl) ?_
              simp only [List.take_succ_cons, List.take_zero, List.drop_succ_cons, List.drop_zero]
              repeat still_step
              refine wpStill_nil ?_
              change wpList _ _ _ _ _ w6.drew
              go_upto_region 33 with (fail)
              obtain ⟨w7, hw7⟩ : ∃ w7, w7 = (w6.setCell ⟨q, 1, none⟩ (.string (s1 ++ data.extract 0 M.toNat))).drew := ⟨_, rfl⟩
              rw [← hw7] at HA6 ⊢
              clear hw7 b6 f6 k6 P4 hadd
              go_wp2_with fail
              refine (waits15_by HA6.out.net 1 (by decide)).mono ?_
              rintro e w8 ⟨wa, wb, wn, rfl, ha0, hb0, hab, hw8⟩
              have hA9 := HA6.out.drew wn
              rw [← hw8] at hA9
              have HA9 := Lib.hid hA9
              have dab : decide (65536 < wa + wb) = false := by simp; omega
              clear hA9 hw8
              go_wp2_with fail
              go_roundw
              case rel => exact ⟨k + 1, L', s0, s1 ++ data.extract 0 M.toNat, g0, g1, sh0, sh1, by omega, by go_num, HA9.out⟩
              case measure => simp [intOf]; omega
            · have hern : (er == 0) = false := by simpa using her
              have HER := Lib.hid her
              have hfl : Bytes L' s0 s1 g0 g1 sh0 sh1 := by
                rcases HF.out with h | h
                · exact h.2
                · exact absurd h.1 her
              have HA6 := Lib.hid (HO.out.call HN.out.1 HN.out.2 hfl).next
              clear her hfl
              go_wp2_with fail
              refine (waits15_by HA6.out.net 1 (by decide)).mono ?_
              rintro e w8 ⟨wa, wb, wn, rfl, ha0, hb0, hab, hw8⟩
              have hA9 := HA6.out.drew wn
              rw [← hw8] at hA9
              have HA9 := Lib.hid hA9
              have dab : decide (65536 < wa + wb) = false := by simp; omega
              clear hA9 hw8
              go_wp2_with fail
              go_roundw
              case rel => exact ⟨k + 1, L', s0, s1, g0, g1, sh0, sh1, by omega, by go_num, HA9.out⟩
              case measure => simp [intOf]; omega
        · as_aux_lemma =>
            go_wp2_with fail
            refine (move11_by1 (F := fun k => w.heap.size ≤ k ∧ k < q) HO.out.net HO.out.by_ many).mono ?_
            rintro e w6 ⟨v6, L', rfl, ⟨ra, rb, rfl⟩, hN, hT, hfl⟩
            have HA6 := Lib.hid (HO.out.call hN hT hfl).next
            clear hN hT hfl p0 p2 p3 p4
            go_wp2_with fail
            refine (waits15_by HA6.out.net 1 (by decide)).mono ?_
            rintro e w8 ⟨wa, wb, wn, rfl, ha0, hb0, hab, hw8⟩
            have hA9 := HA6.out.drew wn
            rw [← hw8] at hA9
            have HA9 := Lib.hid hA9
            have dab : decide (65536 < wa + wb) = false := by simp; omega
            clear hA9 hw8
            go_wp2_with fail
            go_roundw
            case rel => exact ⟨k + 1, L', s0, s1, g0, g1, sh0, sh1, by omega, by go_num, HA9.out⟩
            case measure => simp [intOf]; omega
        · as_aux_lemma =>
            go_wp2_with fail
            refine (move11_by1 (F := fun k => w.heap.size ≤ k ∧ k < q) HO.out.net HO.out.by_ many).mono ?_
            rintro e w6 ⟨v6, L', rfl, ⟨ra, rb, rfl⟩, hN, hT, hfl⟩
            have HA6 := Lib.hid (HO.out.call hN hT hfl).next
            clear hN hT hfl p0 p2 p3 p4
            go_wp2_with fail
            refine (waits15_by HA6.out.net 1 (by decide)).mono ?_
            rintro e w8 ⟨wa, wb, wn, rfl, ha0, hb0, hab, hw8⟩
            have hA9 := HA6.out.drew wn
            rw [← hw8] at hA9
            have HA9 := Lib.hid hA9
            have dab : decide (65536 < wa + wb) = false := by simp; omega
            clear hA9 hw8
            go_wp2_with fail
            go_roundw
            case rel => exact ⟨k + 1, L', s0, s1, g0, g1, sh0, sh1, by omega, by go_num, HA9.out⟩
            case measure => simp [intOf]; omega
        · as_aux_lemma =>
            go_wp2_with fail
            refine (take12_by1 (F := fun k => w.heap.size ≤ k ∧ k < q) HO.out.net HO.out.by_ many).mono ?_
            rintro e w6 ⟨tb, er, L', rfl, hN, hT, hfl, hend⟩
            have hO := HO.out
            obtain ⟨G, hG⟩ : ∃ G, g1 ++ tb = G := ⟨_, rfl⟩
            have hszt : g1.size + tb.size ≤ 9223372036854775807 := by
              have h1 := hfl.le1.1
              rw [ByteArray.size_append] at h1
              have := hO.z0
              omega
            have hadd := fun w : World => run_string_add_sum (P := Try.prog) w g1 tb hszt
            rw [hG] at hadd hfl hend
            obtain ⟨hle, hpre⟩ := hfl.le1
            have hA7 : BAt w (w6.setCell ⟨q + 1, 1, none⟩ (.string G)) q bn L' k s0 s1 g0 G sh0 sh1 := hO.took1 hN hT hfl
            have hgb6 : Blk w6 (q + 1) 30 #[.string g0, .string g1] := Blk.turn hO.gb hT (fun h => by omega)
            have g6 : w6.cell? ⟨q + 1, 1, none⟩ = some (.string g1) := Blk.cell hgb6 1
            have f6 : w6.frozen? ⟨q + 1, 1, none⟩ = false := Blk.free hgb6 1
            have HA7 := Lib.hid hA7
            have HEND := Lib.hid hend
            clear hO hfl hN hT hgb6 hA7 hszt hG hend p0 p2 p3 p4
            go_upto_region 30 with (fail)
            obtain ⟨w7, hw7⟩ : ∃ w7, w7 = w6.setCell ⟨q + 1, 1, none⟩ (.string G) := ⟨_, rfl⟩
            rw [← hw7] at HA7 ⊢
            clear hw7 g6 f6 hadd
            have g7 : w7.cell? ⟨q + 1, 1, none⟩ = some (.string G) := Blk.cell HA7.out.gb 1
            have s7 : w7.cell? ⟨q, 0, none⟩ = some (.string s0) := Blk.cell HA7.out.sb 0
            have k7 : w7.cell? ⟨q + 2, 0, none⟩ = some (.bool sh0) := Blk.cell HA7.out.hb 0
            have d5 : decide ((s0.size : Int) < (G.size : Int)) = false := by simp; omega
            have d6 : decide (s0.size < G.size) = false := by simp; omega
            have hle2 : (G.size : Int) ≤ (s0.size : Int) := by omega
            have hsl := fun w : World => (run_slice_pre w s0 G hle hpre)
            have hneq := fun w : World => (run_neq_self w G)
            have HLE := Lib.hid hle
            have HPRE := Lib.hid hpre
            clear hle hpre
            by_cases h16 : er = 16
            · subst h16
              obtain ⟨hsh, hGs⟩ := HEND.out rfl
              rw [hsh] at k7
              clear hsh HEND
              subst hGs
              go_wp2_with fail
              go_quiet (fail)
              have HA6 := Lib.hid (HA7.out.drew nq).next
              clear HA7 g7 s7 k7 hneq hsl
              go_wp2_with fail
              refine (waits15_by HA6.out.net 1 (by decide)).mono ?_
              rintro e w8 ⟨wa, wb, wn, rfl, ha0, hb0, hab, hw8⟩
              have hA9 := HA6.out.drew wn
              rw [← hw8] at hA9
              have HA9 := Lib.hid hA9
              have dab : decide (65536 < wa + wb) = false := by simp; omega
              clear hA9 hw8
              go_wp2_with fail
              go_roundw
              case rel => exact ⟨k + 1, L', G, s1, g0, G, sh0, sh1, by omega, by go_num, HA9.out⟩
              case measure => simp [intOf]; omega
            · have h16' : (er == 16) = false := by simpa using h16
              have H16 := Lib.hid h16
              clear h16 HEND
              go_wp2_with fail
              go_quiet (fail)
              have HA6 := Lib.hid (HA7.out.drew nq).next
              clear HA7 g7 s7 k7 hneq hsl
              go_wp2_with fail
              refine (waits15_by HA6.out.net 1 (by decide)).mono ?_
              rintro e w8 ⟨wa, wb, wn, rfl, ha0, hb0, hab, hw8⟩
              have hA9 := HA6.out.drew wn
              rw [← hw8] at hA9
              have HA9 := Lib.hid hA9
              have dab : decide (65536 < wa + wb) = false := by simp; omega
              clear hA9 hw8
              go_wp2_with fail
              go_roundw
              case rel => exact ⟨k + 1, L', s0, s1, g0, G, sh0, sh1, by omega, by go_num, HA9.out⟩
              case measure => simp [intOf]; omega
        · as_aux_lemma =>
            go_wp2_with fail
            refine (take12_by1 (F := fun k => w.heap.size ≤ k ∧ k < q) HO.out.net HO.out.by_ many).mono ?_
            rintro e w6 ⟨tb, er, L', rfl, hN, hT, hfl, hend⟩
            have hO := HO.out
            obtain ⟨G, hG⟩ : ∃ G, g1 ++ tb = G := ⟨_, rfl⟩
            have hszt : g1.size + tb.size ≤ 9223372036854775807 := by
              have h1 := hfl.le1.1
              rw [ByteArray.size_append] at h1
              have := hO.z0
              omega
            have hadd := fun w : World => run_string_add_sum (P := Try.prog) w g1 tb hszt
            rw [hG] at hadd hfl hend
            obtain ⟨hle, hpre⟩ := hfl.le1
            have hA7 : BAt w (w6.setCell ⟨q + 1, 1, none⟩ (.string G)) q bn L' k s0 s1 g0 G sh0 sh1 := hO.took1 hN hT hfl
            have hgb6 : Blk w6 (q + 1) 30 #[.string g0, .string g1] := Blk.turn hO.gb hT (fun h => by omega)
            have g6 : w6.cell? ⟨q + 1, 1, none⟩ = some (.string g1) := Blk.cell hgb6 1
            have f6 : w6.frozen? ⟨q + 1, 1, none⟩ = false := Blk.free hgb6 1
            have HA7 := Lib.hid hA7
            have HEND := Lib.hid hend
            clear hO hfl hN hT hgb6 hA7 hszt hG hend p0 p2 p3 p4
            go_upto_region 30 with (fail)
            obtain ⟨w7, hw7⟩ : ∃ w7, w7 = w6.setCell ⟨q + 1, 1, none⟩ (.string G) := ⟨_, rfl⟩
            rw [← hw7] at HA7 ⊢
            clear hw7 g6 f6 hadd
            have g7 : w7.cell? ⟨q + 1, 1, none⟩ = some (.string G) := Blk.cell HA7.out.gb 1
            have s7 : w7.cell? ⟨q, 0, none⟩ = some (.string s0) := Blk.cell HA7.out.sb 0
            have k7 : w7.cell? ⟨q + 2, 0, none⟩ = some (.bool sh0) := Blk.cell HA7.out.hb 0
            have d5 : decide ((s0.size : Int) < (G.size : Int)) = false := by simp; omega
            have d6 : decide (s0.size < G.size) = false := by simp; omega
            have hle2 : (G.size : Int) ≤ (s0.size : Int) := by omega
            have hsl := fun w : World => (run_slice_pre w s0 G hle hpre)
            have hneq := fun w : World => (run_neq_self w G)
            have HLE := Lib.hid hle
            have HPRE := Lib.hid hpre
            clear hle hpre
            by_cases h16 : er = 16
            · subst h16
              obtain ⟨hsh, hGs⟩ := HEND.out rfl
              rw [hsh] at k7
              clear hsh HEND
              subst hGs
              go_wp2_with fail
              go_quiet (fail)
              have HA6 := Lib.hid (HA7.out.drew nq).next
              clear HA7 g7 s7 k7 hneq hsl
              go_wp2_with fail
              refine (waits15_by HA6.out.net 1 (by decide)).mono ?_
              rintro e w8 ⟨wa, wb, wn, rfl, ha0, hb0, hab, hw8⟩
              have hA9 := HA6.out.drew wn
              rw [← hw8] at hA9
              have HA9 := Lib.hid hA9
              have dab : decide (65536 < wa + wb) = false := by simp; omega
              clear hA9 hw8
              go_wp2_with fail
              go_roundw
              case rel => exact ⟨k + 1, L', G, s1, g0, G, sh0, sh1, by omega, by go_num, HA9.out⟩
              case measure => simp [intOf]; omega
            · have h16' : (er == 16) = false := by simpa using h16
              have H16 := Lib.hid h16
              clear h16 HEND
              go_wp2_with fail
              go_quiet (fail)
              have HA6 := Lib.hid (HA7.out.drew nq).next
              clear HA7 g7 s7 k7 hneq hsl
              go_wp2_with fail
              refine (waits15_by HA6.out.net 1 (by decide)).mono ?_
              rintro e w8 ⟨wa, wb, wn, rfl, ha0, hb0, hab, hw8⟩
              have hA9 := HA6.out.drew wn
              rw [← hw8] at hA9
              have HA9 := Lib.hid hA9
              have dab : decide (65536 < wa + wb) = false := by simp; omega
              clear hA9 hw8
              go_wp2_with fail
              go_roundw
              case rel => exact ⟨k + 1, L', s0, s1, g0, G, sh0, sh1, by omega, by go_num, HA9.out⟩
              case measure => simp [intOf]; omega
        · have r0 : (R == 0) = false := by simp; omega
          have r1 : (R == 1) = false := by simp; omega
          have r2 : (R == -1) = false := by simp; omega
          have r3 : (R == 2) = false := by simp; omega
          have r4 : (R == -2) = false := by simp; omega
          obtain ⟨Z, hZ⟩ : ∃ Z, many.tmod 5 = Z := ⟨_, rfl⟩
          by_cases hz : Z = 0
          · subst hz
            go_wp2_with fail
            refine (shut14_by1 (F := fun k => w.heap.size ≤ k ∧ k < q) (w := wo) HO.out.net HO.out.by_).mono ?_
            rintro e w6 ⟨er, L', rfl, hN, hT, hcase⟩
            have HF := Lib.hid hcase
            have HN := Lib.hid (And.intro hN hT)
            clear hcase hN hT p0 p2 p3 p4
            by_cases her : er = 0
            · subst her
              have hfl : Bytes L' s0 s1 g0 g1 sh0 true := by
                rcases HF.out with h | h
                · exact absurd rfl h.1
                · exact h.2
              have hhb6 : Blk w6 (q + 2) 39 #[.bool sh0, .bool sh1] := Blk.turn HO.out.hb HN.out.2 (fun h => by omega)
              have k6 : w6.cell? ⟨q + 2, 1, none⟩ = some (.bool sh1) := Blk.cell hhb6 1
              have f6 : w6.frozen? ⟨q + 2, 1, none⟩ = false := Blk.free hhb6 1
              have HA6 := Lib.hid (HO.out.shut1 HN.out.1 HN.out.2 hfl).next
              clear hfl hhb6
              go_upto_region 33 with (fail)
              obtain ⟨w7, hw7⟩ : ∃ w7, w7 = w6.setCell ⟨q + 2, 1, none⟩ (.bool true) := ⟨_, rfl⟩
              rw [← hw7] at HA6 ⊢
              clear hw7 k6 f6
              go_wp2_with fail
              refine (waits15_by HA6.out.net 1 (by decide)).mono ?_
              rintro e w8 ⟨wa, wb, wn, rfl, ha0, hb0, hab, hw8⟩
              have hA9 := HA6.out.drew wn
              rw [← hw8] at hA9
              have HA9 := Lib.hid hA9
              have dab : decide (65536 < wa + wb) = false := by simp; omega
              clear hA9 hw8
              go_wp2_with fail
              go_roundw
              case rel => exact ⟨k + 1, L', s0, s1, g0, g1, sh0, true, by omega, by go_num, HA9.out⟩
              case measure => simp [intOf]; omega
            · have hern : (er == 0) = false := by simpa using her
              have HER := Lib.hid her
              have hfl : Bytes L' s0 s1 g0 g1 sh0 sh1 := by
                rcases HF.out with h | h
                · exact h.2
                · exact absurd h.1 her
              have HA6 := Lib.hid (HO.out.call HN.out.1 HN.out.2 hfl).next
              clear her hfl
              go_wp2_with fail
              refine (waits15_by HA6.out.net 1 (by decide)).mono ?_
              rintro e w8 ⟨wa, wb, wn, rfl, ha0, hb0, hab, hw8⟩
              have hA9 := HA6.out.drew wn
              rw [← hw8] at hA9
              have HA9 := Lib.hid hA9
              have dab : decide (65536 < wa + wb) = false := by simp; omega
              clear hA9 hw8
              go_wp2_with fail
              go_roundw
              case rel => exact ⟨k + 1, L', s0, s1, g0, g1, sh0, sh1, by omega, by go_num, HA9.out⟩
              case measure => simp [intOf]; omega
          · have hz' : (Z == 0) = false := by simpa using hz
            have HA6 := Lib.hid HO.out.next
            clear hz
            go_wp2_with fail
            refine (waits15_by HA6.out.net 1 (by decide)).mono ?_
            rintro e w8 ⟨wa, wb, wn, rfl, ha0, hb0, hab, hw8⟩
            have hA9 := HA6.out.drew wn
            rw [← hw8] at hA9
            have HA9 := Lib.hid hA9
            have dab : decide (65536 < wa + wb) = false := by simp; omega
            clear hA9 hw8
            go_wp2_with fail
            go_roundw
            case rel => exact ⟨k + 1, L, s0, s1, g0, g1, sh0, sh1, by omega, by go_num, HA9.out⟩
            case measure => simp [intOf]; omega
    · have d1 : decide ((k : Int) < l.length) = false := by simp; omega
      have d2 : decide (k < l.length) = false := by simp; omega
      clear hlt
      have HA := Lib.hid hA
      clear hA
      go_wp2_with fail
      go_ret
      exact ⟨by first | rfl | simp, HA.out.tu⟩
end Go.Proofs.Ytalcmaphndfcfaa
