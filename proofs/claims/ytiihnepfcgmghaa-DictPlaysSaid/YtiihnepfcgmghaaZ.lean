/- The document's dictionary: Between. -/
import Derived.Test.YtiihnepfcgmghaaY
namespace Go.Proofs.Ytiihnepfcgmghaa
open Go.RowKit Go.Maps
set_option linter.unusedVariables false
set_option linter.unusedSimpArgs false

theorem filter_step {s : List Nat} (q : Nat → Bool) {i : Nat} (hi : i < s.length) : (s.take (i + 1)).filter q = (s.take i).filter q ++ (if q s[i] then [s[i]] else []) := by
  rw [List.take_succ_eq_append_getElem hi, List.filter_append]
  congr 1
  cases h : q s[i] <;> simp [h]
set_option maxRecDepth 100000 in
set_option maxHeartbeats 8000000 in
theorem rbetween28 (R : Nat) (l : List ByteArray) (s : List Nat) (a b : ByteArray) (ha : a.size ≤ maxLen) (hb : b.size ≤ maxLen) (w : World) {ad : Option Addr} {c : Nat} (h : RefQ R w l ad c) (hl : l.length ≤ 4096) (hsh : ∀ s ∈ l, s.size ≤ 64) (hn : l.Nodup) (hs : IsSort l s) :
    Calls Try.prog 28 #[ptrV R, .string a, .string b] w fun e w' => ∃ v, e = .returned v ∧ w'.ownsRow w.heap.size 3 1 v (betw l s a b).length (natV (betw l s a b)) ∧ Below w.heap.size w w' := by
  obtain ⟨i0, hi0, hz0, hz1, hz2⟩ := info_parts info3
  have HS := Lib.hid (rsorted19 R l s w h hl hsh hn hs)
  have H := Lib.hid h
  have HN := Lib.hid (And.intro hsh (And.intro hn hs))
  have HAB := Lib.hid (And.intro ha hb)
  have hsl := hs.len
  unfold ptrV at HS ⊢
  clear h hsh hn hs ha hb
  go_enter Try.func28, Try.ntmps28
  go_wp2_with fail
  refine HS.out.mono ?_
  rintro e w1 ⟨rfl, hb1, hB1⟩
  have HK := Lib.hid (And.intro hb1 hB1)
  clear hb1 hB1 HS
  obtain ⟨ob, hob⟩ : ∃ ob, ob = w.heap.size := ⟨_, rfl⟩
  rw [← hob]
  have HOB := Lib.hid hob
  clear hob
  go_wp2_with fail
  go_loopw [7, 9] (fun p u wr => ∃ i : Nat, i ≤ l.length ∧ u = .int .i64 i ∧ wr.ownsRow w.heap.size 3 1 p ((s.take i).filter (midB l a b)).length (natV ((s.take i).filter (midB l a b))) ∧ p.ownBlock ≠ some ob ∧ Blk wr ob 3 (ints (s.map Int.ofNat)) ∧ Below w.heap.size w wr) (fun _ u _ => l.length - (intOf u).toNat)
  case atStart => exact ⟨0, by omega, rfl, World.ownsRow_nil _ _ _ _, by simp [Value.ownBlock], HOB.out ▸ HK.out.1, HK.out.2⟩
  case round =>
    obtain ⟨i, hi, rfl, ho, hne, hb, hB⟩ := hrel
    obtain ⟨pa, pc, rfl⟩ := owns_form ho
    have HQ := Lib.hid (H.out.step hB)
    have c0 := HQ.out.cell
    have HI := Lib.hid (And.intro ho (And.intro hne (And.intro hb hB)))
    have hPl : ((s.take i).filter (midB l a b)).length ≤ 4096 := Nat.le_trans (List.length_filter_le _ _) (by rw [List.length_take]; omega)
    by_cases h1 : i < l.length
    · have hd3 : decide ((i : Int) < l.length) = true := decide_eq_true (by omega)
      have his : i < s.length := by omega
      obtain ⟨tb, off, rfl, -⟩ := HQ.out.some_ (by omega)
      have hx : s[i] < l.length := List.mem_range.1 (HN.out.2.2.1.mem_iff.1 (List.getElem_mem his))
      have g0 : wr.cell? ⟨ob, i, none⟩ = some (.int .i64 ((s[i] : Nat) : Int)) := by
        rw [Blk.cell hb i]
        unfold ints
        simp [his]
      obtain ⟨-, c1⟩ := HQ.out.text tb off rfl s[i] hx
      have HF := Lib.hid (filter_step (midB l a b) his)
      have h64 : (64 : Nat) ≤ maxLen := by decide
      have HLA := Lib.hid (fun wx => less39 (l.getD s[i] ByteArray.empty) a (Nat.le_trans (HN.out.1 _ (getD_mem hx)) h64) HAB.out.1 wx)
      have HLB := Lib.hid (fun wx => less39 (l.getD s[i] ByteArray.empty) b (Nat.le_trans (HN.out.1 _ (getD_mem hx)) h64) HAB.out.2 wx)
      have HMB := Lib.hid (show midB l a b s[i] = (!ltS (l.getD s[i] ByteArray.empty) a && ltS (l.getD s[i] ByteArray.empty) b) from rfl)
      obtain ⟨x, ex⟩ : ∃ x, x = s[i] := ⟨_, rfl⟩
      rw [← ex] at g0 c1 HF hx HLA HLB HMB
      obtain ⟨t, et⟩ : ∃ t, t = l.getD x ByteArray.empty := ⟨_, rfl⟩
      rw [← et] at c1 HMB HLA HLB
      have HX := Lib.hid ex
      clear ex et ho hne hb hB h64
      go_wp2_with fail
      go_quiet ((go_at_call 39; exact Calls.quiet_of (HLA.out _)))
      have HI2 := Lib.hid (show _ ∧ _ ∧ _ ∧ _ from ⟨(owns_turn HI.out.1 (Turn.of_below (F := fun _ => False) (Below.drewN (Below.refl wr.heap.size wr) nq) (fun k h1 h2 => by omega)) (fun g h h2 => h2)), HI.out.2.1, HI.out.2.2.1.drewN nq, Below.drewN HI.out.2.2.2 nq⟩)
      have c02 : (wr.drewN nq).cell? ⟨R, 0, none⟩ = _ := c0
      have g02 : (wr.drewN nq).cell? ⟨ob, i, none⟩ = _ := g0
      have c12 : (wr.drewN nq).cell? ⟨tb, off + x, none⟩ = _ := c1
      clear HI c0 g0 c1
      generalize wr.drewN nq = w2 at *
      go_wp2_with fail
      go_quiet ((go_at_call 39; exact Calls.quiet_of (HLB.out _)))
      have HI3 := Lib.hid (show _ ∧ _ ∧ _ ∧ _ from ⟨(owns_turn HI2.out.1 (Turn.of_below (F := fun _ => False) (Below.drewN (Below.refl w2.heap.size w2) nq) (fun k h1 h2 => by omega)) (fun g h h2 => h2)), HI2.out.2.1, HI2.out.2.2.1.drewN nq, Below.drewN HI2.out.2.2.2 nq⟩)
      have c03 : (w2.drewN nq).cell? ⟨R, 0, none⟩ = _ := c02
      have g03 : (w2.drewN nq).cell? ⟨ob, i, none⟩ = _ := g02
      have c13 : (w2.drewN nq).cell? ⟨tb, off + x, none⟩ = _ := c12
      clear HI2 c02 g02 c12
      generalize w2.drewN nq = w3 at *
      cases hlo : ltS t a
      · cases hhi : ltS t b
        · rw [hlo, hhi] at HMB
          go_wp2_with fail
          go_roundw
          case rel => exact ⟨i + 1, by omega, by go_num, by rw [show (s.take (i + 1)).filter (midB l a b) = (s.take i).filter (midB l a b) from by rw [HF.out, HMB.out]; simp]; exact HI3.out.1, HI3.out.2⟩
          case measure => simp [intOf]; omega
        · rw [hlo, hhi] at HMB
          obtain ⟨P, eP⟩ : ∃ P, P = (s.take i).filter (midB l a b) := ⟨_, rfl⟩
          rw [← eP] at HI3 hPl HF ⊢
          have HP := Lib.hid (show (s.take (i + 1)).filter (midB l a b) = P ++ [x] by rw [HF.out, HMB.out]; simp)
          clear eP
          go_upto_region 5 with (at_builtin; refine wpList_append_own5 _ rfl _ _ 31 rfl w.heap.size 3 i0 (.int .i64 0) 1 8 Try.underlying31 hi0 hz0 hz1 hz2 rfl (by decide) (.slice pa P.length pc) P.length (natV P) rfl (HI3.out.1.alloc (Obj.cells #[.int .i64 (x : Int)] 3)) ⟨w3.heap.size, 0, none⟩ 1 1 [.int .i64 (x : Int)] rfl rfl (cell_one_new' _ _ _) (by intro u hu; simp at hu; subst hu; rfl) (by unfold maxLen; omega) (by omega) (by have := HI3.out.2.2.2.size; simp; omega) ?_; intro v' w5 hown hgrow hat; obtain ⟨va, vc, hv⟩ := owns_form hown; subst hv)
          have ht : Turn (fun g => (Value.slice pa P.length pc).ownBlock = some g) w3 w5 := ((Turn.refl _ w3).alloc (Obj.cells #[.int .i64 (x : Int)] 3)).grown hgrow (fun g hg => hg)
          have HE := Lib.hid (show _ ∧ _ ∧ _ ∧ _ from ⟨hown, (fun e => by
            rcases hat with h | h
            · exact HI3.out.2.1 (h.symm.trans e)
            · have h2 := h.symm.trans e
              injection h2 with h2
              rw [alloc_size] at h2
              have := HI3.out.2.2.1.lt
              omega : (Value.slice va (P.length + 1) vc).ownBlock ≠ some ob), (HI3.out.2.2.1.alloc (Obj.cells #[.int .i64 (x : Int)] 3)).grown hgrow (fun e => HI3.out.2.1 e.symm), HI3.out.2.2.2.trans (ht.below HI3.out.2.2.2.size (fun k hk hg => by have := (HI3.out.1.lt k hg).1; omega))⟩)
          clear ht hown hgrow hat
          go_wp2_with fail
          go_roundw
          case rel => exact ⟨i + 1, by omega, by go_num, by rw [HP.out, List.length_append, show natV (P ++ [x]) = natV P ++ [.int .i64 (x : Int)] by unfold natV; rw [List.map_append]; rfl]; exact HE.out.1, HE.out.2⟩
          case measure => simp [intOf]; omega
      · rw [hlo] at HMB
        go_wp2_with fail
        go_roundw
        case rel => exact ⟨i + 1, by omega, by go_num, by rw [show (s.take (i + 1)).filter (midB l a b) = (s.take i).filter (midB l a b) from by rw [HF.out, HMB.out]; simp]; exact HI3.out.1, HI3.out.2⟩
        case measure => simp [intOf]; omega
    · have hd3 : decide ((i : Int) < l.length) = false := decide_eq_false (by omega)
      obtain rfl : i = l.length := by omega
      have e : s.take l.length = s := by rw [← hsl, List.take_length]
      have HO := Lib.hid (show wr.ownsRow w.heap.size 3 1 _ (betw l s a b).length (natV (betw l s a b)) by
        have h := HI.out.1
        rw [e, mid_betw HN.out.2.2] at h
        rw [← mid_betw HN.out.2.2, ← e] 
        exact HI.out.1)
      clear ho hne hb hB
      go_wp2_with fail
      go_ret
      exact ⟨_, rfl, HO.out, HI.out.2.2.2⟩
end Go.Proofs.Ytiihnepfcgmghaa
