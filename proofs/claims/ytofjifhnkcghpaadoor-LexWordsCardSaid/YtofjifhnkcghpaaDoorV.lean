/- The reference's quoted. -/
import Derived.Test.YtofjifhnkcghpaaDoorS
import Derived.OwnWalk
namespace Go.Proofs.YtofjifhnkcghpaaDoor
open Go.RowKit
set_option linter.unusedVariables false
set_option linter.unusedSimpArgs false
set_option maxRecDepth 100000
theorem own_ge2 {w : World} {base : Nat} {e : TypeId} {size n : Nat} {v : Value} {xs : List Value} (h : w.ownsRow base e size v n xs) {g : Nat} (hg : v.ownBlock = some g) : base ≤ g := by
  rcases h.2 with ⟨rfl, -⟩ | ⟨g', cap, cur, rfl, hg', _⟩
  · cases hg
  · cases hg; exact hg'
theorem own_form2 {w : World} {base : Nat} {e : TypeId} {size n : Nat} {v : Value} {xs : List Value} (h : w.ownsRow base e size v n xs) : ∃ a c, v = .slice a n c := by
  rcases h.2 with ⟨rfl, rfl⟩ | ⟨g', cap, cur, h1, _⟩
  · exact ⟨none, 0, rfl⟩
  · exact ⟨_, _, h1⟩
theorem results_cell_tmp_cell {P : Program} {fn : Func} {p u q : Tmp} {ty ty2 : TypeId} (h : fn.results = #[.cell p ty, .tmp u, .cell q ty2]) (tmps : Array Value) (w : World) (g g2 : Nat) (t t2 : TypeId) (cs cs2 : Array Value) (fr fr2 : Nat × Nat) (d d2 : TypeDesc)
    (hp : tmps.getD p undef = .pointer (some ⟨g, 0, none⟩)) (hg : w.heap[g]? = some (.cells cs t fr))
    (hu : P.underlying ty = some d) (hd : (match d with | .struct _ | .array _ _ => true | _ => false) = true) (hi : (P.info? ty).map (·.size) = some cs.size)
    (hp2 : tmps.getD q undef = .pointer (some ⟨g2, 0, none⟩)) (hg2 : w.heap[g2]? = some (.cells cs2 t2 fr2))
    (hu2 : P.underlying ty2 = some d2) (hd2 : (match d2 with | .struct _ | .array _ _ => true | _ => false) = true) (hi2 : (P.info? ty2).map (·.size) = some cs2.size) :
    (results fn tmps).run P w = .ok (.tuple #[.agg cs, tmps.getD u undef, .agg cs2]) w := by
  have hp' : tmps[p]?.getD undef = .pointer (some ⟨g, 0, none⟩) := by simpa using hp
  have hq' : tmps[q]?.getD undef = .pointer (some ⟨g2, 0, none⟩) := by simpa using hp2
  simp [results, h, hp', hq', asAddr, run_loadVar_row w g t ty cs fr d hg hu hd hi, run_loadVar_row w g2 t2 ty2 cs2 fr2 d2 hg2 hu2 hd2 hi2, Sem.run_bind, Result.andThen]
theorem info31z (x y z : Value) : (Tryd.prog.info? 31).map (·.size) = some #[x, y, z].size := by kernel_rfl
/-- what a word's reading tells: the word, the place behind it, what is wrong -/
def tokV (p : Nat) : Tok → Value
  | .word k t n => .tuple #[.agg #[.int .i64 k, .string ⟨t.toArray⟩, .int .i64 (p : Int)], .int .i64 ((p + n : Nat) : Int), .agg #[.int .i64 0, .int .i64 0]]
  | .bad e o => .tuple #[.agg #[.int .i64 0, .string ⟨#[]⟩, .int .i64 0], .int .i64 0, .agg #[.int .i64 e, .int .i64 ((p + o : Nat) : Int)]]
  | .blank => .tuple #[]
def quoTok : Option (List UInt8 × Nat) → Tok
  | none => .bad 40 0
  | some (t, n) => if 64 < t.length then .bad 45 0 else .word 4 t (n + 1)
theorem quo_tok (r : List UInt8) : tokL (39 :: r) = quoTok (txtL r) := by
  cases h : txtL r with
  | none => exact tok_q0 h
  | some q =>
    obtain ⟨t, n⟩ := q
    unfold quoTok
    by_cases h1 : 64 < t.length
    · dsimp only; rw [if_pos h1]; exact tok_q1 h h1
    · dsimp only; rw [if_neg h1]; exact tok_q2 h h1
set_option maxHeartbeats 4000000 in
theorem quoted36 (s : ByteArray) (p : Nat) (w : World) (hp : p < s.size) (hs : s.size ≤ 4096) : Calls Tryd.prog 36 #[.string s, .int .i64 p] w fun e w' => e = .returned (tokV p (quoTok (txtL (s.data.toList.drop (p + 1))))) ∧ Below w.heap.size w w' := by
  obtain ⟨TOT, hT⟩ : ∃ T, T = txtL (s.data.toList.drop (p + 1)) := ⟨_, rfl⟩
  rw [← hT]
  have HT := Lib.hid hT
  clear hT
  have hz1 := Blk.new w 31 #[.int .i64 0, .string ⟨#[]⟩, .int .i64 0]
  have hz2 := Blk.newAt (w.alloc (.cells #[.int .i64 0, .string ⟨#[]⟩, .int .i64 0] 31)) 26 #[.int .i64 0, .int .i64 0] (b := w.heap.size + 1) (by simp)
  have hz0 : Below w.heap.size w ((w.alloc (.cells #[.int .i64 0, .string ⟨#[]⟩, .int .i64 0] 31)).alloc (.cells #[.int .i64 0, .int .i64 0] 26)) := ((Below.refl _ w).alloc (Nat.le_refl _) _).alloc (by simp) _
  have HZ := Lib.hid (And.intro (hz1.alloc (.cells #[.int .i64 0, .int .i64 0] 26)) (And.intro hz2 hz0))
  clear hz1 hz2 hz0
  obtain ⟨i5, hi5, hy0, hy1, hy2⟩ := info_parts (show (Tryd.prog.info? 5).map (fun i => (i.zero, i.size, i.bytes)) = some (some (.int .u8 0), 1, 1) by kernel_rfl)
  go_enter Tryd.func36, Tryd.ntmps36
  go_wp2_with fail
  go_loopw [7, 8] (fun v a wr => ∃ (i : Nat) (acc : List UInt8), i ≤ s.size + 1 ∧ p + 1 ≤ i ∧ acc.length ≤ i ∧ a = .int .i64 i ∧ TOT = (txtL (s.data.toList.drop i)).map (fun q => (acc ++ q.1, q.2 + (i - (p + 1)))) ∧ wr.ownsRow (w.heap.size + 2) 5 1 v acc.length (byteV acc) ∧ Blk wr w.heap.size 31 #[.int .i64 0, .string ⟨#[]⟩, .int .i64 0] ∧ Blk wr (w.heap.size + 1) 26 #[.int .i64 0, .int .i64 0] ∧ Below w.heap.size w wr) (fun _ a _ => s.size + 2 - (intOf a).toNat)
  case atStart =>
    refine ⟨p + 1, [], by omega, by omega, by simp, by go_num, ?_, ⟨rfl, .inl ⟨rfl, rfl⟩⟩, HZ.out.1, HZ.out.2.1, HZ.out.2.2⟩
    rw [HT.out]
    cases txtL (s.data.toList.drop (p + 1)) <;> simp
  case round =>
    obtain ⟨i, acc, hi1, hi2, hac, rfl, htot, hrow, hb3, hb6, hbl⟩ := hrel
    have hsz : w.heap.size + 2 ≤ wr.heap.size := by have := hb6.lt; omega
    have r0 : wr.cell? ⟨w.heap.size, 0, none⟩ = some (.int .i64 0) := Blk.cell hb3 0
    have r1 : wr.cell? ⟨w.heap.size, 1, none⟩ = some (.string ⟨#[]⟩) := Blk.cell hb3 1
    have r2 : wr.cell? ⟨w.heap.size, 2, none⟩ = some (.int .i64 0) := Blk.cell hb3 2
    have s0 := Blk.free hb3 0
    have s1 := Blk.free hb3 1
    have s2 := Blk.free hb3 2
    have g0 : wr.cell? ⟨w.heap.size + 1, 0, none⟩ = some (.int .i64 0) := Blk.cell hb6 0
    have g1 : wr.cell? ⟨w.heap.size + 1, 1, none⟩ = some (.int .i64 0) := Blk.cell hb6 1
    have z0 := Blk.free hb6 0
    have z1 := Blk.free hb6 1
    obtain ⟨av, cv, hve⟩ := own_form2 hrow
    have hconv := run_conv_own (src := 38) (dst := 9) Tryd.underlying38 Tryd.underlying5 Tryd.underlying9 hrow
    have HR := Lib.hid (And.intro htot (And.intro hrow (And.intro hb3 (And.intro hb6 hbl))))
    subst hve
    clear htot hrow hb3 hb6 hbl
    by_cases hlt : i < s.size
    · have hd : decide ((i : Int) < (s.size : Int)) = true := decide_eq_true (by omega)
      have hq := eq39 s[i]
      by_cases hc : s[i] = 39
      · rw [decide_eq_true hc] at hq
        by_cases he : i + 1 < s.size
        · have hed : decide ((s.size : Int) ≤ (i : Int) + 1) = false := decide_eq_false (by omega)
          have hq2 := eq39 s[i + 1]
          by_cases hc2 : s[i + 1] = 39
          · rw [decide_eq_true hc2] at hq2
            clear r0 r1 r2 s0 s1 s2 g0 g1 z0 z1 hconv
            go_wp2_with (at_builtin; refine wpList_append_own _ rfl _ _ 38 rfl (w.heap.size + 2) 5 i5 (.int .u8 0) 1 1 Tryd.underlying38 hi5 hy0 hy1 hy2 rfl (by decide) _ _ _ rfl (HR.out.2.1.alloc _) ⟨wr.heap.size, 0, none⟩ 1 1 [.int .u8 (39)] rfl rfl (cell_one_new' _ _ _) (by intro u hu; simp at hu; subst hu; rfl) (by unfold maxLen; omega) (by omega) (by simp; omega) ?_; intro v6 w6 hown6 hgrow6 _; have hk1 := (HR.out.2.2.1.alloc (.cells #[.int .u8 (39)] 5)).grown hgrow6 (fun e => by have := own_ge2 HR.out.2.1 e.symm; omega); have hk2 := (HR.out.2.2.2.1.alloc (.cells #[.int .u8 (39)] 5)).grown hgrow6 (fun e => by have := own_ge2 HR.out.2.1 e.symm; omega); have hb6 := (HR.out.2.2.2.2.alloc HR.out.2.2.2.2.size (.cells #[.int .u8 (39)] 5)).grown hgrow6 (by simp; omega) (fun q hq => by have := own_ge2 HR.out.2.1 hq; omega); have HG6 := Lib.hid (And.intro hown6 (And.intro hk1 (And.intro hk2 hb6))); clear hown6 hgrow6 hk1 hk2 hb6)
            have h6 : w6.ownsRow (w.heap.size + 2) 5 1 v6 (acc ++ [39]).length (byteV (acc ++ [39])) := by rw [List.length_append, byteV_append]; exact HG6.out.1
            have hT6 : TOT = (txtL (s.data.toList.drop ((i + 2)))).map (fun q => ((acc ++ [39]) ++ q.1, q.2 + ((i + 2) - (p + 1)))) := by
              have h1 := HR.out.1
              rw [str_drop s hlt, hc, str_drop s he, hc2, txt_two] at h1
              rw [h1, Option.map_map]
              congr 1
              funext q
              simp
              omega
            exact ⟨⟨(i + 2), acc ++ [39], by omega, by omega, by simp; omega, by first | rfl | go_num, hT6, h6, HG6.out.2⟩, by simp [intOf]; omega⟩
          · rw [decide_eq_false hc2] at hq2
            have hq3 : ((s[i + 1].toNat : Int) != 39) = true := by unfold bne; rw [hq2]; rfl
            have hTT : TOT = some (acc, 1 + (i - (p + 1))) := by
              have h1 := HR.out.1
              rw [str_drop s hlt, hc, str_drop s he, txt_one hc2] at h1
              simpa using h1
            by_cases h64 : 64 < acc.length
            · have d64 : decide ((64 : Int) < (acc.length : Int)) = true := decide_eq_true (by omega)
              have HQT := Lib.hid (show quoTok TOT = .bad 45 0 by rw [hTT]; unfold quoTok; dsimp only; rw [if_pos h64])
              clear hTT
              go_wp2_with fail
              refine bodyPost_ret (results_cell_tmp_cell rfl _ _ w.heap.size (w.heap.size + 1) 31 26 #[(.int .i64 0), (.string ⟨#[]⟩), (.int .i64 0)] #[(.int .i64 45), (.int .i64 (p : Int))] (0, 0) (0, 0) _ _ rfl (show Blk _ w.heap.size 31 #[(.int .i64 0), (.string ⟨#[]⟩), (.int .i64 0)] from Blk.other (Blk.other (Blk.set (Blk.set (Blk.set HR.out.2.2.1 0 (.int .i64 0)) 1 (.string ⟨#[]⟩)) 2 (.int .i64 0)) (p := ⟨w.heap.size + 1, 0, none⟩) (by simp) (.int .i64 45)) (p := ⟨w.heap.size + 1, 1, none⟩) (by simp) (.int .i64 (p : Int))) Tryd.underlying31 rfl (info31z _ _ _) rfl (show Blk _ (w.heap.size + 1) 26 #[(.int .i64 45), (.int .i64 (p : Int))] from Blk.set (Blk.set (Blk.other (Blk.other (Blk.other HR.out.2.2.2.1 (p := ⟨w.heap.size, 0, none⟩) (by simp) (.int .i64 0)) (p := ⟨w.heap.size, 1, none⟩) (by simp) (.string ⟨#[]⟩)) (p := ⟨w.heap.size, 2, none⟩) (by simp) (.int .i64 0)) 0 (.int .i64 45)) 1 (.int .i64 (p : Int))) Tryd.underlying26 rfl (info26 _ _)) rfl ?_
              refine ⟨by rw [HQT.out]; rfl, ((((HR.out.2.2.2.2.setCell (p := ⟨w.heap.size, 0, none⟩) (Nat.le_refl _) (.int .i64 0)).setCell (p := ⟨w.heap.size, 1, none⟩) (Nat.le_refl _) (.string ⟨#[]⟩)).setCell (p := ⟨w.heap.size, 2, none⟩) (Nat.le_refl _) (.int .i64 0)).setCell (p := ⟨w.heap.size + 1, 0, none⟩) (by simp) (.int .i64 45)).setCell (p := ⟨w.heap.size + 1, 1, none⟩) (by simp) (.int .i64 (p : Int))⟩
            · have d64 : decide ((64 : Int) < (acc.length : Int)) = false := decide_eq_false (by omega)
              have hw1 : p + (1 + (i - (p + 1)) + 1) = i + 1 := by omega
              have HQT := Lib.hid (show quoTok TOT = .word 4 acc (1 + (i - (p + 1)) + 1) by rw [hTT]; unfold quoTok; dsimp only; rw [if_neg h64])
              have HW1 := Lib.hid hw1
              clear hTT hw1
              go_wp2_with fail
              refine bodyPost_ret (results_cell_tmp_cell rfl _ _ w.heap.size (w.heap.size + 1) 31 26 #[(.int .i64 4), (.string ⟨acc.toArray⟩), (.int .i64 (p : Int))] #[(.int .i64 0), (.int .i64 0)] (0, 0) (0, 0) _ _ rfl (show Blk _ w.heap.size 31 #[(.int .i64 4), (.string ⟨acc.toArray⟩), (.int .i64 (p : Int))] from Blk.other (Blk.other (Blk.set (Blk.set (Blk.set HR.out.2.2.1 0 (.int .i64 4)) 1 (.string ⟨acc.toArray⟩)) 2 (.int .i64 (p : Int))) (p := ⟨w.heap.size + 1, 0, none⟩) (by simp) (.int .i64 0)) (p := ⟨w.heap.size + 1, 1, none⟩) (by simp) (.int .i64 0)) Tryd.underlying31 rfl (info31z _ _ _) rfl (show Blk _ (w.heap.size + 1) 26 #[(.int .i64 0), (.int .i64 0)] from Blk.set (Blk.set (Blk.other (Blk.other (Blk.other HR.out.2.2.2.1 (p := ⟨w.heap.size, 0, none⟩) (by simp) (.int .i64 4)) (p := ⟨w.heap.size, 1, none⟩) (by simp) (.string ⟨acc.toArray⟩)) (p := ⟨w.heap.size, 2, none⟩) (by simp) (.int .i64 (p : Int))) 0 (.int .i64 0)) 1 (.int .i64 0)) Tryd.underlying26 rfl (info26 _ _)) rfl ?_
              refine ⟨by rw [HQT.out]; unfold tokV; dsimp only; rw [HW1.out]; rfl, ((((HR.out.2.2.2.2.setCell (p := ⟨w.heap.size, 0, none⟩) (Nat.le_refl _) (.int .i64 4)).setCell (p := ⟨w.heap.size, 1, none⟩) (Nat.le_refl _) (.string ⟨acc.toArray⟩)).setCell (p := ⟨w.heap.size, 2, none⟩) (Nat.le_refl _) (.int .i64 (p : Int))).setCell (p := ⟨w.heap.size + 1, 0, none⟩) (by simp) (.int .i64 0)).setCell (p := ⟨w.heap.size + 1, 1, none⟩) (by simp) (.int .i64 0)⟩
        · have hed : decide ((s.size : Int) ≤ (i : Int) + 1) = true := decide_eq_true (by omega)
          have hTT : TOT = some (acc, 1 + (i - (p + 1))) := by
            have h1 := HR.out.1
            rw [str_drop s hlt, hc, str_end s (by omega), txt_end] at h1
            simpa using h1
          by_cases h64 : 64 < acc.length
          · have d64 : decide ((64 : Int) < (acc.length : Int)) = true := decide_eq_true (by omega)
            have HQT := Lib.hid (show quoTok TOT = .bad 45 0 by rw [hTT]; unfold quoTok; dsimp only; rw [if_pos h64])
            clear hTT
            go_wp2_with fail
            refine bodyPost_ret (results_cell_tmp_cell rfl _ _ w.heap.size (w.heap.size + 1) 31 26 #[(.int .i64 0), (.string ⟨#[]⟩), (.int .i64 0)] #[(.int .i64 45), (.int .i64 (p : Int))] (0, 0) (0, 0) _ _ rfl (show Blk _ w.heap.size 31 #[(.int .i64 0), (.string ⟨#[]⟩), (.int .i64 0)] from Blk.other (Blk.other (Blk.set (Blk.set (Blk.set HR.out.2.2.1 0 (.int .i64 0)) 1 (.string ⟨#[]⟩)) 2 (.int .i64 0)) (p := ⟨w.heap.size + 1, 0, none⟩) (by simp) (.int .i64 45)) (p := ⟨w.heap.size + 1, 1, none⟩) (by simp) (.int .i64 (p : Int))) Tryd.underlying31 rfl (info31z _ _ _) rfl (show Blk _ (w.heap.size + 1) 26 #[(.int .i64 45), (.int .i64 (p : Int))] from Blk.set (Blk.set (Blk.other (Blk.other (Blk.other HR.out.2.2.2.1 (p := ⟨w.heap.size, 0, none⟩) (by simp) (.int .i64 0)) (p := ⟨w.heap.size, 1, none⟩) (by simp) (.string ⟨#[]⟩)) (p := ⟨w.heap.size, 2, none⟩) (by simp) (.int .i64 0)) 0 (.int .i64 45)) 1 (.int .i64 (p : Int))) Tryd.underlying26 rfl (info26 _ _)) rfl ?_
            refine ⟨by rw [HQT.out]; rfl, ((((HR.out.2.2.2.2.setCell (p := ⟨w.heap.size, 0, none⟩) (Nat.le_refl _) (.int .i64 0)).setCell (p := ⟨w.heap.size, 1, none⟩) (Nat.le_refl _) (.string ⟨#[]⟩)).setCell (p := ⟨w.heap.size, 2, none⟩) (Nat.le_refl _) (.int .i64 0)).setCell (p := ⟨w.heap.size + 1, 0, none⟩) (by simp) (.int .i64 45)).setCell (p := ⟨w.heap.size + 1, 1, none⟩) (by simp) (.int .i64 (p : Int))⟩
          · have d64 : decide ((64 : Int) < (acc.length : Int)) = false := decide_eq_false (by omega)
            have hw1 : p + (1 + (i - (p + 1)) + 1) = i + 1 := by omega
            have HQT := Lib.hid (show quoTok TOT = .word 4 acc (1 + (i - (p + 1)) + 1) by rw [hTT]; unfold quoTok; dsimp only; rw [if_neg h64])
            have HW1 := Lib.hid hw1
            clear hTT hw1
            go_wp2_with fail
            refine bodyPost_ret (results_cell_tmp_cell rfl _ _ w.heap.size (w.heap.size + 1) 31 26 #[(.int .i64 4), (.string ⟨acc.toArray⟩), (.int .i64 (p : Int))] #[(.int .i64 0), (.int .i64 0)] (0, 0) (0, 0) _ _ rfl (show Blk _ w.heap.size 31 #[(.int .i64 4), (.string ⟨acc.toArray⟩), (.int .i64 (p : Int))] from Blk.other (Blk.other (Blk.set (Blk.set (Blk.set HR.out.2.2.1 0 (.int .i64 4)) 1 (.string ⟨acc.toArray⟩)) 2 (.int .i64 (p : Int))) (p := ⟨w.heap.size + 1, 0, none⟩) (by simp) (.int .i64 0)) (p := ⟨w.heap.size + 1, 1, none⟩) (by simp) (.int .i64 0)) Tryd.underlying31 rfl (info31z _ _ _) rfl (show Blk _ (w.heap.size + 1) 26 #[(.int .i64 0), (.int .i64 0)] from Blk.set (Blk.set (Blk.other (Blk.other (Blk.other HR.out.2.2.2.1 (p := ⟨w.heap.size, 0, none⟩) (by simp) (.int .i64 4)) (p := ⟨w.heap.size, 1, none⟩) (by simp) (.string ⟨acc.toArray⟩)) (p := ⟨w.heap.size, 2, none⟩) (by simp) (.int .i64 (p : Int))) 0 (.int .i64 0)) 1 (.int .i64 0)) Tryd.underlying26 rfl (info26 _ _)) rfl ?_
            refine ⟨by rw [HQT.out]; unfold tokV; dsimp only; rw [HW1.out]; rfl, ((((HR.out.2.2.2.2.setCell (p := ⟨w.heap.size, 0, none⟩) (Nat.le_refl _) (.int .i64 4)).setCell (p := ⟨w.heap.size, 1, none⟩) (Nat.le_refl _) (.string ⟨acc.toArray⟩)).setCell (p := ⟨w.heap.size, 2, none⟩) (Nat.le_refl _) (.int .i64 (p : Int))).setCell (p := ⟨w.heap.size + 1, 0, none⟩) (by simp) (.int .i64 0)).setCell (p := ⟨w.heap.size + 1, 1, none⟩) (by simp) (.int .i64 0)⟩
      · rw [decide_eq_false hc] at hq
        clear r0 r1 r2 s0 s1 s2 g0 g1 z0 z1 hconv
        go_wp2_with (at_builtin; refine wpList_append_own _ rfl _ _ 38 rfl (w.heap.size + 2) 5 i5 (.int .u8 0) 1 1 Tryd.underlying38 hi5 hy0 hy1 hy2 rfl (by decide) _ _ _ rfl (HR.out.2.1.alloc _) ⟨wr.heap.size, 0, none⟩ 1 1 [.int .u8 ((s[i].toNat : Nat) : Int)] rfl rfl (cell_one_new' _ _ _) (by intro u hu; simp at hu; subst hu; rfl) (by unfold maxLen; omega) (by omega) (by simp; omega) ?_; intro v6 w6 hown6 hgrow6 _; have hk1 := (HR.out.2.2.1.alloc (.cells #[.int .u8 ((s[i].toNat : Nat) : Int)] 5)).grown hgrow6 (fun e => by have := own_ge2 HR.out.2.1 e.symm; omega); have hk2 := (HR.out.2.2.2.1.alloc (.cells #[.int .u8 ((s[i].toNat : Nat) : Int)] 5)).grown hgrow6 (fun e => by have := own_ge2 HR.out.2.1 e.symm; omega); have hb6 := (HR.out.2.2.2.2.alloc HR.out.2.2.2.2.size (.cells #[.int .u8 ((s[i].toNat : Nat) : Int)] 5)).grown hgrow6 (by simp; omega) (fun q hq => by have := own_ge2 HR.out.2.1 hq; omega); have HG6 := Lib.hid (And.intro hown6 (And.intro hk1 (And.intro hk2 hb6))); clear hown6 hgrow6 hk1 hk2 hb6)
        have h6 : w6.ownsRow (w.heap.size + 2) 5 1 v6 (acc ++ [s[i]]).length (byteV (acc ++ [s[i]])) := by rw [List.length_append, byteV_append]; exact HG6.out.1
        have hT6 : TOT = (txtL (s.data.toList.drop ((i + 1)))).map (fun q => ((acc ++ [s[i]]) ++ q.1, q.2 + ((i + 1) - (p + 1)))) := by
          have h1 := HR.out.1
          rw [str_drop s hlt, txt_any hc] at h1
          rw [h1, Option.map_map]
          congr 1
          funext q
          simp
          omega
        exact ⟨⟨(i + 1), acc ++ [s[i]], by omega, by omega, by simp; omega, by first | rfl | go_num, hT6, h6, HG6.out.2⟩, by simp [intOf]; omega⟩
    · have hd : decide ((i : Int) < (s.size : Int)) = false := decide_eq_false (by omega)
      have hTT : TOT = none := by
        have h1 := HR.out.1
        rw [str_end s (by omega), txt_nil] at h1
        exact h1
      have HQT := Lib.hid (show quoTok TOT = .bad 40 0 by rw [hTT]; rfl)
      clear hconv hTT
      go_wp2_with fail
      refine bodyPost_ret (results_cell_tmp_cell rfl _ _ w.heap.size (w.heap.size + 1) 31 26 #[(.int .i64 0), (.string ⟨#[]⟩), (.int .i64 0)] #[(.int .i64 40), (.int .i64 (p : Int))] (0, 0) (0, 0) _ _ rfl (show Blk _ w.heap.size 31 #[(.int .i64 0), (.string ⟨#[]⟩), (.int .i64 0)] from Blk.other (Blk.other (Blk.set (Blk.set (Blk.set HR.out.2.2.1 0 (.int .i64 0)) 1 (.string ⟨#[]⟩)) 2 (.int .i64 0)) (p := ⟨w.heap.size + 1, 0, none⟩) (by simp) (.int .i64 40)) (p := ⟨w.heap.size + 1, 1, none⟩) (by simp) (.int .i64 (p : Int))) Tryd.underlying31 rfl (info31z _ _ _) rfl (show Blk _ (w.heap.size + 1) 26 #[(.int .i64 40), (.int .i64 (p : Int))] from Blk.set (Blk.set (Blk.other (Blk.other (Blk.other HR.out.2.2.2.1 (p := ⟨w.heap.size, 0, none⟩) (by simp) (.int .i64 0)) (p := ⟨w.heap.size, 1, none⟩) (by simp) (.string ⟨#[]⟩)) (p := ⟨w.heap.size, 2, none⟩) (by simp) (.int .i64 0)) 0 (.int .i64 40)) 1 (.int .i64 (p : Int))) Tryd.underlying26 rfl (info26 _ _)) rfl ?_
      refine ⟨by rw [HQT.out]; rfl, ((((HR.out.2.2.2.2.setCell (p := ⟨w.heap.size, 0, none⟩) (Nat.le_refl _) (.int .i64 0)).setCell (p := ⟨w.heap.size, 1, none⟩) (Nat.le_refl _) (.string ⟨#[]⟩)).setCell (p := ⟨w.heap.size, 2, none⟩) (Nat.le_refl _) (.int .i64 0)).setCell (p := ⟨w.heap.size + 1, 0, none⟩) (by simp) (.int .i64 40)).setCell (p := ⟨w.heap.size + 1, 1, none⟩) (by simp) (.int .i64 (p : Int))⟩
end Go.Proofs.YtofjifhnkcghpaaDoor
