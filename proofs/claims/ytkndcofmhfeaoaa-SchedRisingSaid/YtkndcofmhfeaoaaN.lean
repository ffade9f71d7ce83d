/- those, Ready, Stuck, Pick. -/
import Derived.Test.YtkndcofmhfeaoaaK
namespace Go.Proofs.Ytkndcofmhfeaoaa
open Go.RowKit Go.Maps
set_option linter.unusedVariables false
set_option linter.unusedSimpArgs false
theorem owns_drewN {w : World} {base : Nat} {e : TypeId} {size : Nat} {v : Value} {n : Nat} {xs : List Value} (h : w.ownsRow base e size v n xs) (k : Nat) : (w.drewN k).ownsRow base e size v n xs := h
def meant (m : TaskP → Bool) (l : List (Int × TaskP)) : List Int := (l.filter fun p => m p.2).map (·.1)
theorem risen_tasks (l : List (Int × TaskP)) (b : Int → Nat) (h : l.Pairwise (fun p q => p.1 < q.1)) : risen (nums_ l b) = l.map (·.1) := by
  have e : keysL_ (nums_ l b) = l.map (·.1) := by unfold keysL_ nums_; rw [List.map_map]; rfl
  unfold risen
  rw [e]
  refine List.mergeSort_of_pairwise ?_
  rw [List.pairwise_map]
  exact h.imp fun h => by simp; omega
set_option maxRecDepth 100000 in
theorem those29_a {F : Nat → Prop} {S : Nat} {w : World} {s : SchedP} (h : SQ F S w s) (hmade : s.made < 4611686018427387904) (m : TaskP → Bool)
    (hc : ∀ w' b T, Below w.heap.size w w' → taskAt w' b T → Calls Try.prog 30 #[.pointer (some ⟨b, 0, none⟩)] w' fun e w'' => e = .returned (.bool (m T)) ∧ ∃ n, w'' = w'.drewN n) :
    Calls Try.prog 29 #[.pointer (some ⟨S, 0, none⟩), .func (.func 30) #[] #[]] w fun e w' => ∃ v, e = .returned v ∧ w'.ownsRow w.heap.size 3 1 v (meant m s.tasks).length ((meant m s.tasks).map (Value.int .i64)) ∧ Below w.heap.size w w' := by
  obtain ⟨i0, hi, hz0, hz1, hz2⟩ := info_parts info3
  obtain ⟨wf, L, vt, vl, vo, h⟩ := h
  have c1 : w.cell? ⟨S, 1, none⟩ = some vt := Blk.cell h.blk 1
  have hkeys : ∃ mb, vt = .map mb ∧ Calls Try.prog 34 #[.func (.func 54) #[] #[.pointer (some ⟨w.heap.size, 0, none⟩)]] (w.alloc (.cells #[.map mb] 53)) fun e w' => ∃ v, e = .returned v ∧
      w'.ownsRow w.heap.size 3 1 v s.tasks.length ((s.tasks.map (·.1)).map (Value.int .i64)) ∧ Below w.heap.size w w' := by
    rcases h.maps with ⟨h1, -, -, h4⟩ | ⟨bt, bl, bo, h1, -, -, mm⟩
    · refine ⟨none, h1, (sortedTasks_nil w).mono ?_⟩
      rintro e w' ⟨rfl, hB⟩
      subst h4
      exact ⟨_, rfl, World.ownsRow_nil _ _ _ _, Below.call (Below.al (Below.refl w.heap.size w) _) hB⟩
    · refine ⟨some bt, h1, (risenTasks bt _ w mm.pt (by rw [nums_len]; have := wf.few; omega)).mono ?_⟩
      rintro e w' ⟨v, rfl, ho, hB⟩
      rw [nums_len, risen_tasks _ _ wf.inc] at ho
      exact ⟨v, rfl, ho, hB⟩
  obtain ⟨mb, rfl, hkeys⟩ := hkeys
  have H46 := Lib.hid (keysTasks mb w)
  have H34 := Lib.hid hkeys
  have HH := Lib.hid (And.intro wf h)
  have HC := Lib.hid hc
  have hfew := wf.few
  clear h wf hkeys hc
  go_enter Try.func29, Try.ntmps29
  go_wp2_with fail
  refine H46.out.mono ?_
  rintro e w1 ⟨rfl, rfl⟩
  go_wp2_with fail
  refine H34.out.mono ?_
  rintro e w1 ⟨v, rfl, hown, hB1⟩
  have hrow := Row.of_owns hown
  obtain ⟨hl1, a1, cap1, rfl, hcap, hmax, hcell⟩ := hrow
  have HCELL := Lib.hid hcell
  have hs1 := hB1.size
  clear hcell hown
  go_wp2_with fail
  obtain ⟨wS, hwS⟩ : ∃ x : World, x = w1 := ⟨_, rfl⟩
  have HW := Lib.hid hwS
  clear hwS
  go_loopw [5, 15] (fun v i wr => ∃ k : Nat, k ≤ s.tasks.length ∧ i = .int .i64 k ∧ wr.ownsRow wS.heap.size 3 1 v (meant m (s.tasks.take k)).length ((meant m (s.tasks.take k)).map (Value.int .i64)) ∧ Below w1.heap.size w1 wr) (fun _ i _ => s.tasks.length - (intOf i).toNat)
  case atStart => exact ⟨0, by omega, rfl, World.ownsRow_nil _ _ _ _, Below.refl _ _⟩
  case round =>
    obtain ⟨k, hk, rfl, hown, hB⟩ := hrel
    have hs := hB.size
    have hBw : Below w.heap.size w wr := hB1.trans (hB.mono hs1)
    have hml : (meant m (s.tasks.take k)).length ≤ 64 := by
      unfold meant
      rw [List.length_map]
      refine Nat.le_trans (List.length_filter_le _ _) ?_
      rw [List.length_take]; omega
    by_cases hlt : k < s.tasks.length
    · have hkb : decide ((k : Int) < s.tasks.length) = true := by simp; omega
      obtain ⟨b0, off, rfl, hb0, hcl⟩ := HCELL.out (by omega)
      obtain ⟨p, hp⟩ : ∃ p, p = s.tasks[k] := ⟨_, rfl⟩
      have hpm : p ∈ s.tasks := by rw [hp]; exact List.getElem_mem hlt
      have hck : wr.cell? ⟨b0, off + k, none⟩ = some (.int .i64 p.1) := by
        rw [hB.cell (by exact hb0), hcl k (by omega)]
        simp [List.getD_eq_getElem?_getD, hlt, hp]
      have hstep : meant m (s.tasks.take (k + 1)) = meant m (s.tasks.take k) ++ (if m p.2 then [p.1] else []) := by
        unfold meant
        rw [List.take_succ_eq_append_getElem hlt, List.filter_append, List.map_append, ← hp]
        congr 1
        rw [List.filter_cons]
        cases m p.2 <;> rfl
      have hr := HH.out.1.rng p hpm
      have hq := HH.out.2.below hBw
      have hlk := hq.lookT (x := p.1) (wfi (by omega) (by omega))
      rw [getP_of_mem (inc_ne HH.out.1.inc) hpm] at hlk
      simp only [Option.map_some, pv] at hlk
      have hcall := HC.out wr (L.tb p.1) p.2 hBw (hq.task p hpm).2
      have HX := Lib.hid (And.intro hcall hstep)
      have cS : wr.cell? ⟨S, 1, none⟩ = some (.map mb) := Blk.cell hq.blk 1
      clear hcl hcall hstep hp hpm hq hr
      obtain ⟨x, hx⟩ : ∃ x, x = p.1 := ⟨_, rfl⟩
      obtain ⟨bx, hbx⟩ : ∃ bx, bx = L.tb p.1 := ⟨_, rfl⟩
      rw [← hx] at hck
      rw [← hbx, ← hx] at hlk
      have HX : Hid (Calls Try.prog 30 #[.pointer (some ⟨bx, 0, none⟩)] wr (fun e w'' => e = .returned (.bool (m p.2)) ∧ ∃ n, w'' = wr.drewN n) ∧ meant m (s.tasks.take (k + 1)) = meant m (s.tasks.take k) ++ (if m p.2 then [x] else [])) := by rw [hbx, hx]; exact HX
      obtain ⟨y, hy⟩ : ∃ y, y = m p.2 := ⟨_, rfl⟩
      rw [← hy] at HX
      clear hx hbx hy
      have HO := Lib.hid hown
      clear hown
      cases y
      · go_wp2_with fail
        refine HX.out.1.mono ?_
        rintro e w3 ⟨rfl, n, rfl⟩
        go_wp2_with fail
        go_roundw
        case rel => exact ⟨k + 1, by omega, by go_num, by have e := HX.out.2; simp at e; rw [e]; exact HO.out, Below.drewN hB n⟩
        case measure => simp [intOf]; omega
      · go_wp2_with fail
        refine HX.out.1.mono ?_
        rintro e w3 ⟨rfl, n, rfl⟩
        obtain ⟨wq, hwq⟩ : ∃ wq, wq = wr.drewN n := ⟨_, rfl⟩
        have hown := owns_drewN HO.out n
        rw [← hwq] at hown
        have hBq : Below w1.heap.size w1 wq := by rw [hwq]; exact Below.drewN hB n
        have hsq : w1.heap.size ≤ wq.heap.size := hBq.size
        rw [← hwq]
        clear HO hwq
        go_wp2_with (at_builtin; refine wpList_append_own _ rfl _ _ 22 rfl wS.heap.size 3 i0 (.int .i64 0) 1 8 Try.underlying22 hi hz0 hz1 hz2 rfl (by decide) _ _ _ rfl (hown.alloc _) ⟨wq.heap.size, 0, none⟩ 1 1 [.int .i64 x] rfl rfl (cell_one_new' _ _ _) (by intro u hu; simp at hu; subst hu; rfl) (by unfold maxLen; omega) (by omega) (by rw [HW.out]; simp; omega) ?_; intro v' w4 hown' hgrow _)
        have hB' : Below w1.heap.size w1 w4 := Below.appended hBq hsq (by have := hown; rw [HW.out] at this; exact this) _ hgrow
        go_roundw
        case rel => exact ⟨k + 1, by omega, by go_num, by have e := HX.out.2; simp at e; rw [e]; simpa using hown', hB'⟩
        case measure => simp [intOf]; omega
    · have hk' : k = s.tasks.length := by omega
      have hkb : decide ((k : Int) < s.tasks.length) = false := by simp; omega
      rw [hk', List.take_length] at hown
      have HO := Lib.hid hown
      clear hown hk'
      go_wp2_with fail
      go_ret
      exact ⟨_, rfl, owns_base HO.out (by rw [HW.out]; exact hs1), hBw⟩
set_option maxRecDepth 100000 in
theorem those29_b {F : Nat → Prop} {S : Nat} {w : World} {s : SchedP} (h : SQ F S w s) (hmade : s.made < 4611686018427387904) (lc : Nat) (m : TaskP → Bool)
    (hc : ∀ w' b T, Below w.heap.size w w' → taskAt w' b T → Calls Try.prog 45 #[.pointer (some ⟨b, 0, none⟩), .pointer (some ⟨lc, 0, none⟩)] w' fun e w'' => e = .returned (.bool (m T)) ∧ ∃ n, w'' = w'.drewN n) :
    Calls Try.prog 29 #[.pointer (some ⟨S, 0, none⟩), .func (.func 45) #[] #[.pointer (some ⟨lc, 0, none⟩)]] w fun e w' => ∃ v, e = .returned v ∧ w'.ownsRow w.heap.size 3 1 v (meant m s.tasks).length ((meant m s.tasks).map (Value.int .i64)) ∧ Below w.heap.size w w' := by
  obtain ⟨i0, hi, hz0, hz1, hz2⟩ := info_parts info3
  obtain ⟨wf, L, vt, vl, vo, h⟩ := h
  have c1 : w.cell? ⟨S, 1, none⟩ = some vt := Blk.cell h.blk 1
  have hkeys : ∃ mb, vt = .map mb ∧ Calls Try.prog 34 #[.func (.func 54) #[] #[.pointer (some ⟨w.heap.size, 0, none⟩)]] (w.alloc (.cells #[.map mb] 53)) fun e w' => ∃ v, e = .returned v ∧
      w'.ownsRow w.heap.size 3 1 v s.tasks.length ((s.tasks.map (·.1)).map (Value.int .i64)) ∧ Below w.heap.size w w' := by
    rcases h.maps with ⟨h1, -, -, h4⟩ | ⟨bt, bl, bo, h1, -, -, mm⟩
    · refine ⟨none, h1, (sortedTasks_nil w).mono ?_⟩
      rintro e w' ⟨rfl, hB⟩
      subst h4
      exact ⟨_, rfl, World.ownsRow_nil _ _ _ _, Below.call (Below.al (Below.refl w.heap.size w) _) hB⟩
    · refine ⟨some bt, h1, (risenTasks bt _ w mm.pt (by rw [nums_len]; have := wf.few; omega)).mono ?_⟩
      rintro e w' ⟨v, rfl, ho, hB⟩
      rw [nums_len, risen_tasks _ _ wf.inc] at ho
      exact ⟨v, rfl, ho, hB⟩
  obtain ⟨mb, rfl, hkeys⟩ := hkeys
  have H46 := Lib.hid (keysTasks mb w)
  have H34 := Lib.hid hkeys
  have HH := Lib.hid (And.intro wf h)
  have HC := Lib.hid hc
  have hfew := wf.few
  clear h wf hkeys hc
  go_enter Try.func29, Try.ntmps29
  go_wp2_with fail
  refine H46.out.mono ?_
  rintro e w1 ⟨rfl, rfl⟩
  go_wp2_with fail
  refine H34.out.mono ?_
  rintro e w1 ⟨v, rfl, hown, hB1⟩
  have hrow := Row.of_owns hown
  obtain ⟨hl1, a1, cap1, rfl, hcap, hmax, hcell⟩ := hrow
  have HCELL := Lib.hid hcell
  have hs1 := hB1.size
  clear hcell hown
  go_wp2_with fail
  obtain ⟨wS, hwS⟩ : ∃ x : World, x = w1 := ⟨_, rfl⟩
  have HW := Lib.hid hwS
  clear hwS
  go_loopw [5, 15] (fun v i wr => ∃ k : Nat, k ≤ s.tasks.length ∧ i = .int .i64 k ∧ wr.ownsRow wS.heap.size 3 1 v (meant m (s.tasks.take k)).length ((meant m (s.tasks.take k)).map (Value.int .i64)) ∧ Below w1.heap.size w1 wr) (fun _ i _ => s.tasks.length - (intOf i).toNat)
  case atStart => exact ⟨0, by omega, rfl, World.ownsRow_nil _ _ _ _, Below.refl _ _⟩
  case round =>
    obtain ⟨k, hk, rfl, hown, hB⟩ := hrel
    have hs := hB.size
    have hBw : Below w.heap.size w wr := hB1.trans (hB.mono hs1)
    have hml : (meant m (s.tasks.take k)).length ≤ 64 := by
      unfold meant
      rw [List.length_map]
      refine Nat.le_trans (List.length_filter_le _ _) ?_
      rw [List.length_take]; omega
    by_cases hlt : k < s.tasks.length
    · have hkb : decide ((k : Int) < s.tasks.length) = true := by simp; omega
      obtain ⟨b0, off, rfl, hb0, hcl⟩ := HCELL.out (by omega)
      obtain ⟨p, hp⟩ : ∃ p, p = s.tasks[k] := ⟨_, rfl⟩
      have hpm : p ∈ s.tasks := by rw [hp]; exact List.getElem_mem hlt
      have hck : wr.cell? ⟨b0, off + k, none⟩ = some (.int .i64 p.1) := by
        rw [hB.cell (by exact hb0), hcl k (by omega)]
        simp [List.getD_eq_getElem?_getD, hlt, hp]
      have hstep : meant m (s.tasks.take (k + 1)) = meant m (s.tasks.take k) ++ (if m p.2 then [p.1] else []) := by
        unfold meant
        rw [List.take_succ_eq_append_getElem hlt, List.filter_append, List.map_append, ← hp]
        congr 1
        rw [List.filter_cons]
        cases m p.2 <;> rfl
      have hr := HH.out.1.rng p hpm
      have hq := HH.out.2.below hBw
      have hlk := hq.lookT (x := p.1) (wfi (by omega) (by omega))
      rw [getP_of_mem (inc_ne HH.out.1.inc) hpm] at hlk
      simp only [Option.map_some, pv] at hlk
      have hcall := HC.out wr (L.tb p.1) p.2 hBw (hq.task p hpm).2
      have HX := Lib.hid (And.intro hcall hstep)
      have cS : wr.cell? ⟨S, 1, none⟩ = some (.map mb) := Blk.cell hq.blk 1
      clear hcl hcall hstep hp hpm hq hr
      obtain ⟨x, hx⟩ : ∃ x, x = p.1 := ⟨_, rfl⟩
      obtain ⟨bx, hbx⟩ : ∃ bx, bx = L.tb p.1 := ⟨_, rfl⟩
      rw [← hx] at hck
      rw [← hbx, ← hx] at hlk
      have HX : Hid (Calls Try.prog 45 #[.pointer (some ⟨bx, 0, none⟩), .pointer (some ⟨lc, 0, none⟩)] wr (fun e w'' => e = .returned (.bool (m p.2)) ∧ ∃ n, w'' = wr.drewN n) ∧ meant m (s.tasks.take (k + 1)) = meant m (s.tasks.take k) ++ (if m p.2 then [x] else [])) := by rw [hbx, hx]; exact HX
      obtain ⟨y, hy⟩ : ∃ y, y = m p.2 := ⟨_, rfl⟩
      rw [← hy] at HX
      clear hx hbx hy
      have HO := Lib.hid hown
      clear hown
      cases y
      · go_wp2_with fail
        refine HX.out.1.mono ?_
        rintro e w3 ⟨rfl, n, rfl⟩
        go_wp2_with fail
        go_roundw
        case rel => exact ⟨k + 1, by omega, by go_num, by have e := HX.out.2; simp at e; rw [e]; exact HO.out, Below.drewN hB n⟩
        case measure => simp [intOf]; omega
      · go_wp2_with fail
        refine HX.out.1.mono ?_
        rintro e w3 ⟨rfl, n, rfl⟩
        obtain ⟨wq, hwq⟩ : ∃ wq, wq = wr.drewN n := ⟨_, rfl⟩
        have hown := owns_drewN HO.out n
        rw [← hwq] at hown
        have hBq : Below w1.heap.size w1 wq := by rw [hwq]; exact Below.drewN hB n
        have hsq : w1.heap.size ≤ wq.heap.size := hBq.size
        rw [← hwq]
        clear HO hwq
        go_wp2_with (at_builtin; refine wpList_append_own _ rfl _ _ 22 rfl wS.heap.size 3 i0 (.int .i64 0) 1 8 Try.underlying22 hi hz0 hz1 hz2 rfl (by decide) _ _ _ rfl (hown.alloc _) ⟨wq.heap.size, 0, none⟩ 1 1 [.int .i64 x] rfl rfl (cell_one_new' _ _ _) (by intro u hu; simp at hu; subst hu; rfl) (by unfold maxLen; omega) (by omega) (by rw [HW.out]; simp; omega) ?_; intro v' w4 hown' hgrow _)
        have hB' : Below w1.heap.size w1 w4 := Below.appended hBq hsq (by have := hown; rw [HW.out] at this; exact this) _ hgrow
        go_roundw
        case rel => exact ⟨k + 1, by omega, by go_num, by have e := HX.out.2; simp at e; rw [e]; simpa using hown', hB'⟩
        case measure => simp [intOf]; omega
    · have hk' : k = s.tasks.length := by omega
      have hkb : decide ((k : Int) < s.tasks.length) = false := by simp; omega
      rw [hk', List.take_length] at hown
      have HO := Lib.hid hown
      clear hown hk'
      go_wp2_with fail
      go_ret
      exact ⟨_, rfl, owns_base HO.out (by rw [HW.out]; exact hs1), hBw⟩
theorem closure30 (b : Nat) (T : TaskP) (w : World) (h : taskAt w b T) : Calls Try.prog 30 #[.pointer (some ⟨b, 0, none⟩)] w fun e w' => e = .returned (.bool (!waitsP T)) ∧ w = w' := by
  obtain ⟨o, ho, hb⟩ := h
  have HW := Lib.hid (waits31 _ _ w hb)
  have e : waitsB ⟨T.picks, o, T.latch⟩ = waitsP T := by unfold waitsB waitsP; rw [← ho]
  rw [e] at HW
  generalize waitsP T = y at *
  clear hb
  go_enter Try.func30, Try.ntmps30
  go_wp2_with fail
  refine HW.out.mono ?_
  rintro e w1 ⟨rfl, rfl⟩
  go_wp2_with fail
  go_ret
  exact ⟨rfl, rfl⟩
theorem ready14 {F : Nat → Prop} {S : Nat} {w : World} {s : SchedP} (h : SQ F S w s) (hmade : s.made < 4611686018427387904) :
    Calls Try.prog 14 #[.pointer (some ⟨S, 0, none⟩)] w fun e w' => ∃ v, e = .returned v ∧ w'.ownsRow w.heap.size 3 1 v (readyL s).length ((readyL s).map (Value.int .i64)) ∧ Below w.heap.size w w' := by
  have H := Lib.hid (those29_a h hmade (fun T => !waitsP T) (fun w' b T hB hT => (closure30 b T w' hT).mono fun e w'' h => ⟨h.1, 0, by rw [← h.2]; rfl⟩))
  go_enter Try.func14, Try.ntmps14
  go_wp2_with fail
  refine H.out.mono ?_
  rintro e w1 ⟨v, rfl, ho, hB⟩
  have HO := Lib.hid (And.intro ho hB)
  clear ho hB
  go_wp2_with fail
  go_ret
  exact ⟨_, rfl, HO.out⟩
end Go.Proofs.Ytkndcofmhfeaoaa
