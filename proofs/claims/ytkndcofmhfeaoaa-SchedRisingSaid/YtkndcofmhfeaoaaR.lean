/- Open. -/
import Derived.Test.YtkndcofmhfeaoaaQ
namespace Go.Proofs.Ytkndcofmhfeaoaa
open Go.RowKit Go.Maps
set_option linter.unusedVariables false
set_option linter.unusedSimpArgs false
theorem closure45 (b lc : Nat) (la : Int) (T : TaskP) (w : World) (h : taskAt w b T) (hl : w.cell? ⟨lc, 0, none⟩ = some (.int .i64 la)) : Calls Try.prog 45 #[.pointer (some ⟨b, 0, none⟩), .pointer (some ⟨lc, 0, none⟩)] w fun e w' => e = .returned (.bool (decide (T.latch = la))) ∧ ∃ n, w' = w.drewN n := by
  obtain ⟨o, ho, hb⟩ := h
  have c2 : w.cell? ⟨b, 2, none⟩ = some (.int .i64 T.latch) := Blk.cell hb 2
  clear hb
  go_enter Try.func45, Try.ntmps45
  go_wp2_with fail
  go_region
  go_wp2_with fail
  go_ret
  exact ⟨rfl, _, rfl⟩
/-- a latch is opened: its entry -/
theorem SchedQ.putO {F : Nat → Prop} {S : Nat} {w : World} {s : SchedP} {L : Lay} {bt bl bo : Nat} (h : SchedQ F S w s L (.map (some bt)) (.map (some bl)) (.map (some bo))) (hlen : s.opened.length < maxLen) {x : Int} (hx : (Lit.int .i64 x).wf = true) :
    ∃ w', (Instr.mapUpdate 55 (.map (some bo)) (.int .i64 x) (.bool true)).run Try.prog w = .ok () w' ∧ SchedQ F S w' { s with opened := s.opened ++ [x] } L (.map (some bt)) (.map (some bl)) (.map (some bo)) ∧ Turn F w w' ∧ (∀ b T cs, Blk w b T cs → Blk w' b T cs) := by
  rcases h.maps with ⟨h0, -⟩ | ⟨bt', bl', bo', e1, e2, e3, m⟩
  · cases h0
  cases e1; cases e2; cases e3
  obtain ⟨w', hr, hP, hT'⟩ := m.po.store hlen hx
  have hsz := hT'.grown.size
  have hsame : ∀ k, k < w.heap.size → k ≠ bo → w'.heap[k]? = w.heap[k]? := fun k hk hne => hT'.grown.block k hk (fun e => hne (by cases e; rfl))
  obtain ⟨i1, i2, i3⟩ := m.isMaps
  refine ⟨w', hr, ⟨fun k hk => Nat.lt_of_lt_of_le (h.lt k hk) hsz, h.root, h.blk.same (hsame _ h.blk.lt (blk_ne_map h.blk i3)), .inr ⟨bt, bl, bo, rfl, rfl, rfl, m.pt.block (hsame _ (h.lt _ m.ft) m.nto), m.pl.block (hsame _ (h.lt _ m.fl) m.nlo), hP, m.ft, m.fl, m.fo, m.ntl, m.nto, m.nlo⟩, ?_, ?_, h.tinj, h.linj, h.qinj⟩, Turn.mapT m.fo hT', fun b T cs hb => hb.same (hsame _ hb.lt (blk_ne_map hb i3))⟩
  · intro p hp
    obtain ⟨h2, o', ho', h3⟩ := h.task p hp
    exact ⟨h2, o', ho', h3.same (hsame _ h3.lt (blk_ne_map h3 i3))⟩
  · intro p hp
    obtain ⟨h2, h3, h4⟩ := h.lock p hp
    exact ⟨h2, h3.same (hsame _ h3.blk.lt (blk_ne_map h3.blk i3)) (fun g hg => hsame _ (h3.row.lt hg) (row_ne_map i3 h3.row hg)), h4⟩
def offL (T : TaskP) : TaskP := ⟨T.picks, T.lock, -1⟩
def offTo (A : List Int) (l : List (Int × TaskP)) : List (Int × TaskP) := A.foldl (fun l n => modP l n offL) l
theorem offTo_eq : ∀ (A : List Int) (l : List (Int × TaskP)), offTo A l = l.map (fun p => if p.1 ∈ A then (p.1, offL p.2) else p)
  | [], l => by simp [offTo]
  | a :: A, l => by
    show offTo A (modP l a offL) = _
    rw [offTo_eq A]
    unfold modP
    rw [List.map_map]
    apply List.map_congr_left
    intro p _
    by_cases h1 : p.1 = a
    · by_cases h2 : p.1 ∈ A
      · simp [h1, offL]
      · simp [h1, offL]
    · by_cases h2 : p.1 ∈ A
      · simp [h1, h2]
      · simp [h1, h2]
theorem offTo_latch (l : List (Int × TaskP)) (la : Int) (h : l.Pairwise (fun p q => p.1 < q.1)) : offTo (meant (fun T => decide (T.latch = la)) l) l = l.map fun p => if p.2.latch = la then (p.1, (⟨p.2.picks, p.2.lock, -1⟩ : TaskP)) else p := by
  rw [offTo_eq]
  apply List.map_congr_left
  intro p hp
  have e : p.1 ∈ meant (fun T => decide (T.latch = la)) l ↔ p.2.latch = la := by
    unfold meant
    rw [List.mem_map]
    constructor
    · rintro ⟨q, hq, e⟩
      rw [List.mem_filter] at hq
      have h1 := getP_of_mem (inc_ne h) hq.1
      have h2 := getP_of_mem (inc_ne h) hp
      rw [e, h2] at h1
      have : p.2 = q.2 := Option.some.inj h1
      rw [this]; simpa using hq.2
    · intro hl
      exact ⟨p, List.mem_filter.2 ⟨hp, by simpa using hl⟩, rfl⟩
  by_cases hl : p.2.latch = la
  · rw [if_pos (e.2 hl), if_pos hl]; rfl
  · rw [if_neg (fun h => hl (e.1 h)), if_neg hl]
theorem offTo_wf {s : SchedP} (wf : WF s) : ∀ (A : List Int) (l : List (Int × TaskP)), WF { s with tasks := l } → WF { s with tasks := offTo A l }
  | [], l, h => h
  | a :: A, l, h => offTo_wf wf A (modP l a offL) (WF.modT (s := { s with tasks := l }) h a offL (fun _ => rfl))
theorem offTo_get (A : List Int) (l : List (Int × TaskP)) {n : Int} {T : TaskP} (h : getP l n = some T) : ∃ T', getP (offTo A l) n = some T' := by
  induction A generalizing l T with
  | nil => exact ⟨T, h⟩
  | cons a A ih =>
    show ∃ T', getP (offTo A (modP l a offL)) n = some T'
    by_cases e : n = a
    · exact ih (modP l a offL) (T := offL T) (by rw [getP_modP, if_pos e, h]; rfl)
    · exact ih (modP l a offL) (T := T) (by rw [getP_modP, if_neg e, h])
theorem offTo_snoc (A : List Int) (l : List (Int × TaskP)) (n : Int) : offTo (A ++ [n]) l = modP (offTo A l) n offL := by unfold offTo; rw [List.foldl_append]; rfl
theorem atLatch_eq (s : SchedP) (la : Int) : atLatch s la = meant (fun T => decide (T.latch = la)) s.tasks := rfl
set_option maxRecDepth 100000 in
set_option maxHeartbeats 1000000 in
theorem open26 {F : Nat → Prop} {S : Nat} {w : World} {s : SchedP} (h : SQ F S w s) (hmade : s.made < 4611686018427387904) (hop : s.opened.length < 4611686018427387904) {la : Int} (hla : (Lit.int .i64 la).wf = true) :
    Calls Try.prog 26 #[.pointer (some ⟨S, 0, none⟩), .int .i64 la] w fun e w' => e = .returned (.int .i64 (openV s la)) ∧ SQ (Fn F w w') S w' (openP s la) ∧ Turn F w w' := by
  have wf1 := h.1.open la
  have hB0 : Below w.heap.size w (w.alloc (.cells #[.int .i64 la] 3)) := (Below.refl _ w).alloc (Nat.le_refl _) _
  have hbx : Blk (w.alloc (.cells #[.int .i64 la] 3)) w.heap.size 3 #[.int .i64 la] := Blk.new w 3 _
  obtain ⟨w0, hw0⟩ : ∃ w0, w0 = w.alloc (.cells #[.int .i64 la] 3) := ⟨_, rfl⟩
  have hs0 : w0.heap.size = w.heap.size + 1 := by rw [hw0]; simp
  have cla : w0.cell? ⟨w.heap.size, 0, none⟩ = some (.int .i64 la) := by rw [hw0]; exact Blk.cell hbx 0
  have h0 := h.below hB0
  rw [← hw0] at hB0 hbx h0
  unfold openP openV at *
  by_cases hneg : la < 0
  · have hd : decide (la < 0) = true := decide_eq_true hneg
    rw [if_pos hneg, if_pos hneg]
    have HS := Lib.hid (And.intro hw0 (And.intro h0 (And.intro hB0 h)))
    rw [hw0] at cla
    clear h h0 wf1 hB0 hbx hw0 hs0
    go_enter Try.func26, Try.ntmps26
    go_wp2_with fail
    go_ret
    obtain ⟨hw0, h0, hB0, h⟩ := HS.out
    rw [← hw0]
    exact ⟨rfl, (h0.grow w).mono (fun k hk => hk) (fun k hk => by
      rcases hk with hk | hk
      · exact h0.lt k hk
      · exact hk.2), Turn.of_below hB0 (fun k h1 h2 => by omega)⟩
  · have hd : decide (la < 0) = false := decide_eq_false hneg
    rw [if_neg hneg] at wf1
    rw [if_neg hneg, if_neg hneg]
    obtain ⟨wf, L, vt, vl, vo, hq⟩ := h0
    have HM := Lib.hid (make27 hq)
    have HH := Lib.hid (And.intro hw0 (And.intro hq (And.intro hB0 (And.intro h (And.intro hbx (And.intro wf (And.intro wf1 hs0)))))))
    clear h hq hB0 hbx wf1 hs0
    obtain ⟨bx, hbxe⟩ : ∃ bx, bx = w.heap.size := ⟨_, rfl⟩
    have HBX := Lib.hid hbxe
    have HW0 := Lib.hid hw0
    rw [← hbxe] at cla
    have cla2 : (w.alloc (.cells #[.int .i64 la] 3)).cell? ⟨w.heap.size, 0, none⟩ = some (.int .i64 la) := by rw [← hw0, ← hbxe]; exact cla
    clear hw0 hbxe
    go_enter Try.func26, Try.ntmps26
    go_wp2_with fail
    rw [← HW0.out, ← HBX.out]
    clear cla2
    refine HM.out.mono ?_
    rintro e w1 ⟨rfl, hT1, bt, bl, bo, h1⟩
    obtain ⟨hw0, hq, hB0, h, hbx, wf, wf1, hs0⟩ := HH.out
    have hSlt : S < w.heap.size := h.lt S (by obtain ⟨-, _, _, _, _, hh⟩ := h; exact hh.root)
    have hbx1 : Blk w1 bx 3 #[.int .i64 la] := by rw [HBX.out]; exact hbx.turn hT1 (by intro e; omega)
    have h1d : SchedQ (Fn F w0 w1) S w1.drew s L _ _ _ := h1.frame (w' := w1.drew) (Nat.le_refl _) (fun _ _ => rfl)
    obtain ⟨w3, hrun, h3, hT3, hB3⟩ := h1d.putO (by unfold maxLen; omega) hla
    have hbx3 : Blk w3 bx 3 #[.int .i64 la] := hB3 _ _ _ hbx1
    have HPUT := Lib.hid (And.intro hrun (And.intro h3 (And.intro hT3 (And.intro hbx3 (And.intro hT1 (And.intro h1.lt hSlt))))))
    have HS3 := Lib.hid (show w3.cell? ⟨S, 3, none⟩ = some (.map (some bo)) ∧ w3.cell? ⟨bx, 0, none⟩ = some (.int .i64 la) from ⟨Blk.cell h3.blk 3, Blk.cell hbx3 0⟩)
    have HS0' := Lib.hid (show w1.drew.cell? ⟨S, 3, none⟩ = some (.map (some bo)) ∧ w1.drew.cell? ⟨bx, 0, none⟩ = some (.int .i64 la) from ⟨Blk.cell h1d.blk 3, Blk.cell hbx1 0⟩)
    clear hrun h3 hT3 hB3 hbx3 h1d hbx1 h1 hT1 hw0 hq hB0 h hbx wf wf1 hs0 hSlt
    go_wp2_with fail
    have HS0 := HS0'.out
    refine hp_start (fun w' => w'.cell? ⟨S, 3, none⟩ = some (.map (some bo)) ∧ w'.cell? ⟨bx, 0, none⟩ = some (.int .i64 la)) 6 rfl (by kernel_rfl) (fun c a a' w hd h => ⟨hd ▸ h.1, h.2⟩) (fun hP => ?_)
    rw [show Array.replicate 6 false = #[false, false, false, false, false, false] from rfl]
    refine hp_take hP 0 (some 16) _ rfl rfl (by kernel_rfl) rfl (fun w' hS' => by go_simp; rfl) HS0 ?_
    simp only [Act.put, List.setIfInBounds_toArray, List.set_cons_zero, List.set_cons_succ]
    refine hp_take hP 1 (some 17) _ rfl rfl (by kernel_rfl) rfl (fun w' hS' => by go_simp; rfl) HS0 ?_
    simp only [Act.put, List.setIfInBounds_toArray, List.set_cons_zero, List.set_cons_succ]
    refine hp_take hP 2 (some 18) _ rfl rfl (by kernel_rfl) rfl (fun w' hS' => by go_simp; rfl) HS0 ?_
    simp only [Act.put, List.setIfInBounds_toArray, List.set_cons_zero, List.set_cons_succ]
    refine hp_take hP 3 (some 19) _ rfl rfl (by kernel_rfl) rfl (fun w' hS' => by have cc := hS'.1; go_simp; rfl) HS0 ?_
    simp only [Act.put, List.setIfInBounds_toArray, List.set_cons_zero, List.set_cons_succ]
    refine hp_take hP 4 (some 20) _ rfl rfl (by kernel_rfl) rfl (fun w' hS' => by have cc := hS'.2; go_simp; rfl) HS0 ?_
    simp only [Act.put, List.setIfInBounds_toArray, List.set_cons_zero, List.set_cons_succ]
    refine hp_none 5 rfl rfl (by kernel_rfl) rfl w3 (by have hrun := HPUT.out.1; first | (go_simp; done) | (go_simp; rw [hrun]; rfl)) HS3.out ?_
    simp only [Act.put, List.setIfInBounds_toArray, List.set_cons_zero, List.set_cons_succ]
    refine hk_done (by kernel_rfl) ?_
    clear HS0
    have hSQ3 : SQ (Fn F w0 w1) S w3 { s with opened := s.opened ++ [la] } := by
      refine ⟨?_, _, _, _, _, HPUT.out.2.1⟩
      have := HH.out.2.2.2.2.2.1
      exact ⟨this.inc, this.rng, this.few, this.lks, this.lrng, this.que, this.nod⟩
    have H29 := Lib.hid (those29_b hSQ3 hmade bx (fun T => decide (T.latch = la)) (fun w' b T hB hT => closure45 b bx la T w' hT (by rw [hB.cell (by exact HPUT.out.2.2.2.1.lt)]; exact Blk.cell HPUT.out.2.2.2.1 0)))
    have HQ3 := Lib.hid hSQ3
    clear hSQ3
    go_wp2_with fail
    refine H29.out.mono ?_
    rintro e w4 ⟨v, rfl, hown, hB4⟩
    obtain ⟨A, hA⟩ : ∃ A, A = meant (fun T => decide (T.latch = la)) s.tasks := ⟨_, rfl⟩
    have hown : w4.ownsRow w3.heap.size 3 1 v A.length (A.map (Value.int .i64)) := by rw [hA]; exact hown
    have hA64 : A.length ≤ 64 := by
      rw [hA]; unfold meant
      rw [List.length_map]
      exact Nat.le_trans (List.length_filter_le _ _) HH.out.2.2.2.2.2.1.few
    have hAV : ((atLatch s la).length : Int) = (A.length : Int) := by rw [atLatch_eq, hA]
    have HAV := Lib.hid hAV
    obtain ⟨a, cap, rfl⟩ := owns_form hown
    have hrow := Row.of_owns hown
    have hkb : ∀ g, (Value.slice a A.length cap).ownBlock = some g → w3.heap.size ≤ g ∧ g < w4.heap.size := hown.lt
    obtain ⟨hl1, a1, cap1, hv1, hcap, hmax, hcell⟩ := hrow
    injection hv1 with q1 q2 q3
    subst q1 q3
    have HCELL := Lib.hid (And.intro hcell (And.intro hkb (And.intro hB4 hA)))
    have HQ4 := Lib.hid (HQ3.out.below hB4)
    clear hcell hown hkb hB4 hA hAV
    go_wp2_with fail
    go_loopw [26] (fun i wr => ∃ (k : Nat), k ≤ A.length ∧ i = .int .i64 k ∧ SQ (Fn F w0 w1) S wr { s with opened := s.opened ++ [la], tasks := offTo (A.take k) s.tasks } ∧ Turn (Fn F w0 w1) w4 wr) (fun i _ => A.length - (intOf i).toNat)
    case atStart => exact ⟨0, by omega, rfl, HQ4.out, Turn.refl _ _⟩
    case round =>
      obtain ⟨k, hk, rfl, hQ, hTw⟩ := hrel
      have hsz := hTw.size
      have hltF := HPUT.out.2.2.2.2.2.1
      by_cases hlt : k < A.length
      · have hkd : decide ((k : Int) < A.length) = true := by simp; omega
        obtain ⟨b0, off, rfl, hb0, hcl⟩ := HCELL.out.1 (by omega)
        obtain ⟨n, hn⟩ : ∃ n, n = A[k] := ⟨_, rfl⟩
        have hsz3 := HPUT.out.2.2.1.size
        have hsz3 : w1.heap.size ≤ w3.heap.size := hsz3
        have hck : wr.cell? ⟨b0, off + k, none⟩ = some (.int .i64 n) := by
          have h5 := HCELL.out.2.1 b0 rfl
          rw [World.cell?_of_block (hTw.block b0 h5.2 (fun e => by
            rcases e with e | e
            · have := hltF b0 (.inl e); omega
            · omega)), hcl k (by omega)]
          simp [List.getD_eq_getElem?_getD, hlt, hn]
        have hnm : n ∈ A := by rw [hn]; exact List.getElem_mem hlt
        rw [HCELL.out.2.2.2] at hnm
        unfold meant at hnm
        rw [List.mem_map] at hnm
        obtain ⟨p, hp, hpn⟩ := hnm
        rw [List.mem_filter] at hp
        have hp1 := hp.1
        have wf := HH.out.2.2.2.2.2.1
        have hnr := wf.rng p hp1
        rw [hpn] at hnr
        have hnw : (Lit.int .i64 n).wf = true := wfi (by omega) (by omega)
        have hg0 := getP_of_mem (inc_ne wf.inc) hp1
        rw [hpn] at hg0
        obtain ⟨T, hT⟩ := offTo_get (A.take k) s.tasks hg0
        have hstep : offTo (A.take (k + 1)) s.tasks = modP (offTo (A.take k) s.tasks) n offL := by
          rw [List.take_succ_eq_append_getElem hlt, ← hn, offTo_snoc]
        obtain ⟨wfk, L', vt', vl', vo', hq⟩ := hQ
        have hlk := hq.lookT hnw
        rw [show getP ({ s with opened := s.opened ++ [la], tasks := offTo (A.take k) s.tasks } : SchedP).tasks n = some T from hT] at hlk
        simp only [Option.map_some, pv] at hlk
        have cS : wr.cell? ⟨S, 1, none⟩ = some vt' := Blk.cell hq.blk 1
        have hTm : (n, T) ∈ ({ s with opened := s.opened ++ [la], tasks := offTo (A.take k) s.tasks } : SchedP).tasks := getP_mem hT
        obtain ⟨hFb, o, ho, hb⟩ := hq.task _ hTm
        have hb : Blk wr (L'.tb n) 66 #[.int .i64 T.picks, pv o, .int .i64 T.latch] := hb
        obtain ⟨b, hbe⟩ : ∃ b, b = L'.tb n := ⟨_, rfl⟩
        have hFb : Fn F w0 w1 b := by rw [hbe]; exact hFb
        rw [← hbe] at hlk hb
        have f2 := Blk.free hb 2
        have k2 : wr.cell? ⟨b, 2, none⟩ = some (.int .i64 T.latch) := Blk.cell hb 2
        have hset := hq.setT (x := n) (w' := wr.setCell ⟨b, 2, none⟩ (.int .i64 (-1))) offL ((Turn.refl (fun k => k = L'.tb n) wr).setCell (p := ⟨b, 2, none⟩) hbe _) hTm (fun a ha => ⟨o, by rw [SchedQ.uniqT wfk hT a ha]; exact ho, by rw [SchedQ.uniqT wfk hT a ha, ← hbe]; exact Blk.set hb 2 _⟩)
        have wfn : WF { s with opened := s.opened ++ [la], tasks := offTo (A.take (k + 1)) s.tasks } := by
          rw [hstep]
          exact wfk.modT n offL (fun _ => rfl)
        have HX := Lib.hid (And.intro hstep (And.intro hset (And.intro wfn (And.intro hTw hFb))))
        clear hcl hp hp1 wf hnr hg0 hT hstep wfk hq hTm ho hb hset wfn hTw hFb hn hpn hbe
        go_wp2_with fail
        go_roundw
        case rel =>
          obtain ⟨hstep, hset, wfn, hTw, hFb⟩ := HX.out
          refine ⟨k + 1, by omega, by go_num, ⟨wfn, ?_⟩, hTw.setCell (p := ⟨b, 2, none⟩) hFb _⟩
          rw [hstep]
          exact ⟨_, _, _, _, hset⟩
        case measure => simp [intOf]; omega
      · have hk' : k = A.length := by omega
        have hkd : decide ((k : Int) < A.length) = false := by simp; omega
        rw [hk', List.take_length, HCELL.out.2.2.2, offTo_latch _ _ HH.out.2.2.2.2.2.1.inc] at hQ
        have HF := Lib.hid (And.intro hQ hTw)
        clear hQ hTw hk'
        go_wp2_with fail
        go_ret
        obtain ⟨hQ, hTw⟩ := HF.out
        obtain ⟨hw0, hq, hB0, h, hbx, wf, wf1, hs0⟩ := HH.out
        obtain ⟨hrun, h3, hT3, hbx3, hT1, hlt1, hSlt⟩ := HPUT.out
        have hB4 := HCELL.out.2.2.1
        have hs1 := hT1.size
        have hs3 : w1.heap.size ≤ w3.heap.size := hT3.size
        have hs4 := hB4.size
        have hFlt := h.lt
        refine ⟨by rw [HAV.out]; rfl, hQ.mono (fun j hj => ?_) (fun j hj => ?_), ?_⟩
        · rcases hj with e | e
          · exact .inl e
          · exact .inr ⟨by omega, by omega⟩
        · rcases hj with e | e
          · have := hFlt j e; omega
          · exact e.2
        · have hSF : F S := by obtain ⟨-, _, _, _, _, hh⟩ := h; exact hh.root
          refine ⟨hTw.os.trans (hB4.os.trans (hT3.os.trans (hT1.os.trans hB0.os))), hTw.tape.trans (hB4.tape.trans (hT3.tape.trans (hT1.tape.trans hB0.tape))), hTw.output.trans (hB4.output.trans (hT3.output.trans (hT1.output.trans hB0.output))), by omega, fun j hj hF => ?_⟩
          have hG : ¬ Fn F w0 w1 j := fun e => by
            rcases e with e | e
            · exact hF e
            · omega
          have t3 : w3.heap[j]? = w1.heap[j]? := hT3.block j (by show j < w1.heap.size; omega) hG
          rw [hTw.block j (by omega) hG, hB4.block j (by omega), t3, hT1.block j (by omega) (fun e => hF (by rw [e]; exact hSF)), hB0.block j hj]
end Go.Proofs.Ytkndcofmhfeaoaa
