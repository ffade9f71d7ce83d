/- Lock. -/
import Derived.Test.YtkndcofmhfeaoaaJ
namespace Go.Proofs.Ytkndcofmhfeaoaa
open Go.RowKit Go.Maps
set_option linter.unusedVariables false
set_option linter.unusedSimpArgs false
theorem info3 : (Try.prog.info? 3).map (fun i => (i.zero, i.size, i.bytes)) = some (some (.int .i64 0), 1, 8) := by kernel_rfl
/-- a lock is put behind -/
theorem SchedQ.putL {F : Nat → Prop} {S : Nat} {w : World} {s : SchedP} {L : Lay} {bt bl bo : Nat} (h : SchedQ F S w s L (.map (some bt)) (.map (some bl)) (.map (some bo))) (hlen : s.locks.length < maxLen) {x : Int} {w1 : World} (hx : (Lit.int .i64 x).wf = true) (hnew : getP s.locks x = none) {b : Nat} (hb : w.heap.size ≤ b) (hlt : b < w1.heap.size) (hB : Below w.heap.size w w1) (K : LockP) (hK : lockAt w1 b (.slice none 0 0) K) :
    ∃ w', (Instr.mapUpdate 54 (.map (some bl)) (.int .i64 x) (.pointer (some ⟨b, 0, none⟩))).run Try.prog w1 = .ok () w' ∧ SchedQ (Fn F w w') S w' { s with locks := s.locks ++ [(x, K)] } { L with lb := upd L.lb x b, qv := upd L.qv x (.slice none 0 0) } (.map (some bt)) (.map (some bl)) (.map (some bo)) ∧ Turn F w w' := by
  have h1 := h.below hB
  rcases h1.maps with ⟨h0, -⟩ | ⟨bt', bl', bo', e1, e2, e3, m⟩
  · cases h0
  cases e1; cases e2; cases e3
  obtain ⟨w', hr, hP, hT'⟩ := m.pl.store Try.underlying3 Try.underlying54 (by rw [nums_len]; exact hlen) hx (by rw [at_nums, hnew]; rfl) b
  have hsz := hT'.grown.size
  have hsame : ∀ k, k < w1.heap.size → k ≠ bl → w'.heap[k]? = w1.heap[k]? := fun k hk hne => hT'.grown.block k hk (fun e => hne (by cases e; rfl))
  obtain ⟨i1, i2, i3⟩ := m.isMaps
  have up : ∀ k, F k → Fn F w w' k := fun k hk => .inl hk
  have hFt := fun k (hk : F k) => h1.lt k hk
  have hTF : Turn F w w' := (Turn.of_below hB (fun k h1 h2 => by omega)).map m.fl hT'
  refine ⟨w', hr, ⟨fun k hk => ?_, up _ h1.root, h1.blk.same (hsame _ h1.blk.lt (blk_ne_map h1.blk i2)), .inr ⟨bt, bl, bo, rfl, rfl, rfl, m.pt.block (hsame _ (hFt _ m.ft) m.ntl), ?_, m.po.block (hsame _ (hFt _ m.fo) m.nlo.symm), up _ m.ft, up _ m.fl, up _ m.fo, m.ntl, m.nto, m.nlo⟩, ?_, ?_, h1.tinj, ?_, ?_⟩, hTF⟩
  · rcases hk with hk | hk
    · exact Nat.lt_of_lt_of_le (h1.lt k hk) hsz
    · exact hk.2
  · show PMap Try.prog 3 w' bl (nums_ (s.locks ++ [(x, K)]) (upd L.lb x b))
    rw [nums_app _ _ _ _ _ hnew]; exact hP
  · intro p hp
    obtain ⟨h2, o', ho', h3⟩ := h1.task p hp
    exact ⟨up _ h2, o', ho', h3.same (hsame _ h3.lt (blk_ne_map h3 i2))⟩
  · intro p hp
    show Fn F w w' (upd L.lb x b p.1) ∧ lockAt w' (upd L.lb x b p.1) (upd L.qv x (.slice none 0 0) p.1) p.2 ∧ ∀ g, (upd L.qv x (.slice none 0 0) p.1).ownBlock = some g → Fn F w w' g
    rcases List.mem_append.1 hp with hp | hp
    · have hne := getP_none.1 hnew p hp
      rw [upd_ne _ _ hne, upd_ne _ _ hne]
      obtain ⟨h2, h3, h4⟩ := h1.lock p hp
      exact ⟨up _ h2, h3.same (hsame _ h3.blk.lt (blk_ne_map h3.blk i2)) (fun g hg => hsame _ (h3.row.lt hg) (row_ne_map i2 h3.row hg)), fun g hg => up _ (h4 g hg)⟩
    · simp at hp; subst hp
      rw [upd_same, upd_same]
      exact ⟨.inr ⟨hb, Nat.lt_of_lt_of_le hlt hsz⟩, hK.same (hsame _ hlt (blk_ne_map hK.blk i2)) (fun g hg => by cases hg), fun g hg => by cases hg⟩
  · intro p hp q hq hne
    show upd L.lb x b p.1 ≠ upd L.lb x b q.1
    have old : ∀ p ∈ s.locks, L.lb p.1 ≠ b := fun p hp => by have := h.lt _ (h.lock p hp).1; omega
    rcases List.mem_append.1 hp with hp | hp <;> rcases List.mem_append.1 hq with hq | hq
    · rw [upd_ne _ _ (getP_none.1 hnew p hp), upd_ne _ _ (getP_none.1 hnew q hq)]; exact h1.linj p hp q hq hne
    · simp at hq; subst hq
      rw [upd_ne _ _ (getP_none.1 hnew p hp), upd_same]; exact old p hp
    · simp at hp; subst hp
      rw [upd_ne _ _ (getP_none.1 hnew q hq), upd_same]; exact (old q hq).symm
    · simp at hp hq; subst hp hq; exact absurd rfl hne
  · intro p hp q hq hne
    show ∀ g, (upd L.qv x (.slice none 0 0) p.1).ownBlock = some g → (upd L.qv x (.slice none 0 0) q.1).ownBlock ≠ some g
    rcases List.mem_append.1 hp with hp | hp <;> rcases List.mem_append.1 hq with hq | hq
    · rw [upd_ne _ _ (getP_none.1 hnew p hp), upd_ne _ _ (getP_none.1 hnew q hq)]; exact h1.qinj p hp q hq hne
    · simp at hq; subst hq
      rw [upd_same]; exact fun g _ e => by cases e
    · simp at hp; subst hp
      rw [upd_same]; exact fun g e => by cases e
    · simp at hp hq; subst hp hq; exact absurd rfl hne
set_option maxRecDepth 100000 in
set_option maxHeartbeats 1000000 in
theorem lock12 {F : Nat → Prop} {S : Nat} {w : World} {s : SchedP} (h : SQ F S w s) {x n : Int} (hx : (Lit.int .i64 x).wf = true) (hn : (Lit.int .i64 n).wf = true) (hn2 : n ≤ 9223372036854775807) (hlen : s.locks.length < 4611686018427387904) :
    Calls Try.prog 12 #[.pointer (some ⟨S, 0, none⟩), .int .i64 x, .int .i64 n] w fun e w' => e = .returned (.tuple #[.bool (lockV s x n).1, .int .i64 (lockV s x n).2]) ∧ SQ (Fn F w w') S w' (lockP s x n) ∧ Turn F w w' := by
  have wf1 := h.1.lock (x := x) hn2
  have HS := Lib.hid (show SQ (Fn F w w) S w s ∧ Turn F w w from ⟨h.grow w, Turn.refl _ _⟩)
  obtain ⟨wf, L, vt, vl, vo, h⟩ := h
  have H28 := Lib.hid (ready28 h (thing := n) hx)
  have c2 : w.cell? ⟨S, 2, none⟩ = some vl := Blk.cell h.blk 2
  have hlk := h.lookL hn
  unfold lockP lockV at *
  by_cases hr : readyE s x n = 0
  · rw [if_neg (by simpa using hr)]
    rw [if_neg (by simpa using hr)] at wf1 ⊢
    have H28 := H28.out
    rw [if_pos hr, hr] at H28
    have H28 := Lib.hid H28
    obtain ⟨h0, T, hT, hw⟩ := readyE_zero hr
    obtain ⟨hF, o, ho, hb⟩ := h.task _ (getP_mem hT)
    have hb : Blk w (L.tb x) 66 #[.int .i64 T.picks, pv o, .int .i64 T.latch] := hb
    cases hg : getP s.locks n with
    | none =>
      rw [hg] at wf1 hlk
      simp only [Option.map_none, pv] at hlk wf1 ⊢
      rcases h.maps with ⟨-, -, -, hz⟩ | ⟨bt, bl, bo, rfl, rfl, rfl, m⟩
      · subst hz; cases hT
      clear m
      obtain ⟨w1, hw1⟩ : ∃ w1, w1 = w.alloc (.cells #[.int .i64 x, .slice none 0 0] 70) := ⟨_, rfl⟩
      obtain ⟨w2, hrun, h2, hT2⟩ := h.putL (by unfold maxLen; omega) (w1 := w1) hn hg (Nat.le_refl _) (by rw [hw1]; simp) (by rw [hw1]; exact (Below.refl _ w).alloc (Nat.le_refl _) _) ⟨x, []⟩ ⟨by rw [hw1]; exact Blk.new w 70 _, ⟨rfl, .inl ⟨rfl, rfl⟩⟩⟩
      rw [hw1] at hrun
      have HR := Lib.hid (And.intro wf1 (And.intro h2 hT2))
      clear h wf wf1 hb ho hT h2 hT2 hw1 hg
      go_enter Try.func12, Try.ntmps12
      go_wp2_with fail
      refine H28.out.mono ?_
      rintro e w1 ⟨rfl, rfl⟩
      simp only [pv, Option.map_some]
      go_wp2_with fail
      go_ret2
      exact ⟨rfl, ⟨HR.out.1, _, _, _, _, HR.out.2.1⟩, HR.out.2.2⟩
    | some K =>
      rw [hg] at wf1 hlk
      simp only [Option.map_some, pv] at hlk wf1 ⊢
      obtain ⟨hFl, hlA, hqF⟩ := h.lock _ (getP_mem hg)
      obtain ⟨b, hbe⟩ : ∃ b, b = L.lb n := ⟨_, rfl⟩
      have hblk : Blk w b 70 #[.int .i64 K.holder, L.qv n] := by rw [hbe]; exact hlA.blk
      have hrow : ownsIn w 0 3 (L.qv n) K.queue.length (K.queue.map (Value.int .i64)) := hlA.row
      rw [← hbe] at hlk
      have d0 : w.cell? ⟨b, 0, none⟩ = some (.int .i64 K.holder) := Blk.cell hblk 0
      have d1 : w.cell? ⟨b, 1, none⟩ = some (L.qv n) := Blk.cell hblk 1
      by_cases hh : K.holder = x
      · have hd : decide (K.holder = x) = true := decide_eq_true hh
        rw [if_pos hh, hd]
        rw [hh] at d0
        clear h wf wf1 hb ho hT hg hblk hrow hlA hh hd hFl hqF hbe
        go_enter Try.func12, Try.ntmps12
        go_wp2_with fail
        refine H28.out.mono ?_
        rintro e w1 ⟨rfl, rfl⟩
        simp only [pv, Option.map_some]
        go_wp2_with fail
        go_ret2
        exact ⟨rfl, HS.out⟩
      · have hd : decide (K.holder = x) = false := decide_eq_false hh
        rw [if_neg hh] at wf1 ⊢
        rw [hd]
        have hq64 := wf.queue_len (getP_mem hg)
        have hq64 : K.queue.length ≤ 64 := hq64
        obtain ⟨i0, hi, hz0, hz1, hz2⟩ := info_parts info3
        have HQ := Lib.hid hqF
        clear hqF
        have HB := Lib.hid (And.intro hblk (And.intro hb (And.intro h (And.intro wf1 (And.intro hbe (And.intro hF (And.intro hFl (And.intro hT (And.intro hg (And.intro ho (And.intro wf hrow)))))))))))
        have hnews : ∀ j u, [Value.int .i64 x][j]? = some u → (w.alloc (.cells #[.int .i64 x] 3)).cell? ((⟨w.heap.size, 0, none⟩ : Addr).add j) = some u := cell_one_new' _ _ _
        have hrow1 : ownsIn (w.alloc (.cells #[.int .i64 x] 3)) 0 3 (L.qv n) K.queue.length (K.queue.map (Value.int .i64)) := hrow.block (fun g hg => Below.heap_alloc _ _ _ (hrow.lt hg))
        have hb1 := Blk.alloc hblk (.cells #[.int .i64 x] 3)
        have hbt1 := Blk.alloc hb (.cells #[.int .i64 x] 3)
        have hnq : some b ≠ (L.qv n).ownBlock := fun e => blk_ne_row hblk hrow (by decide) e.symm rfl
        have hnt : some (L.tb x) ≠ (L.qv n).ownBlock := fun e => blk_ne_row hb hrow (by decide) e.symm rfl
        have hne1 : ¬ L.tb x = b := blk_ne hb hblk (by decide)
        have hne2 : ¬ b = L.tb x := fun e => hne1 e.symm
        have HN := Lib.hid (And.intro hnq (And.intro hnt (And.intro hb1 hbt1)))
        clear h wf wf1 hb ho hT hg hblk hrow hlA hFl hnq hnt hb1 hbt1 hF hbe
        go_enter Try.func12, Try.ntmps12
        go_wp2_with fail
        refine H28.out.mono ?_
        rintro e w1 ⟨rfl, rfl⟩
        simp only [pv, Option.map_some]
        go_wp2_with (at_builtin; refine wpList_append_in rfl _ _ 22 rfl 0 3 i0 (.int .i64 0) 8 Try.underlying22 hi hz0 hz1 hz2 rfl (L.qv n) _ _ rfl hrow1 ⟨w.heap.size, 0, none⟩ 1 1 [.int .i64 x] rfl rfl hnews (by intro u hu; simp at hu; subst hu; rfl) (by unfold maxLen; omega) (by omega) (by omega) ?_; intro v' w1 hown' hgrow hv'; obtain ⟨g', off', cap', rfl, -, -, -⟩ := hown'.form (by omega); have hbk := Blk.grown HN.out.2.2.1 hgrow HN.out.1; have hbtk := Blk.grown HN.out.2.2.2 hgrow HN.out.2.1; have cv3 : w1.cell? ⟨b, 1, none⟩ = some (L.qv n) := Blk.cell hbk 1; have f3 := Blk.free hbk 1; have ct3 : w1.cell? ⟨L.tb x, 1, none⟩ = some (pv o) := Blk.cell hbtk 1; have ft3 := Blk.free hbtk 1; have HV := Lib.hid (And.intro hown' (And.intro hgrow (And.intro hv' (And.intro hbk hbtk)))); clear hown' hgrow hv' hbk hbtk)
        go_ret2
        obtain ⟨hblk, hb, h, wf1, hbe, hF, hFl, hT, hg, ho, wf, hrow⟩ := HB.out
        obtain ⟨hown', hgrow, hv', hbk, hbtk⟩ := HV.out
        obtain ⟨v', hv'e⟩ : ∃ v', v' = Value.slice (some ⟨g', off', none⟩) (K.queue.length + 1) cap' := ⟨_, rfl⟩
        rw [← hv'e] at hown' hv' ⊢
        obtain ⟨w2, hw2⟩ : ∃ w2, w2 = w1.setCell ⟨b, 1, none⟩ v' := ⟨_, rfl⟩
        have hs1 : w.heap.size + 1 ≤ w1.heap.size := by have := hgrow.size; simpa using this
        have hTw : ∀ G : Nat → Prop, (∀ g, (L.qv n).ownBlock = some g → G g) → G b → Turn G w w2 := by
          intro G h1 h2
          have t1 : Turn G w w1 := ⟨hgrow.os, hgrow.tape, hgrow.output, by omega, fun k hk hn => (hgrow.block k (by simp; omega) (fun e => hn (h1 k e.symm))).trans (Below.heap_alloc _ _ _ hk)⟩
          rw [hw2]
          exact t1.setCell (p := ⟨b, 1, none⟩) h2 _
        have hb2 : Blk w2 b 70 #[.int .i64 K.holder, v'] := by rw [hw2]; exact Blk.set hbk 1 _
        have hrow2 : ownsIn w2 0 3 v' (K.queue.length + 1) (K.queue.map (Value.int .i64) ++ [.int .i64 x]) := by
          rw [hw2]
          exact hown'.block (fun g hg => Below.heap_setCell _ _ _ _ (fun e => blk_ne_row hbk hown' (by decide) hg e.symm))
        have h2 := h.setL (w' := w2) (fun L => ⟨L.holder, L.queue ++ [x]⟩) v' (hTw _ (fun g hg => .inr hg) (.inl hbe)) (getP_mem hg) (fun a ha => by
          rw [SchedQ.uniqL wf hg a ha, ← hbe]
          exact ⟨hb2, by simpa using hrow2⟩) (fun g hg => by
          rcases hv' g hg with h1 | h1
          · exact .inl h1
          · refine .inr ⟨by simp at h1; omega, ?_⟩
            have := hrow2.lt hg
            exact this)
        have hbt2 : Blk w2 (L.tb x) 66 #[.int .i64 T.picks, pv o, .int .i64 T.latch] := by
          rw [hw2]
          exact hbtk.other (fun e => blk_ne hb hblk (by decide) e.symm) _
        obtain ⟨w3, hw3⟩ : ∃ w3, w3 = w2.setCell ⟨L.tb x, 1, none⟩ (.pointer (some ⟨b, 0, none⟩)) := ⟨_, rfl⟩
        have hbt3 := Blk.set hbt2 1 (.pointer (some ⟨b, 0, none⟩))
        have hT3 : getP ({ s with locks := modP s.locks n (fun L => ⟨L.holder, L.queue ++ [x]⟩) } : SchedP).tasks x = some T := hT
        have h3 := h2.setT (x := x) (w' := w3) (fun T => ⟨T.picks, some n, T.latch⟩) (by rw [hw3]; exact (Turn.refl (fun k => k = L.tb x) w2).setCell (p := ⟨L.tb x, 1, none⟩) rfl _) (getP_mem hT3) (fun a ha => ⟨some b, rfl, by
          rw [SchedQ.uniqT wf hT a ha, hw3]
          exact hbt3⟩)
        have hTF : Turn F w w3 := by rw [hw3]; exact (hTw F HQ.out (by rw [hbe]; exact hFl)).setCell (p := ⟨L.tb x, 1, none⟩) hF _
        have hsz : w3.heap.size = w2.heap.size := by rw [hw3]; simp [World.setCell]
        rw [hw3, hw2] at hTF
        refine ⟨rfl, ⟨wf1, ?_⟩, hTF⟩
        have h4 : SchedQ (Fn F w w3) S w3 _ _ _ _ _ := h3.mono (fun k hk => by
          rcases hk with hk | hk
          · exact .inl hk
          · exact .inr ⟨hk.1, by rw [hsz]; exact hk.2⟩) (fun k hk => by
          rcases hk with hk | hk
          · exact h3.lt k (.inl hk)
          · exact hk.2)
        rw [hw3, hw2] at h4
        exact ⟨_, _, _, _, h4⟩
  · rw [if_pos hr]
    rw [if_pos hr]
    have H28 := H28.out
    rw [if_neg hr] at H28
    have H28 := Lib.hid H28
    have hd : decide (readyE s x n = 0) = false := decide_eq_false hr
    clear h wf wf1 hlk
    generalize readyE s x n = E at *
    go_enter Try.func12, Try.ntmps12
    go_wp2_with fail
    refine H28.out.mono ?_
    rintro e w1 ⟨rfl, rfl⟩
    simp only [pv, Option.map_none]
    go_wp2_with fail
    go_ret2
    exact ⟨rfl, HS.out⟩
end Go.Proofs.Ytkndcofmhfeaoaa
