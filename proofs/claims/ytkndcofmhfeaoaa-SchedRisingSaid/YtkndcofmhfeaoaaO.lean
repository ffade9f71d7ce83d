/- Stuck, Pick, End. -/
import Derived.Test.YtkndcofmhfeaoaaN
namespace Go.Proofs.Ytkndcofmhfeaoaa
open Go.RowKit Go.Maps
set_option linter.unusedVariables false
set_option linter.unusedSimpArgs false
theorem stuck16 {F : Nat → Prop} {S : Nat} {w : World} {s : SchedP} (h : SQ F S w s) (hmade : s.made < 4611686018427387904) :
    Calls Try.prog 16 #[.pointer (some ⟨S, 0, none⟩)] w fun e w' => e = .returned (.bool (stuckP s)) ∧ Below w.heap.size w w' := by
  have H := Lib.hid (ready14 h hmade)
  obtain ⟨wf, L, vt, vl, vo, h⟩ := h
  have HL := Lib.hid h.lenT
  have c1 : w.cell? ⟨S, 1, none⟩ = some vt := Blk.cell h.blk 1
  unfold stuckP
  cases ht : s.tasks with
  | nil =>
    rw [ht] at HL
    simp only [List.length_nil] at HL
    clear h wf ht
    go_enter Try.func16, Try.ntmps16
    go_wp2_with (at_len; refine wpList_len_T rfl _ rfl HL.out rfl ?_)
    go_ret
    exact ⟨rfl, Below.refl _ _⟩
  | cons p r =>
    rw [ht] at HL
    have hd : 0 < (p :: r).length := by simp
    generalize hn : (p :: r).length = n at *
    clear h wf ht
    go_enter Try.func16, Try.ntmps16
    go_wp2_with (at_len; refine wpList_len_T rfl _ rfl HL.out rfl ?_)
    refine H.out.mono ?_
    rintro e w1 ⟨v, rfl, ho, hB⟩
    obtain ⟨a, c, rfl⟩ := owns_form ho
    have HB := Lib.hid hB
    clear ho hB
    go_wp2_with fail
    go_ret
    refine ⟨?_, HB.out⟩
    cases readyL s
    · rfl
    · simp; omega
theorem owns_lit {w : World} {base : Nat} {l : List Int} {v : Value} (h : w.ownsRow base 3 1 v l.length (l.map (Value.int .i64))) (hl : 0 < l.length) : ∃ g cap, v = .slice (some ⟨g, 0, none⟩) l.length cap ∧ base ≤ g ∧ g < w.heap.size ∧ l.length ≤ cap ∧ cap ≤ maxLen ∧ ∀ j, j < l.length → w.cell? ⟨g, j, none⟩ = some (.int .i64 (l.getD j 0)) := by
  have hlt := h.lt
  have hc := @World.ownsRow.cells _ _ _ _ _ _ _ h
  rcases h.2 with ⟨rfl, h0⟩ | ⟨g, cap, cur, rfl, hb, hg, hn, hm, hs, ht⟩
  · omega
  · refine ⟨g, cap, rfl, hb, (hlt g rfl).2, hn, hm, fun j hj => ?_⟩
    have := hc (g := g) rfl j (.int .i64 (l.getD j 0)) (by simp [List.getD_eq_getElem?_getD, hj])
    have e : (⟨g, 0, none⟩ : Addr).add j = ⟨g, j, none⟩ := by unfold Addr.add; split <;> simp_all
    rw [e] at this
    exact this
theorem wheel_lt (n : Int) (k : Nat) (hk : 0 < k) : wheel n k < k := by
  unfold wheel
  have h1 : (0 : Int) ≤ (if n < 0 then -(n + 1) else n) % (k : Int) := Int.emod_nonneg _ (by omega)
  have h2 : (if n < 0 then -(n + 1) else n) % (k : Int) < k := Int.emod_lt_of_pos _ (by omega)
  omega
theorem readyL_mem {s : SchedP} {x : Int} (h : x ∈ readyL s) : ∃ T, (x, T) ∈ s.tasks ∧ waitsP T = false := by
  unfold readyL at h
  rw [List.mem_map] at h
  obtain ⟨p, hp, rfl⟩ := h
  rw [List.mem_filter] at hp
  exact ⟨p.2, hp.1, by simpa using hp.2⟩
set_option maxRecDepth 100000 in
set_option maxHeartbeats 1000000 in
theorem pick17 {F : Nat → Prop} {S : Nat} {w : World} {s : SchedP} (h : SQ F S w s) (hmade : s.made < 4611686018427387904) {n : Int} (hn : -9223372036854775808 ≤ n ∧ n ≤ 9223372036854775807) (hpk : ∀ p ∈ s.tasks, 0 ≤ p.2.picks ∧ p.2.picks < 4611686018427387904) :
    Calls Try.prog 17 #[.pointer (some ⟨S, 0, none⟩), .int .i64 n] w fun e w' => e = .returned (.tuple #[.int .i64 (pickV s n).1, .bool (pickV s n).2]) ∧ SQ (Fn F w w') S w' (pickP s n) ∧ Turn F w w' := by
  have h0 := h
  have H := Lib.hid (ready14 h hmade)
  have wf1 := h.1.pick n
  unfold pickV
  unfold pickP at *
  cases hl : readyL s with
  | nil =>
    rw [hl] at H
    simp only [List.length_nil] at H
    have HS := Lib.hid h0
    clear h h0 wf1 hl
    go_enter Try.func17, Try.ntmps17
    go_wp2_with fail
    refine H.out.mono ?_
    rintro e w1 ⟨v, rfl, ho, hB⟩
    obtain ⟨a, c, rfl⟩ := owns_form ho
    have HB := Lib.hid hB
    clear ho hB
    go_wp2_with fail
    go_ret2
    exact ⟨rfl, (HS.out.below HB.out).grow w |>.mono (fun k hk => hk) (fun k hk => by
      rcases hk with hk | hk
      · exact Nat.lt_of_lt_of_le (HS.out.lt k hk) HB.out.size
      · exact hk.2), Turn.of_below HB.out (fun k h1 h2 => by omega)⟩
  | cons y r =>
    rw [hl, if_neg (by simp)] at wf1
    rw [if_neg (by simp), if_neg (by simp)]
    have hpos : 0 < (readyL s).length := by rw [hl]; simp
    have hlen : (readyL s).length ≤ 64 := by
      unfold readyL
      rw [List.length_map]
      exact Nat.le_trans (List.length_filter_le _ _) h.1.few
    obtain ⟨k, hk⟩ : ∃ k, k = (readyL s).length := ⟨_, rfl⟩
    obtain ⟨i, hi⟩ : ∃ i, i = wheel n (readyL s).length := ⟨_, rfl⟩
    have hik : i < k := by rw [hi, hk]; exact wheel_lt _ _ hpos
    obtain ⟨t, ht⟩ : ∃ t, t = pickT s n := ⟨_, rfl⟩
    have htl : t = (readyL s).getD i 0 := by rw [ht, hi]; rfl
    have htm : t ∈ readyL s := by rw [htl, List.getD_eq_getElem?_getD, List.getElem?_eq_getElem (by omega)]; exact List.getElem_mem _
    obtain ⟨T, hTm, hTw⟩ := readyL_mem htm
    rw [← ht] at wf1 ⊢
    have HH := Lib.hid (And.intro h0 (And.intro wf1 (And.intro hTm (And.intro (hpk _ hTm) htl))))
    obtain ⟨nn, hnn⟩ : ∃ nn : Int, nn = if n < 0 then -(n + 1) else n := ⟨_, rfl⟩
    have hnn0 : 0 ≤ nn := by rw [hnn]; split <;> omega
    have hnn1 : nn ≤ 9223372036854775807 := by rw [hnn]; split <;> omega
    have hrem : nn.tmod (k : Int) = (i : Int) := by
      rw [Int.tmod_eq_emod_of_nonneg hnn0, hi, hk]
      unfold wheel
      rw [← hnn]
      have : (0 : Int) ≤ nn % ((readyL s).length : Int) := Int.emod_nonneg _ (by omega)
      omega
    rw [← hk] at hlen hpos
    have HK := Lib.hid hk
    have hk0 : ¬ (k : Int) = 0 := by omega
    by_cases hneg : n < 0
    · rw [if_pos hneg] at hnn
      have e1 : wrap64 (n + 1) = n + 1 := w64 (by omega)
      have e2 : wrap64 (-(n + 1)) = -(n + 1) := w64 (by omega)
      have hrem2 : (n + 1).tmod (k : Int) = -(i : Int) := by rw [hnn, Int.neg_tmod] at hrem; omega
      clear hrem
      have hd : decide (n < 0) = true := decide_eq_true hneg
      clear h h0 wf1 hl hpk hTm htm ht htl hi hk hTw hnn hneg
      go_enter Try.func17, Try.ntmps17
      go_wp2_with fail
      refine H.out.mono ?_
      rintro e w1 ⟨v, rfl, ho, hB⟩
      obtain ⟨h0, wf1, hTm, hpk, htl⟩ := HH.out
      obtain ⟨g, cap, rfl, hbg, hgl, hcap, hmax, hcell⟩ := owns_lit ho (by rw [← HK.out]; exact hpos)
      rw [← HK.out] at hcap
      have hct := hcell i (by rw [← HK.out]; exact hik)
      rw [← htl] at hct
      rw [← HK.out]
      obtain ⟨wf, L, vt, vl, vo, h1⟩ := h0.below hB
      have hTg := getP_of_mem (inc_ne wf.inc) hTm
      have hTg : getP s.tasks t = some T := hTg
      have hr := wf.rng _ hTm
      have hlk := h1.lookT (x := t) (wfi (by have := hr.1; simp at this; omega) (by have := hr.2; simp at this; omega))
      rw [hTg] at hlk
      simp only [Option.map_some, pv] at hlk
      have c1 : w1.cell? ⟨S, 1, none⟩ = some vt := Blk.cell h1.blk 1
      obtain ⟨hF, o, ho2, hb⟩ := h1.task _ hTm
      have hF : F (L.tb t) := hF
      have hb : Blk w1 (L.tb t) 66 #[.int .i64 T.picks, pv o, .int .i64 T.latch] := hb
      obtain ⟨b, hbe⟩ : ∃ b, b = L.tb t := ⟨_, rfl⟩
      rw [← hbe] at hlk hb hF
      have HA := Lib.hid (add33 b T.picks w1 (Blk.cell hb 0) (Blk.free hb 0) (by have := hpk.1; simpa using this) (by have := hpk.2; simpa using this))
      have HX := Lib.hid (And.intro h1 (And.intro hB (And.intro hTg (And.intro hF (And.intro ho2 (And.intro hb (And.intro hbe wf)))))))
      clear h0 wf1 hTm hpk htl hcell hB h1 hTg hF ho2 hb ho hr hbe hbg hgl wf
      have hcap' : k ≤ cap := hcap
      have hmax' : cap ≤ 9223372036854775807 := hmax
      go_wp2_with fail
      refine HA.out.mono ?_
      rintro e w2 ⟨rfl, rfl⟩
      go_wp2_with fail
      go_ret2
      obtain ⟨h1, hB, hTg, hF, ho2, hb, hbe, wf⟩ := HX.out
      obtain ⟨h0, wf1, hTm, hpk, htl⟩ := HH.out
      have h2 := h1.setT (x := t) (w' := w1.setCell ⟨b, 0, none⟩ (.int .i64 (T.picks + 1))) (fun T => ⟨T.picks + 1, T.lock, T.latch⟩) ((Turn.refl (fun k => k = L.tb t) w1).setCell (p := ⟨b, 0, none⟩) hbe _) (getP_mem hTg) (fun a ha => ⟨o, by rw [SchedQ.uniqT wf hTg a ha]; exact ho2, by rw [SchedQ.uniqT wf hTg a ha, ← hbe]; exact Blk.set hb 0 _⟩)
      exact ⟨rfl, ⟨wf1, _, _, _, _, h2.grow w h0.lt⟩, (Turn.of_below hB (fun k h1 h2 => by omega)).setCell (p := ⟨b, 0, none⟩) hF _⟩
    · rw [if_neg hneg] at hnn
      subst hnn
      have hd : decide (nn < 0) = false := decide_eq_false hneg
      clear h h0 wf1 hl hpk hTm htm ht htl hi hk hTw hneg
      go_enter Try.func17, Try.ntmps17
      go_wp2_with fail
      refine H.out.mono ?_
      rintro e w1 ⟨v, rfl, ho, hB⟩
      obtain ⟨h0, wf1, hTm, hpk, htl⟩ := HH.out
      obtain ⟨g, cap, rfl, hbg, hgl, hcap, hmax, hcell⟩ := owns_lit ho (by rw [← HK.out]; exact hpos)
      rw [← HK.out] at hcap
      have hct := hcell i (by rw [← HK.out]; exact hik)
      rw [← htl] at hct
      rw [← HK.out]
      obtain ⟨wf, L, vt, vl, vo, h1⟩ := h0.below hB
      have hTg := getP_of_mem (inc_ne wf.inc) hTm
      have hTg : getP s.tasks t = some T := hTg
      have hr := wf.rng _ hTm
      have hlk := h1.lookT (x := t) (wfi (by have := hr.1; simp at this; omega) (by have := hr.2; simp at this; omega))
      rw [hTg] at hlk
      simp only [Option.map_some, pv] at hlk
      have c1 : w1.cell? ⟨S, 1, none⟩ = some vt := Blk.cell h1.blk 1
      obtain ⟨hF, o, ho2, hb⟩ := h1.task _ hTm
      have hF : F (L.tb t) := hF
      have hb : Blk w1 (L.tb t) 66 #[.int .i64 T.picks, pv o, .int .i64 T.latch] := hb
      obtain ⟨b, hbe⟩ : ∃ b, b = L.tb t := ⟨_, rfl⟩
      rw [← hbe] at hlk hb hF
      have HA := Lib.hid (add33 b T.picks w1 (Blk.cell hb 0) (Blk.free hb 0) (by have := hpk.1; simpa using this) (by have := hpk.2; simpa using this))
      have HX := Lib.hid (And.intro h1 (And.intro hB (And.intro hTg (And.intro hF (And.intro ho2 (And.intro hb (And.intro hbe wf)))))))
      clear h0 wf1 hTm hpk htl hcell hB h1 hTg hF ho2 hb ho hr hbe hbg hgl wf
      have hcap' : k ≤ cap := hcap
      have hmax' : cap ≤ 9223372036854775807 := hmax
      go_wp2_with fail
      refine HA.out.mono ?_
      rintro e w2 ⟨rfl, rfl⟩
      go_wp2_with fail
      go_ret2
      obtain ⟨h1, hB, hTg, hF, ho2, hb, hbe, wf⟩ := HX.out
      obtain ⟨h0, wf1, hTm, hpk, htl⟩ := HH.out
      have h2 := h1.setT (x := t) (w' := w1.setCell ⟨b, 0, none⟩ (.int .i64 (T.picks + 1))) (fun T => ⟨T.picks + 1, T.lock, T.latch⟩) ((Turn.refl (fun k => k = L.tb t) w1).setCell (p := ⟨b, 0, none⟩) hbe _) (getP_mem hTg) (fun a ha => ⟨o, by rw [SchedQ.uniqT wf hTg a ha]; exact ho2, by rw [SchedQ.uniqT wf hTg a ha, ← hbe]; exact Blk.set hb 0 _⟩)
      exact ⟨rfl, ⟨wf1, _, _, _, _, h2.grow w h0.lt⟩, (Turn.of_below hB (fun k h1 h2 => by omega)).setCell (p := ⟨b, 0, none⟩) hF _⟩
end Go.Proofs.Ytkndcofmhfeaoaa
