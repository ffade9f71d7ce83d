/- End. -/
import Derived.Test.YtkndcofmhfeaoaaO
namespace Go.Proofs.Ytkndcofmhfeaoaa
open Go.RowKit Go.Maps
set_option linter.unusedVariables false
set_option linter.unusedSimpArgs false
theorem freeP_made (s : SchedP) (n : Int) : (freeP s n).made = s.made := by unfold freeP; split; rfl; split <;> rfl
theorem freeP_locks (s : SchedP) {m n : Int} (h : n ≠ m) : getP (freeP s m).locks n = getP s.locks n := by
  unfold freeP
  split
  · rfl
  · split
    · dsimp only
      rw [getP_delP, if_neg h]
    · dsimp only
      rw [getP_modP, if_neg h]
theorem endR_made (x : Int) (s : SchedP) (n : Int) : (endR x s n).made = s.made := by unfold endR; split; exact freeP_made s n; rfl
theorem endR_locks (x : Int) (s : SchedP) {m n : Int} (h : n ≠ m) : getP (endR x s m).locks n = getP s.locks n := by unfold endR; split; exact freeP_locks s h; rfl
theorem fold_made (x : Int) : ∀ (l : List Int) (s : SchedP), (l.foldl (endR x) s).made = s.made
  | [], _ => rfl
  | n :: l, s => (fold_made x l _).trans (endR_made x s n)
theorem fold_locks (x : Int) (n : Int) : ∀ (l : List Int) (s : SchedP), n ∉ l → getP (l.foldl (endR x) s).locks n = getP s.locks n
  | [], _, _ => rfl
  | m :: l, s, h => by
    simp only [List.mem_cons, not_or] at h
    exact (fold_locks x n l _ h.2).trans (endR_locks x s h.1)
theorem lockKeys_nodup {s : SchedP} (wf : WF s) : (lockKeys s).Nodup := by
  unfold lockKeys
  rw [(List.mergeSort_perm _ _).nodup_iff]
  exact (keys_pw (R := fun a b => a ≠ b) s.locks).2 wf.lks
theorem lockKeys_mem {s : SchedP} {n : Int} (h : n ∈ lockKeys s) : ∃ K, (n, K) ∈ s.locks := by
  unfold lockKeys at h
  rw [(List.mergeSort_perm _ _).mem_iff, List.mem_map] at h
  obtain ⟨p, hp, rfl⟩ := h
  exact ⟨p.2, hp⟩
theorem lockKeys_len (s : SchedP) : (lockKeys s).length = s.locks.length := by unfold lockKeys; rw [List.length_mergeSort, List.length_map]
theorem risen_locks (s : SchedP) (b : Int → Nat) : risen (nums_ s.locks b) = lockKeys s := by
  unfold risen lockKeys
  have e : keysL_ (nums_ s.locks b) = s.locks.map (·.1) := by unfold keysL_ nums_; rw [List.map_map]; rfl
  rw [e]
set_option maxRecDepth 100000 in
set_option maxHeartbeats 1000000 in
theorem end18 {F : Nat → Prop} {S : Nat} {w : World} {s : SchedP} (h : SQ F S w s) (hmade : s.made < 4611686018427387904) (hlocks : s.locks.length ≤ 4096) {x : Int} (hx : (Lit.int .i64 x).wf = true) :
    Calls Try.prog 18 #[.pointer (some ⟨S, 0, none⟩), .int .i64 x] w fun e w' => e = .returned (.int .i64 (readyE s x 0)) ∧ SQ (Fn F w w') S w' (endP s x) ∧ Turn F w w' := by
  have HS := Lib.hid (show SQ (Fn F w w) S w s ∧ Turn F w w from ⟨h.grow w, Turn.refl _ _⟩)
  obtain ⟨wf, L, vt, vl, vo, h⟩ := h
  have H28 := Lib.hid (ready28 h (thing := 0) hx)
  unfold endP
  by_cases hr : readyE s x 0 = 0
  · rw [if_neg (by simpa using hr), hr]
    have H28 := H28.out
    rw [if_pos hr, hr] at H28
    have H28 := Lib.hid H28
    obtain ⟨h0, T, hT, hw⟩ := readyE_zero hr
    have wfD := wf.del hr
    have c1 : w.cell? ⟨S, 1, none⟩ = some vt := Blk.cell h.blk 1
    have HD := Lib.hid (h.dropT wf hx (getP_mem hT))
    have HH := Lib.hid (And.intro wf (And.intro wfD h.lt))
    clear h wf wfD hT hw hr
    go_enter Try.func18, Try.ntmps18
    go_wp2_with fail
    refine H28.out.mono ?_
    rintro e w1 ⟨rfl, rfl⟩
    simp only [pv, Option.map_some]
    go_upto_region 5 with (at_delete; go_loud (refine wpList_delete_any _ rfl _ _ 53 rfl HD.out rfl rfl ?_); intro w1 hh; have HX := Lib.hid hh; clear hh)
    have c2 : w1.cell? ⟨S, 2, none⟩ = some vl := Blk.cell HX.out.1.blk 2
    have hkeys : ∃ mb, vl = .map mb ∧ Calls Try.prog 34 #[.func (.func 50) #[] #[.pointer (some ⟨w1.heap.size, 0, none⟩)]] (w1.alloc (.cells #[.map mb] 54)) fun e w' => ∃ v, e = .returned v ∧
        w'.ownsRow w1.heap.size 3 1 v (lockKeys s).length ((lockKeys s).map (Value.int .i64)) ∧ Below w1.heap.size w1 w' := by
      rcases HX.out.1.maps with ⟨-, h1, -, h4⟩ | ⟨bt, bl, bo, -, h1, -, mm⟩
      · refine ⟨none, h1, (sortedLocks_nil w1).mono ?_⟩
        rintro e w' ⟨rfl, hB⟩
        have e0 : s.locks = [] := by have : (delT s x).locks = [] := by rw [h4]; rfl
                                     exact this
        have e1 : lockKeys s = [] := by unfold lockKeys; rw [e0]; simp
        rw [e1]
        exact ⟨_, rfl, World.ownsRow_nil _ _ _ _, Below.call (Below.al (Below.refl w1.heap.size w1) _) hB⟩
      · refine ⟨some bl, h1, (risenLocks bl _ w1 mm.pl (by rw [nums_len]; exact hlocks)).mono ?_⟩
        rintro e w' ⟨v, rfl, ho, hB⟩
        rw [nums_len] at ho
        have e1 : risen (nums_ (delT s x).locks L.lb) = lockKeys s := risen_locks s L.lb
        rw [e1] at ho
        refine ⟨v, rfl, ?_, hB⟩
        rw [lockKeys_len]
        exact ho
    obtain ⟨mb, rfl, hkeys⟩ := hkeys
    have H35 := Lib.hid (keysLocks mb w1)
    have H34 := Lib.hid hkeys
    clear hkeys
    go_wp2_with fail
    refine H35.out.mono ?_
    rintro e w2 ⟨rfl, rfl⟩
    go_wp2_with fail
    refine H34.out.mono ?_
    rintro e w2 ⟨v, rfl, hown, hB1⟩
    obtain ⟨a, cap, rfl⟩ := owns_form hown
    have hrow := Row.of_owns hown
    have hkb : ∀ g, (Value.slice a (lockKeys s).length cap).ownBlock = some g → w1.heap.size ≤ g ∧ g < w2.heap.size := hown.lt
    obtain ⟨hl1, a1, cap1, hv1, hcap, hmax, hcell⟩ := hrow
    injection hv1 with q1 q2 q3
    subst q1 q3
    have hG0 : SQ F S w2 (delT s x) := SQ.below ⟨HH.out.2.1, _, _, _, _, HX.out.1⟩ hB1
    have hT0 : Turn F w w2 := HX.out.2.trans (Turn.of_below hB1 (fun k h1 h2 => by omega))
    have hs01 : w.heap.size ≤ w1.heap.size := HX.out.2.size
    have HCELL := Lib.hid (And.intro hcell (And.intro hkb (And.intro hG0 (And.intro hT0 (And.intro hs01 hB1.size)))))
    clear hcell hown hkb hG0 hT0 hs01 hB1
    go_wp2_with fail
    have h4096 : (lockKeys s).length ≤ 4096 := by rw [lockKeys_len]; exact hlocks
    go_loopw [30] (fun i wr => ∃ (k : Nat) (G : Nat → Prop), k ≤ (lockKeys s).length ∧ i = .int .i64 k ∧ SQ G S wr (((lockKeys s).take k).foldl (endR x) (delT s x)) ∧ (∀ g, (Value.slice a (lockKeys s).length cap).ownBlock = some g → ¬ G g ∧ wr.heap[g]? = w2.heap[g]?) ∧ (∀ j, G j → F j ∨ w.heap.size ≤ j) ∧ Turn F w wr ∧ w2.heap.size ≤ wr.heap.size) (fun i _ => (lockKeys s).length - (intOf i).toNat)
    case atStart =>
      obtain ⟨-, hkb, hG0, hT0, hs01, -⟩ := HCELL.out
      exact ⟨0, F, by omega, rfl, hG0, fun g hg => ⟨fun hF => by have := HH.out.2.2 g hF; have := hkb g hg; omega, rfl⟩, fun j hj => .inl hj, hT0, Nat.le_refl _⟩
    case round =>
      obtain ⟨k, G, hk, rfl, hQ, hkeep, hGF, hTw, hsz⟩ := hrel
      obtain ⟨sk, hsk⟩ : ∃ sk, sk = ((lockKeys s).take k).foldl (endR x) (delT s x) := ⟨_, rfl⟩
      rw [← hsk] at hQ
      by_cases hlt : k < (lockKeys s).length
      · have hkd : decide ((k : Int) < (lockKeys s).length) = true := by simp; omega
        obtain ⟨b0, off, rfl, hb0, hcl⟩ := HCELL.out.1 (by omega)
        obtain ⟨n, hn⟩ : ∃ n, n = (lockKeys s)[k] := ⟨_, rfl⟩
        have hck : wr.cell? ⟨b0, off + k, none⟩ = some (.int .i64 n) := by
          rw [World.cell?_of_block ((hkeep b0 rfl).2), hcl k (by omega)]
          simp [List.getD_eq_getElem?_getD, hlt, hn]
        have hnot : n ∉ (lockKeys s).take k := by
          rw [hn]
          intro hm
          obtain ⟨j, hj, he⟩ := List.getElem_of_mem hm
          rw [List.length_take] at hj
          rw [List.getElem_take] at he
          exact List.pairwise_iff_getElem.1 (lockKeys_nodup HH.out.1) j k (by omega) hlt (by omega) he
        obtain ⟨K0, hK0⟩ := lockKeys_mem (show n ∈ lockKeys s by rw [hn]; exact List.getElem_mem hlt)
        have hKs : getP s.locks n = some K0 := getP_of_mem HH.out.1.lks hK0
        have hKk : getP sk.locks n = some K0 := by
          rw [hsk, fold_locks x n _ _ hnot]
          exact hKs
        have hnr := HH.out.1.lrng _ hK0
        have hnw : (Lit.int .i64 n).wf = true := wfi hnr.1 hnr.2
        have hstep : ((lockKeys s).take (k + 1)).foldl (endR x) (delT s x) = endR x sk n := by
          rw [List.take_succ_eq_append_getElem hlt, List.foldl_append, ← hn, ← hsk]
          rfl
        have hmk : sk.made < 4611686018427387904 := by rw [hsk, fold_made]; exact hmade
        have hfree := free32 hQ hnw hmk hKk
        obtain ⟨wfk, L', vt', vl', vo', hq⟩ := id hQ
        have hlk := hq.lookL hnw
        rw [hKk] at hlk
        simp only [Option.map_some, pv] at hlk
        have cS : wr.cell? ⟨S, 2, none⟩ = some vl' := Blk.cell hq.blk 2
        obtain ⟨b, hb⟩ : ∃ b, b = L'.lb n := ⟨_, rfl⟩
        rw [← hb] at hlk
        have ch : wr.cell? ⟨b, 0, none⟩ = some (.int .i64 K0.holder) := by rw [hb]; exact Blk.cell (hq.lock _ (getP_mem hKk)).2.1.blk 0
        have hho : holderP sk n = K0.holder := by unfold holderP; rw [hKk]
        have HF := Lib.hid (And.intro hfree (And.intro hstep (And.intro hQ (And.intro hkeep (And.intro hGF (And.intro hTw (And.intro hsz hho)))))))
        clear hcl hfree hstep hQ hkeep hGF hTw hq hb hnr hnot hK0 hKs hKk hn hsk hho hsz
        by_cases hh : K0.holder = x
        · rw [hh] at ch
          have e1 : endR x sk n = freeP sk n := by unfold endR; rw [if_pos (by rw [HF.out.2.2.2.2.2.2.2]; exact hh)]
          have HE := Lib.hid e1
          clear hh e1
          go_wp2_with fail
          refine HF.out.1.mono ?_
          rintro e w3 ⟨rfl, h3, hT3⟩
          have HY := Lib.hid (And.intro h3 hT3)
          clear h3 hT3
          go_wp2_with fail
          go_roundw
          case rel =>
            obtain ⟨-, hstep, hQ, hkeep, hGF, hTw, hsz, -⟩ := HF.out
            obtain ⟨h3, hT3⟩ := HY.out
            refine ⟨k + 1, _, by omega, by go_num, by rw [hstep, HE.out]; exact h3, fun g hg => ?_, fun j hj => ?_, ?_, Nat.le_trans hsz hT3.size⟩
            · have h4 := hkeep g hg
              have h5 := (HCELL.out.2.1 g hg).2
              exact ⟨fun e => by
                rcases e with e | e
                · exact h4.1 e
                · omega, (hT3.block g (by omega) h4.1).trans h4.2⟩
            · rcases hj with hj | hj
              · exact hGF j hj
              · have := hTw.size; omega
            · refine ⟨hT3.os.trans hTw.os, hT3.tape.trans hTw.tape, hT3.output.trans hTw.output, Nat.le_trans hTw.size hT3.size, fun j hj hF => ?_⟩
              rw [hT3.block j (Nat.lt_of_lt_of_le hj hTw.size) (fun e => by
                rcases hGF j e with e | e
                · exact hF e
                · omega)]
              exact hTw.block j hj hF
          case measure => simp [intOf]; omega
        · have hd2 : decide (K0.holder = x) = false := decide_eq_false hh
          have e1 : endR x sk n = sk := by unfold endR; rw [if_neg (by rw [HF.out.2.2.2.2.2.2.2]; exact hh)]
          have HE := Lib.hid e1
          clear e1
          go_wp2_with fail
          go_roundw
          case rel =>
            obtain ⟨-, hstep, hQ, hkeep, hGF, hTw, hsz, -⟩ := HF.out
            exact ⟨k + 1, _, by omega, by go_num, by rw [hstep, HE.out]; exact hQ, hkeep, hGF, hTw, hsz⟩
          case measure => simp [intOf]; omega
      · have hk' : k = (lockKeys s).length := by omega
        have hkd : decide ((k : Int) < (lockKeys s).length) = false := by simp; omega
        have e1 : sk = (lockKeys s).foldl (endR x) (delT s x) := by rw [hsk, hk', List.take_length]
        rw [e1] at hQ
        have HF := Lib.hid (And.intro hQ (And.intro hGF hTw))
        clear hQ hkeep hGF hTw hk' hsk e1
        go_wp2_with fail
        go_ret
        obtain ⟨hQ, hGF, hTw⟩ := HF.out
        refine ⟨rfl, hQ.mono (fun j hj => ?_) (fun j hj => ?_), hTw⟩
        · rcases hGF j hj with e | e
          · exact .inl e
          · exact .inr ⟨e, hQ.lt j hj⟩
        · rcases hj with e | e
          · have := HH.out.2.2 j e; have := hTw.size; omega
          · exact e.2
  · rw [if_pos hr]
    have H28 := H28.out
    rw [if_neg hr] at H28
    have H28 := Lib.hid H28
    have hd : decide (readyE s x 0 = 0) = false := decide_eq_false hr
    clear h wf
    generalize readyE s x 0 = E at *
    go_enter Try.func18, Try.ntmps18
    go_wp2_with fail
    refine H28.out.mono ?_
    rintro e w1 ⟨rfl, rfl⟩
    simp only [pv, Option.map_none]
    go_wp2_with fail
    go_ret
    exact ⟨rfl, HS.out⟩
end Go.Proofs.Ytkndcofmhfeaoaa
