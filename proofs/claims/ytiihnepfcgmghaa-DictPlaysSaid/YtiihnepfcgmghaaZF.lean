/- DictPlays: the walk. -/
import Derived.Test.YtiihnepfcgmghaaZE
import Derived.Test.YtiihnepfcgmghaaBase19
namespace Go.Proofs.Ytiihnepfcgmghaa
open Go.RowKit Go.Maps
set_option linter.unusedVariables false
set_option linter.unusedSimpArgs false
structure OpT where
  k : Int
  n : Int
  t : ByteArray
  u : ByteArray
def opL (o : OpT) : List Value := [.int .i64 o.k, .int .i64 o.n, .string o.t, .string o.u]
def opsL (l : List OpT) : List Value := l.flatMap opL
def op0 : OpT := ⟨0, 0, ByteArray.empty, ByteArray.empty⟩
def okO (o : OpT) : Prop := (-9223372036854775808 ≤ o.k ∧ o.k ≤ 9223372036854775807) ∧ (-9223372036854775808 ≤ o.n ∧ o.n ≤ 9223372036854775807) ∧ o.t.size ≤ 140737488351232 ∧ o.u.size ≤ 140737488351232
theorem opsL_len (l : List OpT) : (opsL l).length = l.length * 4 := by
  unfold opsL
  induction l with
  | nil => rfl
  | cons o l ih => rw [List.flatMap_cons, List.length_append, ih]; simp [opL]; omega
theorem opsL_at (l : List OpT) (i r : Nat) (hi : i < l.length) (hr : r < 4) : (opsL l).getD (i * 4 + r) undef = (opL (l.getD i op0)).getD r undef := by
  induction l generalizing i with
  | nil => simp at hi
  | cons o l ih =>
    have e : opsL (o :: l) = opL o ++ opsL l := by simp [opsL]
    have e4 : (opL o).length = 4 := rfl
    rw [e]
    cases i with
    | zero => rw [Nat.zero_mul, Nat.zero_add, List.getD_eq_getElem?_getD, List.getElem?_append_left (by omega), ← List.getD_eq_getElem?_getD]; rfl
    | succ i =>
      rw [List.getD_eq_getElem?_getD, List.getElem?_append_right (by omega), e4, show (i + 1) * 4 + r - 4 = i * 4 + r by omega, ← List.getD_eq_getElem?_getD, ih i (by simpa using hi)]
      rfl
theorem info52 : (Try.prog.info? 52).map (·.size) = some 4 := by kernel_rfl
theorem does18 (w0 w : World) (D R : Nat) (l : List ByteArray) (F G : Nat → Prop) (h : Both w0 D R w l F G) (hl : l.length < 4096) (o : OpT) (ho : okO o) :
    Calls Try.prog 18 #[ptrV D, ptrV R, .agg #[.int .i64 o.k, .int .i64 o.n, .string o.t, .string o.u]] w fun e w' => e = .returned (.bool true) ∧ ∃ l' F' G', Both w0 D R w' l' F' G' ∧ l'.length ≤ l.length + 1 := by
  obtain ⟨h1, h2, h3, h4⟩ := ho
  by_cases c3 : Int.tmod o.k 6 = 3 ∨ Int.tmod o.k 6 = -3
  · refine (does18_find w0 w D R l F G h hl o.k o.n o.t o.u (by unfold maxLen; omega) (by unfold maxLen; omega) c3).mono ?_
    rintro e w' ⟨he, F', G', hb⟩
    exact ⟨he, l, F', G', hb, by omega⟩
  · by_cases c4 : Int.tmod o.k 6 = 4 ∨ Int.tmod o.k 6 = -4
    · refine (does18_text w0 w D R l F G h hl o.k o.n o.t o.u h2 c4).mono ?_
      rintro e w' ⟨he, F', G', hb⟩
      exact ⟨he, l, F', G', hb, by omega⟩
    · by_cases c5 : Int.tmod o.k 6 = 5 ∨ Int.tmod o.k 6 = -5
      · refine (does18_copy w0 w D R l F G h hl o.k o.n o.t o.u (by unfold maxLen; omega) c5).mono ?_
        rintro e w' ⟨he, F', G', hb⟩
        exact ⟨he, l, F', G', hb, by omega⟩
      · refine (does18_put w0 w D R l F G h hl o.k o.n o.t o.u (by unfold maxLen; omega) ⟨fun e => c3 (.inl e), fun e => c3 (.inr e), fun e => c4 (.inl e), fun e => c4 (.inr e), fun e => c5 (.inl e), fun e => c5 (.inr e)⟩ h1).mono ?_
        rintro e w' ⟨he, F', G', hb⟩
        exact ⟨he, _, F', G', hb, putT_len l o.t⟩
set_option maxRecDepth 100000 in
set_option maxHeartbeats 16000000 in
theorem plays6 (v : Value) (w : World) (T : List OpT) (hr : Row w.heap.size w v T.length 4 (opsL T)) (hT : ∀ o ∈ T, okO o) : Calls Try.prog 6 #[v] w fun e w' => e = .returned (.bool true) ∧ Below w.heap.size w w' := by
  obtain ⟨-, ta, tc, rfl, hcap, hmax, hcT⟩ := hr
  unfold maxLen at hmax
  have HT := Lib.hid hcT
  have HS := Lib.hid hT
  have HAW := Lib.hid (awake8 w)
  clear hcT hT
  go_enter Try.func6, Try.ntmps6
  go_wp2_with fail
  refine HAW.out.mono ?_
  rintro e w1 ⟨rfl, hB1⟩
  have HB1 := Lib.hid hB1
  have HN := Lib.hid (new9p w1)
  unfold ptrV at HN
  clear hB1 HAW
  go_wp2_with fail
  refine HN.out.mono ?_
  rintro e w2 ⟨rfl, hS⟩
  have hBo : Both w1 w1.heap.size w2.heap.size (w2.alloc (Obj.cells #[.slice none 0 0] 49)) [] (fun k => k = w1.heap.size) (fun k => k = w2.heap.size) :=
    ⟨hS.step (Below.al (Below.refl w2.heap.size w2) _), ⟨(hS.step (Below.al (Below.refl w2.heap.size w2) _)).below, ⟨_, Blk.new w2 49 _, World.ownsRow_nil _ _ _ _, fun g h => by cases h⟩, rfl, fun k hk => by subst hk; exact ⟨hS.below.size, by rw [alloc_size]; omega⟩, by simp, fun s h => by simp at h⟩, fun k h1 h2 => by have := (hS.sub k h1).2; omega, List.nodup_nil⟩
  have HBo := Lib.hid hBo
  clear hS HN hBo
  go_wp2_with fail
  generalize w2.alloc (Obj.cells #[.slice none 0 0] 49) = w3 at *
  obtain ⟨R, hR⟩ : ∃ R, R = w2.heap.size := ⟨_, rfl⟩
  rw [← hR] at HBo ⊢
  clear hR
  go_loopw [6] (fun s wr => ∃ (i : Nat) (F G : Nat → Prop) (l : List ByteArray), i ≤ T.length ∧ i ≤ 200 ∧ s = .int .i64 i ∧ Both w1 w1.heap.size R wr l F G ∧ l.length ≤ i) (fun s _ => T.length - (intOf s).toNat)
  case atStart => exact ⟨0, _, _, [], by omega, by omega, rfl, HBo.out, by simp⟩
  case round =>
    obtain ⟨i, F, G, l, hi, hi2, rfl, hB, hl⟩ := hrel
    by_cases hlt : i < T.length ∧ i < 200
    · obtain ⟨hlt1, hlt2⟩ := hlt
      have hd1 : decide ((i : Int) < T.length) = true := decide_eq_true (by omega)
      have hd2 : decide ((i : Int) < 200) = true := decide_eq_true (by omega)
      obtain ⟨bt, off, rfl, hbt, hct⟩ := HT.out (by omega)
      have hw : w.heap.size ≤ w1.heap.size := HB1.out.size
      have HC := Lib.hid (fun (r : Nat) (hr : r < 4) => (show wr.cell? ⟨bt, off + i * 4 + r, none⟩ = some ((opL (T.getD i op0)).getD r undef) by
        rw [hB.df.below.cell (p := ⟨bt, off + i * 4 + r, none⟩) (by show bt < _; omega), HB1.out.cell (p := ⟨bt, off + i * 4 + r, none⟩) hbt, Nat.add_assoc, hct (i * 4 + r) (by omega), opsL_at T i r hlt1 hr]))
      have hok := HS.out _ (getD_mem (d := op0) hlt1)
      generalize T.getD i op0 = o at *
      have HD := Lib.hid (does18 w1 wr w1.heap.size R l F G hB (by omega) o hok)
      have HCL := Lib.hid (fun (j : Nat) (hj : j < 4) => (show wr.cell? ⟨bt, off + i * 4 + j, none⟩ = (#[.int .i64 o.k, .int .i64 o.n, .string o.t, .string o.u] : Array Value)[j]? by
        rw [HC.out j hj]
        match j, hj with
        | 0, _ => rfl
        | 1, _ => rfl
        | 2, _ => rfl
        | 3, _ => rfl))
      unfold ptrV at HD
      have HH := Lib.hid (And.intro hB hl)
      clear hct HC hok hB hl HT HS
      go_wp2_with (first | (refine wpList_load_at rfl 52 _ rfl bt (off + i * 4) rfl #[.int .i64 o.k, .int .i64 o.n, .string o.t, .string o.u] _ (fun j hj => HCL.out j hj) Try.underlying52 rfl info52 ?_) | fail)
      refine HD.out.mono ?_
      rintro e w4 ⟨rfl, l', F', G', hB4, hl4⟩
      have H4 := Lib.hid (And.intro hB4 hl4)
      obtain ⟨qa, qc, hq⟩ := hB4.rf.q
      have c0 : w4.cell? ⟨R, 0, none⟩ = some (.slice qa l'.length qc) := hq.cell
      have HLD := Lib.hid (fun (n : Nat) => (show Calls Try.prog 11 #[.pointer (some ⟨w1.heap.size, 0, none⟩)] (w4.drewN n) _ from lenD (hB4.df.drewN n).dic))
      clear hB4 hl4 hq HD HCL
      go_wp2_with fail
      go_quiet ((go_at_call 11; exact quietL (HLD.out _)))
      have H5 := Lib.hid (H4.out.1.step (Below.drewN (Below.refl w4.heap.size w4) nq))
      generalize w4.drewN nq = w5 at *
      go_wp2_with fail
      go_roundw
      case rel => exact ⟨i + 1, F', G', l', by omega, by omega, by go_num, H5.out, by have := H4.out.2; have := HH.out.2; omega⟩
      case measure => simp [intOf]; omega
    · have hor : (decide ((i : Int) < T.length) = false ∧ T.length ≤ i) ∨ (decide ((i : Int) < T.length) = true ∧ i < T.length ∧ decide ((i : Int) < 200) = false ∧ 200 ≤ i) := by
        by_cases h : i < T.length
        · exact .inr ⟨decide_eq_true (by omega), h, decide_eq_false (by omega), by omega⟩
        · exact .inl ⟨decide_eq_false (by omega), by omega⟩
      have HH := Lib.hid hB
      have HX := Lib.hid hB.df.sorted
      unfold ptrV at HX
      clear hB hlt HT HS
      rcases hor with ⟨hd1, hd3⟩ | ⟨hd1, hd3, hd2, hd4⟩ <;> (
        go_wp2_with fail
        refine HX.out.mono ?_
        rintro e w4 ⟨v1, s, k4, rfl, hs, ht, hk4, hd, ho⟩
        rw [← hs.len] at ho
        have H4 := Lib.hid (And.intro (HH.out.dict ht hd) (And.intro (RowO.new HH.out.df hk4 ho) hs))
        obtain ⟨a1, c1, rfl⟩ := owns_form ho
        obtain ⟨qa, qc, hq⟩ := H4.out.1.rf.q
        have HX := Lib.hid (rsorted19 R l s w4 hq H4.out.1.rf.size H4.out.1.rf.short H4.out.1.nodup hs)
        unfold ptrV at HX
        clear ht hd ho hs hq
        go_wp2_with fail
        refine HX.out.mono ?_
        rintro e w5 ⟨rfl, hb5, hB5⟩
        have hsl : s.length ≤ maxLen := Nat.le_trans (show s.length ≤ 200 by have := H4.out.2.2.len; omega) (by decide)
        have HX := Lib.hid (same14 _ _ _ _ _ w5 (H4.out.2.1.below hB5).row (rowI_blk hb5 H4.out.2.2.len (H4.out.2.2.len ▸ hsl)))
        have H5 := Lib.hid (H4.out.1.step hB5)
        clear hb5 hB5 hsl
        go_wp2_with fail
        refine HX.out.mono ?_
        rintro e w6 ⟨rfl, hB6⟩
        have H6 := Lib.hid (H5.out.step hB6)
        clear hB6
        go_wp2_with fail
        go_ret
        exact ⟨rfl, Below.call HB1.out H6.out.df.below⟩)
end Go.Proofs.Ytiihnepfcgmghaa
