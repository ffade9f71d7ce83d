/- SchedRising. -/
import Derived.Test.YtkndcofmhfeaoaaZD
import Derived.Test.YtkndcofmhfeaoaaZF
import Derived.Test.YtkndcofmhfeaoaaBase16
namespace Go.Proofs.Ytkndcofmhfeaoaa
open Go.RowKit Go.Maps
set_option linter.unusedVariables false
set_option linter.unusedSimpArgs false
theorem info22 : (Try.prog.info? 22).map (fun i => (i.zero, i.size, i.bytes)) = some (some (.slice none 0 0), 1, 24) := by kernel_rfl
theorem Sch.grown2 {B : Nat} {w0 w w' : World} {G : Nat → Prop} {S : Nat} {s : SchedP} (h : Sch B w0 G S w s) {r : Option Nat} (hr : ∀ g, r = some g → ¬ G g ∧ B ≤ g) (hg : w.grownBy w' r) : Sch B w0 G S w' s := by
  have hs := h.size
  refine ⟨h.q.frame hg.size (fun k hk => hg.block k (h.q.lt k hk) (fun e => (hr k e.symm).1 hk)), h.out, h.base, ?_⟩
  exact ⟨hg.os.trans h.below.os, hg.tape.trans h.below.tape, hg.output.trans h.below.output, Nat.le_trans h.below.size hg.size, fun k hk => (hg.block k (Nat.lt_of_lt_of_le hk hs) (fun e => Nat.not_le_of_lt hk (hr k e.symm).2)).trans (h.below.block k hk)⟩
theorem w64' {x : Nat} (h : x < 1000) : wrap64 ((x : Int) + 1) = ((x + 1 : Nat) : Int) := by rw [w64 (by omega)]; rfl
theorem ownsIn.thawed {w : World} {base : Nat} {e : TypeId} {v : Value} {n : Nat} {xs : List Value} (h : ownsIn w base e v n xs) {D : Nat} (hv : v.ownBlock = some D) (j : Nat) : w.frozen? ⟨D, j, none⟩ = false := by
  obtain ⟨cur, hh⟩ := h.own hv
  simp [World.frozen?, hh]
theorem grown_set (w : World) (D j : Nat) (u : Value) : w.grownBy (w.setCell ⟨D, j, none⟩ u) (some D) :=
  ⟨rfl, rfl, rfl, by simp [World.setCell], fun k hk hne => Below.heap_setCell _ _ _ _ (fun e => hne (by rw [e]))⟩
theorem RowZ.setN {G : Nat → Prop} {B : Nat} {w : World} {D k : Nat} {dl : List Nat} (h : RowZ G B w (.slice (some ⟨D, 0, none⟩) k k) (dl.map fun n : Nat => (n : Int))) {j : Nat} (hj : j < dl.length) (x : Nat) : RowZ G B (w.setCell ⟨D, j, none⟩ (.int .i64 (x : Int))) (.slice (some ⟨D, 0, none⟩) k k) ((dl.set j x).map fun n : Nat => (n : Int)) := by
  refine ⟨?_, h.out⟩
  obtain ⟨h0, h1⟩ := h.own
  refine ⟨by simp, ?_⟩
  rcases h1 with ⟨h1, -⟩ | ⟨g, off, cap, cur, hv, hg, hh, h1, h2, h3, h4⟩
  · cases h1
  · injection hv with e1 e2 e3
    injection e1 with e1
    injection e1 with e4 e5
    subst e3 e4 e5
    refine .inr ⟨D, 0, k, cur.setIfInBounds j (.int .i64 (x : Int)), by simp at e2 ⊢; exact e2, hg, ?_, by simpa using h1, h2, by simpa using h3, ?_⟩
    · simp only [World.setCell, Array.getElem?_modify, if_true]
      rw [hh]; rfl
    · simp only [List.drop_zero, List.length_map] at h4 ⊢
      rw [Array.toList_setIfInBounds, List.length_set, List.take_set, h4, List.map_set, List.map_set]
/-- the caller's rows and the scheduler in loop 4 -/
structure Ris (B : Nat) (w1 : World) (S : Nat) (w : World) (s : SchedP) (tv : Value) (vs : List Value) (L : List (List Int)) (D m : Nat) (dl : List Nat) : Prop where
  ex : ∃ G, RowY G B w tv vs L ∧ RowZ G B w (.slice (some ⟨D, 0, none⟩) m m) (dl.map fun n : Nat => (n : Int)) ∧ Sch B w1 G S w s
  far : ∀ (i : Nat) (y : Value), vs[i]? = some y → ∀ g, y.ownBlock = some g → g ≠ D
theorem made_ints (k : Nat) : (madeCells (Value.int .i64 0).cells (k * 1)).toList = ((List.replicate k 0).map fun n : Nat => (n : Int)).map (Value.int .i64) := by
  rw [Nat.mul_one, List.map_replicate, List.map_replicate]
  show (madeCells #[Value.int .i64 0] k).toList = List.replicate k (Value.int .i64 0)
  apply List.ext_getElem
  · simp [madeCells]
  · intro i h1 h2
    have e : ([Value.int .i64 0] : List Value)[i % 1]?.getD default = Value.int .i64 0 := by rw [Nat.mod_one]; rfl
    simp [madeCells, e]
theorem rising_set {B : Nat} {w1 : World} {S : Nat} {w w2 : World} {tv : Value} {vs : List Value} {L : List (List Int)} {G : Nat → Prop} {k : Nat} (h : RowY G B w tv vs L ∧ Sch B w1 G S w (st k (fun _ => 0)) ∧ L.length = k ∧ (∀ l ∈ L, l.length ≤ 4 ∧ l.Pairwise (· < ·) ∧ ∀ n ∈ l, 0 ≤ n ∧ n ≤ 7) ∧ B ≤ w.heap.size)
    (hd : w2.ownsRow B 3 1 (.slice (some ⟨w.heap.size, 0, none⟩) k k) k (madeCells (Value.int .i64 0).cells (k * 1)).toList ∧ w.grownBy w2 none) (hk : k ≤ 12) : Ris B w1 S w2 (st k (fun _ => 0)) tv vs L w.heap.size k (List.replicate k 0) := by
  obtain ⟨hry, hsc, hLk, hLl, hB⟩ := h
  obtain ⟨hown, hgrow⟩ := hd
  rw [made_ints] at hown
  have hn : ownsIn w B 3 (.slice none 0 0) 0 [] := ⟨rfl, .inl ⟨rfl, rfl⟩⟩
  refine ⟨⟨G, hry.grown hn (fun i y _ g _ e => by cases e) hgrow, ⟨?_, fun g hg e => ?_⟩, hsc.grown2 (fun g hg => by cases hg) hgrow⟩, fun i y hy g hg => ?_⟩
  · have := ownsIn.of_owns hown
    simpa using this
  · cases hg
    exact absurd (hsc.q.lt _ e) (Nat.lt_irrefl _)
  · have hi : i < L.length := by rw [← hry.len]; exact (List.getElem?_eq_some_iff.1 hy).1
    have := (hry.each i _ y (List.getElem?_eq_getElem hi) hy).own.lt hg
    omega
set_option maxRecDepth 100000 in
set_option maxHeartbeats 8000000 in
theorem rising4a (wants : List (List Int)) (pk : List Int) (v0 v1 : Value) (w : World) (hmany : wants.length ≤ 12) (h0 : RowII w.heap.size w v0 wants) (h1 : Row w.heap.size w v1 pk.length 1 (pk.map (Value.int .i64))) (hpk : ∀ k, k < pk.length → -9223372036854775808 ≤ pk.getD k 0 ∧ pk.getD k 0 ≤ 9223372036854775807) : Calls Try.prog 4 #[v0, v1] w fun e w' => e = .returned (.bool true) ∧ Below w.heap.size w w' := by
  obtain ⟨vs0, hl0, hr0, he0⟩ := h0
  obtain ⟨hl1, a, cap, rfl, hcap, hmax, hcell⟩ := hr0
  have HCELL := Lib.hid (And.intro hcell (And.intro he0 (And.intro hl0 hl1)))
  clear hcell he0 hl0 hl1
  obtain ⟨hl2, a2, cap2, rfl, hcap2, hmax2, hcell2⟩ := h1
  have HCELL2 := Lib.hid (And.intro hcell2 (And.intro hl2 hpk))
  clear hcell2 hl2 hpk
  obtain ⟨n0, hn⟩ : ∃ n, n = wants.length := ⟨_, rfl⟩
  rw [← hn] at hcap HCELL
  rw [← hn]
  obtain ⟨n1, hn1⟩ : ∃ n, n = pk.length := ⟨_, rfl⟩
  rw [← hn1] at hcap2 HCELL2
  rw [← hn1]
  obtain ⟨m, hm⟩ : ∃ m, m = min n0 12 := ⟨_, rfl⟩
  have hmn : m ≤ n0 := by omega
  have hm12 : m ≤ 12 := by omega
  have HM := Lib.hid (And.intro hm (And.intro hn hn1))
  clear hm hn hn1
  go_enter Try.func4, Try.ntmps4
  go_wp2_with fail
  refine (awake9 w).mono ?_
  rintro e w1 ⟨rfl, hB1⟩
  go_wp2_with fail
  refine (new10 w1).mono ?_
  rintro e w0 ⟨rfl, hw0⟩
  obtain ⟨B, hBe⟩ : ∃ B, B = w1.heap.size := ⟨_, rfl⟩
  have hS0 : Sch B w1 (fun k => k = w1.heap.size) w1.heap.size w0 (st 0 (fun _ => 0)) := by
    rw [hw0]
    exact ⟨SQ.new w1, fun k hk => by omega, hBe, by rw [hBe]; exact (Below.refl _ w1).alloc (Nat.le_refl _) _⟩
  rw [← hBe] at hS0 ⊢
  obtain ⟨S, hS⟩ : ∃ S, S = B := ⟨_, rfl⟩
  have HQ0 : Hid (∃ G, Sch B w1 G S w0 (st 0 (fun _ => 0))) := by rw [hS]; exact Lib.hid ⟨_, hS0⟩
  rw [← hS]
  have HB := Lib.hid (And.intro hB1 hBe)
  clear hB1 hBe hS hw0 hS0
  go_wp2_with fail
  go_loopw [7, 8] (fun v i wr => ∃ (k : Nat) (G : Nat → Prop) (vs : List Value), k ≤ m ∧ i = .int .i64 k ∧ RowY G B wr v vs ((wants.take k).map fun l => locksTo l 6) ∧ Sch B w1 G S wr (st k (fun _ => 0))) (fun _ i _ => m - (intOf i).toNat)
  case atStart =>
    obtain ⟨G, hG⟩ := HQ0.out
    exact ⟨0, G, [], by omega, rfl, RowY.nil _ _ _, hG⟩
  case round =>
    obtain ⟨k, G, vs, hk, rfl, hry, hsc⟩ := hrel
    by_cases hlt : k < m
    · have hk1 : k < n0 := by omega
      have hk2 : k < 12 := by omega
      have hd1 : decide ((k : Int) < (n0 : Int)) = true := decide_eq_true (by omega)
      have hd2 : decide ((k : Int) < 12) = true := decide_eq_true (by omega)
      obtain ⟨b, off, rfl, hb, hcl⟩ := HCELL.out.1 (by omega)
      have hkw : k < wants.length := by have := HM.out.2.1; omega
      have hkv : k < vs0.length := by rw [HCELL.out.2.2.1]; exact hk1
      obtain ⟨l, hl⟩ : ∃ l, l = wants[k] := ⟨_, rfl⟩
      obtain ⟨x, hx⟩ : ∃ x, x = vs0[k] := ⟨_, rfl⟩
      have hrx : RowI w.heap.size w x l := HCELL.out.2.1 k l x (by rw [hl]; exact List.getElem?_eq_getElem hkw) (by rw [hx]; exact List.getElem?_eq_getElem hkv)
      have hcw : w.cell? ⟨b, off + k, none⟩ = some x := by
        rw [hcl k (by omega), hx]
        simp [List.getD_eq_getElem?_getD, hkv]
      have hBw : Below w.heap.size w wr := Below.call HB.out.1 (by have := hsc.below; rw [HB.out.2] at this; exact this)
      obtain ⟨ax, cx, rfl, hcx, hmx, hcelx⟩ := hrx.open
      obtain ⟨nl, hnl⟩ : ∃ nl, nl = l.length := ⟨_, rfl⟩
      rw [← hnl] at hcx hcelx hcw
      have HCX := Lib.hid (And.intro hcelx (And.intro hcw (And.intro hb (And.intro hl hnl))))
      have hfr := RowZ.nil G B wr
      have HK := Lib.hid (And.intro hry (And.intro hsc hBw))
      have hck : wr.cell? ⟨b, off + k, none⟩ = some (.slice ax nl cx) := (hBw.cell (by exact hb)).trans hcw
      clear hcl hcelx hcw hrx hl hx hnl hb
      go_wp2_with fail
      go_loopw [9, 10] (fun v n wq => ∃ (j : Nat), j ≤ 6 ∧ n = .int .i64 j ∧ RowZ G B wq v (locksTo l j) ∧ RowY G B wq u7 vs ((wants.take k).map fun l => locksTo l 6) ∧ Sch B w1 G S wq (st k (fun _ => 0)) ∧ (∀ (i : Nat) (y : Value), vs[i]? = some y → ∀ g, y.ownBlock = some g → some g ≠ v.ownBlock)) (fun _ n _ => 6 - (intOf n).toNat)
      case atStart => exact ⟨0, by omega, rfl, RowZ.nil _ _ _, HK.out.1, HK.out.2.1, fun i y _ g _ e => by cases e⟩
      case round =>
        obtain ⟨wq, rfl⟩ : ∃ x : World, x = wr := ⟨_, rfl⟩
        obtain ⟨j, hj, rfl, hrz, hry, hsc, hne⟩ := hrel
        have hll := locksTo_len l j
        have hB2 : Below w.heap.size w wq := Below.call HB.out.1 (by have := hsc.below; rw [HB.out.2] at this; exact this)
        obtain ⟨al, cl, hvl⟩ := hrz.own.any
        obtain ⟨q, hq⟩ : ∃ q, q = (locksTo l j).length := ⟨_, rfl⟩
        rw [← hq] at hvl hll
        have HJ := Lib.hid (And.intro hrz (And.intro hry (And.intro hsc (And.intro hne (And.intro hB2 hq)))))
        have hck2 : wq.cell? ⟨b, off + k, none⟩ = some (.slice ax nl cx) := (hB2.cell (by exact HCX.out.2.2.1)).trans HCX.out.2.1
        by_cases hlt2 : j < 6 ∧ q < 4
        · obtain ⟨hj6, hq4⟩ := hlt2
          have hdj : decide ((j : Int) < 6) = true := decide_eq_true (by omega)
          have hdq : decide ((q : Int) < 4) = true := decide_eq_true (by omega)
          subst hvl
          have HJ2 := Lib.hid (And.intro hrz (And.intro hry (And.intro hsc hne)))
          have HJ1 := Lib.hid hB2
          have HQL := Lib.hid hq
          clear hrz hry hsc hne hB2 hq HJ
          go_wp2_with fail
          go_loopw [9, 11] (fun vv ii wz => ∃ (i : Nat), i ≤ nl ∧ ii = .int .i64 i ∧ vv = .slice al q cl ∧ wz = wq ∧ ∀ y ∈ l.take i, ¬ y % 8 = (j : Int)) (fun _ ii _ => nl - (intOf ii).toNat)
          case atStart => exact ⟨0, by omega, rfl, rfl, rfl, fun y hy => by cases hy⟩
          case round =>
            obtain ⟨i, hi, rfl, rfl, rfl, hnone⟩ := hrel
            by_cases hlt3 : i < nl
            · as_aux_lemma =>
              have hdi : decide ((i : Int) < (nl : Int)) = true := decide_eq_true (by omega)
              obtain ⟨bx, offx, rfl, hbx, hclx⟩ := HCX.out.1 (by omega)
              have hil : i < l.length := by rw [← HCX.out.2.2.2.2]; exact hlt3
              obtain ⟨y, hy⟩ : ∃ y, y = l.getD i 0 := ⟨_, rfl⟩
              have hcy : wr.cell? ⟨bx, offx + i, none⟩ = some (.int .i64 y) := by
                rw [HJ1.out.cell (by exact hbx), hclx i hlt3, hy]
              have hand := and7 y
              have hye : l[i] = y := by rw [hy, List.getD_eq_getElem?_getD, List.getElem?_eq_getElem hil]; rfl
              have HYE := Lib.hid (And.intro hye hnone)
              clear hclx hy hye hnone
              by_cases hfound : y % 8 = (j : Int)
              · have hdf : decide (y % 8 = (j : Int)) = true := decide_eq_true hfound
                have hrz4 := HJ2.out.1.below (w' := wr.alloc (.cells #[.int .i64 (j : Int)] 3)) ((Below.refl _ wr).alloc (Nat.le_refl _) _)
                have hlt4 : ∀ g, G g → g < (wr.alloc (.cells #[.int .i64 (j : Int)] 3)).heap.size := fun g hg => by have := HJ2.out.2.2.1.q.lt g hg; simp; omega
                have hB4 : B ≤ (wr.alloc (.cells #[.int .i64 (j : Int)] 3)).heap.size := by have := HJ2.out.2.2.1.size; simp; omega
                have hl44 : (locksTo l j).length + 1 ≤ 4096 := by have := locksTo_len l j; omega
                have HAP := Lib.hid (And.intro hrz4 (And.intro hlt4 (And.intro hB4 hl44)))
                clear hrz4 hlt4 hB4 hl44
                go_wp2_with (at_builtin; refine wpList_append_Z rfl _ _ rfl rfl HAP.out.1 HAP.out.2.1 HAP.out.2.2.1 [(j : Int)] ⟨wr.heap.size, 0, none⟩ 1 1 rfl rfl (cell_one_new' _ _ _) HAP.out.2.2.2 ?_; intro v5 w5 hr5 hg5 hv5; have HU := Lib.hid (And.intro hr5 (And.intro hg5 hv5)); clear hr5 hg5 hv5)
                go_roundw
                case rel =>
                  obtain ⟨hr5, hg5, hv5⟩ := HU.out
                  obtain ⟨hrz, hry, hsc, hne⟩ := HJ2.out
                  have hBe4 : Below wr.heap.size wr (wr.alloc (.cells #[.int .i64 (j : Int)] 3)) := (Below.refl _ wr).alloc (Nat.le_refl _) _
                  have hstep : locksTo l (j + 1) = locksTo l j ++ [(j : Int)] := by
                    have hh : has8 l (j : Int) = true := List.any_eq_true.2 ⟨y, by rw [← HYE.out.1]; exact List.getElem_mem hil, by simpa using hfound⟩
                    have h4 : (locksTo l j).length < 4 := by rw [← HQL.out]; exact hq4
                    simp only [locksTo, hh, h4, decide_true, Bool.and_true, if_true]
                  refine ⟨j + 1, by omega, by go_num, by rw [hstep]; exact hr5, (hry.below hBe4).grown (hrz.below hBe4).own hne hg5, (hsc.next hBe4).grown (hrz.below hBe4) hg5, fun i2 y2 hy2 g hg e => ?_⟩
                  rcases hv5 g e.symm with e2 | e2
                  · exact hne i2 y2 hy2 g hg e2.symm
                  · have h7 := (hry.each i2 _ y2 (List.getElem?_eq_getElem (by rw [← hry.len]; exact (List.getElem?_eq_some_iff.1 hy2).1)) hy2).own.lt hg
                    have h8 : (wr.alloc (.cells #[.int .i64 (j : Int)] 3)).heap.size = wr.heap.size + 1 := by simp
                    rw [h8] at e2
                    omega
                case measure => simp [intOf]; omega
              · have hdf : decide (y % 8 = (j : Int)) = false := decide_eq_false hfound
                go_wp2_with fail
                go_roundw
                case rel =>
                  refine ⟨i + 1, by omega, by go_num, by first | rfl | trivial, by first | rfl | trivial, fun z hz => ?_⟩
                  rw [List.take_succ_eq_append_getElem hil] at hz
                  rcases List.mem_append.1 hz with hz | hz
                  · exact HYE.out.2 z hz
                  · simp at hz; rw [hz, HYE.out.1]; exact hfound
                case measure => simp [intOf]; omega
            · as_aux_lemma =>
              have hdi : decide ((i : Int) < (nl : Int)) = false := decide_eq_false (by omega)
              have HNO := Lib.hid hnone
              clear hnone
              go_wp2_with fail
              go_roundw
              case rel =>
                obtain ⟨hrz, hry, hsc, hne⟩ := HJ2.out
                have hstep : locksTo l (j + 1) = locksTo l j := by
                  have hh : has8 l (j : Int) = false := by
                    unfold has8
                    rw [List.any_eq_false]
                    intro z hz
                    have := HNO.out z (by rw [show i = l.length by have := HCX.out.2.2.2.2; omega, List.take_length]; exact hz)
                    simpa using this
                  simp only [locksTo, hh, Bool.and_false, Bool.false_eq_true, if_false]
                exact ⟨j + 1, by omega, by go_num, by rw [hstep]; exact hrz, hry, hsc, hne⟩
              case measure => simp [intOf]; omega
        · have hfull : locksTo l j = locksTo l 6 := by
            by_cases h6 : j = 6
            · rw [h6]
            · exact (locksTo_full l (by omega) 6 (by omega)).symm
          have hcase : (decide ((j : Int) < 6) = false ∧ ¬ j < 6) ∨ (decide ((j : Int) < 6) = true ∧ j < 6 ∧ decide ((q : Int) < 4) = false ∧ ¬ q < 4) := by
            by_cases h6 : j < 6
            · exact .inr ⟨decide_eq_true (by omega), h6, decide_eq_false (by omega), by omega⟩
            · exact .inl ⟨decide_eq_false (by omega), h6⟩
          have hs := st_start (n := k) (by omega)
          have HC := start11 hsc.q (by show k < _; omega)
          rw [hs.1, hs.2] at HC
          have HC := Lib.hid HC
          subst hvl
          rw [hfull] at hrz
          have HJ2 := Lib.hid (And.intro hrz (And.intro hry (And.intro hsc hne)))
          have HCASE := Lib.hid hcase
          clear hrz hry hsc hne hB2 hq HJ hs hfull hcase hlt2
          rcases HCASE.out with ⟨hd3, hd4⟩ | ⟨hd3, hd4, hd5, hd6⟩
          all_goals (
            go_wp2_with fail
            refine HC.out.mono ?_
            rintro e w3 ⟨rfl, hq3, ht3⟩
            obtain ⟨hrz, hry, hsc, hne⟩ := HJ2.out
            have hsc3 := hsc.step hq3 ht3
            have hBe4 : Below w3.heap.size w3 (w3.alloc (.cells #[.slice al q cl] 22)) := (Below.refl _ w3).alloc (Nat.le_refl _) _
            have hry4 := (hry.turn ht3).below hBe4
            have hrz4 := (hrz.turn ht3).below hBe4
            have hsc4 := hsc3.next hBe4
            have hlt4 := hsc4.q.lt
            have hB4 := hsc4.size
            have hlen4 : ((wants.take k).map fun l => locksTo l 6).length = k := by rw [List.length_map, List.length_take]; omega
            have hown4 := hry4.own
            rw [hlen4] at hown4
            have HAP := Lib.hid (And.intro hry4 (And.intro hrz4 (And.intro hsc4 (And.intro hlt4 (And.intro hB4 (And.intro hown4 hlen4))))))
            obtain ⟨i0, hi0, hz0, hz1, hz2⟩ := info_parts info22
            clear hrz hry hsc hne hsc3 hBe4 hry4 hrz4 hsc4 hlt4 hB4 hown4 hlen4 hq3 ht3
            go_wp2_with (at_builtin; refine wpList_append_in rfl _ _ 35 rfl B 22 i0 (.slice none 0 0) 24 Try.underlying35 hi0 hz0 hz1 hz2 rfl u7 k vs rfl HAP.out.2.2.2.2.2.1 ⟨w3.heap.size, 0, none⟩ 1 1 [.slice al q cl] rfl rfl (cell_one_new' _ _ _) (by intro u hu; simp at hu; subst hu; rfl) (by unfold maxLen; omega) (by omega) HAP.out.2.2.2.2.1 ?_; intro v5 w5 hr5 hg5 hv5; have HU := Lib.hid (And.intro hr5 (And.intro hg5 hv5)); clear hr5 hg5 hv5)
            go_roundw
            case rel =>
              obtain ⟨hr5, hg5, hv5⟩ := HU.out
              obtain ⟨hry4, hrz4, hsc4, hlt4, hB4, hown4, hlen4⟩ := HAP.out
              have happ := hry4.app hlt4 hrz4 hg5 (by rw [hlen4]; exact hr5) hv5
              have htk : (wants.take (k + 1)).map (fun l => locksTo l 6) = (wants.take k).map (fun l => locksTo l 6) ++ [locksTo l 6] := by
                rw [List.take_succ_eq_append_getElem hkw, List.map_append, HCX.out.2.2.2.1]; rfl
              refine ⟨k + 1, _, vs ++ [.slice al q cl], by omega, by go_num, by rw [htk]; exact happ, hsc4.grown2 (fun g hg => ⟨hry4.out g hg, ?_⟩) hg5⟩
              rcases hry4.own.2 with ⟨e1, -⟩ | ⟨g', off', cap', cur', e1, hg', _⟩
              · rw [e1] at hg; cases hg
              · rw [e1] at hg; cases hg; exact hg'
            case measure => simp [intOf]; omega)
    · have hkm : k = m := by omega
      subst hkm
      have hcase : (decide ((k : Int) < (n0 : Int)) = false ∧ ¬ k < n0) ∨ (decide ((k : Int) < (n0 : Int)) = true ∧ k < n0 ∧ decide ((k : Int) < 12) = false ∧ ¬ k < 12) := by
        have := HM.out.1
        by_cases h6 : k < n0
        · exact .inr ⟨decide_eq_true (by omega), h6, decide_eq_false (by omega), by omega⟩
        · exact .inl ⟨decide_eq_false (by omega), h6⟩
      have HCASE := Lib.hid hcase
      obtain ⟨L, hL⟩ : ∃ L, L = (wants.take k).map fun l => locksTo l 6 := ⟨_, rfl⟩
      rw [← hL] at hry
      have hLk : L.length = k := by rw [hL, List.length_map, List.length_take]; have := HM.out.2.1; omega
      have hLl : ∀ l ∈ L, l.length ≤ 4 ∧ l.Pairwise (· < ·) ∧ ∀ n ∈ l, 0 ≤ n ∧ n ≤ 7 := by
        intro l hl
        rw [hL, List.mem_map] at hl
        obtain ⟨x, -, rfl⟩ := hl
        exact ⟨locksTo_len _ _, locksTo_rise _ _, fun n hn => by have := locksTo_bd x 6 n hn; omega⟩
      obtain ⟨at7, ct7, hv7⟩ := hry.own.any
      rw [hLk] at hv7
      subst hv7
      obtain ⟨i0, hi0, hz0, hz1, hz2⟩ := info_parts info3
      have HT := Lib.hid (And.intro hry (And.intro hsc (And.intro hLk (And.intro hLl hsc.size))))
      clear hry hsc hL hLk hLl hcase
      obtain ⟨hd3, hd4⟩ : decide ((k : Int) < (n0 : Int)) = false ∧ ¬ k < n0 := by have := HM.out; exact ⟨decide_eq_false (by omega), by omega⟩
      all_goals (
        go_wp2_with (refine wpList_make_full _ rfl _ _ 22 rfl B 3 i0 (.int .i64 0) 1 Try.underlying22 hi0 hz0 hz1 .i64 .i64 k k k rfl rfl rfl rfl (by rw [hz2]; omega) (by unfold maxLen; omega) HT.out.2.2.2.2 ?_; intro w2 hown2 hgrow2; have HD := Lib.hid (And.intro hown2 hgrow2); clear hown2 hgrow2)
        have hset := rising_set HT.out HD.out (by omega)
        obtain ⟨D, hDe⟩ : ∃ D, D = wr.heap.size := ⟨_, rfl⟩
        rw [← hDe] at hset ⊢
        have HSET := Lib.hid hset
        clear hset hDe HD HCASE
        go_loopw [13, 14] (fun lf ii wq => ∃ (i : Nat) (dl : List Nat) (at' : Int → Bool) (s : SchedP), ii = .int .i64 i ∧ lf = .int .i64 (s.tasks.length : Nat) ∧ RI L k i dl at' s ∧ Ris B w1 S wq s (.slice at7 k ct7) vs L D k dl) (fun _ ii _ => 200 - (intOf ii).toNat)
        case atStart => exact ⟨0, List.replicate k 0, fun _ => false, st k (fun _ => 0), rfl, by show _ = Value.int .i64 ((tks k _).length : Nat); rw [tks_len], RI.first ⟨HT.out.2.2.2.1⟩ hm12, HSET.out⟩
        case round =>
          obtain ⟨i, dl, at', s, rfl, rfl, hri, ⟨G4, hry, hrd, hsc⟩, hfar⟩ := hrel
          have hi108 : i ≤ 108 := by have := hri.small; omega
          have hmk : s.made < 4611686018427387904 := by rw [hri.made]; omega
          have hlk : s.locks.length ≤ 8 := hri.locks ⟨HT.out.2.2.2.1⟩
          have hpks : ∀ p ∈ s.tasks, 0 ≤ p.2.picks ∧ p.2.picks < 4611686018427387904 := fun p hp => by have := hri.picks p hp; omega
          cases hts : s.tasks with
          | nil =>
            have hr : readyL s = [] := by unfold readyL; rw [hts]; rfl
            have hst : stuckP s = false := by unfold stuckP; rw [hts]; rfl
            have H14 := ready14 hsc.q hmk
            rw [hr] at H14
            have H14 := Lib.hid H14
            have H16 : ∀ wx, Below wr.heap.size wr wx → Calls Try.prog 16 #[.pointer (some ⟨S, 0, none⟩)] wx fun e w' => e = .returned (.bool false) ∧ Below wx.heap.size wx w' := fun wx hwx => by
              have h8 := stuck16 (hsc.next hwx).q hmk
              rw [hst] at h8
              exact h8
            have H16 := Lib.hid H16
            have HSC := Lib.hid hsc
            clear hri hry hrd hsc hfar hmk hlk hpks hr hst
            go_wp2_with fail
            refine H14.out.mono ?_
            rintro e w3 ⟨v3, rfl, hv3, hb3⟩
            obtain ⟨av, cv, hvv⟩ := (ownsIn.of_owns hv3).any
            subst hvv
            have HB3 := Lib.hid hb3
            clear hv3 hb3
            go_wp2_with fail
            refine (H16.out _ HB3.out).mono ?_
            rintro e w4 ⟨rfl, hb4⟩
            have HB4 := Lib.hid hb4
            clear hb4
            go_wp2_with fail
            go_ret
            have hz := ((HSC.out.next HB3.out).next HB4.out).below
            rw [HB.out.2] at hz
            exact ⟨rfl, Below.call HB.out.1 hz⟩
          | cons p0 r0 =>
            have hne : s.tasks ≠ [] := by rw [hts]; simp
            have hr := hri.ready ⟨HT.out.2.2.2.1⟩ hne
            have hst : stuckP s = false := by
              unfold stuckP
              cases he : readyL s with
              | nil => exact absurd he hr
              | cons a l => simp
            have hlen : 0 < (p0 :: r0).length := by simp
            obtain ⟨nt, hnt⟩ : ∃ nt, nt = (p0 :: r0).length := ⟨_, rfl⟩
            rw [← hnt] at hlen ⊢
            have H16 := stuck16 hsc.q hmk
            rw [hst] at H16
            have H16 := Lib.hid H16
            have HR := Lib.hid (And.intro hri (And.intro hry (And.intro hrd (And.intro hsc (And.intro hfar (And.intro hr (And.intro (show nt = s.tasks.length by rw [hnt, hts]) (And.intro hmk (And.intro hlk hpks)))))))))
            have hd5000 : decide ((5000 : Int) < (i : Int)) = false := decide_eq_false (by omega)
            clear hri hry hrd hsc hfar hmk hlk hpks hts hne hr hst hnt
            by_cases hin : i < n1
            · as_aux_lemma =>
              have hdi : decide ((i : Int) < (n1 : Int)) = true := decide_eq_true (by omega)
              obtain ⟨b, off, rfl, hb, hcl⟩ := HCELL2.out.1 (by omega)
              obtain ⟨p, hp⟩ : ∃ p, p = pk.getD i 0 := ⟨_, rfl⟩
              have hpb := HCELL2.out.2.2 i hin
              rw [← hp] at hpb
              have hcp : wr.cell? ⟨b, off + i, none⟩ = some (.int .i64 p) := by
                have hB2 : Below w.heap.size w wr := Below.call HB.out.1 (by have := HR.out.2.2.2.1.below; rw [HB.out.2] at this; exact this)
                rw [hB2.cell (by exact hb), hcl i (by omega), hp]
                have : i < pk.length := by have := HM.out.2.2; omega
                simp [List.getD_eq_getElem?_getD, this]
              clear hcl hb hp
              go_wp2_with fail
              refine H16.out.mono ?_
              rintro e w3 ⟨rfl, hb3⟩
              have hsc3 := HR.out.2.2.2.1.next hb3
              have HC := pick17 hsc3.q HR.out.2.2.2.2.2.2.2.1 hpb HR.out.2.2.2.2.2.2.2.2.2
              have hpv : pickV s p = (pickT s p, true) := by unfold pickV; rw [if_neg HR.out.2.2.2.2.2.1]
              rw [hpv] at HC
              have hpk4 := HR.out.1.pick HR.out.2.2.2.2.2.1 p
              obtain ⟨j, ht⟩ : ∃ j : Nat, (j : Int) + 1 = pickT s p := ⟨(pickT s p - 1).toNat, by have := hpk4.1; omega⟩
              rw [← ht] at HC hpk4
              have HC := Lib.hid HC
              have HP := Lib.hid (And.intro hpk4 (And.intro ht (And.intro hb3 hsc3)))
              have hjk : j < k := by have := hpk4.2.1; omega
              clear hpv hpk4 ht hb3 hsc3
              go_wp2_with fail
              refine HC.out.mono ?_
              rintro e w4 ⟨rfl, hq4, ht4⟩
              have hd1t : decide ((j : Int) + 1 < 1) = false := decide_eq_false (by omega)
              have hdkt : decide ((k : Int) < (j : Int) + 1) = false := decide_eq_false (by omega)
              have hry4 := (HR.out.2.1.below HP.out.2.2.1).turn ht4
              have hrd4 := (HR.out.2.2.1.below HP.out.2.2.1).turn ht4
              have hsc4 := HP.out.2.2.2.step hq4 ht4
              have hdlen : (dl.map fun n : Nat => (n : Int)).length = k := by rw [List.length_map]; exact HR.out.1.len
              obtain ⟨d, hd⟩ : ∃ d : Nat, d = dl.getD j 0 := ⟨_, rfl⟩
              have hcd : w4.cell? ⟨D, j, none⟩ = some (.int .i64 (d : Int)) := by
                have h7 := hrd4.own
                rw [hdlen] at h7
                have h8 := h7.cell (j := j) hjk
                rw [Nat.zero_add] at h8
                have h9 : j < dl.length := by rw [HR.out.1.len]; exact hjk
                rw [h8, hd]
                simp [List.getD_eq_getElem?_getD, h9]
              have h7 := hry4.own
              rw [HT.out.2.2.1] at h7
              obtain ⟨g7, off7, cap7, hv7, -, hc7, hm7⟩ := h7.form (by omega)
              injection hv7 with e7 e8 e9
              subst e7 e9
              have hjL : j < L.length := by rw [HT.out.2.2.1]; exact hjk
              have hjv : j < vs.length := by rw [HR.out.2.1.len]; exact hjL
              obtain ⟨y, hy⟩ : ∃ y, y = vs[j] := ⟨_, rfl⟩
              obtain ⟨l, hl⟩ : ∃ l, l = L[j] := ⟨_, rfl⟩
              have hcy : w4.cell? ⟨g7, off7 + j, none⟩ = some y := by rw [h7.cell (j := j) hjk, List.getElem?_eq_getElem hjv, hy]
              have hrl := hry4.each j l y (by rw [List.getElem?_eq_getElem hjL, hl]) (by rw [List.getElem?_eq_getElem hjv, hy])
              obtain ⟨ay, cy, hye⟩ := hrl.own.any
              obtain ⟨ql, hql⟩ : ∃ ql, ql = l.length := ⟨_, rfl⟩
              rw [← hql] at hye
              rw [hye] at hcy
              have HY4 := Lib.hid (And.intro hry4 (And.intro hrd4 (And.intro hsc4 (And.intro hd (And.intro hy (And.intro hl (And.intro hrl (And.intro hql hye))))))))
              clear hry4 hrd4 hsc4 hdlen hd h7 hy hl hrl hql hye
              have HQ4 := Lib.hid (And.intro hq4 ht4)
              clear hq4 ht4
              go_wp2_with fail
              by_cases hdq : d = ql
              · have hdb : decide ((d : Int) = (ql : Int)) = true := decide_eq_true (by omega)
                have hends := HR.out.1.ends ⟨HT.out.2.2.2.1⟩ HR.out.2.2.2.2.2.1 p (by
                  rw [← HP.out.2.1]
                  obtain ⟨-, -, -, hd, -, hl, -, hql, -⟩ := HY4.out
                  unfold dnF tdF
                  rw [if_pos (by omega), show ((j : Int) + 1 - 1).toNat = j by omega, ← hd, hdq, hql, hl, List.getD_eq_getElem?_getD, List.getElem?_eq_getElem hjL]; rfl)
                have hlk4 : (pickP s p).locks.length ≤ 4096 := by
                  have e1 : (pickP s p).locks = s.locks := by unfold pickP; split <;> rfl
                  rw [e1]
                  have := HR.out.2.2.2.2.2.2.2.2.1
                  omega
                have hmk4 : (pickP s p).made < 4611686018427387904 := by rw [picked_made]; exact HR.out.2.2.2.2.2.2.2.1
                have hre := HP.out.1.2.2.2 0 (by omega)
                have HE : ∀ nq, Calls Try.prog 18 #[.pointer (some ⟨S, 0, none⟩), .int .i64 ((j : Int) + 1)] (w4.drewN nq) fun e w' => e = .returned (.int .i64 0) ∧ SQ (Fn (Fn G4 w3 w4) (w4.drewN nq) w') S w' (endP (pickP s p) ((j : Int) + 1)) ∧ Turn (Fn G4 w3 w4) (w4.drewN nq) w' := fun nq => by
                  have h8 := end18 (HY4.out.2.2.1.next (Below.drewN (Below.refl w4.heap.size w4) nq)).q hmk4 hlk4 (x := (j : Int) + 1) (wfi (by omega) (by omega))
                  rw [hre] at h8
                  exact h8
                rw [← HP.out.2.1] at hends
                have HE := Lib.hid HE
                have HN := Lib.hid hends
                clear hends hre hmk4 hlk4
                have hnw : wrap64 ((nt : Int) - 1) = (nt : Int) - 1 := w64 (by have := HR.out.1.inv.wf.few; have := HR.out.2.2.2.2.2.2.1; omega)
                go_quiet (fail)
                go_wp2_with fail
                refine (HE.out _).mono ?_
                rintro e w5 ⟨rfl, hq5, ht5⟩
                have HQ5 := Lib.hid (And.intro hq5 ht5)
                clear hq5 ht5
                go_wp2_with fail
                go_roundw
                case rel =>
                  obtain ⟨hq5, ht5⟩ := HQ5.out
                  have hsc5 := (HY4.out.2.2.1.next (Below.drewN (Below.refl w4.heap.size w4) _)).step hq5 ht5
                  have hry5 := (HY4.out.1.below (Below.drewN (Below.refl w4.heap.size w4) _)).turn ht5
                  have hrd5 := (HY4.out.2.1.below (Below.drewN (Below.refl w4.heap.size w4) _)).turn ht5
                  have hle : (nt : Int) - 1 = ((endP (pickP s p) ((j : Int) + 1)).tasks.length : Nat) := by
                    have h1 := HN.out.2
                    have h2 := HR.out.2.2.2.2.2.2.1
                    clear hnw
                    omega
                  first
                    | exact ⟨i + 1, dl, at', _, by go_num, (by rw [← hle]; first | rfl | rw [hnw]), HN.out.1, ⟨⟨_, hry5, hrd5, hsc5⟩, HR.out.2.2.2.2.1⟩⟩
                    | ((repeat apply Exists.intro) ; exact ⟨⟨i + 1, dl, at', _, by go_num, (by rw [← hle]; first | rfl | rw [hnw]), HN.out.1, ⟨⟨_, hry5, hrd5, hsc5⟩, HR.out.2.2.2.2.1⟩⟩, rfl⟩)
                case measure => simp [intOf]; omega
              · obtain ⟨hry4, hrd4, hsc4, hd, hy, hl, hrl, hql, hye⟩ := HY4.out
                have hdb : decide ((d : Int) = (ql : Int)) = false := decide_eq_false (by omega)
                have hpin := HP.out.1.2.2.1
                rw [List.mem_map] at hpin
                obtain ⟨q0, hq0, hq0e⟩ := hpin
                have hdle := HR.out.1.inv.le q0 hq0
                rw [hq0e] at hdle
                have hj1 : ((j : Int) + 1 - 1).toNat = j := by omega
                have hdn : dnF dl ((j : Int) + 1) = d := by unfold dnF; rw [if_pos (by omega), hj1, ← hd]
                have htd : tdF L ((j : Int) + 1) = l := by unfold tdF; rw [hj1, hl, List.getD_eq_getElem?_getD, List.getElem?_eq_getElem hjL]; rfl
                rw [hdn, htd] at hdle
                have hdl : d < l.length := by omega
                obtain ⟨n, hn⟩ : ∃ n, n = l[d] := ⟨_, rfl⟩
                have hnn : (tdF L ((j : Int) + 1))[dnF dl ((j : Int) + 1)]? = some n := by rw [hdn, htd, List.getElem?_eq_getElem hdl, hn]
                have hlok : LOk L := ⟨HT.out.2.2.2.1⟩
                have hnb := (hlok.at_ ((j : Int) + 1)).2.2 n (List.mem_of_getElem? hnn)
                have hlk4 : (pickP s p).locks.length < 4611686018427387904 := by
                  have e1 : (pickP s p).locks = s.locks := by unfold pickP; split <;> rfl
                  rw [e1]
                  have := HR.out.2.2.2.2.2.2.2.2.1
                  omega
                have HC2 : ∀ wx, Below w4.heap.size w4 wx → Calls Try.prog 12 #[.pointer (some ⟨S, 0, none⟩), .int .i64 ((j : Int) + 1), .int .i64 n] wx fun e w' => e = .returned (.tuple #[.bool (lockV (pickP s p) ((j : Int) + 1) n).1, .int .i64 (lockV (pickP s p) ((j : Int) + 1) n).2]) ∧ SQ (Fn (Fn G4 w3 w4) wx w') S w' (lockP (pickP s p) ((j : Int) + 1) n) ∧ Turn (Fn G4 w3 w4) wx w' := fun wx hwx =>
                  lock12 (hsc4.next hwx).q (x := (j : Int) + 1) (n := n) (wfi (by omega) (by omega)) (wfi (by omega) (by omega)) (by omega) hlk4
                have hv2 : (lockV (pickP s p) ((j : Int) + 1) n).2 = 0 := by
                  have := HP.out.1.2.2.2 n hnb.1
                  unfold lockV
                  rw [this]
                  simp only [ne_eq, not_true_eq_false, if_false]
                  split <;> rfl
                have hgets := fun hg => HR.out.1.gets hlok HR.out.2.2.2.2.2.1 p (n := n) (by rw [← HP.out.2.1]; exact hnn) hg
                have hwaits := fun hg => HR.out.1.waits hlok HR.out.2.2.2.2.2.1 p (n := n) (by rw [← HP.out.2.1]; exact hnn) hg
                rw [← HP.out.2.1] at hgets hwaits
                rw [hdn, hj1] at hgets
                obtain ⟨gy, offy, capy, hvy, -, hcy2, hmy⟩ := hrl.own.form (by omega)
                rw [← hql] at hvy hcy2
                rw [hye] at hvy
                injection hvy with a8 a9 a10
                subst a8 a10
                have hdd : d ≤ 4 := by have := (hlok.at_ ((j : Int) + 1)).1; rw [htd] at this; omega
                have hcell : ∀ wx F, RowY F B wx (.slice (some ⟨g7, off7, none⟩) k ct7) vs L → RowZ F B wx (.slice (some ⟨D, 0, none⟩) k k) (dl.map fun n : Nat => (n : Int)) → wx.cell? ⟨D, j, none⟩ = some (.int .i64 (d : Int)) ∧ wx.cell? ⟨g7, off7 + j, none⟩ = some (.slice (some ⟨gy, offy, none⟩) ql cy) ∧ wx.cell? ⟨gy, offy + d, none⟩ = some (.int .i64 n) := fun wx F hry hrd => by
                  refine ⟨?_, ?_, ?_⟩
                  · have h7 := hrd.own
                    rw [show (dl.map fun n : Nat => (n : Int)).length = k by rw [List.length_map]; exact HR.out.1.len] at h7
                    have h8 := h7.cell (j := j) hjk
                    rw [Nat.zero_add] at h8
                    have h9 : j < dl.length := by rw [HR.out.1.len]; exact hjk
                    rw [h8, hd]
                    simp [List.getD_eq_getElem?_getD, h9]
                  · have h7 := hry.own
                    rw [HT.out.2.2.1] at h7
                    rw [h7.cell (j := j) hjk, List.getElem?_eq_getElem hjv, ← hy, hye]
                  · have h8 := (hry.each j l y (by rw [List.getElem?_eq_getElem hjL, hl]) (by rw [List.getElem?_eq_getElem hjv, hy])).own
                    rw [hye, hql] at h8
                    rw [h8.cell (j := d) hdl]
                    simp [hdl, hn]
                have HCELL4 := Lib.hid hcell
                have HC2 := Lib.hid HC2
                have HGW := Lib.hid (And.intro hgets hwaits)
                obtain ⟨got, hgot⟩ : ∃ got, got = (lockV (pickP s p) ((j : Int) + 1) n).1 := ⟨_, rfl⟩
                have HN := Lib.hid (And.intro hgot (And.intro hv2 hdd))
                have hdql : d < ql := by omega
                have hnwd : wrap64 ((d : Int) + 1) = ((d + 1 : Nat) : Int) := w64' (by omega)
                have HNW := Lib.hid hnwd
                clear hn hgets hwaits hcell hgot hnwd hdd hv2
                clear hry4 hrd4 hsc4 hd hy hl hrl hql hq0 hq0e hdle hj1 hdn htd hnn hlok hnb hlk4 hye
                go_quiet (fail)
                go_wp2_with fail
                obtain ⟨wy, hwy⟩ : ∃ wy, wy = (w4.drewN nq) := ⟨_, rfl⟩
                have hby : Below w4.heap.size w4 wy := by rw [hwy]; exact Below.drewN (Below.refl w4.heap.size w4) _
                rw [← hwy]
                have hbz : Below w4.heap.size w4 wy.drew := ⟨hby.os, hby.tape, hby.output, hby.size, hby.block⟩
                have HBZ := Lib.hid (And.intro hbz (And.intro (HY4.out.1.below hbz) (And.intro (HY4.out.2.1.below hbz) (HY4.out.2.2.1.next hbz))))
                clear hwy hby hbz
                have HS0 := HCELL4.out _ _ HBZ.out.2.1 HBZ.out.2.2.1
                refine hp_start (fun w' => w'.cell? ⟨D, j, none⟩ = some (.int .i64 (d : Int)) ∧ w'.cell? ⟨g7, off7 + j, none⟩ = some (.slice (some ⟨gy, offy, none⟩) ql cy) ∧ w'.cell? ⟨gy, offy + d, none⟩ = some (.int .i64 n)) 18 rfl (by kernel_rfl) (fun c a a' w hd h => by first | exact ⟨hd ▸ h.1, h.2⟩ | (have e : a = a' := by cases a; cases a'; simp_all; exact e ▸ h)) (fun hP => ?_)
                rw [show Array.replicate 18 false = #[false, false, false, false, false, false, false, false, false, false, false, false, false, false, false, false, false, false] from rfl]
                refine hp_take hP 0 (some 134) _ rfl rfl (by kernel_rfl) rfl (fun w' hS' => by go_simp; rfl) HS0 ?_
                simp only [Act.put, List.setIfInBounds_toArray, List.set_cons_zero, List.set_cons_succ]
                refine hp_take hP 1 (some 135) _ rfl rfl (by kernel_rfl) rfl (fun w' hS' => by go_simp; rfl) HS0 ?_
                simp only [Act.put, List.setIfInBounds_toArray, List.set_cons_zero, List.set_cons_succ]
                refine hp_take hP 2 (some 136) _ rfl rfl (by kernel_rfl) rfl (fun w' hS' => by go_simp; rfl) HS0 ?_
                simp only [Act.put, List.setIfInBounds_toArray, List.set_cons_zero, List.set_cons_succ]
                refine hp_take hP 3 (some 137) _ rfl rfl (by kernel_rfl) rfl (fun w' hS' => by go_simp; rfl) HS0 ?_
                simp only [Act.put, List.setIfInBounds_toArray, List.set_cons_zero, List.set_cons_succ]
                refine hp_take hP 4 (some 138) _ rfl rfl (by kernel_rfl) rfl (fun w' hS' => by go_simp; rfl) HS0 ?_
                simp only [Act.put, List.setIfInBounds_toArray, List.set_cons_zero, List.set_cons_succ]
                refine hp_take hP 5 (some 139) (.slice (some ⟨gy, offy, none⟩) ql cy) rfl rfl (by kernel_rfl) rfl (fun w' hS' => by obtain ⟨k1, k2, k3⟩ := hS'; go_simp; try rfl) HS0 ?_
                simp only [Act.put, List.setIfInBounds_toArray, List.set_cons_zero, List.set_cons_succ]
                refine hp_take hP 6 (some 140) _ rfl rfl (by kernel_rfl) rfl (fun w' hS' => by go_simp; rfl) HS0 ?_
                simp only [Act.put, List.setIfInBounds_toArray, List.set_cons_zero, List.set_cons_succ]
                refine hp_take hP 7 (some 141) _ rfl rfl (by kernel_rfl) rfl (fun w' hS' => by go_simp; rfl) HS0 ?_
                simp only [Act.put, List.setIfInBounds_toArray, List.set_cons_zero, List.set_cons_succ]
                refine hp_take hP 8 (some 142) _ rfl rfl (by kernel_rfl) rfl (fun w' hS' => by go_simp; rfl) HS0 ?_
                simp only [Act.put, List.setIfInBounds_toArray, List.set_cons_zero, List.set_cons_succ]
                refine hp_take hP 9 (some 143) (.int .i64 (d : Int)) rfl rfl (by kernel_rfl) rfl (fun w' hS' => by obtain ⟨k1, k2, k3⟩ := hS'; go_simp; try rfl) HS0 ?_
                simp only [Act.put, List.setIfInBounds_toArray, List.set_cons_zero, List.set_cons_succ]
                refine hp_take hP 10 (some 144) _ rfl rfl (by kernel_rfl) rfl (fun w' hS' => by go_simp; rfl) HS0 ?_
                simp only [Act.put, List.setIfInBounds_toArray, List.set_cons_zero, List.set_cons_succ]
                refine hp_take hP 11 (some 145) (.int .i64 n) rfl rfl (by kernel_rfl) rfl (fun w' hS' => by obtain ⟨k1, k2, k3⟩ := hS'; go_simp; try rfl) HS0 ?_
                simp only [Act.put, List.setIfInBounds_toArray, List.set_cons_zero, List.set_cons_succ]
                refine hp_call 12 (some 146) rfl rfl (by kernel_rfl) rfl 12 #[.pointer (some ⟨S, 0, none⟩), .int .i64 ((j : Int) + 1), .int .i64 n] (by go_simp; try rfl) ?_
                refine (HC2.out _ HBZ.out.1).mono ?_
                rintro e w5 ⟨rfl, hq5, ht5⟩
                rw [← HN.out.1, HN.out.2.1]
                have hsc5 := HBZ.out.2.2.2.step hq5 ht5
                have hry5 := HBZ.out.2.1.turn ht5
                have hrd5 := HBZ.out.2.2.1.turn ht5
                have HS1 := HCELL4.out _ _ hry5 hrd5
                have H5 := Lib.hid (And.intro hsc5 (And.intro hry5 hrd5))
                clear hsc5 hry5 hrd5 hq5 ht5
                refine ⟨_, rfl, HS1, ?_⟩
                simp only [Act.put, List.setIfInBounds_toArray, List.set_cons_zero, List.set_cons_succ]
                refine hp_take hP 13 (some 133) _ rfl rfl (by kernel_rfl) rfl (fun w' hS' => by go_simp; rfl) HS1 ?_
                simp only [Act.put, List.setIfInBounds_toArray, List.set_cons_zero, List.set_cons_succ]
                refine hp_take hP 14 (some 147) _ rfl rfl (by kernel_rfl) rfl (fun w' hS' => by go_simp; rfl) HS1 ?_
                simp only [Act.put, List.setIfInBounds_toArray, List.set_cons_zero, List.set_cons_succ]
                refine hp_take hP 15 (some 148) _ rfl rfl (by kernel_rfl) rfl (fun w' hS' => by go_simp; rfl) HS1 ?_
                simp only [Act.put, List.setIfInBounds_toArray, List.set_cons_zero, List.set_cons_succ]
                refine hp_take hP 16 (some 19) _ rfl rfl (by kernel_rfl) rfl (fun w' hS' => by go_simp; rfl) HS1 ?_
                simp only [Act.put, List.setIfInBounds_toArray, List.set_cons_zero, List.set_cons_succ]
                refine hp_take hP 17 (some 20) _ rfl rfl (by kernel_rfl) rfl (fun w' hS' => by go_simp; rfl) HS1 ?_
                simp only [Act.put, List.setIfInBounds_toArray, List.set_cons_zero, List.set_cons_succ]
                refine hk_done (by kernel_rfl) ?_
                have hcd5 := HS1.1
                have hfd5 : w5.frozen? ⟨D, j, none⟩ = false := H5.out.2.2.own.thawed rfl j
                clear HS0 HS1 HC2
                cases got
                · go_wp2_with fail
                  go_roundw
                  case rel =>
                    obtain ⟨hsc5, hry5, hrd5⟩ := H5.out
                    have hg := HGW.out.2 HN.out.1.symm
                    have hle : (nt : Int) = ((lockP (pickP s p) ((j : Int) + 1) n).tasks.length : Nat) := by rw [hg.2, HR.out.2.2.2.2.2.2.1]
                    exact ⟨i + 1, dl, _, _, by go_num, by rw [← hle], hg.1, ⟨⟨_, hry5, hrd5, hsc5⟩, HR.out.2.2.2.2.1⟩⟩
                  case measure => simp [intOf]; omega
                · have hnw := HNW.out
                  go_wp2_with fail
                  clear hnw
                  go_roundw
                  case rel =>
                    obtain ⟨hsc5, hry5, hrd5⟩ := H5.out
                    have hg := HGW.out.1 HN.out.1.symm
                    have hle : (nt : Int) = ((lockP (pickP s p) ((j : Int) + 1) n).tasks.length : Nat) := by rw [hg.2, HR.out.2.2.2.2.2.2.1]
                    have hgr := grown_set w5 D j (.int .i64 ((d + 1 : Nat) : Int))
                    have hjd : j < dl.length := by rw [HR.out.1.len]; exact hjk
                    exact ⟨i + 1, dl.set j (d + 1), _, _, by go_num, by rw [← hle], hg.1, ⟨⟨_, hry5.grown hrd5.own (fun i y hy g hg e => HR.out.2.2.2.2.1 i y hy g hg (by cases e; rfl)) hgr, hrd5.setN hjd (d + 1), hsc5.grown hrd5 hgr⟩, HR.out.2.2.2.2.1⟩⟩
                  case measure => simp [intOf]; omega
            · as_aux_lemma =>
              have hdi : decide ((i : Int) < (n1 : Int)) = false := decide_eq_false (by omega)
              have hpb : -9223372036854775808 ≤ (i : Int) ∧ (i : Int) ≤ 9223372036854775807 := by omega
              go_wp2_with fail
              refine H16.out.mono ?_
              rintro e w3 ⟨rfl, hb3⟩
              have hsc3 := HR.out.2.2.2.1.next hb3
              have HC := pick17 hsc3.q HR.out.2.2.2.2.2.2.2.1 hpb HR.out.2.2.2.2.2.2.2.2.2
              have hpv : pickV s (i : Int) = (pickT s (i : Int), true) := by unfold pickV; rw [if_neg HR.out.2.2.2.2.2.1]
              rw [hpv] at HC
              have hpk4 := HR.out.1.pick HR.out.2.2.2.2.2.1 (i : Int)
              obtain ⟨j, ht⟩ : ∃ j : Nat, (j : Int) + 1 = pickT s (i : Int) := ⟨(pickT s (i : Int) - 1).toNat, by have := hpk4.1; omega⟩
              rw [← ht] at HC hpk4
              have HC := Lib.hid HC
              have HP := Lib.hid (And.intro hpk4 (And.intro ht (And.intro hb3 hsc3)))
              have hjk : j < k := by have := hpk4.2.1; omega
              clear hpv hpk4 ht hb3 hsc3
              go_wp2_with fail
              refine HC.out.mono ?_
              rintro e w4 ⟨rfl, hq4, ht4⟩
              have hd1t : decide ((j : Int) + 1 < 1) = false := decide_eq_false (by omega)
              have hdkt : decide ((k : Int) < (j : Int) + 1) = false := decide_eq_false (by omega)
              have hry4 := (HR.out.2.1.below HP.out.2.2.1).turn ht4
              have hrd4 := (HR.out.2.2.1.below HP.out.2.2.1).turn ht4
              have hsc4 := HP.out.2.2.2.step hq4 ht4
              have hdlen : (dl.map fun n : Nat => (n : Int)).length = k := by rw [List.length_map]; exact HR.out.1.len
              obtain ⟨d, hd⟩ : ∃ d : Nat, d = dl.getD j 0 := ⟨_, rfl⟩
              have hcd : w4.cell? ⟨D, j, none⟩ = some (.int .i64 (d : Int)) := by
                have h7 := hrd4.own
                rw [hdlen] at h7
                have h8 := h7.cell (j := j) hjk
                rw [Nat.zero_add] at h8
                have h9 : j < dl.length := by rw [HR.out.1.len]; exact hjk
                rw [h8, hd]
                simp [List.getD_eq_getElem?_getD, h9]
              have h7 := hry4.own
              rw [HT.out.2.2.1] at h7
              obtain ⟨g7, off7, cap7, hv7, -, hc7, hm7⟩ := h7.form (by omega)
              injection hv7 with e7 e8 e9
              subst e7 e9
              have hjL : j < L.length := by rw [HT.out.2.2.1]; exact hjk
              have hjv : j < vs.length := by rw [HR.out.2.1.len]; exact hjL
              obtain ⟨y, hy⟩ : ∃ y, y = vs[j] := ⟨_, rfl⟩
              obtain ⟨l, hl⟩ : ∃ l, l = L[j] := ⟨_, rfl⟩
              have hcy : w4.cell? ⟨g7, off7 + j, none⟩ = some y := by rw [h7.cell (j := j) hjk, List.getElem?_eq_getElem hjv, hy]
              have hrl := hry4.each j l y (by rw [List.getElem?_eq_getElem hjL, hl]) (by rw [List.getElem?_eq_getElem hjv, hy])
              obtain ⟨ay, cy, hye⟩ := hrl.own.any
              obtain ⟨ql, hql⟩ : ∃ ql, ql = l.length := ⟨_, rfl⟩
              rw [← hql] at hye
              rw [hye] at hcy
              have HY4 := Lib.hid (And.intro hry4 (And.intro hrd4 (And.intro hsc4 (And.intro hd (And.intro hy (And.intro hl (And.intro hrl (And.intro hql hye))))))))
              clear hry4 hrd4 hsc4 hdlen hd h7 hy hl hrl hql hye
              have HQ4 := Lib.hid (And.intro hq4 ht4)
              clear hq4 ht4
              go_wp2_with fail
              by_cases hdq : d = ql
              · have hdb : decide ((d : Int) = (ql : Int)) = true := decide_eq_true (by omega)
                have hends := HR.out.1.ends ⟨HT.out.2.2.2.1⟩ HR.out.2.2.2.2.2.1 (i : Int) (by
                  rw [← HP.out.2.1]
                  obtain ⟨-, -, -, hd, -, hl, -, hql, -⟩ := HY4.out
                  unfold dnF tdF
                  rw [if_pos (by omega), show ((j : Int) + 1 - 1).toNat = j by omega, ← hd, hdq, hql, hl, List.getD_eq_getElem?_getD, List.getElem?_eq_getElem hjL]; rfl)
                have hlk4 : (pickP s (i : Int)).locks.length ≤ 4096 := by
                  have e1 : (pickP s (i : Int)).locks = s.locks := by unfold pickP; split <;> rfl
                  rw [e1]
                  have := HR.out.2.2.2.2.2.2.2.2.1
                  omega
                have hmk4 : (pickP s (i : Int)).made < 4611686018427387904 := by rw [picked_made]; exact HR.out.2.2.2.2.2.2.2.1
                have hre := HP.out.1.2.2.2 0 (by omega)
                have HE : ∀ nq, Calls Try.prog 18 #[.pointer (some ⟨S, 0, none⟩), .int .i64 ((j : Int) + 1)] (w4.drewN nq) fun e w' => e = .returned (.int .i64 0) ∧ SQ (Fn (Fn G4 w3 w4) (w4.drewN nq) w') S w' (endP (pickP s (i : Int)) ((j : Int) + 1)) ∧ Turn (Fn G4 w3 w4) (w4.drewN nq) w' := fun nq => by
                  have h8 := end18 (HY4.out.2.2.1.next (Below.drewN (Below.refl w4.heap.size w4) nq)).q hmk4 hlk4 (x := (j : Int) + 1) (wfi (by omega) (by omega))
                  rw [hre] at h8
                  exact h8
                rw [← HP.out.2.1] at hends
                have HE := Lib.hid HE
                have HN := Lib.hid hends
                clear hends hre hmk4 hlk4
                have hnw : wrap64 ((nt : Int) - 1) = (nt : Int) - 1 := w64 (by have := HR.out.1.inv.wf.few; have := HR.out.2.2.2.2.2.2.1; omega)
                go_quiet (fail)
                go_wp2_with fail
                refine (HE.out _).mono ?_
                rintro e w5 ⟨rfl, hq5, ht5⟩
                have HQ5 := Lib.hid (And.intro hq5 ht5)
                clear hq5 ht5
                go_wp2_with fail
                go_roundw
                case rel =>
                  obtain ⟨hq5, ht5⟩ := HQ5.out
                  have hsc5 := (HY4.out.2.2.1.next (Below.drewN (Below.refl w4.heap.size w4) _)).step hq5 ht5
                  have hry5 := (HY4.out.1.below (Below.drewN (Below.refl w4.heap.size w4) _)).turn ht5
                  have hrd5 := (HY4.out.2.1.below (Below.drewN (Below.refl w4.heap.size w4) _)).turn ht5
                  have hle : (nt : Int) - 1 = ((endP (pickP s (i : Int)) ((j : Int) + 1)).tasks.length : Nat) := by
                    have h1 := HN.out.2
                    have h2 := HR.out.2.2.2.2.2.2.1
                    clear hnw
                    omega
                  first
                    | exact ⟨i + 1, dl, at', _, by go_num, (by rw [← hle]; first | rfl | rw [hnw]), HN.out.1, ⟨⟨_, hry5, hrd5, hsc5⟩, HR.out.2.2.2.2.1⟩⟩
                    | ((repeat apply Exists.intro) ; exact ⟨⟨i + 1, dl, at', _, by go_num, (by rw [← hle]; first | rfl | rw [hnw]), HN.out.1, ⟨⟨_, hry5, hrd5, hsc5⟩, HR.out.2.2.2.2.1⟩⟩, rfl⟩)
                case measure => simp [intOf]; omega
              · obtain ⟨hry4, hrd4, hsc4, hd, hy, hl, hrl, hql, hye⟩ := HY4.out
                have hdb : decide ((d : Int) = (ql : Int)) = false := decide_eq_false (by omega)
                have hpin := HP.out.1.2.2.1
                rw [List.mem_map] at hpin
                obtain ⟨q0, hq0, hq0e⟩ := hpin
                have hdle := HR.out.1.inv.le q0 hq0
                rw [hq0e] at hdle
                have hj1 : ((j : Int) + 1 - 1).toNat = j := by omega
                have hdn : dnF dl ((j : Int) + 1) = d := by unfold dnF; rw [if_pos (by omega), hj1, ← hd]
                have htd : tdF L ((j : Int) + 1) = l := by unfold tdF; rw [hj1, hl, List.getD_eq_getElem?_getD, List.getElem?_eq_getElem hjL]; rfl
                rw [hdn, htd] at hdle
                have hdl : d < l.length := by omega
                obtain ⟨n, hn⟩ : ∃ n, n = l[d] := ⟨_, rfl⟩
                have hnn : (tdF L ((j : Int) + 1))[dnF dl ((j : Int) + 1)]? = some n := by rw [hdn, htd, List.getElem?_eq_getElem hdl, hn]
                have hlok : LOk L := ⟨HT.out.2.2.2.1⟩
                have hnb := (hlok.at_ ((j : Int) + 1)).2.2 n (List.mem_of_getElem? hnn)
                have hlk4 : (pickP s (i : Int)).locks.length < 4611686018427387904 := by
                  have e1 : (pickP s (i : Int)).locks = s.locks := by unfold pickP; split <;> rfl
                  rw [e1]
                  have := HR.out.2.2.2.2.2.2.2.2.1
                  omega
                have HC2 : ∀ wx, Below w4.heap.size w4 wx → Calls Try.prog 12 #[.pointer (some ⟨S, 0, none⟩), .int .i64 ((j : Int) + 1), .int .i64 n] wx fun e w' => e = .returned (.tuple #[.bool (lockV (pickP s (i : Int)) ((j : Int) + 1) n).1, .int .i64 (lockV (pickP s (i : Int)) ((j : Int) + 1) n).2]) ∧ SQ (Fn (Fn G4 w3 w4) wx w') S w' (lockP (pickP s (i : Int)) ((j : Int) + 1) n) ∧ Turn (Fn G4 w3 w4) wx w' := fun wx hwx =>
                  lock12 (hsc4.next hwx).q (x := (j : Int) + 1) (n := n) (wfi (by omega) (by omega)) (wfi (by omega) (by omega)) (by omega) hlk4
                have hv2 : (lockV (pickP s (i : Int)) ((j : Int) + 1) n).2 = 0 := by
                  have := HP.out.1.2.2.2 n hnb.1
                  unfold lockV
                  rw [this]
                  simp only [ne_eq, not_true_eq_false, if_false]
                  split <;> rfl
                have hgets := fun hg => HR.out.1.gets hlok HR.out.2.2.2.2.2.1 (i : Int) (n := n) (by rw [← HP.out.2.1]; exact hnn) hg
                have hwaits := fun hg => HR.out.1.waits hlok HR.out.2.2.2.2.2.1 (i : Int) (n := n) (by rw [← HP.out.2.1]; exact hnn) hg
                rw [← HP.out.2.1] at hgets hwaits
                rw [hdn, hj1] at hgets
                obtain ⟨gy, offy, capy, hvy, -, hcy2, hmy⟩ := hrl.own.form (by omega)
                rw [← hql] at hvy hcy2
                rw [hye] at hvy
                injection hvy with a8 a9 a10
                subst a8 a10
                have hdd : d ≤ 4 := by have := (hlok.at_ ((j : Int) + 1)).1; rw [htd] at this; omega
                have hcell : ∀ wx F, RowY F B wx (.slice (some ⟨g7, off7, none⟩) k ct7) vs L → RowZ F B wx (.slice (some ⟨D, 0, none⟩) k k) (dl.map fun n : Nat => (n : Int)) → wx.cell? ⟨D, j, none⟩ = some (.int .i64 (d : Int)) ∧ wx.cell? ⟨g7, off7 + j, none⟩ = some (.slice (some ⟨gy, offy, none⟩) ql cy) ∧ wx.cell? ⟨gy, offy + d, none⟩ = some (.int .i64 n) := fun wx F hry hrd => by
                  refine ⟨?_, ?_, ?_⟩
                  · have h7 := hrd.own
                    rw [show (dl.map fun n : Nat => (n : Int)).length = k by rw [List.length_map]; exact HR.out.1.len] at h7
                    have h8 := h7.cell (j := j) hjk
                    rw [Nat.zero_add] at h8
                    have h9 : j < dl.length := by rw [HR.out.1.len]; exact hjk
                    rw [h8, hd]
                    simp [List.getD_eq_getElem?_getD, h9]
                  · have h7 := hry.own
                    rw [HT.out.2.2.1] at h7
                    rw [h7.cell (j := j) hjk, List.getElem?_eq_getElem hjv, ← hy, hye]
                  · have h8 := (hry.each j l y (by rw [List.getElem?_eq_getElem hjL, hl]) (by rw [List.getElem?_eq_getElem hjv, hy])).own
                    rw [hye, hql] at h8
                    rw [h8.cell (j := d) hdl]
                    simp [hdl, hn]
                have HCELL4 := Lib.hid hcell
                have HC2 := Lib.hid HC2
                have HGW := Lib.hid (And.intro hgets hwaits)
                obtain ⟨got, hgot⟩ : ∃ got, got = (lockV (pickP s (i : Int)) ((j : Int) + 1) n).1 := ⟨_, rfl⟩
                have HN := Lib.hid (And.intro hgot (And.intro hv2 hdd))
                have hdql : d < ql := by omega
                have hnwd : wrap64 ((d : Int) + 1) = ((d + 1 : Nat) : Int) := w64' (by omega)
                have HNW := Lib.hid hnwd
                clear hn hgets hwaits hcell hgot hnwd hdd hv2
                clear hry4 hrd4 hsc4 hd hy hl hrl hql hq0 hq0e hdle hj1 hdn htd hnn hlok hnb hlk4 hye
                go_quiet (fail)
                go_wp2_with fail
                obtain ⟨wy, hwy⟩ : ∃ wy, wy = (w4.drewN nq) := ⟨_, rfl⟩
                have hby : Below w4.heap.size w4 wy := by rw [hwy]; exact Below.drewN (Below.refl w4.heap.size w4) _
                rw [← hwy]
                have hbz : Below w4.heap.size w4 wy.drew := ⟨hby.os, hby.tape, hby.output, hby.size, hby.block⟩
                have HBZ := Lib.hid (And.intro hbz (And.intro (HY4.out.1.below hbz) (And.intro (HY4.out.2.1.below hbz) (HY4.out.2.2.1.next hbz))))
                clear hwy hby hbz
                have HS0 := HCELL4.out _ _ HBZ.out.2.1 HBZ.out.2.2.1
                refine hp_start (fun w' => w'.cell? ⟨D, j, none⟩ = some (.int .i64 (d : Int)) ∧ w'.cell? ⟨g7, off7 + j, none⟩ = some (.slice (some ⟨gy, offy, none⟩) ql cy) ∧ w'.cell? ⟨gy, offy + d, none⟩ = some (.int .i64 n)) 18 rfl (by kernel_rfl) (fun c a a' w hd h => by first | exact ⟨hd ▸ h.1, h.2⟩ | (have e : a = a' := by cases a; cases a'; simp_all; exact e ▸ h)) (fun hP => ?_)
                rw [show Array.replicate 18 false = #[false, false, false, false, false, false, false, false, false, false, false, false, false, false, false, false, false, false] from rfl]
                refine hp_take hP 0 (some 134) _ rfl rfl (by kernel_rfl) rfl (fun w' hS' => by go_simp; rfl) HS0 ?_
                simp only [Act.put, List.setIfInBounds_toArray, List.set_cons_zero, List.set_cons_succ]
                refine hp_take hP 1 (some 135) _ rfl rfl (by kernel_rfl) rfl (fun w' hS' => by go_simp; rfl) HS0 ?_
                simp only [Act.put, List.setIfInBounds_toArray, List.set_cons_zero, List.set_cons_succ]
                refine hp_take hP 2 (some 136) _ rfl rfl (by kernel_rfl) rfl (fun w' hS' => by go_simp; rfl) HS0 ?_
                simp only [Act.put, List.setIfInBounds_toArray, List.set_cons_zero, List.set_cons_succ]
                refine hp_take hP 3 (some 137) _ rfl rfl (by kernel_rfl) rfl (fun w' hS' => by go_simp; rfl) HS0 ?_
                simp only [Act.put, List.setIfInBounds_toArray, List.set_cons_zero, List.set_cons_succ]
                refine hp_take hP 4 (some 138) _ rfl rfl (by kernel_rfl) rfl (fun w' hS' => by go_simp; rfl) HS0 ?_
                simp only [Act.put, List.setIfInBounds_toArray, List.set_cons_zero, List.set_cons_succ]
                refine hp_take hP 5 (some 139) (.slice (some ⟨gy, offy, none⟩) ql cy) rfl rfl (by kernel_rfl) rfl (fun w' hS' => by obtain ⟨k1, k2, k3⟩ := hS'; go_simp; try rfl) HS0 ?_
                simp only [Act.put, List.setIfInBounds_toArray, List.set_cons_zero, List.set_cons_succ]
                refine hp_take hP 6 (some 140) _ rfl rfl (by kernel_rfl) rfl (fun w' hS' => by go_simp; rfl) HS0 ?_
                simp only [Act.put, List.setIfInBounds_toArray, List.set_cons_zero, List.set_cons_succ]
                refine hp_take hP 7 (some 141) _ rfl rfl (by kernel_rfl) rfl (fun w' hS' => by go_simp; rfl) HS0 ?_
                simp only [Act.put, List.setIfInBounds_toArray, List.set_cons_zero, List.set_cons_succ]
                refine hp_take hP 8 (some 142) _ rfl rfl (by kernel_rfl) rfl (fun w' hS' => by go_simp; rfl) HS0 ?_
                simp only [Act.put, List.setIfInBounds_toArray, List.set_cons_zero, List.set_cons_succ]
                refine hp_take hP 9 (some 143) (.int .i64 (d : Int)) rfl rfl (by kernel_rfl) rfl (fun w' hS' => by obtain ⟨k1, k2, k3⟩ := hS'; go_simp; try rfl) HS0 ?_
                simp only [Act.put, List.setIfInBounds_toArray, List.set_cons_zero, List.set_cons_succ]
                refine hp_take hP 10 (some 144) _ rfl rfl (by kernel_rfl) rfl (fun w' hS' => by go_simp; rfl) HS0 ?_
                simp only [Act.put, List.setIfInBounds_toArray, List.set_cons_zero, List.set_cons_succ]
                refine hp_take hP 11 (some 145) (.int .i64 n) rfl rfl (by kernel_rfl) rfl (fun w' hS' => by obtain ⟨k1, k2, k3⟩ := hS'; go_simp; try rfl) HS0 ?_
                simp only [Act.put, List.setIfInBounds_toArray, List.set_cons_zero, List.set_cons_succ]
                refine hp_call 12 (some 146) rfl rfl (by kernel_rfl) rfl 12 #[.pointer (some ⟨S, 0, none⟩), .int .i64 ((j : Int) + 1), .int .i64 n] (by go_simp; try rfl) ?_
                refine (HC2.out _ HBZ.out.1).mono ?_
                rintro e w5 ⟨rfl, hq5, ht5⟩
                rw [← HN.out.1, HN.out.2.1]
                have hsc5 := HBZ.out.2.2.2.step hq5 ht5
                have hry5 := HBZ.out.2.1.turn ht5
                have hrd5 := HBZ.out.2.2.1.turn ht5
                have HS1 := HCELL4.out _ _ hry5 hrd5
                have H5 := Lib.hid (And.intro hsc5 (And.intro hry5 hrd5))
                clear hsc5 hry5 hrd5 hq5 ht5
                refine ⟨_, rfl, HS1, ?_⟩
                simp only [Act.put, List.setIfInBounds_toArray, List.set_cons_zero, List.set_cons_succ]
                refine hp_take hP 13 (some 133) _ rfl rfl (by kernel_rfl) rfl (fun w' hS' => by go_simp; rfl) HS1 ?_
                simp only [Act.put, List.setIfInBounds_toArray, List.set_cons_zero, List.set_cons_succ]
                refine hp_take hP 14 (some 147) _ rfl rfl (by kernel_rfl) rfl (fun w' hS' => by go_simp; rfl) HS1 ?_
                simp only [Act.put, List.setIfInBounds_toArray, List.set_cons_zero, List.set_cons_succ]
                refine hp_take hP 15 (some 148) _ rfl rfl (by kernel_rfl) rfl (fun w' hS' => by go_simp; rfl) HS1 ?_
                simp only [Act.put, List.setIfInBounds_toArray, List.set_cons_zero, List.set_cons_succ]
                refine hp_take hP 16 (some 19) _ rfl rfl (by kernel_rfl) rfl (fun w' hS' => by go_simp; rfl) HS1 ?_
                simp only [Act.put, List.setIfInBounds_toArray, List.set_cons_zero, List.set_cons_succ]
                refine hp_take hP 17 (some 20) _ rfl rfl (by kernel_rfl) rfl (fun w' hS' => by go_simp; rfl) HS1 ?_
                simp only [Act.put, List.setIfInBounds_toArray, List.set_cons_zero, List.set_cons_succ]
                refine hk_done (by kernel_rfl) ?_
                have hcd5 := HS1.1
                have hfd5 : w5.frozen? ⟨D, j, none⟩ = false := H5.out.2.2.own.thawed rfl j
                clear HS0 HS1 HC2
                cases got
                · go_wp2_with fail
                  go_roundw
                  case rel =>
                    obtain ⟨hsc5, hry5, hrd5⟩ := H5.out
                    have hg := HGW.out.2 HN.out.1.symm
                    have hle : (nt : Int) = ((lockP (pickP s (i : Int)) ((j : Int) + 1) n).tasks.length : Nat) := by rw [hg.2, HR.out.2.2.2.2.2.2.1]
                    exact ⟨i + 1, dl, _, _, by go_num, by rw [← hle], hg.1, ⟨⟨_, hry5, hrd5, hsc5⟩, HR.out.2.2.2.2.1⟩⟩
                  case measure => simp [intOf]; omega
                · have hnw := HNW.out
                  go_wp2_with fail
                  clear hnw
                  go_roundw
                  case rel =>
                    obtain ⟨hsc5, hry5, hrd5⟩ := H5.out
                    have hg := HGW.out.1 HN.out.1.symm
                    have hle : (nt : Int) = ((lockP (pickP s (i : Int)) ((j : Int) + 1) n).tasks.length : Nat) := by rw [hg.2, HR.out.2.2.2.2.2.2.1]
                    have hgr := grown_set w5 D j (.int .i64 ((d + 1 : Nat) : Int))
                    have hjd : j < dl.length := by rw [HR.out.1.len]; exact hjk
                    exact ⟨i + 1, dl.set j (d + 1), _, _, by go_num, by rw [← hle], hg.1, ⟨⟨_, hry5.grown hrd5.own (fun i y hy g hg e => HR.out.2.2.2.2.1 i y hy g hg (by cases e; rfl)) hgr, hrd5.setN hjd (d + 1), hsc5.grown hrd5 hgr⟩, HR.out.2.2.2.2.1⟩⟩
                  case measure => simp [intOf]; omega)
end Go.Proofs.Ytkndcofmhfeaoaa
