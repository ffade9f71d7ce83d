/- SchedFair. -/
import Derived.Test.YtkndcofmhfeaoaaZ
namespace Go.Proofs.Ytkndcofmhfeaoaa
open Go.RowKit Go.Maps
set_option linter.unusedVariables false
set_option linter.unusedSimpArgs false
theorem add_lit2 (g off j : Nat) : (⟨g, off, none⟩ : Addr).add j = ⟨g, off + j, none⟩ := by unfold Addr.add; split <;> simp_all
theorem wrapI {x : Int} (h0 : 0 ≤ x) (h1 : x < 4611686018427387904) : IntKind.i64.wrap x = x := by
  have e : x % (2 ^ 64 : Int) = x := Int.emod_eq_of_lt (by omega) (by omega)
  simp only [IntKind.wrap, IntKind.bits, IntKind.signed, e]
  rw [if_neg]
  simp
  omega
theorem wrapN {q m : Nat} (h : q < m) (hm : m ≤ 64) : IntKind.i64.wrap ((q : Int) + 1) = (q : Int) + 1 := wrapI (by omega) (by omega)
theorem news_drop {L : List Int} {g off2 off3 m cap2 q : Nat} {w2 : World} (hoff3 : off3 = if cap2 = q + 1 then off2 else off2 + (q + 1)) (hcap2 : m ≤ cap2) (hl : (L.drop (q + 1)).length = m - (q + 1))
    (h : ∀ j u, ((L.drop (q + 1)).map (Value.int .i64))[j]? = some u → w2.cell? ((⟨g, off2 + (q + 1), none⟩ : Addr).add j) = some u) : ∀ j u, ((L.drop (q + 1)).map (Value.int .i64))[j]? = some u → w2.cell? ((⟨g, off3, none⟩ : Addr).add j) = some u := by
  intro j u hu
  by_cases e : cap2 = q + 1
  · have := (List.getElem?_eq_some_iff.1 hu).1
    rw [List.length_map, hl] at this; omega
  · rw [if_neg e] at hoff3
    rw [hoff3]; exact h j u hu
theorem run_slice_low (g off m cap k : Nat) (hk : k ≤ m) (w : World) : (Instr.sliceAt 22 (.slice (some ⟨g, off, none⟩) m cap) (some (.int .i64 (k : Int))) none none).run Try.prog w = .ok (.slice (some ⟨g, if cap = k then off else off + k, none⟩) (m - k) (cap - k)) w := by
  have hu := run_underlying (P := Try.prog) Try.underlying22 w
  have e1 : (⟨g, off, none⟩ : Addr).add k = ⟨g, off + k, none⟩ := by unfold Addr.add; split <;> simp_all
  unfold Instr.sliceAt Instr.slice Instr.sliceBounds Instr.sliceBound
  simp [Sem.run_bind, hu, Try.sizeOf3, asIntOf, e1, hk]
  by_cases h : cap = k
  · rw [if_pos h, if_pos h]
  · rw [if_neg h, if_neg h]
theorem wpList_val {P : Program} {ops : Array Oper} {Q : Exit → Act → World → Prop} {rest : List Oper} {o : Oper} {a : Act} {w : World} (hgd : o.guard = none) (d : Option Tmp) (hd : o.dst = d) (v : Value) (hx : (execOp a.eval o).run P w = .ok (.value v) w) (h : wpList P ops Q rest (a.put d v) w) : wpList P ops Q (o :: rest) a w := by
  subst hd
  refine wpList_plain hgd fun K hK => ?_
  unfold Oper.wp
  rw [hx]
  exact hK _ _ h
theorem exec_slice_low {P : Program} {o : Oper} {a : Act} {w : World} {t : TypeId} {x lo : Operand} (ho : o.op = .slice t x (some lo) none none) {xv lv v : Value} (hx : a.eval x = xv) (hlo : a.eval lo = lv) (h : (Instr.sliceAt t xv (some lv) none none).run P w = .ok v w) : (execOp a.eval o).run P w = .ok (.value v) w := by
  unfold execOp
  simp only [ho, hx, hlo, Option.map_some, Option.map_none, h, Sem.run_bind, Sem.run_pure, Result.andThen_ok]
set_option maxRecDepth 100000 in
set_option maxHeartbeats 8000000 in
theorem fair3 (order : List Int) (lk : Int) (v : Value) (w : World) (hrow : Row w.heap.size w v order.length 1 (order.map (Value.int .i64))) (hord : ∀ k, k < order.length → -9223372036854775808 ≤ order.getD k 0 ∧ order.getD k 0 ≤ 9223372036854775807) (hlk2 : lk ≤ 9223372036854775807) : Calls Try.prog 3 #[v, .int .i64 lk] w fun e w' => e = .returned (.bool true) ∧ Below w.heap.size w w' := by
  have hbd : ∀ k, k < order.length → -9223372036854775808 ≤ order.getD k 0 ∧ order.getD k 0 ≤ 9223372036854775807 := hord
  obtain ⟨hl1, a, cap, rfl, hcap, hmax, hcell⟩ := hrow
  have HCELL := Lib.hid hcell
  have HBD := Lib.hid hbd
  clear hcell hbd hord
  obtain ⟨n0, hn⟩ : ∃ n, n = order.length := ⟨_, rfl⟩
  rw [← hn] at hl1 hcap HCELL HBD
  rw [← hn]
  have HN0 := Lib.hid hn
  clear hn hl1
  by_cases hneg : lk < 0
  · have hd : decide (lk < 0) = true := decide_eq_true hneg
    go_enter Try.func3, Try.ntmps3
    go_wp2_with fail
    refine (awake9 w).mono ?_
    rintro e w1 ⟨rfl, hB1⟩
    go_wp2_with fail
    refine (new10 w1).mono ?_
    rintro e w0 ⟨rfl, rfl⟩
    have HB := Lib.hid hB1
    clear hB1
    go_wp2_with fail
    go_ret
    exact ⟨rfl, Below.al HB.out _⟩
  have hd : decide (lk < 0) = false := decide_eq_false hneg
  obtain ⟨n, hn⟩ : ∃ n : Nat, n = (if 40 < n0 then 40 else n0) := ⟨_, rfl⟩
  have hnn : n ≤ n0 := by rw [hn]; split <;> omega
  have hn40 : n ≤ 40 := by rw [hn]; split <;> omega
  have hcase : (decide ((40 : Int) < (n0 : Int)) = true ∧ n = 40) ∨ (decide ((40 : Int) < (n0 : Int)) = false ∧ n = n0) := by
    by_cases h : 40 < n0
    · rw [if_pos h] at hn; exact .inl ⟨decide_eq_true (by omega), hn⟩
    · rw [if_neg h] at hn; exact .inr ⟨decide_eq_false (by omega), hn⟩
  clear hn
  have HCASE := Lib.hid hcase
  clear hcase
  go_enter Try.func3, Try.ntmps3
  go_wp2_with fail
  refine (awake9 w).mono ?_
  rintro e w1 ⟨rfl, hB1⟩
  go_wp2_with fail
  refine (new10 w1).mono ?_
  rintro e w0 ⟨rfl, hw0⟩
  obtain ⟨B, hBe⟩ : ∃ B, B = w1.heap.size := ⟨_, rfl⟩
  have hS0 : Sch B w1 (fun k => k = w1.heap.size) w1.heap.size w0 (st 0 (fun _ => 0)) := by
    rw [hw0]
    exact ⟨SQ.new w1, fun k hk => by omega, hBe, by rw [hBe]; exact (Below.refl _ w1).alloc (Nat.le_refl _) _⟩
  rw [← hBe] at hS0 ⊢
  obtain ⟨S, hS⟩ : ∃ S, S = B := ⟨_, rfl⟩
  have HQ0 : Hid (∃ G, Sch B w1 G S w0 (st 0 (fun _ => 0))) := by rw [hS]; exact Lib.hid ⟨_, hS0⟩
  rw [← hS]
  have HB := Lib.hid (And.intro hB1 hBe)
  clear hB1 hBe hS hw0 hS0
  have hnx : ∀ x : Nat, x ≤ 64 → x < 9223372036854775807 := by omega
  rcases HCASE.out with ⟨hc1, hc2⟩ | ⟨hc1, hc2⟩
  · go_wp2_with fail
    rw [show (40 : Int) = ((n : Nat) : Int) by omega]
    clear hc1 hc2 HCASE
    go_loopw [8, 9] (fun v i wr => ∃ (k : Nat) (G : Nat → Prop), k ≤ n ∧ i = .int .i64 k ∧ RowZ G B wr v (ups k) ∧ Sch B w1 G S wr (st k (fun _ => 0))) (fun _ i _ => n - (intOf i).toNat)
    case atStart =>
      obtain ⟨G, hG⟩ := HQ0.out
      exact ⟨0, G, by omega, rfl, RowZ.nil _ _ _, hG⟩
    case round =>
      obtain ⟨k, G, hk, rfl, hrz, hsc⟩ := hrel
      have HR := Lib.hid (And.intro hrz hsc)
      by_cases hlt : k < n
      · have hs := st_start (n := k) (by omega)
        have HC := start11 hsc.q (by show k < _; omega)
        rw [hs.1, hs.2] at HC
        have HC := Lib.hid HC
        clear hs hrz hsc
        go_wp2_with fail
        refine HC.out.mono ?_
        rintro e w3 ⟨rfl, hq, ht⟩
        have hsc3 := HR.out.2.step hq ht
        have hrz3 := HR.out.1.turn ht
        have hB3 := hsc3.size
        have HS3 := Lib.hid hsc3
        have hrz4 := hrz3.below (w' := w3.alloc (.cells #[.int .i64 ((k : Int) + 1)] 3)) ((Below.refl _ w3).alloc (Nat.le_refl _) _)
        have hlt4 : ∀ j, Fn G wr w3 j → j < (w3.alloc (.cells #[.int .i64 ((k : Int) + 1)] 3)).heap.size := fun j hj => by have := hsc3.q.lt j hj; simp; omega
        have hB4 : B ≤ (w3.alloc (.cells #[.int .i64 ((k : Int) + 1)] 3)).heap.size := by simp; omega
        have hul := ups_len k
        clear hq ht hsc3 hrz3
        go_wp2_with (at_builtin; refine wpList_append_Z rfl _ _ rfl rfl hrz4 hlt4 hB4 [(k : Int) + 1] ⟨w3.heap.size, 0, none⟩ 1 1 rfl rfl (cell_one_new' _ _ _) (by rw [hul]; simp; omega) ?_; intro v' w4 hr' hg' hv')
        go_roundw
        case rel => exact ⟨k + 1, Fn G wr w3, by omega, by go_num, by rw [ups_succ]; exact hr', (HS3.out.next ((Below.refl _ w3).alloc (Nat.le_refl _) _)).grown hrz4 hg'⟩
        case measure => simp [intOf]; omega
      · have hk' : k = n := by omega
        subst hk'
        clear hrz hsc
        go_wp2_with fail
        clear hnx
        go_loopw [8, 12, 13] (fun vl vc i wr => ∃ (j : Nat) (G : Nat → Prop) (L C : List Int), j ≤ k ∧ i = .int .i64 j ∧ RowZ G B wr vl L ∧ RowZ G B wr vc C ∧ (∀ g, vl.ownBlock = some g → vc.ownBlock ≠ some g) ∧ Sch B w1 G S wr (fS k lk C) ∧ (L ++ C).Perm (ups k) ∧ C.length = j) (fun _ _ i _ => k - (intOf i).toNat)
        case atStart =>
          refine ⟨0, G, ups k, [], by omega, rfl, HR.out.1, RowZ.nil _ _ _, (fun g _ e => by cases e), ?_, by rw [List.append_nil], rfl⟩
          rw [fS_nil]; exact HR.out.2
        case round =>
          obtain ⟨j, G2, L, C, hj, rfl, hrl, hrc, hne, hsc, hperm, hCl⟩ := hrel
          have hLl : L.length + j = k := by have := hperm.length_eq; rw [List.length_append, ups_len, hCl] at this; exact this
          by_cases hlt2 : j < k
          · have hd1 : decide ((j : Int) < (k : Int)) = true := decide_eq_true (by omega)
            obtain ⟨b, off, rfl, hb, hcl⟩ := HCELL.out (by omega)
            obtain ⟨x, hx⟩ : ∃ x, x = order.getD j 0 := ⟨_, rfl⟩
            have hck : wr.cell? ⟨b, off + j, none⟩ = some (.int .i64 x) := by
              rw [hsc.below.cell (by show b < _; rw [HB.out.2]; have := HB.out.1.size; omega), HB.out.1.cell (by exact hb), hcl j (by omega), hx]
              have : j < order.length := by rw [← HN0.out]; omega
              simp [List.getD_eq_getElem?_getD, this]
            have hxb := HBD.out j (by omega)
            rw [← hx] at hxb
            obtain ⟨g, off2, cap2, hvl, hgB, hcap2, hmax2⟩ := hrl.own.form (by omega)
            obtain ⟨m, hm⟩ : ∃ m, m = L.length := ⟨_, rfl⟩
            rw [← hm] at hvl hcap2
            subst hvl
            obtain ⟨q, hq⟩ : ∃ q, q = wheel x m := ⟨_, rfl⟩
            have hqm : q < m := by rw [hq]; exact wheel_lt _ _ (by omega)
            have hqL : q < L.length := by omega
            have hm64 : m ≤ 64 := by omega
            obtain ⟨t, ht⟩ : ∃ t, t = L[q] := ⟨_, rfl⟩
            have hrl' : ownsIn wr B 3 (.slice (some ⟨g, off2, none⟩) m cap2) m (L.map (Value.int .i64)) := by have := hrl.own; rw [← hm] at this; exact this
            have hct : wr.cell? ⟨g, off2 + q, none⟩ = some (.int .i64 t) := by rw [hrl'.cell hqm]; simp [hqL, ht]
            have htm : t ∈ ups k := hperm.mem_iff.1 (by rw [ht]; simp)
            obtain ⟨tj, htj, htj2⟩ := ups_mem htm
            have hnd : (L ++ C).Nodup := hperm.nodup_iff.2 (ups_nodup k)
            have htC : t ∉ C := fun hc => by
              have := (List.nodup_append.1 hnd).2.2
              exact this t (by rw [ht]; exact List.getElem_mem hqL) t hc rfl
            have HX := Lib.hid (And.intro hrl (And.intro hrc (And.intro hne (And.intro hsc (And.intro hperm (And.intro hCl (And.intro htC (And.intro htj (And.intro htj2 (And.intro ht (And.intro hq hm)))))))))))
            have hmj : m + j = k := by omega
            obtain ⟨nn, hnn2⟩ : ∃ nn : Int, nn = if x < 0 then -(x + 1) else x := ⟨_, rfl⟩
            have hnn0 : 0 ≤ nn := by rw [hnn2]; split <;> omega
            have hrem : nn.tmod (m : Int) = (q : Int) := by
              rw [Int.tmod_eq_emod_of_nonneg hnn0, hq]
              unfold wheel
              rw [← hnn2]
              have : (0 : Int) ≤ nn % (m : Int) := Int.emod_nonneg _ (by omega)
              omega
            have hm0 : ¬ (m : Int) = 0 := by omega
            have hm0' : 0 < m := by omega
            clear hrl hrc hne hsc hperm hCl htC htj htj2 ht hq hm hnd htm hx hcl hrl' hb hLl
            by_cases hneg2 : x < 0
            · have e1 : wrap64 (x + 1) = x + 1 := w64 (by omega)
              have e2 : wrap64 (-(x + 1)) = -(x + 1) := w64 (by omega)
              have hdx : decide (x < 0) = true := decide_eq_true hneg2
              rw [if_pos hneg2] at hnn2
              have hrem2 : (x + 1).tmod (m : Int) = -(q : Int) := by rw [hnn2, Int.neg_tmod] at hrem; omega
              clear hrem hnn2 hnn0 hneg2
              go_upto_region 24 with fail
              have hnews1 : ∀ j u, ((L.take q).map (Value.int .i64))[j]? = some u → wr.cell? ((⟨g, off2, none⟩ : Addr).add j) = some u := by
                intro j u hu
                have hj1 : j < q := by have := (List.getElem?_eq_some_iff.1 hu).1; simp at this; omega
                rw [add_lit2]
                have hr0 := HX.out.1.own
                have hmm := HX.out.2.2.2.2.2.2.2.2.2.2.2
                rw [← hmm] at hr0
                rw [hr0.cell (by omega)]
                rw [List.map_take, List.getElem?_take, if_pos hj1] at hu
                exact hu
              have hlt24 := HX.out.2.2.2.1.q.lt
              have hB24 := HX.out.2.2.2.1.size
              have htl : (L.take q).length = q := by rw [List.length_take]; omega
              go_upto_region 25 with (at_builtin; refine wpList_append_Z rfl _ _ rfl rfl (RowZ.nil G2 B wr) hlt24 hB24 (L.take q) ⟨g, off2, none⟩ q cap2 rfl htl hnews1 (by simp; omega) ?_; intro v1 w2 hr1 hg1 hv1)
              obtain ⟨hrl, hrc, hne, hsc, hperm, hCl, htC, htj, htj2, ht, hq, hm⟩ := HX.out
              have hv1n : ∀ g', v1.ownBlock = some g' → wr.heap.size ≤ g' := fun g' h => by
                rcases hv1 g' h with h | h
                · cases h
                · exact h
              have hsc2 := hsc.grown (RowZ.nil G2 B wr) hg1
              have hrl2 := hrl.grown hg1 (fun g' _ e => by cases e)
              have hrc2 := hrc.grown hg1 (fun g' _ e => by cases e)
              have hnews2 : ∀ j u, ((L.drop (q + 1)).map (Value.int .i64))[j]? = some u → w2.cell? ((⟨g, off2 + (q + 1), none⟩ : Addr).add j) = some u := by
                intro j u hu
                have hj1 : j < m - (q + 1) := by have := (List.getElem?_eq_some_iff.1 hu).1; simp at this; omega
                rw [add_lit2, Nat.add_assoc]
                have hr0 := hrl2.own
                rw [← hm] at hr0
                rw [hr0.cell (by omega)]
                rw [List.map_drop, List.getElem?_drop] at hu
                exact hu
              have hdl : (L.drop (q + 1)).length = m - (q + 1) := by rw [List.length_drop]; omega
              have hlt25 := hsc2.q.lt
              have hB25 := hsc2.size
              have hdL : (L.take q).length + (L.drop (q + 1)).length ≤ 4096 := by rw [htl, hdl]; omega
              obtain ⟨vq, hvq⟩ : ∃ vq, vq = v1 := ⟨_, rfl⟩
              have HZ := Lib.hid hg1.size
              have HY := Lib.hid (And.intro hsc2 (And.intro hrl2 (And.intro hrc2 (And.intro hv1n hvq))))
              simp only [List.nil_append] at hr1
              clear hrem2 e1 e2 hdx
              clear hrl hrc hne hsc hperm hCl htC htj htj2 ht hq hm hv1n hsc2 hrl2 hrc2 hg1 hv1 hvq hnews1 hlt24 hB24
              have HN2 := Lib.hid (And.intro hnews2 (And.intro hdl hdL))
              have HR1 := Lib.hid (And.intro hr1 (And.intro hlt25 hB25))
              clear hnews2 hdl hdL hr1 hlt25 hB25 htl
              have hqc : q + 1 ≤ m := hqm
              obtain ⟨off3, hoff3⟩ : ∃ off3, off3 = if cap2 = q + 1 then off2 else off2 + (q + 1) := ⟨_, rfl⟩
              have hsl := run_slice_low g off2 m cap2 (q + 1) hqc w2
              rw [← hoff3] at hsl
              have hN4 := news_drop hoff3 hcap2 HN2.out.2.1 HN2.out.1
              rw [show (((q + 1 : Nat)) : Int) = (q : Int) + 1 from rfl] at hsl
              refine wp_region_lit ?_
              refine wpList_val rfl (some 78) rfl v1 rfl ?_
              simp only [Act.put, List.setIfInBounds_toArray, List.set_cons_zero, List.set_cons_succ]
              refine wpList_val rfl (some 79) rfl (.slice (some ⟨g, off2, none⟩) m cap2) rfl ?_
              simp only [Act.put, List.setIfInBounds_toArray, List.set_cons_zero, List.set_cons_succ]
              refine wpList_val rfl (some 80) rfl (.int .i64 (q : Int)) rfl ?_
              simp only [Act.put, List.setIfInBounds_toArray, List.set_cons_zero, List.set_cons_succ]
              refine wpList_val rfl (some 81) rfl (.int .i64 ((q : Int) + 1)) (by have hw5 := wrapN hqm hm64; go_simp) ?_
              simp only [Act.put, List.setIfInBounds_toArray, List.set_cons_zero, List.set_cons_succ]
              refine wpList_val rfl (some 82) rfl (.slice (some ⟨g, off3, none⟩) (m - (q + 1)) (cap2 - (q + 1))) (exec_slice_low rfl rfl rfl hsl) ?_
              simp only [Act.put, List.setIfInBounds_toArray, List.set_cons_zero, List.set_cons_succ]
              refine wpList_append_Z rfl _ _ rfl rfl HR1.out.1 HR1.out.2.1 HR1.out.2.2 (L.drop (q + 1)) ⟨g, off3, none⟩ (m - (q + 1)) (cap2 - (q + 1)) rfl HN2.out.2.1 hN4 HN2.out.2.2 ?_
              intro v2 w3 hr2 hg2 hv2
              simp only [Act.put, List.setIfInBounds_toArray, List.set_cons_zero, List.set_cons_succ]
              refine wpList_val rfl (some 8) rfl v2 rfl ?_
              simp only [Act.put, List.setIfInBounds_toArray, List.set_cons_zero, List.set_cons_succ]
              refine wpList_nil ?_
              clear hsl hN4 hoff3
              go_wp2_with fail
              obtain ⟨hsc2, hrl2, hrc2, hv1n, hvq⟩ := HY.out
              obtain ⟨hrl, hrc, hne, hsc, hperm, hCl, htC, htj, htj2, ht, hq, hm⟩ := HX.out
              have hsw : wr.heap.size ≤ w2.heap.size := HZ.out
              have hsc3 := hsc2.grown HR1.out.1 hg2
              have hvlt : ∀ g', u12.ownBlock = some g' → g' < wr.heap.size := fun g' hg' => hrc.own.lt hg'
              have hrc3 := hrc2.grown hg2 (fun g' hg' e => Nat.not_le_of_lt (hvlt g' hg') (hv1n g' e.symm))
              have hv2n : ∀ g', v2.ownBlock = some g' → wr.heap.size ≤ g' := fun g' hg' => by
                rcases hv2 g' hg' with e | e
                · exact hv1n g' e
                · exact Nat.le_trans hsw e
              have hs := fS_lock (n := k) (j := tj) (lk := lk) (D := C) htj hneg (by rw [← htj2]; exact htC)
              rw [← htj2] at hs
              have HC := lock12 hsc3.q (x := t) (n := lk) (by rw [htj2]; exact wfi (by omega) (by omega)) (wfi hneg hlk2) hlk2 (by show (fL lk C).length < _; cases C <;> simp [fL])
              rw [hs.1, hs.2] at HC
              have hb01 : C.isEmpty = ((j : Int) == 0) := by
                rw [← hCl]; cases C <;> simp; omega
              rw [hb01] at HC
              have HC := Lib.hid HC
              have HW := Lib.hid (And.intro hsc3 (And.intro hrc3 (And.intro hr2 (And.intro hvlt (And.intro hv2n hsw)))))
              obtain ⟨b0, hb0⟩ : ∃ b0, b0 = ((j : Int) == 0) := ⟨_, rfl⟩
              rw [← hb0] at HC
              have HB0 := Lib.hid hb0
              clear hsc2 hrl2 hrc2 hv1n hvq hrl hrc hne hsc hperm hCl htC htj htj2 ht hq hm hsw hsc3 hvlt hrc3 hv2n hs hb01 hb0 hr2 hg2 hv2
              refine HC.out.mono ?_
              rintro e w4 ⟨rfl, hq4, ht4⟩
              obtain ⟨hsc3, hrc3, hr2, hvlt, hv2n, hsw⟩ := HW.out
              have hsc4 := hsc3.step hq4 ht4
              have hrc4 := hrc3.turn ht4
              have hr4 := hr2.turn ht4
              have hBe4 : Below w4.heap.size w4 (w4.alloc (.cells #[.int .i64 t] 3)) := (Below.refl _ w4).alloc (Nat.le_refl _) _
              have hrc5 := hrc4.below hBe4
              have hr5 := hr4.below hBe4
              have hsc5 := hsc4.next hBe4
              have hlt5 := hsc5.q.lt
              have hB5 := hsc5.size
              have hC64 : C.length + 1 ≤ 4096 := by
                have := HX.out.2.2.2.2.2.1
                rw [this]; omega
              have HV := Lib.hid (And.intro hrc5 (And.intro hr5 (And.intro hsc5 (And.intro hlt5 (And.intro hB5 (And.intro hC64 (And.intro ht4.size (fun (g' : Nat) (h' : v2.ownBlock = some g') => hr2.own.lt h'))))))))
              clear hsc3 hrc3 hr2 hvlt hv2n hsw hsc4 hrc4 hr4 hrc5 hr5 hsc5 hlt5 hB5 hC64 hBe4 hq4 ht4
              have hdj : ((j : Int) == 0) = b0 := HB0.out.symm
              cases b0
              all_goals (
                go_wp2_with (at_builtin; refine wpList_append_Z rfl _ _ rfl rfl HV.out.1 HV.out.2.2.2.1 HV.out.2.2.2.2.1 [t] ⟨w4.heap.size, 0, none⟩ 1 1 rfl rfl (cell_one_new' _ _ _) HV.out.2.2.2.2.2.1 ?_; intro v5 w5 hr6 hg6 hv6)
                have HU := Lib.hid (And.intro hr6 (And.intro hg6 hv6))
                clear hr6 hg6 hv6
                go_roundw
                case rel =>
                  obtain ⟨hr6, hg6, hv6⟩ := HU.out
                  obtain ⟨hrc5, hr5, hsc5, hlt5, hB5, hC64, hsz4, hlt2⟩ := HV.out
                  obtain ⟨hrl, hrc, hne, hsc, hperm, hCl, htC, htj, htj2, ht, hq, hm⟩ := HX.out
                  obtain ⟨hsc3, hrc3, hr2, hvlt, hv2n, hsw⟩ := HW.out
                  have hrl6 := hr5.grown hg6 (fun g' hg' e => Nat.not_le_of_lt (hvlt g' e.symm) (hv2n g' hg'))
                  refine ⟨j + 1, _, L.take q ++ L.drop (q + 1), C ++ [t], by omega, by go_num, hrl6, hr6, fun g' hg' hg'' => ?_, hsc5.grown hrc5 hg6, ?_, by rw [List.length_append, hCl]; rfl⟩
                  · rcases hv6 g' hg'' with e | e
                    · exact Nat.not_le_of_lt (hvlt g' e) (hv2n g' hg')
                    · have h7 := hlt2 g' hg'
                      have h8 : (w4.alloc (.cells #[.int .i64 t] 3)).heap.size = w4.heap.size + 1 := by simp
                      rw [h8] at e
                      omega
                  · have := cut_perm hqL
                    rw [← ht] at this
                    have h9 : (L.take q ++ L.drop (q + 1) ++ (C ++ [t])).Perm (L ++ C) := by
                      refine List.Perm.trans ?_ (List.Perm.append_right C this)
                      simp only [List.append_assoc]
                      refine List.Perm.append_left _ (List.Perm.append_left _ ?_)
                      exact List.perm_append_comm
                    exact h9.trans hperm
                case measure => simp [intOf]; omega)
            · have hdx : decide (x < 0) = false := decide_eq_false hneg2
              rw [if_neg hneg2] at hnn2
              subst hnn2
              have hrem3 : nn % (m : Int) = (q : Int) := by rw [← Int.tmod_eq_emod_of_nonneg hnn0]; exact hrem
              clear hneg2
              go_upto_region 24 with fail
              have hnews1 : ∀ j u, ((L.take q).map (Value.int .i64))[j]? = some u → wr.cell? ((⟨g, off2, none⟩ : Addr).add j) = some u := by
                intro j u hu
                have hj1 : j < q := by have := (List.getElem?_eq_some_iff.1 hu).1; simp at this; omega
                rw [add_lit2]
                have hr0 := HX.out.1.own
                have hmm := HX.out.2.2.2.2.2.2.2.2.2.2.2
                rw [← hmm] at hr0
                rw [hr0.cell (by omega)]
                rw [List.map_take, List.getElem?_take, if_pos hj1] at hu
                exact hu
              have hlt24 := HX.out.2.2.2.1.q.lt
              have hB24 := HX.out.2.2.2.1.size
              have htl : (L.take q).length = q := by rw [List.length_take]; omega
              go_upto_region 25 with (at_builtin; refine wpList_append_Z rfl _ _ rfl rfl (RowZ.nil G2 B wr) hlt24 hB24 (L.take q) ⟨g, off2, none⟩ q cap2 rfl htl hnews1 (by simp; omega) ?_; intro v1 w2 hr1 hg1 hv1)
              obtain ⟨hrl, hrc, hne, hsc, hperm, hCl, htC, htj, htj2, ht, hq, hm⟩ := HX.out
              have hv1n : ∀ g', v1.ownBlock = some g' → wr.heap.size ≤ g' := fun g' h => by
                rcases hv1 g' h with h | h
                · cases h
                · exact h
              have hsc2 := hsc.grown (RowZ.nil G2 B wr) hg1
              have hrl2 := hrl.grown hg1 (fun g' _ e => by cases e)
              have hrc2 := hrc.grown hg1 (fun g' _ e => by cases e)
              have hnews2 : ∀ j u, ((L.drop (q + 1)).map (Value.int .i64))[j]? = some u → w2.cell? ((⟨g, off2 + (q + 1), none⟩ : Addr).add j) = some u := by
                intro j u hu
                have hj1 : j < m - (q + 1) := by have := (List.getElem?_eq_some_iff.1 hu).1; simp at this; omega
                rw [add_lit2, Nat.add_assoc]
                have hr0 := hrl2.own
                rw [← hm] at hr0
                rw [hr0.cell (by omega)]
                rw [List.map_drop, List.getElem?_drop] at hu
                exact hu
              have hdl : (L.drop (q + 1)).length = m - (q + 1) := by rw [List.length_drop]; omega
              have hlt25 := hsc2.q.lt
              have hB25 := hsc2.size
              have hdL : (L.take q).length + (L.drop (q + 1)).length ≤ 4096 := by rw [htl, hdl]; omega
              obtain ⟨vq, hvq⟩ : ∃ vq, vq = v1 := ⟨_, rfl⟩
              have HZ := Lib.hid hg1.size
              have HY := Lib.hid (And.intro hsc2 (And.intro hrl2 (And.intro hrc2 (And.intro hv1n hvq))))
              simp only [List.nil_append] at hr1
              clear hrem hrem3 hdx
              clear hrl hrc hne hsc hperm hCl htC htj htj2 ht hq hm hv1n hsc2 hrl2 hrc2 hg1 hv1 hvq hnews1 hlt24 hB24
              have HN2 := Lib.hid (And.intro hnews2 (And.intro hdl hdL))
              have HR1 := Lib.hid (And.intro hr1 (And.intro hlt25 hB25))
              clear hnews2 hdl hdL hr1 hlt25 hB25 htl
              have hqc : q + 1 ≤ m := hqm
              obtain ⟨off3, hoff3⟩ : ∃ off3, off3 = if cap2 = q + 1 then off2 else off2 + (q + 1) := ⟨_, rfl⟩
              have hsl := run_slice_low g off2 m cap2 (q + 1) hqc w2
              rw [← hoff3] at hsl
              have hN4 := news_drop hoff3 hcap2 HN2.out.2.1 HN2.out.1
              rw [show (((q + 1 : Nat)) : Int) = (q : Int) + 1 from rfl] at hsl
              refine wp_region_lit ?_
              refine wpList_val rfl (some 78) rfl v1 rfl ?_
              simp only [Act.put, List.setIfInBounds_toArray, List.set_cons_zero, List.set_cons_succ]
              refine wpList_val rfl (some 79) rfl (.slice (some ⟨g, off2, none⟩) m cap2) rfl ?_
              simp only [Act.put, List.setIfInBounds_toArray, List.set_cons_zero, List.set_cons_succ]
              refine wpList_val rfl (some 80) rfl (.int .i64 (q : Int)) rfl ?_
              simp only [Act.put, List.setIfInBounds_toArray, List.set_cons_zero, List.set_cons_succ]
              refine wpList_val rfl (some 81) rfl (.int .i64 ((q : Int) + 1)) (by have hw5 := wrapN hqm hm64; go_simp) ?_
              simp only [Act.put, List.setIfInBounds_toArray, List.set_cons_zero, List.set_cons_succ]
              refine wpList_val rfl (some 82) rfl (.slice (some ⟨g, off3, none⟩) (m - (q + 1)) (cap2 - (q + 1))) (exec_slice_low rfl rfl rfl hsl) ?_
              simp only [Act.put, List.setIfInBounds_toArray, List.set_cons_zero, List.set_cons_succ]
              refine wpList_append_Z rfl _ _ rfl rfl HR1.out.1 HR1.out.2.1 HR1.out.2.2 (L.drop (q + 1)) ⟨g, off3, none⟩ (m - (q + 1)) (cap2 - (q + 1)) rfl HN2.out.2.1 hN4 HN2.out.2.2 ?_
              intro v2 w3 hr2 hg2 hv2
              simp only [Act.put, List.setIfInBounds_toArray, List.set_cons_zero, List.set_cons_succ]
              refine wpList_val rfl (some 8) rfl v2 rfl ?_
              simp only [Act.put, List.setIfInBounds_toArray, List.set_cons_zero, List.set_cons_succ]
              refine wpList_nil ?_
              clear hsl hN4 hoff3
              go_wp2_with fail
              obtain ⟨hsc2, hrl2, hrc2, hv1n, hvq⟩ := HY.out
              obtain ⟨hrl, hrc, hne, hsc, hperm, hCl, htC, htj, htj2, ht, hq, hm⟩ := HX.out
              have hsw : wr.heap.size ≤ w2.heap.size := HZ.out
              have hsc3 := hsc2.grown HR1.out.1 hg2
              have hvlt : ∀ g', u12.ownBlock = some g' → g' < wr.heap.size := fun g' hg' => hrc.own.lt hg'
              have hrc3 := hrc2.grown hg2 (fun g' hg' e => Nat.not_le_of_lt (hvlt g' hg') (hv1n g' e.symm))
              have hv2n : ∀ g', v2.ownBlock = some g' → wr.heap.size ≤ g' := fun g' hg' => by
                rcases hv2 g' hg' with e | e
                · exact hv1n g' e
                · exact Nat.le_trans hsw e
              have hs := fS_lock (n := k) (j := tj) (lk := lk) (D := C) htj hneg (by rw [← htj2]; exact htC)
              rw [← htj2] at hs
              have HC := lock12 hsc3.q (x := t) (n := lk) (by rw [htj2]; exact wfi (by omega) (by omega)) (wfi hneg hlk2) hlk2 (by show (fL lk C).length < _; cases C <;> simp [fL])
              rw [hs.1, hs.2] at HC
              have hb01 : C.isEmpty = ((j : Int) == 0) := by
                rw [← hCl]; cases C <;> simp; omega
              rw [hb01] at HC
              have HC := Lib.hid HC
              have HW := Lib.hid (And.intro hsc3 (And.intro hrc3 (And.intro hr2 (And.intro hvlt (And.intro hv2n hsw)))))
              obtain ⟨b0, hb0⟩ : ∃ b0, b0 = ((j : Int) == 0) := ⟨_, rfl⟩
              rw [← hb0] at HC
              have HB0 := Lib.hid hb0
              clear hsc2 hrl2 hrc2 hv1n hvq hrl hrc hne hsc hperm hCl htC htj htj2 ht hq hm hsw hsc3 hvlt hrc3 hv2n hs hb01 hb0 hr2 hg2 hv2
              refine HC.out.mono ?_
              rintro e w4 ⟨rfl, hq4, ht4⟩
              obtain ⟨hsc3, hrc3, hr2, hvlt, hv2n, hsw⟩ := HW.out
              have hsc4 := hsc3.step hq4 ht4
              have hrc4 := hrc3.turn ht4
              have hr4 := hr2.turn ht4
              have hBe4 : Below w4.heap.size w4 (w4.alloc (.cells #[.int .i64 t] 3)) := (Below.refl _ w4).alloc (Nat.le_refl _) _
              have hrc5 := hrc4.below hBe4
              have hr5 := hr4.below hBe4
              have hsc5 := hsc4.next hBe4
              have hlt5 := hsc5.q.lt
              have hB5 := hsc5.size
              have hC64 : C.length + 1 ≤ 4096 := by
                have := HX.out.2.2.2.2.2.1
                rw [this]; omega
              have HV := Lib.hid (And.intro hrc5 (And.intro hr5 (And.intro hsc5 (And.intro hlt5 (And.intro hB5 (And.intro hC64 (And.intro ht4.size (fun (g' : Nat) (h' : v2.ownBlock = some g') => hr2.own.lt h'))))))))
              clear hsc3 hrc3 hr2 hvlt hv2n hsw hsc4 hrc4 hr4 hrc5 hr5 hsc5 hlt5 hB5 hC64 hBe4 hq4 ht4
              have hdj : ((j : Int) == 0) = b0 := HB0.out.symm
              cases b0
              all_goals (
                go_wp2_with (at_builtin; refine wpList_append_Z rfl _ _ rfl rfl HV.out.1 HV.out.2.2.2.1 HV.out.2.2.2.2.1 [t] ⟨w4.heap.size, 0, none⟩ 1 1 rfl rfl (cell_one_new' _ _ _) HV.out.2.2.2.2.2.1 ?_; intro v5 w5 hr6 hg6 hv6)
                have HU := Lib.hid (And.intro hr6 (And.intro hg6 hv6))
                clear hr6 hg6 hv6
                go_roundw
                case rel =>
                  obtain ⟨hr6, hg6, hv6⟩ := HU.out
                  obtain ⟨hrc5, hr5, hsc5, hlt5, hB5, hC64, hsz4, hlt2⟩ := HV.out
                  obtain ⟨hrl, hrc, hne, hsc, hperm, hCl, htC, htj, htj2, ht, hq, hm⟩ := HX.out
                  obtain ⟨hsc3, hrc3, hr2, hvlt, hv2n, hsw⟩ := HW.out
                  have hrl6 := hr5.grown hg6 (fun g' hg' e => Nat.not_le_of_lt (hvlt g' e.symm) (hv2n g' hg'))
                  refine ⟨j + 1, _, L.take q ++ L.drop (q + 1), C ++ [t], by omega, by go_num, hrl6, hr6, fun g' hg' hg'' => ?_, hsc5.grown hrc5 hg6, ?_, by rw [List.length_append, hCl]; rfl⟩
                  · rcases hv6 g' hg'' with e | e
                    · exact Nat.not_le_of_lt (hvlt g' e) (hv2n g' hg')
                    · have h7 := hlt2 g' hg'
                      have h8 : (w4.alloc (.cells #[.int .i64 t] 3)).heap.size = w4.heap.size + 1 := by simp
                      rw [h8] at e
                      omega
                  · have := cut_perm hqL
                    rw [← ht] at this
                    have h9 : (L.take q ++ L.drop (q + 1) ++ (C ++ [t])).Perm (L ++ C) := by
                      refine List.Perm.trans ?_ (List.Perm.append_right C this)
                      simp only [List.append_assoc]
                      refine List.Perm.append_left _ (List.Perm.append_left _ ?_)
                      exact List.perm_append_comm
                    exact h9.trans hperm
                case measure => simp [intOf]; omega)
          · have hj' : j = k := by omega
            subst hj'
            have hL0 : L = [] := List.eq_nil_of_length_eq_zero (by omega)
            subst hL0
            have HX := Lib.hid (And.intro hrc (And.intro hsc (And.intro hperm hCl)))
            clear hrl hrc hne hsc hperm hCl hLl
            go_wp2_with fail
            obtain ⟨vc, hvc⟩ : ∃ x, x = u12 := ⟨_, rfl⟩
            rw [← hvc] at HX ⊢
            go_loopw [19] (fun ii wr => ∃ (i : Nat) (G : Nat → Prop), i ≤ j ∧ ii = .int .i64 i ∧ RowZ G B wr vc C ∧ Sch B w1 G S wr (fS j lk (C.drop i))) (fun ii _ => j - (intOf ii).toNat)
            case atStart => exact ⟨0, G2, by omega, rfl, HX.out.1, HX.out.2.1⟩
            case round =>
              obtain ⟨i, G3, hi, rfl, hrc, hsc⟩ := hrel
              have hCl := HX.out.2.2.2
              have hperm := HX.out.2.2.1
              rw [List.nil_append] at hperm
              have hnd : C.Nodup := hperm.nodup_iff.2 (ups_nodup j)
              have hin : ∀ x ∈ C, ∃ m, m < j ∧ x = (m : Int) + 1 := fun x hx => ups_mem (hperm.mem_iff.1 hx)
              by_cases hlt3 : i < j
              · have hiC : i < C.length := by omega
                obtain ⟨g, off2, cap2, hvl, hgB, hcap2, hmax2⟩ := hrc.own.form (by omega)
                rw [hCl] at hvl hcap2
                obtain ⟨c, hc⟩ : ∃ c, c = C[i] := ⟨_, rfl⟩
                have hr0 : ownsIn wr B 3 (.slice (some ⟨g, off2, none⟩) j cap2) j (C.map (Value.int .i64)) := by have := hrc.own; rw [hCl, hvl] at this; exact this
                have hct : wr.cell? ⟨g, off2 + i, none⟩ = some (.int .i64 c) := by rw [hr0.cell hlt3]; simp [hiC, hc]
                have hgl : g < wr.heap.size := hr0.lt rfl
                have hdrop : C.drop i = c :: C.drop (i + 1) := by rw [hc]; exact List.drop_eq_getElem_cons hiC
                obtain ⟨m, hm, hcm⟩ := hin c (by rw [hc]; exact List.getElem_mem hiC)
                have hdn : (C.drop (i + 1)).Nodup := hnd.sublist (List.drop_sublist _ _)
                have hdin : ∀ x ∈ C.drop (i + 1), ∃ m, m < j ∧ x = (m : Int) + 1 := fun x hx => hin x (List.mem_of_mem_drop hx)
                have hrl := fS_readyLen (n := j) (lk := lk) (D := C.drop i) (by rw [hdrop]; exact hdn) (by rw [hdrop]; exact hdin)
                rw [hdrop] at hrl hsc
                have hrl2 : (readyL (fS j lk (c :: C.drop (i + 1)))).length = i + 1 := by
                  have h1 : (c :: C.drop (i + 1)).tail.length = j - (i + 1) := by show (C.drop (i + 1)).length = _; rw [List.length_drop]; omega
                  omega
                have hmk : (fS j lk (c :: C.drop (i + 1))).made < 4611686018427387904 := by show j < _; omega
                have hun := fS_unlock (n := j) (j := m) (lk := lk) (r := C.drop (i + 1)) hm hneg hdn hdin
                rw [← hcm] at hun
                have hcw : (Lit.int .i64 c).wf = true := by rw [hcm]; exact wfi (by omega) (by omega)
                have h13 : ∀ w', Below wr.heap.size wr w' → Calls Try.prog 13 #[.pointer (some ⟨S, 0, none⟩), .int .i64 lk] w' fun e w'' => e = .returned (.int .i64 c) ∧ w' = w'' := fun w' hb => by
                  have := holder13 (hsc.next hb).q (n := lk) (wfi hneg hlk2)
                  rw [fS_holder] at this
                  exact this
                have h14 : ∀ w', Below wr.heap.size wr w' → Calls Try.prog 14 #[.pointer (some ⟨S, 0, none⟩)] w' fun e w'' => ∃ a4 c4, e = .returned (.slice a4 (i + 1) c4) ∧ Below wr.heap.size wr w'' := fun w' hb => by
                  refine (ready14 (hsc.next hb).q hmk).mono ?_
                  rintro e w'' ⟨v, rfl, ho, hb2⟩
                  rw [hrl2] at ho
                  obtain ⟨a4, c4, rfl⟩ := owns_form ho
                  exact ⟨a4, c4, rfl, hb.trans (hb2.mono hb.size)⟩
                have H13 := Lib.hid h13
                have H14 := Lib.hid h14
                have HGL := Lib.hid hgl
                have HCT := Lib.hid hct
                have HX3 := Lib.hid (And.intro hrc (And.intro hsc (And.intro hun (And.intro hcw (And.intro hvl hmk)))))
                have hdi : decide ((i : Int) < (j : Int)) = true := decide_eq_true (by omega)
                have hw9 : IntKind.i64.wrap ((i : Int) + 1) = (i : Int) + 1 := wrapI (by omega) (by omega)
                have hwi : wrap64 ((i : Int) + 1) = (i : Int) + 1 := w64 (by omega)
                clear hrc hsc hCl hperm hnd hin hc hr0 hct hgl hdrop hm hcm hdn hdin hrl hrl2 hun hcw h13 h14 hgB hmk hiC
                rw [hvl]
                clear hvl
                go_wp2_with fail
                have HS0 : Below wr.heap.size wr wr.drew := (Below.refl _ wr).drew
                refine hp_start (fun w' => Below wr.heap.size wr w') 16 rfl (by kernel_rfl) (fun c a a' w hd h => ⟨hd ▸ h.1, h.2⟩) (fun hP => ?_)
                rw [show Array.replicate 16 false = #[false, false, false, false, false, false, false, false, false, false, false, false, false, false, false, false] from rfl]
                refine hp_take hP 0 (some 108) _ rfl rfl (by kernel_rfl) rfl (fun w' hS' => by go_simp; rfl) HS0 ?_
                simp only [Act.put, List.setIfInBounds_toArray, List.set_cons_zero, List.set_cons_succ]
                refine hp_take hP 1 (some 109) _ rfl rfl (by kernel_rfl) rfl (fun w' hS' => by go_simp; rfl) HS0 ?_
                simp only [Act.put, List.setIfInBounds_toArray, List.set_cons_zero, List.set_cons_succ]
                refine hp_take hP 3 (some 111) _ rfl rfl (by kernel_rfl) rfl (fun w' hS' => by go_simp; rfl) HS0 ?_
                simp only [Act.put, List.setIfInBounds_toArray, List.set_cons_zero, List.set_cons_succ]
                refine hp_take hP 4 (some 112) _ rfl rfl (by kernel_rfl) rfl (fun w' hS' => by go_simp; rfl) HS0 ?_
                simp only [Act.put, List.setIfInBounds_toArray, List.set_cons_zero, List.set_cons_succ]
                refine hp_take hP 5 (some 113) (.pointer (some ⟨g, off2 + i, none⟩)) rfl rfl (by kernel_rfl) rfl (fun w' hS' => by go_simp; try rfl) HS0 ?_
                simp only [Act.put, List.setIfInBounds_toArray, List.set_cons_zero, List.set_cons_succ]
                refine hp_take hP 6 (some 114) (.int .i64 c) rfl rfl (by kernel_rfl) rfl (fun w' hS' => by have cc := (hS'.cell (p := ⟨g, off2 + i, none⟩) (by exact HGL.out)).trans HCT.out; go_simp; try rfl) HS0 ?_
                simp only [Act.put, List.setIfInBounds_toArray, List.set_cons_zero, List.set_cons_succ]
                refine hp_call 2 (some 110) rfl rfl (by kernel_rfl) rfl 13 #[.pointer (some ⟨S, 0, none⟩), .int .i64 lk] (by go_simp; try rfl) ((H13.out _ HS0).mono ?_)
                rintro e wz ⟨rfl, rfl⟩
                refine ⟨_, rfl, HS0, ?_⟩
                have HS1 := HS0
                simp only [Act.put, List.setIfInBounds_toArray, List.set_cons_zero, List.set_cons_succ]
                refine hp_take hP 7 (some 115) (.bool false) rfl rfl (by kernel_rfl) rfl (fun w' hS' => by first | (go_simp; done) | (go_simp; rfl) | (go_simp; simp; done) | (go_simp; simp [hwi]; done) | (go_simp; exact hw9) | (go_simp; rw [hw9]; done) | (go_simp; rw [hw9]; rfl)) HS1 ?_
                simp only [Act.put, List.setIfInBounds_toArray, List.set_cons_zero, List.set_cons_succ]
                refine hp_take hP 8 (some 116) _ rfl rfl (by kernel_rfl) rfl (fun w' hS' => by go_simp; rfl) HS1 ?_
                simp only [Act.put, List.setIfInBounds_toArray, List.set_cons_zero, List.set_cons_succ]
                refine hp_take hP 9 (some 117) _ rfl rfl (by kernel_rfl) rfl (fun w' hS' => by go_simp; rfl) HS1 ?_
                simp only [Act.put, List.setIfInBounds_toArray, List.set_cons_zero, List.set_cons_succ]
                refine hp_take hP 12 (some 120) _ rfl rfl (by kernel_rfl) rfl (fun w' hS' => by go_simp; rfl) HS1 ?_
                simp only [Act.put, List.setIfInBounds_toArray, List.set_cons_zero, List.set_cons_succ]
                refine hp_take hP 13 (some 121) (.int .i64 ((i : Int) + 1)) rfl rfl (by kernel_rfl) rfl (fun w' hS' => by first | (go_simp; done) | (go_simp; rfl) | (go_simp; simp; done) | (go_simp; simp [hwi]; done) | (go_simp; exact hw9) | (go_simp; rw [hw9]; done) | (go_simp; rw [hw9]; rfl)) HS1 ?_
                simp only [Act.put, List.setIfInBounds_toArray, List.set_cons_zero, List.set_cons_succ]
                refine hp_call 10 (some 118) rfl rfl (by kernel_rfl) rfl 14 #[.pointer (some ⟨S, 0, none⟩)] (by go_simp; try rfl) ((H14.out _ HS1).mono ?_)
                rintro e w4 ⟨a4, c4, rfl, hb4⟩
                have HS2 : Below wr.heap.size wr w4 := hb4
                refine ⟨_, rfl, HS2, ?_⟩
                simp only [Act.put, List.setIfInBounds_toArray, List.set_cons_zero, List.set_cons_succ]
                refine hp_take hP 11 (some 119) (.int .i64 ((i : Int) + 1)) rfl rfl (by kernel_rfl) rfl (fun w' hS' => by first | (go_simp; done) | (go_simp; rfl) | (go_simp; simp; done) | (go_simp; simp [hwi]; done) | (go_simp; exact hw9) | (go_simp; rw [hw9]; done) | (go_simp; rw [hw9]; rfl)) HS2 ?_
                simp only [Act.put, List.setIfInBounds_toArray, List.set_cons_zero, List.set_cons_succ]
                refine hp_take hP 14 (some 122) (.bool false) rfl rfl (by kernel_rfl) rfl (fun w' hS' => by first | (go_simp; done) | (go_simp; rfl) | (go_simp; simp; done) | (go_simp; simp [hwi]; done) | (go_simp; exact hw9) | (go_simp; rw [hw9]; done) | (go_simp; rw [hw9]; rfl)) HS2 ?_
                simp only [Act.put, List.setIfInBounds_toArray, List.set_cons_zero, List.set_cons_succ]
                refine hp_take hP 15 (some 123) (.bool false) rfl rfl (by kernel_rfl) rfl (fun w' hS' => by first | (go_simp; done) | (go_simp; rfl) | (go_simp; simp; done) | (go_simp; simp [hwi]; done) | (go_simp; exact hw9) | (go_simp; rw [hw9]; done) | (go_simp; rw [hw9]; rfl)) HS2 ?_
                simp only [Act.put, List.setIfInBounds_toArray, List.set_cons_zero, List.set_cons_succ]
                refine hk_done (by kernel_rfl) ?_
                have hc4 : w4.cell? ⟨g, off2 + i, none⟩ = some (.int .i64 c) := (HS2.cell (p := ⟨g, off2 + i, none⟩) (by exact HGL.out)).trans HCT.out
                have hsc4 := HX3.out.2.1.next HS2
                have HUN := unlock15 hsc4.q (x := c) (n := lk) HX3.out.2.2.2.1 (wfi hneg hlk2) (.inr trivial) HX3.out.2.2.2.2.2
                rw [HX3.out.2.2.1.1, HX3.out.2.2.1.2] at HUN
                have HUN := Lib.hid HUN
                have HY3 := Lib.hid (And.intro hsc4 (HX3.out.1.below HS2))
                clear hsc4 HS0 HS1 HS2 hb4
                go_wp2_with fail
                refine HUN.out.mono ?_
                rintro e w5 ⟨rfl, hq5, ht5⟩
                have HZ3 := Lib.hid (And.intro (HY3.out.1.step hq5 ht5) (HY3.out.2.turn ht5))
                clear hq5 ht5
                go_wp2_with fail
                go_roundw
                case rel => exact ⟨i + 1, _, by omega, by go_num, by first | exact HZ3.out.2 | (rw [HX3.out.2.2.2.2.1]; exact HZ3.out.2) | (have := HZ3.out.2; rw [HX3.out.2.2.2.2.1] at this; exact this), HZ3.out.1⟩
                case measure => simp [intOf]; omega
              · have hi' : i = j := by omega
                have hdi : decide ((i : Int) < (j : Int)) = false := decide_eq_false (by omega)
                rw [hi', show C.drop j = [] from List.drop_eq_nil_of_le (by omega)] at hsc
                have H13 := holder13 hsc.q (n := lk) (wfi hneg hlk2)
                rw [fS_holder] at H13
                have H13 := Lib.hid H13
                have H16 := stuck16 hsc.q (by show j < _; omega)
                rw [fS_stuck] at H16
                have H16 := Lib.hid H16
                have HSC := Lib.hid hsc
                clear hsc hrc hCl hperm hnd hin hi'
                go_wp2_with fail
                refine H13.out.mono ?_
                rintro e w4 ⟨rfl, rfl⟩
                go_wp2_with fail
                refine H16.out.mono ?_
                rintro e w4 ⟨rfl, hb4⟩
                have HB4 := Lib.hid hb4
                clear hb4
                go_wp2_with fail
                go_ret
                have hz := (HSC.out.next HB4.out).below
                rw [HB.out.2] at hz
                exact ⟨rfl, Below.call HB.out.1 hz⟩
  · subst hc2
    go_wp2_with fail
    clear hc1 HCASE
    go_loopw [8, 9] (fun v i wr => ∃ (k : Nat) (G : Nat → Prop), k ≤ n ∧ i = .int .i64 k ∧ RowZ G B wr v (ups k) ∧ Sch B w1 G S wr (st k (fun _ => 0))) (fun _ i _ => n - (intOf i).toNat)
    case atStart =>
      obtain ⟨G, hG⟩ := HQ0.out
      exact ⟨0, G, by omega, rfl, RowZ.nil _ _ _, hG⟩
    case round =>
      obtain ⟨k, G, hk, rfl, hrz, hsc⟩ := hrel
      have HR := Lib.hid (And.intro hrz hsc)
      by_cases hlt : k < n
      · have hs := st_start (n := k) (by omega)
        have HC := start11 hsc.q (by show k < _; omega)
        rw [hs.1, hs.2] at HC
        have HC := Lib.hid HC
        clear hs hrz hsc
        go_wp2_with fail
        refine HC.out.mono ?_
        rintro e w3 ⟨rfl, hq, ht⟩
        have hsc3 := HR.out.2.step hq ht
        have hrz3 := HR.out.1.turn ht
        have hB3 := hsc3.size
        have HS3 := Lib.hid hsc3
        have hrz4 := hrz3.below (w' := w3.alloc (.cells #[.int .i64 ((k : Int) + 1)] 3)) ((Below.refl _ w3).alloc (Nat.le_refl _) _)
        have hlt4 : ∀ j, Fn G wr w3 j → j < (w3.alloc (.cells #[.int .i64 ((k : Int) + 1)] 3)).heap.size := fun j hj => by have := hsc3.q.lt j hj; simp; omega
        have hB4 : B ≤ (w3.alloc (.cells #[.int .i64 ((k : Int) + 1)] 3)).heap.size := by simp; omega
        have hul := ups_len k
        clear hq ht hsc3 hrz3
        go_wp2_with (at_builtin; refine wpList_append_Z rfl _ _ rfl rfl hrz4 hlt4 hB4 [(k : Int) + 1] ⟨w3.heap.size, 0, none⟩ 1 1 rfl rfl (cell_one_new' _ _ _) (by rw [hul]; simp; omega) ?_; intro v' w4 hr' hg' hv')
        go_roundw
        case rel => exact ⟨k + 1, Fn G wr w3, by omega, by go_num, by rw [ups_succ]; exact hr', (HS3.out.next ((Below.refl _ w3).alloc (Nat.le_refl _) _)).grown hrz4 hg'⟩
        case measure => simp [intOf]; omega
      · have hk' : k = n := by omega
        subst hk'
        clear hrz hsc
        go_wp2_with fail
        clear hnx
        go_loopw [8, 12, 13] (fun vl vc i wr => ∃ (j : Nat) (G : Nat → Prop) (L C : List Int), j ≤ k ∧ i = .int .i64 j ∧ RowZ G B wr vl L ∧ RowZ G B wr vc C ∧ (∀ g, vl.ownBlock = some g → vc.ownBlock ≠ some g) ∧ Sch B w1 G S wr (fS k lk C) ∧ (L ++ C).Perm (ups k) ∧ C.length = j) (fun _ _ i _ => k - (intOf i).toNat)
        case atStart =>
          refine ⟨0, G, ups k, [], by omega, rfl, HR.out.1, RowZ.nil _ _ _, (fun g _ e => by cases e), ?_, by rw [List.append_nil], rfl⟩
          rw [fS_nil]; exact HR.out.2
        case round =>
          obtain ⟨j, G2, L, C, hj, rfl, hrl, hrc, hne, hsc, hperm, hCl⟩ := hrel
          have hLl : L.length + j = k := by have := hperm.length_eq; rw [List.length_append, ups_len, hCl] at this; exact this
          by_cases hlt2 : j < k
          · have hd1 : decide ((j : Int) < (k : Int)) = true := decide_eq_true (by omega)
            obtain ⟨b, off, rfl, hb, hcl⟩ := HCELL.out (by omega)
            obtain ⟨x, hx⟩ : ∃ x, x = order.getD j 0 := ⟨_, rfl⟩
            have hck : wr.cell? ⟨b, off + j, none⟩ = some (.int .i64 x) := by
              rw [hsc.below.cell (by show b < _; rw [HB.out.2]; have := HB.out.1.size; omega), HB.out.1.cell (by exact hb), hcl j (by omega), hx]
              have : j < order.length := by rw [← HN0.out]; omega
              simp [List.getD_eq_getElem?_getD, this]
            have hxb := HBD.out j (by omega)
            rw [← hx] at hxb
            obtain ⟨g, off2, cap2, hvl, hgB, hcap2, hmax2⟩ := hrl.own.form (by omega)
            obtain ⟨m, hm⟩ : ∃ m, m = L.length := ⟨_, rfl⟩
            rw [← hm] at hvl hcap2
            subst hvl
            obtain ⟨q, hq⟩ : ∃ q, q = wheel x m := ⟨_, rfl⟩
            have hqm : q < m := by rw [hq]; exact wheel_lt _ _ (by omega)
            have hqL : q < L.length := by omega
            have hm64 : m ≤ 64 := by omega
            obtain ⟨t, ht⟩ : ∃ t, t = L[q] := ⟨_, rfl⟩
            have hrl' : ownsIn wr B 3 (.slice (some ⟨g, off2, none⟩) m cap2) m (L.map (Value.int .i64)) := by have := hrl.own; rw [← hm] at this; exact this
            have hct : wr.cell? ⟨g, off2 + q, none⟩ = some (.int .i64 t) := by rw [hrl'.cell hqm]; simp [hqL, ht]
            have htm : t ∈ ups k := hperm.mem_iff.1 (by rw [ht]; simp)
            obtain ⟨tj, htj, htj2⟩ := ups_mem htm
            have hnd : (L ++ C).Nodup := hperm.nodup_iff.2 (ups_nodup k)
            have htC : t ∉ C := fun hc => by
              have := (List.nodup_append.1 hnd).2.2
              exact this t (by rw [ht]; exact List.getElem_mem hqL) t hc rfl
            have HX := Lib.hid (And.intro hrl (And.intro hrc (And.intro hne (And.intro hsc (And.intro hperm (And.intro hCl (And.intro htC (And.intro htj (And.intro htj2 (And.intro ht (And.intro hq hm)))))))))))
            have hmj : m + j = k := by omega
            obtain ⟨nn, hnn2⟩ : ∃ nn : Int, nn = if x < 0 then -(x + 1) else x := ⟨_, rfl⟩
            have hnn0 : 0 ≤ nn := by rw [hnn2]; split <;> omega
            have hrem : nn.tmod (m : Int) = (q : Int) := by
              rw [Int.tmod_eq_emod_of_nonneg hnn0, hq]
              unfold wheel
              rw [← hnn2]
              have : (0 : Int) ≤ nn % (m : Int) := Int.emod_nonneg _ (by omega)
              omega
            have hm0 : ¬ (m : Int) = 0 := by omega
            have hm0' : 0 < m := by omega
            clear hrl hrc hne hsc hperm hCl htC htj htj2 ht hq hm hnd htm hx hcl hrl' hb hLl
            by_cases hneg2 : x < 0
            · have e1 : wrap64 (x + 1) = x + 1 := w64 (by omega)
              have e2 : wrap64 (-(x + 1)) = -(x + 1) := w64 (by omega)
              have hdx : decide (x < 0) = true := decide_eq_true hneg2
              rw [if_pos hneg2] at hnn2
              have hrem2 : (x + 1).tmod (m : Int) = -(q : Int) := by rw [hnn2, Int.neg_tmod] at hrem; omega
              clear hrem hnn2 hnn0 hneg2
              go_upto_region 24 with fail
              have hnews1 : ∀ j u, ((L.take q).map (Value.int .i64))[j]? = some u → wr.cell? ((⟨g, off2, none⟩ : Addr).add j) = some u := by
                intro j u hu
                have hj1 : j < q := by have := (List.getElem?_eq_some_iff.1 hu).1; simp at this; omega
                rw [add_lit2]
                have hr0 := HX.out.1.own
                have hmm := HX.out.2.2.2.2.2.2.2.2.2.2.2
                rw [← hmm] at hr0
                rw [hr0.cell (by omega)]
                rw [List.map_take, List.getElem?_take, if_pos hj1] at hu
                exact hu
              have hlt24 := HX.out.2.2.2.1.q.lt
              have hB24 := HX.out.2.2.2.1.size
              have htl : (L.take q).length = q := by rw [List.length_take]; omega
              go_upto_region 25 with (at_builtin; refine wpList_append_Z rfl _ _ rfl rfl (RowZ.nil G2 B wr) hlt24 hB24 (L.take q) ⟨g, off2, none⟩ q cap2 rfl htl hnews1 (by simp; omega) ?_; intro v1 w2 hr1 hg1 hv1)
              obtain ⟨hrl, hrc, hne, hsc, hperm, hCl, htC, htj, htj2, ht, hq, hm⟩ := HX.out
              have hv1n : ∀ g', v1.ownBlock = some g' → wr.heap.size ≤ g' := fun g' h => by
                rcases hv1 g' h with h | h
                · cases h
                · exact h
              have hsc2 := hsc.grown (RowZ.nil G2 B wr) hg1
              have hrl2 := hrl.grown hg1 (fun g' _ e => by cases e)
              have hrc2 := hrc.grown hg1 (fun g' _ e => by cases e)
              have hnews2 : ∀ j u, ((L.drop (q + 1)).map (Value.int .i64))[j]? = some u → w2.cell? ((⟨g, off2 + (q + 1), none⟩ : Addr).add j) = some u := by
                intro j u hu
                have hj1 : j < m - (q + 1) := by have := (List.getElem?_eq_some_iff.1 hu).1; simp at this; omega
                rw [add_lit2, Nat.add_assoc]
                have hr0 := hrl2.own
                rw [← hm] at hr0
                rw [hr0.cell (by omega)]
                rw [List.map_drop, List.getElem?_drop] at hu
                exact hu
              have hdl : (L.drop (q + 1)).length = m - (q + 1) := by rw [List.length_drop]; omega
              have hlt25 := hsc2.q.lt
              have hB25 := hsc2.size
              have hdL : (L.take q).length + (L.drop (q + 1)).length ≤ 4096 := by rw [htl, hdl]; omega
              obtain ⟨vq, hvq⟩ : ∃ vq, vq = v1 := ⟨_, rfl⟩
              have HZ := Lib.hid hg1.size
              have HY := Lib.hid (And.intro hsc2 (And.intro hrl2 (And.intro hrc2 (And.intro hv1n hvq))))
              simp only [List.nil_append] at hr1
              clear hrem2 e1 e2 hdx
              clear hrl hrc hne hsc hperm hCl htC htj htj2 ht hq hm hv1n hsc2 hrl2 hrc2 hg1 hv1 hvq hnews1 hlt24 hB24
              have HN2 := Lib.hid (And.intro hnews2 (And.intro hdl hdL))
              have HR1 := Lib.hid (And.intro hr1 (And.intro hlt25 hB25))
              clear hnews2 hdl hdL hr1 hlt25 hB25 htl
              have hqc : q + 1 ≤ m := hqm
              obtain ⟨off3, hoff3⟩ : ∃ off3, off3 = if cap2 = q + 1 then off2 else off2 + (q + 1) := ⟨_, rfl⟩
              have hsl := run_slice_low g off2 m cap2 (q + 1) hqc w2
              rw [← hoff3] at hsl
              have hN4 := news_drop hoff3 hcap2 HN2.out.2.1 HN2.out.1
              rw [show (((q + 1 : Nat)) : Int) = (q : Int) + 1 from rfl] at hsl
              refine wp_region_lit ?_
              refine wpList_val rfl (some 78) rfl v1 rfl ?_
              simp only [Act.put, List.setIfInBounds_toArray, List.set_cons_zero, List.set_cons_succ]
              refine wpList_val rfl (some 79) rfl (.slice (some ⟨g, off2, none⟩) m cap2) rfl ?_
              simp only [Act.put, List.setIfInBounds_toArray, List.set_cons_zero, List.set_cons_succ]
              refine wpList_val rfl (some 80) rfl (.int .i64 (q : Int)) rfl ?_
              simp only [Act.put, List.setIfInBounds_toArray, List.set_cons_zero, List.set_cons_succ]
              refine wpList_val rfl (some 81) rfl (.int .i64 ((q : Int) + 1)) (by have hw5 := wrapN hqm hm64; go_simp) ?_
              simp only [Act.put, List.setIfInBounds_toArray, List.set_cons_zero, List.set_cons_succ]
              refine wpList_val rfl (some 82) rfl (.slice (some ⟨g, off3, none⟩) (m - (q + 1)) (cap2 - (q + 1))) (exec_slice_low rfl rfl rfl hsl) ?_
              simp only [Act.put, List.setIfInBounds_toArray, List.set_cons_zero, List.set_cons_succ]
              refine wpList_append_Z rfl _ _ rfl rfl HR1.out.1 HR1.out.2.1 HR1.out.2.2 (L.drop (q + 1)) ⟨g, off3, none⟩ (m - (q + 1)) (cap2 - (q + 1)) rfl HN2.out.2.1 hN4 HN2.out.2.2 ?_
              intro v2 w3 hr2 hg2 hv2
              simp only [Act.put, List.setIfInBounds_toArray, List.set_cons_zero, List.set_cons_succ]
              refine wpList_val rfl (some 8) rfl v2 rfl ?_
              simp only [Act.put, List.setIfInBounds_toArray, List.set_cons_zero, List.set_cons_succ]
              refine wpList_nil ?_
              clear hsl hN4 hoff3
              go_wp2_with fail
              obtain ⟨hsc2, hrl2, hrc2, hv1n, hvq⟩ := HY.out
              obtain ⟨hrl, hrc, hne, hsc, hperm, hCl, htC, htj, htj2, ht, hq, hm⟩ := HX.out
              have hsw : wr.heap.size ≤ w2.heap.size := HZ.out
              have hsc3 := hsc2.grown HR1.out.1 hg2
              have hvlt : ∀ g', u12.ownBlock = some g' → g' < wr.heap.size := fun g' hg' => hrc.own.lt hg'
              have hrc3 := hrc2.grown hg2 (fun g' hg' e => Nat.not_le_of_lt (hvlt g' hg') (hv1n g' e.symm))
              have hv2n : ∀ g', v2.ownBlock = some g' → wr.heap.size ≤ g' := fun g' hg' => by
                rcases hv2 g' hg' with e | e
                · exact hv1n g' e
                · exact Nat.le_trans hsw e
              have hs := fS_lock (n := k) (j := tj) (lk := lk) (D := C) htj hneg (by rw [← htj2]; exact htC)
              rw [← htj2] at hs
              have HC := lock12 hsc3.q (x := t) (n := lk) (by rw [htj2]; exact wfi (by omega) (by omega)) (wfi hneg hlk2) hlk2 (by show (fL lk C).length < _; cases C <;> simp [fL])
              rw [hs.1, hs.2] at HC
              have hb01 : C.isEmpty = ((j : Int) == 0) := by
                rw [← hCl]; cases C <;> simp; omega
              rw [hb01] at HC
              have HC := Lib.hid HC
              have HW := Lib.hid (And.intro hsc3 (And.intro hrc3 (And.intro hr2 (And.intro hvlt (And.intro hv2n hsw)))))
              obtain ⟨b0, hb0⟩ : ∃ b0, b0 = ((j : Int) == 0) := ⟨_, rfl⟩
              rw [← hb0] at HC
              have HB0 := Lib.hid hb0
              clear hsc2 hrl2 hrc2 hv1n hvq hrl hrc hne hsc hperm hCl htC htj htj2 ht hq hm hsw hsc3 hvlt hrc3 hv2n hs hb01 hb0 hr2 hg2 hv2
              refine HC.out.mono ?_
              rintro e w4 ⟨rfl, hq4, ht4⟩
              obtain ⟨hsc3, hrc3, hr2, hvlt, hv2n, hsw⟩ := HW.out
              have hsc4 := hsc3.step hq4 ht4
              have hrc4 := hrc3.turn ht4
              have hr4 := hr2.turn ht4
              have hBe4 : Below w4.heap.size w4 (w4.alloc (.cells #[.int .i64 t] 3)) := (Below.refl _ w4).alloc (Nat.le_refl _) _
              have hrc5 := hrc4.below hBe4
              have hr5 := hr4.below hBe4
              have hsc5 := hsc4.next hBe4
              have hlt5 := hsc5.q.lt
              have hB5 := hsc5.size
              have hC64 : C.length + 1 ≤ 4096 := by
                have := HX.out.2.2.2.2.2.1
                rw [this]; omega
              have HV := Lib.hid (And.intro hrc5 (And.intro hr5 (And.intro hsc5 (And.intro hlt5 (And.intro hB5 (And.intro hC64 (And.intro ht4.size (fun (g' : Nat) (h' : v2.ownBlock = some g') => hr2.own.lt h'))))))))
              clear hsc3 hrc3 hr2 hvlt hv2n hsw hsc4 hrc4 hr4 hrc5 hr5 hsc5 hlt5 hB5 hC64 hBe4 hq4 ht4
              have hdj : ((j : Int) == 0) = b0 := HB0.out.symm
              cases b0
              all_goals (
                go_wp2_with (at_builtin; refine wpList_append_Z rfl _ _ rfl rfl HV.out.1 HV.out.2.2.2.1 HV.out.2.2.2.2.1 [t] ⟨w4.heap.size, 0, none⟩ 1 1 rfl rfl (cell_one_new' _ _ _) HV.out.2.2.2.2.2.1 ?_; intro v5 w5 hr6 hg6 hv6)
                have HU := Lib.hid (And.intro hr6 (And.intro hg6 hv6))
                clear hr6 hg6 hv6
                go_roundw
                case rel =>
                  obtain ⟨hr6, hg6, hv6⟩ := HU.out
                  obtain ⟨hrc5, hr5, hsc5, hlt5, hB5, hC64, hsz4, hlt2⟩ := HV.out
                  obtain ⟨hrl, hrc, hne, hsc, hperm, hCl, htC, htj, htj2, ht, hq, hm⟩ := HX.out
                  obtain ⟨hsc3, hrc3, hr2, hvlt, hv2n, hsw⟩ := HW.out
                  have hrl6 := hr5.grown hg6 (fun g' hg' e => Nat.not_le_of_lt (hvlt g' e.symm) (hv2n g' hg'))
                  refine ⟨j + 1, _, L.take q ++ L.drop (q + 1), C ++ [t], by omega, by go_num, hrl6, hr6, fun g' hg' hg'' => ?_, hsc5.grown hrc5 hg6, ?_, by rw [List.length_append, hCl]; rfl⟩
                  · rcases hv6 g' hg'' with e | e
                    · exact Nat.not_le_of_lt (hvlt g' e) (hv2n g' hg')
                    · have h7 := hlt2 g' hg'
                      have h8 : (w4.alloc (.cells #[.int .i64 t] 3)).heap.size = w4.heap.size + 1 := by simp
                      rw [h8] at e
                      omega
                  · have := cut_perm hqL
                    rw [← ht] at this
                    have h9 : (L.take q ++ L.drop (q + 1) ++ (C ++ [t])).Perm (L ++ C) := by
                      refine List.Perm.trans ?_ (List.Perm.append_right C this)
                      simp only [List.append_assoc]
                      refine List.Perm.append_left _ (List.Perm.append_left _ ?_)
                      exact List.perm_append_comm
                    exact h9.trans hperm
                case measure => simp [intOf]; omega)
            · have hdx : decide (x < 0) = false := decide_eq_false hneg2
              rw [if_neg hneg2] at hnn2
              subst hnn2
              have hrem3 : nn % (m : Int) = (q : Int) := by rw [← Int.tmod_eq_emod_of_nonneg hnn0]; exact hrem
              clear hneg2
              go_upto_region 24 with fail
              have hnews1 : ∀ j u, ((L.take q).map (Value.int .i64))[j]? = some u → wr.cell? ((⟨g, off2, none⟩ : Addr).add j) = some u := by
                intro j u hu
                have hj1 : j < q := by have := (List.getElem?_eq_some_iff.1 hu).1; simp at this; omega
                rw [add_lit2]
                have hr0 := HX.out.1.own
                have hmm := HX.out.2.2.2.2.2.2.2.2.2.2.2
                rw [← hmm] at hr0
                rw [hr0.cell (by omega)]
                rw [List.map_take, List.getElem?_take, if_pos hj1] at hu
                exact hu
              have hlt24 := HX.out.2.2.2.1.q.lt
              have hB24 := HX.out.2.2.2.1.size
              have htl : (L.take q).length = q := by rw [List.length_take]; omega
              go_upto_region 25 with (at_builtin; refine wpList_append_Z rfl _ _ rfl rfl (RowZ.nil G2 B wr) hlt24 hB24 (L.take q) ⟨g, off2, none⟩ q cap2 rfl htl hnews1 (by simp; omega) ?_; intro v1 w2 hr1 hg1 hv1)
              obtain ⟨hrl, hrc, hne, hsc, hperm, hCl, htC, htj, htj2, ht, hq, hm⟩ := HX.out
              have hv1n : ∀ g', v1.ownBlock = some g' → wr.heap.size ≤ g' := fun g' h => by
                rcases hv1 g' h with h | h
                · cases h
                · exact h
              have hsc2 := hsc.grown (RowZ.nil G2 B wr) hg1
              have hrl2 := hrl.grown hg1 (fun g' _ e => by cases e)
              have hrc2 := hrc.grown hg1 (fun g' _ e => by cases e)
              have hnews2 : ∀ j u, ((L.drop (q + 1)).map (Value.int .i64))[j]? = some u → w2.cell? ((⟨g, off2 + (q + 1), none⟩ : Addr).add j) = some u := by
                intro j u hu
                have hj1 : j < m - (q + 1) := by have := (List.getElem?_eq_some_iff.1 hu).1; simp at this; omega
                rw [add_lit2, Nat.add_assoc]
                have hr0 := hrl2.own
                rw [← hm] at hr0
                rw [hr0.cell (by omega)]
                rw [List.map_drop, List.getElem?_drop] at hu
                exact hu
              have hdl : (L.drop (q + 1)).length = m - (q + 1) := by rw [List.length_drop]; omega
              have hlt25 := hsc2.q.lt
              have hB25 := hsc2.size
              have hdL : (L.take q).length + (L.drop (q + 1)).length ≤ 4096 := by rw [htl, hdl]; omega
              obtain ⟨vq, hvq⟩ : ∃ vq, vq = v1 := ⟨_, rfl⟩
              have HZ := Lib.hid hg1.size
              have HY := Lib.hid (And.intro hsc2 (And.intro hrl2 (And.intro hrc2 (And.intro hv1n hvq))))
              simp only [List.nil_append] at hr1
              clear hrem hrem3 hdx
              clear hrl hrc hne hsc hperm hCl htC htj htj2 ht hq hm hv1n hsc2 hrl2 hrc2 hg1 hv1 hvq hnews1 hlt24 hB24
              have HN2 := Lib.hid (And.intro hnews2 (And.intro hdl hdL))
              have HR1 := Lib.hid (And.intro hr1 (And.intro hlt25 hB25))
              clear hnews2 hdl hdL hr1 hlt25 hB25 htl
              have hqc : q + 1 ≤ m := hqm
              obtain ⟨off3, hoff3⟩ : ∃ off3, off3 = if cap2 = q + 1 then off2 else off2 + (q + 1) := ⟨_, rfl⟩
              have hsl := run_slice_low g off2 m cap2 (q + 1) hqc w2
              rw [← hoff3] at hsl
              have hN4 := news_drop hoff3 hcap2 HN2.out.2.1 HN2.out.1
              rw [show (((q + 1 : Nat)) : Int) = (q : Int) + 1 from rfl] at hsl
              refine wp_region_lit ?_
              refine wpList_val rfl (some 78) rfl v1 rfl ?_
              simp only [Act.put, List.setIfInBounds_toArray, List.set_cons_zero, List.set_cons_succ]
              refine wpList_val rfl (some 79) rfl (.slice (some ⟨g, off2, none⟩) m cap2) rfl ?_
              simp only [Act.put, List.setIfInBounds_toArray, List.set_cons_zero, List.set_cons_succ]
              refine wpList_val rfl (some 80) rfl (.int .i64 (q : Int)) rfl ?_
              simp only [Act.put, List.setIfInBounds_toArray, List.set_cons_zero, List.set_cons_succ]
              refine wpList_val rfl (some 81) rfl (.int .i64 ((q : Int) + 1)) (by have hw5 := wrapN hqm hm64; go_simp) ?_
              simp only [Act.put, List.setIfInBounds_toArray, List.set_cons_zero, List.set_cons_succ]
              refine wpList_val rfl (some 82) rfl (.slice (some ⟨g, off3, none⟩) (m - (q + 1)) (cap2 - (q + 1))) (exec_slice_low rfl rfl rfl hsl) ?_
              simp only [Act.put, List.setIfInBounds_toArray, List.set_cons_zero, List.set_cons_succ]
              refine wpList_append_Z rfl _ _ rfl rfl HR1.out.1 HR1.out.2.1 HR1.out.2.2 (L.drop (q + 1)) ⟨g, off3, none⟩ (m - (q + 1)) (cap2 - (q + 1)) rfl HN2.out.2.1 hN4 HN2.out.2.2 ?_
              intro v2 w3 hr2 hg2 hv2
              simp only [Act.put, List.setIfInBounds_toArray, List.set_cons_zero, List.set_cons_succ]
              refine wpList_val rfl (some 8) rfl v2 rfl ?_
              simp only [Act.put, List.setIfInBounds_toArray, List.set_cons_zero, List.set_cons_succ]
              refine wpList_nil ?_
              clear hsl hN4 hoff3
              go_wp2_with fail
              obtain ⟨hsc2, hrl2, hrc2, hv1n, hvq⟩ := HY.out
              obtain ⟨hrl, hrc, hne, hsc, hperm, hCl, htC, htj, htj2, ht, hq, hm⟩ := HX.out
              have hsw : wr.heap.size ≤ w2.heap.size := HZ.out
              have hsc3 := hsc2.grown HR1.out.1 hg2
              have hvlt : ∀ g', u12.ownBlock = some g' → g' < wr.heap.size := fun g' hg' => hrc.own.lt hg'
              have hrc3 := hrc2.grown hg2 (fun g' hg' e => Nat.not_le_of_lt (hvlt g' hg') (hv1n g' e.symm))
              have hv2n : ∀ g', v2.ownBlock = some g' → wr.heap.size ≤ g' := fun g' hg' => by
                rcases hv2 g' hg' with e | e
                · exact hv1n g' e
                · exact Nat.le_trans hsw e
              have hs := fS_lock (n := k) (j := tj) (lk := lk) (D := C) htj hneg (by rw [← htj2]; exact htC)
              rw [← htj2] at hs
              have HC := lock12 hsc3.q (x := t) (n := lk) (by rw [htj2]; exact wfi (by omega) (by omega)) (wfi hneg hlk2) hlk2 (by show (fL lk C).length < _; cases C <;> simp [fL])
              rw [hs.1, hs.2] at HC
              have hb01 : C.isEmpty = ((j : Int) == 0) := by
                rw [← hCl]; cases C <;> simp; omega
              rw [hb01] at HC
              have HC := Lib.hid HC
              have HW := Lib.hid (And.intro hsc3 (And.intro hrc3 (And.intro hr2 (And.intro hvlt (And.intro hv2n hsw)))))
              obtain ⟨b0, hb0⟩ : ∃ b0, b0 = ((j : Int) == 0) := ⟨_, rfl⟩
              rw [← hb0] at HC
              have HB0 := Lib.hid hb0
              clear hsc2 hrl2 hrc2 hv1n hvq hrl hrc hne hsc hperm hCl htC htj htj2 ht hq hm hsw hsc3 hvlt hrc3 hv2n hs hb01 hb0 hr2 hg2 hv2
              refine HC.out.mono ?_
              rintro e w4 ⟨rfl, hq4, ht4⟩
              obtain ⟨hsc3, hrc3, hr2, hvlt, hv2n, hsw⟩ := HW.out
              have hsc4 := hsc3.step hq4 ht4
              have hrc4 := hrc3.turn ht4
              have hr4 := hr2.turn ht4
              have hBe4 : Below w4.heap.size w4 (w4.alloc (.cells #[.int .i64 t] 3)) := (Below.refl _ w4).alloc (Nat.le_refl _) _
              have hrc5 := hrc4.below hBe4
              have hr5 := hr4.below hBe4
              have hsc5 := hsc4.next hBe4
              have hlt5 := hsc5.q.lt
              have hB5 := hsc5.size
              have hC64 : C.length + 1 ≤ 4096 := by
                have := HX.out.2.2.2.2.2.1
                rw [this]; omega
              have HV := Lib.hid (And.intro hrc5 (And.intro hr5 (And.intro hsc5 (And.intro hlt5 (And.intro hB5 (And.intro hC64 (And.intro ht4.size (fun (g' : Nat) (h' : v2.ownBlock = some g') => hr2.own.lt h'))))))))
              clear hsc3 hrc3 hr2 hvlt hv2n hsw hsc4 hrc4 hr4 hrc5 hr5 hsc5 hlt5 hB5 hC64 hBe4 hq4 ht4
              have hdj : ((j : Int) == 0) = b0 := HB0.out.symm
              cases b0
              all_goals (
                go_wp2_with (at_builtin; refine wpList_append_Z rfl _ _ rfl rfl HV.out.1 HV.out.2.2.2.1 HV.out.2.2.2.2.1 [t] ⟨w4.heap.size, 0, none⟩ 1 1 rfl rfl (cell_one_new' _ _ _) HV.out.2.2.2.2.2.1 ?_; intro v5 w5 hr6 hg6 hv6)
                have HU := Lib.hid (And.intro hr6 (And.intro hg6 hv6))
                clear hr6 hg6 hv6
                go_roundw
                case rel =>
                  obtain ⟨hr6, hg6, hv6⟩ := HU.out
                  obtain ⟨hrc5, hr5, hsc5, hlt5, hB5, hC64, hsz4, hlt2⟩ := HV.out
                  obtain ⟨hrl, hrc, hne, hsc, hperm, hCl, htC, htj, htj2, ht, hq, hm⟩ := HX.out
                  obtain ⟨hsc3, hrc3, hr2, hvlt, hv2n, hsw⟩ := HW.out
                  have hrl6 := hr5.grown hg6 (fun g' hg' e => Nat.not_le_of_lt (hvlt g' e.symm) (hv2n g' hg'))
                  refine ⟨j + 1, _, L.take q ++ L.drop (q + 1), C ++ [t], by omega, by go_num, hrl6, hr6, fun g' hg' hg'' => ?_, hsc5.grown hrc5 hg6, ?_, by rw [List.length_append, hCl]; rfl⟩
                  · rcases hv6 g' hg'' with e | e
                    · exact Nat.not_le_of_lt (hvlt g' e) (hv2n g' hg')
                    · have h7 := hlt2 g' hg'
                      have h8 : (w4.alloc (.cells #[.int .i64 t] 3)).heap.size = w4.heap.size + 1 := by simp
                      rw [h8] at e
                      omega
                  · have := cut_perm hqL
                    rw [← ht] at this
                    have h9 : (L.take q ++ L.drop (q + 1) ++ (C ++ [t])).Perm (L ++ C) := by
                      refine List.Perm.trans ?_ (List.Perm.append_right C this)
                      simp only [List.append_assoc]
                      refine List.Perm.append_left _ (List.Perm.append_left _ ?_)
                      exact List.perm_append_comm
                    exact h9.trans hperm
                case measure => simp [intOf]; omega)
          · have hj' : j = k := by omega
            subst hj'
            have hL0 : L = [] := List.eq_nil_of_length_eq_zero (by omega)
            subst hL0
            have HX := Lib.hid (And.intro hrc (And.intro hsc (And.intro hperm hCl)))
            clear hrl hrc hne hsc hperm hCl hLl
            go_wp2_with fail
            obtain ⟨vc, hvc⟩ : ∃ x, x = u12 := ⟨_, rfl⟩
            rw [← hvc] at HX ⊢
            go_loopw [19] (fun ii wr => ∃ (i : Nat) (G : Nat → Prop), i ≤ j ∧ ii = .int .i64 i ∧ RowZ G B wr vc C ∧ Sch B w1 G S wr (fS j lk (C.drop i))) (fun ii _ => j - (intOf ii).toNat)
            case atStart => exact ⟨0, G2, by omega, rfl, HX.out.1, HX.out.2.1⟩
            case round =>
              obtain ⟨i, G3, hi, rfl, hrc, hsc⟩ := hrel
              have hCl := HX.out.2.2.2
              have hperm := HX.out.2.2.1
              rw [List.nil_append] at hperm
              have hnd : C.Nodup := hperm.nodup_iff.2 (ups_nodup j)
              have hin : ∀ x ∈ C, ∃ m, m < j ∧ x = (m : Int) + 1 := fun x hx => ups_mem (hperm.mem_iff.1 hx)
              by_cases hlt3 : i < j
              · have hiC : i < C.length := by omega
                obtain ⟨g, off2, cap2, hvl, hgB, hcap2, hmax2⟩ := hrc.own.form (by omega)
                rw [hCl] at hvl hcap2
                obtain ⟨c, hc⟩ : ∃ c, c = C[i] := ⟨_, rfl⟩
                have hr0 : ownsIn wr B 3 (.slice (some ⟨g, off2, none⟩) j cap2) j (C.map (Value.int .i64)) := by have := hrc.own; rw [hCl, hvl] at this; exact this
                have hct : wr.cell? ⟨g, off2 + i, none⟩ = some (.int .i64 c) := by rw [hr0.cell hlt3]; simp [hiC, hc]
                have hgl : g < wr.heap.size := hr0.lt rfl
                have hdrop : C.drop i = c :: C.drop (i + 1) := by rw [hc]; exact List.drop_eq_getElem_cons hiC
                obtain ⟨m, hm, hcm⟩ := hin c (by rw [hc]; exact List.getElem_mem hiC)
                have hdn : (C.drop (i + 1)).Nodup := hnd.sublist (List.drop_sublist _ _)
                have hdin : ∀ x ∈ C.drop (i + 1), ∃ m, m < j ∧ x = (m : Int) + 1 := fun x hx => hin x (List.mem_of_mem_drop hx)
                have hrl := fS_readyLen (n := j) (lk := lk) (D := C.drop i) (by rw [hdrop]; exact hdn) (by rw [hdrop]; exact hdin)
                rw [hdrop] at hrl hsc
                have hrl2 : (readyL (fS j lk (c :: C.drop (i + 1)))).length = i + 1 := by
                  have h1 : (c :: C.drop (i + 1)).tail.length = j - (i + 1) := by show (C.drop (i + 1)).length = _; rw [List.length_drop]; omega
                  omega
                have hmk : (fS j lk (c :: C.drop (i + 1))).made < 4611686018427387904 := by show j < _; omega
                have hun := fS_unlock (n := j) (j := m) (lk := lk) (r := C.drop (i + 1)) hm hneg hdn hdin
                rw [← hcm] at hun
                have hcw : (Lit.int .i64 c).wf = true := by rw [hcm]; exact wfi (by omega) (by omega)
                have h13 : ∀ w', Below wr.heap.size wr w' → Calls Try.prog 13 #[.pointer (some ⟨S, 0, none⟩), .int .i64 lk] w' fun e w'' => e = .returned (.int .i64 c) ∧ w' = w'' := fun w' hb => by
                  have := holder13 (hsc.next hb).q (n := lk) (wfi hneg hlk2)
                  rw [fS_holder] at this
                  exact this
                have h14 : ∀ w', Below wr.heap.size wr w' → Calls Try.prog 14 #[.pointer (some ⟨S, 0, none⟩)] w' fun e w'' => ∃ a4 c4, e = .returned (.slice a4 (i + 1) c4) ∧ Below wr.heap.size wr w'' := fun w' hb => by
                  refine (ready14 (hsc.next hb).q hmk).mono ?_
                  rintro e w'' ⟨v, rfl, ho, hb2⟩
                  rw [hrl2] at ho
                  obtain ⟨a4, c4, rfl⟩ := owns_form ho
                  exact ⟨a4, c4, rfl, hb.trans (hb2.mono hb.size)⟩
                have H13 := Lib.hid h13
                have H14 := Lib.hid h14
                have HGL := Lib.hid hgl
                have HCT := Lib.hid hct
                have HX3 := Lib.hid (And.intro hrc (And.intro hsc (And.intro hun (And.intro hcw (And.intro hvl hmk)))))
                have hdi : decide ((i : Int) < (j : Int)) = true := decide_eq_true (by omega)
                have hw9 : IntKind.i64.wrap ((i : Int) + 1) = (i : Int) + 1 := wrapI (by omega) (by omega)
                have hwi : wrap64 ((i : Int) + 1) = (i : Int) + 1 := w64 (by omega)
                clear hrc hsc hCl hperm hnd hin hc hr0 hct hgl hdrop hm hcm hdn hdin hrl hrl2 hun hcw h13 h14 hgB hmk hiC
                rw [hvl]
                clear hvl
                go_wp2_with fail
                have HS0 : Below wr.heap.size wr wr.drew := (Below.refl _ wr).drew
                refine hp_start (fun w' => Below wr.heap.size wr w') 16 rfl (by kernel_rfl) (fun c a a' w hd h => ⟨hd ▸ h.1, h.2⟩) (fun hP => ?_)
                rw [show Array.replicate 16 false = #[false, false, false, false, false, false, false, false, false, false, false, false, false, false, false, false] from rfl]
                refine hp_take hP 0 (some 108) _ rfl rfl (by kernel_rfl) rfl (fun w' hS' => by go_simp; rfl) HS0 ?_
                simp only [Act.put, List.setIfInBounds_toArray, List.set_cons_zero, List.set_cons_succ]
                refine hp_take hP 1 (some 109) _ rfl rfl (by kernel_rfl) rfl (fun w' hS' => by go_simp; rfl) HS0 ?_
                simp only [Act.put, List.setIfInBounds_toArray, List.set_cons_zero, List.set_cons_succ]
                refine hp_take hP 3 (some 111) _ rfl rfl (by kernel_rfl) rfl (fun w' hS' => by go_simp; rfl) HS0 ?_
                simp only [Act.put, List.setIfInBounds_toArray, List.set_cons_zero, List.set_cons_succ]
                refine hp_take hP 4 (some 112) _ rfl rfl (by kernel_rfl) rfl (fun w' hS' => by go_simp; rfl) HS0 ?_
                simp only [Act.put, List.setIfInBounds_toArray, List.set_cons_zero, List.set_cons_succ]
                refine hp_take hP 5 (some 113) (.pointer (some ⟨g, off2 + i, none⟩)) rfl rfl (by kernel_rfl) rfl (fun w' hS' => by go_simp; try rfl) HS0 ?_
                simp only [Act.put, List.setIfInBounds_toArray, List.set_cons_zero, List.set_cons_succ]
                refine hp_take hP 6 (some 114) (.int .i64 c) rfl rfl (by kernel_rfl) rfl (fun w' hS' => by have cc := (hS'.cell (p := ⟨g, off2 + i, none⟩) (by exact HGL.out)).trans HCT.out; go_simp; try rfl) HS0 ?_
                simp only [Act.put, List.setIfInBounds_toArray, List.set_cons_zero, List.set_cons_succ]
                refine hp_call 2 (some 110) rfl rfl (by kernel_rfl) rfl 13 #[.pointer (some ⟨S, 0, none⟩), .int .i64 lk] (by go_simp; try rfl) ((H13.out _ HS0).mono ?_)
                rintro e wz ⟨rfl, rfl⟩
                refine ⟨_, rfl, HS0, ?_⟩
                have HS1 := HS0
                simp only [Act.put, List.setIfInBounds_toArray, List.set_cons_zero, List.set_cons_succ]
                refine hp_take hP 7 (some 115) (.bool false) rfl rfl (by kernel_rfl) rfl (fun w' hS' => by first | (go_simp; done) | (go_simp; rfl) | (go_simp; simp; done) | (go_simp; simp [hwi]; done) | (go_simp; exact hw9) | (go_simp; rw [hw9]; done) | (go_simp; rw [hw9]; rfl)) HS1 ?_
                simp only [Act.put, List.setIfInBounds_toArray, List.set_cons_zero, List.set_cons_succ]
                refine hp_take hP 8 (some 116) _ rfl rfl (by kernel_rfl) rfl (fun w' hS' => by go_simp; rfl) HS1 ?_
                simp only [Act.put, List.setIfInBounds_toArray, List.set_cons_zero, List.set_cons_succ]
                refine hp_take hP 9 (some 117) _ rfl rfl (by kernel_rfl) rfl (fun w' hS' => by go_simp; rfl) HS1 ?_
                simp only [Act.put, List.setIfInBounds_toArray, List.set_cons_zero, List.set_cons_succ]
                refine hp_take hP 12 (some 120) _ rfl rfl (by kernel_rfl) rfl (fun w' hS' => by go_simp; rfl) HS1 ?_
                simp only [Act.put, List.setIfInBounds_toArray, List.set_cons_zero, List.set_cons_succ]
                refine hp_take hP 13 (some 121) (.int .i64 ((i : Int) + 1)) rfl rfl (by kernel_rfl) rfl (fun w' hS' => by first | (go_simp; done) | (go_simp; rfl) | (go_simp; simp; done) | (go_simp; simp [hwi]; done) | (go_simp; exact hw9) | (go_simp; rw [hw9]; done) | (go_simp; rw [hw9]; rfl)) HS1 ?_
                simp only [Act.put, List.setIfInBounds_toArray, List.set_cons_zero, List.set_cons_succ]
                refine hp_call 10 (some 118) rfl rfl (by kernel_rfl) rfl 14 #[.pointer (some ⟨S, 0, none⟩)] (by go_simp; try rfl) ((H14.out _ HS1).mono ?_)
                rintro e w4 ⟨a4, c4, rfl, hb4⟩
                have HS2 : Below wr.heap.size wr w4 := hb4
                refine ⟨_, rfl, HS2, ?_⟩
                simp only [Act.put, List.setIfInBounds_toArray, List.set_cons_zero, List.set_cons_succ]
                refine hp_take hP 11 (some 119) (.int .i64 ((i : Int) + 1)) rfl rfl (by kernel_rfl) rfl (fun w' hS' => by first | (go_simp; done) | (go_simp; rfl) | (go_simp; simp; done) | (go_simp; simp [hwi]; done) | (go_simp; exact hw9) | (go_simp; rw [hw9]; done) | (go_simp; rw [hw9]; rfl)) HS2 ?_
                simp only [Act.put, List.setIfInBounds_toArray, List.set_cons_zero, List.set_cons_succ]
                refine hp_take hP 14 (some 122) (.bool false) rfl rfl (by kernel_rfl) rfl (fun w' hS' => by first | (go_simp; done) | (go_simp; rfl) | (go_simp; simp; done) | (go_simp; simp [hwi]; done) | (go_simp; exact hw9) | (go_simp; rw [hw9]; done) | (go_simp; rw [hw9]; rfl)) HS2 ?_
                simp only [Act.put, List.setIfInBounds_toArray, List.set_cons_zero, List.set_cons_succ]
                refine hp_take hP 15 (some 123) (.bool false) rfl rfl (by kernel_rfl) rfl (fun w' hS' => by first | (go_simp; done) | (go_simp; rfl) | (go_simp; simp; done) | (go_simp; simp [hwi]; done) | (go_simp; exact hw9) | (go_simp; rw [hw9]; done) | (go_simp; rw [hw9]; rfl)) HS2 ?_
                simp only [Act.put, List.setIfInBounds_toArray, List.set_cons_zero, List.set_cons_succ]
                refine hk_done (by kernel_rfl) ?_
                have hc4 : w4.cell? ⟨g, off2 + i, none⟩ = some (.int .i64 c) := (HS2.cell (p := ⟨g, off2 + i, none⟩) (by exact HGL.out)).trans HCT.out
                have hsc4 := HX3.out.2.1.next HS2
                have HUN := unlock15 hsc4.q (x := c) (n := lk) HX3.out.2.2.2.1 (wfi hneg hlk2) (.inr trivial) HX3.out.2.2.2.2.2
                rw [HX3.out.2.2.1.1, HX3.out.2.2.1.2] at HUN
                have HUN := Lib.hid HUN
                have HY3 := Lib.hid (And.intro hsc4 (HX3.out.1.below HS2))
                clear hsc4 HS0 HS1 HS2 hb4
                go_wp2_with fail
                refine HUN.out.mono ?_
                rintro e w5 ⟨rfl, hq5, ht5⟩
                have HZ3 := Lib.hid (And.intro (HY3.out.1.step hq5 ht5) (HY3.out.2.turn ht5))
                clear hq5 ht5
                go_wp2_with fail
                go_roundw
                case rel => exact ⟨i + 1, _, by omega, by go_num, by first | exact HZ3.out.2 | (rw [HX3.out.2.2.2.2.1]; exact HZ3.out.2) | (have := HZ3.out.2; rw [HX3.out.2.2.2.2.1] at this; exact this), HZ3.out.1⟩
                case measure => simp [intOf]; omega
              · have hi' : i = j := by omega
                have hdi : decide ((i : Int) < (j : Int)) = false := decide_eq_false (by omega)
                rw [hi', show C.drop j = [] from List.drop_eq_nil_of_le (by omega)] at hsc
                have H13 := holder13 hsc.q (n := lk) (wfi hneg hlk2)
                rw [fS_holder] at H13
                have H13 := Lib.hid H13
                have H16 := stuck16 hsc.q (by show j < _; omega)
                rw [fS_stuck] at H16
                have H16 := Lib.hid H16
                have HSC := Lib.hid hsc
                clear hsc hrc hCl hperm hnd hin hi'
                go_wp2_with fail
                refine H13.out.mono ?_
                rintro e w4 ⟨rfl, rfl⟩
                go_wp2_with fail
                refine H16.out.mono ?_
                rintro e w4 ⟨rfl, hb4⟩
                have HB4 := Lib.hid hb4
                clear hb4
                go_wp2_with fail
                go_ret
                have hz := (HSC.out.next HB4.out).below
                rw [HB.out.2] at hz
                exact ⟨rfl, Below.call HB.out.1 hz⟩
theorem wf_le2 {x : Int} (h : (Lit.int .i64 x).wf = true) : -9223372036854775808 ≤ x ∧ x ≤ 9223372036854775807 := by
  simp only [Lit.wf, Bool.and_eq_true, decide_eq_true_eq] at h
  exact ⟨Int.le_trans (by decide) h.1, Int.le_trans h.2 (by decide)⟩
theorem fairLaw (v : Value) (lk : Int) (w : World) (ms : List Int) (h1 : Row w.heap.size w v ms.length 1 (ms.map (Value.int .i64))) (hwf : ∀ y ∈ ms, (Lit.int .i64 y).wf = true) (_hsz : ms.length * 8 ≤ 140737488351232) (hlk : (Lit.int .i64 lk).wf = true) : Calls Try.prog 3 #[v, .int .i64 lk] w fun e w' => e = .returned (.bool true) ∧ Below w.heap.size w w' :=
  fair3 ms lk v w h1 (fun k hk => by
    rw [List.getD_eq_getElem?_getD, List.getElem?_eq_getElem hk]
    exact wf_le2 (hwf _ (List.getElem_mem hk))) (wf_le2 hlk).2
end Go.Proofs.Ytkndcofmhfeaoaa
