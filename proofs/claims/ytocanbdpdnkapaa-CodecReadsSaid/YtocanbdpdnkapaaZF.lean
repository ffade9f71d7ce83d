/- A reader: several facts. -/
import Derived.Test.YtocanbdpdnkapaaZC
namespace Go.Proofs.Ytocanbdpdnkapaa
open Go.RowKit
set_option linter.unusedVariables false
set_option linter.unusedSimpArgs false

theorem info98p : (Try.prog.info? 98).map (fun i => (i.zero, i.size, i.bytes)) = some (some (.agg #[.slice none 0 0, .slice none 0 0]), 2, 48) := by kernel_rfl
/-- facts that were taken -/
def RowsFs (n : Nat) (w : World) (v : Value) (l : List FactT) : Prop :=
  ∃ ps : List (FactT × Value × Value), l = ps.map (·.1) ∧ RowR 2 (fun q : FactT × Value × Value => [q.2.1, q.2.2]) w.heap.size w v ps ∧ (∀ q ∈ ps, RowsF n w q.1 q.2.1 q.2.2) ∧ New n v
theorem RowsFs.nil (n : Nat) (w : World) : RowsFs n w (.slice none 0 0) [] := ⟨[], rfl, RowR.nil _ _ _ _, (fun q h => by cases h), New.nil _⟩
theorem RowsF.mono {m n : Nat} {w : World} {f : FactT} {vd vm : Value} (h : RowsF n w f vd vm) (hm : m ≤ n) : RowsF m w f vd vm := ⟨h.d, h.m, h.nd.mono hm, h.nm.mono hm, h.td, h.tm⟩
theorem Typ.grown {w w1 : World} {v u : Value} {T E : TypeId} {base size k : Nat} {xs : List Value} (h : Typ T w u) (hT : T ≠ E) (hown : w.ownsRow base E size v k xs) (hg : w.grownBy w1 v.ownBlock) : ∀ g, u.ownBlock = some g → w1.heap[g]? = w.heap[g]? := fun g hu => by
  obtain ⟨cs, hc⟩ := h g hu
  refine hg.block g hc.lt (fun e => ?_)
  obtain ⟨cs', hc'⟩ := Typ.of_owns hown g e.symm
  have := Option.some.inj (hc.symm.trans hc')
  cases this
  exact hT rfl
theorem RowsF.grown {w w1 : World} {n : Nat} {f : FactT} {vd vm v : Value} {base size k : Nat} {xs : List Value} (h : RowsF n w f vd vm) (hown : w.ownsRow base 98 size v k xs) (hg : w.grownBy w1 v.ownBlock) : RowsF n w1 f vd vm := by
  have bd := h.td.grown (by decide) hown hg
  have bm := h.tm.grown (by decide) hown hg
  refine ⟨Row.mono (Row.blocks h.d bd) (Below.refl _ _) hg.size, Row.mono (Row.blocks h.m bm) (Below.refl _ _) hg.size, h.nd, h.nm, fun g hu => ?_, fun g hu => ?_⟩
  · obtain ⟨cs, hc⟩ := h.td g hu; exact ⟨cs, (bd g hu).trans hc⟩
  · obtain ⟨cs, hc⟩ := h.tm g hu; exact ⟨cs, (bm g hu).trans hc⟩
theorem clip98 (a : Option Addr) (n k : Nat) (hk : n ≤ k) (hm : k ≤ maxLen) (ha : a = none → n = 0 ∧ k = 0) (w : World) : Calls Try.prog 98 #[.slice a n k] w fun e w' => e = .returned (.slice a n n) ∧ w = w' := by
  have h1 : (0 : Int) ≤ n := by omega
  have h2 : (n : Int) ≤ k := by omega
  cases a with
  | none =>
    obtain ⟨rfl, rfl⟩ := ha rfl
    go_enter Try.func98, Try.ntmps98
    go_wp2_with fail
    go_ret
    exact ⟨rfl, rfl⟩
  | some p =>
    go_enter Try.func98, Try.ntmps98
    go_wp2_with fail
    go_ret
    exact ⟨rfl, rfl⟩

set_option maxRecDepth 100000 in
set_option maxHeartbeats 16000000 in
theorem sev88 (B : Nat) (x : RdS) (w : World) (hx : RdAt B w x) :
    Calls Try.prog 88 #[.pointer (some ⟨B, 0, none⟩), .int .i64 8, .func (Fn.func 63) #[.pointer (some ⟨B, 0, none⟩)] #[]] w fun e w' => ∃ v, e = .returned v ∧ RdO (some B) w' (sevR factR 8 x).2 ∧ KeepB (some B) w w' ∧ RowsFs w.heap.size w' v (sevR factR 8 x).1 := by
  obtain ⟨i0, hi, hz0, hz1, hz2⟩ := info_parts info98p
  have hT := take75O (some B) x 4 (by omega) w hx
  have hl := takeR_len (x := x) 4 hx.len
  have hd := deS_4 hl.2
  have hN := fun w => number40 (takeR x 4).1 w (by omega)
  have hlt := hx.blk.lt
  have HLT := Lib.hid (show ∀ B', some B = some B' → B' < w.heap.size from fun B' e => by cases e; exact hlt)
  have hSEV := show sevR factR 8 x = (if (goR factR (headR 8 x).1 (headR 8 x).2).2.e = 0 then (goR factR (headR 8 x).1 (headR 8 x).2).1 else [], (goR factR (headR 8 x).1 (headR 8 x).2).2) from rfl
  have hHEAD := show headR 8 x = (deS (takeR x 4).1, if (takeR x 4).2.e = 0 ∧ (takeR x 4).2.s.size / 8 < deS (takeR x 4).1 then failR (takeR x 4).2 20 else (takeR x 4).2) from rfl
  obtain ⟨n, hn⟩ : ∃ n, deS (takeR x 4).1 = n := ⟨_, rfl⟩
  rw [hn] at hN hd hHEAD
  obtain ⟨t, ht⟩ : ∃ t, takeR x 4 = t := ⟨_, rfl⟩
  rw [ht] at hT hN hl hHEAD
  obtain ⟨a0, y⟩ := t
  simp only at hT hN hl hHEAD
  rw [hHEAD] at hSEV
  simp only at hSEV
  have HT := Lib.hid hT
  have HN := Lib.hid hN
  have hnw : IntKind.i64.wrap (n : Int) = (n : Int) := IntWalk.i64_in _ (by omega)
  clear hx hN hn ht hT hHEAD
  go_enter Try.func88, Try.ntmps88
  go_wp2_with fail
  refine HT.out.mono ?_
  rintro e w1 ⟨rfl, h1, h2⟩
  have H12 := Lib.hid (And.intro h1 h2)
  have HG := Lib.hid (good77O (some B) y w1 h1)
  have c0 : w1.cell? ⟨B, 0, none⟩ = some (.string y.s) := Blk.cell (RdAt.blk h1) 0
  clear h1 h2
  go_wp2_with fail
  refine (HN.out w1).mono ?_
  rintro e w' ⟨rfl, rfl⟩
  go_wp2_with fail
  refine HG.out.mono ?_
  rintro e w' ⟨rfl, rfl⟩
  by_cases he : y.e = 0
  · have he2 : (y.e == 0) = true := by simpa using he
    by_cases hs : y.s.size / 8 < n
    · have hsI : decide (((y.s.size / 8 : Nat) : Int) < n) = true := decide_eq_true (by omega)
      have hsJ : decide ((y.s.size : Int) / 8 < n) = true := decide_eq_true (by omega)
      have HF := Lib.hid (fail23O (some B) y 20 w1 H12.out.1)
      rw [if_pos (show y.e = 0 ∧ y.s.size / 8 < n from ⟨he, hs⟩)] at hSEV
      obtain ⟨X2, hX2⟩ : ∃ X2, failR y 20 = X2 := ⟨_, rfl⟩
      rw [hX2] at HF hSEV
      have HSEV := Lib.hid hSEV
      clear he hX2 hSEV
      go_wp2_with fail
      refine HF.out.mono ?_
      rintro e w2 ⟨rfl, h1, h2⟩
      have H2 := Lib.hid (And.intro h1 (H12.out.2.trans h2))
      clear h1 h2
      go_wp2_with fail
      go_loopw [8, 9] (fun v i wr => ∃ (k : Nat) (acc : List (FactT × Value × Value)) (z : RdS), i = .int .i64 k ∧ acc.length = k ∧ k ≤ n ∧ goR factR n X2 = (acc.map (·.1) ++ (goR factR (n - k) z).1, (goR factR (n - k) z).2) ∧ RdO (some B) wr z ∧ KeepB (some B) w wr ∧ wr.ownsRow w.heap.size 98 2 v k (acc.flatMap fun q => [q.2.1, q.2.2]) ∧ ∀ q ∈ acc, RowsF w.heap.size wr q.1 q.2.1 q.2.2) (fun _ i _ => n - (intOf i).toNat)
      case atStart => exact ⟨0, [], X2, rfl, rfl, by omega, rfl, H2.out.1, H2.out.2, World.ownsRow_nil _ _ _ _, fun q h => by cases h⟩
      case round =>
        obtain ⟨k, acc, z, rfl, hacc, hk, hgo, hz, hB, hown, hel⟩ := hrel
        obtain ⟨av, kv, rfl⟩ := owns_form hown
        have HG2 := Lib.hid (good77O (some B) z wr hz)
        have HZ := Lib.hid (And.intro hz (And.intro hB hown)); have HEL := Lib.hid hel
        have hsz := hB.size
        clear hz hB hown hel
        by_cases hkn : k < n
        · have hkI : decide ((k : Int) < n) = true := decide_eq_true (by omega)
          by_cases hze : z.e = 0
          · have hze2 : (z.e == 0) = true := by simpa using hze
            have hnk : n - k = (n - (k + 1)) + 1 := by omega
            rw [hnk, goR_ok _ _ hze] at hgo
            have HC := Lib.hid (fact63O (some B) z wr HZ.out.1)
            skip
            have HGO := Lib.hid (show goR factR n X2 = ((acc.map (·.1) ++ [(factR z).1]) ++ (goR factR (n - (k + 1)) (factR z).2).1, (goR factR (n - (k + 1)) (factR z).2).2) by rw [hgo, List.append_assoc]; rfl)
            clear hgo hze hnk
            go_wp2_with fail
            refine HG2.out.mono ?_
            rintro e w' ⟨rfl, rfl⟩
            go_wp2_with fail
            refine HC.out.mono ?_
            rintro e w3 ⟨vd, vm, rfl, h3, h4, h5⟩
            obtain ⟨a1, c1, e1, -⟩ := RowS.open h5.d
            obtain ⟨a2, c2, e2, -⟩ := RowI.open h5.m
            subst e1 e2
            have HR3 := Lib.hid h3
            have hB3 := HZ.out.2.1.trans h4
            have hown3 : w3.ownsRow w.heap.size 98 2 (.slice av k kv) k (acc.flatMap fun q => [q.2.1, q.2.2]) := by
              refine ⟨HZ.out.2.2.1, ?_⟩
              rcases HZ.out.2.2.2 with h | ⟨g, cap, cur, hv, hg, hh, r⟩
              · exact .inl h
              · exact .inr ⟨g, cap, cur, hv, hg, (h4.block g (Array.getElem?_eq_some_iff.1 hh).1 (fun e => by have := HLT.out g e; omega)).trans hh, r⟩
            have HH := Lib.hid (And.intro hown3 hB3)
            have hsz3 := hB3.size; have hel3 : ∀ q ∈ acc ++ [((factR z).1, Value.slice a1 (factR z).1.dims.length c1, Value.slice a2 (factR z).1.meas.length c2)], RowsF w.heap.size w3 q.1 q.2.1 q.2.2 := fun q hq => (by rcases List.mem_append.1 hq with h | h; exact (HEL.out q h).keepB h4 HLT.out; obtain rfl := List.mem_singleton.1 h; exact h5.mono hsz); have HEL3 := Lib.hid hel3
            clear h3 h4 h5 hown3 hB3 hel3
            go_wp2_with (at_builtin; refine wpList_append_own _ rfl _ _ 55 rfl w.heap.size 98 i0 (.agg #[.slice none 0 0, .slice none 0 0]) 2 48 Try.underlying55 hi hz0 hz1 hz2 rfl (by decide) _ _ _ rfl (HH.out.1.alloc _) ⟨w3.heap.size, 0, none⟩ 1 1 [.slice a1 (factR z).1.dims.length c1, .slice a2 (factR z).1.meas.length c2] rfl rfl (cells_new _ 98 #[.slice a1 _ c1, .slice a2 _ c2]) (by intro u hu; simp at hu; rcases hu with rfl | rfl <;> rfl) (by unfold maxLen; omega) (by omega) (by simp; omega) ?_; intro v' w4 hown' hgrow _)
            have hB' := KeepB.appended HH.out.2 HH.out.1 _ hgrow
            have hR' := RdO.appended HR3.out HLT.out hsz3 HH.out.1 _ hgrow
            have hel4 := fun q hq => ((HEL3.out q hq).keepB (KeepB.of (b := none) (Below.al (Below.refl w3.heap.size w3) (Obj.cells #[.slice a1 (factR z).1.dims.length c1, .slice a2 (factR z).1.meas.length c2] 98))) (fun B e => by cases e)).grown (HH.out.1.alloc _) hgrow
            have hrow : (acc.flatMap fun q => [q.2.1, q.2.2]) ++ [.slice a1 (factR z).1.dims.length c1, .slice a2 (factR z).1.meas.length c2] = ((acc ++ [((factR z).1, Value.slice a1 (factR z).1.dims.length c1, Value.slice a2 (factR z).1.meas.length c2)]).flatMap fun q => [q.2.1, q.2.2]) := by simp
            rw [hrow] at hown'
            go_roundw
            case rel => exact ⟨k + 1, acc ++ [((factR z).1, Value.slice a1 (factR z).1.dims.length c1, Value.slice a2 (factR z).1.meas.length c2)], (factR z).2, by go_num, by rw [List.length_append, hacc]; rfl, by omega, by rw [List.map_append]; exact HGO.out, hR', hB', hown', hel4⟩
            case measure => simp [intOf]; omega
          · have hze2 : (z.e == 0) = false := by simpa using hze
            rw [goR_err _ _ hze] at hgo
            have HS := Lib.hid (show sevR factR 8 x = ([], z) by rw [HSEV.out, hgo]; simp only; rw [if_neg hze])
            clear hgo
            go_wp2_with fail
            refine HG2.out.mono ?_
            rintro e w' ⟨rfl, rfl⟩
            go_wp2_with fail
            refine HG2.out.mono ?_
            rintro e w' ⟨rfl, rfl⟩
            go_wp2_with fail
            go_ret
            exact ⟨_, rfl, by rw [HS.out]; exact HZ.out.1, HZ.out.2.1, by rw [HS.out]; exact RowsFs.nil _ _⟩
        · obtain rfl : k = n := by omega
          have hkI : decide ((k : Int) < k) = false := by simp
          rw [Nat.sub_self] at hgo
          have hgo : goR factR k X2 = (acc.map (·.1), z) := by rw [hgo]; show (acc.map (·.1) ++ [], z) = _; rw [List.append_nil]
          by_cases hze : z.e = 0
          · have hze2 : (z.e == 0) = true := by simpa using hze
            have HS := Lib.hid (show sevR factR 8 x = (acc.map (·.1), z) by rw [HSEV.out, hgo]; simp only; rw [if_pos hze])
            have hrow0 := Row.of_owns HZ.out.2.2
            have hrow := (show RowR 2 (fun q : FactT × Value × Value => [q.2.1, q.2.2]) wr.heap.size wr (.slice av k kv) acc by subst hacc; exact RowR.of_owns (fun _ _ => rfl) HZ.out.2.2)
            have hoff := And.intro (New.of_owns HZ.out.2.2) (Typ.of_owns HZ.out.2.2)
            have hnil : av = none → k = 0 ∧ kv = 0 := fun e => by
              rcases HZ.out.2.2.2 with ⟨h, h'⟩ | ⟨g, cap, cur, hv, r⟩
              · injection h with _ h1 h2; exact ⟨h', h2⟩
              · injection hv with h; rw [e] at h; cases h
            have hcap : k ≤ kv ∧ kv ≤ maxLen := by
              obtain ⟨_, a', c', e, h1, h2, _⟩ := hrow0
              injection e with _ _ e3
              subst e3
              exact ⟨h1, h2⟩
            have HCL := Lib.hid (clip98 av k kv hcap.1 hcap.2 hnil wr)
            have HRW := Lib.hid (And.intro hrow hoff)
            clear hgo hze hrow0 hrow hoff hnil
            go_wp2_with fail
            refine HG2.out.mono ?_
            rintro e w' ⟨rfl, rfl⟩
            go_wp2_with fail
            refine HCL.out.mono ?_
            rintro e w' ⟨rfl, rfl⟩
            go_wp2_with fail
            go_ret
            exact ⟨_, rfl, by rw [HS.out]; exact HZ.out.1, HZ.out.2.1, by rw [HS.out]; exact ⟨acc, rfl, by have := RowR.clip HRW.out.1; subst hacc; exact this, HEL.out, New.clip HRW.out.2.1 _ _⟩⟩
          · have hze2 : (z.e == 0) = false := by simpa using hze
            have HS := Lib.hid (show sevR factR 8 x = ([], z) by rw [HSEV.out, hgo]; simp only; rw [if_neg hze])
            clear hgo
            go_wp2_with fail
            refine HG2.out.mono ?_
            rintro e w' ⟨rfl, rfl⟩
            go_wp2_with fail
            go_ret
            exact ⟨_, rfl, by rw [HS.out]; exact HZ.out.1, HZ.out.2.1, by rw [HS.out]; exact RowsFs.nil _ _⟩
    · have hsI : decide (((y.s.size / 8 : Nat) : Int) < n) = false := decide_eq_false (by omega)
      have hsJ : decide ((y.s.size : Int) / 8 < n) = false := decide_eq_false (by omega)
      rw [if_neg (show ¬ (y.e = 0 ∧ y.s.size / 8 < n) from fun h => hs h.2)] at hSEV
      obtain ⟨X2, hX2⟩ : ∃ X2, y = X2 := ⟨_, rfl⟩
      have H2 := H12
      rw [hX2] at H2 hSEV
      have HSEV := Lib.hid hSEV
      clear he hX2 hSEV
      go_wp2_with fail
      go_loopw [8, 9] (fun v i wr => ∃ (k : Nat) (acc : List (FactT × Value × Value)) (z : RdS), i = .int .i64 k ∧ acc.length = k ∧ k ≤ n ∧ goR factR n X2 = (acc.map (·.1) ++ (goR factR (n - k) z).1, (goR factR (n - k) z).2) ∧ RdO (some B) wr z ∧ KeepB (some B) w wr ∧ wr.ownsRow w.heap.size 98 2 v k (acc.flatMap fun q => [q.2.1, q.2.2]) ∧ ∀ q ∈ acc, RowsF w.heap.size wr q.1 q.2.1 q.2.2) (fun _ i _ => n - (intOf i).toNat)
      case atStart => exact ⟨0, [], X2, rfl, rfl, by omega, rfl, H2.out.1, H2.out.2, World.ownsRow_nil _ _ _ _, fun q h => by cases h⟩
      case round =>
        obtain ⟨k, acc, z, rfl, hacc, hk, hgo, hz, hB, hown, hel⟩ := hrel
        obtain ⟨av, kv, rfl⟩ := owns_form hown
        have HG2 := Lib.hid (good77O (some B) z wr hz)
        have HZ := Lib.hid (And.intro hz (And.intro hB hown)); have HEL := Lib.hid hel
        have hsz := hB.size
        clear hz hB hown hel
        by_cases hkn : k < n
        · have hkI : decide ((k : Int) < n) = true := decide_eq_true (by omega)
          by_cases hze : z.e = 0
          · have hze2 : (z.e == 0) = true := by simpa using hze
            have hnk : n - k = (n - (k + 1)) + 1 := by omega
            rw [hnk, goR_ok _ _ hze] at hgo
            have HC := Lib.hid (fact63O (some B) z wr HZ.out.1)
            skip
            have HGO := Lib.hid (show goR factR n X2 = ((acc.map (·.1) ++ [(factR z).1]) ++ (goR factR (n - (k + 1)) (factR z).2).1, (goR factR (n - (k + 1)) (factR z).2).2) by rw [hgo, List.append_assoc]; rfl)
            clear hgo hze hnk
            go_wp2_with fail
            refine HG2.out.mono ?_
            rintro e w' ⟨rfl, rfl⟩
            go_wp2_with fail
            refine HC.out.mono ?_
            rintro e w3 ⟨vd, vm, rfl, h3, h4, h5⟩
            obtain ⟨a1, c1, e1, -⟩ := RowS.open h5.d
            obtain ⟨a2, c2, e2, -⟩ := RowI.open h5.m
            subst e1 e2
            have HR3 := Lib.hid h3
            have hB3 := HZ.out.2.1.trans h4
            have hown3 : w3.ownsRow w.heap.size 98 2 (.slice av k kv) k (acc.flatMap fun q => [q.2.1, q.2.2]) := by
              refine ⟨HZ.out.2.2.1, ?_⟩
              rcases HZ.out.2.2.2 with h | ⟨g, cap, cur, hv, hg, hh, r⟩
              · exact .inl h
              · exact .inr ⟨g, cap, cur, hv, hg, (h4.block g (Array.getElem?_eq_some_iff.1 hh).1 (fun e => by have := HLT.out g e; omega)).trans hh, r⟩
            have HH := Lib.hid (And.intro hown3 hB3)
            have hsz3 := hB3.size; have hel3 : ∀ q ∈ acc ++ [((factR z).1, Value.slice a1 (factR z).1.dims.length c1, Value.slice a2 (factR z).1.meas.length c2)], RowsF w.heap.size w3 q.1 q.2.1 q.2.2 := fun q hq => (by rcases List.mem_append.1 hq with h | h; exact (HEL.out q h).keepB h4 HLT.out; obtain rfl := List.mem_singleton.1 h; exact h5.mono hsz); have HEL3 := Lib.hid hel3
            clear h3 h4 h5 hown3 hB3 hel3
            go_wp2_with (at_builtin; refine wpList_append_own _ rfl _ _ 55 rfl w.heap.size 98 i0 (.agg #[.slice none 0 0, .slice none 0 0]) 2 48 Try.underlying55 hi hz0 hz1 hz2 rfl (by decide) _ _ _ rfl (HH.out.1.alloc _) ⟨w3.heap.size, 0, none⟩ 1 1 [.slice a1 (factR z).1.dims.length c1, .slice a2 (factR z).1.meas.length c2] rfl rfl (cells_new _ 98 #[.slice a1 _ c1, .slice a2 _ c2]) (by intro u hu; simp at hu; rcases hu with rfl | rfl <;> rfl) (by unfold maxLen; omega) (by omega) (by simp; omega) ?_; intro v' w4 hown' hgrow _)
            have hB' := KeepB.appended HH.out.2 HH.out.1 _ hgrow
            have hR' := RdO.appended HR3.out HLT.out hsz3 HH.out.1 _ hgrow
            have hel4 := fun q hq => ((HEL3.out q hq).keepB (KeepB.of (b := none) (Below.al (Below.refl w3.heap.size w3) (Obj.cells #[.slice a1 (factR z).1.dims.length c1, .slice a2 (factR z).1.meas.length c2] 98))) (fun B e => by cases e)).grown (HH.out.1.alloc _) hgrow
            have hrow : (acc.flatMap fun q => [q.2.1, q.2.2]) ++ [.slice a1 (factR z).1.dims.length c1, .slice a2 (factR z).1.meas.length c2] = ((acc ++ [((factR z).1, Value.slice a1 (factR z).1.dims.length c1, Value.slice a2 (factR z).1.meas.length c2)]).flatMap fun q => [q.2.1, q.2.2]) := by simp
            rw [hrow] at hown'
            go_roundw
            case rel => exact ⟨k + 1, acc ++ [((factR z).1, Value.slice a1 (factR z).1.dims.length c1, Value.slice a2 (factR z).1.meas.length c2)], (factR z).2, by go_num, by rw [List.length_append, hacc]; rfl, by omega, by rw [List.map_append]; exact HGO.out, hR', hB', hown', hel4⟩
            case measure => simp [intOf]; omega
          · have hze2 : (z.e == 0) = false := by simpa using hze
            rw [goR_err _ _ hze] at hgo
            have HS := Lib.hid (show sevR factR 8 x = ([], z) by rw [HSEV.out, hgo]; simp only; rw [if_neg hze])
            clear hgo
            go_wp2_with fail
            refine HG2.out.mono ?_
            rintro e w' ⟨rfl, rfl⟩
            go_wp2_with fail
            refine HG2.out.mono ?_
            rintro e w' ⟨rfl, rfl⟩
            go_wp2_with fail
            go_ret
            exact ⟨_, rfl, by rw [HS.out]; exact HZ.out.1, HZ.out.2.1, by rw [HS.out]; exact RowsFs.nil _ _⟩
        · obtain rfl : k = n := by omega
          have hkI : decide ((k : Int) < k) = false := by simp
          rw [Nat.sub_self] at hgo
          have hgo : goR factR k X2 = (acc.map (·.1), z) := by rw [hgo]; show (acc.map (·.1) ++ [], z) = _; rw [List.append_nil]
          by_cases hze : z.e = 0
          · have hze2 : (z.e == 0) = true := by simpa using hze
            have HS := Lib.hid (show sevR factR 8 x = (acc.map (·.1), z) by rw [HSEV.out, hgo]; simp only; rw [if_pos hze])
            have hrow0 := Row.of_owns HZ.out.2.2
            have hrow := (show RowR 2 (fun q : FactT × Value × Value => [q.2.1, q.2.2]) wr.heap.size wr (.slice av k kv) acc by subst hacc; exact RowR.of_owns (fun _ _ => rfl) HZ.out.2.2)
            have hoff := And.intro (New.of_owns HZ.out.2.2) (Typ.of_owns HZ.out.2.2)
            have hnil : av = none → k = 0 ∧ kv = 0 := fun e => by
              rcases HZ.out.2.2.2 with ⟨h, h'⟩ | ⟨g, cap, cur, hv, r⟩
              · injection h with _ h1 h2; exact ⟨h', h2⟩
              · injection hv with h; rw [e] at h; cases h
            have hcap : k ≤ kv ∧ kv ≤ maxLen := by
              obtain ⟨_, a', c', e, h1, h2, _⟩ := hrow0
              injection e with _ _ e3
              subst e3
              exact ⟨h1, h2⟩
            have HCL := Lib.hid (clip98 av k kv hcap.1 hcap.2 hnil wr)
            have HRW := Lib.hid (And.intro hrow hoff)
            clear hgo hze hrow0 hrow hoff hnil
            go_wp2_with fail
            refine HG2.out.mono ?_
            rintro e w' ⟨rfl, rfl⟩
            go_wp2_with fail
            refine HCL.out.mono ?_
            rintro e w' ⟨rfl, rfl⟩
            go_wp2_with fail
            go_ret
            exact ⟨_, rfl, by rw [HS.out]; exact HZ.out.1, HZ.out.2.1, by rw [HS.out]; exact ⟨acc, rfl, by have := RowR.clip HRW.out.1; subst hacc; exact this, HEL.out, New.clip HRW.out.2.1 _ _⟩⟩
          · have hze2 : (z.e == 0) = false := by simpa using hze
            have HS := Lib.hid (show sevR factR 8 x = ([], z) by rw [HSEV.out, hgo]; simp only; rw [if_neg hze])
            clear hgo
            go_wp2_with fail
            refine HG2.out.mono ?_
            rintro e w' ⟨rfl, rfl⟩
            go_wp2_with fail
            go_ret
            exact ⟨_, rfl, by rw [HS.out]; exact HZ.out.1, HZ.out.2.1, by rw [HS.out]; exact RowsFs.nil _ _⟩
  · have he2 : (y.e == 0) = false := by simpa using he
    rw [if_neg (show ¬ (y.e = 0 ∧ y.s.size / 8 < n) from fun h => he h.1)] at hSEV
    obtain ⟨X2, hX2⟩ : ∃ X2, y = X2 := ⟨_, rfl⟩
    have H2 := H12
    rw [hX2] at H2 hSEV
    have HSEV := Lib.hid hSEV
    clear he hX2 hSEV
    go_wp2_with fail
    go_loopw [8, 9] (fun v i wr => ∃ (k : Nat) (acc : List (FactT × Value × Value)) (z : RdS), i = .int .i64 k ∧ acc.length = k ∧ k ≤ n ∧ goR factR n X2 = (acc.map (·.1) ++ (goR factR (n - k) z).1, (goR factR (n - k) z).2) ∧ RdO (some B) wr z ∧ KeepB (some B) w wr ∧ wr.ownsRow w.heap.size 98 2 v k (acc.flatMap fun q => [q.2.1, q.2.2]) ∧ ∀ q ∈ acc, RowsF w.heap.size wr q.1 q.2.1 q.2.2) (fun _ i _ => n - (intOf i).toNat)
    case atStart => exact ⟨0, [], X2, rfl, rfl, by omega, rfl, H2.out.1, H2.out.2, World.ownsRow_nil _ _ _ _, fun q h => by cases h⟩
    case round =>
      obtain ⟨k, acc, z, rfl, hacc, hk, hgo, hz, hB, hown, hel⟩ := hrel
      obtain ⟨av, kv, rfl⟩ := owns_form hown
      have HG2 := Lib.hid (good77O (some B) z wr hz)
      have HZ := Lib.hid (And.intro hz (And.intro hB hown)); have HEL := Lib.hid hel
      have hsz := hB.size
      clear hz hB hown hel
      by_cases hkn : k < n
      · have hkI : decide ((k : Int) < n) = true := decide_eq_true (by omega)
        by_cases hze : z.e = 0
        · have hze2 : (z.e == 0) = true := by simpa using hze
          have hnk : n - k = (n - (k + 1)) + 1 := by omega
          rw [hnk, goR_ok _ _ hze] at hgo
          have HC := Lib.hid (fact63O (some B) z wr HZ.out.1)
          skip
          have HGO := Lib.hid (show goR factR n X2 = ((acc.map (·.1) ++ [(factR z).1]) ++ (goR factR (n - (k + 1)) (factR z).2).1, (goR factR (n - (k + 1)) (factR z).2).2) by rw [hgo, List.append_assoc]; rfl)
          clear hgo hze hnk
          go_wp2_with fail
          refine HG2.out.mono ?_
          rintro e w' ⟨rfl, rfl⟩
          go_wp2_with fail
          refine HC.out.mono ?_
          rintro e w3 ⟨vd, vm, rfl, h3, h4, h5⟩
          obtain ⟨a1, c1, e1, -⟩ := RowS.open h5.d
          obtain ⟨a2, c2, e2, -⟩ := RowI.open h5.m
          subst e1 e2
          have HR3 := Lib.hid h3
          have hB3 := HZ.out.2.1.trans h4
          have hown3 : w3.ownsRow w.heap.size 98 2 (.slice av k kv) k (acc.flatMap fun q => [q.2.1, q.2.2]) := by
            refine ⟨HZ.out.2.2.1, ?_⟩
            rcases HZ.out.2.2.2 with h | ⟨g, cap, cur, hv, hg, hh, r⟩
            · exact .inl h
            · exact .inr ⟨g, cap, cur, hv, hg, (h4.block g (Array.getElem?_eq_some_iff.1 hh).1 (fun e => by have := HLT.out g e; omega)).trans hh, r⟩
          have HH := Lib.hid (And.intro hown3 hB3)
          have hsz3 := hB3.size; have hel3 : ∀ q ∈ acc ++ [((factR z).1, Value.slice a1 (factR z).1.dims.length c1, Value.slice a2 (factR z).1.meas.length c2)], RowsF w.heap.size w3 q.1 q.2.1 q.2.2 := fun q hq => (by rcases List.mem_append.1 hq with h | h; exact (HEL.out q h).keepB h4 HLT.out; obtain rfl := List.mem_singleton.1 h; exact h5.mono hsz); have HEL3 := Lib.hid hel3
          clear h3 h4 h5 hown3 hB3 hel3
          go_wp2_with (at_builtin; refine wpList_append_own _ rfl _ _ 55 rfl w.heap.size 98 i0 (.agg #[.slice none 0 0, .slice none 0 0]) 2 48 Try.underlying55 hi hz0 hz1 hz2 rfl (by decide) _ _ _ rfl (HH.out.1.alloc _) ⟨w3.heap.size, 0, none⟩ 1 1 [.slice a1 (factR z).1.dims.length c1, .slice a2 (factR z).1.meas.length c2] rfl rfl (cells_new _ 98 #[.slice a1 _ c1, .slice a2 _ c2]) (by intro u hu; simp at hu; rcases hu with rfl | rfl <;> rfl) (by unfold maxLen; omega) (by omega) (by simp; omega) ?_; intro v' w4 hown' hgrow _)
          have hB' := KeepB.appended HH.out.2 HH.out.1 _ hgrow
          have hR' := RdO.appended HR3.out HLT.out hsz3 HH.out.1 _ hgrow
          have hel4 := fun q hq => ((HEL3.out q hq).keepB (KeepB.of (b := none) (Below.al (Below.refl w3.heap.size w3) (Obj.cells #[.slice a1 (factR z).1.dims.length c1, .slice a2 (factR z).1.meas.length c2] 98))) (fun B e => by cases e)).grown (HH.out.1.alloc _) hgrow
          have hrow : (acc.flatMap fun q => [q.2.1, q.2.2]) ++ [.slice a1 (factR z).1.dims.length c1, .slice a2 (factR z).1.meas.length c2] = ((acc ++ [((factR z).1, Value.slice a1 (factR z).1.dims.length c1, Value.slice a2 (factR z).1.meas.length c2)]).flatMap fun q => [q.2.1, q.2.2]) := by simp
          rw [hrow] at hown'
          go_roundw
          case rel => exact ⟨k + 1, acc ++ [((factR z).1, Value.slice a1 (factR z).1.dims.length c1, Value.slice a2 (factR z).1.meas.length c2)], (factR z).2, by go_num, by rw [List.length_append, hacc]; rfl, by omega, by rw [List.map_append]; exact HGO.out, hR', hB', hown', hel4⟩
          case measure => simp [intOf]; omega
        · have hze2 : (z.e == 0) = false := by simpa using hze
          rw [goR_err _ _ hze] at hgo
          have HS := Lib.hid (show sevR factR 8 x = ([], z) by rw [HSEV.out, hgo]; simp only; rw [if_neg hze])
          clear hgo
          go_wp2_with fail
          refine HG2.out.mono ?_
          rintro e w' ⟨rfl, rfl⟩
          go_wp2_with fail
          refine HG2.out.mono ?_
          rintro e w' ⟨rfl, rfl⟩
          go_wp2_with fail
          go_ret
          exact ⟨_, rfl, by rw [HS.out]; exact HZ.out.1, HZ.out.2.1, by rw [HS.out]; exact RowsFs.nil _ _⟩
      · obtain rfl : k = n := by omega
        have hkI : decide ((k : Int) < k) = false := by simp
        rw [Nat.sub_self] at hgo
        have hgo : goR factR k X2 = (acc.map (·.1), z) := by rw [hgo]; show (acc.map (·.1) ++ [], z) = _; rw [List.append_nil]
        by_cases hze : z.e = 0
        · have hze2 : (z.e == 0) = true := by simpa using hze
          have HS := Lib.hid (show sevR factR 8 x = (acc.map (·.1), z) by rw [HSEV.out, hgo]; simp only; rw [if_pos hze])
          have hrow0 := Row.of_owns HZ.out.2.2
          have hrow := (show RowR 2 (fun q : FactT × Value × Value => [q.2.1, q.2.2]) wr.heap.size wr (.slice av k kv) acc by subst hacc; exact RowR.of_owns (fun _ _ => rfl) HZ.out.2.2)
          have hoff := And.intro (New.of_owns HZ.out.2.2) (Typ.of_owns HZ.out.2.2)
          have hnil : av = none → k = 0 ∧ kv = 0 := fun e => by
            rcases HZ.out.2.2.2 with ⟨h, h'⟩ | ⟨g, cap, cur, hv, r⟩
            · injection h with _ h1 h2; exact ⟨h', h2⟩
            · injection hv with h; rw [e] at h; cases h
          have hcap : k ≤ kv ∧ kv ≤ maxLen := by
            obtain ⟨_, a', c', e, h1, h2, _⟩ := hrow0
            injection e with _ _ e3
            subst e3
            exact ⟨h1, h2⟩
          have HCL := Lib.hid (clip98 av k kv hcap.1 hcap.2 hnil wr)
          have HRW := Lib.hid (And.intro hrow hoff)
          clear hgo hze hrow0 hrow hoff hnil
          go_wp2_with fail
          refine HG2.out.mono ?_
          rintro e w' ⟨rfl, rfl⟩
          go_wp2_with fail
          refine HCL.out.mono ?_
          rintro e w' ⟨rfl, rfl⟩
          go_wp2_with fail
          go_ret
          exact ⟨_, rfl, by rw [HS.out]; exact HZ.out.1, HZ.out.2.1, by rw [HS.out]; exact ⟨acc, rfl, by have := RowR.clip HRW.out.1; subst hacc; exact this, HEL.out, New.clip HRW.out.2.1 _ _⟩⟩
        · have hze2 : (z.e == 0) = false := by simpa using hze
          have HS := Lib.hid (show sevR factR 8 x = ([], z) by rw [HSEV.out, hgo]; simp only; rw [if_neg hze])
          clear hgo
          go_wp2_with fail
          refine HG2.out.mono ?_
          rintro e w' ⟨rfl, rfl⟩
          go_wp2_with fail
          go_ret
          exact ⟨_, rfl, by rw [HS.out]; exact HZ.out.1, HZ.out.2.1, by rw [HS.out]; exact RowsFs.nil _ _⟩
end Go.Proofs.Ytocanbdpdnkapaa
