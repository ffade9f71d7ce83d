/- A reader: several cells; Texts, Cells. -/
import Derived.Test.YtocanbdpdnkapaaZA
namespace Go.Proofs.Ytocanbdpdnkapaa
open Go.RowKit
set_option linter.unusedVariables false
set_option linter.unusedSimpArgs false

theorem cells_new (w : World) (T : TypeId) (cs : Array Value) : ∀ j u, cs.toList[j]? = some u → (w.alloc (.cells cs T)).cell? ((⟨w.heap.size, 0, none⟩ : Addr).add j) = some u := by
  intro j u hu
  have e : (⟨w.heap.size, 0, none⟩ : Addr).add j = ⟨w.heap.size, j, none⟩ := by unfold Addr.add; split <;> simp_all
  rw [e, Blk.cell (Blk.new w T cs)]
  simpa using hu
theorem info92p : (Try.prog.info? 92).map (fun i => (i.zero, i.size, i.bytes)) = some (some (.agg #[.int .i64 0, .int .i64 0, .string ⟨#[]⟩]), 3, 32) := by kernel_rfl
theorem RowR.clip {α : Type} {c : Nat} {cells : α → List Value} {B : Nat} {w : World} {a : Option Addr} {n k : Nat} {l : List α} (h : RowR c cells B w (.slice a n k) l) : RowR c cells B w (.slice a n n) l := by
  obtain ⟨a', cap, hv, h1, h2, h3⟩ := h
  injection hv with e1 e2 e3
  subst e1 e2 e3
  exact ⟨_, _, rfl, Nat.le_refl _, Nat.le_trans h1 h2, h3⟩
theorem clip96 (a : Option Addr) (n k : Nat) (hk : n ≤ k) (hm : k ≤ maxLen) (ha : a = none → n = 0 ∧ k = 0) (w : World) : Calls Try.prog 96 #[.slice a n k] w fun e w' => e = .returned (.slice a n n) ∧ w = w' := by
  have h1 : (0 : Int) ≤ n := by omega
  have h2 : (n : Int) ≤ k := by omega
  cases a with
  | none =>
    obtain ⟨rfl, rfl⟩ := ha rfl
    go_enter Try.func96, Try.ntmps96
    go_wp2_with fail
    go_ret
    exact ⟨rfl, rfl⟩
  | some p =>
    go_enter Try.func96, Try.ntmps96
    go_wp2_with fail
    go_ret
    exact ⟨rfl, rfl⟩

set_option maxRecDepth 100000 in
set_option maxHeartbeats 16000000 in
theorem sev86 (B : Nat) (x : RdS) (w : World) (hx : RdAt B w x) :
    Calls Try.prog 86 #[.pointer (some ⟨B, 0, none⟩), .int .i64 1, .func (Fn.func 61) #[.pointer (some ⟨B, 0, none⟩)] #[]] w fun e w' => ∃ v, e = .returned v ∧ RdO (some B) w' (sevR cellR 1 x).2 ∧ KeepB (some B) w w' ∧ RowC w'.heap.size w' v (sevR cellR 1 x).1 ∧ New w.heap.size v ∧ Typ 92 w' v := by
  obtain ⟨i0, hi, hz0, hz1, hz2⟩ := info_parts info92p
  have hT := take75O (some B) x 4 (by omega) w hx
  have hl := takeR_len (x := x) 4 hx.len
  have hd := deS_4 hl.2
  have hN := fun w => number40 (takeR x 4).1 w (by omega)
  have hlt := hx.blk.lt
  have HLT := Lib.hid (show ∀ B', some B = some B' → B' < w.heap.size from fun B' e => by cases e; exact hlt)
  have hSEV := show sevR cellR 1 x = (if (goR cellR (headR 1 x).1 (headR 1 x).2).2.e = 0 then (goR cellR (headR 1 x).1 (headR 1 x).2).1 else [], (goR cellR (headR 1 x).1 (headR 1 x).2).2) from rfl
  have hHEAD := show headR 1 x = (deS (takeR x 4).1, if (takeR x 4).2.e = 0 ∧ (takeR x 4).2.s.size / 1 < deS (takeR x 4).1 then failR (takeR x 4).2 20 else (takeR x 4).2) from rfl
  obtain ⟨n, hn⟩ : ∃ n, deS (takeR x 4).1 = n := ⟨_, rfl⟩
  rw [hn] at hN hd hHEAD
  obtain ⟨t, ht⟩ : ∃ t, takeR x 4 = t := ⟨_, rfl⟩
  rw [ht] at hT hN hl hHEAD
  obtain ⟨a0, y⟩ := t
  simp only at hT hN hl hHEAD
  rw [hHEAD] at hSEV
  simp only at hSEV
  have HT := Lib.hid hT
  have HN := Lib.hid hN
  have hnw : IntKind.i64.wrap (n : Int) = (n : Int) := IntWalk.i64_in _ (by omega)
  clear hx hN hn ht hT hHEAD
  go_enter Try.func86, Try.ntmps86
  go_wp2_with fail
  refine HT.out.mono ?_
  rintro e w1 ⟨rfl, h1, h2⟩
  have H12 := Lib.hid (And.intro h1 h2)
  have HG := Lib.hid (good77O (some B) y w1 h1)
  have c0 : w1.cell? ⟨B, 0, none⟩ = some (.string y.s) := Blk.cell (RdAt.blk h1) 0
  clear h1 h2
  go_wp2_with fail
  refine (HN.out w1).mono ?_
  rintro e w' ⟨rfl, rfl⟩
  go_wp2_with fail
  refine HG.out.mono ?_
  rintro e w' ⟨rfl, rfl⟩
  by_cases he : y.e = 0
  · have he2 : (y.e == 0) = true := by simpa using he
    by_cases hs : y.s.size / 1 < n
    · have hsI : decide (((y.s.size / 1 : Nat) : Int) < n) = true := decide_eq_true (by omega)
      have hsJ : decide ((y.s.size : Int) / 1 < n) = true := decide_eq_true (by omega)
      have hsK : decide ((y.s.size : Int) < n) = true := decide_eq_true (by omega)
      have hsL : decide (y.s.size < n) = true := decide_eq_true (by omega)
      have HF := Lib.hid (fail23O (some B) y 20 w1 H12.out.1)
      rw [if_pos (show y.e = 0 ∧ y.s.size / 1 < n from ⟨he, hs⟩)] at hSEV
      obtain ⟨X2, hX2⟩ : ∃ X2, failR y 20 = X2 := ⟨_, rfl⟩
      rw [hX2] at HF hSEV
      have HSEV := Lib.hid hSEV
      clear he hX2 hSEV
      go_wp2_with fail
      refine HF.out.mono ?_
      rintro e w2 ⟨rfl, h1, h2⟩
      have H2 := Lib.hid (And.intro h1 (H12.out.2.trans h2))
      clear h1 h2
      go_wp2_with fail
      go_loopw [8, 9] (fun v i wr => ∃ (k : Nat) (acc : List CellT) (z : RdS), i = .int .i64 k ∧ acc.length = k ∧ k ≤ n ∧ goR cellR n X2 = (acc ++ (goR cellR (n - k) z).1, (goR cellR (n - k) z).2) ∧ RdO (some B) wr z ∧ KeepB (some B) w wr ∧ wr.ownsRow w.heap.size 92 3 v k (acc.flatMap cellC)) (fun _ i _ => n - (intOf i).toNat)
      case atStart => exact ⟨0, [], X2, rfl, rfl, by omega, rfl, H2.out.1, H2.out.2, World.ownsRow_nil _ _ _ _⟩
      case round =>
        obtain ⟨k, acc, z, rfl, hacc, hk, hgo, hz, hB, hown⟩ := hrel
        obtain ⟨av, kv, rfl⟩ := owns_form hown
        have HG2 := Lib.hid (good77O (some B) z wr hz)
        have HZ := Lib.hid (And.intro hz (And.intro hB hown))
        have hsz := hB.size
        clear hz hB hown
        by_cases hkn : k < n
        · have hkI : decide ((k : Int) < n) = true := decide_eq_true (by omega)
          by_cases hze : z.e = 0
          · have hze2 : (z.e == 0) = true := by simpa using hze
            have hnk : n - k = (n - (k + 1)) + 1 := by omega
            rw [hnk, goR_ok _ _ hze] at hgo
            have HC := Lib.hid (cell61O (some B) z wr HZ.out.1)
            unfold cellV at HC
            have HGO := Lib.hid (show goR cellR n X2 = ((acc ++ [(cellR z).1]) ++ (goR cellR (n - (k + 1)) (cellR z).2).1, (goR cellR (n - (k + 1)) (cellR z).2).2) by rw [hgo, List.append_assoc]; rfl)
            clear hgo hze hnk
            go_wp2_with fail
            refine HG2.out.mono ?_
            rintro e w' ⟨rfl, rfl⟩
            go_wp2_with fail
            refine HC.out.mono ?_
            rintro e w3 ⟨rfl, h3, h4⟩
            have HR3 := Lib.hid h3
            have hB3 := HZ.out.2.1.trans h4
            have hown3 : w3.ownsRow w.heap.size 92 3 (.slice av k kv) k (acc.flatMap cellC) := by
              refine ⟨HZ.out.2.2.1, ?_⟩
              rcases HZ.out.2.2.2 with h | ⟨g, cap, cur, hv, hg, hh, r⟩
              · exact .inl h
              · exact .inr ⟨g, cap, cur, hv, hg, (h4.block g (Array.getElem?_eq_some_iff.1 hh).1 (fun e => by have := HLT.out g e; omega)).trans hh, r⟩
            have HH := Lib.hid (And.intro hown3 hB3)
            have hsz3 := hB3.size
            clear h3 h4 hown3 hB3
            go_wp2_with (at_builtin; refine wpList_append_own _ rfl _ _ 54 rfl w.heap.size 92 i0 (.agg #[.int .i64 0, .int .i64 0, .string ⟨#[]⟩]) 3 32 Try.underlying54 hi hz0 hz1 hz2 rfl (by decide) _ _ _ rfl (HH.out.1.alloc _) ⟨w3.heap.size, 0, none⟩ 1 1 [.int .i64 (cellR z).1.k, .int .i64 (cellR z).1.n, .string (cellR z).1.t] rfl rfl (cells_new _ 92 #[.int .i64 _, .int .i64 _, .string _]) (by intro u hu; simp at hu; rcases hu with rfl | rfl | rfl <;> rfl) (by unfold maxLen; omega) (by omega) (by simp; omega) ?_; intro v' w4 hown' hgrow _)
            have hB' := KeepB.appended HH.out.2 HH.out.1 _ hgrow
            have hR' := RdO.appended HR3.out HLT.out hsz3 HH.out.1 _ hgrow
            have hrow : (acc.flatMap cellC) ++ [.int .i64 (cellR z).1.k, .int .i64 (cellR z).1.n, .string (cellR z).1.t] = ((acc ++ [(cellR z).1]).flatMap cellC) := by simp [cellC]
            rw [hrow] at hown'
            go_roundw
            case rel => exact ⟨k + 1, acc ++ [(cellR z).1], (cellR z).2, by go_num, by rw [List.length_append, hacc]; rfl, by omega, HGO.out, hR', hB', hown'⟩
            case measure => simp [intOf]; omega
          · have hze2 : (z.e == 0) = false := by simpa using hze
            rw [goR_err _ _ hze] at hgo
            have HS := Lib.hid (show sevR cellR 1 x = ([], z) by rw [HSEV.out, hgo]; simp only; rw [if_neg hze])
            clear hgo
            go_wp2_with fail
            refine HG2.out.mono ?_
            rintro e w' ⟨rfl, rfl⟩
            go_wp2_with fail
            refine HG2.out.mono ?_
            rintro e w' ⟨rfl, rfl⟩
            go_wp2_with fail
            go_ret
            exact ⟨_, rfl, by rw [HS.out]; exact HZ.out.1, HZ.out.2.1, by rw [HS.out]; exact RowR.nil _ _ _ _, New.nil _, Typ.nil _ _⟩
        · obtain rfl : k = n := by omega
          have hkI : decide ((k : Int) < k) = false := by simp
          rw [Nat.sub_self] at hgo
          have hgo : goR cellR k X2 = (acc, z) := by rw [hgo]; show (acc ++ [], z) = _; rw [List.append_nil]
          by_cases hze : z.e = 0
          · have hze2 : (z.e == 0) = true := by simpa using hze
            have HS := Lib.hid (show sevR cellR 1 x = (acc, z) by rw [HSEV.out, hgo]; simp only; rw [if_pos hze])
            have hrow0 := Row.of_owns HZ.out.2.2
            have hrow := (show RowC wr.heap.size wr (.slice av k kv) acc by subst hacc; exact RowR.of_owns (fun _ _ => rfl) HZ.out.2.2)
            have hoff := And.intro (New.of_owns HZ.out.2.2) (Typ.of_owns HZ.out.2.2)
            have hnil : av = none → k = 0 ∧ kv = 0 := fun e => by
              rcases HZ.out.2.2.2 with ⟨h, h'⟩ | ⟨g, cap, cur, hv, r⟩
              · injection h with _ h1 h2; exact ⟨h', h2⟩
              · injection hv with h; rw [e] at h; cases h
            have hcap : k ≤ kv ∧ kv ≤ maxLen := by
              obtain ⟨_, a', c', e, h1, h2, _⟩ := hrow0
              injection e with _ _ e3
              subst e3
              exact ⟨h1, h2⟩
            have HCL := Lib.hid (clip96 av k kv hcap.1 hcap.2 hnil wr)
            have HRW := Lib.hid (And.intro hrow hoff)
            clear hgo hze hrow0 hrow hoff hnil
            go_wp2_with fail
            refine HG2.out.mono ?_
            rintro e w' ⟨rfl, rfl⟩
            go_wp2_with fail
            refine HCL.out.mono ?_
            rintro e w' ⟨rfl, rfl⟩
            go_wp2_with fail
            go_ret
            exact ⟨_, rfl, by rw [HS.out]; exact HZ.out.1, HZ.out.2.1, by rw [HS.out]; have := RowR.clip HRW.out.1; subst hacc; exact this, New.clip HRW.out.2.1 _ _, Typ.clip HRW.out.2.2 _ _⟩
          · have hze2 : (z.e == 0) = false := by simpa using hze
            have HS := Lib.hid (show sevR cellR 1 x = ([], z) by rw [HSEV.out, hgo]; simp only; rw [if_neg hze])
            clear hgo
            go_wp2_with fail
            refine HG2.out.mono ?_
            rintro e w' ⟨rfl, rfl⟩
            go_wp2_with fail
            go_ret
            exact ⟨_, rfl, by rw [HS.out]; exact HZ.out.1, HZ.out.2.1, by rw [HS.out]; exact RowR.nil _ _ _ _, New.nil _, Typ.nil _ _⟩
    · have hsI : decide (((y.s.size / 1 : Nat) : Int) < n) = false := decide_eq_false (by omega)
      have hsJ : decide ((y.s.size : Int) / 1 < n) = false := decide_eq_false (by omega)
      have hsK : decide ((y.s.size : Int) < n) = false := decide_eq_false (by omega)
      have hsL : decide (y.s.size < n) = false := decide_eq_false (by omega)
      rw [if_neg (show ¬ (y.e = 0 ∧ y.s.size / 1 < n) from fun h => hs h.2)] at hSEV
      obtain ⟨X2, hX2⟩ : ∃ X2, y = X2 := ⟨_, rfl⟩
      have H2 := H12
      rw [hX2] at H2 hSEV
      have HSEV := Lib.hid hSEV
      clear he hX2 hSEV
      go_wp2_with fail
      go_loopw [8, 9] (fun v i wr => ∃ (k : Nat) (acc : List CellT) (z : RdS), i = .int .i64 k ∧ acc.length = k ∧ k ≤ n ∧ goR cellR n X2 = (acc ++ (goR cellR (n - k) z).1, (goR cellR (n - k) z).2) ∧ RdO (some B) wr z ∧ KeepB (some B) w wr ∧ wr.ownsRow w.heap.size 92 3 v k (acc.flatMap cellC)) (fun _ i _ => n - (intOf i).toNat)
      case atStart => exact ⟨0, [], X2, rfl, rfl, by omega, rfl, H2.out.1, H2.out.2, World.ownsRow_nil _ _ _ _⟩
      case round =>
        obtain ⟨k, acc, z, rfl, hacc, hk, hgo, hz, hB, hown⟩ := hrel
        obtain ⟨av, kv, rfl⟩ := owns_form hown
        have HG2 := Lib.hid (good77O (some B) z wr hz)
        have HZ := Lib.hid (And.intro hz (And.intro hB hown))
        have hsz := hB.size
        clear hz hB hown
        by_cases hkn : k < n
        · have hkI : decide ((k : Int) < n) = true := decide_eq_true (by omega)
          by_cases hze : z.e = 0
          · have hze2 : (z.e == 0) = true := by simpa using hze
            have hnk : n - k = (n - (k + 1)) + 1 := by omega
            rw [hnk, goR_ok _ _ hze] at hgo
            have HC := Lib.hid (cell61O (some B) z wr HZ.out.1)
            unfold cellV at HC
            have HGO := Lib.hid (show goR cellR n X2 = ((acc ++ [(cellR z).1]) ++ (goR cellR (n - (k + 1)) (cellR z).2).1, (goR cellR (n - (k + 1)) (cellR z).2).2) by rw [hgo, List.append_assoc]; rfl)
            clear hgo hze hnk
            go_wp2_with fail
            refine HG2.out.mono ?_
            rintro e w' ⟨rfl, rfl⟩
            go_wp2_with fail
            refine HC.out.mono ?_
            rintro e w3 ⟨rfl, h3, h4⟩
            have HR3 := Lib.hid h3
            have hB3 := HZ.out.2.1.trans h4
            have hown3 : w3.ownsRow w.heap.size 92 3 (.slice av k kv) k (acc.flatMap cellC) := by
              refine ⟨HZ.out.2.2.1, ?_⟩
              rcases HZ.out.2.2.2 with h | ⟨g, cap, cur, hv, hg, hh, r⟩
              · exact .inl h
              · exact .inr ⟨g, cap, cur, hv, hg, (h4.block g (Array.getElem?_eq_some_iff.1 hh).1 (fun e => by have := HLT.out g e; omega)).trans hh, r⟩
            have HH := Lib.hid (And.intro hown3 hB3)
            have hsz3 := hB3.size
            clear h3 h4 hown3 hB3
            go_wp2_with (at_builtin; refine wpList_append_own _ rfl _ _ 54 rfl w.heap.size 92 i0 (.agg #[.int .i64 0, .int .i64 0, .string ⟨#[]⟩]) 3 32 Try.underlying54 hi hz0 hz1 hz2 rfl (by decide) _ _ _ rfl (HH.out.1.alloc _) ⟨w3.heap.size, 0, none⟩ 1 1 [.int .i64 (cellR z).1.k, .int .i64 (cellR z).1.n, .string (cellR z).1.t] rfl rfl (cells_new _ 92 #[.int .i64 _, .int .i64 _, .string _]) (by intro u hu; simp at hu; rcases hu with rfl | rfl | rfl <;> rfl) (by unfold maxLen; omega) (by omega) (by simp; omega) ?_; intro v' w4 hown' hgrow _)
            have hB' := KeepB.appended HH.out.2 HH.out.1 _ hgrow
            have hR' := RdO.appended HR3.out HLT.out hsz3 HH.out.1 _ hgrow
            have hrow : (acc.flatMap cellC) ++ [.int .i64 (cellR z).1.k, .int .i64 (cellR z).1.n, .string (cellR z).1.t] = ((acc ++ [(cellR z).1]).flatMap cellC) := by simp [cellC]
            rw [hrow] at hown'
            go_roundw
            case rel => exact ⟨k + 1, acc ++ [(cellR z).1], (cellR z).2, by go_num, by rw [List.length_append, hacc]; rfl, by omega, HGO.out, hR', hB', hown'⟩
            case measure => simp [intOf]; omega
          · have hze2 : (z.e == 0) = false := by simpa using hze
            rw [goR_err _ _ hze] at hgo
            have HS := Lib.hid (show sevR cellR 1 x = ([], z) by rw [HSEV.out, hgo]; simp only; rw [if_neg hze])
            clear hgo
            go_wp2_with fail
            refine HG2.out.mono ?_
            rintro e w' ⟨rfl, rfl⟩
            go_wp2_with fail
            refine HG2.out.mono ?_
            rintro e w' ⟨rfl, rfl⟩
            go_wp2_with fail
            go_ret
            exact ⟨_, rfl, by rw [HS.out]; exact HZ.out.1, HZ.out.2.1, by rw [HS.out]; exact RowR.nil _ _ _ _, New.nil _, Typ.nil _ _⟩
        · obtain rfl : k = n := by omega
          have hkI : decide ((k : Int) < k) = false := by simp
          rw [Nat.sub_self] at hgo
          have hgo : goR cellR k X2 = (acc, z) := by rw [hgo]; show (acc ++ [], z) = _; rw [List.append_nil]
          by_cases hze : z.e = 0
          · have hze2 : (z.e == 0) = true := by simpa using hze
            have HS := Lib.hid (show sevR cellR 1 x = (acc, z) by rw [HSEV.out, hgo]; simp only; rw [if_pos hze])
            have hrow0 := Row.of_owns HZ.out.2.2
            have hrow := (show RowC wr.heap.size wr (.slice av k kv) acc by subst hacc; exact RowR.of_owns (fun _ _ => rfl) HZ.out.2.2)
            have hoff := And.intro (New.of_owns HZ.out.2.2) (Typ.of_owns HZ.out.2.2)
            have hnil : av = none → k = 0 ∧ kv = 0 := fun e => by
              rcases HZ.out.2.2.2 with ⟨h, h'⟩ | ⟨g, cap, cur, hv, r⟩
              · injection h with _ h1 h2; exact ⟨h', h2⟩
              · injection hv with h; rw [e] at h; cases h
            have hcap : k ≤ kv ∧ kv ≤ maxLen := by
              obtain ⟨_, a', c', e, h1, h2, _⟩ := hrow0
              injection e with _ _ e3
              subst e3
              exact ⟨h1, h2⟩
            have HCL := Lib.hid (clip96 av k kv hcap.1 hcap.2 hnil wr)
            have HRW := Lib.hid (And.intro hrow hoff)
            clear hgo hze hrow0 hrow hoff hnil
            go_wp2_with fail
            refine HG2.out.mono ?_
            rintro e w' ⟨rfl, rfl⟩
            go_wp2_with fail
            refine HCL.out.mono ?_
            rintro e w' ⟨rfl, rfl⟩
            go_wp2_with fail
            go_ret
            exact ⟨_, rfl, by rw [HS.out]; exact HZ.out.1, HZ.out.2.1, by rw [HS.out]; have := RowR.clip HRW.out.1; subst hacc; exact this, New.clip HRW.out.2.1 _ _, Typ.clip HRW.out.2.2 _ _⟩
          · have hze2 : (z.e == 0) = false := by simpa using hze
            have HS := Lib.hid (show sevR cellR 1 x = ([], z) by rw [HSEV.out, hgo]; simp only; rw [if_neg hze])
            clear hgo
            go_wp2_with fail
            refine HG2.out.mono ?_
            rintro e w' ⟨rfl, rfl⟩
            go_wp2_with fail
            go_ret
            exact ⟨_, rfl, by rw [HS.out]; exact HZ.out.1, HZ.out.2.1, by rw [HS.out]; exact RowR.nil _ _ _ _, New.nil _, Typ.nil _ _⟩
  · have he2 : (y.e == 0) = false := by simpa using he
    rw [if_neg (show ¬ (y.e = 0 ∧ y.s.size / 1 < n) from fun h => he h.1)] at hSEV
    obtain ⟨X2, hX2⟩ : ∃ X2, y = X2 := ⟨_, rfl⟩
    have H2 := H12
    rw [hX2] at H2 hSEV
    have HSEV := Lib.hid hSEV
    clear he hX2 hSEV
    go_wp2_with fail
    go_loopw [8, 9] (fun v i wr => ∃ (k : Nat) (acc : List CellT) (z : RdS), i = .int .i64 k ∧ acc.length = k ∧ k ≤ n ∧ goR cellR n X2 = (acc ++ (goR cellR (n - k) z).1, (goR cellR (n - k) z).2) ∧ RdO (some B) wr z ∧ KeepB (some B) w wr ∧ wr.ownsRow w.heap.size 92 3 v k (acc.flatMap cellC)) (fun _ i _ => n - (intOf i).toNat)
    case atStart => exact ⟨0, [], X2, rfl, rfl, by omega, rfl, H2.out.1, H2.out.2, World.ownsRow_nil _ _ _ _⟩
    case round =>
      obtain ⟨k, acc, z, rfl, hacc, hk, hgo, hz, hB, hown⟩ := hrel
      obtain ⟨av, kv, rfl⟩ := owns_form hown
      have HG2 := Lib.hid (good77O (some B) z wr hz)
      have HZ := Lib.hid (And.intro hz (And.intro hB hown))
      have hsz := hB.size
      clear hz hB hown
      by_cases hkn : k < n
      · have hkI : decide ((k : Int) < n) = true := decide_eq_true (by omega)
        by_cases hze : z.e = 0
        · have hze2 : (z.e == 0) = true := by simpa using hze
          have hnk : n - k = (n - (k + 1)) + 1 := by omega
          rw [hnk, goR_ok _ _ hze] at hgo
          have HC := Lib.hid (cell61O (some B) z wr HZ.out.1)
          unfold cellV at HC
          have HGO := Lib.hid (show goR cellR n X2 = ((acc ++ [(cellR z).1]) ++ (goR cellR (n - (k + 1)) (cellR z).2).1, (goR cellR (n - (k + 1)) (cellR z).2).2) by rw [hgo, List.append_assoc]; rfl)
          clear hgo hze hnk
          go_wp2_with fail
          refine HG2.out.mono ?_
          rintro e w' ⟨rfl, rfl⟩
          go_wp2_with fail
          refine HC.out.mono ?_
          rintro e w3 ⟨rfl, h3, h4⟩
          have HR3 := Lib.hid h3
          have hB3 := HZ.out.2.1.trans h4
          have hown3 : w3.ownsRow w.heap.size 92 3 (.slice av k kv) k (acc.flatMap cellC) := by
            refine ⟨HZ.out.2.2.1, ?_⟩
            rcases HZ.out.2.2.2 with h | ⟨g, cap, cur, hv, hg, hh, r⟩
            · exact .inl h
            · exact .inr ⟨g, cap, cur, hv, hg, (h4.block g (Array.getElem?_eq_some_iff.1 hh).1 (fun e => by have := HLT.out g e; omega)).trans hh, r⟩
          have HH := Lib.hid (And.intro hown3 hB3)
          have hsz3 := hB3.size
          clear h3 h4 hown3 hB3
          go_wp2_with (at_builtin; refine wpList_append_own _ rfl _ _ 54 rfl w.heap.size 92 i0 (.agg #[.int .i64 0, .int .i64 0, .string ⟨#[]⟩]) 3 32 Try.underlying54 hi hz0 hz1 hz2 rfl (by decide) _ _ _ rfl (HH.out.1.alloc _) ⟨w3.heap.size, 0, none⟩ 1 1 [.int .i64 (cellR z).1.k, .int .i64 (cellR z).1.n, .string (cellR z).1.t] rfl rfl (cells_new _ 92 #[.int .i64 _, .int .i64 _, .string _]) (by intro u hu; simp at hu; rcases hu with rfl | rfl | rfl <;> rfl) (by unfold maxLen; omega) (by omega) (by simp; omega) ?_; intro v' w4 hown' hgrow _)
          have hB' := KeepB.appended HH.out.2 HH.out.1 _ hgrow
          have hR' := RdO.appended HR3.out HLT.out hsz3 HH.out.1 _ hgrow
          have hrow : (acc.flatMap cellC) ++ [.int .i64 (cellR z).1.k, .int .i64 (cellR z).1.n, .string (cellR z).1.t] = ((acc ++ [(cellR z).1]).flatMap cellC) := by simp [cellC]
          rw [hrow] at hown'
          go_roundw
          case rel => exact ⟨k + 1, acc ++ [(cellR z).1], (cellR z).2, by go_num, by rw [List.length_append, hacc]; rfl, by omega, HGO.out, hR', hB', hown'⟩
          case measure => simp [intOf]; omega
        · have hze2 : (z.e == 0) = false := by simpa using hze
          rw [goR_err _ _ hze] at hgo
          have HS := Lib.hid (show sevR cellR 1 x = ([], z) by rw [HSEV.out, hgo]; simp only; rw [if_neg hze])
          clear hgo
          go_wp2_with fail
          refine HG2.out.mono ?_
          rintro e w' ⟨rfl, rfl⟩
          go_wp2_with fail
          refine HG2.out.mono ?_
          rintro e w' ⟨rfl, rfl⟩
          go_wp2_with fail
          go_ret
          exact ⟨_, rfl, by rw [HS.out]; exact HZ.out.1, HZ.out.2.1, by rw [HS.out]; exact RowR.nil _ _ _ _, New.nil _, Typ.nil _ _⟩
      · obtain rfl : k = n := by omega
        have hkI : decide ((k : Int) < k) = false := by simp
        rw [Nat.sub_self] at hgo
        have hgo : goR cellR k X2 = (acc, z) := by rw [hgo]; show (acc ++ [], z) = _; rw [List.append_nil]
        by_cases hze : z.e = 0
        · have hze2 : (z.e == 0) = true := by simpa using hze
          have HS := Lib.hid (show sevR cellR 1 x = (acc, z) by rw [HSEV.out, hgo]; simp only; rw [if_pos hze])
          have hrow0 := Row.of_owns HZ.out.2.2
          have hrow := (show RowC wr.heap.size wr (.slice av k kv) acc by subst hacc; exact RowR.of_owns (fun _ _ => rfl) HZ.out.2.2)
          have hoff := And.intro (New.of_owns HZ.out.2.2) (Typ.of_owns HZ.out.2.2)
          have hnil : av = none → k = 0 ∧ kv = 0 := fun e => by
            rcases HZ.out.2.2.2 with ⟨h, h'⟩ | ⟨g, cap, cur, hv, r⟩
            · injection h with _ h1 h2; exact ⟨h', h2⟩
            · injection hv with h; rw [e] at h; cases h
          have hcap : k ≤ kv ∧ kv ≤ maxLen := by
            obtain ⟨_, a', c', e, h1, h2, _⟩ := hrow0
            injection e with _ _ e3
            subst e3
            exact ⟨h1, h2⟩
          have HCL := Lib.hid (clip96 av k kv hcap.1 hcap.2 hnil wr)
          have HRW := Lib.hid (And.intro hrow hoff)
          clear hgo hze hrow0 hrow hoff hnil
          go_wp2_with fail
          refine HG2.out.mono ?_
          rintro e w' ⟨rfl, rfl⟩
          go_wp2_with fail
          refine HCL.out.mono ?_
          rintro e w' ⟨rfl, rfl⟩
          go_wp2_with fail
          go_ret
          exact ⟨_, rfl, by rw [HS.out]; exact HZ.out.1, HZ.out.2.1, by rw [HS.out]; have := RowR.clip HRW.out.1; subst hacc; exact this, New.clip HRW.out.2.1 _ _, Typ.clip HRW.out.2.2 _ _⟩
        · have hze2 : (z.e == 0) = false := by simpa using hze
          have HS := Lib.hid (show sevR cellR 1 x = ([], z) by rw [HSEV.out, hgo]; simp only; rw [if_neg hze])
          clear hgo
          go_wp2_with fail
          refine HG2.out.mono ?_
          rintro e w' ⟨rfl, rfl⟩
          go_wp2_with fail
          go_ret
          exact ⟨_, rfl, by rw [HS.out]; exact HZ.out.1, HZ.out.2.1, by rw [HS.out]; exact RowR.nil _ _ _ _, New.nil _, Typ.nil _ _⟩
end Go.Proofs.Ytocanbdpdnkapaa
