/- The choices of one set of each element: the closure that calls itself. -/
import Derived.Test.YtbcnmkdlaoaoeaaH
namespace Go.Proofs.Ytbcnmkdlaoaoeaa
open Go.RowKit
set_option linter.unusedVariables false
set_option linter.unusedSimpArgs false

/-- each choice, the first turning slowest -/
def prodL : List (List Nat) → Nat → List Nat
  | [], s => [s]
  | l :: r, s => l.flatMap fun x => prodL r (s ||| x)
theorem take_take_append (a b : List Nat) (n : Nat) : ((a.take n) ++ b).take n = (a ++ b).take n := by
  rw [List.take_append, List.take_append, List.take_take, Nat.min_self, List.length_take]
  by_cases h : a.length ≤ n
  · rw [Nat.min_eq_right h]
  · rw [Nat.min_eq_left (by omega), show n - n = 0 by omega, show n - a.length = 0 by omega]
/-- a slice of slices of sets that can be read -/
structure RowLL (B : Nat) (w : World) (v : Value) (ls : List (List Nat)) : Prop where
  row : ∃ vs : List Value, vs.length = ls.length ∧ Row B w v ls.length 1 vs ∧ ∀ j, j < ls.length → RowI B w (vs.getD j undef) ((ls.getD j []).map fun n : Nat => (n : Int))
theorem RowLL.mono {B B' : Nat} {w w' : World} {v : Value} {ls : List (List Nat)} (h : RowLL B w v ls) (hb : Below B w w') (hB : B ≤ B') : RowLL B' w' v ls := by
  obtain ⟨vs, h1, h2, h3⟩ := h.row
  exact ⟨vs, h1, Row.mono h2 hb hB, fun j hj => (h3 j hj).mono hb hB⟩
theorem RowLL.open {B : Nat} {w : World} {v : Value} {ls : List (List Nat)} (h : RowLL B w v ls) : ∃ a cap, v = .slice a ls.length cap ∧ ls.length ≤ cap ∧ cap ≤ 9223372036854775807 ∧
    (0 < ls.length → ∃ b off, a = some ⟨b, off, none⟩ ∧ b < B ∧ ∀ j, j < ls.length → ∃ x, w.cell? ⟨b, off + j, none⟩ = some x ∧ RowI B w x ((ls.getD j []).map fun n : Nat => (n : Int))) := by
  obtain ⟨vs, hl, ⟨h1, a, cap, hv, h2, h3, h4⟩, h5⟩ := h.row
  refine ⟨a, cap, hv, h2, by simpa [maxLen] using h3, fun hn => ?_⟩
  obtain ⟨b, off, ha, hb', hc⟩ := h4 hn
  exact ⟨b, off, ha, hb', fun j hj => ⟨_, hc j (by omega), h5 j hj⟩⟩

/-- how things stand while the choices are made: what was told so far, and of what -/
structure CS (bo be bc : Nat) (ve : Value) (each : List (List Nat)) (w : World) (v : Value) (xs : List Nat) : Prop where
  out : Blk w bo 22 #[v]
  own : w.ownsRow (bc + 1) 3 1 v xs.length (natV xs)
  eb : Blk w be 48 #[ve]
  row : RowLL bo w ve each
  fn : Blk w bc 51 #[.func (Fn.func 26) #[] #[.pointer (some ⟨bo, 0, none⟩), .pointer (some ⟨be, 0, none⟩), .pointer (some ⟨bc, 0, none⟩)]]
  ord : be < bo ∧ bo < bc

theorem owns_cell_other {w : World} {base : Nat} {e : TypeId} {size : Nat} {v : Value} {n : Nat} {xs : List Value} (h : w.ownsRow base e size v n xs) {p : Addr} (hne : p.block < base) (u : Value) : (w.setCell p u).ownsRow base e size v n xs := by
  refine ⟨h.1, ?_⟩
  rcases h.2 with h2 | ⟨g, cap, cur, hv, hg, hh, r⟩
  · exact .inl h2
  · exact .inr ⟨g, cap, cur, hv, hg, (Below.heap_setCell w p u g (by omega)).trans hh, r⟩
theorem below_cell {B : Nat} {a w : World} (h : Below B a w) {p : Addr} (hp : B ≤ p.block) (u : Value) : Below B a (w.setCell p u) :=
  h.trans ⟨rfl, rfl, rfl, by simp [World.setCell], fun k hk => Below.heap_setCell w p u k (by omega)⟩

theorem CS.push {bo be bc : Nat} {ve : Value} {each : List (List Nat)} {w w1 : World} {v v' : Value} {xs : List Nat} {s : Nat} {o : Obj} (h : CS bo be bc ve each w v xs) (hown : w1.ownsRow (bc + 1) 3 1 v' (xs.length + 1) (natV xs ++ [.int .i64 (s : Nat)]))
    (hg : (w.alloc o).grownBy w1 v.ownBlock) : CS bo be bc ve each (w1.setCell ⟨bo, 0, none⟩ v') v' (xs ++ [s]) ∧ Below bo w (w1.setCell ⟨bo, 0, none⟩ v') := by
  have hord := h.ord
  have hne : ∀ b, b ≤ bc → some b ≠ v.ownBlock := fun b hb e => by have h1 := h.own.lt _ e.symm; omega
  have hbo := Blk.grown (h.out.alloc o) hg (hne _ (by omega))
  have hbe := Blk.grown (h.eb.alloc o) hg (hne _ (by omega))
  have hbc := Blk.grown (h.fn.alloc o) hg (hne _ (by omega))
  have hlt := h.fn.lt
  have hB : Below bo w w1 := by
    have hb0 : Below bo w (w.alloc o) := (Below.refl bo w).alloc (by omega) o
    exact hb0.grown hg (by simp; omega) (fun k hk => by have := (h.own.lt k hk).1; omega)
  have hB2 := below_cell hB (p := ⟨bo, 0, none⟩) (Nat.le_refl _) v'
  refine ⟨⟨?_, ?_, hbe.other (by show bo ≠ be; omega) _, h.row.mono hB2 (Nat.le_refl _), hbc.other (by show bo ≠ bc; omega) _, hord⟩, hB2⟩
  · exact Blk.set hbo 0 v'
  · have := owns_cell_other hown (p := ⟨bo, 0, none⟩) (by show bo < bc + 1; omega) v'
    rw [List.length_append, natV, List.map_append]
    exact this

set_option maxRecDepth 100000 in
set_option maxHeartbeats 4000000 in
theorem cross26 (bo be bc : Nat) (ve : Value) (each : List (List Nat)) (hall : ∀ l ∈ each, ∀ x ∈ l, x < 64) (d : Nat) : ∀ (i s : Nat) (xs : List Nat) (v : Value) (w : World), i + d = each.length → s < 64 → xs.length ≤ 65 → CS bo be bc ve each w v xs →
    Calls Try.prog 26 #[.int .i64 i, .int .i64 s, .pointer (some ⟨bo, 0, none⟩), .pointer (some ⟨be, 0, none⟩), .pointer (some ⟨bc, 0, none⟩)] w fun e w' => ∃ v' r, e = .returned r ∧ CS bo be bc ve each w' v' ((xs ++ prodL (each.drop i) s).take 65) ∧ Below bo w w' := by
  induction d with
  | zero =>
    intro i s xs v w hi hs hx hC
    obtain ⟨i0, hi0, hz0, hz1, hz2⟩ := info_parts Try.info3
    obtain ⟨av, kv, rfl⟩ := owns_form hC.own
    obtain ⟨ae, ke, rfl, hke, hme, -⟩ := hC.row.open
    have c1 : w.cell? ⟨bo, 0, none⟩ = some (.slice av xs.length kv) := Blk.cell hC.out 0
    have c2 : w.cell? ⟨be, 0, none⟩ = some (.slice ae each.length ke) := Blk.cell hC.eb 0
    have HC := Lib.hid hC
    have hd : prodL (each.drop i) s = [s] := by rw [show i = each.length by omega, List.drop_length]; rfl
    rw [hd]
    have hiI : ((i : Int) == each.length) = true := by simp; omega
    have hlt := hC.fn.lt
    have hord := hC.ord
    clear hC hd hi
    by_cases h64 : 64 < xs.length
    · have ht : (xs ++ [s]).take 65 = xs := by rw [List.take_append, List.take_of_length_le hx, show 65 - xs.length = 0 by omega]; simp
      rw [ht]
      have hI : decide ((64 : Int) < xs.length) = true := decide_eq_true (by omega)
      clear ht
      go_enter Try.func26, Try.ntmps26
      go_wp2_with fail
      exact bodyPost_ret (v := .tuple #[]) (by simp [results, Try.f26, go_sem]) rfl ⟨_, _, rfl, HC.out, Below.refl _ _⟩
    · have ht : (xs ++ [s]).take 65 = xs ++ [s] := List.take_of_length_le (by simp; omega)
      rw [ht]
      have hI : decide ((64 : Int) < xs.length) = false := decide_eq_false (by omega)
      clear ht
      go_enter Try.func26, Try.ntmps26
      go_wp2_with (at_builtin; refine wpList_append_own _ rfl _ _ 22 rfl (bc + 1) 3 i0 (.int .i64 0) 1 8 Try.underlying22 hi0 hz0 hz1 hz2 rfl (by decide) _ xs.length (natV xs) rfl (HC.out.own.alloc _) ⟨w.heap.size, 0, none⟩ 1 1 [.int .i64 s] rfl rfl (cell_one_new' _ _ _) (by intro u hu; simp at hu; subst hu; rfl) (by unfold maxLen; omega) (by omega) (by simp; omega) ?_; intro v' w1 hown' hgrow _; obtain ⟨av', kv', rfl⟩ := owns_form hown'; have f1 : w1.frozen? ⟨bo, 0, none⟩ = false := Blk.free (Blk.grown (HC.out.out.alloc _) hgrow (fun e => by have h1 := HC.out.own.lt _ e.symm; have := HC.out.ord; omega)) 0; have f2 : w1.cell? ⟨bo, 0, none⟩ = some (.slice av xs.length kv) := Blk.cell (Blk.grown (HC.out.out.alloc _) hgrow (fun e => by have h1 := HC.out.own.lt _ e.symm; have := HC.out.ord; omega)) 0)
      have hp := CS.push HC.out hown' hgrow
      exact bodyPost_ret (v := .tuple #[]) (by simp [results, Try.f26, go_sem]) rfl ⟨_, _, rfl, hp.1, hp.2⟩
  | succ d ih =>
    intro i s xs v w hi hs hx hC
    obtain ⟨av, kv, rfl⟩ := owns_form hC.own
    obtain ⟨ae, ke, hve, hke, hme, hrow⟩ := hC.row.open
    have hlt : i < each.length := by omega
    obtain ⟨be2, off, ha, hb2, hrows⟩ := hrow (by omega)
    subst ha
    subst hve
    obtain ⟨x, hx1, hx2⟩ := hrows i hlt
    have hmem : each.getD i [] ∈ each := by rw [List.getD_eq_getElem?_getD, List.getElem?_eq_getElem hlt]; exact List.getElem_mem hlt
    have hal := hall _ hmem
    have hdr : each.drop i = each.getD i [] :: each.drop (i + 1) := by
      rw [List.drop_eq_getElem_cons hlt, List.getD_eq_getElem?_getD, List.getElem?_eq_getElem hlt]; rfl
    rw [hdr]
    obtain ⟨l, hl⟩ : ∃ l, each.getD i [] = l := ⟨_, rfl⟩
    rw [hl] at hx2 hal ⊢
    obtain ⟨al, kl, rfl, hkl, hml, hcl⟩ := hx2.open
    rw [List.length_map] at hkl hcl
    rw [List.length_map] at hx1
    have c1 : w.cell? ⟨bo, 0, none⟩ = some (.slice av xs.length kv) := Blk.cell hC.out 0
    have c2 : w.cell? ⟨be, 0, none⟩ = some (.slice (some ⟨be2, off, none⟩) each.length ke) := Blk.cell hC.eb 0
    have HC := Lib.hid hC
    have HL := Lib.hid (And.intro hcl hal)
    have hiI : ((i : Int) == each.length) = false := by simp; omega
    have hI2 : (i : Int) < each.length := by omega
    have HIH := Lib.hid ih
    have HI := Lib.hid hi
    clear hC hdr hi hcl hal hl hmem hrows hrow ih hx2
    by_cases h64 : 64 < xs.length
    · have ht : (xs ++ prodL (l :: each.drop (i + 1)) s).take 65 = xs := by rw [List.take_append, List.take_of_length_le hx, show 65 - xs.length = 0 by omega]; simp
      rw [ht]
      have hI : decide ((64 : Int) < xs.length) = true := decide_eq_true (by omega)
      clear ht
      go_enter Try.func26, Try.ntmps26
      go_wp2_with fail
      exact bodyPost_ret (v := .tuple #[]) (by simp [results, Try.f26, go_sem]) rfl ⟨_, _, rfl, HC.out, Below.refl _ _⟩
    · have hI : decide ((64 : Int) < xs.length) = false := decide_eq_false (by omega)
      go_enter Try.func26, Try.ntmps26
      go_upto_region 4 with fail
      go_loopw [25] (fun idx wr => ∃ (k : Nat) (v' : Value), k ≤ l.length ∧ idx = .int .i64 k ∧ CS bo be bc (.slice (some ⟨be2, off, none⟩) each.length ke) each wr v' ((xs ++ (l.take k).flatMap fun x => prodL (each.drop (i + 1)) (s ||| x)).take 65) ∧ Below bo w wr) (fun idx _ => l.length - (intOf idx).toNat)
      case atStart => exact ⟨0, _, by omega, rfl, by rw [List.take_zero, List.flatMap_nil, List.append_nil, List.take_of_length_le hx]; exact HC.out, Below.refl _ _⟩
      case round =>
        obtain ⟨k, v', hk, rfl, hCk, hB⟩ := hrel
        obtain ⟨avk, kvk, rfl⟩ := owns_form hCk.own
        have hszk := hB.size
        have HB := Lib.hid hB
        have HCk := Lib.hid hCk
        clear hB hCk
        by_cases hlt2 : k < l.length
        · obtain ⟨bl, ol, rfl, hbl, hcl⟩ := HL.out.1 (by omega)
          obtain ⟨y, hy, hy2⟩ : ∃ y : Nat, Hid (l.getD k 0 = y) ∧ w.cell? ⟨bl, ol + k, none⟩ = some (.int .i64 y) :=
            ⟨_, rfl, by rw [hcl k hlt2]; simp [List.getD_eq_getElem?_getD, hlt2]⟩
          have cy : wr.cell? ⟨bl, ol + k, none⟩ = some (.int .i64 y) := by rw [HB.out.cell (by exact hbl)]; exact hy2
          have cfn : wr.cell? ⟨bc, 0, none⟩ = some (.func (Fn.func 26) #[] #[.pointer (some ⟨bo, 0, none⟩), .pointer (some ⟨be, 0, none⟩), .pointer (some ⟨bc, 0, none⟩)]) := Blk.cell HCk.out.fn 0
          have hy64 : y < 64 := by
            apply HL.out.2
            rw [← hy.out, List.getD_eq_getElem?_getD, List.getElem?_eq_getElem hlt2]; exact List.getElem_mem hlt2
          have hor := or64 s y hs hy64
          have hol := or_lt hs hy64
          have hst : ((((xs ++ (l.take k).flatMap fun x => prodL (each.drop (i + 1)) (s ||| x)).take 65)) ++ prodL (each.drop (i + 1)) (s ||| y)).take 65 = (xs ++ (l.take (k + 1)).flatMap fun x => prodL (each.drop (i + 1)) (s ||| x)).take 65 := by
            rw [take_take_append, List.take_add_one (l := l), List.getElem?_eq_getElem hlt2, List.flatMap_append, List.append_assoc]
            have : l[k] = y := by have := hy.out; rw [List.getD_eq_getElem?_getD, List.getElem?_eq_getElem hlt2] at this; exact this
            simp [this]
          obtain ⟨zs, hzs⟩ : ∃ zs, (xs ++ (l.take k).flatMap fun x => prodL (each.drop (i + 1)) (s ||| x)).take 65 = zs := ⟨_, rfl⟩
          have hzl : zs.length ≤ 65 := by rw [← hzs]; exact List.length_take_le _ _
          rw [hzs] at hst HCk
          obtain ⟨o, ho⟩ : ∃ o, s ||| y = o := ⟨_, rfl⟩
          rw [ho] at hor hol hst
          have hih := HIH.out (i + 1) o zs _ wr (by have := HI.out; omega) hol hzl HCk.out
          have e1 : ((i + 1 : Nat) : Int) = (i : Int) + 1 := by omega
          rw [e1] at hih
          have HX := Lib.hid hih
          have HST := Lib.hid hst
          clear hih e1 hst hy2 hy ho hzs hcl
          go_wp2_with (go_at_call 26; refine HX.out.mono ?_; rintro e w2 ⟨v2, r2, rfl, hC2, hB2⟩)
          go_roundw
          case rel => exact ⟨k + 1, v2, by omega, by go_num, by rw [HST.out] at hC2; exact hC2, HB.out.trans hB2⟩
          case measure => simp [intOf]; omega
        · have hk' : k = l.length := by omega
          subst hk'
          rw [List.take_length] at HCk
          go_wp2_with fail
          exact bodyPost_end (v := .tuple #[]) (by simp [results, Try.f26, go_sem]) rfl ⟨_, _, rfl, HCk.out, HB.out⟩
end Go.Proofs.Ytbcnmkdlaoaoeaa
