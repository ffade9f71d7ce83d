/- More of Base11: a load and a call that may come up in either order; an append in a region that draws its order. -/
import Derived.Test.YtofjifhnkcghpaaDoorBase11
import Derived.Maps.AppendAt
namespace Go.Proofs.YtofjifhnkcghpaaDoor
open Go.RowKit
set_option linter.unusedVariables false
set_option linter.unusedSimpArgs false

theorem hp_lc {P : Program} {ops : Array Oper} {Q : Exit → Act → World → Prop} {S : World → Prop} {fuel : Nat} {listed : Array Bool} {a : Act} {w : World} (i j : Nat) (di dj : Tmp) (vi : Value) {oi oj : Oper} (hij : i ≠ j) (hdd : di ≠ dj)
    (hi : ops[i]? = some oi) (hj : ops[j]? = some oj) (hdi : oi.dst = some di) (hdj : oj.dst = some dj) (hr : Region.ready .any ops listed = [i, j])
    (hri : Region.ready .any ops (listed.setIfInBounds i true) = [j]) (hrj : Region.ready .any ops (listed.setIfInBounds j true) = [i])
    (hgi : oi.guard = none) (hgj : oj.guard = none) (f : FuncId) (args : Array Value)
    (x1 : (execOp a.eval oi).run P w = .ok (.value vi) w)
    (x3 : (execOp a.eval oj).run P w = .ok (.enter f args) w) (x4 : (execOp (a.put (some di) vi).eval oj).run P w = .ok (.enter f args) w) (hS : S w)
    (hc : Calls P f args w fun e w' => ∃ v, e = .returned v ∧ S w' ∧ (execOp (a.put (some dj) v).eval oi).run P w' = .ok (.value vi) w' ∧
      wpAnyH P .any ops Q S fuel ((listed.setIfInBounds i true).setIfInBounds j true) ((a.put (some di) vi).put (some dj) v) w') : wpAnyH P .any ops Q S (fuel + 1 + 1) listed a w := by
  have wi : ∀ a : Act, Region.wanted oi (yielded ops a.tmps) = true := fun a => by simp [Region.wanted, hgi]
  have wj : ∀ a : Act, Region.wanted oj (yielded ops a.tmps) = true := fun a => by simp [Region.wanted, hgj]
  refine hp_two i j hr ?_ ?_
  · refine wpOp_val i (some di) hi hdi (wi _) vi w x1 ⟨hS, ?_⟩
    exact hp_call j (some dj) hj hdj hri (wj _) f args x4 (hc.mono fun e w' ⟨v, h1, h2, _, h4⟩ => ⟨v, h1, h2, h4⟩)
  · refine wpOp_call j (some dj) hj hdj (wj _) f args x3 (hc.mono fun e w' ⟨v, h1, h2, h3, h4⟩ => ⟨v, h1, h2, ?_⟩)
    refine hp_val i (some di) hi hdi hrj (wi _) vi w' h3 h2 ?_
    rw [Array.setIfInBounds_comm _ _ (Ne.symm hij)]
    have e : (a.put (some dj) v).put (some di) vi = (a.put (some di) vi).put (some dj) v := by
      simp only [Act.put]
      rw [Array.setIfInBounds_comm _ _ (Ne.symm hdd)]
    rw [e]
    exact h4

theorem hp_append {P : Program} {ops : Array Oper} {Q : Exit → Act → World → Prop} {S : World → Prop} {fuel : Nat} {listed : Array Bool} {a : Act} {w : World} (k : Nat) (d : Option Tmp) {o : Oper} (hk : ops[k]? = some o) (hd : o.dst = d)
    (hr : Region.ready .any ops listed = [k]) (hw : Region.wanted o (yielded ops a.tmps) = true) (s x : Operand) (t : TypeId) (ho : o.op = .call { callee := .builtin .append, args := #[s, x], argTypes := #[t, t] })
    (base : Nat) (e : TypeId) (i : TypeInfo) (z : Value) (size bytes : Nat) (ht : P.underlying t = some (.slice e)) (hi : P.info? e = some i) (hz : i.zero = some z)
    (hsize : i.size = size) (hby : i.bytes = bytes) (hzs : z.cells.size = size) (h0 : 0 < size)
    (v : Value) (n : Nat) (xs : List Value) (hs : a.eval s = v) (hown : w.ownsRow base e size v n xs)
    (ad : Addr) (m c : Nat) (news : List Value) (hx : a.eval x = .slice (some ad) m c) (hl : news.length = m * size) (hnews : ∀ j u, news[j]? = some u → w.cell? (ad.add j) = some u) (h1 : ∀ u ∈ news, u.oneCell' = true)
    (h63 : n + m ≤ maxLen) (hbytes : (n + m) * bytes ≤ 140737488355328) (hbase : base ≤ w.heap.size)
    (h : ∀ v' w', w'.ownsRow base e size v' (n + m) (xs ++ news) → w.grownBy w' v.ownBlock → (v'.ownBlock = v.ownBlock ∨ v'.ownBlock = some w.heap.size) → S w' ∧ wpAnyH P .any ops Q S fuel (listed.setIfInBounds k true) (a.put d v') w') :
    wpAnyH P .any ops Q S (fuel + 1) listed a w := by
  obtain ⟨v', w', hrun, h2, h3, -, h5⟩ := run_append_own_at (P := P) w base t o.type e i z size bytes ht hi hz hsize hby hzs h0 v n xs hown ad m c news hl hnews h1 h63 hbytes hbase
  obtain ⟨hS, hh⟩ := h v' w' h2 h3 h5
  refine hp_val k d hk hd hr hw v' w' ?_ hS hh
  unfold execOp
  simp only [ho, resolve, invoke, builtin, Sem.run_bind, Sem.run_pure, Result.andThen_ok, List.map_toArray, List.map_cons, List.map_nil, hs, hx, hrun]

theorem hp_none {P : Program} {ops : Array Oper} {Q : Exit → Act → World → Prop} {S : World → Prop} {fuel : Nat} {listed : Array Bool} {a : Act} {w : World} (i : Nat) {o : Oper} (hi : ops[i]? = some o) (hd : o.dst = none) (hr : Region.ready .any ops listed = [i]) (hw : Region.wanted o (yielded ops a.tmps) = true)
    (w' : World) (hx : (execOp a.eval o).run P w = .ok .skip w') (hS : S w')
    (h : wpAnyH P .any ops Q S fuel (listed.setIfInBounds i true) a w') : wpAnyH P .any ops Q S (fuel + 1) listed a w := by
  refine wpAnyH_all hr (by simp) fun j hj => ?_
  obtain rfl : j = i := by simpa using hj
  unfold wpOp
  simp only [hi, hw, if_true]
  refine .inl ?_
  unfold Oper.wp
  rw [hx, Oper.upon_skip, hd]
  exact ⟨hS, h⟩
end Go.Proofs.YtofjifhnkcghpaaDoor
