/- append onto a slice of the call's own that begins anywhere in its block (one cell an element). -/
import Derived.Test.YtkndcofmhfeaoaaBase4
namespace Go.Proofs.Ytkndcofmhfeaoaa
open Go.RowKit
set_option linter.unusedVariables false
set_option linter.unusedSimpArgs false

/-- the slice v, of n elements of one cell each, owns the cells xs, wherever in its block it begins -/
def ownsIn (w : World) (base : Nat) (e : TypeId) (v : Value) (n : Nat) (xs : List Value) : Prop :=
  xs.length = n ∧
  ((v = .slice none 0 0 ∧ n = 0) ∨
   ∃ g off cap cur, v = .slice (some ⟨g, off, none⟩) n cap ∧ base ≤ g ∧ w.heap[g]? = some (.cells cur e (0, 0)) ∧ n ≤ cap ∧ cap ≤ maxLen ∧ off + cap ≤ cur.size ∧ (cur.toList.drop off).take n = xs)
theorem ownsIn.of_owns {w : World} {base : Nat} {e : TypeId} {v : Value} {n : Nat} {xs : List Value} (h : w.ownsRow base e 1 v n xs) : ownsIn w base e v n xs := by
  refine ⟨by simpa using h.1, ?_⟩
  rcases h.2 with h | ⟨g, cap, cur, hv, hg, hh, h1, h2, h3, h4⟩
  · exact .inl h
  · exact .inr ⟨g, 0, cap, cur, hv, hg, hh, h1, h2, by simp at h3 ⊢; omega, by simpa using h4⟩
theorem ownsIn.nil (w : World) (base : Nat) (e : TypeId) : ownsIn w base e (.slice none 0 0) 0 [] := ⟨rfl, .inl ⟨rfl, rfl⟩⟩
theorem ownsIn.below {w w' : World} {base B : Nat} {e : TypeId} {v : Value} {n : Nat} {xs : List Value} (h : ownsIn w base e v n xs) (hb : Below B w w') (hB : w.heap.size ≤ B) : ownsIn w' base e v n xs := by
  refine ⟨h.1, ?_⟩
  rcases h.2 with h | ⟨g, off, cap, cur, hv, hg, hh, r⟩
  · exact .inl h
  · exact .inr ⟨g, off, cap, cur, hv, hg, by rw [hb.block g (by have := (Array.getElem?_eq_some_iff.1 hh).1; omega)]; exact hh, r⟩

theorem ownsIn.base0 {w : World} {base base' : Nat} {e : TypeId} {v : Value} {n : Nat} {xs : List Value} (h : ownsIn w base e v n xs) (hb : ∀ g, v.ownBlock = some g → base' ≤ g) : ownsIn w base' e v n xs := by
  refine ⟨h.1, ?_⟩
  rcases h.2 with h | ⟨g, off, cap, cur, rfl, hg, r⟩
  · exact .inl h
  · exact .inr ⟨g, off, cap, cur, rfl, hb g rfl, r⟩
theorem run_append_in {P : Program} (w : World) (base : Nat) (t ty e : TypeId) (i : TypeInfo) (z : Value) (bytes : Nat) (ht : P.underlying t = some (.slice e)) (hi : P.info? e = some i) (hz : i.zero = some z)
    (hsize : i.size = 1) (hby : i.bytes = bytes) (hzs : z.cells.size = 1) 
    (v : Value) (n : Nat) (xs : List Value) (hown : ownsIn w base e v n xs)
    (a : Addr) (m c : Nat) (news : List Value) (hl : news.length = m) (hnews : ∀ j u, news[j]? = some u → w.cell? (a.add j) = some u) (h1 : ∀ u ∈ news, u.oneCell' = true)
    (h63 : n + m ≤ maxLen) (hbytes : (n + m) * bytes ≤ 140737488355328) (hbase : base ≤ w.heap.size) :
    ∃ v' w', (Builtin.append_ #[t, t] ty #[v, .slice (some a) m c]).run P w = .ok v' w' ∧ ownsIn w' base e v' (n + m) (xs ++ news) ∧ w.grownBy w' v.ownBlock ∧ (∀ g, v'.ownBlock = some g → v.ownBlock = some g ∨ w.heap.size ≤ g) := by
  rcases hown.2 with ⟨rfl, rfl⟩ | ⟨g, off, cap, cur, rfl, hbg, hg, hnc, hcm, hcs, htake⟩
  · have hx : xs = [] := List.eq_nil_of_length_eq_zero hown.1
    subst hx
    obtain ⟨v', w', h2, h3, h4, -⟩ := run_append_own (P := P) w w.heap.size t ty e i z 1 bytes ht hi hz hsize hby hzs (by omega) (.slice none 0 0) 0 [] (World.ownsRow_nil w w.heap.size e 1) a m c news (by omega) hnews h1 h63 hbytes (Nat.le_refl _)
    have h5 : ∀ g, v'.ownBlock = some g → w.heap.size ≤ g := fun g hg => (h3.lt g hg).1
    exact ⟨v', w', h2, (ownsIn.of_owns h3).base0 (fun g hg => Nat.le_trans hbase (h5 g hg)), h4, fun g hg => .inr (h5 g hg)⟩
  · by_cases hroom : n + m ≤ cap
    · have hf := run_firstCells_some (P := P) w i.size m a m c news (by rw [hsize]; omega) hnews
      have hst := run_storeCells_at P g (off + n) e news 0 cur w hg (by omega) h1
      simp only [Nat.add_zero] at hst
      obtain ⟨N, hN⟩ : ∃ N, N = (cur.toList.take (off + n) ++ news ++ cur.toList.drop (off + n + news.length)).toArray := ⟨_, rfl⟩
      have hNs : off + cap ≤ N.size := by
        rw [hN]; simp only [List.size_toArray, List.length_append, List.length_take, List.length_drop, Array.length_toList]; omega
      have hNt : (N.toList.drop off).take (n + m) = xs ++ news := by
        rw [hN, List.append_assoc, List.drop_append_of_le_length (by simp; omega), List.drop_take, show off + n - off = n by omega, htake, ← List.append_assoc]
        exact List.take_left' (by simp [hown.1, hl])
      refine ⟨.slice (some ⟨g, off, none⟩) (n + m) cap, w.setRow g N, ?_, ⟨by simp [hown.1, hl], .inr ⟨g, off, cap, N, rfl, hbg, setRow_heap w g cur _ e _ hg, hroom, hcm, hNs, hNt⟩⟩, ⟨rfl, rfl, rfl, by simp, fun k _ hk => setRow_other w g k _ (fun e => hk (by simp [Value.ownBlock, e]))⟩, fun k hk => .inl hk⟩
      rw [← hN] at hst
      rw [hsize] at hf
      simp [Builtin.append_, run_underlying ht, sizeOf, typeInfo, hi, hsize, Builtin.lenOf, hroom, hf, Addr.add_lit, hst]
    · have holds : ∀ j u, xs[j]? = some u → w.cell? ((⟨g, off, none⟩ : Addr).add j) = some u := by
        intro j u hu
        have e1 : (⟨g, off, none⟩ : Addr).add j = ⟨g, off + j, none⟩ := by unfold Addr.add; split <;> simp_all
        rw [e1]
        rw [← htake] at hu
        have hj : j < n := by
          have := (List.getElem?_eq_some_iff.1 hu).1
          simp at this; omega
        rw [List.getElem?_take, if_pos hj, List.getElem?_drop] at hu
        simp [World.cell?, hg]
        simpa using hu
      have hx1 : xs.length = n * i.size := by rw [hsize, hown.1]; omega
      have hl1 : news.length = m * i.size := by rw [hsize]; omega
      have hr := run_append_grow (P := P) w t ty e i z ht hi hz ⟨g, off, none⟩ n cap xs hx1 holds a m c news hl1 hnews (by omega) (by simp only [maxLen] at h63; omega) (growslice_fits (by omega) (by rw [hby]; exact hbytes))
      refine ⟨_, _, hr, ownsIn.of_owns ⟨by simp [hown.1, hl], .inr ⟨w.heap.size, _, _, rfl, hbase, heap_alloc_new w.drew _, grownCap_ge w (n + m) cap e, grownCap_le_maxLen w (n + m) cap e h63, ?_, ?_⟩⟩, ⟨rfl, rfl, rfl, by simp, fun k hk _ => heap_alloc_old w.drew _ hk⟩, fun k hk => .inr (by cases hk; exact Nat.le_refl _)⟩
      · have hge := grownCap_ge w (n + m) cap e
        simp only [Array.size_append, List.size_toArray, size_zeroCells, hzs, hown.1, hl]
        omega
      · simp only [Array.toList_append, List.append_assoc]
        rw [← List.append_assoc]
        exact List.take_left' (by simp [hown.1, hl])

theorem wpList_append_in {P : Program} {ops : Array Oper} {rest : List Oper} {o : Oper} {a : Act} {w : World} {Q : Exit → Act → World → Prop} (hgd : o.guard = none) (s x : Operand) (t : TypeId)
    (ho : o.op = .call { callee := .builtin .append, args := #[s, x], argTypes := #[t, t] })
    (base : Nat) (e : TypeId) (i : TypeInfo) (z : Value) (bytes : Nat) (ht : P.underlying t = some (.slice e)) (hi : P.info? e = some i) (hz : i.zero = some z)
    (hsize : i.size = 1) (hby : i.bytes = bytes) (hzs : z.cells.size = 1)
    (v : Value) (n : Nat) (xs : List Value) (hs : a.eval s = v) (hown : ownsIn w base e v n xs)
    (ad : Addr) (m c : Nat) (news : List Value) (hx : a.eval x = .slice (some ad) m c) (hl : news.length = m) (hnews : ∀ j u, news[j]? = some u → w.cell? (ad.add j) = some u) (h1 : ∀ u ∈ news, u.oneCell' = true)
    (h63 : n + m ≤ maxLen) (hbytes : (n + m) * bytes ≤ 140737488355328) (hbase : base ≤ w.heap.size)
    (h : ∀ v' w', ownsIn w' base e v' (n + m) (xs ++ news) → w.grownBy w' v.ownBlock → (∀ g, v'.ownBlock = some g → v.ownBlock = some g ∨ w.heap.size ≤ g) → wpList P ops Q rest (a.put o.dst v') w') : wpList P ops Q (o :: rest) a w := by
  refine wpList_plain hgd fun _ hK => ?_
  obtain ⟨v', w', hr, h2, h3, h4⟩ := run_append_in (P := P) w base t o.type e i z bytes ht hi hz hsize hby hzs v n xs hown ad m c news hl hnews h1 h63 hbytes hbase
  unfold Oper.wp execOp
  simp only [ho, resolve, invoke, builtin, Sem.run_bind, Sem.run_pure, Result.andThen_ok, List.map_toArray, List.map_cons, List.map_nil, hs, hx, hr]
  exact hK _ _ (h v' w' h2 h3 h4)

/-- without its first element -/
theorem ownsIn.tail {w : World} {base : Nat} {e : TypeId} {g off cap n : Nat} {x : Value} {xs : List Value} (h : ownsIn w base e (.slice (some ⟨g, off, none⟩) (n + 1) cap) (n + 1) (x :: xs)) :
    ownsIn w base e (.slice (some ⟨g, if cap = 1 then off else off + 1, none⟩) n (cap - 1)) n xs := by
  refine ⟨by have := h.1; simpa using this, ?_⟩
  rcases h.2 with ⟨h, -⟩ | ⟨g', off', cap', cur, hv, hg, hh, h1, h2, h3, h4⟩
  · simp at h
  · injection hv with e1 e2 e3
    injection e1 with e1
    injection e1 with e4 e5
    subst e3 e4 e5
    refine .inr ⟨g, _, cap - 1, cur, rfl, hg, hh, by omega, by omega, by split <;> omega, ?_⟩
    have : ((cur.toList.drop off).take (n + 1)).drop 1 = xs := by rw [h4]; rfl
    rw [List.drop_take, List.drop_drop] at this
    by_cases hc : cap = 1
    · have hn : n = 0 := by omega
      subst hn
      have hx : xs = [] := List.eq_nil_of_length_eq_zero (by have := h.1; simpa using this)
      simp [hx]
    · rw [if_neg hc]; simpa using this
theorem ownsIn.form {w : World} {base : Nat} {e : TypeId} {v : Value} {n : Nat} {xs : List Value} (h : ownsIn w base e v n xs) (hn : 0 < n) : ∃ g off cap, v = .slice (some ⟨g, off, none⟩) n cap ∧ base ≤ g ∧ n ≤ cap ∧ cap ≤ 9223372036854775807 := by
  rcases h.2 with ⟨-, h⟩ | ⟨g, off, cap, cur, hv, hg, _, h1, h2, _⟩
  · omega
  · exact ⟨g, off, cap, hv, hg, h1, h2⟩
theorem ownsIn.any {w : World} {base : Nat} {e : TypeId} {v : Value} {n : Nat} {xs : List Value} (h : ownsIn w base e v n xs) : ∃ a cap, v = .slice a n cap := by
  rcases h.2 with ⟨rfl, rfl⟩ | ⟨g, off, cap, cur, hv, hg, _, h1, h2, _⟩
  · exact ⟨none, 0, rfl⟩
  · exact ⟨_, _, hv⟩
theorem ownsIn.block {w w' : World} {base : Nat} {e : TypeId} {v : Value} {n : Nat} {xs : List Value} (h : ownsIn w base e v n xs) (hb : ∀ g, v.ownBlock = some g → w'.heap[g]? = w.heap[g]?) : ownsIn w' base e v n xs := by
  refine ⟨h.1, ?_⟩
  rcases h.2 with h | ⟨g, off, cap, cur, rfl, hg, hh, r⟩
  · exact .inl h
  · exact .inr ⟨g, off, cap, cur, rfl, hg, (hb g rfl).trans hh, r⟩
theorem ownsIn.own {w : World} {base : Nat} {e : TypeId} {v : Value} {n : Nat} {xs : List Value} (h : ownsIn w base e v n xs) {g : Nat} (hg : v.ownBlock = some g) : ∃ cur, w.heap[g]? = some (.cells cur e (0, 0)) := by
  rcases h.2 with ⟨rfl, -⟩ | ⟨g', off, cap, cur, rfl, _, hh, r⟩
  · cases hg
  · cases hg; exact ⟨cur, hh⟩
theorem ownsIn.lt {w : World} {base : Nat} {e : TypeId} {v : Value} {n : Nat} {xs : List Value} (h : ownsIn w base e v n xs) {g : Nat} (hg : v.ownBlock = some g) : g < w.heap.size := by
  obtain ⟨cur, hh⟩ := h.own hg
  exact (Array.getElem?_eq_some_iff.1 hh).1
theorem ownsIn.cell {w : World} {base : Nat} {e : TypeId} {g off n cap : Nat} {xs : List Value} (h : ownsIn w base e (.slice (some ⟨g, off, none⟩) n cap) n xs) {j : Nat} (hj : j < n) : w.cell? ⟨g, off + j, none⟩ = xs[j]? := by
  rcases h.2 with ⟨h, -⟩ | ⟨g', off', cap', cur, hv, hg, hh, h1, h2, h3, h4⟩
  · cases h
  · injection hv with e1 e2 e3
    injection e1 with e1
    injection e1 with e4 e5
    subst e3 e4 e5
    rw [← h4, List.getElem?_take, if_pos hj, List.getElem?_drop]
    simp [World.cell?, hh]

end Go.Proofs.Ytkndcofmhfeaoaa
