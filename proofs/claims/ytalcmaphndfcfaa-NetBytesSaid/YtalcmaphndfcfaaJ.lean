/- A new net; a new connection. -/
import Derived.Test.YtalcmaphndfcfaaI
import Derived.Deep.DeepCutAuto
namespace Go.Proofs.Ytalcmaphndfcfaa
open Go.RowKit Go.Maps
set_option linter.unusedVariables false
set_option linter.unusedSimpArgs false

def zeroCells9 : Array Value := #[.string e0, .string e0, .bool false, .bool false, .string e0, .string e0, .bool false, .bool false, .bool false]
/-- a new connection -/
def newCn (x : Int) (b : Nat) : Cn := ⟨x, b, e0, e0, false, false, e0, e0, false, false, false⟩

theorem new8 (w : World) (F : Nat → Prop) (hF : F w.heap.size) : Calls Try.prog 8 #[] w fun e w' => e = .returned (.pointer (some ⟨w.heap.size, 0, none⟩)) ∧ NetAt F w' w.heap.size 0 [] ∧ Turn (fun _ => False) w w' ∧ w'.heap.size = w.heap.size + 1 := by
  go_enter Try.func8, Try.ntmps8
  go_wp2_with fail
  go_ret
  refine ⟨rfl, ⟨hF, .map none, Blk.new _ _ _, ⟨.inl ⟨rfl, rfl⟩, by simp, by simp, List.Pairwise.nil, by simp⟩⟩, (Turn.refl _ _).alloc _, by simp⟩

theorem hp_none {P : Program} {ops : Array Oper} {Q : Exit → Act → World → Prop} {S : World → Prop} {fuel : Nat} {listed : Array Bool} {a : Act} {w : World} (i : Nat) {o : Oper} (hi : ops[i]? = some o) (hd : o.dst = none) (hr : Region.ready .any ops listed = [i]) (hw : Region.wanted o (yielded ops a.tmps) = true)
    (w' : World) (hx : (execOp a.eval o).run P w = .ok .skip w') (hS : S w')
    (h : wpAnyH P .any ops Q S fuel (listed.setIfInBounds i true) a w') : wpAnyH P .any ops Q S (fuel + 1) listed a w := by
  refine wpAnyH_all hr (by simp) fun j hj => ?_
  obtain rfl : j = i := by simpa using hj
  unfold wpOp
  simp only [hi, hw, if_true]
  refine .inl ?_
  unfold Oper.wp
  rw [hx, Oper.upon_skip, hd]
  exact ⟨hS, h⟩

section
variable {F : Nat → Prop} {w : World} {bn : Nat} {made : Int} {L : List Cn} {c : Cn}

theorem Conns.put {bm : Nat} (h : Conns F w (.map (some bm)) L) {x : Int} (hx : (Lit.int .i64 x).wf = true) (hnew : findC L x = none) (b : Nat) (hFb : F b) (hb : Blk w b 64 zeroCells9) (hnb : ∀ c ∈ L, c.blk ≠ b) (hl : L.length < maxLen) :
    ∃ w', (Instr.mapUpdate 53 (.map (some bm)) (.int .i64 x) (.pointer (some ⟨b, 0, none⟩))).run Try.prog w = .ok () w' ∧ Conns F w' (.map (some bm)) (L ++ [newCn x b]) ∧ Turn F w w' ∧ (∀ b T cs, Blk w b T cs → Blk w' b T cs) := by
  obtain ⟨h1, h2, h3, h4, h5⟩ := h
  rcases h1 with ⟨h1, -⟩ | ⟨bm', h1, hF, hp⟩
  · cases h1
  injection h1 with h1
  injection h1 with h1
  subst h1
  obtain ⟨w', hrun, hp', ht⟩ := hp.store Try.underlying3 Try.underlying53 (by simpa [keysOf] using hl) hx (by rw [at_keys, hnew]; rfl) b
  have hB : ∀ b T cs, Blk w b T cs → Blk w' b T cs := by
    intro b T cs hb
    refine Blk.grown hb ht.grown ?_
    intro e
    cases e
    obtain ⟨es, clock, hmm⟩ := hp.isMap
    unfold Blk at hb
    rw [hmm] at hb
    simp at hb
  have hk : keysOf (L ++ [newCn x b]) = keysOf L ++ [(x, b)] := by simp [keysOf, newCn]
  have hmem : ∀ c, c ∈ L ++ [newCn x b] → c ∈ L ∨ c = newCn x b := by intro c hc; simpa using hc
  refine ⟨w', hrun, ⟨.inr ⟨bm, rfl, hF, by rw [hk]; exact hp'⟩, ?_, ?_, ?_, ?_⟩, (Turn.refl F w).map hF ht, hB⟩
  · intro c hc
    rcases hmem c hc with hc | rfl
    · exact h2 c hc
    · exact hx
  · intro c hc
    rcases hmem c hc with hc | rfl
    · exact ⟨(h3 c hc).1, hB _ _ _ (h3 c hc).2⟩
    · exact ⟨hFb, hB _ _ _ hb⟩
  · rw [List.pairwise_append]
    refine ⟨h4, by simp, fun c hc d hd => ?_⟩
    have hd : d = newCn x b := by simpa using hd
    subst hd
    refine ⟨fun e => ?_, hnb c hc⟩
    have := List.find?_eq_none.1 hnew c hc
    simp at this
    exact this e
  · intro c hc
    rcases hmem c hc with hc | rfl
    · exact h5 c hc
    · exact ⟨by show 0 + 0 ≤ 65536; omega, by show 0 + 0 ≤ 65536; omega⟩

theorem Conns.bump {mv : Value} (h : Conns F w mv L) (hF : F bn) (hb : Blk w bn 55 #[.int .i64 made, mv]) (u : Value) : Conns (fun k => F k ∨ w.heap.size ≤ k) (w.setCell ⟨bn, 0, none⟩ u) mv L := by
  have hne := fun c hc => h.ne hb (c := c) hc
  obtain ⟨h1, h2, h3, h4, h5⟩ := h
  refine ⟨?_, h2, fun c hc => ⟨.inl (h3 c hc).1, Blk.other (h3 c hc).2 (fun e => hne c hc e.symm) u⟩, h4, h5⟩
  rcases h1 with h1 | ⟨bm, e, hFm, hp⟩
  · exact .inl h1
  · refine .inr ⟨bm, e, .inl hFm, hp.setCell (a := ⟨bn, 0, none⟩) ?_ u⟩
    intro e2
    have e2 : bm = bn := e2
    subst e2
    obtain ⟨es, clock, hmm⟩ := hp.isMap
    unfold Blk at hb
    rw [hmm] at hb
    simp at hb

theorem wpList_len_C {w : World} {ops : Array Oper} {rest : List Oper} {o : Oper} {a : Act} {Q : Exit → Act → World → Prop} (hg : o.guard = none) (m : Operand)
    (hop : o.op = Op.call { callee := Callee.builtin Builtin.len, args := #[m], argTypes := #[53] }) {F : Nat → Prop} {mv : Value} {L : List Cn} (h : Conns F w mv L) (hm : a.eval m = mv) (n : Int) (hn : (L.length : Int) = n)
    (hK : wpList Try.prog ops Q rest (a.put o.dst (.int .i64 n)) w) : wpList Try.prog ops Q (o :: rest) a w := by
  refine wpList_plain hg fun K' hK' => ?_
  have hl := h.len o.type
  rw [hn] at hl
  unfold Oper.wp
  simp [execOp, hop, resolve, invoke, builtin, hm, hl, Result.andThen]
  exact hK' _ _ hK

theorem open9_full (h : NetAt F w bn made L) (hl : 8 ≤ L.length) :
    Calls Try.prog 9 #[.pointer (some ⟨bn, 0, none⟩)] w fun e w' => e = .returned (.tuple #[.int .i64 0, .int .i64 12]) ∧ w = w' := by
  obtain ⟨-, mv, h1, h2⟩ := h
  have n1 : w.cell? ⟨bn, 1, none⟩ = some mv := Blk.cell h1 1
  obtain ⟨n, hn⟩ : ∃ n : Int, (L.length : Int) = n := ⟨_, rfl⟩
  have hn8 : 8 ≤ n := by omega
  have H2 := Lib.hid h2
  have HN := Lib.hid hn
  clear h1 h2 hn hl
  go_enter Try.func9, Try.ntmps9
  go_wp2_with (at_len; refine wpList_len_C rfl _ rfl H2.out rfl n HN.out ?_)
  go_ret2
  exact ⟨rfl, rfl⟩

theorem Turn.fresh {w w' : World} {n : Nat} (h : Turn (fun k => F k ∨ n ≤ k) w w') (hn : ∀ k, n ≤ k → k < w.heap.size → F k) : Turn F w w' := h.mono (fun k hk h => h.elim id (fun h => hn k h hk))

theorem Turn.join {w w2 w' : World} (h : Turn F w w2) (h2 : Turn (fun k => F k ∨ w.heap.size ≤ k) w2 w') : Turn F w w' :=
  ⟨h2.os.trans h.os, h2.tape.trans h.tape, h2.output.trans h.output, Nat.le_trans h.size h2.size, fun k hk hF => (h2.block k (Nat.lt_of_lt_of_le hk h.size) (fun e => e.elim hF (fun e => by omega))).trans (h.block k hk hF)⟩
theorem eqSome (bm : Nat) (w : World) : (binOp .eql 53 (.map (some bm)) (.map none)).run Try.prog w = .ok (.bool false) w := by kernel_rfl
theorem eqNil (w : World) : (binOp .eql 53 (.map none) (.map none)).run Try.prog w = .ok (.bool true) w := by kernel_rfl
theorem Conns.weak {w0 n : Nat} {mv : Value} (h : Conns (fun k => (F k ∨ w0 ≤ k) ∨ n ≤ k) w mv L) (hn : w0 ≤ n) : Conns (fun k => F k ∨ w0 ≤ k) w mv L := by
  have hh : ∀ k, ((F k ∨ w0 ≤ k) ∨ n ≤ k) → (F k ∨ w0 ≤ k) := fun k h => h.elim id (fun h => .inr (by omega))
  obtain ⟨h1, h2, h3, h4, h5⟩ := h
  refine ⟨?_, h2, fun c hc => ⟨hh _ (h3 c hc).1, (h3 c hc).2⟩, h4, h5⟩
  rcases h1 with h1 | ⟨bm, e, hFm, hp⟩
  · exact .inl h1
  · exact .inr ⟨bm, e, hh _ hFm, hp⟩

set_option maxRecDepth 100000 in
set_option maxHeartbeats 4000000 in
theorem open9_ok (h : NetAt F w bn made L) (hl : L.length < 8) (hm : 0 ≤ made ∧ made < 9223372036854775807) (hnew : ∀ c ∈ L, c.num ≤ made) :
    Calls Try.prog 9 #[.pointer (some ⟨bn, 0, none⟩)] w fun e w' => e = .returned (.tuple #[.int .i64 (made + 1), .int .i64 0]) ∧
      ∃ b, NetAt (fun k => F k ∨ w.heap.size ≤ k) w' bn (made + 1) (L ++ [newCn (made + 1) b]) ∧ Turn F w w' ∧ w.heap.size ≤ b := by
  obtain ⟨hF, mv, h1, h2⟩ := h
  have n0 : w.cell? ⟨bn, 0, none⟩ = some (.int .i64 made) := Blk.cell h1 0
  have n1 : w.cell? ⟨bn, 1, none⟩ = some mv := Blk.cell h1 1
  have f0 : w.frozen? ⟨bn, 0, none⟩ = false := Blk.free h1 0
  have f1 : w.frozen? ⟨bn, 1, none⟩ = false := Blk.free h1 1
  have hbn := h1.lt
  obtain ⟨n, hn⟩ : ∃ n : Int, (L.length : Int) = n := ⟨_, rfl⟩
  have hn8 : n < 8 := by omega
  have hwr : wrap64 (made + 1) = made + 1 := w64 (by omega)
  have hwf : (Lit.int .i64 (made + 1)).wf = true := WalkArith.wf_i64 (by omega)
  have hfn : findC L (made + 1) = none := by
    unfold findC
    rw [List.find?_eq_none]
    intro c hc
    have := hnew c hc
    simp; omega
  have HX := Lib.hid (And.intro hwf (And.intro hfn (show L.length < maxLen by unfold maxLen; omega)))
  have HN := Lib.hid hn
  have HF := Lib.hid hF
  have H1 := Lib.hid h1
  have hmm := @run_makeMap Try.prog
  have q1 := eqNil
  have q2 := eqSome
  have h20 := h2
  rcases h2.map with ⟨rfl, rfl⟩ | ⟨bm, rfl, hFm, hpm⟩
  · have H2 := Lib.hid h2
    have g1 : (w.alloc (.map #[] 0)).cell? ⟨bn, 1, none⟩ = some (.map none) := (World.cell?_of_block (Below.heap_alloc w _ _ hbn)).trans n1
    have k1 : (w.alloc (.map #[] 0)).frozen? ⟨bn, 1, none⟩ = false := (World.frozen?_of_block (Below.heap_alloc w _ _ hbn)).trans f1
    clear h1 h2 hn hl hwf hfn hnew hF h20
    go_enter Try.func9, Try.ntmps9
    go_upto_region 7 with (at_len; refine wpList_len_C rfl _ rfl H2.out rfl n HN.out ?_)
    obtain ⟨bm, hbm⟩ : ∃ bm, bm = w.heap.size := ⟨_, rfl⟩
    obtain ⟨w1, hw1⟩ : ∃ w1, w1 = (w.setCell ⟨bn, 1, none⟩ (.map (some w.heap.size))).alloc (.map #[] 0) := ⟨_, rfl⟩
    have hN1 : Blk w1 bn 55 #[.int .i64 made, .map (some bm)] := by rw [hw1, hbm]; exact Blk.alloc (Blk.set H1.out 1 _) _
    have hC1 : Conns (fun k => F k ∨ w.heap.size ≤ k) w1 (.map (some bm)) [] := by
      refine ⟨.inr ⟨bm, rfl, .inr (by omega), ?_⟩, by simp, by simp, List.Pairwise.nil, by simp⟩
      rw [hw1, hbm]
      have := PMap.made (w.setCell ⟨bn, 1, none⟩ (.map (some w.heap.size))) Try.prog 3
      have e : (w.setCell ⟨bn, 1, none⟩ (.map (some w.heap.size))).heap.size = w.heap.size := by simp [World.setCell]
      rw [e] at this
      exact this
    have hT1 : Turn F w w1 := by rw [hw1]; exact ((Turn.refl F w).setCell (p := ⟨bn, 1, none⟩) HF.out _).alloc _
    rw [← hw1, ← hbm]
    have HP1 : Hid (Conns (fun k => F k ∨ w.heap.size ≤ k) (w1.setCell ⟨bn, 0, none⟩ (.int .i64 (made + 1))) (.map (some bm)) [] ∧ Turn F w (w1.setCell ⟨bn, 0, none⟩ (.int .i64 (made + 1))) ∧ w.heap.size ≤ (w1.setCell ⟨bn, 0, none⟩ (.int .i64 (made + 1))).heap.size) := by
      refine Lib.hid ⟨?_, hT1.setCell (p := ⟨bn, 0, none⟩) HF.out _, by simpa [World.setCell] using hT1.size⟩
      exact (hC1.bump (.inl HF.out) hN1 _).weak hT1.size
    clear hw1 hbm hC1 hT1 n0 n1 f0 f1 g1 k1
    have HN1 := Lib.hid hN1
    have n0 : w1.cell? ⟨bn, 0, none⟩ = some (.int .i64 made) := Blk.cell HN1.out 0
    have n1 : w1.cell? ⟨bn, 1, none⟩ = some (.map (some bm)) := Blk.cell HN1.out 1
    have f0 : w1.frozen? ⟨bn, 0, none⟩ = false := Blk.free HN1.out 0
    clear hN1
    go_wp2_with fail
    obtain ⟨w2, hw2⟩ : ∃ w2, w2 = w1.setCell ⟨bn, 0, none⟩ (.int .i64 (made + 1)) := ⟨_, rfl⟩
    have hN2 : Blk w2 bn 55 #[.int .i64 (made + 1), .map (some bm)] := by rw [hw2]; exact Blk.set HN1.out 0 _
    have hP2 := HP1.out
    rw [← hw2] at hP2
    rw [← hw2]
    clear hw2 n0 n1 f0
    have hlt : bn < w2.drew.heap.size := hN2.lt
    have hN3 : Blk (w2.drew.alloc (.cells zeroCells9 64)) bn 55 #[.int .i64 (made + 1), .map (some bm)] := Blk.alloc (Blk.drew hN2) _
    obtain ⟨hX2, hT2, hsz2⟩ := hP2
    have hT3 : ∀ G, Turn G w2 (w2.drew.alloc (.cells zeroCells9 64)) := fun G => ((Turn.refl G w2).drew).alloc _
    have hX3 := hX2.turn (hT3 (fun _ => False)) (fun _ _ h => h)
    have hput := hX3.put (x := made + 1) HX.out.1 HX.out.2.1 w2.heap.size (.inr hsz2) (Blk.new w2.drew 64 zeroCells9) (fun c hc e => by have := (hX2.blk c hc).2.lt; omega) HX.out.2.2
    have HPUT := Lib.hid hput
    have HT2 := Lib.hid hT2
    have HT3 := Lib.hid hT3
    obtain ⟨w3, hw3⟩ : ∃ w3, w3 = w2.drew.alloc (.cells zeroCells9 64) := ⟨_, rfl⟩
    rw [← hw3] at hN3 HPUT HT3
    have HW3 := Lib.hid hw3
    clear hX2 hX3 hput hT2 hw3 hT3
    refine hp_start (fun w' => w'.cell? ⟨bn, 0, none⟩ = some (.int .i64 (made + 1)) ∧ w'.cell? ⟨bn, 1, none⟩ = some (.map (some bm))) 11 rfl (by kernel_rfl) (fun c a a' w hd h => ⟨hd ▸ h.1, h.2⟩) (fun hP => ?_)
    rw [show Array.replicate 11 false = #[false, false, false, false, false, false, false, false, false, false, false] from rfl]
    have HS0 : w2.drew.cell? ⟨bn, 0, none⟩ = some (.int .i64 (made + 1)) ∧ w2.drew.cell? ⟨bn, 1, none⟩ = some (.map (some bm)) := ⟨Blk.cell (Blk.drew hN2) 0, Blk.cell (Blk.drew hN2) 1⟩
    refine hp_take hP 0 (some 31) _ rfl rfl (by kernel_rfl) rfl (fun w' hS' => by go_simp; rfl) HS0 ?_
    simp only [Act.put, List.setIfInBounds_toArray, List.set_cons_zero, List.set_cons_succ]
    refine hp_take hP 1 (some 32) _ rfl rfl (by kernel_rfl) rfl (fun w' hS' => by go_simp; rfl) HS0 ?_
    simp only [Act.put, List.setIfInBounds_toArray, List.set_cons_zero, List.set_cons_succ]
    refine hp_take hP 2 (some 33) _ rfl rfl (by kernel_rfl) rfl (fun w' hS' => by go_simp; rfl) HS0 ?_
    simp only [Act.put, List.setIfInBounds_toArray, List.set_cons_zero, List.set_cons_succ]
    refine hp_take hP 3 (some 34) _ rfl rfl (by kernel_rfl) rfl (fun w' hS' => by have cc := hS'.2; go_simp; rfl) HS0 ?_
    simp only [Act.put, List.setIfInBounds_toArray, List.set_cons_zero, List.set_cons_succ]
    refine hp_take hP 4 (some 35) _ rfl rfl (by kernel_rfl) rfl (fun w' hS' => by go_simp; rfl) HS0 ?_
    simp only [Act.put, List.setIfInBounds_toArray, List.set_cons_zero, List.set_cons_succ]
    refine hp_take hP 5 (some 36) _ rfl rfl (by kernel_rfl) rfl (fun w' hS' => by go_simp; rfl) HS0 ?_
    simp only [Act.put, List.setIfInBounds_toArray, List.set_cons_zero, List.set_cons_succ]
    refine hp_take hP 6 (some 37) _ rfl rfl (by kernel_rfl) rfl (fun w' hS' => by go_simp; rfl) HS0 ?_
    simp only [Act.put, List.setIfInBounds_toArray, List.set_cons_zero, List.set_cons_succ]
    refine hp_take hP 7 (some 38) _ rfl rfl (by kernel_rfl) rfl (fun w' hS' => by have cc := hS'.1; go_simp; rfl) HS0 ?_
    simp only [Act.put, List.setIfInBounds_toArray, List.set_cons_zero, List.set_cons_succ]
    refine hp_take hP 8 (some 39) _ rfl rfl (by kernel_rfl) rfl (fun w' hS' => by go_simp; rfl) HS0 ?_
    simp only [Act.put, List.setIfInBounds_toArray, List.set_cons_zero, List.set_cons_succ]
    refine hp_val 9 (some 40) rfl rfl (by kernel_rfl) rfl (.pointer (some ⟨w2.heap.size, 0, none⟩)) w3 (by rw [HW3.out]; go_simp; try rfl) (by exact ⟨Blk.cell hN3 0, Blk.cell hN3 1⟩) ?_
    simp only [Act.put, List.setIfInBounds_toArray, List.set_cons_zero, List.set_cons_succ]
    obtain ⟨w4, hrun, hC4, hT4, hB4⟩ := HPUT.out
    refine hp_none 10 rfl rfl (by kernel_rfl) rfl w4 (by first | (go_simp; done) | (go_simp; rw [hrun]; rfl)) (by exact ⟨Blk.cell (hB4 _ _ _ hN3) 0, Blk.cell (hB4 _ _ _ hN3) 1⟩) ?_
    simp only [Act.put, List.setIfInBounds_toArray, List.set_cons_zero, List.set_cons_succ]
    refine hk_done (by kernel_rfl) ?_
    have hN4 := hB4 _ _ _ hN3
    have n0 : w4.cell? ⟨bn, 0, none⟩ = some (.int .i64 (made + 1)) := Blk.cell hN4 0
    have HR := Lib.hid (And.intro hC4 (And.intro hT4 hN4))
    clear hC4 hT4 hN4 hB4 hrun hN3 hN2 HS0
    go_wp2_with fail
    go_ret2
    obtain ⟨hC4, hT4, hN4⟩ := HR.out
    refine ⟨rfl, w2.heap.size, ⟨.inl HF.out, _, hN4, hC4⟩, HT2.out.join ((HT3.out _).trans hT4), hsz2⟩

  · have H2 := Lib.hid h2
    have hN1 : Blk w bn 55 #[.int .i64 made, .map (some bm)] := H1.out
    have HP1 : Hid (Conns (fun k => F k ∨ w.heap.size ≤ k) (w.setCell ⟨bn, 0, none⟩ (.int .i64 (made + 1))) (.map (some bm)) L ∧ Turn F w (w.setCell ⟨bn, 0, none⟩ (.int .i64 (made + 1))) ∧ w.heap.size ≤ (w.setCell ⟨bn, 0, none⟩ (.int .i64 (made + 1))).heap.size) := by
      refine Lib.hid ⟨?_, (Turn.refl F w).setCell (p := ⟨bn, 0, none⟩) hF _, by simp [World.setCell]⟩
      exact h20.bump hF h1 _
    clear h1 h2 hn hl hwf hfn hnew hF h20 hpm hFm
    go_enter Try.func9, Try.ntmps9
    go_upto_region 7 with (at_len; refine wpList_len_C rfl _ rfl H2.out rfl n HN.out ?_)
    have HN1 := Lib.hid hN1
    have n0 : w.cell? ⟨bn, 0, none⟩ = some (.int .i64 made) := Blk.cell HN1.out 0
    have n1 : w.cell? ⟨bn, 1, none⟩ = some (.map (some bm)) := Blk.cell HN1.out 1
    have f0 : w.frozen? ⟨bn, 0, none⟩ = false := Blk.free HN1.out 0
    clear hN1
    go_wp2_with fail
    obtain ⟨w2, hw2⟩ : ∃ w2, w2 = w.setCell ⟨bn, 0, none⟩ (.int .i64 (made + 1)) := ⟨_, rfl⟩
    have hN2 : Blk w2 bn 55 #[.int .i64 (made + 1), .map (some bm)] := by rw [hw2]; exact Blk.set HN1.out 0 _
    have hP2 := HP1.out
    rw [← hw2] at hP2
    rw [← hw2]
    clear hw2 n0 n1 f0
    have hlt : bn < w2.drew.heap.size := hN2.lt
    have hN3 : Blk (w2.drew.alloc (.cells zeroCells9 64)) bn 55 #[.int .i64 (made + 1), .map (some bm)] := Blk.alloc (Blk.drew hN2) _
    obtain ⟨hX2, hT2, hsz2⟩ := hP2
    have hT3 : ∀ G, Turn G w2 (w2.drew.alloc (.cells zeroCells9 64)) := fun G => ((Turn.refl G w2).drew).alloc _
    have hX3 := hX2.turn (hT3 (fun _ => False)) (fun _ _ h => h)
    have hput := hX3.put (x := made + 1) HX.out.1 HX.out.2.1 w2.heap.size (.inr hsz2) (Blk.new w2.drew 64 zeroCells9) (fun c hc e => by have := (hX2.blk c hc).2.lt; omega) HX.out.2.2
    have HPUT := Lib.hid hput
    have HT2 := Lib.hid hT2
    have HT3 := Lib.hid hT3
    obtain ⟨w3, hw3⟩ : ∃ w3, w3 = w2.drew.alloc (.cells zeroCells9 64) := ⟨_, rfl⟩
    rw [← hw3] at hN3 HPUT HT3
    have HW3 := Lib.hid hw3
    clear hX2 hX3 hput hT2 hw3 hT3
    refine hp_start (fun w' => w'.cell? ⟨bn, 0, none⟩ = some (.int .i64 (made + 1)) ∧ w'.cell? ⟨bn, 1, none⟩ = some (.map (some bm))) 11 rfl (by kernel_rfl) (fun c a a' w hd h => ⟨hd ▸ h.1, h.2⟩) (fun hP => ?_)
    rw [show Array.replicate 11 false = #[false, false, false, false, false, false, false, false, false, false, false] from rfl]
    have HS0 : w2.drew.cell? ⟨bn, 0, none⟩ = some (.int .i64 (made + 1)) ∧ w2.drew.cell? ⟨bn, 1, none⟩ = some (.map (some bm)) := ⟨Blk.cell (Blk.drew hN2) 0, Blk.cell (Blk.drew hN2) 1⟩
    refine hp_take hP 0 (some 31) _ rfl rfl (by kernel_rfl) rfl (fun w' hS' => by go_simp; rfl) HS0 ?_
    simp only [Act.put, List.setIfInBounds_toArray, List.set_cons_zero, List.set_cons_succ]
    refine hp_take hP 1 (some 32) _ rfl rfl (by kernel_rfl) rfl (fun w' hS' => by go_simp; rfl) HS0 ?_
    simp only [Act.put, List.setIfInBounds_toArray, List.set_cons_zero, List.set_cons_succ]
    refine hp_take hP 2 (some 33) _ rfl rfl (by kernel_rfl) rfl (fun w' hS' => by go_simp; rfl) HS0 ?_
    simp only [Act.put, List.setIfInBounds_toArray, List.set_cons_zero, List.set_cons_succ]
    refine hp_take hP 3 (some 34) _ rfl rfl (by kernel_rfl) rfl (fun w' hS' => by have cc := hS'.2; go_simp; rfl) HS0 ?_
    simp only [Act.put, List.setIfInBounds_toArray, List.set_cons_zero, List.set_cons_succ]
    refine hp_take hP 4 (some 35) _ rfl rfl (by kernel_rfl) rfl (fun w' hS' => by go_simp; rfl) HS0 ?_
    simp only [Act.put, List.setIfInBounds_toArray, List.set_cons_zero, List.set_cons_succ]
    refine hp_take hP 5 (some 36) _ rfl rfl (by kernel_rfl) rfl (fun w' hS' => by go_simp; rfl) HS0 ?_
    simp only [Act.put, List.setIfInBounds_toArray, List.set_cons_zero, List.set_cons_succ]
    refine hp_take hP 6 (some 37) _ rfl rfl (by kernel_rfl) rfl (fun w' hS' => by go_simp; rfl) HS0 ?_
    simp only [Act.put, List.setIfInBounds_toArray, List.set_cons_zero, List.set_cons_succ]
    refine hp_take hP 7 (some 38) _ rfl rfl (by kernel_rfl) rfl (fun w' hS' => by have cc := hS'.1; go_simp; rfl) HS0 ?_
    simp only [Act.put, List.setIfInBounds_toArray, List.set_cons_zero, List.set_cons_succ]
    refine hp_take hP 8 (some 39) _ rfl rfl (by kernel_rfl) rfl (fun w' hS' => by go_simp; rfl) HS0 ?_
    simp only [Act.put, List.setIfInBounds_toArray, List.set_cons_zero, List.set_cons_succ]
    refine hp_val 9 (some 40) rfl rfl (by kernel_rfl) rfl (.pointer (some ⟨w2.heap.size, 0, none⟩)) w3 (by rw [HW3.out]; go_simp; try rfl) (by exact ⟨Blk.cell hN3 0, Blk.cell hN3 1⟩) ?_
    simp only [Act.put, List.setIfInBounds_toArray, List.set_cons_zero, List.set_cons_succ]
    obtain ⟨w4, hrun, hC4, hT4, hB4⟩ := HPUT.out
    refine hp_none 10 rfl rfl (by kernel_rfl) rfl w4 (by first | (go_simp; done) | (go_simp; rw [hrun]; rfl)) (by exact ⟨Blk.cell (hB4 _ _ _ hN3) 0, Blk.cell (hB4 _ _ _ hN3) 1⟩) ?_
    simp only [Act.put, List.setIfInBounds_toArray, List.set_cons_zero, List.set_cons_succ]
    refine hk_done (by kernel_rfl) ?_
    have hN4 := hB4 _ _ _ hN3
    have n0 : w4.cell? ⟨bn, 0, none⟩ = some (.int .i64 (made + 1)) := Blk.cell hN4 0
    have HR := Lib.hid (And.intro hC4 (And.intro hT4 hN4))
    clear hC4 hT4 hN4 hB4 hrun hN3 hN2 HS0
    go_wp2_with fail
    go_ret2
    obtain ⟨hC4, hT4, hN4⟩ := HR.out
    refine ⟨rfl, w2.heap.size, ⟨.inl HF.out, _, hN4, hC4⟩, HT2.out.join ((HT3.out _).trans hT4), hsz2⟩

end
end Go.Proofs.Ytalcmaphndfcfaa
