/- The dictionary: Text, Put. -/
import Derived.Test.YtiihnepfcgmghaaA
import Derived.OneCell
namespace Go.Proofs.Ytiihnepfcgmghaa
open Go.RowKit Go.Maps
set_option linter.unusedVariables false
set_option linter.unusedSimpArgs false

theorem text16 (F : Nat → Prop) (D : Nat) (l : List ByteArray) (i : Nat) (hi : i < l.length) (w : World) {vo : Value} (h : DictAt F D w l vo) :
    Calls Try.prog 16 #[.pointer (some ⟨D, 0, none⟩), .int .i64 (i : Int)] w fun e w' => e = .returned (.tuple #[.string (l.getD i ByteArray.empty), .bool true]) ∧ w = w' := by
  have hz := h.size
  obtain ⟨⟨vt, vm, hb, ho, hf, hm⟩, hd, -, hsm⟩ := h
  obtain ⟨a, c, hv, hcap, hmax, hc⟩ := RowS.open (RowS.of_owns ho)
  subst hv
  obtain ⟨b, off, rfl, hbl, hcell⟩ := hc (by omega)
  have hci := hcell i hi
  have c0 : w.cell? ⟨D, 0, none⟩ = some (.slice (some ⟨b, off, none⟩) l.length c) := Blk.cell hb 0
  have d1 : decide ((i : Int) < 0) = false := decide_eq_false (by omega)
  have d2 : decide ((l.length : Int) ≤ i) = false := decide_eq_false (by omega)
  generalize l.getD i ByteArray.empty = s at *
  clear hcell hc hm ho hf hb hsm
  go_enter Try.func16, Try.ntmps16
  go_wp2_with fail
  go_ret2
  exact ⟨rfl, rfl⟩
theorem Turn.grown {F : Nat → Prop} {w w1 w2 : World} (h : Turn F w w1) {row : Option Nat} (hg : w1.grownBy w2 row) (hr : ∀ g, row = some g → F g) : Turn F w w2 :=
  h.trans ⟨hg.os, hg.tape, hg.output, hg.size, fun k hk hF => hg.block k hk (fun e => hF (hr k e.symm))⟩
theorem Blk.ne_map {w : World} {b bm : Nat} {T : TypeId} {cs : Array Value} {es : Array MapEntry} {clock : Nat} (h : Blk w b T cs) (hm : w.heap[bm]? = some (.map es clock)) : b ≠ bm := fun e => by
  subst e
  have := h.symm.trans hm
  cases this
theorem Blk.ne_type {w : World} {b c : Nat} {T T' : TypeId} {cs cs' : Array Value} (h : Blk w b T cs) (h' : Blk w c T' cs') (hT : T ≠ T') : b ≠ c := fun e => by
  subst e
  have := h.symm.trans h'
  cases this
  exact hT rfl
/-- a text's number, and the texts behind it -/
def putL (l : List ByteArray) (s : ByteArray) : List ByteArray := match idx l s with | some _ => l | none => l ++ [s]
def putV (l : List ByteArray) (s : ByteArray) (vo : Value) : Value := match idx l s with | some _ => vo | none => .pointer none
def putN (l : List ByteArray) (s : ByteArray) : Nat := match idx l s with | some i => i | none => l.length
theorem info9 : (Try.prog.info? 9).map (fun i => (i.zero, i.size, i.bytes)) = some (some (.string ⟨#[]⟩), 1, 16) := by kernel_rfl
theorem owns_blk {w : World} {base : Nat} {v : Value} {e : TypeId} {size n : Nat} {xs : List Value} (h : w.ownsRow base e size v n xs) : ∀ g, v.ownBlock = some g → ∃ cs, Blk w g e cs := fun g hg => by
  rcases h.2 with ⟨rfl, -⟩ | ⟨g', cap, cur, rfl, -, hh, -⟩
  · cases hg
  · cases hg; exact ⟨cur, hh⟩
theorem owns_ne {w : World} {base : Nat} {v : Value} {e : TypeId} {size n : Nat} {xs : List Value} (h : w.ownsRow base e size v n xs) {b : Nat} {T : TypeId} {cs : Array Value} (hb : Blk w b T cs) (hT : e ≠ T) : ∀ g, v.ownBlock = some g → g = b → False := fun g hg he => by
  obtain ⟨cs', hc⟩ := owns_blk h g hg
  exact Blk.ne_type hc hb hT he
theorem owns_ne_map {w : World} {base : Nat} {v : Value} {e : TypeId} {size n : Nat} {xs : List Value} (h : w.ownsRow base e size v n xs) {b : Nat} {es : Array MapEntry} {clock : Nat} (hb : w.heap[b]? = some (.map es clock)) : ∀ g, v.ownBlock = some g → g = b → False := fun g hg he => by
  obtain ⟨cs', hc⟩ := owns_blk h g hg
  exact Blk.ne_map hc hb he
theorem owns_turned {w w' : World} {base : Nat} {v : Value} {e : TypeId} {size n : Nat} {xs : List Value} {bm : Nat} (h : w.ownsRow base e size v n xs) (ht : w.mapTurned w' bm) (hm : ∃ es clock, w.heap[bm]? = some (.map es clock)) : w'.ownsRow base e size v n xs := by
  obtain ⟨es, clock, hm⟩ := hm
  refine ⟨h.1, ?_⟩
  rcases h.2 with h1 | ⟨g, cap, cur, hv, hg, hh, q⟩
  · exact .inl h1
  · exact .inr ⟨g, cap, cur, hv, hg, (ht.grown.block g (Array.getElem?_eq_some_iff.1 hh).1 (fun e => by injection e with e; exact owns_ne_map h hm g (by rw [hv]; rfl) e)).trans hh, q⟩
theorem wpList_append_own5 {P : Program} {ops : Array Oper} {rest : List Oper} {o : Oper} {a : Act} {Q : Exit → Act → World → Prop} (w : World) (hg : o.guard = none) (s x : Operand) (t : TypeId) (ho : o.op = .call { callee := .builtin .append, args := #[s, x], argTypes := #[t, t] })
    (base : Nat) (e : TypeId) (i : TypeInfo) (z : Value) (size bytes : Nat) (ht : P.underlying t = some (.slice e)) (hi : P.info? e = some i) (hz : i.zero = some z)
    (hsize : i.size = size) (hby : i.bytes = bytes) (hzs : z.cells.size = size) (h0 : 0 < size)
    (v : Value) (n : Nat) (xs : List Value) (hs : a.eval s = v) (hown : w.ownsRow base e size v n xs)
    (ad : Addr) (m c : Nat) (news : List Value) (hx : a.eval x = .slice (some ad) m c) (hl : news.length = m * size) (hnews : ∀ j u, news[j]? = some u → w.cell? (ad.add j) = some u) (h1 : ∀ u ∈ news, u.oneCell' = true)
    (h63 : n + m ≤ maxLen) (hbytes : (n + m) * bytes ≤ 140737488355328) (hbase : base ≤ w.heap.size)
    (h : ∀ v' w', w'.ownsRow base e size v' (n + m) (xs ++ news) → w.grownBy w' v.ownBlock → (v'.ownBlock = v.ownBlock ∨ v'.ownBlock = some w.heap.size) → wpList P ops Q rest (a.put o.dst v') w') :
    wpList P ops Q (o :: rest) a w := by
  refine wpList_plain hg fun K' hK' => ?_
  obtain ⟨v', w', hrun, h2, h3, -, h5⟩ := run_append_own_at (P := P) w base t o.type e i z size bytes ht hi hz hsize hby hzs h0 v n xs hown ad m c news hl hnews h1 h63 hbytes hbase
  unfold Oper.wp
  simp [execOp, ho, resolve, invoke, builtin, hs, hx, hrun, Result.andThen]
  exact hK' _ _ (h v' w' h2 h3 h5)
theorem alloc_size (w : World) (o : Obj) : (w.alloc o).heap.size = w.heap.size + 1 := by simp
theorem eq_nil (w : World) : (binOp BinOp.eql 54 (.map none) (.map none)).run Try.prog w = .ok (.bool true) w := by kernel_rfl
theorem mk54 (w : World) : (Instr.makeMap 54 none).run Try.prog w = .ok (.map (some w.heap.size)) (w.alloc (.map #[] 0)) := by kernel_rfl
theorem eq_some (bm : Nat) (w : World) : (binOp BinOp.eql 54 (.map (some bm)) (.map none)).run Try.prog w = .ok (.bool false) w := by kernel_rfl
set_option maxRecDepth 100000 in
set_option maxHeartbeats 16000000 in
theorem put10 (F : Nat → Prop) (D : Nat) (l : List ByteArray) (s : ByteArray) (hs : s.size ≤ 64) (w : World) {vo : Value} (h : DictAt F D w l vo) (hroom : idx l s ≠ none ∨ l.length < 4096) :
    Calls Try.prog 10 #[.pointer (some ⟨D, 0, none⟩), .string s] w fun e w' => e = .returned (.tuple #[.int .i64 (putN l s : Nat), .int .i64 0]) ∧ Turn F w w' ∧ DictAt (fun k => F k ∨ (w.heap.size ≤ k ∧ k < w'.heap.size)) D w' (putL l s) (putV l s vo) := by
  have hml : (64 : Nat) ≤ maxLen := by decide
  have hH := h
  have hz := h.size
  obtain ⟨⟨vt, vm, hb, ho, hf, hm⟩, hd, -, hsm⟩ := h
  have hlk := find_look (w := w) (s := s) (hm.imp id (fun ⟨bm, h1, h2, h3⟩ => ⟨bm, h1, h2, trivial⟩)) (by omega)
  obtain ⟨a, c, rfl⟩ := owns_form ho
  have c0 : w.cell? ⟨D, 0, none⟩ = some (.slice a l.length c) := Blk.cell hb 0
  have c1 : w.cell? ⟨D, 1, none⟩ = some vm := Blk.cell hb 1
  have d0 : decide ((64 : Int) < s.size) = false := decide_eq_false (by omega)
  cases hi : idx l s with
  | some i =>
    have hp1 : putN l s = i := by unfold putN; rw [hi]
    have hp2 : putL l s = l := by unfold putL; rw [hi]
    have hp3 : putV l s vo = vo := by unfold putV; rw [hi]
    rw [hp1, hp2, hp3]
    unfold findV at hlk
    rw [hi] at hlk
    simp only [Option.getD_some, Option.isSome_some] at hlk
    have HH := Lib.hid hH
    clear hm ho hf hb hsm hH
    go_enter Try.func10, Try.ntmps10
    go_wp2_with fail
    go_ret2
    exact ⟨rfl, Turn.refl _ _, HH.out.mono (fun k hk => .inl hk)⟩
  | none =>
    have hp1 : putN l s = l.length := by unfold putN; rw [hi]
    have hp2 : putL l s = l ++ [s] := by unfold putL; rw [hi]
    have hll : l.length < 4096 := by rcases hroom with h | h; exact absurd hi h; exact h
    have hp3 : putV l s vo = .pointer none := by unfold putV; rw [hi]
    rw [hp1, hp2, hp3]
    unfold findV at hlk
    rw [hi] at hlk
    simp only [Option.getD_none, Option.isSome_none] at hlk
    have d1 : decide ((4096 : Int) ≤ l.length) = false := decide_eq_false (by omega)
    have hnew : look (nums 0 l) s = none := by rw [nums_look, hi]; rfl
    obtain ⟨i0, hi0, hz0, hz1, hz2⟩ := info_parts info9
    have hG := Turn.refl (fun k => F k ∨ w.heap.size ≤ k) w
    clear hH hi
    rcases hm with ⟨rfl, hl0⟩ | ⟨bm, rfl, hmap, hFm⟩
    · -- no map yet
      have f1 : (w.alloc (.map #[] 0)).frozen? ⟨D, 1, none⟩ = false := Blk.free (hb.alloc _) 1
      have g1 := Blk.cell (hb.alloc (.map #[] 0)) 1
      have hlt := hb.lt
      have hb2 := Blk.set (hb.alloc (.map #[] 0)) 1 (.map (some w.heap.size))
      have hm2 := (SMap.made w Try.prog 9 (plainElem (H := Unit) Try.prog 3)).block (w' := (w.alloc (.map #[] 0)).setCell ⟨D, 1, none⟩ (.map (some w.heap.size))) (Below.heap_setCell _ _ _ _ (show w.heap.size ≠ D by omega))
      have ho2 := ownsRow_setCell_other (ho.alloc (.map #[] 0)) (a := ⟨D, 1, none⟩) (fun e => owns_ne ho hb (by decide) D e rfl) (.map (some w.heap.size))
      have ht2 := (hG.alloc (.map #[] 0)).setCell (p := ⟨D, 1, none⟩) (.inl hd) (.map (some w.heap.size))
      rw [show ([] : List (ByteArray × DataW Unit)) = nums 0 l by rw [hl0]; rfl] at hm2
      clear hlt
      have hE := eq_nil w
      have hMk := mk54 w
      clear hl0
      go_enter Try.func10, Try.ntmps10
      go_upto_region 12 with fail
      obtain ⟨wa, hwa⟩ : ∃ wa, wa = (w.alloc (.map #[] 0)).setCell ⟨D, 1, none⟩ (.map (some w.heap.size)) := ⟨_, rfl⟩
      obtain ⟨bm, hbm⟩ : ∃ bm, bm = w.heap.size := ⟨_, rfl⟩
      rw [← hwa] at hb2 hm2 ho2 ht2 ⊢
      have hfa : ∀ g, (Value.slice a l.length c).ownBlock = some g → F g ∨ w.heap.size ≤ g := fun g hg => .inl (hf g hg)
      have hGb : F w.heap.size ∨ w.heap.size ≤ w.heap.size := .inr (Nat.le_refl _)
      have ca0 : wa.cell? ⟨D, 0, none⟩ = some (.slice a l.length c) := Blk.cell hb2 0
      have HB := Lib.hid (And.intro hb2 (And.intro ho2 (And.intro hfa (And.intro hm2 (And.intro hGb ht2)))))
      clear hb2 ho2 hm2 ht2 hfa hwa f1 g1 c0 c1 hb ho hf
      go_upto_region 14 with (at_builtin; refine wpList_append_own5 _ rfl _ _ 34 rfl 0 9 i0 (.string ⟨#[]⟩) 1 16 Try.underlying34 hi0 hz0 hz1 hz2 rfl (by decide) _ _ _ rfl (HB.out.2.1.alloc (Obj.cells #[.string s] 9)) ⟨(wa).heap.size, 0, none⟩ 1 1 [.string s] rfl rfl (cell_one_new' _ _ _) (by intro u hu; simp at hu; subst hu; rfl) (by unfold maxLen; omega) (by omega) (Nat.zero_le _) ?_; intro v' w5 hown5 hgrow hat; have hb5 := Blk.grown (HB.out.1.alloc _) hgrow (fun e => owns_ne HB.out.2.1 HB.out.1 (by decide) D e.symm rfl); have f0 := Blk.free hb5 0; have g0 := Blk.cell hb5 0; obtain ⟨v5a, v5c, hv5⟩ := owns_form hown5; subst hv5)
      have hm5 := HB.out.2.2.2.1.block (w' := w5) ((hgrow.block _ (Nat.lt_of_lt_of_le HB.out.2.2.2.1.lt (by simp)) (fun e => by obtain ⟨es, ck, hq⟩ := HB.out.2.2.2.1.isMap; exact owns_ne_map HB.out.2.1 hq _ e.symm rfl)).trans (Below.heap_alloc _ _ _ HB.out.2.2.2.1.lt))
      have hb6 := Blk.set hb5 0 (.slice v5a (l.length + 1) v5c)
      have hm6 := hm5.block (w' := w5.setCell ⟨D, 0, none⟩ (.slice v5a (l.length + 1) v5c)) (Below.heap_setCell _ _ _ _ (fun e => by obtain ⟨es, ck, hq⟩ := hm5.isMap; exact Blk.ne_map hb5 hq e.symm))
      have ho6 := ownsRow_setCell_other hown5 (a := ⟨D, 0, none⟩) (fun e => owns_ne hown5 hb5 (by decide) D e rfl) (.slice v5a (l.length + 1) v5c)
      have ht6 := ((HB.out.2.2.2.2.2.alloc (Obj.cells #[.string s] 9)).grown hgrow (fun g hg => HB.out.2.2.1 g hg)).setCell (p := ⟨D, 0, none⟩) (.inl hd) (.slice v5a (l.length + 1) v5c)
      have hf6 : ∀ g, (Value.slice v5a (l.length + 1) v5c).ownBlock = some g → F g ∨ w.heap.size ≤ g := fun g hg => by
        rcases hat with h | h
        · exact HB.out.2.2.1 g (h ▸ hg)
        · right
          have hs := HB.out.2.2.2.2.2.size
          have e := h.symm.trans hg
          injection e with e
          rw [← e]; rw [alloc_size]; omega
      clear hb5 f0 g0 hm5 hgrow hown5
      generalize w5.setCell ⟨D, 0, none⟩ (.slice v5a (l.length + 1) v5c) = w6 at *
      obtain ⟨w7, hrun, hm7, hturn⟩ := hm6.store (v := .int .i64 (l.length : Nat)) Try.underlying9 Try.underlying54 (by rw [nums_length]; unfold maxLen; omega) (show s.size ≤ maxLen by omega) (intR_mk (by omega)) hnew
      have c61 : w6.cell? ⟨D, 1, none⟩ = some (.map (some w.heap.size)) := Blk.cell hb6 1
      have hb7 : Blk w7 D 57 _ := (hturn.grown.block D hb6.lt (fun e => by obtain ⟨es, ck, hq⟩ := hm6.isMap; injection e with e; exact Blk.ne_map hb6 hq e)).trans hb6
      have f7 : w7.frozen? ⟨D, 2, none⟩ = false := Blk.free hb7 2
      have g7 := Blk.cell hb7 2
      have hm8 := hm7.block (w' := w7.setCell ⟨D, 2, none⟩ (.pointer none)) (Below.heap_setCell _ _ _ _ (fun e => by obtain ⟨es, ck, hq⟩ := hm7.isMap; exact Blk.ne_map hb7 hq e.symm))
      have ho7 := owns_turned ho6 hturn hm6.isMap
      have ho8 := ownsRow_setCell_other ho7 (a := ⟨D, 2, none⟩) (fun e => owns_ne ho7 hb7 (by decide) D e rfl) (.pointer none)
      have ht8 := (ht6.map HB.out.2.2.2.2.1 hturn).setCell (p := ⟨D, 2, none⟩) (.inl hd) (.pointer none)
      have hb8 := Blk.set hb7 2 (.pointer none)
      have H8 := Lib.hid (And.intro hb8 (And.intro ho8 (And.intro hm8 (And.intro ht8 hf6))))
      have HBG := Lib.hid HB.out.2.2.2.2.1
      clear hb6 hm6 ho6 ht6 hm7 hturn hb7 hm8 ho7 ho8 ht8 hb8 hf6 HB
      go_wp2_with fail
      go_ret2
      refine ⟨rfl, H8.out.2.2.2.1.mono (fun k hk h => h.resolve_right (by omega)), ⟨⟨_, _, H8.out.1, ?_, fun g hg => ?_, .inr ⟨w.heap.size, rfl, ?_, ?_⟩⟩, .inl hd, by simp; try omega, fun t ht => ?_⟩⟩
      · simpa using H8.out.2.1
      · rcases H8.out.2.2.2.2 g hg with h | h
        · exact .inl h
        · exact .inr ⟨h, (H8.out.2.1.lt g hg).2⟩
      · have := H8.out.2.2.1
        rw [nums_append, Nat.zero_add]; exact this
      · rcases HBG.out with h | h
        · exact .inl h
        · exact .inr ⟨h, H8.out.2.2.1.lt⟩
      · rcases List.mem_append.1 ht with h | h
        · exact hsm t h
        · obtain rfl := List.mem_singleton.1 h; exact hs
    · have HB := Lib.hid (And.intro hb (And.intro ho (And.intro (show ∀ g, (Value.slice a l.length c).ownBlock = some g → F g ∨ w.heap.size ≤ g from fun g hg => .inl (hf g hg)) (And.intro hmap (And.intro (show F bm ∨ w.heap.size ≤ bm from .inl hFm) hG)))))
      have hE := eq_some bm w
      clear hb hf hmap ho
      go_enter Try.func10, Try.ntmps10
      go_upto_region 14 with (at_builtin; refine wpList_append_own5 _ rfl _ _ 34 rfl 0 9 i0 (.string ⟨#[]⟩) 1 16 Try.underlying34 hi0 hz0 hz1 hz2 rfl (by decide) _ _ _ rfl (HB.out.2.1.alloc (Obj.cells #[.string s] 9)) ⟨(w).heap.size, 0, none⟩ 1 1 [.string s] rfl rfl (cell_one_new' _ _ _) (by intro u hu; simp at hu; subst hu; rfl) (by unfold maxLen; omega) (by omega) (Nat.zero_le _) ?_; intro v' w5 hown5 hgrow hat; have hb5 := Blk.grown (HB.out.1.alloc _) hgrow (fun e => owns_ne HB.out.2.1 HB.out.1 (by decide) D e.symm rfl); have f0 := Blk.free hb5 0; have g0 := Blk.cell hb5 0; obtain ⟨v5a, v5c, hv5⟩ := owns_form hown5; subst hv5)
      have hm5 := HB.out.2.2.2.1.block (w' := w5) ((hgrow.block _ (Nat.lt_of_lt_of_le HB.out.2.2.2.1.lt (by simp)) (fun e => by obtain ⟨es, ck, hq⟩ := HB.out.2.2.2.1.isMap; exact owns_ne_map HB.out.2.1 hq _ e.symm rfl)).trans (Below.heap_alloc _ _ _ HB.out.2.2.2.1.lt))
      have hb6 := Blk.set hb5 0 (.slice v5a (l.length + 1) v5c)
      have hm6 := hm5.block (w' := w5.setCell ⟨D, 0, none⟩ (.slice v5a (l.length + 1) v5c)) (Below.heap_setCell _ _ _ _ (fun e => by obtain ⟨es, ck, hq⟩ := hm5.isMap; exact Blk.ne_map hb5 hq e.symm))
      have ho6 := ownsRow_setCell_other hown5 (a := ⟨D, 0, none⟩) (fun e => owns_ne hown5 hb5 (by decide) D e rfl) (.slice v5a (l.length + 1) v5c)
      have ht6 := ((HB.out.2.2.2.2.2.alloc (Obj.cells #[.string s] 9)).grown hgrow (fun g hg => HB.out.2.2.1 g hg)).setCell (p := ⟨D, 0, none⟩) (.inl hd) (.slice v5a (l.length + 1) v5c)
      have hf6 : ∀ g, (Value.slice v5a (l.length + 1) v5c).ownBlock = some g → F g ∨ w.heap.size ≤ g := fun g hg => by
        rcases hat with h | h
        · exact HB.out.2.2.1 g (h ▸ hg)
        · right
          have hs := HB.out.2.2.2.2.2.size
          have e := h.symm.trans hg
          injection e with e
          rw [← e]; rw [alloc_size]; omega
      clear hb5 f0 g0 hm5 hgrow hown5
      generalize w5.setCell ⟨D, 0, none⟩ (.slice v5a (l.length + 1) v5c) = w6 at *
      obtain ⟨w7, hrun, hm7, hturn⟩ := hm6.store (v := .int .i64 (l.length : Nat)) Try.underlying9 Try.underlying54 (by rw [nums_length]; unfold maxLen; omega) (show s.size ≤ maxLen by omega) (intR_mk (by omega)) hnew
      have c61 : w6.cell? ⟨D, 1, none⟩ = some (.map (some bm)) := Blk.cell hb6 1
      have hb7 : Blk w7 D 57 _ := (hturn.grown.block D hb6.lt (fun e => by obtain ⟨es, ck, hq⟩ := hm6.isMap; injection e with e; exact Blk.ne_map hb6 hq e)).trans hb6
      have f7 : w7.frozen? ⟨D, 2, none⟩ = false := Blk.free hb7 2
      have g7 := Blk.cell hb7 2
      have hm8 := hm7.block (w' := w7.setCell ⟨D, 2, none⟩ (.pointer none)) (Below.heap_setCell _ _ _ _ (fun e => by obtain ⟨es, ck, hq⟩ := hm7.isMap; exact Blk.ne_map hb7 hq e.symm))
      have ho7 := owns_turned ho6 hturn hm6.isMap
      have ho8 := ownsRow_setCell_other ho7 (a := ⟨D, 2, none⟩) (fun e => owns_ne ho7 hb7 (by decide) D e rfl) (.pointer none)
      have ht8 := (ht6.map HB.out.2.2.2.2.1 hturn).setCell (p := ⟨D, 2, none⟩) (.inl hd) (.pointer none)
      have hb8 := Blk.set hb7 2 (.pointer none)
      have H8 := Lib.hid (And.intro hb8 (And.intro ho8 (And.intro hm8 (And.intro ht8 hf6))))
      have HBG := Lib.hid HB.out.2.2.2.2.1
      clear hb6 hm6 ho6 ht6 hm7 hturn hb7 hm8 ho7 ho8 ht8 hb8 hf6 HB
      go_wp2_with fail
      go_ret2
      refine ⟨rfl, H8.out.2.2.2.1.mono (fun k hk h => h.resolve_right (by omega)), ⟨⟨_, _, H8.out.1, ?_, fun g hg => ?_, .inr ⟨bm, rfl, ?_, ?_⟩⟩, .inl hd, by simp; try omega, fun t ht => ?_⟩⟩
      · simpa using H8.out.2.1
      · rcases H8.out.2.2.2.2 g hg with h | h
        · exact .inl h
        · exact .inr ⟨h, (H8.out.2.1.lt g hg).2⟩
      · have := H8.out.2.2.1
        rw [nums_append, Nat.zero_add]; exact this
      · rcases HBG.out with h | h
        · exact .inl h
        · exact .inr ⟨h, H8.out.2.2.1.lt⟩
      · rcases List.mem_append.1 ht with h | h
        · exact hsm t h
        · obtain rfl := List.mem_singleton.1 h; exact hs
end Go.Proofs.Ytiihnepfcgmghaa
