/- Words. -/
import Derived.Test.YtofjifhnkcghpaaDoorI
import Derived.Tactics2
import Derived.WalkMore
import Derived.Scope
namespace Go.Proofs.YtofjifhnkcghpaaDoor
open Go.RowKit
set_option linter.unusedVariables false
set_option linter.unusedSimpArgs false
set_option maxRecDepth 100000
def wordC (w : Wd) : List Value := [.int .i64 w.kind, .string ⟨w.text.toArray⟩, .int .i64 (w.place : Int)]
def rowC (l : List Wd) : List Value := (l.map wordC).flatten
theorem rowC_app (l : List Wd) (w : Wd) : rowC l ++ wordC w = rowC (l ++ [w]) := by simp [rowC]
theorem wordC_one (w : Wd) : ∀ u ∈ wordC w, u.oneCell' = true := by
  intro u hu
  simp [wordC] at hu
  rcases hu with rfl | rfl | rfl <;> rfl
theorem one3 (k : Int) (s : ByteArray) (p : Int) : ∀ u ∈ [Value.int .i64 k, Value.string s, Value.int .i64 p], u.oneCell' = true := by
  intro u hu
  simp at hu
  rcases hu with rfl | rfl | rfl <;> rfl
/-- words that can be read (and written): a list told by a call -/
def HasW (w : World) (base : Nat) (v : Value) (l : List Wd) : Prop := (v = .slice none 0 0 ∧ l = []) ∨ ∃ g c cur, v = .slice (some ⟨g, 0, none⟩) l.length c ∧ base ≤ g ∧ w.heap[g]? = some (.cells cur 31 (0, 0)) ∧ cur.toList.take (l.length * 3) = rowC l ∧ l.length ≤ c
theorem rowC_len (l : List Wd) : (rowC l).length = l.length * 3 := by
  induction l with
  | nil => rfl
  | cons a l ih =>
    have : rowC (a :: l) = wordC a ++ rowC l := by simp [rowC]
    rw [this, List.length_append, ih]
    simp [wordC]; omega
theorem HasW.of {w : World} {base : Nat} {v : Value} {l : List Wd} (h : w.ownsRow base 31 3 v l.length (rowC l)) : HasW w base v l := by
  rcases h.2 with ⟨h1, h2⟩ | ⟨g, c, cur, h1, h2, h3, h4, h5, h6, h7⟩
  · exact .inl ⟨h1, List.eq_nil_of_length_eq_zero h2⟩
  · exact .inr ⟨g, c, cur, h1, h2, h3, h7, h4⟩
theorem HasW.clip {w : World} {base : Nat} {a : Option Addr} {n c : Nat} {l : List Wd} (h : HasW w base (.slice a n c) l) (hne : l ≠ []) : HasW w base (.slice a n n) l ∧ n ≤ c ∧ n = l.length := by
  rcases h with ⟨h1, h2⟩ | ⟨g, c', cur, h1, h2, h3, h7, h4⟩
  · exact absurd h2 hne
  · injection h1 with e1 e2 e3
    subst e1 e2 e3
    exact ⟨.inr ⟨g, l.length, cur, rfl, h2, h3, h7, Nat.le_refl _⟩, h4, rfl⟩
theorem HasW.form {w : World} {base : Nat} {v : Value} {l : List Wd} (h : HasW w base v l) : ∃ a c, v = .slice a l.length c := by
  rcases h with ⟨rfl, rfl⟩ | ⟨g, c', cur, h1, _⟩
  · exact ⟨none, 0, rfl⟩
  · exact ⟨_, _, h1⟩
theorem HasW.below {w w' : World} {base B : Nat} {v : Value} {l : List Wd} (h : HasW w base v l) (hb : Below B w w') (hB : w.heap.size ≤ B) : HasW w' base v l := by
  rcases h with h | ⟨g, c', cur, h1, h2, h3, h4⟩
  · exact .inl h
  · exact .inr ⟨g, c', cur, h1, h2, (hb.block g (Nat.lt_of_lt_of_le (Array.getElem?_eq_some_iff.1 h3).1 hB)).trans h3, h4⟩
theorem HasW.base {w : World} {base base' : Nat} {v : Value} {l : List Wd} (h : HasW w base v l) (hb : base' ≤ base) : HasW w base' v l := by
  rcases h with h | ⟨g, c', cur, h1, h2, h3⟩
  · exact .inl h
  · exact .inr ⟨g, c', cur, h1, Nat.le_trans hb h2, h3⟩
theorem HasW.other {w : World} {base : Nat} {v : Value} {l : List Wd} (h : HasW w base v l) {p : Addr} (hp : p.block < base) (u : Value) : HasW (w.setCell p u) base v l := by
  rcases h with h | ⟨g, c', cur, h1, h2, h3, h4⟩
  · exact .inl h
  · exact .inr ⟨g, c', cur, h1, h2, (Below.heap_setCell w p u g (by omega)).trans h3, h4⟩
def lexF (s : ByteArray) : Except (Int × Nat) (List Wd) := if 4096 < s.size then .error (45, 0) else lexL 0 s.data.toList
def faultC : Except (Int × Nat) (List Wd) → Array Value
  | .ok _ => #[.int .i64 0, .int .i64 0]
  | .error e => #[.int .i64 e.1, .int .i64 (e.2 : Int)]
def okL : Except (Int × Nat) (List Wd) → List Wd
  | .ok l => l
  | .error _ => []
theorem results_tmp_cell {P : Program} {fn : Func} {u p : Tmp} {ty : TypeId} (h : fn.results = #[.tmp u, .cell p ty]) (tmps : Array Value) (w : World) (g : Nat) (t : TypeId) (cs : Array Value) (fr : Nat × Nat) (d : TypeDesc)
    (hp : tmps.getD p undef = .pointer (some ⟨g, 0, none⟩)) (hg : w.heap[g]? = some (.cells cs t fr))
    (hu : P.underlying ty = some d) (hd : (match d with | .struct _ | .array _ _ => true | _ => false) = true) (hi : (P.info? ty).map (·.size) = some cs.size) :
    (results fn tmps).run P w = .ok (.tuple #[tmps.getD u undef, .agg cs]) w := by
  have hp' : tmps[p]?.getD undef = .pointer (some ⟨g, 0, none⟩) := by simpa using hp
  simp [results, h, hp', asAddr, run_loadVar_row w g t ty cs fr d hg hu hd hi, Sem.run_bind, Result.andThen]
theorem info26 (x y : Value) : (Tryd.prog.info? 26).map (·.size) = some #[x, y].size := by kernel_rfl
theorem map_app (x : Except (Int × Nat) (List Wd)) (acc : List Wd) (w : Wd) : (x.map (w :: ·)).map (acc ++ ·) = x.map ((acc ++ [w]) ++ ·) := by
  cases x with
  | error e => rfl
  | ok l => simp [Except.map]
theorem ext_list (s : ByteArray) (p n : Nat) : (s.extract p (p + n)).data.toList = (s.data.toList.drop p).take n := by
  rw [Lib.extract_data, Nat.add_sub_cancel_left]
theorem ext_str (s : ByteArray) (p n : Nat) : s.extract p (p + n) = ⟨((s.data.toList.drop p).take n).toArray⟩ :=
  WideShapes.bytes_inj (by rw [ext_list])
theorem kindF1 : ∀ c : UInt8, kindL c = 1 → isBlank c = true := u8all (p := fun c => kindL c = 1 → isBlank c = true) (by decide)
theorem kindF2 : ∀ c : UInt8, kindL c = 2 → isBlank c = false ∧ isLetter c = true := u8all (p := fun c => kindL c = 2 → isBlank c = false ∧ isLetter c = true) (by decide)
theorem kindF3 : ∀ c : UInt8, kindL c = 3 → isBlank c = false ∧ isLetter c = false ∧ isDigit c = true := u8all (p := fun c => kindL c = 3 → isBlank c = false ∧ isLetter c = false ∧ isDigit c = true) (by decide)
theorem kindF4 : ∀ c : UInt8, kindL c = 4 → c = 39 := u8all (p := fun c => kindL c = 4 → c = 39) (by decide)
theorem kindF5 : ∀ c : UInt8, kindL c = 5 → isBlank c = false ∧ isLetter c = false ∧ isDigit c = false ∧ c ≠ 39 ∧ isSign c = true := u8all (p := fun c => kindL c = 5 → isBlank c = false ∧ isLetter c = false ∧ isDigit c = false ∧ c ≠ 39 ∧ isSign c = true) (by decide)
theorem kindF0 : ∀ c : UInt8, kindL c ≠ 1 → kindL c ≠ 2 → kindL c ≠ 3 → kindL c ≠ 4 → kindL c ≠ 5 → isBlank c = false ∧ isLetter c = false ∧ isDigit c = false ∧ c ≠ 39 ∧ isSign c = false := u8all (p := fun c => kindL c ≠ 1 → kindL c ≠ 2 → kindL c ≠ 3 → kindL c ≠ 4 → kindL c ≠ 5 → isBlank c = false ∧ isLetter c = false ∧ isDigit c = false ∧ c ≠ 39 ∧ isSign c = false) (by decide)
/-- what stands from round to round -/
structure KeepW (w wr : World) (v : Value) (acc : List Wd) : Prop where
  row : wr.ownsRow (w.heap.size + 2) 31 3 v acc.length (rowC acc)
  res : Blk wr w.heap.size 26 #[.int .i64 0, .int .i64 0]
  bad : Blk wr (w.heap.size + 1) 26 #[.int .i64 0, .int .i64 0]
  bel : Below w.heap.size w wr
theorem KeepW.size {w wr : World} {v : Value} {acc : List Wd} (h : KeepW w wr v acc) : w.heap.size + 2 ≤ wr.heap.size := by have := h.bad.lt; omega
theorem KeepW.next {w wr w' : World} {v : Value} {acc : List Wd} (h : KeepW w wr v acc) (hb : Below wr.heap.size wr w') : KeepW w w' v acc :=
  ⟨owns_below h.row hb (Nat.le_refl _), h.res.below hb (by have := h.size; omega), h.bad.below hb (by have := h.size; omega), h.bel.trans (hb.mono (by have := h.size; omega))⟩
theorem KeepW.app {w wr w' : World} {v v' : Value} {acc : List Wd} {wd : Wd} (h : KeepW w wr v acc) (ho : w'.ownsRow (w.heap.size + 2) 31 3 v' (acc.length + 1) (rowC acc ++ wordC wd)) (hg : wr.grownBy w' v.ownBlock) : KeepW w w' v' (acc ++ [wd]) := by
  have hv : ∀ g, v.ownBlock = some g → w.heap.size + 2 ≤ g := fun g e => by
    rcases h.row.2 with ⟨rfl, -⟩ | ⟨g', cap, cur, rfl, hg', _⟩
    · cases e
    · cases e; exact hg'
  refine ⟨by rw [List.length_append, ← rowC_app]; exact ho, h.res.grown hg (fun e => by have := hv _ e.symm; omega), h.bad.grown hg (fun e => by have := hv _ e.symm; omega), ?_⟩
  refine ⟨hg.os.trans h.bel.os, hg.tape.trans h.bel.tape, hg.output.trans h.bel.output, Nat.le_trans h.bel.size hg.size, fun k hk => (hg.block k (Nat.lt_of_lt_of_le hk h.bel.size) (fun e => ?_)).trans (h.bel.block k hk)⟩
  have := hv _ e.symm
  omega
theorem info31 : (Tryd.prog.info? 31).map (fun i => (i.zero, i.size, i.bytes)) = some (some (.agg #[.int .i64 0, .string ⟨#[]⟩, .int .i64 0]), 3, 32) := by kernel_rfl
theorem cells3_new (w : World) (T : TypeId) (x y z : Value) : ∀ (j : Nat) (u : Value), [x, y, z][j]? = some u → (w.alloc (.cells #[x, y, z] T)).cell? ((⟨w.heap.size, 0, none⟩ : Addr).add j) = some u := by
  intro j u h
  have hb := Blk.cell (Blk.new w T #[x, y, z]) j
  have e : ((⟨w.heap.size, 0, none⟩ : Addr).add j) = ⟨w.heap.size, j, none⟩ := by
    unfold Addr.add
    split
    · rename_i h0; subst h0; rfl
    · simp
  rw [e, hb]
  simpa using h
theorem tok_kw {c : UInt8} {r : List UInt8} (h : isBlank c = false ∧ isLetter c = true) (hk : isKw ((c :: r).takeWhile isW) = true) : tokL (c :: r) = .word 2 (((c :: r).takeWhile isW).map up) ((c :: r).takeWhile isW).length := by
  simp only [tokL, h.1, h.2, hk]; simp
theorem tok_name {c : UInt8} {r : List UInt8} (h : isBlank c = false ∧ isLetter c = true) (hk : isKw ((c :: r).takeWhile isW) = false) (hl : ((c :: r).takeWhile isW).length ≤ 32) : tokL (c :: r) = .word 1 ((c :: r).takeWhile isW) ((c :: r).takeWhile isW).length := by
  have : ¬ 32 < ((c :: r).takeWhile isW).length := by omega
  simp only [tokL, h.1, h.2, hk, this]; simp
theorem tok_long {c : UInt8} {r : List UInt8} (h : isBlank c = false ∧ isLetter c = true) (hk : isKw ((c :: r).takeWhile isW) = false) (hl : 32 < ((c :: r).takeWhile isW).length) : tokL (c :: r) = .bad 45 0 := by
  simp only [tokL, h.1, h.2, hk, hl]; simp
theorem fail22 (x : Int) (q b : Nat) (y z : Value) (w : World) (h : Blk w b 26 #[y, z]) : Calls Tryd.prog 22 #[.int .i64 x, .int .i64 (q : Int), .pointer (some ⟨b, 0, none⟩)] w fun e w' => e = .returned (.tuple #[]) ∧ Blk w' b 26 #[.int .i64 x, .int .i64 (q : Int)] ∧ w.grownBy w' (some b) := by
  have f0 := Blk.free h 0
  have f1 := Blk.free h 1
  have c0 : w.cell? ⟨b, 0, none⟩ = some y := Blk.cell h 0
  have c1 : w.cell? ⟨b, 1, none⟩ = some z := Blk.cell h 1
  go_enter Tryd.func22, Tryd.ntmps22
  go_wp2_with fail
  go_end0
  refine ⟨rfl, ?_, ?_⟩
  · have := Blk.set (Blk.set h 0 (.int .i64 x)) 1 (.int .i64 (q : Int))
    exact this
  · exact ⟨rfl, rfl, rfl, by simp [World.setCell], fun k hk hne => (Below.heap_setCell _ _ _ _ (fun e => hne (by rw [e]))).trans (Below.heap_setCell _ _ _ _ (fun e => hne (by rw [e])))⟩
theorem eqN (n : Nat) (hn : n < 256) (c : UInt8) : (((c.toNat : Nat) : Int) == (n : Int)) = decide (c = UInt8.ofNat n) := by
  rw [Bool.eq_iff_iff]
  simp only [beq_iff_eq, decide_eq_true_eq]
  constructor
  · intro h
    have : c.toNat = n := by omega
    rw [← this]; simp
  · rintro rfl
    have : (UInt8.ofNat n).toNat = n := by simp [UInt8.toNat_ofNat', Nat.mod_eq_of_lt hn]
    rw [this]
theorem eq60 (c : UInt8) : (((c.toNat : Nat) : Int) == 60) = decide (c = 60) := eqN 60 (by decide) c
theorem eq61 (c : UInt8) : (((c.toNat : Nat) : Int) == 61) = decide (c = 61) := eqN 61 (by decide) c
theorem eq62 (c : UInt8) : (((c.toNat : Nat) : Int) == 62) = decide (c = 62) := eqN 62 (by decide) c
theorem eq48 (c : UInt8) : (((c.toNat : Nat) : Int) == 48) = decide (c = 48) := eqN 48 (by decide) c
theorem tok_sign1 {c : UInt8} {r : List UInt8} (h : isBlank c = false ∧ isLetter c = false ∧ isDigit c = false ∧ c ≠ 39 ∧ isSign c = true) (h2 : two c r = false) : tokL (c :: r) = .word 5 [c] 1 := by
  obtain ⟨a1, a2, a3, a4, a5⟩ := h
  simp only [tokL, a1, a2, a3, a5, h2]; simp [a4]
theorem tok_sign2 {c : UInt8} {r : List UInt8} (h : isBlank c = false ∧ isLetter c = false ∧ isDigit c = false ∧ c ≠ 39 ∧ isSign c = true) (h2 : two c r = true) : tokL (c :: r) = .word 5 [c, r.headD 0] 2 := by
  obtain ⟨a1, a2, a3, a4, a5⟩ := h
  simp only [tokL, a1, a2, a3, a5, h2]; simp [a4]
section
variable {c : UInt8} {r : List UInt8} (h : isBlank c = false ∧ isLetter c = false ∧ isDigit c = true)
include h
theorem tok_num0 (h1 : 1 < ((c :: r).takeWhile isDigit).length) (h0 : c = 48) : tokL (c :: r) = .bad 40 0 := by
  simp only [tokL, h.1, h.2.1, h.2.2]; rw [if_neg (by simp), if_neg (by simp), if_pos trivial, if_pos ⟨h1, h0⟩]
theorem tok_num1 (h0 : ¬ (1 < ((c :: r).takeWhile isDigit).length ∧ c = 48)) (h1 : 19 < ((c :: r).takeWhile isDigit).length) : tokL (c :: r) = .bad 45 0 := by
  simp only [tokL, h.1, h.2.1, h.2.2]; rw [if_neg (by simp), if_neg (by simp), if_pos trivial, if_neg h0, if_pos h1]
theorem tok_num2 (h0 : ¬ (1 < ((c :: r).takeWhile isDigit).length ∧ c = 48)) (h1 : ¬ 19 < ((c :: r).takeWhile isDigit).length) (h2 : isLetter (((c :: r).dropWhile isDigit).headD 0) = true) : tokL (c :: r) = .bad 40 ((c :: r).takeWhile isDigit).length := by
  simp only [tokL, h.1, h.2.1, h.2.2]; rw [if_neg (by simp), if_neg (by simp), if_pos trivial, if_neg h0, if_neg h1, if_pos h2]
theorem tok_num3 (h0 : ¬ (1 < ((c :: r).takeWhile isDigit).length ∧ c = 48)) (h1 : ¬ 19 < ((c :: r).takeWhile isDigit).length) (h2 : isLetter (((c :: r).dropWhile isDigit).headD 0) = false) : tokL (c :: r) = .word 3 ((c :: r).takeWhile isDigit) ((c :: r).takeWhile isDigit).length := by
  simp only [tokL, h.1, h.2.1, h.2.2]; rw [if_neg (by simp), if_neg (by simp), if_pos trivial, if_neg h0, if_neg h1, if_neg (by rw [h2]; simp)]
end
theorem tok_q0 {r : List UInt8} (h : txtL r = none) : tokL (39 :: r) = .bad 40 0 := by
  simp only [tokL, show isBlank 39 = false from by decide, show isLetter 39 = false from by decide, show isDigit 39 = false from by decide, h]; simp
theorem tok_q1 {r : List UInt8} {t : List UInt8} {n : Nat} (h : txtL r = some (t, n)) (h1 : 64 < t.length) : tokL (39 :: r) = .bad 45 0 := by
  simp only [tokL, show isBlank 39 = false from by decide, show isLetter 39 = false from by decide, show isDigit 39 = false from by decide, h, h1]; simp
theorem tok_q2 {r : List UInt8} {t : List UInt8} {n : Nat} (h : txtL r = some (t, n)) (h1 : ¬ 64 < t.length) : tokL (39 :: r) = .word 4 t (n + 1) := by
  simp only [tokL, show isBlank 39 = false from by decide, show isLetter 39 = false from by decide, show isDigit 39 = false from by decide, h, h1]; simp
/-- behind a fault -/
theorem KeepW.fault {w wr w' : World} {v : Value} {acc : List Wd} (h : KeepW w wr v acc) (hg : wr.grownBy w' (some (w.heap.size + 1))) : Blk w' w.heap.size 26 #[.int .i64 0, .int .i64 0] ∧ Below w.heap.size w w' :=
  ⟨h.res.grown hg (fun e => by injection e with e; omega), ⟨hg.os.trans h.bel.os, hg.tape.trans h.bel.tape, hg.output.trans h.bel.output, Nat.le_trans h.bel.size hg.size, fun k hk => (hg.block k (Nat.lt_of_lt_of_le hk h.bel.size) (fun e => by injection e with e; omega)).trans (h.bel.block k hk)⟩⟩
set_option maxHeartbeats 8000000 in
theorem words11 (s : ByteArray) (w : World) (hs : s.size ≤ 140737488355328) (hK : KT w) (hT : UT w) (hz : 0 < w.heap.size) :
    Calls Tryd.prog 11 #[.string s] w fun e w' => ∃ v, e = .returned (.tuple #[v, .agg (faultC (lexF s))]) ∧ HasW w' w.heap.size v (okL (lexF s)) ∧ Below w.heap.size w w' := by
  have HK := Lib.hid hK
  have HT := Lib.hid hT
  have HZ := Lib.hid hz
  clear hK hT hz
  by_cases hbig : 4096 < s.size
  · have hd : decide ((4096 : Int) < (s.size : Int)) = true := decide_eq_true (by omega)
    have hF : lexF s = .error (45, 0) := by unfold lexF; rw [if_pos hbig]
    rw [hF]
    go_enter Tryd.func11, Tryd.ntmps11
    go_wp2_with fail
    go_step3
    go_wp2_with fail
    rw [Exit.noGoto_ret]
    refine bodyPost_ret (results_tmp_cell rfl _ _ w.heap.size 26 _ (0, 0) _ rfl (heap_alloc_new w _) Tryd.underlying26 rfl (info26 _ _)) rfl ?_
    exact ⟨_, rfl, .inl ⟨rfl, rfl⟩, (Below.refl _ w).alloc (Nat.le_refl _) _⟩
  · have hd : decide ((4096 : Int) < (s.size : Int)) = false := decide_eq_false (by omega)
    have hF : lexF s = lexL 0 s.data.toList := by unfold lexF; rw [if_neg hbig]
    rw [hF]
    obtain ⟨TOT, hTOT⟩ : ∃ T, T = lexL 0 s.data.toList := ⟨_, rfl⟩
    rw [← hTOT]
    have HTOT := Lib.hid hTOT
    clear hTOT hF
    go_enter Tryd.func11, Tryd.ntmps11
    go_wp2_with fail
    go_step3
    go_wp2_with fail
    go_step3
    go_wp2_with fail
    go_loopw [4, 5] (fun v x wr => ∃ (p : Nat) (acc : List Wd), p ≤ s.size ∧ acc.length ≤ p ∧ x = .int .i64 p ∧ TOT = (lexL p (s.data.toList.drop p)).map (acc ++ ·) ∧ KeepW w wr v acc) (fun _ x _ => s.size - (intOf x).toNat)
    case atStart =>
      have hb1 := Blk.new w 26 #[.int .i64 0, .int .i64 0]
      have hb2 := Blk.newAt (w.alloc (.cells #[.int .i64 0, .int .i64 0] 26)) 26 #[.int .i64 0, .int .i64 0] (b := w.heap.size + 1) (by simp)
      refine ⟨0, [], by omega, by simp, rfl, ?_, ⟨⟨rfl, .inl ⟨rfl, rfl⟩⟩, hb1.alloc _, hb2, ((Below.refl _ w).alloc (Nat.le_refl _) _).alloc (by simp) _⟩⟩
      rw [HTOT.out, List.drop_zero]
      cases lexL 0 s.data.toList <;> rfl
    case round =>
      obtain ⟨p, acc, hp, hac, rfl, htot, hkp⟩ := hrel
      by_cases hlt : p < s.size
      · have hdp : decide ((p : Int) < (s.size : Int)) = true := decide_eq_true (by omega)
        have hdrop := str_drop s hlt
        have HP := Lib.hid (And.intro htot (And.intro hkp hdrop))
        clear htot hkp hdrop
        go_wp2_with fail
        refine (kind23 s[p] _ (HK.out.below HP.out.2.1.bel HZ.out)).mono ?_
        rintro e w1 ⟨rfl, rfl⟩
        obtain ⟨k, hk⟩ : ∃ k, k = kindL s[p] := ⟨_, rfl⟩
        have HKC := Lib.hid hk
        rw [← hk]
        clear hk
        by_cases k1 : k = 1
        · as_aux_lemma =>
          subst k1
          go_wp2_with fail
          refine ⟨⟨p + 1, acc, by omega, by omega, rfl, ?_, HP.out.2.1⟩, by simp [intOf]; omega⟩
          rw [HP.out.1, HP.out.2.2, lexL_blank (blank_tok (kindF1 _ HKC.out.symm))]
        by_cases k2 : k = 2
        · as_aux_lemma =>
          subst k2
          obtain ⟨n, hn⟩ : ∃ n, n = ((s.data.toList.drop p).takeWhile isW).length := ⟨_, rfl⟩
          have HRUN := runW s p wr (HK.out.below HP.out.2.1.bel HZ.out) hp hs
          rw [← hn] at HRUN
          have HRUN := Lib.hid HRUN
          have hfl := kindF2 _ HKC.out.symm
          have hn1 : 1 ≤ n := by rw [hn, HP.out.2.2]; exact takeWhile_pos (isLetter_W hfl.2)
          have hpn : p + n ≤ s.size := by
            have h1 : ((s.data.toList.drop p).takeWhile isW).length ≤ (s.data.toList.drop p).length := (List.takeWhile_sublist isW).length_le
            rw [List.length_drop, str_len] at h1
            omega
          have HN := Lib.hid (And.intro hn hfl)
          clear hn hfl
          go_wp2_with fail
          refine HRUN.out.mono ?_
          rintro e w1 ⟨rfl, rfl⟩
          go_wp2_with fail
          obtain ⟨X, hX⟩ : ∃ X, X = s.extract p (p + n) := ⟨_, rfl⟩
          rw [← hX]
          have hXl : X.data.toList = (s.data.toList.drop p).takeWhile isW := by rw [hX, ext_list, HN.out.1]; exact (tw_take _).1
          have hXs : X.size = n := by rw [← str_len, hXl]; exact HN.out.1.symm
          obtain ⟨kw, hkw⟩ : ∃ kw, kw = isKw X.data.toList := ⟨_, rfl⟩
          have hb9a := (Below.refl wr.heap.size wr).alloc (Nat.le_refl _) (.cells #[.int .i64 1, .string X, .int .i64 (p : Int)] 31)
          have hb9 := Blk.new wr 31 #[.int .i64 1, .string X, .int .i64 (p : Int)]
          have H15 := isKeyword15 X _ (by omega) (HT.out.below (HP.out.2.1.next hb9a).bel)
          rw [← hkw] at H15
          have HX := Lib.hid (And.intro hX (And.intro hXl (And.intro hXs hkw)))
          have H9 := Lib.hid (And.intro hb9a hb9)
          clear hX hXl hXs hkw hb9a hb9
          refine H15.mono ?_
          rintro e w2 ⟨rfl, hb2⟩
          have H2 := Lib.hid (And.intro (Below.call H9.out.1 hb2) (H9.out.2.below hb2 H9.out.2.lt))
          clear hb2 H15
          have c1 : w2.cell? ⟨wr.heap.size, 1, none⟩ = some (.string X) := Blk.cell H2.out.2 1
          cases kw
          · by_cases hbg : 32 < n
            · have hd32 : decide ((32 : Int) < (X.size : Int)) = true := decide_eq_true (by have := HX.out.2.2.1; omega)
              go_wp2_with fail
              refine (fail22 45 p (w.heap.size + 1) _ _ _ (HP.out.2.1.next H2.out.1).bad).mono ?_
              rintro e w5 ⟨rfl, hb5, hg5⟩
              have HF5 := Lib.hid (And.intro hb5 ((HP.out.2.1.next H2.out.1).fault hg5))
              have g0 : w5.cell? ⟨w.heap.size + 1, 0, none⟩ = some (.int .i64 45) := Blk.cell hb5 0
              have g1 : w5.cell? ⟨w.heap.size + 1, 1, none⟩ = some (.int .i64 (p : Int)) := Blk.cell hb5 1
              have r0 : w5.cell? ⟨w.heap.size, 0, none⟩ = some (.int .i64 0) := Blk.cell HF5.out.2.1 0
              have r1 : w5.cell? ⟨w.heap.size, 1, none⟩ = some (.int .i64 0) := Blk.cell HF5.out.2.1 1
              have s0 := Blk.free HF5.out.2.1 0
              have s1 := Blk.free HF5.out.2.1 1
              clear hb5 hg5
              go_wp2_with fail
              go_region
              go_wp2_with fail
              rw [Exit.noGoto_ret]
              refine bodyPost_ret (results_tmp_cell rfl _ _ w.heap.size 26 #[.int .i64 45, .int .i64 (p : Int)] (0, 0) _ rfl (Blk.drew (Blk.set (Blk.set HF5.out.2.1 0 _) 1 _)) Tryd.underlying26 rfl (info26 _ _)) rfl ?_
              have hTT : TOT = .error (45, p) := by
                have h1 := HP.out.1
                rw [HP.out.2.2] at h1
                have hx := HX.out.2.1
                rw [HP.out.2.2] at hx
                have htok := tok_long HN.out.2 (by rw [← hx]; exact HX.out.2.2.2.symm) (by rw [← hx, str_len, HX.out.2.2.1]; exact hbg)
                rw [lexL_bad htok] at h1
                exact h1
              rw [hTT]
              exact ⟨_, rfl, .inl ⟨rfl, rfl⟩, ((HF5.out.2.2.setCell (p := ⟨w.heap.size, 0, none⟩) (Nat.le_refl _) _).setCell (p := ⟨w.heap.size, 1, none⟩) (Nat.le_refl _) _).drew⟩
            · have hd32 : decide ((32 : Int) < (X.size : Int)) = false := decide_eq_false (by have := HX.out.2.2.1; omega)
              obtain ⟨wy, hwy⟩ : ∃ wy, wy = w2 := ⟨_, rfl⟩
              rw [← hwy] at H2 c1 ⊢
              clear hwy
              have HY := Lib.hid (And.intro (HP.out.2.1.next H2.out.1) H2.out.2)
              have hXe : X = ⟨((s.data.toList.drop p).takeWhile isW).toArray⟩ := WideShapes.bytes_inj HX.out.2.1
              have HXE := Lib.hid hXe
              clear hXe
              go_upto_region 20 with (fail)
              have l0 : wy.cell? ⟨wr.heap.size, 0, none⟩ = some (.int .i64 1) := Blk.cell HY.out.2 0
              have l1 : wy.cell? ⟨wr.heap.size, 1, none⟩ = some (.string X) := Blk.cell HY.out.2 1
              have l2 : wy.cell? ⟨wr.heap.size, 2, none⟩ = some (.int .i64 (p : Int)) := Blk.cell HY.out.2 2
              obtain ⟨i31, hi31, hz0, hz1, hz2⟩ := info_parts info31
              go_wp2_with (at_builtin; refine wpList_append_own _ rfl _ _ 23 rfl (w.heap.size + 2) 31 i31 (.agg #[.int .i64 0, .string ⟨#[]⟩, .int .i64 0]) 3 32 Tryd.underlying23 hi31 hz0 hz1 hz2 rfl (by decide) _ _ _ rfl (HY.out.1.row.alloc _) ⟨wy.heap.size, 0, none⟩ 1 1 [(.int .i64 1), (.string X), .int .i64 (p : Int)] rfl rfl (cells3_new wy 31 _ _ _) (one3 _ _ _) (by unfold maxLen; omega) (by omega) (by have := HY.out.1.size; simp; omega) ?_; intro v6 w6 hown6 hgrow6 _; have HA := Lib.hid (And.intro hown6 hgrow6); clear hown6 hgrow6)
              have hfin : TOT = (lexL (p + n) (s.data.toList.drop (p + n))).map ((acc ++ [⟨1, ((s.data.toList.drop p).takeWhile isW), p⟩]) ++ ·) := by
                have h1 := HP.out.1
                have hx := HX.out.2.1; rw [HP.out.2.2] at hx; have htok := tok_name HN.out.2 (by rw [← hx]; exact HX.out.2.2.2.symm) (by rw [← hx, str_len, HX.out.2.2.1]; omega)
                have h2 := lexL_word (p := p) htok
                rw [← HP.out.2.2, ← HN.out.1, List.drop_drop] at h2
                rw [h2, map_app] at h1
                exact h1
              have hk := (HY.out.1.next ((Below.refl wy.heap.size wy).alloc (Nat.le_refl _) (.cells #[(.int .i64 1), (.string X), .int .i64 (p : Int)] 31))).app (wd := ⟨1, ((s.data.toList.drop p).takeWhile isW), p⟩) (v' := v6) (w' := w6) (by have h := HA.out.1; rw [HXE.out] at h; exact h) HA.out.2
              exact ⟨⟨p + n, acc ++ [⟨1, ((s.data.toList.drop p).takeWhile isW), p⟩], by omega, by simp; omega, by first | rfl | go_num, hfin, hk⟩, by simp [intOf]; omega⟩
          · go_wp2_with fail
            refine (capitals26 X w2 (by have := HX.out.2.2.1; omega) (HT.out.below (HP.out.2.1.next H2.out.1).bel)).mono ?_
            rintro e w3 ⟨rfl, hb3⟩
            have h3 := And.intro (Below.call H2.out.1 hb3) (H2.out.2.below hb3 H2.out.2.lt)
            obtain ⟨Y, hY⟩ : ∃ Y : ByteArray, Y = ⟨(Lib.mapD upR X.data.toList).toArray⟩ := ⟨_, rfl⟩
            rw [← hY]
            have hYe : Y = ⟨(((s.data.toList.drop p).takeWhile isW).map up).toArray⟩ := by rw [hY, HX.out.2.1, mapD_W (tw_all _)]
            have HXE := Lib.hid hYe
            clear hY hYe
            have f0 := Blk.free h3.2 0
            have f1 := Blk.free h3.2 1
            have d0 : w3.cell? ⟨wr.heap.size, 0, none⟩ = some (.int .i64 1) := Blk.cell h3.2 0
            have d1 : w3.cell? ⟨wr.heap.size, 1, none⟩ = some (.string X) := Blk.cell h3.2 1
            have hy := And.intro (HP.out.2.1.next ((h3.1.setCell (p := ⟨wr.heap.size, 0, none⟩) (Nat.le_refl _) (.int .i64 2)).setCell (p := ⟨wr.heap.size, 1, none⟩) (Nat.le_refl _) (.string Y))) (Blk.set (Blk.set h3.2 0 (.int .i64 2)) 1 (.string Y))
            have HY := Lib.hid hy
            clear hb3 h3 hy
            go_upto_region 20 with (fail)
            generalize (w3.setCell ⟨wr.heap.size, 0, none⟩ (.int .i64 2)).setCell ⟨wr.heap.size, 1, none⟩ (.string Y) = wy at HY ⊢
            clear f0 f1 d0 d1
            have l0 : wy.cell? ⟨wr.heap.size, 0, none⟩ = some (.int .i64 2) := Blk.cell HY.out.2 0
            have l1 : wy.cell? ⟨wr.heap.size, 1, none⟩ = some (.string Y) := Blk.cell HY.out.2 1
            have l2 : wy.cell? ⟨wr.heap.size, 2, none⟩ = some (.int .i64 (p : Int)) := Blk.cell HY.out.2 2
            obtain ⟨i31, hi31, hz0, hz1, hz2⟩ := info_parts info31
            go_wp2_with (at_builtin; refine wpList_append_own _ rfl _ _ 23 rfl (w.heap.size + 2) 31 i31 (.agg #[.int .i64 0, .string ⟨#[]⟩, .int .i64 0]) 3 32 Tryd.underlying23 hi31 hz0 hz1 hz2 rfl (by decide) _ _ _ rfl (HY.out.1.row.alloc _) ⟨wy.heap.size, 0, none⟩ 1 1 [(.int .i64 2), (.string Y), .int .i64 (p : Int)] rfl rfl (cells3_new wy 31 _ _ _) (one3 _ _ _) (by unfold maxLen; omega) (by omega) (by have := HY.out.1.size; simp; omega) ?_; intro v6 w6 hown6 hgrow6 _; have HA := Lib.hid (And.intro hown6 hgrow6); clear hown6 hgrow6)
            have hfin : TOT = (lexL (p + n) (s.data.toList.drop (p + n))).map ((acc ++ [⟨2, (((s.data.toList.drop p).takeWhile isW).map up), p⟩]) ++ ·) := by
              have h1 := HP.out.1
              have htok := tok_kw HN.out.2 (by have hx := HX.out.2.1; rw [HP.out.2.2] at hx; rw [← hx]; exact HX.out.2.2.2.symm)
              have h2 := lexL_word (p := p) htok
              rw [← HP.out.2.2, ← HN.out.1, List.drop_drop] at h2
              rw [h2, map_app] at h1
              exact h1
            have hk := (HY.out.1.next ((Below.refl wy.heap.size wy).alloc (Nat.le_refl _) (.cells #[(.int .i64 2), (.string Y), .int .i64 (p : Int)] 31))).app (wd := ⟨2, (((s.data.toList.drop p).takeWhile isW).map up), p⟩) (v' := v6) (w' := w6) (by have h := HA.out.1; rw [HXE.out] at h; exact h) HA.out.2
            exact ⟨⟨p + n, acc ++ [⟨2, (((s.data.toList.drop p).takeWhile isW).map up), p⟩], by omega, by simp; omega, by first | rfl | go_num, hfin, hk⟩, by simp [intOf]; omega⟩
        by_cases k3 : k = 3
        · as_aux_lemma =>
          subst k3
          obtain ⟨n, hn⟩ : ∃ n, n = ((s.data.toList.drop p).takeWhile isDigit).length := ⟨_, rfl⟩
          have HRUN := runD s p wr (HK.out.below HP.out.2.1.bel HZ.out) hp hs
          rw [← hn] at HRUN
          have HRUN := Lib.hid HRUN
          have hfl := kindF3 _ HKC.out.symm
          have hn1 : 1 ≤ n := by rw [hn, HP.out.2.2]; exact takeWhile_pos hfl.2.2
          have hpn : p + n ≤ s.size := by
            have h1 : ((s.data.toList.drop p).takeWhile isDigit).length ≤ (s.data.toList.drop p).length := (List.takeWhile_sublist isDigit).length_le
            rw [List.length_drop, str_len] at h1
            omega
          have HN := Lib.hid (And.intro hn hfl)
          clear hn hfl
          obtain ⟨i31, hi31, hz0, hz1, hz2⟩ := info_parts info31
          have q48 := eq48 s[p]
          by_cases hone : 1 < n
          · have d1 : decide ((1 : Int) < (n : Int)) = true := decide_eq_true (by omega)
            by_cases h0 : s[p] = 48
            · rw [decide_eq_true h0] at q48
              go_wp2_with fail
              refine HRUN.out.mono ?_
              rintro e w1 ⟨rfl, rfl⟩
              go_wp2_with fail
              refine (fail22 40 p (w.heap.size + 1) _ _ _ HP.out.2.1.bad).mono ?_
              rintro e w5 ⟨rfl, hb5, hg5⟩
              have HF5 := Lib.hid (And.intro hb5 (HP.out.2.1.fault hg5))
              have g0 : w5.cell? ⟨w.heap.size + 1, 0, none⟩ = some (.int .i64 40) := Blk.cell hb5 0
              have g1 : w5.cell? ⟨w.heap.size + 1, 1, none⟩ = some (.int .i64 (p : Int)) := Blk.cell hb5 1
              have r0 : w5.cell? ⟨w.heap.size, 0, none⟩ = some (.int .i64 0) := Blk.cell HF5.out.2.1 0
              have r1 : w5.cell? ⟨w.heap.size, 1, none⟩ = some (.int .i64 0) := Blk.cell HF5.out.2.1 1
              have s0 := Blk.free HF5.out.2.1 0
              have s1 := Blk.free HF5.out.2.1 1
              clear hb5 hg5
              go_wp2_with fail
              go_region
              go_wp2_with fail
              rw [Exit.noGoto_ret]
              refine bodyPost_ret (results_tmp_cell rfl _ _ w.heap.size 26 #[.int .i64 40, .int .i64 (p : Int)] (0, 0) _ rfl (Blk.drew (Blk.set (Blk.set HF5.out.2.1 0 _) 1 _)) Tryd.underlying26 rfl (info26 _ _)) rfl ?_
              have hTT : TOT = .error (40, p) := by
                have h1 := HP.out.1
                rw [HP.out.2.2] at h1
                have htok := tok_num0 (r := s.data.toList.drop (p + 1)) HN.out.2 (by rw [← HP.out.2.2, ← HN.out.1]; exact hone) h0
                rw [lexL_bad htok] at h1
                exact h1
              rw [hTT]
              exact ⟨_, rfl, .inl ⟨rfl, rfl⟩, ((HF5.out.2.2.setCell (p := ⟨w.heap.size, 0, none⟩) (Nat.le_refl _) _).setCell (p := ⟨w.heap.size, 1, none⟩) (Nat.le_refl _) _).drew⟩
            · rw [decide_eq_false h0] at q48
              have HD := Lib.hid (show ¬ (1 < n ∧ s[p] = 48) from fun e => h0 e.2)
              clear h0
              by_cases h19 : 19 < n
              · have d19 : decide ((19 : Int) < (n : Int)) = true := decide_eq_true (by omega)
                go_wp2_with fail
                refine HRUN.out.mono ?_
                rintro e w1 ⟨rfl, rfl⟩
                go_wp2_with fail
                refine (fail22 45 p (w.heap.size + 1) _ _ _ HP.out.2.1.bad).mono ?_
                rintro e w5 ⟨rfl, hb5, hg5⟩
                have HF5 := Lib.hid (And.intro hb5 (HP.out.2.1.fault hg5))
                have g0 : w5.cell? ⟨w.heap.size + 1, 0, none⟩ = some (.int .i64 45) := Blk.cell hb5 0
                have g1 : w5.cell? ⟨w.heap.size + 1, 1, none⟩ = some (.int .i64 (p : Int)) := Blk.cell hb5 1
                have r0 : w5.cell? ⟨w.heap.size, 0, none⟩ = some (.int .i64 0) := Blk.cell HF5.out.2.1 0
                have r1 : w5.cell? ⟨w.heap.size, 1, none⟩ = some (.int .i64 0) := Blk.cell HF5.out.2.1 1
                have s0 := Blk.free HF5.out.2.1 0
                have s1 := Blk.free HF5.out.2.1 1
                clear hb5 hg5
                go_wp2_with fail
                go_region
                go_wp2_with fail
                rw [Exit.noGoto_ret]
                refine bodyPost_ret (results_tmp_cell rfl _ _ w.heap.size 26 #[.int .i64 45, .int .i64 (p : Int)] (0, 0) _ rfl (Blk.drew (Blk.set (Blk.set HF5.out.2.1 0 _) 1 _)) Tryd.underlying26 rfl (info26 _ _)) rfl ?_
                have hTT : TOT = .error (45, p) := by
                  have h1 := HP.out.1
                  rw [HP.out.2.2] at h1
                  have htok := tok_num1 (r := s.data.toList.drop (p + 1)) HN.out.2 (by rw [← HP.out.2.2, ← HN.out.1]; exact HD.out) (by rw [← HP.out.2.2, ← HN.out.1]; exact h19)
                  rw [lexL_bad htok] at h1
                  exact h1
                rw [hTT]
                exact ⟨_, rfl, .inl ⟨rfl, rfl⟩, ((HF5.out.2.2.setCell (p := ⟨w.heap.size, 0, none⟩) (Nat.le_refl _) _).setCell (p := ⟨w.heap.size, 1, none⟩) (Nat.le_refl _) _).drew⟩
              · have d19 : decide ((19 : Int) < (n : Int)) = false := decide_eq_false (by omega)
                go_wp2_with fail
                refine HRUN.out.mono ?_
                rintro e w1 ⟨rfl, rfl⟩
                by_cases hend : p + n < s.size
                · have hde : decide ((p : Int) + (n : Int) < (s.size : Int)) = true := decide_eq_true (by omega)
                  have hkl := kind_letter s[p + n]
                  obtain ⟨kk, hkk⟩ : ∃ kk, kk = kindL s[p + n] := ⟨_, rfl⟩
                  have HKK := kind23 s[p + n] wr (HK.out.below HP.out.2.1.bel HZ.out)
                  rw [← hkk] at hkl HKK
                  have HKK := Lib.hid HKK
                  have HL := Lib.hid hkl
                  clear hkk hkl
                  by_cases hk2 : kk = 2
                  · subst hk2
                    go_wp2_with fail
                    refine HKK.out.mono ?_
                    rintro e w1 ⟨rfl, rfl⟩
                    go_wp2_with fail
                    refine (fail22 40 (p + n) (w.heap.size + 1) _ _ _ HP.out.2.1.bad).mono ?_
                    rintro e w5 ⟨rfl, hb5, hg5⟩
                    have HF5 := Lib.hid (And.intro hb5 (HP.out.2.1.fault hg5))
                    have g0 : w5.cell? ⟨w.heap.size + 1, 0, none⟩ = some (.int .i64 40) := Blk.cell hb5 0
                    have g1 : w5.cell? ⟨w.heap.size + 1, 1, none⟩ = some (.int .i64 ((p + n : Nat) : Int)) := Blk.cell hb5 1
                    have r0 : w5.cell? ⟨w.heap.size, 0, none⟩ = some (.int .i64 0) := Blk.cell HF5.out.2.1 0
                    have r1 : w5.cell? ⟨w.heap.size, 1, none⟩ = some (.int .i64 0) := Blk.cell HF5.out.2.1 1
                    have s0 := Blk.free HF5.out.2.1 0
                    have s1 := Blk.free HF5.out.2.1 1
                    clear hb5 hg5
                    go_wp2_with fail
                    go_region
                    go_wp2_with fail
                    rw [Exit.noGoto_ret]
                    refine bodyPost_ret (results_tmp_cell rfl _ _ w.heap.size 26 #[.int .i64 40, .int .i64 ((p + n : Nat) : Int)] (0, 0) _ rfl (Blk.drew (Blk.set (Blk.set HF5.out.2.1 0 _) 1 _)) Tryd.underlying26 rfl (info26 _ _)) rfl ?_
                    have hTT : TOT = .error (40, (p + n)) := by
                      have h1 := HP.out.1
                      rw [HP.out.2.2] at h1
                      have hhead : isLetter (((s.data.toList.drop p).dropWhile isDigit).headD 0) = true := by
                        rw [← (tw_take (f := isDigit) (s.data.toList.drop p)).2, ← HN.out.1, List.drop_drop, str_drop s hend]
                        exact HL.out.symm
                      have htok := tok_num2 (r := s.data.toList.drop (p + 1)) HN.out.2 (by rw [← HP.out.2.2, ← HN.out.1]; exact HD.out) (by rw [← HP.out.2.2, ← HN.out.1]; omega) (by rw [← HP.out.2.2]; exact hhead)
                      rw [← HP.out.2.2, ← HN.out.1] at htok
                      rw [HP.out.2.2] at htok
                      rw [lexL_bad htok] at h1
                      exact h1
                    rw [hTT]
                    exact ⟨_, rfl, .inl ⟨rfl, rfl⟩, ((HF5.out.2.2.setCell (p := ⟨w.heap.size, 0, none⟩) (Nat.le_refl _) _).setCell (p := ⟨w.heap.size, 1, none⟩) (Nat.le_refl _) _).drew⟩
                  · have e2 : ((kk : Int) == 2) = false := by simp; omega
                    go_wp2_with fail
                    refine HKK.out.mono ?_
                    rintro e w1 ⟨rfl, rfl⟩
                    go_wp2_with (at_builtin; refine wpList_append_own _ rfl _ _ 23 rfl (w.heap.size + 2) 31 i31 (.agg #[.int .i64 0, .string ⟨#[]⟩, .int .i64 0]) 3 32 Tryd.underlying23 hi31 hz0 hz1 hz2 rfl (by decide) _ _ _ rfl (HP.out.2.1.row.alloc _) ⟨wr.heap.size, 0, none⟩ 1 1 [.int .i64 3, .string (s.extract p (p + n)), .int .i64 (p : Int)] rfl rfl (cells3_new wr 31 _ _ _) (one3 _ _ _) (by unfold maxLen; omega) (by omega) (by have := HP.out.2.1.size; simp; omega) ?_; intro v6 w6 hown6 hgrow6 _; have HA := Lib.hid (And.intro hown6 hgrow6); clear hown6 hgrow6)
                    have hext : (s.extract p (p + n)) = ⟨(((s.data.toList.drop p).takeWhile isDigit) : List UInt8).toArray⟩ := by rw [ext_str, HN.out.1, (tw_take _).1]
                    have hfin : TOT = (lexL (p + n) (s.data.toList.drop (p + n))).map ((acc ++ [⟨3, ((s.data.toList.drop p).takeWhile isDigit), p⟩]) ++ ·) := by
                      have h1 := HP.out.1
                      have hhead : isLetter (((s.data.toList.drop p).dropWhile isDigit).headD 0) = false := by
                        rw [← (tw_take (f := isDigit) (s.data.toList.drop p)).2, ← HN.out.1, List.drop_drop, str_drop s hend]
                        rw [decide_eq_false hk2] at HL
                        exact HL.out.symm
                      have htok := tok_num3 (r := s.data.toList.drop (p + 1)) HN.out.2 (by rw [← HP.out.2.2, ← HN.out.1]; exact HD.out) (by rw [← HP.out.2.2, ← HN.out.1]; omega) (by rw [← HP.out.2.2]; exact hhead)
                      rw [← HP.out.2.2, ← HN.out.1] at htok
                      rw [HP.out.2.2] at htok
                      have h2 := lexL_word (p := p) htok
                      rw [← HP.out.2.2, List.drop_drop] at h2
                      rw [h2, map_app] at h1
                      exact h1
                    have hk := (HP.out.2.1.next ((Below.refl wr.heap.size wr).alloc (Nat.le_refl _) (.cells #[.int .i64 3, .string (s.extract p (p + n)), .int .i64 (p : Int)] 31))).app (wd := ⟨3, ((s.data.toList.drop p).takeWhile isDigit), p⟩) (v' := v6) (w' := w6) (by have h := HA.out.1; rw [hext] at h; exact h) HA.out.2
                    exact ⟨⟨p + n, acc ++ [⟨3, ((s.data.toList.drop p).takeWhile isDigit), p⟩], by omega, by simp; omega, by first | rfl | go_num, hfin, hk⟩, by simp [intOf]; omega⟩
                · have hde : decide ((p : Int) + (n : Int) < (s.size : Int)) = false := decide_eq_false (by omega)
                  go_wp2_with (at_builtin; refine wpList_append_own _ rfl _ _ 23 rfl (w.heap.size + 2) 31 i31 (.agg #[.int .i64 0, .string ⟨#[]⟩, .int .i64 0]) 3 32 Tryd.underlying23 hi31 hz0 hz1 hz2 rfl (by decide) _ _ _ rfl (HP.out.2.1.row.alloc _) ⟨wr.heap.size, 0, none⟩ 1 1 [.int .i64 3, .string (s.extract p (p + n)), .int .i64 (p : Int)] rfl rfl (cells3_new wr 31 _ _ _) (one3 _ _ _) (by unfold maxLen; omega) (by omega) (by have := HP.out.2.1.size; simp; omega) ?_; intro v6 w6 hown6 hgrow6 _; have HA := Lib.hid (And.intro hown6 hgrow6); clear hown6 hgrow6)
                  have hext : (s.extract p (p + n)) = ⟨(((s.data.toList.drop p).takeWhile isDigit) : List UInt8).toArray⟩ := by rw [ext_str, HN.out.1, (tw_take _).1]
                  have hfin : TOT = (lexL (p + n) (s.data.toList.drop (p + n))).map ((acc ++ [⟨3, ((s.data.toList.drop p).takeWhile isDigit), p⟩]) ++ ·) := by
                    have h1 := HP.out.1
                    have hhead : isLetter (((s.data.toList.drop p).dropWhile isDigit).headD 0) = false := by
                      rw [← (tw_take (f := isDigit) (s.data.toList.drop p)).2, ← HN.out.1, List.drop_drop, str_end s (by omega)]
                      rfl
                    have htok := tok_num3 (r := s.data.toList.drop (p + 1)) HN.out.2 (by rw [← HP.out.2.2, ← HN.out.1]; exact HD.out) (by rw [← HP.out.2.2, ← HN.out.1]; omega) (by rw [← HP.out.2.2]; exact hhead)
                    rw [← HP.out.2.2, ← HN.out.1] at htok
                    rw [HP.out.2.2] at htok
                    have h2 := lexL_word (p := p) htok
                    rw [← HP.out.2.2, List.drop_drop] at h2
                    rw [h2, map_app] at h1
                    exact h1
                  have hk := (HP.out.2.1.next ((Below.refl wr.heap.size wr).alloc (Nat.le_refl _) (.cells #[.int .i64 3, .string (s.extract p (p + n)), .int .i64 (p : Int)] 31))).app (wd := ⟨3, ((s.data.toList.drop p).takeWhile isDigit), p⟩) (v' := v6) (w' := w6) (by have h := HA.out.1; rw [hext] at h; exact h) HA.out.2
                  exact ⟨⟨p + n, acc ++ [⟨3, ((s.data.toList.drop p).takeWhile isDigit), p⟩], by omega, by simp; omega, by first | rfl | go_num, hfin, hk⟩, by simp [intOf]; omega⟩
          · have d1 : decide ((1 : Int) < (n : Int)) = false := decide_eq_false (by omega)
            have d19 : decide ((19 : Int) < (n : Int)) = false := decide_eq_false (by omega)
            have HD := Lib.hid (show ¬ (1 < n ∧ s[p] = 48) from fun e => hone e.1)
            go_wp2_with fail
            refine HRUN.out.mono ?_
            rintro e w1 ⟨rfl, rfl⟩
            by_cases hend : p + n < s.size
            · have hde : decide ((p : Int) + (n : Int) < (s.size : Int)) = true := decide_eq_true (by omega)
              have hkl := kind_letter s[p + n]
              obtain ⟨kk, hkk⟩ : ∃ kk, kk = kindL s[p + n] := ⟨_, rfl⟩
              have HKK := kind23 s[p + n] wr (HK.out.below HP.out.2.1.bel HZ.out)
              rw [← hkk] at hkl HKK
              have HKK := Lib.hid HKK
              have HL := Lib.hid hkl
              clear hkk hkl
              by_cases hk2 : kk = 2
              · subst hk2
                go_wp2_with fail
                refine HKK.out.mono ?_
                rintro e w1 ⟨rfl, rfl⟩
                go_wp2_with fail
                refine (fail22 40 (p + n) (w.heap.size + 1) _ _ _ HP.out.2.1.bad).mono ?_
                rintro e w5 ⟨rfl, hb5, hg5⟩
                have HF5 := Lib.hid (And.intro hb5 (HP.out.2.1.fault hg5))
                have g0 : w5.cell? ⟨w.heap.size + 1, 0, none⟩ = some (.int .i64 40) := Blk.cell hb5 0
                have g1 : w5.cell? ⟨w.heap.size + 1, 1, none⟩ = some (.int .i64 ((p + n : Nat) : Int)) := Blk.cell hb5 1
                have r0 : w5.cell? ⟨w.heap.size, 0, none⟩ = some (.int .i64 0) := Blk.cell HF5.out.2.1 0
                have r1 : w5.cell? ⟨w.heap.size, 1, none⟩ = some (.int .i64 0) := Blk.cell HF5.out.2.1 1
                have s0 := Blk.free HF5.out.2.1 0
                have s1 := Blk.free HF5.out.2.1 1
                clear hb5 hg5
                go_wp2_with fail
                go_region
                go_wp2_with fail
                rw [Exit.noGoto_ret]
                refine bodyPost_ret (results_tmp_cell rfl _ _ w.heap.size 26 #[.int .i64 40, .int .i64 ((p + n : Nat) : Int)] (0, 0) _ rfl (Blk.drew (Blk.set (Blk.set HF5.out.2.1 0 _) 1 _)) Tryd.underlying26 rfl (info26 _ _)) rfl ?_
                have hTT : TOT = .error (40, (p + n)) := by
                  have h1 := HP.out.1
                  rw [HP.out.2.2] at h1
                  have hhead : isLetter (((s.data.toList.drop p).dropWhile isDigit).headD 0) = true := by
                    rw [← (tw_take (f := isDigit) (s.data.toList.drop p)).2, ← HN.out.1, List.drop_drop, str_drop s hend]
                    exact HL.out.symm
                  have htok := tok_num2 (r := s.data.toList.drop (p + 1)) HN.out.2 (by rw [← HP.out.2.2, ← HN.out.1]; exact HD.out) (by rw [← HP.out.2.2, ← HN.out.1]; omega) (by rw [← HP.out.2.2]; exact hhead)
                  rw [← HP.out.2.2, ← HN.out.1] at htok
                  rw [HP.out.2.2] at htok
                  rw [lexL_bad htok] at h1
                  exact h1
                rw [hTT]
                exact ⟨_, rfl, .inl ⟨rfl, rfl⟩, ((HF5.out.2.2.setCell (p := ⟨w.heap.size, 0, none⟩) (Nat.le_refl _) _).setCell (p := ⟨w.heap.size, 1, none⟩) (Nat.le_refl _) _).drew⟩
              · have e2 : ((kk : Int) == 2) = false := by simp; omega
                go_wp2_with fail
                refine HKK.out.mono ?_
                rintro e w1 ⟨rfl, rfl⟩
                go_wp2_with (at_builtin; refine wpList_append_own _ rfl _ _ 23 rfl (w.heap.size + 2) 31 i31 (.agg #[.int .i64 0, .string ⟨#[]⟩, .int .i64 0]) 3 32 Tryd.underlying23 hi31 hz0 hz1 hz2 rfl (by decide) _ _ _ rfl (HP.out.2.1.row.alloc _) ⟨wr.heap.size, 0, none⟩ 1 1 [.int .i64 3, .string (s.extract p (p + n)), .int .i64 (p : Int)] rfl rfl (cells3_new wr 31 _ _ _) (one3 _ _ _) (by unfold maxLen; omega) (by omega) (by have := HP.out.2.1.size; simp; omega) ?_; intro v6 w6 hown6 hgrow6 _; have HA := Lib.hid (And.intro hown6 hgrow6); clear hown6 hgrow6)
                have hext : (s.extract p (p + n)) = ⟨(((s.data.toList.drop p).takeWhile isDigit) : List UInt8).toArray⟩ := by rw [ext_str, HN.out.1, (tw_take _).1]
                have hfin : TOT = (lexL (p + n) (s.data.toList.drop (p + n))).map ((acc ++ [⟨3, ((s.data.toList.drop p).takeWhile isDigit), p⟩]) ++ ·) := by
                  have h1 := HP.out.1
                  have hhead : isLetter (((s.data.toList.drop p).dropWhile isDigit).headD 0) = false := by
                    rw [← (tw_take (f := isDigit) (s.data.toList.drop p)).2, ← HN.out.1, List.drop_drop, str_drop s hend]
                    rw [decide_eq_false hk2] at HL
                    exact HL.out.symm
                  have htok := tok_num3 (r := s.data.toList.drop (p + 1)) HN.out.2 (by rw [← HP.out.2.2, ← HN.out.1]; exact HD.out) (by rw [← HP.out.2.2, ← HN.out.1]; omega) (by rw [← HP.out.2.2]; exact hhead)
                  rw [← HP.out.2.2, ← HN.out.1] at htok
                  rw [HP.out.2.2] at htok
                  have h2 := lexL_word (p := p) htok
                  rw [← HP.out.2.2, List.drop_drop] at h2
                  rw [h2, map_app] at h1
                  exact h1
                have hk := (HP.out.2.1.next ((Below.refl wr.heap.size wr).alloc (Nat.le_refl _) (.cells #[.int .i64 3, .string (s.extract p (p + n)), .int .i64 (p : Int)] 31))).app (wd := ⟨3, ((s.data.toList.drop p).takeWhile isDigit), p⟩) (v' := v6) (w' := w6) (by have h := HA.out.1; rw [hext] at h; exact h) HA.out.2
                exact ⟨⟨p + n, acc ++ [⟨3, ((s.data.toList.drop p).takeWhile isDigit), p⟩], by omega, by simp; omega, by first | rfl | go_num, hfin, hk⟩, by simp [intOf]; omega⟩
            · have hde : decide ((p : Int) + (n : Int) < (s.size : Int)) = false := decide_eq_false (by omega)
              go_wp2_with (at_builtin; refine wpList_append_own _ rfl _ _ 23 rfl (w.heap.size + 2) 31 i31 (.agg #[.int .i64 0, .string ⟨#[]⟩, .int .i64 0]) 3 32 Tryd.underlying23 hi31 hz0 hz1 hz2 rfl (by decide) _ _ _ rfl (HP.out.2.1.row.alloc _) ⟨wr.heap.size, 0, none⟩ 1 1 [.int .i64 3, .string (s.extract p (p + n)), .int .i64 (p : Int)] rfl rfl (cells3_new wr 31 _ _ _) (one3 _ _ _) (by unfold maxLen; omega) (by omega) (by have := HP.out.2.1.size; simp; omega) ?_; intro v6 w6 hown6 hgrow6 _; have HA := Lib.hid (And.intro hown6 hgrow6); clear hown6 hgrow6)
              have hext : (s.extract p (p + n)) = ⟨(((s.data.toList.drop p).takeWhile isDigit) : List UInt8).toArray⟩ := by rw [ext_str, HN.out.1, (tw_take _).1]
              have hfin : TOT = (lexL (p + n) (s.data.toList.drop (p + n))).map ((acc ++ [⟨3, ((s.data.toList.drop p).takeWhile isDigit), p⟩]) ++ ·) := by
                have h1 := HP.out.1
                have hhead : isLetter (((s.data.toList.drop p).dropWhile isDigit).headD 0) = false := by
                  rw [← (tw_take (f := isDigit) (s.data.toList.drop p)).2, ← HN.out.1, List.drop_drop, str_end s (by omega)]
                  rfl
                have htok := tok_num3 (r := s.data.toList.drop (p + 1)) HN.out.2 (by rw [← HP.out.2.2, ← HN.out.1]; exact HD.out) (by rw [← HP.out.2.2, ← HN.out.1]; omega) (by rw [← HP.out.2.2]; exact hhead)
                rw [← HP.out.2.2, ← HN.out.1] at htok
                rw [HP.out.2.2] at htok
                have h2 := lexL_word (p := p) htok
                rw [← HP.out.2.2, List.drop_drop] at h2
                rw [h2, map_app] at h1
                exact h1
              have hk := (HP.out.2.1.next ((Below.refl wr.heap.size wr).alloc (Nat.le_refl _) (.cells #[.int .i64 3, .string (s.extract p (p + n)), .int .i64 (p : Int)] 31))).app (wd := ⟨3, ((s.data.toList.drop p).takeWhile isDigit), p⟩) (v' := v6) (w' := w6) (by have h := HA.out.1; rw [hext] at h; exact h) HA.out.2
              exact ⟨⟨p + n, acc ++ [⟨3, ((s.data.toList.drop p).takeWhile isDigit), p⟩], by omega, by simp; omega, by first | rfl | go_num, hfin, hk⟩, by simp [intOf]; omega⟩
        by_cases k4 : k = 4
        · as_aux_lemma =>
          subst k4
          have hc39 := kindF4 s[p] HKC.out.symm
          have HT28 := text28 s p wr hlt (by omega)
          obtain ⟨i31, hi31, hz0, hz1, hz2⟩ := info_parts info31
          obtain ⟨TQ, hTQ⟩ : ∃ T, T = txtL (s.data.toList.drop (p + 1)) := ⟨_, rfl⟩
          rw [← hTQ] at HT28
          have HT28 := Lib.hid HT28
          cases TQ with
          | none =>
            have HQ := Lib.hid (And.intro hTQ.symm hc39)
            clear hTQ hc39
            go_wp2_with fail
            refine HT28.out.mono ?_
            rintro e w2 ⟨rfl, hb2⟩
            dsimp only [txtV]
            have HQ2 := Lib.hid (HP.out.2.1.next hb2)
            clear hb2
            go_wp2_with fail
            refine (fail22 40 p (w.heap.size + 1) _ _ _ HQ2.out.bad).mono ?_
            rintro e w5 ⟨rfl, hb5, hg5⟩
            have HF5 := Lib.hid (And.intro hb5 (HQ2.out.fault hg5))
            have g0 : w5.cell? ⟨w.heap.size + 1, 0, none⟩ = some (.int .i64 40) := Blk.cell hb5 0
            have g1 : w5.cell? ⟨w.heap.size + 1, 1, none⟩ = some (.int .i64 (p : Int)) := Blk.cell hb5 1
            have r0 : w5.cell? ⟨w.heap.size, 0, none⟩ = some (.int .i64 0) := Blk.cell HF5.out.2.1 0
            have r1 : w5.cell? ⟨w.heap.size, 1, none⟩ = some (.int .i64 0) := Blk.cell HF5.out.2.1 1
            have s0 := Blk.free HF5.out.2.1 0
            have s1 := Blk.free HF5.out.2.1 1
            clear hb5 hg5
            go_wp2_with fail
            go_region
            go_wp2_with fail
            rw [Exit.noGoto_ret]
            refine bodyPost_ret (results_tmp_cell rfl _ _ w.heap.size 26 #[.int .i64 40, .int .i64 (p : Int)] (0, 0) _ rfl (Blk.drew (Blk.set (Blk.set HF5.out.2.1 0 _) 1 _)) Tryd.underlying26 rfl (info26 _ _)) rfl ?_
            have hTT : TOT = .error (40, p) := by
              have h1 := HP.out.1
              rw [HP.out.2.2] at h1
              have htok := tok_q0 (r := s.data.toList.drop (p + 1)) HQ.out.1
              rw [← HQ.out.2] at htok
              rw [lexL_bad htok] at h1
              exact h1
            rw [hTT]
            exact ⟨_, rfl, .inl ⟨rfl, rfl⟩, ((HF5.out.2.2.setCell (p := ⟨w.heap.size, 0, none⟩) (Nat.le_refl _) _).setCell (p := ⟨w.heap.size, 1, none⟩) (Nat.le_refl _) _).drew⟩
          | some q =>
            obtain ⟨t, nn⟩ := q
            have hle := txtL_le _ hTQ.symm
            rw [List.length_drop, str_len] at hle
            have HQ := Lib.hid (And.intro hTQ.symm hc39)
            clear hTQ hc39
            have hsz : ((⟨t.toArray⟩ : ByteArray).size : Int) = (t.length : Int) := by rfl
            by_cases h64 : 64 < t.length
            · have d64 : decide ((64 : Int) < (t.length : Int)) = true := decide_eq_true (by omega)
              go_wp2_with fail
              refine HT28.out.mono ?_
              rintro e w2 ⟨rfl, hb2⟩
              dsimp only [txtV]
              have HQ2 := Lib.hid (HP.out.2.1.next hb2)
              clear hb2
              go_wp2_with fail
              refine (fail22 45 p (w.heap.size + 1) _ _ _ HQ2.out.bad).mono ?_
              rintro e w5 ⟨rfl, hb5, hg5⟩
              have HF5 := Lib.hid (And.intro hb5 (HQ2.out.fault hg5))
              have g0 : w5.cell? ⟨w.heap.size + 1, 0, none⟩ = some (.int .i64 45) := Blk.cell hb5 0
              have g1 : w5.cell? ⟨w.heap.size + 1, 1, none⟩ = some (.int .i64 (p : Int)) := Blk.cell hb5 1
              have r0 : w5.cell? ⟨w.heap.size, 0, none⟩ = some (.int .i64 0) := Blk.cell HF5.out.2.1 0
              have r1 : w5.cell? ⟨w.heap.size, 1, none⟩ = some (.int .i64 0) := Blk.cell HF5.out.2.1 1
              have s0 := Blk.free HF5.out.2.1 0
              have s1 := Blk.free HF5.out.2.1 1
              clear hb5 hg5
              go_wp2_with fail
              go_region
              go_wp2_with fail
              rw [Exit.noGoto_ret]
              refine bodyPost_ret (results_tmp_cell rfl _ _ w.heap.size 26 #[.int .i64 45, .int .i64 (p : Int)] (0, 0) _ rfl (Blk.drew (Blk.set (Blk.set HF5.out.2.1 0 _) 1 _)) Tryd.underlying26 rfl (info26 _ _)) rfl ?_
              have hTT : TOT = .error (45, p) := by
                have h1 := HP.out.1
                rw [HP.out.2.2] at h1
                have htok := tok_q1 (r := s.data.toList.drop (p + 1)) HQ.out.1 h64
                rw [← HQ.out.2] at htok
                rw [lexL_bad htok] at h1
                exact h1
              rw [hTT]
              exact ⟨_, rfl, .inl ⟨rfl, rfl⟩, ((HF5.out.2.2.setCell (p := ⟨w.heap.size, 0, none⟩) (Nat.le_refl _) _).setCell (p := ⟨w.heap.size, 1, none⟩) (Nat.le_refl _) _).drew⟩
            · have d64 : decide ((64 : Int) < (t.length : Int)) = false := decide_eq_false (by omega)
              go_wp2_with fail
              refine HT28.out.mono ?_
              rintro e w2 ⟨rfl, hb2⟩
              dsimp only [txtV]
              have HQ2 := Lib.hid (HP.out.2.1.next hb2)
              clear hb2
              go_wp2_with (at_builtin; refine wpList_append_own _ rfl _ _ 23 rfl (w.heap.size + 2) 31 i31 (.agg #[.int .i64 0, .string ⟨#[]⟩, .int .i64 0]) 3 32 Tryd.underlying23 hi31 hz0 hz1 hz2 rfl (by decide) _ _ _ rfl (HQ2.out.row.alloc _) ⟨w2.heap.size, 0, none⟩ 1 1 [.int .i64 4, .string (⟨t.toArray⟩ : ByteArray), .int .i64 (p : Int)] rfl rfl (cells3_new w2 31 _ _ _) (one3 _ _ _) (by unfold maxLen; omega) (by omega) (by have := HQ2.out.size; simp; omega) ?_; intro v6 w6 hown6 hgrow6 _; have HA := Lib.hid (And.intro hown6 hgrow6); clear hown6 hgrow6)
              have hext : (⟨t.toArray⟩ : ByteArray) = ⟨(t : List UInt8).toArray⟩ := rfl
              have hfin : TOT = (lexL (p + (nn + 1)) (s.data.toList.drop (p + (nn + 1)))).map ((acc ++ [⟨4, t, p⟩]) ++ ·) := by
                have h1 := HP.out.1
                have htok := tok_q2 (r := s.data.toList.drop (p + 1)) HQ.out.1 h64
                rw [← HQ.out.2] at htok
                have h2 := lexL_word (p := p) htok
                rw [← HP.out.2.2, List.drop_drop] at h2
                rw [h2, map_app] at h1
                exact h1
              have hk := (HQ2.out.next ((Below.refl w2.heap.size w2).alloc (Nat.le_refl _) (.cells #[.int .i64 4, .string (⟨t.toArray⟩ : ByteArray), .int .i64 (p : Int)] 31))).app (wd := ⟨4, t, p⟩) (v' := v6) (w' := w6) (by have h := HA.out.1; rw [hext] at h; exact h) HA.out.2
              exact ⟨⟨p + (nn + 1), acc ++ [⟨4, t, p⟩], by omega, by simp; omega, by first | rfl | go_num, hfin, hk⟩, by simp [intOf]; omega⟩
        by_cases k5 : k = 5
        · as_aux_lemma =>
          subst k5
          have hfo := kindF5 s[p] HKC.out.symm
          have HFO := Lib.hid hfo
          clear hfo
          obtain ⟨i31, hi31, hz0, hz1, hz2⟩ := info_parts info31
          have q60 := eq60 s[p]
          have q62 := eq62 s[p]
          by_cases he : p + 1 < s.size
          · have hd1 : decide ((p : Int) + 1 < (s.size : Int)) = true := decide_eq_true (by omega)
            have r61 := eq61 s[p + 1]
            have r62 := eq62 s[p + 1]
            by_cases c60 : s[p] = 60
            · have c62 : ¬ s[p] = 62 := by rw [c60]; decide
              rw [decide_eq_true c60] at q60
              rw [decide_eq_false c62] at q62
              have H6 := Lib.hid (And.intro c60 c62)
              clear c60 c62
              by_cases d62 : s[p + 1] = 62
              · have d61 : ¬ s[p + 1] = 61 := by rw [d62]; decide
                rw [decide_eq_true d62] at r62
                rw [decide_eq_false d61] at r61
                have H7 := Lib.hid (And.intro d61 d62)
                clear d61 d62
                go_wp2_with (at_builtin; refine wpList_append_own _ rfl _ _ 23 rfl (w.heap.size + 2) 31 i31 (.agg #[.int .i64 0, .string ⟨#[]⟩, .int .i64 0]) 3 32 Tryd.underlying23 hi31 hz0 hz1 hz2 rfl (by decide) _ _ _ rfl (HP.out.2.1.row.alloc _) ⟨wr.heap.size, 0, none⟩ 1 1 [.int .i64 5, .string (s.extract p (p + 2)), .int .i64 (p : Int)] rfl rfl (cells3_new wr 31 _ _ _) (one3 _ _ _) (by unfold maxLen; omega) (by omega) (by have := HP.out.2.1.size; simp; omega) ?_; intro v6 w6 hown6 hgrow6 _; have HA := Lib.hid (And.intro hown6 hgrow6); clear hown6 hgrow6)
                have hext : (s.extract p (p + 2)) = ⟨([s[p], s[p + 1]] : List UInt8).toArray⟩ := by rw [ext_str, HP.out.2.2, str_drop s he]; rfl
                have hfin : TOT = (lexL (p + 2) (s.data.toList.drop (p + 2))).map ((acc ++ [⟨5, [s[p], s[p + 1]], p⟩]) ++ ·) := by
                  have h1 := HP.out.1
                  have htok := tok_sign2 (r := s.data.toList.drop (p + 1)) HFO.out (by unfold two; rw [str_drop s he]; simp [H6.out.1, H6.out.2, H7.out.1, H7.out.2])
                  rw [show (s.data.toList.drop (p + 1)).headD 0 = s[p + 1] by rw [str_drop s he]; rfl] at htok
                  have h2 := lexL_word (p := p) htok
                  rw [← HP.out.2.2, List.drop_drop] at h2
                  rw [h2, map_app] at h1
                  exact h1
                have hk := (HP.out.2.1.next ((Below.refl wr.heap.size wr).alloc (Nat.le_refl _) (.cells #[.int .i64 5, .string (s.extract p (p + 2)), .int .i64 (p : Int)] 31))).app (wd := ⟨5, [s[p], s[p + 1]], p⟩) (v' := v6) (w' := w6) (by have h := HA.out.1; rw [hext] at h; exact h) HA.out.2
                exact ⟨⟨p + 2, acc ++ [⟨5, [s[p], s[p + 1]], p⟩], by omega, by simp; omega, by first | rfl | go_num, hfin, hk⟩, by simp [intOf]; omega⟩
              · rw [decide_eq_false d62] at r62
                by_cases d61 : s[p + 1] = 61
                · rw [decide_eq_true d61] at r61
                  have H7 := Lib.hid (And.intro d61 d62)
                  clear d61 d62
                  go_wp2_with (at_builtin; refine wpList_append_own _ rfl _ _ 23 rfl (w.heap.size + 2) 31 i31 (.agg #[.int .i64 0, .string ⟨#[]⟩, .int .i64 0]) 3 32 Tryd.underlying23 hi31 hz0 hz1 hz2 rfl (by decide) _ _ _ rfl (HP.out.2.1.row.alloc _) ⟨wr.heap.size, 0, none⟩ 1 1 [.int .i64 5, .string (s.extract p (p + 2)), .int .i64 (p : Int)] rfl rfl (cells3_new wr 31 _ _ _) (one3 _ _ _) (by unfold maxLen; omega) (by omega) (by have := HP.out.2.1.size; simp; omega) ?_; intro v6 w6 hown6 hgrow6 _; have HA := Lib.hid (And.intro hown6 hgrow6); clear hown6 hgrow6)
                  have hext : (s.extract p (p + 2)) = ⟨([s[p], s[p + 1]] : List UInt8).toArray⟩ := by rw [ext_str, HP.out.2.2, str_drop s he]; rfl
                  have hfin : TOT = (lexL (p + 2) (s.data.toList.drop (p + 2))).map ((acc ++ [⟨5, [s[p], s[p + 1]], p⟩]) ++ ·) := by
                    have h1 := HP.out.1
                    have htok := tok_sign2 (r := s.data.toList.drop (p + 1)) HFO.out (by unfold two; rw [str_drop s he]; simp [H6.out.1, H6.out.2, H7.out.1, H7.out.2])
                    rw [show (s.data.toList.drop (p + 1)).headD 0 = s[p + 1] by rw [str_drop s he]; rfl] at htok
                    have h2 := lexL_word (p := p) htok
                    rw [← HP.out.2.2, List.drop_drop] at h2
                    rw [h2, map_app] at h1
                    exact h1
                  have hk := (HP.out.2.1.next ((Below.refl wr.heap.size wr).alloc (Nat.le_refl _) (.cells #[.int .i64 5, .string (s.extract p (p + 2)), .int .i64 (p : Int)] 31))).app (wd := ⟨5, [s[p], s[p + 1]], p⟩) (v' := v6) (w' := w6) (by have h := HA.out.1; rw [hext] at h; exact h) HA.out.2
                  exact ⟨⟨p + 2, acc ++ [⟨5, [s[p], s[p + 1]], p⟩], by omega, by simp; omega, by first | rfl | go_num, hfin, hk⟩, by simp [intOf]; omega⟩
                · rw [decide_eq_false d61] at r61
                  have H7 := Lib.hid (And.intro d61 d62)
                  clear d61 d62
                  go_wp2_with (at_builtin; refine wpList_append_own _ rfl _ _ 23 rfl (w.heap.size + 2) 31 i31 (.agg #[.int .i64 0, .string ⟨#[]⟩, .int .i64 0]) 3 32 Tryd.underlying23 hi31 hz0 hz1 hz2 rfl (by decide) _ _ _ rfl (HP.out.2.1.row.alloc _) ⟨wr.heap.size, 0, none⟩ 1 1 [.int .i64 5, .string (s.extract p (p + 1)), .int .i64 (p : Int)] rfl rfl (cells3_new wr 31 _ _ _) (one3 _ _ _) (by unfold maxLen; omega) (by omega) (by have := HP.out.2.1.size; simp; omega) ?_; intro v6 w6 hown6 hgrow6 _; have HA := Lib.hid (And.intro hown6 hgrow6); clear hown6 hgrow6)
                  have hext : (s.extract p (p + 1)) = ⟨([s[p]] : List UInt8).toArray⟩ := by rw [ext_str, HP.out.2.2]; rfl
                  have hfin : TOT = (lexL (p + 1) (s.data.toList.drop (p + 1))).map ((acc ++ [⟨5, [s[p]], p⟩]) ++ ·) := by
                    have h1 := HP.out.1
                    have htok := tok_sign1 (r := s.data.toList.drop (p + 1)) HFO.out (by unfold two; rw [str_drop s he]; simp [H6.out.1, H6.out.2, H7.out.1, H7.out.2])
                    have h2 := lexL_word (p := p) htok
                    rw [← HP.out.2.2, List.drop_drop] at h2
                    rw [h2, map_app] at h1
                    exact h1
                  have hk := (HP.out.2.1.next ((Below.refl wr.heap.size wr).alloc (Nat.le_refl _) (.cells #[.int .i64 5, .string (s.extract p (p + 1)), .int .i64 (p : Int)] 31))).app (wd := ⟨5, [s[p]], p⟩) (v' := v6) (w' := w6) (by have h := HA.out.1; rw [hext] at h; exact h) HA.out.2
                  exact ⟨⟨p + 1, acc ++ [⟨5, [s[p]], p⟩], by omega, by simp; omega, by first | rfl | go_num, hfin, hk⟩, by simp [intOf]; omega⟩
            · rw [decide_eq_false c60] at q60
              by_cases c62 : s[p] = 62
              · rw [decide_eq_true c62] at q62
                have H6 := Lib.hid (And.intro c60 c62)
                clear c60 c62
                by_cases d61 : s[p + 1] = 61
                · have d62 : ¬ s[p + 1] = 62 := by rw [d61]; decide
                  rw [decide_eq_true d61] at r61
                  rw [decide_eq_false d62] at r62
                  have H7 := Lib.hid (And.intro d61 d62)
                  clear d61 d62
                  go_wp2_with (at_builtin; refine wpList_append_own _ rfl _ _ 23 rfl (w.heap.size + 2) 31 i31 (.agg #[.int .i64 0, .string ⟨#[]⟩, .int .i64 0]) 3 32 Tryd.underlying23 hi31 hz0 hz1 hz2 rfl (by decide) _ _ _ rfl (HP.out.2.1.row.alloc _) ⟨wr.heap.size, 0, none⟩ 1 1 [.int .i64 5, .string (s.extract p (p + 2)), .int .i64 (p : Int)] rfl rfl (cells3_new wr 31 _ _ _) (one3 _ _ _) (by unfold maxLen; omega) (by omega) (by have := HP.out.2.1.size; simp; omega) ?_; intro v6 w6 hown6 hgrow6 _; have HA := Lib.hid (And.intro hown6 hgrow6); clear hown6 hgrow6)
                  have hext : (s.extract p (p + 2)) = ⟨([s[p], s[p + 1]] : List UInt8).toArray⟩ := by rw [ext_str, HP.out.2.2, str_drop s he]; rfl
                  have hfin : TOT = (lexL (p + 2) (s.data.toList.drop (p + 2))).map ((acc ++ [⟨5, [s[p], s[p + 1]], p⟩]) ++ ·) := by
                    have h1 := HP.out.1
                    have htok := tok_sign2 (r := s.data.toList.drop (p + 1)) HFO.out (by unfold two; rw [str_drop s he]; simp [H6.out.1, H6.out.2, H7.out.1, H7.out.2])
                    rw [show (s.data.toList.drop (p + 1)).headD 0 = s[p + 1] by rw [str_drop s he]; rfl] at htok
                    have h2 := lexL_word (p := p) htok
                    rw [← HP.out.2.2, List.drop_drop] at h2
                    rw [h2, map_app] at h1
                    exact h1
                  have hk := (HP.out.2.1.next ((Below.refl wr.heap.size wr).alloc (Nat.le_refl _) (.cells #[.int .i64 5, .string (s.extract p (p + 2)), .int .i64 (p : Int)] 31))).app (wd := ⟨5, [s[p], s[p + 1]], p⟩) (v' := v6) (w' := w6) (by have h := HA.out.1; rw [hext] at h; exact h) HA.out.2
                  exact ⟨⟨p + 2, acc ++ [⟨5, [s[p], s[p + 1]], p⟩], by omega, by simp; omega, by first | rfl | go_num, hfin, hk⟩, by simp [intOf]; omega⟩
                · rw [decide_eq_false d61] at r61
                  have H7 := Lib.hid d61
                  clear d61
                  go_wp2_with (at_builtin; refine wpList_append_own _ rfl _ _ 23 rfl (w.heap.size + 2) 31 i31 (.agg #[.int .i64 0, .string ⟨#[]⟩, .int .i64 0]) 3 32 Tryd.underlying23 hi31 hz0 hz1 hz2 rfl (by decide) _ _ _ rfl (HP.out.2.1.row.alloc _) ⟨wr.heap.size, 0, none⟩ 1 1 [.int .i64 5, .string (s.extract p (p + 1)), .int .i64 (p : Int)] rfl rfl (cells3_new wr 31 _ _ _) (one3 _ _ _) (by unfold maxLen; omega) (by omega) (by have := HP.out.2.1.size; simp; omega) ?_; intro v6 w6 hown6 hgrow6 _; have HA := Lib.hid (And.intro hown6 hgrow6); clear hown6 hgrow6)
                  have hext : (s.extract p (p + 1)) = ⟨([s[p]] : List UInt8).toArray⟩ := by rw [ext_str, HP.out.2.2]; rfl
                  have hfin : TOT = (lexL (p + 1) (s.data.toList.drop (p + 1))).map ((acc ++ [⟨5, [s[p]], p⟩]) ++ ·) := by
                    have h1 := HP.out.1
                    have htok := tok_sign1 (r := s.data.toList.drop (p + 1)) HFO.out (by unfold two; rw [str_drop s he]; simp [H6.out.1, H6.out.2, H7.out])
                    have h2 := lexL_word (p := p) htok
                    rw [← HP.out.2.2, List.drop_drop] at h2
                    rw [h2, map_app] at h1
                    exact h1
                  have hk := (HP.out.2.1.next ((Below.refl wr.heap.size wr).alloc (Nat.le_refl _) (.cells #[.int .i64 5, .string (s.extract p (p + 1)), .int .i64 (p : Int)] 31))).app (wd := ⟨5, [s[p]], p⟩) (v' := v6) (w' := w6) (by have h := HA.out.1; rw [hext] at h; exact h) HA.out.2
                  exact ⟨⟨p + 1, acc ++ [⟨5, [s[p]], p⟩], by omega, by simp; omega, by first | rfl | go_num, hfin, hk⟩, by simp [intOf]; omega⟩
              · rw [decide_eq_false c62] at q62
                have H6 := Lib.hid (And.intro c60 c62)
                clear c60 c62
                go_wp2_with (at_builtin; refine wpList_append_own _ rfl _ _ 23 rfl (w.heap.size + 2) 31 i31 (.agg #[.int .i64 0, .string ⟨#[]⟩, .int .i64 0]) 3 32 Tryd.underlying23 hi31 hz0 hz1 hz2 rfl (by decide) _ _ _ rfl (HP.out.2.1.row.alloc _) ⟨wr.heap.size, 0, none⟩ 1 1 [.int .i64 5, .string (s.extract p (p + 1)), .int .i64 (p : Int)] rfl rfl (cells3_new wr 31 _ _ _) (one3 _ _ _) (by unfold maxLen; omega) (by omega) (by have := HP.out.2.1.size; simp; omega) ?_; intro v6 w6 hown6 hgrow6 _; have HA := Lib.hid (And.intro hown6 hgrow6); clear hown6 hgrow6)
                have hext : (s.extract p (p + 1)) = ⟨([s[p]] : List UInt8).toArray⟩ := by rw [ext_str, HP.out.2.2]; rfl
                have hfin : TOT = (lexL (p + 1) (s.data.toList.drop (p + 1))).map ((acc ++ [⟨5, [s[p]], p⟩]) ++ ·) := by
                  have h1 := HP.out.1
                  have htok := tok_sign1 (r := s.data.toList.drop (p + 1)) HFO.out (by unfold two; rw [str_drop s he]; simp [H6.out.1, H6.out.2])
                  have h2 := lexL_word (p := p) htok
                  rw [← HP.out.2.2, List.drop_drop] at h2
                  rw [h2, map_app] at h1
                  exact h1
                have hk := (HP.out.2.1.next ((Below.refl wr.heap.size wr).alloc (Nat.le_refl _) (.cells #[.int .i64 5, .string (s.extract p (p + 1)), .int .i64 (p : Int)] 31))).app (wd := ⟨5, [s[p]], p⟩) (v' := v6) (w' := w6) (by have h := HA.out.1; rw [hext] at h; exact h) HA.out.2
                exact ⟨⟨p + 1, acc ++ [⟨5, [s[p]], p⟩], by omega, by simp; omega, by first | rfl | go_num, hfin, hk⟩, by simp [intOf]; omega⟩
          · have hd1 : decide ((p : Int) + 1 < (s.size : Int)) = false := decide_eq_false (by omega)
            go_wp2_with (at_builtin; refine wpList_append_own _ rfl _ _ 23 rfl (w.heap.size + 2) 31 i31 (.agg #[.int .i64 0, .string ⟨#[]⟩, .int .i64 0]) 3 32 Tryd.underlying23 hi31 hz0 hz1 hz2 rfl (by decide) _ _ _ rfl (HP.out.2.1.row.alloc _) ⟨wr.heap.size, 0, none⟩ 1 1 [.int .i64 5, .string (s.extract p (p + 1)), .int .i64 (p : Int)] rfl rfl (cells3_new wr 31 _ _ _) (one3 _ _ _) (by unfold maxLen; omega) (by omega) (by have := HP.out.2.1.size; simp; omega) ?_; intro v6 w6 hown6 hgrow6 _; have HA := Lib.hid (And.intro hown6 hgrow6); clear hown6 hgrow6)
            have hext : (s.extract p (p + 1)) = ⟨([s[p]] : List UInt8).toArray⟩ := by rw [ext_str, HP.out.2.2]; rfl
            have hfin : TOT = (lexL (p + 1) (s.data.toList.drop (p + 1))).map ((acc ++ [⟨5, [s[p]], p⟩]) ++ ·) := by
              have h1 := HP.out.1
              have htok := tok_sign1 (r := s.data.toList.drop (p + 1)) HFO.out (by unfold two; rw [str_end s (by omega)]; simp)
              have h2 := lexL_word (p := p) htok
              rw [← HP.out.2.2, List.drop_drop] at h2
              rw [h2, map_app] at h1
              exact h1
            have hk := (HP.out.2.1.next ((Below.refl wr.heap.size wr).alloc (Nat.le_refl _) (.cells #[.int .i64 5, .string (s.extract p (p + 1)), .int .i64 (p : Int)] 31))).app (wd := ⟨5, [s[p]], p⟩) (v' := v6) (w' := w6) (by have h := HA.out.1; rw [hext] at h; exact h) HA.out.2
            exact ⟨⟨p + 1, acc ++ [⟨5, [s[p]], p⟩], by omega, by simp; omega, by first | rfl | go_num, hfin, hk⟩, by simp [intOf]; omega⟩
        · have f1 : ((k : Int) == 1) = false := by simp; omega
          have f2 : ((k : Int) == 2) = false := by simp; omega
          have f3 : ((k : Int) == 3) = false := by simp; omega
          have f4 : ((k : Int) == 4) = false := by simp; omega
          have f5 : ((k : Int) == 5) = false := by simp; omega
          have hfo := kindF0 s[p] (by rw [← HKC.out]; exact k1) (by rw [← HKC.out]; exact k2) (by rw [← HKC.out]; exact k3) (by rw [← HKC.out]; exact k4) (by rw [← HKC.out]; exact k5)
          have HFO := Lib.hid hfo
          clear hfo
          go_wp2_with fail
          refine (fail22 40 p (w.heap.size + 1) _ _ _ HP.out.2.1.bad).mono ?_
          rintro e w5 ⟨rfl, hb5, hg5⟩
          have HF5 := Lib.hid (And.intro hb5 (HP.out.2.1.fault hg5))
          have g0 : w5.cell? ⟨w.heap.size + 1, 0, none⟩ = some (.int .i64 40) := Blk.cell hb5 0
          have g1 : w5.cell? ⟨w.heap.size + 1, 1, none⟩ = some (.int .i64 (p : Int)) := Blk.cell hb5 1
          have r0 : w5.cell? ⟨w.heap.size, 0, none⟩ = some (.int .i64 0) := Blk.cell HF5.out.2.1 0
          have r1 : w5.cell? ⟨w.heap.size, 1, none⟩ = some (.int .i64 0) := Blk.cell HF5.out.2.1 1
          have s0 := Blk.free HF5.out.2.1 0
          have s1 := Blk.free HF5.out.2.1 1
          clear hb5 hg5
          go_wp2_with fail
          go_region
          go_wp2_with fail
          rw [Exit.noGoto_ret]
          refine bodyPost_ret (results_tmp_cell rfl _ _ w.heap.size 26 #[.int .i64 40, .int .i64 (p : Int)] (0, 0) _ rfl (Blk.drew (Blk.set (Blk.set HF5.out.2.1 0 _) 1 _)) Tryd.underlying26 rfl (info26 _ _)) rfl ?_
          have hTT : TOT = .error (40, p) := by
            have h1 := HP.out.1
            rw [HP.out.2.2] at h1
            have htok : tokL (s[p] :: s.data.toList.drop (p + 1)) = .bad 40 0 := by
              obtain ⟨a1, a2, a3, a4, a5⟩ := HFO.out
              simp only [tokL, a1, a2, a3, a5]; rw [if_neg (by simp), if_neg (by simp), if_neg (by simp), if_neg a4, if_neg (by simp)]
            rw [lexL_bad htok] at h1
            exact h1
          rw [hTT]
          exact ⟨_, rfl, .inl ⟨rfl, rfl⟩, ((HF5.out.2.2.setCell (p := ⟨w.heap.size, 0, none⟩) (Nat.le_refl _) _).setCell (p := ⟨w.heap.size, 1, none⟩) (Nat.le_refl _) _).drew⟩
      · have hdp : decide ((p : Int) < (s.size : Int)) = false := decide_eq_false (by omega)
        have hpe : p = s.size := by omega
        have htt : TOT = .ok (acc ++ [⟨6, [], s.size⟩]) := by rw [htot, hpe, str_end s (Nat.le_refl _), lexL_nil]; rfl
        have g0 : wr.cell? ⟨w.heap.size + 1, 0, none⟩ = some (.int .i64 0) := Blk.cell hkp.bad 0
        have HP := Lib.hid (And.intro htt hkp)
        have hsz := hkp.size
        obtain ⟨i31, hi31, hz0, hz1, hz2⟩ := info_parts info31
        clear htot htt hkp
        go_wp2_with (at_builtin; refine wpList_append_own _ rfl _ _ 23 rfl (w.heap.size + 2) 31 i31 (.agg #[.int .i64 0, .string ⟨#[]⟩, .int .i64 0]) 3 32 Tryd.underlying23 hi31 hz0 hz1 hz2 rfl (by decide) _ _ _ rfl (HP.out.2.row.alloc _) ⟨wr.heap.size, 0, none⟩ 1 1 [.int .i64 6, .string ⟨#[]⟩, .int .i64 (s.size : Int)] rfl rfl (cells3_new wr 31 _ _ _) (one3 _ _ _) (by unfold maxLen; omega) (by omega) (by simp; omega) ?_; intro v6 w6 hown6 hgrow6 _; have hk6 := (HP.out.2.next ((Below.refl wr.heap.size wr).alloc (Nat.le_refl _) (.cells #[.int .i64 6, .string ⟨#[]⟩, .int .i64 (s.size : Int)] 31))).app (wd := ⟨6, [], s.size⟩) (v' := v6) (w' := w6) hown6 hgrow6; have hw6 := HasW.of hk6.row; obtain ⟨a6, c6, hv6⟩ := hw6.form; subst hv6; have r0 := Blk.cell hk6.res 0; have r1 := Blk.cell hk6.res 1; have s0 := Blk.free hk6.res 0; have s1 := Blk.free hk6.res 1; have HA := Lib.hid (And.intro hk6 hw6); clear hown6 hgrow6 hk6 hw6)
        have hll : (acc ++ [(⟨6, [], s.size⟩ : Wd)]).length = acc.length + 1 := by simp
        have hcl := HA.out.2.clip (by simp)
        have HL := Lib.hid (And.intro hll hcl.1)
        have hle := hcl.2.1
        clear hcl
        rw [hll] at hle
        clear hll
        refine (clip29 a6 _ c6 hle w6).mono ?_
        rintro e w7 ⟨rfl, rfl⟩
        clear hle
        go_wp2_with fail
        first | rw [Exit.noGoto_ret] | skip
        refine bodyPost_ret (results_tmp_cell rfl _ _ w.heap.size 26 #[.int .i64 0, .int .i64 0] (0, 0) _ rfl (Blk.set (Blk.set HA.out.1.res 0 _) 1 _) Tryd.underlying26 rfl (info26 _ _)) rfl ?_
        rw [HP.out.1]
        have h8 := HL.out.2
        rw [HL.out.1] at h8
        exact ⟨_, rfl, ((h8.other (p := ⟨w.heap.size, 0, none⟩) (by simp) _).other (p := ⟨w.heap.size, 1, none⟩) (by simp) _).base (by omega), (HA.out.1.bel.setCell (p := ⟨w.heap.size, 0, none⟩) (Nat.le_refl _) _).setCell (p := ⟨w.heap.size, 1, none⟩) (Nat.le_refl _) _⟩
end Go.Proofs.YtofjifhnkcghpaaDoor
