/- A store of facts: Scan. -/
import Derived.Test.YtdpgpcffhhdpiaaL
namespace Go.Proofs.Ytdpgpcffhhdpiaa
open Go.RowKit Go.Maps
set_option linter.unusedVariables false
set_option linter.unusedSimpArgs false

/-- facts in memory of their own -/
def FactsP (A : Nat) (w : World) (v : Value) (l : List FactT) (ps : List (Value × Value)) : Prop :=
  ps.length = l.length ∧ w.ownsRow A 41 2 v l.length (ps.flatMap (fun p => [p.1, p.2])) ∧
    ∀ (k : Nat) (f : FactT) (p : Value × Value), l[k]? = some f → ps[k]? = some p → w.ownsRow A 9 1 p.1 f.dims.length (f.dims.map .string) ∧ w.ownsRow A 2 1 p.2 f.meas.length (f.meas.map (.int .i64))
def FactsN (A : Nat) (w : World) (v : Value) (l : List FactT) : Prop := ∃ ps, FactsP A w v l ps
theorem FactsP.rowF {A : Nat} {w : World} {v : Value} {l : List FactT} {ps : List (Value × Value)} (h : FactsP A w v l ps) : RowR 2 (fun p => [p.1, p.2]) w.heap.size w v ps ∧ ∀ (k : Nat) (f : FactT) (p : Value × Value), l[k]? = some f → ps[k]? = some p → RowS w.heap.size w p.1 f.dims ∧ RowI w.heap.size w p.2 f.meas :=
  ⟨RowR.of_owns (fun x _ => rfl) (by rw [h.1]; exact h.2.1), fun k f p hf hp => ⟨RowS.of_owns (h.2.2 k f p hf hp).1, RowI.of_owns (h.2.2 k f p hf hp).2⟩⟩
theorem FactsP.turn {A : Nat} {w w' : World} {v : Value} {l : List FactT} {ps : List (Value × Value)} {F : Nat → Prop} (h : FactsP A w v l ps) (ht : Turn F w w') (hF : ∀ k, F k → k < w.heap.size → k < A) : FactsP A w' v l ps := by
  have key : ∀ {e : TypeId} {s n : Nat} {v : Value} {xs : List Value}, w.ownsRow A e s v n xs → w'.ownsRow A e s v n xs := fun ho => by
    refine owns_turn ho ht (fun g hg hFg => ?_)
    obtain ⟨cs, hb⟩ := owns_blk ho g hg
    have := hF g hFg hb.lt
    have := (ho.lt g hg).1
    omega
  exact ⟨h.1, key h.2.1, fun k f p hf hp => ⟨key (h.2.2 k f p hf hp).1, key (h.2.2 k f p hf hp).2⟩⟩
theorem FactsN.turn {A : Nat} {w w' : World} {v : Value} {l : List FactT} {F : Nat → Prop} (h : FactsN A w v l) (ht : Turn F w w') (hF : ∀ k, F k → k < w.heap.size → k < A) : FactsN A w' v l := by
  obtain ⟨ps, h⟩ := h; exact ⟨ps, h.turn ht hF⟩
theorem FactsN.below {A : Nat} {w w' : World} {v : Value} {l : List FactT} (h : FactsN A w v l) (hB : Below w.heap.size w w') : FactsN A w' v l :=
  h.turn (Turn.of_below (F := fun _ => False) hB (fun k h1 h2 => by omega)) (fun k h => h.elim)
theorem FactsN.rowK {A : Nat} {w : World} {v : Value} {l : List FactT} {F : Nat → Prop} (h : FactsN A w v l) (hF : ∀ k, F k → k < w.heap.size → k < A) : RowK F w v l := by
  obtain ⟨ps, h⟩ := h
  exact ⟨ps, h.1, fun w' ht => (h.turn ht hF).rowF⟩
theorem FactsN.rowF {A : Nat} {w : World} {v : Value} {l : List FactT} (h : FactsN A w v l) : RowF w.heap.size w v l := by
  obtain ⟨ps, h⟩ := h
  exact ⟨ps, h.1, h.rowF⟩
theorem info41' : (Try.prog.info? 41).map (fun i => (i.zero, i.size, i.bytes)) = some (some (.agg #[.slice none 0 0, .slice none 0 0]), 2, 48) := by kernel_rfl
theorem cell_two_new (w : World) (T : TypeId) (x y : Value) : ∀ j u, [x, y][j]? = some u → (w.alloc (Obj.cells #[x, y] T)).cell? ((⟨w.heap.size, 0, none⟩ : Addr).add j) = some u := fun j u h => by
  have := Blk.cell (Blk.new w T #[x, y]) j
  have e : ((⟨w.heap.size, 0, none⟩ : Addr).add j) = ⟨w.heap.size, j, none⟩ := by
    unfold Addr.add
    split
    · rename_i h; have h : j = 0 := by simpa using h
      rw [h]
    · simp
  rw [e, this]
  simpa using h
/-- a fact goes to the end of facts in memory of their own -/
theorem FactsP.push {A : Nat} {w w5 : World} {v v' vd vm : Value} {l : List FactT} {f : FactT} {ps : List (Value × Value)} (h : FactsP A w v l ps) (hA : A ≤ w.heap.size) (hd : w.ownsRow A 9 1 vd f.dims.length (f.dims.map .string)) (hm : w.ownsRow A 2 1 vm f.meas.length (f.meas.map (.int .i64)))
    (hown : w5.ownsRow A 41 2 v' (l.length + 1) (ps.flatMap (fun p => [p.1, p.2]) ++ [vd, vm])) (hg : (w.alloc (Obj.cells #[vd, vm] 41)).grownBy w5 v.ownBlock) : FactsP A w5 v' (l ++ [f]) (ps ++ [(vd, vm)]) := by
  have key : ∀ {e : TypeId} {v1 : Value} {n : Nat} {xs : List Value}, w.ownsRow A e 1 v1 n xs → e ≠ 41 → w5.ownsRow A e 1 v1 n xs := fun ho he => by
    have ht : Turn (fun g => v.ownBlock = some g) w w5 := ((Turn.refl (fun g => v.ownBlock = some g) w).alloc _).grown hg (fun g hg => hg)
    refine owns_turn ho ht (fun g hg' hv => ?_)
    obtain ⟨cs, hb⟩ := owns_blk ho g hg'
    exact owns_ne h.2.1 hb (fun e => he e.symm) g hv rfl
  refine ⟨by simp [h.1], by rw [List.length_append]; simpa using hown, fun k f' p hf hp => ?_⟩
  by_cases hk : k < l.length
  · rw [List.getElem?_append_left hk] at hf
    rw [List.getElem?_append_left (by rw [h.1]; exact hk)] at hp
    exact ⟨key (h.2.2 k f' p hf hp).1 (by decide), key (h.2.2 k f' p hf hp).2 (by decide)⟩
  · have hk2 : k = l.length := by have := (List.getElem?_eq_some_iff.1 hf).1; simp at this; omega
    subst hk2
    rw [List.getElem?_append_right (Nat.le_refl _)] at hf
    rw [List.getElem?_append_right (by rw [h.1]; exact Nat.le_refl _)] at hp
    simp [h.1] at hf hp
    subst hf hp
    exact ⟨key hd (by decide), key hm (by decide)⟩
def factAt (d m : Nat) (T : Nat → Nat → ByteArray) (Y : Nat → Nat → Int) (p : Nat) : FactT := ⟨(List.range d).map (fun i => T i p), (List.range m).map (fun i => Y i p)⟩
def factsL (d m : Nat) (T : Nat → Nat → ByteArray) (Y : Nat → Nat → Int) (a k : Nat) : List FactT := (List.range k).map (fun j => factAt d m T Y (a + j))
theorem factsL_len {d m : Nat} {T : Nat → Nat → ByteArray} {Y : Nat → Nat → Int} {a k : Nat} : (factsL d m T Y a k).length = k := by simp [factsL]
theorem factsL_succ (d m : Nat) (T : Nat → Nat → ByteArray) (Y : Nat → Nat → Int) (a k : Nat) : factsL d m T Y a (k + 1) = factsL d m T Y a k ++ [factAt d m T Y (a + k)] := by
  unfold factsL; rw [List.range_succ, List.map_append]; rfl
theorem made_owns (w : World) (A n : Nat) (hA : A ≤ w.heap.size) (hn : n ≤ maxLen) (Z : Array Value) (hZ : Z.size = n * 2) : (w.alloc (Obj.cells Z 41)).ownsRow A 41 2 (.slice (some ⟨w.heap.size, 0, none⟩) 0 n) 0 [] :=
  ⟨rfl, .inr ⟨w.heap.size, n, Z, rfl, hA, Blk.new w 41 Z, Nat.zero_le _, hn, hZ, by simp⟩⟩
section
variable {F : Nat → Prop} {B : Nat} {w : World} {d m ng : Nat} {L : Nat → List ByteArray} {okD okM : Nat → Nat → Prop} {T : Nat → Nat → ByteArray} {Y : Nat → Nat → Int} {ends : List Nat}
theorem toE_small (h : Core F B w d m L ng okD okM T Y ends) (a b : Int) : toE ends a b < 4294967296 := by
  obtain ⟨q, hq⟩ := h
  have h1 := atN_le (n := 4294967295) (fun x hx => by have := hq.small x hx; omega) (clampE ends.length a)
  have h2 := atN_le (n := 4294967295) (fun x hx => by have := hq.small x hx; omega) (clampE ends.length b)
  unfold toE atE; omega
set_option maxRecDepth 100000 in
set_option maxHeartbeats 16000000 in
theorem scan12 (h : Core F B w d m L ng okD okM T Y ends) (a b : Int) (ha : -9223372036854775808 ≤ a ∧ a ≤ 9223372036854775807) (hb : -9223372036854775808 ≤ b ∧ b ≤ 9223372036854775807)
    (hokD : ∀ i p, i < d → p < toE ends a b → okD i p) (hokM : ∀ i p, i < m → p < toE ends a b → okM i p) :
    Calls Try.prog 12 #[ptrV B, .int .i64 a, .int .i64 b] w fun e w' => ∃ v, e = .returned v ∧ Below w.heap.size w w' ∧ FactsN w.heap.size w' v (factsL d m T Y (atE ends a) (toE ends a b - atE ends a)) := by
  have HT := Lib.hid (there25 h)
  have HB := Lib.hid (between26 h a b ha hb)
  have hle : atE ends a ≤ toE ends a b := Nat.le_max_left _ _
  have hz : toE ends a b < 4294967296 := toE_small h a b
  have HOK := Lib.hid (And.intro hokD hokM)
  have HC := Lib.hid h
  generalize toE ends a b = zb at *
  generalize atE ends a = za at *
  obtain ⟨n, hn⟩ : ∃ n, n = zb - za := ⟨_, rfl⟩
  obtain rfl : zb = za + n := by omega
  rw [← hn]
  obtain ⟨i0, hi0, hz0, hz1, hz2⟩ := info_parts info41'
  have hmk : ∀ w, (Instr.makeSlice 30 (.int .i64 0) (.int .i64 (n : Int))).run Try.prog w = .ok (.slice (some ⟨w.heap.size, 0, none⟩) 0 n) (w.alloc (.cells (madeCells #[.slice none 0 0, .slice none 0 0] (n * 2)) 41)) := fun w => by
    have := run_make (P := Try.prog) w 30 41 i0 _ Try.underlying30 hi0 hz0 .i64 .i64 0 (n : Int) (by omega) (by omega) (by rw [hz2]; omega) (by omega)
    rw [hz1] at this
    simpa [Value.cells] using this
  obtain ⟨Z, hZ⟩ : ∃ Z, Z = madeCells #[Value.slice none 0 0, .slice none 0 0] (n * 2) := ⟨_, rfl⟩
  rw [← hZ] at hmk
  have hZs : Z.size = n * 2 := by rw [hZ, size_madeCells]
  have hsub : (za : Int) + (n : Int) - (za : Int) = (n : Int) := by omega
  have HZ := Lib.hid hZs
  unfold intV ptrV at *
  clear h hn hZ hZs hokD hokM hle
  go_enter Try.func12, Try.ntmps12
  go_wp2_with fail
  refine HT.out.mono ?_
  rintro e w1 ⟨rfl, rfl⟩
  go_wp2_with fail
  refine HB.out.mono ?_
  rintro e w1 ⟨rfl, hB⟩
  have HBB := Lib.hid hB
  clear hB
  simp only [Int.natCast_add]
  go_wp2_with fail
  have HS := Lib.hid (show FactsP w.heap.size (w1.alloc (Obj.cells Z 41)) (.slice (some ⟨w1.heap.size, 0, none⟩) 0 n) (factsL d m T Y za 0) [] from ⟨rfl, made_owns w1 _ n HBB.out.size (by unfold maxLen; omega) Z HZ.out, fun k f p hf => by simp [factsL] at hf⟩)
  have HB0 := Lib.hid (Below.al HBB.out (Obj.cells Z 41))
  clear hmk
  go_loopw [9, 10] (fun v t wr => ∃ (k : Nat) (ps : List (Value × Value)), k ≤ n ∧ t = .int .i64 ((za + k : Nat) : Int) ∧ FactsP w.heap.size wr v (factsL d m T Y za k) ps ∧ Below w.heap.size w wr) (fun _ t _ => za + n - (intOf t).toNat)
  case atStart => exact ⟨0, [], by omega, by simp, HS.out, HB0.out⟩
  case round =>
    obtain ⟨k, ps, hk, rfl, hf, hB⟩ := hrel
    clear HS HB0
    by_cases hlt : k < n
    · have hcore := HC.out.below hB
      have HF := Lib.hid (fact27 hcore (za + k) (by omega) (fun i hi => HOK.out.1 i _ hi (by omega)) (fun i hi => HOK.out.2 i _ hi (by omega)))
      have hd1 : (za : Int) + (k : Int) < (za : Int) + (n : Int) := by omega
      obtain ⟨av, kv, hv⟩ := owns_form hf.2.1
      rw [factsL_len] at hv
      subst hv
      have HP := Lib.hid (And.intro hf hB)
      unfold intV ptrV at HF
      clear hcore hf hB
      simp only [Int.natCast_add] at HF ⊢
      go_wp2_with fail
      refine HF.out.mono ?_
      rintro e w2 ⟨vd, vm, rfl, hB2, hod, hom⟩
      obtain ⟨ad, cd, hvd⟩ := owns_form hod
      obtain ⟨am, cm, hvm⟩ := owns_form hom
      subst hvd hvm
      have hP2 : FactsP w.heap.size w2 (.slice av k kv) (factsL d m T Y za k) ps := HP.out.1.turn (Turn.of_below (F := fun _ => False) hB2 (fun k h1 h2 => by omega)) (fun k h => h.elim)
      have hB3 := Below.call HP.out.2 hB2
      have HQ := Lib.hid (And.intro hP2 (And.intro hB3 (And.intro hod hom)))
      have hAw : w.heap.size ≤ w2.heap.size := hB3.size
      clear hP2 hB3 hod hom hB2
      go_upto_region 7 with (at_builtin; refine wpList_append_own5 _ rfl _ _ 30 rfl w.heap.size 41 i0 _ 2 48 Try.underlying30 hi0 hz0 hz1 hz2 rfl (by decide) (.slice av k kv) k _ rfl (by have := HQ.out.1.2.1; rw [factsL_len] at this; exact this.alloc (Obj.cells #[.slice ad d cd, .slice am m cm] 41)) ⟨w2.heap.size, 0, none⟩ 1 1 [.slice ad d cd, .slice am m cm] rfl rfl (cell_two_new w2 41 _ _) (by intro u hu; simp at hu; rcases hu with rfl | rfl <;> rfl) (by unfold maxLen; omega) (by omega) (by simp; omega) ?_; intro v' w5 hown5 hgrow hat; obtain ⟨v5a, v5c, hv5⟩ := owns_form hown5; subst hv5)
      have hod2 : w2.ownsRow w.heap.size 9 1 (.slice ad d cd) (factAt d m T Y (za + k)).dims.length ((factAt d m T Y (za + k)).dims.map .string) := by
        have := owns_lower HQ.out.2.2.1 HP.out.2.size
        simpa [factAt] using this
      have hom2 : w2.ownsRow w.heap.size 2 1 (.slice am m cm) (factAt d m T Y (za + k)).meas.length ((factAt d m T Y (za + k)).meas.map (.int .i64)) := by
        have := owns_lower HQ.out.2.2.2 HP.out.2.size
        simpa [factAt] using this
      have hpush := HQ.out.1.push hAw hod2 hom2 (by rw [factsL_len]; exact hown5) hgrow
      rw [← factsL_succ] at hpush
      have hB5 : Below w.heap.size w w5 := by
        have ht : Turn (fun g => (Value.slice av k kv).ownBlock = some g) w2 w5 := ((Turn.refl (fun g => (Value.slice av k kv).ownBlock = some g) w2).alloc _).grown hgrow (fun g hg => hg)
        exact HQ.out.2.1.trans (ht.below hAw (fun k hk hg => by have := (HQ.out.1.2.1.lt k hg).1; omega))
      have HR := Lib.hid (And.intro hpush hB5)
      clear hod2 hom2 hpush hB5 hown5 hgrow hat
      go_wp2_with fail
      go_roundw
      case rel => exact ⟨k + 1, _, by omega, by go_num, HR.out⟩
      case measure => simp [intOf]; omega
    · obtain rfl : k = n := by omega
      have HP := Lib.hid (And.intro hf hB)
      clear hf hB hlt
      simp only [Int.natCast_add]
      go_wp2_with fail
      go_ret
      exact ⟨_, rfl, HP.out.2, ps, HP.out.1⟩
end
end Go.Proofs.Ytdpgpcffhhdpiaa
