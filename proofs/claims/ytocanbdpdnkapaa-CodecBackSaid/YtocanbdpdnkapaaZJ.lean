/- The plain law of CodecBack and CodecCuts: what a writer laid down, a reader takes up again; cut short, it ends with ErrShort. -/
import Derived.Test.YtocanbdpdnkapaaZI
namespace Go.Proofs.Ytocanbdpdnkapaa
open Go.RowKit
set_option linter.unusedVariables false
set_option linter.unusedSimpArgs false

/-- a reader of bytes -/
def mk (l : List UInt8) : RdS := ⟨⟨l.toArray⟩, 0⟩
def dead20 : RdS := ⟨emptyS, 20⟩
theorem dead20_e : dead20.e ≠ 0 := by decide
theorem mk_size (l : List UInt8) : (mk l).s.size = l.length := by simp [mk, ByteArray.size]
theorem take_mk (l : List UInt8) (n : Nat) (h : n ≤ l.length) : takeR (mk l) n = (⟨(l.take n).toArray⟩, mk (l.drop n)) := by
  have hs := mk_size l
  unfold takeR
  rw [if_neg (by simp [mk]), if_neg (by rw [hs]; omega), hs]
  have e1 : (mk l).s.extract 0 n = ⟨(l.take n).toArray⟩ := by apply ByteArray.ext; simp [mk]
  have e2 : (mk l).s.extract n l.length = ⟨(l.drop n).toArray⟩ := by
    apply ByteArray.ext; simp only [mk, ByteArray.data_extract, List.extract_toArray, List.extract_eq_take_drop]
    rw [List.take_of_length_le (by rw [List.length_drop]; omega)]
  rw [e1, e2]
  rfl
theorem take_short (l : List UInt8) (n : Nat) (h : l.length < n) : takeR (mk l) n = (emptyS, dead20) := by
  unfold takeR
  rw [if_neg (by simp [mk]), if_pos (by rw [mk_size]; exact h)]
  rfl
/-- what a writer lays down for a thing, a reader takes up as that thing; of less bytes it has none -/
def Good {α : Type} (f : WrS → WrS) (g : RdS → α × RdS) (a : α) (m : Nat) : Prop :=
  ∀ x, (f x).e = 0 → x.e = 0 ∧ ∃ bs : List UInt8, (f x).l = x.l ++ bs ∧ m ≤ bs.length ∧ (∀ rest, g (mk (bs ++ rest)) = (a, mk rest)) ∧ ∀ k, k < bs.length → (g (mk (bs.take k))).2 = dead20
theorem Good.lay (s : ByteArray) : Good (fun x => layW x s) (fun x => takeR x s.size) s s.size := by
  intro x he
  have hx : x.e = 0 := by
    by_cases h : x.e = 0
    · exact h
    · have he' : (layW x s).e = 0 := he
      rw [lay_err h] at he'; exact absurd he' h
  have hb : ¬ 65536 < x.l.length + s.size := fun hb => by
    have he' : (layW x s).e = 0 := he
    rw [lay_big hx hb] at he'; cases he'
  have hl := size_toList s
  refine ⟨hx, s.data.toList, ?_, by omega, fun rest => ?_, fun k hk => ?_⟩
  · show (layW x s).l = _; rw [lay_fit hx hb]
  · show takeR (mk (s.data.toList ++ rest)) s.size = _
    rw [take_mk _ _ (by rw [List.length_append]; omega), List.take_left' hl, List.drop_left' hl]
  · show (takeR (mk (s.data.toList.take k)) s.size).2 = _
    rw [take_short _ _ (by rw [List.length_take]; omega)]
theorem Good.map {α β : Type} {f : WrS → WrS} {g : RdS → α × RdS} {a : α} {m : Nat} (h : Good f g a m) (φ : α → β) : Good f (fun x => (φ (g x).1, (g x).2)) (φ a) m := by
  intro x he
  obtain ⟨h1, bs, h2, h3, h4, h5⟩ := h x he
  exact ⟨h1, bs, h2, h3, fun rest => by show (φ (g _).1, (g _).2) = _; rw [h4], h5⟩
theorem Good.fin {α : Type} {f : WrS → WrS} {g : RdS → α × RdS} {a : α} {m : Nat} (h : Good f g a m) (z : α) : Good f (fun x => (if (g x).2.e = 0 then (g x).1 else z, (g x).2)) a m := by
  intro x he
  obtain ⟨h1, bs, h2, h3, h4, h5⟩ := h x he
  exact ⟨h1, bs, h2, h3, fun rest => by show (if (g _).2.e = 0 then (g _).1 else z, (g _).2) = _; rw [h4]; rfl, h5⟩
theorem Good.congr {α : Type} {f f' : WrS → WrS} {g g' : RdS → α × RdS} {a : α} {m : Nat} (h : Good f g a m) (hf : ∀ x, (f' x).e = 0 → f' x = f x) (hg : ∀ l, g' (mk l) = g (mk l)) : Good f' g' a m := by
  intro x he
  have e := hf x he
  rw [e] at he ⊢
  obtain ⟨h1, bs, h2, h3, h4, h5⟩ := h x he
  exact ⟨h1, bs, h2, h3, fun rest => (hg _).trans (h4 rest), fun k hk => (congrArg (·.2) (hg _)).trans (h5 k hk)⟩
theorem Good.mono {α : Type} {f : WrS → WrS} {g : RdS → α × RdS} {a : α} {m n : Nat} (h : Good f g a m) (hn : n ≤ m) : Good f g a n := by
  intro x he
  obtain ⟨h1, bs, h2, h3, h4, h5⟩ := h x he
  exact ⟨h1, bs, h2, by omega, h4, h5⟩
theorem Good.seq {α β : Type} {f1 f2 : WrS → WrS} {g1 : RdS → α × RdS} {g2 : α → RdS → β × RdS} {a : α} {b : β} {m n : Nat} (h1 : Good f1 g1 a m) (h2 : Good f2 (g2 a) b n) (hd : ∀ a, (g2 a dead20).2 = dead20) :
    Good (fun x => f2 (f1 x)) (fun x => g2 (g1 x).1 (g1 x).2) b (m + n) := by
  intro x he
  obtain ⟨i1, bs2, i2, i3, i4, i5⟩ := h2 _ he
  obtain ⟨j1, bs1, j2, j3, j4, j5⟩ := h1 _ i1
  refine ⟨j1, bs1 ++ bs2, ?_, by rw [List.length_append]; omega, fun rest => ?_, fun k hk => ?_⟩
  · show (f2 (f1 x)).l = _; rw [i2, j2, List.append_assoc]
  · show g2 (g1 (mk (bs1 ++ bs2 ++ rest))).1 (g1 (mk (bs1 ++ bs2 ++ rest))).2 = _
    rw [List.append_assoc, j4]; exact i4 rest
  · show (g2 (g1 (mk ((bs1 ++ bs2).take k))).1 (g1 (mk ((bs1 ++ bs2).take k))).2).2 = _
    rw [List.length_append] at hk
    rw [List.take_append]
    by_cases h : k < bs1.length
    · rw [show k - bs1.length = 0 by omega, List.take_zero, List.append_nil, j5 k h]; exact hd _
    · rw [List.take_of_length_le (by omega), j4]; exact i5 _ (by omega)
theorem Good.id {α : Type} {g : RdS → α × RdS} {a : α} (h : ∀ rest, g (mk rest) = (a, mk rest)) : Good (fun x => x) g a 0 := fun x he => ⟨he, [], (by simp), Nat.le_refl _, h, fun k hk => by cases hk⟩
theorem Good.never {α : Type} {f : WrS → WrS} {g : RdS → α × RdS} {a : α} {m : Nat} (h : ∀ x, (f x).e ≠ 0) : Good f g a m := fun x he => absurd he (h x)
theorem Good.num (n k : Nat) (h : deS (leS n k) = n) : Good (fun x => layW x (leS n k)) (fun x => (deS (takeR x k).1, (takeR x k).2)) n k := by
  have := (Good.lay (leS n k)).map deS
  rw [leS_size, h] at this
  exact this
theorem fail_ne {x : WrS} {e : Int} (he : e ≠ 0) : (failW x e).e ≠ 0 := by unfold failW; split <;> assumption
theorem Good.count (n : Nat) : Good (fun x => countW x n) (fun x => (deS (takeR x 4).1, (takeR x 4).2)) n 4 := by
  by_cases h : n ≤ 4294967295
  · exact (Good.num n 4 (deS_leS (by omega))).congr (fun x _ => count_lay x h) (fun _ => rfl)
  · exact Good.never fun x => by unfold countW; rw [if_pos (by omega)]; exact fail_ne (by decide)
theorem Good.text (s : ByteArray) : Good (fun x => textW x s) textR s (4 + s.size) :=
  ((Good.count s.size).seq (g2 := fun n x => takeR x n) (Good.lay s) (fun a => by rw [takeR_dead dead20_e])).congr (fun _ _ => rfl) (fun _ => rfl)
def in64 (n : Int) : Prop := -9223372036854775808 ≤ n ∧ n ≤ 9223372036854775807
theorem i64of_u64 {n : Int} (h : in64 n) : i64of (u64 n) = n := by unfold in64 at h; unfold i64of u64 wrap64; omega
theorem deS_le8 {n : Nat} (h : n < 18446744073709551616) : deS (leS n 8) = n := by
  show deL (leB n 8) = n
  rw [deL_leB]
  exact Nat.mod_eq_of_lt h
theorem Good.int {n : Int} (h : in64 n) : Good (fun x => intW x n) intRR n 8 := by
  have := (Good.num (u64 n) 8 (deS_le8 (u64_lt n))).map i64of
  rw [i64of_u64 h] at this
  exact this
theorem Good.byte {b : Nat} (h : b < 256) : Good (fun x => layW x (byteS b)) (fun x => (byteR x, (takeR x 1).2)) b 1 := by
  have := (Good.lay (byteS b)).map (fun s => deS s % 256)
  have e : deS (byteS b) % 256 = b := by
    show ((UInt8.ofNat b).toNat + 256 * 0) % 256 = b
    rw [UInt8.toNat_ofNat']; omega
  rw [e, show (byteS b).size = 1 from rfl] at this
  exact this
theorem Good.go {α : Type} (fw : WrS → α → WrS) (one : RdS → α × RdS) (m : Nat) (l : List α) (h : ∀ a ∈ l, Good (fun x => fw x a) one a m) : Good (fun x => l.foldl fw x) (goR one l.length) l (m * l.length) := by
  induction l with
  | nil => exact (Good.id (fun _ => rfl)).mono (by simp)
  | cons a l ih =>
    have h2 := (ih (fun b hb => h b (List.mem_cons_of_mem _ hb))).map (fun r => a :: r)
    refine (((h a List.mem_cons_self).seq (g2 := fun c x => (c :: (goR one l.length x).1, (goR one l.length x).2)) h2 (fun c => by show (goR one l.length dead20).2 = _; rw [goR_err _ _ dead20_e])).congr (fun _ _ => rfl) (fun s => ?_)).mono ?_
    · show goR one (l.length + 1) (mk s) = _; rw [goR_ok _ _ rfl]
    · rw [List.length_cons, Nat.mul_add]; omega
theorem Good.sev {α : Type} (fw : WrS → α → WrS) (one : RdS → α × RdS) {m least : Nat} (hl : 0 < least) (hm : least ≤ m) (l : List α) (h : ∀ a ∈ l, Good (fun x => fw x a) one a m) :
    Good (fun x => l.foldl fw (countW x l.length)) (sevR one least) l 4 := by
  intro x he
  obtain ⟨i1, bs2, i2, i3, i4, i5⟩ := Good.go fw one m l h _ he
  obtain ⟨j1, bs1, j2, j3, j4, j5⟩ := Good.count l.length _ i1
  have hdead : ∀ n, goR one n dead20 = ([], dead20) := fun n => goR_err _ _ dead20_e
  have hml : least * l.length ≤ m * l.length := Nat.mul_le_mul_right _ hm
  refine ⟨j1, bs1 ++ bs2, ?_, by rw [List.length_append]; omega, fun rest => ?_, fun k hk => ?_⟩
  · show (l.foldl fw (countW x l.length)).l = _
    rw [i2, j2, List.append_assoc]
  · have hj := j4 (bs2 ++ rest)
    have e1 : deS (takeR (mk (bs1 ++ (bs2 ++ rest))) 4).1 = l.length := congrArg (·.1) hj
    have e2 : (takeR (mk (bs1 ++ (bs2 ++ rest))) 4).2 = mk (bs2 ++ rest) := congrArg (·.2) hj
    have hh : headR least (mk (bs1 ++ bs2 ++ rest)) = (l.length, mk (bs2 ++ rest)) := by
      unfold headR
      rw [List.append_assoc, e1, e2, if_neg]
      rintro ⟨-, hlt⟩
      rw [mk_size, List.length_append] at hlt
      have : l.length ≤ (bs2.length + rest.length) / least := by
        rw [Nat.le_div_iff_mul_le hl, Nat.mul_comm]; omega
      omega
    unfold sevR
    rw [hh]
    show (if (goR one l.length (mk (bs2 ++ rest))).2.e = 0 then (goR one l.length (mk (bs2 ++ rest))).1 else [], (goR one l.length (mk (bs2 ++ rest))).2) = _
    rw [i4]
    rfl
  · rw [List.length_append] at hk
    rw [List.take_append]
    by_cases h : k < bs1.length
    · have hj := j5 k h
      have e2 : (takeR (mk (bs1.take k)) 4).2 = dead20 := hj
      rw [show k - bs1.length = 0 by omega, List.take_zero, List.append_nil]
      have hh : headR least (mk (bs1.take k)) = (deS (takeR (mk (bs1.take k)) 4).1, dead20) := by
        unfold headR
        rw [e2, if_neg (fun q => dead20_e q.1)]
      unfold sevR
      rw [hh]
      show (goR one _ dead20).2 = _
      rw [hdead]
    · have hj := j4 (bs2.take (k - bs1.length))
      have e1 : deS (takeR (mk (bs1 ++ bs2.take (k - bs1.length))) 4).1 = l.length := congrArg (·.1) hj
      have e2 : (takeR (mk (bs1 ++ bs2.take (k - bs1.length))) 4).2 = mk (bs2.take (k - bs1.length)) := congrArg (·.2) hj
      rw [List.take_of_length_le (show bs1.length ≤ k by omega)]
      unfold sevR headR
      rw [e1, e2]
      split
      · rw [show failR (mk (bs2.take (k - bs1.length))) 20 = dead20 from if_pos ⟨rfl, by decide⟩]
        show (goR one _ dead20).2 = _
        rw [hdead]
      · exact i5 _ (by omega)
theorem Good.texts (l : List ByteArray) : Good (fun x => textsW x l) (sevR textR 4) l 4 :=
  (Good.sev textW textR (m := 4) (by decide) (Nat.le_refl _) l (fun s _ => (Good.text s).mono (by omega))).congr (fun _ _ => rfl) (fun _ => rfl)
theorem Good.ints (l : List Int) (h : ∀ n ∈ l, in64 n) : Good (fun x => intsW x l) (sevR intRR 8) l 4 :=
  (Good.sev intW intRR (m := 8) (by decide) (Nat.le_refl _) l (fun n hn => Good.int (h n hn))).congr (fun _ _ => rfl) (fun _ => rfl)
/-- what stands behind a cell's first byte -/
def cellG (b : Nat) (x : RdS) : CellT × RdS :=
  if b = 0 then (cell0, x) else if b = 1 then (⟨1, intR x, ByteArray.empty⟩, (takeR x 8).2) else if b = 2 then (⟨2, 0, (textR x).1⟩, (textR x).2) else (cell0, failR x 22)
def cellF (b : Nat) (x : RdS) : CellT × RdS := (if (cellG b x).2.e = 0 then (cellG b x).1 else cell0, (cellG b x).2)
theorem cellR_form (x : RdS) : cellR x = cellF (byteR x) (takeR x 1).2 := rfl
theorem cellF_dead (b : Nat) : (cellF b dead20).2 = dead20 := by
  show (cellG b dead20).2 = dead20
  unfold cellG
  repeat' split
  · rfl
  · rw [takeR_dead dead20_e]
  · rw [textR_dead dead20_e]
  · exact failR_dead dead20_e 22
theorem Good.cell {c : CellT} (h : in64 c.n) : Good (fun x => cellW x c) cellR c 1 := by
  obtain ⟨k, n, t⟩ := c
  by_cases h0 : k = 0 ∧ n = 0 ∧ t.size = 0
  · obtain ⟨rfl, rfl, ht⟩ := h0
    obtain rfl := toList_nil ht
    exact ((Good.byte (b := 0) (by decide)).seq (g2 := cellF) (Good.id (g := cellF 0) (a := cell0) (fun _ => rfl)) cellF_dead).congr (fun x _ => by unfold cellW; rw [if_pos ⟨rfl, rfl, rfl⟩]) (fun _ => rfl)
  · by_cases h1 : k = 1 ∧ t.size = 0
    · obtain ⟨rfl, ht⟩ := h1
      obtain rfl := toList_nil ht
      have hg := ((Good.int h).map (fun n => (⟨1, n, ByteArray.empty⟩ : CellT))).fin cell0
      exact (((Good.byte (b := 1) (by decide)).seq (g2 := cellF) (hg.congr (fun _ _ => rfl) (g' := cellF 1) (fun _ => rfl)) cellF_dead).congr (fun x _ => by unfold cellW; rw [if_neg h0, if_pos ⟨rfl, rfl⟩]) (fun _ => rfl)).mono (by omega)
    · by_cases h2 : k = 2 ∧ n = 0
      · obtain ⟨rfl, rfl⟩ := h2
        have hg := ((Good.text t).map (fun t => (⟨2, 0, t⟩ : CellT))).fin cell0
        exact (((Good.byte (b := 2) (by decide)).seq (g2 := cellF) (hg.congr (fun _ _ => rfl) (g' := cellF 2) (fun _ => rfl)) cellF_dead).congr (fun x _ => by unfold cellW; rw [if_neg h0, if_neg h1, if_pos ⟨rfl, rfl⟩]) (fun _ => rfl)).mono (by omega)
      · exact Good.never fun x => by
          show (cellW x _).e ≠ 0
          unfold cellW
          rw [if_neg h0, if_neg h1, if_neg h2]
          exact fail_ne (by decide)
def inF (f : FactT) : Prop := ∀ n ∈ f.meas, in64 n
theorem Good.fact {f : FactT} (h : inF f) : Good (fun x => factW x f) factR f 8 := by
  obtain ⟨d, m⟩ := f
  have hg := (((Good.texts d).seq (g2 := fun a x => ((⟨a, (sevR intRR 8 x).1⟩ : FactT), (sevR intRR 8 x).2)) ((Good.ints m h).map (fun m => (⟨d, m⟩ : FactT))) (fun a => by show (sevR intRR 8 dead20).2 = _; rw [sevR_dead _ _ dead20_e])).fin fact0)
  exact hg.congr (fun _ _ => rfl) (fun _ => rfl)
theorem Good.schema (d m : List ByteArray) : Good (fun x => schemaW x d m) schemaR ⟨d, m⟩ 8 := by
  have hg := (((Good.texts d).seq (g2 := fun a x => ((⟨a, (sevR textR 4 x).1⟩ : SchemaT), (sevR textR 4 x).2)) ((Good.texts m).map (fun m => (⟨d, m⟩ : SchemaT))) (fun a => by show (sevR textR 4 dead20).2 = _; rw [sevR_dead _ _ dead20_e])).fin schema0)
  exact hg.congr (fun _ _ => rfl) (fun _ => rfl)
/-- a thing with what its kind has alone -/
def normT (t : ThingT) : ThingT :=
  if t.k = 0 then ⟨0, (u8 t.n : Int), emptyS, [], [], [], []⟩
  else if t.k = 1 then ⟨1, t.n, emptyS, [], [], [], []⟩
  else if t.k = 2 then ⟨2, t.n, emptyS, [], [], [], []⟩
  else if t.k = 3 then ⟨3, 0, t.s, [], [], [], []⟩
  else if t.k = 4 then ⟨4, 0, emptyS, t.l, [], [], []⟩
  else if t.k = 5 then ⟨5, 0, emptyS, [], [t.cells.headD cell0], [], []⟩
  else if t.k = 6 then ⟨6, 0, emptyS, [], t.cells, [], []⟩
  else if t.k = 7 then ⟨7, 0, emptyS, [], [], [t.facts.headD fact0], []⟩
  else if t.k = 8 then ⟨8, 0, emptyS, [], [], t.facts, []⟩
  else ⟨t.k, 0, emptyS, t.l, [], [], t.meas⟩
/-- its numbers are int64s -/
structure inT (t : ThingT) : Prop where
  n : in64 t.n
  c : ∀ c ∈ t.cells, in64 c.n
  f : ∀ f ∈ t.facts, inF f
theorem headD_all {α : Type} {p : α → Prop} {l : List α} {z : α} (h : ∀ a ∈ l, p a) (hz : p z) : p (l.headD z) := by
  cases l with
  | nil => exact hz
  | cons a l => exact h a List.mem_cons_self
theorem Good.countR (n : Int) : Good (fun x => countW x n) (fun x => countR x n) n 4 := by
  by_cases h : 0 ≤ n ∧ n ≤ 4294967295
  · obtain ⟨m, rfl⟩ : ∃ m : Nat, n = m := ⟨n.toNat, by omega⟩
    intro x he
    obtain ⟨j1, bs, j2, j3, j4, j5⟩ := Good.count m x he
    refine ⟨j1, bs, j2, j3, fun rest => ?_, fun k hk => ?_⟩
    · have e1 : deS (takeR (mk (bs ++ rest)) 4).1 = m := congrArg (·.1) (j4 rest)
      have e2 : (takeR (mk (bs ++ rest)) 4).2 = mk rest := congrArg (·.2) (j4 rest)
      show _root_.Go.Proofs.Ytocanbdpdnkapaa.countR (mk (bs ++ rest)) m = _
      unfold _root_.Go.Proofs.Ytocanbdpdnkapaa.countR
      simp only [e1, e2, Int.lt_irrefl, if_false]
      rfl
    · have e2 : (takeR (mk (bs.take k)) 4).2 = dead20 := j5 k hk
      show (_root_.Go.Proofs.Ytocanbdpdnkapaa.countR (mk (bs.take k)) m).2 = _
      unfold _root_.Go.Proofs.Ytocanbdpdnkapaa.countR
      simp only [e2, failR_dead dead20_e, ite_self]
  · exact Good.never fun x => by
      show (countW x n).e ≠ 0
      unfold countW; rw [if_pos (by omega)]; exact fail_ne (by decide)
theorem Good.thing {t : ThingT} (h : inT t) : Good (fun x => layT x t) (fun x => takeT x t) (normT t) 1 := by
  obtain ⟨k, n, s, l, cs, fs, m⟩ := t
  by_cases k0 : k = 0
  · subst k0; exact ((Good.byte (u8_lt n)).map (fun b => (⟨0, (b : Int), emptyS, [], [], [], []⟩ : ThingT))).congr (fun _ _ => rfl) (fun _ => rfl)
  by_cases k1 : k = 1
  · subst k1; exact (((Good.int h.n).map (fun n => (⟨1, n, emptyS, [], [], [], []⟩ : ThingT))).congr (fun _ _ => rfl) (fun _ => rfl)).mono (by omega)
  by_cases k2 : k = 2
  · subst k2; exact (((Good.countR n).map (fun n => (⟨2, n, emptyS, [], [], [], []⟩ : ThingT))).congr (fun _ _ => rfl) (fun _ => rfl)).mono (by omega)
  by_cases k3 : k = 3
  · subst k3; exact (((Good.text s).map (fun s => (⟨3, 0, s, [], [], [], []⟩ : ThingT))).congr (fun _ _ => rfl) (fun _ => rfl)).mono (by omega)
  by_cases k4 : k = 4
  · subst k4; exact (((Good.texts l).map (fun l => (⟨4, 0, emptyS, l, [], [], []⟩ : ThingT))).congr (fun _ _ => rfl) (fun _ => rfl)).mono (by omega)
  by_cases k5 : k = 5
  · subst k5; exact (((Good.cell (headD_all (p := fun c : CellT => in64 c.n) h.c (by show in64 0; unfold in64; omega))).map (fun c => (⟨5, 0, emptyS, [], [c], [], []⟩ : ThingT))).congr (fun _ _ => rfl) (fun _ => rfl)).mono (by omega)
  by_cases k6 : k = 6
  · subst k6; exact (((Good.sev cellW cellR (m := 1) (least := 1) (by decide) (Nat.le_refl _) cs (fun c hc => Good.cell (h.c c hc))).map (fun cs => (⟨6, 0, emptyS, [], cs, [], []⟩ : ThingT))).congr (fun _ _ => rfl) (fun _ => rfl)).mono (by omega)
  by_cases k7 : k = 7
  · subst k7; exact (((Good.fact (headD_all h.f (show inF fact0 from fun n hn => by cases hn))).map (fun f => (⟨7, 0, emptyS, [], [], [f], []⟩ : ThingT))).congr (fun _ _ => rfl) (fun _ => rfl)).mono (by omega)
  by_cases k8 : k = 8
  · subst k8; exact (((Good.sev factW factR (m := 8) (least := 8) (by decide) (Nat.le_refl _) fs (fun f hf => Good.fact (h.f f hf))).map (fun fs => (⟨8, 0, emptyS, [], [], fs, []⟩ : ThingT))).congr (fun _ _ => rfl) (fun _ => rfl)).mono (by omega)
  · have e1 : ∀ x, layT x ⟨k, n, s, l, cs, fs, m⟩ = schemaW x l m := fun x => by
      unfold layT; rw [if_neg k0, if_neg k1, if_neg k2, if_neg k3, if_neg k4, if_neg k5, if_neg k6, if_neg k7, if_neg k8]
    have e2 : ∀ x, takeT x ⟨k, n, s, l, cs, fs, m⟩ = (⟨k, 0, emptyS, (schemaR x).1.dims, [], [], (schemaR x).1.meas⟩, (schemaR x).2) := fun x => by
      unfold takeT; rw [if_neg k0, if_neg k1, if_neg k2, if_neg k3, if_neg k4, if_neg k5, if_neg k6, if_neg k7, if_neg k8]
    have e3 : normT ⟨k, n, s, l, cs, fs, m⟩ = ⟨k, 0, emptyS, l, [], [], m⟩ := by
      unfold normT; rw [if_neg k0, if_neg k1, if_neg k2, if_neg k3, if_neg k4, if_neg k5, if_neg k6, if_neg k7, if_neg k8]
    rw [e3]
    exact (((Good.schema l m).map (fun q => (⟨k, 0, emptyS, q.dims, [], [], q.meas⟩ : ThingT))).congr (fun x _ => e1 x) (fun l => e2 _)).mono (by omega)
/-- these things are read from these bytes, and nothing is left -/
def Reads : List ThingT → List UInt8 → Prop
  | [], l => l = []
  | t :: ts, l => ∃ rest, takeT (mk l) t = (normT t, mk rest) ∧ Reads ts rest
def endT (x : RdS) (ts : List ThingT) : RdS := ts.foldl (fun x t => (takeT x t).2) x
theorem endT_dead (ts : List ThingT) : endT dead20 ts = dead20 := by
  induction ts with
  | nil => rfl
  | cons t ts ih =>
    show endT (takeT dead20 t).2 ts = dead20
    rw [(takeT_dead dead20_e t).1]; exact ih
theorem all_good (ts : List ThingT) (hts : ∀ t ∈ ts, inT t) (x : WrS) (h : (ts.foldl layT x).e = 0) :
    x.e = 0 ∧ ∃ bs, (ts.foldl layT x).l = x.l ++ bs ∧ Reads ts bs ∧ ∀ k, k < bs.length → endT (mk (bs.take k)) ts = dead20 := by
  induction ts generalizing x with
  | nil => exact ⟨h, [], by simp, rfl, fun k hk => by cases hk⟩
  | cons t ts ih =>
    obtain ⟨i1, bs2, i2, i3, i4⟩ := ih (fun a ha => hts a (List.mem_cons_of_mem _ ha)) (layT x t) h
    obtain ⟨j1, bs1, j2, j3, j4, j5⟩ := Good.thing (hts t List.mem_cons_self) x i1
    refine ⟨j1, bs1 ++ bs2, ?_, ⟨bs2, j4 bs2, i3⟩, fun k hk => ?_⟩
    · show (ts.foldl layT (layT x t)).l = _
      rw [i2]
      have j2' : (layT x t).l = x.l ++ bs1 := j2
      rw [j2', List.append_assoc]
    · rw [List.length_append] at hk
      show endT (takeT (mk ((bs1 ++ bs2).take k)) t).2 ts = dead20
      rw [List.take_append]
      by_cases hk1 : k < bs1.length
      · rw [show k - bs1.length = 0 by omega, List.take_zero, List.append_nil, show (takeT (mk (bs1.take k)) t).2 = dead20 from j5 k hk1]
        exact endT_dead ts
      · rw [List.take_of_length_le (show bs1.length ≤ k by omega), show takeT (mk (bs1 ++ bs2.take (k - bs1.length))) t = _ from j4 _]
        exact i4 _ (by omega)
end Go.Proofs.Ytocanbdpdnkapaa
