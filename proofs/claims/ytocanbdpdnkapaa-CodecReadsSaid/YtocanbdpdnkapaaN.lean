/- Rows of records; Cells by a writer that may be nil. -/
import Derived.Test.YtocanbdpdnkapaaM
namespace Go.Proofs.Ytocanbdpdnkapaa
open Go.RowKit
set_option linter.unusedVariables false
set_option linter.unusedSimpArgs false

/-- a slice of records of c cells each that can be read -/
def RowR {α : Type} (c : Nat) (cells : α → List Value) (B : Nat) (w : World) (v : Value) (l : List α) : Prop :=
  ∃ a cap, v = .slice a l.length cap ∧ l.length ≤ cap ∧ cap ≤ 9223372036854775807 ∧
    (0 < l.length → ∃ b off, a = some ⟨b, off, none⟩ ∧ b < B ∧ ∀ k x, l[k]? = some x → ∀ j, j < c → w.cell? ⟨b, off + k * c + j, none⟩ = (cells x)[j]?)
theorem RowR.mono {α : Type} {c : Nat} {cells : α → List Value} {B B' : Nat} {w w' : World} {v : Value} {l : List α} (h : RowR c cells B w v l) (hb : Below B w w') (hB : B ≤ B') : RowR c cells B' w' v l := by
  obtain ⟨a, cap, hv, h1, h2, h3⟩ := h
  refine ⟨a, cap, hv, h1, h2, fun hn => ?_⟩
  obtain ⟨b, off, ha, hb', hc⟩ := h3 hn
  exact ⟨b, off, ha, by omega, fun k x hx j hj => (hb.cell (by exact hb')).trans (hc k x hx j hj)⟩
theorem RowR.nil {α : Type} (c : Nat) (cells : α → List Value) (B : Nat) (w : World) : RowR c cells B w (.slice none 0 0) [] := ⟨none, 0, rfl, Nat.le_refl _, by omega, fun h => absurd h (by simp)⟩
theorem rec_cell {α : Type} {c : Nat} {cells : α → List Value} {l : List α} (hl : ∀ x ∈ l, (cells x).length = c) {k j : Nat} {x : α} (hx : l[k]? = some x) (hj : j < c) : (l.flatMap cells)[k * c + j]? = (cells x)[j]? := by
  induction l generalizing k with
  | nil => simp at hx
  | cons y l ih =>
    have hy := hl y (by simp)
    rw [List.flatMap_cons]
    cases k with
    | zero =>
      simp at hx; subst hx
      rw [Nat.zero_mul, Nat.zero_add, List.getElem?_append_left (by omega)]
    | succ k =>
      have e : (k + 1) * c + j = (k * c + j) + c := by rw [Nat.add_mul]; omega
      rw [e, List.getElem?_append_right (by omega), hy, Nat.add_sub_cancel]
      exact ih (fun z hz => hl z (by simp [hz])) (by simpa using hx)
theorem RowR.of_owns {α : Type} {c : Nat} {cells : α → List Value} {w : World} {base : Nat} {e : TypeId} {v : Value} {l : List α} (hl : ∀ x ∈ l, (cells x).length = c) (h : w.ownsRow base e c v l.length (l.flatMap cells)) : RowR c cells w.heap.size w v l := by
  obtain ⟨hlen, a, cap, hv, h1, h2, h3⟩ := Row.of_owns h
  refine ⟨a, cap, hv, h1, by simpa [maxLen] using h2, fun hn => ?_⟩
  obtain ⟨b, off, ha, hb', hc⟩ := h3 hn
  refine ⟨b, off, ha, hb', fun k x hx j hj => ?_⟩
  have hk : k < l.length := (List.getElem?_eq_some_iff.1 hx).1
  have hlt : k * c + j < l.length * c := by have := Nat.mul_le_mul_right c hk; rw [Nat.succ_mul] at this; omega
  rw [Nat.add_assoc, hc _ hlt, ← rec_cell hl hx hj, List.getD_eq_getElem?_getD, List.getElem?_eq_getElem (by omega)]
  rfl
abbrev RowC := RowR 3 cellC
def cellsW (x : WrS) (l : List CellT) : WrS := l.foldl cellW (countW x l.length)

set_option maxHeartbeats 8000000 in
theorem each82 (b : Option Nat) (x : WrS) (v : Value) (l : List CellT) (w : World) (hx : WrO b w x) (hr : RowC (low b w) w v l) (hl : ∀ c ∈ l, okS b c.t) :
    Calls Try.prog 82 #[wptr b, v, .func (Fn.func 45) #[wptr b] #[]] w (WroteO b w (cellsW x l)) := by
  obtain ⟨a, cap, rfl, hcap, hmax, hc⟩ := hr
  have HC := Lib.hid (count43O b x l.length (by omega) w hx)
  have HCC := Lib.hid hc
  have HLL := Lib.hid hl
  clear hx hc hl
  go_enter Try.func82, Try.ntmps82
  go_wp2_with fail
  refine HC.out.mono ?_
  rintro e w1 ⟨rfl, h1, h2⟩
  have H12 := Lib.hid (And.intro h1 h2)
  clear h1 h2 HC
  go_wp2_with fail
  go_loopw [14] (fun i wr => ∃ k : Nat, k ≤ l.length ∧ i = .int .i64 k ∧ WrO b wr ((l.take k).foldl cellW (countW x l.length)) ∧ BelO b w wr) (fun i _ => l.length - (intOf i).toNat)
  case atStart => exact ⟨0, by omega, rfl, H12.out.1, H12.out.2⟩
  case round =>
    obtain ⟨k, hk, rfl, hW, hB⟩ := hrel
    by_cases hlt : k < l.length
    · obtain ⟨g, off, rfl, hg, hcell⟩ := HCC.out (by omega)
      have hst := foldl_take cellW (countW x l.length) l ⟨0, 0, ByteArray.empty⟩ k hlt
      have hsz := HLL.out _ (getD_mem (d := ⟨0, 0, ByteArray.empty⟩) hlt)
      have hget : l[k]? = some (l.getD k ⟨0, 0, ByteArray.empty⟩) := by rw [List.getD_eq_getElem?_getD, List.getElem?_eq_getElem hlt]; rfl
      have q : ∀ j, j < 3 → wr.cell? ⟨g, off + k * 3 + j, none⟩ = (cellC (l.getD k ⟨0, 0, ByteArray.empty⟩))[j]? := fun j hj => (Below.cell hB.below (p := ⟨g, off + k * 3 + j, none⟩) (by exact hg)).trans (hcell k _ hget j hj)
      obtain ⟨c, hs⟩ : ∃ c, l.getD k ⟨0, 0, ByteArray.empty⟩ = c := ⟨_, rfl⟩
      rw [hs] at hst hsz q
      have HQ := Lib.hid q
      have HZ := Lib.hid hsz
      have HW := Lib.hid hW
      have HST := Lib.hid hst
      have HB := Lib.hid hB
      obtain ⟨ck, cn, ct⟩ := c
      have hA := Blk.new wr 92 #[.int .i64 0, .int .i64 0, .string ⟨#[]⟩]
      have hA2 := Blk.setRow (cs' := #[.int .i64 ck, .int .i64 cn, .string ct]) hA
      have hX := Below.setRow (Below.al (Below.refl wr.heap.size wr) (Obj.cells #[.int .i64 0, .int .i64 0, .string ⟨#[]⟩] 92)) (Nat.le_refl _) #[.int .i64 ck, .int .i64 cn, .string ct]
      have HA := Lib.hid hA
      have HA2 := Lib.hid hA2
      have HX := Lib.hid hX
      clear hst hs hW hB hcell HCC q hsz hA hA2 hX hget
      have c0 : wr.cell? ⟨g, off + k * 3, none⟩ = some (.int .i64 ck) := HQ.out 0 (by omega)
      have c1 : wr.cell? ⟨g, off + k * 3 + 1, none⟩ = some (.int .i64 cn) := HQ.out 1 (by omega)
      have c2 : wr.cell? ⟨g, off + k * 3 + 2, none⟩ = some (.string ct) := HQ.out 2 (by omega)
      go_wp2_with (first | (refine wpList_load_at rfl 92 _ rfl wr.heap.size 0 rfl #[.int .i64 ck, .int .i64 cn, .string ct] _ (fun j hj => by rw [Nat.zero_add]; exact Blk.cell HA2.out j) Try.underlying92 rfl info92 ?_) | (refine wpList_store_row rfl 92 _ _ rfl wr.heap.size #[.int .i64 ck, .int .i64 cn, .string ct] rfl rfl 92 _ HA.out info92 rfl (by simp [Value.oneCell']) ?_))
      refine (cell45O b _ ⟨ck, cn, ct⟩ _ (HW.out.below HX.out) HZ.out).mono ?_
      rintro e w2 ⟨rfl, h1, h2⟩
      have H2 := Lib.hid (And.intro h1 ((HB.out.call HX.out).trans h2))
      clear h1 h2
      go_wp2_with fail
      go_roundw
      case rel => exact ⟨k + 1, by omega, by go_num, by rw [HST.out]; exact H2.out.1, H2.out.2⟩
      case measure => simp [intOf]; omega
    · obtain rfl : k = l.length := by omega
      rw [List.take_length] at hW
      go_wp2_with fail
      go_end0
      exact ⟨rfl, hW, hB⟩
theorem cells47O (b : Option Nat) (x : WrS) (v : Value) (l : List CellT) (w : World) (hx : WrO b w x) (hr : RowC (low b w) w v l) (hl : ∀ c ∈ l, okS b c.t) :
    Calls Try.prog 47 #[wptr b, v] w (WroteO b w (cellsW x l)) := by
  have HE := Lib.hid (each82 b x v l w hx hr hl)
  obtain ⟨a, cap, rfl, -⟩ := hr
  clear hx hl
  go_enter Try.func47, Try.ntmps47
  go_wp2_with fail
  refine HE.out.mono ?_
  rintro e w1 ⟨rfl, h1, h2⟩
  go_wp2_with fail
  go_end0
  exact ⟨rfl, h1, h2⟩

def intsW (x : WrS) (l : List Int) : WrS := l.foldl intW (countW x l.length)
theorem RowI.belO {b : Option Nat} {w w' : World} {v : Value} {l : List Int} (h : RowI (low b w) w v l) (hb : BelO b w w') : RowI (low b w') w' v l := RowI.mono h hb.below (low_mono b hb.size)
set_option maxHeartbeats 4000000 in
theorem each83 (b : Option Nat) (x : WrS) (v : Value) (l : List Int) (w : World) (hx : WrO b w x) (hr : RowI (low b w) w v l) :
    Calls Try.prog 83 #[wptr b, v, .func (Fn.func 42) #[wptr b] #[]] w (WroteO b w (intsW x l)) := by
  obtain ⟨a, cap, rfl, hcap, hmax, hc⟩ := hr.open
  have HC := Lib.hid (count43O b x l.length (by omega) w hx)
  have HCC := Lib.hid hc
  clear hx hr hc
  go_enter Try.func83, Try.ntmps83
  go_wp2_with fail
  refine HC.out.mono ?_
  rintro e w1 ⟨rfl, h1, h2⟩
  have H12 := Lib.hid (And.intro h1 h2)
  clear h1 h2 HC
  go_wp2_with fail
  go_loopw [14] (fun i wr => ∃ k : Nat, k ≤ l.length ∧ i = .int .i64 k ∧ WrO b wr ((l.take k).foldl intW (countW x l.length)) ∧ BelO b w wr) (fun i _ => l.length - (intOf i).toNat)
  case atStart => exact ⟨0, by omega, rfl, H12.out.1, H12.out.2⟩
  case round =>
    obtain ⟨k, hk, rfl, hW, hB⟩ := hrel
    by_cases hlt : k < l.length
    · obtain ⟨g, off, rfl, hg, hcell⟩ := HCC.out (by omega)
      have hst := foldl_take intW (countW x l.length) l 0 k hlt
      have q := (Below.cell hB.below (p := ⟨g, off + k, none⟩) (by exact hg)).trans (hcell k hlt)
      obtain ⟨s, hs⟩ : ∃ s, l.getD k 0 = s := ⟨_, rfl⟩
      rw [hs] at hst q
      have HT := Lib.hid (int42O b _ s wr hW)
      have HST := Lib.hid hst
      have HB := Lib.hid hB
      clear hst hs hW hB hcell HCC
      go_wp2_with fail
      refine HT.out.mono ?_
      rintro e w2 ⟨rfl, h1, h2⟩
      have H2 := Lib.hid (And.intro h1 (HB.out.trans h2))
      clear h1 h2
      go_wp2_with fail
      go_roundw
      case rel => exact ⟨k + 1, by omega, by go_num, by rw [HST.out]; exact H2.out.1, H2.out.2⟩
      case measure => simp [intOf]; omega
    · obtain rfl : k = l.length := by omega
      rw [List.take_length] at hW
      go_wp2_with fail
      go_end0
      exact ⟨rfl, hW, hB⟩

structure FactT where
  dims : List ByteArray
  meas : List Int
def factW (x : WrS) (f : FactT) : WrS := intsW (textsW x f.dims) f.meas
set_option maxHeartbeats 4000000 in
theorem fact48O (b : Option Nat) (x : WrS) (f : FactT) (vd vm : Value) (w : World) (hx : WrO b w x) (hd : RowS (low b w) w vd f.dims) (hm : RowI (low b w) w vm f.meas) (hl : ∀ s ∈ f.dims, okS b s) :
    Calls Try.prog 48 #[wptr b, .agg #[vd, vm]] w (WroteO b w (factW x f)) := by
  have hBl := Below.al (Below.refl w.heap.size w) (Obj.cells #[vd, vm] 98)
  have hb := Blk.new w 98 #[vd, vm]
  obtain ⟨ad, cd, hvd, -⟩ := hd.open
  obtain ⟨am, cm, hvm, -⟩ := hm.open
  have hX := hx.below hBl
  have hB := BelO.of (b := b) hBl
  have hd := hd.belO hB
  have hm := hm.belO hB
  obtain ⟨w1, hw1⟩ : ∃ w1, w1 = w.alloc (Obj.cells #[vd, vm] 98) := ⟨_, rfl⟩
  rw [← hw1] at hb hX hB hd hm
  have HT := Lib.hid (texts44O b x vd f.dims w1 hX hd hl)
  have HM := Lib.hid hm
  have HB := Lib.hid hB
  have HBK := Lib.hid hb
  have c0 : w1.cell? ⟨w.heap.size, 0, none⟩ = some vd := Blk.cell HBK.out 0
  have HV := Lib.hid (And.intro hvd hvm)
  subst hvd hvm
  clear hx hBl hb hX hB hd hm
  go_enter Try.func48, Try.ntmps48
  go_upto_region 1 with fail
  rw [← hw1]
  clear hw1
  go_wp2_with fail
  refine HT.out.mono ?_
  rintro e w2 ⟨rfl, h1, h2⟩
  have c1 : w2.cell? ⟨w.heap.size, 1, none⟩ = some (.slice am f.meas.length cm) := Blk.cell (h2.keep _ _ _ (by decide) (by decide) HBK.out) 1
  have HE := Lib.hid (each83 b _ _ f.meas w2 h1 (HM.out.belO h2))
  have HB2 := Lib.hid (HB.out.trans h2)
  clear h1 h2
  go_wp2_with fail
  refine HE.out.mono ?_
  rintro e w3 ⟨rfl, h1, h2⟩
  have H3 := Lib.hid (And.intro h1 (HB2.out.trans h2))
  clear h1 h2
  go_wp2_with fail
  go_end0
  exact ⟨rfl, H3.out.1, H3.out.2⟩

/-- a slice of facts that can be read -/
def RowF (B : Nat) (w : World) (v : Value) (l : List FactT) : Prop :=
  ∃ ps : List (Value × Value), ps.length = l.length ∧ RowR 2 (fun p => [p.1, p.2]) B w v ps ∧ ∀ (k : Nat) (f : FactT) (p : Value × Value), l[k]? = some f → ps[k]? = some p → RowS B w p.1 f.dims ∧ RowI B w p.2 f.meas
theorem RowF.mono {B B' : Nat} {w w' : World} {v : Value} {l : List FactT} (h : RowF B w v l) (hb : Below B w w') (hB : B ≤ B') : RowF B' w' v l := by
  obtain ⟨ps, h1, h2, h3⟩ := h
  exact ⟨ps, h1, h2.mono hb hB, fun k f p hf hp => ⟨RowS.mono (h3 k f p hf hp).1 hb hB, RowI.mono (h3 k f p hf hp).2 hb hB⟩⟩
def factsW (x : WrS) (l : List FactT) : WrS := l.foldl factW (countW x l.length)
theorem info98 : (Try.prog.info? 98).map (·.size) = some 2 := by kernel_rfl
set_option maxHeartbeats 8000000 in
theorem each84 (b : Option Nat) (x : WrS) (v : Value) (l : List FactT) (w : World) (hx : WrO b w x) (hr : RowF (low b w) w v l) (hl : ∀ f ∈ l, ∀ s ∈ f.dims, okS b s) :
    Calls Try.prog 84 #[wptr b, v, .func (Fn.func 48) #[wptr b] #[]] w (WroteO b w (factsW x l)) := by
  obtain ⟨ps, hps, ⟨a, cap, rfl, hcap, hmax, hc⟩, hel⟩ := hr
  rw [hps] at hcap hc ⊢
  have HC := Lib.hid (count43O b x l.length (by omega) w hx)
  have HCC := Lib.hid hc
  have HEL := Lib.hid hel
  have HLL := Lib.hid hl
  clear hx hc hl hel
  go_enter Try.func84, Try.ntmps84
  go_wp2_with fail
  refine HC.out.mono ?_
  rintro e w1 ⟨rfl, h1, h2⟩
  have H12 := Lib.hid (And.intro h1 h2)
  clear h1 h2 HC
  go_wp2_with fail
  go_loopw [14] (fun i wr => ∃ k : Nat, k ≤ l.length ∧ i = .int .i64 k ∧ WrO b wr ((l.take k).foldl factW (countW x l.length)) ∧ BelO b w wr) (fun i _ => l.length - (intOf i).toNat)
  case atStart => exact ⟨0, by omega, rfl, H12.out.1, H12.out.2⟩
  case round =>
    obtain ⟨k, hk, rfl, hW, hB⟩ := hrel
    by_cases hlt : k < l.length
    · obtain ⟨g, off, rfl, hg, hcell⟩ := HCC.out (by omega)
      obtain ⟨f, hf⟩ : ∃ f, l[k]? = some f := ⟨_, List.getElem?_eq_getElem hlt⟩
      obtain ⟨⟨vd, vm⟩, hp⟩ : ∃ p, ps[k]? = some p := ⟨_, List.getElem?_eq_getElem (by omega)⟩
      have hst := foldl_take factW (countW x l.length) l ⟨[], []⟩ k hlt
      rw [List.getD_eq_getElem?_getD, hf] at hst
      have hfm : f ∈ l := List.mem_of_getElem? hf
      have hsz := HLL.out f hfm
      have q : ∀ j, j < 2 → wr.cell? ⟨g, off + k * 2 + j, none⟩ = [vd, vm][j]? := fun j hj => (Below.cell hB.below (p := ⟨g, off + k * 2 + j, none⟩) (by exact hg)).trans (hcell k _ hp j hj)
      obtain ⟨hd, hm⟩ := HEL.out k f _ hf hp
      have HDM := Lib.hid (And.intro (hd.belO hB) (hm.belO hB))
      have HZ := Lib.hid hsz
      have HW := Lib.hid hW
      have HST := Lib.hid hst
      have HB := Lib.hid hB
      have hA := Blk.new wr 98 #[.slice none 0 0, .slice none 0 0]
      have hA2 := Blk.setRow (cs' := #[vd, vm]) hA
      have hX := Below.setRow (Below.al (Below.refl wr.heap.size wr) (Obj.cells #[.slice none 0 0, .slice none 0 0] 98)) (Nat.le_refl _) #[vd, vm]
      have HA := Lib.hid hA
      have HA2 := Lib.hid hA2
      have HX := Lib.hid hX
      have c0 : wr.cell? ⟨g, off + k * 2, none⟩ = some vd := q 0 (by omega)
      have c1 : wr.cell? ⟨g, off + k * 2 + 1, none⟩ = some vm := q 1 (by omega)
      have hone : (#[vd, vm] : Array Value).all (·.oneCell') = true := by
        obtain ⟨a1, a2, rfl, -⟩ := hd.open
        obtain ⟨a3, a4, rfl, -⟩ := hm.open
        simp [Value.oneCell']
      clear hst hW hB hcell HCC q hsz hA hA2 hX hd hm hf hfm hp HEL
      go_wp2_with (first | (refine wpList_load_at rfl 98 _ rfl wr.heap.size 0 rfl #[vd, vm] _ (fun j hj => by rw [Nat.zero_add]; exact Blk.cell HA2.out j) Try.underlying98 rfl info98 ?_) | (refine wpList_store_row rfl 98 _ _ rfl wr.heap.size #[vd, vm] rfl rfl 98 _ HA.out info98 rfl hone ?_))
      refine (fact48O b _ f vd vm _ (HW.out.below HX.out) (HDM.out.1.belO (BelO.of HX.out)) (HDM.out.2.belO (BelO.of HX.out)) HZ.out).mono ?_
      rintro e w2 ⟨rfl, h1, h2⟩
      have H2 := Lib.hid (And.intro h1 ((HB.out.call HX.out).trans h2))
      clear h1 h2
      go_wp2_with fail
      go_roundw
      case rel => exact ⟨k + 1, by omega, by go_num, by rw [HST.out]; exact H2.out.1, H2.out.2⟩
      case measure => simp [intOf]; omega
    · obtain rfl : k = l.length := by omega
      rw [List.take_length] at hW
      go_wp2_with fail
      go_end0
      exact ⟨rfl, hW, hB⟩
theorem facts50O (b : Option Nat) (x : WrS) (v : Value) (l : List FactT) (w : World) (hx : WrO b w x) (hr : RowF (low b w) w v l) (hl : ∀ f ∈ l, ∀ s ∈ f.dims, okS b s) :
    Calls Try.prog 50 #[wptr b, v] w (WroteO b w (factsW x l)) := by
  have HE := Lib.hid (each84 b x v l w hx hr hl)
  obtain ⟨ps, -, ⟨a, cap, rfl, -⟩, -⟩ := hr
  clear hx hl
  go_enter Try.func50, Try.ntmps50
  go_wp2_with fail
  refine HE.out.mono ?_
  rintro e w1 ⟨rfl, h1, h2⟩
  go_wp2_with fail
  go_end0
  exact ⟨rfl, h1, h2⟩
def schemaW (x : WrS) (d m : List ByteArray) : WrS := textsW (textsW x d) m
set_option maxHeartbeats 4000000 in
theorem schema51O (b : Option Nat) (x : WrS) (d m : List ByteArray) (vd vm : Value) (w : World) (hx : WrO b w x) (hd : RowS (low b w) w vd d) (hm : RowS (low b w) w vm m) (hl : ∀ s ∈ d, okS b s) (hl2 : ∀ s ∈ m, okS b s) :
    Calls Try.prog 51 #[wptr b, .agg #[vd, vm]] w (WroteO b w (schemaW x d m)) := by
  have hBl := Below.al (Below.refl w.heap.size w) (Obj.cells #[vd, vm] 103)
  have hb := Blk.new w 103 #[vd, vm]
  obtain ⟨ad, cd, hvd, -⟩ := hd.open
  obtain ⟨am, cm, hvm, -⟩ := hm.open
  have hX := hx.below hBl
  have hB := BelO.of (b := b) hBl
  have hd := hd.belO hB
  have hm := hm.belO hB
  obtain ⟨w1, hw1⟩ : ∃ w1, w1 = w.alloc (Obj.cells #[vd, vm] 103) := ⟨_, rfl⟩
  rw [← hw1] at hb hX hB hd hm
  have HT := Lib.hid (texts44O b x vd d w1 hX hd hl)
  have HM := Lib.hid hm
  have HB := Lib.hid hB
  have HBK := Lib.hid hb
  have c0 : w1.cell? ⟨w.heap.size, 0, none⟩ = some vd := Blk.cell HBK.out 0
  have HL2 := Lib.hid hl2
  subst hvd hvm
  clear hx hBl hb hX hB hd hm hl2
  go_enter Try.func51, Try.ntmps51
  go_upto_region 1 with fail
  rw [← hw1]
  clear hw1
  go_wp2_with fail
  refine HT.out.mono ?_
  rintro e w2 ⟨rfl, h1, h2⟩
  have c1 : w2.cell? ⟨w.heap.size, 1, none⟩ = some (.slice am m.length cm) := Blk.cell (h2.keep _ _ _ (by decide) (by decide) HBK.out) 1
  have HE := Lib.hid (texts44O b _ _ m w2 h1 (HM.out.belO h2) HL2.out)
  have HB2 := Lib.hid (HB.out.trans h2)
  clear h1 h2
  go_wp2_with fail
  refine HE.out.mono ?_
  rintro e w3 ⟨rfl, h1, h2⟩
  have H3 := Lib.hid (And.intro h1 (HB2.out.trans h2))
  clear h1 h2
  go_wp2_with fail
  go_end0
  exact ⟨rfl, H3.out.1, H3.out.2⟩
end Go.Proofs.Ytocanbdpdnkapaa
