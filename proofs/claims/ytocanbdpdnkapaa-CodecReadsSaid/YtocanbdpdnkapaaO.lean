/- One, Any; a thing laid by a writer that may be nil. -/
import Derived.Test.YtocanbdpdnkapaaN
namespace Go.Proofs.Ytocanbdpdnkapaa
open Go.RowKit
set_option linter.unusedVariables false
set_option linter.unusedSimpArgs false

def cell0 : CellT := ⟨0, 0, ByteArray.empty⟩
def cellV (c : CellT) : Value := .agg #[.int .i64 c.k, .int .i64 c.n, .string c.t]
set_option maxHeartbeats 4000000 in
theorem one46 (v : Value) (l : List CellT) (w : World) (B : Nat) (hr : RowC B w v l) (hB : B ≤ w.heap.size) :
    Calls Try.prog 46 #[v] w fun e w' => e = .returned (cellV (l.headD cell0)) ∧ Below w.heap.size w w' := by
  obtain ⟨a, cap, rfl, hcap, hmax, hc⟩ := hr
  have hA := Blk.new w 92 #[.int .i64 0, .int .i64 0, .string ⟨#[]⟩]
  have hBl := Below.al (Below.refl w.heap.size w) (Obj.cells #[.int .i64 0, .int .i64 0, .string ⟨#[]⟩] 92)
  cases l with
  | nil =>
    have HA := Lib.hid hA
    have HBL := Lib.hid hBl
    clear hA hBl hc
    go_enter Try.func46, Try.ntmps46
    go_wp2_with (refine wpList_store_row rfl 92 _ _ rfl w.heap.size #[.int .i64 0, .int .i64 0, .string ⟨#[]⟩] rfl rfl 92 _ HA.out info92 rfl (by simp [Value.oneCell']) ?_)
    refine bodyPost_ret (results_cell_row rfl _ _ w.heap.size 92 #[.int .i64 0, .int .i64 0, .string ⟨#[]⟩] (0, 0) _ rfl (Blk.setRow HA.out) Try.underlying92 rfl info92) rfl ?_
    exact ⟨rfl, Below.setRow HBL.out (Nat.le_refl _) _⟩
  | cons c l =>
    obtain ⟨g, off, rfl, hg, hcell⟩ := hc (by simp)
    have hlen : (((l.length : Int) + 1) == 0) = false := by rw [beq_eq_false_iff_ne]; omega
    have hlt : (0 : Nat) < l.length + 1 := by omega
    obtain ⟨ck, cn, ct⟩ := c
    have q : ∀ j, j < 3 → (w.alloc (Obj.cells #[.int .i64 0, .int .i64 0, .string ⟨#[]⟩] 92)).cell? ⟨g, off + j, none⟩ = (cellC ⟨ck, cn, ct⟩)[j]? := fun j hj => (Below.cell hBl (p := ⟨g, off + j, none⟩) (by show g < w.heap.size; omega)).trans (by have := hcell 0 _ rfl j hj; rw [Nat.zero_mul, Nat.add_zero] at this; exact this)
    have c0 : (w.alloc (Obj.cells #[.int .i64 0, .int .i64 0, .string ⟨#[]⟩] 92)).cell? ⟨g, off, none⟩ = some (.int .i64 ck) := q 0 (by omega)
    have c1 : (w.alloc (Obj.cells #[.int .i64 0, .int .i64 0, .string ⟨#[]⟩] 92)).cell? ⟨g, off + 1, none⟩ = some (.int .i64 cn) := q 1 (by omega)
    have c2 : (w.alloc (Obj.cells #[.int .i64 0, .int .i64 0, .string ⟨#[]⟩] 92)).cell? ⟨g, off + 2, none⟩ = some (.string ct) := q 2 (by omega)
    have HA := Lib.hid hA
    have HBL := Lib.hid hBl
    clear hA hBl hc hcell q
    go_enter Try.func46, Try.ntmps46
    go_wp2_with (refine wpList_store_row rfl 92 _ _ rfl w.heap.size #[.int .i64 ck, .int .i64 cn, .string ct] rfl rfl 92 _ HA.out info92 rfl (by simp [Value.oneCell']) ?_)
    refine bodyPost_ret (results_cell_row rfl _ _ w.heap.size 92 #[.int .i64 ck, .int .i64 cn, .string ct] (0, 0) _ rfl (Blk.setRow HA.out) Try.underlying92 rfl info92) rfl ?_
    exact ⟨rfl, Below.setRow HBL.out (Nat.le_refl _) _⟩

def fact0 : FactT := ⟨[], []⟩
set_option maxHeartbeats 4000000 in
theorem any49 (v : Value) (l : List FactT) (w : World) (B : Nat) (hr : RowF B w v l) (hB : B ≤ w.heap.size) :
    Calls Try.prog 49 #[v] w fun e w' => ∃ vd vm, e = .returned (.agg #[vd, vm]) ∧ Below w.heap.size w w' ∧ RowS B w' vd (l.headD fact0).dims ∧ RowI B w' vm (l.headD fact0).meas := by
  obtain ⟨ps, hps, ⟨a, cap, rfl, hcap, hmax, hc⟩, hel⟩ := hr
  rw [hps] at hcap hc ⊢
  have hA := Blk.new w 98 #[.slice none 0 0, .slice none 0 0]
  have hBl := Below.al (Below.refl w.heap.size w) (Obj.cells #[.slice none 0 0, .slice none 0 0] 98)
  cases l with
  | nil =>
    have HA := Lib.hid hA
    have HBL := Lib.hid hBl
    clear hA hBl hc hel
    go_enter Try.func49, Try.ntmps49
    go_wp2_with (refine wpList_store_row rfl 98 _ _ rfl w.heap.size #[.slice none 0 0, .slice none 0 0] rfl rfl 98 _ HA.out info98 rfl (by simp [Value.oneCell']) ?_)
    refine bodyPost_ret (results_cell_row rfl _ _ w.heap.size 98 #[.slice none 0 0, .slice none 0 0] (0, 0) _ rfl (Blk.setRow HA.out) Try.underlying98 rfl info98) rfl ?_
    exact ⟨_, _, rfl, Below.setRow HBL.out (Nat.le_refl _) _, RowS.nil _ _, RowI.nil _ _⟩
  | cons f l =>
    obtain ⟨g, off, rfl, hg, hcell⟩ := hc (by simp)
    obtain ⟨⟨vd, vm⟩, hp⟩ : ∃ p, ps[0]? = some p := ⟨_, List.getElem?_eq_getElem (by rw [hps]; simp)⟩
    obtain ⟨hd, hm⟩ := hel 0 f _ rfl hp
    have hlen : (((l.length : Int) + 1) == 0) = false := by rw [beq_eq_false_iff_ne]; omega
    have hlt : (0 : Nat) < l.length + 1 := by omega
    have q : ∀ j, j < 2 → (w.alloc (Obj.cells #[.slice none 0 0, .slice none 0 0] 98)).cell? ⟨g, off + j, none⟩ = [vd, vm][j]? := fun j hj => (Below.cell hBl (p := ⟨g, off + j, none⟩) (by show g < w.heap.size; omega)).trans (by have := hcell 0 _ hp j hj; rw [Nat.zero_mul, Nat.add_zero] at this; exact this)
    have c0 : (w.alloc (Obj.cells #[.slice none 0 0, .slice none 0 0] 98)).cell? ⟨g, off, none⟩ = some vd := q 0 (by omega)
    have c1 : (w.alloc (Obj.cells #[.slice none 0 0, .slice none 0 0] 98)).cell? ⟨g, off + 1, none⟩ = some vm := q 1 (by omega)
    have hone : (#[vd, vm] : Array Value).all (·.oneCell') = true := by
      obtain ⟨a1, a2, h1, -⟩ := hd.open
      obtain ⟨a3, a4, h2, -⟩ := hm.open
      simp only at h1 h2
      rw [h1, h2]
      simp [Value.oneCell']
    have hX := Below.setRow (cs := #[vd, vm]) hBl (Nat.le_refl _)
    have HD := Lib.hid (And.intro (RowS.mono hd (hX.mono hB) (Nat.le_refl _)) (RowI.mono hm (hX.mono hB) (Nat.le_refl _)))
    have HA := Lib.hid hA
    have HX := Lib.hid hX
    clear hA hBl hc hcell q hel hd hm hp hX
    go_enter Try.func49, Try.ntmps49
    go_wp2_with (refine wpList_store_row rfl 98 _ _ rfl w.heap.size #[vd, vm] rfl rfl 98 _ HA.out info98 rfl hone ?_)
    refine bodyPost_ret (results_cell_row rfl _ _ w.heap.size 98 #[vd, vm] (0, 0) _ rfl (Blk.setRow HA.out) Try.underlying98 rfl info98) rfl ?_
    exact ⟨_, _, rfl, HX.out, HD.out.1, HD.out.2⟩

structure ThingT where
  k : Int
  n : Int
  s : ByteArray
  l : List ByteArray
  cells : List CellT
  facts : List FactT
  meas : List ByteArray
/-- where a thing's lists lie -/
structure ThV where
  l : Value
  c : Value
  f : Value
  m : Value
structure RowsT (B : Nat) (w : World) (t : ThingT) (v : ThV) : Prop where
  l : RowS B w v.l t.l
  c : RowC B w v.c t.cells
  f : RowF B w v.f t.facts
  m : RowS B w v.m t.meas
theorem RowsT.mono {B B' : Nat} {w w' : World} {t : ThingT} {v : ThV} (h : RowsT B w t v) (hb : Below B w w') (hB : B ≤ B') : RowsT B' w' t v := ⟨RowS.mono h.l hb hB, RowR.mono h.c hb hB, RowF.mono h.f hb hB, RowS.mono h.m hb hB⟩
theorem RowsT.belO {b : Option Nat} {w w' : World} {t : ThingT} {v : ThV} (h : RowsT (low b w) w t v) (hb : BelO b w w') : RowsT (low b w') w' t v := h.mono hb.below (low_mono b hb.size)
def thingC (t : ThingT) (v : ThV) : Array Value := #[.int .i64 t.k, .int .i64 t.n, .string t.s, v.l, v.c, v.f, v.m]
/-- the texts of a thing may be given to a writer -/
structure okT (b : Option Nat) (t : ThingT) : Prop where
  s : okS b t.s
  l : ∀ s ∈ t.l, okS b s
  c : ∀ c ∈ t.cells, okS b c.t
  f : ∀ f ∈ t.facts, ∀ s ∈ f.dims, okS b s
  m : ∀ s ∈ t.meas, okS b s
  n : -9223372036854775808 ≤ t.n ∧ t.n ≤ 9223372036854775807
def u8 (n : Int) : Nat := (n % 256).toNat
theorem u8_lt (n : Int) : u8 n < 256 := by unfold u8; omega
def layT (x : WrS) (t : ThingT) : WrS :=
  if t.k = 0 then layW x (byteS (u8 t.n))
  else if t.k = 1 then intW x t.n
  else if t.k = 2 then countW x t.n
  else if t.k = 3 then textW x t.s
  else if t.k = 4 then textsW x t.l
  else if t.k = 5 then cellW x (t.cells.headD cell0)
  else if t.k = 6 then cellsW x t.cells
  else if t.k = 7 then factW x (t.facts.headD fact0)
  else if t.k = 8 then factsW x t.facts
  else schemaW x t.l t.meas
theorem wrap_u8 (n : Int) : IntKind.u8.wrap n = ((u8 n : Nat) : Int) := by rw [IntKind.wrap_u8]; unfold u8; omega
end Go.Proofs.Ytocanbdpdnkapaa
