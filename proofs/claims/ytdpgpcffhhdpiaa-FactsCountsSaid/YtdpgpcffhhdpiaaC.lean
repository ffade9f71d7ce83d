/- A store of facts in memory; there, Seq, Len, Segments, dim, Values. -/
import Derived.Test.YtdpgpcffhhdpiaaB
namespace Go.Proofs.Ytdpgpcffhhdpiaa
open Go.RowKit Go.Maps
set_option linter.unusedVariables false
set_option linter.unusedSimpArgs false

structure FactT where
  dims : List ByteArray
  meas : List Int
def ptrV (b : Nat) : Value := .pointer (some ⟨b, 0, none⟩)
def intV (n : Nat) : Value := .int .i64 (n : Int)
/-- a store's slices, its dictionaries' blocks and what belongs to each, its segments' blocks -/
structure PartsV where
  vD : Value
  vS : Value
  vE : Value
  ds : List Nat
  gs : List Nat
  Fs : Nat → Nat → Prop
/-- A STORE IN BLOCK B: its dimensions' texts L, how many segments there are, which places bear a text's number (okD) and a number (okM), whose texts and numbers (T, Y), its ends; its blocks are in F -/
structure CoreQ (q : PartsV) (F : Nat → Prop) (B : Nat) (w : World) (d m : Nat) (L : Nat → List ByteArray) (ng : Nat) (okD okM : Nat → Nat → Prop) (T : Nat → Nat → ByteArray) (Y : Nat → Nat → Int) (ends : List Nat) : Prop where
  blk : Blk w B 50 #[q.vD, intV m, q.vS, q.vE]
  dO : w.ownsRow 0 55 1 q.vD d (q.ds.map ptrV)
  dl : q.ds.length = d
  dF : ∀ g, q.vD.ownBlock = some g → F g
  sO : w.ownsRow 0 57 1 q.vS ng (q.gs.map ptrV)
  sl : q.gs.length = ng
  sF : ∀ g, q.vS.ownBlock = some g → F g
  eO : w.ownsRow 0 3 1 q.vE ends.length (ends.map intV)
  eF : ∀ g, q.vE.ownBlock = some g → F g
  dict : ∀ (i D : Nat), q.ds[i]? = some D → DictAt (q.Fs i) D w (L i)
  dsub : ∀ (i k : Nat), i < d → q.Fs i k → F k ∧ k < w.heap.size
  apart : ∀ (i j k : Nat), i < d → j < d → i ≠ j → q.Fs i k → ¬ q.Fs j k
  away : ∀ (i k : Nat), i < d → q.Fs i k → k ≠ B ∧ q.vD.ownBlock ≠ some k ∧ q.vS.ownBlock ≠ some k ∧ q.vE.ownBlock ≠ some k ∧ k ∉ q.gs
  seg : ∀ (j g : Nat), q.gs[j]? = some g → F g ∧ ∃ cs : Array Value, Blk w g 64 cs ∧ cs.size = 2560
  inj : ∀ (i j g : Nat), q.gs[i]? = some g → q.gs[j]? = some g → i = j
  cd : ∀ (i p : Nat), i < d → okD i p → ∃ g x : Nat, q.gs[p / 256]? = some g ∧ w.cell? ⟨g, i * 256 + p % 256, none⟩ = some (.int .u16 (x : Int)) ∧ x < 4096 ∧ (L i)[x]? = some (T i p)
  cm : ∀ (i p : Nat), i < m → okM i p → ∃ g : Nat, q.gs[p / 256]? = some g ∧ w.cell? ⟨g, 1536 + i * 256 + p % 256, none⟩ = some (.int .i64 (Y i p))
  fB : F B
  hd : d ≤ 6
  hm : 1 ≤ m ∧ m ≤ 4
  small : ∀ x ∈ ends, x < 4294967296
  few : ends.length < 4294967296 ∧ ng < 4294967296
def Core (F : Nat → Prop) (B : Nat) (w : World) (d m : Nat) (L : Nat → List ByteArray) (ng : Nat) (okD okM : Nat → Nat → Prop) (T : Nat → Nat → ByteArray) (Y : Nat → Nat → Int) (ends : List Nat) : Prop := ∃ q, CoreQ q F B w d m L ng okD okM T Y ends
section
variable {F : Nat → Prop} {B : Nat} {w : World} {d m ng : Nat} {L : Nat → List ByteArray} {okD okM : Nat → Nat → Prop} {T : Nat → Nat → ByteArray} {Y : Nat → Nat → Int} {ends : List Nat}
theorem there25 (h : Core F B w d m L ng okD okM T Y ends) : Calls Try.prog 25 #[ptrV B] w fun e w' => e = .returned (.bool true) ∧ w = w' := by
  obtain ⟨q, h⟩ := h
  have hb := h.blk
  have hm := h.hm
  have c1 : w.cell? ⟨B, 1, none⟩ = some (.int .i64 (m : Int)) := Blk.cell hb 1
  have d1 : decide ((0 : Int) < m) = true := decide_eq_true (by omega)
  have d2 : (0 : Int) < m := by omega
  have d3 : 0 < m := by omega
  clear hb h
  unfold ptrV
  go_enter Try.func25, Try.ntmps25
  go_wp2_with fail
  go_ret
  exact ⟨rfl, rfl⟩
theorem seq21 (h : Core F B w d m L ng okD okM T Y ends) : Calls Try.prog 21 #[ptrV B] w fun e w' => e = .returned (intV ends.length) ∧ w = w' := by
  have HT := Lib.hid (there25 h)
  obtain ⟨⟨vD, vS, vE, ds, gs, Fs⟩, h⟩ := h
  have hb := h.blk
  have ho := h.eO
  simp only at hb ho
  obtain ⟨a, c, rfl⟩ := owns_form ho
  have c3 : w.cell? ⟨B, 3, none⟩ = some (.slice a ends.length c) := Blk.cell hb 3
  clear hb h ho
  unfold ptrV at HT ⊢
  go_enter Try.func21, Try.ntmps21
  go_wp2_with fail
  refine HT.out.mono ?_
  rintro e w' ⟨rfl, rfl⟩
  go_wp2_with fail
  go_ret
  exact ⟨rfl, rfl⟩
def lastE (ends : List Nat) : Nat := ends.getLastD 0
theorem len16 (h : Core F B w d m L ng okD okM T Y ends) : Calls Try.prog 16 #[ptrV B] w fun e w' => e = .returned (intV (lastE ends)) ∧ ∃ n, w' = w.drewN n := by
  have HT := Lib.hid (there25 h)
  obtain ⟨⟨vD, vS, vE, ds, gs, Fs⟩, h⟩ := h
  have hfew := h.few
  have hb := h.blk
  have ho := h.eO
  simp only at hb ho
  obtain ⟨hl, a, c, hv, hcap, hmax, hc⟩ := Row.of_owns ho
  subst hv
  have c3 : w.cell? ⟨B, 3, none⟩ = some (.slice a ends.length c) := Blk.cell hb 3
  unfold ptrV at HT ⊢
  by_cases h0 : ends.length = 0
  · have he : ends = [] := List.eq_nil_of_length_eq_zero h0
    subst he
    clear hb h ho hc
    go_enter Try.func16, Try.ntmps16
    go_wp2_with fail
    refine HT.out.mono ?_
    rintro e w' ⟨rfl, rfl⟩
    go_wp2_with fail
    go_ret
    exact ⟨rfl, 0, rfl⟩
  · obtain ⟨b, off, rfl, hbl, hcell⟩ := hc (by omega)
    have hz := hcell (ends.length - 1) (by omega)
    have hlast : (ends.map intV).getD (ends.length - 1) undef = .int .i64 (lastE ends : Nat) := by
      rw [List.getD_eq_getElem?_getD, List.getElem?_map]
      have : ends[ends.length - 1]? = some (lastE ends) := by
        unfold lastE
        rw [List.getLastD_eq_getLast?, List.getLast?_eq_getElem?]
        rw [List.getElem?_eq_getElem (by omega)]
        rfl
      rw [this]
      rfl
    rw [hlast] at hz
    have d1 : ((ends.length : Int) == 0) = false := by rw [beq_eq_false_iff_ne]; omega
    have d2 : (ends.length : Int) - 1 = ((ends.length - 1 : Nat) : Int) := by omega
    have HD2 := Lib.hid d2
    have d3 : ((ends.length - 1 : Nat) : Int) < ends.length := by omega
    have d4 : (0 : Int) ≤ (ends.length : Int) - 1 := by omega
    have d5 : (ends.length : Int) - 1 < ends.length := by omega
    have d6 : ((ends.length : Int) - 1).toNat = ends.length - 1 := by omega
    generalize lastE ends = z at *
    clear hcell hc hb h ho hlast d2
    go_enter Try.func16, Try.ntmps16
    go_wp2_with fail
    refine HT.out.mono ?_
    rintro e w' ⟨rfl, rfl⟩
    go_wp2_with fail
    go_quiet (fail)
    go_wp2_with fail
    go_ret
    exact ⟨rfl, _, rfl⟩
end
end Go.Proofs.Ytdpgpcffhhdpiaa
