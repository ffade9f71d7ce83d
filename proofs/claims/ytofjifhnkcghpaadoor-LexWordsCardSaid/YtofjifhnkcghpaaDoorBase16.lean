/- Bytes: rows of bytes as texts; a text made of a row of the call's own. -/
import Derived.Test.YtofjifhnkcghpaaDoorBase15
import Derived.Lib.AppendStr
import Derived.Laws.IdiomStrings
import Derived.Laws.BytesArg
import Derived.Laws.MakeOwn
namespace Go.Proofs.YtofjifhnkcghpaaDoor
open Go.RowKit
set_option linter.unusedVariables false
set_option linter.unusedSimpArgs false

def byteV (l : List UInt8) : List Value := l.map fun b => Value.int .u8 (b.toNat : Int)
theorem byteV_len (l : List UInt8) : (byteV l).length = l.length := by simp [byteV]
theorem byteV_append (l m : List UInt8) : byteV (l ++ m) = byteV l ++ byteV m := by simp [byteV]
theorem byteV_str (s : ByteArray) : Lib.strCells s = byteV s.data.toList := rfl
theorem byteV_one (l : List UInt8) : ∀ u ∈ byteV l, u.oneCell' = true := by
  intro u hu
  unfold byteV at hu
  rw [List.mem_map] at hu
  obtain ⟨b, _, rfl⟩ := hu
  rfl

theorem run_conv_own {P : Program} {w : World} {base : Nat} {src dst e : TypeId} {v : Value} {n : Nat} {l : List UInt8} (hs : P.underlying src = some (.slice e)) (he : P.underlying e = some (.int .u8)) (hd : P.underlying dst = some .string)
    (h : w.ownsRow base e 1 v n (byteV l)) : (convert src dst v).run P w = .ok (.string ⟨l.toArray⟩) w := by
  have hn : l.length = n := by have := h.1; rw [byteV_len] at this; omega
  have hc := @World.ownsRow.cells _ _ _ _ _ _ _ h
  rcases h.2 with ⟨rfl, h0⟩ | ⟨g, cap, cur, rfl, _, _, _, _, _, _⟩
  · have : l = [] := List.eq_nil_of_length_eq_zero (by omega)
    subst this
    exact run_convert_bytes_nil w src e hs he 0 0 dst hd
  · subst hn
    refine run_convert_bytes_back w src dst e ⟨g, 0, none⟩ cap l hs he hd fun j hj => ?_
    exact hc (g := g) rfl j _ (by simp [byteV, hj])

/-- a new row of bytes, all zero -/
def zeroB (n : Nat) : List UInt8 := List.replicate n 0
theorem made_zero (n : Nat) : madeCells #[Value.int .u8 0] n = (byteV (zeroB n)).toArray := by
  apply Array.ext
  · simp [madeCells, byteV, zeroB]
  · intro i h1 h2
    have e : ([Value.int .u8 0] : List Value)[i % 1]?.getD default = Value.int .u8 0 := by rw [Nat.mod_one]; rfl
    simp [madeCells, byteV, zeroB, e]
theorem Row.of_bytes {w : World} {b : Nat} {T : TypeId} {l : List UInt8} (h : Blk w b T (byteV l).toArray) : w.heap[b]? = some (.cells (byteV l).toArray T (0, 0)) := h
theorem owns_bytes {w : World} {b base : Nat} {T : TypeId} {l : List UInt8} {n : Nat} (h : Blk w b T (byteV l).toArray) (hn : l.length = n) (hm : n ≤ maxLen) (hb : base ≤ b) : w.ownsRow base T 1 (.slice (some ⟨b, 0, none⟩) n n) n (byteV l) := by
  subst hn
  exact ⟨by rw [byteV_len]; omega, .inr ⟨b, l.length, _, rfl, hb, h, Nat.le_refl _, hm, by simp [byteV], by rw [Nat.mul_one]; exact List.take_of_length_le (by simp [byteV])⟩⟩
end Go.Proofs.YtofjifhnkcghpaaDoor
