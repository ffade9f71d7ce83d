/- Numbers as bytes, the lowest first: little, Num. -/
import Derived.Test.YtocanbdpdnkapaaD
import Derived.Test.YtocanbdpdnkapaaBase16
namespace Go.Proofs.Ytocanbdpdnkapaa
open Go.RowKit
set_option linter.unusedVariables false
set_option linter.unusedSimpArgs false

def leTo (n size k : Nat) : List UInt8 := (List.range size).map fun i => if i < k then UInt8.ofNat (n / 256 ^ i) else 0
def leB (n size : Nat) : List UInt8 := (List.range size).map fun i => UInt8.ofNat (n / 256 ^ i)
def leS (n size : Nat) : ByteArray := ⟨(leB n size).toArray⟩
theorem leTo_len (n size k : Nat) : (leTo n size k).length = size := by simp [leTo]
theorem leTo_zero (n size : Nat) : leTo n size 0 = zeroB size := by
  apply List.ext_getElem
  · simp [leTo, zeroB]
  · intro i h1 h2; simp [leTo, zeroB]
theorem leTo_all (n size : Nat) : leTo n size size = leB n size := by
  apply List.ext_getElem
  · simp [leTo, leB]
  · intro i h1 h2
    have : i < size := by simpa [leTo] using h1
    simp [leTo, leB, this]
theorem leTo_step (n size k : Nat) : (leTo n size k).set k (UInt8.ofNat (n / 256 ^ k)) = leTo n size (k + 1) := by
  apply List.ext_getElem
  · simp [leTo]
  · intro i h1 h2
    rw [List.getElem_set]
    simp only [leTo, List.getElem_map, List.getElem_range]
    by_cases e : k = i
    · subst e; simp
    · rw [if_neg e]
      by_cases hi : i < k
      · rw [if_pos hi, if_pos (by omega)]
      · rw [if_neg hi, if_neg (by omega)]
theorem byteV_set (l : List UInt8) (k : Nat) (b : UInt8) : (byteV l).toArray.setIfInBounds k (.int .u8 (b.toNat : Int)) = (byteV (l.set k b)).toArray := by simp [byteV, List.map_set]
theorem byteV_at (l : List UInt8) (k : Nat) (h : k < l.length) : (byteV l).toArray[k]? = some (.int .u8 ((l.getD k 0).toNat : Int)) := by simp [byteV, List.getD_eq_getElem?_getD, h]
theorem pow256 (k : Nat) : (2 : Int) ^ (8 * k) = ((256 ^ k : Nat) : Int) := by
  have e : (2 : Int) ^ (8 * k) = ((2 ^ (8 * k) : Nat) : Int) := by simp
  rw [e, Nat.pow_mul]
theorem le_val (n k : Nat) : (n : Int) / 2 ^ (8 * k) % 256 = (((UInt8.ofNat (n / 256 ^ k)).toNat : Nat) : Int) := by
  rw [pow256, UInt8.toNat_ofNat', ← Int.natCast_ediv]
  show ((n / 256 ^ k : Nat) : Int) % ((256 : Nat) : Int) = _
  rw [← Int.natCast_emod]
theorem info5 : (Try.prog.info? 5).map (fun i => (i.zero, i.size, i.bytes)) = some (some (.int .u8 0), 1, 1) := by kernel_rfl

theorem below_set {B : Nat} {a w : World} (h : Below B a w) {b : Nat} (hb : B ≤ b) (i : Nat) (u : Value) : Below B a (w.setCell ⟨b, i, none⟩ u) :=
  h.trans ⟨rfl, rfl, rfl, by simp [World.setCell], fun k hk => Below.heap_setCell w ⟨b, i, none⟩ u k (by show k ≠ b; omega)⟩
theorem owns_form {w : World} {base : Nat} {e : TypeId} {size : Nat} {v : Value} {n : Nat} {xs : List Value} (h : w.ownsRow base e size v n xs) : ∃ a c, v = .slice a n c := by
  rcases h.2 with ⟨rfl, rfl⟩ | ⟨g, cap, cur, rfl, _⟩
  · exact ⟨none, 0, rfl⟩
  · exact ⟨_, cap, rfl⟩

set_option maxRecDepth 100000 in
set_option maxHeartbeats 4000000 in
theorem little38 (n size : Nat) (w : World) (hn : n < 18446744073709551616) (hs : size ≤ 8) :
    Calls Try.prog 38 #[.int .u64 (n : Int), .int .i64 (size : Int)] w fun e w' => e = .returned (.string (leS n size)) ∧ Below w.heap.size w w' := by
  obtain ⟨i0, hi, hz0, hz1, hz2⟩ := info_parts info5
  have hmk : ∀ u : World, (Instr.makeSlice 49 (.int .i64 (size : Int)) (.int .i64 (size : Int))).run Try.prog u =
      .ok (.slice (some ⟨u.heap.size, 0, none⟩) size size) (u.alloc (.cells (byteV (zeroB size)).toArray 5)) := fun u => by
    have h := run_make (P := Try.prog) u 49 5 i0 (.int .u8 0) Try.underlying49 hi hz0 .i64 .i64 (size : Int) (size : Int) (by omega) (Int.le_refl _) (by rw [hz2]; omega) (by omega)
    rw [Int.toNat_natCast, hz1, Nat.mul_one] at h
    rw [← made_zero]
    exact h
  go_enter Try.func38, Try.ntmps38
  go_wp2_with fail
  rw [← leTo_zero n size]
  go_loopw [11] (fun i wr => ∃ k : Nat, k ≤ size ∧ i = .int .i64 k ∧ Blk wr w.heap.size 5 (byteV (leTo n size k)).toArray ∧ Below w.heap.size w wr) (fun i _ => size - (intOf i).toNat)
  case atStart => exact ⟨0, by omega, rfl, Blk.new _ _ _, Below.al (Below.refl _ _) _⟩
  case round =>
    obtain ⟨k, hk, rfl, hB, hbel⟩ := hrel
    by_cases hlt : k < size
    · have hkI : (k : Int) < size := by omega
      have cb : wr.cell? ⟨w.heap.size, k, none⟩ = some (.int .u8 (((leTo n size k).getD k 0).toNat : Int)) := (Blk.cell hB k).trans (byteV_at _ k (by rw [leTo_len]; exact hlt))
      have fb : wr.frozen? ⟨w.heap.size, k, none⟩ = false := Blk.free hB k
      have HB := Lib.hid hB
      have HBEL := Lib.hid hbel
      clear hB hbel
      have hset := Blk.set HB.out k (.int .u8 ((UInt8.ofNat (n / 256 ^ k)).toNat : Int))
      rw [byteV_set, leTo_step] at hset
      have HSET := Lib.hid hset
      have HV := Lib.hid (le_val n k)
      clear hset
      go_wp2_with fail
      go_roundw
      case rel => exact ⟨k + 1, by omega, by go_num, by rw [HV.out]; exact HSET.out, by exact below_set HBEL.out (Nat.le_refl _) _ _⟩
      case measure => simp [intOf]; omega
    · obtain rfl : k = size := by omega
      rw [leTo_all] at hB
      have hcv := run_conv_own (dst := 9) Try.underlying49 Try.underlying5 Try.underlying9 (owns_bytes (n := k) (base := w.heap.size) hB (by simp [leB]) (by unfold maxLen; omega) (Nat.le_refl _))
      have HBEL := Lib.hid hbel
      have HS := Lib.hid (show (⟨(leB n k).toArray⟩ : ByteArray) = leS n k from rfl)
      clear hB hbel
      go_wp2_with fail
      go_ret
      exact ⟨congrArg (fun s => Ending.returned (.string s)) HS.out, HBEL.out⟩

def numTo (n k : Nat) : List UInt8 := leB n k
theorem leB_step (n k : Nat) : byteV (leB n (k + 1)) = byteV (leB n k) ++ [.int .u8 (((n / 256 ^ k : Nat) : Int) % 256)] := by
  have e : ((n / 256 ^ k : Nat) : Int) % 256 = (((UInt8.ofNat (n / 256 ^ k)).toNat : Nat) : Int) := by
    rw [UInt8.toNat_ofNat']
    show ((n / 256 ^ k : Nat) : Int) % ((256 : Nat) : Int) = _
    rw [← Int.natCast_emod]
  rw [e]
  simp [leB, byteV, List.range_succ]
theorem leB_len (n k : Nat) : (leB n k).length = k := by simp [leB]

set_option maxRecDepth 100000 in
set_option maxHeartbeats 4000000 in
theorem num39 (n size : Nat) (w : World) (hn : n < 18446744073709551616) (hs : size ≤ 8) :
    Calls Try.prog 39 #[.int .u64 (n : Int), .int .i64 (size : Int)] w fun e w' => e = .returned (.string (leS n size)) ∧ Below w.heap.size w w' := by
  obtain ⟨i0, hi, hz0, hz1, hz2⟩ := info_parts info5
  go_enter Try.func39, Try.ntmps39
  go_wp2_with fail
  go_loopw [0, 5, 6] (fun x v i wr => ∃ k : Nat, k ≤ size ∧ i = .int .i64 k ∧ x = .int .u64 ((n / 256 ^ k : Nat) : Int) ∧ wr.ownsRow w.heap.size 5 1 v k (byteV (leB n k)) ∧ Below w.heap.size w wr) (fun _ _ i _ => size - (intOf i).toNat)
  case atStart => exact ⟨0, by omega, rfl, by simp, World.ownsRow_nil _ _ _ _, Below.refl _ _⟩
  case round =>
    obtain ⟨k, hk, rfl, rfl, hown, hB⟩ := hrel
    obtain ⟨an, kn, rfl⟩ := owns_form hown
    have HH := Lib.hid (And.intro hown hB)
    have hsz := hB.size
    clear hown hB
    by_cases hlt : k < size
    · have hst := leB_step n k
      have hdv : n / 256 ^ (k + 1) = n / 256 ^ k / 256 := by rw [Nat.pow_succ, Nat.div_div_eq_div_mul]
      have hle : n / 256 ^ k ≤ n := Nat.div_le_self _ _
      obtain ⟨x, hx⟩ : ∃ x, n / 256 ^ k = x := ⟨_, rfl⟩
      rw [hx] at hst hdv hle ⊢
      have hxb : (x : Int) < 18446744073709551616 := by omega
      have HST := Lib.hid (And.intro hst hdv)
      clear hst hdv hx
      have hkI : (k : Int) < size := by omega
      go_wp2_with (at_builtin; refine wpList_append_own _ rfl _ _ 49 rfl w.heap.size 5 i0 (.int .u8 0) 1 1 Try.underlying49 hi hz0 hz1 hz2 rfl (by decide) _ _ _ rfl (HH.out.1.alloc _) ⟨wr.heap.size, 0, none⟩ 1 1 [.int .u8 ((x : Int) % 256)] rfl rfl (cell_one_new' _ _ _) (by intro u hu; simp at hu; subst hu; rfl) (by unfold maxLen; omega) (by omega) (by simp; omega) ?_; intro v' w2 hown' hgrow _)
      have hB' := Below.appended HH.out.2 hsz HH.out.1 _ hgrow
      go_roundw
      case rel => exact ⟨k + 1, by omega, by go_num, by rw [HST.out.2]; rfl, by rw [HST.out.1]; exact hown', hB'⟩
      case measure => simp [intOf]; omega
    · obtain rfl : k = size := by omega
      have hcv := run_conv_own (dst := 9) Try.underlying49 Try.underlying5 Try.underlying9 HH.out.1
      have hkI : decide ((k : Int) < k) = false := by simp
      go_wp2_with fail
      go_ret
      exact ⟨rfl, HH.out.2⟩
end Go.Proofs.Ytocanbdpdnkapaa
