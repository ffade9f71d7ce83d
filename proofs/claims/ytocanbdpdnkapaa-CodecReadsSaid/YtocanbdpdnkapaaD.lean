/- Sum by a table. -/
import Derived.Test.YtocanbdpdnkapaaC
import Derived.Deep.DeepCutAuto
namespace Go.Proofs.Ytocanbdpdnkapaa
open Go.RowKit
set_option linter.unusedVariables false
set_option linter.unusedSimpArgs false

theorem notC (z : Nat) (h : z < 4294967296) : bits .xor .u32 IntKind.u32.max (z : Int) = ((z ^^^ 4294967295 : Nat) : Int) := by
  have e := u32_xor_nat 4294967295 z (by omega) h
  rw [Nat.xor_comm] at e
  exact e

set_option maxRecDepth 100000 in
set_option maxHeartbeats 4000000 in
theorem sum13_done (B : Nat) (s : ByteArray) (w : World) (hs : s.size ≤ 140737488351232) (hB : Blk w B 38 (tc 1 0 (tabTo 256))) :
    Calls Try.prog 13 #[.pointer (some ⟨B, 0, none⟩), .string s] w fun e w' => e = .returned (.int .u32 (crc s : Nat)) ∧ Blk w' B 38 (tc 1 0 (tabTo 256)) ∧ Only B w w' := by
  have hlt0 := hB.lt
  have hB1 := hB.alloc (Obj.cells #[.pointer (some ⟨B, 0, none⟩)] 23)
  have hp1 := Blk.new w 23 #[.pointer (some ⟨B, 0, none⟩)]
  have hBl := Only.of_below (b := B) (Below.al (Below.refl w.heap.size w) (Obj.cells #[.pointer (some ⟨B, 0, none⟩)] 23))
  obtain ⟨w0, hw0⟩ : ∃ w0, w0 = w.alloc (Obj.cells #[.pointer (some ⟨B, 0, none⟩)] 23) := ⟨_, rfl⟩
  rw [← hw0] at hB1 hp1 hBl
  have HD := Lib.hid (do36_done B w.heap.size _ w0 hB1)
  have HP1 := Lib.hid hp1
  have HBL := Lib.hid hBl
  have HB0 := Lib.hid hB1
  have cp0 : w0.cell? ⟨w.heap.size, 0, none⟩ = some (.pointer (some ⟨B, 0, none⟩)) := Blk.cell hp1 0
  clear hB hB1 hp1 hBl
  go_enter Try.func13, Try.ntmps13
  go_upto_region 1 with fail
  rw [← hw0]
  clear hw0
  go_wp2_with fail
  refine HD.out.mono ?_
  rintro e w1 ⟨rfl, rfl⟩
  have HB1 := Lib.hid HB0.out
  have HON := Lib.hid HBL.out
  have cp := cp0
  clear cp0
  go_wp2_with fail
  go_loopw [5, 16] (fun c i wr => ∃ k n : Nat, k ≤ s.size ∧ i = .int .i64 k ∧ c = .int .u32 (crcTo s k : Nat) ∧ wr = w0.drewN n) (fun _ i _ => s.size - (intOf i).toNat)
  case atStart => exact ⟨0, 0, by omega, rfl, rfl, rfl⟩
  case round =>
    obtain ⟨k, n, hk, rfl, rfl, rfl⟩ := hrel
    have hc := crcTo_lt s k
    by_cases hlt : k < s.size
    · have hst := crcTo_step s k hlt
      rw [byteC_tab] at hst
      have hb := byte_lt s[k]
      obtain ⟨c, hce⟩ : ∃ c, crcTo s k = c := ⟨_, rfl⟩
      rw [hce] at hst hc ⊢
      have hm : IntKind.u8.wrap (c : Int) = ((c % 256 : Nat) : Int) := by rw [IntKind.wrap_u8]; omega
      have hml : c % 256 < 256 := Nat.mod_lt _ (by omega)
      obtain ⟨m, hme⟩ : ∃ m, c % 256 = m := ⟨_, rfl⟩
      rw [hme] at hst hm hml
      have hx := u8_xor_nat m s[k].toNat hml hb
      have hxl : m ^^^ s[k].toNat < 256 := Nat.xor_lt_two_pow (n := 8) hml hb
      obtain ⟨x, hxe⟩ : ∃ x, m ^^^ s[k].toNat = x := ⟨_, rfl⟩
      rw [hxe] at hst hx hxl
      have ct : w0.cell? ⟨B, 3 + x, none⟩ = some (.int .u32 (tabC x : Nat)) := by
        rw [Blk.cell HB1.out (3 + x), tc_at _ _ _ x (by rw [tabTo_len]; exact hxl), tabTo_at x hxl]
      have htl := tabC_lt hxl
      obtain ⟨t, hte⟩ : ∃ t, tabC x = t := ⟨_, rfl⟩
      rw [hte] at hst ct htl
      have hz : bits .xor .u32 (t : Int) ((c : Int) / 256) = ((t ^^^ c / 256 : Nat) : Int) := u32_xor_nat t (c / 256) htl (by omega)
      obtain ⟨z, hze⟩ : ∃ z, t ^^^ c / 256 = z := ⟨_, rfl⟩
      rw [hze] at hst hz
      have HST := Lib.hid hst
      have hx0 : (0 : Int) ≤ x := by omega
      have hx256 : (x : Int) < 256 := by omega
      have hk0 : (0 : Int) ≤ k := by omega
      have hkl : (k : Int) < s.size := by omega
      clear hst hce hme hxe hte hze hb hml hxl htl
      go_wp2_with fail
      go_quiet (fail)
      go_wp2_with fail
      go_roundw
      case rel => exact ⟨k + 1, _, by omega, by go_num, by rw [HST.out], rfl⟩
      case measure => simp [intOf]; omega
    · obtain rfl : k = s.size := by omega
      have hn := notC (crcTo s s.size) hc
      have HN := Lib.hid hn
      clear hn
      go_wp2_with fail
      go_ret
      exact ⟨congrArg (fun x => Ending.returned (.int .u32 x)) HN.out, Blk.drewN HB1.out n, HON.out.drewN n⟩

set_option maxRecDepth 100000 in
set_option maxHeartbeats 4000000 in
theorem sum13_first (B : Nat) (s : ByteArray) (w : World) (hs : s.size ≤ 140737488351232) (hB : Blk w B 38 (tc 0 0 (tabTo 0))) :
    Calls Try.prog 13 #[.pointer (some ⟨B, 0, none⟩), .string s] w fun e w' => e = .returned (.int .u32 (crc s : Nat)) ∧ Blk w' B 38 (tc 1 0 (tabTo 256)) ∧ Only B w w' := by
  have hlt0 := hB.lt
  have hB1 := hB.alloc (Obj.cells #[.pointer (some ⟨B, 0, none⟩)] 23)
  have hp1 := Blk.new w 23 #[.pointer (some ⟨B, 0, none⟩)]
  have hBl := Only.of_below (b := B) (Below.al (Below.refl w.heap.size w) (Obj.cells #[.pointer (some ⟨B, 0, none⟩)] 23))
  obtain ⟨w0, hw0⟩ : ∃ w0, w0 = w.alloc (Obj.cells #[.pointer (some ⟨B, 0, none⟩)] 23) := ⟨_, rfl⟩
  rw [← hw0] at hB1 hp1 hBl
  have HD := Lib.hid (do36_first B w.heap.size w0 hp1 hB1 (by omega))
  have HP1 := Lib.hid hp1
  have HBL := Lib.hid hBl
  have HB0 := Lib.hid hB1
  have cp0 : w0.cell? ⟨w.heap.size, 0, none⟩ = some (.pointer (some ⟨B, 0, none⟩)) := Blk.cell hp1 0
  clear hB hB1 hp1 hBl
  go_enter Try.func13, Try.ntmps13
  go_upto_region 1 with fail
  rw [← hw0]
  clear hw0
  go_wp2_with fail
  refine HD.out.mono ?_
  rintro e w1 ⟨rfl, hB1, hO1⟩
  have HB1 := Lib.hid hB1
  have HON := Lib.hid (HBL.out.trans hO1)
  have cp : w1.cell? ⟨w.heap.size, 0, none⟩ = some (.pointer (some ⟨B, 0, none⟩)) := Blk.cell (hO1.blk HP1.out (by omega)) 0
  clear hB1 hO1 cp0
  go_wp2_with fail
  go_loopw [5, 16] (fun c i wr => ∃ k n : Nat, k ≤ s.size ∧ i = .int .i64 k ∧ c = .int .u32 (crcTo s k : Nat) ∧ wr = w1.drewN n) (fun _ i _ => s.size - (intOf i).toNat)
  case atStart => exact ⟨0, 0, by omega, rfl, rfl, rfl⟩
  case round =>
    obtain ⟨k, n, hk, rfl, rfl, rfl⟩ := hrel
    have hc := crcTo_lt s k
    by_cases hlt : k < s.size
    · have hst := crcTo_step s k hlt
      rw [byteC_tab] at hst
      have hb := byte_lt s[k]
      obtain ⟨c, hce⟩ : ∃ c, crcTo s k = c := ⟨_, rfl⟩
      rw [hce] at hst hc ⊢
      have hm : IntKind.u8.wrap (c : Int) = ((c % 256 : Nat) : Int) := by rw [IntKind.wrap_u8]; omega
      have hml : c % 256 < 256 := Nat.mod_lt _ (by omega)
      obtain ⟨m, hme⟩ : ∃ m, c % 256 = m := ⟨_, rfl⟩
      rw [hme] at hst hm hml
      have hx := u8_xor_nat m s[k].toNat hml hb
      have hxl : m ^^^ s[k].toNat < 256 := Nat.xor_lt_two_pow (n := 8) hml hb
      obtain ⟨x, hxe⟩ : ∃ x, m ^^^ s[k].toNat = x := ⟨_, rfl⟩
      rw [hxe] at hst hx hxl
      have ct : w1.cell? ⟨B, 3 + x, none⟩ = some (.int .u32 (tabC x : Nat)) := by
        rw [Blk.cell HB1.out (3 + x), tc_at _ _ _ x (by rw [tabTo_len]; exact hxl), tabTo_at x hxl]
      have htl := tabC_lt hxl
      obtain ⟨t, hte⟩ : ∃ t, tabC x = t := ⟨_, rfl⟩
      rw [hte] at hst ct htl
      have hz : bits .xor .u32 (t : Int) ((c : Int) / 256) = ((t ^^^ c / 256 : Nat) : Int) := u32_xor_nat t (c / 256) htl (by omega)
      obtain ⟨z, hze⟩ : ∃ z, t ^^^ c / 256 = z := ⟨_, rfl⟩
      rw [hze] at hst hz
      have HST := Lib.hid hst
      have hx0 : (0 : Int) ≤ x := by omega
      have hx256 : (x : Int) < 256 := by omega
      have hk0 : (0 : Int) ≤ k := by omega
      have hkl : (k : Int) < s.size := by omega
      clear hst hce hme hxe hte hze hb hml hxl htl
      go_wp2_with fail
      go_quiet (fail)
      go_wp2_with fail
      go_roundw
      case rel => exact ⟨k + 1, _, by omega, by go_num, by rw [HST.out], rfl⟩
      case measure => simp [intOf]; omega
    · obtain rfl : k = s.size := by omega
      have hn := notC (crcTo s s.size) hc
      have HN := Lib.hid hn
      clear hn
      go_wp2_with fail
      go_ret
      exact ⟨congrArg (fun x => Ending.returned (.int .u32 x)) HN.out, Blk.drewN HB1.out n, HON.out.drewN n⟩

theorem sum13_nil (s : ByteArray) (w : World) : Calls Try.prog 13 #[.pointer none, .string s] w fun e w' => e = .returned (.int .u32 0) ∧ Below w.heap.size w w' := by
  go_enter Try.func13, Try.ntmps13
  go_wp2_with fail
  go_ret
  exact ⟨rfl, Below.al (Below.refl _ _) _⟩

theorem zero38 : Try.zeroCells38 = tc 0 0 (tabTo 0) := by kernel_rfl
set_option maxRecDepth 100000 in
theorem sum12 (s : ByteArray) (w : World) (hs : s.size ≤ 140737488351232) : Calls Try.prog 12 #[.string s] w fun e w' => e = .returned (.int .u32 (crc s : Nat)) ∧ Below w.heap.size w w' := by
  go_enter Try.func12, Try.ntmps12
  have hb : Blk (w.alloc (Obj.cells Try.zeroCells38 38)) w.heap.size 38 (tc 0 0 (tabTo 0)) := by rw [zero38]; exact Blk.new _ _ _
  have HS := Lib.hid (sum13_first w.heap.size s (w.alloc (Obj.cells Try.zeroCells38 38)) hs hb)
  clear hb
  go_wp2_with fail
  refine HS.out.mono ?_
  rintro e w1 ⟨rfl, -, hO⟩
  have hfin := (Below.al (Below.refl w.heap.size w) (Obj.cells Try.zeroCells38 38)).trans (hO.below (Nat.le_refl _) (by simp))
  have HF := Lib.hid hfin
  clear hfin hO
  go_wp2_with fail
  go_ret
  exact ⟨rfl, HF.out⟩
end Go.Proofs.Ytocanbdpdnkapaa
