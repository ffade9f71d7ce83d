/- DictNil's walk. -/
import Derived.Test.YtiihnepfcgmghaaM
namespace Go.Proofs.Ytiihnepfcgmghaa
open Go.RowKit Go.Maps
set_option linter.unusedVariables false
set_option linter.unusedSimpArgs false
def bx : ByteArray := ⟨#[120]⟩
set_option maxRecDepth 100000 in
set_option maxHeartbeats 8000000 in
theorem law7 (s : ByteArray) (n : Int) (w : World) : Calls Try.prog 7 #[.string s, .int .i64 n] w fun e w' => e = .returned (.bool true) ∧ Below w.heap.size w w' := by
  have HP := Lib.hid (put10_nil s (w.alloc (Obj.cells #[.slice none 0 0, .map none, .pointer none] 57)))
  have HF := Lib.hid (find15_nil s (w.alloc (Obj.cells #[.slice none 0 0, .map none, .pointer none] 57)))
  have HT := Lib.hid (text16_nil n (w.alloc (Obj.cells #[.slice none 0 0, .map none, .pointer none] 57)))
  have HR := Lib.hid (rank17_nil n (w.alloc (Obj.cells #[.slice none 0 0, .map none, .pointer none] 57)))
  have HX := Lib.hid ((DF.new w).put_new bx (by decide) rfl (by decide))
  unfold ptrV bx at HX
  go_enter Try.func7, Try.ntmps7
  go_wp2_with fail
  generalize w.alloc (Obj.cells #[.slice none 0 0, .map none, .pointer none] 57) = w1 at *
  refine HP.out.mono ?_
  rintro e w2 ⟨rfl, rfl⟩
  clear HP
  go_wp2_with fail
  refine HF.out.mono ?_
  rintro e w2 ⟨rfl, rfl⟩
  clear HF
  go_wp2_with fail
  refine HT.out.mono ?_
  rintro e w2 ⟨rfl, rfl⟩
  clear HT
  go_wp2_with fail
  refine HR.out.mono ?_
  rintro e w2 ⟨rfl, rfl⟩
  clear HR
  go_wp2_with fail
  refine HX.out.mono ?_
  rintro e w2 ⟨rfl, -, hx⟩
  have HD := Lib.hid hx.below
  clear hx
  clear HX
  have HA := Lib.hid (awake8 w2)
  go_wp2_with fail
  refine HA.out.mono ?_
  rintro e w3 ⟨rfl, hA⟩
  have HD2 := Lib.hid (Below.call HD.out hA)
  clear hA HD
  clear HA
  have HL := Lib.hid (len11_nil w3)
  have HS := Lib.hid (sorted12_nil w3)
  have HB := Lib.hid (between13_nil ⟨#[]⟩ s w3)
  go_wp2_with fail
  refine HL.out.mono ?_
  rintro e w4 ⟨rfl, rfl⟩
  clear HL
  go_wp2_with fail
  refine HS.out.mono ?_
  rintro e w4 ⟨rfl, rfl⟩
  clear HS
  go_wp2_with fail
  refine HB.out.mono ?_
  rintro e w4 ⟨rfl, hb⟩
  have HD3 := Lib.hid (Below.call HD2.out hb)
  clear hb HD2
  clear HB
  have HC := Lib.hid (copy20_nil w4)
  go_wp2_with fail
  refine HC.out.mono ?_
  rintro e w5 ⟨rfl, rfl⟩
  clear HC
  go_wp2_with fail
  go_ret
  exact ⟨rfl, HD3.out⟩
theorem nilLaw (s : ByteArray) (n : Int) (w : World) (hs : s.size ≤ 140737488351232) (hn : (Lit.int .i64 n).wf = true) :
    Calls Try.prog 7 #[.string s, .int .i64 n] w fun e w' => e = .returned (.bool true) ∧ Below w.heap.size w w' := law7 s n w
end Go.Proofs.Ytiihnepfcgmghaa
