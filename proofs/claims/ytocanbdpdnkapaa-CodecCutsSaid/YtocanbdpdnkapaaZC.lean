/- A reader that may be nil: Texts, numbers, Cells, Fact, Schema. -/
import Derived.Test.YtocanbdpdnkapaaZB
namespace Go.Proofs.Ytocanbdpdnkapaa
open Go.RowKit
set_option linter.unusedVariables false
set_option linter.unusedSimpArgs false

def nilX : RdS := ⟨emptyS, 1⟩
theorem nilX_e : (nilX.e == 0) = false := rfl
set_option maxHeartbeats 4000000 in
theorem sev85_nil (w : World) : Calls Try.prog 85 #[.pointer none, .int .i64 4, .func (Fn.func 35) #[.pointer none] #[]] w fun e w' => e = .returned (.slice none 0 0) ∧ KeepB none w w' := by
  have HT := Lib.hid (fun w => take75O none nilX 4 (by omega) w rfl)
  have HG := Lib.hid (fun w => good77O none nilX w rfl)
  have HN := Lib.hid (fun w => number40 emptyS w (by decide))
  rw [show deS emptyS = 0 from rfl] at HN
  rw [nilX_e] at HG
  go_enter Try.func85, Try.ntmps85
  go_wp2_with fail
  refine (HT.out w).mono ?_
  rintro e w1 ⟨rfl, -, h2⟩
  have H1 := Lib.hid h2
  clear h2
  rw [show (takeR nilX 4).1 = emptyS from rfl]
  go_wp2_with fail
  refine (HN.out w1).mono ?_
  rintro e w' ⟨rfl, rfl⟩
  go_wp2_with fail
  refine (HG.out w1).mono ?_
  rintro e w' ⟨rfl, rfl⟩
  go_wp2_with fail
  go_loopw [8, 9] (fun v i wr => v = .slice none 0 0 ∧ i = .int .i64 0 ∧ KeepB none w wr) (fun _ _ _ => 0)
  case atStart => exact ⟨rfl, rfl, H1.out⟩
  case round =>
    obtain ⟨rfl, rfl, hB⟩ := hrel
    have HB := Lib.hid hB
    have HG2 := Lib.hid (HG.out wr)
    clear hB
    go_wp2_with fail
    refine HG2.out.mono ?_
    rintro e w' ⟨rfl, rfl⟩
    go_wp2_with fail
    go_ret
    exact ⟨rfl, HB.out⟩
theorem sev85O (b : Option Nat) (x : RdS) (w : World) (hx : RdO b w x) :
    Calls Try.prog 85 #[wptr b, .int .i64 4, .func (Fn.func 35) #[wptr b] #[]] w fun e w' => ∃ v, e = .returned v ∧ RdO b w' (sevR textR 4 x).2 ∧ KeepB b w w' ∧ RowS w'.heap.size w' v (sevR textR 4 x).1 ∧ New w.heap.size v ∧ Typ 9 w' v := by
  cases b with
  | some B => exact sev85 B x w hx
  | none =>
    have hx : x = nilX := hx
    subst hx
    rw [show sevR textR 4 nilX = ([], nilX) from rfl]
    exact (sev85_nil w).mono fun e w' ⟨h1, h2⟩ => ⟨_, h1, rfl, h2, RowS.nil _ _, New.nil _, Typ.nil _ _⟩
set_option maxHeartbeats 4000000 in
theorem sev87_nil (w : World) : Calls Try.prog 87 #[.pointer none, .int .i64 8, .func (Fn.func 58) #[.pointer none] #[]] w fun e w' => e = .returned (.slice none 0 0) ∧ KeepB none w w' := by
  have HT := Lib.hid (fun w => take75O none nilX 4 (by omega) w rfl)
  have HG := Lib.hid (fun w => good77O none nilX w rfl)
  have HN := Lib.hid (fun w => number40 emptyS w (by decide))
  rw [show deS emptyS = 0 from rfl] at HN
  rw [nilX_e] at HG
  go_enter Try.func87, Try.ntmps87
  go_wp2_with fail
  refine (HT.out w).mono ?_
  rintro e w1 ⟨rfl, -, h2⟩
  have H1 := Lib.hid h2
  clear h2
  rw [show (takeR nilX 4).1 = emptyS from rfl]
  go_wp2_with fail
  refine (HN.out w1).mono ?_
  rintro e w' ⟨rfl, rfl⟩
  go_wp2_with fail
  refine (HG.out w1).mono ?_
  rintro e w' ⟨rfl, rfl⟩
  go_wp2_with fail
  go_loopw [8, 9] (fun v i wr => v = .slice none 0 0 ∧ i = .int .i64 0 ∧ KeepB none w wr) (fun _ _ _ => 0)
  case atStart => exact ⟨rfl, rfl, H1.out⟩
  case round =>
    obtain ⟨rfl, rfl, hB⟩ := hrel
    have HB := Lib.hid hB
    have HG2 := Lib.hid (HG.out wr)
    clear hB
    go_wp2_with fail
    refine HG2.out.mono ?_
    rintro e w' ⟨rfl, rfl⟩
    go_wp2_with fail
    go_ret
    exact ⟨rfl, HB.out⟩
theorem sev87O (b : Option Nat) (x : RdS) (w : World) (hx : RdO b w x) :
    Calls Try.prog 87 #[wptr b, .int .i64 8, .func (Fn.func 58) #[wptr b] #[]] w fun e w' => ∃ v, e = .returned v ∧ RdO b w' (sevR intRR 8 x).2 ∧ KeepB b w w' ∧ RowI w'.heap.size w' v (sevR intRR 8 x).1 ∧ New w.heap.size v ∧ Typ 2 w' v := by
  cases b with
  | some B => exact sev87 B x w hx
  | none =>
    have hx : x = nilX := hx
    subst hx
    rw [show sevR intRR 8 nilX = ([], nilX) from rfl]
    exact (sev87_nil w).mono fun e w' ⟨h1, h2⟩ => ⟨_, h1, rfl, h2, RowI.nil _ _, New.nil _, Typ.nil _ _⟩
set_option maxHeartbeats 4000000 in
theorem sev86_nil (w : World) : Calls Try.prog 86 #[.pointer none, .int .i64 1, .func (Fn.func 61) #[.pointer none] #[]] w fun e w' => e = .returned (.slice none 0 0) ∧ KeepB none w w' := by
  have HT := Lib.hid (fun w => take75O none nilX 4 (by omega) w rfl)
  have HG := Lib.hid (fun w => good77O none nilX w rfl)
  have HN := Lib.hid (fun w => number40 emptyS w (by decide))
  rw [show deS emptyS = 0 from rfl] at HN
  rw [nilX_e] at HG
  go_enter Try.func86, Try.ntmps86
  go_wp2_with fail
  refine (HT.out w).mono ?_
  rintro e w1 ⟨rfl, -, h2⟩
  have H1 := Lib.hid h2
  clear h2
  rw [show (takeR nilX 4).1 = emptyS from rfl]
  go_wp2_with fail
  refine (HN.out w1).mono ?_
  rintro e w' ⟨rfl, rfl⟩
  go_wp2_with fail
  refine (HG.out w1).mono ?_
  rintro e w' ⟨rfl, rfl⟩
  go_wp2_with fail
  go_loopw [8, 9] (fun v i wr => v = .slice none 0 0 ∧ i = .int .i64 0 ∧ KeepB none w wr) (fun _ _ _ => 0)
  case atStart => exact ⟨rfl, rfl, H1.out⟩
  case round =>
    obtain ⟨rfl, rfl, hB⟩ := hrel
    have HB := Lib.hid hB
    have HG2 := Lib.hid (HG.out wr)
    clear hB
    go_wp2_with fail
    refine HG2.out.mono ?_
    rintro e w' ⟨rfl, rfl⟩
    go_wp2_with fail
    go_ret
    exact ⟨rfl, HB.out⟩
theorem sev86O (b : Option Nat) (x : RdS) (w : World) (hx : RdO b w x) :
    Calls Try.prog 86 #[wptr b, .int .i64 1, .func (Fn.func 61) #[wptr b] #[]] w fun e w' => ∃ v, e = .returned v ∧ RdO b w' (sevR cellR 1 x).2 ∧ KeepB b w w' ∧ RowC w'.heap.size w' v (sevR cellR 1 x).1 ∧ New w.heap.size v ∧ Typ 92 w' v := by
  cases b with
  | some B => exact sev86 B x w hx
  | none =>
    have hx : x = nilX := hx
    subst hx
    rw [show sevR cellR 1 nilX = ([], nilX) from rfl]
    exact (sev86_nil w).mono fun e w' ⟨h1, h2⟩ => ⟨_, h1, rfl, h2, RowR.nil _ _ _ _, New.nil _, Typ.nil _ _⟩
theorem texts60O (b : Option Nat) (x : RdS) (w : World) (hx : RdO b w x) :
    Calls Try.prog 60 #[wptr b] w fun e w' => ∃ v, e = .returned v ∧ RdO b w' (sevR textR 4 x).2 ∧ KeepB b w w' ∧ RowS w'.heap.size w' v (sevR textR 4 x).1 ∧ New w.heap.size v ∧ Typ 9 w' v := by
  have HC := Lib.hid (sev85O b x w hx)
  clear hx
  go_enter Try.func60, Try.ntmps60
  go_wp2_with fail
  refine HC.out.mono ?_
  rintro e w1 ⟨v, rfl, h⟩
  have H := Lib.hid h
  clear h
  go_wp2_with fail
  go_ret
  exact ⟨v, rfl, H.out⟩
theorem cells62O (b : Option Nat) (x : RdS) (w : World) (hx : RdO b w x) :
    Calls Try.prog 62 #[wptr b] w fun e w' => ∃ v, e = .returned v ∧ RdO b w' (sevR cellR 1 x).2 ∧ KeepB b w w' ∧ RowC w'.heap.size w' v (sevR cellR 1 x).1 ∧ New w.heap.size v ∧ Typ 92 w' v := by
  have HC := Lib.hid (sev86O b x w hx)
  clear hx
  go_enter Try.func62, Try.ntmps62
  go_wp2_with fail
  refine HC.out.mono ?_
  rintro e w1 ⟨v, rfl, h⟩
  have H := Lib.hid h
  clear h
  go_wp2_with fail
  go_ret
  exact ⟨v, rfl, H.out⟩
end Go.Proofs.Ytocanbdpdnkapaa
