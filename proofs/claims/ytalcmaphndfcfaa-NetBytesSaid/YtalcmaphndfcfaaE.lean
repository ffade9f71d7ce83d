/- The connection of a side. -/
import Derived.Test.YtalcmaphndfcfaaD
namespace Go.Proofs.Ytalcmaphndfcfaa
open Go.RowKit Go.Maps
set_option linter.unusedVariables false
set_option linter.unusedSimpArgs false

def askR (p : Value) (e : Int) : Ending := .returned (.tuple #[p, .int .i64 e])

theorem ask18_nil (w : World) (x s : Int) : Calls Try.prog 18 #[.pointer none, .int .i64 x, .int .i64 s] w fun e w' => e = askR (.pointer none) 1 ∧ w = w' := by
  unfold askR
  go_enter Try.func18, Try.ntmps18
  go_wp2_with fail
  go_ret2
  exact ⟨rfl, rfl⟩

theorem NetAt.look {F : Nat → Prop} {w : World} {bn : Nat} {made : Int} {L : List Cn} (h : NetAt F w bn made L) {x : Int} (hx : (Lit.int .i64 x).wf = true) :
    ∃ mv, w.cell? ⟨bn, 1, none⟩ = some mv ∧ (Instr.lookup 53 mv (.int .i64 x) false).run Try.prog w = .ok (pv ((findC L x).map (·.blk))) w := by
  obtain ⟨-, mv, h1, h2⟩ := h
  exact ⟨mv, Blk.cell h1 1, h2.look hx⟩
theorem NetAt.cells {F : Nat → Prop} {w : World} {bn : Nat} {made : Int} {L : List Cn} (h : NetAt F w bn made L) {x : Int} {c : Cn} (hc : findC L x = some c) : Blk w c.blk 64 c.cells := by
  obtain ⟨-, mv, h1, h2⟩ := h
  exact (h2.blk c (findC_mem hc).1).2

/-- no such connection, or no such side -/
theorem ask18_none {F : Nat → Prop} {w : World} {bn : Nat} {made : Int} {L : List Cn} (h : NetAt F w bn made L) (x s : Int) (hx : (Lit.int .i64 x).wf = true) (hc : findC L x = none ∨ s < 0 ∨ 1 < s) :
    Calls Try.prog 18 #[.pointer (some ⟨bn, 0, none⟩), .int .i64 x, .int .i64 s] w fun e w' => e = askR (.pointer none) 14 ∧ w = w' := by
  obtain ⟨mv, n1, hl⟩ := h.look hx
  unfold askR
  cases hcc : findC L x with
  | none =>
    rw [hcc] at hl
    have hl2 : (Instr.lookup 53 mv (.int .i64 x) false).run Try.prog w = .ok (.pointer none) w := hl
    clear hl hc hcc h
    go_enter Try.func18, Try.ntmps18
    go_wp2_with fail
    go_ret2
    exact ⟨rfl, rfl⟩
  | some c =>
    rw [hcc] at hl hc
    have hl2 : (Instr.lookup 53 mv (.int .i64 x) false).run Try.prog w = .ok (.pointer (some ⟨c.blk, 0, none⟩)) w := hl
    clear hl h
    rcases hc with hc | hc | hc
    · cases hc
    · have d0 : decide (s < 0) = true := by simpa using hc
      clear hcc
      go_enter Try.func18, Try.ntmps18
      go_wp2_with fail
      go_ret2
      exact ⟨rfl, rfl⟩
    · have d0 : decide (s < 0) = false := by simp; omega
      have d1 : decide (1 < s) = true := by simpa using hc
      clear hcc
      go_enter Try.func18, Try.ntmps18
      go_wp2_with fail
      go_ret2
      exact ⟨rfl, rfl⟩

/-- a connection that is not cut -/
theorem ask18_ok {F : Nat → Prop} {w : World} {bn : Nat} {made : Int} {L : List Cn} {c : Cn} (h : NetAt F w bn made L) (x s : Int) (hx : (Lit.int .i64 x).wf = true) (hc : findC L x = some c) (hs : s = 0 ∨ s = 1) (hcut : c.cut = false) :
    Calls Try.prog 18 #[.pointer (some ⟨bn, 0, none⟩), .int .i64 x, .int .i64 s] w fun e w' => e = askR (.pointer (some ⟨c.blk, 0, none⟩)) 0 ∧ w = w' := by
  obtain ⟨mv, n1, hl⟩ := h.look hx
  unfold askR
  rw [hc] at hl
  have hl2 : (Instr.lookup 53 mv (.int .i64 x) false).run Try.prog w = .ok (.pointer (some ⟨c.blk, 0, none⟩)) w := hl
  have c8 : w.cell? ⟨c.blk, 8, none⟩ = some (.bool c.cut) := Blk.cell (h.cells hc) 8
  rw [hcut] at c8
  clear hl h hc hcut
  have d0 : decide (s < 0) = false := by simp; omega
  have d1 : decide (1 < s) = false := by simp; omega
  clear hs
  go_enter Try.func18, Try.ntmps18
  go_wp2_with fail
  go_ret2
  exact ⟨rfl, rfl⟩

/-- the side was told -/
def Cn.tell (c : Cn) (s : Int) : Cn := if s = 0 then { c with to0 := true } else { c with to1 := true }

theorem NetAt.set {F : Nat → Prop} {w w' : World} {bn : Nat} {made : Int} {L : List Cn} (h : NetAt F w bn made L) {x : Int} {c c' : Cn} (hc : findC L x = some c) (hn : c'.num = c.num) (hb : c'.blk = c.blk) (hbl : Blk w' c.blk 64 c'.cells)
    (ht : Turn (fun k => k = c.blk) w w') (hf : c'.th0.size + c'.un0.size ≤ 65536 ∧ c'.th1.size + c'.un1.size ≤ 65536) : NetAt F w' bn made (updC L c') ∧ Turn F w w' ∧ findC (updC L c') x = some c' := by
  obtain ⟨h0, mv, h1, h2⟩ := h
  obtain ⟨hm, hx⟩ := findC_mem hc
  refine ⟨⟨h0, mv, Blk.turn h1 ht (fun e => h2.ne h1 hm e.symm), h2.set hm hn hb hbl ht hf⟩, ht.one (h2.blk c hm).1, ?_⟩
  rw [find_upd, if_pos (by rw [hn, hx]), hc]
  rfl
theorem NetAt.fits {F : Nat → Prop} {w : World} {bn : Nat} {made : Int} {L : List Cn} (h : NetAt F w bn made L) {x : Int} {c : Cn} (hc : findC L x = some c) : c.th0.size + c.un0.size ≤ 65536 ∧ c.th1.size + c.un1.size ≤ 65536 := by
  obtain ⟨-, mv, h1, h2⟩ := h
  exact h2.fits c (findC_mem hc).1
theorem Turn.cell (w : World) (b j : Nat) (u : Value) : Turn (fun k => k = b) w (w.setCell ⟨b, j, none⟩ u) := (Turn.refl (fun k => k = b) w).setCell (p := ⟨b, j, none⟩) rfl u

theorem ask18_cut {F : Nat → Prop} {w : World} {bn : Nat} {made : Int} {L : List Cn} {c : Cn} (h : NetAt F w bn made L) (x s : Int) (hx : (Lit.int .i64 x).wf = true) (hc : findC L x = some c) (hs : s = 0 ∨ s = 1) (hcut : c.cut = true) :
    Calls Try.prog 18 #[.pointer (some ⟨bn, 0, none⟩), .int .i64 x, .int .i64 s] w fun e w' => e = askR (.pointer none) 17 ∧ NetAt F w' bn made (leaveC (updC L (c.tell s)) (c.tell s)) ∧ Turn F w w' := by
  obtain ⟨mv, n1, hl⟩ := h.look hx
  unfold askR
  rw [hc] at hl
  have hl2 : (Instr.lookup 53 mv (.int .i64 x) false).run Try.prog w = .ok (.pointer (some ⟨c.blk, 0, none⟩)) w := hl
  have hbl := h.cells hc
  have c8 : w.cell? ⟨c.blk, 8, none⟩ = some (.bool c.cut) := Blk.cell hbl 8
  rw [hcut] at c8
  have c3 : w.cell? ⟨c.blk, 3, none⟩ = some (.bool c.to0) := Blk.cell hbl 3
  have c7 : w.cell? ⟨c.blk, 7, none⟩ = some (.bool c.to1) := Blk.cell hbl 7
  have f3 := Blk.free hbl 3
  have f7 := Blk.free hbl 7
  clear hl hcut
  have H := Lib.hid h
  have Hc := Lib.hid hc
  have Hb := Lib.hid hbl
  have hf := h.fits hc
  have Hf := Lib.hid hf
  clear h hc hbl hx hf
  rcases hs with rfl | rfl
  · have d : (c.tell 0).num = c.num ∧ (c.tell 0).blk = c.blk ∧ (c.tell 0).cells = c.cells.setIfInBounds 3 (.bool true) ∧ (c.tell 0).th0.size + (c.tell 0).un0.size ≤ 65536 ∧ (c.tell 0).th1.size + (c.tell 0).un1.size ≤ 65536 := ⟨rfl, rfl, rfl, Hf.out⟩
    have D := Lib.hid d
    clear d
    go_enter Try.func18, Try.ntmps18
    go_wp2_with fail
    obtain ⟨hN, hT, hF⟩ := H.out.set (c' := c.tell 0) (w' := w.setCell ⟨c.blk, 3, none⟩ (.bool true)) Hc.out D.out.1 D.out.2.1 (by rw [D.out.2.2.1]; exact Blk.set Hb.out 3 _) (Turn.cell _ _ _ _) D.out.2.2.2
    refine (leave22 hN x hF).mono ?_
    rintro e w1 ⟨rfl, hN1, hT1⟩
    have HR := Lib.hid (And.intro hN1 (hT.trans hT1))
    clear hN hT hF hN1 hT1
    go_wp2_with fail
    go_ret2
    exact ⟨rfl, HR.out⟩
  · have d : (c.tell 1).num = c.num ∧ (c.tell 1).blk = c.blk ∧ (c.tell 1).cells = c.cells.setIfInBounds 7 (.bool true) ∧ (c.tell 1).th0.size + (c.tell 1).un0.size ≤ 65536 ∧ (c.tell 1).th1.size + (c.tell 1).un1.size ≤ 65536 := ⟨rfl, rfl, rfl, Hf.out⟩
    have D := Lib.hid d
    clear d
    go_enter Try.func18, Try.ntmps18
    go_wp2_with fail
    obtain ⟨hN, hT, hF⟩ := H.out.set (c' := c.tell 1) (w' := w.setCell ⟨c.blk, 7, none⟩ (.bool true)) Hc.out D.out.1 D.out.2.1 (by rw [D.out.2.2.1]; exact Blk.set Hb.out 7 _) (Turn.cell _ _ _ _) D.out.2.2.2
    refine (leave22 hN x hF).mono ?_
    rintro e w1 ⟨rfl, hN1, hT1⟩
    have HR := Lib.hid (And.intro hN1 (hT.trans hT1))
    clear hN hT hF hN1 hT1
    go_wp2_with fail
    go_ret2
    exact ⟨rfl, HR.out⟩
end Go.Proofs.Ytalcmaphndfcfaa
