/- Shutting, cutting; what waits; a new net; a new connection. -/
import Derived.Test.YtalcmaphndfcfaaH
namespace Go.Proofs.Ytalcmaphndfcfaa
open Go.RowKit Go.Maps
set_option linter.unusedVariables false
set_option linter.unusedSimpArgs false

theorem info64 : (Try.prog.info? 64).map (·.size) = some 9 := by kernel_rfl
def e0 : ByteArray := ⟨#[]⟩
def cutCells : Array Value := #[.string e0, .string e0, .bool false, .bool false, .string e0, .string e0, .bool false, .bool false, .bool true]

theorem newCut23 (w : World) : Calls Try.prog 23 #[] w fun e w' => e = .returned (.agg cutCells) ∧ Turn (fun _ => False) w w' := by
  go_enter Try.func23, Try.ntmps23
  go_wp2_with (refine wpList_store_row rfl 64 _ _ rfl w.heap.size cutCells rfl rfl 64 _ (Blk.newAt _ _ _ rfl) info64 rfl (by simp [cutCells, Value.oneCell']) ?_)
  refine bodyPost_ret (results_cell_row rfl _ _ w.heap.size 64 _ (0, 0) _ rfl (Blk.setRow (Blk.newAt _ _ _ rfl)) Try.underlying64 rfl info64) rfl ?_
  refine ⟨rfl, rfl, rfl, rfl, by simp [World.setRow], fun k hk _ => (setRow_other _ _ k _ (by omega)).trans (Below.heap_alloc _ _ _ hk)⟩

section
variable {F : Nat → Prop} {w : World} {bn : Nat} {made : Int} {L : List Cn} {c : Cn}

theorem cut13_none (h : NetAt F w bn made L) (x : Int) (hx : (Lit.int .i64 x).wf = true) (hc : findC L x = none) :
    Calls Try.prog 13 #[.pointer (some ⟨bn, 0, none⟩), .int .i64 x] w fun e w' => e = .returned (.int .i64 14) ∧ w = w' := by
  obtain ⟨mv, n1, hl⟩ := h.look hx
  rw [hc] at hl
  have hl2 : (Instr.lookup 53 mv (.int .i64 x) false).run Try.prog w = .ok (.pointer none) w := hl
  clear hl hc h
  go_enter Try.func13, Try.ntmps13
  go_wp2_with fail
  go_ret
  exact ⟨rfl, rfl⟩
theorem cut13_twice (h : NetAt F w bn made L) (x : Int) (hx : (Lit.int .i64 x).wf = true) (hc : findC L x = some c) (hcut : c.cut = true) :
    Calls Try.prog 13 #[.pointer (some ⟨bn, 0, none⟩), .int .i64 x] w fun e w' => e = .returned (.int .i64 17) ∧ w = w' := by
  obtain ⟨mv, n1, hl⟩ := h.look hx
  rw [hc] at hl
  have hl2 : (Instr.lookup 53 mv (.int .i64 x) false).run Try.prog w = .ok (.pointer (some ⟨c.blk, 0, none⟩)) w := hl
  have c8 : w.cell? ⟨c.blk, 8, none⟩ = some (.bool c.cut) := Blk.cell (h.cells hc) 8
  rw [hcut] at c8
  clear hl hc h hcut
  go_enter Try.func13, Try.ntmps13
  go_wp2_with fail
  go_ret
  exact ⟨rfl, rfl⟩
/-- a connection that is cut -/
def Cn.cutOff (c : Cn) : Cn := ⟨c.num, c.blk, e0, e0, false, false, e0, e0, false, false, true⟩
theorem cut13_ok (h : NetAt F w bn made L) (x : Int) (hx : (Lit.int .i64 x).wf = true) (hc : findC L x = some c) (hcut : c.cut = false) :
    Calls Try.prog 13 #[.pointer (some ⟨bn, 0, none⟩), .int .i64 x] w fun e w' => e = .returned (.int .i64 0) ∧ NetAt F w' bn made (updC L c.cutOff) ∧ Turn F w w' := by
  obtain ⟨mv, n1, hl⟩ := h.look hx
  rw [hc] at hl
  have hl2 : (Instr.lookup 53 mv (.int .i64 x) false).run Try.prog w = .ok (.pointer (some ⟨c.blk, 0, none⟩)) w := hl
  have hb := h.cells hc
  have c8 : w.cell? ⟨c.blk, 8, none⟩ = some (.bool c.cut) := Blk.cell hb 8
  rw [hcut] at c8
  have H := Lib.hid h
  have Hc := Lib.hid hc
  have Hb := Lib.hid hb
  clear hl hc h hcut hb
  go_enter Try.func13, Try.ntmps13
  go_wp2_with fail
  refine (newCut23 w).mono ?_
  rintro e w1 ⟨rfl, hT⟩
  have hT2 : Turn F w w1 := hT.mono (fun k _ h => h.elim)
  have hN := H.out.turn hT (fun _ _ h => h)
  have hB := Blk.turn Hb.out hT (fun h => h)
  go_wp2_with (refine wpList_store_row rfl 64 _ _ rfl c.blk cutCells rfl rfl 64 _ hB info64 rfl (by simp [cutCells, Value.oneCell']) ?_)
  go_ret
  obtain ⟨hN2, hT3, -⟩ := hN.set (w' := w1.setRow c.blk cutCells) (c' := c.cutOff) Hc.out rfl rfl (Blk.setRow hB) ((Turn.refl (fun k => k = c.blk) w1).setRow rfl _) ⟨by show 0 + 0 ≤ 65536; omega, by show 0 + 0 ≤ 65536; omega⟩
  exact ⟨rfl, hN2, hT2.trans hT3⟩

theorem waits15_none (h : NetAt F w bn made L) (x s : Int) (hx : (Lit.int .i64 x).wf = true) (hc : findC L x = none ∨ s < 0 ∨ 1 < s) :
    Calls Try.prog 15 #[.pointer (some ⟨bn, 0, none⟩), .int .i64 x, .int .i64 s] w fun e w' => e = .returned (.tuple #[.int .i64 0, .int .i64 0]) ∧ w = w' := by
  obtain ⟨mv, n1, hl⟩ := h.look hx
  cases hcc : findC L x with
  | none =>
    rw [hcc] at hl
    have hl2 : (Instr.lookup 53 mv (.int .i64 x) false).run Try.prog w = .ok (.pointer none) w := hl
    clear hl hc hcc h
    go_enter Try.func15, Try.ntmps15
    go_wp2_with fail
    go_ret2
    exact ⟨rfl, rfl⟩
  | some c =>
    rw [hcc] at hl hc
    have hl2 : (Instr.lookup 53 mv (.int .i64 x) false).run Try.prog w = .ok (.pointer (some ⟨c.blk, 0, none⟩)) w := hl
    clear hl h
    rcases hc with hc | hc | hc
    · cases hc
    · have d0 : decide (s < 0) = true := by simpa using hc
      clear hcc
      go_enter Try.func15, Try.ntmps15
      go_wp2_with fail
      go_ret2
      exact ⟨rfl, rfl⟩
    · have d0 : decide (s < 0) = false := by simp; omega
      have d1 : decide (1 < s) = true := by simpa using hc
      clear hcc
      go_enter Try.func15, Try.ntmps15
      go_wp2_with fail
      go_ret2
      exact ⟨rfl, rfl⟩

theorem NetAt.mono {G : Nat → Prop} (h : NetAt F w bn made L) (hG : ∀ k, k < w.heap.size → F k → G k) : NetAt G w bn made L := by
  obtain ⟨h0, mv, h1, h2⟩ := h
  refine ⟨hG _ h1.lt h0, mv, h1, ?_⟩
  obtain ⟨h3, h4, h5, h6, h7⟩ := h2
  refine ⟨?_, h4, fun c hc => ⟨hG _ (h5 c hc).2.lt (h5 c hc).1, (h5 c hc).2⟩, h6, h7⟩
  rcases h3 with h3 | ⟨bm, e, hF, hp⟩
  · exact .inl h3
  · exact .inr ⟨bm, e, hG _ hp.lt hF, hp⟩

theorem shut14_twice0 (h : NetAt F w bn made L) (x : Int) (hx : (Lit.int .i64 x).wf = true) (hc : findC L x = some c) (hcut : c.cut = false) (hsh : c.sh1 = true) :
    Calls Try.prog 14 #[.pointer (some ⟨bn, 0, none⟩), .int .i64 x, .int .i64 0] w fun e w' => e = .returned (.int .i64 16) ∧ w = w' := by
  have ha := ask18_ok h x 0 hx hc (by decide) hcut
  have hb := h.cells hc
  unfold askR at ha
  have HC := Lib.hid ha
  have c6 : w.cell? ⟨c.blk, 4 + 2, none⟩ = some (.bool c.sh1) := Blk.cell hb (4 + 2)
  rw [hsh] at c6
  clear ha h hx hcut hc hb hsh
  go_enter Try.func14, Try.ntmps14
  go_wp2_with (go_at_call 18; refine HC.out.mono ?_; rintro e w1 ⟨rfl, rfl⟩)
  go_ret
  exact ⟨rfl, rfl⟩

theorem shut14_ok0 (h : NetAt F w bn made L) (x : Int) (hx : (Lit.int .i64 x).wf = true) (hc : findC L x = some c) (hcut : c.cut = false) (hsh : c.sh1 = false) :
    Calls Try.prog 14 #[.pointer (some ⟨bn, 0, none⟩), .int .i64 x, .int .i64 0] w fun e w' => e = .returned (.int .i64 0) ∧
      NetAt F w' bn made (leaveC (updC L (c.setSh 1)) (c.setSh 1)) ∧ Turn F w w' := by
  have ha := ask18_ok h x 0 hx hc (by decide) hcut
  have hb := h.cells hc
  have hf := h.fits hc
  unfold askR at ha
  have HC := Lib.hid ha
  have c6 : w.cell? ⟨c.blk, 4 + 2, none⟩ = some (.bool c.sh1) := Blk.cell hb (4 + 2)
  have f6 : w.frozen? ⟨c.blk, 4 + 2, none⟩ = false := Blk.free hb (4 + 2)
  rw [hsh] at c6
  obtain ⟨hN2, hT2, hF2⟩ := h.set (w' := w.setCell ⟨c.blk, 4 + 2, none⟩ (.bool true)) (c' := c.setSh 1) hc rfl rfl
    (Blk.set hb (4 + 2) _) (Turn.cell w c.blk (4 + 2) _) hf
  have hl := (leave22 hN2 x hF2).mono (fun e w' h => And.intro h.1 (And.intro h.2.1 (hT2.trans h.2.2)))
  have HL := Lib.hid hl
  clear ha h hx hcut hc hb hf hsh hN2 hT2 hF2 hl
  go_enter Try.func14, Try.ntmps14
  go_wp2_with (go_at_call 18; refine HC.out.mono ?_; rintro e w1 ⟨rfl, rfl⟩)
  refine HL.out.mono ?_
  rintro e w2 ⟨rfl, hR⟩
  have HR := Lib.hid hR
  clear hR
  go_wp2_with fail
  go_ret
  exact ⟨rfl, HR.out⟩

theorem waits15_ok0 (h : NetAt F w bn made L) (x : Int) (hx : (Lit.int .i64 x).wf = true) (hc : findC L x = some c) :
    Calls Try.prog 15 #[.pointer (some ⟨bn, 0, none⟩), .int .i64 x, .int .i64 0] w fun e w' => e = .returned (.tuple #[.int .i64 (c.un0.size : Nat), .int .i64 (c.th0.size : Nat)]) ∧ ∃ n, w' = w.drewN n := by
  obtain ⟨mv, n1, hl⟩ := h.look hx
  rw [hc] at hl
  have hl2 : (Instr.lookup 53 mv (.int .i64 x) false).run Try.prog w = .ok (.pointer (some ⟨c.blk, 0, none⟩)) w := hl
  have hb := h.cells hc
  have c4 : w.cell? ⟨c.blk, 0, none⟩ = some (.string c.th0) := Blk.cell hb (0)
  have c5 : w.cell? ⟨c.blk, 1, none⟩ = some (.string c.un0) := Blk.cell hb (1)
  clear hl hc h hb
  go_enter Try.func15, Try.ntmps15
  go_wp2_with fail
  go_quiet ((go_at_call 19; first | (refine quietL (size19 (x := c.th0) ?_); rw [World.cell?_drewN]; with_reducible exact c4) | (refine quietL (size19 (x := c.un0) ?_); rw [World.cell?_drewN]; with_reducible exact c5)))
  go_wp2_with fail
  go_ret2
  exact ⟨rfl, _, rfl⟩

theorem shut14_twice1 (h : NetAt F w bn made L) (x : Int) (hx : (Lit.int .i64 x).wf = true) (hc : findC L x = some c) (hcut : c.cut = false) (hsh : c.sh0 = true) :
    Calls Try.prog 14 #[.pointer (some ⟨bn, 0, none⟩), .int .i64 x, .int .i64 1] w fun e w' => e = .returned (.int .i64 16) ∧ w = w' := by
  have ha := ask18_ok h x 1 hx hc (by decide) hcut
  have hb := h.cells hc
  unfold askR at ha
  have HC := Lib.hid ha
  have c6 : w.cell? ⟨c.blk, 2, none⟩ = some (.bool c.sh0) := Blk.cell hb (2)
  rw [hsh] at c6
  clear ha h hx hcut hc hb hsh
  go_enter Try.func14, Try.ntmps14
  go_wp2_with (go_at_call 18; refine HC.out.mono ?_; rintro e w1 ⟨rfl, rfl⟩)
  go_ret
  exact ⟨rfl, rfl⟩

theorem shut14_ok1 (h : NetAt F w bn made L) (x : Int) (hx : (Lit.int .i64 x).wf = true) (hc : findC L x = some c) (hcut : c.cut = false) (hsh : c.sh0 = false) :
    Calls Try.prog 14 #[.pointer (some ⟨bn, 0, none⟩), .int .i64 x, .int .i64 1] w fun e w' => e = .returned (.int .i64 0) ∧
      NetAt F w' bn made (leaveC (updC L (c.setSh 0)) (c.setSh 0)) ∧ Turn F w w' := by
  have ha := ask18_ok h x 1 hx hc (by decide) hcut
  have hb := h.cells hc
  have hf := h.fits hc
  unfold askR at ha
  have HC := Lib.hid ha
  have c6 : w.cell? ⟨c.blk, 2, none⟩ = some (.bool c.sh0) := Blk.cell hb (2)
  have f6 : w.frozen? ⟨c.blk, 2, none⟩ = false := Blk.free hb (2)
  rw [hsh] at c6
  obtain ⟨hN2, hT2, hF2⟩ := h.set (w' := w.setCell ⟨c.blk, 2, none⟩ (.bool true)) (c' := c.setSh 0) hc rfl rfl
    (Blk.set hb (2) _) (Turn.cell w c.blk (2) _) hf
  have hl := (leave22 hN2 x hF2).mono (fun e w' h => And.intro h.1 (And.intro h.2.1 (hT2.trans h.2.2)))
  have HL := Lib.hid hl
  clear ha h hx hcut hc hb hf hsh hN2 hT2 hF2 hl
  go_enter Try.func14, Try.ntmps14
  go_wp2_with (go_at_call 18; refine HC.out.mono ?_; rintro e w1 ⟨rfl, rfl⟩)
  refine HL.out.mono ?_
  rintro e w2 ⟨rfl, hR⟩
  have HR := Lib.hid hR
  clear hR
  go_wp2_with fail
  go_ret
  exact ⟨rfl, HR.out⟩

theorem waits15_ok1 (h : NetAt F w bn made L) (x : Int) (hx : (Lit.int .i64 x).wf = true) (hc : findC L x = some c) :
    Calls Try.prog 15 #[.pointer (some ⟨bn, 0, none⟩), .int .i64 x, .int .i64 1] w fun e w' => e = .returned (.tuple #[.int .i64 (c.un1.size : Nat), .int .i64 (c.th1.size : Nat)]) ∧ ∃ n, w' = w.drewN n := by
  obtain ⟨mv, n1, hl⟩ := h.look hx
  rw [hc] at hl
  have hl2 : (Instr.lookup 53 mv (.int .i64 x) false).run Try.prog w = .ok (.pointer (some ⟨c.blk, 0, none⟩)) w := hl
  have hb := h.cells hc
  have c4 : w.cell? ⟨c.blk, 4, none⟩ = some (.string c.th1) := Blk.cell hb (4)
  have c5 : w.cell? ⟨c.blk, 4 + 1, none⟩ = some (.string c.un1) := Blk.cell hb (4 + 1)
  clear hl hc h hb
  go_enter Try.func15, Try.ntmps15
  go_wp2_with fail
  go_quiet ((go_at_call 19; first | (refine quietL (size19 (x := c.th1) ?_); rw [World.cell?_drewN]; with_reducible exact c4) | (refine quietL (size19 (x := c.un1) ?_); rw [World.cell?_drewN]; with_reducible exact c5)))
  go_wp2_with fail
  go_ret2
  exact ⟨rfl, _, rfl⟩
end
end Go.Proofs.Ytalcmaphndfcfaa
