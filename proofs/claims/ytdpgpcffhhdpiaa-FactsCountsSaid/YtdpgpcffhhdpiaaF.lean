/- A store of facts: may a fact be (right); Check's search for one that may not. -/
import Derived.Test.YtdpgpcffhhdpiaaE
namespace Go.Proofs.Ytdpgpcffhhdpiaa
open Go.RowKit Go.Maps
set_option linter.unusedVariables false
set_option linter.unusedSimpArgs false

/-- facts that can be read -/
def RowF (B : Nat) (w : World) (v : Value) (l : List FactT) : Prop :=
  ∃ ps : List (Value × Value), ps.length = l.length ∧ RowR 2 (fun p => [p.1, p.2]) B w v ps ∧ ∀ (k : Nat) (f : FactT) (p : Value × Value), l[k]? = some f → ps[k]? = some p → RowS B w p.1 f.dims ∧ RowI B w p.2 f.meas
theorem RowF.mono {B B' : Nat} {w w' : World} {v : Value} {l : List FactT} (h : RowF B w v l) (hb : Below B w w') (hB : B ≤ B') : RowF B' w' v l := by
  obtain ⟨ps, h1, h2, h3⟩ := h
  exact ⟨ps, h1, h2.mono hb hB, fun k f p hf hp => ⟨RowS.mono (h3 k f p hf hp).1 hb hB, RowI.mono (h3 k f p hf hp).2 hb hB⟩⟩

theorem info41 : (Try.prog.info? 41).map (·.size) = some 2 := by kernel_rfl
/-- may a fact be? -/
def rightF (d m : Nat) (f : FactT) : Bool := decide (f.dims.length = d) && decide (f.meas.length = m) && !(f.dims.any fun s => decide (64 < s.size))
def shortF (f : FactT) : Prop := (∀ s ∈ f.dims, s.size ≤ 9223372036854775807)
section
variable {F : Nat → Prop} {B : Nat} {w : World} {d m ng : Nat} {L : Nat → List ByteArray} {okD okM : Nat → Nat → Prop} {T : Nat → Nat → ByteArray} {Y : Nat → Nat → Int} {ends : List Nat}
set_option maxRecDepth 100000 in
set_option maxHeartbeats 8000000 in
theorem right33 (h : Core F B w d m L ng okD okM T Y ends) (f : FactT) (vd vm : Value) (A : Nat) (hA : A ≤ w.heap.size) (hd : RowS A w vd f.dims) (hm : RowI A w vm f.meas) (hs : shortF f) :
    Calls Try.prog 33 #[ptrV B, .agg #[vd, vm]] w fun e w' => e = .returned (.bool (rightF d m f)) ∧ Below w.heap.size w w' := by
  obtain ⟨ds, ms⟩ := f
  obtain ⟨ad, cd, hvd, -, hmd, -⟩ := hd.open
  obtain ⟨am, cm, hvm, -, hmm, -⟩ := hm.open
  simp only at hvd hvm hmd hmm
  have hBl := Below.al (Below.refl w.heap.size w) (Obj.cells #[vd, vm] 41)
  have hb := Blk.new w 41 #[vd, vm]
  have hC := h.below hBl
  have hd1 := RowS.mono hd (hBl.mono hA) (Nat.le_refl _)
  obtain ⟨w1, hw1⟩ : ∃ w1, w1 = w.alloc (Obj.cells #[vd, vm] 41) := ⟨_, rfl⟩
  rw [← hw1] at hBl hb hC hd1
  have HCN := Lib.hid (fun n => contains37 A vd ds (w1.drewN n) (RowS.mono hd1 (Below.drewN (Below.refl A w1) n) (Nat.le_refl _)) hs)
  obtain ⟨⟨vD, vS, vE, dl, gs, Fs⟩, hq⟩ := hC
  have hdd := hq.hd
  have hmm' := hq.hm
  obtain ⟨aD, cD, hvD⟩ := owns_form hq.dO
  simp only at hvD
  subst hvD hvd hvm
  have c0 : w1.cell? ⟨w.heap.size, 0, none⟩ = some (.slice ad ds.length cd) := Blk.cell hb 0
  have c1 : w1.cell? ⟨w.heap.size, 1, none⟩ = some (.slice am ms.length cm) := Blk.cell hb 1
  have b0 : w1.cell? ⟨B, 0, none⟩ = some (.slice aD d cD) := Blk.cell hq.blk 0
  have b1 : w1.cell? ⟨B, 1, none⟩ = some (.int .i64 (m : Int)) := Blk.cell hq.blk 1
  have HB := Lib.hid hBl
  unfold ptrV rightF
  simp only
  clear hq h hd hm hd1 hBl hb
  by_cases e1 : ds.length = d
  · have t1 : ((ds.length : Int) == d) = true := by simp [e1]
    have u1 : decide (ds.length = d) = true := decide_eq_true e1
    rw [u1]
    clear u1 e1
    by_cases e2 : ms.length = m
    · have t2 : ((ms.length : Int) == m) = true := by simp [e2]
      have u2 : decide (ms.length = m) = true := decide_eq_true e2
      rw [u2]
      clear u2 e2
      generalize (ds.any fun s => decide (64 < s.size)) = bb at *
      go_enter Try.func33, Try.ntmps33
      go_upto_region 1 with fail
      rw [← hw1]
      clear hw1
      go_quiet ((go_at_call 37; exact quietL (HCN.out _)))
      go_wp2_with fail
      go_ret
      exact ⟨by first | rfl | (cases bb <;> rfl), Below.drewN HB.out _⟩
    · have t2 : ((ms.length : Int) == m) = false := by rw [beq_eq_false_iff_ne]; omega
      have u2 : decide (ms.length = m) = false := decide_eq_false e2
      rw [u2]
      clear u2 e2
      go_enter Try.func33, Try.ntmps33
      go_upto_region 1 with fail
      rw [← hw1]
      clear hw1
      go_quiet (fail)
      go_wp2_with fail
      go_ret
      exact ⟨rfl, Below.drewN HB.out _⟩
  · have t1 : ((ds.length : Int) == d) = false := by rw [beq_eq_false_iff_ne]; omega
    have u1 : decide (ds.length = d) = false := decide_eq_false e1
    rw [u1]
    clear u1 e1
    go_enter Try.func33, Try.ntmps33
    go_upto_region 1 with fail
    rw [← hw1]
    clear hw1
    go_quiet (fail)
    go_wp2_with fail
    go_ret
    exact ⟨rfl, Below.drewN HB.out _⟩
end
end Go.Proofs.Ytdpgpcffhhdpiaa
