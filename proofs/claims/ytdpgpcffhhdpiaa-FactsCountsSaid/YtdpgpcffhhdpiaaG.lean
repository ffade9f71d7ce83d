/- A store of facts: Check's search for a fact that may not be. -/
import Derived.Test.YtdpgpcffhhdpiaaF
namespace Go.Proofs.Ytdpgpcffhhdpiaa
open Go.RowKit Go.Maps
set_option linter.unusedVariables false
set_option linter.unusedSimpArgs false

section
variable {F : Nat → Prop} {B : Nat} {w : World} {d m ng : Nat} {L : Nat → List ByteArray} {okD okM : Nat → Nat → Prop} {T : Nat → Nat → ByteArray} {Y : Nat → Nat → Int} {ends : List Nat}
theorem wrong32 (h : Core F B w d m L ng okD okM T Y ends) (x : Nat) (hx : Blk w x 24 #[ptrV B]) (f : FactT) (vd vm : Value) (A : Nat) (hA : A ≤ w.heap.size) (hd : RowS A w vd f.dims) (hm : RowI A w vm f.meas) (hs : shortF f) :
    Calls Try.prog 32 #[.agg #[vd, vm], .pointer (some ⟨x, 0, none⟩)] w fun e w' => e = .returned (.bool (!(rightF d m f))) ∧ Below w.heap.size w w' := by
  have hBl := Below.al (Below.refl w.heap.size w) (Obj.cells #[vd, vm] 41)
  have hb := Blk.new w 41 #[vd, vm]
  have hC := h.below hBl
  have hd1 := RowS.mono hd (hBl.mono hA) (Nat.le_refl _)
  have hm1 := RowI.mono hm (hBl.mono hA) (Nat.le_refl _)
  have hx1 := hx.alloc (Obj.cells #[vd, vm] 41)
  obtain ⟨ad, cd, hvd, -⟩ := hd.open
  obtain ⟨am, cm, hvm, -⟩ := hm.open
  obtain ⟨w1, hw1⟩ : ∃ w1, w1 = w.alloc (Obj.cells #[vd, vm] 41) := ⟨_, rfl⟩
  rw [← hw1] at hBl hb hC hd1 hm1 hx1
  have HR := Lib.hid (right33 hC f vd vm A (Nat.le_trans hA hBl.size) hd1 hm1 hs)
  generalize f.dims.length = nd at hvd
  generalize f.meas.length = nm at hvm
  subst hvd hvm
  have c0 : w1.cell? ⟨x, 0, none⟩ = some (.pointer (some ⟨B, 0, none⟩)) := Blk.cell hx1 0
  have c1 := Blk.cell hb 0
  have c2 := Blk.cell hb 1
  have HBK := Lib.hid hb
  generalize rightF d m f = bb at *
  unfold ptrV at HR
  have HB := Lib.hid hBl
  clear h hC hd hm hd1 hm1 hx hx1 hBl hb
  go_enter Try.func32, Try.ntmps32
  go_upto_region 1 with fail
  rw [← hw1]
  clear hw1
  go_wp2_with (first | (refine wpList_load_at rfl 41 _ rfl w.heap.size 0 rfl #[.slice ad nd cd, .slice am nm cm] _ (fun j hj => by rw [Nat.zero_add]; exact Blk.cell HBK.out j) Try.underlying41 rfl info41 ?_))
  refine HR.out.mono ?_
  rintro e w2 ⟨rfl, hB2⟩
  have HB2 := Lib.hid (Below.call HB.out hB2)
  clear hB2
  go_wp2_with fail
  go_ret
  exact ⟨rfl, HB2.out⟩
set_option maxRecDepth 100000 in
set_option maxHeartbeats 8000000 in
theorem index36 (h : Core F B w d m L ng okD okM T Y ends) (x : Nat) (hx : Blk w x 24 #[ptrV B]) (A : Nat) (hA : A ≤ w.heap.size) (v : Value) (l : List FactT) (hr : RowF A w v l) (hl : ∀ f ∈ l, shortF f) :
    Calls Try.prog 36 #[v, .func (Fn.func 32) #[] #[.pointer (some ⟨x, 0, none⟩)]] w fun e w' => e = .returned (.int .i64 (firstI (fun f => !(rightF d m f)) l)) ∧ Below w.heap.size w w' := by
  obtain ⟨ps, hps, ⟨a, cap, rfl, hcap, hmax, hc⟩, hel⟩ := hr
  rw [hps] at hcap hc ⊢
  have HC := Lib.hid hc
  have HEL := Lib.hid hel
  have HL := Lib.hid hl
  have HPS := Lib.hid hps
  have HCR := Lib.hid (fun w' (hB' : Below w.heap.size w w') => And.intro (h.below hB') (Blk.below hx hB' hx.lt))
  clear hc hel hl hps h hx
  go_enter Try.func36, Try.ntmps36
  go_wp2_with fail
  go_loopw [8, 5] (fun i j wr => ∃ k : Nat, k ≤ l.length ∧ i = .int .i64 k ∧ Below w.heap.size w wr ∧ ∀ n f, n < k → l[n]? = some f → rightF d m f = true) (fun i _ _ => l.length - (intOf i).toNat)
  case atStart => exact ⟨0, by omega, rfl, Below.refl _ _, fun n s h => by omega⟩
  case round =>
    obtain ⟨k, hk, rfl, hB, hno⟩ := hrel
    by_cases hlt : k < l.length
    · obtain ⟨g, off, rfl, hg, hcell⟩ := HC.out (by omega)
      have hps := HPS.out
      obtain ⟨⟨vd, vm⟩, hget⟩ : ∃ p, ps[k]? = some p := ⟨_, List.getElem?_eq_getElem (by omega)⟩
      obtain ⟨f, hgetf⟩ : ∃ p, l[k]? = some p := ⟨_, List.getElem?_eq_getElem hlt⟩
      have x0 : wr.cell? ⟨g, off + k * 2 + 0, none⟩ = some vd := (Below.cell hB (p := ⟨g, off + k * 2 + 0, none⟩) (by show g < _; omega)).trans (hcell k _ hget 0 (by omega))
      have x1 : wr.cell? ⟨g, off + k * 2 + 1, none⟩ = some vm := (Below.cell hB (p := ⟨g, off + k * 2 + 1, none⟩) (by show g < _; omega)).trans (hcell k _ hget 1 (by omega))
      obtain ⟨hd, hm⟩ := HEL.out k f _ hgetf hget
      have hcr := HCR.out wr hB
      have HR := Lib.hid (wrong32 hcr.1 x hcr.2 f vd vm A (Nat.le_trans hA hB.size) (RowS.mono hd (hB.mono hA) (Nat.le_refl _)) (RowI.mono hm (hB.mono hA) (Nat.le_refl _)) (HL.out f (List.mem_of_getElem? hgetf)))
      have HX := Lib.hid (And.intro x0 x1)
      have HNO := Lib.hid (And.intro hno hgetf)
      have HB := Lib.hid hB
      have hkI : decide ((k : Int) < l.length) = true := decide_eq_true (by omega)
      clear hcell hcr hd hm hno hB hget hgetf hps x0 x1
      by_cases hs : rightF d m f = true
      · rw [hs] at HR
        go_wp2_with (refine wpList_load_at rfl 41 _ rfl g (off + k * 2) rfl #[vd, vm] _ (fun j hj => by match j, hj with | 0, _ => exact HX.out.1 | 1, _ => exact HX.out.2) Try.underlying41 rfl info41 ?_)
        refine HR.out.mono ?_
        rintro e w2 ⟨rfl, hB2⟩
        have HB2 := Lib.hid (Below.call HB.out hB2)
        clear hB2
        go_wp2_with fail
        go_roundw
        case rel => exact ⟨k + 1, by omega, by go_num, HB2.out, fun n t hn ht => by
          by_cases hnk : n = k
          · subst hnk; rw [HNO.out.2] at ht; cases ht; exact hs
          · exact HNO.out.1 n t (by omega) ht⟩
        case measure => simp [intOf]; omega
      · have hs : rightF d m f = false := by simpa using hs
        rw [hs] at HR
        have HRR := Lib.hid (show firstI (fun f => !(rightF d m f)) l = (k : Int) by
          unfold firstI
          have : l.findIdx? (fun f => !(rightF d m f)) = some k := by
            rw [List.findIdx?_eq_some_iff_getElem]
            obtain ⟨h1, h2⟩ := List.getElem?_eq_some_iff.1 HNO.out.2
            exact ⟨h1, by rw [h2, hs]; rfl, fun n hn => by simpa using HNO.out.1 n _ hn (List.getElem?_eq_getElem (by omega))⟩
          rw [this])
        clear hs
        go_wp2_with (refine wpList_load_at rfl 41 _ rfl g (off + k * 2) rfl #[vd, vm] _ (fun j hj => by match j, hj with | 0, _ => exact HX.out.1 | 1, _ => exact HX.out.2) Try.underlying41 rfl info41 ?_)
        refine HR.out.mono ?_
        rintro e w2 ⟨rfl, hB2⟩
        have HB2 := Lib.hid (Below.call HB.out hB2)
        clear hB2
        go_wp2_with fail
        go_ret
        exact ⟨by rw [HRR.out]; rfl, HB2.out⟩
    · obtain rfl : k = l.length := by omega
      have hkI : decide ((l.length : Int) < l.length) = false := by simp
      have HR := Lib.hid (show firstI (fun f => !(rightF d m f)) l = -1 by
        unfold firstI
        have : l.findIdx? (fun f => !(rightF d m f)) = none := by
          rw [List.findIdx?_eq_none_iff]
          intro x hx
          obtain ⟨n, hn⟩ := List.mem_iff_getElem?.1 hx
          rw [hno n x (List.getElem?_eq_some_iff.1 hn).1 hn]; rfl
        rw [this])
      have HB := Lib.hid hB
      clear hno hB HC HL
      go_wp2_with fail
      go_ret
      exact ⟨by rw [HR.out]; rfl, HB.out⟩
theorem contains31 (h : Core F B w d m L ng okD okM T Y ends) (x : Nat) (hx : Blk w x 24 #[ptrV B]) (A : Nat) (hA : A ≤ w.heap.size) (v : Value) (l : List FactT) (hr : RowF A w v l) (hl : ∀ f ∈ l, shortF f) :
    Calls Try.prog 31 #[v, .func (Fn.func 32) #[] #[.pointer (some ⟨x, 0, none⟩)]] w fun e w' => e = .returned (.bool (l.any fun f => !(rightF d m f))) ∧ Below w.heap.size w w' := by
  have HI := Lib.hid (index36 h x hx A hA v l hr hl)
  rw [← firstI_any]
  generalize firstI (fun f => !(rightF d m f)) l = z at *
  clear hr hl h hx
  go_enter Try.func31, Try.ntmps31
  go_wp2_with fail
  refine HI.out.mono ?_
  rintro e w' ⟨rfl, hB⟩
  have HB := Lib.hid hB
  clear hB
  go_wp2_with fail
  go_ret
  exact ⟨by simp, HB.out⟩
end
end Go.Proofs.Ytdpgpcffhhdpiaa
