/- A store of facts: one fact (fact). -/
import Derived.Test.YtdpgpcffhhdpiaaK
import Derived.Deep.DeepCutAuto
import Derived.Deep.OwnRows
namespace Go.Proofs.Ytdpgpcffhhdpiaa
open Go.RowKit Go.Maps
set_option linter.unusedVariables false
set_option linter.unusedSimpArgs false

theorem made_rep (z : Value) (n : Nat) : madeCells #[z] n = (List.replicate n z).toArray := by
  apply Array.ext
  · simp [madeCells]
  · intro i h1 h2
    have e : ([z] : List Value)[i % 1]?.getD default = z := by rw [Nat.mod_one]; rfl
    simp [madeCells, e]
theorem info9e : (Try.prog.info? 9).map (fun i => (i.zero, i.size, i.bytes)) = some (some (.string ByteArray.empty), 1, 16) := by kernel_rfl
theorem info2 : (Try.prog.info? 2).map (fun i => (i.zero, i.size, i.bytes)) = some (some (.int .i64 0), 1, 8) := by kernel_rfl
theorem mk38 (d : Nat) (hd : d ≤ 6) (w : World) : (Instr.makeSlice 38 (.int .i64 (d : Int)) (.int .i64 (d : Int))).run Try.prog w = .ok (.slice (some ⟨w.heap.size, 0, none⟩) d d) (w.alloc (.cells (List.replicate d (Value.string ByteArray.empty)).toArray 9)) := by
  rw [← made_rep]
  exact run_make_row' 38 9 _ 16 Try.underlying38 info9e rfl .i64 .i64 d (by omega) (by omega) w
theorem mk39 (d : Nat) (hd : d ≤ 6) (w : World) : (Instr.makeSlice 39 (.int .i64 (d : Int)) (.int .i64 (d : Int))).run Try.prog w = .ok (.slice (some ⟨w.heap.size, 0, none⟩) d d) (w.alloc (.cells (List.replicate d (Value.int .i64 0)).toArray 2)) := by
  rw [← made_rep]
  exact run_make_row' 39 2 _ 8 Try.underlying39 info2 rfl .i64 .i64 d (by omega) (by omega) w
theorem wrap_nat {x : Nat} (h : x < 4294967296) : IntKind.i64.wrap (x : Int) = (x : Int) := by
  simp [IntKind.wrap, IntKind.bits, IntKind.signed]
  omega
theorem owns_full {w : World} {b base : Nat} {T : TypeId} {l : List Value} {n : Nat} (h : Blk w b T l.toArray) (hn : l.length = n) (hm : n ≤ maxLen) (hb : base ≤ b) : w.ownsRow base T 1 (.slice (some ⟨b, 0, none⟩) n n) n l := by
  subst hn
  exact ⟨by omega, .inr ⟨b, l.length, _, rfl, hb, h, Nat.le_refl _, hm, by simp, by rw [Nat.mul_one]; exact List.take_of_length_le (by simp)⟩⟩
/-- the texts below i, and none behind -/
def dimL (T : Nat → Nat → ByteArray) (p d i : Nat) : List Value := (List.range d).map (fun j => Value.string (if j < i then T j p else ByteArray.empty))
def meaL (Y : Nat → Nat → Int) (p d i : Nat) : List Value := (List.range d).map (fun j => Value.int .i64 (if j < i then Y j p else 0))
theorem dimL_set (T : Nat → Nat → ByteArray) (p d i : Nat) : (dimL T p d i).toArray.setIfInBounds i (.string (T i p)) = (dimL T p d (i + 1)).toArray := by
  unfold dimL
  rw [List.setIfInBounds_toArray]
  congr 1
  apply List.ext_getElem
  · simp
  · intro k h1 h2
    rw [List.getElem_set]
    by_cases hk : i = k
    · subst hk; simp
    · have : (k < i + 1) = (k < i) := by apply propext; omega
      simp [hk, this]
theorem meaL_set (Y : Nat → Nat → Int) (p d i : Nat) : (meaL Y p d i).toArray.setIfInBounds i (.int .i64 (Y i p)) = (meaL Y p d (i + 1)).toArray := by
  unfold meaL
  rw [List.setIfInBounds_toArray]
  congr 1
  apply List.ext_getElem
  · simp
  · intro k h1 h2
    rw [List.getElem_set]
    by_cases hk : i = k
    · subst hk; simp
    · have : (k < i + 1) = (k < i) := by apply propext; omega
      simp [hk, this]
theorem dimL_zero (T : Nat → Nat → ByteArray) (p d : Nat) : (List.replicate d (Value.string ByteArray.empty)).toArray = (dimL T p d 0).toArray := by
  unfold dimL
  congr 1
  apply List.ext_getElem
  · simp
  · intro i h1 h2
    simp
theorem meaL_zero (Y : Nat → Nat → Int) (p d : Nat) : (List.replicate d (Value.int .i64 0)).toArray = (meaL Y p d 0).toArray := by
  unfold meaL
  congr 1
  apply List.ext_getElem
  · simp
  · intro i h1 h2
    simp
theorem dimL_full (T : Nat → Nat → ByteArray) (p d : Nat) : dimL T p d d = ((List.range d).map (fun i => T i p)).map .string := by
  unfold dimL
  rw [List.map_map]
  refine List.map_congr_left (fun j hj => ?_)
  have := List.mem_range.1 hj
  simp [this]
theorem meaL_full (Y : Nat → Nat → Int) (p d : Nat) : meaL Y p d d = ((List.range d).map (fun i => Y i p)).map (.int .i64) := by
  unfold meaL
  rw [List.map_map]
  refine List.map_congr_left (fun j hj => ?_)
  have := List.mem_range.1 hj
  simp [this]
section
variable {F : Nat → Prop} {B : Nat} {w : World} {d m ng : Nat} {L : Nat → List ByteArray} {okD okM : Nat → Nat → Prop} {T : Nat → Nat → ByteArray} {Y : Nat → Nat → Int} {ends : List Nat}
set_option maxRecDepth 100000 in
set_option maxHeartbeats 16000000 in
theorem fact27 (h : Core F B w d m L ng okD okM T Y ends) (p : Nat) (hp : p < 4294967296) (hokD : ∀ i, i < d → okD i p) (hokM : ∀ i, i < m → okM i p) :
    Calls Try.prog 27 #[ptrV B, intV p] w fun e w' => ∃ vd vm, e = .returned (.agg #[vd, vm]) ∧ Below w.heap.size w w' ∧ w'.ownsRow w.heap.size 9 1 vd d (((List.range d).map (fun i => T i p)).map .string) ∧ w'.ownsRow w.heap.size 2 1 vm m (((List.range m).map (fun i => Y i p)).map (.int .i64)) := by
  have hBl := Below.al (Below.refl w.heap.size w) (Obj.cells #[Value.slice none 0 0, Value.slice none 0 0] 41)
  have hb4 := Blk.new w 41 #[Value.slice none 0 0, Value.slice none 0 0]
  have hC := h.below hBl
  obtain ⟨w1, hw1⟩ : ∃ w1, w1 = w.alloc (Obj.cells #[Value.slice none 0 0, Value.slice none 0 0] 41) := ⟨_, rfl⟩
  rw [← hw1] at hBl hb4 hC
  have HB := Lib.hid (And.intro hBl (And.intro hb4 hw1))
  clear h hBl hb4
  obtain ⟨q, hq⟩ := hC
  have hm := hq.hm
  have hd := hq.hd
  obtain ⟨g, hgg, -⟩ := hq.cm 0 p (by omega) (hokM 0 (by omega))
  have HQ := Lib.hid (And.intro hq hgg)
  obtain ⟨csg, hbg, hsg⟩ := (hq.seg _ g hgg).2
  have hdO := hq.dO
  have hsO := hq.sO
  have hbB := hq.blk
  have hng : p / 256 < ng := by rw [← hq.sl]; exact (List.getElem?_eq_some_iff.1 hgg).1
  have hfew := hq.few
  obtain ⟨vD, hvD⟩ : ∃ v, v = q.vD := ⟨_, rfl⟩
  obtain ⟨vS, hvS⟩ : ∃ v, v = q.vS := ⟨_, rfl⟩
  obtain ⟨vE, hvE⟩ : ∃ v, v = q.vE := ⟨_, rfl⟩
  rw [← hvD, ← hvS, ← hvE] at hbB
  rw [← hvD] at hdO
  rw [← hvS] at hsO
  clear hvD hvS hvE
  obtain ⟨-, aD, cD_, hv3, hcap3, hmax3, hc3⟩ := Row.of_owns hdO
  subst hv3
  obtain ⟨-, aS, cS, hv4, hcap4, hmax4, hc4⟩ := Row.of_owns hsO
  subst hv4
  obtain ⟨gb, go2, rfl, hgb, hcell4⟩ := hc4 (by omega)
  have zz : w1.cell? ⟨gb, go2 + p / 256, none⟩ = some (.pointer (some ⟨g, 0, none⟩)) := by
    rw [hcell4 (p / 256) (by omega), List.getD_eq_getElem?_getD, List.getElem?_map, hgg]
    rfl
  have z0 : w1.cell? ⟨B, 0, none⟩ = some (.slice aD d cD_) := Blk.cell hbB 0
  have z1 : w1.cell? ⟨B, 1, none⟩ = some (.int .i64 (m : Int)) := Blk.cell hbB 1
  have z2 : w1.cell? ⟨B, 2, none⟩ = some (.slice (some ⟨gb, go2, none⟩) ng cS) := Blk.cell hbB 2
  have HR := Lib.hid (And.intro hc3 (And.intro hbB hbg))
  clear hcell4 hc4 hc3 hq hgg hdO hsO hbB hbg
  unfold ptrV intV
  clear hw1
  go_enter Try.func27, Try.ntmps27
  go_upto_region 1 with fail
  rw [← HB.out.2.2]
  go_upto_region 2 with fail
  have hlt := HR.out.2.1.lt
  have hm38 := mk38 d hd
  have hm39 := mk39 m (by omega)
  obtain ⟨Zd, hZd⟩ : ∃ Z, Z = (List.replicate d (Value.string ByteArray.empty)).toArray := ⟨_, rfl⟩
  obtain ⟨Zm, hZm⟩ : ∃ Z, Z = (List.replicate m (Value.int .i64 0)).toArray := ⟨_, rfl⟩
  rw [← hZd] at hm38
  rw [← hZm] at hm39
  have HZ := Lib.hid (And.intro hZd hZm)
  clear hZd hZm
  go_cut [7] (fun v7 wx => ∃ c7 cD cM : Nat, v7 = .pointer (some ⟨c7, 0, none⟩) ∧ Blk wx c7 41 #[.slice (some ⟨cD, 0, none⟩) d d, .slice (some ⟨cM, 0, none⟩) m m] ∧ Blk wx cD 9 Zd ∧ Blk wx cM 2 Zm ∧ w1.heap.size ≤ c7 ∧ w1.heap.size ≤ cD ∧ w1.heap.size ≤ cM ∧ Below w1.heap.size w1 wx)
  case first =>
    go_region
    all_goals
      go_wp2_with fail
      go_meet
      first
        | exact ⟨w1.heap.size, w1.heap.size + 1, w1.heap.size + 1 + 1, rfl, (by first | exact Blk.drew (((Blk.new w1 _ _).alloc _).alloc _) | exact Blk.drew ((Blk.newAt (w1.alloc _) _ _ (by simp)).alloc _) | exact Blk.drew (Blk.newAt ((w1.alloc _).alloc _) _ _ (by simp))), (by first | exact Blk.drew (((Blk.new w1 _ _).alloc _).alloc _) | exact Blk.drew ((Blk.newAt (w1.alloc _) _ _ (by simp)).alloc _) | exact Blk.drew (Blk.newAt ((w1.alloc _).alloc _) _ _ (by simp))), (by first | exact Blk.drew (((Blk.new w1 _ _).alloc _).alloc _) | exact Blk.drew ((Blk.newAt (w1.alloc _) _ _ (by simp)).alloc _) | exact Blk.drew (Blk.newAt ((w1.alloc _).alloc _) _ _ (by simp))), by omega, by omega, by omega, ((Below.al (Below.al (Below.al (Below.refl w1.heap.size w1) _) _) _)).drew⟩
        | exact ⟨w1.heap.size, w1.heap.size + 1 + 1, w1.heap.size + 1, rfl, (by first | exact Blk.drew (((Blk.new w1 _ _).alloc _).alloc _) | exact Blk.drew ((Blk.newAt (w1.alloc _) _ _ (by simp)).alloc _) | exact Blk.drew (Blk.newAt ((w1.alloc _).alloc _) _ _ (by simp))), (by first | exact Blk.drew (((Blk.new w1 _ _).alloc _).alloc _) | exact Blk.drew ((Blk.newAt (w1.alloc _) _ _ (by simp)).alloc _) | exact Blk.drew (Blk.newAt ((w1.alloc _).alloc _) _ _ (by simp))), (by first | exact Blk.drew (((Blk.new w1 _ _).alloc _).alloc _) | exact Blk.drew ((Blk.newAt (w1.alloc _) _ _ (by simp)).alloc _) | exact Blk.drew (Blk.newAt ((w1.alloc _).alloc _) _ _ (by simp))), by omega, by omega, by omega, ((Below.al (Below.al (Below.al (Below.refl w1.heap.size w1) _) _) _)).drew⟩
        | exact ⟨w1.heap.size + 1, w1.heap.size, w1.heap.size + 1 + 1, rfl, (by first | exact Blk.drew (((Blk.new w1 _ _).alloc _).alloc _) | exact Blk.drew ((Blk.newAt (w1.alloc _) _ _ (by simp)).alloc _) | exact Blk.drew (Blk.newAt ((w1.alloc _).alloc _) _ _ (by simp))), (by first | exact Blk.drew (((Blk.new w1 _ _).alloc _).alloc _) | exact Blk.drew ((Blk.newAt (w1.alloc _) _ _ (by simp)).alloc _) | exact Blk.drew (Blk.newAt ((w1.alloc _).alloc _) _ _ (by simp))), (by first | exact Blk.drew (((Blk.new w1 _ _).alloc _).alloc _) | exact Blk.drew ((Blk.newAt (w1.alloc _) _ _ (by simp)).alloc _) | exact Blk.drew (Blk.newAt ((w1.alloc _).alloc _) _ _ (by simp))), by omega, by omega, by omega, ((Below.al (Below.al (Below.al (Below.refl w1.heap.size w1) _) _) _)).drew⟩
        | exact ⟨w1.heap.size + 1, w1.heap.size + 1 + 1, w1.heap.size, rfl, (by first | exact Blk.drew (((Blk.new w1 _ _).alloc _).alloc _) | exact Blk.drew ((Blk.newAt (w1.alloc _) _ _ (by simp)).alloc _) | exact Blk.drew (Blk.newAt ((w1.alloc _).alloc _) _ _ (by simp))), (by first | exact Blk.drew (((Blk.new w1 _ _).alloc _).alloc _) | exact Blk.drew ((Blk.newAt (w1.alloc _) _ _ (by simp)).alloc _) | exact Blk.drew (Blk.newAt ((w1.alloc _).alloc _) _ _ (by simp))), (by first | exact Blk.drew (((Blk.new w1 _ _).alloc _).alloc _) | exact Blk.drew ((Blk.newAt (w1.alloc _) _ _ (by simp)).alloc _) | exact Blk.drew (Blk.newAt ((w1.alloc _).alloc _) _ _ (by simp))), by omega, by omega, by omega, ((Below.al (Below.al (Below.al (Below.refl w1.heap.size w1) _) _) _)).drew⟩
        | exact ⟨w1.heap.size + 1 + 1, w1.heap.size, w1.heap.size + 1, rfl, (by first | exact Blk.drew (((Blk.new w1 _ _).alloc _).alloc _) | exact Blk.drew ((Blk.newAt (w1.alloc _) _ _ (by simp)).alloc _) | exact Blk.drew (Blk.newAt ((w1.alloc _).alloc _) _ _ (by simp))), (by first | exact Blk.drew (((Blk.new w1 _ _).alloc _).alloc _) | exact Blk.drew ((Blk.newAt (w1.alloc _) _ _ (by simp)).alloc _) | exact Blk.drew (Blk.newAt ((w1.alloc _).alloc _) _ _ (by simp))), (by first | exact Blk.drew (((Blk.new w1 _ _).alloc _).alloc _) | exact Blk.drew ((Blk.newAt (w1.alloc _) _ _ (by simp)).alloc _) | exact Blk.drew (Blk.newAt ((w1.alloc _).alloc _) _ _ (by simp))), by omega, by omega, by omega, ((Below.al (Below.al (Below.al (Below.refl w1.heap.size w1) _) _) _)).drew⟩
        | exact ⟨w1.heap.size + 1 + 1, w1.heap.size + 1, w1.heap.size, rfl, (by first | exact Blk.drew (((Blk.new w1 _ _).alloc _).alloc _) | exact Blk.drew ((Blk.newAt (w1.alloc _) _ _ (by simp)).alloc _) | exact Blk.drew (Blk.newAt ((w1.alloc _).alloc _) _ _ (by simp))), (by first | exact Blk.drew (((Blk.new w1 _ _).alloc _).alloc _) | exact Blk.drew ((Blk.newAt (w1.alloc _) _ _ (by simp)).alloc _) | exact Blk.drew (Blk.newAt ((w1.alloc _).alloc _) _ _ (by simp))), (by first | exact Blk.drew (((Blk.new w1 _ _).alloc _).alloc _) | exact Blk.drew ((Blk.newAt (w1.alloc _) _ _ (by simp)).alloc _) | exact Blk.drew (Blk.newAt ((w1.alloc _).alloc _) _ _ (by simp))), by omega, by omega, by omega, ((Below.al (Below.al (Below.al (Below.refl w1.heap.size w1) _) _) _)).drew⟩
  case rest =>
    obtain ⟨c7, cD, cM, rfl, hb7, hbD, hbM, h7, hD, hM, hB2⟩ := hcut
    rw [HZ.out.1, dimL_zero T p d] at hbD
    rw [HZ.out.2, meaL_zero Y p m] at hbM
    have hdneD : cD ≠ c7 := Blk.ne_type hbD hb7 (by decide)
    have hdneM : cD ≠ cM := Blk.ne_type hbD hbM (by decide)
    have hdne7 : cM ≠ c7 := Blk.ne_type hbM hb7 (by decide)
    have HS := Lib.hid (And.intro hb7 (And.intro hbD (And.intro hbM hB2)))
    have HNE := Lib.hid (And.intro hdneD (And.intro hdneM hdne7))
    have z0 : wc.cell? ⟨B, 0, none⟩ = some (.slice aD d cD_) := (Below.cell hB2 (p := ⟨B, 0, none⟩) HR.out.2.1.lt).trans z0
    clear z1 z2 zz hb7 hbD hbM hm38 hm39 hlt hdneD hdneM hdne7 hB2
    go_wp2_with fail
    clear z0
    go_loopw [38] (fun t wr => ∃ i : Nat, i ≤ d ∧ t = .int .i64 i ∧ Blk wr c7 41 #[.slice (some ⟨cD, 0, none⟩) d d, .slice (some ⟨cM, 0, none⟩) m m] ∧ Blk wr cD 9 (dimL T p d i).toArray ∧ Blk wr cM 2 (meaL Y p m 0).toArray ∧ Below w1.heap.size w1 wr) (fun t _ => d - (intOf t).toNat)
    case atStart => exact ⟨0, by omega, rfl, HS.out⟩
    case round =>
      obtain ⟨i, hi, rfl, hb7, hbD, hbM, hB2⟩ := hrel
      clear HS
      by_cases hid : i < d
      · obtain ⟨vb, vo, rfl, hvb, hcell3⟩ := HR.out.1 (by omega)
        obtain ⟨D, hDD⟩ : ∃ D, q.ds[i]? = some D := ⟨_, List.getElem?_eq_getElem (by rw [HQ.out.1.dl]; omega)⟩
        have y1 : wr.cell? ⟨vb, vo + i, none⟩ = some (.pointer (some ⟨D, 0, none⟩)) := by
          refine (Below.cell hB2 (p := ⟨vb, vo + i, none⟩) hvb).trans ?_
          rw [hcell3 i (by omega), List.getD_eq_getElem?_getD, List.getElem?_map, hDD]
          rfl
        obtain ⟨g', x, hg', hcx, hx, hLx⟩ := HQ.out.1.cd i p hid (hokD i hid)
        obtain rfl : g' = g := Option.some.inj (hg'.symm.trans HQ.out.2)
        have y2 : wr.cell? ⟨g', i * 256 + p % 256, none⟩ = some (.int .u16 (x : Int)) := (Below.cell hB2 (p := ⟨g', i * 256 + p % 256, none⟩) HR.out.2.2.lt).trans hcx
        have y3 : wr.cell? ⟨c7, 0, none⟩ = some (.slice (some ⟨cD, 0, none⟩) d d) := Blk.cell hb7 0
        have hdict := HQ.out.1.dict i D hDD
        have hLl : x < (L i).length := (List.getElem?_eq_some_iff.1 hLx).1
        have hLd : (L i).getD x ByteArray.empty = T i p := by rw [List.getD_eq_getElem?_getD, hLx]; rfl
        have HT := Lib.hid (show ∀ w', Turn (fun k => k = cD) wr w' → Calls Try.prog 35 #[.pointer (some ⟨D, 0, none⟩), .int .i64 (x : Int)] w' fun e w'' => e = .returned (.tuple #[.string (T i p), .bool true]) ∧ w' = w'' from fun w' hw' => by
          rw [← hLd]
          exact text35 (q.Fs i) D (L i) x hLl w' (hdict.below (Below.trans hB2 (hw'.below hB2.size (fun k hk e => by omega)))))
        have fD := Blk.free hbD i
        have cDi := Blk.cell hbD i
        have hiI : decide ((i : Int) < d) = true := decide_eq_true (by omega)
        have hdl : (dimL T p d i).length = d := by simp [dimL]
        obtain ⟨old, hold⟩ : ∃ old, (dimL T p d i).toArray[i]? = some old := ⟨_, Array.getElem?_eq_getElem (by simp [hdl]; omega)⟩
        rw [hold] at cDi
        have HS := Lib.hid (And.intro hb7 (And.intro hbD (And.intro hbM hB2)))
        have hk256 : p % 256 < 256 := Nat.mod_lt _ (by omega)
        have hi6 : (i : Int) < 6 := by omega
        have hp6 : (p : Int) % 256 < 256 := by omega
        have hpn : ((p : Int) % 256).toNat = p % 256 := by omega
        have hwx : IntKind.i64.wrap (x : Int) = (x : Int) := wrap_nat (by omega)
        obtain ⟨t, htp⟩ : ∃ t, t = T i p := ⟨_, rfl⟩
        rw [← htp] at hLd HT
        have HTP := Lib.hid htp
        clear htp
        clear hb7 hbD hbM hB2 hcell3 hDD hg' hcx hLx hdict hLl hLd hdl hold
        have HY := Lib.hid (show ∀ w', Turn (fun k => k = cD) wr w' → w'.cell? ⟨c7, 0, none⟩ = some (.slice (some ⟨cD, 0, none⟩) d d) ∧ w'.cell? ⟨g', i * 256 + p % 256, none⟩ = some (.int .u16 (x : Int)) from fun w' hw' =>
          ⟨(World.cell?_of_block (hw'.block c7 HS.out.1.lt (fun e => HNE.out.1 e.symm))).trans y3, (World.cell?_of_block (hw'.block g' (Nat.lt_of_lt_of_le HR.out.2.2.lt HS.out.2.2.2.size) (fun e => by have := HR.out.2.2.lt; omega))).trans y2⟩)
        have T0 : Turn (fun k => k = cD) wr wr.drew := (Turn.refl _ _).drew
        have f0 : wr.drew.frozen? ⟨cD, i, none⟩ = false := fD
        have q0 : wr.drew.cell? ⟨cD, i, none⟩ = some old := cDi
        clear fD cDi
        go_upto_region 6 with fail
        refine hp_start (fun w' => Turn (fun k => k = cD) wr w') 19 rfl (by kernel_rfl) (fun c a a' w hd h => ⟨hd ▸ h.1, h.2⟩) (fun hP => ?_)
        rw [show Array.replicate 19 false = #[false, false, false, false, false, false, false, false, false, false, false, false, false, false, false, false, false, false, false] from rfl]
        obtain ⟨wz, hwz⟩ : ∃ wz, wz = wr.drew := ⟨_, rfl⟩
        rw [← hwz] at T0 f0 q0 ⊢
        have HW := Lib.hid hwz
        clear hwz
        refine hp_take hP 0 (some 44) _ rfl rfl (by kernel_rfl) rfl (fun w' hS' => by go_simp; first | done | rfl) T0 ?_
        simp only [Act.put, List.setIfInBounds_toArray, List.set_cons_zero, List.set_cons_succ]
        refine hp_take hP 1 (some 45) _ rfl rfl (by kernel_rfl) rfl (fun w' hS' => by have cc := (HY.out w' hS').1; go_simp; first | done | rfl) T0 ?_
        simp only [Act.put, List.setIfInBounds_toArray, List.set_cons_zero, List.set_cons_succ]
        refine hp_take hP 2 (some 46) _ rfl rfl (by kernel_rfl) rfl (fun w' hS' => by go_simp; first | done | rfl) T0 ?_
        simp only [Act.put, List.setIfInBounds_toArray, List.set_cons_zero, List.set_cons_succ]
        refine hp_take hP 3 (some 47) _ rfl rfl (by kernel_rfl) rfl (fun w' hS' => by go_simp; first | done | rfl) T0 ?_
        simp only [Act.put, List.setIfInBounds_toArray, List.set_cons_zero, List.set_cons_succ]
        refine hp_take hP 4 (some 48) _ rfl rfl (by kernel_rfl) rfl (fun w' hS' => by go_simp; first | done | rfl) T0 ?_
        simp only [Act.put, List.setIfInBounds_toArray, List.set_cons_zero, List.set_cons_succ]
        refine hp_take hP 5 (some 49) _ rfl rfl (by kernel_rfl) rfl (fun w' hS' => by go_simp; first | done | rfl) T0 ?_
        simp only [Act.put, List.setIfInBounds_toArray, List.set_cons_zero, List.set_cons_succ]
        refine hp_take hP 6 (some 50) _ rfl rfl (by kernel_rfl) rfl (fun w' hS' => by go_simp; first | done | rfl) T0 ?_
        simp only [Act.put, List.setIfInBounds_toArray, List.set_cons_zero, List.set_cons_succ]
        refine hp_take hP 7 (some 51) _ rfl rfl (by kernel_rfl) rfl (fun w' hS' => by go_simp; first | done | rfl) T0 ?_
        simp only [Act.put, List.setIfInBounds_toArray, List.set_cons_zero, List.set_cons_succ]
        refine hp_take hP 8 (some 52) _ rfl rfl (by kernel_rfl) rfl (fun w' hS' => by go_simp; first | done | rfl) T0 ?_
        simp only [Act.put, List.setIfInBounds_toArray, List.set_cons_zero, List.set_cons_succ]
        refine hp_take hP 9 (some 53) _ rfl rfl (by kernel_rfl) rfl (fun w' hS' => by go_simp; first | done | rfl) T0 ?_
        simp only [Act.put, List.setIfInBounds_toArray, List.set_cons_zero, List.set_cons_succ]
        refine hp_take hP 10 (some 54) _ rfl rfl (by kernel_rfl) rfl (fun w' hS' => by go_simp; first | done | rfl) T0 ?_
        simp only [Act.put, List.setIfInBounds_toArray, List.set_cons_zero, List.set_cons_succ]
        refine hp_take hP 11 (some 55) _ rfl rfl (by kernel_rfl) rfl (fun w' hS' => by have cc := (HY.out w' hS').2; go_simp; first | done | rfl) T0 ?_
        simp only [Act.put, List.setIfInBounds_toArray, List.set_cons_zero, List.set_cons_succ]
        refine hp_take hP 12 (some 56) _ rfl rfl (by kernel_rfl) rfl (fun w' hS' => by go_simp; first | done | rfl) T0 ?_
        simp only [Act.put, List.setIfInBounds_toArray, List.set_cons_zero, List.set_cons_succ]
        refine hp_call 13 (some 57) rfl rfl (by kernel_rfl) rfl 35 #[.pointer (some ⟨D, 0, none⟩), .int .i64 (x : Int)] (by go_simp; first | done | rfl) ((HT.out wz T0).mono ?_)
        rintro e w5 ⟨rfl, rfl⟩
        refine ⟨_, rfl, T0, ?_⟩
        simp only [Act.put, List.setIfInBounds_toArray, List.set_cons_zero, List.set_cons_succ]
        refine hp_take hP 14 (some 43) _ rfl rfl (by kernel_rfl) rfl (fun w' hS' => by go_simp; first | done | rfl) T0 ?_
        simp only [Act.put, List.setIfInBounds_toArray, List.set_cons_zero, List.set_cons_succ]
        refine hp_take hP 15 (some 58) _ rfl rfl (by kernel_rfl) rfl (fun w' hS' => by go_simp; first | done | rfl) T0 ?_
        simp only [Act.put, List.setIfInBounds_toArray, List.set_cons_zero, List.set_cons_succ]
        refine hp_take hP 16 (some 59) _ rfl rfl (by kernel_rfl) rfl (fun w' hS' => by go_simp; first | done | rfl) T0 ?_
        simp only [Act.put, List.setIfInBounds_toArray, List.set_cons_zero, List.set_cons_succ]
        refine hp_take hP 17 (some 60) _ rfl rfl (by kernel_rfl) rfl (fun w' hS' => by go_simp; first | done | rfl) T0 ?_
        simp only [Act.put, List.setIfInBounds_toArray, List.set_cons_zero, List.set_cons_succ]
        refine hp_none 18 rfl rfl (by kernel_rfl) rfl _ (by go_simp; rfl) (T0.setCell (p := ⟨cD, i, none⟩) rfl _) ?_
        simp only [Act.put, List.setIfInBounds_toArray, List.set_cons_zero, List.set_cons_succ]
        refine hk_done (by kernel_rfl) ?_
        have hset := dimL_set T p d i
        rw [← HTP.out] at hset
        have HS2 : Blk (wz.setCell ⟨cD, i, none⟩ (.string t)) c7 41 #[.slice (some ⟨cD, 0, none⟩) d d, .slice (some ⟨cM, 0, none⟩) m m] ∧ Blk (wz.setCell ⟨cD, i, none⟩ (.string t)) cD 9 (dimL T p d (i + 1)).toArray ∧ Blk (wz.setCell ⟨cD, i, none⟩ (.string t)) cM 2 (meaL Y p m 0).toArray ∧ Below w1.heap.size w1 (wz.setCell ⟨cD, i, none⟩ (.string t)) := by
          have hs := HS.out
          have hb9 := HW.out ▸ hs.2.1.drew
          refine ⟨Blk.other (HW.out ▸ hs.1.drew) HNE.out.1 _, by rw [← hset]; exact Blk.set (HW.out ▸ hs.2.1.drew) i _, Blk.other (HW.out ▸ hs.2.2.1.drew) HNE.out.2.1 _, Below.setCell (HW.out ▸ hs.2.2.2.drew) hD _⟩
        have HS3 := Lib.hid HS2
        clear HS2 T0 f0 q0 hset
        generalize wz.setCell ⟨cD, i, none⟩ (.string t) = wn at *
        go_wp2_with fail
        go_roundw
        case rel => exact ⟨i + 1, by omega, by go_num, HS3.out⟩
        case measure => simp [intOf]; omega
      · obtain rfl : i = d := by omega
        have y3 : wr.cell? ⟨c7, 1, none⟩ = some (.slice (some ⟨cM, 0, none⟩) m m) := Blk.cell hb7 1
        have hiI : decide ((i : Int) < i) = false := by simp
        have HS := Lib.hid (And.intro hb7 (And.intro hbD (And.intro hbM hB2)))
        clear hb7 hbD hbM hB2 hid
        go_wp2_with fail
        clear y3
        go_loopw [65] (fun t wr => ∃ i1 : Nat, i1 ≤ m ∧ t = .int .i64 i1 ∧ Blk wr c7 41 #[.slice (some ⟨cD, 0, none⟩) i i, .slice (some ⟨cM, 0, none⟩) m m] ∧ Blk wr cD 9 (dimL T p i i).toArray ∧ Blk wr cM 2 (meaL Y p m i1).toArray ∧ Below w1.heap.size w1 wr) (fun t _ => m - (intOf t).toNat)
        case atStart => exact ⟨0, by omega, rfl, HS.out⟩
        case round =>
          clear HS hiI
          obtain ⟨i1, hi1, rfl, hb7, hbD, hbM, hB2⟩ := hrel
          by_cases him : i1 < m
          · obtain ⟨g', hg', hcx⟩ := HQ.out.1.cm i1 p him (hokM i1 him)
            obtain rfl : g' = g := Option.some.inj (hg'.symm.trans HQ.out.2)
            have y2 : wr.cell? ⟨g', 1536 + i1 * 256 + p % 256, none⟩ = some (.int .i64 (Y i1 p)) := (Below.cell hB2 (p := ⟨g', 1536 + i1 * 256 + p % 256, none⟩) HR.out.2.2.lt).trans hcx
            have y3 : wr.cell? ⟨c7, 1, none⟩ = some (.slice (some ⟨cM, 0, none⟩) m m) := Blk.cell hb7 1
            have fD := Blk.free hbM i1
            have cDi := Blk.cell hbM i1
            have hiI : decide ((i1 : Int) < m) = true := decide_eq_true (by omega)
            have hdl : (meaL Y p m i1).length = m := by simp [meaL]
            obtain ⟨old, hold⟩ : ∃ old, (meaL Y p m i1).toArray[i1]? = some old := ⟨_, Array.getElem?_eq_getElem (by simp [hdl]; omega)⟩
            rw [hold] at cDi
            have HS := Lib.hid (And.intro hb7 (And.intro hbD (And.intro hbM hB2)))
            have hk256 : p % 256 < 256 := Nat.mod_lt _ (by omega)
            have hi6 : (i1 : Int) < 4 := by omega
            have hp6 : (p : Int) % 256 < 256 := by omega
            have hpn : ((p : Int) % 256).toNat = p % 256 := by omega
            obtain ⟨t, htp⟩ : ∃ t, t = Y i1 p := ⟨_, rfl⟩
            rw [← htp] at y2
            have HTP := Lib.hid htp
            clear htp
            clear hb7 hbD hbM hB2 hg' hcx hdl hold
            have HY := Lib.hid (show ∀ w', Turn (fun k => k = cM) wr w' → w'.cell? ⟨c7, 1, none⟩ = some (.slice (some ⟨cM, 0, none⟩) m m) ∧ w'.cell? ⟨g', 1536 + i1 * 256 + p % 256, none⟩ = some (.int .i64 t) from fun w' hw' =>
              ⟨(World.cell?_of_block (hw'.block c7 HS.out.1.lt (fun e => HNE.out.2.2 e.symm))).trans y3, (World.cell?_of_block (hw'.block g' (Nat.lt_of_lt_of_le HR.out.2.2.lt HS.out.2.2.2.size) (fun e => by have := HR.out.2.2.lt; omega))).trans y2⟩)
            have T0 : Turn (fun k => k = cM) wr wr.drew := (Turn.refl _ _).drew
            have f0 : wr.drew.frozen? ⟨cM, i1, none⟩ = false := fD
            have q0 : wr.drew.cell? ⟨cM, i1, none⟩ = some old := cDi
            clear fD cDi
            go_upto_region 11 with fail
            refine hp_start (fun w' => Turn (fun k => k = cM) wr w') 13 rfl (by kernel_rfl) (fun c a a' w hd h => ⟨hd ▸ h.1, h.2⟩) (fun hP => ?_)
            rw [show Array.replicate 13 false = #[false, false, false, false, false, false, false, false, false, false, false, false, false] from rfl]
            obtain ⟨wz, hwz⟩ : ∃ wz, wz = wr.drew := ⟨_, rfl⟩
            rw [← hwz] at T0 f0 q0 ⊢
            have HW := Lib.hid hwz
            clear hwz
            refine hp_take hP 0 (some 68) _ rfl rfl (by kernel_rfl) rfl (fun w' hS' => by go_simp; first | done | rfl) T0 ?_
            simp only [Act.put, List.setIfInBounds_toArray, List.set_cons_zero, List.set_cons_succ]
            refine hp_take hP 1 (some 69) _ rfl rfl (by kernel_rfl) rfl (fun w' hS' => by have cc := (HY.out w' hS').1; go_simp; first | done | rfl) T0 ?_
            simp only [Act.put, List.setIfInBounds_toArray, List.set_cons_zero, List.set_cons_succ]
            refine hp_take hP 2 (some 70) _ rfl rfl (by kernel_rfl) rfl (fun w' hS' => by go_simp; first | done | rfl) T0 ?_
            simp only [Act.put, List.setIfInBounds_toArray, List.set_cons_zero, List.set_cons_succ]
            refine hp_take hP 3 (some 71) _ rfl rfl (by kernel_rfl) rfl (fun w' hS' => by go_simp; first | done | rfl) T0 ?_
            simp only [Act.put, List.setIfInBounds_toArray, List.set_cons_zero, List.set_cons_succ]
            refine hp_take hP 4 (some 72) _ rfl rfl (by kernel_rfl) rfl (fun w' hS' => by go_simp; first | done | rfl) T0 ?_
            simp only [Act.put, List.setIfInBounds_toArray, List.set_cons_zero, List.set_cons_succ]
            refine hp_take hP 5 (some 73) _ rfl rfl (by kernel_rfl) rfl (fun w' hS' => by go_simp; first | done | rfl) T0 ?_
            simp only [Act.put, List.setIfInBounds_toArray, List.set_cons_zero, List.set_cons_succ]
            refine hp_take hP 6 (some 74) _ rfl rfl (by kernel_rfl) rfl (fun w' hS' => by go_simp; first | done | rfl) T0 ?_
            simp only [Act.put, List.setIfInBounds_toArray, List.set_cons_zero, List.set_cons_succ]
            refine hp_take hP 7 (some 75) _ rfl rfl (by kernel_rfl) rfl (fun w' hS' => by go_simp; first | done | rfl) T0 ?_
            simp only [Act.put, List.setIfInBounds_toArray, List.set_cons_zero, List.set_cons_succ]
            refine hp_take hP 8 (some 76) _ rfl rfl (by kernel_rfl) rfl (fun w' hS' => by go_simp; first | done | rfl) T0 ?_
            simp only [Act.put, List.setIfInBounds_toArray, List.set_cons_zero, List.set_cons_succ]
            refine hp_take hP 9 (some 77) _ rfl rfl (by kernel_rfl) rfl (fun w' hS' => by go_simp; first | done | rfl) T0 ?_
            simp only [Act.put, List.setIfInBounds_toArray, List.set_cons_zero, List.set_cons_succ]
            refine hp_take hP 10 (some 78) _ rfl rfl (by kernel_rfl) rfl (fun w' hS' => by have cc := (HY.out w' hS').2; go_simp; first | done | rfl) T0 ?_
            simp only [Act.put, List.setIfInBounds_toArray, List.set_cons_zero, List.set_cons_succ]
            refine hp_take hP 11 (some 79) _ rfl rfl (by kernel_rfl) rfl (fun w' hS' => by go_simp; first | done | rfl) T0 ?_
            simp only [Act.put, List.setIfInBounds_toArray, List.set_cons_zero, List.set_cons_succ]
            refine hp_none 12 rfl rfl (by kernel_rfl) rfl _ (by go_simp; rfl) (T0.setCell (p := ⟨cM, i1, none⟩) rfl _) ?_
            simp only [Act.put, List.setIfInBounds_toArray, List.set_cons_zero, List.set_cons_succ]
            refine hk_done (by kernel_rfl) ?_
            have hset := meaL_set Y p m i1
            rw [← HTP.out] at hset
            have HS2 : Blk (wz.setCell ⟨cM, i1, none⟩ (.int .i64 t)) c7 41 #[.slice (some ⟨cD, 0, none⟩) i i, .slice (some ⟨cM, 0, none⟩) m m] ∧ Blk (wz.setCell ⟨cM, i1, none⟩ (.int .i64 t)) cD 9 (dimL T p i i).toArray ∧ Blk (wz.setCell ⟨cM, i1, none⟩ (.int .i64 t)) cM 2 (meaL Y p m (i1 + 1)).toArray ∧ Below w1.heap.size w1 (wz.setCell ⟨cM, i1, none⟩ (.int .i64 t)) := by
              have hs := HS.out
              refine ⟨Blk.other (HW.out ▸ hs.1.drew) HNE.out.2.2 _, Blk.other (HW.out ▸ hs.2.1.drew) (fun e => HNE.out.2.1 e.symm) _, by rw [← hset]; exact Blk.set (HW.out ▸ hs.2.2.1.drew) i1 _, Below.setCell (HW.out ▸ hs.2.2.2.drew) hM _⟩
            have HS3 := Lib.hid HS2
            clear HS2 T0 f0 q0 hset
            generalize wz.setCell ⟨cM, i1, none⟩ (.int .i64 t) = wn at *
            go_wp2_with fail
            go_roundw
            case rel => exact ⟨i1 + 1, by omega, by go_num, HS3.out⟩
            case measure => simp [intOf]; omega
          · obtain rfl : i1 = m := by omega
            have hiI : decide ((i1 : Int) < i1) = false := by simp
            have hb4 : Blk wr w.heap.size 41 #[Value.slice none 0 0, Value.slice none 0 0] := Blk.below HB.out.2.1 hB2 (by rw [HB.out.2.2, alloc_size]; omega)
            have HS := Lib.hid (And.intro hb7 (And.intro hbD (And.intro hbM (And.intro hB2 hb4))))
            have hw1s : w.heap.size < w1.heap.size := by rw [HB.out.2.2, alloc_size]; omega
            clear hb7 hbD hbM hB2 him hb4
            go_upto_region 13 with fail
            refine wp_region_lit ?_
            refine wpList_load_at rfl 41 _ rfl c7 0 rfl #[.slice (some ⟨cD, 0, none⟩) i i, .slice (some ⟨cM, 0, none⟩) i1 i1] _ (fun j _ => by rw [Nat.zero_add]; exact Blk.cell HS.out.1 j) Try.underlying41 rfl info41 ?_
            refine wpList_store_row rfl 41 _ _ rfl w.heap.size #[.slice (some ⟨cD, 0, none⟩) i i, .slice (some ⟨cM, 0, none⟩) i1 i1] rfl rfl 41 _ HS.out.2.2.2.2 info41 rfl (by simp [Value.oneCell']) ?_
            have hZ2 := Blk.setRow (cs' := #[.slice (some ⟨cD, 0, none⟩) i i, .slice (some ⟨cM, 0, none⟩) i1 i1]) HS.out.2.2.2.2
            have hB2' := Below.setRow ((HB.out.1.trans (HS.out.2.2.2.1.mono (Nat.le_of_lt hw1s)))) (Nat.le_refl _) #[.slice (some ⟨cD, 0, none⟩) i i, .slice (some ⟨cM, 0, none⟩) i1 i1]
            have hbD' := Blk.otherRow (cs' := #[.slice (some ⟨cD, 0, none⟩) i i, .slice (some ⟨cM, 0, none⟩) i1 i1]) HS.out.2.1 (show cD ≠ w.heap.size by omega)
            have hbM' := Blk.otherRow (cs' := #[.slice (some ⟨cD, 0, none⟩) i i, .slice (some ⟨cM, 0, none⟩) i1 i1]) HS.out.2.2.1 (show cM ≠ w.heap.size by omega)
            have HE := Lib.hid (And.intro hZ2 (And.intro hB2' (And.intro hbD' hbM')))
            clear hZ2 hB2' hbD' hbM'
            go_wp2_with fail
            refine bodyPost_ret (results_cell_row rfl _ _ w.heap.size 41 #[.slice (some ⟨cD, 0, none⟩) i i, .slice (some ⟨cM, 0, none⟩) i1 i1] (0, 0) _ rfl HE.out.1 Try.underlying41 rfl info41) rfl ?_
            refine ⟨_, _, rfl, HE.out.2.1, ?_, ?_⟩
            · rw [← dimL_full]
              exact owns_full HE.out.2.2.1 (by simp [dimL]) (by unfold maxLen; omega) (by omega)
            · rw [← meaL_full]
              exact owns_full HE.out.2.2.2 (by simp [meaL]) (by unfold maxLen; omega) (by omega)
end
end Go.Proofs.Ytdpgpcffhhdpiaa
