/- A store of facts: New. -/
import Derived.Test.YtdpgpcffhhdpiaaC
import Derived.Test.YtdpgpcffhhdpiaaBase21
namespace Go.Proofs.Ytdpgpcffhhdpiaa
open Go.RowKit Go.Maps
set_option linter.unusedVariables false
set_option linter.unusedSimpArgs false

theorem info55 : (Try.prog.info? 55).map (fun i => (i.zero, i.size, i.bytes)) = some (some (.pointer none), 1, 8) := by kernel_rfl
/-- a store under way: so many dictionaries -/
structure NewQ (B m : Nat) (w0 : World) (vD : Value) (ds : List Nat) (w : World) : Prop where
  blk : Blk w B 50 #[vD, intV m, .slice none 0 0, .slice none 0 0]
  own : w.ownsRow (B + 1) 55 1 vD ds.length (ds.map ptrV)
  dict : ∀ (i D : Nat), ds[i]? = some D → B < D ∧ DictAt (fun k => k = D) D w []
  inc : ds.Pairwise (· < ·)
  b : Below w0.heap.size w0 w
theorem ptr_row {v : Value} {n : Nat} {l : List Nat} : l.map ptrV ++ [ptrV n] = (l ++ [n]).map ptrV := by simp
theorem NewQ.push {B m : Nat} {w0 w w2 : World} {vD v' : Value} {ds : List Nat} (h : NewQ B m w0 vD ds w) (hB : w0.heap.size ≤ B)
    (hown : w2.ownsRow (B + 1) 55 1 v' (ds.length + 1) (ds.map ptrV ++ [ptrV w.heap.size]))
    (hg : ((w.alloc (Obj.cells #[.slice none 0 0, .map none, .pointer none] 78)).alloc (Obj.cells #[ptrV w.heap.size] 55)).grownBy w2 vD.ownBlock) : NewQ B m w0 v' (ds ++ [w.heap.size]) (w2.setCell ⟨B, 0, none⟩ v') := by
  have hlt := h.blk.lt
  have hb2 : Blk w2 B 50 _ := Blk.grown ((h.blk.alloc _).alloc _) hg (fun e => by have := (h.own.lt _ e.symm).1; omega)
  have ht1 : Turn (fun k => B ≤ k) w (((w.alloc (Obj.cells #[.slice none 0 0, .map none, .pointer none] 78)).alloc (Obj.cells #[ptrV w.heap.size] 55))) := ((Turn.refl _ w).alloc _).alloc _
  have key : ∀ (D : Nat), DictAt (fun k => k = D) D ((w.alloc (Obj.cells #[.slice none 0 0, .map none, .pointer none] 78)).alloc (Obj.cells #[ptrV w.heap.size] 55)) [] → B < D → DictAt (fun k => k = D) D (w2.setCell ⟨B, 0, none⟩ v') [] := fun D hD hBD => by
    have hne : some D ≠ vD.ownBlock := fun e => by
      obtain ⟨⟨vt, vm, hb, -⟩, -⟩ := hD
      obtain ⟨cs, hc⟩ := owns_blk ((h.own.alloc _).alloc _) D e.symm
      exact Blk.ne_type hb hc (by decide) rfl
    exact (hD.keep (G := fun k => k ≠ D) ((Turn.refl _ _).grown hg (fun g hg e => hne (by rw [← e, hg]))) (fun k e h => h e)).keep ((Turn.refl (fun k => k = B) w2).setCell (p := ⟨B, 0, none⟩) rfl v') (fun k e hk => by omega)
  refine ⟨Blk.set hb2 0 v', ?_, fun i D hi => ?_, ?_, ?_⟩
  · rw [List.length_append, ← ptr_row (v := v')]
    exact owns_cell_other hown (p := ⟨B, 0, none⟩) (show B < B + 1 by omega) v'
  · rcases Nat.lt_or_ge i ds.length with hi1 | hi1
    · rw [List.getElem?_append_left hi1] at hi
      obtain ⟨h1, h2⟩ := h.dict i D hi
      exact ⟨h1, key D (h2.keep (G := fun k => w.heap.size ≤ k) (((Turn.refl _ w).alloc _).alloc _) (fun k e hk => by have := h2.lt; omega)) h1⟩
    · rw [List.getElem?_append_right hi1] at hi
      have hi0 : i - ds.length = 0 := by
        cases hh : i - ds.length with
        | zero => rfl
        | succ n => rw [hh] at hi; simp at hi
      rw [hi0] at hi
      simp at hi
      subst hi
      exact ⟨hlt, key _ ((DictAt.new w).keep (G := fun k => k = w.heap.size + 1) ((Turn.refl _ _).alloc _) (fun k e hk => by omega)) hlt⟩
  · rw [List.pairwise_append]
    refine ⟨h.inc, by simp, fun a ha b hb => ?_⟩
    obtain rfl := List.mem_singleton.1 hb
    obtain ⟨i, hi⟩ := List.mem_iff_getElem?.1 ha
    exact (h.dict i a hi).2.lt
  · have h1 := Below.call h.b (Below.al (Below.al (Below.refl w.heap.size w) (Obj.cells #[.slice none 0 0, .map none, .pointer none] 78)) (Obj.cells #[ptrV w.heap.size] 55))
    have ht := ((Turn.refl (fun k => B ≤ k) _).grown hg (fun g hg => by have := (h.own.lt _ hg).1; omega)).setCell (p := ⟨B, 0, none⟩) (Nat.le_refl _) v'
    exact h1.trans (ht.below (B := w0.heap.size) h1.size (fun k hk hle => by omega))
/-- a new store's parts -/
theorem NewQ.core {B m : Nat} {w0 w : World} {vD : Value} {ds : List Nat} (h : NewQ B m w0 vD ds w) (hB : w0.heap.size ≤ B) (hd : ds.length ≤ 6) (hm : 1 ≤ m ∧ m ≤ 4) :
    Core (fun k => w0.heap.size ≤ k ∧ k < w.heap.size) B w ds.length m (fun _ => []) 0 (fun _ _ => False) (fun _ _ => False) (fun _ _ => ByteArray.empty) (fun _ _ => 0) [] := by
  have hinj : ∀ (i j D : Nat), ds[i]? = some D → ds[j]? = some D → i = j := fun i j D hi hj => by
    obtain ⟨hi1, hi2⟩ := List.getElem?_eq_some_iff.1 hi
    obtain ⟨hj1, hj2⟩ := List.getElem?_eq_some_iff.1 hj
    rcases Nat.lt_trichotomy i j with hl | he | hl
    · have := List.pairwise_iff_getElem.1 h.inc i j hi1 hj1 hl
      omega
    · exact he
    · have := List.pairwise_iff_getElem.1 h.inc j i hj1 hi1 hl
      omega
  refine ⟨⟨vD, .slice none 0 0, .slice none 0 0, ds, [], fun i k => ds[i]? = some k⟩, ⟨h.blk, owns_lower h.own (Nat.zero_le _), rfl, fun g hg => ?_, World.ownsRow_nil _ _ _ _, rfl, (fun g hg => by cases hg), World.ownsRow_nil _ _ _ _, (fun g hg => by cases hg),
    fun i D hi => ?_, fun i k hi hk => ?_, fun i j k hi hj hij h1 h2 => hij (hinj i j k h1 h2), fun i k hi hk => ?_, fun j g hg => by simp at hg, fun i j g hg => by simp at hg, fun i p _ h => h.elim, fun i p _ h => h.elim, ⟨hB, h.blk.lt⟩, hd, hm, fun x hx => by simp at hx, by simp⟩⟩
  · have := h.own.lt g hg
    exact ⟨by omega, this.2⟩
  · exact (h.dict i D hi).2.mono (fun k hk => by rw [hk]; exact hi)
  · have := h.dict i k hk
    have hl := this.2.lt
    exact ⟨⟨by omega, hl⟩, hl⟩
  · have hdk := h.dict i k hk
    refine ⟨by omega, fun e => ?_, (fun e => by cases e), (fun e => by cases e), by simp⟩
    obtain ⟨cs, hc⟩ := owns_blk h.own k e
    obtain ⟨⟨vt, vm, hb, -⟩, -⟩ := hdk.2
    exact Blk.ne_type hb hc (by decide) rfl
set_option maxRecDepth 100000 in
set_option maxHeartbeats 16000000 in
theorem new9 (d m : Nat) (hd : 1 ≤ d ∧ d ≤ 6) (hm : 1 ≤ m ∧ m ≤ 4) (w : World) :
    Calls Try.prog 9 #[intV d, intV m] w fun e w' => e = .returned (.tuple #[ptrV w.heap.size, .int .i64 0]) ∧ Below w.heap.size w w' ∧
      Core (fun k => w.heap.size ≤ k ∧ k < w'.heap.size) w.heap.size w' d m (fun _ => []) 0 (fun _ _ => False) (fun _ _ => False) (fun _ _ => ByteArray.empty) (fun _ _ => 0) [] := by
  obtain ⟨i0, hi0, hz0, hz1, hz2⟩ := info_parts info55
  have d1 : decide ((d : Int) < 1) = false := decide_eq_false (by omega)
  have d2 : decide ((6 : Int) < d) = false := decide_eq_false (by omega)
  have d3 : decide ((m : Int) < 1) = false := decide_eq_false (by omega)
  have d4 : decide ((4 : Int) < m) = false := decide_eq_false (by omega)
  have hb := Blk.new w 50 #[.slice none 0 0, .int .i64 (m : Int), .slice none 0 0, .slice none 0 0]
  have hBl := Below.al (Below.refl w.heap.size w) (Obj.cells #[.slice none 0 0, .int .i64 (m : Int), .slice none 0 0, .slice none 0 0] 50)
  have HN := Lib.hid (show NewQ w.heap.size m w (.slice none 0 0) [] (w.alloc (Obj.cells #[.slice none 0 0, .int .i64 (m : Int), .slice none 0 0, .slice none 0 0] 50)) from ⟨hb, World.ownsRow_nil _ _ _ _, fun i D h => by simp at h, List.Pairwise.nil, hBl⟩)
  clear hb hBl
  unfold intV
  go_enter Try.func9, Try.ntmps9
  go_upto_region 4 with fail
  obtain ⟨w1, hw1⟩ : ∃ w1, w1 = w.alloc (Obj.cells #[.slice none 0 0, .int .i64 (m : Int), .slice none 0 0, .slice none 0 0] 50) := ⟨_, rfl⟩
  rw [← hw1] at HN ⊢
  clear hw1
  obtain ⟨B, hB⟩ : ∃ B, B = w.heap.size := ⟨_, rfl⟩
  rw [← hB] at HN ⊢
  have HBB := Lib.hid hB
  clear hB
  go_wp2_with fail
  go_loopw [25] (fun i wr => ∃ (ds : List Nat) (vD : Value), ds.length ≤ d ∧ i = .int .i64 (ds.length : Nat) ∧ NewQ B m w vD ds wr) (fun i _ => d - (intOf i).toNat)
  case atStart => exact ⟨[], _, by simp, rfl, HN.out⟩
  case round =>
    obtain ⟨ds, vD, hk, rfl, hq⟩ := hrel
    obtain ⟨av, kv, rfl⟩ := owns_form hq.own
    have HQ := Lib.hid hq
    clear hq
    by_cases hlt : ds.length < d
    · have hkI : decide ((ds.length : Int) < d) = true := decide_eq_true (by omega)
      go_wp2_with fail
      refine hl_start (fun w' => w'.cell? ⟨B, 0, none⟩ = some (.slice av ds.length kv)) 10 11 rfl (by kernel_rfl) (fun c a a' w hd h => ⟨hd ▸ h.1, h.2⟩) (fun hP => ?_)
      rw [show Array.replicate 11 false = #[false, false, false, false, false, false, false, false, false, false, false] from rfl]
      have HQd := Lib.hid (show NewQ B m w (.slice av ds.length kv) ds wr.drew from ⟨HQ.out.blk, HQ.out.own, fun i D hi => ⟨(HQ.out.dict i D hi).1, (HQ.out.dict i D hi).2.keep (G := fun _ => False) (Turn.refl _ wr).drew (fun k e h => h)⟩, HQ.out.inc, HQ.out.b.drew⟩)
      generalize wr.drew = wd at *
      have HS0 := Lib.hid (show wd.cell? ⟨B, 0, none⟩ = some (.slice av ds.length kv) from Blk.cell HQd.out.blk 0)
      refine ht_take hP (by kernel_rfl) 0 (some 27) (.pointer (some ⟨B, 0, none⟩)) rfl rfl (by kernel_rfl) rfl (fun w' hS' => by have cc := hS'; go_simp; first | done | rfl) HS0.out ?_
      simp only [Act.put, List.setIfInBounds_toArray, List.set_cons_zero, List.set_cons_succ]
      refine ht_take hP (by kernel_rfl) 1 (some 28) (.pointer (some ⟨B, 0, none⟩)) rfl rfl (by kernel_rfl) rfl (fun w' hS' => by have cc := hS'; go_simp; first | done | rfl) HS0.out ?_
      simp only [Act.put, List.setIfInBounds_toArray, List.set_cons_zero, List.set_cons_succ]
      refine ht_take hP (by kernel_rfl) 2 (some 29) (.pointer (some ⟨B, 0, none⟩)) rfl rfl (by kernel_rfl) rfl (fun w' hS' => by have cc := hS'; go_simp; first | done | rfl) HS0.out ?_
      simp only [Act.put, List.setIfInBounds_toArray, List.set_cons_zero, List.set_cons_succ]
      refine ht_take hP (by kernel_rfl) 3 (some 30) (.pointer (some ⟨B, 0, none⟩)) rfl rfl (by kernel_rfl) rfl (fun w' hS' => by have cc := hS'; go_simp; first | done | rfl) HS0.out ?_
      simp only [Act.put, List.setIfInBounds_toArray, List.set_cons_zero, List.set_cons_succ]
      refine ht_take hP (by kernel_rfl) 4 (some 31) (.slice av ds.length kv) rfl rfl (by kernel_rfl) rfl (fun w' hS' => by have cc := hS'; go_simp; first | done | rfl) HS0.out ?_
      simp only [Act.put, List.setIfInBounds_toArray, List.set_cons_zero, List.set_cons_succ]
      refine hl_call 5 (some 32) rfl rfl (by kernel_rfl) rfl 23 #[] (by go_simp) ((new23 wd).mono ?_)
      rintro e w5 ⟨rfl, rfl⟩
      have HC5 := Lib.hid (Blk.cell (HQd.out.blk.alloc (Obj.cells #[.slice none 0 0, .map none, .pointer none] 78)) 0)
      refine ⟨_, rfl, HC5.out, ?_⟩
      simp only [Act.put, List.setIfInBounds_toArray, List.set_cons_zero, List.set_cons_succ]
      refine hl_val 6 (some 33) rfl rfl (by kernel_rfl) rfl (.slice (some ⟨wd.heap.size + 1, 0, none⟩) 1 1) ((wd.alloc (Obj.cells #[.slice none 0 0, .map none, .pointer none] 78)).alloc (Obj.cells #[ptrV wd.heap.size] 55)) (by unfold ptrV; go_simp) (Blk.cell ((HQd.out.blk.alloc _).alloc _) 0) ?_
      simp only [Act.put, List.setIfInBounds_toArray, List.set_cons_zero, List.set_cons_succ]
      refine hl_append 7 (some 34) rfl rfl (by kernel_rfl) rfl _ _ 46 rfl (B + 1) 55 i0 (.pointer none) 1 8 Try.underlying46 hi0 hz0 hz1 hz2 rfl (by decide) _ ds.length _ rfl ((HQd.out.own.alloc _).alloc _) ⟨wd.heap.size + 1, 0, none⟩ 1 1 [ptrV wd.heap.size] rfl rfl (by have := cell_one_new' (wd.alloc (Obj.cells #[.slice none 0 0, .map none, .pointer none] 78)) 55 (ptrV wd.heap.size); simpa using this) (by intro u hu; simp at hu; subst hu; rfl) (by unfold maxLen; omega) (by omega) (by have := HQd.out.blk.lt; simp; omega) ?_
      intro v' w6 hown6 hgrow hat
      have HQ7 := Lib.hid (HQd.out.push (by have := HBB.out; omega) hown6 hgrow)
      have hb6 := Blk.grown ((HQd.out.blk.alloc (Obj.cells #[.slice none 0 0, .map none, .pointer none] 78)).alloc (Obj.cells #[ptrV wd.heap.size] 55)) hgrow (fun e => by have := (HQd.out.own.lt _ e.symm).1; omega)
      obtain ⟨v6a, v6k, rfl⟩ := owns_form hown6
      refine ⟨Blk.cell hb6 0, ?_⟩
      simp only [Act.put, List.setIfInBounds_toArray, List.set_cons_zero, List.set_cons_succ]
      refine ht_take hP (by kernel_rfl) 8 (some 35) (.pointer (some ⟨B, 0, none⟩)) rfl rfl (by kernel_rfl) rfl (fun w' hS' => by have cc := hS'; go_simp; first | done | rfl) (Blk.cell hb6 0) ?_
      simp only [Act.put, List.setIfInBounds_toArray, List.set_cons_zero, List.set_cons_succ]
      refine ht_take hP (by kernel_rfl) 9 (some 36) (.pointer (some ⟨B, 0, none⟩)) rfl rfl (by kernel_rfl) rfl (fun w' hS' => by have cc := hS'; go_simp; first | done | rfl) (Blk.cell hb6 0) ?_
      simp only [Act.put, List.setIfInBounds_toArray, List.set_cons_zero, List.set_cons_succ]
      have f6 : w6.frozen? ⟨B, 0, none⟩ = false := Blk.free hb6 0
      have c6 : w6.cell? ⟨B, 0, none⟩ = some (.slice av ds.length kv) := Blk.cell hb6 0
      refine hl_end rfl rfl (by kernel_rfl) (by kernel_rfl) rfl (w6.setCell ⟨B, 0, none⟩ (.slice v6a (ds.length + 1) v6k)) (by go_simp) ?_
      clear f6 c6 hP HS0 HC5 hown6 hgrow hat hb6
      go_wp2_with fail
      go_roundw
      case rel => exact ⟨ds ++ [wd.heap.size], _, by simp; omega, by rw [List.length_append]; go_num, HQ7.out⟩
      case measure => simp [intOf]; omega
    · have hkI : decide ((ds.length : Int) < d) = false := decide_eq_false (by omega)
      have hdl : ds.length = d := by omega
      have HC := Lib.hid (HQ.out.core (by have := HBB.out; omega) (by omega) hm)
      rw [hdl] at HC
      have hBB := HBB.out
      subst hBB
      go_wp2_with fail
      go_ret2
      exact ⟨rfl, HQ.out.b, HC.out⟩
end Go.Proofs.Ytdpgpcffhhdpiaa
