/- Expand: the walk. -/
import Derived.Test.YtbcnmkdlaoaoeaaJ
import Derived.Laws.EntriesVeiled
import Derived.Test.YtbcnmkdlaoaoeaaBase13
namespace Go.Proofs.Ytbcnmkdlaoaoeaa
open Go.RowKit
set_option linter.unusedVariables false
set_option linter.unusedSimpArgs false

theorem any_take {α : Type} (l : List α) (p : α → Bool) (d : α) (k : Nat) (h : k < l.length) : (l.take (k + 1)).any p = ((l.take k).any p || p (l.getD k d)) := by
  rw [List.take_add_one, List.getElem?_eq_getElem h, List.any_append, List.getD_eq_getElem?_getD, List.getElem?_eq_getElem h]
  simp


theorem ES.below {b0 b6 b7 : Nat} {vd ve : Value} {f : Nat → List Nat} {k : Nat} {vs : List Value} {w w' : World} (h : ES b0 b6 b7 vd f k ve vs w) (hB : Below w.heap.size w w') : ES b0 b6 b7 vd f k ve vs w' :=
  ⟨Blk.below h.box hB h.box.lt, Blk.below h.fn hB h.fn.lt, Blk.below h.eb hB h.eb.lt, owns_below h.own hB (Nat.le_refl _), fun j hj => ⟨owns_below (h.row j hj).1 hB (Nat.le_refl _), (h.row j hj).2⟩, h.ord⟩
theorem Try.info22 : (Try.prog.info? 22).map (fun i => (i.zero, i.size, i.bytes)) = some (some (.slice none 0 0), 1, 24) := by kernel_rfl
set_option maxRecDepth 100000 in
set_option maxHeartbeats 8000000 in
theorem expand8 (vd vg : Value) (dims : List ByteArray) (gs : List Grp) (w : World) (hd : RowS w.heap.size w vd dims) (hg : RowG w.heap.size w vg gs) (hbytes : gs.length * 24 ≤ 140737488351232) :
    Calls Try.prog 8 #[vd, vg] w fun e w' => ∃ v, e = .returned (.tuple #[v, .int .i64 (expandL dims gs).2]) ∧ RowI w'.heap.size w' v ((expandL dims gs).1.map fun n : Nat => (n : Int)) ∧ Below w.heap.size w w' := by
  obtain ⟨ad, kd, rfl, hkd, hmd, -⟩ := hd.open
  obtain ⟨ag, kg, hvg, hkg, hmg, hcg⟩ := hg.open
  subst hvg
  by_cases h6 : 6 < dims.length
  · have hex : expandL dims gs = ([], 1) := by unfold expandL; rw [if_pos (.inl h6)]
    rw [hex]
    have hI : decide ((6 : Int) < dims.length) = true := decide_eq_true (by omega)
    have HB := Lib.hid (Below.al (Below.refl w.heap.size w) (Obj.cells #[.slice ad dims.length kd] 24))
    clear hd hg hcg hex
    go_enter Try.func8, Try.ntmps8
    go_wp2_with fail
    go_ret2
    exact ⟨_, rfl, RowI.nil _ _, HB.out⟩
  · have hI : decide ((6 : Int) < dims.length) = false := decide_eq_false (by omega)
    have hB0 := Below.al (Below.refl w.heap.size w) (Obj.cells #[.slice ad dims.length kd] 24)
    have hA := any16 (.slice ag gs.length kg) gs (w.alloc (Obj.cells #[.slice ad dims.length kd] 24)) (hg.mono hB0 hB0.size)
    have hbox : Blk (w.alloc (Obj.cells #[.slice ad dims.length kd] 24)) w.heap.size 24 #[.slice ad dims.length kd] := Blk.new _ _ _
    have HBX := Lib.hid hbox
    have HB0 := Lib.hid hB0
    clear hbox hB0
    cases hq : gs.any fun g => !(soundB g)
    rotate_left
    · have hex : expandL dims gs = ([], 1) := by unfold expandL; rw [if_pos (.inr hq)]
      rw [hex]
      rw [hq] at hA
      have HA := Lib.hid hA
      clear hd hg hcg hex hA hq
      go_enter Try.func8, Try.ntmps8
      go_wp2_with (go_at_call 16; refine HA.out.mono ?_; rintro e w1 ⟨rfl, hB1⟩)
      go_ret2
      exact ⟨_, rfl, RowI.nil _ _, Below.call HB0.out hB1⟩
    · rw [hq] at hA
      have HA := Lib.hid hA
      have HQ := Lib.hid hq
      have HCG := Lib.hid hcg
      have HD := Lib.hid hd
      clear hd hg hcg hA hq
      go_enter Try.func8, Try.ntmps8
      go_wp2_with (go_at_call 16; refine HA.out.mono ?_; rintro e w1 ⟨rfl, hB1⟩)
      have hsz1 : w.heap.size + 1 ≤ w1.heap.size := by have := hB1.size; simpa using this
      have hBw1 := Below.call HB0.out hB1
      have hbx1 := Blk.below HBX.out hB1 HBX.out.lt
      clear hB1
      obtain ⟨i0, hi0, hz0, hz1, hz2⟩ := info_parts Try.info22
      go_loopw [8, 23] (fun em i wr => ∃ (k : Nat) (ve : Value) (vs : List Value), k ≤ gs.length ∧ i = .int .i64 k ∧ em = .bool ((gs.take k).any fun g => decide (ownN g = 0)) ∧ (gs.take k).any (badB dims) = false ∧ ES w.heap.size w1.heap.size (w1.heap.size + 1) (.slice ad dims.length kd) (fun j => ownL dims (gs.getD j zeroG)) k ve vs wr ∧ Below w.heap.size w wr) (fun _ i _ => gs.length - (intOf i).toNat)
      case atStart => exact ⟨0, _, [], by omega, rfl, by simp, by simp, ⟨(hbx1.alloc _).alloc _, Blk.alloc (Blk.newAt _ _ _ rfl) _, Blk.newAt _ _ _ (by simp), World.ownsRow_nil _ _ _ _, fun j hj => absurd hj (by omega), by omega, by omega⟩, Below.al (Below.al hBw1 _) _⟩
      case round =>
        obtain ⟨k, ve, vs, hk, rfl, rfl, hbad, hES, hB⟩ := hrel
        obtain ⟨ae, ke, hve⟩ := owns_form hES.own
        subst hve
        have HES := Lib.hid hES
        have HB := Lib.hid hB
        have HBAD := Lib.hid hbad
        have hszr := hB.size
        have hlb7 := hES.eb.lt
        clear hES hB hbad
        by_cases hlt : k < gs.length
        · have hI2 : (k : Int) < gs.length := by omega
          obtain ⟨bg, og, rfl, hbg, hcells⟩ := HCG.out (by omega)
          obtain ⟨vc, vs', x0, x1, x2, r1, r2⟩ := hcells k hlt
          have hmem : gs.getD k zeroG ∈ gs := by rw [List.getD_eq_getElem?_getD, List.getElem?_eq_getElem hlt]; exact List.getElem_mem hlt
          have hso : soundB (gs.getD k zeroG) = true := by have := List.any_eq_false.1 HQ.out _ hmem; simpa using this
          have hany : badB dims (gs.getD k zeroG) = true → expandL dims gs = ([], 42) := fun h => by
            unfold expandL
            rw [if_neg (by rw [HQ.out]; simp; omega), if_pos (List.any_eq_true.2 ⟨_, hmem, h⟩)]
          obtain ⟨g, hgk⟩ : ∃ g, gs.getD k zeroG = g := ⟨_, rfl⟩
          rw [hgk] at x0 r1 r2 hso hany
          obtain ⟨kind, cols, sets⟩ := g
          simp only at x0 r1 r2
          obtain ⟨ac, kc, rfl, -⟩ := r1.open
          obtain ⟨sa, ks, rfl, -⟩ := r2.open
          have y0 := (HB.out.cell (p := ⟨bg, og + k * 3, none⟩) (by exact hbg)).trans x0
          have y1 := (HB.out.cell (p := ⟨bg, og + k * 3 + 1, none⟩) (by exact hbg)).trans x1
          have y2 := (HB.out.cell (p := ⟨bg, og + k * 3 + 2, none⟩) (by exact hbg)).trans x2
          have HY := Lib.hid (And.intro y0 (And.intro y1 y2))
          have HRR := Lib.hid (And.intro (HD.out.mono HB.out hszr) (And.intro (r1.mono HB.out hszr) (r2.mono HB.out hszr)))
          have hload : ∀ j, j < (#[Value.int .i64 kind, .slice ac cols.length kc, .slice sa sets.length ks] : Array Value).size → wr.cell? ⟨bg, og + k * 3 + j, none⟩ = (#[Value.int .i64 kind, .slice ac cols.length kc, .slice sa sets.length ks] : Array Value)[j]? := fun j hj => by
            have hj3 : j < 3 := hj
            match j, hj3 with
            | 0, _ => exact HY.out.1
            | 1, _ => exact HY.out.2.1
            | 2, _ => exact HY.out.2.2
          have HLD := Lib.hid hload
          have HGK := Lib.hid hgk
          have HSO := Lib.hid hso
          have HANY := Lib.hid hany
          have hAl := Below.al (Below.refl wr.heap.size wr) (Obj.cells #[.int .i64 kind, .slice ac cols.length kc, .slice sa sets.length ks] 32)
          have HK := Lib.hid (known19 _ w.heap.size (.slice ad dims.length kd) dims (wr.alloc (Obj.cells #[.int .i64 kind, .slice ac cols.length kc, .slice sa sets.length ks] 32)) (.slice ac cols.length kc) cols (HES.out.box.alloc _) (HRR.out.1.mono hAl (Nat.le_refl _)) (HRR.out.2.1.mono hAl (Nat.le_refl _)))
          have HA2 := Lib.hid (any23 _ w.heap.size w1.heap.size (.slice ad dims.length kd) dims (wr.alloc (Obj.cells #[.int .i64 kind, .slice ac cols.length kc, .slice sa sets.length ks] 32)) (.slice sa sets.length ks) sets (HES.out.box.alloc _) (HES.out.fn.alloc _) (HRR.out.1.mono hAl (Nat.le_refl _)) (HRR.out.2.2.mono hAl (Nat.le_refl _)))
          have c6 : (wr.alloc (Obj.cells #[.int .i64 kind, .slice ac cols.length kc, .slice sa sets.length ks] 32)).cell? ⟨w1.heap.size, 0, none⟩ = some (.func (Fn.func 19) #[] #[.pointer (some ⟨w.heap.size, 0, none⟩)]) := Blk.cell (HES.out.fn.alloc _) 0
          clear hcells x0 x1 x2 y0 y1 y2 r1 r2 hmem hso hany hgk hload hAl HCG
          by_cases hk4 : kind = 4
          · subst hk4
            cases hbg2 : badB dims ⟨4, cols, sets⟩
            · have e4 : (sets.any fun l => !(knownB dims l)) = false := by rw [← hbg2]; rfl
              rw [e4] at HA2
              clear e4 HK
              have HBG := Lib.hid hbg2
              clear hbg2
              go_upto_region 9 with (refine wpList_load_at rfl 32 _ rfl bg (og + k * 3) rfl #[.int .i64 4, .slice ac cols.length kc, .slice sa sets.length ks] _ HLD.out Try.underlying32 rfl info32 ?_)
              go_upto_region 11 with (go_at_call 23; refine HA2.out.mono ?_; rintro e w2 ⟨rfl, rfl⟩)
              refine hl_start (fun w' => Below (w1.heap.size + 2) (wr.alloc (Obj.cells #[.int .i64 4, .slice ac cols.length kc, .slice sa sets.length ks] 32)) w' ∧ Blk w' wr.heap.size 32 #[.int .i64 4, .slice ac cols.length kc, .slice sa sets.length ks]) 6 7 rfl (by kernel_rfl) (fun c a a' w hd h => ⟨hd ▸ h.1, h.2⟩) (fun hP => ?_)
              rw [show Array.replicate 7 false = #[false, false, false, false, false, false, false] from rfl]
              obtain ⟨wd, hwd⟩ : ∃ wd, wd = (wr.alloc (Obj.cells #[.int .i64 4, .slice ac cols.length kc, .slice sa sets.length ks] 32)).drew := ⟨_, rfl⟩
              have hBd : Below (wr.heap.size + 1) (wr.alloc (Obj.cells #[.int .i64 4, .slice ac cols.length kc, .slice sa sets.length ks] 32)) wd := by rw [hwd]; exact (Below.refl _ _).drew
              have hBw : Below wr.heap.size wr wd := by rw [hwd]; exact ((Below.refl _ _).alloc (Nat.le_refl _) _).drew
              have hblk : Blk wd wr.heap.size 32 #[.int .i64 4, .slice ac cols.length kc, .slice sa sets.length ks] := by rw [hwd]; exact Blk.drew (Blk.new _ _ _)
              have hdz : wd.heap.size = wr.heap.size + 1 := by rw [hwd]; simp
              rw [← hwd]
              clear hwd
              have hESd := HES.out.below hBw
              have hlb := HES.out.eb.lt
              have HS0 := Lib.hid (And.intro (show Below (w1.heap.size + 2) _ _ from hBd.mono (by omega)) hblk)
              have HRD := Lib.hid ((HRR.out.1).mono hBw (by omega : wr.heap.size ≤ wd.heap.size))
              have HRC := Lib.hid ((HRR.out.2.1).mono hBw (by omega : wr.heap.size ≤ wd.heap.size))
              have HRS := Lib.hid ((HRR.out.2.2).mono hBw (by omega : wr.heap.size ≤ wd.heap.size))
              have HESD := Lib.hid hESd
              have HBD := Lib.hid hBw
              have HDZ := Lib.hid hdz
              clear hBd hblk hESd hBw hdz
              have hc0 : ∀ w', Below (w1.heap.size + 2) (wr.alloc (Obj.cells #[.int .i64 4, .slice ac cols.length kc, .slice sa sets.length ks] 32)) w' → w'.cell? ⟨w.heap.size, 0, none⟩ = some (.slice ad dims.length kd) := fun w' h => Blk.cell (Blk.below (HES.out.box.alloc _) h (by have := HES.out.ord; omega)) 0
              have HC0 := Lib.hid hc0
              clear hc0
              refine hl_take hP (by kernel_rfl) 1 (some 49) (.slice ad dims.length kd) rfl rfl (by kernel_rfl) rfl (fun w' hS' => by have cc := HC0.out w' hS'.1; go_simp; first | done | rfl) HS0.out ?_
              simp only [Act.put, List.setIfInBounds_toArray, List.set_cons_zero, List.set_cons_succ]
              refine hl_load_at hP (by kernel_rfl) 2 (some 50) rfl rfl (by kernel_rfl) rfl 32 _ rfl wr.heap.size 0 rfl #[.int .i64 4, .slice ac cols.length kc, .slice sa sets.length ks] _ (fun w' hS' j hj => by rw [Nat.zero_add]; exact Blk.cell hS'.2 j) Try.underlying32 rfl info32 HS0.out ?_
              simp only [Act.put, List.setIfInBounds_toArray, List.set_cons_zero, List.set_cons_succ]
              have hc7 : ∀ w', Below (w1.heap.size + 2) (wr.alloc (Obj.cells #[.int .i64 4, .slice ac cols.length kc, .slice sa sets.length ks] 32)) w' → w'.cell? ⟨w1.heap.size + 1, 0, none⟩ = some (.slice ae k ke) := fun w' h => Blk.cell (Blk.below (HES.out.eb.alloc _) h (by omega)) 0
              have HC7 := Lib.hid hc7
              clear hc7
              refine hl_take hP (by kernel_rfl) 0 (some 48) (.slice ae k ke) rfl rfl (by kernel_rfl) rfl (fun w' hS' => by have cc := HC7.out w' hS'.1; go_simp; first | done | rfl) HS0.out ?_
              simp only [Act.put, List.setIfInBounds_toArray, List.set_cons_zero, List.set_cons_succ]
              refine hl_call 3 (some 51) rfl rfl (by kernel_rfl) rfl 25 #[.slice ad dims.length kd, .agg #[.int .i64 4, .slice ac cols.length kc, .slice sa sets.length ks]] (by go_simp) ((own25 (.slice ad dims.length kd) dims ⟨4, cols, sets⟩ (.slice ac cols.length kc) (.slice sa sets.length ks) wd HRD.out HRC.out HRS.out HSO.out).mono ?_)
              rintro e w3 ⟨vn, rfl, hn, hB3⟩
              obtain ⟨an, kn, rfl⟩ := owns_form hn
              have hz3 := hB3.size
              rw [HDZ.out] at hz3
              have HS3 := Lib.hid (And.intro (HS0.out.1.trans (show Below (w1.heap.size + 2) _ _ from hB3.mono (by rw [HDZ.out]; omega))) (Blk.below HS0.out.2 hB3 (by rw [HDZ.out]; omega)))
              refine ⟨_, rfl, HS3.out, ?_⟩
              simp only [Act.put, List.setIfInBounds_toArray, List.set_cons_zero, List.set_cons_succ]
              refine hl_val 4 (some 52) rfl rfl (by kernel_rfl) rfl (.slice (some ⟨w3.heap.size, 0, none⟩) 1 1) (w3.alloc (Obj.cells #[.slice an (ownN ⟨4, cols, sets⟩) kn] 22)) (by go_simp) ⟨HS3.out.1.alloc (by omega) _, HS3.out.2.alloc _⟩ ?_
              simp only [Act.put, List.setIfInBounds_toArray, List.set_cons_zero, List.set_cons_succ]
              have own3 := (owns_below HESD.out.own hB3 (Nat.le_refl _)).alloc (Obj.cells #[.slice an (ownN ⟨4, cols, sets⟩) kn] 22)
              refine hl_append 5 (some 53) rfl rfl (by kernel_rfl) rfl _ _ 48 rfl (w1.heap.size + 1 + 1) 22 i0 (.slice none 0 0) 1 24 Try.underlying48 hi0 hz0 hz1 hz2 rfl (by decide) _ k vs rfl own3 ⟨w3.heap.size, 0, none⟩ 1 1 [.slice an (ownN ⟨4, cols, sets⟩) kn] rfl rfl (cell_one_new' _ _ _) (by intro u hu; simp at hu; subst hu; rfl) (by unfold maxLen; omega) (by omega) (by simp; omega) ?_
              intro v' w4 hown4 hgrow hat
              have hpush := HESD.out.push hB3 (by show w3.ownsRow wd.heap.size 3 1 _ (ownL dims (gs.getD k zeroG)).length (natV (ownL dims (gs.getD k zeroG))); rw [HGK.out, ownL_len]; exact hn) hown4 hgrow hat
              obtain ⟨v4a, v4k, rfl⟩ := owns_form hown4
              have hS4 : Below (w1.heap.size + 2) (wr.alloc (Obj.cells #[.int .i64 4, .slice ac cols.length kc, .slice sa sets.length ks] 32)) w4 ∧ Blk w4 wr.heap.size 32 #[.int .i64 4, .slice ac cols.length kc, .slice sa sets.length ks] :=
                ⟨(HS3.out.1.alloc (by omega) _).grown hgrow (by simp; omega) (fun b hb => by have := (own3.lt b hb).1; omega), Blk.grown (HS3.out.2.alloc _) hgrow (fun e => by have h1 := (HES.out.own.lt _ e.symm).2; omega)⟩
              refine ⟨hS4, ?_⟩
              simp only [Act.put, List.setIfInBounds_toArray, List.set_cons_zero, List.set_cons_succ]
              have f4 : w4.frozen? ⟨w1.heap.size + 1, 0, none⟩ = false := Blk.free (Blk.grown ((Blk.below HESD.out.eb hB3 HESD.out.eb.lt).alloc _) hgrow (fun e => by have h1 := (HES.out.own.lt _ e.symm).1; omega)) 0
              have c4 : w4.cell? ⟨w1.heap.size + 1, 0, none⟩ = some (.slice ae k ke) := Blk.cell (Blk.grown ((Blk.below HESD.out.eb hB3 HESD.out.eb.lt).alloc _) hgrow (fun e => by have h1 := (HES.out.own.lt _ e.symm).1; omega)) 0
              refine hl_end rfl rfl (by kernel_rfl) (by kernel_rfl) rfl (w4.setCell ⟨w1.heap.size + 1, 0, none⟩ (.slice v4a (k + 1) v4k)) (by go_simp) ?_
              clear f4 c4 hS4 hP HS3 HS0 HC0 HC7 own3 hgrow hat hown4
              have hBall := HB.out.trans ((HBD.out.mono (by omega : w.heap.size ≤ wr.heap.size)).trans (hpush.2.mono (by have := HES.out.ord; omega)))
              obtain ⟨hESz, -⟩ := hpush
              generalize w4.setCell ⟨w1.heap.size + 1, 0, none⟩ (.slice v4a (k + 1) v4k) = wz at *
              obtain ⟨h5l, a5, k5, hv5, h51, h52, h53⟩ := Row.of_owns hESz.own
              have h52' := h52
              injection hv5 with e1 e2 e3
              subst e1 e3
              clear e2
              have h54 : v4k ≤ 9223372036854775807 := by simpa [maxLen] using h52
              clear h52'
              obtain ⟨b5, o5, ha5, hb5, hc5⟩ := h53 (by omega)
              subst ha5
              have hcv := hc5 k (by omega)
              have hvl : vs.length = k := by have := HES.out.own.1; simpa using this
              rw [show (vs ++ [Value.slice an (ownN ⟨4, cols, sets⟩) kn]).getD k undef = Value.slice an (ownN ⟨4, cols, sets⟩) kn by simp [List.getD_eq_getElem?_getD, ← hvl]] at hcv
              have cz : wz.cell? ⟨w1.heap.size + 1, 0, none⟩ = some (.slice (some ⟨b5, o5, none⟩) (k + 1) v4k) := Blk.cell hESz.eb 0
              have HEZ := Lib.hid (And.intro hESz hBall)
              clear hESz hBall hc5 h53 h5l hvl hn hB3 HESD HRD HRC HRS HBD HDZ HES hz3 h52
              obtain ⟨N, hN⟩ : ∃ N, ownN ⟨4, cols, sets⟩ = N := ⟨_, rfl⟩
              rw [hN] at hcv HEZ
              have HNN := Lib.hid hN
              clear hN
              cases hem : (gs.take k).any fun g => decide (ownN g = 0)
              all_goals by_cases hN0 : N = 0
              all_goals
                have HEM := Lib.hid hem
                clear hem
                have hNI : (((N : Int) == 0) = decide (N = 0)) := by by_cases h : N = 0 <;> simp [h]
                simp only [hN0, decide_true, decide_false] at hNI
                have HN0 := Lib.hid hN0
                clear hN0
                go_wp2_with fail
                go_roundw
                case rel => exact ⟨k + 1, _, _, by omega, by go_num, by rw [any_take _ _ zeroG k hlt, HEM.out, HGK.out, HNN.out]; simp [HN0.out], by rw [any_take _ _ zeroG k hlt, HBAD.out, HGK.out, HBG.out]; rfl, HEZ.out.1, HEZ.out.2⟩
                case measure => simp [intOf]; omega
            · have e4 : (sets.any fun l => !(knownB dims l)) = true := by rw [← hbg2]; rfl
              rw [e4] at HA2
              clear e4 HK
              have HBG := Lib.hid hbg2
              clear hbg2
              go_upto_region 9 with (refine wpList_load_at rfl 32 _ rfl bg (og + k * 3) rfl #[.int .i64 4, .slice ac cols.length kc, .slice sa sets.length ks] _ HLD.out Try.underlying32 rfl info32 ?_)
              go_wp2_with (go_at_call 23; refine HA2.out.mono ?_; rintro e w2 ⟨rfl, rfl⟩)
              go_ret2
              rw [HANY.out HBG.out]
              exact ⟨_, rfl, RowI.nil _ _, Below.al HB.out _⟩
          · cases hbg2 : badB dims ⟨kind, cols, sets⟩
            · have e4 : knownB dims cols = true := by have h := hbg2; unfold badB at h; rw [if_neg hk4] at h; simpa using h
              rw [e4] at HK
              have d1 : (kind != 4) = true := by simpa using hk4
              have d2 : (kind == 4) = false := by simpa using hk4
              clear e4 HA2
              have HBG := Lib.hid hbg2
              clear hbg2
              go_upto_region 9 with (refine wpList_load_at rfl 32 _ rfl bg (og + k * 3) rfl #[.int .i64 kind, .slice ac cols.length kc, .slice sa sets.length ks] _ HLD.out Try.underlying32 rfl info32 ?_)
              go_upto_region 11 with (go_at_call 19; refine HK.out.mono ?_; rintro e w2 ⟨rfl, rfl⟩)
              refine hl_start (fun w' => Below (w1.heap.size + 2) (wr.alloc (Obj.cells #[.int .i64 kind, .slice ac cols.length kc, .slice sa sets.length ks] 32)) w' ∧ Blk w' wr.heap.size 32 #[.int .i64 kind, .slice ac cols.length kc, .slice sa sets.length ks]) 6 7 rfl (by kernel_rfl) (fun c a a' w hd h => ⟨hd ▸ h.1, h.2⟩) (fun hP => ?_)
              rw [show Array.replicate 7 false = #[false, false, false, false, false, false, false] from rfl]
              obtain ⟨wd, hwd⟩ : ∃ wd, wd = (wr.alloc (Obj.cells #[.int .i64 kind, .slice ac cols.length kc, .slice sa sets.length ks] 32)).drew := ⟨_, rfl⟩
              have hBd : Below (wr.heap.size + 1) (wr.alloc (Obj.cells #[.int .i64 kind, .slice ac cols.length kc, .slice sa sets.length ks] 32)) wd := by rw [hwd]; exact (Below.refl _ _).drew
              have hBw : Below wr.heap.size wr wd := by rw [hwd]; exact ((Below.refl _ _).alloc (Nat.le_refl _) _).drew
              have hblk : Blk wd wr.heap.size 32 #[.int .i64 kind, .slice ac cols.length kc, .slice sa sets.length ks] := by rw [hwd]; exact Blk.drew (Blk.new _ _ _)
              have hdz : wd.heap.size = wr.heap.size + 1 := by rw [hwd]; simp
              rw [← hwd]
              clear hwd
              have hESd := HES.out.below hBw
              have hlb := HES.out.eb.lt
              have HS0 := Lib.hid (And.intro (show Below (w1.heap.size + 2) _ _ from hBd.mono (by omega)) hblk)
              have HRD := Lib.hid ((HRR.out.1).mono hBw (by omega : wr.heap.size ≤ wd.heap.size))
              have HRC := Lib.hid ((HRR.out.2.1).mono hBw (by omega : wr.heap.size ≤ wd.heap.size))
              have HRS := Lib.hid ((HRR.out.2.2).mono hBw (by omega : wr.heap.size ≤ wd.heap.size))
              have HESD := Lib.hid hESd
              have HBD := Lib.hid hBw
              have HDZ := Lib.hid hdz
              clear hBd hblk hESd hBw hdz
              have hc0 : ∀ w', Below (w1.heap.size + 2) (wr.alloc (Obj.cells #[.int .i64 kind, .slice ac cols.length kc, .slice sa sets.length ks] 32)) w' → w'.cell? ⟨w.heap.size, 0, none⟩ = some (.slice ad dims.length kd) := fun w' h => Blk.cell (Blk.below (HES.out.box.alloc _) h (by have := HES.out.ord; omega)) 0
              have HC0 := Lib.hid hc0
              clear hc0
              refine hl_take hP (by kernel_rfl) 1 (some 49) (.slice ad dims.length kd) rfl rfl (by kernel_rfl) rfl (fun w' hS' => by have cc := HC0.out w' hS'.1; go_simp; first | done | rfl) HS0.out ?_
              simp only [Act.put, List.setIfInBounds_toArray, List.set_cons_zero, List.set_cons_succ]
              refine hl_load_at hP (by kernel_rfl) 2 (some 50) rfl rfl (by kernel_rfl) rfl 32 _ rfl wr.heap.size 0 rfl #[.int .i64 kind, .slice ac cols.length kc, .slice sa sets.length ks] _ (fun w' hS' j hj => by rw [Nat.zero_add]; exact Blk.cell hS'.2 j) Try.underlying32 rfl info32 HS0.out ?_
              simp only [Act.put, List.setIfInBounds_toArray, List.set_cons_zero, List.set_cons_succ]
              have hc7 : ∀ w', Below (w1.heap.size + 2) (wr.alloc (Obj.cells #[.int .i64 kind, .slice ac cols.length kc, .slice sa sets.length ks] 32)) w' → w'.cell? ⟨w1.heap.size + 1, 0, none⟩ = some (.slice ae k ke) := fun w' h => Blk.cell (Blk.below (HES.out.eb.alloc _) h (by omega)) 0
              have HC7 := Lib.hid hc7
              clear hc7
              refine hl_take hP (by kernel_rfl) 0 (some 48) (.slice ae k ke) rfl rfl (by kernel_rfl) rfl (fun w' hS' => by have cc := HC7.out w' hS'.1; go_simp; first | done | rfl) HS0.out ?_
              simp only [Act.put, List.setIfInBounds_toArray, List.set_cons_zero, List.set_cons_succ]
              refine hl_call 3 (some 51) rfl rfl (by kernel_rfl) rfl 25 #[.slice ad dims.length kd, .agg #[.int .i64 kind, .slice ac cols.length kc, .slice sa sets.length ks]] (by go_simp) ((own25 (.slice ad dims.length kd) dims ⟨kind, cols, sets⟩ (.slice ac cols.length kc) (.slice sa sets.length ks) wd HRD.out HRC.out HRS.out HSO.out).mono ?_)
              rintro e w3 ⟨vn, rfl, hn, hB3⟩
              obtain ⟨an, kn, rfl⟩ := owns_form hn
              have hz3 := hB3.size
              rw [HDZ.out] at hz3
              have HS3 := Lib.hid (And.intro (HS0.out.1.trans (show Below (w1.heap.size + 2) _ _ from hB3.mono (by rw [HDZ.out]; omega))) (Blk.below HS0.out.2 hB3 (by rw [HDZ.out]; omega)))
              refine ⟨_, rfl, HS3.out, ?_⟩
              simp only [Act.put, List.setIfInBounds_toArray, List.set_cons_zero, List.set_cons_succ]
              refine hl_val 4 (some 52) rfl rfl (by kernel_rfl) rfl (.slice (some ⟨w3.heap.size, 0, none⟩) 1 1) (w3.alloc (Obj.cells #[.slice an (ownN ⟨kind, cols, sets⟩) kn] 22)) (by go_simp) ⟨HS3.out.1.alloc (by omega) _, HS3.out.2.alloc _⟩ ?_
              simp only [Act.put, List.setIfInBounds_toArray, List.set_cons_zero, List.set_cons_succ]
              have own3 := (owns_below HESD.out.own hB3 (Nat.le_refl _)).alloc (Obj.cells #[.slice an (ownN ⟨kind, cols, sets⟩) kn] 22)
              refine hl_append 5 (some 53) rfl rfl (by kernel_rfl) rfl _ _ 48 rfl (w1.heap.size + 1 + 1) 22 i0 (.slice none 0 0) 1 24 Try.underlying48 hi0 hz0 hz1 hz2 rfl (by decide) _ k vs rfl own3 ⟨w3.heap.size, 0, none⟩ 1 1 [.slice an (ownN ⟨kind, cols, sets⟩) kn] rfl rfl (cell_one_new' _ _ _) (by intro u hu; simp at hu; subst hu; rfl) (by unfold maxLen; omega) (by omega) (by simp; omega) ?_
              intro v' w4 hown4 hgrow hat
              have hpush := HESD.out.push hB3 (by show w3.ownsRow wd.heap.size 3 1 _ (ownL dims (gs.getD k zeroG)).length (natV (ownL dims (gs.getD k zeroG))); rw [HGK.out, ownL_len]; exact hn) hown4 hgrow hat
              obtain ⟨v4a, v4k, rfl⟩ := owns_form hown4
              have hS4 : Below (w1.heap.size + 2) (wr.alloc (Obj.cells #[.int .i64 kind, .slice ac cols.length kc, .slice sa sets.length ks] 32)) w4 ∧ Blk w4 wr.heap.size 32 #[.int .i64 kind, .slice ac cols.length kc, .slice sa sets.length ks] :=
                ⟨(HS3.out.1.alloc (by omega) _).grown hgrow (by simp; omega) (fun b hb => by have := (own3.lt b hb).1; omega), Blk.grown (HS3.out.2.alloc _) hgrow (fun e => by have h1 := (HES.out.own.lt _ e.symm).2; omega)⟩
              refine ⟨hS4, ?_⟩
              simp only [Act.put, List.setIfInBounds_toArray, List.set_cons_zero, List.set_cons_succ]
              have f4 : w4.frozen? ⟨w1.heap.size + 1, 0, none⟩ = false := Blk.free (Blk.grown ((Blk.below HESD.out.eb hB3 HESD.out.eb.lt).alloc _) hgrow (fun e => by have h1 := (HES.out.own.lt _ e.symm).1; omega)) 0
              have c4 : w4.cell? ⟨w1.heap.size + 1, 0, none⟩ = some (.slice ae k ke) := Blk.cell (Blk.grown ((Blk.below HESD.out.eb hB3 HESD.out.eb.lt).alloc _) hgrow (fun e => by have h1 := (HES.out.own.lt _ e.symm).1; omega)) 0
              refine hl_end rfl rfl (by kernel_rfl) (by kernel_rfl) rfl (w4.setCell ⟨w1.heap.size + 1, 0, none⟩ (.slice v4a (k + 1) v4k)) (by go_simp) ?_
              clear f4 c4 hS4 hP HS3 HS0 HC0 HC7 own3 hgrow hat hown4
              have hBall := HB.out.trans ((HBD.out.mono (by omega : w.heap.size ≤ wr.heap.size)).trans (hpush.2.mono (by have := HES.out.ord; omega)))
              obtain ⟨hESz, -⟩ := hpush
              generalize w4.setCell ⟨w1.heap.size + 1, 0, none⟩ (.slice v4a (k + 1) v4k) = wz at *
              obtain ⟨h5l, a5, k5, hv5, h51, h52, h53⟩ := Row.of_owns hESz.own
              have h52' := h52
              injection hv5 with e1 e2 e3
              subst e1 e3
              clear e2
              have h54 : v4k ≤ 9223372036854775807 := by simpa [maxLen] using h52
              clear h52'
              obtain ⟨b5, o5, ha5, hb5, hc5⟩ := h53 (by omega)
              subst ha5
              have hcv := hc5 k (by omega)
              have hvl : vs.length = k := by have := HES.out.own.1; simpa using this
              rw [show (vs ++ [Value.slice an (ownN ⟨kind, cols, sets⟩) kn]).getD k undef = Value.slice an (ownN ⟨kind, cols, sets⟩) kn by simp [List.getD_eq_getElem?_getD, ← hvl]] at hcv
              have cz : wz.cell? ⟨w1.heap.size + 1, 0, none⟩ = some (.slice (some ⟨b5, o5, none⟩) (k + 1) v4k) := Blk.cell hESz.eb 0
              have HEZ := Lib.hid (And.intro hESz hBall)
              clear hESz hBall hc5 h53 h5l hvl hn hB3 HESD HRD HRC HRS HBD HDZ HES hz3 h52
              obtain ⟨N, hN⟩ : ∃ N, ownN ⟨kind, cols, sets⟩ = N := ⟨_, rfl⟩
              rw [hN] at hcv HEZ
              have HNN := Lib.hid hN
              clear hN
              cases hem : (gs.take k).any fun g => decide (ownN g = 0)
              all_goals by_cases hN0 : N = 0
              all_goals
                have HEM := Lib.hid hem
                clear hem
                have hNI : (((N : Int) == 0) = decide (N = 0)) := by by_cases h : N = 0 <;> simp [h]
                simp only [hN0, decide_true, decide_false] at hNI
                have HN0 := Lib.hid hN0
                clear hN0
                go_wp2_with fail
                go_roundw
                case rel => exact ⟨k + 1, _, _, by omega, by go_num, by rw [any_take _ _ zeroG k hlt, HEM.out, HGK.out, HNN.out]; simp [HN0.out], by rw [any_take _ _ zeroG k hlt, HBAD.out, HGK.out, HBG.out]; rfl, HEZ.out.1, HEZ.out.2⟩
                case measure => simp [intOf]; omega
            · have e4 : knownB dims cols = false := by have h := hbg2; unfold badB at h; rw [if_neg hk4] at h; simpa using h
              rw [e4] at HK
              have d1 : (kind != 4) = true := by simpa using hk4
              have d2 : (kind == 4) = false := by simpa using hk4
              clear e4 HA2
              have HBG := Lib.hid hbg2
              clear hbg2
              go_upto_region 9 with (refine wpList_load_at rfl 32 _ rfl bg (og + k * 3) rfl #[.int .i64 kind, .slice ac cols.length kc, .slice sa sets.length ks] _ HLD.out Try.underlying32 rfl info32 ?_)
              go_wp2_with (go_at_call 19; refine HK.out.mono ?_; rintro e w2 ⟨rfl, rfl⟩)
              go_ret2
              rw [HANY.out HBG.out]
              exact ⟨_, rfl, RowI.nil _ _, Below.al HB.out _⟩
        · have hk' : k = gs.length := by omega
          subst hk'
          rw [List.take_length] at HBAD
          rw [List.take_length]
          have hI2 : decide ((gs.length : Int) < gs.length) = false := by simp
          cases hem : (gs.any fun g => decide (ownN g = 0))
          rotate_left
          · have hex : expandL dims gs = ([], 0) := by
              unfold expandL
              rw [if_neg (by rw [HQ.out]; simp; omega), if_neg (by rw [HBAD.out]; simp), if_pos hem]
            have HEX := Lib.hid hex
            clear hex hem
            go_wp2_with fail
            go_ret2
            rw [HEX.out]
            exact ⟨_, rfl, RowI.nil _ _, HB.out⟩
          · have hex : expandL dims gs = if 64 < (choices dims gs).length then ([], 46) else (choices dims gs, 0) := by
              unfold expandL
              rw [if_neg (by rw [HQ.out]; simp; omega), if_neg (by rw [HBAD.out]; simp), if_neg (by rw [hem]; simp)]
            have HEX := Lib.hid hex
            clear hex hem
            have hrows := HES.out.rows (gs.map (ownL dims)) (by simp) (fun j hj => by simp [List.getD_eq_getElem?_getD, hj])
            obtain ⟨wc, hwc⟩ : ∃ wc, wc = (wr.alloc (Obj.cells #[.slice none 0 0] 22)).alloc (Obj.cells #[.func (Fn.func 26) #[] #[.pointer (some ⟨wr.heap.size, 0, none⟩), .pointer (some ⟨w1.heap.size + 1, 0, none⟩), .pointer (some ⟨wr.heap.size + 1, 0, none⟩)]] 51) := ⟨_, rfl⟩
            have hBc : Below wr.heap.size wr wc := by rw [hwc]; exact Below.al (Below.al (Below.refl _ _) _) _
            have hCS : CS wr.heap.size (w1.heap.size + 1) (wr.heap.size + 1) (.slice ae gs.length ke) (gs.map (ownL dims)) wc (.slice none 0 0) [] := by
              refine ⟨?_, World.ownsRow_nil _ _ _ _, Blk.below HES.out.eb hBc HES.out.eb.lt, hrows.mono hBc (Nat.le_refl _), ?_, by omega, by omega⟩
              · rw [hwc]; exact Blk.alloc (Blk.new _ _ _) _
              · rw [hwc]; exact Blk.newAt _ _ _ (by simp)
            have hcr := cross26 wr.heap.size (w1.heap.size + 1) (wr.heap.size + 1) (.slice ae gs.length ke) (gs.map (ownL dims)) (by intro l hl; rw [List.mem_map] at hl; obtain ⟨g, _, rfl⟩ := hl; exact ownL_lt dims g) gs.length 0 0 [] _ wc (by simp) (by omega) (by simp) hCS
            rw [List.nil_append, List.drop_zero, show prodL (gs.map (ownL dims)) 0 = choices dims gs from rfl, show ((0 : Nat) : Int) = 0 from rfl] at hcr
            have HCR := Lib.hid hcr
            have HBC := Lib.hid hBc
            clear hcr hrows hBc hCS
            go_upto_region 19 with fail
            rw [← hwc]
            have cfc : wc.cell? ⟨wr.heap.size + 1, 0, none⟩ = some (.func (Fn.func 26) #[] #[.pointer (some ⟨wr.heap.size, 0, none⟩), .pointer (some ⟨w1.heap.size + 1, 0, none⟩), .pointer (some ⟨wr.heap.size + 1, 0, none⟩)]) := by rw [hwc]; exact Blk.cell (Blk.newAt _ _ _ (by simp)) 0
            clear hwc
            go_upto_region 20 with (go_at_call 26; refine HCR.out.mono ?_; rintro e w5 ⟨v5, r5, rfl, hC5, hB5⟩)
            obtain ⟨a5, k5, rfl⟩ := owns_form hC5.own
            have c5 : w5.cell? ⟨wr.heap.size, 0, none⟩ = some (.slice a5 ((choices dims gs).take 65).length k5) := Blk.cell hC5.out 0
            have hBfin := HB.out.trans ((HBC.out.trans hB5).mono (by omega : w.heap.size ≤ wr.heap.size))
            by_cases h64 : 64 < (choices dims gs).length
            · have hex2 := HEX.out
              rw [if_pos h64] at hex2
              have HEX2 := Lib.hid hex2
              clear hex2
              have hl : ((choices dims gs).take 65).length = 65 := by simp; omega
              rw [hl] at c5
              have HBF := Lib.hid hBfin
              clear hC5 hB5 hBfin hl h64
              go_wp2_with fail
              go_ret2
              rw [HEX2.out]
              exact ⟨_, rfl, RowI.nil _ _, HBF.out⟩
            · have hex2 := HEX.out
              rw [if_neg h64] at hex2
              have HEX2 := Lib.hid hex2
              clear hex2
              have hl : (choices dims gs).take 65 = choices dims gs := List.take_of_length_le (by omega)
              rw [hl] at c5 hC5
              have hI64 : decide ((64 : Int) < (choices dims gs).length) = false := decide_eq_false (by omega)
              have hrow := RowI.of_nat hC5.own
              have hcl := clip27 w5.heap.size _ _ w5 hrow
              have HCL := Lib.hid hcl
              have HBF := Lib.hid hBfin
              clear hC5 hB5 hBfin hl hrow hcl
              go_wp2_with (go_at_call 27; refine HCL.out.mono ?_; rintro e w6 ⟨v6, rfl, hr6, rfl⟩)
              go_ret2
              rw [HEX2.out]
              exact ⟨_, rfl, hr6, HBF.out⟩
end Go.Proofs.Ytbcnmkdlaoaoeaa
