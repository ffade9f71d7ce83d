/- FactsFull: the walk. -/
import Derived.Test.YtdpgpcffhhdpiaaU
namespace Go.Proofs.Ytdpgpcffhhdpiaa
open Go.RowKit Go.Maps
set_option linter.unusedVariables false
set_option linter.unusedSimpArgs false

theorem byteV_two {i k : Nat} (hi : i < 256) (hk : k < 256) : (byteV [i.toUInt8, k.toUInt8]).toArray = #[.int .u8 (i : Int), .int .u8 (k : Int)] := by
  unfold byteV
  simp only [List.map_cons, List.map_nil, Nat.toUInt8_eq, UInt8.toNat_ofNat']
  rw [show i % 2 ^ 8 = i by omega, show k % 2 ^ 8 = k by omega]
theorem conv_two (w : World) {i k : Nat} (hi : i < 256) (hk : k < 256) : (convert 37 9 (.slice (some ⟨w.heap.size, 0, none⟩) 2 2)).run Try.prog (w.alloc (Obj.cells #[.int .u8 (i : Int), .int .u8 (k : Int)] 5)) = .ok (.string (two i k)) (w.alloc (Obj.cells #[.int .u8 (i : Int), .int .u8 (k : Int)] 5)) := by
  have h := owns_bytes (base := 0) (Blk.new w 5 (byteV [i.toUInt8, k.toUInt8]).toArray) rfl (show (2 : Nat) ≤ maxLen by decide) (Nat.zero_le _)
  rw [byteV_two hi hk] at h
  exact run_conv_own Try.underlying37 Try.underlying5 Try.underlying9 h
theorem FactsP.below {A : Nat} {w w' : World} {v : Value} {l : List FactT} {ps : List (Value × Value)} (h : FactsP A w v l ps) (hB : Below w.heap.size w w') : FactsP A w' v l ps :=
  h.turn (Turn.of_below (F := fun _ => False) hB (fun k h1 h2 => by omega)) (fun k h => h.elim)
theorem FactsP.nil (A : Nat) (w : World) : FactsP A w (.slice none 0 0) [] [] := ⟨rfl, World.ownsRow_nil _ _ _ _, fun k f p hf => by simp at hf⟩
theorem FactsP.grow {A : Nat} {w w0 w5 : World} {v vd vm : Value} {l : List FactT} {ps : List (Value × Value)} (h : FactsP A w v l ps) (hA : A ≤ w.heap.size) (hB : Below A w0 w) (hg : (w.alloc (Obj.cells #[vd, vm] 41)).grownBy w5 v.ownBlock) : Below A w0 w5 := by
  have ht : Turn (fun g => v.ownBlock = some g) w w5 := ((Turn.refl (fun g => v.ownBlock = some g) w).alloc _).grown hg (fun g hg => hg)
  exact hB.trans (ht.below hA (fun k hk hg => by have := (h.2.1.lt k hg).1; omega))

/-- what was built for one old and one new fact -/
structure SixB (w : World) (n : Nat) (s t : ByteArray) : Prop where
  s0 : Blk w n 9 #[.string s]
  s1 : Blk w (n + 1) 2 #[.int .i64 2]
  s2 : Blk w (n + 2) 41 #[.slice (some ⟨n, 0, none⟩) 1 1, .slice (some ⟨n + 1, 0, none⟩) 1 1]
  t0 : Blk w (n + 3) 9 #[.string t]
  t1 : Blk w (n + 4) 2 #[.int .i64 3]
  t2 : Blk w (n + 5) 41 #[.slice (some ⟨n + 3, 0, none⟩) 1 1, .slice (some ⟨n + 4, 0, none⟩) 1 1]
theorem SixB.below {w w' : World} {n : Nat} {s t : ByteArray} (h : SixB w n s t) (hB : Below w.heap.size w w') : SixB w' n s t :=
  ⟨h.s0.below hB h.s0.lt, h.s1.below hB h.s1.lt, h.s2.below hB h.s2.lt, h.t0.below hB h.t0.lt, h.t1.below hB h.t1.lt, h.t2.below hB h.t2.lt⟩
theorem SixB.new (w : World) (s t : ByteArray) : SixB ((((((w.alloc (Obj.cells #[.string s] 9)).alloc (Obj.cells #[.int .i64 2] 2)).alloc (Obj.cells #[.slice (some ⟨w.heap.size, 0, none⟩) 1 1, .slice (some ⟨w.heap.size + 1, 0, none⟩) 1 1] 41)).alloc (Obj.cells #[.string t] 9)).alloc (Obj.cells #[.int .i64 3] 2)).alloc (Obj.cells #[.slice (some ⟨w.heap.size + 3, 0, none⟩) 1 1, .slice (some ⟨w.heap.size + 4, 0, none⟩) 1 1] 41)) w.heap.size s t :=
  ⟨((((((Blk.new w 9 _).alloc _).alloc _).alloc _).alloc _).alloc _), (((((Blk.newAt _ 2 _ (by simp)).alloc _).alloc _).alloc _).alloc _), ((((Blk.newAt _ 41 _ (by simp)).alloc _).alloc _).alloc _), (((Blk.newAt _ 9 _ (by simp)).alloc _).alloc _), ((Blk.newAt _ 2 _ (by simp)).alloc _), (Blk.newAt _ 41 _ (by simp))⟩
/-- facts whose own row lies higher than their texts -/
def FactsR (A A2 : Nat) (w : World) (v : Value) (l : List FactT) (ps : List (Value × Value)) : Prop := FactsP A w v l ps ∧ w.ownsRow A2 41 2 v l.length (ps.flatMap (fun p => [p.1, p.2]))
theorem FactsR.below {A A2 : Nat} {w w' : World} {v : Value} {l : List FactT} {ps : List (Value × Value)} (h : FactsR A A2 w v l ps) (hB : Below w.heap.size w w') : FactsR A A2 w' v l ps := ⟨h.1.below hB, owns_b1 h.2 hB⟩
theorem FactsR.push {A A2 : Nat} {w w5 : World} {v v' vd vm : Value} {l : List FactT} {f : FactT} {ps : List (Value × Value)} (h : FactsR A A2 w v l ps) (hA : A ≤ A2) (hA2 : A2 ≤ w.heap.size) (hd : w.ownsRow A 9 1 vd f.dims.length (f.dims.map .string)) (hm : w.ownsRow A 2 1 vm f.meas.length (f.meas.map (.int .i64)))
    (hown : w5.ownsRow A2 41 2 v' (l.length + 1) (ps.flatMap (fun p => [p.1, p.2]) ++ [vd, vm])) (hg : (w.alloc (Obj.cells #[vd, vm] 41)).grownBy w5 v.ownBlock) : FactsR A A2 w5 v' (l ++ [f]) (ps ++ [(vd, vm)]) := by
  refine ⟨h.1.push (Nat.le_trans hA hA2) hd hm (owns_lower hown hA) hg, ?_⟩
  rw [List.length_append, List.flatMap_append]
  simpa using hown
theorem FactsR.grow {A A2 : Nat} {w w0 w5 : World} {v vd vm : Value} {l : List FactT} {ps : List (Value × Value)} (h : FactsR A A2 w v l ps) (hA : A2 ≤ w.heap.size) (hB : Below A2 w0 w) (hg : (w.alloc (Obj.cells #[vd, vm] 41)).grownBy w5 v.ownBlock) : Below A2 w0 w5 := by
  have ht : Turn (fun g => v.ownBlock = some g) w w5 := ((Turn.refl (fun g => v.ownBlock = some g) w).alloc _).grown hg (fun g hg => hg)
  exact hB.trans (ht.below hA (fun k hk hg => by have := (h.2.lt k hg).1; omega))
theorem FactsP.one {A : Nat} {w : World} {v : Value} {l : List FactT} {ps : List (Value × Value)} (h : FactsP A w v l ps) : ∀ u ∈ ps.flatMap (fun p => [p.1, p.2]), u.oneCell' = true := fun u hu => by
  rw [List.mem_flatMap] at hu
  obtain ⟨p, hp, hu⟩ := hu
  obtain ⟨k, hk, rfl⟩ := List.getElem_of_mem hp
  obtain ⟨h1, h2⟩ := h.2.2 k (l[k]'(by rw [← h.1]; exact hk)) _ (List.getElem?_eq_getElem _) (List.getElem?_eq_getElem hk)
  obtain ⟨a1, c1, e1⟩ := owns_form h1
  obtain ⟨a2, c2, e2⟩ := owns_form h2
  simp only [List.mem_cons, List.not_mem_nil, or_false] at hu
  rcases hu with rfl | rfl
  · rw [e1]; rfl
  · rw [e2]; rfl
theorem FactsR.copy {A A2 : Nat} {w w5 : World} {v v' : Value} {l : List FactT} {ps : List (Value × Value)} (h : FactsR A A2 w v l ps) (hA : A ≤ w.heap.size) (hown : w5.ownsRow w.heap.size 41 2 v' l.length (ps.flatMap (fun p => [p.1, p.2]))) (hB : Below w.heap.size w w5) : FactsR A w.heap.size w5 v' l ps :=
  ⟨⟨h.1.1, owns_lower hown hA, (h.1.below hB).2.2⟩, hown⟩
theorem grown_none {w w5 : World} (h : w.grownBy w5 none) : Below w.heap.size w w5 := ⟨h.os, h.tape, h.output, h.size, fun k hk => h.block k hk (by simp)⟩
theorem short_olds {base : ByteArray} (hb : base.size ≤ 60) (k : Nat) : ∀ f ∈ olds base k, shortF f := fun f hf s hs => by
  unfold olds at hf
  rw [List.mem_replicate] at hf
  rw [hf.2] at hs
  simp only [List.mem_singleton] at hs
  subst hs
  rw [ByteArray.size_append]
  have e : (⟨#[3, 4]⟩ : ByteArray).size = 2 := rfl
  omega
theorem short_with {base : ByteArray} (hb : base.size ≤ 60) (k : Nat) : ∀ f ∈ olds base k ++ [freshF base], shortF f := fun f hf => by
  rw [List.mem_append] at hf
  rcases hf with hf | hf
  · exact short_olds hb k f hf
  · rw [List.mem_singleton] at hf
    subst hf
    intro s hs
    simp only [freshF, List.mem_singleton] at hs
    subst hs
    rw [ByteArray.size_append]
    have e : (⟨#[110, 101, 119]⟩ : ByteArray).size = 3 := rfl
    omega
theorem olds_succ (base : ByteArray) (k : Nat) : olds base (k + 1) = olds base k ++ [⟨[base ++ ⟨#[3, 4]⟩], [2]⟩] := by unfold olds; rw [List.replicate_succ']
theorem olds_len (base : ByteArray) (k : Nat) : (olds base k).length = k := by simp [olds]
theorem short_bat {base : ByteArray} (hb : base.size ≤ 60) (i : Nat) : ∀ f ∈ batF base i, shortF f := fun f hf s hs => by
  unfold batF at hf
  rw [List.mem_map] at hf
  obtain ⟨k, -, rfl⟩ := hf
  simp only [fb, List.mem_singleton] at hs
  subst hs
  rw [ByteArray.size_append]
  have e : (two i k).size = 2 := rfl
  omega

set_option maxRecDepth 100000 in
set_option maxHeartbeats 32000000 in
theorem full5 (base0 : ByteArray) (hb0 : base0.size ≤ 140737488351232) (c : Int) (hc : allInt c) (w : World) : Calls Try.prog 5 #[.string base0, .int .i64 c] w fun e w' => e = .returned (.bool true) ∧ Below w.heap.size w w' := by
  obtain ⟨i0, hi0, hz0, hz1, hz2⟩ := info_parts info41'
  have HC := Lib.hid hc
  have HAW := Lib.hid (awake8 w)
  clear hc
  by_cases hlong : 60 < base0.size
  · have hd0 : decide (60 < (base0.size : Int)) = true := decide_eq_true (by omega)
    go_enter Try.func5, Try.ntmps5
    go_wp2_with fail
    refine HAW.out.mono ?_
    rintro e w1 ⟨rfl, hB1⟩
    have HB1 := Lib.hid hB1
    have HN := Lib.hid (newS 1 1 (by omega) (by omega) w1)
    unfold intV ptrV at HN
    clear hB1
    go_wp2_with fail
    refine HN.out.mono ?_
    rintro e w2 ⟨rfl, hS⟩
    have HS := Lib.hid hS
    clear hS HN
    go_upto_region 7 with fail
    have HL := Lib.hid (show (base0.extract 0 60).size ≤ 60 by rw [ByteArray.size_extract]; omega)
    generalize base0.extract 0 60 = base at *
    go_wp2_with fail
    go_loopw [8] (fun s wr => ∃ i A : Nat, i ≤ 64 ∧ s = .int .i64 i ∧ Sto w1 A w1.heap.size wr 1 1 (batsF base i)) (fun s _ => 64 - (intOf s).toNat)
    case atStart => exact ⟨0, _, by omega, rfl, HS.out⟩
    case round =>
      obtain ⟨i, A, hi, rfl, hS⟩ := hrel
      by_cases hlt : i < 64
      · have hd1 : decide ((i : Int) < 64) = true := decide_eq_true (by omega)
        have HSi := Lib.hid hS
        clear hS
        obtain ⟨w3, hw3⟩ : ∃ w3, w3 = wr := ⟨_, rfl⟩
        subst hw3
        go_wp2_with fail
        go_loopw [9, 10] (fun v t wr2 => ∃ (k : Nat) (ps : List (Value × Value)), k ≤ 64 ∧ t = .int .i64 k ∧ FactsP w3.heap.size wr2 v ((List.range k).map (fb base i)) ps ∧ Below w3.heap.size w3 wr2) (fun _ t _ => 64 - (intOf t).toNat)
        case atStart => exact ⟨0, [], by omega, rfl, FactsP.nil _ _, Below.refl _ _⟩
        case round =>
          obtain ⟨k, ps, hk, rfl, hf, hB⟩ := hrel
          by_cases hlt2 : k < 64
          · obtain ⟨av, kv, hv⟩ := owns_form hf.2.1
            simp only [List.length_map, List.length_range] at hv
            subst hv
            have hcv := conv_two wr (i := i) (k := k) (by omega) (by omega)
            have hadd := fun w : World => run_string_add_sum (P := Try.prog) w base (two i k) (by have h1 := HL.out; have h2 : (two i k).size = 2 := rfl; omega)
            have hA := hB.size
            have d0 := (Below.al (Below.al (Below.al (Below.refl wr.heap.size wr) (Obj.cells #[.int .u8 (i : Int), .int .u8 (k : Int)] 5)) (Obj.cells #[.string (base ++ two i k)] 9)) (Obj.cells #[.int .i64 1] 2))
            have d1 := (Blk.newAt (wr.alloc (Obj.cells #[.int .u8 (i : Int), .int .u8 (k : Int)] 5)) 9 #[.string (base ++ two i k)] (b := wr.heap.size + 1) (by simp)).alloc (Obj.cells #[.int .i64 1] 2)
            have d2 := Blk.newAt ((wr.alloc (Obj.cells #[.int .u8 (i : Int), .int .u8 (k : Int)] 5)).alloc (Obj.cells #[.string (base ++ two i k)] 9)) 2 #[.int .i64 1] (b := wr.heap.size + 2) (by simp)
            have HD := Lib.hid (And.intro d0 (And.intro d1 d2))
            have HP := Lib.hid (And.intro hf hB)
            have HPW := Lib.hid (hf.below d0)
            clear hf hB d0 d1 d2
            go_upto_region 13 with (at_builtin; refine wpList_append_own5 _ rfl _ _ 30 rfl w3.heap.size 41 i0 _ 2 48 Try.underlying30 hi0 hz0 hz1 hz2 rfl (by decide) (.slice av k kv) k _ rfl (by have := HPW.out.2.1; simp only [List.length_map, List.length_range] at this; exact this.alloc (Obj.cells #[.slice (some ⟨wr.heap.size + 1, 0, none⟩) 1 1, .slice (some ⟨wr.heap.size + 2, 0, none⟩) 1 1] 41)) ⟨wr.heap.size + 3, 0, none⟩ 1 1 [.slice (some ⟨wr.heap.size + 1, 0, none⟩) 1 1, .slice (some ⟨wr.heap.size + 2, 0, none⟩) 1 1] rfl rfl (by have := cell_two_new ((((wr.alloc (Obj.cells #[.int .u8 (i : Int), .int .u8 (k : Int)] 5)).alloc (Obj.cells #[.string (base ++ two i k)] 9)).alloc (Obj.cells #[.int .i64 1] 2))) 41 (.slice (some ⟨wr.heap.size + 1, 0, none⟩) 1 1) (.slice (some ⟨wr.heap.size + 2, 0, none⟩) 1 1); simpa using this) (by intro u hu; simp at hu; rcases hu with rfl | rfl <;> rfl) (by unfold maxLen; omega) (by omega) (by simp; omega) ?_; intro v' w5 hown5 hgrow hat; obtain ⟨v5a, v5c, hv5⟩ := owns_form hown5; subst hv5)
            have hpush := HPW.out.push (f := fb base i k) (by simp; omega) (owns_full (l := [.string (base ++ two i k)]) HD.out.2.1 rfl (show (1 : Nat) ≤ maxLen by decide) (by omega)) (owns_full (l := [.int .i64 1]) HD.out.2.2 rfl (show (1 : Nat) ≤ maxLen by decide) (by omega)) (by simp only [List.length_map, List.length_range]; exact hown5) hgrow
            have hB5 := HPW.out.grow (w0 := w3) (by simp; omega) (HP.out.2.trans (HD.out.1.mono hA)) hgrow
            have HR := Lib.hid (And.intro hpush hB5)
            clear hpush hB5 hown5 hgrow hat hcv hadd
            go_wp2_with fail
            go_roundw
            case rel => exact ⟨k + 1, _, by omega, by go_num, by rw [List.range_succ, List.map_append]; exact HR.out.1, HR.out.2⟩
            case measure => simp [intOf]; omega
          · obtain rfl : k = 64 := by omega
            obtain ⟨av, kv, hv⟩ := owns_form hf.2.1
            simp only [List.length_map, List.length_range] at hv
            subst hv
            have HAP := Lib.hid (appendS (HSi.out.step hB) (.slice av 64 kv) (batF base i) (FactsN.lower ⟨ps, hf⟩ HSi.out.le) (short_bat HL.out i) (by rw [flat_bats_len]; unfold batsF; simp; omega))
            rw [ck_bat HL.out hlt] at HAP
            unfold intV ptrV at HAP
            clear hf
            go_wp2_with fail
            refine HAP.out.mono ?_
            rintro e w5 hh
            rcases hh with ⟨h0, -⟩ | ⟨-, rfl, -, hS5⟩
            · exact absurd rfl h0
            have HS5 := Lib.hid hS5
            clear hS5 HAP
            have hbl : (batsF base i).length = i := by simp [batsF]
            simp only [hbl]
            clear hbl
            go_wp2_with fail
            go_roundw
            case rel => exact ⟨i + 1, w5.heap.size, by omega, by go_num, by rw [batsF_succ]; exact HS5.out⟩
            case measure => simp [intOf]; omega
      · obtain rfl : i = 64 := by omega
        have hbs := HL.out
        have HS64 := Lib.hid hS
        clear hS
        go_wp2_with fail
        have HB6 := Lib.hid (Below.al (Below.al (Below.al (Below.al (Below.al (Below.al (Below.refl wr.heap.size wr) (Obj.cells #[.string (base ++ ⟨#[3, 4]⟩)] 9)) (Obj.cells #[.int .i64 2] 2)) (Obj.cells #[.slice (some ⟨wr.heap.size, 0, none⟩) 1 1, .slice (some ⟨wr.heap.size + 1, 0, none⟩) 1 1] 41)) (Obj.cells #[.string (base ++ ⟨#[110, 101, 119]⟩)] 9)) (Obj.cells #[.int .i64 3] 2)) (Obj.cells #[.slice (some ⟨wr.heap.size + 3, 0, none⟩) 1 1, .slice (some ⟨wr.heap.size + 4, 0, none⟩) 1 1] 41))
        have H6 := Lib.hid (SixB.new wr (base ++ ⟨#[3, 4]⟩) (base ++ ⟨#[110, 101, 119]⟩))
        generalize (((((wr.alloc (Obj.cells #[.string (base ++ ⟨#[3, 4]⟩)] 9)).alloc (Obj.cells #[.int .i64 2] 2)).alloc (Obj.cells #[.slice (some ⟨wr.heap.size, 0, none⟩) 1 1, .slice (some ⟨wr.heap.size + 1, 0, none⟩) 1 1] 41)).alloc (Obj.cells #[.string (base ++ ⟨#[110, 101, 119]⟩)] 9)).alloc (Obj.cells #[.int .i64 3] 2)).alloc (Obj.cells #[.slice (some ⟨wr.heap.size + 3, 0, none⟩) 1 1, .slice (some ⟨wr.heap.size + 4, 0, none⟩) 1 1] 41) = w6 at *
        have HC15 := Lib.hid (cut15 c HC.out 20 (by omega) w6)
        have hK := cutN_le c 20
        refine HC15.out.mono ?_
        rintro e w7 ⟨rfl, rfl⟩
        obtain ⟨n, hn⟩ : ∃ n, wr.heap.size = n := ⟨_, rfl⟩
        rw [hn] at H6 HB6 ⊢
        have HS6 := Lib.hid (HS64.out.step (hn.symm ▸ HB6.out))
        have HNA := Lib.hid (hn ▸ HS64.out.le)
        have HN6 := Lib.hid (show n + 6 ≤ w6.heap.size by have := H6.out.t2.lt; omega)
        clear hn HC15
        generalize cutN c 20 = K at *
        go_wp2_with fail
        go_loopw [16, 17] (fun v t wr2 => ∃ (j : Nat) (ps : List (Value × Value)), j ≤ K ∧ t = .int .i64 j ∧ FactsR n w6.heap.size wr2 v (olds base j) ps ∧ Below w6.heap.size w6 wr2) (fun _ t _ => K - (intOf t).toNat)
        case atStart => exact ⟨0, [], by omega, rfl, ⟨FactsP.nil _ _, World.ownsRow_nil _ _ _ _⟩, Below.refl _ _⟩
        case round =>
          obtain ⟨k, ps, hk, rfl, hf, hB⟩ := hrel
          by_cases hlt2 : k < K
          · obtain ⟨av, kv, hv⟩ := owns_form hf.2
            rw [olds_len] at hv
            subst hv
            have HP := Lib.hid (And.intro hf hB)
            have H7 := Lib.hid (H6.out.below hB)
            have hA := hB.size
            clear hf hB
            go_upto_region 24 with (first | (refine wpList_load_at rfl 41 _ rfl (n + 2) 0 rfl #[.slice (some ⟨n, 0, none⟩) 1 1, .slice (some ⟨n + 1, 0, none⟩) 1 1] _ (fun j hj => by rw [Nat.zero_add]; exact Blk.cell H7.out.s2 j) Try.underlying41 rfl info41 ?_) | (at_builtin; refine wpList_append_own5 _ rfl _ _ 30 rfl w6.heap.size 41 i0 _ 2 48 Try.underlying30 hi0 hz0 hz1 hz2 rfl (by decide) (.slice av k kv) k _ rfl (by have := HP.out.1.2; rw [olds_len] at this; exact this.alloc (Obj.cells #[.slice (some ⟨n, 0, none⟩) 1 1, .slice (some ⟨n + 1, 0, none⟩) 1 1] 41)) ⟨wr.heap.size, 0, none⟩ 1 1 [.slice (some ⟨n, 0, none⟩) 1 1, .slice (some ⟨n + 1, 0, none⟩) 1 1] rfl rfl (cell_two_new wr 41 _ _) (by intro u hu; simp at hu; rcases hu with rfl | rfl <;> rfl) (by unfold maxLen; omega) (by omega) (by simp; omega) ?_; intro v' w5 hown5 hgrow hat; obtain ⟨v5a, v5c, hv5⟩ := owns_form hown5; subst hv5))
            have hpush := HP.out.1.push (f := ⟨[base ++ ⟨#[3, 4]⟩], [2]⟩) (by have := HN6.out; omega) hA (owns_full (l := [.string (base ++ ⟨#[3, 4]⟩)]) H7.out.s0 rfl (show (1 : Nat) ≤ maxLen by decide) (by omega)) (owns_full (l := [.int .i64 2]) H7.out.s1 rfl (show (1 : Nat) ≤ maxLen by decide) (by omega)) (by rw [olds_len]; exact hown5) hgrow
            have hB5 := HP.out.1.grow hA HP.out.2 hgrow
            have HR := Lib.hid (And.intro hpush hB5)
            clear hpush hB5 hown5 hgrow hat
            go_wp2_with fail
            go_roundw
            case rel => exact ⟨k + 1, _, by omega, by go_num, by rw [olds_succ]; exact HR.out.1, HR.out.2⟩
            case measure => simp [intOf]; omega
          · obtain rfl : k = K := by omega
            go_upto_region 27 with fail
            obtain ⟨av, kv, hv⟩ := owns_form hf.2
            rw [olds_len] at hv
            subst hv
            have HP := Lib.hid (And.intro hf hB)
            have H7 := Lib.hid (H6.out.below hB)
            have hA := hB.size
            clear hf hB
            go_upto_region 28 with (at_builtin; refine wpList_append_row rfl _ _ 30 rfl wr.heap.size 41 i0 _ 2 48 Try.underlying30 hi0 hz0 hz1 hz2 rfl (by decide) (.slice none 0 0) 0 [] rfl (World.ownsRow_nil _ _ _ _) wr.heap.size (.slice av k kv) k (ps.flatMap (fun p => [p.1, p.2])) rfl (by have := Row.of_owns HP.out.1.2; rw [olds_len] at this; exact this) HP.out.1.1.one (by unfold maxLen; omega) (by omega) (Nat.le_refl _) ?_; intro v' w8 hown8 hgrow hat; obtain ⟨v8a, v8c, hv8⟩ := owns_form hown8; subst hv8)
            rw [Nat.zero_add, List.nil_append] at hown8
            have hB8 : Below wr.heap.size wr w8 := grown_none hgrow
            have hR8 := HP.out.1.copy (by have := HN6.out; omega) (by rw [olds_len]; exact hown8) hB8
            have H8 := Lib.hid (H7.out.below hB8)
            have HP8 := Lib.hid (And.intro hR8 hB8)
            have hA8 := hB8.size
            clear hown8 hgrow hat hB8 hR8
            go_upto_region 29 with (first | (refine wpList_load_at rfl 41 _ rfl (n + 5) 0 rfl #[.slice (some ⟨n + 3, 0, none⟩) 1 1, .slice (some ⟨n + 4, 0, none⟩) 1 1] _ (fun j hj => by rw [Nat.zero_add]; exact Blk.cell H8.out.t2 j) Try.underlying41 rfl info41 ?_) | (at_builtin; refine wpList_append_own5 _ rfl _ _ 30 rfl wr.heap.size 41 i0 _ 2 48 Try.underlying30 hi0 hz0 hz1 hz2 rfl (by decide) (.slice v8a k v8c) k _ rfl (by have := HP8.out.1.2; rw [olds_len] at this; exact this.alloc (Obj.cells #[.slice (some ⟨n + 3, 0, none⟩) 1 1, .slice (some ⟨n + 4, 0, none⟩) 1 1] 41)) ⟨w8.heap.size, 0, none⟩ 1 1 [.slice (some ⟨n + 3, 0, none⟩) 1 1, .slice (some ⟨n + 4, 0, none⟩) 1 1] rfl rfl (cell_two_new w8 41 _ _) (by intro u hu; simp at hu; rcases hu with rfl | rfl <;> rfl) (by unfold maxLen; omega) (by omega) (by simp; omega) ?_; intro v' w9 hown9 hgrow hat; obtain ⟨v9a, v9c, hv9⟩ := owns_form hown9; subst hv9))
            have hpush := HP8.out.1.push (f := freshF base) (by have := HN6.out; omega) hA8 (owns_full (l := [.string (base ++ ⟨#[110, 101, 119]⟩)]) H8.out.t0 rfl (show (1 : Nat) ≤ maxLen by decide) (by omega)) (owns_full (l := [.int .i64 3]) H8.out.t1 rfl (show (1 : Nat) ≤ maxLen by decide) (by omega)) (by rw [olds_len]; exact hown9) hgrow
            have hB9 := HP8.out.1.grow hA8 HP8.out.2 hgrow
            have HR := Lib.hid (And.intro hpush hB9)
            clear hpush hB9 hown9 hgrow hat
            have HS9 := Lib.hid ((HS6.out.step HP.out.2).step HR.out.2)
            have HAP := Lib.hid (appendS HS9.out (.slice v9a (k + 1) v9c) (olds base k ++ [freshF base]) (FactsN.lower ⟨_, HR.out.1.1⟩ HNA.out) (short_with hbs k) (by rw [flat_bats_len]; unfold batsF; simp))
            rw [ck_with hbs hK] at HAP
            unfold intV ptrV at HAP
            go_wp2_with fail
            refine HAP.out.mono ?_
            rintro e w10 hh
            rcases hh with ⟨-, rfl, hB10⟩ | ⟨h0, -⟩
            rotate_left
            · exact absurd h0 (by decide)
            have HL10 := Lib.hid ((HP.out.1.below HR.out.2).below hB10)
            have HS10 := Lib.hid (HS9.out.step hB10)
            clear HAP hB10
            have HAP := Lib.hid (appendS HS10.out (.slice av k kv) (olds base k) (FactsN.lower ⟨_, HL10.out.1⟩ HNA.out) (short_olds hbs k) (by rw [flat_bats_len]; unfold batsF; simp))
            rw [ck_olds hbs hK, show (batsF base 64).length = 64 by simp [batsF]] at HAP
            unfold intV ptrV at HAP
            go_wp2_with fail
            refine HAP.out.mono ?_
            rintro e w11 hh
            rcases hh with ⟨h0, -⟩ | ⟨-, rfl, -, hS11⟩
            · exact absurd rfl h0
            have HS11 := Lib.hid hS11
            have HLN := Lib.hid (lenS hS11)
            rw [full_len] at HLN
            unfold intV ptrV at HLN
            clear hS11 HAP
            go_wp2_with fail
            refine HLN.out.mono ?_
            rintro e w12 ⟨rfl, n2, rfl⟩
            have HS12 := Lib.hid (HS11.out.step (Below.drewN (Below.refl _ _) n2))
            have HV := Lib.hid (valuesS HS12.out 0 (by unfold allInt; omega))
            rw [if_pos (by omega), show (0 : Int).toNat = 0 from rfl, full_vals] at HV
            unfold intV ptrV at HV
            simp only [Int.natCast_add]
            clear HLN
            go_wp2_with fail
            refine HV.out.mono ?_
            rintro e w13 ⟨rfl, hB13⟩
            have HS13 := Lib.hid (HS12.out.step hB13)
            have HM := Lib.hid (matchS HS13.out 0 (by unfold allInt; omega) (base ++ ⟨#[110, 101, 119]⟩) (by rw [ByteArray.size_append]; have e : (⟨#[110, 101, 119]⟩ : ByteArray).size = 3 := rfl; unfold maxLen; omega) 99 (by unfold allInt; omega))
            rw [if_pos (by omega), show (0 : Int).toNat = 0 from rfl, full_match] at HM
            unfold intV ptrV at HM
            clear HV hB13
            go_wp2_with fail
            refine HM.out.mono ?_
            rintro e w14 ⟨rfl, hB14⟩
            have HB14 := Lib.hid hB14
            clear hB14
            go_wp2_with fail
            go_ret
            refine ⟨rfl, ?_⟩
            exact Below.call (Below.call HB1.out HS13.out.below) HB14.out
  · have hd0 : decide (60 < (base0.size : Int)) = false := decide_eq_false (by omega)
    go_enter Try.func5, Try.ntmps5
    go_wp2_with fail
    refine HAW.out.mono ?_
    rintro e w1 ⟨rfl, hB1⟩
    have HB1 := Lib.hid hB1
    have HN := Lib.hid (newS 1 1 (by omega) (by omega) w1)
    unfold intV ptrV at HN
    clear hB1
    go_wp2_with fail
    refine HN.out.mono ?_
    rintro e w2 ⟨rfl, hS⟩
    have HS := Lib.hid hS
    clear hS HN
    go_upto_region 7 with fail
    have HL := Lib.hid (show base0.size ≤ 60 by omega)
    generalize base0 = base at *
    go_wp2_with fail
    go_loopw [8] (fun s wr => ∃ i A : Nat, i ≤ 64 ∧ s = .int .i64 i ∧ Sto w1 A w1.heap.size wr 1 1 (batsF base i)) (fun s _ => 64 - (intOf s).toNat)
    case atStart => exact ⟨0, _, by omega, rfl, HS.out⟩
    case round =>
      obtain ⟨i, A, hi, rfl, hS⟩ := hrel
      by_cases hlt : i < 64
      · have hd1 : decide ((i : Int) < 64) = true := decide_eq_true (by omega)
        have HSi := Lib.hid hS
        clear hS
        obtain ⟨w3, hw3⟩ : ∃ w3, w3 = wr := ⟨_, rfl⟩
        subst hw3
        go_wp2_with fail
        go_loopw [9, 10] (fun v t wr2 => ∃ (k : Nat) (ps : List (Value × Value)), k ≤ 64 ∧ t = .int .i64 k ∧ FactsP w3.heap.size wr2 v ((List.range k).map (fb base i)) ps ∧ Below w3.heap.size w3 wr2) (fun _ t _ => 64 - (intOf t).toNat)
        case atStart => exact ⟨0, [], by omega, rfl, FactsP.nil _ _, Below.refl _ _⟩
        case round =>
          obtain ⟨k, ps, hk, rfl, hf, hB⟩ := hrel
          by_cases hlt2 : k < 64
          · obtain ⟨av, kv, hv⟩ := owns_form hf.2.1
            simp only [List.length_map, List.length_range] at hv
            subst hv
            have hcv := conv_two wr (i := i) (k := k) (by omega) (by omega)
            have hadd := fun w : World => run_string_add_sum (P := Try.prog) w base (two i k) (by have h1 := HL.out; have h2 : (two i k).size = 2 := rfl; omega)
            have hA := hB.size
            have d0 := (Below.al (Below.al (Below.al (Below.refl wr.heap.size wr) (Obj.cells #[.int .u8 (i : Int), .int .u8 (k : Int)] 5)) (Obj.cells #[.string (base ++ two i k)] 9)) (Obj.cells #[.int .i64 1] 2))
            have d1 := (Blk.newAt (wr.alloc (Obj.cells #[.int .u8 (i : Int), .int .u8 (k : Int)] 5)) 9 #[.string (base ++ two i k)] (b := wr.heap.size + 1) (by simp)).alloc (Obj.cells #[.int .i64 1] 2)
            have d2 := Blk.newAt ((wr.alloc (Obj.cells #[.int .u8 (i : Int), .int .u8 (k : Int)] 5)).alloc (Obj.cells #[.string (base ++ two i k)] 9)) 2 #[.int .i64 1] (b := wr.heap.size + 2) (by simp)
            have HD := Lib.hid (And.intro d0 (And.intro d1 d2))
            have HP := Lib.hid (And.intro hf hB)
            have HPW := Lib.hid (hf.below d0)
            clear hf hB d0 d1 d2
            go_upto_region 13 with (at_builtin; refine wpList_append_own5 _ rfl _ _ 30 rfl w3.heap.size 41 i0 _ 2 48 Try.underlying30 hi0 hz0 hz1 hz2 rfl (by decide) (.slice av k kv) k _ rfl (by have := HPW.out.2.1; simp only [List.length_map, List.length_range] at this; exact this.alloc (Obj.cells #[.slice (some ⟨wr.heap.size + 1, 0, none⟩) 1 1, .slice (some ⟨wr.heap.size + 2, 0, none⟩) 1 1] 41)) ⟨wr.heap.size + 3, 0, none⟩ 1 1 [.slice (some ⟨wr.heap.size + 1, 0, none⟩) 1 1, .slice (some ⟨wr.heap.size + 2, 0, none⟩) 1 1] rfl rfl (by have := cell_two_new ((((wr.alloc (Obj.cells #[.int .u8 (i : Int), .int .u8 (k : Int)] 5)).alloc (Obj.cells #[.string (base ++ two i k)] 9)).alloc (Obj.cells #[.int .i64 1] 2))) 41 (.slice (some ⟨wr.heap.size + 1, 0, none⟩) 1 1) (.slice (some ⟨wr.heap.size + 2, 0, none⟩) 1 1); simpa using this) (by intro u hu; simp at hu; rcases hu with rfl | rfl <;> rfl) (by unfold maxLen; omega) (by omega) (by simp; omega) ?_; intro v' w5 hown5 hgrow hat; obtain ⟨v5a, v5c, hv5⟩ := owns_form hown5; subst hv5)
            have hpush := HPW.out.push (f := fb base i k) (by simp; omega) (owns_full (l := [.string (base ++ two i k)]) HD.out.2.1 rfl (show (1 : Nat) ≤ maxLen by decide) (by omega)) (owns_full (l := [.int .i64 1]) HD.out.2.2 rfl (show (1 : Nat) ≤ maxLen by decide) (by omega)) (by simp only [List.length_map, List.length_range]; exact hown5) hgrow
            have hB5 := HPW.out.grow (w0 := w3) (by simp; omega) (HP.out.2.trans (HD.out.1.mono hA)) hgrow
            have HR := Lib.hid (And.intro hpush hB5)
            clear hpush hB5 hown5 hgrow hat hcv hadd
            go_wp2_with fail
            go_roundw
            case rel => exact ⟨k + 1, _, by omega, by go_num, by rw [List.range_succ, List.map_append]; exact HR.out.1, HR.out.2⟩
            case measure => simp [intOf]; omega
          · obtain rfl : k = 64 := by omega
            obtain ⟨av, kv, hv⟩ := owns_form hf.2.1
            simp only [List.length_map, List.length_range] at hv
            subst hv
            have HAP := Lib.hid (appendS (HSi.out.step hB) (.slice av 64 kv) (batF base i) (FactsN.lower ⟨ps, hf⟩ HSi.out.le) (short_bat HL.out i) (by rw [flat_bats_len]; unfold batsF; simp; omega))
            rw [ck_bat HL.out hlt] at HAP
            unfold intV ptrV at HAP
            clear hf
            go_wp2_with fail
            refine HAP.out.mono ?_
            rintro e w5 hh
            rcases hh with ⟨h0, -⟩ | ⟨-, rfl, -, hS5⟩
            · exact absurd rfl h0
            have HS5 := Lib.hid hS5
            clear hS5 HAP
            have hbl : (batsF base i).length = i := by simp [batsF]
            simp only [hbl]
            clear hbl
            go_wp2_with fail
            go_roundw
            case rel => exact ⟨i + 1, w5.heap.size, by omega, by go_num, by rw [batsF_succ]; exact HS5.out⟩
            case measure => simp [intOf]; omega
      · obtain rfl : i = 64 := by omega
        have hbs := HL.out
        have HS64 := Lib.hid hS
        clear hS
        go_wp2_with fail
        have HB6 := Lib.hid (Below.al (Below.al (Below.al (Below.al (Below.al (Below.al (Below.refl wr.heap.size wr) (Obj.cells #[.string (base ++ ⟨#[3, 4]⟩)] 9)) (Obj.cells #[.int .i64 2] 2)) (Obj.cells #[.slice (some ⟨wr.heap.size, 0, none⟩) 1 1, .slice (some ⟨wr.heap.size + 1, 0, none⟩) 1 1] 41)) (Obj.cells #[.string (base ++ ⟨#[110, 101, 119]⟩)] 9)) (Obj.cells #[.int .i64 3] 2)) (Obj.cells #[.slice (some ⟨wr.heap.size + 3, 0, none⟩) 1 1, .slice (some ⟨wr.heap.size + 4, 0, none⟩) 1 1] 41))
        have H6 := Lib.hid (SixB.new wr (base ++ ⟨#[3, 4]⟩) (base ++ ⟨#[110, 101, 119]⟩))
        generalize (((((wr.alloc (Obj.cells #[.string (base ++ ⟨#[3, 4]⟩)] 9)).alloc (Obj.cells #[.int .i64 2] 2)).alloc (Obj.cells #[.slice (some ⟨wr.heap.size, 0, none⟩) 1 1, .slice (some ⟨wr.heap.size + 1, 0, none⟩) 1 1] 41)).alloc (Obj.cells #[.string (base ++ ⟨#[110, 101, 119]⟩)] 9)).alloc (Obj.cells #[.int .i64 3] 2)).alloc (Obj.cells #[.slice (some ⟨wr.heap.size + 3, 0, none⟩) 1 1, .slice (some ⟨wr.heap.size + 4, 0, none⟩) 1 1] 41) = w6 at *
        have HC15 := Lib.hid (cut15 c HC.out 20 (by omega) w6)
        have hK := cutN_le c 20
        refine HC15.out.mono ?_
        rintro e w7 ⟨rfl, rfl⟩
        obtain ⟨n, hn⟩ : ∃ n, wr.heap.size = n := ⟨_, rfl⟩
        rw [hn] at H6 HB6 ⊢
        have HS6 := Lib.hid (HS64.out.step (hn.symm ▸ HB6.out))
        have HNA := Lib.hid (hn ▸ HS64.out.le)
        have HN6 := Lib.hid (show n + 6 ≤ w6.heap.size by have := H6.out.t2.lt; omega)
        clear hn HC15
        generalize cutN c 20 = K at *
        go_wp2_with fail
        go_loopw [16, 17] (fun v t wr2 => ∃ (j : Nat) (ps : List (Value × Value)), j ≤ K ∧ t = .int .i64 j ∧ FactsR n w6.heap.size wr2 v (olds base j) ps ∧ Below w6.heap.size w6 wr2) (fun _ t _ => K - (intOf t).toNat)
        case atStart => exact ⟨0, [], by omega, rfl, ⟨FactsP.nil _ _, World.ownsRow_nil _ _ _ _⟩, Below.refl _ _⟩
        case round =>
          obtain ⟨k, ps, hk, rfl, hf, hB⟩ := hrel
          by_cases hlt2 : k < K
          · obtain ⟨av, kv, hv⟩ := owns_form hf.2
            rw [olds_len] at hv
            subst hv
            have HP := Lib.hid (And.intro hf hB)
            have H7 := Lib.hid (H6.out.below hB)
            have hA := hB.size
            clear hf hB
            go_upto_region 24 with (first | (refine wpList_load_at rfl 41 _ rfl (n + 2) 0 rfl #[.slice (some ⟨n, 0, none⟩) 1 1, .slice (some ⟨n + 1, 0, none⟩) 1 1] _ (fun j hj => by rw [Nat.zero_add]; exact Blk.cell H7.out.s2 j) Try.underlying41 rfl info41 ?_) | (at_builtin; refine wpList_append_own5 _ rfl _ _ 30 rfl w6.heap.size 41 i0 _ 2 48 Try.underlying30 hi0 hz0 hz1 hz2 rfl (by decide) (.slice av k kv) k _ rfl (by have := HP.out.1.2; rw [olds_len] at this; exact this.alloc (Obj.cells #[.slice (some ⟨n, 0, none⟩) 1 1, .slice (some ⟨n + 1, 0, none⟩) 1 1] 41)) ⟨wr.heap.size, 0, none⟩ 1 1 [.slice (some ⟨n, 0, none⟩) 1 1, .slice (some ⟨n + 1, 0, none⟩) 1 1] rfl rfl (cell_two_new wr 41 _ _) (by intro u hu; simp at hu; rcases hu with rfl | rfl <;> rfl) (by unfold maxLen; omega) (by omega) (by simp; omega) ?_; intro v' w5 hown5 hgrow hat; obtain ⟨v5a, v5c, hv5⟩ := owns_form hown5; subst hv5))
            have hpush := HP.out.1.push (f := ⟨[base ++ ⟨#[3, 4]⟩], [2]⟩) (by have := HN6.out; omega) hA (owns_full (l := [.string (base ++ ⟨#[3, 4]⟩)]) H7.out.s0 rfl (show (1 : Nat) ≤ maxLen by decide) (by omega)) (owns_full (l := [.int .i64 2]) H7.out.s1 rfl (show (1 : Nat) ≤ maxLen by decide) (by omega)) (by rw [olds_len]; exact hown5) hgrow
            have hB5 := HP.out.1.grow hA HP.out.2 hgrow
            have HR := Lib.hid (And.intro hpush hB5)
            clear hpush hB5 hown5 hgrow hat
            go_wp2_with fail
            go_roundw
            case rel => exact ⟨k + 1, _, by omega, by go_num, by rw [olds_succ]; exact HR.out.1, HR.out.2⟩
            case measure => simp [intOf]; omega
          · obtain rfl : k = K := by omega
            go_upto_region 27 with fail
            obtain ⟨av, kv, hv⟩ := owns_form hf.2
            rw [olds_len] at hv
            subst hv
            have HP := Lib.hid (And.intro hf hB)
            have H7 := Lib.hid (H6.out.below hB)
            have hA := hB.size
            clear hf hB
            go_upto_region 28 with (at_builtin; refine wpList_append_row rfl _ _ 30 rfl wr.heap.size 41 i0 _ 2 48 Try.underlying30 hi0 hz0 hz1 hz2 rfl (by decide) (.slice none 0 0) 0 [] rfl (World.ownsRow_nil _ _ _ _) wr.heap.size (.slice av k kv) k (ps.flatMap (fun p => [p.1, p.2])) rfl (by have := Row.of_owns HP.out.1.2; rw [olds_len] at this; exact this) HP.out.1.1.one (by unfold maxLen; omega) (by omega) (Nat.le_refl _) ?_; intro v' w8 hown8 hgrow hat; obtain ⟨v8a, v8c, hv8⟩ := owns_form hown8; subst hv8)
            rw [Nat.zero_add, List.nil_append] at hown8
            have hB8 : Below wr.heap.size wr w8 := grown_none hgrow
            have hR8 := HP.out.1.copy (by have := HN6.out; omega) (by rw [olds_len]; exact hown8) hB8
            have H8 := Lib.hid (H7.out.below hB8)
            have HP8 := Lib.hid (And.intro hR8 hB8)
            have hA8 := hB8.size
            clear hown8 hgrow hat hB8 hR8
            go_upto_region 29 with (first | (refine wpList_load_at rfl 41 _ rfl (n + 5) 0 rfl #[.slice (some ⟨n + 3, 0, none⟩) 1 1, .slice (some ⟨n + 4, 0, none⟩) 1 1] _ (fun j hj => by rw [Nat.zero_add]; exact Blk.cell H8.out.t2 j) Try.underlying41 rfl info41 ?_) | (at_builtin; refine wpList_append_own5 _ rfl _ _ 30 rfl wr.heap.size 41 i0 _ 2 48 Try.underlying30 hi0 hz0 hz1 hz2 rfl (by decide) (.slice v8a k v8c) k _ rfl (by have := HP8.out.1.2; rw [olds_len] at this; exact this.alloc (Obj.cells #[.slice (some ⟨n + 3, 0, none⟩) 1 1, .slice (some ⟨n + 4, 0, none⟩) 1 1] 41)) ⟨w8.heap.size, 0, none⟩ 1 1 [.slice (some ⟨n + 3, 0, none⟩) 1 1, .slice (some ⟨n + 4, 0, none⟩) 1 1] rfl rfl (cell_two_new w8 41 _ _) (by intro u hu; simp at hu; rcases hu with rfl | rfl <;> rfl) (by unfold maxLen; omega) (by omega) (by simp; omega) ?_; intro v' w9 hown9 hgrow hat; obtain ⟨v9a, v9c, hv9⟩ := owns_form hown9; subst hv9))
            have hpush := HP8.out.1.push (f := freshF base) (by have := HN6.out; omega) hA8 (owns_full (l := [.string (base ++ ⟨#[110, 101, 119]⟩)]) H8.out.t0 rfl (show (1 : Nat) ≤ maxLen by decide) (by omega)) (owns_full (l := [.int .i64 3]) H8.out.t1 rfl (show (1 : Nat) ≤ maxLen by decide) (by omega)) (by rw [olds_len]; exact hown9) hgrow
            have hB9 := HP8.out.1.grow hA8 HP8.out.2 hgrow
            have HR := Lib.hid (And.intro hpush hB9)
            clear hpush hB9 hown9 hgrow hat
            have HS9 := Lib.hid ((HS6.out.step HP.out.2).step HR.out.2)
            have HAP := Lib.hid (appendS HS9.out (.slice v9a (k + 1) v9c) (olds base k ++ [freshF base]) (FactsN.lower ⟨_, HR.out.1.1⟩ HNA.out) (short_with hbs k) (by rw [flat_bats_len]; unfold batsF; simp))
            rw [ck_with hbs hK] at HAP
            unfold intV ptrV at HAP
            go_wp2_with fail
            refine HAP.out.mono ?_
            rintro e w10 hh
            rcases hh with ⟨-, rfl, hB10⟩ | ⟨h0, -⟩
            rotate_left
            · exact absurd h0 (by decide)
            have HL10 := Lib.hid ((HP.out.1.below HR.out.2).below hB10)
            have HS10 := Lib.hid (HS9.out.step hB10)
            clear HAP hB10
            have HAP := Lib.hid (appendS HS10.out (.slice av k kv) (olds base k) (FactsN.lower ⟨_, HL10.out.1⟩ HNA.out) (short_olds hbs k) (by rw [flat_bats_len]; unfold batsF; simp))
            rw [ck_olds hbs hK, show (batsF base 64).length = 64 by simp [batsF]] at HAP
            unfold intV ptrV at HAP
            go_wp2_with fail
            refine HAP.out.mono ?_
            rintro e w11 hh
            rcases hh with ⟨h0, -⟩ | ⟨-, rfl, -, hS11⟩
            · exact absurd rfl h0
            have HS11 := Lib.hid hS11
            have HLN := Lib.hid (lenS hS11)
            rw [full_len] at HLN
            unfold intV ptrV at HLN
            clear hS11 HAP
            go_wp2_with fail
            refine HLN.out.mono ?_
            rintro e w12 ⟨rfl, n2, rfl⟩
            have HS12 := Lib.hid (HS11.out.step (Below.drewN (Below.refl _ _) n2))
            have HV := Lib.hid (valuesS HS12.out 0 (by unfold allInt; omega))
            rw [if_pos (by omega), show (0 : Int).toNat = 0 from rfl, full_vals] at HV
            unfold intV ptrV at HV
            simp only [Int.natCast_add]
            clear HLN
            go_wp2_with fail
            refine HV.out.mono ?_
            rintro e w13 ⟨rfl, hB13⟩
            have HS13 := Lib.hid (HS12.out.step hB13)
            have HM := Lib.hid (matchS HS13.out 0 (by unfold allInt; omega) (base ++ ⟨#[110, 101, 119]⟩) (by rw [ByteArray.size_append]; have e : (⟨#[110, 101, 119]⟩ : ByteArray).size = 3 := rfl; unfold maxLen; omega) 99 (by unfold allInt; omega))
            rw [if_pos (by omega), show (0 : Int).toNat = 0 from rfl, full_match] at HM
            unfold intV ptrV at HM
            clear HV hB13
            go_wp2_with fail
            refine HM.out.mono ?_
            rintro e w14 ⟨rfl, hB14⟩
            have HB14 := Lib.hid hB14
            clear hB14
            go_wp2_with fail
            go_ret
            refine ⟨rfl, ?_⟩
            exact Below.call (Below.call HB1.out HS13.out.below) HB14.out
theorem fullLaw (s : ByteArray) (c : Int) (w : World) (hs : s.size ≤ 140737488351232) (hc : (Lit.int .i64 c).wf = true) :
    Calls Try.prog 5 #[.string s, .int .i64 c] w fun e w' => e = .returned (.bool true) ∧ Below w.heap.size w w' := full5 s hs c (wf_bd hc) w
end Go.Proofs.Ytdpgpcffhhdpiaa
