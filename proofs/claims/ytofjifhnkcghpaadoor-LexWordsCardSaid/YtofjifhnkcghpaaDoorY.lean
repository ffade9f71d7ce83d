/- LexWords' walk. -/
import Derived.Test.YtofjifhnkcghpaaDoorX
import Derived.Test.YtofjifhnkcghpaaDoorQ
namespace Go.Proofs.YtofjifhnkcghpaaDoor
open Go.RowKit
set_option linter.unusedVariables false
set_option linter.unusedSimpArgs false
set_option maxRecDepth 100000
theorem words10G (s : ByteArray) (w : World) (hs : s.size ≤ 140737488355328) {r : Except (Int × Nat) (List Wd)} (hr : lexF s = r) :
    Calls Tryd.prog 10 #[.string s] w fun e w' => ∃ v, e = .returned (.tuple #[v, .agg (faultC r)]) ∧ HasW w' w.heap.size v (okL r) ∧ Below w.heap.size w w' := by
  subst hr; exact words10 s w hs
/-- the row's own block -/
theorem HasW.block {w : World} {base : Nat} {a : Option Addr} {n c : Nat} {l : List Wd} (h : HasW w base (.slice a n c) l) (hne : l ≠ []) : ∃ g cur, a = some ⟨g, 0, none⟩ ∧ n = l.length ∧ n ≤ c ∧ base ≤ g ∧ Blk w g 31 cur ∧ n * 3 ≤ cur.size := by
  rcases h with ⟨h1, h2⟩ | ⟨g, c', cur, h1, h2, h3, h7, h4⟩
  · exact absurd h2 hne
  · injection h1 with e1 e2 e3
    subst e1 e2 e3
    refine ⟨g, cur, rfl, rfl, h4, h2, h3, ?_⟩
    have h8 := congrArg List.length h7
    rw [List.length_take, rowC_len] at h8
    have h9 : cur.toList.length = cur.size := Array.length_toList
    omega
theorem Below.size_le {B : Nat} {a b : World} (h : Below B a b) : a.heap.size ≤ b.heap.size := h.size
theorem cell_some {w : World} {g T : Nat} {cur : Array Value} (h : Blk w g T cur) {j : Nat} (hj : j < cur.size) : ∃ u, w.cell? ⟨g, j, none⟩ = some u := ⟨cur[j], by rw [Blk.cell h j]; exact Array.getElem?_eq_getElem hj⟩
set_option maxHeartbeats 8000000 in
theorem words3 (s : ByteArray) (w : World) (hs : s.size ≤ 140737488351232) (h : GW w) : Calls Tryd.prog 3 #[.string s] w fun e w' => e = .returned (.bool true) ∧ Below w.heap.size w w' := by
  have HG := Lib.hid h
  clear h
  have H9 := Lib.hid (awake9 w HG.out)
  obtain ⟨r, hr⟩ : ∃ r, lexF s = r := ⟨_, rfl⟩
  cases r with
  | error q =>
    obtain ⟨e, o⟩ := q
    obtain ⟨ho, he⟩ := lexF_err hr
    have HR := Lib.hid hr
    clear hr
    rcases he with rfl | rfl
    · as_aux_lemma =>
      go_enter Tryd.func3, Tryd.ntmps3
      go_wp2_with fail
      refine H9.out.mono ?_
      rintro e w1 ⟨rfl, hb1⟩
      have HB1 := Lib.hid hb1
      clear hb1
      go_wp2_with fail
      refine (words10G s w1 (by omega) HR.out).mono ?_
      rintro e w2 ⟨v2, rfl, hv2, hb2⟩
      dsimp only [faultC, okL] at hv2 ⊢
      obtain ⟨a3, c3, hv2e⟩ : ∃ a c, v2 = .slice a 0 c := hv2.form
      subst hv2e
      have hb3 := (Below.call HB1.out hb2).alloc (by have := (Below.call HB1.out hb2).size; omega) (.cells #[.int .i64 40, .int .i64 (o : Int)] 26)
      have hv3 := hv2.below ((Below.refl w2.heap.size w2).alloc (Nat.le_refl _) (.cells #[.int .i64 40, .int .i64 (o : Int)] 26)) (Nat.le_refl _)
      have hf3 := Blk.new w2 26 #[.int .i64 40, .int .i64 (o : Int)]
      have hs3 : w2.heap.size + 1 = (w2.alloc (.cells #[.int .i64 40, .int .i64 (o : Int)] 26)).heap.size := by simp
      have HB3 := Lib.hid (And.intro hb3 (And.intro hv3 (And.intro hf3 hs3)))
      clear hv2 hb2 hb3 hv3 hf3 hs3
      go_upto_region 3 with (fail)
      generalize w2.alloc (.cells #[.int .i64 40, .int .i64 (o : Int)] 26) = w3 at HB3 ⊢
      go_wp2_with fail
      go_loopw [6] (fun x wr => ∃ r : Nat, r ≤ 2 ∧ x = .int .i64 r ∧ Below w3.heap.size w3 wr) (fun x _ => 2 - (intOf x).toNat)
      case atStart => exact ⟨0, by omega, rfl, Below.refl _ _⟩
      case round =>
        obtain ⟨r, hr2, rfl, hbr⟩ := hrel
        have HBR := Lib.hid hbr
        clear hbr
        by_cases hlt : r < 2
        · have hd : decide ((r : Int) < 2) = true := decide_eq_true (by omega)
          go_wp2_with fail
          refine (words11G s wr (by omega) (HG.out.below (Below.call HB3.out.1 HBR.out)) HR.out).mono ?_
          rintro e w4 ⟨v4, rfl, hv4, hb4⟩
          dsimp only [faultC, okL] at hv4 ⊢
          obtain ⟨a5, c5, hv4e⟩ : ∃ a c, v4 = .slice a 0 c := hv4.form
          subst hv4e
          have hbw := Below.call HBR.out hb4
          have hb5 := hbw.alloc (by have := hbw.size; omega) (.cells #[.int .i64 40, .int .i64 (o : Int)] 26)
          have hv5 := hv4.below ((Below.refl w4.heap.size w4).alloc (Nat.le_refl _) (.cells #[.int .i64 40, .int .i64 (o : Int)] 26)) (Nat.le_refl _)
          have hf5 := Blk.new w4 26 #[.int .i64 40, .int .i64 (o : Int)]
          have hbx : Below wr.heap.size wr (w4.alloc (.cells #[.int .i64 40, .int .i64 (o : Int)] 26)) := hb4.alloc (by have := hb4.size; omega) _
          have HB5 := Lib.hid (And.intro hb5 (And.intro hv5 (And.intro hf5 hbx)))
          clear hv4 hb4 hbw hb5 hv5 hf5 hbx
          go_upto_region 7 with (fail)
          generalize w4.alloc (.cells #[.int .i64 40, .int .i64 (o : Int)] 26) = w5 at HB5 ⊢
          go_wp2_with fail
          refine (same12 _ _ _ _ _ w5 HB5.out.2.1 (HB3.out.2.1.below HB5.out.1 (Nat.le_refl _)) (by simp)).mono ?_
          rintro e w6 ⟨rfl, hb6⟩
          have hbf : Below w3.heap.size w3 w6 := Below.call HB5.out.1 hb6
          have hf6 := HB3.out.2.2.1.below hbf HB3.out.2.2.1.lt
          have hf7 := HB5.out.2.2.1.below hb6 HB5.out.2.2.1.lt
          have g0 : w6.cell? ⟨w2.heap.size, 0, none⟩ = some (.int .i64 40) := Blk.cell hf6 0
          have g1 : w6.cell? ⟨w2.heap.size, 1, none⟩ = some (.int .i64 (o : Int)) := Blk.cell hf6 1
          have g2 : w6.cell? ⟨w4.heap.size, 0, none⟩ = some (.int .i64 40) := Blk.cell hf7 0
          have g3 : w6.cell? ⟨w4.heap.size, 1, none⟩ = some (.int .i64 (o : Int)) := Blk.cell hf7 1
          have HB6 := Lib.hid (And.intro hb6 hbf)
          clear hb6 hbf hf6 hf7
          go_wp2_with fail
          go_loopw [10] (fun x wq => x = .int .i64 0 ∧ w6 = wq) (fun _ _ => 0)
          case atStart => exact ⟨rfl, rfl⟩
          case round =>
            obtain ⟨rfl, rfl⟩ := hrel
            go_wp2_with fail
            go_roundw
            case rel =>
              exact ⟨r + 1, by omega, by first | rfl | go_num, HB6.out.2⟩
            case measure => simp [intOf]; omega
        · have hd : decide ((r : Int) < 2) = false := decide_eq_false (by omega)
          go_wp2_with fail
          go_ret
          exact ⟨rfl, Below.call HB3.out.1 HBR.out⟩
    · as_aux_lemma =>
      go_enter Tryd.func3, Tryd.ntmps3
      go_wp2_with fail
      refine H9.out.mono ?_
      rintro e w1 ⟨rfl, hb1⟩
      have HB1 := Lib.hid hb1
      clear hb1
      go_wp2_with fail
      refine (words10G s w1 (by omega) HR.out).mono ?_
      rintro e w2 ⟨v2, rfl, hv2, hb2⟩
      dsimp only [faultC, okL] at hv2 ⊢
      obtain ⟨a3, c3, hv2e⟩ : ∃ a c, v2 = .slice a 0 c := hv2.form
      subst hv2e
      have hb3 := (Below.call HB1.out hb2).alloc (by have := (Below.call HB1.out hb2).size; omega) (.cells #[.int .i64 45, .int .i64 (o : Int)] 26)
      have hv3 := hv2.below ((Below.refl w2.heap.size w2).alloc (Nat.le_refl _) (.cells #[.int .i64 45, .int .i64 (o : Int)] 26)) (Nat.le_refl _)
      have hf3 := Blk.new w2 26 #[.int .i64 45, .int .i64 (o : Int)]
      have hs3 : w2.heap.size + 1 = (w2.alloc (.cells #[.int .i64 45, .int .i64 (o : Int)] 26)).heap.size := by simp
      have HB3 := Lib.hid (And.intro hb3 (And.intro hv3 (And.intro hf3 hs3)))
      clear hv2 hb2 hb3 hv3 hf3 hs3
      go_upto_region 3 with (fail)
      generalize w2.alloc (.cells #[.int .i64 45, .int .i64 (o : Int)] 26) = w3 at HB3 ⊢
      go_wp2_with fail
      go_loopw [6] (fun x wr => ∃ r : Nat, r ≤ 2 ∧ x = .int .i64 r ∧ Below w3.heap.size w3 wr) (fun x _ => 2 - (intOf x).toNat)
      case atStart => exact ⟨0, by omega, rfl, Below.refl _ _⟩
      case round =>
        obtain ⟨r, hr2, rfl, hbr⟩ := hrel
        have HBR := Lib.hid hbr
        clear hbr
        by_cases hlt : r < 2
        · have hd : decide ((r : Int) < 2) = true := decide_eq_true (by omega)
          go_wp2_with fail
          refine (words11G s wr (by omega) (HG.out.below (Below.call HB3.out.1 HBR.out)) HR.out).mono ?_
          rintro e w4 ⟨v4, rfl, hv4, hb4⟩
          dsimp only [faultC, okL] at hv4 ⊢
          obtain ⟨a5, c5, hv4e⟩ : ∃ a c, v4 = .slice a 0 c := hv4.form
          subst hv4e
          have hbw := Below.call HBR.out hb4
          have hb5 := hbw.alloc (by have := hbw.size; omega) (.cells #[.int .i64 45, .int .i64 (o : Int)] 26)
          have hv5 := hv4.below ((Below.refl w4.heap.size w4).alloc (Nat.le_refl _) (.cells #[.int .i64 45, .int .i64 (o : Int)] 26)) (Nat.le_refl _)
          have hf5 := Blk.new w4 26 #[.int .i64 45, .int .i64 (o : Int)]
          have hbx : Below wr.heap.size wr (w4.alloc (.cells #[.int .i64 45, .int .i64 (o : Int)] 26)) := hb4.alloc (by have := hb4.size; omega) _
          have HB5 := Lib.hid (And.intro hb5 (And.intro hv5 (And.intro hf5 hbx)))
          clear hv4 hb4 hbw hb5 hv5 hf5 hbx
          go_upto_region 7 with (fail)
          generalize w4.alloc (.cells #[.int .i64 45, .int .i64 (o : Int)] 26) = w5 at HB5 ⊢
          go_wp2_with fail
          refine (same12 _ _ _ _ _ w5 HB5.out.2.1 (HB3.out.2.1.below HB5.out.1 (Nat.le_refl _)) (by simp)).mono ?_
          rintro e w6 ⟨rfl, hb6⟩
          have hbf : Below w3.heap.size w3 w6 := Below.call HB5.out.1 hb6
          have hf6 := HB3.out.2.2.1.below hbf HB3.out.2.2.1.lt
          have hf7 := HB5.out.2.2.1.below hb6 HB5.out.2.2.1.lt
          have g0 : w6.cell? ⟨w2.heap.size, 0, none⟩ = some (.int .i64 45) := Blk.cell hf6 0
          have g1 : w6.cell? ⟨w2.heap.size, 1, none⟩ = some (.int .i64 (o : Int)) := Blk.cell hf6 1
          have g2 : w6.cell? ⟨w4.heap.size, 0, none⟩ = some (.int .i64 45) := Blk.cell hf7 0
          have g3 : w6.cell? ⟨w4.heap.size, 1, none⟩ = some (.int .i64 (o : Int)) := Blk.cell hf7 1
          have HB6 := Lib.hid (And.intro hb6 hbf)
          clear hb6 hbf hf6 hf7
          go_wp2_with fail
          go_loopw [10] (fun x wq => x = .int .i64 0 ∧ w6 = wq) (fun _ _ => 0)
          case atStart => exact ⟨rfl, rfl⟩
          case round =>
            obtain ⟨rfl, rfl⟩ := hrel
            go_wp2_with fail
            go_roundw
            case rel =>
              exact ⟨r + 1, by omega, by first | rfl | go_num, HB6.out.2⟩
            case measure => simp [intOf]; omega
        · have hd : decide ((r : Int) < 2) = false := decide_eq_false (by omega)
          go_wp2_with fail
          go_ret
          exact ⟨rfl, Below.call HB3.out.1 HBR.out⟩
  | ok ws =>
    obtain ⟨h4, hl⟩ := lexF_ok hr
    have hfm := lex_forms hl
    have hn1 : 1 ≤ ws.length := hfm.2.1
    have hn2 : ws.length ≤ 4097 := by have := hfm.1; rw [str_len] at this; omega
    have HR := Lib.hid hr
    clear hr hl hfm
    go_enter Tryd.func3, Tryd.ntmps3
    go_wp2_with fail
    refine H9.out.mono ?_
    rintro e w1 ⟨rfl, hb1⟩
    have HB1 := Lib.hid hb1
    clear hb1
    go_wp2_with fail
    refine (words10G s w1 (by omega) HR.out).mono ?_
    rintro e w2 ⟨v2, rfl, hv2, hb2⟩
    dsimp only [faultC, okL] at hv2 ⊢
    obtain ⟨a3, c3, hv2e⟩ : ∃ a c, v2 = .slice a ws.length c := hv2.form
    subst hv2e
    have hb3 := (Below.call HB1.out hb2).alloc (by have := (Below.call HB1.out hb2).size; omega) (.cells #[.int .i64 0, .int .i64 0] 26)
    have hv3 := hv2.below ((Below.refl w2.heap.size w2).alloc (Nat.le_refl _) (.cells #[.int .i64 0, .int .i64 0] 26)) (Nat.le_refl _)
    have hf3 := Blk.new w2 26 #[.int .i64 0, .int .i64 0]
    have hs3 : w2.heap.size + 1 = (w2.alloc (.cells #[.int .i64 0, .int .i64 0] 26)).heap.size := by simp
    have HB3 := Lib.hid (And.intro hb3 (And.intro hv3 (And.intro hf3 hs3)))
    clear hv2 hb2 hb3 hv3 hf3 hs3
    go_upto_region 3 with (fail)
    generalize w2.alloc (.cells #[.int .i64 0, .int .i64 0] 26) = w3 at HB3 ⊢
    go_wp2_with fail
    go_loopw [6] (fun x wr => ∃ r : Nat, r ≤ 2 ∧ x = .int .i64 r ∧ Below w3.heap.size w3 wr) (fun x _ => 2 - (intOf x).toNat)
    case atStart => exact ⟨0, by omega, rfl, Below.refl _ _⟩
    case round =>
      obtain ⟨r, hr2, rfl, hbr⟩ := hrel
      have HBR := Lib.hid hbr
      clear hbr
      by_cases hlt : r < 2
      · have hd : decide ((r : Int) < 2) = true := decide_eq_true (by omega)
        go_wp2_with fail
        refine (words11G s wr (by omega) (HG.out.below (Below.call HB3.out.1 HBR.out)) HR.out).mono ?_
        rintro e w4 ⟨v4, rfl, hv4, hb4⟩
        dsimp only [faultC, okL] at hv4 ⊢
        obtain ⟨a5, c5, hv4e⟩ : ∃ a c, v4 = .slice a ws.length c := hv4.form
        subst hv4e
        have hbw := Below.call HBR.out hb4
        have hb5 := hbw.alloc (by have := hbw.size; omega) (.cells #[.int .i64 0, .int .i64 0] 26)
        have hv5 := hv4.below ((Below.refl w4.heap.size w4).alloc (Nat.le_refl _) (.cells #[.int .i64 0, .int .i64 0] 26)) (Nat.le_refl _)
        have hf5 := Blk.new w4 26 #[.int .i64 0, .int .i64 0]
        have hbx : Below wr.heap.size wr (w4.alloc (.cells #[.int .i64 0, .int .i64 0] 26)) := hb4.alloc (by have := hb4.size; omega) _
        have HB5 := Lib.hid (And.intro hb5 (And.intro hv5 (And.intro hf5 hbx)))
        clear hv4 hb4 hbw hb5 hv5 hf5 hbx
        go_upto_region 7 with (fail)
        generalize w4.alloc (.cells #[.int .i64 0, .int .i64 0] 26) = w5 at HB5 ⊢
        go_wp2_with fail
        refine (same12 _ _ _ _ _ w5 HB5.out.2.1 (HB3.out.2.1.below HB5.out.1 (Nat.le_refl _)) (by omega)).mono ?_
        rintro e w6 ⟨rfl, hb6⟩
        have hbf : Below w3.heap.size w3 w6 := Below.call HB5.out.1 hb6
        have hf6 := HB3.out.2.2.1.below hbf HB3.out.2.2.1.lt
        have hf7 := HB5.out.2.2.1.below hb6 HB5.out.2.2.1.lt
        have g0 : w6.cell? ⟨w2.heap.size, 0, none⟩ = some (.int .i64 0) := Blk.cell hf6 0
        have g1 : w6.cell? ⟨w2.heap.size, 1, none⟩ = some (.int .i64 0) := Blk.cell hf6 1
        have g2 : w6.cell? ⟨w4.heap.size, 0, none⟩ = some (.int .i64 0) := Blk.cell hf7 0
        have g3 : w6.cell? ⟨w4.heap.size, 1, none⟩ = some (.int .i64 0) := Blk.cell hf7 1
        have HB6 := Lib.hid (And.intro hb6 hbf)
        clear hb6 hbf hf6 hf7
        have hne : ws ≠ [] := by rintro rfl; simp at hn1
        obtain ⟨g, cur, ha5, hn5, hc5, hge, hblk, hsz⟩ := HB5.out.2.1.block hne
        subst ha5
        have hblk6 := hblk.below HB6.out.1 hblk.lt
        have hgw : w3.heap.size ≤ g := by have := HBR.out.size; omega
        have HSZ := Lib.hid (And.intro hsz hgw)
        have HBLK := Lib.hid hblk6
        clear hne hge hblk hsz hblk6 hgw
        go_wp2_with fail
        go_loopw [10] (fun x wq => ∃ (i : Nat) (cur2 : Array Value), i ≤ ws.length ∧ x = .int .i64 i ∧ cur2.size = cur.size ∧ Blk wq g 31 cur2 ∧ Below w3.heap.size w3 wq) (fun x _ => ws.length - (intOf x).toNat)
        case atStart => exact ⟨0, cur, by omega, rfl, rfl, HBLK.out, HB6.out.2⟩
        case round =>
          obtain ⟨i, cur2, hi, rfl, hcs, hb2, hbel⟩ := hrel
          by_cases hin : i < ws.length
          · have hdi : decide ((i : Int) < (ws.length : Int)) = true := decide_eq_true (by omega)
            obtain ⟨u0, hu0⟩ := cell_some hb2 (j := i * 3) (by have := HSZ.out.1; omega)
            obtain ⟨u1, hu1⟩ := cell_some hb2 (j := i * 3 + 1) (by have := HSZ.out.1; omega)
            obtain ⟨u2, hu2⟩ := cell_some hb2 (j := i * 3 + 2) (by have := HSZ.out.1; omega)
            have f0 := Blk.free hb2 (i * 3)
            have f1 := Blk.free hb2 (i * 3 + 1)
            have f2 := Blk.free hb2 (i * 3 + 2)
            have HQ := Lib.hid (And.intro hcs (And.intro hb2 hbel))
            clear hcs hb2 hbel
            go_wp2_with fail
            refine ⟨⟨i + 1, ((cur2.setIfInBounds (i * 3) (.int .i64 0)).setIfInBounds (i * 3 + 1) (.string ⟨#[109, 105, 110, 101]⟩)).setIfInBounds (i * 3 + 2) (.int .i64 0), by omega, by first | rfl | go_num, by simp; exact HQ.out.1, ?_, ?_⟩, by simp [intOf]; omega⟩
            · exact Blk.set (Blk.set (Blk.set HQ.out.2.1 (i * 3) _) (i * 3 + 1) _) (i * 3 + 2) _
            · exact ((HQ.out.2.2.setCell (p := ⟨g, i * 3, none⟩) HSZ.out.2 _).setCell (p := ⟨g, i * 3 + 1, none⟩) HSZ.out.2 _).setCell (p := ⟨g, i * 3 + 2, none⟩) HSZ.out.2 _
          · have hdi : decide ((i : Int) < (ws.length : Int)) = false := decide_eq_false (by omega)
            have HQ := Lib.hid hbel
            clear hbel hb2
            go_wp2_with fail
            exact ⟨⟨r + 1, by omega, by first | rfl | go_num, HQ.out⟩, by simp [intOf]; omega⟩
      · have hd : decide ((r : Int) < 2) = false := decide_eq_false (by omega)
        go_wp2_with fail
        go_ret
        exact ⟨rfl, Below.call HB3.out.1 HBR.out⟩
end Go.Proofs.YtofjifhnkcghpaaDoor
