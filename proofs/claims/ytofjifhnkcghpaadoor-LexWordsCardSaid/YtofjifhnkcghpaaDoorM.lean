/- LexQuotes' walk. -/
import Derived.Test.YtofjifhnkcghpaaDoorL
namespace Go.Proofs.YtofjifhnkcghpaaDoor
open Go.RowKit
set_option linter.unusedVariables false
set_option linter.unusedSimpArgs false
set_option maxRecDepth 100000
theorem toArr_str (s : ByteArray) : (⟨s.data.toList.toArray⟩ : ByteArray) = s := WideShapes.bytes_inj (by simp)
set_option maxHeartbeats 4000000 in
theorem quotes6 (s : ByteArray) (w : World) (hs : s.size ≤ 1048576) (h : GW w) : Calls Tryd.prog 6 #[.string s] w fun e w' => e = .returned (.bool true) ∧ Below w.heap.size w w' := by
  have HG := Lib.hid h
  clear h
  obtain ⟨Q, hQ⟩ : ∃ Q : ByteArray, Q = ⟨(quoteL s.data.toList).toArray⟩ := ⟨_, rfl⟩
  have hQl : Q.data.toList = quoteL s.data.toList := by rw [hQ]
  have hQs : Q.size = s.size + s.data.toList.count 39 + 2 := by
    have := congrArg List.length hQl
    rw [str_len] at this
    rw [this]
    simp [quoteL, quoteB_len, str_len]
  have hcn : s.data.toList.count 39 ≤ s.size := by rw [← str_len]; exact List.count_le_length
  have hlex : lexF Q = if 4096 < Q.size then .error (45, 0) else if 64 < s.size then .error (45, 0) else .ok [⟨4, s.data.toList, 0⟩, ⟨6, [], Q.size⟩] := by
    unfold lexF
    rw [hQl, quote_lex]
    have : (quoteL s.data.toList).length = Q.size := by rw [← hQl]; rfl
    rw [this, str_len]
  have HQ := Lib.hid (And.intro hQ (And.intro hlex hQs))
  have hqb : Q.size ≤ 140737488355328 := by omega
  clear hQ hQl hQs hcn hlex
  have H9 := Lib.hid (awake9 w HG.out)
  go_enter Tryd.func6, Tryd.ntmps6
  go_wp2_with fail
  refine H9.out.mono ?_
  rintro e w1 ⟨rfl, hb1⟩
  have HB1 := Lib.hid hb1
  clear hb1
  go_wp2_with fail
  refine (quote17 s w1 hs (HG.out.below HB1.out)).mono ?_
  rintro e w2 ⟨rfl, hb2⟩
  rw [← HQ.out.1]
  have HB2 := Lib.hid (Below.call HB1.out hb2)
  clear hb2
  by_cases hbig : 4096 < Q.size
  · have hr : lexF Q = .error (45, 0) := by rw [HQ.out.2.1, if_pos hbig]
    have HW := Lib.hid (words11G Q w2 hqb (HG.out.below HB2.out) hr)
    have hd : decide ((4096 : Int) < (Q.size : Int)) = true := decide_eq_true (by omega)
    clear hr
    go_wp2_with fail
    refine HW.out.mono ?_
    rintro e w3 ⟨v3, rfl, hv3, hb3⟩
    dsimp only [faultC, okL] at hv3 ⊢
    obtain ⟨a3, c3, hv3e⟩ := hv3.form
    subst hv3e
    have HB3 := Lib.hid (Below.call HB2.out hb3)
    clear hv3 hb3
    go_wp2_with fail
    go_ret
    exact ⟨rfl, HB3.out.alloc HB3.out.size _⟩
  · have hd : decide ((4096 : Int) < (Q.size : Int)) = false := decide_eq_false (by omega)
    by_cases h64 : 64 < s.size
    · have hr : lexF Q = .error (45, 0) := by rw [HQ.out.2.1, if_neg hbig, if_pos h64]
      have HW := Lib.hid (words11G Q w2 hqb (HG.out.below HB2.out) hr)
      have hd2 : decide ((64 : Int) < (s.size : Int)) = true := decide_eq_true (by omega)
      clear hr
      go_wp2_with fail
      refine HW.out.mono ?_
      rintro e w3 ⟨v3, rfl, hv3, hb3⟩
      dsimp only [faultC, okL] at hv3 ⊢
      obtain ⟨a3, c3, hv3e⟩ := hv3.form
      subst hv3e
      have HB3 := Lib.hid (Below.call HB2.out hb3)
      clear hv3 hb3
      go_wp2_with fail
      go_ret
      exact ⟨rfl, HB3.out.alloc HB3.out.size _⟩
    · have hr : lexF Q = .ok [⟨4, s.data.toList, 0⟩, ⟨6, [], Q.size⟩] := by rw [HQ.out.2.1, if_neg hbig, if_neg h64]
      have HW := Lib.hid (words11G Q w2 hqb (HG.out.below HB2.out) hr)
      have hd2 : decide ((64 : Int) < (s.size : Int)) = false := decide_eq_false (by omega)
      clear hr
      go_wp2_with fail
      refine HW.out.mono ?_
      rintro e w3 ⟨v3, rfl, hv3, hb3⟩
      dsimp only [faultC, okL] at hv3 ⊢
      obtain ⟨g, c, hve, hg, hgw, hc, -, hcell⟩ := hv3.open (by simp)
      have t0 := hcell 0 _ rfl
      have t1 := (hcell 1 _ rfl).2.2
      rw [toArr_str] at t0
      subst hve
      have HB3 := Lib.hid (And.intro (Below.call HB2.out hb3) hgw)
      have hal := (Below.refl w3.heap.size w3).alloc (Nat.le_refl _) (.cells #[.int .i64 0, .int .i64 0] 26)
      have hgc : ∀ (o : Nat) (u : Value), w3.cell? ⟨g, o, none⟩ = some u → (w3.alloc (.cells #[.int .i64 0, .int .i64 0] 26)).cell? ⟨g, o, none⟩ = some u := fun o u hu => (hal.cell (by exact hgw)).trans hu
      have x0 := hgc 0 _ t0.1
      have x1 := hgc 1 _ t0.2.1
      have x2 := hgc 2 _ t0.2.2
      have x3 := hgc 5 _ t1
      clear hv3 hb3 hcell t0 t1 hal hgc hg hgw
      go_wp2_with fail
      go_ret
      exact ⟨rfl, HB3.out.1.alloc HB3.out.1.size _⟩
end Go.Proofs.YtofjifhnkcghpaaDoor
