/- A dictionary as the laws use it; awake. -/
import Derived.Test.YtiihnepfcgmghaaK
namespace Go.Proofs.Ytiihnepfcgmghaa
open Go.RowKit Go.Maps
set_option linter.unusedVariables false
set_option linter.unusedSimpArgs false

/-- a dictionary made behind w0, whose blocks are F -/
structure DF (w0 : World) (F : Nat → Prop) (D : Nat) (w : World) (l : List ByteArray) : Prop where
  below : Below w0.heap.size w0 w
  sub : ∀ k, F k → w0.heap.size ≤ k ∧ k < w.heap.size
  dic : Dic F D w l
section
variable {w0 w w' : World} {F : Nat → Prop} {D : Nat} {l : List ByteArray}
theorem DF.step (h : DF w0 F D w l) (hB : Below w.heap.size w w') : DF w0 F D w' l :=
  ⟨Below.call h.below hB, fun k hk => ⟨(h.sub k hk).1, Nat.lt_of_lt_of_le (h.sub k hk).2 hB.size⟩, h.dic.keep (G := fun k => w.heap.size ≤ k) ⟨hB.os, hB.tape, hB.output, hB.size, fun k hk hn => hB.block k hk⟩ (fun k hk hn => by have := (h.sub k hk).2; omega)⟩
theorem DF.turn {G : Nat → Prop} (h : DF w0 F D w l) (ht : Turn G w w') (hG : ∀ k, G k → w0.heap.size ≤ k ∧ ¬ F k) : DF w0 F D w' l :=
  ⟨h.below.trans (ht.below h.below.size (fun k hk hg => by have := (hG k hg).1; omega)), fun k hk => ⟨(h.sub k hk).1, Nat.lt_of_lt_of_le (h.sub k hk).2 ht.size⟩, h.dic.keep ht (fun k hk hg => (hG k hg).2 hk)⟩
theorem DF.after {k : Nat} (h : DF w0 F D w l) (ha : After F D w l k w') : DF w0 (fun j => F j ∨ (w.heap.size ≤ j ∧ j < k)) D w' l :=
  ⟨h.below.trans (ha.turn.below h.below.size (fun k hk hg => by have := (h.sub k hg).1; omega)), fun j hj => by
    rcases hj with hj | hj
    · exact ⟨(h.sub j hj).1, Nat.lt_of_lt_of_le (h.sub j hj).2 ha.turn.size⟩
    · exact ⟨Nat.le_trans h.below.size hj.1, Nat.lt_of_lt_of_le hj.2 ha.high⟩, ha.dic⟩
theorem DF.new (w : World) : DF w (fun k => k = w.heap.size) w.heap.size (w.alloc (Obj.cells #[.slice none 0 0, .map none, .pointer none] 57)) [] :=
  ⟨Below.al (Below.refl _ _) _, fun k hk => by rw [alloc_size]; omega, Dic.new w⟩
theorem DF.put_new (h : DF w0 F D w l) (s : ByteArray) (hs : s.size ≤ 64) (hi : idx l s = none) (hl : l.length < 4096) : Calls Try.prog 10 #[ptrV D, .string s] w fun e w' => e = .returned (.tuple #[.int .i64 (l.length : Nat), .int .i64 0]) ∧ Turn F w w' ∧ DF w0 (fun k => F k ∨ (w.heap.size ≤ k ∧ k < w'.heap.size)) D w' (l ++ [s]) := by
  refine (putD_new h.dic s hs hi hl).mono ?_
  rintro e w' ⟨rfl, ht, hd⟩
  refine ⟨rfl, ht, h.below.trans (ht.below h.below.size (fun k hk hg => by have := (h.sub k hg).1; omega)), fun j hj => ?_, hd⟩
  rcases hj with hj | hj
  · exact ⟨(h.sub j hj).1, Nat.lt_of_lt_of_le (h.sub j hj).2 ht.size⟩
  · exact ⟨Nat.le_trans h.below.size hj.1, hj.2⟩
theorem DF.sorted (h : DF w0 F D w l) : Calls Try.prog 12 #[ptrV D] w fun e w' => ∃ v s k, e = .returned v ∧ IsSort l s ∧ Turn F w w' ∧ w.heap.size ≤ k ∧ DF w0 (fun j => F j ∨ (w.heap.size ≤ j ∧ j < k)) D w' l ∧ w'.ownsRow k 3 1 v l.length (natV s) := by
  refine (sorted12 F D l w h.dic (fun k hk => (h.sub k hk).2)).mono ?_
  rintro e w' ⟨v, s, k, rfl, hs, ha, ho⟩
  exact ⟨v, s, k, rfl, hs, ha.turn, ha.low, h.after ha, ho⟩
theorem DF.rank (h : DF w0 F D w l) {i : Nat} (hi : i < l.length) : Calls Try.prog 17 #[ptrV D, .int .i64 (i : Int)] w fun e w' => ∃ j s k, e = .returned (.tuple #[.int .i64 ((j : Nat) : Int), .bool true]) ∧ IsSort l s ∧ s[j]? = some i ∧ Turn F w w' ∧ w.heap.size ≤ k ∧ DF w0 (fun j => F j ∨ (w.heap.size ≤ j ∧ j < k)) D w' l := by
  refine (rank17 F D l i hi w h.dic (fun k hk => (h.sub k hk).2)).mono ?_
  rintro e w' ⟨j, s, k, rfl, hs, hj, ha⟩
  exact ⟨j, s, k, rfl, hs, hj, ha.turn, ha.low, h.after ha⟩
theorem DF.between (h : DF w0 F D w l) (a b : ByteArray) : Calls Try.prog 13 #[ptrV D, .string a, .string b] w fun e w' => ∃ v s k, e = .returned v ∧ IsSort l s ∧ Turn F w w' ∧ w.heap.size ≤ k ∧ DF w0 (fun j => F j ∨ (w.heap.size ≤ j ∧ j < k)) D w' l ∧ w'.ownsRow k 3 1 v (betw l s a b).length (natV (betw l s a b)) := by
  refine (between13 F D l a b w h.dic (fun k hk => (h.sub k hk).2)).mono ?_
  rintro e w' ⟨v, s, k, rfl, hs, ha, ho⟩
  exact ⟨v, s, k, rfl, hs, ha.turn, ha.low, h.after ha, ho⟩
end
theorem new9p (w : World) : Calls Try.prog 9 #[] w fun e w' => e = .returned (ptrV w.heap.size) ∧ DF w (fun k => k = w.heap.size) w.heap.size w' [] :=
  (new9 w).mono fun e w' ⟨h1, h2⟩ => ⟨h1, by rw [h2]; exact DF.new w⟩
def ba : ByteArray := ⟨#[97]⟩
def bb : ByteArray := ⟨#[98]⟩
theorem ba_ne : bb ≠ ba := by decide
theorem nodup_ba : [bb, ba].Nodup := by
  rw [List.nodup_cons]
  exact ⟨by simp only [List.mem_singleton]; exact ba_ne, by simp⟩
theorem sort_ba : IsSort [bb, ba] [1, 0] := by
  refine ⟨by decide, ?_⟩
  unfold SortedT
  refine List.Pairwise.cons (fun a ha => ?_) (by simp)
  simp only [List.mem_singleton] at ha
  subst ha
  show ltS bb ba = false
  rw [ltS_eq]; decide
theorem betw_ba : betw [bb, ba] [1, 0] ba bb = [1] := by
  have h1 : lowC [bb, ba] [1, 0] ba = 0 := by
    unfold lowC
    simp only [List.countP_cons, List.countP_nil]
    rw [show ltS ([bb, ba].getD 0 ByteArray.empty) ba = false by show ltS bb ba = false; rw [ltS_eq]; decide, show ltS ([bb, ba].getD 1 ByteArray.empty) ba = false by show ltS ba ba = false; rw [ltS_eq]; decide]
    rfl
  have h2 : lowC [bb, ba] [1, 0] bb = 1 := by
    unfold lowC
    simp only [List.countP_cons, List.countP_nil]
    rw [show ltS ([bb, ba].getD 0 ByteArray.empty) bb = false by show ltS bb bb = false; rw [ltS_eq]; decide, show ltS ([bb, ba].getD 1 ByteArray.empty) bb = true by show ltS ba bb = true; rw [ltS_eq]; decide]
    rfl
  unfold betw
  rw [h1, h2]
  rfl
set_option maxRecDepth 100000 in
set_option maxHeartbeats 8000000 in
theorem awake8 (w : World) : Calls Try.prog 8 #[] w fun e w' => e = .returned (.bool true) ∧ Below w.heap.size w w' := by
  have HN := Lib.hid (new9p w)
  unfold ptrV at HN
  go_enter Try.func8, Try.ntmps8
  go_wp2_with fail
  refine HN.out.mono ?_
  rintro e w1 ⟨rfl, h1⟩
  have HP := Lib.hid (h1.put_new bb (by decide) rfl (by decide))
  unfold ptrV bb at HP
  clear h1 HN
  go_wp2_with fail
  refine HP.out.mono ?_
  rintro e w2 ⟨rfl, -, h2⟩
  have HP2 := Lib.hid (h2.put_new ba (by decide) (by kernel_rfl) (by decide))
  unfold ptrV ba at HP2
  clear h2 HP
  go_wp2_with fail
  refine HP2.out.mono ?_
  rintro e w3 ⟨rfl, -, h3⟩
  have HP3 := Lib.hid (putD_found h3.dic bb (by decide) (i := 0) (by kernel_rfl))
  have HD3 := Lib.hid h3
  unfold ptrV bb at HP3
  clear h3 HP2
  go_wp2_with fail
  refine HP3.out.mono ?_
  rintro e w4 ⟨rfl, rfl⟩
  have HS := Lib.hid (show Calls Try.prog 12 #[ptrV w.heap.size] w3 _ from (show DF w _ w.heap.size w3 [bb, ba] from HD3.out).sorted)
  unfold ptrV at HS
  clear HP3
  go_wp2_with fail
  refine HS.out.mono ?_
  rintro e w4 ⟨v, s, k, rfl, hs, -, hk, h4, ho⟩
  obtain rfl := sort_one nodup_ba hs sort_ba
  replace ho : w4.ownsRow k 3 1 v 2 (natV [1, 0]) := ho
  obtain ⟨va, vc, rfl⟩ := owns_form ho
  have HO := Lib.hid ho
  have HD4 := Lib.hid (And.intro h4 hk)
  have HR := Lib.hid (h4.rank (i := 0) (by decide))
  unfold ptrV at HR
  clear hs h4 HS ho hk
  go_wp2_with fail
  refine HR.out.mono ?_
  rintro e w5 ⟨j, s, k5, rfl, hs, hj, ht, hk5, h5⟩
  obtain rfl := sort_one nodup_ba hs sort_ba
  have ej : j = 1 := by
    rcases j with _ | _ | j
    · simp at hj
    · rfl
    · simp at hj
  subst ej
  have ho5 := owns_turn HO.out ht (fun g hg hF => by
    have := HO.out.lt g hg
    have h3 := HD4.out.2
    rcases hF with hF | hF
    · have := (HD3.out.sub g hF).2; omega
    · omega)
  obtain ⟨-, a, c, hv, -, -, hc⟩ := Row.of_owns ho5
  injection hv with hv1 hv2 hv3
  obtain ⟨g, off, rfl, -, hc⟩ := hc (by decide)
  subst hv1
  have c0 : w5.cell? ⟨g, off, none⟩ = some (.int .i64 1) := hc 0 (by decide)
  have HT := Lib.hid (textD h5.dic (i := 1) (by decide))
  have HL := Lib.hid (lenD h5.dic)
  have HB := Lib.hid (h5.between ba bb)
  replace HL : Hid (Calls Try.prog 11 #[ptrV w.heap.size] w5 fun e w' => e = .returned (.int .i64 2) ∧ w5 = w') := HL
  have eg : ([bb, ba] : List ByteArray).getD 1 ByteArray.empty = ba := rfl
  rw [eg] at HT
  unfold ptrV ba at HT
  unfold ptrV at HL
  unfold ptrV ba bb at HB
  clear hs hj HR ho5 hc
  go_wp2_with fail
  refine HT.out.mono ?_
  rintro e w6 ⟨rfl, rfl⟩
  clear HT
  go_wp2_with fail
  refine HL.out.mono ?_
  rintro e w6 ⟨rfl, rfl⟩
  clear HL
  go_wp2_with fail
  refine HB.out.mono ?_
  rintro e w6 ⟨v, s, k6, rfl, hs, -, -, h6, ho6⟩
  obtain rfl := sort_one nodup_ba hs sort_ba
  have eb : betw [⟨#[98]⟩, ⟨#[97]⟩] [1, 0] ⟨#[97]⟩ ⟨#[98]⟩ = [1] := betw_ba
  rw [eb] at ho6
  replace ho6 : w6.ownsRow k6 3 1 v 1 (natV [1]) := ho6
  obtain ⟨va6, vc6, rfl⟩ := owns_form ho6
  have HE := Lib.hid h6
  clear HB hs h6 ho6
  go_wp2_with fail
  go_ret
  exact ⟨rfl, HE.out.below⟩
end Go.Proofs.Ytiihnepfcgmghaa
