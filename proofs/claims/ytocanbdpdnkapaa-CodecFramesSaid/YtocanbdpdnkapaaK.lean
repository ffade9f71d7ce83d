/- CodecFrames. -/
import Derived.Test.YtocanbdpdnkapaaJ
namespace Go.Proofs.Ytocanbdpdnkapaa
open Go.RowKit
set_option linter.unusedVariables false
set_option linter.unusedSimpArgs false

theorem frame_size (body : ByteArray) : (frameS body).size = 8 + body.size := by
  unfold frameS
  rw [ByteArray.size_append, ByteArray.size_append, leS_size, leS_size]
theorem ext_left (a b : ByteArray) (n : Nat) (h : a.size = n) : (a ++ b).extract 0 n = a := ByteArray.extract_append_eq_left h.symm
theorem ext_skip (a b : ByteArray) (i j : Nat) (h : a.size ≤ i) (hj : i ≤ j) : (a ++ b).extract i j = b.extract (i - a.size) (j - a.size) := by
  rw [ByteArray.extract_append, ByteArray.extract_eq_empty_iff.2 (by omega), ByteArray.empty_append]
theorem unf_frame (body s : ByteArray) (h : body.size ≤ 65536) : unfR (frameS body ++ s) = (body, 8 + body.size, 0) := by
  have e1 : frameS body ++ s = leS body.size 4 ++ (leS (crc body) 4 ++ (body ++ s)) := by
    unfold frameS
    rw [ByteArray.append_assoc, ByteArray.append_assoc]
  have hsz : (frameS body ++ s).size = 8 + body.size + s.size := by rw [ByteArray.size_append, frame_size]
  have h4 : (frameS body ++ s).extract 0 4 = leS body.size 4 := by rw [e1]; exact ext_left _ _ 4 (leS_size _ _)
  have h48 : (frameS body ++ s).extract 4 8 = leS (crc body) 4 := by
    rw [e1, ext_skip _ _ 4 8 (by rw [leS_size]; omega) (by omega), leS_size]
    exact ext_left _ _ 4 (leS_size _ _)
  have h8 : (frameS body ++ s).extract 8 (8 + body.size) = body := by
    rw [e1, ext_skip _ _ 8 _ (by rw [leS_size]; omega) (by omega), leS_size, ext_skip _ _ _ _ (by rw [leS_size]; omega) (by omega), leS_size]
    rw [show 8 - 4 - 4 = 0 by omega, show 8 + body.size - 4 - 4 = body.size by omega]
    exact ext_left _ _ _ rfl
  have d4 : deS (leS body.size 4) = body.size := deS_leS (by omega)
  have d8 : deS (leS (crc body) 4) = crc body := deS_leS (crc_lt body)
  unfold unfR
  rw [if_neg (by omega), h4, d4, if_neg (by omega), if_neg (by omega), h48, d8, h8, if_pos rfl]

set_option maxHeartbeats 8000000 in
set_option maxRecDepth 100000 in
theorem frames4 (body s : ByteArray) (w : World) (hb : body.size ≤ 140737488351232) (hs : s.size ≤ 140737488351232) : Calls Try.prog 4 #[.string body, .string s] w fun e w' => e = .returned (.bool true) ∧ Below w.heap.size w w' := by
  have h14 := fun w => frame14 body w hb
  have h15 := fun w => frame15 body w hb
  have h16 := fun w => unframe16 s w (by omega)
  have h17 := fun w => unframe17 s w (by omega)
  have hz := frame_size body
  have hu := unf_frame body s
  have hux := fun w h => unframe16 (frameS body ++ s) w h
  obtain ⟨r, hr⟩ : ∃ r, frameR body = r := ⟨_, rfl⟩
  obtain ⟨u, hue⟩ : ∃ u, unfR s = u := ⟨_, rfl⟩
  rw [hr] at h14 h15
  rw [hue] at h16 h17
  obtain ⟨F, E⟩ := r
  obtain ⟨b, n, i⟩ := u
  simp only at h14 h15 h16 h17
  have H14 := Lib.hid h14
  have H15 := Lib.hid h15
  have H16 := Lib.hid h16
  have H17 := Lib.hid h17
  have HU := Lib.hid (And.intro hu hux)
  have HZ := Lib.hid hz
  have HR := Lib.hid hr
  clear h14 h15 h16 h17 hu hux hz hr hue
  go_enter Try.func4, Try.ntmps4
  go_wp2_with fail
  refine (awake10 w).mono ?_
  rintro e w1 ⟨rfl, hB1⟩
  have HB1 := Lib.hid hB1
  clear hB1
  go_wp2_with fail
  refine (H14.out w1).mono ?_
  rintro e w2 ⟨rfl, hB2⟩
  have HB2 := Lib.hid (Below.call HB1.out hB2)
  clear hB2 HB1 H14
  go_wp2_with fail
  refine (H15.out w2).mono ?_
  rintro e w3 ⟨rfl, hB3⟩
  have HB3 := Lib.hid (Below.call HB2.out hB3)
  clear hB3 HB2 H15
  go_wp2_with fail
  refine (H16.out w3).mono ?_
  rintro e w4 ⟨rfl, hB4⟩
  have HB4 := Lib.hid (Below.call HB3.out hB4)
  clear hB4 HB3 H16
  go_wp2_with fail
  refine (H17.out w4).mono ?_
  rintro e w5 ⟨rfl, hB5⟩
  have HB5 := Lib.hid (Below.call HB4.out hB5)
  clear hB5 HB4 H17
  by_cases hbig : 65536 < body.size
  · have hr := HR.out
    rw [show frameR body = (⟨#[]⟩, 23) from if_pos hbig] at hr
    injection hr with r1 r2
    subst r1 r2
    go_wp2_with fail
    go_ret
    exact ⟨rfl, HB5.out⟩
  · have hr := HR.out
    rw [show frameR body = (frameS body, 0) from if_neg hbig] at hr
    injection hr with r1 r2
    subst r2
    have hu := HU.out.1 (by omega)
    have hux := fun w => HU.out.2 w (by rw [ByteArray.size_append, HZ.out]; omega)
    rw [hu] at hux
    have hz := HZ.out
    rw [r1] at hux hz
    have HUX := Lib.hid hux
    have hcat : ¬ 9223372036854775807 < F.size + s.size := by omega
    have t1 : ((8 : Int) + body.size == F.size) = true := by rw [hz]; simp
    have HT := Lib.hid hz
    clear hu hux hz hbig r1 HR HU HZ
    go_wp2_with fail
    refine (HUX.out w5).mono ?_
    rintro e w6 ⟨rfl, hB6⟩
    have HB6 := Lib.hid (Below.call HB5.out hB6)
    clear hB6 HB5 HUX
    have t2 : ((8 : Int) + body.size == (body.size : Int) + 8) = true := by rw [beq_iff_eq]; omega
    go_wp2_with fail
    go_ret
    exact ⟨rfl, HB6.out⟩
theorem framesLaw (body s : ByteArray) (w : World) (hb : body.size ≤ 140737488351232) (hs : s.size ≤ 140737488351232) : Calls Try.prog 4 #[.string body, .string s] w fun e w' => e = .returned (.bool true) ∧ Below w.heap.size w w' := frames4 body s w hb hs
end Go.Proofs.Ytocanbdpdnkapaa
