/- A store of facts: Match. -/
import Derived.Test.YtdpgpcffhhdpiaaM
namespace Go.Proofs.Ytdpgpcffhhdpiaa
open Go.RowKit Go.Maps
set_option linter.unusedVariables false
set_option linter.unusedSimpArgs false

/-- how many facts below hi have this text -/
def cntT (T : Nat → Nat → ByteArray) (i : Nat) (s : ByteArray) (hi : Nat) : Nat := ((List.range hi).filter (fun p => decide (T i p = s))).length
theorem cntT_succ (T : Nat → Nat → ByteArray) (i : Nat) (s : ByteArray) (hi : Nat) : cntT T i s (hi + 1) = cntT T i s hi + (if T i hi = s then 1 else 0) := by
  unfold cntT
  rw [List.range_succ, List.filter_append, List.length_append]
  by_cases h : T i hi = s <;> simp [h]
theorem cntT_le (T : Nat → Nat → ByteArray) (i : Nat) (s : ByteArray) (hi : Nat) : cntT T i s hi ≤ hi := by
  have := List.length_filter_le (fun p => decide (T i p = s)) (List.range hi)
  simpa [cntT] using this
theorem cntT_none {T : Nat → Nat → ByteArray} {i : Nat} {s : ByteArray} {hi : Nat} (h : ∀ p, p < hi → T i p ≠ s) : cntT T i s hi = 0 := by
  unfold cntT
  rw [List.length_eq_zero_iff, List.filter_eq_nil_iff]
  intro p hp
  simpa using h p (List.mem_range.1 hp)
theorem idx_nodup {l : List ByteArray} (hl : l.Nodup) {s : ByteArray} {x n : Nat} (hx : l[x]? = some s) {t : ByteArray} (hn : idx l t = some n) : (s = t) ↔ x = n := by
  have h1 := idx_get hn
  constructor
  · rintro rfl
    obtain ⟨hxl, hx⟩ := List.getElem?_eq_some_iff.1 hx
    obtain ⟨hnl, hn'⟩ := List.getElem?_eq_some_iff.1 h1
    exact (List.getElem_inj hl).1 (hx.trans hn'.symm)
  · rintro rfl
    exact Option.some.inj (hx.symm.trans h1)
section
variable {F : Nat → Prop} {B : Nat} {w : World} {d m ng : Nat} {L : Nat → List ByteArray} {okD okM : Nat → Nat → Prop} {T : Nat → Nat → ByteArray} {Y : Nat → Nat → Int} {ends : List Nat}
theorem atE_zero (ends : List Nat) : atE ends 0 = 0 := by
  unfold atE clampE atN
  rw [if_pos]
  have : min (max (0 : Int) 0) (ends.length : Int) = 0 := by omega
  rw [this]; rfl
set_option maxRecDepth 100000 in
set_option maxHeartbeats 16000000 in
theorem match19 (h : Core F B w d m L ng okD okM T Y ends) (i : Int) (hi : -9223372036854775808 ≤ i ∧ i ≤ 9223372036854775807) (s : ByteArray) (hs : s.size ≤ maxLen) (b : Int) (hb : -9223372036854775808 ≤ b ∧ b ≤ 9223372036854775807)
    (hokD : ∀ i p, i < d → p < toE ends 0 b → okD i p) (hnd : ∀ i, (L i).Nodup) :
    Calls Try.prog 19 #[ptrV B, .int .i64 i, .string s, .int .i64 b] w fun e w' => e = .returned (intV (if 0 ≤ i ∧ i < d then cntT T i.toNat s (toE ends 0 b) else 0)) ∧ Below w.heap.size w w' := by
  have HD := Lib.hid (dim28 h i hi)
  have HR1 := Lib.hid (fun hn : ¬ (0 ≤ i ∧ i < d) => show (if 0 ≤ i ∧ i < d then cntT T i.toNat s (toE ends 0 b) else 0) = 0 from if_neg hn)
  have HR2 := Lib.hid (fun hn : (0 ≤ i ∧ i < d) => show (if 0 ≤ i ∧ i < d then cntT T i.toNat s (toE ends 0 b) else 0) = cntT T i.toNat s (toE ends 0 b) from if_pos hn)
  generalize (if 0 ≤ i ∧ i < d then cntT T i.toNat s (toE ends 0 b) else 0) = r at *
  have HC := Lib.hid h
  have HBW := Lib.hid (fun (w1 : World) (hw1 : Below w.heap.size w w1) => between26 (h.below hw1) 0 b (by omega) hb)
  rw [atE_zero] at HBW
  have hz := toE_small h 0 b
  have HOK := Lib.hid (And.intro hokD hnd)
  generalize toE ends 0 b = zb at *
  unfold intV ptrV at *
  clear h hokD hnd
  go_enter Try.func19, Try.ntmps19
  go_wp2_with fail
  refine HD.out.mono ?_
  rintro e w1 ⟨hh, hB⟩
  have HB := Lib.hid hB
  rcases hh with ⟨rfl, hn⟩ | ⟨D, G, rfl, hin, hdict⟩
  · have HL := Lib.hid (find30_nil s w1)
    have HN := Lib.hid hn
    clear hn hB
    go_wp2_with fail
    refine HL.out.mono ?_
    rintro e w2 ⟨rfl, rfl⟩
    go_wp2_with fail
    go_ret
    exact ⟨by rw [HR1.out HN.out]; rfl, HB.out⟩
  · have HL := Lib.hid (find30 G D (L i.toNat) s w1 (hdict.below hB) hs)
    have HN := Lib.hid hin
    have HBC := Lib.hid (HBW.out w1 hB)
    unfold findV at HL
    clear hin hB hdict HD HBW
    cases hix : idx (L i.toNat) s with
    | none =>
      rw [hix] at HL
      have HIX := Lib.hid hix
      simp only [Option.getD_none, Option.isSome_none] at HL
      clear hix
      go_wp2_with fail
      refine HL.out.mono ?_
      rintro e w2 ⟨rfl, rfl⟩
      go_wp2_with fail
      go_ret
      refine ⟨?_, HB.out⟩
      rw [HR2.out HN.out, cntT_none]
      · rfl
      · intro p hp heq
        obtain ⟨q, hq⟩ := HC.out
        have hin := HN.out
        obtain ⟨g, x, -, -, -, hx⟩ := hq.cd i.toNat p (by omega) (HOK.out.1 _ p (by omega) hp)
        rw [heq] at hx
        exact idx_none.1 HIX.out (List.mem_of_getElem? hx)
    | some n =>
      rw [hix] at HL
      have HIX := Lib.hid hix
      simp only [Option.getD_some, Option.isSome_some] at HL
      clear hix
      go_wp2_with fail
      refine HL.out.mono ?_
      rintro e w2 ⟨rfl, rfl⟩
      go_wp2_with fail
      refine HBC.out.mono ?_
      rintro e w3 ⟨rfl, hB3⟩
      have HB3 := Lib.hid (Below.call HB.out hB3)
      have HC3 := Lib.hid (HC.out.below (Below.call HB.out hB3))
      have hin := HN.out
      obtain ⟨i, rfl⟩ : ∃ k : Nat, i = (k : Int) := ⟨i.toNat, by omega⟩
      simp only [Int.toNat_natCast] at HIX
      clear hB3 HBC HL hin
      go_wp2_with fail
      go_loopw [13, 32] (fun c t wr => ∃ k : Nat, k ≤ zb ∧ t = .int .i64 k ∧ c = .int .i64 (cntT T i s k : Nat) ∧ wr = w3) (fun _ t _ => zb - (intOf t).toNat)
      case atStart => exact ⟨0, by omega, rfl, rfl, rfl⟩
      case round =>
        obtain ⟨k, hk, rfl, rfl, rfl⟩ := hrel
        by_cases hlt : k < zb
        · obtain ⟨q, hq⟩ := HC3.out
          have hhd := hq.hd
          have hin := HN.out
          have hid : i < d := by omega
          obtain ⟨g, x, hgg, hcx, hx, hLx⟩ := hq.cd i k hid (HOK.out.1 i k hid hlt)
          have hsO := hq.sO
          have hbB := hq.blk
          have hsl := hq.sl
          have hng : k / 256 < ng := by rw [← hq.sl]; exact (List.getElem?_eq_some_iff.1 hgg).1
          have hfew := hq.few.2
          obtain ⟨vD, hvD⟩ : ∃ v, v = q.vD := ⟨_, rfl⟩
          obtain ⟨vS, hvS⟩ : ∃ v, v = q.vS := ⟨_, rfl⟩
          obtain ⟨vE, hvE⟩ : ∃ v, v = q.vE := ⟨_, rfl⟩
          rw [← hvD, ← hvS, ← hvE] at hbB
          rw [← hvS] at hsO
          clear hvD hvS hvE
          obtain ⟨-, aS, cS, hv4, hcap4, hmax4, hc4⟩ := Row.of_owns hsO
          subst hv4
          obtain ⟨gb, go2, rfl, hgb, hcell4⟩ := hc4 (by omega)
          have zz : wr.cell? ⟨gb, go2 + k / 256, none⟩ = some (.pointer (some ⟨g, 0, none⟩)) := by
            rw [hcell4 (k / 256) (by omega), List.getD_eq_getElem?_getD, List.getElem?_map, hgg]
            rfl
          have z2 : wr.cell? ⟨B, 2, none⟩ = some (.slice (some ⟨gb, go2, none⟩) ng cS) := Blk.cell hbB 2
          have hk256 : k % 256 < 256 := Nat.mod_lt _ (by omega)
          have hcnt := cntT_le T i s k
          have hsucc := cntT_succ T i s k
          have hkI : decide ((k : Int) < zb) = true := decide_eq_true (by omega)
          have hiff := idx_nodup (HOK.out.2 i) hLx HIX.out
          have hnl : n < 4096 := by
            have h1 := (List.getElem?_eq_some_iff.1 (idx_get HIX.out)).1
            obtain ⟨D', hD'⟩ : ∃ D, q.ds[i]? = some D := ⟨_, List.getElem?_eq_getElem (by rw [hq.dl]; exact hid)⟩
            have := (hq.dict i D' hD').size
            omega
          by_cases heq : x = n
          · subst heq
            rw [if_pos (hiff.2 rfl)] at hsucc
            have HSC := Lib.hid hsucc
            generalize cntT T i s k = cn at *
            clear hq hgg hLx hsO hbB hsl hc4 hcell4 hsucc hiff
            go_wp2_with fail
            go_roundw
            case rel => exact ⟨k + 1, by omega, by go_num, by rw [HSC.out]; go_num, trivial⟩
            case measure => simp [intOf]; omega
          · rw [if_neg (fun h => heq (hiff.1 h))] at hsucc
            have HSC := Lib.hid hsucc
            have hne : ((x : Int) == (n : Int)) = false := by rw [beq_eq_false_iff_ne]; omega
            generalize cntT T i s k = cn at *
            clear hq hgg hLx hsO hbB hsl hc4 hcell4 hsucc hiff
            go_wp2_with fail
            go_roundw
            case rel => exact ⟨k + 1, by omega, by go_num, by rw [HSC.out]; go_num, trivial⟩
            case measure => simp [intOf]; omega
        · obtain rfl : k = zb := by omega
          have hkI : decide ((k : Int) < k) = false := by simp
          go_wp2_with fail
          go_ret
          exact ⟨by rw [HR2.out HN.out]; rfl, HB3.out⟩
end
end Go.Proofs.Ytdpgpcffhhdpiaa
