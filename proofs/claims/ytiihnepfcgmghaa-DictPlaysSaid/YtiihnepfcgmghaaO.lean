/- DictFull. -/
import Derived.Test.YtiihnepfcgmghaaM
import Derived.Test.YtiihnepfcgmghaaBase16
namespace Go.Proofs.Ytiihnepfcgmghaa
open Go.RowKit Go.Maps
set_option linter.unusedVariables false
set_option linter.unusedSimpArgs false

def two (i k : Nat) : ByteArray := ⟨#[i.toUInt8, k.toUInt8]⟩
theorem two_inj {base : ByteArray} {i k j m : Nat} (hi : i < 256) (hk : k < 256) (hj : j < 256) (hm : m < 256) (h : base ++ two i k = base ++ two j m) : i = j ∧ k = m := by
  have h1 := congrArg ByteArray.data h
  rw [ByteArray.data_append, ByteArray.data_append] at h1
  have h2 := congrArg Array.toList h1
  rw [Array.toList_append, Array.toList_append] at h2
  have h3 := List.append_cancel_left h2
  simp only [two, List.cons.injEq, and_true] at h3
  have e1 := congrArg UInt8.toNat h3.1
  have e2 := congrArg UInt8.toNat h3.2
  simp only [Nat.toUInt8_eq, UInt8.toNat_ofNat'] at e1 e2
  omega
theorem byteV_two {i k : Nat} (hi : i < 256) (hk : k < 256) : (byteV [i.toUInt8, k.toUInt8]).toArray = #[.int .u8 (i : Int), .int .u8 (k : Int)] := by
  unfold byteV
  simp only [List.map_cons, List.map_nil, Nat.toUInt8_eq, UInt8.toNat_ofNat']
  rw [show i % 2 ^ 8 = i by omega, show k % 2 ^ 8 = k by omega]
theorem conv_two (w : World) {i k : Nat} (hi : i < 256) (hk : k < 256) : (convert 29 9 (.slice (some ⟨w.heap.size, 0, none⟩) 2 2)).run Try.prog (w.alloc (Obj.cells #[.int .u8 (i : Int), .int .u8 (k : Int)] 5)) = .ok (.string (two i k)) (w.alloc (Obj.cells #[.int .u8 (i : Int), .int .u8 (k : Int)] 5)) := by
  have h := owns_bytes (base := 0) (Blk.new w 5 (byteV [i.toUInt8, k.toUInt8]).toArray) rfl (show (2 : Nat) ≤ maxLen by decide) (Nat.zero_le _)
  rw [byteV_two hi hk] at h
  exact run_conv_own Try.underlying29 Try.underlying5 Try.underlying9 h
theorem conv_two' (w : World) {i : Nat} (hi : i < 4096) : (convert 29 9 (.slice (some ⟨w.heap.size, 0, none⟩) 2 2)).run Try.prog (w.alloc (Obj.cells #[.int .u8 ((i : Int) % 256), .int .u8 ((i : Int) / 256)] 5)) = .ok (.string (two (i % 256) (i / 256))) (w.alloc (Obj.cells #[.int .u8 ((i : Int) % 256), .int .u8 ((i : Int) / 256)] 5)) := by
  have h := conv_two w (i := i % 256) (k := i / 256) (by omega) (by omega)
  rw [show (((i % 256 : Nat)) : Int) = (i : Int) % 256 by omega, show (((i / 256 : Nat)) : Int) = (i : Int) / 256 by omega] at h
  exact h
theorem idx_none {l : List ByteArray} {s : ByteArray} : idx l s = none ↔ s ∉ l := by
  unfold idx
  rw [List.findIdx?_eq_none_iff]
  constructor
  · intro h hs; have := h s hs; simp at this
  · intro h x hx; simp; intro e; subst e; exact h hx
theorem idx_at {l : List ByteArray} (hl : l.Nodup) {s : ByteArray} {x : Nat} (hx : l[x]? = some s) : idx l s = some x := by
  cases h : idx l s with
  | none => exact absurd (List.mem_of_getElem? hx) (idx_none.1 h)
  | some n =>
    have h1 := idx_get h
    obtain ⟨hxl, hx⟩ := List.getElem?_eq_some_iff.1 hx
    obtain ⟨hnl, hn'⟩ := List.getElem?_eq_some_iff.1 h1
    exact congrArg some ((List.getElem_inj hl).1 (hn'.trans hx.symm))
def txt (base : ByteArray) (n : Nat) : List ByteArray := (List.range n).map (fun q => base ++ two (q % 256) (q / 256))
theorem txt_succ (base : ByteArray) (n : Nat) : txt base (n + 1) = txt base n ++ [base ++ two (n % 256) (n / 256)] := by unfold txt; rw [List.range_succ, List.map_append]; rfl
theorem txt_len (base : ByteArray) (n : Nat) : (txt base n).length = n := by simp [txt]
theorem txt_nodup (base : ByteArray) {n : Nat} (hn : n ≤ 4096) : (txt base n).Nodup := by
  unfold txt
  refine List.Pairwise.map _ (fun a b hab => ?_) (List.pairwise_lt_range.imp_of_mem (S := fun a b => a < b ∧ a < 4096 ∧ b < 4096) (fun ha hb h => ⟨h, by have := List.mem_range.1 ha; omega, by have := List.mem_range.1 hb; omega⟩))
  intro he
  have := two_inj (by omega) (by omega) (by omega) (by omega) he
  omega
theorem txt_new (base : ByteArray) {n : Nat} (hn : n < 4096) : idx (txt base n) (base ++ two (n % 256) (n / 256)) = none := by
  rw [idx_none]
  intro h
  have h2 := txt_nodup base (n := n + 1) hn
  rw [txt_succ, List.nodup_append] at h2
  exact h2.2.2 _ h _ (by simp) rfl
theorem txt_five (base : ByteArray) : idx (txt base 4096) (base ++ ⟨#[5, 0]⟩) = some 5 := by
  refine idx_at (txt_nodup base (Nat.le_refl _)) ?_
  unfold txt
  rw [List.getElem?_map, List.getElem?_range (by omega)]
  rfl
theorem txt_abc (base : ByteArray) : idx (txt base 4096) (base ++ ⟨#[97, 98, 99]⟩) = none := by
  rw [idx_none]
  intro h
  unfold txt at h
  rw [List.mem_map] at h
  obtain ⟨q, -, e⟩ := h
  have := congrArg ByteArray.size e
  rw [ByteArray.size_append, ByteArray.size_append] at this
  have e1 : (two (q % 256) (q / 256)).size = 2 := rfl
  have e2 : (⟨#[97, 98, 99]⟩ : ByteArray).size = 3 := rfl
  omega
set_option maxRecDepth 100000 in
set_option maxHeartbeats 16000000 in
theorem full3 (base0 : ByteArray) (hb0 : base0.size ≤ 140737488351232) (w : World) : Calls Try.prog 3 #[.string base0] w fun e w' => e = .returned (.bool true) ∧ Below w.heap.size w w' := by
  have HAW := Lib.hid (awake8 w)
  by_cases hlong : 60 < base0.size
  · have hd0 : decide (60 < (base0.size : Int)) = true := decide_eq_true (by omega)
    go_enter Try.func3, Try.ntmps3
    go_wp2_with fail
    refine HAW.out.mono ?_
    rintro e w1 ⟨rfl, hB1⟩
    have HB1 := Lib.hid hB1
    have HN := Lib.hid (new9p w1)
    unfold ptrV at HN
    clear hB1
    go_wp2_with fail
    refine HN.out.mono ?_
    rintro e w2 ⟨rfl, hS⟩
    have HS := Lib.hid hS
    clear hS HN
    go_upto_region 7 with fail
    have HL := Lib.hid (show (base0.extract 0 60).size ≤ 60 by rw [ByteArray.size_extract]; omega)
    generalize base0.extract 0 60 = base at *
    go_wp2_with fail
    go_loopw [5] (fun s wr => ∃ (i : Nat) (F : Nat → Prop), i ≤ 4096 ∧ s = .int .i64 i ∧ DF w1 F w1.heap.size wr (txt base i)) (fun s _ => 4096 - (intOf s).toNat)
    case atStart => exact ⟨0, _, by omega, rfl, HS.out⟩
    case round =>
      obtain ⟨i, F, hi, rfl, hS⟩ := hrel
      by_cases hlt : i < 4096
      · have hd1 : decide ((i : Int) < 4096) = true := decide_eq_true (by omega)
        have h2 : (two (i % 256) (i / 256)).size = 2 := rfl
        have h1 := HL.out
        have HP := Lib.hid ((hS.step (Below.al (Below.refl wr.heap.size wr) (Obj.cells #[.int .u8 ((i : Int) % 256), .int .u8 ((i : Int) / 256)] 5))).put_new (base ++ two (i % 256) (i / 256)) (by rw [ByteArray.size_append]; omega) (txt_new base hlt) (by rw [txt_len]; exact hlt))
        rw [txt_len, ← txt_succ] at HP
        have hcv := conv_two' wr hlt
        have hadd := fun w : World => run_string_add_sum (P := Try.prog) w base (two (i % 256) (i / 256)) (by omega)
        unfold ptrV at HP
        clear hS h1 h2
        go_wp2_with fail
        refine HP.out.mono ?_
        rintro e w3 ⟨rfl, -, h3⟩
        have HI := Lib.hid h3
        clear h3 HP hcv hadd
        go_wp2_with fail
        go_roundw
        case rel => exact ⟨i + 1, _, by omega, by go_num, HI.out⟩
        case measure => simp [intOf]; omega
      · obtain rfl : i = 4096 := by omega
        have h1 := HL.out
        have e1 : (⟨#[97, 98, 99]⟩ : ByteArray).size = 3 := rfl
        have e2 : (⟨#[5, 0]⟩ : ByteArray).size = 2 := rfl
        have HP := Lib.hid (putD_full hS.dic (base ++ ⟨#[97, 98, 99]⟩) (by rw [ByteArray.size_append]; omega) (txt_abc base) (txt_len _ _))
        have HF := Lib.hid (putD_found hS.dic (base ++ ⟨#[5, 0]⟩) (by rw [ByteArray.size_append]; omega) (txt_five base))
        have hadd := fun w : World => run_string_add_sum (P := Try.prog) w base ⟨#[97, 98, 99]⟩ (by omega)
        have hadd2 := fun w : World => run_string_add_sum (P := Try.prog) w base ⟨#[5, 0]⟩ (by omega)
        have HLN := Lib.hid (lenD hS.dic)
        have HSO := Lib.hid hS.sorted
        rw [txt_len] at HLN HSO
        unfold ptrV at HP HF HLN HSO
        clear hS h1 e1 e2
        go_wp2_with fail
        refine HP.out.mono ?_
        rintro e w3 ⟨rfl, rfl⟩
        clear HP
        go_wp2_with fail
        refine HF.out.mono ?_
        rintro e w3 ⟨rfl, rfl⟩
        clear HF
        go_wp2_with fail
        refine HLN.out.mono ?_
        rintro e w3 ⟨rfl, rfl⟩
        clear HLN
        go_wp2_with fail
        refine HSO.out.mono ?_
        rintro e w3 ⟨v, s, k, rfl, -, -, -, h3, ho⟩
        obtain ⟨va, vc, rfl⟩ := owns_form ho
        have HB := Lib.hid h3.below
        clear h3 ho HSO
        go_wp2_with fail
        go_ret
        exact ⟨rfl, Below.call HB1.out HB.out⟩
  · have hd0 : decide (60 < (base0.size : Int)) = false := decide_eq_false (by omega)
    go_enter Try.func3, Try.ntmps3
    go_wp2_with fail
    refine HAW.out.mono ?_
    rintro e w1 ⟨rfl, hB1⟩
    have HB1 := Lib.hid hB1
    have HN := Lib.hid (new9p w1)
    unfold ptrV at HN
    clear hB1
    go_wp2_with fail
    refine HN.out.mono ?_
    rintro e w2 ⟨rfl, hS⟩
    have HS := Lib.hid hS
    clear hS HN
    go_upto_region 7 with fail
    have HL := Lib.hid (show base0.size ≤ 60 by omega)
    generalize base0 = base at *
    go_wp2_with fail
    go_loopw [5] (fun s wr => ∃ (i : Nat) (F : Nat → Prop), i ≤ 4096 ∧ s = .int .i64 i ∧ DF w1 F w1.heap.size wr (txt base i)) (fun s _ => 4096 - (intOf s).toNat)
    case atStart => exact ⟨0, _, by omega, rfl, HS.out⟩
    case round =>
      obtain ⟨i, F, hi, rfl, hS⟩ := hrel
      by_cases hlt : i < 4096
      · have hd1 : decide ((i : Int) < 4096) = true := decide_eq_true (by omega)
        have h2 : (two (i % 256) (i / 256)).size = 2 := rfl
        have h1 := HL.out
        have HP := Lib.hid ((hS.step (Below.al (Below.refl wr.heap.size wr) (Obj.cells #[.int .u8 ((i : Int) % 256), .int .u8 ((i : Int) / 256)] 5))).put_new (base ++ two (i % 256) (i / 256)) (by rw [ByteArray.size_append]; omega) (txt_new base hlt) (by rw [txt_len]; exact hlt))
        rw [txt_len, ← txt_succ] at HP
        have hcv := conv_two' wr hlt
        have hadd := fun w : World => run_string_add_sum (P := Try.prog) w base (two (i % 256) (i / 256)) (by omega)
        unfold ptrV at HP
        clear hS h1 h2
        go_wp2_with fail
        refine HP.out.mono ?_
        rintro e w3 ⟨rfl, -, h3⟩
        have HI := Lib.hid h3
        clear h3 HP hcv hadd
        go_wp2_with fail
        go_roundw
        case rel => exact ⟨i + 1, _, by omega, by go_num, HI.out⟩
        case measure => simp [intOf]; omega
      · obtain rfl : i = 4096 := by omega
        have h1 := HL.out
        have e1 : (⟨#[97, 98, 99]⟩ : ByteArray).size = 3 := rfl
        have e2 : (⟨#[5, 0]⟩ : ByteArray).size = 2 := rfl
        have HP := Lib.hid (putD_full hS.dic (base ++ ⟨#[97, 98, 99]⟩) (by rw [ByteArray.size_append]; omega) (txt_abc base) (txt_len _ _))
        have HF := Lib.hid (putD_found hS.dic (base ++ ⟨#[5, 0]⟩) (by rw [ByteArray.size_append]; omega) (txt_five base))
        have hadd := fun w : World => run_string_add_sum (P := Try.prog) w base ⟨#[97, 98, 99]⟩ (by omega)
        have hadd2 := fun w : World => run_string_add_sum (P := Try.prog) w base ⟨#[5, 0]⟩ (by omega)
        have HLN := Lib.hid (lenD hS.dic)
        have HSO := Lib.hid hS.sorted
        rw [txt_len] at HLN HSO
        unfold ptrV at HP HF HLN HSO
        clear hS h1 e1 e2
        go_wp2_with fail
        refine HP.out.mono ?_
        rintro e w3 ⟨rfl, rfl⟩
        clear HP
        go_wp2_with fail
        refine HF.out.mono ?_
        rintro e w3 ⟨rfl, rfl⟩
        clear HF
        go_wp2_with fail
        refine HLN.out.mono ?_
        rintro e w3 ⟨rfl, rfl⟩
        clear HLN
        go_wp2_with fail
        refine HSO.out.mono ?_
        rintro e w3 ⟨v, s, k, rfl, -, -, -, h3, ho⟩
        obtain ⟨va, vc, rfl⟩ := owns_form ho
        have HB := Lib.hid h3.below
        clear h3 ho HSO
        go_wp2_with fail
        go_ret
        exact ⟨rfl, Below.call HB1.out HB.out⟩
theorem fullLaw (s : ByteArray) (w : World) (hs : s.size ≤ 140737488351232) :
    Calls Try.prog 3 #[.string s] w fun e w' => e = .returned (.bool true) ∧ Below w.heap.size w w' := full3 s hs w
end Go.Proofs.Ytiihnepfcgmghaa
