/- A store of facts: what may be appended (right, ContainsFunc). -/
import Derived.Test.YtdpgpcffhhdpiaaD
namespace Go.Proofs.Ytdpgpcffhhdpiaa
open Go.RowKit Go.Maps
set_option linter.unusedVariables false
set_option linter.unusedSimpArgs false

theorem owns_turn {G : Nat → Prop} {w w' : World} {base : Nat} {e : TypeId} {size n : Nat} {v : Value} {xs : List Value} (h : w.ownsRow base e size v n xs) (ht : Turn G w w') (hG : ∀ g, v.ownBlock = some g → ¬ G g) : w'.ownsRow base e size v n xs := by
  refine ⟨h.1, ?_⟩
  rcases h.2 with h1 | ⟨g, cap, cur, hv, hg, hh, q⟩
  · exact .inl h1
  · exact .inr ⟨g, cap, cur, hv, hg, (ht.block g (Array.getElem?_eq_some_iff.1 hh).1 (hG g (by rw [hv]; rfl))).trans hh, q⟩
section
variable {F : Nat → Prop} {B : Nat} {w : World} {d m ng : Nat} {L : Nat → List ByteArray} {okD okM : Nat → Nat → Prop} {T : Nat → Nat → ByteArray} {Y : Nat → Nat → Int} {ends : List Nat}
theorem CoreQ.keep {q : PartsV} {G : Nat → Prop} {w' : World} (h : CoreQ q F B w d m L ng okD okM T Y ends) (ht : Turn G w w') (hFG : ∀ k, F k → ¬ G k) : CoreQ q F B w' d m L ng okD okM T Y ends where
  blk := Blk.turn h.blk ht (hFG B h.fB)
  dO := owns_turn h.dO ht (fun g hg => hFG g (h.dF g hg))
  dl := h.dl
  dF := h.dF
  sO := owns_turn h.sO ht (fun g hg => hFG g (h.sF g hg))
  sl := h.sl
  sF := h.sF
  eO := owns_turn h.eO ht (fun g hg => hFG g (h.eF g hg))
  eF := h.eF
  dict := fun i D hi => (h.dict i D hi).keep ht (fun k hk => hFG k (h.dsub i k (by rw [← h.dl]; exact (List.getElem?_eq_some_iff.1 hi).1) hk).1)
  dsub := fun i k hi hk => ⟨(h.dsub i k hi hk).1, Nat.lt_of_lt_of_le (h.dsub i k hi hk).2 ht.size⟩
  apart := h.apart
  away := h.away
  seg := fun j g hj => by
    obtain ⟨h1, cs, h2, h3⟩ := h.seg j g hj
    exact ⟨h1, cs, Blk.turn h2 ht (hFG g h1), h3⟩
  inj := h.inj
  cd := fun i p hi hp => by
    obtain ⟨g, x, h1, h2, h3, h4⟩ := h.cd i p hi hp
    obtain ⟨hg, cs, hb, -⟩ := h.seg _ g h1
    exact ⟨g, x, h1, (World.cell?_of_block (ht.block g hb.lt (hFG g hg))).trans h2, h3, h4⟩
  cm := fun i p hi hp => by
    obtain ⟨g, h1, h2⟩ := h.cm i p hi hp
    obtain ⟨hg, cs, hb, -⟩ := h.seg _ g h1
    exact ⟨g, h1, (World.cell?_of_block (ht.block g hb.lt (hFG g hg))).trans h2⟩
  fB := h.fB
  hd := h.hd
  hm := h.hm
  small := h.small
  few := h.few
theorem Core.keep {G : Nat → Prop} {w' : World} (h : Core F B w d m L ng okD okM T Y ends) (ht : Turn G w w') (hFG : ∀ k, F k → ¬ G k) : Core F B w' d m L ng okD okM T Y ends := by
  obtain ⟨q, h⟩ := h
  exact ⟨q, h.keep ht hFG⟩
theorem Core.below {w' : World} (h : Core F B w d m L ng okD okM T Y ends) (hB : Below w.heap.size w w') : Core F B w' d m L ng okD okM T Y ends :=
  h.keep (G := fun _ => False) (Turn.of_below hB (fun k hk hk2 => by omega)) (fun k _ h => h)
end
theorem long38 (s : ByteArray) (w : World) (hs : s.size ≤ 9223372036854775807) : Calls Try.prog 38 #[.string s] w fun e w' => e = .returned (.bool (decide (64 < s.size))) ∧ w = w' := by
  have h : decide ((64 : Int) < s.size) = decide (64 < s.size) := by simp; omega
  go_enter Try.func38, Try.ntmps38
  go_wp2_with fail
  go_ret
  exact ⟨by simp [h], rfl⟩
/-- where the first one is for which it holds; -1: nowhere -/
def firstI {α : Type} (p : α → Bool) (l : List α) : Int := match l.findIdx? p with | some i => (i : Int) | none => -1
theorem firstI_any {α : Type} (p : α → Bool) (l : List α) : decide (0 ≤ firstI p l) = l.any p := by
  unfold firstI
  cases h : l.findIdx? p with
  | none =>
    rw [List.findIdx?_eq_none_iff] at h
    have : l.any p = false := by rw [List.any_eq_false]; intro x hx; rw [h x hx]; simp
    rw [this]; rfl
  | some i =>
    rw [List.findIdx?_eq_some_iff_getElem] at h
    obtain ⟨hi, h2, -⟩ := h
    have : l.any p = true := by rw [List.any_eq_true]; exact ⟨l[i], List.getElem_mem hi, h2⟩
    rw [this]; simp
theorem index39 (B : Nat) (v : Value) (l : List ByteArray) (w : World) (hr : RowS B w v l) (hl : ∀ s ∈ l, s.size ≤ 9223372036854775807) :
    Calls Try.prog 39 #[v, .func (Fn.func 38) #[] #[]] w fun e w' => e = .returned (.int .i64 (firstI (fun s : ByteArray => decide (64 < s.size)) l)) ∧ w = w' := by
  obtain ⟨a, cap, rfl, hcap, hmax, hc⟩ := hr.open
  have HC := Lib.hid hc
  have HL := Lib.hid hl
  clear hc hl
  go_enter Try.func39, Try.ntmps39
  go_wp2_with fail
  go_loopw [8, 5] (fun i j wr => ∃ k : Nat, k ≤ l.length ∧ i = .int .i64 k ∧ w = wr ∧ ∀ n s, n < k → l[n]? = some s → ¬ 64 < s.size) (fun i _ _ => l.length - (intOf i).toNat)
  case atStart => exact ⟨0, by omega, rfl, rfl, fun n s h => by omega⟩
  case round =>
    obtain ⟨k, hk, rfl, rfl, hno⟩ := hrel
    by_cases hlt : k < l.length
    · obtain ⟨g, off, rfl, hg, hcell⟩ := HC.out (by omega)
      have q := hcell k hlt
      have hx := HL.out _ (getD_mem (d := ByteArray.empty) hlt)
      have hget : l[k]? = some (l.getD k ByteArray.empty) := by rw [List.getD_eq_getElem?_getD, List.getElem?_eq_getElem hlt]; rfl
      generalize l.getD k ByteArray.empty = s at *
      have hkI : decide ((k : Int) < l.length) = true := decide_eq_true (by omega)
      have HLG := Lib.hid (long38 s w hx)
      have HNO := Lib.hid (And.intro hno hget)
      clear hcell hno hget
      by_cases hs : 64 < s.size
      · have hsd : decide (64 < s.size) = true := decide_eq_true hs
        rw [hsd] at HLG
        have HR := Lib.hid (show firstI (fun s : ByteArray => decide (64 < s.size)) l = (k : Int) by
          unfold firstI
          have : l.findIdx? (fun s : ByteArray => decide (64 < s.size)) = some k := by
            rw [List.findIdx?_eq_some_iff_getElem]
            obtain ⟨h1, h2⟩ := List.getElem?_eq_some_iff.1 HNO.out.2
            exact ⟨h1, by rw [h2]; exact hsd, fun n hn => by simpa using HNO.out.1 n _ hn (List.getElem?_eq_getElem (by omega))⟩
          rw [this])
        clear hs hsd
        go_wp2_with fail
        refine HLG.out.mono ?_
        rintro e w' ⟨rfl, rfl⟩
        go_wp2_with fail
        go_ret
        exact ⟨by rw [HR.out]; rfl, rfl⟩
      · have hsd : decide (64 < s.size) = false := decide_eq_false hs
        rw [hsd] at HLG
        clear hsd
        go_wp2_with fail
        refine HLG.out.mono ?_
        rintro e w' ⟨rfl, rfl⟩
        go_wp2_with fail
        go_roundw
        case rel => exact ⟨k + 1, by omega, by go_num, trivial, fun n t hn ht => by
          by_cases hnk : n = k
          · subst hnk; rw [HNO.out.2] at ht; cases ht; exact hs
          · exact HNO.out.1 n t (by omega) ht⟩
        case measure => simp [intOf]; omega
    · obtain rfl : k = l.length := by omega
      have hkI : decide ((l.length : Int) < l.length) = false := by simp
      have HR := Lib.hid (show firstI (fun s : ByteArray => decide (64 < s.size)) l = -1 by
        unfold firstI
        have : l.findIdx? (fun s : ByteArray => decide (64 < s.size)) = none := by
          rw [List.findIdx?_eq_none_iff]
          intro x hx
          obtain ⟨n, hn⟩ := List.mem_iff_getElem?.1 hx
          simpa using hno n x (List.getElem?_eq_some_iff.1 hn).1 hn
        rw [this])
      clear hno HC HL
      go_wp2_with fail
      go_ret
      exact ⟨by rw [HR.out]; rfl, rfl⟩
theorem contains37 (B : Nat) (v : Value) (l : List ByteArray) (w : World) (hr : RowS B w v l) (hl : ∀ s ∈ l, s.size ≤ 9223372036854775807) :
    Calls Try.prog 37 #[v, .func (Fn.func 38) #[] #[]] w fun e w' => e = .returned (.bool (l.any fun s => decide (64 < s.size))) ∧ w = w' := by
  have HI := Lib.hid (index39 B v l w hr hl)
  rw [← firstI_any]
  generalize firstI (fun s : ByteArray => decide (64 < s.size)) l = z at *
  clear hr hl
  go_enter Try.func37, Try.ntmps37
  go_wp2_with fail
  refine HI.out.mono ?_
  rintro e w' ⟨rfl, rfl⟩
  go_wp2_with fail
  go_ret
  exact ⟨by simp, rfl⟩
end Go.Proofs.Ytdpgpcffhhdpiaa
