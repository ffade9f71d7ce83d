/- slices.Index, Contains, and the closures that ask whether names are known. -/
import Derived.Test.YtbcnmkdlaoaoeaaD
namespace Go.Proofs.Ytbcnmkdlaoaoeaa
open Go.RowKit
set_option linter.unusedVariables false
set_option linter.unusedSimpArgs false

/-- the first place where a test holds; -1: there is none -/
def idxP {α : Type} (l : List α) (p : α → Bool) : Int := match l.findIdx? p with | some i => (i : Int) | none => -1
theorem idxP_at {α : Type} {l : List α} {p : α → Bool} {d : α} {k : Nat} (hk : k < l.length) (hp : p (l.getD k d) = true) (hn : ∀ j, j < k → p (l.getD j d) = false) : idxP l p = k := by
  have h : l.findIdx? p = some k := by
    rw [List.findIdx?_eq_some_iff_getElem]
    refine ⟨hk, ?_, fun j hj => ?_⟩
    · rw [List.getD_eq_getElem?_getD, List.getElem?_eq_getElem hk] at hp; exact hp
    · have := hn j hj
      rw [List.getD_eq_getElem?_getD, List.getElem?_eq_getElem (by omega)] at this
      simpa using this
  unfold idxP
  rw [h]
theorem idxP_none {α : Type} {l : List α} {p : α → Bool} {d : α} (hn : ∀ j, j < l.length → p (l.getD j d) = false) : idxP l p = -1 := by
  have h : l.findIdx? p = none := by
    rw [List.findIdx?_eq_none_iff]
    intro x hx
    obtain ⟨i, hi, rfl⟩ := List.getElem_of_mem hx
    have := hn i hi
    rw [List.getD_eq_getElem?_getD, List.getElem?_eq_getElem hi] at this
    exact this
  unfold idxP
  rw [h]
theorem idxP_any {α : Type} (l : List α) (p : α → Bool) : decide (0 ≤ idxP l p) = l.any p := by
  unfold idxP
  cases h : l.findIdx? p with
  | none =>
    rw [List.findIdx?_eq_none_iff] at h
    have : l.any p = false := by rw [List.any_eq_false]; intro x hx; simpa using h x hx
    rw [this]; rfl
  | some i =>
    rw [List.findIdx?_eq_some_iff_getElem] at h
    obtain ⟨hi, hp, -⟩ := h
    have : l.any p = true := by rw [List.any_eq_true]; exact ⟨_, List.getElem_mem hi, hp⟩
    rw [this]; simp
theorem idxP_lt {α : Type} (l : List α) (p : α → Bool) : -1 ≤ idxP l p ∧ idxP l p < l.length ∨ idxP l p = -1 := by
  unfold idxP
  cases h : l.findIdx? p with
  | none => exact .inr rfl
  | some i =>
    rw [List.findIdx?_eq_some_iff_getElem] at h
    obtain ⟨hi, -, -⟩ := h
    left; show -1 ≤ (i : Int) ∧ (i : Int) < l.length; omega

/-- is this the text? -/
def isS (s x : ByteArray) : Bool := s.toList == x.toList
theorem index34 (B : Nat) (v : Value) (l : List ByteArray) (s : ByteArray) (w : World) (hr : RowS B w v l) :
    Calls Try.prog 34 #[v, .string s] w fun e w' => e = .returned (.int .i64 (idxP l (isS s))) ∧ w = w' := by
  obtain ⟨a, cap, rfl, hcap, hmax, hc⟩ := hr.open
  have HC := Lib.hid hc
  clear hc hr
  go_enter Try.func34, Try.ntmps34
  go_wp2
  go_loop [8] (fun i => ∃ k : Nat, k ≤ l.length ∧ i = .int .i64 k ∧ ∀ j, j < k → isS s (l.getD j ByteArray.empty) = false) (fun i => l.length - (intOf i).toNat)
  case atStart => exact ⟨0, by omega, rfl, fun j h => absurd h (by omega)⟩
  case round =>
    obtain ⟨k, hk, rfl, hn⟩ := hrel
    have HN := Lib.hid hn
    clear hn
    by_cases hlt : k < l.length
    · obtain ⟨b, off, rfl, hb, hcell⟩ := HC.out (by omega)
      obtain ⟨y, hy, hcy⟩ : ∃ y, Hid (l.getD k ByteArray.empty = y) ∧ w.cell? ⟨b, off + k, none⟩ = some (.string y) := ⟨_, rfl, hcell k hlt⟩
      clear hcell HC
      cases e2 : (s.toList == y.toList)
      rotate_left
      · have E2 := Lib.hid e2
        go_wp2
        go_ret
        exact ⟨ret_int (idxP_at (d := ByteArray.empty) hlt (by rw [hy.out]; exact E2.out) HN.out).symm, rfl⟩
      · have E2 := Lib.hid e2
        go_wp2
        go_round
        case rel =>
          refine ⟨k + 1, by omega, by go_num, fun j hj => ?_⟩
          by_cases e : j = k
          · subst e; rw [hy.out]; exact E2.out
          · exact HN.out j (by omega)
        case measure => simp [intOf]; omega
    · go_wp2
      go_ret
      exact ⟨ret_int (idxP_none (d := ByteArray.empty) fun j hj => HN.out j (by omega)).symm, rfl⟩

theorem contains22 (B : Nat) (v : Value) (l : List ByteArray) (s : ByteArray) (w : World) (hr : RowS B w v l) :
    Calls Try.prog 22 #[v, .string s] w fun e w' => e = .returned (.bool (l.any (isS s))) ∧ w = w' := by
  go_enter Try.func22, Try.ntmps22
  go_wp2_with (go_at_call 34; refine (index34 B _ _ _ _ hr).mono ?_; rintro e w' ⟨rfl, rfl⟩)
  go_ret
  exact ⟨ret_bool (by rw [← idxP_any]), rfl⟩

/-- the closure that asks whether a name is unknown: its variable is the list of names -/
theorem unknown21 (B p : Nat) (vd : Value) (dims : List ByteArray) (s : ByteArray) (w : World) (hp : Blk w p 24 #[vd]) (hr : RowS B w vd dims) :
    Calls Try.prog 21 #[.string s, .pointer (some ⟨p, 0, none⟩)] w fun e w' => e = .returned (.bool (!(dims.any (isS s)))) ∧ w = w' := by
  have c0 : w.cell? ⟨p, 0, none⟩ = some vd := Blk.cell hp 0
  obtain ⟨a, cap, hv, -⟩ := hr.open
  subst hv
  go_enter Try.func21, Try.ntmps21
  go_wp2_with (go_at_call 22; refine (contains22 B _ _ _ _ hr).mono ?_; rintro e w' ⟨rfl, rfl⟩)
  go_ret
  exact ⟨rfl, rfl⟩

theorem index33 (B p : Nat) (vd : Value) (dims : List ByteArray) (w : World) (v : Value) (l : List ByteArray) (hp : Blk w p 24 #[vd]) (hr : RowS B w vd dims) (hl : RowS B w v l) :
    Calls Try.prog 33 #[v, .func (Fn.func 21) #[] #[.pointer (some ⟨p, 0, none⟩)]] w fun e w' => e = .returned (.int .i64 (idxP l fun s => !(dims.any (isS s)))) ∧ w = w' := by
  obtain ⟨a, cap, rfl, hcap, hmax, hc⟩ := hl.open
  have HC := Lib.hid hc
  clear hc hl
  have HU := Lib.hid (fun s => unknown21 B p vd dims s w hp hr)
  obtain ⟨q, hq⟩ : ∃ q : ByteArray → Bool, q = fun s => !(dims.any (isS s)) := ⟨_, rfl⟩
  rw [← hq]
  have HU2 : Hid (∀ s, Calls Try.prog 21 #[.string s, .pointer (some ⟨p, 0, none⟩)] w fun e w' => e = .returned (.bool (q s)) ∧ w = w') := Lib.hid (by rw [hq]; exact HU.out)
  clear HU hq hp hr
  go_enter Try.func33, Try.ntmps33
  go_wp2
  go_loop [8] (fun i => ∃ k : Nat, k ≤ l.length ∧ i = .int .i64 k ∧ ∀ j, j < k → q (l.getD j ByteArray.empty) = false) (fun i => l.length - (intOf i).toNat)
  case atStart => exact ⟨0, by omega, rfl, fun j h => absurd h (by omega)⟩
  case round =>
    obtain ⟨k, hk, rfl, hn⟩ := hrel
    have HN := Lib.hid hn
    clear hn
    by_cases hlt : k < l.length
    · obtain ⟨b, off, rfl, hb, hcell⟩ := HC.out (by omega)
      obtain ⟨y, hy, hcy⟩ : ∃ y, Hid (l.getD k ByteArray.empty = y) ∧ w.cell? ⟨b, off + k, none⟩ = some (.string y) := ⟨_, rfl, hcell k hlt⟩
      have hu := HU2.out y
      clear hcell HC
      cases hqy : q y
      · rw [hqy] at hu
        have HQ := Lib.hid hqy
        have HUY := Lib.hid hu
        clear hqy hu
        go_wp2_with (go_at_call 21; refine HUY.out.mono ?_; rintro e w' ⟨rfl, rfl⟩)
        go_round
        case rel =>
          refine ⟨k + 1, by omega, by go_num, fun j hj => ?_⟩
          by_cases e : j = k
          · subst e; rw [hy.out]; exact HQ.out
          · exact HN.out j (by omega)
        case measure => simp [intOf]; omega
      · rw [hqy] at hu
        have HQ := Lib.hid hqy
        have HUY := Lib.hid hu
        clear hqy hu
        go_wp2_with (go_at_call 21; refine HUY.out.mono ?_; rintro e w' ⟨rfl, rfl⟩)
        go_ret
        exact ⟨ret_int (idxP_at (d := ByteArray.empty) hlt (by rw [hy.out]; exact HQ.out) HN.out).symm, rfl⟩
    · go_wp2
      go_ret
      exact ⟨ret_int (idxP_none (d := ByteArray.empty) fun j hj => HN.out j (by omega)).symm, rfl⟩

theorem any20 (B p : Nat) (vd : Value) (dims : List ByteArray) (w : World) (v : Value) (l : List ByteArray) (hp : Blk w p 24 #[vd]) (hr : RowS B w vd dims) (hl : RowS B w v l) :
    Calls Try.prog 20 #[v, .func (Fn.func 21) #[] #[.pointer (some ⟨p, 0, none⟩)]] w fun e w' => e = .returned (.bool (l.any fun s => !(dims.any (isS s)))) ∧ w = w' := by
  have HI := Lib.hid (index33 B p vd dims w v l hp hr hl)
  go_enter Try.func20, Try.ntmps20
  go_wp2_with (go_at_call 33; refine HI.out.mono ?_; rintro e w' ⟨rfl, rfl⟩)
  go_ret
  exact ⟨ret_bool (by rw [← idxP_any]), rfl⟩

/-- are all names known? -/
def knownB (dims l : List ByteArray) : Bool := !(l.any fun s => !(dims.any (isS s)))
theorem known19 (B p : Nat) (vd : Value) (dims : List ByteArray) (w : World) (v : Value) (l : List ByteArray) (hp : Blk w p 24 #[vd]) (hr : RowS B w vd dims) (hl : RowS B w v l) :
    Calls Try.prog 19 #[v, .pointer (some ⟨p, 0, none⟩)] w fun e w' => e = .returned (.bool (knownB dims l)) ∧ w = w' := by
  have HI := Lib.hid (any20 B p vd dims w v l hp hr hl)
  obtain ⟨a, cap, rfl, -⟩ := hl.open
  go_enter Try.func19, Try.ntmps19
  go_wp2_with (go_at_call 20; refine HI.out.mono ?_; rintro e w' ⟨rfl, rfl⟩)
  go_ret
  exact ⟨rfl, rfl⟩

/-- the closure that asks whether a set has an unknown name: its variable is the one that asks of lists -/
theorem unknown24 (B p p6 : Nat) (vd : Value) (dims : List ByteArray) (w : World) (v : Value) (l : List ByteArray) (hp : Blk w p 24 #[vd]) (h6 : Blk w p6 47 #[.func (Fn.func 19) #[] #[.pointer (some ⟨p, 0, none⟩)]]) (hr : RowS B w vd dims) (hl : RowS B w v l) :
    Calls Try.prog 24 #[v, .pointer (some ⟨p6, 0, none⟩)] w fun e w' => e = .returned (.bool (!(knownB dims l))) ∧ w = w' := by
  have HI := Lib.hid (known19 B p vd dims w v l hp hr hl)
  have c0 : w.cell? ⟨p6, 0, none⟩ = some (.func (Fn.func 19) #[] #[.pointer (some ⟨p, 0, none⟩)]) := Blk.cell h6 0
  go_enter Try.func24, Try.ntmps24
  go_wp2_with (go_at_call 19; refine HI.out.mono ?_; rintro e w' ⟨rfl, rfl⟩)
  go_ret
  exact ⟨rfl, rfl⟩

/-- a slice of slices of texts that can be read -/
structure RowL (B : Nat) (w : World) (v : Value) (ls : List (List ByteArray)) : Prop where
  row : ∃ vs : List Value, vs.length = ls.length ∧ Row B w v ls.length 1 vs ∧ ∀ j, j < ls.length → RowS B w (vs.getD j undef) (ls.getD j [])
theorem RowL.mono {B B' : Nat} {w w' : World} {v : Value} {ls : List (List ByteArray)} (h : RowL B w v ls) (hb : Below B w w') (hB : B ≤ B') : RowL B' w' v ls := by
  obtain ⟨vs, h1, h2, h3⟩ := h.row
  exact ⟨vs, h1, Row.mono h2 hb hB, fun j hj => (h3 j hj).mono hb hB⟩
theorem RowL.nil (B : Nat) (w : World) : RowL B w (.slice none 0 0) [] := ⟨[], rfl, Row.nil B w 1, fun j hj => absurd hj (by simp)⟩
theorem RowL.open {B : Nat} {w : World} {v : Value} {ls : List (List ByteArray)} (h : RowL B w v ls) : ∃ a cap, v = .slice a ls.length cap ∧ ls.length ≤ cap ∧ cap ≤ 9223372036854775807 ∧
    (0 < ls.length → ∃ b off, a = some ⟨b, off, none⟩ ∧ b < B ∧ ∀ j, j < ls.length → ∃ x, w.cell? ⟨b, off + j, none⟩ = some x ∧ RowS B w x (ls.getD j [])) := by
  obtain ⟨vs, hl, ⟨h1, a, cap, hv, h2, h3, h4⟩, h5⟩ := h.row
  refine ⟨a, cap, hv, h2, by simpa [maxLen] using h3, fun hn => ?_⟩
  obtain ⟨b, off, ha, hb', hc⟩ := h4 hn
  exact ⟨b, off, ha, hb', fun j hj => ⟨_, hc j (by omega), h5 j hj⟩⟩

theorem index35 (B p p6 : Nat) (vd : Value) (dims : List ByteArray) (w : World) (v : Value) (ls : List (List ByteArray)) (hp : Blk w p 24 #[vd]) (h6 : Blk w p6 47 #[.func (Fn.func 19) #[] #[.pointer (some ⟨p, 0, none⟩)]]) (hr : RowS B w vd dims) (hl : RowL B w v ls) :
    Calls Try.prog 35 #[v, .func (Fn.func 24) #[] #[.pointer (some ⟨p6, 0, none⟩)]] w fun e w' => e = .returned (.int .i64 (idxP ls fun l => !(knownB dims l))) ∧ w = w' := by
  obtain ⟨a, cap, rfl, hcap, hmax, hc⟩ := hl.open
  have HC := Lib.hid hc
  clear hc hl
  have HU := Lib.hid (fun v l => unknown24 B p p6 vd dims w v l hp h6 hr)
  obtain ⟨q, hq⟩ : ∃ q : List ByteArray → Bool, q = fun l => !(knownB dims l) := ⟨_, rfl⟩
  rw [← hq]
  have HU2 : Hid (∀ v l, RowS B w v l → Calls Try.prog 24 #[v, .pointer (some ⟨p6, 0, none⟩)] w fun e w' => e = .returned (.bool (q l)) ∧ w = w') := Lib.hid (by rw [hq]; exact HU.out)
  clear HU hq hp hr h6
  go_enter Try.func35, Try.ntmps35
  go_wp2
  go_loop [8] (fun i => ∃ k : Nat, k ≤ ls.length ∧ i = .int .i64 k ∧ ∀ j, j < k → q (ls.getD j []) = false) (fun i => ls.length - (intOf i).toNat)
  case atStart => exact ⟨0, by omega, rfl, fun j h => absurd h (by omega)⟩
  case round =>
    obtain ⟨k, hk, rfl, hn⟩ := hrel
    have HN := Lib.hid hn
    clear hn
    by_cases hlt : k < ls.length
    · obtain ⟨b, off, rfl, hb, hcell⟩ := HC.out (by omega)
      obtain ⟨x, hcx, hrow⟩ := hcell k hlt
      have hu := HU2.out x _ hrow
      obtain ⟨ax, kx, rfl, -⟩ := hrow.open
      have HR := Lib.hid hrow
      clear hcell HC hrow
      obtain ⟨y, hy⟩ : ∃ y, ls.getD k [] = y := ⟨_, rfl⟩
      rw [hy] at hu hcx HR
      have HY := Lib.hid hy
      clear hy
      cases hqy : q y
      · rw [hqy] at hu
        have HQ := Lib.hid hqy
        have HUY := Lib.hid hu
        clear hqy hu
        go_wp2_with (go_at_call 24; refine HUY.out.mono ?_; rintro e w' ⟨rfl, rfl⟩)
        go_round
        case rel =>
          refine ⟨k + 1, by omega, by go_num, fun j hj => ?_⟩
          by_cases e : j = k
          · subst e; rw [HY.out]; exact HQ.out
          · exact HN.out j (by omega)
        case measure => simp [intOf]; omega
      · rw [hqy] at hu
        have HQ := Lib.hid hqy
        have HUY := Lib.hid hu
        clear hqy hu
        go_wp2_with (go_at_call 24; refine HUY.out.mono ?_; rintro e w' ⟨rfl, rfl⟩)
        go_ret
        exact ⟨ret_int (idxP_at (d := []) hlt (by rw [HY.out]; exact HQ.out) HN.out).symm, rfl⟩
    · go_wp2
      go_ret
      exact ⟨ret_int (idxP_none (d := []) fun j hj => HN.out j (by omega)).symm, rfl⟩

theorem any23 (B p p6 : Nat) (vd : Value) (dims : List ByteArray) (w : World) (v : Value) (ls : List (List ByteArray)) (hp : Blk w p 24 #[vd]) (h6 : Blk w p6 47 #[.func (Fn.func 19) #[] #[.pointer (some ⟨p, 0, none⟩)]]) (hr : RowS B w vd dims) (hl : RowL B w v ls) :
    Calls Try.prog 23 #[v, .func (Fn.func 24) #[] #[.pointer (some ⟨p6, 0, none⟩)]] w fun e w' => e = .returned (.bool (ls.any fun l => !(knownB dims l))) ∧ w = w' := by
  have HI := Lib.hid (index35 B p p6 vd dims w v ls hp h6 hr hl)
  go_enter Try.func23, Try.ntmps23
  go_wp2_with (go_at_call 35; refine HI.out.mono ?_; rintro e w' ⟨rfl, rfl⟩)
  go_ret
  exact ⟨ret_bool (by rw [← idxP_any]), rfl⟩
end Go.Proofs.Ytbcnmkdlaoaoeaa
