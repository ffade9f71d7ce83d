/- Calls as a script has them; what each does to the bytes that flow to side 1. -/
import Derived.Test.YtalcmaphndfcfaaM
namespace Go.Proofs.Ytalcmaphndfcfaa
open Go.RowKit Go.Maps
set_option linter.unusedVariables false
set_option linter.unusedSimpArgs false

/-- a call -/
structure Op5 where
  kind : Int
  conn : Int
  side : Int
  many : Int
  data : ByteArray
def opC (o : Op5) : List Value := [.int .i64 o.kind, .int .i64 o.conn, .int .i64 o.side, .int .i64 o.many, .string o.data]
def opsC (l : List Op5) : List Value := l.flatMap opC
def op0 : Op5 := ⟨0, 0, 0, 0, e0⟩
theorem opsC_at (l : List Op5) (i r : Nat) (hi : i < l.length) (hr : r < 5) : (opsC l).getD (i * 5 + r) undef = (opC (l.getD i op0)).getD r undef := by
  induction l generalizing i with
  | nil => simp at hi
  | cons p l ih =>
    have e : opsC (p :: l) = opC p ++ opsC l := by simp [opsC]
    have hl : (opC p).length = 5 := rfl
    rw [e, List.getD_eq_getElem?_getD]
    cases i with
    | zero =>
      rw [List.getElem?_append_left (by omega)]
      simp [List.getD_eq_getElem?_getD]
    | succ i =>
      rw [List.getElem?_append_right (by omega)]
      simp at hi
      have := ih i (by omega)
      rw [List.getD_eq_getElem?_getD] at this
      rw [show (i + 1) * 5 + r - (opC p).length = i * 5 + r by omega, this]
      simp [List.getD_eq_getElem?_getD]

theorem and1_i64 (x : Int) : bits .and .i64 x 1 = x % 2 := by
  have e2 : (1 : Int) = ((1 : Nat) : Int) := rfl
  have h2 : (BitVec.ofInt 64 ((1 : Nat) : Int)).toNat = 1 := by
    rw [BitVec.ofInt_natCast, BitVec.toNat_ofNat]
  have h1 : (BitVec.ofInt 64 x).toNat = (x % 18446744073709551616).toNat := by
    rw [BitVec.toNat_ofInt]; rfl
  rw [e2]
  show IntKind.i64.wrap ((BitVec.ofInt 64 x &&& BitVec.ofInt 64 ((1 : Nat) : Int)).toNat : Int) = _
  rw [BitVec.toNat_and, h1, h2, show (1 : Nat) = 2 ^ 1 - 1 from rfl, Nat.and_two_pow_sub_one_eq_mod, IntKind.wrap_i64]
  omega

theorem info32 : (Try.prog.info? 32).map (·.size) = some 5 := by kernel_rfl

/-- one of two -/
def pick2 {α : Type} (k : Int) (a b : α) : α := if k = 0 then a else b

/-! what a call does to the bytes that flow to side 1 of connection x -/
section
variable {F : Nat → Prop} {w : World} {bn : Nat} {made : Int} {L : List Cn} {x : Int} {g s : ByteArray}

/-- nothing but connection x has turned, and it is there if it was -/
def Near (L L' : List Cn) (x : Int) : Prop := (∀ y, y ≠ x → findC L' y = findC L y) ∧ (Live L x → Live L' x)
theorem Near.ask (L : List Cn) (x sd : Int) : Near L (askL L x sd) x := by
  refine ⟨fun y hy => ?_, fun h => h.ask x sd⟩
  rcases ask_find L x y sd with e | ⟨e, -⟩
  · exact e
  · exact absurd e hy
theorem Near.upd {c c' : Cn} (hc : findC L x = some c) (hn : c'.num = x) (hcut : c'.cut = false) : Near L (updC L c') x :=
  ⟨fun y hy => upd_other (by rw [hn]; exact hy), fun _ => ⟨c', upd_self hc hn, hcut⟩⟩

theorem send10_flow (h : NetAt F w bn made L) (hf : Flow L x g s) (hx : (Lit.int .i64 x).wf = true) (d : ByteArray) (hd : d.size ≤ 9223372036854775807) :
    Calls Try.prog 10 #[.pointer (some ⟨bn, 0, none⟩), .int .i64 x, .int .i64 0, .string d] w fun e w' => ∃ (m : Nat) (er : Int) (L' : List Cn), e = .returned (.tuple #[.int .i64 (m : Int), .int .i64 er]) ∧
      NetAt F w' bn made L' ∧ Turn F w w' ∧ Near L L' x ∧ m ≤ d.size ∧ m ≤ 65536 ∧ ((er ≠ 0 ∧ Flow L' x g s) ∨ (er = 0 ∧ Flow L' x g (s ++ d.extract 0 m))) := by
  by_cases he : askE L x 0 = 0
  · obtain ⟨c, hc, -, hcut⟩ := askE_ok he
    obtain ⟨r, h1, h2⟩ := hf
    have hsh := (h2 c hc hcut).2.1
    refine (send10_ok0 h x d hx hc hcut hsh (roomN c 1 d.size) rfl hd).mono ?_
    rintro e w' ⟨rfl, hN, hT⟩
    exact ⟨_, _, _, rfl, hN, hT, Near.upd hc (by rw [setUn_num]; exact (findC_mem hc).2) hcut, by unfold roomN; omega, by unfold roomN; omega, .inr ⟨rfl, Flow.send ⟨r, h1, h2⟩ hc hcut _⟩⟩
  · refine (send10_err h x 0 d hx he).mono ?_
    rintro e w' ⟨rfl, hN, hT⟩
    exact ⟨0, _, _, rfl, hN, hT, Near.ask _ _ _, by omega, by omega, .inl ⟨he, hf.ask _ _⟩⟩
theorem move11_flow (h : NetAt F w bn made L) (hf : Flow L x g s) (hx : (Lit.int .i64 x).wf = true) (m : Int) :
    Calls Try.prog 11 #[.pointer (some ⟨bn, 0, none⟩), .int .i64 x, .int .i64 1, .int .i64 m] w fun e w' => ∃ (v : Value) (L' : List Cn), e = .returned v ∧ (∃ a b : Int, v = .tuple #[.int .i64 a, .int .i64 b]) ∧
      NetAt F w' bn made L' ∧ Turn F w w' ∧ Near L L' x ∧ Flow L' x g s := by
  by_cases he : askE L x 1 = 0
  · obtain ⟨c, hc, -, hcut⟩ := askE_ok he
    refine (move11_ok1 h x m hx hc hcut _ rfl).mono ?_
    rintro e w' ⟨rfl, hN, hT⟩
    exact ⟨_, _, rfl, ⟨_, _, rfl⟩, hN, hT, Near.upd hc (by rw [setTh_num, setUn_num]; exact (findC_mem hc).2) hcut, hf.move hc hcut _⟩
  · refine (move11_err h x 1 m hx he).mono ?_
    rintro e w' ⟨rfl, hN, hT⟩
    exact ⟨_, _, rfl, ⟨_, _, rfl⟩, hN, hT, Near.ask _ _ _, hf.ask _ _⟩
theorem take12_flow (h : NetAt F w bn made L) (hf : Flow L x g s) (hx : (Lit.int .i64 x).wf = true) (m : Int) :
    Calls Try.prog 12 #[.pointer (some ⟨bn, 0, none⟩), .int .i64 x, .int .i64 1, .int .i64 m] w fun e w' => ∃ (t : ByteArray) (er : Int) (L' : List Cn), e = .returned (.tuple #[.string t, .int .i64 er]) ∧
      NetAt F w' bn made L' ∧ Turn F w w' ∧ Near L L' x ∧ Flow L' x (g ++ t) s := by
  have hemp : g ++ (⟨#[]⟩ : ByteArray) = g := ByteArray.append_empty
  by_cases he : askE L x 1 = 0
  · obtain ⟨c, hc, -, hcut⟩ := askE_ok he
    rcases Nat.eq_zero_or_pos c.th1.size with h0 | h0
    · refine (take12_none1 h x m hx hc hcut h0).mono ?_
      rintro e w' ⟨rfl, rfl⟩
      exact ⟨_, _, _, rfl, h, Turn.refl _ _, ⟨fun y _ => rfl, id⟩, by rw [hemp]; exact hf⟩
    · refine (take12_ok1 h x m hx hc hcut h0 _ rfl).mono ?_
      rintro e w' ⟨rfl, hN, hT⟩
      obtain ⟨hf1, hf2⟩ := hf.take hc hcut (tookN m c.th1.size)
      refine ⟨_, _, _, rfl, hN, hT, ?_, hf1⟩
      rw [hf2]
      exact Near.upd hc (by rw [setTh_num]; exact (findC_mem hc).2) hcut
  · refine (take12_err h x 1 m hx he).mono ?_
    rintro e w' ⟨rfl, hN, hT⟩
    exact ⟨_, _, _, rfl, hN, hT, Near.ask _ _ _, by rw [hemp]; exact hf.ask _ _⟩
theorem cut13_flow (h : NetAt F w bn made L) (hx : (Lit.int .i64 x).wf = true) :
    Calls Try.prog 13 #[.pointer (some ⟨bn, 0, none⟩), .int .i64 x] w fun e w' => ∃ (er : Int) (L' : List Cn), e = .returned (.int .i64 er) ∧
      NetAt F w' bn made L' ∧ Turn F w w' ∧ (∀ y, y ≠ x → findC L' y = findC L y) ∧ (∀ y g s, Flow L y g s → Flow L' y g s) := by
  cases hc : findC L x with
  | none =>
    refine (cut13_none h x hx hc).mono ?_
    rintro e w' ⟨rfl, rfl⟩
    exact ⟨_, _, rfl, h, Turn.refl _ _, fun _ _ => rfl, fun _ _ _ h => h⟩
  | some c =>
    cases hcut : c.cut
    · refine (cut13_ok h x hx hc hcut).mono ?_
      rintro e w' ⟨rfl, hN, hT⟩
      exact ⟨_, _, rfl, hN, hT, fun y hy => upd_other (by rw [show c.cutOff.num = c.num from rfl, (findC_mem hc).2]; exact hy), fun y g s hf => hf.cutOff hc⟩
    · refine (cut13_twice h x hx hc hcut).mono ?_
      rintro e w' ⟨rfl, rfl⟩
      exact ⟨_, _, rfl, h, Turn.refl _ _, fun _ _ => rfl, fun _ _ _ h => h⟩
theorem Flow.near {L' : List Cn} {y : Int} (h : Flow L y g s) (hn : Near L L' x) (hy : y ≠ x) : Flow L' y g s := h.other (hn.1 y hy)
theorem Live.near {L' : List Cn} {y : Int} (h : Live L y) (hn : Near L L' x) : Live L' y := by
  by_cases e : y = x
  · subst e; exact hn.2 h
  · exact h.other (hn.1 y e)
end
end Go.Proofs.Ytalcmaphndfcfaa
