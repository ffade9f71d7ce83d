/- A writer that may be nil: Byte, Int, Count, Text, Texts. -/
import Derived.Test.YtocanbdpdnkapaaJ
import Derived.Test.YtocanbdpdnkapaaBase17
namespace Go.Proofs.Ytocanbdpdnkapaa
open Go.RowKit
set_option linter.unusedVariables false
set_option linter.unusedSimpArgs false

def wptr (b : Option Nat) : Value := .pointer (b.map fun B => ⟨B, 0, none⟩)
/-- what lies below this has not turned -/
def low (b : Option Nat) (w : World) : Nat := match b with | none => w.heap.size | some B => min B w.heap.size
theorem low_le (b : Option Nat) (w : World) : low b w ≤ w.heap.size := by
  cases b with
  | none => exact Nat.le_refl _
  | some B => exact Nat.min_le_right _ _
theorem low_mono (b : Option Nat) {w w' : World} (h : w.heap.size ≤ w'.heap.size) : low b w ≤ low b w' := by
  cases b with
  | none => exact h
  | some B => show min B w.heap.size ≤ min B w'.heap.size; omega
/-- blocks of types other than a writer's are as they were -/
def KeepT (w w' : World) : Prop := ∀ k T cs, T ≠ 5 → T ≠ 51 → Blk w k T cs → Blk w' k T cs
theorem KeepT.refl (w : World) : KeepT w w := fun _ _ _ _ _ h => h
theorem KeepT.trans {w w1 w2 : World} (h : KeepT w w1) (h2 : KeepT w1 w2) : KeepT w w2 := fun k T cs a b hb => h2 k T cs a b (h k T cs a b hb)
theorem KeepT.of {w w' : World} (h : Below w.heap.size w w') : KeepT w w' := fun k T cs _ _ hb => Blk.below hb h hb.lt
theorem KeepT.set {w : World} {B : Nat} {cs0 : Array Value} (h : Blk w B 51 cs0) (j : Nat) (u : Value) : KeepT w (w.setCell ⟨B, j, none⟩ u) := fun k T cs _ hT hb => Blk.other hb (fun e => by
  have e : B = k := e
  subst e
  have := Option.some.inj (hb.symm.trans h)
  cases this
  exact hT rfl) u
theorem KeepT.grown {w w' : World} {base : Nat} {v : Value} {n : Nat} {xs : List Value} (h : w.ownsRow base 5 1 v n xs) (hg : w.grownBy w' v.ownBlock) : KeepT w w' := fun k T cs hT _ hb => Blk.grown hb hg (fun e => by
  rcases h.2 with ⟨rfl, -⟩ | ⟨g, cap, cur, rfl, -, hh, -⟩
  · cases e
  · cases e
    have hb' : w.heap[g]? = some (.cells cs T (0, 0)) := hb
    have := Option.some.inj (hb'.symm.trans hh)
    cases this
    exact hT rfl)
structure BelO (b : Option Nat) (w w' : World) : Prop where
  below : Below (low b w) w w'
  keep : KeepT w w'
theorem BelO.size {b : Option Nat} {w w' : World} (h : BelO b w w') : w.heap.size ≤ w'.heap.size := h.below.size
theorem BelO.refl (b : Option Nat) (w : World) : BelO b w w := ⟨Below.refl _ _, KeepT.refl _⟩
theorem BelO.of {b : Option Nat} {w w' : World} (h : Below w.heap.size w w') : BelO b w w' := ⟨h.mono (low_le b w), KeepT.of h⟩
theorem BelO.trans {b : Option Nat} {w w1 w2 : World} (h : BelO b w w1) (h2 : BelO b w1 w2) : BelO b w w2 := ⟨Below.trans h.below (h2.below.mono (low_mono b h.size)), h.keep.trans h2.keep⟩
theorem BelO.call {b : Option Nat} {w w1 w2 : World} (h : BelO b w w1) (h2 : Below w1.heap.size w1 w2) : BelO b w w2 := h.trans (BelO.of h2)
theorem BelO.al {b : Option Nat} {w w1 : World} (h : BelO b w w1) (o : Obj) : BelO b w (w1.alloc o) := h.call (Below.al (Below.refl _ _) o)
theorem Blk.belO {b : Option Nat} {w w' : World} {k : Nat} {T : TypeId} {cs : Array Value} (h : Blk w k T cs) (hb : BelO b w w') (h5 : T ≠ 5) (h51 : T ≠ 51) : Blk w' k T cs := hb.keep k T cs h5 h51 h

def WrO (b : Option Nat) (w : World) (x : WrS) : Prop := match b with | none => x = ⟨[], 1⟩ | some B => WrAt B w x
theorem WrO.below {b : Option Nat} {w w' : World} {x : WrS} (h : WrO b w x) (hB : Below w.heap.size w w') : WrO b w' x := by
  cases b with
  | none => exact h
  | some B => exact WrAt.below h hB
def WroteO (b : Option Nat) (w : World) (x : WrS) (e : Ending) (w' : World) : Prop := e = .returned (.tuple #[]) ∧ WrO b w' x ∧ BelO b w w'
theorem WroteO.of {B : Nat} {w : World} {x : WrS} {e : Ending} {w' : World} (h : Wrote B w x e w' ∧ KeepT w w') : WroteO (some B) w x e w' :=
  ⟨h.1.1, h.1.2.1, h.1.2.2.mono (Nat.min_le_left _ _), h.2⟩
set_option maxRecDepth 100000 in
set_option maxHeartbeats 4000000 in
theorem lay76K (B : Nat) (x : WrS) (s : ByteArray) (w : World) (hx : WrAt B w x) (hs : s.size ≤ 4611686018427387904) :
    Calls Try.prog 76 #[.pointer (some ⟨B, 0, none⟩), .string s] w (fun e w' => Wrote B w (layW x s) e w' ∧ KeepT w w') := by
  obtain ⟨i0, hi, hz0, hz1, hz2⟩ := info_parts info5
  obtain ⟨⟨v, hb, hown⟩, hlen⟩ := hx
  obtain ⟨a, c, rfl⟩ := owns_form hown
  have c0 : w.cell? ⟨B, 0, none⟩ = some (.slice a x.l.length c) := Blk.cell hb 0
  have c1 : w.cell? ⟨B, 1, none⟩ = some (.int .i64 x.e) := Blk.cell hb 1
  have f0 : w.frozen? ⟨B, 0, none⟩ = false := Blk.free hb 0
  have f1 : w.frozen? ⟨B, 1, none⟩ = false := Blk.free hb 1
  have HX := Lib.hid (And.intro hb hown)
  have hlt := hb.lt
  clear hb hown
  obtain ⟨l, e0⟩ := x
  simp only at c0 c1 hlen HX
  by_cases he : e0 = 0
  · subst he
    by_cases hbig : 65536 < l.length + s.size
    · have hR : layW ⟨l, 0⟩ s = ⟨l, 23⟩ := by unfold layW; rw [if_neg (by simp), if_pos hbig]
      have hI : decide ((65536 : Int) < (l.length : Int) + s.size) = true := decide_eq_true (by omega)
      have hset := Blk.set HX.out.1 1 (.int .i64 23)
      have HW := Lib.hid (show WrAt B (w.setCell ⟨B, 1, none⟩ (.int .i64 23)) ⟨l, 23⟩ from ⟨⟨_, hset, owns_cell_other HX.out.2 (by show B < B + 1; omega) _⟩, hlen⟩)
      have HR := Lib.hid hR
      have HB := Lib.hid (And.intro (below_set (Below.refl B w) (Nat.le_refl B) 1 (.int .i64 23)) (KeepT.set HX.out.1 1 (.int .i64 23)))
      clear hR hset
      go_enter Try.func76, Try.ntmps76
      go_wp2_with fail
      first | (go_end0; exact ⟨⟨rfl, by rw [HR.out]; exact HW.out, HB.out.1⟩, HB.out.2⟩) | exact bodyPost_ret (v := .tuple #[]) (by simp [results, Try.f76, go_sem]) rfl ⟨⟨rfl, by rw [HR.out]; exact HW.out, HB.out.1⟩, HB.out.2⟩
    · have hR : layW ⟨l, 0⟩ s = ⟨l ++ s.data.toList, 0⟩ := by unfold layW; rw [if_neg (by simp), if_neg hbig]
      have hI : decide ((65536 : Int) < (l.length : Int) + s.size) = false := decide_eq_false (by omega)
      have HR := Lib.hid hR
      have hsz : s.data.toList.length = s.size := by rw [Array.length_toList]; rfl
      have HSZ := Lib.hid hsz
      clear hR hsz
      go_enter Try.func76, Try.ntmps76
      go_wp2_with (at_builtin; refine Lib.wpList_append_own_string _ rfl _ _ 49 9 rfl (B + 1) 5 i0 Try.underlying49 Try.underlying9 hi hz0 hz1 hz2 _ l.length (byteV l) rfl HX.out.2 s rfl (by unfold maxLen; omega) (by omega) (by omega) ?_; intro v' w1 hown' hgrow _; obtain ⟨a', c', rfl⟩ := owns_form hown'; have g1 : w1.frozen? ⟨B, 0, none⟩ = false := Blk.free (Blk.grown HX.out.1 hgrow (fun e => by have h1 := HX.out.2.lt _ e.symm; omega)) 0; have g2 : w1.cell? ⟨B, 0, none⟩ = some (.slice a l.length c) := Blk.cell (Blk.grown HX.out.1 hgrow (fun e => by have h1 := HX.out.2.lt _ e.symm; omega)) 0)
      have hb1 := Blk.grown HX.out.1 hgrow (fun e => by have h1 := HX.out.2.lt _ e.symm; omega)
      have hset := Blk.set hb1 0 (.slice a' (l.length + s.size) c')
      have hB1 : Below B w w1 := (Below.refl B w).grown hgrow (by omega) (fun k hk => by have := (HX.out.2.lt k hk).1; omega)
      have HW : WrAt B (w1.setCell ⟨B, 0, none⟩ (.slice a' (l.length + s.size) c')) ⟨l ++ s.data.toList, 0⟩ :=
        ⟨⟨_, hset, by
          have := owns_cell_other hown' (p := ⟨B, 0, none⟩) (by show B < B + 1; omega) (.slice a' (l.length + s.size) c')
          rw [byteV_str, ← byteV_append] at this
          show World.ownsRow _ _ _ _ _ (l ++ s.data.toList).length _
          rw [List.length_append, HSZ.out]
          exact this⟩, by show (l ++ s.data.toList).length ≤ 65536; rw [List.length_append, HSZ.out]; omega⟩
      first | (go_end0; exact ⟨⟨rfl, by rw [HR.out]; exact HW, below_set hB1 (Nat.le_refl B) 0 _⟩, (KeepT.grown HX.out.2 hgrow).trans (KeepT.set hb1 0 _)⟩) | exact bodyPost_ret (v := .tuple #[]) (by simp [results, Try.f76, go_sem]) rfl ⟨⟨rfl, by rw [HR.out]; exact HW, below_set hB1 (Nat.le_refl B) 0 _⟩, (KeepT.grown HX.out.2 hgrow).trans (KeepT.set hb1 0 _)⟩
  · have hR : layW ⟨l, e0⟩ s = ⟨l, e0⟩ := by unfold layW; rw [if_pos he]
    have hne : (e0 != 0) = true := by simpa using he
    have HR := Lib.hid hR
    clear hR
    go_enter Try.func76, Try.ntmps76
    go_wp2_with fail
    exact bodyPost_ret (v := .tuple #[]) (by simp [results, Try.f76, go_sem]) rfl ⟨⟨rfl, by rw [HR.out]; exact ⟨⟨_, HX.out.1, HX.out.2⟩, hlen⟩, Below.refl _ _⟩, KeepT.refl _⟩
theorem fail80K (B : Nat) (x : WrS) (e1 : Int) (w : World) (hx : WrAt B w x) :
    Calls Try.prog 80 #[.pointer (some ⟨B, 0, none⟩), .int .i64 e1] w (fun e w' => Wrote B w (failW x e1) e w' ∧ KeepT w w') := by
  obtain ⟨⟨v, hb, hown⟩, hlen⟩ := hx
  have c1 : w.cell? ⟨B, 1, none⟩ = some (.int .i64 x.e) := Blk.cell hb 1
  have f1 : w.frozen? ⟨B, 1, none⟩ = false := Blk.free hb 1
  have HX := Lib.hid (And.intro hb hown)
  have hlt := hb.lt
  clear hb hown
  obtain ⟨l, e0⟩ := x
  simp only at c1 hlen HX
  by_cases he : e0 = 0
  · subst he
    have HR := Lib.hid (show failW ⟨l, 0⟩ e1 = ⟨l, e1⟩ from if_neg (by simp))
    have hset := Blk.set HX.out.1 1 (.int .i64 e1)
    have HW := Lib.hid (show WrAt B (w.setCell ⟨B, 1, none⟩ (.int .i64 e1)) ⟨l, e1⟩ from ⟨⟨_, hset, owns_cell_other HX.out.2 (by show B < B + 1; omega) _⟩, hlen⟩)
    have HB := Lib.hid (And.intro (below_set (Below.refl B w) (Nat.le_refl B) 1 (.int .i64 e1)) (KeepT.set HX.out.1 1 (.int .i64 e1)))
    clear hset
    go_enter Try.func80, Try.ntmps80
    go_wp2_with fail
    go_end0
    exact ⟨⟨rfl, by rw [HR.out]; exact HW.out, HB.out.1⟩, HB.out.2⟩
  · have HR := Lib.hid (show failW ⟨l, e0⟩ e1 = ⟨l, e0⟩ from if_pos he)
    have hne : (e0 == 0) = false := by simpa using he
    go_enter Try.func80, Try.ntmps80
    go_wp2_with fail
    go_end0
    exact ⟨⟨rfl, by rw [HR.out]; exact ⟨⟨_, HX.out.1, HX.out.2⟩, hlen⟩, Below.refl _ _⟩, KeepT.refl _⟩
/-- a text that a writer may be given -/
def okS (b : Option Nat) (s : ByteArray) : Prop := s.size ≤ 9223372036854775807 ∧ (b = none ∨ s.size ≤ 4611686018427387904)
theorem okS_small (b : Option Nat) {s : ByteArray} (h : s.size ≤ 4611686018427387904) : okS b s := ⟨by omega, .inr h⟩
theorem lay76O (b : Option Nat) (x : WrS) (s : ByteArray) (w : World) (hx : WrO b w x) (hs : okS b s) :
    Calls Try.prog 76 #[wptr b, .string s] w (WroteO b w (layW x s)) := by
  cases b with
  | none =>
    have hx' : x = ⟨[], 1⟩ := hx
    subst hx'
    exact (lay76_nil s w).mono fun e w' ⟨h1, h2⟩ => ⟨h1, rfl, by rw [← h2]; exact BelO.refl _ _⟩
  | some B => exact (lay76K B x s w hx (by rcases hs.2 with h | h; cases h; exact h)).mono fun e w' h => WroteO.of h
theorem fail80O (b : Option Nat) (x : WrS) (e1 : Int) (w : World) (hx : WrO b w x) : Calls Try.prog 80 #[wptr b, .int .i64 e1] w (WroteO b w (failW x e1)) := by
  cases b with
  | none =>
    have hx' : x = ⟨[], 1⟩ := hx
    subst hx'
    exact (fail80_nil e1 w).mono fun e w' ⟨h1, h2⟩ => ⟨h1, rfl, by rw [← h2]; exact BelO.refl _ _⟩
  | some B => exact (fail80K B x e1 w hx).mono fun e w' h => WroteO.of h

theorem byte33O (b : Option Nat) (x : WrS) (n : Nat) (hn : n < 256) (w : World) (hx : WrO b w x) :
    Calls Try.prog 33 #[wptr b, .int .u8 (n : Nat)] w (WroteO b w (layW x (byteS n))) := by
  have hBl := Below.al (Below.refl w.heap.size w) (Obj.cells #[.int .u8 (n : Nat)] 5)
  have hcv : (convert 49 9 (.slice (some ⟨w.heap.size, 0, none⟩) 1 1)).run Try.prog (w.alloc (Obj.cells #[.int .u8 (n : Nat)] 5)) = .ok (.string (byteS n)) (w.alloc (Obj.cells #[.int .u8 (n : Nat)] 5)) := by
    have e : (((UInt8.ofNat n).toNat : Nat) : Int) = (n : Int) := by rw [UInt8.toNat_ofNat']; omega
    have hbk : Blk (w.alloc (Obj.cells #[.int .u8 (n : Nat)] 5)) w.heap.size 5 (byteV [UInt8.ofNat n]).toArray := by
      have := Blk.new w 5 #[.int .u8 (n : Nat)]
      simp only [byteV, List.map_cons, List.map_nil, e]
      exact this
    exact run_conv_own (dst := 9) Try.underlying49 Try.underlying5 Try.underlying9 (owns_bytes (n := 1) (base := 0) hbk rfl (by decide) (Nat.zero_le _))
  have HL := Lib.hid (lay76O b x (byteS n) _ (hx.below hBl) (okS_small b (by show 1 ≤ 4611686018427387904; omega)))
  have HB := Lib.hid (BelO.of (b := b) hBl)
  clear hx hBl
  go_enter Try.func33, Try.ntmps33
  go_wp2_with fail
  refine HL.out.mono ?_
  rintro e w1 ⟨rfl, h1, h2⟩
  go_wp2_with fail
  go_end0
  exact ⟨rfl, h1, HB.out.trans h2⟩

def u64 (n : Int) : Nat := (n % 18446744073709551616).toNat
theorem u64_lt (n : Int) : u64 n < 18446744073709551616 := by unfold u64; omega
theorem wrap_u64 (n : Int) : IntKind.u64.wrap n = ((u64 n : Nat) : Int) := by rw [IntKind.wrap_u64]; unfold u64; omega
def intW (x : WrS) (n : Int) : WrS := layW x (leS (u64 n) 8)
set_option maxRecDepth 100000 in
theorem int42O (b : Option Nat) (x : WrS) (n : Int) (w : World) (hx : WrO b w x) : Calls Try.prog 42 #[wptr b, .int .i64 n] w (WroteO b w (intW x n)) := by
  have hw := wrap_u64 n
  have hm := u64_lt n
  have HR := Lib.hid (show intW x n = layW x (leS (u64 n) 8) from rfl)
  obtain ⟨m, hme⟩ : ∃ m, u64 n = m := ⟨_, rfl⟩
  rw [hme] at hw hm HR
  have HX := Lib.hid hx
  have HL := Lib.hid (little38 m 8 w hm (by omega))
  clear hx hme hm
  go_enter Try.func42, Try.ntmps42
  go_wp2_with fail
  refine HL.out.mono ?_
  rintro e w1 ⟨rfl, hB1⟩
  have HB1 := Lib.hid (BelO.of (b := b) hB1)
  have HL2 := Lib.hid (lay76O b x (leS m 8) w1 (HX.out.below hB1) (okS_small b (by rw [leS_size]; omega)))
  clear hB1
  go_wp2_with fail
  refine HL2.out.mono ?_
  rintro e w2 ⟨rfl, h1, h2⟩
  go_wp2_with fail
  go_end0
  exact ⟨rfl, by rw [HR.out]; exact h1, HB1.out.trans h2⟩

set_option maxRecDepth 100000 in
theorem count43O (b : Option Nat) (x : WrS) (n : Int) (hn : -9223372036854775808 ≤ n ∧ n ≤ 9223372036854775807) (w : World) (hx : WrO b w x) :
    Calls Try.prog 43 #[wptr b, .int .i64 n] w (WroteO b w (countW x n)) := by
  by_cases h : n < 0 ∨ 4294967295 < n
  · have HR := Lib.hid (show countW x n = failW x 1 from if_pos h)
    have HF := Lib.hid (fail80O b x 1 w hx)
    clear hx
    by_cases h0 : n < 0
    · have d0 : decide (n < 0) = true := decide_eq_true h0
      clear h
      go_enter Try.func43, Try.ntmps43
      go_wp2_with fail
      refine HF.out.mono ?_
      rintro e w1 ⟨rfl, h1, h2⟩
      go_wp2_with fail
      exact bodyPost_ret (v := .tuple #[]) (by simp [results, Try.f43, go_sem]) rfl ⟨rfl, by rw [HR.out]; exact h1, h2⟩
    · have d0 : decide (n < 0) = false := decide_eq_false h0
      have d1 : decide (4294967295 < n) = true := decide_eq_true (by omega)
      clear h
      go_enter Try.func43, Try.ntmps43
      go_wp2_with fail
      refine HF.out.mono ?_
      rintro e w1 ⟨rfl, h1, h2⟩
      go_wp2_with fail
      exact bodyPost_ret (v := .tuple #[]) (by simp [results, Try.f43, go_sem]) rfl ⟨rfl, by rw [HR.out]; exact h1, h2⟩
  · have HR := Lib.hid (show countW x n = layW x (leS n.toNat 4) from if_neg h)
    obtain ⟨m, rfl⟩ : ∃ m : Nat, n = m := ⟨n.toNat, by omega⟩
    rw [Int.toNat_natCast] at HR
    have d0 : decide ((m : Int) < 0) = false := by simp
    have d1 : decide ((4294967295 : Int) < m) = false := decide_eq_false (by omega)
    have HX := Lib.hid hx
    have hm : m < 4294967296 := by omega
    clear hx h
    go_enter Try.func43, Try.ntmps43
    go_wp2_with fail
    refine (little38 m 4 w (by omega) (by omega)).mono ?_
    rintro e w1 ⟨rfl, hB1⟩
    have HB1 := Lib.hid (BelO.of (b := b) hB1)
    have HL := Lib.hid (lay76O b x (leS m 4) w1 (HX.out.below hB1) (okS_small b (by rw [leS_size]; omega)))
    clear hB1
    go_wp2_with fail
    refine HL.out.mono ?_
    rintro e w2 ⟨rfl, h1, h2⟩
    go_wp2_with fail
    go_end0
    exact ⟨rfl, by rw [HR.out]; exact h1, HB1.out.trans h2⟩
theorem text34O (b : Option Nat) (x : WrS) (s : ByteArray) (w : World) (hx : WrO b w x) (hs : okS b s) :
    Calls Try.prog 34 #[wptr b, .string s] w (WroteO b w (textW x s)) := by
  have HC := Lib.hid (count43O b x s.size (by have := hs.1; omega) w hx)
  clear hx
  go_enter Try.func34, Try.ntmps34
  go_wp2_with fail
  refine HC.out.mono ?_
  rintro e w1 ⟨rfl, h1, h2⟩
  have HL := Lib.hid (lay76O b (countW x s.size) s w1 h1 hs)
  have HB := Lib.hid h2
  clear h1 h2
  go_wp2_with fail
  refine HL.out.mono ?_
  rintro e w2 ⟨rfl, h1, h2⟩
  go_wp2_with fail
  go_end0
  exact ⟨rfl, h1, HB.out.trans h2⟩

def textsW (x : WrS) (l : List ByteArray) : WrS := l.foldl textW (countW x l.length)
theorem RowS.belO {b : Option Nat} {w w' : World} {v : Value} {l : List ByteArray} (h : RowS (low b w) w v l) (hb : BelO b w w') : RowS (low b w') w' v l := RowS.mono h hb.below (low_mono b hb.size)

set_option maxHeartbeats 4000000 in
theorem each81 (b : Option Nat) (x : WrS) (v : Value) (l : List ByteArray) (w : World) (hx : WrO b w x) (hr : RowS (low b w) w v l) (hl : ∀ s ∈ l, okS b s) :
    Calls Try.prog 81 #[wptr b, v, .func (Fn.func 34) #[wptr b] #[]] w (WroteO b w (textsW x l)) := by
  obtain ⟨a, cap, rfl, hcap, hmax, hc⟩ := hr.open
  have HC := Lib.hid (count43O b x l.length (by omega) w hx)
  have HCC := Lib.hid hc
  have HLL := Lib.hid hl
  clear hx hr hc hl
  go_enter Try.func81, Try.ntmps81
  go_wp2_with fail
  refine HC.out.mono ?_
  rintro e w1 ⟨rfl, h1, h2⟩
  have H12 := Lib.hid (And.intro h1 h2)
  clear h1 h2 HC
  go_wp2_with fail
  go_loopw [14] (fun i wr => ∃ k : Nat, k ≤ l.length ∧ i = .int .i64 k ∧ WrO b wr ((l.take k).foldl textW (countW x l.length)) ∧ BelO b w wr) (fun i _ => l.length - (intOf i).toNat)
  case atStart => exact ⟨0, by omega, rfl, H12.out.1, H12.out.2⟩
  case round =>
    obtain ⟨k, hk, rfl, hW, hB⟩ := hrel
    by_cases hlt : k < l.length
    · obtain ⟨g, off, rfl, hg, hcell⟩ := HCC.out (by omega)
      have hst := foldl_take textW (countW x l.length) l ByteArray.empty k hlt
      have hsz := HLL.out _ (getD_mem (d := ByteArray.empty) hlt)
      have q := (Below.cell hB.below (p := ⟨g, off + k, none⟩) (by exact hg)).trans (hcell k hlt)
      obtain ⟨s, hs⟩ : ∃ s, l.getD k ByteArray.empty = s := ⟨_, rfl⟩
      rw [hs] at hst hsz q
      have HT := Lib.hid (text34O b _ s wr hW hsz)
      have HST := Lib.hid hst
      have HB := Lib.hid hB
      clear hst hs hW hB hcell HCC
      go_wp2_with fail
      refine HT.out.mono ?_
      rintro e w2 ⟨rfl, h1, h2⟩
      have H2 := Lib.hid (And.intro h1 (HB.out.trans h2))
      clear h1 h2
      go_wp2_with fail
      go_roundw
      case rel => exact ⟨k + 1, by omega, by go_num, by rw [HST.out]; exact H2.out.1, H2.out.2⟩
      case measure => simp [intOf]; omega
    · obtain rfl : k = l.length := by omega
      rw [List.take_length] at hW
      go_wp2_with fail
      go_end0
      exact ⟨rfl, hW, hB⟩
theorem texts44O (b : Option Nat) (x : WrS) (v : Value) (l : List ByteArray) (w : World) (hx : WrO b w x) (hr : RowS (low b w) w v l) (hl : ∀ s ∈ l, okS b s) :
    Calls Try.prog 44 #[wptr b, v] w (WroteO b w (textsW x l)) := by
  have HE := Lib.hid (each81 b x v l w hx hr hl)
  obtain ⟨a, cap, rfl, -⟩ := hr.open
  clear hx hr hl
  go_enter Try.func44, Try.ntmps44
  go_wp2_with fail
  refine HE.out.mono ?_
  rintro e w1 ⟨rfl, h1, h2⟩
  go_wp2_with fail
  go_end0
  exact ⟨rfl, h1, h2⟩
end Go.Proofs.Ytocanbdpdnkapaa
