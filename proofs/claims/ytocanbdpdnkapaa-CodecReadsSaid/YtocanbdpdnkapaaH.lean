/- The writer: lay, fail, Byte, Count, Int, Text, Done. -/
import Derived.Test.YtocanbdpdnkapaaG
import Derived.OwnWalk
namespace Go.Proofs.Ytocanbdpdnkapaa
open Go.RowKit
set_option linter.unusedVariables false
set_option linter.unusedSimpArgs false

/-- a writer: its bytes, and its error -/
structure WrS where
  l : List UInt8
  e : Int
/-- what a writer has behind some bytes -/
def layW (x : WrS) (s : ByteArray) : WrS := if x.e ≠ 0 then x else if 65536 < x.l.length + s.size then ⟨x.l, 23⟩ else ⟨x.l ++ s.data.toList, 0⟩
def failW (x : WrS) (e : Int) : WrS := if x.e ≠ 0 then x else ⟨x.l, e⟩
theorem layW_len {x : WrS} (s : ByteArray) (h : x.l.length ≤ 65536) : (layW x s).l.length ≤ 65536 := by
  unfold layW
  split
  · exact h
  · split
    · exact h
    · simp only [List.length_append, Array.length_toList]
      have : s.data.size = s.size := rfl
      omega
/-- a writer in block B -/
structure WrAt (B : Nat) (w : World) (x : WrS) : Prop where
  at_ : ∃ v, Blk w B 51 #[v, .int .i64 x.e] ∧ w.ownsRow (B + 1) 5 1 v x.l.length (byteV x.l)
  len : x.l.length ≤ 65536
theorem WrAt.below {B : Nat} {w w' : World} {x : WrS} (h : WrAt B w x) (hB : Below w.heap.size w w') : WrAt B w' x := by
  obtain ⟨⟨v, h1, h2⟩, h3⟩ := h
  exact ⟨⟨v, Blk.below h1 hB h1.lt, owns_below h2 hB (Nat.le_refl _)⟩, h3⟩
theorem WrAt.lt {B : Nat} {w : World} {x : WrS} (h : WrAt B w x) : B < w.heap.size := by obtain ⟨⟨v, h1, -⟩, -⟩ := h; exact h1.lt
theorem owns_cell_other {w : World} {base : Nat} {e : TypeId} {size : Nat} {v : Value} {n : Nat} {xs : List Value} (h : w.ownsRow base e size v n xs) {p : Addr} (hne : p.block < base) (u : Value) : (w.setCell p u).ownsRow base e size v n xs := by
  refine ⟨h.1, ?_⟩
  rcases h.2 with h2 | ⟨g, cap, cur, hv, hg, hh, r⟩
  · exact .inl h2
  · exact .inr ⟨g, cap, cur, hv, hg, (Below.heap_setCell w p u g (by omega)).trans hh, r⟩
/-- a call of a writer's: it is as it should be, and nothing below it has turned -/
def Wrote (B : Nat) (w : World) (x : WrS) (e : Ending) (w' : World) : Prop := e = .returned (.tuple #[]) ∧ WrAt B w' x ∧ Below B w w'

set_option maxRecDepth 100000 in
set_option maxHeartbeats 4000000 in
theorem lay76 (B : Nat) (x : WrS) (s : ByteArray) (w : World) (hx : WrAt B w x) (hs : s.size ≤ 4611686018427387904) :
    Calls Try.prog 76 #[.pointer (some ⟨B, 0, none⟩), .string s] w (Wrote B w (layW x s)) := by
  obtain ⟨i0, hi, hz0, hz1, hz2⟩ := info_parts info5
  obtain ⟨⟨v, hb, hown⟩, hlen⟩ := hx
  obtain ⟨a, c, rfl⟩ := owns_form hown
  have c0 : w.cell? ⟨B, 0, none⟩ = some (.slice a x.l.length c) := Blk.cell hb 0
  have c1 : w.cell? ⟨B, 1, none⟩ = some (.int .i64 x.e) := Blk.cell hb 1
  have f0 : w.frozen? ⟨B, 0, none⟩ = false := Blk.free hb 0
  have f1 : w.frozen? ⟨B, 1, none⟩ = false := Blk.free hb 1
  have HX := Lib.hid (And.intro hb hown)
  have hlt := hb.lt
  clear hb hown
  obtain ⟨l, e0⟩ := x
  simp only at c0 c1 hlen HX
  by_cases he : e0 = 0
  · subst he
    by_cases hbig : 65536 < l.length + s.size
    · have hR : layW ⟨l, 0⟩ s = ⟨l, 23⟩ := by unfold layW; rw [if_neg (by simp), if_pos hbig]
      have hI : decide ((65536 : Int) < (l.length : Int) + s.size) = true := decide_eq_true (by omega)
      have hset := Blk.set HX.out.1 1 (.int .i64 23)
      have HW := Lib.hid (show WrAt B (w.setCell ⟨B, 1, none⟩ (.int .i64 23)) ⟨l, 23⟩ from ⟨⟨_, hset, owns_cell_other HX.out.2 (by show B < B + 1; omega) _⟩, hlen⟩)
      have HR := Lib.hid hR
      have HB := Lib.hid (below_set (Below.refl B w) (Nat.le_refl B) 1 (.int .i64 23))
      clear hR hset
      go_enter Try.func76, Try.ntmps76
      go_wp2_with fail
      first | (go_end0; exact ⟨rfl, by rw [HR.out]; exact HW.out, HB.out⟩) | exact bodyPost_ret (v := .tuple #[]) (by simp [results, Try.f76, go_sem]) rfl ⟨rfl, by rw [HR.out]; exact HW.out, HB.out⟩
    · have hR : layW ⟨l, 0⟩ s = ⟨l ++ s.data.toList, 0⟩ := by unfold layW; rw [if_neg (by simp), if_neg hbig]
      have hI : decide ((65536 : Int) < (l.length : Int) + s.size) = false := decide_eq_false (by omega)
      have HR := Lib.hid hR
      have hsz : s.data.toList.length = s.size := by rw [Array.length_toList]; rfl
      have HSZ := Lib.hid hsz
      clear hR hsz
      go_enter Try.func76, Try.ntmps76
      go_wp2_with (at_builtin; refine Lib.wpList_append_own_string _ rfl _ _ 49 9 rfl (B + 1) 5 i0 Try.underlying49 Try.underlying9 hi hz0 hz1 hz2 _ l.length (byteV l) rfl HX.out.2 s rfl (by unfold maxLen; omega) (by omega) (by omega) ?_; intro v' w1 hown' hgrow _; obtain ⟨a', c', rfl⟩ := owns_form hown'; have g1 : w1.frozen? ⟨B, 0, none⟩ = false := Blk.free (Blk.grown HX.out.1 hgrow (fun e => by have h1 := HX.out.2.lt _ e.symm; omega)) 0; have g2 : w1.cell? ⟨B, 0, none⟩ = some (.slice a l.length c) := Blk.cell (Blk.grown HX.out.1 hgrow (fun e => by have h1 := HX.out.2.lt _ e.symm; omega)) 0)
      have hb1 := Blk.grown HX.out.1 hgrow (fun e => by have h1 := HX.out.2.lt _ e.symm; omega)
      have hset := Blk.set hb1 0 (.slice a' (l.length + s.size) c')
      have hB1 : Below B w w1 := (Below.refl B w).grown hgrow (by omega) (fun k hk => by have := (HX.out.2.lt k hk).1; omega)
      have HW : WrAt B (w1.setCell ⟨B, 0, none⟩ (.slice a' (l.length + s.size) c')) ⟨l ++ s.data.toList, 0⟩ :=
        ⟨⟨_, hset, by
          have := owns_cell_other hown' (p := ⟨B, 0, none⟩) (by show B < B + 1; omega) (.slice a' (l.length + s.size) c')
          rw [byteV_str, ← byteV_append] at this
          show World.ownsRow _ _ _ _ _ (l ++ s.data.toList).length _
          rw [List.length_append, HSZ.out]
          exact this⟩, by show (l ++ s.data.toList).length ≤ 65536; rw [List.length_append, HSZ.out]; omega⟩
      first | (go_end0; exact ⟨rfl, by rw [HR.out]; exact HW, below_set hB1 (Nat.le_refl B) 0 _⟩) | exact bodyPost_ret (v := .tuple #[]) (by simp [results, Try.f76, go_sem]) rfl ⟨rfl, by rw [HR.out]; exact HW, below_set hB1 (Nat.le_refl B) 0 _⟩
  · have hR : layW ⟨l, e0⟩ s = ⟨l, e0⟩ := by unfold layW; rw [if_pos he]
    have hne : (e0 != 0) = true := by simpa using he
    have HR := Lib.hid hR
    clear hR
    go_enter Try.func76, Try.ntmps76
    go_wp2_with fail
    exact bodyPost_ret (v := .tuple #[]) (by simp [results, Try.f76, go_sem]) rfl ⟨rfl, by rw [HR.out]; exact ⟨⟨_, HX.out.1, HX.out.2⟩, hlen⟩, Below.refl _ _⟩
theorem lay76_nil (s : ByteArray) (w : World) : Calls Try.prog 76 #[.pointer none, .string s] w fun e w' => e = .returned (.tuple #[]) ∧ w = w' := by
  go_enter Try.func76, Try.ntmps76
  go_wp2_with fail
  exact bodyPost_ret (v := .tuple #[]) (by simp [results, Try.f76, go_sem]) rfl ⟨rfl, rfl⟩

theorem fail80 (B : Nat) (x : WrS) (e1 : Int) (w : World) (hx : WrAt B w x) :
    Calls Try.prog 80 #[.pointer (some ⟨B, 0, none⟩), .int .i64 e1] w (Wrote B w (failW x e1)) := by
  obtain ⟨⟨v, hb, hown⟩, hlen⟩ := hx
  have c1 : w.cell? ⟨B, 1, none⟩ = some (.int .i64 x.e) := Blk.cell hb 1
  have f1 : w.frozen? ⟨B, 1, none⟩ = false := Blk.free hb 1
  have HX := Lib.hid (And.intro hb hown)
  have hlt := hb.lt
  clear hb hown
  obtain ⟨l, e0⟩ := x
  simp only at c1 hlen HX
  by_cases he : e0 = 0
  · subst he
    have HR := Lib.hid (show failW ⟨l, 0⟩ e1 = ⟨l, e1⟩ from if_neg (by simp))
    have hset := Blk.set HX.out.1 1 (.int .i64 e1)
    have HW := Lib.hid (show WrAt B (w.setCell ⟨B, 1, none⟩ (.int .i64 e1)) ⟨l, e1⟩ from ⟨⟨_, hset, owns_cell_other HX.out.2 (by show B < B + 1; omega) _⟩, hlen⟩)
    have HB := Lib.hid (below_set (Below.refl B w) (Nat.le_refl B) 1 (.int .i64 e1))
    clear hset
    go_enter Try.func80, Try.ntmps80
    go_wp2_with fail
    go_end0
    exact ⟨rfl, by rw [HR.out]; exact HW.out, HB.out⟩
  · have HR := Lib.hid (show failW ⟨l, e0⟩ e1 = ⟨l, e0⟩ from if_pos he)
    have hne : (e0 == 0) = false := by simpa using he
    go_enter Try.func80, Try.ntmps80
    go_wp2_with fail
    go_end0
    exact ⟨rfl, by rw [HR.out]; exact ⟨⟨_, HX.out.1, HX.out.2⟩, hlen⟩, Below.refl _ _⟩
theorem fail80_nil (e1 : Int) (w : World) : Calls Try.prog 80 #[.pointer none, .int .i64 e1] w fun e w' => e = .returned (.tuple #[]) ∧ w = w' := by
  go_enter Try.func80, Try.ntmps80
  go_wp2_with fail
  go_end0
  exact ⟨rfl, rfl⟩

/-- a byte as a text -/
def byteS (b : Nat) : ByteArray := ⟨#[UInt8.ofNat b]⟩
theorem byte33 (B : Nat) (x : WrS) (b : Nat) (hb : b < 256) (w : World) (hx : WrAt B w x) :
    Calls Try.prog 33 #[.pointer (some ⟨B, 0, none⟩), .int .u8 (b : Nat)] w (Wrote B w (layW x (byteS b))) := by
  have hBl := Below.al (Below.refl w.heap.size w) (Obj.cells #[.int .u8 (b : Nat)] 5)
  have hcv : (convert 49 9 (.slice (some ⟨w.heap.size, 0, none⟩) 1 1)).run Try.prog (w.alloc (Obj.cells #[.int .u8 (b : Nat)] 5)) = .ok (.string (byteS b)) (w.alloc (Obj.cells #[.int .u8 (b : Nat)] 5)) := by
    have e : (((UInt8.ofNat b).toNat : Nat) : Int) = (b : Int) := by rw [UInt8.toNat_ofNat']; omega
    have hbk : Blk (w.alloc (Obj.cells #[.int .u8 (b : Nat)] 5)) w.heap.size 5 (byteV [UInt8.ofNat b]).toArray := by
      have := Blk.new w 5 #[.int .u8 (b : Nat)]
      simp only [byteV, List.map_cons, List.map_nil, e]
      exact this
    exact run_conv_own (dst := 9) Try.underlying49 Try.underlying5 Try.underlying9 (owns_bytes (n := 1) (base := 0) hbk rfl (by decide) (Nat.zero_le _))
  have HL := Lib.hid (lay76 B x (byteS b) _ (hx.below hBl) (by show 1 ≤ 4611686018427387904; omega))
  have HB := Lib.hid (hBl.mono (Nat.le_of_lt hx.lt))
  clear hx hBl
  go_enter Try.func33, Try.ntmps33
  go_wp2_with fail
  refine HL.out.mono ?_
  rintro e w1 ⟨rfl, h1, h2⟩
  go_wp2_with fail
  go_end0
  exact ⟨rfl, h1, HB.out.trans h2⟩

/-- a number's bytes -/
def countW (x : WrS) (n : Int) : WrS := if n < 0 ∨ 4294967295 < n then failW x 1 else layW x (leS n.toNat 4)
set_option maxRecDepth 100000 in
theorem count43 (B : Nat) (x : WrS) (n : Int) (hn : -9223372036854775808 ≤ n ∧ n ≤ 9223372036854775807) (w : World) (hx : WrAt B w x) :
    Calls Try.prog 43 #[.pointer (some ⟨B, 0, none⟩), .int .i64 n] w (Wrote B w (countW x n)) := by
  by_cases h : n < 0 ∨ 4294967295 < n
  · have HR := Lib.hid (show countW x n = failW x 1 from if_pos h)
    have HF := Lib.hid (fail80 B x 1 w hx)
    clear hx
    by_cases h0 : n < 0
    · have d0 : decide (n < 0) = true := decide_eq_true h0
      clear h
      go_enter Try.func43, Try.ntmps43
      go_wp2_with fail
      refine HF.out.mono ?_
      rintro e w1 ⟨rfl, h1, h2⟩
      go_wp2_with fail
      exact bodyPost_ret (v := .tuple #[]) (by simp [results, Try.f43, go_sem]) rfl ⟨rfl, by rw [HR.out]; exact h1, h2⟩
    · have d0 : decide (n < 0) = false := decide_eq_false h0
      have d1 : decide (4294967295 < n) = true := decide_eq_true (by omega)
      clear h
      go_enter Try.func43, Try.ntmps43
      go_wp2_with fail
      refine HF.out.mono ?_
      rintro e w1 ⟨rfl, h1, h2⟩
      go_wp2_with fail
      exact bodyPost_ret (v := .tuple #[]) (by simp [results, Try.f43, go_sem]) rfl ⟨rfl, by rw [HR.out]; exact h1, h2⟩
  · have HR := Lib.hid (show countW x n = layW x (leS n.toNat 4) from if_neg h)
    obtain ⟨m, rfl⟩ : ∃ m : Nat, n = m := ⟨n.toNat, by omega⟩
    rw [Int.toNat_natCast] at HR
    have d0 : decide ((m : Int) < 0) = false := by simp
    have d1 : decide ((4294967295 : Int) < m) = false := decide_eq_false (by omega)
    have HX := Lib.hid hx
    have hm : m < 4294967296 := by omega
    clear hx h
    go_enter Try.func43, Try.ntmps43
    go_wp2_with fail
    refine (little38 m 4 w (by omega) (by omega)).mono ?_
    rintro e w1 ⟨rfl, hB1⟩
    have HB1 := Lib.hid (hB1.mono (Nat.le_of_lt HX.out.lt))
    have HL := Lib.hid (lay76 B x (leS m 4) w1 (HX.out.below hB1) (by rw [leS_size]; omega))
    clear hB1
    go_wp2_with fail
    refine HL.out.mono ?_
    rintro e w2 ⟨rfl, h1, h2⟩
    go_wp2_with fail
    go_end0
    exact ⟨rfl, by rw [HR.out]; exact h1, HB1.out.trans h2⟩
/-- a text with its length ahead -/
def textW (x : WrS) (s : ByteArray) : WrS := layW (countW x s.size) s
theorem text34 (B : Nat) (x : WrS) (s : ByteArray) (w : World) (hx : WrAt B w x) (hs : s.size ≤ 140737488351232) :
    Calls Try.prog 34 #[.pointer (some ⟨B, 0, none⟩), .string s] w (Wrote B w (textW x s)) := by
  have HC := Lib.hid (count43 B x s.size (by omega) w hx)
  clear hx
  go_enter Try.func34, Try.ntmps34
  go_wp2_with fail
  refine HC.out.mono ?_
  rintro e w1 ⟨rfl, h1, h2⟩
  have HL := Lib.hid (lay76 B (countW x s.size) s w1 h1 (by omega))
  have HB := Lib.hid h2
  clear h1 h2
  go_wp2_with fail
  refine HL.out.mono ?_
  rintro e w2 ⟨rfl, h1, h2⟩
  go_wp2_with fail
  go_end0
  exact ⟨rfl, h1, HB.out.trans h2⟩
/-- what a writer tells -/
def doneW (x : WrS) : ByteArray := if x.e ≠ 0 then ⟨#[]⟩ else ⟨x.l.toArray⟩
set_option maxHeartbeats 4000000 in
theorem done21 (B : Nat) (x : WrS) (w : World) (hx : WrAt B w x) : Calls Try.prog 21 #[.pointer (some ⟨B, 0, none⟩)] w fun e w' => e = .returned (.tuple #[.string (doneW x), .int .i64 x.e]) ∧ Below w.heap.size w w' := by
  obtain ⟨⟨v, hb, hown⟩, hlen⟩ := hx
  have hcv := run_conv_own (dst := 9) Try.underlying49 Try.underlying5 Try.underlying9 hown
  obtain ⟨a, c, rfl⟩ := owns_form hown
  have c0 : w.cell? ⟨B, 0, none⟩ = some (.slice a x.l.length c) := Blk.cell hb 0
  have c1 : w.cell? ⟨B, 1, none⟩ = some (.int .i64 x.e) := Blk.cell hb 1
  clear hb hown
  by_cases he : x.e = 0
  · have HR := Lib.hid (show doneW x = ⟨x.l.toArray⟩ from if_neg (by simp [he]))
    have HE := Lib.hid he
    rw [he] at c1
    clear he
    go_enter Try.func21, Try.ntmps21
    go_wp2_with fail
    go_ret2
    rw [HR.out, HE.out]
    exact ⟨rfl, Below.refl _ _⟩
  · have HR := Lib.hid (show doneW x = ⟨#[]⟩ from if_pos he)
    have hne : (x.e != 0) = true := by simpa using he
    go_enter Try.func21, Try.ntmps21
    go_wp2_with fail
    go_quiet (fail)
    go_wp2_with fail
    go_ret2
    rw [HR.out]
    exact ⟨rfl, Below.drewN (Below.refl _ _) _⟩
end Go.Proofs.Ytocanbdpdnkapaa
