/- The error of a thing that may not be. -/
import Derived.Test.YtocanbdpdnkapaaS
namespace Go.Proofs.Ytocanbdpdnkapaa
open Go.RowKit
set_option linter.unusedVariables false
set_option linter.unusedSimpArgs false

def spGo (n : Nat) : List CellT → Int
  | [] => 1
  | c :: cs => if 65536 < n then 23 else match cellB c with | none => 1 | some b => spGo (n + b.size) cs
def spoiltT (n : Nat) (t : ThingT) : Int := if t.k = 6 then spGo (n + 4) t.cells else 1
theorem spGo_drop {n : Nat} {l : List CellT} {k : Nat} {c : CellT} (h : l[k]? = some c) : spGo n (l.drop k) = if 65536 < n then 23 else match cellB c with | none => 1 | some b => spGo (n + b.size) (l.drop (k + 1)) := by
  obtain ⟨hk, he⟩ := List.getElem?_eq_some_iff.1 h
  rw [List.drop_eq_getElem_cons hk, he]
  rfl
theorem info57 : (Try.prog.info? 57).map (·.size) = some 7 := by kernel_rfl
def thing5 (c : CellT) : ThingT := ⟨5, 0, ⟨#[]⟩, [], [c], [], []⟩
theorem okU5 {c : CellT} (h : c.t.size ≤ Small) : okU (thing5 c) :=
  ⟨Nat.zero_le _, ⟨fun s hs => (by cases hs), Nat.zero_le _⟩, ⟨fun x hx => by
    obtain rfl : x = c := by simpa [thing5] using hx
    exact h, by show 1 ≤ Small; unfold Small; omega⟩, ⟨fun s hs => (by cases hs), Nat.zero_le _⟩, ⟨fun s hs => (by cases hs), Nat.zero_le _⟩⟩
theorem RowF.nil (B : Nat) (w : World) : RowF B w (.slice none 0 0) [] := ⟨[], rfl, RowR.nil _ _ _ _, fun k f p h => by simp at h⟩
set_option maxRecDepth 100000 in
set_option maxHeartbeats 32000000 in
theorem spoilt20 (N : Nat) (hN : N ≤ 65536) (t : ThingT) (v : ThV) (w : World) (B : Nat) (hBB : B ≤ w.heap.size) (hr : RowsT B w t v) (hs : okU t) :
    Calls Try.prog 20 #[.int .i64 (N : Int), .agg (thingC t v)] w fun e w' => e = .returned (.int .i64 (spoiltT N t)) ∧ Below w.heap.size w w' := by
  obtain ⟨k, n, s, l, cs, fs, m⟩ := t
  have hBl := Below.al (Below.refl w.heap.size w) (Obj.cells (thingC ⟨k, n, s, l, cs, fs, m⟩ v) 57)
  have hb := Blk.new w 57 (thingC ⟨k, n, s, l, cs, fs, m⟩ v)
  obtain ⟨vl, vc, vf, vm⟩ := v
  obtain ⟨a1, c1, h1, -⟩ := hr.l.open
  obtain ⟨a2, c2, h2, hcap2, hmax2, hcl2⟩ := hr.c
  obtain ⟨ps, hps, ⟨a3, c3, h3, -⟩, -⟩ := hr.f
  obtain ⟨a4, c4, h4, -⟩ := hr.m.open
  simp only at h1 h2 h3 h4 hps hcap2 hcl2
  rw [hps] at h3
  subst h1 h2 h3 h4
  unfold thingC at hb hBl ⊢
  simp only at hb hBl ⊢
  obtain ⟨w1, hw1⟩ : ∃ w1, w1 = w.alloc (Obj.cells #[.int .i64 k, .int .i64 n, .string s, .slice a1 l.length c1, .slice a2 cs.length c2, .slice a3 fs.length c3, .slice a4 m.length c4] 57) := ⟨_, rfl⟩
  rw [← hw1] at hb hBl
  have HB := Lib.hid hBl
  have HLT := Lib.hid hb.lt
  have HWW := Lib.hid (show w.heap.size ≤ w1.heap.size from hBl.size)
  have HC2 := Lib.hid hcl2
  have HS := Lib.hid hs
  have hn2 := hs.c.2
  unfold Small at hn2
  simp only at hn2
  have q0 : w1.cell? ⟨w.heap.size, 0, none⟩ = some (.int .i64 k) := Blk.cell hb 0
  have q4 : w1.cell? ⟨w.heap.size, 4, none⟩ = some (.slice a2 cs.length c2) := Blk.cell hb 4
  clear hBl hb hr hs hcl2
  by_cases k6 : k = 6
  · subst k6
    have HRES := Lib.hid (show spoiltT N ⟨6, n, s, l, cs, fs, m⟩ = spGo (N + 4) cs from rfl)
    go_enter Try.func20, Try.ntmps20
    go_upto_region 1 with fail
    rw [← hw1]
    clear hw1
    go_wp2_with fail
    go_loopw [0, 5] (fun x i wr => ∃ (k : Nat) (a : Nat), k ≤ cs.length ∧ i = .int .i64 k ∧ x = .int .i64 (a : Int) ∧ a ≤ 65540 + k * 1048600 ∧ spGo (N + 4) cs = spGo a (cs.drop k) ∧ Below w1.heap.size w1 wr) (fun _ i _ => cs.length - (intOf i).toNat)
    case atStart => exact ⟨0, N + 4, by omega, rfl, by go_num, by omega, rfl, Below.refl _ _⟩
    case round =>
      obtain ⟨k, a, hk, rfl, rfl, hsz, hgo, hBr⟩ := hrel
      have r4 := (Below.cell hBr (p := ⟨w.heap.size, 4, none⟩) HLT.out).trans q4
      have hksz : k * 1048600 ≤ 1048576 * 1048600 := Nat.mul_le_mul_right _ (by omega)
      by_cases hlt : k < cs.length
      · obtain ⟨g, off, rfl, hg, hcell⟩ := HC2.out (by omega)
        obtain ⟨c, hget⟩ : ∃ c, cs[k]? = some c := ⟨_, List.getElem?_eq_getElem hlt⟩
        have hcm : c ∈ cs := List.mem_of_getElem? hget
        have hsc := HS.out.c.1 c hcm
        rw [spGo_drop hget] at hgo
        have hkI : decide ((k : Int) < cs.length) = true := decide_eq_true (by omega)
        have HBr := Lib.hid hBr
        by_cases hbig : 65536 < a
        · have hbI : decide ((65536 : Int) < a) = true := decide_eq_true (by omega)
          rw [if_pos hbig] at hgo
          have HGO := Lib.hid hgo
          clear hgo hcell hget hcm hsc hBr HC2 hsz
          go_wp2_with fail
          go_ret
          exact ⟨by rw [HRES.out, HGO.out]; rfl, Below.call HB.out HBr.out⟩
        · have hbI : decide ((65536 : Int) < a) = false := decide_eq_false (by omega)
          rw [if_neg hbig] at hgo
          have hX := Below.trans HB.out (hBr.mono HWW.out)
          have h1 : (0 : Int) ≤ k := by omega
          have h2 : (k : Int) + 1 ≤ c2 := by omega
          have hAl := Below.al (Below.refl wr.heap.size wr) (Obj.cells #[.int .i64 5, .int .i64 0, .string ⟨#[]⟩, .slice none 0 0, .slice (some ⟨g, off + k * 3, none⟩) 1 (c2 - k), .slice none 0 0, .slice none 0 0] 57)
          have hX2 := Below.call hX hAl
          have hrow : RowC B (wr.alloc (Obj.cells #[.int .i64 5, .int .i64 0, .string ⟨#[]⟩, .slice none 0 0, .slice (some ⟨g, off + k * 3, none⟩) 1 (c2 - k), .slice none 0 0, .slice none 0 0] 57)) (.slice (some ⟨g, off + k * 3, none⟩) 1 (c2 - k)) [c] :=
            ⟨_, _, rfl, by show 1 ≤ c2 - k; omega, by omega, fun _ => ⟨g, off + k * 3, rfl, hg, fun k' x hx' j hj => by
              obtain ⟨rfl, rfl⟩ : k' = 0 ∧ c = x := by
                cases k' with
                | zero => exact ⟨rfl, by simpa using hx'⟩
                | succ k' => simp at hx'
              rw [Nat.zero_mul, Nat.add_zero]
              exact (Below.cell hX2 (p := ⟨g, off + k * 3 + j, none⟩) (by show g < _; omega)).trans (hcell k _ hget j hj)⟩⟩
          have hcall := bytes19 (thing5 c) ⟨.slice none 0 0, .slice (some ⟨g, off + k * 3, none⟩) 1 (c2 - k), .slice none 0 0, .slice none 0 0⟩ _ B (Nat.le_trans hBB hX2.size) ⟨RowS.nil _ _, hrow, RowF.nil _ _, RowS.nil _ _⟩ (okU5 hsc)
          rw [show bytesT (thing5 c) = cellB c from rfl] at hcall
          unfold thingC thing5 optV at hcall
          simp only at hcall
          have HAL := Lib.hid (Below.call HBr.out hAl)
          cases hcb : cellB c with
          | none =>
            rw [hcb] at hcall hgo
            have HC := Lib.hid hcall
            have HGO := Lib.hid hgo
            clear hcall hgo hcell hget hcm hsc hcb hBr HC2 hsz hX hX2 hrow hAl
            go_wp2_with fail
            refine HC.out.mono ?_
            rintro e w3 ⟨rfl, h3⟩
            have HB3 := Lib.hid (Below.call HB.out (Below.call HAL.out h3))
            clear h3
            go_wp2_with fail
            go_ret
            exact ⟨by rw [HRES.out, HGO.out]; rfl, HB3.out⟩
          | some b =>
            have hbs := cellB_size hsc hcb
            rw [hcb] at hcall hgo
            have HC := Lib.hid hcall
            have HGO := Lib.hid hgo
            have HSZ := Lib.hid (show a + b.size ≤ 65540 + (k + 1) * 1048600 by omega)
            clear hcall hgo hcell hget hcm hsc hcb hBr HC2 hX hX2 hrow hAl
            go_wp2_with fail
            refine HC.out.mono ?_
            rintro e w3 ⟨rfl, h3⟩
            have HB3 := Lib.hid (Below.call HAL.out h3)
            clear h3
            go_wp2_with fail
            go_roundw
            case rel => exact ⟨k + 1, a + b.size, by omega, by go_num, by go_num, HSZ.out, HGO.out, HB3.out⟩
            case measure => simp [intOf]; omega
      · obtain rfl : k = cs.length := by omega
        rw [List.drop_length] at hgo
        have hkI : decide ((cs.length : Int) < cs.length) = false := by simp
        have HGO := Lib.hid hgo
        have HBr := Lib.hid hBr
        clear hgo hBr
        go_wp2_with fail
        go_ret
        exact ⟨by rw [HRES.out, HGO.out]; rfl, Below.call HB.out HBr.out⟩
  · have d6 : (k != 6) = true := by simpa using k6
    have HRES := Lib.hid (show spoiltT N ⟨k, n, s, l, cs, fs, m⟩ = 1 from if_neg k6)
    go_enter Try.func20, Try.ntmps20
    go_upto_region 1 with fail
    rw [← hw1]
    clear hw1
    go_wp2_with fail
    go_ret
    exact ⟨by rw [HRES.out]; rfl, HB.out⟩
end Go.Proofs.Ytocanbdpdnkapaa
