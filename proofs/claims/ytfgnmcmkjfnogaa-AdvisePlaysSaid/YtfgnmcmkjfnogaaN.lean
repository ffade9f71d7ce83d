/- The advisor: its log of needs, their weights, and its advice. -/
import Derived.Test.YtfgnmcmkjfnogaaM
import Derived.Test.YtfgnmcmkjfnogaaBase4
namespace Go.Proofs.Ytfgnmcmkjfnogaa
open Go.RowKit
set_option linter.unusedVariables false
set_option linter.unusedSimpArgs false

/-- an advisor's cells: 64 places and how many needs were noted -/
def advL (g : List Int) (n : Nat) : List Int := g ++ [(n : Int)]
theorem advL_len (g : List Int) (n : Nat) (hg : g.length = 64) : (advL g n).length = 65 := by simp [advL, hg]
theorem advL_at (g : List Int) (n k : Nat) (hg : g.length = 64) (hk : k < 64) : (advL g n).getD k 0 = g.getD k 0 := by
  simp [advL, List.getD_eq_getElem?_getD, List.getElem?_append, hg, hk]
theorem advL_n (g : List Int) (n : Nat) (hg : g.length = 64) : (advL g n).getD 64 0 = n := by
  simp [advL, List.getD_eq_getElem?_getD, List.getElem?_append, hg]
/-- is a need noted? -/
def noteB (x : Int) (y : Bool) : Bool := !y && decide (0 ≤ x) && decide (x < 64)
/-- the needs that are kept: so many, from a place on, round and round -/
def logTo (g : List Int) (lo : Nat) : Nat → List Int
  | 0 => []
  | k + 1 => logTo g lo k ++ [g.getD ((lo + k) % 64) 0]
theorem logTo_len (g : List Int) (lo k : Nat) : (logTo g lo k).length = k := by induction k <;> simp_all [logTo]
def logL (g : List Int) (n : Nat) : List Int := logTo g (n - 64) (n - (n - 64))
theorem logL_len (g : List Int) (n : Nat) : (logL g n).length = n - (n - 64) := logTo_len _ _ _

theorem note19_nil (x : Int) (y : Bool) (w : World) : Calls Try.prog 19 #[.pointer none, .int .i64 x, .bool y] w fun e w' => e = .returned (.tuple #[]) ∧ w = w' := by
  go_enter Try.func19, Try.ntmps19
  go_wp2_with fail
  (first | go_end0 | refine bodyPost_ret (results_none rfl _ _ _) rfl ?_)
  trivial

theorem log20_nil (w : World) : Calls Try.prog 20 #[.pointer none] w fun e w' => e = .returned (.slice none 0 0) ∧ w = w' := by
  go_enter Try.func20, Try.ntmps20
  go_wp2_with fail
  go_ret
  trivial

theorem note19_no (g : List Int) (n b : Nat) (x : Int) (y : Bool) (w : World) (h : noteB x y = false) :
    Calls Try.prog 19 #[.pointer (some ⟨b, 0, none⟩), .int .i64 x, .bool y] w fun e w' => e = .returned (.tuple #[]) ∧ w = w' := by
  unfold noteB at h
  cases y
  · by_cases h0 : x < 0
    · have d0 : decide (x < 0) = true := by simpa using h0
      go_enter Try.func19, Try.ntmps19
      go_wp2_with fail
      (first | go_end0 | refine bodyPost_ret (results_none rfl _ _ _) rfl ?_)
      trivial
    · have d0 : decide (x < 0) = false := by simpa using h0
      have h1 : 64 ≤ x := by simp at h; omega
      have d1 : decide (64 ≤ x) = true := by simpa using h1
      go_enter Try.func19, Try.ntmps19
      go_wp2_with fail
      (first | go_end0 | refine bodyPost_ret (results_none rfl _ _ _) rfl ?_)
      trivial
  · go_enter Try.func19, Try.ntmps19
    go_wp2_with fail
    (first | go_end0 | refine bodyPost_ret (results_none rfl _ _ _) rfl ?_)
    trivial

theorem note19_yes (g : List Int) (n b : Nat) (x : Int) (w : World) (h0 : 0 ≤ x) (h1 : x < 64) (hA : Arr w b 42 (advL g n)) (hg : g.length = 64) (hn : n ≤ 1000000) :
    Calls Try.prog 19 #[.pointer (some ⟨b, 0, none⟩), .int .i64 x, .bool false] w fun e w' => e = .returned (.tuple #[]) ∧ Arr w' b 42 (advL (g.set (n % 64) x) (n + 1)) ∧ w'.heap.size = w.heap.size ∧ Below b w w' := by
  have d0 : decide (x < 0) = false := by simp; omega
  have d1 : decide (64 ≤ x) = false := by simp; omega
  have hb := Blk.lt hA
  have c64 := Arr.cell hA (j := 64) (by rw [advL_len _ _ hg]; omega)
  rw [advL_n _ _ hg] at c64
  have hm : (n : Int).tmod 64 = (n % 64 : Nat) := by rw [Int.tmod_eq_emod_of_nonneg (by omega)]; omega
  have hmb : n % 64 < 64 := Nat.mod_lt _ (by omega)
  obtain ⟨v0, cm⟩ : ∃ v0, w.cell? ⟨b, n % 64, none⟩ = some v0 := ⟨_, Arr.cell hA (j := n % 64) (by rw [advL_len _ _ hg]; omega)⟩
  have fm := Arr.free hA
  go_enter Try.func19, Try.ntmps19
  go_wp2_with fail
  go_region
  go_wp2_with fail
  have hA1 := Arr.set hA (n % 64) x
  have hA2 := Arr.set hA1 64 ((n : Int) + 1)
  go_end0
  have e : ((advL g n).set (n % 64) x).set 64 ((n : Int) + 1) = advL (g.set (n % 64) x) (n + 1) := by
    apply List.ext_getElem
    · simp [advL]
    · intro i h1 h2
      simp [advL] at h1 h2
      simp only [advL, List.getElem_set, List.getElem_append, List.length_set, hg]
      by_cases e64 : 64 = i
      · subst e64; simp
      · have : i < 64 := by omega
        rw [if_neg e64, dif_pos this, dif_pos this]
  rw [e] at hA2
  refine ⟨rfl, hA2, by simp [World.setCell, World.drew], ?_⟩
  exact (((Below.refl b w).setCell (by exact Nat.le_refl b) _).setCell (by exact Nat.le_refl b) _).drew

set_option maxHeartbeats 4000000 in
theorem log20 (g : List Int) (n b : Nat) (w : World) (hA : Arr w b 42 (advL g n)) (hg : g.length = 64) (hn : n ≤ 1000000) :
    Calls Try.prog 20 #[.pointer (some ⟨b, 0, none⟩)] w fun e w' => ∃ v, e = .returned v ∧ w'.ownsRow w.heap.size 3 1 v (logL g n).length ((logL g n).map (Value.int .i64)) ∧ Below w.heap.size w w' := by
  obtain ⟨i0, hi, hz0, hz1, hz2⟩ := info_parts Try.info3
  have hb := Blk.lt hA
  have c64 := Arr.cell hA (j := 64) (by rw [advL_len _ _ hg]; omega)
  rw [advL_n _ _ hg] at c64
  have HL := Lib.hid (logL_len g n)
  have hlo : max ((n : Int) - 64) 0 = ((n - 64 : Nat) : Int) := by omega
  obtain ⟨lo, hlo2⟩ : ∃ lo : Nat, lo = n - 64 := ⟨_, rfl⟩
  have hle : lo ≤ n := by omega
  have hlen : n - lo ≤ 64 := by omega
  have HLO : Hid (lo = n - 64) := hlo2
  rw [← hlo2] at hlo
  go_enter Try.func20, Try.ntmps20
  go_wp2_with fail
  all_goals
    go_loopw [3, 4] (fun v i wr => ∃ k : Nat, lo + k ≤ n ∧ i = .int .i64 (lo + k) ∧ wr.ownsRow w.heap.size 3 1 v (logTo g lo k).length ((logTo g lo k).map (Value.int .i64)) ∧ Below w.heap.size w wr) (fun _ i _ => n - (intOf i).toNat)
    case atStart => exact ⟨0, by omega, by congr 1; omega, World.ownsRow_nil _ _ _ _, Below.refl _ _⟩
    case round =>
      obtain ⟨k, hk, rfl, hown, hB⟩ := hrel
      have hkl := logTo_len g lo k
      have d64 := (hB.cell (by exact hb)).trans c64
      have hsz := hB.size
      by_cases hlt : lo + k < n
      · have hm : ((lo + k : Nat) : Int) % 64 = ((lo + k) % 64 : Nat) := by omega
        have hmb : (lo + k) % 64 < 64 := Nat.mod_lt _ (by omega)
        have cm := (hB.cell (p := ⟨b, (lo + k) % 64, none⟩) (by exact hb)).trans (Arr.cell hA (j := (lo + k) % 64) (by rw [advL_len _ _ hg]; omega))
        rw [advL_at _ _ _ hg hmb] at cm
        obtain ⟨y, hy, cm⟩ : ∃ y, Hid (g.getD ((lo + k) % 64) 0 = y) ∧ wr.cell? ⟨b, (lo + k) % 64, none⟩ = some (.int .i64 y) := ⟨_, rfl, cm⟩
        have hlt' : (lo : Int) + k < n := by omega
        obtain ⟨q, hq⟩ : ∃ q : Nat, q = lo + k := ⟨_, rfl⟩
        have hqi : ((lo : Int) + k) = (q : Int) := by omega
        rw [← hq] at cm hmb
        have hqn : (q : Int) < n := by omega
        have hqb : decide ((q : Int) < n) = true := by simpa using hqn
        have HQ := Lib.hid hq
        have HQI := Lib.hid hqi
        rw [hqi]
        clear hq hqi hm hlt' c64 hlo hlo2
        go_wp2_with (at_builtin; refine wpList_append_own _ rfl _ _ 26 rfl w.heap.size 3 i0 (.int .i64 0) 1 8 Try.underlying26 hi hz0 hz1 hz2 rfl (by decide) _ _ _ rfl (hown.alloc _) ⟨wr.heap.size, 0, none⟩ 1 1 [.int .i64 y] rfl rfl (cell_one_new' _ _ _) (by intro u hu; simp at hu; subst hu; rfl) (by unfold maxLen; omega) (by omega) (by simp; omega) ?_; intro v' w1 hown' hgrow _)
        have hB' := Below.appended hB hsz hown _ hgrow
        go_roundw
        case rel =>
          have hq := HQ.out
          have e : logTo g lo (k + 1) = logTo g lo k ++ [y] := by rw [← hy.out]; rfl
          exact ⟨k + 1, by omega, by congr 1; omega, by rw [e]; simpa using hown', hB'⟩
        case measure => simp [intOf]; omega
      · have e : k = n - lo := by omega
        have hlb : decide ((lo : Int) + k < n) = false := by simp; omega
        have E : Hid (logL g n = logTo g lo k) := by rw [Hid, e, HLO.out]; rfl
        clear hlo2 e
        go_wp2
        go_ret
        exact ⟨_, rfl, by rw [E.out]; exact hown, hB⟩

/-- how often a need is in a list's first so many -/
def cntTo (l : List Int) (x : Int) : Nat → Nat
  | 0 => 0
  | k + 1 => cntTo l x k + (if l.getD k 0 = x then 1 else 0)
theorem cntTo_le (l : List Int) (x : Int) (k : Nat) : cntTo l x k ≤ k := by
  induction k with
  | zero => simp [cntTo]
  | succ k ih => simp only [cntTo]; split <;> omega

theorem weight21_nil (x : Int) (w : World) : Calls Try.prog 21 #[.pointer none, .int .i64 x] w fun e w' => e = .returned (.int .i64 0) ∧ w = w' := by
  go_enter Try.func21, Try.ntmps21
  go_wp2_with (go_at_call 20; refine (log20_nil _).mono ?_; rintro e w1 ⟨rfl, rfl⟩)
  go_loop [11, 5] (fun i c => i = .int .i64 0 ∧ c = .int .i64 0) (fun _ _ => 0)
  case atStart => exact ⟨rfl, rfl⟩
  case round =>
    obtain ⟨rfl, rfl⟩ := hrel
    go_wp2_with fail
    go_ret
    trivial

theorem weight21 (g : List Int) (n b : Nat) (x : Int) (w : World) (hA : Arr w b 42 (advL g n)) (hg : g.length = 64) (hn : n ≤ 1000000) :
    Calls Try.prog 21 #[.pointer (some ⟨b, 0, none⟩), .int .i64 x] w fun e w' => e = .returned (.int .i64 (cntTo (logL g n) x (logL g n).length : Nat)) ∧ Below w.heap.size w w' := by
  go_enter Try.func21, Try.ntmps21
  go_wp2_with (go_at_call 20; refine (log20 g n b _ hA hg hn).mono ?_; rintro e w1 ⟨v, rfl, hown, hB⟩; obtain ⟨a, cap, rfl, hcap, hmax, hc⟩ := (RowI.of_owns hown).open)
  have hlen : (logL g n).length ≤ 64 := by rw [logL_len]; omega
  obtain ⟨l, hl⟩ : ∃ l, logL g n = l := ⟨_, rfl⟩
  rw [hl] at hlen hcap hc
  rw [hl]
  have HL := Lib.hid hl
  clear hl
  clear hown hA
  go_loop [11, 5, 7] (fun i c _ => ∃ k : Nat, k ≤ l.length ∧ i = .int .i64 k ∧ c = .int .i64 (cntTo l x k : Nat)) (fun i _ _ => l.length - (intOf i).toNat)
  case atStart => exact ⟨0, by omega, rfl, rfl⟩
  case round =>
    obtain ⟨k, hk, rfl, rfl⟩ := hrel
    have hcl := cntTo_le l x k
    by_cases hlt : k < l.length
    · obtain ⟨b', off, rfl, hb', hcl⟩ := hc (by omega)
      obtain ⟨y, hy, cy⟩ : ∃ y, Hid (l.getD k 0 = y) ∧ w1.cell? ⟨b', off + k, none⟩ = some (.int .i64 y) := ⟨_, rfl, hcl k hlt⟩
      clear hcl hc
      by_cases hxy : y = x
      · have hb1 : (y == x) = true := by simpa using hxy
        go_wp2_with fail
        go_round
        case rel => exact ⟨k + 1, by omega, by go_num, by simp only [cntTo, hy.out, if_pos hxy]; go_num⟩
        case measure => simp [intOf]; omega
      · have hb1 : (y == x) = false := by simpa using hxy
        go_wp2_with fail
        go_round
        case rel => exact ⟨k + 1, by omega, by go_num, by simp only [cntTo, hy.out, if_neg hxy]; rfl⟩
        case measure => simp [intOf]; omega
    · obtain rfl : k = l.length := by omega
      go_wp2_with fail
      go_ret
      exact ⟨by rw [HL.out]; rfl, hB⟩

theorem new23 (w : World) : Calls Try.prog 23 #[] w fun e w' => ∃ b, e = .returned (.pointer (some ⟨b, 0, none⟩)) ∧ b = w.heap.size ∧ Arr w' b 42 (advL zeros64 0) ∧ Below w.heap.size w w' := by
  have hzv : ∀ w, (zeroValue 42).run Try.prog w = .ok (.agg (ints (advL zeros64 0))) w := fun _ => by kernel_rfl
  go_enter Try.func23, Try.ntmps23
  go_wp2_with fail
  go_ret
  exact ⟨_, rfl, rfl, Blk.newAt _ _ _ rfl, (Below.refl _ _).alloc (Nat.le_refl _) _⟩
end Go.Proofs.Ytfgnmcmkjfnogaa
