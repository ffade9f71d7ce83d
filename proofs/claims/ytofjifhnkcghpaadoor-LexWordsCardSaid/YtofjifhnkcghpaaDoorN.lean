/- From a row's condition to the walks' facts; a row's wrap with the listed variables and the world's shape. -/
import Derived.Test.YtofjifhnkcghpaaDoorK
import Derived.PinnedBridge
import Derived.Lib.LaidU8
import Derived.Lib.LaidTab
import Derived.Shelf.Vars
import Derived.Handed
import Derived.SizedLaws
import Derived.LaidMore
import Derived.Stop.Joined
namespace Go.Proofs.YtofjifhnkcghpaaDoor
open Go.RowKit Go.Lib
set_option linter.unusedVariables false
set_option linter.unusedSimpArgs false
set_option maxRecDepth 100000
def laid3 : List (String × DataW Unit) := Rows.lexWordsRow.laid
def nm (i : Nat) : String := ((laid3.map (·.1)).getD i default)
theorem laid3_mem : (nm 0, Rows.laid_unicode_utf8_acceptRanges) ∈ laid3 ∧ (nm 1, Rows.laid_caisson_lex_kinds) ∈ laid3 ∧ (nm 2, Rows.laid_unicode_utf8_first) ∈ laid3 :=
  ⟨List.mem_cons_self, List.mem_cons_of_mem _ List.mem_cons_self, List.mem_cons_of_mem _ (List.mem_cons_of_mem _ List.mem_cons_self)⟩
def kindsZ : List Int := (List.range 128).map fun n => (kindL (UInt8.ofNat n) : Int)
theorem kinds_eq : (Rows.laid_caisson_lex_kinds : DataW Unit) = tabData .u8 kindsZ := by kernel_rfl
theorem accept_eq : (Rows.laid_unicode_utf8_acceptRanges : DataW Unit) = acceptData := by kernel_rfl
theorem u8x : U8Extra Tryd.prog mapL_ren := ⟨by kernel_rfl, by kernel_rfl, by kernel_rfl, by kernel_rfl, by kernel_rfl, by kernel_rfl, by kernel_rfl⟩
theorem gw_of {W : World} (hL : laidMetH Tryd.prog laid3 W) (hsh : W.ShapedOpen Tryd.prog) : GW W := by
  rw [MakeChecks.laidMetH_plain _ _ _ (by kernel_rfl)] at hL
  have h1 := laidMet.reads hL laid3_mem.1
  have h2 := laidMet.reads hL laid3_mem.2.1
  have h3 := laidMet.reads hL laid3_mem.2.2
  rw [accept_eq] at h1
  rw [kinds_eq] at h2
  rw [show (Rows.laid_unicode_utf8_first : DataW Unit) = firstData from Pinned.utf8First_eq] at h3
  have hut : UT W := utf8Tabs_of_reads { mapL with } u8x h3 h1
  have hkt : KT W := by
    intro c hc
    obtain ⟨g, t, cs, fuel, p, hg, hty, hvar, hd⟩ := h2
    obtain rfl := Option.some.inj ((show Tryd.prog.globalNamed (nm 1) = some 0 by kernel_rfl).symm.trans hg)
    obtain rfl := Option.some.inj ((show (Tryd.prog.globals[0]?).map (·.type) = some 52 by kernel_rfl).symm.trans hty)
    have hcs := cells_of_tab Tryd.underlying52 Tryd.underlying5 (by kernel_rfl) (by kernel_rfl) hd
    have := World.var?_cell hg hvar c.toNat
    rw [this, ← Array.getElem?_toList, hcs]
    simp [kindsZ, hc]
  refine ⟨hkt, hut, cell_lt (hkt 0 (by decide)), ?_⟩
  exact cell_of_shapedOpen_int (P := Tryd.prog) (g := replL_ren.g 1) (t := 3) (zero := #[.int .i64 0]) hsh (of_decide_eq_true (by kernel_rfl)) (by kernel_rfl) rfl (by kernel_rfl) (by kernel_rfl) Tryd.underlying3
/-- the plain wrap with a condition on the heap, the world's shape handed on -/
theorem returnsInHanded_andS {H : Type} {enc : TypeId × Value → H} {a : Assume} {C : Checked} {os : Os} {f : FuncId} {fn : Func} {s : ChangeSpec} {conds : List PathCond} {apart fresh handsOn again : Bool} {X : World → Array Value → Prop}
    (hX : ∀ (w w' : World) (args : Array Value), w.heap = w'.heap → X w args → X w' args)
    (own : ownKnob C.prog.godebug = none) (started : os.Started) (noInit : C.prog.inits.idxOf? f = none) (hfn : C.prog.funcs[f]? = some fn)
    (witness : ∃ (w : World) (tape : Tape) (i : Input), w.os = os ∧ (w.forCall tape i).Shaped C.prog ∧ i.vars = [] ∧ Input.okWide C.prog (w.forCall tape i) .any w.heap.size f i ∧
      ((s.pre enc C.prog fn conds apart (w.forCall tape i).memory i.args ∧ X (w.forCall tape i).memory i.args) ∧ sizedMet enc C.prog fn (OpenSpec.ofChange s) apart (w.forCall tape i).memory i.args) ∧ a.holds C.prog (lone (Frame.enter C.prog f i.args .normal) [] (w.forCall tape i)))
    (contract : ∀ (W : World) (base : Nat) (args : Array Value) (ds gs : List (DataW H)) (before : List MemPlace),
      (∀ (j : Nat) t v, fn.params[j]? = some t → args[j]? = some v → Value.okWide C.prog W .any base t v) →
      DataW.Whole enc C.prog fn.params.toList s.vars apart W args.toList ds gs before →
      conds.all (PathCond.test C.prog ⟨fn.params.toList, ds, s.plain.varTypes C.prog, gs⟩) = true →
      (DataW.weightsEach C.prog (fn.params.toList ++ s.plain.varTypes C.prog) (ds ++ gs)).all (· ≤ reachBytes) = true → X W args → W.ShapedOpen C.prog →
      a.holds C.prog (lone (Frame.enter C.prog f args .normal) [] W) →
      Calls C.prog f args W fun e W' => ∃ v, e = .returned v ∧ s.post enc C.prog fn apart fresh handsOn again W args v W') :
    ReturnsInHanded a C os f .any (fun w args => (s.pre enc C.prog fn conds apart w args ∧ X w args) ∧ sizedMet enc C.prog fn (OpenSpec.ofChange s) apart w args) (s.post enc C.prog fn apart fresh handsOn again) := by
  refine returnsInHanded_of_calls own started noInit witness ?_
  intro w tape i _ hsh _ hok hpre hholds
  obtain ⟨_, _, _, fn', hfn', _, _, _, _, hval⟩ := hok
  have e : fn' = fn := Option.some.inj (hfn'.symm.trans hfn)
  subst e
  obtain ⟨⟨⟨ds, gs, before, hw, hc⟩, hx⟩, hz⟩ := hpre
  have hw' := DataW.Whole.of_heap (w' := w.forCall tape i) (by rfl) hw
  refine (contract (w.forCall tape i) w.heap.size i.args ds gs before hval hw' hc (hz.weights hw) (hX _ _ _ (by rfl) hx) hsh hholds).mono fun e W' ⟨v, he, hp⟩ => ?_
  subst he
  exact ChangeSpec.post_blind hp
end Go.Proofs.YtofjifhnkcghpaaDoor
