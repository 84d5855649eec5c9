/- A contract over all worlds of the program's shape gives what a row asks; and what the package's variables hold in such a world. -/
import Derived.Test.YtckdgniecdfedaaGreatDoorWalk9
import Derived.Test.YtckdgniecdfedaaGreatDoorAmHeadA
import Derived.Handed
namespace Go.Proofs.YtckdgniecdfedaaGreatDoor
open Go.ChangeShapes Go.WideShapes Go.ChangeAt Go.RowKit Go.AM

section
variable {H : Type} {enc : TypeId × Value → H}
theorem handed_shaped {a : Assume} {C : Checked} {os : Os} {f : FuncId} {fn : Func} {s : ChangeSpec} {conds : List PathCond} {apart fresh handsOn again : Bool} {X : World → Array Value → Prop}
    (hX : ∀ (w w' : World) (args : Array Value), w.heap = w'.heap → X w args → X w' args)
    (own : ownKnob C.prog.godebug = none) (started : os.Started) (noInit : C.prog.inits.idxOf? f = none) (hfn : C.prog.funcs[f]? = some fn)
    (witness : ∃ (w : World) (tape : Tape) (i : Input), w.os = os ∧ (w.forCall tape i).Shaped C.prog ∧ i.vars = [] ∧ Input.okWide C.prog (w.forCall tape i) .any w.heap.size f i ∧
      ((s.pre enc C.prog fn conds apart (w.forCall tape i).memory i.args ∧ X (w.forCall tape i).memory i.args) ∧ sizedMet enc C.prog fn (OpenSpec.ofChange s) apart (w.forCall tape i).memory i.args) ∧ a.holds C.prog (lone (Frame.enter C.prog f i.args .normal) [] (w.forCall tape i)))
    (contract : ∀ (W : World) (base : Nat) (args : Array Value) (ds gs : List (DataW H)) (before : List MemPlace), W.ShapedOpen C.prog →
      (∀ (j : Nat) t v, fn.params[j]? = some t → args[j]? = some v → Value.okWide C.prog W .any base t v) →
      DataW.Whole enc C.prog fn.params.toList s.vars apart W args.toList ds gs before → X W args →
      Calls C.prog f args W fun e W' => ∃ v, e = .returned v ∧ s.post enc C.prog fn apart fresh handsOn again W args v W') :
    ReturnsInHanded a C os f .any (fun w args => (s.pre enc C.prog fn conds apart w args ∧ X w args) ∧ sizedMet enc C.prog fn (OpenSpec.ofChange s) apart w args) (s.post enc C.prog fn apart fresh handsOn again) := by
  refine returnsInHanded_of_calls own started noInit witness ?_
  intro w tape i _ hsh _ hok hpre _
  obtain ⟨_, _, _, fn', hfn', _, _, _, _, hval⟩ := hok
  have e : fn' = fn := Option.some.inj (hfn'.symm.trans hfn)
  subst e
  obtain ⟨⟨⟨ds, gs, before, hw, hc⟩, hx⟩, hz⟩ := hpre
  have hw' := DataW.Whole.of_heap (w' := w.forCall tape i) (by rfl) hw
  refine (contract (w.forCall tape i) w.heap.size i.args ds gs before hsh hval hw' (hX _ _ _ (by rfl) hx)).mono fun e W' ⟨v, he, hp⟩ => ?_
  subst he
  exact ChangeSpec.post_blind hp
end

theorem Tryz.underlying385 : Tryz.prog.underlying 385 = some (.array 20 326) := by kernel_rfl
theorem Tryz.cells385 : Tryz.prog.cellsOf 385 = 20 := by kernel_rfl
theorem Tryz.underlying326' : Tryz.prog.underlying 326 = some (.int .u64) := by kernel_rfl
theorem Tryz.cells326 : Tryz.prog.cellsOf 326 = 1 := by kernel_rfl
theorem Tryz.g5type : (Tryz.prog.globals[5]?).map (·.type) = some 385 := by kernel_rfl
theorem Tryz.g5name : Tryz.prog.globalNamed "internal/strconv.uint64pow10" = some 5 := by kernel_rfl
theorem pow_data : (Rows.laid_internal_strconv_uint64pow10 : DataW Unit) = Lib.tabData .u64 Lib.pow10Tab := by kernel_rfl
theorem glob_of {W : World} (hsh : W.ShapedOpen Tryz.prog) (hL : laidMet Tryz.prog laid7 W) : ∃ m, Glob m W := by
  obtain ⟨m, hm⟩ := Tryz.laysM145.s1_3 W hsh
  have hm : W.cell? ⟨1, 0, none⟩ = some (.int .i64 m) := hm
  refine ⟨m, hm, ?_, ?_⟩
  · by_cases h : 1 < W.heap.size
    · exact h
    · simp [World.cell?, Array.getElem?_eq_none (Nat.le_of_not_lt h)] at hm
  · have hr : Lib.VarReads Tryz.prog W "internal/strconv.uint64pow10" Rows.laid_internal_strconv_uint64pow10 := Lib.laidMet.reads hL (by simp [laid7])
    rw [pow_data] at hr
    obtain ⟨g', t', cs, fuel, p, hg', ht', hvar, hd⟩ := hr
    obtain rfl := Option.some.inj (Tryz.g5name.symm.trans hg')
    obtain rfl := Option.some.inj (Tryz.g5type.symm.trans ht')
    unfold Lib.TabIs
    rw [hvar, ← Lib.cells_of_tab Tryz.underlying385 Tryz.underlying326' Tryz.cells326 Tryz.cells385 hd]
end Go.Proofs.YtckdgniecdfedaaGreatDoor
