/- The law ProofRegions: for every input it hands back true, and its argument reads as before. -/
import Derived.Test.YtckdgniecdfedaaGreatDoorRnI
import Derived.Test.YtckdgniecdfedaaGreatDoorRnO
import Derived.Test.YtckdgniecdfedaaGreatDoorHeadL
import Derived.Test.YtckdgniecdfedaaGreatDoorSeal
namespace Go.Proofs.YtckdgniecdfedaaGreatDoor
open Go.ChangeShapes Go.WideShapes Go.ChangeAt Go.RowKit Go.AM

theorem Tryz.struct39 : ∃ fs, Tryz.prog.underlying 39 = some (.struct fs) := by
  cases h : Tryz.prog.underlying 39 with
  | none => exact absurd (show (Tryz.prog.underlying 39).isSome = true by kernel_rfl) (by rw [h]; simp)
  | some d =>
    cases d with
    | struct fs => exact ⟨fs, rfl⟩
    | _ => exact absurd (show (match Tryz.prog.underlying 39 with | some (.struct _) => true | _ => false) = true by kernel_rfl) (by rw [h]; simp)
set_option maxRecDepth 100000 in
theorem regions_lifted (os : Os) (started : os.Started) (H : Type) (enc : TypeId × Value → H) :
    ReturnsInHanded {} Tryz.checked os 5 .any (fun w args => (Rows.proofRegionsSpec.pre enc Tryz.prog Tryz.f5 [] false w args ∧ laidMetH Tryz.prog laid7 w) ∧ sizedMet enc Tryz.prog Tryz.f5 (OpenSpec.ofChange Rows.proofRegionsSpec) false w args)
      (Rows.proofRegionsSpec.post enc Tryz.prog Tryz.f5 false true false false) := by
  refine returnsInHanded_of_change_and (C := Tryz.checked) (X := fun w _ => laidMetH Tryz.prog laid7 w) (fun _ _ _ hh h => h.of_heap hh) Tryz.own started (by kernel_rfl) Tryz.func5
    (ChangeSpec.witness_shaped (enc := enc) (C := Tryz.checked) (os := os) (X := fun w _ => laidMetH Tryz.prog laid7 w) false (World.laidAll Tryz.prog os laid7) #[.agg #[.slice none 0 0, .slice none 0 0, .slice none 0 0]] 8 (World.laidAll_os _ _ _)
      (World.shaped_of_ZipB (by kernel_rfl) (by kernel_rfl)) (by kernel_rfl) (by kernel_rfl) (by kernel_rfl)
      (by rw [MakeChecks.laidMetH_plain _ _ _ (by kernel_rfl)]; exact laidMet_laidAll _ (by kernel_rfl) (by kernel_rfl))) ?_
  intro W base args ds gs before hval0 hW _ _ hL _
  have hval : ∀ (j : Nat) t v, Tryz.f5.params[j]? = some t → args[j]? = some v → Value.okWide Tryz.prog W .any base t v := hval0
  have hW' := hW
  obtain ⟨p, q, hA0, hV, rfl, _, _⟩ := hW
  have hA : DataW.TrodAll enc Tryz.prog W 0 (fun _ => true) true Tryz.f5.params.toList args.toList ds p := hA0
  rw [Tryz.params5] at hA hval
  obtain ⟨v0, d0, rfl, rfl, h0⟩ := trodAll_one hA
  obtain ⟨rfl, rfl⟩ := trodVars_none hV
  simp only [List.append_nil] at hW'
  have lt0 : ∀ x ∈ p, x.block < W.heap.size := fun x hx => by simpa using hW'.lt x hx
  obtain ⟨fs, hu⟩ := Tryz.struct39
  obtain ⟨a0, a1, a2, c0, c1, c2, o, q, s, rfl, n0, n1, b0, b1, n2⟩ := open_game hu (hval 0 39 v0 rfl rfl) h0 lt0
  rw [MakeChecks.laidMetH_plain _ _ _ (by kernel_rfl)] at hL
  have key := regions_any W (fun w' hB => head_later hL hB) o q s a0 a1 a2 c0 c1 c2 n0 n1 b0 b1 n2
  refine key.mono fun e W' ⟨he, hB⟩ => ?_
  subst he
  have r0 := Below.trod Tryz.laidOut (by kernel_rfl) (of_decide_eq_true (by kernel_rfl)) h0 hB lt0
  exact ⟨_, rfl, _, _, _, [], _, [], hW', trodAll_mk1 (shut_bool Tryz.underlying4 _), trodAll_mk1 r0, rfl, hB.frame _, fun h => by cases h⟩
end Go.Proofs.YtckdgniecdfedaaGreatDoor
