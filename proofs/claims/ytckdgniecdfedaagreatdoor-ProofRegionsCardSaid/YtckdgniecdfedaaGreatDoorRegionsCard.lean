/- The card of the law ProofRegions: for every input it hands back true; what it lists is tied to the program's text. -/
import Derived.Test.YtckdgniecdfedaaGreatDoorRegions
import Derived.Test.YtckdgniecdfedaaGreatDoorClosedRegions
import Derived.Test.YtckdgniecdfedaaGreatDoorGoes
import Derived.Test.YtckdgniecdfedaaGreatDoorTie
import Derived.Test.YtckdgniecdfedaaGreatDoorCards
import Derived.SevenTiedAt
namespace Go.Proofs.YtckdgniecdfedaaGreatDoor
open Go.AM
theorem regionsNamed : Tryz.prog.funcNamed "foresight/foresightlaw33.ProofRegions" = some 5 := by kernel_rfl
theorem regionsWrap : Tryz.f5.isWrapper Tryz.prog Rows.proofRegionsRow.wrapper Rows.proofRegionsRow.mainSum := by
  unfold Func.isWrapper; first | (rw [if_pos (by decide +kernel)]; kernel_rfl) | (rw [if_neg (by decide +kernel)]; exact ⟨rfl, rfl⟩)
theorem regionsInst : Tryz.f5.isInstance Tryz.prog Rows.proofRegionsRow.origin Rows.proofRegionsRow.targs := of_decide_eq_true (by kernel_rfl)
theorem regions_row_holds : Rows.ProofRegionsSaid :=
  OpenClaim.holds_of_wide (p := Tryz.pinned) (s := Rows.proofRegionsSpec) (c := Rows.proofRegionsRow) 5 Tryz.f5 rfl rfl rfl rfl rfl rfl rfl ⟨rfl, rfl, rfl, rfl, rfl⟩ rfl rfl rfl rfl rfl regionsNamed Tryz.func5 FactsRegions.closed
    regionsInst regionsWrap (fun os started H enc _ => regions_lifted os started H enc)
theorem regionsText : Rows.proofRegionsRow.wfByText (OpenSpec.ofChange Rows.proofRegionsSpec) = true := by kernel_rfl
theorem regionsMain : Tryz.prog.mainIs = some (true, "249fcd303dd529fbe68e2e9d828324d00e931214725586ebcb8e2fb956e74717".toList) := by kernel_rfl
theorem regionsLooks : false = Tryz.prog.looks [] := by kernel_rfl
theorem regionsStand : ([39].all fun u => !Tryz.prog.wantsStandIn u) = true := by kernel_rfl
theorem regions_card_holds : Rows.ProofRegionsCardSaid :=
  Claim7.holds_tied_plain_at .later [] [.data, .data, .data, .data, .data, .data, .pinned] true (true, "249fcd303dd529fbe68e2e9d828324d00e931214725586ebcb8e2fb956e74717") false
    regions_row_holds (fun _ h => by cases h) regionsText (fun _ h => by cases h) proofRegions_row_tie rfl ⟨rfl, rfl⟩ regionsMain rfl
    (fun f fn hf hfn => by
      obtain rfl : f = 5 := Option.some.inj (regionsNamed.symm.trans hf) |>.symm
      obtain rfl : fn = Tryz.f5 := (Option.some.inj (Tryz.func5.symm.trans hfn)).symm
      exact ⟨regionsLooks, fun j t ht => by
        rw [Tryz.params5] at ht
        have hm : t ∈ [39] := by simpa using Array.mem_of_getElem? ht
        exact (show Tryz.prog.wantsStandIn t = false by simpa using List.all_eq_true.1 regionsStand t hm)⟩)
    (goesBy_no rfl)
#print axioms regions_card_holds
end Go.Proofs.YtckdgniecdfedaaGreatDoor
