/- The card of the law ProofSeal: for every input it hands back true; what it lists is tied to the program's text. -/
import Derived.Test.YtckdgniecdfedaaGreatDoorSeal
import Derived.Test.YtckdgniecdfedaaGreatDoorClosedSeal
import Derived.Test.YtckdgniecdfedaaGreatDoorGoes
import Derived.Test.YtckdgniecdfedaaGreatDoorTie
import Derived.Test.YtckdgniecdfedaaGreatDoorCards
import Derived.SevenTiedAt
namespace Go.Proofs.YtckdgniecdfedaaGreatDoor
open Go.AM
theorem sealNamed : Tryz.prog.funcNamed "foresight/foresightlaw33.ProofSeal" = some 3 := by kernel_rfl
theorem sealWrap : Tryz.f3.isWrapper Tryz.prog Rows.proofSealRow.wrapper Rows.proofSealRow.mainSum := by
  unfold Func.isWrapper; first | (rw [if_pos (by decide +kernel)]; kernel_rfl) | (rw [if_neg (by decide +kernel)]; exact ⟨rfl, rfl⟩)
theorem sealInst : Tryz.f3.isInstance Tryz.prog Rows.proofSealRow.origin Rows.proofSealRow.targs := of_decide_eq_true (by kernel_rfl)
theorem seal_row_holds : Rows.ProofSealSaid :=
  OpenClaim.holds_of_wide (p := Tryz.pinned) (s := Rows.proofSealSpec) (c := Rows.proofSealRow) 3 Tryz.f3 rfl rfl rfl rfl rfl rfl rfl ⟨rfl, rfl, rfl, rfl, rfl⟩ rfl rfl rfl rfl rfl sealNamed Tryz.func3 FactsSeal.closed
    sealInst sealWrap (fun os started H enc _ => seal_lifted os started H enc)
theorem sealText : Rows.proofSealRow.wfByText (OpenSpec.ofChange Rows.proofSealSpec) = true := by kernel_rfl
theorem sealMain : Tryz.prog.mainIs = some (true, "249fcd303dd529fbe68e2e9d828324d00e931214725586ebcb8e2fb956e74717".toList) := by kernel_rfl
theorem sealLooks : false = Tryz.prog.looks [] := by kernel_rfl
theorem sealStand : ([22, 22, 23, 23].all fun u => !Tryz.prog.wantsStandIn u) = true := by kernel_rfl
theorem seal_card_holds : Rows.ProofSealCardSaid :=
  Claim7.holds_tied_plain_at .later [] [.data, .data, .data, .data, .data, .data, .pinned] true (true, "249fcd303dd529fbe68e2e9d828324d00e931214725586ebcb8e2fb956e74717") false
    seal_row_holds (fun _ h => by cases h) sealText (fun _ h => by cases h) proofSeal_row_tie rfl ⟨rfl, rfl⟩ sealMain rfl
    (fun f fn hf hfn => by
      obtain rfl : f = 3 := Option.some.inj (sealNamed.symm.trans hf) |>.symm
      obtain rfl : fn = Tryz.f3 := (Option.some.inj (Tryz.func3.symm.trans hfn)).symm
      exact ⟨sealLooks, fun j t ht => by
        rw [Tryz.params3] at ht
        have hm : t ∈ [22, 22, 23, 23] := by simpa using Array.mem_of_getElem? ht
        exact (show Tryz.prog.wantsStandIn t = false by simpa using List.all_eq_true.1 sealStand t hm)⟩)
    (goesBy_no rfl)
#print axioms seal_card_holds
end Go.Proofs.YtckdgniecdfedaaGreatDoor
