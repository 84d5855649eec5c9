/- The card of the law ProofTexts: for every input it hands back true; what it lists is tied to the program's text. -/
import Derived.Test.YtckdgniecdfedaaGreatDoorTexts
import Derived.Test.YtckdgniecdfedaaGreatDoorClosedTexts
import Derived.Test.YtckdgniecdfedaaGreatDoorGoes
import Derived.Test.YtckdgniecdfedaaGreatDoorTie
import Derived.Test.YtckdgniecdfedaaGreatDoorCards
import Derived.SevenTiedAt
namespace Go.Proofs.YtckdgniecdfedaaGreatDoor
open Go.AM
theorem textsNamed : Tryz.prog.funcNamed "foresight/foresightlaw33.ProofTexts" = some 4 := by kernel_rfl
theorem textsWrap : Tryz.f4.isWrapper Tryz.prog Rows.proofTextsRow.wrapper Rows.proofTextsRow.mainSum := by
  unfold Func.isWrapper; first | (rw [if_pos (by decide +kernel)]; kernel_rfl) | (rw [if_neg (by decide +kernel)]; exact ⟨rfl, rfl⟩)
theorem textsInst : Tryz.f4.isInstance Tryz.prog Rows.proofTextsRow.origin Rows.proofTextsRow.targs := of_decide_eq_true (by kernel_rfl)
theorem texts_row_holds : Rows.ProofTextsSaid :=
  OpenClaim.holds_of_wide (p := Tryz.pinned) (s := Rows.proofTextsSpec) (c := Rows.proofTextsRow) 4 Tryz.f4 rfl rfl rfl rfl rfl rfl rfl ⟨rfl, rfl, rfl, rfl, rfl⟩ rfl rfl rfl rfl rfl textsNamed Tryz.func4 FactsTexts.closed
    textsInst textsWrap (fun os started H enc _ => texts_lifted os started H enc)
theorem textsText : Rows.proofTextsRow.wfByText (OpenSpec.ofChange Rows.proofTextsSpec) = true := by kernel_rfl
theorem textsMain : Tryz.prog.mainIs = some (true, "249fcd303dd529fbe68e2e9d828324d00e931214725586ebcb8e2fb956e74717".toList) := by kernel_rfl
theorem textsLooks : false = Tryz.prog.looks [] := by kernel_rfl
theorem textsStand : ([22, 23, 9].all fun u => !Tryz.prog.wantsStandIn u) = true := by kernel_rfl
theorem texts_card_holds : Rows.ProofTextsCardSaid :=
  Claim7.holds_tied_plain_at .later [] [.data, .data, .data, .data, .data, .data, .pinned] true (true, "249fcd303dd529fbe68e2e9d828324d00e931214725586ebcb8e2fb956e74717") false
    texts_row_holds (fun _ h => by cases h) textsText (fun _ h => by cases h) proofTexts_row_tie rfl ⟨rfl, rfl⟩ textsMain rfl
    (fun f fn hf hfn => by
      obtain rfl : f = 4 := Option.some.inj (textsNamed.symm.trans hf) |>.symm
      obtain rfl : fn = Tryz.f4 := (Option.some.inj (Tryz.func4.symm.trans hfn)).symm
      exact ⟨textsLooks, fun j t ht => by
        rw [Tryz.params4] at ht
        have hm : t ∈ [22, 23, 9] := by simpa using Array.mem_of_getElem? ht
        exact (show Tryz.prog.wantsStandIn t = false by simpa using List.all_eq_true.1 textsStand t hm)⟩)
    (goesBy_no rfl)
#print axioms texts_card_holds
end Go.Proofs.YtckdgniecdfedaaGreatDoor
