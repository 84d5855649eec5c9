/- The card of the law ProofClaims: for every input it hands back true; what it lists is tied to the program's text. -/
import Derived.Test.YtckdgniecdfedaaGreatDoorClaims
import Derived.Test.YtckdgniecdfedaaGreatDoorClosedClaims
import Derived.Test.YtckdgniecdfedaaGreatDoorGoes
import Derived.Test.YtckdgniecdfedaaGreatDoorTie
import Derived.Test.YtckdgniecdfedaaGreatDoorCards
import Derived.SevenTiedAt
namespace Go.Proofs.YtckdgniecdfedaaGreatDoor
open Go.AM
theorem claimsNamed : Tryz.prog.funcNamed "foresight/foresightlaw33.ProofClaims" = some 7 := by kernel_rfl
theorem claimsWrap : Tryz.f7.isWrapper Tryz.prog Rows.proofClaimsRow.wrapper Rows.proofClaimsRow.mainSum := by
  unfold Func.isWrapper; first | (rw [if_pos (by decide +kernel)]; kernel_rfl) | (rw [if_neg (by decide +kernel)]; exact ⟨rfl, rfl⟩)
theorem claimsInst : Tryz.f7.isInstance Tryz.prog Rows.proofClaimsRow.origin Rows.proofClaimsRow.targs := of_decide_eq_true (by kernel_rfl)
theorem claims_row_holds : Rows.ProofClaimsSaid :=
  OpenClaim.holds_of_wide (p := Tryz.pinned) (s := Rows.proofClaimsSpec) (c := Rows.proofClaimsRow) 7 Tryz.f7 rfl rfl rfl rfl rfl rfl rfl ⟨rfl, rfl, rfl, rfl, rfl⟩ rfl rfl rfl rfl rfl claimsNamed Tryz.func7 FactsClaims.closed
    claimsInst claimsWrap (fun os started H enc _ => claims_lifted os started H enc)
theorem claimsText : Rows.proofClaimsRow.wfByText (OpenSpec.ofChange Rows.proofClaimsSpec) = true := by kernel_rfl
theorem claimsMain : Tryz.prog.mainIs = some (true, "249fcd303dd529fbe68e2e9d828324d00e931214725586ebcb8e2fb956e74717".toList) := by kernel_rfl
theorem claimsLooks : false = Tryz.prog.looks [] := by kernel_rfl
theorem claimsStand : ([59, 59].all fun u => !Tryz.prog.wantsStandIn u) = true := by kernel_rfl
theorem claims_card_holds : Rows.ProofClaimsCardSaid :=
  Claim7.holds_tied_plain_at .later [] [.data, .data, .data, .data, .data, .data, .pinned] true (true, "249fcd303dd529fbe68e2e9d828324d00e931214725586ebcb8e2fb956e74717") false
    claims_row_holds (fun _ h => by cases h) claimsText (fun _ h => by cases h) proofClaims_row_tie rfl ⟨rfl, rfl⟩ claimsMain rfl
    (fun f fn hf hfn => by
      obtain rfl : f = 7 := Option.some.inj (claimsNamed.symm.trans hf) |>.symm
      obtain rfl : fn = Tryz.f7 := (Option.some.inj (Tryz.func7.symm.trans hfn)).symm
      exact ⟨claimsLooks, fun j t ht => by
        rw [Tryz.params7] at ht
        have hm : t ∈ [59, 59] := by simpa using Array.mem_of_getElem? ht
        exact (show Tryz.prog.wantsStandIn t = false by simpa using List.all_eq_true.1 claimsStand t hm)⟩)
    (goesBy_no rfl)
#print axioms claims_card_holds
end Go.Proofs.YtckdgniecdfedaaGreatDoor
