/- The card of the law ProofResiduals: for every input it hands back true; what it lists is tied to the program's text. -/
import Derived.Test.YtckdgniecdfedaaGreatDoorResiduals
import Derived.Test.YtckdgniecdfedaaGreatDoorClosedResiduals
import Derived.Test.YtckdgniecdfedaaGreatDoorGoes
import Derived.Test.YtckdgniecdfedaaGreatDoorTie
import Derived.Test.YtckdgniecdfedaaGreatDoorCards
namespace Go.Proofs.YtckdgniecdfedaaGreatDoor
open Go.AM
theorem residualsNamed:Tryz.prog.funcNamed "foresight/foresightlaw33.ProofResiduals" =some 6:=by kernel_rfl
theorem residualsWrap:Tryz.f6.isWrapper Tryz.prog Rows.proofResidualsRow.wrapper Rows.proofResidualsRow.mainSum:=by
 unfold Func.isWrapper;first|(rw[if_pos (by decide+kernel)];kernel_rfl)|(rw[if_neg (by decide+kernel)];exact⟨rfl,rfl⟩)
theorem residualsInst:Tryz.f6.isInstance Tryz.prog Rows.proofResidualsRow.origin Rows.proofResidualsRow.targs:=of_decide_eq_true (by kernel_rfl)
theorem residuals_row_holds:Rows.ProofResidualsSaid:=
 OpenClaim.holds_of_wide (p:=Tryz.pinned) (s:=Rows.proofResidualsSpec) (c:=Rows.proofResidualsRow) 6 Tryz.f6 rfl rfl rfl rfl rfl rfl rfl ⟨rfl,rfl,rfl,rfl,rfl⟩ rfl rfl rfl rfl rfl residualsNamed Tryz.func6 FactsResiduals.closed
  residualsInst residualsWrap (fun os started H enc _=>residuals_lifted os started H enc)
theorem residualsText:Rows.proofResidualsRow.wfByText (OpenSpec.ofChange Rows.proofResidualsSpec)=true:=by kernel_rfl
theorem residualsMain:Tryz.prog.mainIs=some (true,"249fcd303dd529fbe68e2e9d828324d00e931214725586ebcb8e2fb956e74717".toList):=by kernel_rfl
theorem residualsLooks:false=Tryz.prog.looks []:=by kernel_rfl
theorem residualsStand:([45,48,25].all fun u=>!Tryz.prog.wantsStandIn u)=true:=by kernel_rfl
theorem residuals_card_holds:Rows.ProofResidualsCardSaid:=
 Claim7.holds_tied_plain_at .later [] [.data,.data,.data,.data,.data,.data,.pinned] true (true,"249fcd303dd529fbe68e2e9d828324d00e931214725586ebcb8e2fb956e74717") false
  residuals_row_holds (fun _ h=>by cases h) residualsText (fun _ h=>by cases h) proofResiduals_row_tie rfl ⟨rfl,rfl⟩ residualsMain rfl
  (fun f fn hf hfn=>by
   obtain rfl:f=6:=Option.some.inj (residualsNamed.symm.trans hf) |>.symm
   obtain rfl:fn=Tryz.f6:=(Option.some.inj (Tryz.func6.symm.trans hfn)).symm
   exact⟨residualsLooks,fun j t ht=>by
    rw[Tryz.params6] at ht
    have hm:t∈[45,48,25]:=by simpa using Array.mem_of_getElem? ht
    exact(show Tryz.prog.wantsStandIn t=false by simpa using List.all_eq_true.1 residualsStand t hm)⟩)
  (goesBy_no rfl)
#print axioms residuals_card_holds
end Go.Proofs.YtckdgniecdfedaaGreatDoor
