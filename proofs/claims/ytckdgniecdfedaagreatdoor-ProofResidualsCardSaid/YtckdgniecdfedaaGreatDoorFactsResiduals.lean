/- The closed facts of the row of Residuals, each by the kernel alone, and their conjunction. -/
import Derived.Test.YtckdgniecdfedaaGreatDoorRows
import Derived.JoinedOf
namespace Go.Proofs.YtckdgniecdfedaaGreatDoor
namespace FactsResiduals
theorem andB {a b:Bool} (h:a=true) (k:b=true):(a&&b)=true:=by rw[h,k];rfl
theorem k0:Rows.proofResidualsRow.wf (OpenSpec.ofChange Rows.proofResidualsSpec)=true:=by kernel_rfl
theorem k1:laidOutB Tryz.prog=true:=by kernel_rfl
theorem k2:mapsRowed Tryz.prog=true:=by kernel_rfl
theorem k3:Tryz.f6.params.all (Tryz.prog.readableRec ·)=true:=by kernel_rfl
theorem k4:namedTie Tryz.prog Rows.proofResidualsRow.named Rows.proofResidualsSpec.vars=true:=by kernel_rfl
theorem k5:(Rows.proofResidualsRow.stops==[])=true:=by kernel_rfl
theorem k6:(Tryz.prog.stops==[])=true:=by kernel_rfl
theorem k7:(Rows.proofResidualsRow.knobs==[])=true:=by kernel_rfl
theorem k8:(Tryz.prog.stopKnobs==[])=true:=by kernel_rfl
theorem k9:(Rows.proofResidualsRow.inPlace==Tryz.prog.inPlace 6)=true:=by kernel_rfl
theorem k10:(Rows.proofResidualsRow.unfollowed==Tryz.prog.unfollowed 6)=true:=by kernel_rfl
theorem k11:(Rows.proofResidualsRow.recurses==Tryz.prog.recurses 6)=true:=by kernel_rfl
theorem k12:(Rows.proofResidualsRow.named==Tryz.prog.varsNamed 6)=true:=by kernel_rfl
theorem k13:(Rows.proofResidualsRow.maps==(Tryz.f6.params.toList++Rows.proofResidualsSpec.plain.varTypes Tryz.prog).any (Tryz.prog.mapsRec ·))=true:=by kernel_rfl
theorem k14:(Rows.proofResidualsRow.ifaces==(Tryz.f6.params.toList++Rows.proofResidualsSpec.plain.varTypes Tryz.prog).any (Tryz.prog.ifacesRec ·))=true:=by kernel_rfl
theorem k15:(Rows.proofResidualsRow.mapsOut==Tryz.prog.mapsAmong Tryz.f6.resultTypes.toList)=true:=by kernel_rfl
theorem k16:(Rows.proofResidualsRow.loops==(Tryz.f6.params.toList++Rows.proofResidualsSpec.plain.varTypes Tryz.prog).any (Tryz.prog.loopsFrom ·))=true:=by kernel_rfl
theorem k17:(Rows.proofResidualsRow.wideKeys==(Tryz.f6.params.toList++Rows.proofResidualsSpec.plain.varTypes Tryz.prog++Tryz.f6.resultTypes.toList).any (Tryz.prog.wideKeysFrom ·))=true:=by kernel_rfl
theorem k18:Rows.proofResidualsSpec.vars.all (Tryz.prog.varReadable ·)=true:=by kernel_rfl
theorem k19:Tryz.f6.resultTypes.all (fun t=>Tryz.prog.readableRec t&&decide (t<Tryz.prog.types.size))=true:=by kernel_rfl
theorem k20:(Rows.proofResidualsRow.ifacesOut==Tryz.f6.resultTypes.toList.any (Tryz.prog.ifacesRec ·))=true:=by kernel_rfl
theorem k21:(Rows.proofResidualsRow.loopsOut==Tryz.f6.resultTypes.toList.any (Tryz.prog.loopsFrom ·))=true:=by kernel_rfl
theorem k22:(Rows.proofResidualsRow.plainKeys==Tryz.prog.plainKeys)=true:=by kernel_rfl
theorem k23:Rows.proofResidualsRow.shortTexts.isNone=true:=by kernel_rfl
theorem k24:Tryz.prog.stopsHeard=true:=by kernel_rfl
theorem k25:Tryz.prog.mayEnter=true:=by kernel_rfl
theorem k26:(Rows.proofResidualsRow.lifted==Tryz.prog.liftsFinal)=true:=by kernel_rfl
theorem k27:(Tryz.prog.make==some Rows.proofResidualsRow.make)=true:=by kernel_rfl
theorem k28:(Rows.proofResidualsRow.kinds==(if Rows.proofResidualsRow.domain.isEmpty then [] else Tryz.f6.params.toList.map fun t=>match Tryz.prog.underlying t with|some (.int k)=>some k|_=>none))=true:=by kernel_rfl
theorem k29:(Rows.proofResidualsRow.pinned==Rows.proofResidualsRow.pinnedBy)=true:=by kernel_rfl
theorem k30:(Rows.proofResidualsRow.veiled==(Tryz.f6.params.toList++Rows.proofResidualsSpec.plain.varTypes Tryz.prog++Tryz.f6.resultTypes.toList).any (Tryz.prog.veiledRec ·))=true:=by kernel_rfl
theorem k31:Rows.proofResidualsRow.veiledFits Tryz.prog Tryz.f6.params.toList (Tryz.f6.params.toList++Rows.proofResidualsSpec.plain.varTypes Tryz.prog++Tryz.f6.resultTypes.toList)=true:=by kernel_rfl
end FactsResiduals
end Go.Proofs.YtckdgniecdfedaaGreatDoor
