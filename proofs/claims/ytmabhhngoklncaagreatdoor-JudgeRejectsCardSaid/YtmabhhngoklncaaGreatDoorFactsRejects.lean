/- The closed facts of the row of Rejects, each by the kernel alone, and their conjunction. -/
import Derived.Test.YtmabhhngoklncaaGreatDoorRows
import Derived.JoinedOf
set_option maxRecDepth 100000
set_option maxHeartbeats 40000000
set_option linter.all false
open Go.Proofs.Tryz renaming prog->rA
open Go
namespace Go.Proofs.YtmabhhngoklncaaGreatDoor
namespace FactsRejects
theorem pA {a b:Bool} (h:a=true) (k:b=true):(a&&b)=true:=by rw[h,k];rfl
theorem k0:Rows.judgeRejectsRow.wf (OpenSpec.ofChange Rows.judgeRejectsSpec)=true:=by kernel_rfl
theorem k1:laidOutB rA=true:=by kernel_rfl
theorem k2:mapsRowed rA=true:=by kernel_rfl
theorem k3:Tryz.f3.params.all (Tryz.prog.readableRec ·)=true:=by kernel_rfl
theorem k4:namedTie rA Rows.judgeRejectsRow.named Rows.judgeRejectsSpec.vars=true:=by kernel_rfl
theorem k5:(Rows.judgeRejectsRow.stops==[])=true:=by kernel_rfl
theorem k6:(Tryz.prog.stops==[])=true:=by kernel_rfl
theorem k7:(Rows.judgeRejectsRow.knobs==[])=true:=by kernel_rfl
theorem k8:(Tryz.prog.stopKnobs==[])=true:=by kernel_rfl
theorem k9:(Rows.judgeRejectsRow.inPlace==Tryz.prog.inPlace 3)=true:=by kernel_rfl
theorem k10:(Rows.judgeRejectsRow.unfollowed==Tryz.prog.unfollowed 3)=true:=by kernel_rfl
theorem k11:(Rows.judgeRejectsRow.recurses==Tryz.prog.recurses 3)=true:=by kernel_rfl
theorem k12:(Rows.judgeRejectsRow.named==Tryz.prog.varsNamed 3)=true:=by kernel_rfl
theorem k13:(Rows.judgeRejectsRow.maps==(Tryz.f3.params.toList++Rows.judgeRejectsSpec.plain.varTypes rA).any (Tryz.prog.mapsRec ·))=true:=by kernel_rfl
theorem k14:(Rows.judgeRejectsRow.ifaces==(Tryz.f3.params.toList++Rows.judgeRejectsSpec.plain.varTypes rA).any (Tryz.prog.ifacesRec ·))=true:=by kernel_rfl
theorem k15:(Rows.judgeRejectsRow.mapsOut==Tryz.prog.mapsAmong Tryz.f3.resultTypes.toList)=true:=by kernel_rfl
theorem k16:(Rows.judgeRejectsRow.loops==(Tryz.f3.params.toList++Rows.judgeRejectsSpec.plain.varTypes rA).any (Tryz.prog.loopsFrom ·))=true:=by kernel_rfl
theorem k17:(Rows.judgeRejectsRow.wideKeys==(Tryz.f3.params.toList++Rows.judgeRejectsSpec.plain.varTypes rA++Tryz.f3.resultTypes.toList).any (Tryz.prog.wideKeysFrom ·))=true:=by kernel_rfl
theorem k18:Rows.judgeRejectsSpec.vars.all (Tryz.prog.varReadable ·)=true:=by kernel_rfl
theorem k19:Tryz.f3.resultTypes.all (fun t=>Tryz.prog.readableRec t&&decide (t<Tryz.prog.types.size))=true:=by kernel_rfl
theorem k20:(Rows.judgeRejectsRow.ifacesOut==Tryz.f3.resultTypes.toList.any (Tryz.prog.ifacesRec ·))=true:=by kernel_rfl
theorem k21:(Rows.judgeRejectsRow.loopsOut==Tryz.f3.resultTypes.toList.any (Tryz.prog.loopsFrom ·))=true:=by kernel_rfl
theorem k22:(Rows.judgeRejectsRow.plainKeys==Tryz.prog.plainKeys)=true:=by kernel_rfl
theorem k23:Rows.judgeRejectsRow.shortTexts.isNone=true:=by kernel_rfl
theorem k24:Tryz.prog.stopsHeard=true:=by kernel_rfl
theorem k25:Tryz.prog.mayEnter=true:=by kernel_rfl
theorem k26:(Rows.judgeRejectsRow.lifted==Tryz.prog.liftsFinal)=true:=by kernel_rfl
theorem k27:(Tryz.prog.make==some Rows.judgeRejectsRow.make)=true:=by kernel_rfl
theorem k28:(Rows.judgeRejectsRow.kinds==(if Rows.judgeRejectsRow.domain.isEmpty then [] else Tryz.f3.params.toList.map fun t=>match Tryz.prog.underlying t with|some (.int k)=>some k|_=>none))=true:=by kernel_rfl
theorem k29:(Rows.judgeRejectsRow.pinned==Rows.judgeRejectsRow.pinnedBy)=true:=by kernel_rfl
theorem k30:(Rows.judgeRejectsRow.veiled==(Tryz.f3.params.toList++Rows.judgeRejectsSpec.plain.varTypes rA++Tryz.f3.resultTypes.toList).any (Tryz.prog.veiledRec ·))=true:=by kernel_rfl
theorem k31:Rows.judgeRejectsRow.veiledFits rA Tryz.f3.params.toList (Tryz.f3.params.toList++Rows.judgeRejectsSpec.plain.varTypes rA++Tryz.f3.resultTypes.toList)=true:=by kernel_rfl
end FactsRejects
end Go.Proofs.YtmabhhngoklncaaGreatDoor
