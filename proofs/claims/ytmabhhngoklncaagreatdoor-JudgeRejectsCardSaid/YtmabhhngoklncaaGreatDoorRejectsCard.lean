/- The card of the law JudgeRejects: for every input it hands back true; what it lists is tied to the program's text. -/
import Derived.Test.YtmabhhngoklncaaGreatDoorRejects
import Derived.Test.YtmabhhngoklncaaGreatDoorClosedRejects
import Derived.Test.YtmabhhngoklncaaGreatDoorGoes
import Derived.Test.YtmabhhngoklncaaGreatDoorTie
import Derived.Test.YtmabhhngoklncaaGreatDoorCards
set_option maxRecDepth 100000
set_option maxHeartbeats 40000000
set_option linter.all false
open Go Go.AM
namespace Go.Proofs.YtmabhhngoklncaaGreatDoor
theorem zDe:Tryz.prog.funcNamed "foresight/foresightlaw34.JudgeRejects" =some 3:=by kernel_rfl
theorem zJl:Tryz.f3.isWrapper Tryz.prog Rows.judgeRejectsRow.wrapper Rows.judgeRejectsRow.mainSum:=by
 unfold Func.isWrapper;first|(rw[if_pos (by decide+kernel)];kernel_rfl)|(rw[if_neg (by decide+kernel)];exact⟨rfl,rfl⟩)
theorem zJh:Tryz.f3.isInstance Tryz.prog Rows.judgeRejectsRow.origin Rows.judgeRejectsRow.targs:=of_decide_eq_true (by kernel_rfl)
theorem zDk:Rows.JudgeRejectsSaid:=
 OpenClaim.holds_of_wide (p:=Tryz.pinned) (s:=Rows.judgeRejectsSpec) (c:=Rows.judgeRejectsRow) 3 Tryz.f3 rfl rfl rfl rfl rfl rfl rfl ⟨rfl,rfl,rfl,rfl,rfl⟩ rfl rfl rfl rfl rfl zDe Tryz.func3 FactsRejects.closed
  zJh zJl (fun os started H enc _=>zGJ os started H enc)
theorem zKL:Rows.judgeRejectsRow.wfByText (OpenSpec.ofChange Rows.judgeRejectsSpec)=true:=by kernel_rfl
theorem zJc:Tryz.prog.mainIs=some (true,"a6d7522efd51abf6b49df3af2acc2a809812dfd1a762c0897cd4cf75a56f3584".toList):=by kernel_rfl
theorem zI5:true=Tryz.prog.looks []:=by kernel_rfl
theorem zIv:([24,25,3].all fun u=>!Tryz.prog.wantsStandIn u)=true:=by kernel_rfl
theorem rejects_card_holds:Rows.JudgeRejectsCardSaid:=
 Claim7.holds_tied_plain_at .later [] [.data,.data,.data] true (true,"a6d7522efd51abf6b49df3af2acc2a809812dfd1a762c0897cd4cf75a56f3584") true
  zDk (fun _ h=>by cases h) zKL (fun _ h=>by cases h) judgeRejects_row_tie rfl ⟨rfl,rfl⟩ zJc rfl
  (fun f fn hf hfn=>by
   obtain rfl:f=3:=Option.some.inj (zDe.symm.trans hf) |>.symm
   obtain rfl:fn=Tryz.f3:=(Option.some.inj (Tryz.func3.symm.trans hfn)).symm;exact⟨zI5,fun j t ht=>by
    rw[Tryz.params3] at ht;have hm:t∈[24,25,3]:=by simpa using Array.mem_of_getElem? ht
    exact(show Tryz.prog.wantsStandIn t=false by simpa using List.all_eq_true.1 zIv t hm)⟩)
  (zMm rfl)
end Go.Proofs.YtmabhhngoklncaaGreatDoor
