/- No function of the program starts a goroutine. -/
import Derived.Test.YtmabhhngoklncaaGreatDoorRows
import GoSem.ClaimSeven
set_option maxRecDepth 100000
set_option maxHeartbeats 40000000
set_option linter.all false
open Go
namespace Go.Proofs.YtmabhhngoklncaaGreatDoor
theorem zPG:Tryz.prog.funcs.any Func.goes=false:=by kernel_rfl
theorem zP3 {P:Program} (h:P.funcs.any Func.goes=false) (f:FuncId):P.goes f=false:=by
 unfold Program.goes;rw[h,Bool.and_false,Bool.or_false];rw[List.any_eq_false];intro g _ hg;cases hf:P.funcs[g]? with
 |none=>rw[hf] at hg;cases hg
 |some fn=>
  rw[hf] at hg;have hm:fn∈P.funcs:=Array.mem_of_getElem? hf;rw[Array.any_eq_false'] at h;exact h fn hm hg
theorem zMm {c:OpenClaim} (hs:c.start=.entering):false=c.goesBy Tryz.prog:=by
 unfold OpenClaim.goesBy Program.goesAt Program.goesFrom;rw[hs];cases Tryz.prog.funcNamed c.func with
 |none=>rfl
 |some f=>simp[zP3 zPG f]
end Go.Proofs.YtmabhhngoklncaaGreatDoor
