/- The conjunction of the closed facts of the row of Rejects. -/
import Derived.Test.YtmabhhngoklncaaGreatDoorFactsRejects
set_option maxRecDepth 100000
set_option maxHeartbeats 40000000
set_option linter.all false
open Go
namespace Go.Proofs.YtmabhhngoklncaaGreatDoor
namespace FactsRejects
theorem closed:joinedFacts Tryz.prog 3 Tryz.f3 Rows.judgeRejectsSpec Rows.judgeRejectsRow=true:=(pA (pA (pA (pA (pA (pA (pA (pA (pA (pA (pA (pA (pA (pA (pA (pA (pA (pA (pA (pA (pA (pA (pA (pA (pA (pA (pA (pA (pA (pA (pA k0 k1) k2) k3) k4) k5) k6) k7) k8) k9) k10) k11) k12) k13) k14) k15) k16) k17) k18) k19) k20) k21) k22) k23) k24) k25) k26) k27) k28) k29) k30) k31)
end FactsRejects
end Go.Proofs.YtmabhhngoklncaaGreatDoor
