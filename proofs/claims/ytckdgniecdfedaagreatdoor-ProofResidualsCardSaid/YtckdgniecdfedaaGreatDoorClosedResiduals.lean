/- The conjunction of the closed facts of the row of Residuals. -/
import Derived.Test.YtckdgniecdfedaaGreatDoorFactsResiduals
namespace Go.Proofs.YtckdgniecdfedaaGreatDoor
namespace FactsResiduals
set_option maxRecDepth 100000 in
theorem closed:joinedFacts Tryz.prog 6 Tryz.f6 Rows.proofResidualsSpec Rows.proofResidualsRow=true:=(andB (andB (andB (andB (andB (andB (andB (andB (andB (andB (andB (andB (andB (andB (andB (andB (andB (andB (andB (andB (andB (andB (andB (andB (andB (andB (andB (andB (andB (andB (andB k0 k1) k2) k3) k4) k5) k6) k7) k8) k9) k10) k11) k12) k13) k14) k15) k16) k17) k18) k19) k20) k21) k22) k23) k24) k25) k26) k27) k28) k29) k30) k31)
end FactsResiduals
end Go.Proofs.YtckdgniecdfedaaGreatDoor
