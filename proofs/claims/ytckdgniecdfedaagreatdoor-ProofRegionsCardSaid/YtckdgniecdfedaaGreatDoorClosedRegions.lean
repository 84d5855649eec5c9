/- The conjunction of the closed facts of the row of Regions. -/
import Derived.Test.YtckdgniecdfedaaGreatDoorFactsRegions
namespace Go.Proofs.YtckdgniecdfedaaGreatDoor
namespace FactsRegions
set_option maxRecDepth 100000 in
theorem closed : joinedFacts Tryz.prog 5 Tryz.f5 Rows.proofRegionsSpec Rows.proofRegionsRow = true := (andB (andB (andB (andB (andB (andB (andB (andB (andB (andB (andB (andB (andB (andB (andB (andB (andB (andB (andB (andB (andB (andB (andB (andB (andB (andB (andB (andB (andB (andB (andB k0 k1) k2) k3) k4) k5) k6) k7) k8) k9) k10) k11) k12) k13) k14) k15) k16) k17) k18) k19) k20) k21) k22) k23) k24) k25) k26) k27) k28) k29) k30) k31)
end FactsRegions
end Go.Proofs.YtckdgniecdfedaaGreatDoor
