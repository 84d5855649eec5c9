/- The closed facts of the row of Claims, each by the kernel alone, and their conjunction. -/
import Derived.Test.YtckdgniecdfedaaGreatDoorRows
import Derived.JoinedOf
import Derived.KernelRfl
namespace Go.Proofs.YtckdgniecdfedaaGreatDoor
namespace FactsClaims
theorem andB {a b : Bool} (h : a = true) (k : b = true) : (a && b) = true := by rw [h, k]; rfl
theorem k0 : Rows.proofClaimsRow.wf (OpenSpec.ofChange Rows.proofClaimsSpec) = true := by kernel_rfl
theorem k1 : laidOutB Tryz.prog = true := by kernel_rfl
theorem k2 : mapsRowed Tryz.prog = true := by kernel_rfl
theorem k3 : Tryz.f7.params.all (Tryz.prog.readableRec ·) = true := by kernel_rfl
theorem k4 : namedTie Tryz.prog Rows.proofClaimsRow.named Rows.proofClaimsSpec.vars = true := by kernel_rfl
theorem k5 : (Rows.proofClaimsRow.stops == []) = true := by kernel_rfl
theorem k6 : (Tryz.prog.stops == []) = true := by kernel_rfl
theorem k7 : (Rows.proofClaimsRow.knobs == []) = true := by kernel_rfl
theorem k8 : (Tryz.prog.stopKnobs == []) = true := by kernel_rfl
theorem k9 : (Rows.proofClaimsRow.inPlace == Tryz.prog.inPlace 7) = true := by kernel_rfl
theorem k10 : (Rows.proofClaimsRow.unfollowed == Tryz.prog.unfollowed 7) = true := by kernel_rfl
theorem k11 : (Rows.proofClaimsRow.recurses == Tryz.prog.recurses 7) = true := by kernel_rfl
theorem k12 : (Rows.proofClaimsRow.named == Tryz.prog.varsNamed 7) = true := by kernel_rfl
theorem k13 : (Rows.proofClaimsRow.maps == (Tryz.f7.params.toList ++ Rows.proofClaimsSpec.plain.varTypes Tryz.prog).any (Tryz.prog.mapsRec ·)) = true := by kernel_rfl
theorem k14 : (Rows.proofClaimsRow.ifaces == (Tryz.f7.params.toList ++ Rows.proofClaimsSpec.plain.varTypes Tryz.prog).any (Tryz.prog.ifacesRec ·)) = true := by kernel_rfl
theorem k15 : (Rows.proofClaimsRow.mapsOut == Tryz.prog.mapsAmong Tryz.f7.resultTypes.toList) = true := by kernel_rfl
theorem k16 : (Rows.proofClaimsRow.loops == (Tryz.f7.params.toList ++ Rows.proofClaimsSpec.plain.varTypes Tryz.prog).any (Tryz.prog.loopsFrom ·)) = true := by kernel_rfl
theorem k17 : (Rows.proofClaimsRow.wideKeys == (Tryz.f7.params.toList ++ Rows.proofClaimsSpec.plain.varTypes Tryz.prog ++ Tryz.f7.resultTypes.toList).any (Tryz.prog.wideKeysFrom ·)) = true := by kernel_rfl
theorem k18 : Rows.proofClaimsSpec.vars.all (Tryz.prog.varReadable ·) = true := by kernel_rfl
theorem k19 : Tryz.f7.resultTypes.all (fun t => Tryz.prog.readableRec t && decide (t < Tryz.prog.types.size)) = true := by kernel_rfl
theorem k20 : (Rows.proofClaimsRow.ifacesOut == Tryz.f7.resultTypes.toList.any (Tryz.prog.ifacesRec ·)) = true := by kernel_rfl
theorem k21 : (Rows.proofClaimsRow.loopsOut == Tryz.f7.resultTypes.toList.any (Tryz.prog.loopsFrom ·)) = true := by kernel_rfl
theorem k22 : (Rows.proofClaimsRow.plainKeys == Tryz.prog.plainKeys) = true := by kernel_rfl
theorem k23 : Rows.proofClaimsRow.shortTexts.isNone = true := by kernel_rfl
theorem k24 : Tryz.prog.stopsHeard = true := by kernel_rfl
theorem k25 : Tryz.prog.mayEnter = true := by kernel_rfl
theorem k26 : (Rows.proofClaimsRow.lifted == Tryz.prog.liftsFinal) = true := by kernel_rfl
theorem k27 : (Tryz.prog.make == some Rows.proofClaimsRow.make) = true := by kernel_rfl
theorem k28 : (Rows.proofClaimsRow.kinds == (if Rows.proofClaimsRow.domain.isEmpty then [] else Tryz.f7.params.toList.map fun t => match Tryz.prog.underlying t with | some (.int k) => some k | _ => none)) = true := by kernel_rfl
theorem k29 : (Rows.proofClaimsRow.pinned == Rows.proofClaimsRow.pinnedBy) = true := by kernel_rfl
theorem k30 : (Rows.proofClaimsRow.veiled == (Tryz.f7.params.toList ++ Rows.proofClaimsSpec.plain.varTypes Tryz.prog ++ Tryz.f7.resultTypes.toList).any (Tryz.prog.veiledRec ·)) = true := by kernel_rfl
theorem k31 : Rows.proofClaimsRow.veiledFits Tryz.prog Tryz.f7.params.toList (Tryz.f7.params.toList ++ Rows.proofClaimsSpec.plain.varTypes Tryz.prog ++ Tryz.f7.resultTypes.toList) = true := by kernel_rfl
end FactsClaims
end Go.Proofs.YtckdgniecdfedaaGreatDoor
