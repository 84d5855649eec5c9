/-
  DERIVED. GIVEN WITH THE SEED: THE CARDS: each row of YtckdgniecdfedaaGreatDoorRows.lean that lists a variable, with what it lists TIED to the program's text (the seventh form; the later family's looks); each row that meets fmt, with fmt's text TOLD by the authors' own Lean function (tested against real Go, not proved from fmt's source: count such statements apart). THE CARD IS WHAT COUNTS. Prove the row's statement (the work); the ties are given (YtckdgniecdfedaaGreatDoorTie.lean); close each card by the builder's one call (the guide's Derived/Test/ToyasCard.lean, 'card_holds'). Laid BY PROGRAM, IN A SANDBOX (cutbox-door.mjs). By AI agents, Wed Nov 11 2026. No macro, syntax, notation, axiom, sorry.
-/
import Derived.Test.YtckdgniecdfedaaGreatDoorRows
import GoSem.ClaimSeven
namespace Go.Proofs.YtckdgniecdfedaaGreatDoor
namespace Rows

/-- THE TIED CARD OF 'foresightlaw33.ProofSeal'. -/
def proofSealCard : Claim7 := { stood := { row := proofSealRow, standIns := [], harness := (true, "249fcd303dd529fbe68e2e9d828324d00e931214725586ebcb8e2fb956e74717"), looks := false }, kinds := [], alts := [], laidByText := true, laidKinds := [.data, .data, .data, .data, .data, .data, .pinned], laidTests := true, laidLooks := .later }
def ProofSealCardSaid : Prop := Claim7.holds Tryz.pinned (.plain (OpenSpec.ofChange proofSealSpec)) proofSealCard

/-- THE TIED CARD OF 'foresightlaw33.ProofTexts'. -/
def proofTextsCard : Claim7 := { stood := { row := proofTextsRow, standIns := [], harness := (true, "249fcd303dd529fbe68e2e9d828324d00e931214725586ebcb8e2fb956e74717"), looks := false }, kinds := [], alts := [], laidByText := true, laidKinds := [.data, .data, .data, .data, .data, .data, .pinned], laidTests := true, laidLooks := .later }
def ProofTextsCardSaid : Prop := Claim7.holds Tryz.pinned (.plain (OpenSpec.ofChange proofTextsSpec)) proofTextsCard

/-- THE TIED CARD OF 'foresightlaw33.ProofRegions'. -/
def proofRegionsCard : Claim7 := { stood := { row := proofRegionsRow, standIns := [], harness := (true, "249fcd303dd529fbe68e2e9d828324d00e931214725586ebcb8e2fb956e74717"), looks := false }, kinds := [], alts := [], laidByText := true, laidKinds := [.data, .data, .data, .data, .data, .data, .pinned], laidTests := true, laidLooks := .later }
def ProofRegionsCardSaid : Prop := Claim7.holds Tryz.pinned (.plain (OpenSpec.ofChange proofRegionsSpec)) proofRegionsCard

/-- THE TIED CARD OF 'foresightlaw33.ProofResiduals'. -/
def proofResidualsCard : Claim7 := { stood := { row := proofResidualsRow, standIns := [], harness := (true, "249fcd303dd529fbe68e2e9d828324d00e931214725586ebcb8e2fb956e74717"), looks := false }, kinds := [], alts := [], laidByText := true, laidKinds := [.data, .data, .data, .data, .data, .data, .pinned], laidTests := true, laidLooks := .later }
def ProofResidualsCardSaid : Prop := Claim7.holds Tryz.pinned (.plain (OpenSpec.ofChange proofResidualsSpec)) proofResidualsCard

/-- THE TIED CARD OF 'foresightlaw33.ProofClaims'. -/
def proofClaimsCard : Claim7 := { stood := { row := proofClaimsRow, standIns := [], harness := (true, "249fcd303dd529fbe68e2e9d828324d00e931214725586ebcb8e2fb956e74717"), looks := false }, kinds := [], alts := [], laidByText := true, laidKinds := [.data, .data, .data, .data, .data, .data, .pinned], laidTests := true, laidLooks := .later }
def ProofClaimsCardSaid : Prop := Claim7.holds Tryz.pinned (.plain (OpenSpec.ofChange proofClaimsSpec)) proofClaimsCard

/-- THE SECOND FORM's CARD OF 'foresightlaw33.ProofSeal'. -/
def proofSealUptoCard : Claim7 := { stood := { row := proofSealUptoRow, standIns := [], harness := (true, "249fcd303dd529fbe68e2e9d828324d00e931214725586ebcb8e2fb956e74717"), looks := false }, kinds := [], alts := [], laidByText := true, laidKinds := [.data, .data, .data, .data, .data, .data, .pinned], laidTests := true, laidLooks := .later }
def ProofSealUptoCardSaid : Prop := Claim7.holds Tryz.pinned (.plain (OpenSpec.upto proofSealSpec)) proofSealUptoCard

/-- THE SECOND FORM's CARD OF 'foresightlaw33.ProofTexts'. -/
def proofTextsUptoCard : Claim7 := { stood := { row := proofTextsUptoRow, standIns := [], harness := (true, "249fcd303dd529fbe68e2e9d828324d00e931214725586ebcb8e2fb956e74717"), looks := false }, kinds := [], alts := [], laidByText := true, laidKinds := [.data, .data, .data, .data, .data, .data, .pinned], laidTests := true, laidLooks := .later }
def ProofTextsUptoCardSaid : Prop := Claim7.holds Tryz.pinned (.plain (OpenSpec.upto proofTextsSpec)) proofTextsUptoCard

/-- THE SECOND FORM's CARD OF 'foresightlaw33.ProofRegions'. -/
def proofRegionsUptoCard : Claim7 := { stood := { row := proofRegionsUptoRow, standIns := [], harness := (true, "249fcd303dd529fbe68e2e9d828324d00e931214725586ebcb8e2fb956e74717"), looks := false }, kinds := [], alts := [], laidByText := true, laidKinds := [.data, .data, .data, .data, .data, .data, .pinned], laidTests := true, laidLooks := .later }
def ProofRegionsUptoCardSaid : Prop := Claim7.holds Tryz.pinned (.plain (OpenSpec.upto proofRegionsSpec)) proofRegionsUptoCard

/-- THE SECOND FORM's CARD OF 'foresightlaw33.ProofResiduals'. -/
def proofResidualsUptoCard : Claim7 := { stood := { row := proofResidualsUptoRow, standIns := [], harness := (true, "249fcd303dd529fbe68e2e9d828324d00e931214725586ebcb8e2fb956e74717"), looks := false }, kinds := [], alts := [], laidByText := true, laidKinds := [.data, .data, .data, .data, .data, .data, .pinned], laidTests := true, laidLooks := .later }
def ProofResidualsUptoCardSaid : Prop := Claim7.holds Tryz.pinned (.plain (OpenSpec.upto proofResidualsSpec)) proofResidualsUptoCard

/-- THE SECOND FORM's CARD OF 'foresightlaw33.ProofClaims'. -/
def proofClaimsUptoCard : Claim7 := { stood := { row := proofClaimsUptoRow, standIns := [], harness := (true, "249fcd303dd529fbe68e2e9d828324d00e931214725586ebcb8e2fb956e74717"), looks := false }, kinds := [], alts := [], laidByText := true, laidKinds := [.data, .data, .data, .data, .data, .data, .pinned], laidTests := true, laidLooks := .later }
def ProofClaimsUptoCardSaid : Prop := Claim7.holds Tryz.pinned (.plain (OpenSpec.upto proofClaimsSpec)) proofClaimsUptoCard
end Rows
end Go.Proofs.YtckdgniecdfedaaGreatDoor
