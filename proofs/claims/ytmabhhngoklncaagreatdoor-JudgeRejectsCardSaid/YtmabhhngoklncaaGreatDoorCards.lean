/-
  DERIVED. GIVEN WITH THE SEED: THE CARDS: each row of YtmabhhngoklncaaGreatDoorRows.lean that lists a variable, with what it lists TIED to the program's text (the seventh form; the later family's looks); each row that meets fmt, with fmt's text TOLD by the authors' own Lean function (tested against real Go, not proved from fmt's source: count such statements apart). THE CARD IS WHAT COUNTS. Prove the row's statement (the work); the ties are given (YtmabhhngoklncaaGreatDoorTie.lean); close each card by the builder's one call (the guide's Derived/Test/ToyasCard.lean, 'card_holds'). Laid BY PROGRAM, IN A SANDBOX (cutbox-door.mjs). By AI agents, Wed Nov 11 2026. No macro, syntax, notation, axiom, sorry.
-/
import Derived.Test.YtmabhhngoklncaaGreatDoorRows
import GoSem.ClaimSeven
namespace Go.Proofs.YtmabhhngoklncaaGreatDoor
namespace Rows

/-- THE TIED CARD OF 'foresightlaw34.JudgeRejects'. -/
def judgeRejectsCard : Claim7 := { stood := { row := judgeRejectsRow, standIns := [], harness := (true, "a6d7522efd51abf6b49df3af2acc2a809812dfd1a762c0897cd4cf75a56f3584"), looks := true }, kinds := [], alts := [], laidByText := true, laidKinds := [.data, .data, .data], laidTests := true, laidLooks := .later }
def JudgeRejectsCardSaid : Prop := Claim7.holds Tryz.pinned (.plain (OpenSpec.ofChange judgeRejectsSpec)) judgeRejectsCard

/-- THE SECOND FORM's CARD OF 'foresightlaw34.JudgeRejects'. -/
def judgeRejectsUptoCard : Claim7 := { stood := { row := judgeRejectsUptoRow, standIns := [], harness := (true, "a6d7522efd51abf6b49df3af2acc2a809812dfd1a762c0897cd4cf75a56f3584"), looks := true }, kinds := [], alts := [], laidByText := true, laidKinds := [.data, .data, .data], laidTests := true, laidLooks := .later }
def JudgeRejectsUptoCardSaid : Prop := Claim7.holds Tryz.pinned (.plain (OpenSpec.upto judgeRejectsSpec)) judgeRejectsUptoCard
end Rows
end Go.Proofs.YtmabhhngoklncaaGreatDoor
