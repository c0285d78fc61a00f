/-
  DERIVED. GIVEN WITH THE SEED: THE CARDS: each row of YtokgbcachcmeaaaGreatDoorRows.lean that lists a variable, with what it lists TIED to the program's text (the seventh form; the later family's looks); each row that meets fmt, with fmt's text TOLD by the authors' own Lean function (tested against real Go, not proved from fmt's source: count such statements apart). THE CARD IS WHAT COUNTS. Prove the row's statement (the work); the ties are given (YtokgbcachcmeaaaGreatDoorTie.lean); close each card by the builder's one call (the guide's Derived/Test/ToyasCard.lean, 'card_holds'). Laid BY PROGRAM, IN A SANDBOX (cutbox-door.mjs). By AI agents, Wed Nov 11 2026. No macro, syntax, notation, axiom, sorry.
-/
import Derived.Test.YtokgbcachcmeaaaGreatDoorRows
import GoSem.ClaimSeven
namespace Go.Proofs.YtokgbcachcmeaaaGreatDoor
namespace Rows

/-- THE TIED CARD OF 'parquetlaw25.StatRights'. -/
def statRightsCard : Claim7 := { stood := { row := statRightsRow, standIns := [], harness := (true, "58813e79c95687c23a5d25c5543df04e62a65bc26ef212685deceb0029f1b8ce"), looks := false }, kinds := [], alts := [], laidByText := true, laidKinds := [.data, .data, .data], laidTests := true, laidLooks := .later }
def StatRightsCardSaid : Prop := Claim7.holds Tryz.pinned (.plain (OpenSpec.ofChange statRightsSpec)) statRightsCard

/-- THE SECOND FORM's CARD OF 'parquetlaw25.StatRights'. -/
def statRightsUptoCard : Claim7 := { stood := { row := statRightsUptoRow, standIns := [], harness := (true, "58813e79c95687c23a5d25c5543df04e62a65bc26ef212685deceb0029f1b8ce"), looks := false }, kinds := [], alts := [], laidByText := true, laidKinds := [.data, .data, .data], laidTests := true, laidLooks := .later }
def StatRightsUptoCardSaid : Prop := Claim7.holds Tryz.pinned (.plain (OpenSpec.upto statRightsSpec)) statRightsUptoCard
end Rows
end Go.Proofs.YtokgbcachcmeaaaGreatDoor
