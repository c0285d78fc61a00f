/-
  DERIVED. GIVEN WITH THE SEED: THE CARDS: each row of YtbkfakkkikmcbaaGreatDoorRows.lean that lists a variable, with what it lists TIED to the program's text (the seventh form; the later family's looks); each row that meets fmt, with fmt's text TOLD by the authors' own Lean function (tested against real Go, not proved from fmt's source: count such statements apart). THE CARD IS WHAT COUNTS. Prove the row's statement (the work); the ties are given (YtbkfakkkikmcbaaGreatDoorTie.lean); close each card by the builder's one call (the guide's Derived/Test/ToyasCard.lean, 'card_holds'). Laid BY PROGRAM, IN A SANDBOX (cutbox-door.mjs). By AI agents, Wed Nov 11 2026. No macro, syntax, notation, axiom, sorry.
-/
import Derived.Test.YtbkfakkkikmcbaaGreatDoorRows
import GoSem.ClaimSeven
namespace Go.Proofs.YtbkfakkkikmcbaaGreatDoor
namespace Rows

/-- THE TIED CARD OF 'parquetlaw27.WriteBack'. -/
def writeBackCard : Claim7 := { stood := { row := writeBackRow, standIns := [], harness := (true, "4d53416becfb9e132633543e8ad73562fca8f2347f232a725cda40bed8e4ee54"), looks := true }, kinds := [], alts := [], laidByText := true, laidKinds := [.data, .data, .data, .data, .sentinel, .sentinel, .pinned], laidTests := true, laidLooks := .later }
def WriteBackCardSaid : Prop := Claim7.holds Tryz.pinned (.plain (OpenSpec.ofChange writeBackSpec)) writeBackCard

/-- THE TIED CARD OF 'parquetlaw27.WriteNear'. -/
def writeNearCard : Claim7 := { stood := { row := writeNearRow, standIns := [], harness := (true, "4d53416becfb9e132633543e8ad73562fca8f2347f232a725cda40bed8e4ee54"), looks := true }, kinds := [], alts := [], laidByText := true, laidKinds := [.data, .data, .data, .data, .sentinel, .sentinel, .pinned], laidTests := true, laidLooks := .later }
def WriteNearCardSaid : Prop := Claim7.holds Tryz.pinned (.plain (OpenSpec.ofChange writeNearSpec)) writeNearCard

/-- THE TIED CARD OF 'parquetlaw7.PolyBack'. -/
def polyBackCard : Claim7 := { stood := { row := polyBackRow, standIns := [], harness := (true, "4d53416becfb9e132633543e8ad73562fca8f2347f232a725cda40bed8e4ee54"), looks := true }, kinds := [], alts := [], laidByText := true, laidKinds := [.data, .data, .data, .data, .sentinel, .sentinel, .pinned], laidTests := true, laidLooks := .later }
def PolyBackCardSaid : Prop := Claim7.holds Tryz.pinned (.plain (OpenSpec.ofChange polyBackSpec)) polyBackCard

/-- THE TIED CARD OF 'parquetlaw7.PolyNumbers'. -/
def polyNumbersCard : Claim7 := { stood := { row := polyNumbersRow, standIns := [], harness := (true, "4d53416becfb9e132633543e8ad73562fca8f2347f232a725cda40bed8e4ee54"), looks := true }, kinds := [], alts := [], laidByText := true, laidKinds := [.data, .data, .data, .data, .sentinel, .sentinel, .pinned], laidTests := true, laidLooks := .later }
def PolyNumbersCardSaid : Prop := Claim7.holds Tryz.pinned (.plain (OpenSpec.ofChange polyNumbersSpec)) polyNumbersCard

/-- THE TIED CARD OF 'parquetlaw7.PolyBlanks'. -/
def polyBlanksCard : Claim7 := { stood := { row := polyBlanksRow, standIns := [], harness := (true, "4d53416becfb9e132633543e8ad73562fca8f2347f232a725cda40bed8e4ee54"), looks := true }, kinds := [], alts := [], laidByText := true, laidKinds := [.data, .data, .data, .data, .sentinel, .sentinel, .pinned], laidTests := true, laidLooks := .later }
def PolyBlanksCardSaid : Prop := Claim7.holds Tryz.pinned (.plain (OpenSpec.ofChange polyBlanksSpec)) polyBlanksCard

/-- THE SECOND FORM's CARD OF 'parquetlaw27.WriteBack'. -/
def writeBackUptoCard : Claim7 := { stood := { row := writeBackUptoRow, standIns := [], harness := (true, "4d53416becfb9e132633543e8ad73562fca8f2347f232a725cda40bed8e4ee54"), looks := true }, kinds := [], alts := [], laidByText := true, laidKinds := [.data, .data, .data, .data, .sentinel, .sentinel, .pinned], laidTests := true, laidLooks := .later }
def WriteBackUptoCardSaid : Prop := Claim7.holds Tryz.pinned (.plain (OpenSpec.upto writeBackSpec)) writeBackUptoCard

/-- THE SECOND FORM's CARD OF 'parquetlaw27.WriteNear'. -/
def writeNearUptoCard : Claim7 := { stood := { row := writeNearUptoRow, standIns := [], harness := (true, "4d53416becfb9e132633543e8ad73562fca8f2347f232a725cda40bed8e4ee54"), looks := true }, kinds := [], alts := [], laidByText := true, laidKinds := [.data, .data, .data, .data, .sentinel, .sentinel, .pinned], laidTests := true, laidLooks := .later }
def WriteNearUptoCardSaid : Prop := Claim7.holds Tryz.pinned (.plain (OpenSpec.upto writeNearSpec)) writeNearUptoCard

/-- THE SECOND FORM's CARD OF 'parquetlaw7.PolyBack'. -/
def polyBackUptoCard : Claim7 := { stood := { row := polyBackUptoRow, standIns := [], harness := (true, "4d53416becfb9e132633543e8ad73562fca8f2347f232a725cda40bed8e4ee54"), looks := true }, kinds := [], alts := [], laidByText := true, laidKinds := [.data, .data, .data, .data, .sentinel, .sentinel, .pinned], laidTests := true, laidLooks := .later }
def PolyBackUptoCardSaid : Prop := Claim7.holds Tryz.pinned (.plain (OpenSpec.upto polyBackSpec)) polyBackUptoCard

/-- THE SECOND FORM's CARD OF 'parquetlaw7.PolyNumbers'. -/
def polyNumbersUptoCard : Claim7 := { stood := { row := polyNumbersUptoRow, standIns := [], harness := (true, "4d53416becfb9e132633543e8ad73562fca8f2347f232a725cda40bed8e4ee54"), looks := true }, kinds := [], alts := [], laidByText := true, laidKinds := [.data, .data, .data, .data, .sentinel, .sentinel, .pinned], laidTests := true, laidLooks := .later }
def PolyNumbersUptoCardSaid : Prop := Claim7.holds Tryz.pinned (.plain (OpenSpec.upto polyNumbersSpec)) polyNumbersUptoCard

/-- THE SECOND FORM's CARD OF 'parquetlaw7.PolyBlanks'. -/
def polyBlanksUptoCard : Claim7 := { stood := { row := polyBlanksUptoRow, standIns := [], harness := (true, "4d53416becfb9e132633543e8ad73562fca8f2347f232a725cda40bed8e4ee54"), looks := true }, kinds := [], alts := [], laidByText := true, laidKinds := [.data, .data, .data, .data, .sentinel, .sentinel, .pinned], laidTests := true, laidLooks := .later }
def PolyBlanksUptoCardSaid : Prop := Claim7.holds Tryz.pinned (.plain (OpenSpec.upto polyBlanksSpec)) polyBlanksUptoCard
end Rows
end Go.Proofs.YtbkfakkkikmcbaaGreatDoor
