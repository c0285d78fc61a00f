/-
  DERIVED. GIVEN WITH THE SEED: THE CARDS: each row of YtljlfmmhoceihaaDoorRows.lean that lists a variable, with what it lists TIED to the program's text (the seventh form; the later family's looks); each row that meets fmt, with fmt's text TOLD by the authors' own Lean function (tested against real Go, not proved from fmt's source: count such statements apart). THE CARD IS WHAT COUNTS. Prove the row's statement (the work); the ties are given (YtljlfmmhoceihaaDoorTie.lean); close each card by the builder's one call (the guide's Derived/Test/ToyasCard.lean, 'card_holds'). Laid BY PROGRAM, IN A SANDBOX (cutbox-door.mjs). By AI agents, Wed Nov 11 2026. No macro, syntax, notation, axiom, sorry.
-/
import Derived.Test.YtljlfmmhoceihaaDoorRows
import GoSem.ClaimSeven
namespace Go.Proofs.YtljlfmmhoceihaaDoor
namespace Rows

/-- THE TIED CARD OF 'parquetlaw8.OptionTells'. -/
def optionTellsCard : Claim7 := { stood := { row := optionTellsRow, standIns := [], harness := (true, "944e2699118e5f696503b255479cc28092755e0e6c75544220046b590adb6a93"), looks := true }, kinds := [], alts := [], laidByText := true, laidKinds := [.data, .data, .data, .data, .sentinel, .sentinel, .pinned], laidTests := true, laidLooks := .later }
def OptionTellsCardSaid : Prop := Claim7.holds Tryd.pinned (.plain (OpenSpec.ofChange optionTellsSpec)) optionTellsCard

/-- THE TIED CARD OF 'parquetlaw8.OptionBack'. -/
def optionBackCard : Claim7 := { stood := { row := optionBackRow, standIns := [], harness := (true, "944e2699118e5f696503b255479cc28092755e0e6c75544220046b590adb6a93"), looks := true }, kinds := [], alts := [], laidByText := true, laidKinds := [.data, .data, .data, .data, .sentinel, .sentinel, .pinned], laidTests := true, laidLooks := .later }
def OptionBackCardSaid : Prop := Claim7.holds Tryd.pinned (.plain (OpenSpec.ofChange optionBackSpec)) optionBackCard

/-- THE TIED CARD OF 'parquetlaw8.OptionSides'. -/
def optionSidesCard : Claim7 := { stood := { row := optionSidesRow, standIns := [], harness := (true, "944e2699118e5f696503b255479cc28092755e0e6c75544220046b590adb6a93"), looks := true }, kinds := [], alts := [], laidByText := true, laidKinds := [.data, .data, .data, .data, .sentinel, .sentinel, .pinned], laidTests := true, laidLooks := .later }
def OptionSidesCardSaid : Prop := Claim7.holds Tryd.pinned (.plain (OpenSpec.ofChange optionSidesSpec)) optionSidesCard

/-- THE TIED CARD OF 'parquetlaw6.LexTells'. -/
def lexTellsCard : Claim7 := { stood := { row := lexTellsRow, standIns := [], harness := (true, "944e2699118e5f696503b255479cc28092755e0e6c75544220046b590adb6a93"), looks := true }, kinds := [], alts := [], laidByText := true, laidKinds := [.data, .data, .data, .data, .sentinel, .sentinel, .pinned], laidTests := true, laidLooks := .later }
def LexTellsCardSaid : Prop := Claim7.holds Tryd.pinned (.plain (OpenSpec.ofChange lexTellsSpec)) lexTellsCard

/-- THE TIED CARD OF 'parquetlaw6.LexWords'. -/
def lexWordsCard : Claim7 := { stood := { row := lexWordsRow, standIns := [], harness := (true, "944e2699118e5f696503b255479cc28092755e0e6c75544220046b590adb6a93"), looks := true }, kinds := [], alts := [], laidByText := true, laidKinds := [.data, .data, .data, .data, .sentinel, .sentinel, .pinned], laidTests := true, laidLooks := .later }
def LexWordsCardSaid : Prop := Claim7.holds Tryd.pinned (.plain (OpenSpec.ofChange lexWordsSpec)) lexWordsCard

/-- THE TIED CARD OF 'parquetlaw6.LexInts'. -/
def lexIntsCard : Claim7 := { stood := { row := lexIntsRow, standIns := [], harness := (true, "944e2699118e5f696503b255479cc28092755e0e6c75544220046b590adb6a93"), looks := true }, kinds := [], alts := [], laidByText := true, laidKinds := [.data, .data, .data, .data, .sentinel, .sentinel, .pinned], laidTests := true, laidLooks := .later }
def LexIntsCardSaid : Prop := Claim7.holds Tryd.pinned (.plain (OpenSpec.ofChange lexIntsSpec)) lexIntsCard

/-- THE TIED CARD OF 'parquetlaw6.LexEmpty'. -/
def lexEmptyCard : Claim7 := { stood := { row := lexEmptyRow, standIns := [], harness := (true, "944e2699118e5f696503b255479cc28092755e0e6c75544220046b590adb6a93"), looks := true }, kinds := [], alts := [], laidByText := true, laidKinds := [.data, .data, .data, .data, .sentinel, .sentinel, .pinned], laidTests := true, laidLooks := .later }
def LexEmptyCardSaid : Prop := Claim7.holds Tryd.pinned (.plain (OpenSpec.ofChange lexEmptySpec)) lexEmptyCard

/-- THE SECOND FORM's CARD OF 'parquetlaw8.OptionTells'. -/
def optionTellsUptoCard : Claim7 := { stood := { row := optionTellsUptoRow, standIns := [], harness := (true, "944e2699118e5f696503b255479cc28092755e0e6c75544220046b590adb6a93"), looks := true }, kinds := [], alts := [], laidByText := true, laidKinds := [.data, .data, .data, .data, .sentinel, .sentinel, .pinned], laidTests := true, laidLooks := .later }
def OptionTellsUptoCardSaid : Prop := Claim7.holds Tryd.pinned (.plain (OpenSpec.upto optionTellsSpec)) optionTellsUptoCard

/-- THE SECOND FORM's CARD OF 'parquetlaw8.OptionBack'. -/
def optionBackUptoCard : Claim7 := { stood := { row := optionBackUptoRow, standIns := [], harness := (true, "944e2699118e5f696503b255479cc28092755e0e6c75544220046b590adb6a93"), looks := true }, kinds := [], alts := [], laidByText := true, laidKinds := [.data, .data, .data, .data, .sentinel, .sentinel, .pinned], laidTests := true, laidLooks := .later }
def OptionBackUptoCardSaid : Prop := Claim7.holds Tryd.pinned (.plain (OpenSpec.upto optionBackSpec)) optionBackUptoCard

/-- THE SECOND FORM's CARD OF 'parquetlaw8.OptionSides'. -/
def optionSidesUptoCard : Claim7 := { stood := { row := optionSidesUptoRow, standIns := [], harness := (true, "944e2699118e5f696503b255479cc28092755e0e6c75544220046b590adb6a93"), looks := true }, kinds := [], alts := [], laidByText := true, laidKinds := [.data, .data, .data, .data, .sentinel, .sentinel, .pinned], laidTests := true, laidLooks := .later }
def OptionSidesUptoCardSaid : Prop := Claim7.holds Tryd.pinned (.plain (OpenSpec.upto optionSidesSpec)) optionSidesUptoCard

/-- THE SECOND FORM's CARD OF 'parquetlaw6.LexTells'. -/
def lexTellsUptoCard : Claim7 := { stood := { row := lexTellsUptoRow, standIns := [], harness := (true, "944e2699118e5f696503b255479cc28092755e0e6c75544220046b590adb6a93"), looks := true }, kinds := [], alts := [], laidByText := true, laidKinds := [.data, .data, .data, .data, .sentinel, .sentinel, .pinned], laidTests := true, laidLooks := .later }
def LexTellsUptoCardSaid : Prop := Claim7.holds Tryd.pinned (.plain (OpenSpec.upto lexTellsSpec)) lexTellsUptoCard

/-- THE SECOND FORM's CARD OF 'parquetlaw6.LexWords'. -/
def lexWordsUptoCard : Claim7 := { stood := { row := lexWordsUptoRow, standIns := [], harness := (true, "944e2699118e5f696503b255479cc28092755e0e6c75544220046b590adb6a93"), looks := true }, kinds := [], alts := [], laidByText := true, laidKinds := [.data, .data, .data, .data, .sentinel, .sentinel, .pinned], laidTests := true, laidLooks := .later }
def LexWordsUptoCardSaid : Prop := Claim7.holds Tryd.pinned (.plain (OpenSpec.upto lexWordsSpec)) lexWordsUptoCard

/-- THE SECOND FORM's CARD OF 'parquetlaw6.LexInts'. -/
def lexIntsUptoCard : Claim7 := { stood := { row := lexIntsUptoRow, standIns := [], harness := (true, "944e2699118e5f696503b255479cc28092755e0e6c75544220046b590adb6a93"), looks := true }, kinds := [], alts := [], laidByText := true, laidKinds := [.data, .data, .data, .data, .sentinel, .sentinel, .pinned], laidTests := true, laidLooks := .later }
def LexIntsUptoCardSaid : Prop := Claim7.holds Tryd.pinned (.plain (OpenSpec.upto lexIntsSpec)) lexIntsUptoCard

/-- THE SECOND FORM's CARD OF 'parquetlaw6.LexEmpty'. -/
def lexEmptyUptoCard : Claim7 := { stood := { row := lexEmptyUptoRow, standIns := [], harness := (true, "944e2699118e5f696503b255479cc28092755e0e6c75544220046b590adb6a93"), looks := true }, kinds := [], alts := [], laidByText := true, laidKinds := [.data, .data, .data, .data, .sentinel, .sentinel, .pinned], laidTests := true, laidLooks := .later }
def LexEmptyUptoCardSaid : Prop := Claim7.holds Tryd.pinned (.plain (OpenSpec.upto lexEmptySpec)) lexEmptyUptoCard
end Rows
end Go.Proofs.YtljlfmmhoceihaaDoor
