/-
  DERIVED. GIVEN WITH THE SEED: THE CARDS: each row of YtocfjbopkgmjkaaDoorRows.lean that lists a variable, with what it lists TIED to the program's text (the seventh form; the later family's looks); each row that meets fmt, with fmt's text TOLD by the authors' own Lean function (tested against real Go, not proved from fmt's source: count such statements apart). THE CARD IS WHAT COUNTS. Prove the row's statement (the work); the ties are given (YtocfjbopkgmjkaaDoorTie.lean); close each card by the builder's one call (the guide's Derived/Test/ToyasCard.lean, 'card_holds'). Laid BY PROGRAM, IN A SANDBOX (cutbox-door.mjs). By AI agents, Wed Nov 11 2026. No macro, syntax, notation, axiom, sorry.
-/
import Derived.Test.YtocfjbopkgmjkaaDoorRows
import GoSem.ClaimSeven
namespace Go.Proofs.YtocfjbopkgmjkaaDoor
namespace Rows

/-- THE TIED CARD OF 'gavottelaw7.IdentTells'. -/
def identTellsCard : Claim7 := { stood := { row := identTellsRow, standIns := [], harness := (true, "f8b726c290eef7189ce230539c60ec6989d3bdb752a2347dea0d9e282a280159"), looks := true }, kinds := [], alts := [], laidByText := true, laidKinds := [.data, .data, .data, .data, .sentinel, .sentinel, .pinned], laidTests := true, laidLooks := .later }
def IdentTellsCardSaid : Prop := Claim7.holds Tryd.pinned (.plain (OpenSpec.ofChange identTellsSpec)) identTellsCard

/-- THE TIED CARD OF 'gavottelaw7.IdentBack'. -/
def identBackCard : Claim7 := { stood := { row := identBackRow, standIns := [], harness := (true, "f8b726c290eef7189ce230539c60ec6989d3bdb752a2347dea0d9e282a280159"), looks := true }, kinds := [], alts := [], laidByText := true, laidKinds := [.data, .data, .data, .data, .sentinel, .sentinel, .pinned], laidTests := true, laidLooks := .later }
def IdentBackCardSaid : Prop := Claim7.holds Tryd.pinned (.plain (OpenSpec.ofChange identBackSpec)) identBackCard

/-- THE TIED CARD OF 'gavottelaw7.IdentOrder'. -/
def identOrderCard : Claim7 := { stood := { row := identOrderRow, standIns := [], harness := (true, "f8b726c290eef7189ce230539c60ec6989d3bdb752a2347dea0d9e282a280159"), looks := true }, kinds := [], alts := [], laidByText := true, laidKinds := [.data, .data, .data, .data, .sentinel, .sentinel, .pinned], laidTests := true, laidLooks := .later }
def IdentOrderCardSaid : Prop := Claim7.holds Tryd.pinned (.plain (OpenSpec.ofChange identOrderSpec)) identOrderCard

/-- THE TIED CARD OF 'gavottelaw7.IdentNames'. -/
def identNamesCard : Claim7 := { stood := { row := identNamesRow, standIns := [], harness := (true, "f8b726c290eef7189ce230539c60ec6989d3bdb752a2347dea0d9e282a280159"), looks := true }, kinds := [], alts := [], laidByText := true, laidKinds := [.data, .data, .data, .data, .sentinel, .sentinel, .pinned], laidTests := true, laidLooks := .later }
def IdentNamesCardSaid : Prop := Claim7.holds Tryd.pinned (.plain (OpenSpec.ofChange identNamesSpec)) identNamesCard

/-- THE TIED CARD OF 'gavottelaw7.IdentKinds'. -/
def identKindsCard : Claim7 := { stood := { row := identKindsRow, standIns := [], harness := (true, "f8b726c290eef7189ce230539c60ec6989d3bdb752a2347dea0d9e282a280159"), looks := true }, kinds := [], alts := [], laidByText := true, laidKinds := [.data, .data, .data, .data, .sentinel, .sentinel, .pinned], laidTests := true, laidLooks := .later }
def IdentKindsCardSaid : Prop := Claim7.holds Tryd.pinned (.plain (OpenSpec.ofChange identKindsSpec)) identKindsCard

/-- THE TIED CARD OF 'gavottelaw5.AsmTells'. -/
def asmTellsCard : Claim7 := { stood := { row := asmTellsRow, standIns := [], harness := (true, "f8b726c290eef7189ce230539c60ec6989d3bdb752a2347dea0d9e282a280159"), looks := true }, kinds := [], alts := [], laidByText := true, laidKinds := [.data, .data, .data, .sentinel, .sentinel, .listed, .data], laidTests := true, laidLooks := .later }
def AsmTellsCardSaid : Prop := Claim7.holds Tryd.pinned (.plain (OpenSpec.ofChange asmTellsSpec)) asmTellsCard

/-- THE TIED CARD OF 'gavottelaw5.AsmBack'. -/
def asmBackCard : Claim7 := { stood := { row := asmBackRow, standIns := [], harness := (true, "f8b726c290eef7189ce230539c60ec6989d3bdb752a2347dea0d9e282a280159"), looks := true }, kinds := [], alts := [], laidByText := true, laidKinds := [.data, .data, .data, .sentinel, .sentinel, .listed, .data], laidTests := true, laidLooks := .later }
def AsmBackCardSaid : Prop := Claim7.holds Tryd.pinned (.plain (OpenSpec.ofChange asmBackSpec)) asmBackCard

/-- THE TIED CARD OF 'gavottelaw5.AsmLines'. -/
def asmLinesCard : Claim7 := { stood := { row := asmLinesRow, standIns := [], harness := (true, "f8b726c290eef7189ce230539c60ec6989d3bdb752a2347dea0d9e282a280159"), looks := true }, kinds := [], alts := [], laidByText := true, laidKinds := [.data, .data, .data, .sentinel, .sentinel, .listed, .data], laidTests := true, laidLooks := .later }
def AsmLinesCardSaid : Prop := Claim7.holds Tryd.pinned (.plain (OpenSpec.ofChange asmLinesSpec)) asmLinesCard

/-- THE TIED CARD OF 'gavottelaw5.AsmOps'. -/
def asmOpsCard : Claim7 := { stood := { row := asmOpsRow, standIns := [], harness := (true, "f8b726c290eef7189ce230539c60ec6989d3bdb752a2347dea0d9e282a280159"), looks := true }, kinds := [], alts := [], laidByText := true, laidKinds := [.data, .data, .data, .sentinel, .sentinel, .listed, .data], laidTests := true, laidLooks := .later }
def AsmOpsCardSaid : Prop := Claim7.holds Tryd.pinned (.plain (OpenSpec.ofChange asmOpsSpec)) asmOpsCard

/-- THE SECOND FORM's CARD OF 'gavottelaw7.IdentTells'. -/
def identTellsUptoCard : Claim7 := { stood := { row := identTellsUptoRow, standIns := [], harness := (true, "f8b726c290eef7189ce230539c60ec6989d3bdb752a2347dea0d9e282a280159"), looks := true }, kinds := [], alts := [], laidByText := true, laidKinds := [.data, .data, .data, .data, .sentinel, .sentinel, .pinned], laidTests := true, laidLooks := .later }
def IdentTellsUptoCardSaid : Prop := Claim7.holds Tryd.pinned (.plain (OpenSpec.upto identTellsSpec)) identTellsUptoCard

/-- THE SECOND FORM's CARD OF 'gavottelaw7.IdentBack'. -/
def identBackUptoCard : Claim7 := { stood := { row := identBackUptoRow, standIns := [], harness := (true, "f8b726c290eef7189ce230539c60ec6989d3bdb752a2347dea0d9e282a280159"), looks := true }, kinds := [], alts := [], laidByText := true, laidKinds := [.data, .data, .data, .data, .sentinel, .sentinel, .pinned], laidTests := true, laidLooks := .later }
def IdentBackUptoCardSaid : Prop := Claim7.holds Tryd.pinned (.plain (OpenSpec.upto identBackSpec)) identBackUptoCard

/-- THE SECOND FORM's CARD OF 'gavottelaw7.IdentOrder'. -/
def identOrderUptoCard : Claim7 := { stood := { row := identOrderUptoRow, standIns := [], harness := (true, "f8b726c290eef7189ce230539c60ec6989d3bdb752a2347dea0d9e282a280159"), looks := true }, kinds := [], alts := [], laidByText := true, laidKinds := [.data, .data, .data, .data, .sentinel, .sentinel, .pinned], laidTests := true, laidLooks := .later }
def IdentOrderUptoCardSaid : Prop := Claim7.holds Tryd.pinned (.plain (OpenSpec.upto identOrderSpec)) identOrderUptoCard

/-- THE SECOND FORM's CARD OF 'gavottelaw7.IdentNames'. -/
def identNamesUptoCard : Claim7 := { stood := { row := identNamesUptoRow, standIns := [], harness := (true, "f8b726c290eef7189ce230539c60ec6989d3bdb752a2347dea0d9e282a280159"), looks := true }, kinds := [], alts := [], laidByText := true, laidKinds := [.data, .data, .data, .data, .sentinel, .sentinel, .pinned], laidTests := true, laidLooks := .later }
def IdentNamesUptoCardSaid : Prop := Claim7.holds Tryd.pinned (.plain (OpenSpec.upto identNamesSpec)) identNamesUptoCard

/-- THE SECOND FORM's CARD OF 'gavottelaw7.IdentKinds'. -/
def identKindsUptoCard : Claim7 := { stood := { row := identKindsUptoRow, standIns := [], harness := (true, "f8b726c290eef7189ce230539c60ec6989d3bdb752a2347dea0d9e282a280159"), looks := true }, kinds := [], alts := [], laidByText := true, laidKinds := [.data, .data, .data, .data, .sentinel, .sentinel, .pinned], laidTests := true, laidLooks := .later }
def IdentKindsUptoCardSaid : Prop := Claim7.holds Tryd.pinned (.plain (OpenSpec.upto identKindsSpec)) identKindsUptoCard

/-- THE SECOND FORM's CARD OF 'gavottelaw5.AsmTells'. -/
def asmTellsUptoCard : Claim7 := { stood := { row := asmTellsUptoRow, standIns := [], harness := (true, "f8b726c290eef7189ce230539c60ec6989d3bdb752a2347dea0d9e282a280159"), looks := true }, kinds := [], alts := [], laidByText := true, laidKinds := [.data, .data, .data, .sentinel, .sentinel, .listed, .data], laidTests := true, laidLooks := .later }
def AsmTellsUptoCardSaid : Prop := Claim7.holds Tryd.pinned (.plain (OpenSpec.upto asmTellsSpec)) asmTellsUptoCard

/-- THE SECOND FORM's CARD OF 'gavottelaw5.AsmBack'. -/
def asmBackUptoCard : Claim7 := { stood := { row := asmBackUptoRow, standIns := [], harness := (true, "f8b726c290eef7189ce230539c60ec6989d3bdb752a2347dea0d9e282a280159"), looks := true }, kinds := [], alts := [], laidByText := true, laidKinds := [.data, .data, .data, .sentinel, .sentinel, .listed, .data], laidTests := true, laidLooks := .later }
def AsmBackUptoCardSaid : Prop := Claim7.holds Tryd.pinned (.plain (OpenSpec.upto asmBackSpec)) asmBackUptoCard

/-- THE SECOND FORM's CARD OF 'gavottelaw5.AsmLines'. -/
def asmLinesUptoCard : Claim7 := { stood := { row := asmLinesUptoRow, standIns := [], harness := (true, "f8b726c290eef7189ce230539c60ec6989d3bdb752a2347dea0d9e282a280159"), looks := true }, kinds := [], alts := [], laidByText := true, laidKinds := [.data, .data, .data, .sentinel, .sentinel, .listed, .data], laidTests := true, laidLooks := .later }
def AsmLinesUptoCardSaid : Prop := Claim7.holds Tryd.pinned (.plain (OpenSpec.upto asmLinesSpec)) asmLinesUptoCard

/-- THE SECOND FORM's CARD OF 'gavottelaw5.AsmOps'. -/
def asmOpsUptoCard : Claim7 := { stood := { row := asmOpsUptoRow, standIns := [], harness := (true, "f8b726c290eef7189ce230539c60ec6989d3bdb752a2347dea0d9e282a280159"), looks := true }, kinds := [], alts := [], laidByText := true, laidKinds := [.data, .data, .data, .sentinel, .sentinel, .listed, .data], laidTests := true, laidLooks := .later }
def AsmOpsUptoCardSaid : Prop := Claim7.holds Tryd.pinned (.plain (OpenSpec.upto asmOpsSpec)) asmOpsUptoCard
end Rows
end Go.Proofs.YtocfjbopkgmjkaaDoor
