/-
  DERIVED. GIVEN WITH THE SEED: THE CARDS: each row of YtonlbhhmeepmmaaDoorRows.lean that lists a variable, with what it lists TIED to the program's text (the seventh form; the later family's looks); each row that meets fmt, with fmt's text TOLD by the authors' own Lean function (tested against real Go, not proved from fmt's source: count such statements apart). THE CARD IS WHAT COUNTS. Prove the row's statement (the work); the ties are given (YtonlbhhmeepmmaaDoorTie.lean); close each card by the builder's one call (the guide's Derived/Test/ToyasCard.lean, 'card_holds'). Laid BY PROGRAM, IN A SANDBOX (cutbox-door.mjs). By AI agents, Wed Nov 11 2026. No macro, syntax, notation, axiom, sorry.
-/
import Derived.Test.YtonlbhhmeepmmaaDoorRows
import GoSem.ClaimSeven
namespace Go.Proofs.YtonlbhhmeepmmaaDoor
namespace Rows

/-- THE TIED CARD OF 'gavottelaw1.OpsTell'. -/
def opsTellCard : Claim7 := { stood := { row := opsTellRow, standIns := [], harness := (true, "3e2d9ed18818c0abd2dc6637d59905ded169a428ff5574d96a842d68ee2e16d3"), looks := false }, kinds := [], alts := [], laidByText := true, laidKinds := [.listed, .data], laidTests := true, laidLooks := .later }
def OpsTellCardSaid : Prop := Claim7.holds Tryd.pinned (.plain (OpenSpec.ofChange opsTellSpec)) opsTellCard

/-- THE TIED CARD OF 'gavottelaw1.OpsNames'. -/
def opsNamesCard : Claim7 := { stood := { row := opsNamesRow, standIns := [], harness := (true, "3e2d9ed18818c0abd2dc6637d59905ded169a428ff5574d96a842d68ee2e16d3"), looks := false }, kinds := [], alts := [], laidByText := true, laidKinds := [.listed, .data], laidTests := true, laidLooks := .later }
def OpsNamesCardSaid : Prop := Claim7.holds Tryd.pinned (.plain (OpenSpec.ofChange opsNamesSpec)) opsNamesCard

/-- THE TIED CARD OF 'gavottelaw1.OpsBalance'. -/
def opsBalanceCard : Claim7 := { stood := { row := opsBalanceRow, standIns := [], harness := (true, "3e2d9ed18818c0abd2dc6637d59905ded169a428ff5574d96a842d68ee2e16d3"), looks := false }, kinds := [], alts := [], laidByText := true, laidKinds := [.listed, .data], laidTests := true, laidLooks := .later }
def OpsBalanceCardSaid : Prop := Claim7.holds Tryd.pinned (.plain (OpenSpec.ofChange opsBalanceSpec)) opsBalanceCard

/-- THE SECOND FORM's CARD OF 'gavottelaw1.OpsTell'. -/
def opsTellUptoCard : Claim7 := { stood := { row := opsTellUptoRow, standIns := [], harness := (true, "3e2d9ed18818c0abd2dc6637d59905ded169a428ff5574d96a842d68ee2e16d3"), looks := false }, kinds := [], alts := [], laidByText := true, laidKinds := [.listed, .data], laidTests := true, laidLooks := .later }
def OpsTellUptoCardSaid : Prop := Claim7.holds Tryd.pinned (.plain (OpenSpec.upto opsTellSpec)) opsTellUptoCard

/-- THE SECOND FORM's CARD OF 'gavottelaw1.OpsNames'. -/
def opsNamesUptoCard : Claim7 := { stood := { row := opsNamesUptoRow, standIns := [], harness := (true, "3e2d9ed18818c0abd2dc6637d59905ded169a428ff5574d96a842d68ee2e16d3"), looks := false }, kinds := [], alts := [], laidByText := true, laidKinds := [.listed, .data], laidTests := true, laidLooks := .later }
def OpsNamesUptoCardSaid : Prop := Claim7.holds Tryd.pinned (.plain (OpenSpec.upto opsNamesSpec)) opsNamesUptoCard

/-- THE SECOND FORM's CARD OF 'gavottelaw1.OpsBalance'. -/
def opsBalanceUptoCard : Claim7 := { stood := { row := opsBalanceUptoRow, standIns := [], harness := (true, "3e2d9ed18818c0abd2dc6637d59905ded169a428ff5574d96a842d68ee2e16d3"), looks := false }, kinds := [], alts := [], laidByText := true, laidKinds := [.listed, .data], laidTests := true, laidLooks := .later }
def OpsBalanceUptoCardSaid : Prop := Claim7.holds Tryd.pinned (.plain (OpenSpec.upto opsBalanceSpec)) opsBalanceUptoCard
end Rows
end Go.Proofs.YtonlbhhmeepmmaaDoor
