/-
  DERIVED. GIVEN WITH THE SEED: THE CARDS: each row of YtffckdfcmdmnoaaDoorRows.lean that lists a variable, with what it lists TIED to the program's text (the seventh form; the later family's looks); each row that meets fmt, with fmt's text TOLD by the authors' own Lean function (tested against real Go, not proved from fmt's source: count such statements apart). THE CARD IS WHAT COUNTS. Prove the row's statement (the work); the ties are given (YtffckdfcmdmnoaaDoorTie.lean); close each card by the builder's one call (the guide's Derived/Test/ToyasCard.lean, 'card_holds'). Laid BY PROGRAM, IN A SANDBOX (cutbox-door.mjs). By AI agents, Wed Nov 11 2026. No macro, syntax, notation, axiom, sorry.
-/
import Derived.Test.YtffckdfcmdmnoaaDoorRows
import GoSem.ClaimSeven
namespace Go.Proofs.YtffckdfcmdmnoaaDoor
namespace Rows

/-- THE TIED CARD OF 'gavottelaw9.WorldStarts'. -/
def worldStartsCard : Claim7 := { stood := { row := worldStartsRow, standIns := [], harness := (true, "35b95601aeadb38fd3c9eb0e5d77625f303634582aeb86bd284af8801486b8f5"), looks := false }, kinds := [], alts := [], laidByText := true, laidKinds := [.data, .data, .data], laidTests := true, laidLooks := .later }
def WorldStartsCardSaid : Prop := Claim7.holds Tryd.pinned (.plain (OpenSpec.ofChange worldStartsSpec)) worldStartsCard

/-- THE TIED CARD OF 'gavottelaw9.WorldSame'. -/
def worldSameCard : Claim7 := { stood := { row := worldSameRow, standIns := [], harness := (true, "35b95601aeadb38fd3c9eb0e5d77625f303634582aeb86bd284af8801486b8f5"), looks := false }, kinds := [], alts := [], laidByText := true, laidKinds := [.data, .data, .data], laidTests := true, laidLooks := .later }
def WorldSameCardSaid : Prop := Claim7.holds Tryd.pinned (.plain (OpenSpec.ofChange worldSameSpec)) worldSameCard

/-- THE TIED CARD OF 'gavottelaw9.WorldMay'. -/
def worldMayCard : Claim7 := { stood := { row := worldMayRow, standIns := [], harness := (true, "35b95601aeadb38fd3c9eb0e5d77625f303634582aeb86bd284af8801486b8f5"), looks := false }, kinds := [], alts := [], laidByText := true, laidKinds := [.data, .data, .data], laidTests := true, laidLooks := .later }
def WorldMayCardSaid : Prop := Claim7.holds Tryd.pinned (.plain (OpenSpec.ofChange worldMaySpec)) worldMayCard

/-- THE TIED CARD OF 'gavottelaw9.WorldRoom'. -/
def worldRoomCard : Claim7 := { stood := { row := worldRoomRow, standIns := [], harness := (true, "35b95601aeadb38fd3c9eb0e5d77625f303634582aeb86bd284af8801486b8f5"), looks := false }, kinds := [], alts := [], laidByText := true, laidKinds := [.data, .data, .data], laidTests := true, laidLooks := .later }
def WorldRoomCardSaid : Prop := Claim7.holds Tryd.pinned (.plain (OpenSpec.ofChange worldRoomSpec)) worldRoomCard

/-- THE SECOND FORM's CARD OF 'gavottelaw9.WorldStarts'. -/
def worldStartsUptoCard : Claim7 := { stood := { row := worldStartsUptoRow, standIns := [], harness := (true, "35b95601aeadb38fd3c9eb0e5d77625f303634582aeb86bd284af8801486b8f5"), looks := false }, kinds := [], alts := [], laidByText := true, laidKinds := [.data, .data, .data], laidTests := true, laidLooks := .later }
def WorldStartsUptoCardSaid : Prop := Claim7.holds Tryd.pinned (.plain (OpenSpec.upto worldStartsSpec)) worldStartsUptoCard

/-- THE SECOND FORM's CARD OF 'gavottelaw9.WorldSame'. -/
def worldSameUptoCard : Claim7 := { stood := { row := worldSameUptoRow, standIns := [], harness := (true, "35b95601aeadb38fd3c9eb0e5d77625f303634582aeb86bd284af8801486b8f5"), looks := false }, kinds := [], alts := [], laidByText := true, laidKinds := [.data, .data, .data], laidTests := true, laidLooks := .later }
def WorldSameUptoCardSaid : Prop := Claim7.holds Tryd.pinned (.plain (OpenSpec.upto worldSameSpec)) worldSameUptoCard

/-- THE SECOND FORM's CARD OF 'gavottelaw9.WorldMay'. -/
def worldMayUptoCard : Claim7 := { stood := { row := worldMayUptoRow, standIns := [], harness := (true, "35b95601aeadb38fd3c9eb0e5d77625f303634582aeb86bd284af8801486b8f5"), looks := false }, kinds := [], alts := [], laidByText := true, laidKinds := [.data, .data, .data], laidTests := true, laidLooks := .later }
def WorldMayUptoCardSaid : Prop := Claim7.holds Tryd.pinned (.plain (OpenSpec.upto worldMaySpec)) worldMayUptoCard

/-- THE SECOND FORM's CARD OF 'gavottelaw9.WorldRoom'. -/
def worldRoomUptoCard : Claim7 := { stood := { row := worldRoomUptoRow, standIns := [], harness := (true, "35b95601aeadb38fd3c9eb0e5d77625f303634582aeb86bd284af8801486b8f5"), looks := false }, kinds := [], alts := [], laidByText := true, laidKinds := [.data, .data, .data], laidTests := true, laidLooks := .later }
def WorldRoomUptoCardSaid : Prop := Claim7.holds Tryd.pinned (.plain (OpenSpec.upto worldRoomSpec)) worldRoomUptoCard
end Rows
end Go.Proofs.YtffckdfcmdmnoaaDoor
