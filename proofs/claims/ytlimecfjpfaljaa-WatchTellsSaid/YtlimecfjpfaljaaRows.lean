/-
  No cell of these rows narrows 'for every input' (looked for: loops, veiled, ifaces, maps, wideKeys, modest, calm, conditions, laid).
  DERIVED. THE GIVEN ROWS OF THIS SEAT. 4 by the template 'for every input the law returns true; each argument reads behind the call as it read before'; 0 by the template 'total and deterministic' (their statements: YtlimecfjpfaljaaTotals.lean).
  GIVEN WITH THE SEED: the statements are not yours to turn. If you find one false, say at which input.
  Laid BY PROGRAM, IN A SANDBOX (cutbox-rows.mjs): the forced cells as the released guide's own fill.sh prints them over the translation 2d080ae41402708e… (all of the seat's roots in one cut). By AI agents, Wed Nov 11 2026. No macro, syntax, notation, axiom, sorry.
-/
import Derived.Test.YtlimecfjpfaljaaChecked
import GoSem.Claim
import GoSem.ClaimJoined
import GoSem.ClaimMapViews
import Derived.JoinedTies
import Derived.KernelRfl
namespace Go.Proofs.Ytlimecfjpfaljaa
/- THE CELL 'sum', in the pinned program and in every row, IS THE sha256 OF THE DUMP (.gsa) THAT YtlimecfjpfaljaaProg.lean LOADS. Nothing in Lean hashes anything: it is a label: what it is worth is what the hold of that sum in a sandbox is worth. -/
noncomputable def Try.pinned : Pinned := { name := "ytlimecfjpfaljaa", sum := "2d080ae41402708eccb67efe5b19c7b1b559cb47fe76080eff5e3c41380337bb", checked := Try.checked }
namespace Rows
def none {H : Type} : Left H := { results := [], args := [] }

/-- 'gavottelaw14.WatchTells': WHATEVER THE INPUT: true; the input reads as it did. -/
def watchTellsSpec : ChangeSpec := { name := "watchTells", fn := fun _ => fun
  | [d1, d2, d3] => { results := [.lit (.bool true)], args := [d1, d2, d3] }
  | _ => none }
def watchTellsRow : OpenClaim := { program := "ytlimecfjpfaljaa", sum := "2d080ae41402708eccb67efe5b19c7b1b559cb47fe76080eff5e3c41380337bb", func := "gavotte/gavottelaw14.WatchTells", spec := "watchTells", inPlace := ["slices.overlaps[gavotte/api.Message]"], unfollowed := true, recurses := true, apart := false }
def WatchTellsSaid : Prop := watchTellsRow.holds Try.pinned (OpenSpec.ofChange watchTellsSpec)

/-- ITS FALSE NEIGHBOUR: 'it returns false'. Refute it at one input. -/
def watchTellsWrong : ChangeSpec := { name := "watchTells", fn := fun _ => fun
  | [d1, d2, d3] => { results := [.lit (.bool false)], args := [d1, d2, d3] }
  | _ => none }
def WatchTellsWrongFalsely : Prop := watchTellsRow.holds Try.pinned (OpenSpec.ofChange watchTellsWrong)

/-- 'gavottelaw14.WatchEach': WHATEVER THE INPUT: true; the input reads as it did. -/
def watchEachSpec : ChangeSpec := { name := "watchEach", fn := fun _ => fun
  | [d1, d2] => { results := [.lit (.bool true)], args := [d1, d2] }
  | _ => none }
def watchEachRow : OpenClaim := { program := "ytlimecfjpfaljaa", sum := "2d080ae41402708eccb67efe5b19c7b1b559cb47fe76080eff5e3c41380337bb", func := "gavotte/gavottelaw14.WatchEach", spec := "watchEach", inPlace := ["slices.overlaps[gavotte/api.Message]"], unfollowed := true, recurses := true, apart := false }
def WatchEachSaid : Prop := watchEachRow.holds Try.pinned (OpenSpec.ofChange watchEachSpec)

/-- ITS FALSE NEIGHBOUR: 'it returns false'. Refute it at one input. -/
def watchEachWrong : ChangeSpec := { name := "watchEach", fn := fun _ => fun
  | [d1, d2] => { results := [.lit (.bool false)], args := [d1, d2] }
  | _ => none }
def WatchEachWrongFalsely : Prop := watchEachRow.holds Try.pinned (OpenSpec.ofChange watchEachWrong)

/-- 'gavottelaw14.WatchMarks': WHATEVER THE INPUT: true; the input reads as it did. -/
def watchMarksSpec : ChangeSpec := { name := "watchMarks", fn := fun _ => fun
  | [d1, d2] => { results := [.lit (.bool true)], args := [d1, d2] }
  | _ => none }
def watchMarksRow : OpenClaim := { program := "ytlimecfjpfaljaa", sum := "2d080ae41402708eccb67efe5b19c7b1b559cb47fe76080eff5e3c41380337bb", func := "gavotte/gavottelaw14.WatchMarks", spec := "watchMarks", inPlace := ["slices.overlaps[gavotte/api.Message]"], unfollowed := true, recurses := true, apart := false }
def WatchMarksSaid : Prop := watchMarksRow.holds Try.pinned (OpenSpec.ofChange watchMarksSpec)

/-- ITS FALSE NEIGHBOUR: 'it returns false'. Refute it at one input. -/
def watchMarksWrong : ChangeSpec := { name := "watchMarks", fn := fun _ => fun
  | [d1, d2] => { results := [.lit (.bool false)], args := [d1, d2] }
  | _ => none }
def WatchMarksWrongFalsely : Prop := watchMarksRow.holds Try.pinned (OpenSpec.ofChange watchMarksWrong)

/-- 'gavottelaw14.WatchErrors': WHATEVER THE INPUT: true; the input reads as it did. -/
def watchErrorsSpec : ChangeSpec := { name := "watchErrors", fn := fun _ => fun
  | [d1, d2, d3] => { results := [.lit (.bool true)], args := [d1, d2, d3] }
  | _ => none }
def watchErrorsRow : OpenClaim := { program := "ytlimecfjpfaljaa", sum := "2d080ae41402708eccb67efe5b19c7b1b559cb47fe76080eff5e3c41380337bb", func := "gavotte/gavottelaw14.WatchErrors", spec := "watchErrors", inPlace := ["slices.overlaps[gavotte/api.Message]"], unfollowed := true, recurses := true, apart := false }
def WatchErrorsSaid : Prop := watchErrorsRow.holds Try.pinned (OpenSpec.ofChange watchErrorsSpec)

/-- ITS FALSE NEIGHBOUR: 'it returns false'. Refute it at one input. -/
def watchErrorsWrong : ChangeSpec := { name := "watchErrors", fn := fun _ => fun
  | [d1, d2, d3] => { results := [.lit (.bool false)], args := [d1, d2, d3] }
  | _ => none }
def WatchErrorsWrongFalsely : Prop := watchErrorsRow.holds Try.pinned (OpenSpec.ofChange watchErrorsWrong)

/- THE SECOND FORM. 'bulk': how many values and letters a reading holds, each counted each time it is reached (what is shared counts as often as it is met; a slice's spare places count too). A statement '..UptoSaid' is the law's where the arguments, and the package variables that the reading takes, are together of bulk at most 1048576: NARROWER than '..Said'. Prove '..Said' where nothing that the law and all that it calls make is longer than what came in: it says more and counts as full. Else prove '..UptoSaid'. A law counts once. -/
mutual
def uptoBulk {H : Type} : DataW H → Nat
  | .lit (.string bytes) => bytes.length + 1
  | .lit _ => 1
  | .nil => 1
  | .ptr d => uptoBulk d + 1
  | .slice elems spare => uptoBulkAll elems + uptoBulkAll spare + 1
  | .agg parts => uptoBulkAll parts + 1
  | .iface _ d => uptoBulk d + 1
  | .map entries => uptoBulkEntries entries + 1
  | .held _ => 1
def uptoBulkAll {H : Type} : List (DataW H) → Nat
  | [] => 0
  | d :: r => uptoBulk d + uptoBulkAll r
def uptoBulkEntries {H : Type} : List (Lit × DataW H) → Nat
  | [] => 0
  | x :: r => uptoBulkEntry x + uptoBulkEntries r
def uptoBulkEntry {H : Type} : Lit × DataW H → Nat
  | (.string bytes, d) => bytes.length + uptoBulk d + 1
  | (_, d) => uptoBulk d + 1
 end
def uptoSmall : (H : Type) → List (DataW H) → Bool := fun _ ds => decide (uptoBulkAll ds ≤ 1048576)
def OpenSpec.upto (s : _root_.Go.ChangeSpec) : _root_.Go.OpenSpec := { _root_.Go.OpenSpec.ofChange s with cond := some uptoSmall }

/-- 'gavottelaw14.WatchTells', WHERE WHAT IT READS IS OF BULK AT MOST 1048576: true; the input reads as it did. -/
def watchTellsUptoRow : OpenClaim := { program := "ytlimecfjpfaljaa", sum := "2d080ae41402708eccb67efe5b19c7b1b559cb47fe76080eff5e3c41380337bb", func := "gavotte/gavottelaw14.WatchTells", spec := "watchTells", inPlace := ["slices.overlaps[gavotte/api.Message]"], unfollowed := true, recurses := true, apart := false, narrowed := true }
def WatchTellsUptoSaid : Prop := watchTellsUptoRow.holds Try.pinned (OpenSpec.upto watchTellsSpec)

/-- 'gavottelaw14.WatchEach', WHERE WHAT IT READS IS OF BULK AT MOST 1048576: true; the input reads as it did. -/
def watchEachUptoRow : OpenClaim := { program := "ytlimecfjpfaljaa", sum := "2d080ae41402708eccb67efe5b19c7b1b559cb47fe76080eff5e3c41380337bb", func := "gavotte/gavottelaw14.WatchEach", spec := "watchEach", inPlace := ["slices.overlaps[gavotte/api.Message]"], unfollowed := true, recurses := true, apart := false, narrowed := true }
def WatchEachUptoSaid : Prop := watchEachUptoRow.holds Try.pinned (OpenSpec.upto watchEachSpec)

/-- 'gavottelaw14.WatchMarks', WHERE WHAT IT READS IS OF BULK AT MOST 1048576: true; the input reads as it did. -/
def watchMarksUptoRow : OpenClaim := { program := "ytlimecfjpfaljaa", sum := "2d080ae41402708eccb67efe5b19c7b1b559cb47fe76080eff5e3c41380337bb", func := "gavotte/gavottelaw14.WatchMarks", spec := "watchMarks", inPlace := ["slices.overlaps[gavotte/api.Message]"], unfollowed := true, recurses := true, apart := false, narrowed := true }
def WatchMarksUptoSaid : Prop := watchMarksUptoRow.holds Try.pinned (OpenSpec.upto watchMarksSpec)

/-- 'gavottelaw14.WatchErrors', WHERE WHAT IT READS IS OF BULK AT MOST 1048576: true; the input reads as it did. -/
def watchErrorsUptoRow : OpenClaim := { program := "ytlimecfjpfaljaa", sum := "2d080ae41402708eccb67efe5b19c7b1b559cb47fe76080eff5e3c41380337bb", func := "gavotte/gavottelaw14.WatchErrors", spec := "watchErrors", inPlace := ["slices.overlaps[gavotte/api.Message]"], unfollowed := true, recurses := true, apart := false, narrowed := true }
def WatchErrorsUptoSaid : Prop := watchErrorsUptoRow.holds Try.pinned (OpenSpec.upto watchErrorsSpec)

end Rows
end Go.Proofs.Ytlimecfjpfaljaa
