/- Texts merged: D22. -/
import Derived.Test.YtlimecfjpfaljaaDoorM27
import Derived.Test.YtlimecfjpfaljaaDoorM28
section
/- Walks: marks; what the laws of watches hold against each other (chapter 14). -/
set_option linter.unusedVariables false
set_option linter.unusedSimpArgs false
set_option linter.unusedSectionVars false
set_option pp.maxSteps 40000
set_option maxHeartbeats 4000000
namespace Go.Proofs.YtlimecfjpfaljaaDoor.W
open Go Go.Sy

def eBool (b : Bool) : List PV := [bl b]
def rowB (l : List Bool) : Option Blk := some ⟨4, 1, l.length, rows eBool l, false, false⟩
def markOne (n : Int) (m : List Bool) (i : Int) : List Bool := if 0 ≤ i ∧ i < n then m.set i.toNat true else m
def marksIn (n : Int) (bad : List Int) : List Bool := bad.foldl (markOne n) (List.replicate n.toNat false)
def marksOf (n : Int) (bad : List Int) : List Bool := if n < 0 ∨ 1000 < n then [] else marksIn n bad
theorem markOne_len (n : Int) (m : List Bool) (i : Int) : (markOne n m i).length = m.length := by unfold markOne; split <;> simp
theorem foldl_at {α β : Type} [Inhabited α] (f : β → α → β) {l : List α} {i : Nat} (hi : i < l.length) (b : β) : (l.drop i).foldl f b = (l.drop (i + 1)).foldl f (f b (l.getD i default)) := by
  rw [List.drop_eq_getElem_cons hi]
  have : l.getD i default = l[i] := by simp [hi]
  rw [this]
  rfl
theorem list_eq_iff {α : Type} [Inhabited α] [DecidableEq α] {a b : List α} (hl : a.length = b.length) : a = b ↔ ∀ q, q < a.length → a.getD q default = b.getD q default := by
  constructor
  · rintro rfl q _; rfl
  · intro h
    apply List.ext_getElem hl
    intro i h1 h2
    have := h i h1
    simpa [h1, h2] using this
end Go.Proofs.YtlimecfjpfaljaaDoor.W
end
