/- Texts merged: O0. -/
import Derived.Test.YtffckdfcmdmnoaaDoorM16
import Derived.Test.YtffckdfcmdmnoaaDoorM1
section
/- What comes in: numbers, and rows of them. -/
set_option linter.unusedVariables false
set_option linter.unusedSimpArgs false
set_option maxRecDepth 100000
namespace Go.Proofs.YtffckdfcmdmnoaaDoor.W
open Go Go.Sy Go.RowKit

theorem und {t : TypeId} {i : TI} (h : ty t = some i) : Tryd.prog.underlying t = some i.d := (tok _ _ h).1
theorem cof {t : TypeId} {i : TI} (h : ty t = some i) : Tryd.prog.cellsOf t = i.size := by
  obtain ⟨_, inf, hi, hs, _⟩ := tok _ _ h
  simp [Program.cellsOf, hi, hs]
theorem consF {α β : Type} {P : Program} {f : Field} {r : List Field} {off sz sz2 s : Nat} {enc1 : α → List PV} {enc2 : β → List PV} {wf1 : α → Prop} {wf2 : β → Prop} (ho : f.offset = off) (hc : P.cellsOf f.type = sz) (h : Opens P f.type enc1 wf1) (hr : OpensF P r (off + sz) sz2 enc2 wf2) (hs : sz + sz2 = s) :
    OpensF P (f :: r) off s (fun p : α × β => enc1 p.1 ++ enc2 p.2) (fun p => wf1 p.1 ∧ wf2 p.2) := hs ▸ OpensF.cons ho hc h hr
def wI (n : Int) : Prop := (Lit.int .i64 n).wf = true
theorem opens_i : Opens Tryd.prog 3 eInt wI := opens_int (und (t := 3) rfl)
theorem opens_Ints : Opens Tryd.prog 39 (fun xs => [sl 1 eInt xs]) (fun xs => ∀ x ∈ xs, R64 x) :=
  (opens_slice (und (t := 39) rfl) (cof (t := 3) rfl) (by decide) (fun _ => rfl) opens_i).to id (fun _ => rfl) (fun _ h x hx => wf_i64 (h.2 x hx))
end Go.Proofs.YtffckdfcmdmnoaaDoor.W
end
