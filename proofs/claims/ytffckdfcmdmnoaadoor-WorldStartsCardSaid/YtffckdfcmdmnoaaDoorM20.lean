/- Texts merged: O1. -/
import Derived.Test.YtffckdfcmdmnoaaDoorM17
import Derived.Test.YtffckdfcmdmnoaaDoorM16
import Derived.Test.YtffckdfcmdmnoaaDoorM19
import Derived.Test.YtffckdfcmdmnoaaDoorM1
import Derived.Lib.LaidTab
import Derived.Shelf.Vars
section
/- What comes in: names and events; what stands in the package variables. -/
set_option linter.unusedVariables false
set_option linter.unusedSimpArgs false
set_option maxRecDepth 100000
namespace Go.Proofs.YtffckdfcmdmnoaaDoor.W
open Go Go.Sy Go.RowKit

theorem int_of_shape {W : World} (g : Nat) {t : TypeId} {zero : Array Value} {k : IntKind} (h : W.ShapedOpen Tryd.prog) (hg : g < Tryd.prog.globals.size)
    (h0 : ((begin Tryd.prog (fun _ _ => 0) default).world.heap[g]?).bind Obj.row? = some (zero, t)) (hz : zero.size = 1)
    (hb : Tryd.prog.buildable t = true) (hc : Tryd.prog.cellTypes Tryd.prog.depth t = some [t]) (hu : Tryd.prog.underlying t = some (.int k)) : ∃ m, KW W g = some #[.int k m] := by
  obtain ⟨m, hm⟩ := cell_of_shapedOpen_int h hg h0 hz hb hc hu
  obtain ⟨cs, hh, hs, _⟩ := h.1 g zero t hg h0
  simp [World.cell?, hh] at hm
  refine ⟨m, ?_⟩
  simp only [KW, hh, Option.some.injEq]
  have h1 : cs.size = 1 := by omega
  apply Array.ext
  · simp [h1]
  · intro i hi1 hi2
    have : i = 0 := by simp at hi2; omega
    subst this
    rw [Array.getElem?_eq_getElem hi1] at hm
    simpa using hm
end Go.Proofs.YtffckdfcmdmnoaaDoor.W
end
