/- Texts merged: O1. -/
import Derived.Test.YtlimecfjpfaljaaDoorM17
import Derived.Test.YtlimecfjpfaljaaDoorM16
import Derived.Test.YtlimecfjpfaljaaDoorM19
import Derived.Test.YtlimecfjpfaljaaDoorM1
import Derived.Lib.LaidTab
import Derived.Shelf.Vars
section
/- What comes in: names and events; what stands in the package variables. -/
set_option linter.unusedVariables false
set_option linter.unusedSimpArgs false
set_option maxRecDepth 100000
namespace Go.Proofs.YtlimecfjpfaljaaDoor.W
open Go Go.Sy Go.RowKit

theorem opens_ID : Opens Tryd.prog 49 eID ID.ok := by
  have h : Opens Tryd.prog 49 (fun p : Int × Int × Int => eInt p.1 ++ (eInt p.2.1 ++ (eInt p.2.2))) (fun p => wI p.1 ∧ (wI p.2.1 ∧ (wI p.2.2))) := opens_struct (und (t := 49) rfl) (cof (t := 49) rfl) (consF (α := Int) (β := Int × Int) (sz := 1) (sz2 := 2) (enc1 := eInt) (enc2 := fun q => eInt q.1 ++ (eInt q.2)) (wf1 := wI) (wf2 := fun q => wI q.1 ∧ (wI q.2)) rfl (cof (t := 3) rfl) opens_i (consF (α := Int) (β := Int) (sz := 1) (sz2 := 1) (enc1 := eInt) (enc2 := fun q => eInt q) (wf1 := wI) (wf2 := fun q => wI q) rfl (cof (t := 3) rfl) opens_i (OpensF.one rfl (cof (t := 3) rfl) opens_i) rfl) rfl)
  exact h.to (fun p => ⟨p.1, p.2.1, p.2.2⟩) (fun _ => rfl) (fun p h => ⟨wf_i64 h.1, wf_i64 h.2.1, wf_i64 h.2.2⟩)
theorem trod_iface {H : Type} {enc : TypeId × Value → H} {P : Program} {w : World} {base : Nat} {sp : Nat → Bool} {held : Bool} {fuel : Nat} {t : TypeId} {cs : List Value} {nm : String} {d : DataW H} {p : List MemPlace}
    (h : DataW.trod enc P w base sp held fuel t cs = some (.iface nm d, p)) : ∃ u v, cs = [.iface u v] := by
  cases fuel with
  | zero => simp [DataW.trod] at h
  | succ n =>
    unfold DataW.trod at h
    split at h
    all_goals first
      | exact ⟨_, _, rfl⟩
      | (exfalso; simp [Option.map_eq_some_iff, Option.bind_eq_some_iff] at h; done)
      | (exfalso; split at h <;> simp [Option.map_eq_some_iff, Option.bind_eq_some_iff] at h; done)
theorem iface_of_head {W : World} {name nm : String} {g : Nat} {d : DataW Unit} {rest : List (String × DataW Unit)} (hg : Tryd.prog.globalNamed name = some g) (h : laidMet Tryd.prog ((name, .iface nm d) :: rest) W) :
    ∃ t v, KW W g = some #[.iface t v] := by
  obtain ⟨ps, ⟨g', t', cs, fuel, p, q, hg', ht', hvar, hd, _, _⟩, _⟩ := h
  obtain ⟨u, v, hc⟩ := trod_iface hd
  obtain rfl : cs = #[.iface u v] := by cases cs; simp_all
  exact ⟨u, v, KW.of_var hg hvar⟩
theorem int_of_shape {W : World} (g : Nat) {t : TypeId} {zero : Array Value} {k : IntKind} (h : W.ShapedOpen Tryd.prog) (hg : g < Tryd.prog.globals.size)
    (h0 : ((begin Tryd.prog (fun _ _ => 0) default).world.heap[g]?).bind Obj.row? = some (zero, t)) (hz : zero.size = 1)
    (hb : Tryd.prog.buildable t = true) (hc : Tryd.prog.cellTypes Tryd.prog.depth t = some [t]) (hu : Tryd.prog.underlying t = some (.int k)) : ∃ m, KW W g = some #[.int k m] := by
  obtain ⟨m, hm⟩ := cell_of_shapedOpen_int h hg h0 hz hb hc hu
  obtain ⟨cs, hh, hs, _⟩ := h.1 g zero t hg h0
  simp [World.cell?, hh] at hm
  refine ⟨m, ?_⟩
  simp only [KW, hh, Option.some.injEq]
  have h1 : cs.size = 1 := by omega
  apply Array.ext
  · simp [h1]
  · intro i hi1 hi2
    have : i = 0 := by simp at hi2; omega
    subst this
    rw [Array.getElem?_eq_getElem hi1] at hm
    simpa using hm
end Go.Proofs.YtlimecfjpfaljaaDoor.W
end
