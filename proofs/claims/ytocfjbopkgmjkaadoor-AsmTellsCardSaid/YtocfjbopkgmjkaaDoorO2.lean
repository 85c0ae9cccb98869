/- What comes in: instructions and codes. -/
import Derived.Test.YtocfjbopkgmjkaaDoorO1
import Derived.Test.YtocfjbopkgmjkaaDoorP3
set_option linter.unusedVariables false
set_option linter.unusedSimpArgs false
set_option maxRecDepth 100000
namespace Go.Proofs.YtocfjbopkgmjkaaDoor.W
open Go Go.Sy Go.RowKit
theorem opens_Instr : Opens Tryd.prog 47 eInstr Instr.ok := by
  have h : Opens Tryd.prog 47 (fun p : Int × Int => eInt p.1 ++ (eInt p.2)) (fun p => wI p.1 ∧ (wI p.2)) := opens_struct (und (t := 47) rfl) (cof (t := 47) rfl) (consF (α := Int) (β := Int) (sz := 1) (sz2 := 1) (enc1 := eInt) (enc2 := fun q => eInt q) (wf1 := wI) (wf2 := fun q => wI q) rfl (cof (t := 3) rfl) opens_i (OpensF.one rfl (cof (t := 3) rfl) opens_i) rfl)
  exact h.to (fun p => ⟨p.1, p.2⟩) (fun _ => rfl) (fun p h => ⟨wf_i64 h.1, wf_i64 h.2⟩)
theorem opens_Is : Opens Tryd.prog 45 (fun xs => [sl 2 eInstr xs]) (fun xs => ∀ x ∈ xs, x.ok) :=
  (opens_slice (und (t := 45) rfl) (cof (t := 47) rfl) (by decide) (fun _ => rfl) opens_Instr).to id (fun _ => rfl) (fun _ h => h.2)
theorem wf_u8 {n : Int} (h : (Lit.int .u8 n).wf = true) : 0 ≤ n ∧ n < 256 := by
  simp [Lit.wf, IntKind.has, IntKind.min, IntKind.max, IntKind.signed, IntKind.bits] at h
  omega
end Go.Proofs.YtocfjbopkgmjkaaDoor.W
