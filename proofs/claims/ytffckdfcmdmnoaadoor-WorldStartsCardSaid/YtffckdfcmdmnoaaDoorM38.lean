/- Texts merged: O3. -/
import Derived.Test.YtffckdfcmdmnoaaDoorM17
import Derived.Test.YtffckdfcmdmnoaaDoorM29
section
/- What comes in: programs, worlds, watches. Printed by opens.py. -/
set_option linter.unusedVariables false
set_option linter.unusedSimpArgs false
set_option maxRecDepth 100000
namespace Go.Proofs.YtffckdfcmdmnoaaDoor.W
open Go Go.Sy Go.RowKit

def eBoo (b : Bool) : List PV := [bl b]
def wB (b : Bool) : Prop := True
theorem opens_b : Opens Tryd.prog 4 eBoo wB := opens_bool (und (t := 4) rfl)
theorem opens_Instr : Opens Tryd.prog 107 eInstr Instr.ok := by
  have h : Opens Tryd.prog 107 (fun p : Int × Int => eInt p.1 ++ (eInt p.2)) (fun p => wI p.1 ∧ (wI p.2)) := opens_struct (und (t := 107) rfl) (cof (t := 107) rfl) (consF (α := Int) (β := Int) (sz := 1) (sz2 := 1) (enc1 := eInt) (enc2 := fun q => eInt q) (wf1 := wI) (wf2 := fun q => wI q) rfl (cof (t := 3) rfl) opens_i (OpensF.one rfl (cof (t := 3) rfl) opens_i) rfl)
  exact h.to (fun p => ⟨p.1, p.2⟩) (fun _ => rfl) (fun p h => ⟨wf_i64 h.1, wf_i64 h.2⟩)
theorem opens_Instrs : Opens Tryd.prog 56 (fun xs => [sl 2 eInstr xs]) (fun xs => ∀ x ∈ xs, x.ok) :=
  (opens_slice (und (t := 56) rfl) (cof (t := 107) rfl) (by decide) (fun _ => rfl) opens_Instr).to id (fun _ => rfl) (fun _ h => h.2)
theorem opens_Hd : Opens Tryd.prog 58 eHd Hd.ok := by
  have h : Opens Tryd.prog 58 (fun p : Int × List Instr => eInt p.1 ++ ((fun xs => [sl 2 eInstr xs]) p.2)) (fun p => wI p.1 ∧ ((fun xs => ∀ x ∈ xs, x.ok) p.2)) := opens_struct (und (t := 58) rfl) (cof (t := 58) rfl) (consF (α := Int) (β := List Instr) (sz := 1) (sz2 := 1) (enc1 := eInt) (enc2 := fun q => (fun xs => [sl 2 eInstr xs]) q) (wf1 := wI) (wf2 := fun q => (fun xs => ∀ x ∈ xs, x.ok) q) rfl (cof (t := 3) rfl) opens_i (OpensF.one rfl (cof (t := 56) rfl) opens_Instrs) rfl)
  exact h.to (fun p => ⟨p.1, p.2⟩) (fun _ => rfl) (fun p h => ⟨wf_i64 h.1, h.2⟩)
theorem opens_Hds : Opens Tryd.prog 22 (fun xs => [sl 2 eHd xs]) (fun xs => ∀ x ∈ xs, x.ok) :=
  (opens_slice (und (t := 22) rfl) (cof (t := 58) rfl) (by decide) (fun _ => rfl) opens_Hd).to id (fun _ => rfl) (fun _ h => h.2)
theorem opens_Act : Opens Tryd.prog 60 eAct Act.ok := by
  have h : Opens Tryd.prog 60 (fun p : List Int × Int × Int × Bool => (fun xs => [sl 1 eInt xs]) p.1 ++ (eInt p.2.1 ++ (eInt p.2.2.1 ++ (eBoo p.2.2.2)))) (fun p => (fun xs => ∀ x ∈ xs, R64 x) p.1 ∧ (wI p.2.1 ∧ (wI p.2.2.1 ∧ (wB p.2.2.2)))) := opens_struct (und (t := 60) rfl) (cof (t := 60) rfl) (consF (α := List Int) (β := Int × Int × Bool) (sz := 1) (sz2 := 3) (enc1 := (fun xs => [sl 1 eInt xs])) (enc2 := fun q => eInt q.1 ++ (eInt q.2.1 ++ (eBoo q.2.2))) (wf1 := (fun xs => ∀ x ∈ xs, R64 x)) (wf2 := fun q => wI q.1 ∧ (wI q.2.1 ∧ (wB q.2.2))) rfl (cof (t := 39) rfl) opens_Ints (consF (α := Int) (β := Int × Bool) (sz := 1) (sz2 := 2) (enc1 := eInt) (enc2 := fun q => eInt q.1 ++ (eBoo q.2)) (wf1 := wI) (wf2 := fun q => wI q.1 ∧ (wB q.2)) rfl (cof (t := 3) rfl) opens_i (consF (α := Int) (β := Bool) (sz := 1) (sz2 := 1) (enc1 := eInt) (enc2 := fun q => eBoo q) (wf1 := wI) (wf2 := fun q => wB q) rfl (cof (t := 3) rfl) opens_i (OpensF.one rfl (cof (t := 4) rfl) opens_b) rfl) rfl) rfl)
  exact h.to (fun p => ⟨p.1, p.2.1, p.2.2.1, p.2.2.2⟩) (fun _ => rfl) (fun p h => ⟨h.1, wf_i64 h.2.1, wf_i64 h.2.2.1⟩)
theorem opens_Acts : Opens Tryd.prog 23 (fun xs => [sl 4 eAct xs]) (fun xs => ∀ x ∈ xs, x.ok) :=
  (opens_slice (und (t := 23) rfl) (cof (t := 60) rfl) (by decide) (fun _ => rfl) opens_Act).to id (fun _ => rfl) (fun _ h => h.2)
theorem opens_Nt : Opens Tryd.prog 47 eNt Nt.ok := by
  have h : Opens Tryd.prog 47 (fun p : Int × Int × List Int => eInt p.1 ++ (eInt p.2.1 ++ ((fun xs => [sl 1 eInt xs]) p.2.2))) (fun p => wI p.1 ∧ (wI p.2.1 ∧ ((fun xs => ∀ x ∈ xs, R64 x) p.2.2))) := opens_struct (und (t := 47) rfl) (cof (t := 47) rfl) (consF (α := Int) (β := Int × List Int) (sz := 1) (sz2 := 2) (enc1 := eInt) (enc2 := fun q => eInt q.1 ++ ((fun xs => [sl 1 eInt xs]) q.2)) (wf1 := wI) (wf2 := fun q => wI q.1 ∧ ((fun xs => ∀ x ∈ xs, R64 x) q.2)) rfl (cof (t := 3) rfl) opens_i (consF (α := Int) (β := List Int) (sz := 1) (sz2 := 1) (enc1 := eInt) (enc2 := fun q => (fun xs => [sl 1 eInt xs]) q) (wf1 := wI) (wf2 := fun q => (fun xs => ∀ x ∈ xs, R64 x) q) rfl (cof (t := 3) rfl) opens_i (OpensF.one rfl (cof (t := 39) rfl) opens_Ints) rfl) rfl)
  exact h.to (fun p => ⟨p.1, p.2.1, p.2.2⟩) (fun _ => rfl) (fun p h => ⟨wf_i64 h.1, wf_i64 h.2.1, h.2.2⟩)
theorem opens_Nts : Opens Tryd.prog 24 (fun xs => [sl 3 eNt xs]) (fun xs => ∀ x ∈ xs, x.ok) :=
  (opens_slice (und (t := 24) rfl) (cof (t := 47) rfl) (by decide) (fun _ => rfl) opens_Nt).to id (fun _ => rfl) (fun _ h => h.2)
theorem opens_Pg : Opens Tryd.prog 26 ePg Pg.ok := by
  have h : Opens Tryd.prog 26 (fun p : List Hd × List Act × List Nt × Int => (fun xs => [sl 2 eHd xs]) p.1 ++ ((fun xs => [sl 4 eAct xs]) p.2.1 ++ ((fun xs => [sl 3 eNt xs]) p.2.2.1 ++ (eInt p.2.2.2)))) (fun p => (fun xs => ∀ x ∈ xs, x.ok) p.1 ∧ ((fun xs => ∀ x ∈ xs, x.ok) p.2.1 ∧ ((fun xs => ∀ x ∈ xs, x.ok) p.2.2.1 ∧ (wI p.2.2.2)))) := opens_struct (und (t := 26) rfl) (cof (t := 26) rfl) (consF (α := List Hd) (β := List Act × List Nt × Int) (sz := 1) (sz2 := 3) (enc1 := (fun xs => [sl 2 eHd xs])) (enc2 := fun q => (fun xs => [sl 4 eAct xs]) q.1 ++ ((fun xs => [sl 3 eNt xs]) q.2.1 ++ (eInt q.2.2))) (wf1 := (fun xs => ∀ x ∈ xs, x.ok)) (wf2 := fun q => (fun xs => ∀ x ∈ xs, x.ok) q.1 ∧ ((fun xs => ∀ x ∈ xs, x.ok) q.2.1 ∧ (wI q.2.2))) rfl (cof (t := 22) rfl) opens_Hds (consF (α := List Act) (β := List Nt × Int) (sz := 1) (sz2 := 2) (enc1 := (fun xs => [sl 4 eAct xs])) (enc2 := fun q => (fun xs => [sl 3 eNt xs]) q.1 ++ (eInt q.2)) (wf1 := (fun xs => ∀ x ∈ xs, x.ok)) (wf2 := fun q => (fun xs => ∀ x ∈ xs, x.ok) q.1 ∧ (wI q.2)) rfl (cof (t := 23) rfl) opens_Acts (consF (α := List Nt) (β := Int) (sz := 1) (sz2 := 1) (enc1 := (fun xs => [sl 3 eNt xs])) (enc2 := fun q => eInt q) (wf1 := (fun xs => ∀ x ∈ xs, x.ok)) (wf2 := fun q => wI q) rfl (cof (t := 24) rfl) opens_Nts (OpensF.one rfl (cof (t := 3) rfl) opens_i) rfl) rfl) rfl)
  exact h.to (fun p => ⟨p.1, p.2.1, p.2.2.1, p.2.2.2⟩) (fun _ => rfl) (fun p h => ⟨h.1, h.2.1, h.2.2.1, wf_i64 h.2.2.2⟩)
end Go.Proofs.YtffckdfcmdmnoaaDoor.W
end
