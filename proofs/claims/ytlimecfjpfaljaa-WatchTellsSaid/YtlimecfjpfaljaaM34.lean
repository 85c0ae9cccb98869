/- Texts merged: O3. -/
import Derived.Test.YtlimecfjpfaljaaM16
import Derived.Test.YtlimecfjpfaljaaM24
section
/- What comes in: programs, worlds, watches. Printed by opens.py. -/
set_option linter.unusedVariables false
set_option linter.unusedSimpArgs false
set_option maxRecDepth 100000
namespace Go.Proofs.Ytlimecfjpfaljaa.W
open Go Go.Sy Go.RowKit

def eBoo (b : Bool) : List PV := [bl b]
def wB (b : Bool) : Prop := True
theorem opens_b : Opens Try.prog 4 eBoo wB := opens_bool (und (t := 4) rfl)
theorem opens_Instr : Opens Try.prog 51 eInstr Instr.ok := by
  have h : Opens Try.prog 51 (fun p : Int × Int => eInt p.1 ++ (eInt p.2)) (fun p => wI p.1 ∧ (wI p.2)) := opens_struct (und (t := 51) rfl) (cof (t := 51) rfl) (consF (α := Int) (β := Int) (sz := 1) (sz2 := 1) (enc1 := eInt) (enc2 := fun q => eInt q) (wf1 := wI) (wf2 := fun q => wI q) rfl (cof (t := 3) rfl) opens_i (OpensF.one rfl (cof (t := 3) rfl) opens_i) rfl)
  exact h.to (fun p => ⟨p.1, p.2⟩) (fun _ => rfl) (fun p h => ⟨wf_i64 h.1, wf_i64 h.2⟩)
theorem opens_Instrs : Opens Try.prog 52 (fun xs => [sl 2 eInstr xs]) (fun xs => ∀ x ∈ xs, x.ok) :=
  (opens_slice (und (t := 52) rfl) (cof (t := 51) rfl) (by decide) (fun _ => rfl) opens_Instr).to id (fun _ => rfl) (fun _ h => h.2)
theorem opens_W : Opens Try.prog 53 eW (fun xs => ∀ x ∈ xs, x.ok) :=
  (opens_slice (und (t := 53) rfl) (cof (t := 51) rfl) (by decide) (fun _ => rfl) opens_Instr).to id (fun _ => rfl) (fun _ h => h.2)
theorem opens_Ws : Opens Try.prog 33 (fun xs => [sl 1 eW xs]) (fun xs => ∀ x ∈ xs, ∀ i ∈ x, i.ok) :=
  (opens_slice (und (t := 33) rfl) (cof (t := 53) rfl) (by decide) (fun _ => rfl) opens_W).to id (fun _ => rfl) (fun _ h => h.2)
theorem opens_Hd : Opens Try.prog 61 eHd Hd.ok := by
  have h : Opens Try.prog 61 (fun p : Int × List Instr => eInt p.1 ++ ((fun xs => [sl 2 eInstr xs]) p.2)) (fun p => wI p.1 ∧ ((fun xs => ∀ x ∈ xs, x.ok) p.2)) := opens_struct (und (t := 61) rfl) (cof (t := 61) rfl) (consF (α := Int) (β := List Instr) (sz := 1) (sz2 := 1) (enc1 := eInt) (enc2 := fun q => (fun xs => [sl 2 eInstr xs]) q) (wf1 := wI) (wf2 := fun q => (fun xs => ∀ x ∈ xs, x.ok) q) rfl (cof (t := 3) rfl) opens_i (OpensF.one rfl (cof (t := 52) rfl) opens_Instrs) rfl)
  exact h.to (fun p => ⟨p.1, p.2⟩) (fun _ => rfl) (fun p h => ⟨wf_i64 h.1, h.2⟩)
theorem opens_Hds : Opens Try.prog 22 (fun xs => [sl 2 eHd xs]) (fun xs => ∀ x ∈ xs, x.ok) :=
  (opens_slice (und (t := 22) rfl) (cof (t := 61) rfl) (by decide) (fun _ => rfl) opens_Hd).to id (fun _ => rfl) (fun _ h => h.2)
theorem opens_Act : Opens Try.prog 47 eAct Act.ok := by
  have h : Opens Try.prog 47 (fun p : List Int × Int × Int × Bool => (fun xs => [sl 1 eInt xs]) p.1 ++ (eInt p.2.1 ++ (eInt p.2.2.1 ++ (eBoo p.2.2.2)))) (fun p => (fun xs => ∀ x ∈ xs, R64 x) p.1 ∧ (wI p.2.1 ∧ (wI p.2.2.1 ∧ (wB p.2.2.2)))) := opens_struct (und (t := 47) rfl) (cof (t := 47) rfl) (consF (α := List Int) (β := Int × Int × Bool) (sz := 1) (sz2 := 3) (enc1 := (fun xs => [sl 1 eInt xs])) (enc2 := fun q => eInt q.1 ++ (eInt q.2.1 ++ (eBoo q.2.2))) (wf1 := (fun xs => ∀ x ∈ xs, R64 x)) (wf2 := fun q => wI q.1 ∧ (wI q.2.1 ∧ (wB q.2.2))) rfl (cof (t := 42) rfl) opens_Ints (consF (α := Int) (β := Int × Bool) (sz := 1) (sz2 := 2) (enc1 := eInt) (enc2 := fun q => eInt q.1 ++ (eBoo q.2)) (wf1 := wI) (wf2 := fun q => wI q.1 ∧ (wB q.2)) rfl (cof (t := 3) rfl) opens_i (consF (α := Int) (β := Bool) (sz := 1) (sz2 := 1) (enc1 := eInt) (enc2 := fun q => eBoo q) (wf1 := wI) (wf2 := fun q => wB q) rfl (cof (t := 3) rfl) opens_i (OpensF.one rfl (cof (t := 4) rfl) opens_b) rfl) rfl) rfl)
  exact h.to (fun p => ⟨p.1, p.2.1, p.2.2.1, p.2.2.2⟩) (fun _ => rfl) (fun p h => ⟨h.1, wf_i64 h.2.1, wf_i64 h.2.2.1⟩)
theorem opens_Acts : Opens Try.prog 23 (fun xs => [sl 4 eAct xs]) (fun xs => ∀ x ∈ xs, x.ok) :=
  (opens_slice (und (t := 23) rfl) (cof (t := 47) rfl) (by decide) (fun _ => rfl) opens_Act).to id (fun _ => rfl) (fun _ h => h.2)
theorem opens_Nt : Opens Try.prog 63 eNt Nt.ok := by
  have h : Opens Try.prog 63 (fun p : Int × Int × List Int => eInt p.1 ++ (eInt p.2.1 ++ ((fun xs => [sl 1 eInt xs]) p.2.2))) (fun p => wI p.1 ∧ (wI p.2.1 ∧ ((fun xs => ∀ x ∈ xs, R64 x) p.2.2))) := opens_struct (und (t := 63) rfl) (cof (t := 63) rfl) (consF (α := Int) (β := Int × List Int) (sz := 1) (sz2 := 2) (enc1 := eInt) (enc2 := fun q => eInt q.1 ++ ((fun xs => [sl 1 eInt xs]) q.2)) (wf1 := wI) (wf2 := fun q => wI q.1 ∧ ((fun xs => ∀ x ∈ xs, R64 x) q.2)) rfl (cof (t := 3) rfl) opens_i (consF (α := Int) (β := List Int) (sz := 1) (sz2 := 1) (enc1 := eInt) (enc2 := fun q => (fun xs => [sl 1 eInt xs]) q) (wf1 := wI) (wf2 := fun q => (fun xs => ∀ x ∈ xs, R64 x) q) rfl (cof (t := 3) rfl) opens_i (OpensF.one rfl (cof (t := 42) rfl) opens_Ints) rfl) rfl)
  exact h.to (fun p => ⟨p.1, p.2.1, p.2.2⟩) (fun _ => rfl) (fun p h => ⟨wf_i64 h.1, wf_i64 h.2.1, h.2.2⟩)
theorem opens_Nts : Opens Try.prog 24 (fun xs => [sl 3 eNt xs]) (fun xs => ∀ x ∈ xs, x.ok) :=
  (opens_slice (und (t := 24) rfl) (cof (t := 63) rfl) (by decide) (fun _ => rfl) opens_Nt).to id (fun _ => rfl) (fun _ h => h.2)
theorem opens_Pg : Opens Try.prog 26 ePg Pg.ok := by
  have h : Opens Try.prog 26 (fun p : List Hd × List Act × List Nt × Int => (fun xs => [sl 2 eHd xs]) p.1 ++ ((fun xs => [sl 4 eAct xs]) p.2.1 ++ ((fun xs => [sl 3 eNt xs]) p.2.2.1 ++ (eInt p.2.2.2)))) (fun p => (fun xs => ∀ x ∈ xs, x.ok) p.1 ∧ ((fun xs => ∀ x ∈ xs, x.ok) p.2.1 ∧ ((fun xs => ∀ x ∈ xs, x.ok) p.2.2.1 ∧ (wI p.2.2.2)))) := opens_struct (und (t := 26) rfl) (cof (t := 26) rfl) (consF (α := List Hd) (β := List Act × List Nt × Int) (sz := 1) (sz2 := 3) (enc1 := (fun xs => [sl 2 eHd xs])) (enc2 := fun q => (fun xs => [sl 4 eAct xs]) q.1 ++ ((fun xs => [sl 3 eNt xs]) q.2.1 ++ (eInt q.2.2))) (wf1 := (fun xs => ∀ x ∈ xs, x.ok)) (wf2 := fun q => (fun xs => ∀ x ∈ xs, x.ok) q.1 ∧ ((fun xs => ∀ x ∈ xs, x.ok) q.2.1 ∧ (wI q.2.2))) rfl (cof (t := 22) rfl) opens_Hds (consF (α := List Act) (β := List Nt × Int) (sz := 1) (sz2 := 2) (enc1 := (fun xs => [sl 4 eAct xs])) (enc2 := fun q => (fun xs => [sl 3 eNt xs]) q.1 ++ (eInt q.2)) (wf1 := (fun xs => ∀ x ∈ xs, x.ok)) (wf2 := fun q => (fun xs => ∀ x ∈ xs, x.ok) q.1 ∧ (wI q.2)) rfl (cof (t := 23) rfl) opens_Acts (consF (α := List Nt) (β := Int) (sz := 1) (sz2 := 1) (enc1 := (fun xs => [sl 3 eNt xs])) (enc2 := fun q => eInt q) (wf1 := (fun xs => ∀ x ∈ xs, x.ok)) (wf2 := fun q => wI q) rfl (cof (t := 24) rfl) opens_Nts (OpensF.one rfl (cof (t := 3) rfl) opens_i) rfl) rfl) rfl)
  exact h.to (fun p => ⟨p.1, p.2.1, p.2.2.1, p.2.2.2⟩) (fun _ => rfl) (fun p h => ⟨h.1, h.2.1, h.2.2.1, wf_i64 h.2.2.2⟩)
theorem opens_ID3 : Opens Try.prog 79 eID ID.ok := by
  have h : Opens Try.prog 79 (fun p : Int × Int × Int => eInt p.1 ++ (eInt p.2.1 ++ (eInt p.2.2))) (fun p => wI p.1 ∧ (wI p.2.1 ∧ (wI p.2.2))) := opens_struct (und (t := 79) rfl) (cof (t := 79) rfl) (consF (α := Int) (β := Int × Int) (sz := 1) (sz2 := 2) (enc1 := eInt) (enc2 := fun q => eInt q.1 ++ (eInt q.2)) (wf1 := wI) (wf2 := fun q => wI q.1 ∧ (wI q.2)) rfl (cof (t := 3) rfl) opens_i (consF (α := Int) (β := Int) (sz := 1) (sz2 := 1) (enc1 := eInt) (enc2 := fun q => eInt q) (wf1 := wI) (wf2 := fun q => wI q) rfl (cof (t := 3) rfl) opens_i (OpensF.one rfl (cof (t := 3) rfl) opens_i) rfl) rfl)
  exact h.to (fun p => ⟨p.1, p.2.1, p.2.2⟩) (fun _ => rfl) (fun p h => ⟨wf_i64 h.1, wf_i64 h.2.1, wf_i64 h.2.2⟩)
theorem opens_Lcl : Opens Try.prog 66 eLcl Lcl.ok := by
  have h : Opens Try.prog 66 (fun p : List Int × Bool × Int × Int × Int => (fun xs => [sl 1 eInt xs]) p.1 ++ (eBoo p.2.1 ++ (eInt p.2.2.1 ++ (eInt p.2.2.2.1 ++ (eInt p.2.2.2.2))))) (fun p => (fun xs => ∀ x ∈ xs, R64 x) p.1 ∧ (wB p.2.1 ∧ (wI p.2.2.1 ∧ (wI p.2.2.2.1 ∧ (wI p.2.2.2.2))))) := opens_struct (und (t := 66) rfl) (cof (t := 66) rfl) (consF (α := List Int) (β := Bool × Int × Int × Int) (sz := 1) (sz2 := 4) (enc1 := (fun xs => [sl 1 eInt xs])) (enc2 := fun q => eBoo q.1 ++ (eInt q.2.1 ++ (eInt q.2.2.1 ++ (eInt q.2.2.2)))) (wf1 := (fun xs => ∀ x ∈ xs, R64 x)) (wf2 := fun q => wB q.1 ∧ (wI q.2.1 ∧ (wI q.2.2.1 ∧ (wI q.2.2.2)))) rfl (cof (t := 42) rfl) opens_Ints (consF (α := Bool) (β := Int × Int × Int) (sz := 1) (sz2 := 3) (enc1 := eBoo) (enc2 := fun q => eInt q.1 ++ (eInt q.2.1 ++ (eInt q.2.2))) (wf1 := wB) (wf2 := fun q => wI q.1 ∧ (wI q.2.1 ∧ (wI q.2.2))) rfl (cof (t := 4) rfl) opens_b (consF (α := Int) (β := Int × Int) (sz := 1) (sz2 := 2) (enc1 := eInt) (enc2 := fun q => eInt q.1 ++ (eInt q.2)) (wf1 := wI) (wf2 := fun q => wI q.1 ∧ (wI q.2)) rfl (cof (t := 3) rfl) opens_i (consF (α := Int) (β := Int) (sz := 1) (sz2 := 1) (enc1 := eInt) (enc2 := fun q => eInt q) (wf1 := wI) (wf2 := fun q => wI q) rfl (cof (t := 3) rfl) opens_i (OpensF.one rfl (cof (t := 3) rfl) opens_i) rfl) rfl) rfl) rfl)
  exact h.to (fun p => ⟨p.1, p.2.1, p.2.2.1, p.2.2.2.1, p.2.2.2.2⟩) (fun _ => rfl) (fun p h => ⟨h.1, wf_i64 h.2.2.1, wf_i64 h.2.2.2.1, wf_i64 h.2.2.2.2⟩)
theorem opens_Lcls : Opens Try.prog 27 (fun xs => [sl 5 eLcl xs]) (fun xs => ∀ x ∈ xs, x.ok) :=
  (opens_slice (und (t := 27) rfl) (cof (t := 66) rfl) (by decide) (fun _ => rfl) opens_Lcl).to id (fun _ => rfl) (fun _ h => h.2)
theorem opens_Msg : Opens Try.prog 81 eMsg Msg.ok := by
  have h : Opens Try.prog 81 (fun p : ID × Nt => eID p.1 ++ (eNt p.2)) (fun p => ID.ok p.1 ∧ (Nt.ok p.2)) := opens_struct (und (t := 81) rfl) (cof (t := 81) rfl) (consF (α := ID) (β := Nt) (sz := 3) (sz2 := 3) (enc1 := eID) (enc2 := fun q => eNt q) (wf1 := ID.ok) (wf2 := fun q => Nt.ok q) rfl (cof (t := 79) rfl) opens_ID3 (OpensF.one rfl (cof (t := 63) rfl) opens_Nt) rfl)
  exact h.to (fun p => ⟨p.1, p.2⟩) (fun _ => rfl) (fun p h => ⟨h.1, h.2⟩)
theorem opens_Msgs : Opens Try.prog 28 (fun xs => [sl 6 eMsg xs]) (fun xs => ∀ x ∈ xs, x.ok) :=
  (opens_slice (und (t := 28) rfl) (cof (t := 81) rfl) (by decide) (fun _ => rfl) opens_Msg).to id (fun _ => rfl) (fun _ h => h.2)
theorem opens_Bg : Opens Try.prog 30 eBg Bg.ok := by
  have h : Opens Try.prog 30 (fun p : Int × Int × Int × Int => eInt p.1 ++ (eInt p.2.1 ++ (eInt p.2.2.1 ++ (eInt p.2.2.2)))) (fun p => wI p.1 ∧ (wI p.2.1 ∧ (wI p.2.2.1 ∧ (wI p.2.2.2)))) := opens_struct (und (t := 30) rfl) (cof (t := 30) rfl) (consF (α := Int) (β := Int × Int × Int) (sz := 1) (sz2 := 3) (enc1 := eInt) (enc2 := fun q => eInt q.1 ++ (eInt q.2.1 ++ (eInt q.2.2))) (wf1 := wI) (wf2 := fun q => wI q.1 ∧ (wI q.2.1 ∧ (wI q.2.2))) rfl (cof (t := 3) rfl) opens_i (consF (α := Int) (β := Int × Int) (sz := 1) (sz2 := 2) (enc1 := eInt) (enc2 := fun q => eInt q.1 ++ (eInt q.2)) (wf1 := wI) (wf2 := fun q => wI q.1 ∧ (wI q.2)) rfl (cof (t := 3) rfl) opens_i (consF (α := Int) (β := Int) (sz := 1) (sz2 := 1) (enc1 := eInt) (enc2 := fun q => eInt q) (wf1 := wI) (wf2 := fun q => wI q) rfl (cof (t := 3) rfl) opens_i (OpensF.one rfl (cof (t := 3) rfl) opens_i) rfl) rfl) rfl)
  exact h.to (fun p => ⟨p.1, p.2.1, p.2.2.1, p.2.2.2⟩) (fun _ => rfl) (fun p h => ⟨wf_i64 h.1, wf_i64 h.2.1, wf_i64 h.2.2.1, wf_i64 h.2.2.2⟩)
theorem opens_Wd : Opens Try.prog 32 eWd Wd.ok := by
  have h : Opens Try.prog 32 (fun p : List Lcl × List Msg × Bg => (fun xs => [sl 5 eLcl xs]) p.1 ++ ((fun xs => [sl 6 eMsg xs]) p.2.1 ++ (eBg p.2.2))) (fun p => (fun xs => ∀ x ∈ xs, x.ok) p.1 ∧ ((fun xs => ∀ x ∈ xs, x.ok) p.2.1 ∧ (Bg.ok p.2.2))) := opens_struct (und (t := 32) rfl) (cof (t := 32) rfl) (consF (α := List Lcl) (β := List Msg × Bg) (sz := 1) (sz2 := 5) (enc1 := (fun xs => [sl 5 eLcl xs])) (enc2 := fun q => (fun xs => [sl 6 eMsg xs]) q.1 ++ (eBg q.2)) (wf1 := (fun xs => ∀ x ∈ xs, x.ok)) (wf2 := fun q => (fun xs => ∀ x ∈ xs, x.ok) q.1 ∧ (Bg.ok q.2)) rfl (cof (t := 27) rfl) opens_Lcls (consF (α := List Msg) (β := Bg) (sz := 1) (sz2 := 4) (enc1 := (fun xs => [sl 6 eMsg xs])) (enc2 := fun q => eBg q) (wf1 := (fun xs => ∀ x ∈ xs, x.ok)) (wf2 := fun q => Bg.ok q) rfl (cof (t := 28) rfl) opens_Msgs (OpensF.one rfl (cof (t := 30) rfl) opens_Bg) rfl) rfl)
  exact h.to (fun p => ⟨p.1, p.2.1, p.2.2⟩) (fun _ => rfl) (fun p h => ⟨h.1, h.2.1, h.2.2⟩)
end Go.Proofs.Ytlimecfjpfaljaa.W
end
