/- Texts merged: O3. -/
import Derived.Test.YtlimecfjpfaljaaDoorM17
import Derived.Test.YtlimecfjpfaljaaDoorM27
section
/- What comes in: programs, worlds, watches. Printed by opens.py. -/
set_option linter.unusedVariables false
set_option linter.unusedSimpArgs false
set_option maxRecDepth 100000
namespace Go.Proofs.YtlimecfjpfaljaaDoor.W
open Go Go.Sy Go.RowKit

def eBoo (b : Bool) : List PV := [bl b]
def wB (b : Bool) : Prop := True
theorem opens_b : Opens Tryd.prog 4 eBoo wB := opens_bool (und (t := 4) rfl)
theorem opens_Instr : Opens Tryd.prog 58 eInstr Instr.ok := by
  have h : Opens Tryd.prog 58 (fun p : Int × Int => eInt p.1 ++ (eInt p.2)) (fun p => wI p.1 ∧ (wI p.2)) := opens_struct (und (t := 58) rfl) (cof (t := 58) rfl) (consF (α := Int) (β := Int) (sz := 1) (sz2 := 1) (enc1 := eInt) (enc2 := fun q => eInt q) (wf1 := wI) (wf2 := fun q => wI q) rfl (cof (t := 3) rfl) opens_i (OpensF.one rfl (cof (t := 3) rfl) opens_i) rfl)
  exact h.to (fun p => ⟨p.1, p.2⟩) (fun _ => rfl) (fun p h => ⟨wf_i64 h.1, wf_i64 h.2⟩)
theorem opens_Instrs : Opens Tryd.prog 59 (fun xs => [sl 2 eInstr xs]) (fun xs => ∀ x ∈ xs, x.ok) :=
  (opens_slice (und (t := 59) rfl) (cof (t := 58) rfl) (by decide) (fun _ => rfl) opens_Instr).to id (fun _ => rfl) (fun _ h => h.2)
theorem opens_W : Opens Tryd.prog 60 eW (fun xs => ∀ x ∈ xs, x.ok) :=
  (opens_slice (und (t := 60) rfl) (cof (t := 58) rfl) (by decide) (fun _ => rfl) opens_Instr).to id (fun _ => rfl) (fun _ h => h.2)
theorem opens_Ws : Opens Tryd.prog 61 (fun xs => [sl 1 eW xs]) (fun xs => ∀ x ∈ xs, ∀ i ∈ x, i.ok) :=
  (opens_slice (und (t := 61) rfl) (cof (t := 60) rfl) (by decide) (fun _ => rfl) opens_W).to id (fun _ => rfl) (fun _ h => h.2)
theorem opens_Hd : Opens Tryd.prog 70 eHd Hd.ok := by
  have h : Opens Tryd.prog 70 (fun p : Int × List Instr => eInt p.1 ++ ((fun xs => [sl 2 eInstr xs]) p.2)) (fun p => wI p.1 ∧ ((fun xs => ∀ x ∈ xs, x.ok) p.2)) := opens_struct (und (t := 70) rfl) (cof (t := 70) rfl) (consF (α := Int) (β := List Instr) (sz := 1) (sz2 := 1) (enc1 := eInt) (enc2 := fun q => (fun xs => [sl 2 eInstr xs]) q) (wf1 := wI) (wf2 := fun q => (fun xs => ∀ x ∈ xs, x.ok) q) rfl (cof (t := 3) rfl) opens_i (OpensF.one rfl (cof (t := 59) rfl) opens_Instrs) rfl)
  exact h.to (fun p => ⟨p.1, p.2⟩) (fun _ => rfl) (fun p h => ⟨wf_i64 h.1, h.2⟩)
theorem opens_Hds : Opens Tryd.prog 22 (fun xs => [sl 2 eHd xs]) (fun xs => ∀ x ∈ xs, x.ok) :=
  (opens_slice (und (t := 22) rfl) (cof (t := 70) rfl) (by decide) (fun _ => rfl) opens_Hd).to id (fun _ => rfl) (fun _ h => h.2)
theorem opens_Act : Opens Tryd.prog 72 eAct Act.ok := by
  have h : Opens Tryd.prog 72 (fun p : List Int × Int × Int × Bool => (fun xs => [sl 1 eInt xs]) p.1 ++ (eInt p.2.1 ++ (eInt p.2.2.1 ++ (eBoo p.2.2.2)))) (fun p => (fun xs => ∀ x ∈ xs, R64 x) p.1 ∧ (wI p.2.1 ∧ (wI p.2.2.1 ∧ (wB p.2.2.2)))) := opens_struct (und (t := 72) rfl) (cof (t := 72) rfl) (consF (α := List Int) (β := Int × Int × Bool) (sz := 1) (sz2 := 3) (enc1 := (fun xs => [sl 1 eInt xs])) (enc2 := fun q => eInt q.1 ++ (eInt q.2.1 ++ (eBoo q.2.2))) (wf1 := (fun xs => ∀ x ∈ xs, R64 x)) (wf2 := fun q => wI q.1 ∧ (wI q.2.1 ∧ (wB q.2.2))) rfl (cof (t := 39) rfl) opens_Ints (consF (α := Int) (β := Int × Bool) (sz := 1) (sz2 := 2) (enc1 := eInt) (enc2 := fun q => eInt q.1 ++ (eBoo q.2)) (wf1 := wI) (wf2 := fun q => wI q.1 ∧ (wB q.2)) rfl (cof (t := 3) rfl) opens_i (consF (α := Int) (β := Bool) (sz := 1) (sz2 := 1) (enc1 := eInt) (enc2 := fun q => eBoo q) (wf1 := wI) (wf2 := fun q => wB q) rfl (cof (t := 3) rfl) opens_i (OpensF.one rfl (cof (t := 4) rfl) opens_b) rfl) rfl) rfl)
  exact h.to (fun p => ⟨p.1, p.2.1, p.2.2.1, p.2.2.2⟩) (fun _ => rfl) (fun p h => ⟨h.1, wf_i64 h.2.1, wf_i64 h.2.2.1⟩)
theorem opens_Acts : Opens Tryd.prog 23 (fun xs => [sl 4 eAct xs]) (fun xs => ∀ x ∈ xs, x.ok) :=
  (opens_slice (und (t := 23) rfl) (cof (t := 72) rfl) (by decide) (fun _ => rfl) opens_Act).to id (fun _ => rfl) (fun _ h => h.2)
theorem opens_Nt : Opens Tryd.prog 47 eNt Nt.ok := by
  have h : Opens Tryd.prog 47 (fun p : Int × Int × List Int => eInt p.1 ++ (eInt p.2.1 ++ ((fun xs => [sl 1 eInt xs]) p.2.2))) (fun p => wI p.1 ∧ (wI p.2.1 ∧ ((fun xs => ∀ x ∈ xs, R64 x) p.2.2))) := opens_struct (und (t := 47) rfl) (cof (t := 47) rfl) (consF (α := Int) (β := Int × List Int) (sz := 1) (sz2 := 2) (enc1 := eInt) (enc2 := fun q => eInt q.1 ++ ((fun xs => [sl 1 eInt xs]) q.2)) (wf1 := wI) (wf2 := fun q => wI q.1 ∧ ((fun xs => ∀ x ∈ xs, R64 x) q.2)) rfl (cof (t := 3) rfl) opens_i (consF (α := Int) (β := List Int) (sz := 1) (sz2 := 1) (enc1 := eInt) (enc2 := fun q => (fun xs => [sl 1 eInt xs]) q) (wf1 := wI) (wf2 := fun q => (fun xs => ∀ x ∈ xs, R64 x) q) rfl (cof (t := 3) rfl) opens_i (OpensF.one rfl (cof (t := 39) rfl) opens_Ints) rfl) rfl)
  exact h.to (fun p => ⟨p.1, p.2.1, p.2.2⟩) (fun _ => rfl) (fun p h => ⟨wf_i64 h.1, wf_i64 h.2.1, h.2.2⟩)
theorem opens_Nts : Opens Tryd.prog 24 (fun xs => [sl 3 eNt xs]) (fun xs => ∀ x ∈ xs, x.ok) :=
  (opens_slice (und (t := 24) rfl) (cof (t := 47) rfl) (by decide) (fun _ => rfl) opens_Nt).to id (fun _ => rfl) (fun _ h => h.2)
theorem opens_Pg : Opens Tryd.prog 26 ePg Pg.ok := by
  have h : Opens Tryd.prog 26 (fun p : List Hd × List Act × List Nt × Int => (fun xs => [sl 2 eHd xs]) p.1 ++ ((fun xs => [sl 4 eAct xs]) p.2.1 ++ ((fun xs => [sl 3 eNt xs]) p.2.2.1 ++ (eInt p.2.2.2)))) (fun p => (fun xs => ∀ x ∈ xs, x.ok) p.1 ∧ ((fun xs => ∀ x ∈ xs, x.ok) p.2.1 ∧ ((fun xs => ∀ x ∈ xs, x.ok) p.2.2.1 ∧ (wI p.2.2.2)))) := opens_struct (und (t := 26) rfl) (cof (t := 26) rfl) (consF (α := List Hd) (β := List Act × List Nt × Int) (sz := 1) (sz2 := 3) (enc1 := (fun xs => [sl 2 eHd xs])) (enc2 := fun q => (fun xs => [sl 4 eAct xs]) q.1 ++ ((fun xs => [sl 3 eNt xs]) q.2.1 ++ (eInt q.2.2))) (wf1 := (fun xs => ∀ x ∈ xs, x.ok)) (wf2 := fun q => (fun xs => ∀ x ∈ xs, x.ok) q.1 ∧ ((fun xs => ∀ x ∈ xs, x.ok) q.2.1 ∧ (wI q.2.2))) rfl (cof (t := 22) rfl) opens_Hds (consF (α := List Act) (β := List Nt × Int) (sz := 1) (sz2 := 2) (enc1 := (fun xs => [sl 4 eAct xs])) (enc2 := fun q => (fun xs => [sl 3 eNt xs]) q.1 ++ (eInt q.2)) (wf1 := (fun xs => ∀ x ∈ xs, x.ok)) (wf2 := fun q => (fun xs => ∀ x ∈ xs, x.ok) q.1 ∧ (wI q.2)) rfl (cof (t := 23) rfl) opens_Acts (consF (α := List Nt) (β := Int) (sz := 1) (sz2 := 1) (enc1 := (fun xs => [sl 3 eNt xs])) (enc2 := fun q => eInt q) (wf1 := (fun xs => ∀ x ∈ xs, x.ok)) (wf2 := fun q => wI q) rfl (cof (t := 24) rfl) opens_Nts (OpensF.one rfl (cof (t := 3) rfl) opens_i) rfl) rfl) rfl)
  exact h.to (fun p => ⟨p.1, p.2.1, p.2.2.1, p.2.2.2⟩) (fun _ => rfl) (fun p h => ⟨h.1, h.2.1, h.2.2.1, wf_i64 h.2.2.2⟩)
theorem opens_ID3 : Opens Tryd.prog 49 eID ID.ok := by
  have h : Opens Tryd.prog 49 (fun p : Int × Int × Int => eInt p.1 ++ (eInt p.2.1 ++ (eInt p.2.2))) (fun p => wI p.1 ∧ (wI p.2.1 ∧ (wI p.2.2))) := opens_struct (und (t := 49) rfl) (cof (t := 49) rfl) (consF (α := Int) (β := Int × Int) (sz := 1) (sz2 := 2) (enc1 := eInt) (enc2 := fun q => eInt q.1 ++ (eInt q.2)) (wf1 := wI) (wf2 := fun q => wI q.1 ∧ (wI q.2)) rfl (cof (t := 3) rfl) opens_i (consF (α := Int) (β := Int) (sz := 1) (sz2 := 1) (enc1 := eInt) (enc2 := fun q => eInt q) (wf1 := wI) (wf2 := fun q => wI q) rfl (cof (t := 3) rfl) opens_i (OpensF.one rfl (cof (t := 3) rfl) opens_i) rfl) rfl)
  exact h.to (fun p => ⟨p.1, p.2.1, p.2.2⟩) (fun _ => rfl) (fun p h => ⟨wf_i64 h.1, wf_i64 h.2.1, wf_i64 h.2.2⟩)
theorem opens_Lcl : Opens Tryd.prog 41 eLcl Lcl.ok := by
  have h : Opens Tryd.prog 41 (fun p : List Int × Bool × Int × Int × Int => (fun xs => [sl 1 eInt xs]) p.1 ++ (eBoo p.2.1 ++ (eInt p.2.2.1 ++ (eInt p.2.2.2.1 ++ (eInt p.2.2.2.2))))) (fun p => (fun xs => ∀ x ∈ xs, R64 x) p.1 ∧ (wB p.2.1 ∧ (wI p.2.2.1 ∧ (wI p.2.2.2.1 ∧ (wI p.2.2.2.2))))) := opens_struct (und (t := 41) rfl) (cof (t := 41) rfl) (consF (α := List Int) (β := Bool × Int × Int × Int) (sz := 1) (sz2 := 4) (enc1 := (fun xs => [sl 1 eInt xs])) (enc2 := fun q => eBoo q.1 ++ (eInt q.2.1 ++ (eInt q.2.2.1 ++ (eInt q.2.2.2)))) (wf1 := (fun xs => ∀ x ∈ xs, R64 x)) (wf2 := fun q => wB q.1 ∧ (wI q.2.1 ∧ (wI q.2.2.1 ∧ (wI q.2.2.2)))) rfl (cof (t := 39) rfl) opens_Ints (consF (α := Bool) (β := Int × Int × Int) (sz := 1) (sz2 := 3) (enc1 := eBoo) (enc2 := fun q => eInt q.1 ++ (eInt q.2.1 ++ (eInt q.2.2))) (wf1 := wB) (wf2 := fun q => wI q.1 ∧ (wI q.2.1 ∧ (wI q.2.2))) rfl (cof (t := 4) rfl) opens_b (consF (α := Int) (β := Int × Int) (sz := 1) (sz2 := 2) (enc1 := eInt) (enc2 := fun q => eInt q.1 ++ (eInt q.2)) (wf1 := wI) (wf2 := fun q => wI q.1 ∧ (wI q.2)) rfl (cof (t := 3) rfl) opens_i (consF (α := Int) (β := Int) (sz := 1) (sz2 := 1) (enc1 := eInt) (enc2 := fun q => eInt q) (wf1 := wI) (wf2 := fun q => wI q) rfl (cof (t := 3) rfl) opens_i (OpensF.one rfl (cof (t := 3) rfl) opens_i) rfl) rfl) rfl) rfl)
  exact h.to (fun p => ⟨p.1, p.2.1, p.2.2.1, p.2.2.2.1, p.2.2.2.2⟩) (fun _ => rfl) (fun p h => ⟨h.1, wf_i64 h.2.2.1, wf_i64 h.2.2.2.1, wf_i64 h.2.2.2.2⟩)
theorem opens_Lcls : Opens Tryd.prog 29 (fun xs => [sl 5 eLcl xs]) (fun xs => ∀ x ∈ xs, x.ok) :=
  (opens_slice (und (t := 29) rfl) (cof (t := 41) rfl) (by decide) (fun _ => rfl) opens_Lcl).to id (fun _ => rfl) (fun _ h => h.2)
theorem opens_Msg : Opens Tryd.prog 51 eMsg Msg.ok := by
  have h : Opens Tryd.prog 51 (fun p : ID × Nt => eID p.1 ++ (eNt p.2)) (fun p => ID.ok p.1 ∧ (Nt.ok p.2)) := opens_struct (und (t := 51) rfl) (cof (t := 51) rfl) (consF (α := ID) (β := Nt) (sz := 3) (sz2 := 3) (enc1 := eID) (enc2 := fun q => eNt q) (wf1 := ID.ok) (wf2 := fun q => Nt.ok q) rfl (cof (t := 49) rfl) opens_ID3 (OpensF.one rfl (cof (t := 47) rfl) opens_Nt) rfl)
  exact h.to (fun p => ⟨p.1, p.2⟩) (fun _ => rfl) (fun p h => ⟨h.1, h.2⟩)
theorem opens_Msgs : Opens Tryd.prog 30 (fun xs => [sl 6 eMsg xs]) (fun xs => ∀ x ∈ xs, x.ok) :=
  (opens_slice (und (t := 30) rfl) (cof (t := 51) rfl) (by decide) (fun _ => rfl) opens_Msg).to id (fun _ => rfl) (fun _ h => h.2)
theorem opens_Bg : Opens Tryd.prog 32 eBg Bg.ok := by
  have h : Opens Tryd.prog 32 (fun p : Int × Int × Int × Int => eInt p.1 ++ (eInt p.2.1 ++ (eInt p.2.2.1 ++ (eInt p.2.2.2)))) (fun p => wI p.1 ∧ (wI p.2.1 ∧ (wI p.2.2.1 ∧ (wI p.2.2.2)))) := opens_struct (und (t := 32) rfl) (cof (t := 32) rfl) (consF (α := Int) (β := Int × Int × Int) (sz := 1) (sz2 := 3) (enc1 := eInt) (enc2 := fun q => eInt q.1 ++ (eInt q.2.1 ++ (eInt q.2.2))) (wf1 := wI) (wf2 := fun q => wI q.1 ∧ (wI q.2.1 ∧ (wI q.2.2))) rfl (cof (t := 3) rfl) opens_i (consF (α := Int) (β := Int × Int) (sz := 1) (sz2 := 2) (enc1 := eInt) (enc2 := fun q => eInt q.1 ++ (eInt q.2)) (wf1 := wI) (wf2 := fun q => wI q.1 ∧ (wI q.2)) rfl (cof (t := 3) rfl) opens_i (consF (α := Int) (β := Int) (sz := 1) (sz2 := 1) (enc1 := eInt) (enc2 := fun q => eInt q) (wf1 := wI) (wf2 := fun q => wI q) rfl (cof (t := 3) rfl) opens_i (OpensF.one rfl (cof (t := 3) rfl) opens_i) rfl) rfl) rfl)
  exact h.to (fun p => ⟨p.1, p.2.1, p.2.2.1, p.2.2.2⟩) (fun _ => rfl) (fun p h => ⟨wf_i64 h.1, wf_i64 h.2.1, wf_i64 h.2.2.1, wf_i64 h.2.2.2⟩)
theorem opens_Wd : Opens Tryd.prog 34 eWd Wd.ok := by
  have h : Opens Tryd.prog 34 (fun p : List Lcl × List Msg × Bg => (fun xs => [sl 5 eLcl xs]) p.1 ++ ((fun xs => [sl 6 eMsg xs]) p.2.1 ++ (eBg p.2.2))) (fun p => (fun xs => ∀ x ∈ xs, x.ok) p.1 ∧ ((fun xs => ∀ x ∈ xs, x.ok) p.2.1 ∧ (Bg.ok p.2.2))) := opens_struct (und (t := 34) rfl) (cof (t := 34) rfl) (consF (α := List Lcl) (β := List Msg × Bg) (sz := 1) (sz2 := 5) (enc1 := (fun xs => [sl 5 eLcl xs])) (enc2 := fun q => (fun xs => [sl 6 eMsg xs]) q.1 ++ (eBg q.2)) (wf1 := (fun xs => ∀ x ∈ xs, x.ok)) (wf2 := fun q => (fun xs => ∀ x ∈ xs, x.ok) q.1 ∧ (Bg.ok q.2)) rfl (cof (t := 29) rfl) opens_Lcls (consF (α := List Msg) (β := Bg) (sz := 1) (sz2 := 4) (enc1 := (fun xs => [sl 6 eMsg xs])) (enc2 := fun q => eBg q) (wf1 := (fun xs => ∀ x ∈ xs, x.ok)) (wf2 := fun q => Bg.ok q) rfl (cof (t := 30) rfl) opens_Msgs (OpensF.one rfl (cof (t := 32) rfl) opens_Bg) rfl) rfl)
  exact h.to (fun p => ⟨p.1, p.2.1, p.2.2⟩) (fun _ => rfl) (fun p h => ⟨h.1, h.2.1, h.2.2⟩)
end Go.Proofs.YtlimecfjpfaljaaDoor.W
end
