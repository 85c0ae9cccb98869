/- Walks: the document's orders and numerals. -/
import Derived.Test.YtocfjbopkgmjkaaDoorA4
set_option linter.unusedVariables false
set_option linter.unusedSimpArgs false
set_option linter.unusedSectionVars false
set_option pp.maxSteps 3000
namespace Go.Proofs.YtocfjbopkgmjkaaDoor.W
open Go Go.Sy

def lessR (a b : ID) : Bool := if a.from_ ≠ b.from_ then decide (a.from_ < b.from_) else if a.n ≠ b.n then decide (a.n < b.n) else decide (a.copy < b.copy)
theorem lessR_eq (a b : ID) : lessR a b = lessID a b := by
  unfold lessR lessID orderID orI cmpI
  simp only [orI]
  repeat' split
  all_goals (first | omega | (simp; omega) | simp_all | skip)
  all_goals (try simp_all) <;> (try omega)
theorem rless_ (a b : ID) : Pure Tryd.prog 18 [pID a, pID b] (bl (lessID a b)) := by
  rw [← lessR_eq]
  refine Pure.of_spec (Spec.of_run (fn := Tryd.f18) Tryd.func18 rfl rfl (by kernel_rfl) ?_) (by first | assumption | rfl | (split <;> rfl) | (split <;> split <;> rfl))
  repeat' (first | refine Run.ctl rfl ?_ | (refine Rg.op false tok rfl rfl rfl rfl ?_ ?_ ?_; (first | exact True.intro | omega | (simp; done) | (simp; omega) | decide +kernel); (first | exact trivial | exact .inl rfl | exact .inr rfl)) | (refine Rg.op true tok rfl rfl rfl rfl ?_ ?_ ?_; (first | exact True.intro | omega | (simp; done) | (simp; omega) | decide +kernel); (first | exact trivial | exact .inl rfl | exact .inr rfl)) | refine Rg.nil ?_ | refine Rg.skip rfl rfl rfl ?_ | refine Run.regR ?_ | refine Run.drwR mixed (by kernel_rfl) rfl ?_ | refine Run.condT rfl ?_ | refine Run.condF rfl ?_ | (refine Run.condB rfl (fun hc => ?_) (fun hc => ?_) <;> ((try simp only [cs] at hc))) | ((fail_if_success (refine Rg.lit true rfl ?_)); (fail_if_success (refine Rg.lit false rfl ?_)); refine Rg.guard rfl (fun hc => ?_) (fun hc => ?_) <;> ((try simp only [cs] at hc))))
  all_goals ((first | refine Run.ret tok Tryd.func18 rfl ?_ | refine Run.fall tok Tryd.func18 rfl ?_); refine .ofBool ?_; unfold lessR; simp_all)
theorem rfault_ (e : Ev) : Pure Tryd.prog 26 [pEv e] (bl (faultEv e)) := by
  refine Pure.of_spec (Spec.of_run (fn := Tryd.f26) Tryd.func26 rfl rfl (by kernel_rfl) ?_) (by first | assumption | rfl | (split <;> rfl) | (split <;> split <;> rfl))
  repeat' (first | refine Run.ctl rfl ?_ | (refine Rg.op false tok rfl rfl rfl rfl ?_ ?_ ?_; (first | exact True.intro | omega | (simp; done) | (simp; omega) | decide +kernel); (first | exact trivial | exact .inl rfl | exact .inr rfl)) | (refine Rg.op true tok rfl rfl rfl rfl ?_ ?_ ?_; (first | exact True.intro | omega | (simp; done) | (simp; omega) | decide +kernel); (first | exact trivial | exact .inl rfl | exact .inr rfl)) | refine Rg.nil ?_ | refine Rg.skip rfl rfl rfl ?_ | refine Run.regR ?_ | refine Run.drwR mixed (by kernel_rfl) rfl ?_ | refine Run.condT rfl ?_ | refine Run.condF rfl ?_ | (refine Run.condB rfl (fun hc => ?_) (fun hc => ?_) <;> ((try simp only [cs] at hc))) | ((fail_if_success (refine Rg.lit true rfl ?_)); (fail_if_success (refine Rg.lit false rfl ?_)); refine Rg.guard rfl (fun hc => ?_) (fun hc => ?_) <;> ((try simp only [cs] at hc))))
  all_goals ((first | refine Run.ret tok Tryd.func26 rfl ?_ | refine Run.fall tok Tryd.func26 rfl ?_); refine .ofBool ?_; simp_all [faultEv])
  all_goals omega
theorem orderID_zero (a b : ID) : orderID a b = 0 ↔ a = b := by
  obtain ⟨x1, x2, x3⟩ := a
  obtain ⟨y1, y2, y3⟩ := b
  simp only [orderID, orI, cmpI, ID.mk.injEq]
  repeat' split
  all_goals (first | omega | (constructor <;> intro h <;> omega))
theorem cmpI_zero (a b : Int) : cmpI a b = 0 ↔ a = b := by
  unfold cmpI
  repeat' split
  all_goals (constructor <;> intro h <;> omega)
theorem cmpI_neg (a b : Int) : decide (cmpI a b < 0) = decide (a < b) := by
  unfold cmpI
  repeat' split
  all_goals (simp; try omega)
theorem orderEv_eq (a b : Ev) : orderEv a b = if a.kind ≠ b.kind then cmpI a.kind b.kind else if a.id ≠ b.id then orderID a.id b.id else cmpI a.who b.who := by
  unfold orderEv
  simp only [orI, ne_eq, cmpI_zero, orderID_zero]
  repeat' split
  all_goals (first | rfl | simp_all [cmpI])
theorem lessEv_eq (a b : Ev) : lessEv a b = if a.kind ≠ b.kind then decide (a.kind < b.kind) else if a.id ≠ b.id then lessID a.id b.id else decide (a.who < b.who) := by
  unfold lessEv lessID
  simp only [orderEv_eq]
  repeat' split
  all_goals (first | rfl | exact cmpI_neg _ _)
theorem rbefore_ (a b : Ev) : Pure Tryd.prog 22 [pEv a, pEv b] (bl (lessEv a b)) := by
  rw [lessEv_eq]
  refine Pure.of_spec (Spec.of_run (fn := Tryd.f22) Tryd.func22 rfl rfl (by kernel_rfl) ?_) (by first | assumption | rfl | (split <;> rfl) | (split <;> split <;> rfl))
  repeat' (first | refine Rg.any rfl rfl rfl (fun _ hq => G_eqStruct tok (xs := [a.id.from_, a.id.n, a.id.copy]) (ys := [b.id.from_, b.id.n, b.id.copy]) rfl (by kernel_rfl) rfl rfl rfl rfl rfl rfl hq) (by first | exact trivial | exact .inl rfl | exact .inr rfl) ?_ | refine Run.ctl rfl ?_ | (refine Rg.op false tok rfl rfl rfl rfl ?_ ?_ ?_; (first | exact True.intro | omega | (simp; done) | (simp; omega) | decide +kernel); (first | exact trivial | exact .inl rfl | exact .inr rfl)) | refine Rg.call (rless_ a.id b.id) rfl rfl rfl rfl rfl ⟨⟨.refl _, .refl _, trivial⟩, rfl⟩ ?_ | (refine Rg.op true tok rfl rfl rfl rfl ?_ ?_ ?_; (first | exact True.intro | omega | (simp; done) | (simp; omega) | decide +kernel); (first | exact trivial | exact .inl rfl | exact .inr rfl)) | refine Rg.nil ?_ | refine Rg.skip rfl rfl rfl ?_ | refine Run.regR ?_ | refine Run.drwR mixed (by kernel_rfl) rfl ?_ | refine Run.condT rfl ?_ | refine Run.condF rfl ?_ | (refine Run.condB rfl (fun hc => ?_) (fun hc => ?_) <;> ((try simp only [cs] at hc))) | ((fail_if_success (refine Rg.lit true rfl ?_)); (fail_if_success (refine Rg.lit false rfl ?_)); refine Rg.guard rfl (fun hc => ?_) (fun hc => ?_) <;> ((try simp only [cs] at hc))))
  all_goals ((first | refine Run.ret tok Tryd.func22 rfl ?_ | refine Run.fall tok Tryd.func22 rfl ?_); refine .ofBool ?_)
  · rw [if_pos hc]
  · rename_i hk
    rw [if_neg (by simp [hk]), if_pos (fun h => hc (by rw [h]))]
  · rename_i hk
    have hi : a.id = b.id := by
      simp at hc
      obtain ⟨c1, c2, c3⟩ := hc
      cases ha : a.id; cases hb : b.id
      simp_all
    rw [if_neg (by simp [hk]), if_neg (by simp [hi])]
end Go.Proofs.YtocfjbopkgmjkaaDoor.W
