/- Texts merged: D1, D2, D3, P5, P6, P7, D4, D5, D6. -/
import Derived.Test.YtffckdfcmdmnoaaDoorM16
section
/- Walks: instructions, and what a program may be (chapters 1 and 3). -/
set_option linter.unusedVariables false
set_option linter.unusedSimpArgs false
set_option linter.unusedSectionVars false
set_option pp.maxSteps 3000
set_option maxHeartbeats 1000000
namespace Go.Proofs.YtffckdfcmdmnoaaDoor.W
open Go Go.Sy

theorem opsValid_ (op : Int) : Pure Tryd.prog 75 [i64 op] (bl (opValid op)) := by
  refine Pure.of_spec (Spec.of_run (fn := Tryd.f75) Tryd.func75 rfl rfl (by kernel_rfl) ?_) (by first | assumption | rfl | (split <;> rfl) | (split <;> split <;> rfl))
  repeat' (first | refine Run.ctl rfl ?_ | (refine Rg.op false tok rfl rfl rfl rfl ?_ ?_ ?_; (first | exact ⟨⟩ | omega | focus (simp <;> omega) | decide +kernel); (first | exact trivial | exact rfl | exact .inl rfl | exact .inr rfl)) | (refine Rg.op true tok rfl rfl rfl rfl ?_ ?_ ?_; (first | exact ⟨⟩ | omega | focus (simp <;> omega) | decide +kernel); (first | exact trivial | exact rfl | exact .inl rfl | exact .inr rfl)) | refine Rg.nil ?_ | refine Rg.skip rfl rfl rfl ?_ | refine Run.regR ?_ | refine Run.condT rfl ?_ | refine Run.condF rfl ?_ | ((first | refine Run.condB rfl (fun hc => ?_) (fun hc => ?_) | ((fail_if_success (refine Rg.lit true rfl ?_)); (fail_if_success (refine Rg.lit false rfl ?_)); refine Rg.guard rfl (fun hc => ?_) (fun hc => ?_))) <;> ((try simp only [cs] at hc))))
  all_goals ((first | refine Run.ret tok Tryd.func75 rfl ?_ | refine Run.fall tok Tryd.func75 rfl ?_); refine .ofBool ?_; simp only [opValid]; first | rfl | (simp; omega))
theorem opsOperand_ (op : Int) : Pure Tryd.prog 74 [i64 op] (i64 (operand op)) := by
  refine Pure.of_spec (Spec.of_run (fn := Tryd.f74) Tryd.func74 rfl rfl (by kernel_rfl) ?_) (by first | assumption | rfl | (split <;> rfl) | (split <;> split <;> rfl))
  repeat' (first | refine Run.ctl rfl ?_ | (refine Rg.op false tok rfl rfl rfl rfl ?_ ?_ ?_; (first | exact ⟨⟩ | omega | focus (simp <;> omega) | decide +kernel); (first | exact trivial | exact rfl | exact .inl rfl | exact .inr rfl)) | (refine Rg.op true tok rfl rfl rfl rfl ?_ ?_ ?_; (first | exact ⟨⟩ | omega | focus (simp <;> omega) | decide +kernel); (first | exact trivial | exact rfl | exact .inl rfl | exact .inr rfl)) | refine Rg.nil ?_ | refine Rg.skip rfl rfl rfl ?_ | refine Run.regR ?_ | refine Run.condT rfl ?_ | refine Run.condF rfl ?_ | ((first | refine Run.condB rfl (fun hc => ?_) (fun hc => ?_) | ((fail_if_success (refine Rg.lit true rfl ?_)); (fail_if_success (refine Rg.lit false rfl ?_)); refine Rg.guard rfl (fun hc => ?_) (fun hc => ?_))) <;> ((try simp only [cs] at hc); (first | ((exfalso; omega); done) | skip))))
  all_goals ((first | refine Run.ret tok Tryd.func74 rfl ?_ | refine Run.fall tok Tryd.func74 rfl ?_); refine .ofInt ?_; unfold operand; repeat' split) <;> omega
theorem pops_at (op : Int) : opPops op = if op = 4 ∨ (9 ≤ op ∧ op ≤ 13) ∨ (15 ≤ op ∧ op ≤ 18) then 2 else if op = 2 ∨ op = 3 ∨ op = 6 ∨ op = 14 ∨ op = 19 ∨ op = 21 ∨ op = 22 then 1 else 0 := by
  unfold opPops
  by_cases h : 1 ≤ op ∧ op ≤ 25
  · have hv : opValid op = true := by simp [opValid, h]
    rw [if_pos hv]
    obtain ⟨k, rfl⟩ : ∃ k : Nat, op = k := ⟨op.toNat, by omega⟩
    have hk : k < 26 := by omega
    have hall : ∀ k : Nat, k < 26 → 1 ≤ k → popsT.getD k 0 = if (k : Int) = 4 ∨ (9 ≤ (k : Int) ∧ (k : Int) ≤ 13) ∨ (15 ≤ (k : Int) ∧ (k : Int) ≤ 18) then 2 else if (k : Int) = 2 ∨ (k : Int) = 3 ∨ (k : Int) = 6 ∨ (k : Int) = 14 ∨ (k : Int) = 19 ∨ (k : Int) = 21 ∨ (k : Int) = 22 then 1 else 0 := by decide
    exact hall k hk (by omega)
  · have hv : ¬ opValid op = true := by simp [opValid]; omega
    rw [if_neg hv, if_neg (by omega), if_neg (by omega)]
theorem puts_at (op : Int) : opPuts op = if op = 3 ∨ op = 4 then 2 else if op = 1 ∨ op = 5 ∨ op = 7 ∨ op = 8 ∨ (9 ≤ op ∧ op ≤ 19) then 1 else 0 := by
  unfold opPuts
  by_cases h : 1 ≤ op ∧ op ≤ 25
  · have hv : opValid op = true := by simp [opValid, h]
    rw [if_pos hv]
    obtain ⟨k, rfl⟩ : ∃ k : Nat, op = k := ⟨op.toNat, by omega⟩
    have hk : k < 26 := by omega
    have hall : ∀ k : Nat, k < 26 → 1 ≤ k → putsT.getD k 0 = if (k : Int) = 3 ∨ (k : Int) = 4 then 2 else if (k : Int) = 1 ∨ (k : Int) = 5 ∨ (k : Int) = 7 ∨ (k : Int) = 8 ∨ (9 ≤ (k : Int) ∧ (k : Int) ≤ 19) then 1 else 0 := by decide
    exact hall k hk (by omega)
  · have hv : ¬ opValid op = true := by simp [opValid]; omega
    rw [if_neg hv, if_neg (by omega), if_neg (by omega)]
theorem opsPops_ (op : Int) : Pure Tryd.prog 67 [i64 op] (i64 (opPops op)) := by
  rw [pops_at]
  refine Pure.of_spec (Spec.of_run (fn := Tryd.f67) Tryd.func67 rfl rfl (by kernel_rfl) ?_) (by first | assumption | rfl | (split <;> rfl) | (split <;> split <;> rfl))
  repeat' (first | refine Run.ctl rfl ?_ | (refine Rg.op false tok rfl rfl rfl rfl ?_ ?_ ?_; (first | exact ⟨⟩ | omega | focus (simp <;> omega) | decide +kernel); (first | exact trivial | exact rfl | exact .inl rfl | exact .inr rfl)) | (refine Rg.op true tok rfl rfl rfl rfl ?_ ?_ ?_; (first | exact ⟨⟩ | omega | focus (simp <;> omega) | decide +kernel); (first | exact trivial | exact rfl | exact .inl rfl | exact .inr rfl)) | refine Rg.nil ?_ | refine Rg.skip rfl rfl rfl ?_ | refine Run.regR ?_ | refine Run.condT rfl ?_ | refine Run.condF rfl ?_ | ((first | refine Run.condB rfl (fun hc => ?_) (fun hc => ?_) | ((fail_if_success (refine Rg.lit true rfl ?_)); (fail_if_success (refine Rg.lit false rfl ?_)); refine Rg.guard rfl (fun hc => ?_) (fun hc => ?_))) <;> ((try simp only [cs] at hc); (first | ((exfalso; omega); done) | skip))))
  all_goals ((first | refine Run.ret tok Tryd.func67 rfl ?_ | refine Run.fall tok Tryd.func67 rfl ?_); refine .ofInt ?_; repeat' split) <;> omega
theorem opsPuts_ (op : Int) : Pure Tryd.prog 55 [i64 op] (i64 (opPuts op)) := by
  rw [puts_at]
  refine Pure.of_spec (Spec.of_run (fn := Tryd.f55) Tryd.func55 rfl rfl (by kernel_rfl) ?_) (by first | assumption | rfl | (split <;> rfl) | (split <;> split <;> rfl))
  repeat' (first | refine Run.ctl rfl ?_ | (refine Rg.op false tok rfl rfl rfl rfl ?_ ?_ ?_; (first | exact ⟨⟩ | omega | focus (simp <;> omega) | decide +kernel); (first | exact trivial | exact rfl | exact .inl rfl | exact .inr rfl)) | (refine Rg.op true tok rfl rfl rfl rfl ?_ ?_ ?_; (first | exact ⟨⟩ | omega | focus (simp <;> omega) | decide +kernel); (first | exact trivial | exact rfl | exact .inl rfl | exact .inr rfl)) | refine Rg.nil ?_ | refine Rg.skip rfl rfl rfl ?_ | refine Run.regR ?_ | refine Run.condT rfl ?_ | refine Run.condF rfl ?_ | ((first | refine Run.condB rfl (fun hc => ?_) (fun hc => ?_) | ((fail_if_success (refine Rg.lit true rfl ?_)); (fail_if_success (refine Rg.lit false rfl ?_)); refine Rg.guard rfl (fun hc => ?_) (fun hc => ?_))) <;> ((try simp only [cs] at hc); (first | ((exfalso; omega); done) | skip))))
  all_goals ((first | refine Run.ret tok Tryd.func55 rfl ?_ | refine Run.fall tok Tryd.func55 rfl ?_); refine .ofInt ?_; repeat' split) <;> omega
theorem instr_ (p : Pg) (h : Hd) (i : Instr) : Pure Tryd.prog 65 [pPg p, pHd h, pInstr i] (i64 (instrWhy p h i)) := by
  have hV := opsValid_ i.op
  have hO := opsOperand_ i.op
  unfold instrWhy
  cases hv : opValid i.op with
  | false =>
    rw [hv] at hV
    rw [if_pos (.inl rfl)]
    refine Pure.of_spec (Spec.of_run (fn := Tryd.f65) Tryd.func65 rfl rfl (by kernel_rfl) ?_) (by first | assumption | rfl | (split <;> rfl) | (split <;> split <;> rfl))
    repeat' (first | refine Run.ctl rfl ?_ | (refine Rg.op false tok rfl rfl rfl rfl ?_ ?_ ?_; (first | exact ⟨⟩ | omega | focus (simp <;> omega) | decide +kernel); (first | exact trivial | exact rfl | exact .inl rfl | exact .inr rfl)) | refine Rg.call (hO) rfl rfl rfl rfl rfl ⟨⟨.refl _, trivial⟩, rfl⟩ ?_ | refine Rg.call (hV) rfl rfl rfl rfl rfl ⟨⟨.refl _, trivial⟩, rfl⟩ ?_ | (refine Rg.op true tok rfl rfl rfl rfl ?_ ?_ ?_; (first | exact ⟨⟩ | omega | focus (simp <;> omega) | decide +kernel); (first | exact trivial | exact rfl | exact .inl rfl | exact .inr rfl)) | refine Rg.nil ?_ | refine Rg.skip rfl rfl rfl ?_ | refine Run.regR ?_ | refine Run.condT rfl ?_ | refine Run.condF rfl ?_ | ((first | refine Run.condB rfl (fun hc => ?_) (fun hc => ?_) | ((fail_if_success (refine Rg.lit true rfl ?_)); (fail_if_success (refine Rg.lit false rfl ?_)); refine Rg.guard rfl (fun hc => ?_) (fun hc => ?_))) <;> ((try simp only [cs] at hc); (first | ((exact absurd rfl hc); done) | ((exfalso; omega); done) | skip))))
    all_goals ((first | refine Run.ret tok Tryd.func65 rfl ?_ | refine Run.fall tok Tryd.func65 rfl ?_); exact .refl _)
  | true =>
    rw [hv] at hV
    simp only [Bool.true_eq_false, false_or]
    generalize operand i.op = k at hO
    refine Pure.of_spec (Spec.of_run (fn := Tryd.f65) Tryd.func65 rfl rfl (by kernel_rfl) ?_) (by first | assumption | rfl | (split <;> rfl) | (split <;> split <;> rfl))
    repeat' (first | refine Run.ctl rfl ?_ | (refine Rg.op false tok rfl rfl rfl rfl ?_ ?_ ?_; (first | exact ⟨⟩ | omega | focus (simp <;> omega) | decide +kernel); (first | exact trivial | exact rfl | exact .inl rfl | exact .inr rfl)) | refine Rg.call (hO) rfl rfl rfl rfl rfl ⟨⟨.refl _, trivial⟩, rfl⟩ ?_ | refine Rg.call (hV) rfl rfl rfl rfl rfl ⟨⟨.refl _, trivial⟩, rfl⟩ ?_ | (refine Rg.op true tok rfl rfl rfl rfl ?_ ?_ ?_; (first | exact ⟨⟩ | omega | focus (simp <;> omega) | decide +kernel); (first | exact trivial | exact rfl | exact .inl rfl | exact .inr rfl)) | refine Rg.nil ?_ | refine Rg.skip rfl rfl rfl ?_ | refine Run.regR ?_ | refine Run.condT rfl ?_ | refine Run.condF rfl ?_ | ((first | refine Run.condB rfl (fun hc => ?_) (fun hc => ?_) | ((fail_if_success (refine Rg.lit true rfl ?_)); (fail_if_success (refine Rg.lit false rfl ?_)); refine Rg.guard rfl (fun hc => ?_) (fun hc => ?_))) <;> ((try simp only [cs] at hc); (first | ((exact absurd rfl hc); done) | ((exfalso; omega); done) | skip))))
    all_goals ((first | refine Run.ret tok Tryd.func65 rfl ?_ | refine Run.fall tok Tryd.func65 rfl ?_); refine .ofInt ?_; repeat' split) <;> first | rfl | (exfalso; omega)
end Go.Proofs.YtffckdfcmdmnoaaDoor.W
end
section
/- Walks: what a program may be (chapter 3). -/
set_option linter.unusedVariables false
set_option linter.unusedSimpArgs false
set_option linter.unusedSectionVars false
set_option pp.maxSteps 3000
set_option maxHeartbeats 1000000
namespace Go.Proofs.YtffckdfcmdmnoaaDoor.W
open Go Go.Sy

theorem noteWhy_ (p : Pg) (n : Nt) : Pure Tryd.prog 52 [pPg p, pNt n] (i64 (noteWhy p n)) := by
  obtain ⟨to_, hd, args⟩ := n
  by_cases h0 : 0 ≤ hd
  · obtain ⟨k, rfl⟩ : ∃ k : Nat, hd = k := ⟨hd.toNat, by omega⟩
    refine Pure.of_spec (Spec.of_run (fn := Tryd.f52) Tryd.func52 rfl rfl (by kernel_rfl) ?_) (by first | assumption | rfl | (split <;> rfl) | (split <;> split <;> rfl))
    repeat' (first | refine Run.ctl rfl ?_ | (refine Rg.op false tok rfl rfl rfl rfl ?_ ?_ ?_; (first | exact ⟨⟩ | omega | focus (simp <;> omega) | decide +kernel); (first | exact trivial | exact rfl | exact .inl rfl | exact .inr rfl | focus ((repeat (first | exact trivial | (refine ⟨Stay.op false tok rfl rfl rfl ?_ (fun t ht => by cases ht; rfl), ?_⟩; (first | exact ⟨⟩ | omega | focus (simp <;> omega) | decide +kernel)) | (refine ⟨Stay.op true tok rfl rfl rfl ?_ (fun t ht => by cases ht; rfl), ?_⟩; (first | exact ⟨⟩ | omega | focus (simp <;> omega) | decide +kernel)) | refine ⟨Stay.skip rfl rfl (fun t ht => by cases ht; rfl), ?_⟩)); done))) | (refine Rg.op true tok rfl rfl rfl rfl ?_ ?_ ?_; (first | exact ⟨⟩ | omega | focus (simp <;> omega) | decide +kernel); (first | exact trivial | exact rfl | exact .inl rfl | exact .inr rfl | focus ((repeat (first | exact trivial | (refine ⟨Stay.op false tok rfl rfl rfl ?_ (fun t ht => by cases ht; rfl), ?_⟩; (first | exact ⟨⟩ | omega | focus (simp <;> omega) | decide +kernel)) | (refine ⟨Stay.op true tok rfl rfl rfl ?_ (fun t ht => by cases ht; rfl), ?_⟩; (first | exact ⟨⟩ | omega | focus (simp <;> omega) | decide +kernel)) | refine ⟨Stay.skip rfl rfl (fun t ht => by cases ht; rfl), ?_⟩)); done))) | refine Rg.nil ?_ | refine Rg.fork ?_ ?_ | refine Rg.skip rfl rfl rfl ?_ | refine Run.regR ?_ | refine Run.drwR mixed (by kernel_rfl) rfl ?_ | refine Run.condT rfl ?_ | refine Run.condF rfl ?_ | ((first | refine Run.condB rfl (fun hc => ?_) (fun hc => ?_) | ((fail_if_success (refine Rg.lit true rfl ?_)); (fail_if_success (refine Rg.lit false rfl ?_)); refine Rg.guard rfl (fun hc => ?_) (fun hc => ?_))) <;> ((try simp only [cs] at hc); (first | ((exfalso; omega); done) | skip))))
    all_goals ((first | refine Run.ret tok Tryd.func52 rfl ?_ | refine Run.fall tok Tryd.func52 rfl ?_); refine .ofInt ?_; simp only [noteWhy, Int.toNat_natCast]; repeat' split) <;> first | rfl | (exfalso; omega) | (exfalso; simp_all; done)
  · refine Pure.of_spec (Spec.of_run (fn := Tryd.f52) Tryd.func52 rfl rfl (by kernel_rfl) ?_) (by first | assumption | rfl | (split <;> rfl) | (split <;> split <;> rfl))
    repeat' (first | refine Run.ctl rfl ?_ | (refine Rg.op false tok rfl rfl rfl rfl ?_ ?_ ?_; (first | exact ⟨⟩ | omega | focus (simp <;> omega) | decide +kernel); (first | exact trivial | exact rfl | exact .inl rfl | exact .inr rfl | focus ((repeat (first | exact trivial | (refine ⟨Stay.op false tok rfl rfl rfl ?_ (fun t ht => by cases ht; rfl), ?_⟩; (first | exact ⟨⟩ | omega | focus (simp <;> omega) | decide +kernel)) | (refine ⟨Stay.op true tok rfl rfl rfl ?_ (fun t ht => by cases ht; rfl), ?_⟩; (first | exact ⟨⟩ | omega | focus (simp <;> omega) | decide +kernel)) | refine ⟨Stay.skip rfl rfl (fun t ht => by cases ht; rfl), ?_⟩)); done))) | (refine Rg.op true tok rfl rfl rfl rfl ?_ ?_ ?_; (first | exact ⟨⟩ | omega | focus (simp <;> omega) | decide +kernel); (first | exact trivial | exact rfl | exact .inl rfl | exact .inr rfl | focus ((repeat (first | exact trivial | (refine ⟨Stay.op false tok rfl rfl rfl ?_ (fun t ht => by cases ht; rfl), ?_⟩; (first | exact ⟨⟩ | omega | focus (simp <;> omega) | decide +kernel)) | (refine ⟨Stay.op true tok rfl rfl rfl ?_ (fun t ht => by cases ht; rfl), ?_⟩; (first | exact ⟨⟩ | omega | focus (simp <;> omega) | decide +kernel)) | refine ⟨Stay.skip rfl rfl (fun t ht => by cases ht; rfl), ?_⟩)); done))) | refine Rg.nil ?_ | refine Rg.fork ?_ ?_ | refine Rg.skip rfl rfl rfl ?_ | refine Run.regR ?_ | refine Run.drwR mixed (by kernel_rfl) rfl ?_ | refine Run.condT rfl ?_ | refine Run.condF rfl ?_ | ((first | refine Run.condB rfl (fun hc => ?_) (fun hc => ?_) | ((fail_if_success (refine Rg.lit true rfl ?_)); (fail_if_success (refine Rg.lit false rfl ?_)); refine Rg.guard rfl (fun hc => ?_) (fun hc => ?_))) <;> ((try simp only [cs] at hc); (first | ((exfalso; omega); done) | skip))))
    all_goals ((first | refine Run.ret tok Tryd.func52 rfl ?_ | refine Run.fall tok Tryd.func52 rfl ?_); refine .ofInt ?_; simp only [noteWhy]; repeat' split) <;> first | rfl | (exfalso; omega) | (exfalso; simp_all; done)
theorem actorWhy_ (p : Pg) (a : Act) : Pure Tryd.prog 50 [pPg p, pAct a] (i64 (actorWhy p a)) := by
  obtain ⟨regs, cap, timer, armed⟩ := a
  by_cases h0 : 0 ≤ timer
  · obtain ⟨k, rfl⟩ : ∃ k : Nat, timer = k := ⟨timer.toNat, by omega⟩
    cases armed <;> (
    refine Pure.of_spec (Spec.of_run (fn := Tryd.f50) Tryd.func50 rfl rfl (by kernel_rfl) ?_) (by first | assumption | rfl | (split <;> rfl) | (split <;> split <;> rfl))
    repeat' (first | refine Run.ctl rfl ?_ | (refine Rg.op false tok rfl rfl rfl rfl ?_ ?_ ?_; (first | exact ⟨⟩ | omega | focus (simp <;> omega) | decide +kernel); (first | exact trivial | exact rfl | exact .inl rfl | exact .inr rfl)) | (refine Rg.op true tok rfl rfl rfl rfl ?_ ?_ ?_; (first | exact ⟨⟩ | omega | focus (simp <;> omega) | decide +kernel); (first | exact trivial | exact rfl | exact .inl rfl | exact .inr rfl)) | refine Rg.nil ?_ | refine Rg.skip rfl rfl rfl ?_ | refine Run.regR ?_ | refine Run.condT rfl ?_ | refine Run.condF rfl ?_ | ((first | refine Run.condB rfl (fun hc => ?_) (fun hc => ?_) | ((fail_if_success (refine Rg.lit true rfl ?_)); (fail_if_success (refine Rg.lit false rfl ?_)); refine Rg.guard rfl (fun hc => ?_) (fun hc => ?_))) <;> ((try simp only [cs] at hc); (first | ((exfalso; omega); done) | skip))))
    all_goals ((first | refine Run.ret tok Tryd.func50 rfl ?_ | refine Run.fall tok Tryd.func50 rfl ?_); refine .ofInt ?_; simp only [actorWhy, Int.toNat_natCast]; repeat' split) <;> first | rfl | (exfalso; omega) | (exfalso; simp_all; done))
  · cases armed <;> (
    refine Pure.of_spec (Spec.of_run (fn := Tryd.f50) Tryd.func50 rfl rfl (by kernel_rfl) ?_) (by first | assumption | rfl | (split <;> rfl) | (split <;> split <;> rfl))
    repeat' (first | refine Run.ctl rfl ?_ | (refine Rg.op false tok rfl rfl rfl rfl ?_ ?_ ?_; (first | exact ⟨⟩ | omega | focus (simp <;> omega) | decide +kernel); (first | exact trivial | exact rfl | exact .inl rfl | exact .inr rfl)) | (refine Rg.op true tok rfl rfl rfl rfl ?_ ?_ ?_; (first | exact ⟨⟩ | omega | focus (simp <;> omega) | decide +kernel); (first | exact trivial | exact rfl | exact .inl rfl | exact .inr rfl)) | refine Rg.nil ?_ | refine Rg.skip rfl rfl rfl ?_ | refine Run.regR ?_ | refine Run.condT rfl ?_ | refine Run.condF rfl ?_ | ((first | refine Run.condB rfl (fun hc => ?_) (fun hc => ?_) | ((fail_if_success (refine Rg.lit true rfl ?_)); (fail_if_success (refine Rg.lit false rfl ?_)); refine Rg.guard rfl (fun hc => ?_) (fun hc => ?_))) <;> ((try simp only [cs] at hc); (first | ((exfalso; omega); done) | skip))))
    all_goals ((first | refine Run.ret tok Tryd.func50 rfl ?_ | refine Run.fall tok Tryd.func50 rfl ?_); refine .ofInt ?_; simp only [actorWhy]; repeat' split) <;> first | rfl | (exfalso; omega) | (exfalso; simp_all; done))
theorem handlerWhy_ (p : Pg) (h : Hd) : Pure Tryd.prog 48 [pPg p, pHd h] (i64 (handlerWhy p h)) := by
  by_cases hb : h.args < 0 ∨ 4 < h.args
  · unfold handlerWhy
    rw [if_pos hb]
    refine Pure.of_spec (Spec.of_run (fn := Tryd.f48) Tryd.func48 rfl rfl (by kernel_rfl) ?_) (by first | assumption | rfl | (split <;> rfl) | (split <;> split <;> rfl))
    repeat' (first | refine Run.ctl rfl ?_ | (refine Rg.op false tok rfl rfl rfl rfl ?_ ?_ ?_; (first | exact ⟨⟩ | omega | focus (simp <;> omega) | decide +kernel); (first | exact trivial | exact rfl | exact .inl rfl | exact .inr rfl)) | (refine Rg.op true tok rfl rfl rfl rfl ?_ ?_ ?_; (first | exact ⟨⟩ | omega | focus (simp <;> omega) | decide +kernel); (first | exact trivial | exact rfl | exact .inl rfl | exact .inr rfl)) | refine Rg.nil ?_ | refine Rg.skip rfl rfl rfl ?_ | refine Run.regR ?_ | refine Run.condT rfl ?_ | refine Run.condF rfl ?_ | ((first | refine Run.condB rfl (fun hc => ?_) (fun hc => ?_) | ((fail_if_success (refine Rg.lit true rfl ?_)); (fail_if_success (refine Rg.lit false rfl ?_)); refine Rg.guard rfl (fun hc => ?_) (fun hc => ?_))) <;> ((try simp only [cs] at hc); (first | ((exfalso; omega); done) | skip))))
    all_goals ((first | refine Run.ret tok Tryd.func48 rfl ?_ | refine Run.fall tok Tryd.func48 rfl ?_); exact .refl _)
  by_cases hl : 64 < h.code.length
  · unfold handlerWhy
    rw [if_neg hb, if_pos hl]
    refine Pure.of_spec (Spec.of_run (fn := Tryd.f48) Tryd.func48 rfl rfl (by kernel_rfl) ?_) (by first | assumption | rfl | (split <;> rfl) | (split <;> split <;> rfl))
    repeat' (first | refine Run.ctl rfl ?_ | (refine Rg.op false tok rfl rfl rfl rfl ?_ ?_ ?_; (first | exact ⟨⟩ | omega | focus (simp <;> omega) | decide +kernel); (first | exact trivial | exact rfl | exact .inl rfl | exact .inr rfl)) | (refine Rg.op true tok rfl rfl rfl rfl ?_ ?_ ?_; (first | exact ⟨⟩ | omega | focus (simp <;> omega) | decide +kernel); (first | exact trivial | exact rfl | exact .inl rfl | exact .inr rfl)) | refine Rg.nil ?_ | refine Rg.skip rfl rfl rfl ?_ | refine Run.regR ?_ | refine Run.condT rfl ?_ | refine Run.condF rfl ?_ | ((first | refine Run.condB rfl (fun hc => ?_) (fun hc => ?_) | ((fail_if_success (refine Rg.lit true rfl ?_)); (fail_if_success (refine Rg.lit false rfl ?_)); refine Rg.guard rfl (fun hc => ?_) (fun hc => ?_))) <;> ((try simp only [cs] at hc); (first | ((exfalso; omega); done) | skip))))
    all_goals ((first | refine Run.ret tok Tryd.func48 rfl ?_ | refine Run.fall tok Tryd.func48 rfl ?_); exact .refl _)
  unfold handlerWhy
  rw [if_neg hb, if_neg hl]
  refine Pure.of_spec (Spec.of_run (fn := Tryd.f48) Tryd.func48 rfl rfl (by kernel_rfl) ?_) (by first | assumption | rfl | (split <;> rfl) | (split <;> split <;> rfl))
  repeat' (first | refine Run.ctl rfl ?_ | (refine Rg.op false tok rfl rfl rfl rfl ?_ ?_ ?_; (first | exact ⟨⟩ | omega | focus (simp <;> omega) | decide +kernel); (first | exact trivial | exact rfl | exact .inl rfl | exact .inr rfl)) | (refine Rg.op true tok rfl rfl rfl rfl ?_ ?_ ?_; (first | exact ⟨⟩ | omega | focus (simp <;> omega) | decide +kernel); (first | exact trivial | exact rfl | exact .inl rfl | exact .inr rfl)) | refine Rg.nil ?_ | refine Rg.skip rfl rfl rfl ?_ | refine Run.regR ?_ | refine Run.condT rfl ?_ | refine Run.condF rfl ?_ | ((first | refine Run.condB rfl (fun hc => ?_) (fun hc => ?_) | ((fail_if_success (refine Rg.lit true rfl ?_)); (fail_if_success (refine Rg.lit false rfl ?_)); refine Rg.guard rfl (fun hc => ?_) (fun hc => ?_))) <;> ((try simp only [cs] at hc); (first | ((exfalso; omega); done) | skip))))
  refine Run.loopN (ι := Nat) (fun i => ([(2, .ptr 0 0 0), (3, .ptr 1 0 0), (21, sl 2 eInstr h.code), (22, i64 h.code.length), (23, i64 i)], [some ⟨26, 4, 1, fun _ => ePg p, false, false⟩, some ⟨58, 2, 1, fun _ => eHd h, false, false⟩])) (fun i => i ≤ h.code.length ∧ firstWhy (instrWhy p h) (h.code.drop i) = firstWhy (instrWhy p h) h.code) (fun i => h.code.length - i) 0 ⟨rfl, rfl, rfl, rfl, rfl, trivial⟩ rfl ⟨by omega, rfl⟩ ?_
  rintro i ⟨hi, hf⟩ back backR
  by_cases hlt : i < h.code.length
  · rw [firstWhy_at hlt] at hf
    by_cases hw : instrWhy p h (h.code.getD i default) = 0
    · rw [if_neg (fun e => e hw)] at hf
      have hin := instr_ p h (h.code.getD i default)
      rw [hw] at hin
      repeat' (first | refine Run.ctl rfl ?_ | (refine Rg.op false tok rfl rfl rfl rfl ?_ ?_ ?_; (first | exact ⟨⟩ | omega | focus (simp <;> omega) | decide +kernel); (first | exact trivial | exact rfl | exact .inl rfl | exact .inr rfl)) | refine Rg.call (hin) rfl rfl rfl rfl rfl ⟨⟨.refl _, .refl _, .refl _, trivial⟩, rfl⟩ ?_ | (refine Rg.op true tok rfl rfl rfl rfl ?_ ?_ ?_; (first | exact ⟨⟩ | omega | focus (simp <;> omega) | decide +kernel); (first | exact trivial | exact rfl | exact .inl rfl | exact .inr rfl)) | refine Rg.nil ?_ | refine Rg.skip rfl rfl rfl ?_ | refine Run.regR ?_ | refine Run.condT rfl ?_ | refine Run.condF rfl ?_ | ((first | refine Run.condB rfl (fun hc => ?_) (fun hc => ?_) | ((fail_if_success (refine Rg.lit true rfl ?_)); (fail_if_success (refine Rg.lit false rfl ?_)); refine Rg.guard rfl (fun hc => ?_) (fun hc => ?_))) <;> ((try simp only [cs] at hc); (first | ((exact absurd rfl hc); done) | ((exfalso; omega); done) | skip))))
      exact backR [0, 1] (i + 1) _ _ ⟨by omega, hf⟩ (by omega) rfl ⟨⟨_, rfl, rfl, rfl, rfl, rfl, fun k hk => .ofEq rfl rfl⟩, ⟨_, rfl, rfl, rfl, rfl, rfl, fun k hk => .ofEq rfl rfl⟩, trivial⟩ ⟨.ptrN rfl rfl, .ptrN rfl rfl, .cl rfl, .cl rfl, .cl rfl, trivial⟩
    · rw [if_pos hw] at hf
      rw [← hf]
      have hin := instr_ p h (h.code.getD i default)
      generalize instrWhy p h (h.code.getD i default) = z at hin hw
      repeat' (first | refine Run.ctl rfl ?_ | (refine Rg.op false tok rfl rfl rfl rfl ?_ ?_ ?_; (first | exact ⟨⟩ | omega | focus (simp <;> omega) | decide +kernel); (first | exact trivial | exact rfl | exact .inl rfl | exact .inr rfl)) | refine Rg.call (hin) rfl rfl rfl rfl rfl ⟨⟨.refl _, .refl _, .refl _, trivial⟩, rfl⟩ ?_ | (refine Rg.op true tok rfl rfl rfl rfl ?_ ?_ ?_; (first | exact ⟨⟩ | omega | focus (simp <;> omega) | decide +kernel); (first | exact trivial | exact rfl | exact .inl rfl | exact .inr rfl)) | refine Rg.nil ?_ | refine Rg.skip rfl rfl rfl ?_ | refine Run.regR ?_ | refine Run.condT rfl ?_ | refine Run.condF rfl ?_ | ((first | refine Run.condB rfl (fun hc => ?_) (fun hc => ?_) | ((fail_if_success (refine Rg.lit true rfl ?_)); (fail_if_success (refine Rg.lit false rfl ?_)); refine Rg.guard rfl (fun hc => ?_) (fun hc => ?_))) <;> ((try simp only [cs] at hc); (first | ((exact absurd hc hw); done) | ((exfalso; omega); done) | skip))))
      (first | refine Run.ret tok Tryd.func48 rfl ?_ | refine Run.fall tok Tryd.func48 rfl ?_)
      exact .refl _
  · obtain rfl : i = h.code.length := by omega
    rw [List.drop_length] at hf
    rw [← hf]
    repeat' (first | refine Run.ctl rfl ?_ | (refine Rg.op false tok rfl rfl rfl rfl ?_ ?_ ?_; (first | exact ⟨⟩ | omega | focus (simp <;> omega) | decide +kernel); (first | exact trivial | exact rfl | exact .inl rfl | exact .inr rfl)) | (refine Rg.op true tok rfl rfl rfl rfl ?_ ?_ ?_; (first | exact ⟨⟩ | omega | focus (simp <;> omega) | decide +kernel); (first | exact trivial | exact rfl | exact .inl rfl | exact .inr rfl)) | refine Rg.nil ?_ | refine Rg.skip rfl rfl rfl ?_ | refine Run.regR ?_ | refine Run.condT rfl ?_ | refine Run.condF rfl ?_ | ((first | refine Run.condB rfl (fun hc => ?_) (fun hc => ?_) | ((fail_if_success (refine Rg.lit true rfl ?_)); (fail_if_success (refine Rg.lit false rfl ?_)); refine Rg.guard rfl (fun hc => ?_) (fun hc => ?_))) <;> ((try simp only [cs] at hc); (first | ((exfalso; omega); done) | skip))))
    (first | refine Run.ret tok Tryd.func48 rfl ?_ | refine Run.fall tok Tryd.func48 rfl ?_)
    exact .refl _
end Go.Proofs.YtffckdfcmdmnoaaDoor.W
end
section
/- Walks: the first error of a list's (chapter 3). -/
set_option linter.unusedVariables false
set_option linter.unusedSimpArgs false
set_option linter.unusedSectionVars false
set_option pp.maxSteps 3000
set_option maxHeartbeats 1000000
namespace Go.Proofs.YtffckdfcmdmnoaaDoor.W
open Go Go.Sy

theorem eachH_ (p : Pg) (F : Hd → Int) (g : FuncId) (l : List Hd) (hl : l.length ≤ 1000) (hp : ∀ x ∈ l, Pure Tryd.prog g [pPg p, pHd x] (i64 (F x))) : Pure Tryd.prog 47 [pPg p, sl 2 eHd l, .func g []] (i64 (firstWhy F l)) := by
  refine Pure.of_spec (Spec.of_run (fn := Tryd.f47) Tryd.func47 rfl rfl (by kernel_rfl) ?_) (by first | assumption | rfl | (split <;> rfl) | (split <;> split <;> rfl))
  repeat' (first | refine Run.ctl rfl ?_ | (refine Rg.op false tok rfl rfl rfl rfl ?_ ?_ ?_; (first | exact ⟨⟩ | omega | focus (simp <;> omega) | decide +kernel); (first | exact trivial | exact rfl | exact .inl rfl | exact .inr rfl)) | (refine Rg.op true tok rfl rfl rfl rfl ?_ ?_ ?_; (first | exact ⟨⟩ | omega | focus (simp <;> omega) | decide +kernel); (first | exact trivial | exact rfl | exact .inl rfl | exact .inr rfl)) | refine Rg.nil ?_ | refine Rg.skip rfl rfl rfl ?_ | refine Run.regR ?_ | refine Run.condT rfl ?_ | refine Run.condF rfl ?_ | ((first | refine Run.condB rfl (fun hc => ?_) (fun hc => ?_) | ((fail_if_success (refine Rg.lit true rfl ?_)); (fail_if_success (refine Rg.lit false rfl ?_)); refine Rg.guard rfl (fun hc => ?_) (fun hc => ?_))) <;> ((try simp only [cs] at hc); (first | ((exfalso; omega); done) | skip))))
  refine Run.loopN (ι := Nat) (fun i => ([(2, .func g []), (3, .ptr 0 0 0), (10, sl 2 eHd l), (11, i64 l.length), (12, i64 i)], [some ⟨26, 4, 1, fun _ => ePg p, false, false⟩])) (fun i => i ≤ l.length ∧ firstWhy F (l.drop i) = firstWhy F l) (fun i => l.length - i) 0 ⟨rfl, rfl, rfl, rfl, rfl, trivial⟩ rfl ⟨by omega, rfl⟩ ?_
  rintro i ⟨hi, hf⟩ back backR
  by_cases hlt : i < l.length
  · rw [firstWhy_at hlt] at hf
    have hm : l.getD i default ∈ l := by rw [List.getD_eq_getElem?_getD, List.getElem?_eq_getElem hlt]; exact List.getElem_mem hlt
    have hin := hp _ hm
    by_cases hw : F (l.getD i default) = 0
    · rw [if_neg (fun e => e hw)] at hf
      rw [hw] at hin
      repeat' (first | refine Run.ctl rfl ?_ | (refine Rg.op false tok rfl rfl rfl rfl ?_ ?_ ?_; (first | exact ⟨⟩ | omega | focus (simp <;> omega) | decide +kernel); (first | exact trivial | exact rfl | exact .inl rfl | exact .inr rfl)) | refine Rg.call (hin) rfl rfl rfl rfl rfl ⟨⟨.refl _, .refl _, trivial⟩, rfl⟩ ?_ | (refine Rg.op true tok rfl rfl rfl rfl ?_ ?_ ?_; (first | exact ⟨⟩ | omega | focus (simp <;> omega) | decide +kernel); (first | exact trivial | exact rfl | exact .inl rfl | exact .inr rfl)) | refine Rg.nil ?_ | refine Rg.skip rfl rfl rfl ?_ | refine Run.regR ?_ | refine Run.condT rfl ?_ | refine Run.condF rfl ?_ | ((first | refine Run.condB rfl (fun hc => ?_) (fun hc => ?_) | ((fail_if_success (refine Rg.lit true rfl ?_)); (fail_if_success (refine Rg.lit false rfl ?_)); refine Rg.guard rfl (fun hc => ?_) (fun hc => ?_))) <;> ((try simp only [cs] at hc); (first | ((exact absurd rfl hc); done) | ((exfalso; omega); done) | skip))))
      exact backR [0] (i + 1) _ _ ⟨by omega, hf⟩ (by omega) rfl ⟨⟨_, rfl, rfl, rfl, rfl, rfl, fun k hk => .ofEq rfl rfl⟩, trivial⟩ ⟨.cl rfl, .ptrN rfl rfl, .cl rfl, .cl rfl, .cl rfl, trivial⟩
    · rw [if_pos hw] at hf
      rw [← hf]
      generalize F (l.getD i default) = z at hin hw
      repeat' (first | refine Run.ctl rfl ?_ | (refine Rg.op false tok rfl rfl rfl rfl ?_ ?_ ?_; (first | exact ⟨⟩ | omega | focus (simp <;> omega) | decide +kernel); (first | exact trivial | exact rfl | exact .inl rfl | exact .inr rfl)) | refine Rg.call (hin) rfl rfl rfl rfl rfl ⟨⟨.refl _, .refl _, trivial⟩, rfl⟩ ?_ | (refine Rg.op true tok rfl rfl rfl rfl ?_ ?_ ?_; (first | exact ⟨⟩ | omega | focus (simp <;> omega) | decide +kernel); (first | exact trivial | exact rfl | exact .inl rfl | exact .inr rfl)) | refine Rg.nil ?_ | refine Rg.skip rfl rfl rfl ?_ | refine Run.regR ?_ | refine Run.condT rfl ?_ | refine Run.condF rfl ?_ | ((first | refine Run.condB rfl (fun hc => ?_) (fun hc => ?_) | ((fail_if_success (refine Rg.lit true rfl ?_)); (fail_if_success (refine Rg.lit false rfl ?_)); refine Rg.guard rfl (fun hc => ?_) (fun hc => ?_))) <;> ((try simp only [cs] at hc); (first | ((exact absurd hc hw); done) | ((exfalso; omega); done) | skip))))
      (first | refine Run.ret tok Tryd.func47 rfl ?_ | refine Run.fall tok Tryd.func47 rfl ?_)
      exact .refl _
  · obtain rfl : i = l.length := by omega
    rw [List.drop_length] at hf
    rw [← hf]
    repeat' (first | refine Run.ctl rfl ?_ | (refine Rg.op false tok rfl rfl rfl rfl ?_ ?_ ?_; (first | exact ⟨⟩ | omega | focus (simp <;> omega) | decide +kernel); (first | exact trivial | exact rfl | exact .inl rfl | exact .inr rfl)) | (refine Rg.op true tok rfl rfl rfl rfl ?_ ?_ ?_; (first | exact ⟨⟩ | omega | focus (simp <;> omega) | decide +kernel); (first | exact trivial | exact rfl | exact .inl rfl | exact .inr rfl)) | refine Rg.nil ?_ | refine Rg.skip rfl rfl rfl ?_ | refine Run.regR ?_ | refine Run.condT rfl ?_ | refine Run.condF rfl ?_ | ((first | refine Run.condB rfl (fun hc => ?_) (fun hc => ?_) | ((fail_if_success (refine Rg.lit true rfl ?_)); (fail_if_success (refine Rg.lit false rfl ?_)); refine Rg.guard rfl (fun hc => ?_) (fun hc => ?_))) <;> ((try simp only [cs] at hc); (first | ((exfalso; omega); done) | skip))))
    (first | refine Run.ret tok Tryd.func47 rfl ?_ | refine Run.fall tok Tryd.func47 rfl ?_)
    exact .refl _
theorem eachA_ (p : Pg) (F : Act → Int) (g : FuncId) (l : List Act) (hl : l.length ≤ 1000) (hp : ∀ x ∈ l, Pure Tryd.prog g [pPg p, pAct x] (i64 (F x))) : Pure Tryd.prog 49 [pPg p, sl 4 eAct l, .func g []] (i64 (firstWhy F l)) := by
  refine Pure.of_spec (Spec.of_run (fn := Tryd.f49) Tryd.func49 rfl rfl (by kernel_rfl) ?_) (by first | assumption | rfl | (split <;> rfl) | (split <;> split <;> rfl))
  repeat' (first | refine Run.ctl rfl ?_ | (refine Rg.op false tok rfl rfl rfl rfl ?_ ?_ ?_; (first | exact ⟨⟩ | omega | focus (simp <;> omega) | decide +kernel); (first | exact trivial | exact rfl | exact .inl rfl | exact .inr rfl)) | (refine Rg.op true tok rfl rfl rfl rfl ?_ ?_ ?_; (first | exact ⟨⟩ | omega | focus (simp <;> omega) | decide +kernel); (first | exact trivial | exact rfl | exact .inl rfl | exact .inr rfl)) | refine Rg.nil ?_ | refine Rg.skip rfl rfl rfl ?_ | refine Run.regR ?_ | refine Run.condT rfl ?_ | refine Run.condF rfl ?_ | ((first | refine Run.condB rfl (fun hc => ?_) (fun hc => ?_) | ((fail_if_success (refine Rg.lit true rfl ?_)); (fail_if_success (refine Rg.lit false rfl ?_)); refine Rg.guard rfl (fun hc => ?_) (fun hc => ?_))) <;> ((try simp only [cs] at hc); (first | ((exfalso; omega); done) | skip))))
  refine Run.loopN (ι := Nat) (fun i => ([(2, .func g []), (3, .ptr 0 0 0), (10, sl 4 eAct l), (11, i64 l.length), (12, i64 i)], [some ⟨26, 4, 1, fun _ => ePg p, false, false⟩])) (fun i => i ≤ l.length ∧ firstWhy F (l.drop i) = firstWhy F l) (fun i => l.length - i) 0 ⟨rfl, rfl, rfl, rfl, rfl, trivial⟩ rfl ⟨by omega, rfl⟩ ?_
  rintro i ⟨hi, hf⟩ back backR
  by_cases hlt : i < l.length
  · rw [firstWhy_at hlt] at hf
    have hm : l.getD i default ∈ l := by rw [List.getD_eq_getElem?_getD, List.getElem?_eq_getElem hlt]; exact List.getElem_mem hlt
    have hin := hp _ hm
    by_cases hw : F (l.getD i default) = 0
    · rw [if_neg (fun e => e hw)] at hf
      rw [hw] at hin
      repeat' (first | refine Run.ctl rfl ?_ | (refine Rg.op false tok rfl rfl rfl rfl ?_ ?_ ?_; (first | exact ⟨⟩ | omega | focus (simp <;> omega) | decide +kernel); (first | exact trivial | exact rfl | exact .inl rfl | exact .inr rfl)) | refine Rg.call (hin) rfl rfl rfl rfl rfl ⟨⟨.refl _, .refl _, trivial⟩, rfl⟩ ?_ | (refine Rg.op true tok rfl rfl rfl rfl ?_ ?_ ?_; (first | exact ⟨⟩ | omega | focus (simp <;> omega) | decide +kernel); (first | exact trivial | exact rfl | exact .inl rfl | exact .inr rfl)) | refine Rg.nil ?_ | refine Rg.skip rfl rfl rfl ?_ | refine Run.regR ?_ | refine Run.condT rfl ?_ | refine Run.condF rfl ?_ | ((first | refine Run.condB rfl (fun hc => ?_) (fun hc => ?_) | ((fail_if_success (refine Rg.lit true rfl ?_)); (fail_if_success (refine Rg.lit false rfl ?_)); refine Rg.guard rfl (fun hc => ?_) (fun hc => ?_))) <;> ((try simp only [cs] at hc); (first | ((exact absurd rfl hc); done) | ((exfalso; omega); done) | skip))))
      exact backR [0] (i + 1) _ _ ⟨by omega, hf⟩ (by omega) rfl ⟨⟨_, rfl, rfl, rfl, rfl, rfl, fun k hk => .ofEq rfl rfl⟩, trivial⟩ ⟨.cl rfl, .ptrN rfl rfl, .cl rfl, .cl rfl, .cl rfl, trivial⟩
    · rw [if_pos hw] at hf
      rw [← hf]
      generalize F (l.getD i default) = z at hin hw
      repeat' (first | refine Run.ctl rfl ?_ | (refine Rg.op false tok rfl rfl rfl rfl ?_ ?_ ?_; (first | exact ⟨⟩ | omega | focus (simp <;> omega) | decide +kernel); (first | exact trivial | exact rfl | exact .inl rfl | exact .inr rfl)) | refine Rg.call (hin) rfl rfl rfl rfl rfl ⟨⟨.refl _, .refl _, trivial⟩, rfl⟩ ?_ | (refine Rg.op true tok rfl rfl rfl rfl ?_ ?_ ?_; (first | exact ⟨⟩ | omega | focus (simp <;> omega) | decide +kernel); (first | exact trivial | exact rfl | exact .inl rfl | exact .inr rfl)) | refine Rg.nil ?_ | refine Rg.skip rfl rfl rfl ?_ | refine Run.regR ?_ | refine Run.condT rfl ?_ | refine Run.condF rfl ?_ | ((first | refine Run.condB rfl (fun hc => ?_) (fun hc => ?_) | ((fail_if_success (refine Rg.lit true rfl ?_)); (fail_if_success (refine Rg.lit false rfl ?_)); refine Rg.guard rfl (fun hc => ?_) (fun hc => ?_))) <;> ((try simp only [cs] at hc); (first | ((exact absurd hc hw); done) | ((exfalso; omega); done) | skip))))
      (first | refine Run.ret tok Tryd.func49 rfl ?_ | refine Run.fall tok Tryd.func49 rfl ?_)
      exact .refl _
  · obtain rfl : i = l.length := by omega
    rw [List.drop_length] at hf
    rw [← hf]
    repeat' (first | refine Run.ctl rfl ?_ | (refine Rg.op false tok rfl rfl rfl rfl ?_ ?_ ?_; (first | exact ⟨⟩ | omega | focus (simp <;> omega) | decide +kernel); (first | exact trivial | exact rfl | exact .inl rfl | exact .inr rfl)) | (refine Rg.op true tok rfl rfl rfl rfl ?_ ?_ ?_; (first | exact ⟨⟩ | omega | focus (simp <;> omega) | decide +kernel); (first | exact trivial | exact rfl | exact .inl rfl | exact .inr rfl)) | refine Rg.nil ?_ | refine Rg.skip rfl rfl rfl ?_ | refine Run.regR ?_ | refine Run.condT rfl ?_ | refine Run.condF rfl ?_ | ((first | refine Run.condB rfl (fun hc => ?_) (fun hc => ?_) | ((fail_if_success (refine Rg.lit true rfl ?_)); (fail_if_success (refine Rg.lit false rfl ?_)); refine Rg.guard rfl (fun hc => ?_) (fun hc => ?_))) <;> ((try simp only [cs] at hc); (first | ((exfalso; omega); done) | skip))))
    (first | refine Run.ret tok Tryd.func49 rfl ?_ | refine Run.fall tok Tryd.func49 rfl ?_)
    exact .refl _
theorem eachN_ (p : Pg) (F : Nt → Int) (g : FuncId) (l : List Nt) (hl : l.length ≤ 1000) (hp : ∀ x ∈ l, Pure Tryd.prog g [pPg p, pNt x] (i64 (F x))) : Pure Tryd.prog 51 [pPg p, sl 3 eNt l, .func g []] (i64 (firstWhy F l)) := by
  refine Pure.of_spec (Spec.of_run (fn := Tryd.f51) Tryd.func51 rfl rfl (by kernel_rfl) ?_) (by first | assumption | rfl | (split <;> rfl) | (split <;> split <;> rfl))
  repeat' (first | refine Run.ctl rfl ?_ | (refine Rg.op false tok rfl rfl rfl rfl ?_ ?_ ?_; (first | exact ⟨⟩ | omega | focus (simp <;> omega) | decide +kernel); (first | exact trivial | exact rfl | exact .inl rfl | exact .inr rfl)) | (refine Rg.op true tok rfl rfl rfl rfl ?_ ?_ ?_; (first | exact ⟨⟩ | omega | focus (simp <;> omega) | decide +kernel); (first | exact trivial | exact rfl | exact .inl rfl | exact .inr rfl)) | refine Rg.nil ?_ | refine Rg.skip rfl rfl rfl ?_ | refine Run.regR ?_ | refine Run.condT rfl ?_ | refine Run.condF rfl ?_ | ((first | refine Run.condB rfl (fun hc => ?_) (fun hc => ?_) | ((fail_if_success (refine Rg.lit true rfl ?_)); (fail_if_success (refine Rg.lit false rfl ?_)); refine Rg.guard rfl (fun hc => ?_) (fun hc => ?_))) <;> ((try simp only [cs] at hc); (first | ((exfalso; omega); done) | skip))))
  refine Run.loopN (ι := Nat) (fun i => ([(2, .func g []), (3, .ptr 0 0 0), (10, sl 3 eNt l), (11, i64 l.length), (12, i64 i)], [some ⟨26, 4, 1, fun _ => ePg p, false, false⟩])) (fun i => i ≤ l.length ∧ firstWhy F (l.drop i) = firstWhy F l) (fun i => l.length - i) 0 ⟨rfl, rfl, rfl, rfl, rfl, trivial⟩ rfl ⟨by omega, rfl⟩ ?_
  rintro i ⟨hi, hf⟩ back backR
  by_cases hlt : i < l.length
  · rw [firstWhy_at hlt] at hf
    have hm : l.getD i default ∈ l := by rw [List.getD_eq_getElem?_getD, List.getElem?_eq_getElem hlt]; exact List.getElem_mem hlt
    have hin := hp _ hm
    by_cases hw : F (l.getD i default) = 0
    · rw [if_neg (fun e => e hw)] at hf
      rw [hw] at hin
      repeat' (first | refine Run.ctl rfl ?_ | (refine Rg.op false tok rfl rfl rfl rfl ?_ ?_ ?_; (first | exact ⟨⟩ | omega | focus (simp <;> omega) | decide +kernel); (first | exact trivial | exact rfl | exact .inl rfl | exact .inr rfl)) | refine Rg.call (hin) rfl rfl rfl rfl rfl ⟨⟨.refl _, .refl _, trivial⟩, rfl⟩ ?_ | (refine Rg.op true tok rfl rfl rfl rfl ?_ ?_ ?_; (first | exact ⟨⟩ | omega | focus (simp <;> omega) | decide +kernel); (first | exact trivial | exact rfl | exact .inl rfl | exact .inr rfl)) | refine Rg.nil ?_ | refine Rg.skip rfl rfl rfl ?_ | refine Run.regR ?_ | refine Run.condT rfl ?_ | refine Run.condF rfl ?_ | ((first | refine Run.condB rfl (fun hc => ?_) (fun hc => ?_) | ((fail_if_success (refine Rg.lit true rfl ?_)); (fail_if_success (refine Rg.lit false rfl ?_)); refine Rg.guard rfl (fun hc => ?_) (fun hc => ?_))) <;> ((try simp only [cs] at hc); (first | ((exact absurd rfl hc); done) | ((exfalso; omega); done) | skip))))
      exact backR [0] (i + 1) _ _ ⟨by omega, hf⟩ (by omega) rfl ⟨⟨_, rfl, rfl, rfl, rfl, rfl, fun k hk => .ofEq rfl rfl⟩, trivial⟩ ⟨.cl rfl, .ptrN rfl rfl, .cl rfl, .cl rfl, .cl rfl, trivial⟩
    · rw [if_pos hw] at hf
      rw [← hf]
      generalize F (l.getD i default) = z at hin hw
      repeat' (first | refine Run.ctl rfl ?_ | (refine Rg.op false tok rfl rfl rfl rfl ?_ ?_ ?_; (first | exact ⟨⟩ | omega | focus (simp <;> omega) | decide +kernel); (first | exact trivial | exact rfl | exact .inl rfl | exact .inr rfl)) | refine Rg.call (hin) rfl rfl rfl rfl rfl ⟨⟨.refl _, .refl _, trivial⟩, rfl⟩ ?_ | (refine Rg.op true tok rfl rfl rfl rfl ?_ ?_ ?_; (first | exact ⟨⟩ | omega | focus (simp <;> omega) | decide +kernel); (first | exact trivial | exact rfl | exact .inl rfl | exact .inr rfl)) | refine Rg.nil ?_ | refine Rg.skip rfl rfl rfl ?_ | refine Run.regR ?_ | refine Run.condT rfl ?_ | refine Run.condF rfl ?_ | ((first | refine Run.condB rfl (fun hc => ?_) (fun hc => ?_) | ((fail_if_success (refine Rg.lit true rfl ?_)); (fail_if_success (refine Rg.lit false rfl ?_)); refine Rg.guard rfl (fun hc => ?_) (fun hc => ?_))) <;> ((try simp only [cs] at hc); (first | ((exact absurd hc hw); done) | ((exfalso; omega); done) | skip))))
      (first | refine Run.ret tok Tryd.func51 rfl ?_ | refine Run.fall tok Tryd.func51 rfl ?_)
      exact .refl _
  · obtain rfl : i = l.length := by omega
    rw [List.drop_length] at hf
    rw [← hf]
    repeat' (first | refine Run.ctl rfl ?_ | (refine Rg.op false tok rfl rfl rfl rfl ?_ ?_ ?_; (first | exact ⟨⟩ | omega | focus (simp <;> omega) | decide +kernel); (first | exact trivial | exact rfl | exact .inl rfl | exact .inr rfl)) | (refine Rg.op true tok rfl rfl rfl rfl ?_ ?_ ?_; (first | exact ⟨⟩ | omega | focus (simp <;> omega) | decide +kernel); (first | exact trivial | exact rfl | exact .inl rfl | exact .inr rfl)) | refine Rg.nil ?_ | refine Rg.skip rfl rfl rfl ?_ | refine Run.regR ?_ | refine Run.condT rfl ?_ | refine Run.condF rfl ?_ | ((first | refine Run.condB rfl (fun hc => ?_) (fun hc => ?_) | ((fail_if_success (refine Rg.lit true rfl ?_)); (fail_if_success (refine Rg.lit false rfl ?_)); refine Rg.guard rfl (fun hc => ?_) (fun hc => ?_))) <;> ((try simp only [cs] at hc); (first | ((exfalso; omega); done) | skip))))
    (first | refine Run.ret tok Tryd.func51 rfl ?_ | refine Run.fall tok Tryd.func51 rfl ?_)
    exact .refl _
theorem progCheck_ (p : Pg) : Pure Tryd.prog 31 [pPg p] (i64 (progWhy p)) := by
  unfold progWhy
  by_cases h1 : 16 < p.handlers.length ∨ 8 < p.actors.length ∨ 16 < p.boot.length
  · rw [if_pos h1]
    refine Pure.of_spec (Spec.of_run (fn := Tryd.f31) Tryd.func31 rfl rfl (by kernel_rfl) ?_) (by first | assumption | rfl | (split <;> rfl) | (split <;> split <;> rfl))
    repeat' (first | refine Run.ctl rfl ?_ | (refine Rg.op false tok rfl rfl rfl rfl ?_ ?_ ?_; (first | exact ⟨⟩ | omega | focus (simp <;> omega) | decide +kernel); (first | exact trivial | exact rfl | exact .inl rfl | exact .inr rfl)) | (refine Rg.op true tok rfl rfl rfl rfl ?_ ?_ ?_; (first | exact ⟨⟩ | omega | focus (simp <;> omega) | decide +kernel); (first | exact trivial | exact rfl | exact .inl rfl | exact .inr rfl)) | refine Rg.nil ?_ | refine Rg.skip rfl rfl rfl ?_ | refine Run.regR ?_ | refine Run.condT rfl ?_ | refine Run.condF rfl ?_ | ((first | refine Run.condB rfl (fun hc => ?_) (fun hc => ?_) | ((fail_if_success (refine Rg.lit true rfl ?_)); (fail_if_success (refine Rg.lit false rfl ?_)); refine Rg.guard rfl (fun hc => ?_) (fun hc => ?_))) <;> ((try simp only [cs] at hc); (first | ((exfalso; omega); done) | skip))))
    all_goals ((first | refine Run.ret tok Tryd.func31 rfl ?_ | refine Run.fall tok Tryd.func31 rfl ?_); exact .refl _)
  rw [if_neg h1]
  by_cases h2 : p.actors.length = 0 ∨ p.fuel < 1 ∨ 256 < p.fuel
  · rw [if_pos h2]
    refine Pure.of_spec (Spec.of_run (fn := Tryd.f31) Tryd.func31 rfl rfl (by kernel_rfl) ?_) (by first | assumption | rfl | (split <;> rfl) | (split <;> split <;> rfl))
    repeat' (first | refine Run.ctl rfl ?_ | (refine Rg.op false tok rfl rfl rfl rfl ?_ ?_ ?_; (first | exact ⟨⟩ | omega | focus (simp <;> omega) | decide +kernel); (first | exact trivial | exact rfl | exact .inl rfl | exact .inr rfl)) | (refine Rg.op true tok rfl rfl rfl rfl ?_ ?_ ?_; (first | exact ⟨⟩ | omega | focus (simp <;> omega) | decide +kernel); (first | exact trivial | exact rfl | exact .inl rfl | exact .inr rfl)) | refine Rg.nil ?_ | refine Rg.skip rfl rfl rfl ?_ | refine Run.regR ?_ | refine Run.condT rfl ?_ | refine Run.condF rfl ?_ | ((first | refine Run.condB rfl (fun hc => ?_) (fun hc => ?_) | ((fail_if_success (refine Rg.lit true rfl ?_)); (fail_if_success (refine Rg.lit false rfl ?_)); refine Rg.guard rfl (fun hc => ?_) (fun hc => ?_))) <;> ((try simp only [cs] at hc); (first | ((exfalso; omega); done) | skip))))
    all_goals ((first | refine Run.ret tok Tryd.func31 rfl ?_ | refine Run.fall tok Tryd.func31 rfl ?_); exact .refl _)
  rw [if_neg h2]
  have e1 := eachH_ p (handlerWhy p) 48 p.handlers (by omega) (fun x _ => handlerWhy_ p x)
  have e2 := eachA_ p (actorWhy p) 50 p.actors (by omega) (fun x _ => actorWhy_ p x)
  have e3 := eachN_ p (noteWhy p) 52 p.boot (by omega) (fun x _ => noteWhy_ p x)
  generalize firstWhy (handlerWhy p) p.handlers = z1 at e1
  generalize firstWhy (actorWhy p) p.actors = z2 at e2
  generalize firstWhy (noteWhy p) p.boot = z3 at e3
  refine Pure.of_spec (Spec.of_run (fn := Tryd.f31) Tryd.func31 rfl rfl (by kernel_rfl) ?_) (by first | assumption | rfl | (split <;> rfl) | (split <;> split <;> rfl))
  repeat' (first | refine Run.ctl rfl ?_ | (refine Rg.op false tok rfl rfl rfl rfl ?_ ?_ ?_; (first | exact ⟨⟩ | omega | focus (simp <;> omega) | decide +kernel); (first | exact trivial | exact rfl | exact .inl rfl | exact .inr rfl)) | refine Rg.call (e1) rfl rfl rfl rfl rfl ⟨⟨.refl _, .refl _, .refl _, trivial⟩, rfl⟩ ?_ | refine Rg.call (e2) rfl rfl rfl rfl rfl ⟨⟨.refl _, .refl _, .refl _, trivial⟩, rfl⟩ ?_ | refine Rg.call (e3) rfl rfl rfl rfl rfl ⟨⟨.refl _, .refl _, .refl _, trivial⟩, rfl⟩ ?_ | (refine Rg.op true tok rfl rfl rfl rfl ?_ ?_ ?_; (first | exact ⟨⟩ | omega | focus (simp <;> omega) | decide +kernel); (first | exact trivial | exact rfl | exact .inl rfl | exact .inr rfl)) | refine Rg.nil ?_ | refine Rg.skip rfl rfl rfl ?_ | refine Run.regR ?_ | refine Run.condT rfl ?_ | refine Run.condF rfl ?_ | ((first | refine Run.condB rfl (fun hc => ?_) (fun hc => ?_) | ((fail_if_success (refine Rg.lit true rfl ?_)); (fail_if_success (refine Rg.lit false rfl ?_)); refine Rg.guard rfl (fun hc => ?_) (fun hc => ?_))) <;> ((try simp only [cs] at hc); (first | ((exfalso; omega); done) | skip))))
  all_goals ((first | refine Run.ret tok Tryd.func31 rfl ?_ | refine Run.fall tok Tryd.func31 rfl ?_); refine .ofInt ?_; repeat' split) <;> first | rfl | (exfalso; omega) | omega
end Go.Proofs.YtffckdfcmdmnoaaDoor.W
end
section
/- Plain: what is asked of a world, and watches (chapters 2, 13, 14). -/
set_option linter.unusedVariables false
set_option linter.unusedSimpArgs false
set_option linter.unusedSectionVars false
namespace Go.Proofs.YtffckdfcmdmnoaaDoor.W
open Go Go.Sy

def wrap (n : Int) : Int := IntKind.wrap .i64 n
def truth (b : Bool) : Int := if b then 1 else 0
def asksW (op : Int) : Bool := decide (31 ≤ op ∧ op ≤ 37)
def someW (op : Int) : Bool := decide (op = 1 ∨ (31 ≤ op ∧ op ≤ 36))
def whoseW (i : Instr) : Int × Bool := if asksW i.op = false ∨ i.op = 37 then (0, false) else if i.op = 31 ∧ 0 ≤ i.a then (i.a.tdiv 16, true) else (i.a, true)
def putsW (op : Int) : Int := if asksW op then 1 else opPuts op
/-! ### watches -/
end Go.Proofs.YtffckdfcmdmnoaaDoor.W
end
section
/- Plain: the stack of an expression; the depths of what is reached. -/
set_option linter.unusedVariables false
set_option linter.unusedSimpArgs false
set_option linter.unusedSectionVars false
namespace Go.Proofs.YtffckdfcmdmnoaaDoor.W
open Go Go.Sy

/-! ### expressions -/
structure ExOk (p : Pg) (i : Instr) (n : Int) : Prop where
  op : (1 ≤ i.op ∧ i.op ≤ 4) ∨ (9 ≤ i.op ∧ i.op ≤ 19) ∨ (31 ≤ i.op ∧ i.op ≤ 37)
  a0 : someW i.op = false → i.a = 0
  reg : i.op = 31 → i.a % 16 < 8
  who : (whoseW i).2 = true → 0 ≤ (whoseW i).1 ∧ (whoseW i).1 < p.actors.length
  lo : opPops i.op ≤ n
  hi : n - opPops i.op + putsW i.op ≤ 8
theorem opPops_rng (op : Int) : 0 ≤ opPops op ∧ opPops op ≤ 2 := by
  unfold opPops
  split
  · rename_i h
    simp only [opValid, Bool.and_eq_true, decide_eq_true_eq] at h
    obtain ⟨k, hk⟩ : ∃ k : Nat, op = k := ⟨op.toNat, by omega⟩
    subst hk
    have hk : k < 26 := by omega
    have hall : ∀ k, k < 26 → 0 ≤ popsT.getD k 0 ∧ popsT.getD k 0 ≤ 2 := by decide
    exact hall k hk
  · omega
theorem opPuts_rng (op : Int) : 0 ≤ opPuts op ∧ opPuts op ≤ 2 := by
  unfold opPuts
  split
  · rename_i h
    simp only [opValid, Bool.and_eq_true, decide_eq_true_eq] at h
    obtain ⟨k, hk⟩ : ∃ k : Nat, op = k := ⟨op.toNat, by omega⟩
    subst hk
    have hk : k < 26 := by omega
    have hall : ∀ k, k < 26 → 0 ≤ putsT.getD k 0 ∧ putsT.getD k 0 ≤ 2 := by decide
    exact hall k hk
  · omega
/-! ### depths -/
inductive Reach (p : Pg) (code : List Instr) : Int → Int → Prop
  | start : Reach p code 0 0
  | step {at_ n k : Int} (h : Reach p code at_ n) (h0 : 0 ≤ at_) (h1 : at_ < code.length) (hk : k ∈ nextOf at_ (code.getD at_.toNat default)) : Reach p code k (n - takesOf p (code.getD at_.toNat default) + opPuts (code.getD at_.toNat default).op)
structure Good (p : Pg) (code : List Instr) : Prop where
  fit : ∀ at_ n, Reach p code at_ n → 0 ≤ at_ → at_ < code.length → takesOf p (code.getD at_.toNat default) ≤ n ∧ n - takesOf p (code.getD at_.toNat default) + opPuts (code.getD at_.toNat default).op ≤ 8
  one : ∀ at_ n m, Reach p code at_ n → Reach p code at_ m → n = m
/-- Where a code's instructions lead stays in the code, or is its end. -/
def Inside (code : List Instr) : Prop := ∀ i ∈ code, i.op = 20 ∨ i.op = 21 → 0 ≤ i.a ∧ i.a ≤ code.length
theorem nextOf_in {code : List Instr} (hi : Inside code) {at_ : Int} (h0 : 0 ≤ at_) (h1 : at_ < code.length) {k : Int} (hk : k ∈ nextOf at_ (code.getD at_.toNat default)) : 0 ≤ k ∧ k ≤ code.length := by
  have hm : code.getD at_.toNat default ∈ code := by
    have hl : at_.toNat < code.length := by omega
    simp only [List.getD_eq_getElem?_getD, List.getElem?_eq_getElem hl, Option.getD_some]
    exact List.getElem_mem hl
  have := hi _ hm
  unfold nextOf at hk
  split at hk
  · rename_i e; rw [List.mem_singleton] at hk; rw [hk]; exact this (.inl e)
  split at hk
  · rename_i e
    rcases List.mem_cons.1 hk with hk | hk
    · rw [hk]; exact this (.inr e)
    · rw [List.mem_singleton] at hk; omega
  split at hk
  · cases hk
  · rw [List.mem_singleton] at hk; omega
theorem Reach.rng {p : Pg} {code : List Instr} (hi : Inside code) {at_ n : Int} (h : Reach p code at_ n) : 0 ≤ at_ ∧ at_ ≤ code.length := by
  cases h with
  | start => omega
  | step h h0 h1 hk => exact nextOf_in hi h0 h1 hk
end Go.Proofs.YtffckdfcmdmnoaaDoor.W
end
section
/- Plain: the walk ahead of running finds one depth for each place that is reached, if there is one. -/
set_option linter.unusedVariables false
set_option linter.unusedSimpArgs false
set_option linter.unusedSectionVars false
namespace Go.Proofs.YtffckdfcmdmnoaaDoor.W
open Go Go.Sy

structure Pushed (n : Int) (ks out left o l : List Int) : Prop where
  len : o.length = out.length
  keep : ∀ k : Nat, out.getD k 0 ≠ -1 → o.getD k 0 = out.getD k 0
  new : ∀ k : Nat, o.getD k 0 ≠ -1 → out.getD k 0 ≠ -1 ∨ ((k : Int) ∈ ks ∧ o.getD k 0 = n ∧ (k : Int) ∈ l)
  all : ∀ j ∈ ks, o.getD j.toNat 0 = n
  sub : ∀ a ∈ left, a ∈ l
  from_ : ∀ a ∈ l, a ∈ left ∨ a ∈ ks
  cnt : o.count (-1) + l.length = out.count (-1) + left.length
theorem count_set {l : List Int} {i : Nat} {n : Int} (hi : i < l.length) (h : l.getD i 0 = -1) (hn : n ≠ -1) : (l.set i n).count (-1) + 1 = l.count (-1) := by
  induction l generalizing i with
  | nil => simp at hi
  | cons x l ih =>
    cases i with
    | zero =>
      simp at h; subst h
      simp [List.count_cons, hn]
    | succ i =>
      simp at h hi
      have := ih hi (by simpa using h)
      simp only [List.set_cons_succ, List.count_cons]
      omega
structure WInv (p : Pg) (code : List Instr) (out left : List Int) : Prop where
  len : out.length = code.length + 1
  reach : ∀ k : Nat, k ≤ code.length → out.getD k 0 ≠ -1 → Reach p code k (out.getD k 0) ∧ 0 ≤ out.getD k 0
  start : out.getD 0 0 = 0
  lf : ∀ a ∈ left, 0 ≤ a ∧ a ≤ code.length ∧ out.getD a.toNat 0 ≠ -1
  done : ∀ k : Nat, k < code.length → out.getD k 0 ≠ -1 → (k : Int) ∉ left → takesOf p (code.getD k default) ≤ out.getD k 0 ∧ out.getD k 0 - takesOf p (code.getD k default) + opPuts (code.getD k default).op ≤ 8 ∧
    ∀ j ∈ nextOf k (code.getD k default), out.getD j.toNat 0 = out.getD k 0 - takesOf p (code.getD k default) + opPuts (code.getD k default).op
theorem count_rep (n : Nat) : ((List.replicate (n + 1) (-1 : Int)).set 0 0).count (-1) = n := by
  simp [List.replicate_succ, List.count_cons]
end Go.Proofs.YtffckdfcmdmnoaaDoor.W
end
section
/- Walks: the stack, ahead of running (chapter 4): what an instruction takes, and where it leads. -/
set_option linter.unusedVariables false
set_option linter.unusedSimpArgs false
set_option linter.unusedSectionVars false
set_option pp.maxSteps 3000
set_option maxHeartbeats 1000000
namespace Go.Proofs.YtffckdfcmdmnoaaDoor.W
open Go Go.Sy

theorem takes_ (p : Pg) (i : Instr) (hi : i.op = 22 → 0 ≤ i.a ∧ i.a < p.handlers.length ∧ R64 (p.handlers.getD i.a.toNat default).args ∧ (p.handlers.getD i.a.toNat default).args ≤ 1000 ∧ 0 ≤ (p.handlers.getD i.a.toNat default).args) : Pure Tryd.prog 54 [pPg p, pInstr i] (i64 (takesOf p i)) := by
  have hP := opsPops_ i.op
  have hR := opPops_rng i.op
  obtain ⟨op, a⟩ := i
  unfold takesOf
  dsimp only at hi hP hR ⊢
  by_cases h : op = 22
  · obtain ⟨h0, h1, h2, h3, h4⟩ := hi h
    obtain ⟨k, rfl⟩ : ∃ k : Nat, a = k := ⟨a.toNat, by omega⟩
    rw [Int.toNat_natCast] at h2 h3 h4 ⊢
    rw [if_pos h]
    refine Pure.of_spec (Spec.of_run (fn := Tryd.f54) Tryd.func54 rfl rfl (by kernel_rfl) ?_) (by first | assumption | rfl | (split <;> rfl) | (split <;> split <;> rfl))
    repeat' (first | refine Run.ctl rfl ?_ | (refine Rg.op false tok rfl rfl rfl rfl ?_ ?_ ?_; (first | exact ⟨⟩ | omega | focus (simp <;> omega) | decide +kernel); (first | exact trivial | exact rfl | exact .inl rfl | exact .inr rfl)) | refine Rg.call (hP) rfl rfl rfl rfl rfl ⟨⟨.refl _, trivial⟩, rfl⟩ ?_ | (refine Rg.op true tok rfl rfl rfl rfl ?_ ?_ ?_; (first | exact ⟨⟩ | omega | focus (simp <;> omega) | decide +kernel); (first | exact trivial | exact rfl | exact .inl rfl | exact .inr rfl)) | refine Rg.nil ?_ | refine Rg.skip rfl rfl rfl ?_ | refine Run.regR ?_ | refine Run.condT rfl ?_ | refine Run.condF rfl ?_ | ((first | refine Run.condB rfl (fun hc => ?_) (fun hc => ?_) | ((fail_if_success (refine Rg.lit true rfl ?_)); (fail_if_success (refine Rg.lit false rfl ?_)); refine Rg.guard rfl (fun hc => ?_) (fun hc => ?_))) <;> ((try simp only [cs] at hc); (first | ((exfalso; omega); done) | skip))))
    all_goals ((first | refine Run.ret tok Tryd.func54 rfl ?_ | refine Run.fall tok Tryd.func54 rfl ?_); exact .ofInt (by omega))
  · rw [if_neg h]
    refine Pure.of_spec (Spec.of_run (fn := Tryd.f54) Tryd.func54 rfl rfl (by kernel_rfl) ?_) (by first | assumption | rfl | (split <;> rfl) | (split <;> split <;> rfl))
    repeat' (first | refine Run.ctl rfl ?_ | (refine Rg.op false tok rfl rfl rfl rfl ?_ ?_ ?_; (first | exact ⟨⟩ | omega | focus (simp <;> omega) | decide +kernel); (first | exact trivial | exact rfl | exact .inl rfl | exact .inr rfl)) | refine Rg.call (hP) rfl rfl rfl rfl rfl ⟨⟨.refl _, trivial⟩, rfl⟩ ?_ | (refine Rg.op true tok rfl rfl rfl rfl ?_ ?_ ?_; (first | exact ⟨⟩ | omega | focus (simp <;> omega) | decide +kernel); (first | exact trivial | exact rfl | exact .inl rfl | exact .inr rfl)) | refine Rg.nil ?_ | refine Rg.skip rfl rfl rfl ?_ | refine Run.regR ?_ | refine Run.condT rfl ?_ | refine Run.condF rfl ?_ | ((first | refine Run.condB rfl (fun hc => ?_) (fun hc => ?_) | ((fail_if_success (refine Rg.lit true rfl ?_)); (fail_if_success (refine Rg.lit false rfl ?_)); refine Rg.guard rfl (fun hc => ?_) (fun hc => ?_))) <;> ((try simp only [cs] at hc); (first | ((exfalso; omega); done) | skip))))
    all_goals ((first | refine Run.ret tok Tryd.func54 rfl ?_ | refine Run.fall tok Tryd.func54 rfl ?_); exact .ofInt (by omega))
theorem next_ (at_ : Int) (i : Instr) (h0 : 0 ≤ at_) (h1 : at_ ≤ 1000) : Pure Tryd.prog 56 [i64 at_, pInstr i] (sl 1 eInt (nextOf at_ i)) := by
  obtain ⟨op, a⟩ := i
  unfold nextOf
  dsimp only
  by_cases e1 : op = 20
  · rw [if_pos e1]
    refine Pure.of_spec (Spec.of_run (fn := Tryd.f56) Tryd.func56 rfl rfl (by kernel_rfl) ?_) (by first | assumption | rfl | (split <;> rfl) | (split <;> split <;> rfl))
    repeat' (first | refine Run.ctl rfl ?_ | (refine Rg.op false tok rfl rfl rfl rfl ?_ ?_ ?_; (first | exact ⟨⟩ | omega | focus (simp <;> omega) | decide +kernel); (first | exact trivial | exact rfl | exact .inl rfl | exact .inr rfl)) | (refine Rg.op true tok rfl rfl rfl rfl ?_ ?_ ?_; (first | exact ⟨⟩ | omega | focus (simp <;> omega) | decide +kernel); (first | exact trivial | exact rfl | exact .inl rfl | exact .inr rfl)) | refine Rg.nil ?_ | refine Rg.skip rfl rfl rfl ?_ | refine Run.regR ?_ | refine Run.condT rfl ?_ | refine Run.condF rfl ?_ | ((first | refine Run.condB rfl (fun hc => ?_) (fun hc => ?_) | ((fail_if_success (refine Rg.lit true rfl ?_)); (fail_if_success (refine Rg.lit false rfl ?_)); refine Rg.guard rfl (fun hc => ?_) (fun hc => ?_))) <;> ((try simp only [cs] at hc); (first | ((exfalso; omega); done) | skip))))
    all_goals ((first | refine Run.ret tok Tryd.func56 rfl ?_ | refine Run.fall tok Tryd.func56 rfl ?_); exact Cv.slcL rfl rfl rfl rfl rfl (fun _ => rfl) ⟨trivial, ⟨.refl _, trivial⟩⟩)
  rw [if_neg e1]
  by_cases e2 : op = 21
  · rw [if_pos e2]
    refine Pure.of_spec (Spec.of_run (fn := Tryd.f56) Tryd.func56 rfl rfl (by kernel_rfl) ?_) (by first | assumption | rfl | (split <;> rfl) | (split <;> split <;> rfl))
    repeat' (first | refine Run.ctl rfl ?_ | (refine Rg.op false tok rfl rfl rfl rfl ?_ ?_ ?_; (first | exact ⟨⟩ | omega | focus (simp <;> omega) | decide +kernel); (first | exact trivial | exact rfl | exact .inl rfl | exact .inr rfl)) | (refine Rg.op true tok rfl rfl rfl rfl ?_ ?_ ?_; (first | exact ⟨⟩ | omega | focus (simp <;> omega) | decide +kernel); (first | exact trivial | exact rfl | exact .inl rfl | exact .inr rfl)) | refine Rg.nil ?_ | refine Rg.skip rfl rfl rfl ?_ | refine Run.regR ?_ | refine Run.condT rfl ?_ | refine Run.condF rfl ?_ | ((first | refine Run.condB rfl (fun hc => ?_) (fun hc => ?_) | ((fail_if_success (refine Rg.lit true rfl ?_)); (fail_if_success (refine Rg.lit false rfl ?_)); refine Rg.guard rfl (fun hc => ?_) (fun hc => ?_))) <;> ((try simp only [cs] at hc); (first | ((exfalso; omega); done) | skip))))
    all_goals ((first | refine Run.ret tok Tryd.func56 rfl ?_ | refine Run.fall tok Tryd.func56 rfl ?_); exact Cv.slcL rfl rfl rfl rfl rfl (fun _ => rfl) ⟨⟨trivial, ⟨.refl _, trivial⟩⟩, ⟨.refl _, trivial⟩⟩)
  rw [if_neg e2]
  by_cases e3 : op = 25
  · rw [if_pos e3]
    refine Pure.of_spec (Spec.of_run (fn := Tryd.f56) Tryd.func56 rfl rfl (by kernel_rfl) ?_) (by first | assumption | rfl | (split <;> rfl) | (split <;> split <;> rfl))
    repeat' (first | refine Run.ctl rfl ?_ | (refine Rg.op false tok rfl rfl rfl rfl ?_ ?_ ?_; (first | exact ⟨⟩ | omega | focus (simp <;> omega) | decide +kernel); (first | exact trivial | exact rfl | exact .inl rfl | exact .inr rfl)) | (refine Rg.op true tok rfl rfl rfl rfl ?_ ?_ ?_; (first | exact ⟨⟩ | omega | focus (simp <;> omega) | decide +kernel); (first | exact trivial | exact rfl | exact .inl rfl | exact .inr rfl)) | refine Rg.nil ?_ | refine Rg.skip rfl rfl rfl ?_ | refine Run.regR ?_ | refine Run.condT rfl ?_ | refine Run.condF rfl ?_ | ((first | refine Run.condB rfl (fun hc => ?_) (fun hc => ?_) | ((fail_if_success (refine Rg.lit true rfl ?_)); (fail_if_success (refine Rg.lit false rfl ?_)); refine Rg.guard rfl (fun hc => ?_) (fun hc => ?_))) <;> ((try simp only [cs] at hc); (first | ((exfalso; omega); done) | skip))))
    all_goals ((first | refine Run.ret tok Tryd.func56 rfl ?_ | refine Run.fall tok Tryd.func56 rfl ?_); exact Cv.rowNil)
  · rw [if_neg e3]
    refine Pure.of_spec (Spec.of_run (fn := Tryd.f56) Tryd.func56 rfl rfl (by kernel_rfl) ?_) (by first | assumption | rfl | (split <;> rfl) | (split <;> split <;> rfl))
    repeat' (first | refine Run.ctl rfl ?_ | (refine Rg.op false tok rfl rfl rfl rfl ?_ ?_ ?_; (first | exact ⟨⟩ | omega | focus (simp <;> omega) | decide +kernel); (first | exact trivial | exact rfl | exact .inl rfl | exact .inr rfl)) | (refine Rg.op true tok rfl rfl rfl rfl ?_ ?_ ?_; (first | exact ⟨⟩ | omega | focus (simp <;> omega) | decide +kernel); (first | exact trivial | exact rfl | exact .inl rfl | exact .inr rfl)) | refine Rg.nil ?_ | refine Rg.skip rfl rfl rfl ?_ | refine Run.regR ?_ | refine Run.condT rfl ?_ | refine Run.condF rfl ?_ | ((first | refine Run.condB rfl (fun hc => ?_) (fun hc => ?_) | ((fail_if_success (refine Rg.lit true rfl ?_)); (fail_if_success (refine Rg.lit false rfl ?_)); refine Rg.guard rfl (fun hc => ?_) (fun hc => ?_))) <;> ((try simp only [cs] at hc); (first | ((exfalso; omega); done) | skip))))
    all_goals ((first | refine Run.ret tok Tryd.func56 rfl ?_ | refine Run.fall tok Tryd.func56 rfl ?_); exact Cv.slcL rfl rfl rfl rfl rfl (fun _ => rfl) ⟨trivial, ⟨.refl _, trivial⟩⟩)
end Go.Proofs.YtffckdfcmdmnoaaDoor.W
end
section
/- Walks: messages on their way (chapter 8). -/
set_option linter.unusedVariables false
set_option linter.unusedSimpArgs false
set_option linter.unusedSectionVars false
set_option pp.maxSteps 3000
set_option maxHeartbeats 1000000
namespace Go.Proofs.YtffckdfcmdmnoaaDoor.W
open Go Go.Sy

theorem toMail_at {l : List Msg} {i : Nat} (hi : i < l.length) (who : Int) : toMail (l.take (i + 1)) who = toMail (l.take i) who + (if (l.getD i default).note.to_ = who then 1 else 0) := by
  unfold toMail
  rw [List.take_add_one, List.getElem?_eq_getElem hi, List.countP_append]
  have : l.getD i default = l[i] := by simp [hi]
  rw [this]
  simp [List.countP_cons]
theorem mailTo_ (l : List Msg) (who : Int) (hl : l.length ≤ 100000) : Pure Tryd.prog 57 [sl 6 eMsg l, i64 who] (i64 (toMail l who)) := by
  refine Pure.of_spec (Spec.of_run (fn := Tryd.f57) Tryd.func57 rfl rfl (by kernel_rfl) ?_) (by first | assumption | rfl | (split <;> rfl) | (split <;> split <;> rfl))
  repeat' (first | refine Run.ctl rfl ?_ | (refine Rg.op false tok rfl rfl rfl rfl ?_ ?_ ?_; (first | exact ⟨⟩ | omega | focus (simp <;> omega) | decide +kernel); (first | exact trivial | exact rfl | exact .inl rfl | exact .inr rfl)) | (refine Rg.op true tok rfl rfl rfl rfl ?_ ?_ ?_; (first | exact ⟨⟩ | omega | focus (simp <;> omega) | decide +kernel); (first | exact trivial | exact rfl | exact .inl rfl | exact .inr rfl)) | refine Rg.nil ?_ | refine Rg.skip rfl rfl rfl ?_ | refine Run.regR ?_ | refine Run.condT rfl ?_ | refine Run.condF rfl ?_ | ((first | refine Run.condB rfl (fun hc => ?_) (fun hc => ?_) | ((fail_if_success (refine Rg.lit true rfl ?_)); (fail_if_success (refine Rg.lit false rfl ?_)); refine Rg.guard rfl (fun hc => ?_) (fun hc => ?_))) <;> ((try simp only [cs] at hc); (first | ((exfalso; omega); done) | skip))))
  refine Run.loopN (ι := Nat) (fun i => ([(1, i64 who), (4, i64 (toMail (l.take i) who)), (7, sl 6 eMsg l), (8, i64 l.length), (9, i64 i)], [])) (fun i => i ≤ l.length) (fun i => l.length - i) 0 ⟨rfl, rfl, rfl, rfl, rfl, trivial⟩ rfl (by omega) ?_
  rintro i hi back backR
  have hle : toMail (l.take i) who ≤ l.length := by unfold toMail; have := List.countP_le_length (p := fun m : Msg => decide (m.note.to_ = who)) (l := l.take i); rw [List.length_take] at this; omega
  by_cases hlt : i < l.length
  · have ht := toMail_at hlt who
    by_cases hw : (l.getD i default).note.to_ = who
    · rw [if_pos hw] at ht
      repeat' (first | refine Run.ctl rfl ?_ | (refine Rg.op false tok rfl rfl rfl rfl ?_ ?_ ?_; (first | exact ⟨⟩ | omega | focus (simp <;> omega) | decide +kernel); (first | exact trivial | exact rfl | exact .inl rfl | exact .inr rfl)) | (refine Rg.op true tok rfl rfl rfl rfl ?_ ?_ ?_; (first | exact ⟨⟩ | omega | focus (simp <;> omega) | decide +kernel); (first | exact trivial | exact rfl | exact .inl rfl | exact .inr rfl)) | refine Rg.nil ?_ | refine Rg.skip rfl rfl rfl ?_ | refine Run.regR ?_ | refine Run.condT rfl ?_ | refine Run.condF rfl ?_ | ((first | refine Run.condB rfl (fun hc => ?_) (fun hc => ?_) | ((fail_if_success (refine Rg.lit true rfl ?_)); (fail_if_success (refine Rg.lit false rfl ?_)); refine Rg.guard rfl (fun hc => ?_) (fun hc => ?_))) <;> ((try simp only [cs] at hc); (first | ((exact absurd hw hc); done) | ((exfalso; omega); done) | skip))))
      refine backR [] (i + 1) _ _ (by omega) (by omega) rfl trivial ⟨.cl rfl, ?_, .cl rfl, .cl rfl, .cl rfl, trivial⟩
      show Rn _ _ _ (i64 (toMail (l.take (i + 1)) who : Nat))
      rw [ht]
      exact .cl rfl
    · rw [if_neg hw] at ht
      repeat' (first | refine Run.ctl rfl ?_ | (refine Rg.op false tok rfl rfl rfl rfl ?_ ?_ ?_; (first | exact ⟨⟩ | omega | focus (simp <;> omega) | decide +kernel); (first | exact trivial | exact rfl | exact .inl rfl | exact .inr rfl)) | (refine Rg.op true tok rfl rfl rfl rfl ?_ ?_ ?_; (first | exact ⟨⟩ | omega | focus (simp <;> omega) | decide +kernel); (first | exact trivial | exact rfl | exact .inl rfl | exact .inr rfl)) | refine Rg.nil ?_ | refine Rg.skip rfl rfl rfl ?_ | refine Run.regR ?_ | refine Run.condT rfl ?_ | refine Run.condF rfl ?_ | ((first | refine Run.condB rfl (fun hc => ?_) (fun hc => ?_) | ((fail_if_success (refine Rg.lit true rfl ?_)); (fail_if_success (refine Rg.lit false rfl ?_)); refine Rg.guard rfl (fun hc => ?_) (fun hc => ?_))) <;> ((try simp only [cs] at hc); (first | ((exact absurd hc hw); done) | ((exfalso; omega); done) | skip))))
      refine backR [] (i + 1) _ _ (by omega) (by omega) rfl trivial ⟨.cl rfl, ?_, .cl rfl, .cl rfl, .cl rfl, trivial⟩
      show Rn _ _ _ (i64 (toMail (l.take (i + 1)) who : Nat))
      rw [ht]
      exact .cl rfl
  · obtain rfl : i = l.length := by omega
    rw [List.take_length]
    repeat' (first | refine Run.ctl rfl ?_ | (refine Rg.op false tok rfl rfl rfl rfl ?_ ?_ ?_; (first | exact ⟨⟩ | omega | focus (simp <;> omega) | decide +kernel); (first | exact trivial | exact rfl | exact .inl rfl | exact .inr rfl)) | (refine Rg.op true tok rfl rfl rfl rfl ?_ ?_ ?_; (first | exact ⟨⟩ | omega | focus (simp <;> omega) | decide +kernel); (first | exact trivial | exact rfl | exact .inl rfl | exact .inr rfl)) | refine Rg.nil ?_ | refine Rg.skip rfl rfl rfl ?_ | refine Run.regR ?_ | refine Run.condT rfl ?_ | refine Run.condF rfl ?_ | ((first | refine Run.condB rfl (fun hc => ?_) (fun hc => ?_) | ((fail_if_success (refine Rg.lit true rfl ?_)); (fail_if_success (refine Rg.lit false rfl ?_)); refine Rg.guard rfl (fun hc => ?_) (fun hc => ?_))) <;> ((try simp only [cs] at hc); (first | ((exfalso; omega); done) | skip))))
    (first | refine Run.ret tok Tryd.func57 rfl ?_ | refine Run.fall tok Tryd.func57 rfl ?_)
    exact .refl _
end Go.Proofs.YtffckdfcmdmnoaaDoor.W
end
section
/- Walks: places of messages (chapter 8). -/
set_option linter.unusedVariables false
set_option linter.unusedSimpArgs false
set_option linter.unusedSectionVars false
set_option pp.maxSteps 3000
set_option maxHeartbeats 1000000
namespace Go.Proofs.YtffckdfcmdmnoaaDoor.W
open Go Go.Sy

/-- The place of the first that has it; -1: none. -/
def findIx {α : Type} (F : α → Bool) : List α → Nat → Int
  | [], _ => -1
  | x :: l, k => if F x then (k : Int) else findIx F l (k + 1)
theorem findIx_at {α : Type} [Inhabited α] {F : α → Bool} {l : List α} {i : Nat} (hi : i < l.length) : findIx F (l.drop i) i = if F (l.getD i default) then (i : Int) else findIx F (l.drop (i + 1)) (i + 1) := by
  rw [List.drop_eq_getElem_cons hi]
  have : l.getD i default = l[i] := by simp [hi]
  rw [this]
  rfl
theorem findIx_mail (id : ID) : ∀ (l : List Msg) (k : Nat), findIx (fun m => decide (m.id = id)) l k = findMail id l k
  | [], _ => rfl
  | m :: l, k => by
    unfold findIx findMail
    rw [findIx_mail id l (k + 1)]
    by_cases h : m.id = id <;> simp [h]
theorem findIx_rng {α : Type} {F : α → Bool} : ∀ {l : List α} {k : Nat}, findIx F l k = -1 ∨ ((k : Int) ≤ findIx F l k ∧ findIx F l k < k + l.length)
  | [], k => .inl rfl
  | x :: l, k => by
    unfold findIx
    split
    · right; simp only [List.length_cons]; omega
    · rcases findIx_rng (F := F) (l := l) (k := k + 1) with h | h
      · exact .inl h
      · right; simp only [List.length_cons]; omega
theorem findC_ (m : Msg) (id : ID) : Pure Tryd.prog 78 [pMsg m, .fptr 3 1 (fun _ => eID id) 0 0] (bl (decide (m.id = id))) := by
  obtain ⟨⟨f, n, c⟩, nt⟩ := m
  obtain ⟨f', n', c'⟩ := id
  refine Pure.of_spec (Spec.of_run (fn := Tryd.f78) Tryd.func78 rfl rfl (by kernel_rfl) ?_) (by first | assumption | rfl | (split <;> rfl) | (split <;> split <;> rfl))
  repeat' (first | refine Run.ctl rfl ?_ | (refine Rg.op false tok rfl rfl rfl rfl ?_ ?_ ?_; (first | exact ⟨⟩ | omega | focus (simp <;> omega) | decide +kernel); (first | exact trivial | exact rfl | exact .inl rfl | exact .inr rfl)) | (refine Rg.op true tok rfl rfl rfl rfl ?_ ?_ ?_; (first | exact ⟨⟩ | omega | focus (simp <;> omega) | decide +kernel); (first | exact trivial | exact rfl | exact .inl rfl | exact .inr rfl)) | refine Rg.nil ?_ | refine Rg.skip rfl rfl rfl ?_ | refine Run.regR ?_ | refine Run.condT rfl ?_ | refine Run.condF rfl ?_ | ((first | refine Run.condB rfl (fun hc => ?_) (fun hc => ?_) | ((fail_if_success (refine Rg.lit true rfl ?_)); (fail_if_success (refine Rg.lit false rfl ?_)); refine Rg.guard rfl (fun hc => ?_) (fun hc => ?_))) <;> ((try simp only [cs] at hc))))
  (first | refine Run.ret tok Tryd.func78 rfl ?_ | refine Run.fall tok Tryd.func78 rfl ?_)
  refine .ofBool ?_
  by_cases h : f = f' ∧ n = n' ∧ c = c'
  · obtain ⟨rfl, rfl, rfl⟩ := h; simp
  · rw [decide_eq_false (by simpa using h)]; simpa using h
theorem putC_ (x : Msg) (m : Msg) : Pure Tryd.prog 69 [pMsg x, .fptr 6 1 (fun _ => eMsg m) 0 0] (bl (!lessID x.id m.id)) := by
  refine Pure.of_spec (Spec.of_run (fn := Tryd.f69) Tryd.func69 rfl rfl (by kernel_rfl) ?_) (by first | assumption | rfl | (split <;> rfl) | (split <;> split <;> rfl))
  repeat' (first | refine Run.ctl rfl ?_ | (refine Rg.op false tok rfl rfl rfl rfl ?_ ?_ ?_; (first | exact ⟨⟩ | omega | focus (simp <;> omega) | decide +kernel); (first | exact trivial | exact rfl | exact .inl rfl | exact .inr rfl)) | refine Rg.call (less_ x.id m.id) rfl rfl rfl rfl rfl ⟨⟨.refl _, .refl _, trivial⟩, rfl⟩ ?_ | (refine Rg.op true tok rfl rfl rfl rfl ?_ ?_ ?_; (first | exact ⟨⟩ | omega | focus (simp <;> omega) | decide +kernel); (first | exact trivial | exact rfl | exact .inl rfl | exact .inr rfl)) | refine Rg.nil ?_ | refine Rg.skip rfl rfl rfl ?_ | refine Run.regR ?_ | refine Run.condT rfl ?_ | refine Run.condF rfl ?_ | ((first | refine Run.condB rfl (fun hc => ?_) (fun hc => ?_) | ((fail_if_success (refine Rg.lit true rfl ?_)); (fail_if_success (refine Rg.lit false rfl ?_)); refine Rg.guard rfl (fun hc => ?_) (fun hc => ?_))) <;> ((try simp only [cs] at hc))))
  (first | refine Run.ret tok Tryd.func69 rfl ?_ | refine Run.fall tok Tryd.func69 rfl ?_)
  exact .ofBool rfl
theorem indexF_ (F : Msg → Bool) (g : FuncId) (cap : List PV) (hc0 : closedL cap = true) (l : List Msg) (hl : l.length ≤ 100000) (hp : ∀ x ∈ l, Pure Tryd.prog g (pMsg x :: cap) (bl (F x))) : Pure Tryd.prog 60 [sl 6 eMsg l, .func g cap] (i64 (findIx F l 0)) := by
  refine Pure.of_spec (Spec.of_run (fn := Tryd.f60) Tryd.func60 rfl rfl (by kernel_rfl) ?_) (by first | assumption | rfl | (split <;> rfl) | (split <;> split <;> rfl))
  repeat' (first | refine Run.ctl rfl ?_ | (refine Rg.op false tok rfl rfl rfl rfl ?_ ?_ ?_; (first | exact ⟨⟩ | omega | focus (simp <;> omega) | decide +kernel); (first | exact trivial | exact rfl | exact .inl rfl | exact .inr rfl)) | (refine Rg.op true tok rfl rfl rfl rfl ?_ ?_ ?_; (first | exact ⟨⟩ | omega | focus (simp <;> omega) | decide +kernel); (first | exact trivial | exact rfl | exact .inl rfl | exact .inr rfl)) | refine Rg.nil ?_ | refine Rg.skip rfl rfl rfl ?_ | refine Run.regR ?_ | refine Run.condT rfl ?_ | refine Run.condF rfl ?_ | ((first | refine Run.condB rfl (fun hc => ?_) (fun hc => ?_) | ((fail_if_success (refine Rg.lit true rfl ?_)); (fail_if_success (refine Rg.lit false rfl ?_)); refine Rg.guard rfl (fun hc => ?_) (fun hc => ?_))) <;> ((try simp only [cs] at hc); (first | ((exfalso; omega); done) | skip))))
  refine Run.loopN (ι := Nat) (fun i => ([(0, sl 6 eMsg l), (1, .func g cap), (6, sl 6 eMsg l), (7, i64 l.length), (8, i64 i)], [])) (fun i => i ≤ l.length ∧ findIx F (l.drop i) i = findIx F l 0) (fun i => l.length - i) 0 ⟨rfl, rfl, rfl, rfl, rfl, trivial⟩ rfl ⟨by omega, rfl⟩ ?_
  rintro i ⟨hi, hf⟩ back backR
  by_cases hlt : i < l.length
  · rw [findIx_at hlt] at hf
    have hm : l.getD i default ∈ l := by rw [List.getD_eq_getElem?_getD, List.getElem?_eq_getElem hlt]; exact List.getElem_mem hlt
    have hin := hp _ hm
    cases hw : F (l.getD i default) with
    | false =>
      rw [hw] at hf hin
      repeat' (first | refine Run.ctl rfl ?_ | (refine Rg.op false tok rfl rfl rfl rfl ?_ ?_ ?_; (first | exact ⟨⟩ | omega | focus (simp <;> omega) | decide +kernel); (first | exact trivial | exact rfl | exact .inl rfl | exact .inr rfl)) | refine Rg.call (hin) rfl rfl rfl rfl rfl ⟨⟨.refl _, CvL.refl _⟩, hc0⟩ ?_ | (refine Rg.op true tok rfl rfl rfl rfl ?_ ?_ ?_; (first | exact ⟨⟩ | omega | focus (simp <;> omega) | decide +kernel); (first | exact trivial | exact rfl | exact .inl rfl | exact .inr rfl)) | refine Rg.nil ?_ | refine Rg.skip rfl rfl rfl ?_ | refine Run.regR ?_ | refine Run.condT rfl ?_ | refine Run.condF rfl ?_ | ((first | refine Run.condB rfl (fun hc => ?_) (fun hc => ?_) | ((fail_if_success (refine Rg.lit true rfl ?_)); (fail_if_success (refine Rg.lit false rfl ?_)); refine Rg.guard rfl (fun hc => ?_) (fun hc => ?_))) <;> ((try simp only [cs] at hc); (first | ((exact absurd rfl hc); done) | ((exfalso; omega); done) | skip))))
      exact back (i + 1) _ _ ⟨by omega, hf⟩ (by omega) ⟨rfl, rfl, rfl, rfl, rfl, trivial⟩ rfl
    | true =>
      rw [hw] at hf hin
      rw [← hf]
      repeat' (first | refine Run.ctl rfl ?_ | (refine Rg.op false tok rfl rfl rfl rfl ?_ ?_ ?_; (first | exact ⟨⟩ | omega | focus (simp <;> omega) | decide +kernel); (first | exact trivial | exact rfl | exact .inl rfl | exact .inr rfl)) | refine Rg.call (hin) rfl rfl rfl rfl rfl ⟨⟨.refl _, CvL.refl _⟩, hc0⟩ ?_ | (refine Rg.op true tok rfl rfl rfl rfl ?_ ?_ ?_; (first | exact ⟨⟩ | omega | focus (simp <;> omega) | decide +kernel); (first | exact trivial | exact rfl | exact .inl rfl | exact .inr rfl)) | refine Rg.nil ?_ | refine Rg.skip rfl rfl rfl ?_ | refine Run.regR ?_ | refine Run.condT rfl ?_ | refine Run.condF rfl ?_ | ((first | refine Run.condB rfl (fun hc => ?_) (fun hc => ?_) | ((fail_if_success (refine Rg.lit true rfl ?_)); (fail_if_success (refine Rg.lit false rfl ?_)); refine Rg.guard rfl (fun hc => ?_) (fun hc => ?_))) <;> ((try simp only [cs] at hc); (first | ((exact absurd hc hw); done) | ((exfalso; omega); done) | skip))))
      (first | refine Run.ret tok Tryd.func60 rfl ?_ | refine Run.fall tok Tryd.func60 rfl ?_)
      exact .refl _
  · obtain rfl : i = l.length := by omega
    rw [List.drop_length] at hf
    rw [← hf]
    repeat' (first | refine Run.ctl rfl ?_ | (refine Rg.op false tok rfl rfl rfl rfl ?_ ?_ ?_; (first | exact ⟨⟩ | omega | focus (simp <;> omega) | decide +kernel); (first | exact trivial | exact rfl | exact .inl rfl | exact .inr rfl)) | (refine Rg.op true tok rfl rfl rfl rfl ?_ ?_ ?_; (first | exact ⟨⟩ | omega | focus (simp <;> omega) | decide +kernel); (first | exact trivial | exact rfl | exact .inl rfl | exact .inr rfl)) | refine Rg.nil ?_ | refine Rg.skip rfl rfl rfl ?_ | refine Run.regR ?_ | refine Run.condT rfl ?_ | refine Run.condF rfl ?_ | ((first | refine Run.condB rfl (fun hc => ?_) (fun hc => ?_) | ((fail_if_success (refine Rg.lit true rfl ?_)); (fail_if_success (refine Rg.lit false rfl ?_)); refine Rg.guard rfl (fun hc => ?_) (fun hc => ?_))) <;> ((try simp only [cs] at hc); (first | ((exfalso; omega); done) | skip))))
    (first | refine Run.ret tok Tryd.func60 rfl ?_ | refine Run.fall tok Tryd.func60 rfl ?_)
    exact .refl _
theorem find_ (l : List Msg) (id : ID) (hl : l.length ≤ 100000) : Pure Tryd.prog 68 [sl 6 eMsg l, pID id] (i64 (findMail id l 0)) := by
  have h := indexF_ (fun m => decide (m.id = id)) 78 [.fptr 3 1 (fun _ => eID id) 0 0] rfl l hl (fun x _ => findC_ x id)
  rw [findIx_mail] at h
  refine Pure.of_spec (Spec.of_run (fn := Tryd.f68) Tryd.func68 rfl rfl (by kernel_rfl) ?_) (by first | assumption | rfl | (split <;> rfl) | (split <;> split <;> rfl))
  repeat' (first | refine Run.ctl rfl ?_ | (refine Rg.op false tok rfl rfl rfl rfl ?_ ?_ ?_; (first | exact ⟨⟩ | omega | focus (simp <;> omega) | decide +kernel); (first | exact trivial | exact rfl | exact .inl rfl | exact .inr rfl)) | refine Rg.lend (h) rfl rfl rfl rfl rfl rfl ⟨⟨.refl _, .func' ⟨.box rfl rfl rfl rfl rfl (.refl _), trivial⟩, trivial⟩, rfl⟩ ?_ | (refine Rg.op true tok rfl rfl rfl rfl ?_ ?_ ?_; (first | exact ⟨⟩ | omega | focus (simp <;> omega) | decide +kernel); (first | exact trivial | exact rfl | exact .inl rfl | exact .inr rfl)) | refine Rg.nil ?_ | refine Rg.skip rfl rfl rfl ?_ | refine Run.regR ?_ | refine Run.condT rfl ?_ | refine Run.condF rfl ?_ | ((first | refine Run.condB rfl (fun hc => ?_) (fun hc => ?_) | ((fail_if_success (refine Rg.lit true rfl ?_)); (fail_if_success (refine Rg.lit false rfl ?_)); refine Rg.guard rfl (fun hc => ?_) (fun hc => ?_))) <;> ((try simp only [cs] at hc))))
  (first | refine Run.ret tok Tryd.func68 rfl ?_ | refine Run.fall tok Tryd.func68 rfl ?_)
  exact .refl _
end Go.Proofs.YtffckdfcmdmnoaaDoor.W
end
