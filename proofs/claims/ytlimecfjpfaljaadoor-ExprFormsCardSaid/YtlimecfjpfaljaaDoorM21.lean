/- Texts merged: D1, D2, D3, P5, P6, P7, D4, D5. -/
import Derived.Test.YtlimecfjpfaljaaDoorM16
section
/- Walks: instructions, and what a program may be (chapters 1 and 3). -/
set_option linter.unusedVariables false
set_option linter.unusedSimpArgs false
set_option linter.unusedSectionVars false
set_option pp.maxSteps 3000
set_option maxHeartbeats 1000000
namespace Go.Proofs.YtlimecfjpfaljaaDoor.W
open Go Go.Sy

theorem opsValid_ (op : Int) : Pure Tryd.prog 73 [i64 op] (bl (opValid op)) := by
  refine Pure.of_spec (Spec.of_run (fn := Tryd.f73) Tryd.func73 rfl rfl (by kernel_rfl) ?_) (by first | assumption | rfl | (split <;> rfl) | (split <;> split <;> rfl))
  repeat' (first | refine Run.ctl rfl ?_ | (refine Rg.op false tok rfl rfl rfl rfl ?_ ?_ ?_; (first | exact ⟨⟩ | omega | focus (simp <;> omega) | decide +kernel); (first | exact trivial | exact rfl | exact .inl rfl | exact .inr rfl)) | (refine Rg.op true tok rfl rfl rfl rfl ?_ ?_ ?_; (first | exact ⟨⟩ | omega | focus (simp <;> omega) | decide +kernel); (first | exact trivial | exact rfl | exact .inl rfl | exact .inr rfl)) | refine Rg.nil ?_ | refine Rg.skip rfl rfl rfl ?_ | refine Run.regR ?_ | refine Run.condT rfl ?_ | refine Run.condF rfl ?_ | ((first | refine Run.condB rfl (fun hc => ?_) (fun hc => ?_) | ((fail_if_success (refine Rg.lit true rfl ?_)); (fail_if_success (refine Rg.lit false rfl ?_)); refine Rg.guard rfl (fun hc => ?_) (fun hc => ?_))) <;> ((try simp only [cs] at hc))))
  all_goals ((first | refine Run.ret tok Tryd.func73 rfl ?_ | refine Run.fall tok Tryd.func73 rfl ?_); refine .ofBool ?_; simp only [opValid]; first | rfl | (simp; omega))
theorem opsOperand_ (op : Int) : Pure Tryd.prog 108 [i64 op] (i64 (operand op)) := by
  refine Pure.of_spec (Spec.of_run (fn := Tryd.f108) Tryd.func108 rfl rfl (by kernel_rfl) ?_) (by first | assumption | rfl | (split <;> rfl) | (split <;> split <;> rfl))
  repeat' (first | refine Run.ctl rfl ?_ | (refine Rg.op false tok rfl rfl rfl rfl ?_ ?_ ?_; (first | exact ⟨⟩ | omega | focus (simp <;> omega) | decide +kernel); (first | exact trivial | exact rfl | exact .inl rfl | exact .inr rfl)) | (refine Rg.op true tok rfl rfl rfl rfl ?_ ?_ ?_; (first | exact ⟨⟩ | omega | focus (simp <;> omega) | decide +kernel); (first | exact trivial | exact rfl | exact .inl rfl | exact .inr rfl)) | refine Rg.nil ?_ | refine Rg.skip rfl rfl rfl ?_ | refine Run.regR ?_ | refine Run.condT rfl ?_ | refine Run.condF rfl ?_ | ((first | refine Run.condB rfl (fun hc => ?_) (fun hc => ?_) | ((fail_if_success (refine Rg.lit true rfl ?_)); (fail_if_success (refine Rg.lit false rfl ?_)); refine Rg.guard rfl (fun hc => ?_) (fun hc => ?_))) <;> ((try simp only [cs] at hc); (first | ((exfalso; omega); done) | skip))))
  all_goals ((first | refine Run.ret tok Tryd.func108 rfl ?_ | refine Run.fall tok Tryd.func108 rfl ?_); refine .ofInt ?_; unfold operand; repeat' split) <;> omega
theorem pops_at (op : Int) : opPops op = if op = 4 ∨ (9 ≤ op ∧ op ≤ 13) ∨ (15 ≤ op ∧ op ≤ 18) then 2 else if op = 2 ∨ op = 3 ∨ op = 6 ∨ op = 14 ∨ op = 19 ∨ op = 21 ∨ op = 22 then 1 else 0 := by
  unfold opPops
  by_cases h : 1 ≤ op ∧ op ≤ 25
  · have hv : opValid op = true := by simp [opValid, h]
    rw [if_pos hv]
    obtain ⟨k, rfl⟩ : ∃ k : Nat, op = k := ⟨op.toNat, by omega⟩
    have hk : k < 26 := by omega
    have hall : ∀ k : Nat, k < 26 → 1 ≤ k → popsT.getD k 0 = if (k : Int) = 4 ∨ (9 ≤ (k : Int) ∧ (k : Int) ≤ 13) ∨ (15 ≤ (k : Int) ∧ (k : Int) ≤ 18) then 2 else if (k : Int) = 2 ∨ (k : Int) = 3 ∨ (k : Int) = 6 ∨ (k : Int) = 14 ∨ (k : Int) = 19 ∨ (k : Int) = 21 ∨ (k : Int) = 22 then 1 else 0 := by decide
    exact hall k hk (by omega)
  · have hv : ¬ opValid op = true := by simp [opValid]; omega
    rw [if_neg hv, if_neg (by omega), if_neg (by omega)]
theorem puts_at (op : Int) : opPuts op = if op = 3 ∨ op = 4 then 2 else if op = 1 ∨ op = 5 ∨ op = 7 ∨ op = 8 ∨ (9 ≤ op ∧ op ≤ 19) then 1 else 0 := by
  unfold opPuts
  by_cases h : 1 ≤ op ∧ op ≤ 25
  · have hv : opValid op = true := by simp [opValid, h]
    rw [if_pos hv]
    obtain ⟨k, rfl⟩ : ∃ k : Nat, op = k := ⟨op.toNat, by omega⟩
    have hk : k < 26 := by omega
    have hall : ∀ k : Nat, k < 26 → 1 ≤ k → putsT.getD k 0 = if (k : Int) = 3 ∨ (k : Int) = 4 then 2 else if (k : Int) = 1 ∨ (k : Int) = 5 ∨ (k : Int) = 7 ∨ (k : Int) = 8 ∨ (9 ≤ (k : Int) ∧ (k : Int) ≤ 19) then 1 else 0 := by decide
    exact hall k hk (by omega)
  · have hv : ¬ opValid op = true := by simp [opValid]; omega
    rw [if_neg hv, if_neg (by omega), if_neg (by omega)]
theorem opsPops_ (op : Int) : Pure Tryd.prog 70 [i64 op] (i64 (opPops op)) := by
  rw [pops_at]
  refine Pure.of_spec (Spec.of_run (fn := Tryd.f70) Tryd.func70 rfl rfl (by kernel_rfl) ?_) (by first | assumption | rfl | (split <;> rfl) | (split <;> split <;> rfl))
  repeat' (first | refine Run.ctl rfl ?_ | (refine Rg.op false tok rfl rfl rfl rfl ?_ ?_ ?_; (first | exact ⟨⟩ | omega | focus (simp <;> omega) | decide +kernel); (first | exact trivial | exact rfl | exact .inl rfl | exact .inr rfl)) | (refine Rg.op true tok rfl rfl rfl rfl ?_ ?_ ?_; (first | exact ⟨⟩ | omega | focus (simp <;> omega) | decide +kernel); (first | exact trivial | exact rfl | exact .inl rfl | exact .inr rfl)) | refine Rg.nil ?_ | refine Rg.skip rfl rfl rfl ?_ | refine Run.regR ?_ | refine Run.condT rfl ?_ | refine Run.condF rfl ?_ | ((first | refine Run.condB rfl (fun hc => ?_) (fun hc => ?_) | ((fail_if_success (refine Rg.lit true rfl ?_)); (fail_if_success (refine Rg.lit false rfl ?_)); refine Rg.guard rfl (fun hc => ?_) (fun hc => ?_))) <;> ((try simp only [cs] at hc); (first | ((exfalso; omega); done) | skip))))
  all_goals ((first | refine Run.ret tok Tryd.func70 rfl ?_ | refine Run.fall tok Tryd.func70 rfl ?_); refine .ofInt ?_; repeat' split) <;> omega
theorem opsPuts_ (op : Int) : Pure Tryd.prog 69 [i64 op] (i64 (opPuts op)) := by
  rw [puts_at]
  refine Pure.of_spec (Spec.of_run (fn := Tryd.f69) Tryd.func69 rfl rfl (by kernel_rfl) ?_) (by first | assumption | rfl | (split <;> rfl) | (split <;> split <;> rfl))
  repeat' (first | refine Run.ctl rfl ?_ | (refine Rg.op false tok rfl rfl rfl rfl ?_ ?_ ?_; (first | exact ⟨⟩ | omega | focus (simp <;> omega) | decide +kernel); (first | exact trivial | exact rfl | exact .inl rfl | exact .inr rfl)) | (refine Rg.op true tok rfl rfl rfl rfl ?_ ?_ ?_; (first | exact ⟨⟩ | omega | focus (simp <;> omega) | decide +kernel); (first | exact trivial | exact rfl | exact .inl rfl | exact .inr rfl)) | refine Rg.nil ?_ | refine Rg.skip rfl rfl rfl ?_ | refine Run.regR ?_ | refine Run.condT rfl ?_ | refine Run.condF rfl ?_ | ((first | refine Run.condB rfl (fun hc => ?_) (fun hc => ?_) | ((fail_if_success (refine Rg.lit true rfl ?_)); (fail_if_success (refine Rg.lit false rfl ?_)); refine Rg.guard rfl (fun hc => ?_) (fun hc => ?_))) <;> ((try simp only [cs] at hc); (first | ((exfalso; omega); done) | skip))))
  all_goals ((first | refine Run.ret tok Tryd.func69 rfl ?_ | refine Run.fall tok Tryd.func69 rfl ?_); refine .ofInt ?_; repeat' split) <;> omega
theorem instr_ (p : Pg) (h : Hd) (i : Instr) : Pure Tryd.prog 95 [pPg p, pHd h, pInstr i] (i64 (instrWhy p h i)) := by
  have hV := opsValid_ i.op
  have hO := opsOperand_ i.op
  unfold instrWhy
  cases hv : opValid i.op with
  | false =>
    rw [hv] at hV
    rw [if_pos (.inl rfl)]
    refine Pure.of_spec (Spec.of_run (fn := Tryd.f95) Tryd.func95 rfl rfl (by kernel_rfl) ?_) (by first | assumption | rfl | (split <;> rfl) | (split <;> split <;> rfl))
    repeat' (first | refine Run.ctl rfl ?_ | (refine Rg.op false tok rfl rfl rfl rfl ?_ ?_ ?_; (first | exact ⟨⟩ | omega | focus (simp <;> omega) | decide +kernel); (first | exact trivial | exact rfl | exact .inl rfl | exact .inr rfl)) | refine Rg.call (hO) rfl rfl rfl rfl rfl ⟨⟨.refl _, trivial⟩, rfl⟩ ?_ | refine Rg.call (hV) rfl rfl rfl rfl rfl ⟨⟨.refl _, trivial⟩, rfl⟩ ?_ | (refine Rg.op true tok rfl rfl rfl rfl ?_ ?_ ?_; (first | exact ⟨⟩ | omega | focus (simp <;> omega) | decide +kernel); (first | exact trivial | exact rfl | exact .inl rfl | exact .inr rfl)) | refine Rg.nil ?_ | refine Rg.skip rfl rfl rfl ?_ | refine Run.regR ?_ | refine Run.condT rfl ?_ | refine Run.condF rfl ?_ | ((first | refine Run.condB rfl (fun hc => ?_) (fun hc => ?_) | ((fail_if_success (refine Rg.lit true rfl ?_)); (fail_if_success (refine Rg.lit false rfl ?_)); refine Rg.guard rfl (fun hc => ?_) (fun hc => ?_))) <;> ((try simp only [cs] at hc); (first | ((exact absurd rfl hc); done) | ((exfalso; omega); done) | skip))))
    all_goals ((first | refine Run.ret tok Tryd.func95 rfl ?_ | refine Run.fall tok Tryd.func95 rfl ?_); exact .refl _)
  | true =>
    rw [hv] at hV
    simp only [Bool.true_eq_false, false_or]
    generalize operand i.op = k at hO
    refine Pure.of_spec (Spec.of_run (fn := Tryd.f95) Tryd.func95 rfl rfl (by kernel_rfl) ?_) (by first | assumption | rfl | (split <;> rfl) | (split <;> split <;> rfl))
    repeat' (first | refine Run.ctl rfl ?_ | (refine Rg.op false tok rfl rfl rfl rfl ?_ ?_ ?_; (first | exact ⟨⟩ | omega | focus (simp <;> omega) | decide +kernel); (first | exact trivial | exact rfl | exact .inl rfl | exact .inr rfl)) | refine Rg.call (hO) rfl rfl rfl rfl rfl ⟨⟨.refl _, trivial⟩, rfl⟩ ?_ | refine Rg.call (hV) rfl rfl rfl rfl rfl ⟨⟨.refl _, trivial⟩, rfl⟩ ?_ | (refine Rg.op true tok rfl rfl rfl rfl ?_ ?_ ?_; (first | exact ⟨⟩ | omega | focus (simp <;> omega) | decide +kernel); (first | exact trivial | exact rfl | exact .inl rfl | exact .inr rfl)) | refine Rg.nil ?_ | refine Rg.skip rfl rfl rfl ?_ | refine Run.regR ?_ | refine Run.condT rfl ?_ | refine Run.condF rfl ?_ | ((first | refine Run.condB rfl (fun hc => ?_) (fun hc => ?_) | ((fail_if_success (refine Rg.lit true rfl ?_)); (fail_if_success (refine Rg.lit false rfl ?_)); refine Rg.guard rfl (fun hc => ?_) (fun hc => ?_))) <;> ((try simp only [cs] at hc); (first | ((exact absurd rfl hc); done) | ((exfalso; omega); done) | skip))))
    all_goals ((first | refine Run.ret tok Tryd.func95 rfl ?_ | refine Run.fall tok Tryd.func95 rfl ?_); refine .ofInt ?_; repeat' split) <;> first | rfl | (exfalso; omega)
end Go.Proofs.YtlimecfjpfaljaaDoor.W
end
section
/- Walks: what a program may be (chapter 3). -/
set_option linter.unusedVariables false
set_option linter.unusedSimpArgs false
set_option linter.unusedSectionVars false
set_option pp.maxSteps 3000
set_option maxHeartbeats 1000000
namespace Go.Proofs.YtlimecfjpfaljaaDoor.W
open Go Go.Sy

theorem getD_of {α : Type} [Inhabited α] {l : List α} {i : Int} (h0 : 0 ≤ i) (h1 : i < l.length) : ∃ k : Nat, i = k ∧ k < l.length := ⟨i.toNat, by omega, by omega⟩
theorem noteWhy_ (p : Pg) (n : Nt) : Pure Tryd.prog 81 [pPg p, pNt n] (i64 (noteWhy p n)) := by
  obtain ⟨to_, hd, args⟩ := n
  by_cases h0 : 0 ≤ hd
  · obtain ⟨k, rfl⟩ : ∃ k : Nat, hd = k := ⟨hd.toNat, by omega⟩
    refine Pure.of_spec (Spec.of_run (fn := Tryd.f81) Tryd.func81 rfl rfl (by kernel_rfl) ?_) (by first | assumption | rfl | (split <;> rfl) | (split <;> split <;> rfl))
    repeat' (first | refine Run.ctl rfl ?_ | (refine Rg.op false tok rfl rfl rfl rfl ?_ ?_ ?_; (first | exact ⟨⟩ | omega | focus (simp <;> omega) | decide +kernel); (first | exact trivial | exact rfl | exact .inl rfl | exact .inr rfl | focus ((repeat (first | exact trivial | (refine ⟨Stay.op false tok rfl rfl rfl ?_ (fun t ht => by cases ht; rfl), ?_⟩; (first | exact ⟨⟩ | omega | focus (simp <;> omega) | decide +kernel)) | (refine ⟨Stay.op true tok rfl rfl rfl ?_ (fun t ht => by cases ht; rfl), ?_⟩; (first | exact ⟨⟩ | omega | focus (simp <;> omega) | decide +kernel)) | refine ⟨Stay.skip rfl rfl (fun t ht => by cases ht; rfl), ?_⟩)); done))) | (refine Rg.op true tok rfl rfl rfl rfl ?_ ?_ ?_; (first | exact ⟨⟩ | omega | focus (simp <;> omega) | decide +kernel); (first | exact trivial | exact rfl | exact .inl rfl | exact .inr rfl | focus ((repeat (first | exact trivial | (refine ⟨Stay.op false tok rfl rfl rfl ?_ (fun t ht => by cases ht; rfl), ?_⟩; (first | exact ⟨⟩ | omega | focus (simp <;> omega) | decide +kernel)) | (refine ⟨Stay.op true tok rfl rfl rfl ?_ (fun t ht => by cases ht; rfl), ?_⟩; (first | exact ⟨⟩ | omega | focus (simp <;> omega) | decide +kernel)) | refine ⟨Stay.skip rfl rfl (fun t ht => by cases ht; rfl), ?_⟩)); done))) | refine Rg.nil ?_ | refine Rg.skip rfl rfl rfl ?_ | refine Run.regR ?_ | refine Run.drwR mixed (by kernel_rfl) rfl ?_ | refine Run.condT rfl ?_ | refine Run.condF rfl ?_ | ((first | refine Run.condB rfl (fun hc => ?_) (fun hc => ?_) | ((fail_if_success (refine Rg.lit true rfl ?_)); (fail_if_success (refine Rg.lit false rfl ?_)); refine Rg.guard rfl (fun hc => ?_) (fun hc => ?_))) <;> ((try simp only [cs] at hc); (first | ((exfalso; omega); done) | skip))))
    all_goals ((first | refine Run.ret tok Tryd.func81 rfl ?_ | refine Run.fall tok Tryd.func81 rfl ?_); refine .ofInt ?_; simp only [noteWhy, Int.toNat_natCast]; repeat' split) <;> first | rfl | (exfalso; omega) | (exfalso; simp_all; done)
  · refine Pure.of_spec (Spec.of_run (fn := Tryd.f81) Tryd.func81 rfl rfl (by kernel_rfl) ?_) (by first | assumption | rfl | (split <;> rfl) | (split <;> split <;> rfl))
    repeat' (first | refine Run.ctl rfl ?_ | (refine Rg.op false tok rfl rfl rfl rfl ?_ ?_ ?_; (first | exact ⟨⟩ | omega | focus (simp <;> omega) | decide +kernel); (first | exact trivial | exact rfl | exact .inl rfl | exact .inr rfl | focus ((repeat (first | exact trivial | (refine ⟨Stay.op false tok rfl rfl rfl ?_ (fun t ht => by cases ht; rfl), ?_⟩; (first | exact ⟨⟩ | omega | focus (simp <;> omega) | decide +kernel)) | (refine ⟨Stay.op true tok rfl rfl rfl ?_ (fun t ht => by cases ht; rfl), ?_⟩; (first | exact ⟨⟩ | omega | focus (simp <;> omega) | decide +kernel)) | refine ⟨Stay.skip rfl rfl (fun t ht => by cases ht; rfl), ?_⟩)); done))) | (refine Rg.op true tok rfl rfl rfl rfl ?_ ?_ ?_; (first | exact ⟨⟩ | omega | focus (simp <;> omega) | decide +kernel); (first | exact trivial | exact rfl | exact .inl rfl | exact .inr rfl | focus ((repeat (first | exact trivial | (refine ⟨Stay.op false tok rfl rfl rfl ?_ (fun t ht => by cases ht; rfl), ?_⟩; (first | exact ⟨⟩ | omega | focus (simp <;> omega) | decide +kernel)) | (refine ⟨Stay.op true tok rfl rfl rfl ?_ (fun t ht => by cases ht; rfl), ?_⟩; (first | exact ⟨⟩ | omega | focus (simp <;> omega) | decide +kernel)) | refine ⟨Stay.skip rfl rfl (fun t ht => by cases ht; rfl), ?_⟩)); done))) | refine Rg.nil ?_ | refine Rg.skip rfl rfl rfl ?_ | refine Run.regR ?_ | refine Run.drwR mixed (by kernel_rfl) rfl ?_ | refine Run.condT rfl ?_ | refine Run.condF rfl ?_ | ((first | refine Run.condB rfl (fun hc => ?_) (fun hc => ?_) | ((fail_if_success (refine Rg.lit true rfl ?_)); (fail_if_success (refine Rg.lit false rfl ?_)); refine Rg.guard rfl (fun hc => ?_) (fun hc => ?_))) <;> ((try simp only [cs] at hc); (first | ((exfalso; omega); done) | skip))))
    all_goals ((first | refine Run.ret tok Tryd.func81 rfl ?_ | refine Run.fall tok Tryd.func81 rfl ?_); refine .ofInt ?_; simp only [noteWhy]; repeat' split) <;> first | rfl | (exfalso; omega) | (exfalso; simp_all; done)
theorem actorWhy_ (p : Pg) (a : Act) : Pure Tryd.prog 79 [pPg p, pAct a] (i64 (actorWhy p a)) := by
  obtain ⟨regs, cap, timer, armed⟩ := a
  by_cases h0 : 0 ≤ timer
  · obtain ⟨k, rfl⟩ : ∃ k : Nat, timer = k := ⟨timer.toNat, by omega⟩
    cases armed <;> (
    refine Pure.of_spec (Spec.of_run (fn := Tryd.f79) Tryd.func79 rfl rfl (by kernel_rfl) ?_) (by first | assumption | rfl | (split <;> rfl) | (split <;> split <;> rfl))
    repeat' (first | refine Run.ctl rfl ?_ | (refine Rg.op false tok rfl rfl rfl rfl ?_ ?_ ?_; (first | exact ⟨⟩ | omega | focus (simp <;> omega) | decide +kernel); (first | exact trivial | exact rfl | exact .inl rfl | exact .inr rfl)) | (refine Rg.op true tok rfl rfl rfl rfl ?_ ?_ ?_; (first | exact ⟨⟩ | omega | focus (simp <;> omega) | decide +kernel); (first | exact trivial | exact rfl | exact .inl rfl | exact .inr rfl)) | refine Rg.nil ?_ | refine Rg.skip rfl rfl rfl ?_ | refine Run.regR ?_ | refine Run.condT rfl ?_ | refine Run.condF rfl ?_ | ((first | refine Run.condB rfl (fun hc => ?_) (fun hc => ?_) | ((fail_if_success (refine Rg.lit true rfl ?_)); (fail_if_success (refine Rg.lit false rfl ?_)); refine Rg.guard rfl (fun hc => ?_) (fun hc => ?_))) <;> ((try simp only [cs] at hc); (first | ((exfalso; omega); done) | skip))))
    all_goals ((first | refine Run.ret tok Tryd.func79 rfl ?_ | refine Run.fall tok Tryd.func79 rfl ?_); refine .ofInt ?_; simp only [actorWhy, Int.toNat_natCast]; repeat' split) <;> first | rfl | (exfalso; omega) | (exfalso; simp_all; done))
  · cases armed <;> (
    refine Pure.of_spec (Spec.of_run (fn := Tryd.f79) Tryd.func79 rfl rfl (by kernel_rfl) ?_) (by first | assumption | rfl | (split <;> rfl) | (split <;> split <;> rfl))
    repeat' (first | refine Run.ctl rfl ?_ | (refine Rg.op false tok rfl rfl rfl rfl ?_ ?_ ?_; (first | exact ⟨⟩ | omega | focus (simp <;> omega) | decide +kernel); (first | exact trivial | exact rfl | exact .inl rfl | exact .inr rfl)) | (refine Rg.op true tok rfl rfl rfl rfl ?_ ?_ ?_; (first | exact ⟨⟩ | omega | focus (simp <;> omega) | decide +kernel); (first | exact trivial | exact rfl | exact .inl rfl | exact .inr rfl)) | refine Rg.nil ?_ | refine Rg.skip rfl rfl rfl ?_ | refine Run.regR ?_ | refine Run.condT rfl ?_ | refine Run.condF rfl ?_ | ((first | refine Run.condB rfl (fun hc => ?_) (fun hc => ?_) | ((fail_if_success (refine Rg.lit true rfl ?_)); (fail_if_success (refine Rg.lit false rfl ?_)); refine Rg.guard rfl (fun hc => ?_) (fun hc => ?_))) <;> ((try simp only [cs] at hc); (first | ((exfalso; omega); done) | skip))))
    all_goals ((first | refine Run.ret tok Tryd.func79 rfl ?_ | refine Run.fall tok Tryd.func79 rfl ?_); refine .ofInt ?_; simp only [actorWhy]; repeat' split) <;> first | rfl | (exfalso; omega) | (exfalso; simp_all; done))
theorem handlerWhy_ (p : Pg) (h : Hd) : Pure Tryd.prog 77 [pPg p, pHd h] (i64 (handlerWhy p h)) := by
  by_cases hb : h.args < 0 ∨ 4 < h.args
  · unfold handlerWhy
    rw [if_pos hb]
    refine Pure.of_spec (Spec.of_run (fn := Tryd.f77) Tryd.func77 rfl rfl (by kernel_rfl) ?_) (by first | assumption | rfl | (split <;> rfl) | (split <;> split <;> rfl))
    repeat' (first | refine Run.ctl rfl ?_ | (refine Rg.op false tok rfl rfl rfl rfl ?_ ?_ ?_; (first | exact ⟨⟩ | omega | focus (simp <;> omega) | decide +kernel); (first | exact trivial | exact rfl | exact .inl rfl | exact .inr rfl)) | (refine Rg.op true tok rfl rfl rfl rfl ?_ ?_ ?_; (first | exact ⟨⟩ | omega | focus (simp <;> omega) | decide +kernel); (first | exact trivial | exact rfl | exact .inl rfl | exact .inr rfl)) | refine Rg.nil ?_ | refine Rg.skip rfl rfl rfl ?_ | refine Run.regR ?_ | refine Run.condT rfl ?_ | refine Run.condF rfl ?_ | ((first | refine Run.condB rfl (fun hc => ?_) (fun hc => ?_) | ((fail_if_success (refine Rg.lit true rfl ?_)); (fail_if_success (refine Rg.lit false rfl ?_)); refine Rg.guard rfl (fun hc => ?_) (fun hc => ?_))) <;> ((try simp only [cs] at hc); (first | ((exfalso; omega); done) | skip))))
    all_goals ((first | refine Run.ret tok Tryd.func77 rfl ?_ | refine Run.fall tok Tryd.func77 rfl ?_); exact .refl _)
  by_cases hl : 64 < h.code.length
  · unfold handlerWhy
    rw [if_neg hb, if_pos hl]
    refine Pure.of_spec (Spec.of_run (fn := Tryd.f77) Tryd.func77 rfl rfl (by kernel_rfl) ?_) (by first | assumption | rfl | (split <;> rfl) | (split <;> split <;> rfl))
    repeat' (first | refine Run.ctl rfl ?_ | (refine Rg.op false tok rfl rfl rfl rfl ?_ ?_ ?_; (first | exact ⟨⟩ | omega | focus (simp <;> omega) | decide +kernel); (first | exact trivial | exact rfl | exact .inl rfl | exact .inr rfl)) | (refine Rg.op true tok rfl rfl rfl rfl ?_ ?_ ?_; (first | exact ⟨⟩ | omega | focus (simp <;> omega) | decide +kernel); (first | exact trivial | exact rfl | exact .inl rfl | exact .inr rfl)) | refine Rg.nil ?_ | refine Rg.skip rfl rfl rfl ?_ | refine Run.regR ?_ | refine Run.condT rfl ?_ | refine Run.condF rfl ?_ | ((first | refine Run.condB rfl (fun hc => ?_) (fun hc => ?_) | ((fail_if_success (refine Rg.lit true rfl ?_)); (fail_if_success (refine Rg.lit false rfl ?_)); refine Rg.guard rfl (fun hc => ?_) (fun hc => ?_))) <;> ((try simp only [cs] at hc); (first | ((exfalso; omega); done) | skip))))
    all_goals ((first | refine Run.ret tok Tryd.func77 rfl ?_ | refine Run.fall tok Tryd.func77 rfl ?_); exact .refl _)
  unfold handlerWhy
  rw [if_neg hb, if_neg hl]
  refine Pure.of_spec (Spec.of_run (fn := Tryd.f77) Tryd.func77 rfl rfl (by kernel_rfl) ?_) (by first | assumption | rfl | (split <;> rfl) | (split <;> split <;> rfl))
  repeat' (first | refine Run.ctl rfl ?_ | (refine Rg.op false tok rfl rfl rfl rfl ?_ ?_ ?_; (first | exact ⟨⟩ | omega | focus (simp <;> omega) | decide +kernel); (first | exact trivial | exact rfl | exact .inl rfl | exact .inr rfl)) | (refine Rg.op true tok rfl rfl rfl rfl ?_ ?_ ?_; (first | exact ⟨⟩ | omega | focus (simp <;> omega) | decide +kernel); (first | exact trivial | exact rfl | exact .inl rfl | exact .inr rfl)) | refine Rg.nil ?_ | refine Rg.skip rfl rfl rfl ?_ | refine Run.regR ?_ | refine Run.condT rfl ?_ | refine Run.condF rfl ?_ | ((first | refine Run.condB rfl (fun hc => ?_) (fun hc => ?_) | ((fail_if_success (refine Rg.lit true rfl ?_)); (fail_if_success (refine Rg.lit false rfl ?_)); refine Rg.guard rfl (fun hc => ?_) (fun hc => ?_))) <;> ((try simp only [cs] at hc); (first | ((exfalso; omega); done) | skip))))
  refine Run.loopN (ι := Nat) (fun i => ([(2, .ptr 0 0 0), (3, .ptr 1 0 0), (21, sl 2 eInstr h.code), (22, i64 h.code.length), (23, i64 i)], [some ⟨26, 4, 1, fun _ => ePg p, false, false⟩, some ⟨70, 2, 1, fun _ => eHd h, false, false⟩])) (fun i => i ≤ h.code.length ∧ firstWhy (instrWhy p h) (h.code.drop i) = firstWhy (instrWhy p h) h.code) (fun i => h.code.length - i) 0 ⟨rfl, rfl, rfl, rfl, rfl, trivial⟩ rfl ⟨by omega, rfl⟩ ?_
  rintro i ⟨hi, hf⟩ back backR
  by_cases hlt : i < h.code.length
  · rw [firstWhy_at hlt] at hf
    by_cases hw : instrWhy p h (h.code.getD i default) = 0
    · rw [if_neg (fun e => e hw)] at hf
      have hin := instr_ p h (h.code.getD i default)
      rw [hw] at hin
      repeat' (first | refine Run.ctl rfl ?_ | (refine Rg.op false tok rfl rfl rfl rfl ?_ ?_ ?_; (first | exact ⟨⟩ | omega | focus (simp <;> omega) | decide +kernel); (first | exact trivial | exact rfl | exact .inl rfl | exact .inr rfl)) | refine Rg.call (hin) rfl rfl rfl rfl rfl ⟨⟨.refl _, .refl _, .refl _, trivial⟩, rfl⟩ ?_ | (refine Rg.op true tok rfl rfl rfl rfl ?_ ?_ ?_; (first | exact ⟨⟩ | omega | focus (simp <;> omega) | decide +kernel); (first | exact trivial | exact rfl | exact .inl rfl | exact .inr rfl)) | refine Rg.nil ?_ | refine Rg.skip rfl rfl rfl ?_ | refine Run.regR ?_ | refine Run.condT rfl ?_ | refine Run.condF rfl ?_ | ((first | refine Run.condB rfl (fun hc => ?_) (fun hc => ?_) | ((fail_if_success (refine Rg.lit true rfl ?_)); (fail_if_success (refine Rg.lit false rfl ?_)); refine Rg.guard rfl (fun hc => ?_) (fun hc => ?_))) <;> ((try simp only [cs] at hc); (first | ((exact absurd rfl hc); done) | ((exfalso; omega); done) | skip))))
      exact backR [0, 1] (i + 1) _ _ ⟨by omega, hf⟩ (by omega) rfl ⟨⟨_, rfl, rfl, rfl, rfl, rfl, fun k hk => .ofEq rfl rfl⟩, ⟨_, rfl, rfl, rfl, rfl, rfl, fun k hk => .ofEq rfl rfl⟩, trivial⟩ ⟨.ptrN rfl rfl, .ptrN rfl rfl, .cl rfl, .cl rfl, .cl rfl, trivial⟩
    · rw [if_pos hw] at hf
      rw [← hf]
      have hin := instr_ p h (h.code.getD i default)
      generalize instrWhy p h (h.code.getD i default) = z at hin hw
      repeat' (first | refine Run.ctl rfl ?_ | (refine Rg.op false tok rfl rfl rfl rfl ?_ ?_ ?_; (first | exact ⟨⟩ | omega | focus (simp <;> omega) | decide +kernel); (first | exact trivial | exact rfl | exact .inl rfl | exact .inr rfl)) | refine Rg.call (hin) rfl rfl rfl rfl rfl ⟨⟨.refl _, .refl _, .refl _, trivial⟩, rfl⟩ ?_ | (refine Rg.op true tok rfl rfl rfl rfl ?_ ?_ ?_; (first | exact ⟨⟩ | omega | focus (simp <;> omega) | decide +kernel); (first | exact trivial | exact rfl | exact .inl rfl | exact .inr rfl)) | refine Rg.nil ?_ | refine Rg.skip rfl rfl rfl ?_ | refine Run.regR ?_ | refine Run.condT rfl ?_ | refine Run.condF rfl ?_ | ((first | refine Run.condB rfl (fun hc => ?_) (fun hc => ?_) | ((fail_if_success (refine Rg.lit true rfl ?_)); (fail_if_success (refine Rg.lit false rfl ?_)); refine Rg.guard rfl (fun hc => ?_) (fun hc => ?_))) <;> ((try simp only [cs] at hc); (first | ((exact absurd hc hw); done) | ((exfalso; omega); done) | skip))))
      (first | refine Run.ret tok Tryd.func77 rfl ?_ | refine Run.fall tok Tryd.func77 rfl ?_)
      exact .refl _
  · obtain rfl : i = h.code.length := by omega
    rw [List.drop_length] at hf
    rw [← hf]
    repeat' (first | refine Run.ctl rfl ?_ | (refine Rg.op false tok rfl rfl rfl rfl ?_ ?_ ?_; (first | exact ⟨⟩ | omega | focus (simp <;> omega) | decide +kernel); (first | exact trivial | exact rfl | exact .inl rfl | exact .inr rfl)) | (refine Rg.op true tok rfl rfl rfl rfl ?_ ?_ ?_; (first | exact ⟨⟩ | omega | focus (simp <;> omega) | decide +kernel); (first | exact trivial | exact rfl | exact .inl rfl | exact .inr rfl)) | refine Rg.nil ?_ | refine Rg.skip rfl rfl rfl ?_ | refine Run.regR ?_ | refine Run.condT rfl ?_ | refine Run.condF rfl ?_ | ((first | refine Run.condB rfl (fun hc => ?_) (fun hc => ?_) | ((fail_if_success (refine Rg.lit true rfl ?_)); (fail_if_success (refine Rg.lit false rfl ?_)); refine Rg.guard rfl (fun hc => ?_) (fun hc => ?_))) <;> ((try simp only [cs] at hc); (first | ((exfalso; omega); done) | skip))))
    (first | refine Run.ret tok Tryd.func77 rfl ?_ | refine Run.fall tok Tryd.func77 rfl ?_)
    exact .refl _
end Go.Proofs.YtlimecfjpfaljaaDoor.W
end
section
/- Walks: the first error of a list's (chapter 3). -/
set_option linter.unusedVariables false
set_option linter.unusedSimpArgs false
set_option linter.unusedSectionVars false
set_option pp.maxSteps 3000
set_option maxHeartbeats 1000000
namespace Go.Proofs.YtlimecfjpfaljaaDoor.W
open Go Go.Sy

theorem eachH_ (p : Pg) (F : Hd → Int) (g : FuncId) (l : List Hd) (hl : l.length ≤ 1000) (hp : ∀ x ∈ l, Pure Tryd.prog g [pPg p, pHd x] (i64 (F x))) : Pure Tryd.prog 76 [pPg p, sl 2 eHd l, .func g []] (i64 (firstWhy F l)) := by
  refine Pure.of_spec (Spec.of_run (fn := Tryd.f76) Tryd.func76 rfl rfl (by kernel_rfl) ?_) (by first | assumption | rfl | (split <;> rfl) | (split <;> split <;> rfl))
  repeat' (first | refine Run.ctl rfl ?_ | (refine Rg.op false tok rfl rfl rfl rfl ?_ ?_ ?_; (first | exact ⟨⟩ | omega | focus (simp <;> omega) | decide +kernel); (first | exact trivial | exact rfl | exact .inl rfl | exact .inr rfl)) | (refine Rg.op true tok rfl rfl rfl rfl ?_ ?_ ?_; (first | exact ⟨⟩ | omega | focus (simp <;> omega) | decide +kernel); (first | exact trivial | exact rfl | exact .inl rfl | exact .inr rfl)) | refine Rg.nil ?_ | refine Rg.skip rfl rfl rfl ?_ | refine Run.regR ?_ | refine Run.condT rfl ?_ | refine Run.condF rfl ?_ | ((first | refine Run.condB rfl (fun hc => ?_) (fun hc => ?_) | ((fail_if_success (refine Rg.lit true rfl ?_)); (fail_if_success (refine Rg.lit false rfl ?_)); refine Rg.guard rfl (fun hc => ?_) (fun hc => ?_))) <;> ((try simp only [cs] at hc); (first | ((exfalso; omega); done) | skip))))
  refine Run.loopN (ι := Nat) (fun i => ([(2, .func g []), (3, .ptr 0 0 0), (10, sl 2 eHd l), (11, i64 l.length), (12, i64 i)], [some ⟨26, 4, 1, fun _ => ePg p, false, false⟩])) (fun i => i ≤ l.length ∧ firstWhy F (l.drop i) = firstWhy F l) (fun i => l.length - i) 0 ⟨rfl, rfl, rfl, rfl, rfl, trivial⟩ rfl ⟨by omega, rfl⟩ ?_
  rintro i ⟨hi, hf⟩ back backR
  by_cases hlt : i < l.length
  · rw [firstWhy_at hlt] at hf
    have hm : l.getD i default ∈ l := by rw [List.getD_eq_getElem?_getD, List.getElem?_eq_getElem hlt]; exact List.getElem_mem hlt
    have hin := hp _ hm
    by_cases hw : F (l.getD i default) = 0
    · rw [if_neg (fun e => e hw)] at hf
      rw [hw] at hin
      repeat' (first | refine Run.ctl rfl ?_ | (refine Rg.op false tok rfl rfl rfl rfl ?_ ?_ ?_; (first | exact ⟨⟩ | omega | focus (simp <;> omega) | decide +kernel); (first | exact trivial | exact rfl | exact .inl rfl | exact .inr rfl)) | refine Rg.call (hin) rfl rfl rfl rfl rfl ⟨⟨.refl _, .refl _, trivial⟩, rfl⟩ ?_ | (refine Rg.op true tok rfl rfl rfl rfl ?_ ?_ ?_; (first | exact ⟨⟩ | omega | focus (simp <;> omega) | decide +kernel); (first | exact trivial | exact rfl | exact .inl rfl | exact .inr rfl)) | refine Rg.nil ?_ | refine Rg.skip rfl rfl rfl ?_ | refine Run.regR ?_ | refine Run.condT rfl ?_ | refine Run.condF rfl ?_ | ((first | refine Run.condB rfl (fun hc => ?_) (fun hc => ?_) | ((fail_if_success (refine Rg.lit true rfl ?_)); (fail_if_success (refine Rg.lit false rfl ?_)); refine Rg.guard rfl (fun hc => ?_) (fun hc => ?_))) <;> ((try simp only [cs] at hc); (first | ((exact absurd rfl hc); done) | ((exfalso; omega); done) | skip))))
      exact backR [0] (i + 1) _ _ ⟨by omega, hf⟩ (by omega) rfl ⟨⟨_, rfl, rfl, rfl, rfl, rfl, fun k hk => .ofEq rfl rfl⟩, trivial⟩ ⟨.cl rfl, .ptrN rfl rfl, .cl rfl, .cl rfl, .cl rfl, trivial⟩
    · rw [if_pos hw] at hf
      rw [← hf]
      generalize F (l.getD i default) = z at hin hw
      repeat' (first | refine Run.ctl rfl ?_ | (refine Rg.op false tok rfl rfl rfl rfl ?_ ?_ ?_; (first | exact ⟨⟩ | omega | focus (simp <;> omega) | decide +kernel); (first | exact trivial | exact rfl | exact .inl rfl | exact .inr rfl)) | refine Rg.call (hin) rfl rfl rfl rfl rfl ⟨⟨.refl _, .refl _, trivial⟩, rfl⟩ ?_ | (refine Rg.op true tok rfl rfl rfl rfl ?_ ?_ ?_; (first | exact ⟨⟩ | omega | focus (simp <;> omega) | decide +kernel); (first | exact trivial | exact rfl | exact .inl rfl | exact .inr rfl)) | refine Rg.nil ?_ | refine Rg.skip rfl rfl rfl ?_ | refine Run.regR ?_ | refine Run.condT rfl ?_ | refine Run.condF rfl ?_ | ((first | refine Run.condB rfl (fun hc => ?_) (fun hc => ?_) | ((fail_if_success (refine Rg.lit true rfl ?_)); (fail_if_success (refine Rg.lit false rfl ?_)); refine Rg.guard rfl (fun hc => ?_) (fun hc => ?_))) <;> ((try simp only [cs] at hc); (first | ((exact absurd hc hw); done) | ((exfalso; omega); done) | skip))))
      (first | refine Run.ret tok Tryd.func76 rfl ?_ | refine Run.fall tok Tryd.func76 rfl ?_)
      exact .refl _
  · obtain rfl : i = l.length := by omega
    rw [List.drop_length] at hf
    rw [← hf]
    repeat' (first | refine Run.ctl rfl ?_ | (refine Rg.op false tok rfl rfl rfl rfl ?_ ?_ ?_; (first | exact ⟨⟩ | omega | focus (simp <;> omega) | decide +kernel); (first | exact trivial | exact rfl | exact .inl rfl | exact .inr rfl)) | (refine Rg.op true tok rfl rfl rfl rfl ?_ ?_ ?_; (first | exact ⟨⟩ | omega | focus (simp <;> omega) | decide +kernel); (first | exact trivial | exact rfl | exact .inl rfl | exact .inr rfl)) | refine Rg.nil ?_ | refine Rg.skip rfl rfl rfl ?_ | refine Run.regR ?_ | refine Run.condT rfl ?_ | refine Run.condF rfl ?_ | ((first | refine Run.condB rfl (fun hc => ?_) (fun hc => ?_) | ((fail_if_success (refine Rg.lit true rfl ?_)); (fail_if_success (refine Rg.lit false rfl ?_)); refine Rg.guard rfl (fun hc => ?_) (fun hc => ?_))) <;> ((try simp only [cs] at hc); (first | ((exfalso; omega); done) | skip))))
    (first | refine Run.ret tok Tryd.func76 rfl ?_ | refine Run.fall tok Tryd.func76 rfl ?_)
    exact .refl _
theorem eachA_ (p : Pg) (F : Act → Int) (g : FuncId) (l : List Act) (hl : l.length ≤ 1000) (hp : ∀ x ∈ l, Pure Tryd.prog g [pPg p, pAct x] (i64 (F x))) : Pure Tryd.prog 78 [pPg p, sl 4 eAct l, .func g []] (i64 (firstWhy F l)) := by
  refine Pure.of_spec (Spec.of_run (fn := Tryd.f78) Tryd.func78 rfl rfl (by kernel_rfl) ?_) (by first | assumption | rfl | (split <;> rfl) | (split <;> split <;> rfl))
  repeat' (first | refine Run.ctl rfl ?_ | (refine Rg.op false tok rfl rfl rfl rfl ?_ ?_ ?_; (first | exact ⟨⟩ | omega | focus (simp <;> omega) | decide +kernel); (first | exact trivial | exact rfl | exact .inl rfl | exact .inr rfl)) | (refine Rg.op true tok rfl rfl rfl rfl ?_ ?_ ?_; (first | exact ⟨⟩ | omega | focus (simp <;> omega) | decide +kernel); (first | exact trivial | exact rfl | exact .inl rfl | exact .inr rfl)) | refine Rg.nil ?_ | refine Rg.skip rfl rfl rfl ?_ | refine Run.regR ?_ | refine Run.condT rfl ?_ | refine Run.condF rfl ?_ | ((first | refine Run.condB rfl (fun hc => ?_) (fun hc => ?_) | ((fail_if_success (refine Rg.lit true rfl ?_)); (fail_if_success (refine Rg.lit false rfl ?_)); refine Rg.guard rfl (fun hc => ?_) (fun hc => ?_))) <;> ((try simp only [cs] at hc); (first | ((exfalso; omega); done) | skip))))
  refine Run.loopN (ι := Nat) (fun i => ([(2, .func g []), (3, .ptr 0 0 0), (10, sl 4 eAct l), (11, i64 l.length), (12, i64 i)], [some ⟨26, 4, 1, fun _ => ePg p, false, false⟩])) (fun i => i ≤ l.length ∧ firstWhy F (l.drop i) = firstWhy F l) (fun i => l.length - i) 0 ⟨rfl, rfl, rfl, rfl, rfl, trivial⟩ rfl ⟨by omega, rfl⟩ ?_
  rintro i ⟨hi, hf⟩ back backR
  by_cases hlt : i < l.length
  · rw [firstWhy_at hlt] at hf
    have hm : l.getD i default ∈ l := by rw [List.getD_eq_getElem?_getD, List.getElem?_eq_getElem hlt]; exact List.getElem_mem hlt
    have hin := hp _ hm
    by_cases hw : F (l.getD i default) = 0
    · rw [if_neg (fun e => e hw)] at hf
      rw [hw] at hin
      repeat' (first | refine Run.ctl rfl ?_ | (refine Rg.op false tok rfl rfl rfl rfl ?_ ?_ ?_; (first | exact ⟨⟩ | omega | focus (simp <;> omega) | decide +kernel); (first | exact trivial | exact rfl | exact .inl rfl | exact .inr rfl)) | refine Rg.call (hin) rfl rfl rfl rfl rfl ⟨⟨.refl _, .refl _, trivial⟩, rfl⟩ ?_ | (refine Rg.op true tok rfl rfl rfl rfl ?_ ?_ ?_; (first | exact ⟨⟩ | omega | focus (simp <;> omega) | decide +kernel); (first | exact trivial | exact rfl | exact .inl rfl | exact .inr rfl)) | refine Rg.nil ?_ | refine Rg.skip rfl rfl rfl ?_ | refine Run.regR ?_ | refine Run.condT rfl ?_ | refine Run.condF rfl ?_ | ((first | refine Run.condB rfl (fun hc => ?_) (fun hc => ?_) | ((fail_if_success (refine Rg.lit true rfl ?_)); (fail_if_success (refine Rg.lit false rfl ?_)); refine Rg.guard rfl (fun hc => ?_) (fun hc => ?_))) <;> ((try simp only [cs] at hc); (first | ((exact absurd rfl hc); done) | ((exfalso; omega); done) | skip))))
      exact backR [0] (i + 1) _ _ ⟨by omega, hf⟩ (by omega) rfl ⟨⟨_, rfl, rfl, rfl, rfl, rfl, fun k hk => .ofEq rfl rfl⟩, trivial⟩ ⟨.cl rfl, .ptrN rfl rfl, .cl rfl, .cl rfl, .cl rfl, trivial⟩
    · rw [if_pos hw] at hf
      rw [← hf]
      generalize F (l.getD i default) = z at hin hw
      repeat' (first | refine Run.ctl rfl ?_ | (refine Rg.op false tok rfl rfl rfl rfl ?_ ?_ ?_; (first | exact ⟨⟩ | omega | focus (simp <;> omega) | decide +kernel); (first | exact trivial | exact rfl | exact .inl rfl | exact .inr rfl)) | refine Rg.call (hin) rfl rfl rfl rfl rfl ⟨⟨.refl _, .refl _, trivial⟩, rfl⟩ ?_ | (refine Rg.op true tok rfl rfl rfl rfl ?_ ?_ ?_; (first | exact ⟨⟩ | omega | focus (simp <;> omega) | decide +kernel); (first | exact trivial | exact rfl | exact .inl rfl | exact .inr rfl)) | refine Rg.nil ?_ | refine Rg.skip rfl rfl rfl ?_ | refine Run.regR ?_ | refine Run.condT rfl ?_ | refine Run.condF rfl ?_ | ((first | refine Run.condB rfl (fun hc => ?_) (fun hc => ?_) | ((fail_if_success (refine Rg.lit true rfl ?_)); (fail_if_success (refine Rg.lit false rfl ?_)); refine Rg.guard rfl (fun hc => ?_) (fun hc => ?_))) <;> ((try simp only [cs] at hc); (first | ((exact absurd hc hw); done) | ((exfalso; omega); done) | skip))))
      (first | refine Run.ret tok Tryd.func78 rfl ?_ | refine Run.fall tok Tryd.func78 rfl ?_)
      exact .refl _
  · obtain rfl : i = l.length := by omega
    rw [List.drop_length] at hf
    rw [← hf]
    repeat' (first | refine Run.ctl rfl ?_ | (refine Rg.op false tok rfl rfl rfl rfl ?_ ?_ ?_; (first | exact ⟨⟩ | omega | focus (simp <;> omega) | decide +kernel); (first | exact trivial | exact rfl | exact .inl rfl | exact .inr rfl)) | (refine Rg.op true tok rfl rfl rfl rfl ?_ ?_ ?_; (first | exact ⟨⟩ | omega | focus (simp <;> omega) | decide +kernel); (first | exact trivial | exact rfl | exact .inl rfl | exact .inr rfl)) | refine Rg.nil ?_ | refine Rg.skip rfl rfl rfl ?_ | refine Run.regR ?_ | refine Run.condT rfl ?_ | refine Run.condF rfl ?_ | ((first | refine Run.condB rfl (fun hc => ?_) (fun hc => ?_) | ((fail_if_success (refine Rg.lit true rfl ?_)); (fail_if_success (refine Rg.lit false rfl ?_)); refine Rg.guard rfl (fun hc => ?_) (fun hc => ?_))) <;> ((try simp only [cs] at hc); (first | ((exfalso; omega); done) | skip))))
    (first | refine Run.ret tok Tryd.func78 rfl ?_ | refine Run.fall tok Tryd.func78 rfl ?_)
    exact .refl _
theorem eachN_ (p : Pg) (F : Nt → Int) (g : FuncId) (l : List Nt) (hl : l.length ≤ 1000) (hp : ∀ x ∈ l, Pure Tryd.prog g [pPg p, pNt x] (i64 (F x))) : Pure Tryd.prog 80 [pPg p, sl 3 eNt l, .func g []] (i64 (firstWhy F l)) := by
  refine Pure.of_spec (Spec.of_run (fn := Tryd.f80) Tryd.func80 rfl rfl (by kernel_rfl) ?_) (by first | assumption | rfl | (split <;> rfl) | (split <;> split <;> rfl))
  repeat' (first | refine Run.ctl rfl ?_ | (refine Rg.op false tok rfl rfl rfl rfl ?_ ?_ ?_; (first | exact ⟨⟩ | omega | focus (simp <;> omega) | decide +kernel); (first | exact trivial | exact rfl | exact .inl rfl | exact .inr rfl)) | (refine Rg.op true tok rfl rfl rfl rfl ?_ ?_ ?_; (first | exact ⟨⟩ | omega | focus (simp <;> omega) | decide +kernel); (first | exact trivial | exact rfl | exact .inl rfl | exact .inr rfl)) | refine Rg.nil ?_ | refine Rg.skip rfl rfl rfl ?_ | refine Run.regR ?_ | refine Run.condT rfl ?_ | refine Run.condF rfl ?_ | ((first | refine Run.condB rfl (fun hc => ?_) (fun hc => ?_) | ((fail_if_success (refine Rg.lit true rfl ?_)); (fail_if_success (refine Rg.lit false rfl ?_)); refine Rg.guard rfl (fun hc => ?_) (fun hc => ?_))) <;> ((try simp only [cs] at hc); (first | ((exfalso; omega); done) | skip))))
  refine Run.loopN (ι := Nat) (fun i => ([(2, .func g []), (3, .ptr 0 0 0), (10, sl 3 eNt l), (11, i64 l.length), (12, i64 i)], [some ⟨26, 4, 1, fun _ => ePg p, false, false⟩])) (fun i => i ≤ l.length ∧ firstWhy F (l.drop i) = firstWhy F l) (fun i => l.length - i) 0 ⟨rfl, rfl, rfl, rfl, rfl, trivial⟩ rfl ⟨by omega, rfl⟩ ?_
  rintro i ⟨hi, hf⟩ back backR
  by_cases hlt : i < l.length
  · rw [firstWhy_at hlt] at hf
    have hm : l.getD i default ∈ l := by rw [List.getD_eq_getElem?_getD, List.getElem?_eq_getElem hlt]; exact List.getElem_mem hlt
    have hin := hp _ hm
    by_cases hw : F (l.getD i default) = 0
    · rw [if_neg (fun e => e hw)] at hf
      rw [hw] at hin
      repeat' (first | refine Run.ctl rfl ?_ | (refine Rg.op false tok rfl rfl rfl rfl ?_ ?_ ?_; (first | exact ⟨⟩ | omega | focus (simp <;> omega) | decide +kernel); (first | exact trivial | exact rfl | exact .inl rfl | exact .inr rfl)) | refine Rg.call (hin) rfl rfl rfl rfl rfl ⟨⟨.refl _, .refl _, trivial⟩, rfl⟩ ?_ | (refine Rg.op true tok rfl rfl rfl rfl ?_ ?_ ?_; (first | exact ⟨⟩ | omega | focus (simp <;> omega) | decide +kernel); (first | exact trivial | exact rfl | exact .inl rfl | exact .inr rfl)) | refine Rg.nil ?_ | refine Rg.skip rfl rfl rfl ?_ | refine Run.regR ?_ | refine Run.condT rfl ?_ | refine Run.condF rfl ?_ | ((first | refine Run.condB rfl (fun hc => ?_) (fun hc => ?_) | ((fail_if_success (refine Rg.lit true rfl ?_)); (fail_if_success (refine Rg.lit false rfl ?_)); refine Rg.guard rfl (fun hc => ?_) (fun hc => ?_))) <;> ((try simp only [cs] at hc); (first | ((exact absurd rfl hc); done) | ((exfalso; omega); done) | skip))))
      exact backR [0] (i + 1) _ _ ⟨by omega, hf⟩ (by omega) rfl ⟨⟨_, rfl, rfl, rfl, rfl, rfl, fun k hk => .ofEq rfl rfl⟩, trivial⟩ ⟨.cl rfl, .ptrN rfl rfl, .cl rfl, .cl rfl, .cl rfl, trivial⟩
    · rw [if_pos hw] at hf
      rw [← hf]
      generalize F (l.getD i default) = z at hin hw
      repeat' (first | refine Run.ctl rfl ?_ | (refine Rg.op false tok rfl rfl rfl rfl ?_ ?_ ?_; (first | exact ⟨⟩ | omega | focus (simp <;> omega) | decide +kernel); (first | exact trivial | exact rfl | exact .inl rfl | exact .inr rfl)) | refine Rg.call (hin) rfl rfl rfl rfl rfl ⟨⟨.refl _, .refl _, trivial⟩, rfl⟩ ?_ | (refine Rg.op true tok rfl rfl rfl rfl ?_ ?_ ?_; (first | exact ⟨⟩ | omega | focus (simp <;> omega) | decide +kernel); (first | exact trivial | exact rfl | exact .inl rfl | exact .inr rfl)) | refine Rg.nil ?_ | refine Rg.skip rfl rfl rfl ?_ | refine Run.regR ?_ | refine Run.condT rfl ?_ | refine Run.condF rfl ?_ | ((first | refine Run.condB rfl (fun hc => ?_) (fun hc => ?_) | ((fail_if_success (refine Rg.lit true rfl ?_)); (fail_if_success (refine Rg.lit false rfl ?_)); refine Rg.guard rfl (fun hc => ?_) (fun hc => ?_))) <;> ((try simp only [cs] at hc); (first | ((exact absurd hc hw); done) | ((exfalso; omega); done) | skip))))
      (first | refine Run.ret tok Tryd.func80 rfl ?_ | refine Run.fall tok Tryd.func80 rfl ?_)
      exact .refl _
  · obtain rfl : i = l.length := by omega
    rw [List.drop_length] at hf
    rw [← hf]
    repeat' (first | refine Run.ctl rfl ?_ | (refine Rg.op false tok rfl rfl rfl rfl ?_ ?_ ?_; (first | exact ⟨⟩ | omega | focus (simp <;> omega) | decide +kernel); (first | exact trivial | exact rfl | exact .inl rfl | exact .inr rfl)) | (refine Rg.op true tok rfl rfl rfl rfl ?_ ?_ ?_; (first | exact ⟨⟩ | omega | focus (simp <;> omega) | decide +kernel); (first | exact trivial | exact rfl | exact .inl rfl | exact .inr rfl)) | refine Rg.nil ?_ | refine Rg.skip rfl rfl rfl ?_ | refine Run.regR ?_ | refine Run.condT rfl ?_ | refine Run.condF rfl ?_ | ((first | refine Run.condB rfl (fun hc => ?_) (fun hc => ?_) | ((fail_if_success (refine Rg.lit true rfl ?_)); (fail_if_success (refine Rg.lit false rfl ?_)); refine Rg.guard rfl (fun hc => ?_) (fun hc => ?_))) <;> ((try simp only [cs] at hc); (first | ((exfalso; omega); done) | skip))))
    (first | refine Run.ret tok Tryd.func80 rfl ?_ | refine Run.fall tok Tryd.func80 rfl ?_)
    exact .refl _
theorem progCheck_ (p : Pg) : Pure Tryd.prog 51 [pPg p] (i64 (progWhy p)) := by
  unfold progWhy
  by_cases h1 : 16 < p.handlers.length ∨ 8 < p.actors.length ∨ 16 < p.boot.length
  · rw [if_pos h1]
    refine Pure.of_spec (Spec.of_run (fn := Tryd.f51) Tryd.func51 rfl rfl (by kernel_rfl) ?_) (by first | assumption | rfl | (split <;> rfl) | (split <;> split <;> rfl))
    repeat' (first | refine Run.ctl rfl ?_ | (refine Rg.op false tok rfl rfl rfl rfl ?_ ?_ ?_; (first | exact ⟨⟩ | omega | focus (simp <;> omega) | decide +kernel); (first | exact trivial | exact rfl | exact .inl rfl | exact .inr rfl)) | (refine Rg.op true tok rfl rfl rfl rfl ?_ ?_ ?_; (first | exact ⟨⟩ | omega | focus (simp <;> omega) | decide +kernel); (first | exact trivial | exact rfl | exact .inl rfl | exact .inr rfl)) | refine Rg.nil ?_ | refine Rg.skip rfl rfl rfl ?_ | refine Run.regR ?_ | refine Run.condT rfl ?_ | refine Run.condF rfl ?_ | ((first | refine Run.condB rfl (fun hc => ?_) (fun hc => ?_) | ((fail_if_success (refine Rg.lit true rfl ?_)); (fail_if_success (refine Rg.lit false rfl ?_)); refine Rg.guard rfl (fun hc => ?_) (fun hc => ?_))) <;> ((try simp only [cs] at hc); (first | ((exfalso; omega); done) | skip))))
    all_goals ((first | refine Run.ret tok Tryd.func51 rfl ?_ | refine Run.fall tok Tryd.func51 rfl ?_); exact .refl _)
  rw [if_neg h1]
  by_cases h2 : p.actors.length = 0 ∨ p.fuel < 1 ∨ 256 < p.fuel
  · rw [if_pos h2]
    refine Pure.of_spec (Spec.of_run (fn := Tryd.f51) Tryd.func51 rfl rfl (by kernel_rfl) ?_) (by first | assumption | rfl | (split <;> rfl) | (split <;> split <;> rfl))
    repeat' (first | refine Run.ctl rfl ?_ | (refine Rg.op false tok rfl rfl rfl rfl ?_ ?_ ?_; (first | exact ⟨⟩ | omega | focus (simp <;> omega) | decide +kernel); (first | exact trivial | exact rfl | exact .inl rfl | exact .inr rfl)) | (refine Rg.op true tok rfl rfl rfl rfl ?_ ?_ ?_; (first | exact ⟨⟩ | omega | focus (simp <;> omega) | decide +kernel); (first | exact trivial | exact rfl | exact .inl rfl | exact .inr rfl)) | refine Rg.nil ?_ | refine Rg.skip rfl rfl rfl ?_ | refine Run.regR ?_ | refine Run.condT rfl ?_ | refine Run.condF rfl ?_ | ((first | refine Run.condB rfl (fun hc => ?_) (fun hc => ?_) | ((fail_if_success (refine Rg.lit true rfl ?_)); (fail_if_success (refine Rg.lit false rfl ?_)); refine Rg.guard rfl (fun hc => ?_) (fun hc => ?_))) <;> ((try simp only [cs] at hc); (first | ((exfalso; omega); done) | skip))))
    all_goals ((first | refine Run.ret tok Tryd.func51 rfl ?_ | refine Run.fall tok Tryd.func51 rfl ?_); exact .refl _)
  rw [if_neg h2]
  have e1 := eachH_ p (handlerWhy p) 77 p.handlers (by omega) (fun x _ => handlerWhy_ p x)
  have e2 := eachA_ p (actorWhy p) 79 p.actors (by omega) (fun x _ => actorWhy_ p x)
  have e3 := eachN_ p (noteWhy p) 81 p.boot (by omega) (fun x _ => noteWhy_ p x)
  generalize firstWhy (handlerWhy p) p.handlers = z1 at e1
  generalize firstWhy (actorWhy p) p.actors = z2 at e2
  generalize firstWhy (noteWhy p) p.boot = z3 at e3
  refine Pure.of_spec (Spec.of_run (fn := Tryd.f51) Tryd.func51 rfl rfl (by kernel_rfl) ?_) (by first | assumption | rfl | (split <;> rfl) | (split <;> split <;> rfl))
  repeat' (first | refine Run.ctl rfl ?_ | (refine Rg.op false tok rfl rfl rfl rfl ?_ ?_ ?_; (first | exact ⟨⟩ | omega | focus (simp <;> omega) | decide +kernel); (first | exact trivial | exact rfl | exact .inl rfl | exact .inr rfl)) | refine Rg.call (e1) rfl rfl rfl rfl rfl ⟨⟨.refl _, .refl _, .refl _, trivial⟩, rfl⟩ ?_ | refine Rg.call (e2) rfl rfl rfl rfl rfl ⟨⟨.refl _, .refl _, .refl _, trivial⟩, rfl⟩ ?_ | refine Rg.call (e3) rfl rfl rfl rfl rfl ⟨⟨.refl _, .refl _, .refl _, trivial⟩, rfl⟩ ?_ | (refine Rg.op true tok rfl rfl rfl rfl ?_ ?_ ?_; (first | exact ⟨⟩ | omega | focus (simp <;> omega) | decide +kernel); (first | exact trivial | exact rfl | exact .inl rfl | exact .inr rfl)) | refine Rg.nil ?_ | refine Rg.skip rfl rfl rfl ?_ | refine Run.regR ?_ | refine Run.condT rfl ?_ | refine Run.condF rfl ?_ | ((first | refine Run.condB rfl (fun hc => ?_) (fun hc => ?_) | ((fail_if_success (refine Rg.lit true rfl ?_)); (fail_if_success (refine Rg.lit false rfl ?_)); refine Rg.guard rfl (fun hc => ?_) (fun hc => ?_))) <;> ((try simp only [cs] at hc); (first | ((exfalso; omega); done) | skip))))
  all_goals ((first | refine Run.ret tok Tryd.func51 rfl ?_ | refine Run.fall tok Tryd.func51 rfl ?_); refine .ofInt ?_; repeat' split) <;> first | rfl | (exfalso; omega) | omega
end Go.Proofs.YtlimecfjpfaljaaDoor.W
end
section
/- Plain: what is asked of a world, and watches (chapters 2, 13, 14). -/
set_option linter.unusedVariables false
set_option linter.unusedSimpArgs false
set_option linter.unusedSectionVars false
namespace Go.Proofs.YtlimecfjpfaljaaDoor.W
open Go Go.Sy

def wrap (n : Int) : Int := IntKind.wrap .i64 n
def truth (b : Bool) : Int := if b then 1 else 0
/-- What an instruction makes of two numbers, and why an actor goes down by it. -/
def sumTwo (op a b : Int) : Int × Int :=
  if op = 9 then (wrap (a + b), 0)
  else if op = 10 then (wrap (a - b), 0)
  else if op = 11 then (wrap (a * b), 0)
  else if op = 15 then (truth (a = b), 0)
  else if op = 16 then (truth (a < b), 0)
  else if op = 17 then (truth (a ≠ 0 && b ≠ 0), 0)
  else if op = 18 then (truth (a ≠ 0 || b ≠ 0), 0)
  else if op = 12 then (if b = 0 then (0, 3) else (wrap (a.tdiv b), 0))
  else if op = 13 then (if b = 0 then (0, 3) else (a.tmod b, 0))
  else (0, 0)
def sumOne (op a : Int) : Int × Bool := if op = 14 then (wrap (-a), true) else if op = 19 then (truth (a = 0), true) else (0, false)

def asksW (op : Int) : Bool := decide (31 ≤ op ∧ op ≤ 37)
def reckonsW (op : Int) : Bool := decide ((1 ≤ op ∧ op ≤ 4) ∨ (9 ≤ op ∧ op ≤ 19))
def someW (op : Int) : Bool := decide (op = 1 ∨ (31 ≤ op ∧ op ≤ 36))
def whoseW (i : Instr) : Int × Bool := if asksW i.op = false ∨ i.op = 37 then (0, false) else if i.op = 31 ∧ 0 ≤ i.a then (i.a.tdiv 16, true) else (i.a, true)
def putsW (op : Int) : Int := if asksW op then 1 else opPuts op
def exInstr (p : Pg) (i : Instr) (n : Int) : Int :=
  if (asksW i.op = false ∧ reckonsW i.op = false) ∨ (someW i.op = false ∧ i.a ≠ 0) then 1
  else if i.op = 31 ∧ 8 ≤ i.a % 16 then 6
  else if (whoseW i).2 = true ∧ ((whoseW i).1 < 0 ∨ (p.actors.length : Int) ≤ (whoseW i).1) then 7
  else if n < opPops i.op ∨ 8 < n - opPops i.op + putsW i.op then 5
  else 0
def exFrom (p : Pg) : List Instr → Int → Int
  | [], n => if n ≠ 1 then 5 else 0
  | i :: l, n => if exInstr p i n ≠ 0 then exInstr p i n else exFrom p l (n + (putsW i.op - opPops i.op))
def exWhy (p : Pg) (x : List Instr) : Int := if flowWhy p ≠ 0 then flowWhy p else if 64 < x.length then 3 else exFrom p x 0
def exAsk (w : Wd) (i : Instr) : Int :=
  let l := w.actors.getD (whoseW i).1.toNat default
  if i.op = 31 then l.regs.getD (i.a.tmod 16).toNat 0
  else if i.op = 32 then l.down
  else if i.op = 33 then l.over
  else if i.op = 34 then toMail w.mail (whoseW i).1
  else if i.op = 35 then truth l.armed
  else if i.op = 36 then l.sent
  else w.mail.length
def exStep (w : Wd) (s : List Int) (i : Instr) : List Int :=
  let n := s.length
  if asksW i.op then s ++ [exAsk w i]
  else if i.op = 1 then s ++ [i.a]
  else if i.op = 2 then s.take (n - 1)
  else if i.op = 3 then s ++ [s.getD (n - 1) 0]
  else if i.op = 4 then (s.set (n - 1) (s.getD (n - 2) 0)).set (n - 2) (s.getD (n - 1) 0)
  else if (sumOne i.op (s.getD (n - 1) 0)).2 then s.set (n - 1) (sumOne i.op (s.getD (n - 1) 0)).1
  else s.take (n - 2) ++ [(sumTwo i.op (s.getD (n - 2) 0) (s.getD (n - 1) 0)).1]
def exOf (w : Wd) (x : List Instr) : Int := (x.foldl (exStep w) []).getD 0 0
def exValue (p : Pg) (w : Wd) (x : List Instr) : Int × Int := if exWhy p x ≠ 0 then (0, exWhy p x) else if worldOk p w = false then (0, 1) else (exOf w x, 0)
/-! ### watches -/
def watchWhy (p : Pg) (l : List (List Instr)) : Int := if 8 < l.length then 3 else if flowWhy p ≠ 0 then flowWhy p else firstWhy (exWhy p) l
def badFrom (p : Pg) (w : Wd) : List (List Instr) → Nat → List Int
  | [], _ => []
  | x :: l, k => if exValue p w x = (0, 0) then (k : Int) :: badFrom p w l (k + 1) else badFrom p w l (k + 1)
def badIn (p : Pg) (w : Wd) (l : List (List Instr)) : List Int := badFrom p w l 0
def badOf (w : Wd) : List (List Instr) → Nat → List Int
  | [], _ => []
  | x :: l, k => if exOf w x = 0 then (k : Int) :: badOf w l (k + 1) else badOf w l (k + 1)
end Go.Proofs.YtlimecfjpfaljaaDoor.W
end
section
/- Plain: the stack of an expression; the depths of what is reached. -/
set_option linter.unusedVariables false
set_option linter.unusedSimpArgs false
set_option linter.unusedSectionVars false
namespace Go.Proofs.YtlimecfjpfaljaaDoor.W
open Go Go.Sy

/-! ### expressions -/
structure ExOk (p : Pg) (i : Instr) (n : Int) : Prop where
  op : (1 ≤ i.op ∧ i.op ≤ 4) ∨ (9 ≤ i.op ∧ i.op ≤ 19) ∨ (31 ≤ i.op ∧ i.op ≤ 37)
  a0 : someW i.op = false → i.a = 0
  reg : i.op = 31 → i.a % 16 < 8
  who : (whoseW i).2 = true → 0 ≤ (whoseW i).1 ∧ (whoseW i).1 < p.actors.length
  lo : opPops i.op ≤ n
  hi : n - opPops i.op + putsW i.op ≤ 8
theorem exInstr_zero {p : Pg} {i : Instr} {n : Int} : exInstr p i n = 0 ↔ ExOk p i n := by
  unfold exInstr
  constructor
  · intro h
    split at h
    · cases h
    split at h
    · cases h
    split at h
    · cases h
    split at h
    · cases h
    rename_i h1 h2 h3 h4
    refine ⟨?_, fun hs => Decidable.byContradiction fun e => h1 (.inr ⟨hs, e⟩), fun e => by omega, fun e => ?_, by omega, by omega⟩
    · have h1 : ¬(asksW i.op = false ∧ reckonsW i.op = false) := fun e => h1 (.inl e)
      simp only [asksW, reckonsW, decide_eq_false_iff_not] at h1
      omega
    · refine ⟨by by_cases h : (whoseW i).1 < 0; exact absurd ⟨e, .inl h⟩ h3; omega, ?_⟩
      by_cases h : (p.actors.length : Int) ≤ (whoseW i).1
      · exact absurd ⟨e, .inr h⟩ h3
      · omega
  · intro h
    have h0 := h.op
    have c1 : ¬((asksW i.op = false ∧ reckonsW i.op = false) ∨ (someW i.op = false ∧ i.a ≠ 0)) := by
      rintro (⟨e1, e2⟩ | ⟨e1, e2⟩)
      · simp only [asksW, reckonsW, decide_eq_false_iff_not] at e1 e2
        omega
      · exact e2 (h.a0 e1)
    have c2 : ¬(i.op = 31 ∧ 8 ≤ i.a % 16) := by rintro ⟨e, e2⟩; have := h.reg e; omega
    have c3 : ¬((whoseW i).2 = true ∧ ((whoseW i).1 < 0 ∨ (p.actors.length : Int) ≤ (whoseW i).1)) := by rintro ⟨e, e2⟩; have := h.who e; omega
    have c4 : ¬(n < opPops i.op ∨ 8 < n - opPops i.op + putsW i.op) := by have := h.lo; have := h.hi; omega
    rw [if_neg c1, if_neg c2, if_neg c3, if_neg c4]
theorem opPops_rng (op : Int) : 0 ≤ opPops op ∧ opPops op ≤ 2 := by
  unfold opPops
  split
  · rename_i h
    simp only [opValid, Bool.and_eq_true, decide_eq_true_eq] at h
    obtain ⟨k, hk⟩ : ∃ k : Nat, op = k := ⟨op.toNat, by omega⟩
    subst hk
    have hk : k < 26 := by omega
    have hall : ∀ k, k < 26 → 0 ≤ popsT.getD k 0 ∧ popsT.getD k 0 ≤ 2 := by decide
    exact hall k hk
  · omega
theorem opPuts_rng (op : Int) : 0 ≤ opPuts op ∧ opPuts op ≤ 2 := by
  unfold opPuts
  split
  · rename_i h
    simp only [opValid, Bool.and_eq_true, decide_eq_true_eq] at h
    obtain ⟨k, hk⟩ : ∃ k : Nat, op = k := ⟨op.toNat, by omega⟩
    subst hk
    have hk : k < 26 := by omega
    have hall : ∀ k, k < 26 → 0 ≤ putsT.getD k 0 ∧ putsT.getD k 0 ≤ 2 := by decide
    exact hall k hk
  · omega
theorem putsW_rng (op : Int) : 0 ≤ putsW op ∧ putsW op ≤ 2 := by
  unfold putsW
  split
  · omega
  · exact opPuts_rng op
theorem exStep_len {p : Pg} {w : Wd} {i : Instr} {s : List Int} (h : ExOk p i s.length) : ((exStep w s i).length : Int) = s.length + (putsW i.op - opPops i.op) := by
  have hop := h.op
  have hlo := h.lo
  obtain ⟨op, a⟩ := i
  dsimp only at hop hlo
  have hc : op = 1 ∨ op = 2 ∨ op = 3 ∨ op = 4 ∨ op = 9 ∨ op = 10 ∨ op = 11 ∨ op = 12 ∨ op = 13 ∨ op = 14 ∨ op = 15 ∨ op = 16 ∨ op = 17 ∨ op = 18 ∨ op = 19 ∨ op = 31 ∨ op = 32 ∨ op = 33 ∨ op = 34 ∨ op = 35 ∨ op = 36 ∨ op = 37 := by omega
  clear h hop
  rcases hc with rfl | rfl | rfl | rfl | rfl | rfl | rfl | rfl | rfl | rfl | rfl | rfl | rfl | rfl | rfl | rfl | rfl | rfl | rfl | rfl | rfl | rfl <;>
    simp [exStep, asksW, sumOne, putsW, opPops, opPuts, opValid, popsT, putsT] at hlo ⊢ <;> omega

/-! ### depths -/
inductive Reach (p : Pg) (code : List Instr) : Int → Int → Prop
  | start : Reach p code 0 0
  | step {at_ n k : Int} (h : Reach p code at_ n) (h0 : 0 ≤ at_) (h1 : at_ < code.length) (hk : k ∈ nextOf at_ (code.getD at_.toNat default)) : Reach p code k (n - takesOf p (code.getD at_.toNat default) + opPuts (code.getD at_.toNat default).op)
structure Good (p : Pg) (code : List Instr) : Prop where
  fit : ∀ at_ n, Reach p code at_ n → 0 ≤ at_ → at_ < code.length → takesOf p (code.getD at_.toNat default) ≤ n ∧ n - takesOf p (code.getD at_.toNat default) + opPuts (code.getD at_.toNat default).op ≤ 8
  one : ∀ at_ n m, Reach p code at_ n → Reach p code at_ m → n = m
/-- Where a code's instructions lead stays in the code, or is its end. -/
def Inside (code : List Instr) : Prop := ∀ i ∈ code, i.op = 20 ∨ i.op = 21 → 0 ≤ i.a ∧ i.a ≤ code.length
theorem nextOf_in {code : List Instr} (hi : Inside code) {at_ : Int} (h0 : 0 ≤ at_) (h1 : at_ < code.length) {k : Int} (hk : k ∈ nextOf at_ (code.getD at_.toNat default)) : 0 ≤ k ∧ k ≤ code.length := by
  have hm : code.getD at_.toNat default ∈ code := by
    have hl : at_.toNat < code.length := by omega
    simp only [List.getD_eq_getElem?_getD, List.getElem?_eq_getElem hl, Option.getD_some]
    exact List.getElem_mem hl
  have := hi _ hm
  unfold nextOf at hk
  split at hk
  · rename_i e; rw [List.mem_singleton] at hk; rw [hk]; exact this (.inl e)
  split at hk
  · rename_i e
    rcases List.mem_cons.1 hk with hk | hk
    · rw [hk]; exact this (.inr e)
    · rw [List.mem_singleton] at hk; omega
  split at hk
  · cases hk
  · rw [List.mem_singleton] at hk; omega
theorem Reach.rng {p : Pg} {code : List Instr} (hi : Inside code) {at_ n : Int} (h : Reach p code at_ n) : 0 ≤ at_ ∧ at_ ≤ code.length := by
  cases h with
  | start => omega
  | step h h0 h1 hk => exact nextOf_in hi h0 h1 hk
end Go.Proofs.YtlimecfjpfaljaaDoor.W
end
section
/- Plain: the walk ahead of running finds one depth for each place that is reached, if there is one. -/
set_option linter.unusedVariables false
set_option linter.unusedSimpArgs false
set_option linter.unusedSectionVars false
namespace Go.Proofs.YtlimecfjpfaljaaDoor.W
open Go Go.Sy

theorem getD_set {α : Type} {l : List α} {i j : Nat} {a d : α} (hi : i < l.length) : (l.set i a).getD j d = if i = j then a else l.getD j d := by
  by_cases h : i = j
  · subst h; simp [hi]
  · simp [h]
theorem set_at {l : List Int} {k : Int} {j : Nat} {n : Int} (h : 0 ≤ k ∧ k < l.length) : (l.set k.toNat n).getD j 0 = if k = j then n else l.getD j 0 := by
  rw [getD_set (by omega)]
  by_cases e : k = j
  · rw [if_pos e, if_pos (by omega)]
  · rw [if_neg e, if_neg (by omega)]
structure Pushed (n : Int) (ks out left o l : List Int) : Prop where
  len : o.length = out.length
  keep : ∀ k : Nat, out.getD k 0 ≠ -1 → o.getD k 0 = out.getD k 0
  new : ∀ k : Nat, o.getD k 0 ≠ -1 → out.getD k 0 ≠ -1 ∨ ((k : Int) ∈ ks ∧ o.getD k 0 = n ∧ (k : Int) ∈ l)
  all : ∀ j ∈ ks, o.getD j.toNat 0 = n
  sub : ∀ a ∈ left, a ∈ l
  from_ : ∀ a ∈ l, a ∈ left ∨ a ∈ ks
  cnt : o.count (-1) + l.length = out.count (-1) + left.length
theorem count_set {l : List Int} {i : Nat} {n : Int} (hi : i < l.length) (h : l.getD i 0 = -1) (hn : n ≠ -1) : (l.set i n).count (-1) + 1 = l.count (-1) := by
  induction l generalizing i with
  | nil => simp at hi
  | cons x l ih =>
    cases i with
    | zero =>
      simp at h; subst h
      simp [List.count_cons, hn]
    | succ i =>
      simp at h hi
      have := ih hi (by simpa using h)
      simp only [List.set_cons_succ, List.count_cons]
      omega
theorem pushTo_some {n : Int} (hn : n ≠ -1) : ∀ {ks out left o l : List Int}, (∀ k ∈ ks, 0 ≤ k ∧ k < (out.length : Int)) → pushTo n ks out left = some (o, l) → Pushed n ks out left o l
  | [], out, left, o, l, _, h => by
    simp only [pushTo, Option.some.injEq, Prod.mk.injEq] at h
    obtain ⟨rfl, rfl⟩ := h
    exact ⟨rfl, fun _ _ => rfl, fun _ h => .inl h, fun _ h => (nomatch h), fun _ h => h, fun _ h => .inl h, rfl⟩
  | k :: ks, out, left, o, l, hk, h => by
    have hk0 := hk k (by simp)
    unfold pushTo at h
    split at h
    · rename_i e
      have e' : ∀ j : Nat, (out.set k.toNat n).getD j 0 = if k = j then n else out.getD j 0 := fun j => set_at hk0
      have ih := pushTo_some hn (fun x hx => by rw [List.length_set]; exact hk x (by simp [hx])) h
      have hkn : o.getD k.toNat 0 = n := by
        have := ih.keep k.toNat (by rw [e', if_pos (by omega)]; exact hn)
        rw [this, e', if_pos (by omega)]
      refine ⟨by rw [ih.len, List.length_set], fun j hj => ?_, fun j hj => ?_, fun j hj => ?_, fun a ha => ih.sub a (by simp [ha]), fun a ha => ?_, ?_⟩
      · have hne : ¬ k = j := fun e2 => by
          rw [e2] at e; exact hj (by simpa using e)
        have := ih.keep j (by rw [e', if_neg hne]; exact hj)
        rw [this, e', if_neg hne]
      · by_cases hne : k = j
        · refine .inr ⟨by simp [hne], ?_, ih.sub _ (by simp [hne])⟩
          rw [show j = k.toNat by omega]; exact hkn
        · rcases ih.new j hj with h1 | ⟨h1, h2, h3⟩
          · rw [e', if_neg hne] at h1; exact .inl h1
          · exact .inr ⟨by simp [h1], h2, h3⟩
      · rcases List.mem_cons.1 hj with rfl | hj
        · exact hkn
        · exact ih.all j hj
      · rcases ih.from_ a ha with h1 | h1
        · rcases List.mem_append.1 h1 with h1 | h1
          · exact .inl h1
          · exact .inr (by simp at h1; simp [h1])
        · exact .inr (by simp [h1])
      · have := ih.cnt
        have h2 := count_set (n := n) (i := k.toNat) (l := out) (by omega) e hn
        simp only [List.length_append, List.length_cons, List.length_nil] at this
        omega
    split at h
    · rename_i e1 e2
      have ih := pushTo_some hn (fun x hx => hk x (by simp [hx])) h
      refine ⟨ih.len, ih.keep, fun j hj => ?_, fun j hj => ?_, ih.sub, fun a ha => ?_, ih.cnt⟩
      · rcases ih.new j hj with h1 | ⟨h1, h2⟩
        · exact .inl h1
        · exact .inr ⟨by simp [h1], h2⟩
      · rcases List.mem_cons.1 hj with rfl | hj
        · rw [ih.keep _ e1]; exact e2
        · exact ih.all j hj
      · rcases ih.from_ a ha with h1 | h1
        · exact .inl h1
        · exact .inr (by simp [h1])
    · cases h
theorem pushTo_none {n : Int} (hn : n ≠ -1) : ∀ {ks out left : List Int}, (∀ k ∈ ks, 0 ≤ k ∧ k < (out.length : Int)) → pushTo n ks out left = none → ∃ k ∈ ks, out.getD k.toNat 0 ≠ -1 ∧ out.getD k.toNat 0 ≠ n
  | [], out, left, _, h => by cases h
  | k :: ks, out, left, hk, h => by
    have hk0 := hk k (by simp)
    unfold pushTo at h
    split at h
    · rename_i e
      obtain ⟨j, hj, h1, h2⟩ := pushTo_none hn (fun x hx => by rw [List.length_set]; exact hk x (by simp [hx])) h
      have hj0 := hk j (by simp [hj])
      rw [set_at hk0] at h1 h2
      by_cases hkj : k = j.toNat
      · rw [if_pos hkj] at h2; exact absurd rfl h2
      · rw [if_neg hkj] at h1 h2
        exact ⟨j, by simp [hj], h1, h2⟩
    split at h
    · obtain ⟨j, hj, h1⟩ := pushTo_none hn (fun x hx => hk x (by simp [hx])) h
      exact ⟨j, by simp [hj], h1⟩
    · rename_i e1 e2
      exact ⟨k, by simp, e1, e2⟩
structure WInv (p : Pg) (code : List Instr) (out left : List Int) : Prop where
  len : out.length = code.length + 1
  reach : ∀ k : Nat, k ≤ code.length → out.getD k 0 ≠ -1 → Reach p code k (out.getD k 0) ∧ 0 ≤ out.getD k 0
  start : out.getD 0 0 = 0
  lf : ∀ a ∈ left, 0 ≤ a ∧ a ≤ code.length ∧ out.getD a.toNat 0 ≠ -1
  done : ∀ k : Nat, k < code.length → out.getD k 0 ≠ -1 → (k : Int) ∉ left → takesOf p (code.getD k default) ≤ out.getD k 0 ∧ out.getD k 0 - takesOf p (code.getD k default) + opPuts (code.getD k default).op ≤ 8 ∧
    ∀ j ∈ nextOf k (code.getD k default), out.getD j.toNat 0 = out.getD k 0 - takesOf p (code.getD k default) + opPuts (code.getD k default).op
theorem WInv.good {p : Pg} {code : List Instr} {out : List Int} (hi : Inside code) (h : WInv p code out []) : Good p code := by
  have key : ∀ a n, Reach p code a n → 0 ≤ a → a ≤ code.length → out.getD a.toNat 0 = n ∧ n ≠ -1 := by
    intro a n hr
    induction hr with
    | start => intro _ _; exact ⟨h.start, by omega⟩
    | @step a n k h1 h0 hl hk ih =>
      intro hk0 hk1
      obtain ⟨e, e1⟩ := ih h0 (by omega)
      obtain ⟨d1, d2, d3⟩ := h.done a.toNat (by omega) (by rw [e]; exact e1) (by simp)
      rw [e] at d1 d2 d3
      rw [show ((a.toNat : Nat) : Int) = a by omega] at d3
      refine ⟨d3 k hk, ?_⟩
      have := (opPuts_rng (code.getD a.toNat default).op).1
      omega
  refine ⟨fun a n hr h0 h1 => ?_, fun a n m h1 h2 => ?_⟩
  · obtain ⟨e, e1⟩ := key a n hr h0 (by omega)
    obtain ⟨d1, d2, _⟩ := h.done a.toNat (by omega) (by rw [e]; exact e1) (by simp)
    rw [e] at d1 d2
    exact ⟨d1, d2⟩
  · have := (h1.rng hi)
    rw [← (key a n h1 this.1 this.2).1, ← (key a m h2 this.1 this.2).1]
theorem walkRun_iff {p : Pg} {code : List Instr} (hi : Inside code) : ∀ (f : Nat) (out left : List Int), WInv p code out left → out.count (-1) + left.length ≤ f → (walkRun p code f out left = true ↔ Good p code)
  | 0, out, left, h, hf => by
    obtain rfl : left = [] := List.length_eq_zero_iff.1 (by omega)
    exact ⟨fun _ => h.good hi, fun _ => rfl⟩
  | f + 1, out, [], h, hf => ⟨fun _ => h.good hi, fun _ => rfl⟩
  | f + 1, out, a :: l, h, hf => by
    unfold walkRun
    obtain ⟨a0, a1, a2⟩ := h.lf a (by simp)
    obtain ⟨r1, r2⟩ := h.reach a.toNat (by omega) a2
    rw [show ((a.toNat : Nat) : Int) = a by omega] at r1
    simp only [List.length_cons] at hf
    by_cases hal : a = code.length
    · have hs : walkStep p code a out l = some (out, l) := by unfold walkStep; rw [if_pos hal]
      simp only [hs]
      refine walkRun_iff hi f out l ⟨h.len, h.reach, h.start, fun x hx => h.lf x (by simp [hx]), fun k hk h1 h2 => h.done k hk h1 (fun hm => ?_)⟩ (by omega)
      rcases List.mem_cons.1 hm with e | e
      · omega
      · exact h2 e
    · by_cases hb : out.getD a.toNat 0 - takesOf p (code.getD a.toNat default) < 0 ∨ 8 < out.getD a.toNat 0 - takesOf p (code.getD a.toNat default) + opPuts (code.getD a.toNat default).op
      · have hs : walkStep p code a out l = none := by unfold walkStep; rw [if_neg hal]; exact if_pos hb
        simp only [hs]
        refine ⟨fun e => (nomatch e), fun g => ?_⟩
        have := g.fit a _ r1 a0 (by omega)
        omega
      · have hs : walkStep p code a out l = pushTo (out.getD a.toNat 0 - takesOf p (code.getD a.toNat default) + opPuts (code.getD a.toNat default).op) (nextOf a (code.getD a.toNat default)) out l := by unfold walkStep; rw [if_neg hal]; exact if_neg hb
        have hp := (opPuts_rng (code.getD a.toNat default).op).1
        have hnx : ∀ k ∈ nextOf a (code.getD a.toNat default), 0 ≤ k ∧ k < (out.length : Int) := fun k hk => by
          have := nextOf_in hi a0 (by omega) hk
          rw [h.len]; omega
        have hre : ∀ k ∈ nextOf a (code.getD a.toNat default), Reach p code k (out.getD a.toNat 0 - takesOf p (code.getD a.toNat default) + opPuts (code.getD a.toNat default).op) := fun k hk => r1.step a0 (by omega) hk
        simp only [hs]
        obtain ⟨n, hn⟩ : ∃ n, n = out.getD a.toNat 0 - takesOf p (code.getD a.toNat default) + opPuts (code.getD a.toNat default).op := ⟨_, rfl⟩
        rw [← hn] at hre ⊢
        cases hps : pushTo n (nextOf a (code.getD a.toNat default)) out l with
        | none =>
          refine ⟨fun e => (nomatch e), fun g => ?_⟩
          obtain ⟨k, hk, h1, h2⟩ := pushTo_none (by omega) hnx hps
          have h3 := hnx k hk
          rw [h.len] at h3
          obtain ⟨r3, _⟩ := h.reach k.toNat (by omega) h1
          rw [show ((k.toNat : Nat) : Int) = k by omega] at r3
          exact absurd (g.one k _ _ r3 (hre k hk)) h2
        | some x =>
          obtain ⟨o, l'⟩ := x
          have P := pushTo_some (by omega) hnx hps
          refine walkRun_iff hi f o l' ⟨by rw [P.len, h.len], fun k hk h1 => ?_, ?_, fun x hx => ?_, fun k hk h1 h2 => ?_⟩ (by have := P.cnt; omega)
          · rcases P.new k h1 with h2 | ⟨h2, h3, _⟩
            · rw [P.keep k h2]; exact h.reach k hk h2
            · rw [h3]; exact ⟨hre _ h2, by omega⟩
          · rw [P.keep 0 (by rw [h.start]; decide)]; exact h.start
          · rcases P.from_ x hx with h2 | h2
            · obtain ⟨x0, x1, x2⟩ := h.lf x (by simp [h2])
              exact ⟨x0, x1, by rw [P.keep _ x2]; exact x2⟩
            · have h3 := hnx x h2
              rw [h.len] at h3
              exact ⟨h3.1, by omega, by rw [P.all x h2]; omega⟩
          · rcases P.new k h1 with h3 | ⟨_, _, h3⟩
            · by_cases hka : (k : Int) = a
              · obtain rfl : k = a.toNat := by omega
                rw [P.keep _ h3]
                rw [show ((a.toNat : Nat) : Int) = a by omega]
                refine ⟨by omega, by omega, fun j hj => ?_⟩
                rw [P.all j hj, hn]
              · obtain ⟨d1, d2, d3⟩ := h.done k hk h3 (fun hm => by
                  rcases List.mem_cons.1 hm with e | e
                  · exact hka e
                  · exact h2 (P.sub _ e))
                rw [P.keep _ h3]
                refine ⟨d1, d2, fun j hj => ?_⟩
                have := (opPuts_rng (code.getD k default).op).1
                rw [P.keep _ (by rw [d3 j hj]; omega)]
                exact d3 j hj
            · exact absurd h3 h2
theorem count_rep (n : Nat) : ((List.replicate (n + 1) (-1 : Int)).set 0 0).count (-1) = n := by
  simp [List.replicate_succ, List.count_cons]
theorem walkOk_iff {p : Pg} {h : Hd} (hi : Inside h.code) : walkOk p h = true ↔ Good p h.code := by
  have hz : ∀ k : Nat, ((List.replicate (h.code.length + 1) (-1 : Int)).set 0 0).getD k 0 = if k = 0 then 0 else if k ≤ h.code.length then -1 else 0 := fun k => by
    rw [getD_set (by simp)]
    by_cases hk : 0 = k
    · subst hk; simp
    · rw [if_neg hk, if_neg (Ne.symm hk)]
      by_cases h2 : k ≤ h.code.length
      · rw [if_pos h2]; simp [show k < h.code.length + 1 by omega]
      · rw [if_neg h2]; simp [show ¬ k < h.code.length + 1 by omega]
  refine walkRun_iff hi _ _ _ ⟨by simp, fun k hk h1 => ?_, by rw [hz]; rfl, fun a ha => ?_, fun k hk h1 h2 => ?_⟩ (by rw [count_rep]; simp)
  · rw [hz] at h1 ⊢
    by_cases h0 : k = 0
    · subst h0; exact ⟨.start, by simp⟩
    · rw [if_neg h0, if_pos hk] at h1; exact absurd rfl h1
  · simp at ha; subst ha; exact ⟨by omega, by omega, by rw [hz, if_pos (by decide)]; decide⟩
  · rw [hz] at h1
    by_cases h0 : k = 0
    · subst h0; exact absurd (by simp) h2
    · rw [if_neg h0, if_pos (by omega)] at h1; exact absurd rfl h1
end Go.Proofs.YtlimecfjpfaljaaDoor.W
end
section
/- Walks: the stack, ahead of running (chapter 4): what an instruction takes, and where it leads. -/
set_option linter.unusedVariables false
set_option linter.unusedSimpArgs false
set_option linter.unusedSectionVars false
set_option pp.maxSteps 3000
set_option maxHeartbeats 1000000
namespace Go.Proofs.YtlimecfjpfaljaaDoor.W
open Go Go.Sy

theorem takes_ (p : Pg) (i : Instr) (hi : i.op = 22 → 0 ≤ i.a ∧ i.a < p.handlers.length ∧ R64 (p.handlers.getD i.a.toNat default).args ∧ (p.handlers.getD i.a.toNat default).args ≤ 1000 ∧ 0 ≤ (p.handlers.getD i.a.toNat default).args) : Pure Tryd.prog 83 [pPg p, pInstr i] (i64 (takesOf p i)) := by
  have hP := opsPops_ i.op
  have hR := opPops_rng i.op
  obtain ⟨op, a⟩ := i
  unfold takesOf
  dsimp only at hi hP hR ⊢
  by_cases h : op = 22
  · obtain ⟨h0, h1, h2, h3, h4⟩ := hi h
    obtain ⟨k, rfl⟩ : ∃ k : Nat, a = k := ⟨a.toNat, by omega⟩
    rw [Int.toNat_natCast] at h2 h3 h4 ⊢
    rw [if_pos h]
    refine Pure.of_spec (Spec.of_run (fn := Tryd.f83) Tryd.func83 rfl rfl (by kernel_rfl) ?_) (by first | assumption | rfl | (split <;> rfl) | (split <;> split <;> rfl))
    repeat' (first | refine Run.ctl rfl ?_ | (refine Rg.op false tok rfl rfl rfl rfl ?_ ?_ ?_; (first | exact ⟨⟩ | omega | focus (simp <;> omega) | decide +kernel); (first | exact trivial | exact rfl | exact .inl rfl | exact .inr rfl)) | refine Rg.call (hP) rfl rfl rfl rfl rfl ⟨⟨.refl _, trivial⟩, rfl⟩ ?_ | (refine Rg.op true tok rfl rfl rfl rfl ?_ ?_ ?_; (first | exact ⟨⟩ | omega | focus (simp <;> omega) | decide +kernel); (first | exact trivial | exact rfl | exact .inl rfl | exact .inr rfl)) | refine Rg.nil ?_ | refine Rg.skip rfl rfl rfl ?_ | refine Run.regR ?_ | refine Run.condT rfl ?_ | refine Run.condF rfl ?_ | ((first | refine Run.condB rfl (fun hc => ?_) (fun hc => ?_) | ((fail_if_success (refine Rg.lit true rfl ?_)); (fail_if_success (refine Rg.lit false rfl ?_)); refine Rg.guard rfl (fun hc => ?_) (fun hc => ?_))) <;> ((try simp only [cs] at hc); (first | ((exfalso; omega); done) | skip))))
    all_goals ((first | refine Run.ret tok Tryd.func83 rfl ?_ | refine Run.fall tok Tryd.func83 rfl ?_); exact .ofInt (by omega))
  · rw [if_neg h]
    refine Pure.of_spec (Spec.of_run (fn := Tryd.f83) Tryd.func83 rfl rfl (by kernel_rfl) ?_) (by first | assumption | rfl | (split <;> rfl) | (split <;> split <;> rfl))
    repeat' (first | refine Run.ctl rfl ?_ | (refine Rg.op false tok rfl rfl rfl rfl ?_ ?_ ?_; (first | exact ⟨⟩ | omega | focus (simp <;> omega) | decide +kernel); (first | exact trivial | exact rfl | exact .inl rfl | exact .inr rfl)) | refine Rg.call (hP) rfl rfl rfl rfl rfl ⟨⟨.refl _, trivial⟩, rfl⟩ ?_ | (refine Rg.op true tok rfl rfl rfl rfl ?_ ?_ ?_; (first | exact ⟨⟩ | omega | focus (simp <;> omega) | decide +kernel); (first | exact trivial | exact rfl | exact .inl rfl | exact .inr rfl)) | refine Rg.nil ?_ | refine Rg.skip rfl rfl rfl ?_ | refine Run.regR ?_ | refine Run.condT rfl ?_ | refine Run.condF rfl ?_ | ((first | refine Run.condB rfl (fun hc => ?_) (fun hc => ?_) | ((fail_if_success (refine Rg.lit true rfl ?_)); (fail_if_success (refine Rg.lit false rfl ?_)); refine Rg.guard rfl (fun hc => ?_) (fun hc => ?_))) <;> ((try simp only [cs] at hc); (first | ((exfalso; omega); done) | skip))))
    all_goals ((first | refine Run.ret tok Tryd.func83 rfl ?_ | refine Run.fall tok Tryd.func83 rfl ?_); exact .ofInt (by omega))
theorem next_ (at_ : Int) (i : Instr) (h0 : 0 ≤ at_) (h1 : at_ ≤ 1000) : Pure Tryd.prog 84 [i64 at_, pInstr i] (sl 1 eInt (nextOf at_ i)) := by
  obtain ⟨op, a⟩ := i
  unfold nextOf
  dsimp only
  by_cases e1 : op = 20
  · rw [if_pos e1]
    refine Pure.of_spec (Spec.of_run (fn := Tryd.f84) Tryd.func84 rfl rfl (by kernel_rfl) ?_) (by first | assumption | rfl | (split <;> rfl) | (split <;> split <;> rfl))
    repeat' (first | refine Run.ctl rfl ?_ | (refine Rg.op false tok rfl rfl rfl rfl ?_ ?_ ?_; (first | exact ⟨⟩ | omega | focus (simp <;> omega) | decide +kernel); (first | exact trivial | exact rfl | exact .inl rfl | exact .inr rfl)) | (refine Rg.op true tok rfl rfl rfl rfl ?_ ?_ ?_; (first | exact ⟨⟩ | omega | focus (simp <;> omega) | decide +kernel); (first | exact trivial | exact rfl | exact .inl rfl | exact .inr rfl)) | refine Rg.nil ?_ | refine Rg.skip rfl rfl rfl ?_ | refine Run.regR ?_ | refine Run.condT rfl ?_ | refine Run.condF rfl ?_ | ((first | refine Run.condB rfl (fun hc => ?_) (fun hc => ?_) | ((fail_if_success (refine Rg.lit true rfl ?_)); (fail_if_success (refine Rg.lit false rfl ?_)); refine Rg.guard rfl (fun hc => ?_) (fun hc => ?_))) <;> ((try simp only [cs] at hc); (first | ((exfalso; omega); done) | skip))))
    all_goals ((first | refine Run.ret tok Tryd.func84 rfl ?_ | refine Run.fall tok Tryd.func84 rfl ?_); exact Cv.slcL rfl rfl rfl rfl rfl (fun _ => rfl) ⟨trivial, ⟨.refl _, trivial⟩⟩)
  rw [if_neg e1]
  by_cases e2 : op = 21
  · rw [if_pos e2]
    refine Pure.of_spec (Spec.of_run (fn := Tryd.f84) Tryd.func84 rfl rfl (by kernel_rfl) ?_) (by first | assumption | rfl | (split <;> rfl) | (split <;> split <;> rfl))
    repeat' (first | refine Run.ctl rfl ?_ | (refine Rg.op false tok rfl rfl rfl rfl ?_ ?_ ?_; (first | exact ⟨⟩ | omega | focus (simp <;> omega) | decide +kernel); (first | exact trivial | exact rfl | exact .inl rfl | exact .inr rfl)) | (refine Rg.op true tok rfl rfl rfl rfl ?_ ?_ ?_; (first | exact ⟨⟩ | omega | focus (simp <;> omega) | decide +kernel); (first | exact trivial | exact rfl | exact .inl rfl | exact .inr rfl)) | refine Rg.nil ?_ | refine Rg.skip rfl rfl rfl ?_ | refine Run.regR ?_ | refine Run.condT rfl ?_ | refine Run.condF rfl ?_ | ((first | refine Run.condB rfl (fun hc => ?_) (fun hc => ?_) | ((fail_if_success (refine Rg.lit true rfl ?_)); (fail_if_success (refine Rg.lit false rfl ?_)); refine Rg.guard rfl (fun hc => ?_) (fun hc => ?_))) <;> ((try simp only [cs] at hc); (first | ((exfalso; omega); done) | skip))))
    all_goals ((first | refine Run.ret tok Tryd.func84 rfl ?_ | refine Run.fall tok Tryd.func84 rfl ?_); exact Cv.slcL rfl rfl rfl rfl rfl (fun _ => rfl) ⟨⟨trivial, ⟨.refl _, trivial⟩⟩, ⟨.refl _, trivial⟩⟩)
  rw [if_neg e2]
  by_cases e3 : op = 25
  · rw [if_pos e3]
    refine Pure.of_spec (Spec.of_run (fn := Tryd.f84) Tryd.func84 rfl rfl (by kernel_rfl) ?_) (by first | assumption | rfl | (split <;> rfl) | (split <;> split <;> rfl))
    repeat' (first | refine Run.ctl rfl ?_ | (refine Rg.op false tok rfl rfl rfl rfl ?_ ?_ ?_; (first | exact ⟨⟩ | omega | focus (simp <;> omega) | decide +kernel); (first | exact trivial | exact rfl | exact .inl rfl | exact .inr rfl)) | (refine Rg.op true tok rfl rfl rfl rfl ?_ ?_ ?_; (first | exact ⟨⟩ | omega | focus (simp <;> omega) | decide +kernel); (first | exact trivial | exact rfl | exact .inl rfl | exact .inr rfl)) | refine Rg.nil ?_ | refine Rg.skip rfl rfl rfl ?_ | refine Run.regR ?_ | refine Run.condT rfl ?_ | refine Run.condF rfl ?_ | ((first | refine Run.condB rfl (fun hc => ?_) (fun hc => ?_) | ((fail_if_success (refine Rg.lit true rfl ?_)); (fail_if_success (refine Rg.lit false rfl ?_)); refine Rg.guard rfl (fun hc => ?_) (fun hc => ?_))) <;> ((try simp only [cs] at hc); (first | ((exfalso; omega); done) | skip))))
    all_goals ((first | refine Run.ret tok Tryd.func84 rfl ?_ | refine Run.fall tok Tryd.func84 rfl ?_); exact Cv.rowNil)
  · rw [if_neg e3]
    refine Pure.of_spec (Spec.of_run (fn := Tryd.f84) Tryd.func84 rfl rfl (by kernel_rfl) ?_) (by first | assumption | rfl | (split <;> rfl) | (split <;> split <;> rfl))
    repeat' (first | refine Run.ctl rfl ?_ | (refine Rg.op false tok rfl rfl rfl rfl ?_ ?_ ?_; (first | exact ⟨⟩ | omega | focus (simp <;> omega) | decide +kernel); (first | exact trivial | exact rfl | exact .inl rfl | exact .inr rfl)) | (refine Rg.op true tok rfl rfl rfl rfl ?_ ?_ ?_; (first | exact ⟨⟩ | omega | focus (simp <;> omega) | decide +kernel); (first | exact trivial | exact rfl | exact .inl rfl | exact .inr rfl)) | refine Rg.nil ?_ | refine Rg.skip rfl rfl rfl ?_ | refine Run.regR ?_ | refine Run.condT rfl ?_ | refine Run.condF rfl ?_ | ((first | refine Run.condB rfl (fun hc => ?_) (fun hc => ?_) | ((fail_if_success (refine Rg.lit true rfl ?_)); (fail_if_success (refine Rg.lit false rfl ?_)); refine Rg.guard rfl (fun hc => ?_) (fun hc => ?_))) <;> ((try simp only [cs] at hc); (first | ((exfalso; omega); done) | skip))))
    all_goals ((first | refine Run.ret tok Tryd.func84 rfl ?_ | refine Run.fall tok Tryd.func84 rfl ?_); exact Cv.slcL rfl rfl rfl rfl rfl (fun _ => rfl) ⟨trivial, ⟨.refl _, trivial⟩⟩)
end Go.Proofs.YtlimecfjpfaljaaDoor.W
end
section
/- Walks: messages on their way (chapter 8). -/
set_option linter.unusedVariables false
set_option linter.unusedSimpArgs false
set_option linter.unusedSectionVars false
set_option pp.maxSteps 3000
set_option maxHeartbeats 1000000
namespace Go.Proofs.YtlimecfjpfaljaaDoor.W
open Go Go.Sy

theorem toMail_at {l : List Msg} {i : Nat} (hi : i < l.length) (who : Int) : toMail (l.take (i + 1)) who = toMail (l.take i) who + (if (l.getD i default).note.to_ = who then 1 else 0) := by
  unfold toMail
  rw [List.take_add_one, List.getElem?_eq_getElem hi, List.countP_append]
  have : l.getD i default = l[i] := by simp [hi]
  rw [this]
  simp [List.countP_cons]
theorem mailTo_ (l : List Msg) (who : Int) (hl : l.length ≤ 100000) : Pure Tryd.prog 85 [sl 6 eMsg l, i64 who] (i64 (toMail l who)) := by
  refine Pure.of_spec (Spec.of_run (fn := Tryd.f85) Tryd.func85 rfl rfl (by kernel_rfl) ?_) (by first | assumption | rfl | (split <;> rfl) | (split <;> split <;> rfl))
  repeat' (first | refine Run.ctl rfl ?_ | (refine Rg.op false tok rfl rfl rfl rfl ?_ ?_ ?_; (first | exact ⟨⟩ | omega | focus (simp <;> omega) | decide +kernel); (first | exact trivial | exact rfl | exact .inl rfl | exact .inr rfl)) | (refine Rg.op true tok rfl rfl rfl rfl ?_ ?_ ?_; (first | exact ⟨⟩ | omega | focus (simp <;> omega) | decide +kernel); (first | exact trivial | exact rfl | exact .inl rfl | exact .inr rfl)) | refine Rg.nil ?_ | refine Rg.skip rfl rfl rfl ?_ | refine Run.regR ?_ | refine Run.condT rfl ?_ | refine Run.condF rfl ?_ | ((first | refine Run.condB rfl (fun hc => ?_) (fun hc => ?_) | ((fail_if_success (refine Rg.lit true rfl ?_)); (fail_if_success (refine Rg.lit false rfl ?_)); refine Rg.guard rfl (fun hc => ?_) (fun hc => ?_))) <;> ((try simp only [cs] at hc); (first | ((exfalso; omega); done) | skip))))
  refine Run.loopN (ι := Nat) (fun i => ([(1, i64 who), (4, i64 (toMail (l.take i) who)), (7, sl 6 eMsg l), (8, i64 l.length), (9, i64 i)], [])) (fun i => i ≤ l.length) (fun i => l.length - i) 0 ⟨rfl, rfl, rfl, rfl, rfl, trivial⟩ rfl (by omega) ?_
  rintro i hi back backR
  have hle : toMail (l.take i) who ≤ l.length := by unfold toMail; have := List.countP_le_length (p := fun m : Msg => decide (m.note.to_ = who)) (l := l.take i); rw [List.length_take] at this; omega
  by_cases hlt : i < l.length
  · have ht := toMail_at hlt who
    by_cases hw : (l.getD i default).note.to_ = who
    · rw [if_pos hw] at ht
      repeat' (first | refine Run.ctl rfl ?_ | (refine Rg.op false tok rfl rfl rfl rfl ?_ ?_ ?_; (first | exact ⟨⟩ | omega | focus (simp <;> omega) | decide +kernel); (first | exact trivial | exact rfl | exact .inl rfl | exact .inr rfl)) | (refine Rg.op true tok rfl rfl rfl rfl ?_ ?_ ?_; (first | exact ⟨⟩ | omega | focus (simp <;> omega) | decide +kernel); (first | exact trivial | exact rfl | exact .inl rfl | exact .inr rfl)) | refine Rg.nil ?_ | refine Rg.skip rfl rfl rfl ?_ | refine Run.regR ?_ | refine Run.condT rfl ?_ | refine Run.condF rfl ?_ | ((first | refine Run.condB rfl (fun hc => ?_) (fun hc => ?_) | ((fail_if_success (refine Rg.lit true rfl ?_)); (fail_if_success (refine Rg.lit false rfl ?_)); refine Rg.guard rfl (fun hc => ?_) (fun hc => ?_))) <;> ((try simp only [cs] at hc); (first | ((exact absurd hw hc); done) | ((exfalso; omega); done) | skip))))
      refine backR [] (i + 1) _ _ (by omega) (by omega) rfl trivial ⟨.cl rfl, ?_, .cl rfl, .cl rfl, .cl rfl, trivial⟩
      show Rn _ _ _ (i64 (toMail (l.take (i + 1)) who : Nat))
      rw [ht]
      exact .cl rfl
    · rw [if_neg hw] at ht
      repeat' (first | refine Run.ctl rfl ?_ | (refine Rg.op false tok rfl rfl rfl rfl ?_ ?_ ?_; (first | exact ⟨⟩ | omega | focus (simp <;> omega) | decide +kernel); (first | exact trivial | exact rfl | exact .inl rfl | exact .inr rfl)) | (refine Rg.op true tok rfl rfl rfl rfl ?_ ?_ ?_; (first | exact ⟨⟩ | omega | focus (simp <;> omega) | decide +kernel); (first | exact trivial | exact rfl | exact .inl rfl | exact .inr rfl)) | refine Rg.nil ?_ | refine Rg.skip rfl rfl rfl ?_ | refine Run.regR ?_ | refine Run.condT rfl ?_ | refine Run.condF rfl ?_ | ((first | refine Run.condB rfl (fun hc => ?_) (fun hc => ?_) | ((fail_if_success (refine Rg.lit true rfl ?_)); (fail_if_success (refine Rg.lit false rfl ?_)); refine Rg.guard rfl (fun hc => ?_) (fun hc => ?_))) <;> ((try simp only [cs] at hc); (first | ((exact absurd hc hw); done) | ((exfalso; omega); done) | skip))))
      refine backR [] (i + 1) _ _ (by omega) (by omega) rfl trivial ⟨.cl rfl, ?_, .cl rfl, .cl rfl, .cl rfl, trivial⟩
      show Rn _ _ _ (i64 (toMail (l.take (i + 1)) who : Nat))
      rw [ht]
      exact .cl rfl
  · obtain rfl : i = l.length := by omega
    rw [List.take_length]
    repeat' (first | refine Run.ctl rfl ?_ | (refine Rg.op false tok rfl rfl rfl rfl ?_ ?_ ?_; (first | exact ⟨⟩ | omega | focus (simp <;> omega) | decide +kernel); (first | exact trivial | exact rfl | exact .inl rfl | exact .inr rfl)) | (refine Rg.op true tok rfl rfl rfl rfl ?_ ?_ ?_; (first | exact ⟨⟩ | omega | focus (simp <;> omega) | decide +kernel); (first | exact trivial | exact rfl | exact .inl rfl | exact .inr rfl)) | refine Rg.nil ?_ | refine Rg.skip rfl rfl rfl ?_ | refine Run.regR ?_ | refine Run.condT rfl ?_ | refine Run.condF rfl ?_ | ((first | refine Run.condB rfl (fun hc => ?_) (fun hc => ?_) | ((fail_if_success (refine Rg.lit true rfl ?_)); (fail_if_success (refine Rg.lit false rfl ?_)); refine Rg.guard rfl (fun hc => ?_) (fun hc => ?_))) <;> ((try simp only [cs] at hc); (first | ((exfalso; omega); done) | skip))))
    (first | refine Run.ret tok Tryd.func85 rfl ?_ | refine Run.fall tok Tryd.func85 rfl ?_)
    exact .refl _
end Go.Proofs.YtlimecfjpfaljaaDoor.W
end
