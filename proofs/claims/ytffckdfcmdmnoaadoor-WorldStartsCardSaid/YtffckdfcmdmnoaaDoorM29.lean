/- Texts merged: D15, D16, D17, D18, D19, D20, D21, D22. -/
import Derived.Test.YtffckdfcmdmnoaaDoorM25
import Derived.Test.YtffckdfcmdmnoaaDoorM27
section
/- Walks: numbers that wrap, and what may be asked (chapters 2, 13). -/
set_option linter.unusedVariables false
set_option linter.unusedSimpArgs false
set_option linter.unusedSectionVars false
set_option pp.maxSteps 40000
set_option maxHeartbeats 2000000
namespace Go.Proofs.YtffckdfcmdmnoaaDoor.W
open Go Go.Sy

theorem truth_ (b : Bool) : Pure Tryd.prog 28 [bl b] (i64 (truth b)) := by
  cases b <;> (
  refine Pure.of_spec (Spec.of_run (fn := Tryd.f28) Tryd.func28 rfl rfl (by kernel_rfl) ?_) (by first | assumption | rfl | (split <;> rfl) | (split <;> split <;> rfl))
  repeat' (first | refine Run.ctl rfl ?_ | (refine Rg.op false tok rfl rfl rfl rfl ?_ ?_ ?_; (first | exact ⟨⟩ | omega | focus (simp <;> omega) | decide +kernel); (first | exact trivial | exact rfl | exact .inl rfl | exact .inr rfl)) | (refine Rg.op true tok rfl rfl rfl rfl ?_ ?_ ?_; (first | exact ⟨⟩ | omega | focus (simp <;> omega) | decide +kernel); (first | exact trivial | exact rfl | exact .inl rfl | exact .inr rfl)) | refine Rg.nil ?_ | refine Rg.skip rfl rfl rfl ?_ | refine Run.regR ?_ | refine Run.condT rfl ?_ | refine Run.condF rfl ?_ | ((first | refine Run.condB rfl (fun hc => ?_) (fun hc => ?_) | ((fail_if_success (refine Rg.lit true rfl ?_)); (fail_if_success (refine Rg.lit false rfl ?_)); refine Rg.guard rfl (fun hc => ?_) (fun hc => ?_))) <;> ((try simp only [cs] at hc))))
  (first | refine Run.ret tok Tryd.func28 rfl ?_ | refine Run.fall tok Tryd.func28 rfl ?_)
  exact .refl _)
end Go.Proofs.YtffckdfcmdmnoaaDoor.W
end
section
/- Walks: what an expression may be (chapter 13). -/
set_option linter.unusedVariables false
set_option linter.unusedSimpArgs false
set_option linter.unusedSectionVars false
set_option pp.maxSteps 40000
set_option maxHeartbeats 2000000
namespace Go.Proofs.YtffckdfcmdmnoaaDoor.W
open Go Go.Sy

end Go.Proofs.YtffckdfcmdmnoaaDoor.W
end
section
/- Walks: an expression's check (chapter 13). -/
set_option linter.unusedVariables false
set_option linter.unusedSimpArgs false
set_option linter.unusedSectionVars false
set_option pp.maxSteps 40000
set_option maxHeartbeats 2000000
namespace Go.Proofs.YtffckdfcmdmnoaaDoor.W
open Go Go.Sy

end Go.Proofs.YtffckdfcmdmnoaaDoor.W
end
section
/- Walks: what a world tells (chapter 13). -/
set_option linter.unusedVariables false
set_option linter.unusedSimpArgs false
set_option linter.unusedSectionVars false
set_option pp.maxSteps 40000
set_option maxHeartbeats 2000000
namespace Go.Proofs.YtffckdfcmdmnoaaDoor.W
open Go Go.Sy

end Go.Proofs.YtffckdfcmdmnoaaDoor.W
end
section
/- Walks: an expression's value (chapter 13). -/
set_option linter.unusedVariables false
set_option linter.unusedSimpArgs false
set_option linter.unusedSectionVars false
set_option pp.maxSteps 40000
set_option maxHeartbeats 4000000
namespace Go.Proofs.YtffckdfcmdmnoaaDoor.W
open Go Go.Sy

def wdbox (w : Wd) : Option Blk := some ⟨34, 6, 1, fun _ => eWd w, false, false⟩
end Go.Proofs.YtffckdfcmdmnoaaDoor.W
end
section
/- Walks: what a world may be (chapter 9). -/
set_option linter.unusedVariables false
set_option linter.unusedSimpArgs false
set_option linter.unusedSectionVars false
set_option pp.maxSteps 40000
set_option maxHeartbeats 4000000
namespace Go.Proofs.YtffckdfcmdmnoaaDoor.W
open Go Go.Sy

theorem message_ (p : Pg) (w : Wd) (m : Msg) : Pure Tryd.prog 38 [pPg p, pWd w, pMsg m] (bl (msgFit p w m)) := by
  have hn := noteWhy_ p m.note
  unfold msgFit
  by_cases h0 : noteWhy p m.note ≠ 0 ∨ m.id.n < 0 ∨ m.id.copy < 0 ∨ w.used.dup < m.id.copy ∨ m.id.from_ < -1 ∨ (w.actors.length : Int) ≤ m.id.from_
  · rw [if_pos h0]
    generalize noteWhy p m.note = z at hn h0
    refine Pure.of_spec (Spec.of_run (fn := Tryd.f38) Tryd.func38 rfl rfl (by kernel_rfl) ?_) (by first | assumption | rfl | (split <;> rfl) | (split <;> split <;> rfl))
    repeat' (first | refine Run.ctl rfl ?_ | (refine Rg.op false tok rfl rfl rfl rfl ?_ ?_ ?_; (first | exact ⟨⟩ | omega | focus (simp <;> omega) | decide +kernel); (first | exact trivial | exact rfl | exact .inl rfl | exact .inr rfl | focus ((repeat (first | exact trivial | (refine ⟨Stay.op false tok rfl rfl rfl ?_ (fun t ht => by cases ht; rfl), ?_⟩; (first | exact ⟨⟩ | omega | focus (simp <;> omega) | decide +kernel)) | (refine ⟨Stay.op true tok rfl rfl rfl ?_ (fun t ht => by cases ht; rfl), ?_⟩; (first | exact ⟨⟩ | omega | focus (simp <;> omega) | decide +kernel)) | refine ⟨Stay.skip rfl rfl (fun t ht => by cases ht; rfl), ?_⟩)); done))) | refine Rg.call (hn) rfl rfl rfl rfl rfl ⟨⟨.refl _, .refl _, trivial⟩, rfl⟩ ?_ | (refine Rg.op true tok rfl rfl rfl rfl ?_ ?_ ?_; (first | exact ⟨⟩ | omega | focus (simp <;> omega) | decide +kernel); (first | exact trivial | exact rfl | exact .inl rfl | exact .inr rfl | focus ((repeat (first | exact trivial | (refine ⟨Stay.op false tok rfl rfl rfl ?_ (fun t ht => by cases ht; rfl), ?_⟩; (first | exact ⟨⟩ | omega | focus (simp <;> omega) | decide +kernel)) | (refine ⟨Stay.op true tok rfl rfl rfl ?_ (fun t ht => by cases ht; rfl), ?_⟩; (first | exact ⟨⟩ | omega | focus (simp <;> omega) | decide +kernel)) | refine ⟨Stay.skip rfl rfl (fun t ht => by cases ht; rfl), ?_⟩)); done))) | refine Rg.nil ?_ | refine Rg.fork ?_ ?_ | refine Rg.skip rfl rfl rfl ?_ | refine Run.regR ?_ | refine Run.drwR mixed (by kernel_rfl) rfl ?_ | refine Run.condT rfl ?_ | refine Run.condF rfl ?_ | ((first | refine Run.condB rfl (fun hc => ?_) (fun hc => ?_) | ((fail_if_success (refine Rg.lit true rfl ?_)); (fail_if_success (refine Rg.lit false rfl ?_)); refine Rg.guard rfl (fun hc => ?_) (fun hc => ?_))) <;> ((try simp only [cs] at hc); (first | ((exfalso; omega); done) | skip))))
    all_goals ((first | refine Run.ret tok Tryd.func38 rfl ?_ | refine Run.fall tok Tryd.func38 rfl ?_); exact .refl _)
  rw [if_neg h0]
  generalize noteWhy p m.note = z at hn h0
  by_cases h1 : m.id.from_ = -1
  · rw [if_pos h1]
    refine Pure.of_spec (Spec.of_run (fn := Tryd.f38) Tryd.func38 rfl rfl (by kernel_rfl) ?_) (by first | assumption | rfl | (split <;> rfl) | (split <;> split <;> rfl))
    repeat' (first | refine Run.ctl rfl ?_ | (refine Rg.op false tok rfl rfl rfl rfl ?_ ?_ ?_; (first | exact ⟨⟩ | omega | focus (simp <;> omega) | decide +kernel); (first | exact trivial | exact rfl | exact .inl rfl | exact .inr rfl | focus ((repeat (first | exact trivial | (refine ⟨Stay.op false tok rfl rfl rfl ?_ (fun t ht => by cases ht; rfl), ?_⟩; (first | exact ⟨⟩ | omega | focus (simp <;> omega) | decide +kernel)) | (refine ⟨Stay.op true tok rfl rfl rfl ?_ (fun t ht => by cases ht; rfl), ?_⟩; (first | exact ⟨⟩ | omega | focus (simp <;> omega) | decide +kernel)) | refine ⟨Stay.skip rfl rfl (fun t ht => by cases ht; rfl), ?_⟩)); done))) | refine Rg.call (hn) rfl rfl rfl rfl rfl ⟨⟨.refl _, .refl _, trivial⟩, rfl⟩ ?_ | (refine Rg.op true tok rfl rfl rfl rfl ?_ ?_ ?_; (first | exact ⟨⟩ | omega | focus (simp <;> omega) | decide +kernel); (first | exact trivial | exact rfl | exact .inl rfl | exact .inr rfl | focus ((repeat (first | exact trivial | (refine ⟨Stay.op false tok rfl rfl rfl ?_ (fun t ht => by cases ht; rfl), ?_⟩; (first | exact ⟨⟩ | omega | focus (simp <;> omega) | decide +kernel)) | (refine ⟨Stay.op true tok rfl rfl rfl ?_ (fun t ht => by cases ht; rfl), ?_⟩; (first | exact ⟨⟩ | omega | focus (simp <;> omega) | decide +kernel)) | refine ⟨Stay.skip rfl rfl (fun t ht => by cases ht; rfl), ?_⟩)); done))) | refine Rg.nil ?_ | refine Rg.fork ?_ ?_ | refine Rg.skip rfl rfl rfl ?_ | refine Run.regR ?_ | refine Run.drwR mixed (by kernel_rfl) rfl ?_ | refine Run.condT rfl ?_ | refine Run.condF rfl ?_ | ((first | refine Run.condB rfl (fun hc => ?_) (fun hc => ?_) | ((fail_if_success (refine Rg.lit true rfl ?_)); (fail_if_success (refine Rg.lit false rfl ?_)); refine Rg.guard rfl (fun hc => ?_) (fun hc => ?_))) <;> ((try simp only [cs] at hc); (first | ((exfalso; omega); done) | skip))))
    (first | refine Run.ret tok Tryd.func38 rfl ?_ | refine Run.fall tok Tryd.func38 rfl ?_)
    exact .refl _
  rw [if_neg h1]
  obtain ⟨⟨f, n, c⟩, nt⟩ := m
  dsimp only at h0 h1 hn ⊢
  obtain ⟨k, rfl⟩ : ∃ k : Nat, f = k := ⟨f.toNat, by omega⟩
  rw [Int.toNat_natCast]
  refine Pure.of_spec (Spec.of_run (fn := Tryd.f38) Tryd.func38 rfl rfl (by kernel_rfl) ?_) (by first | assumption | rfl | (split <;> rfl) | (split <;> split <;> rfl))
  repeat' (first | refine Run.ctl rfl ?_ | (refine Rg.op false tok rfl rfl rfl rfl ?_ ?_ ?_; (first | exact ⟨⟩ | omega | focus (simp <;> omega) | decide +kernel); (first | exact trivial | exact rfl | exact .inl rfl | exact .inr rfl | focus ((repeat (first | exact trivial | (refine ⟨Stay.op false tok rfl rfl rfl ?_ (fun t ht => by cases ht; rfl), ?_⟩; (first | exact ⟨⟩ | omega | focus (simp <;> omega) | decide +kernel)) | (refine ⟨Stay.op true tok rfl rfl rfl ?_ (fun t ht => by cases ht; rfl), ?_⟩; (first | exact ⟨⟩ | omega | focus (simp <;> omega) | decide +kernel)) | refine ⟨Stay.skip rfl rfl (fun t ht => by cases ht; rfl), ?_⟩)); done))) | refine Rg.call (hn) rfl rfl rfl rfl rfl ⟨⟨.refl _, .refl _, trivial⟩, rfl⟩ ?_ | (refine Rg.op true tok rfl rfl rfl rfl ?_ ?_ ?_; (first | exact ⟨⟩ | omega | focus (simp <;> omega) | decide +kernel); (first | exact trivial | exact rfl | exact .inl rfl | exact .inr rfl | focus ((repeat (first | exact trivial | (refine ⟨Stay.op false tok rfl rfl rfl ?_ (fun t ht => by cases ht; rfl), ?_⟩; (first | exact ⟨⟩ | omega | focus (simp <;> omega) | decide +kernel)) | (refine ⟨Stay.op true tok rfl rfl rfl ?_ (fun t ht => by cases ht; rfl), ?_⟩; (first | exact ⟨⟩ | omega | focus (simp <;> omega) | decide +kernel)) | refine ⟨Stay.skip rfl rfl (fun t ht => by cases ht; rfl), ?_⟩)); done))) | refine Rg.nil ?_ | refine Rg.fork ?_ ?_ | refine Rg.skip rfl rfl rfl ?_ | refine Run.regR ?_ | refine Run.drwR mixed (by kernel_rfl) rfl ?_ | refine Run.condT rfl ?_ | refine Run.condF rfl ?_ | ((first | refine Run.condB rfl (fun hc => ?_) (fun hc => ?_) | ((fail_if_success (refine Rg.lit true rfl ?_)); (fail_if_success (refine Rg.lit false rfl ?_)); refine Rg.guard rfl (fun hc => ?_) (fun hc => ?_))) <;> ((try simp only [cs] at hc); (first | ((exfalso; omega); done) | skip))))
  (first | refine Run.ret tok Tryd.func38 rfl ?_ | refine Run.fall tok Tryd.func38 rfl ?_)
  exact .refl _
theorem lmax2 (a b : Int) : a ≤ lmax a [b] ∧ b ≤ lmax a [b] ∧ (lmax a [b] = a ∨ lmax a [b] = b) := by
  simp only [lmax]
  omega
theorem local_ (a : Act) (l : Lcl) : Pure Tryd.prog 35 [pAct a, pLcl l] (bl (localFit a l)) := by
  obtain ⟨regs, armed, down, sent, over⟩ := l
  have hm := lmin2 sent over
  have hM := lmax2 sent over
  unfold localFit
  dsimp only
  cases armed <;> (
  refine Pure.of_spec (Spec.of_run (fn := Tryd.f35) Tryd.func35 rfl rfl (by kernel_rfl) ?_) (by first | assumption | rfl | (split <;> rfl) | (split <;> split <;> rfl))
  repeat' (first | refine Run.ctl rfl ?_ | (refine Rg.op false tok rfl rfl rfl rfl ?_ ?_ ?_; (first | exact ⟨⟩ | omega | focus (simp <;> omega) | decide +kernel); (first | exact trivial | exact rfl | exact .inl rfl | exact .inr rfl)) | (refine Rg.op true tok rfl rfl rfl rfl ?_ ?_ ?_; (first | exact ⟨⟩ | omega | focus (simp <;> omega) | decide +kernel); (first | exact trivial | exact rfl | exact .inl rfl | exact .inr rfl)) | refine Rg.nil ?_ | refine Rg.skip rfl rfl rfl ?_ | refine Run.regR ?_ | refine Run.condT rfl ?_ | refine Run.condF rfl ?_ | ((first | refine Run.condB rfl (fun hc => ?_) (fun hc => ?_) | ((fail_if_success (refine Rg.lit true rfl ?_)); (fail_if_success (refine Rg.lit false rfl ?_)); refine Rg.guard rfl (fun hc => ?_) (fun hc => ?_))) <;> ((try simp only [cs] at hc); (first | ((exfalso; omega); done) | skip))))
  all_goals ((first | refine Run.ret tok Tryd.func35 rfl ?_ | refine Run.fall tok Tryd.func35 rfl ?_); refine .ofBool ?_; (try dsimp only); (rw [Bool.eq_iff_iff]; simp only [Bool.or_eq_true, Bool.and_eq_true, decide_eq_true_eq, bne_iff_ne, beq_iff_eq, ne_eq, Bool.not_eq_true, Bool.not_eq_true', Bool.not_eq_false', Bool.not_eq_eq_eq_not, Bool.not_true, Bool.not_false, decide_eq_false_iff_not, bne_eq_false_iff_eq, beq_eq_false_iff_ne, Bool.false_eq_true, reduceCtorEq, false_and, true_and, and_false, and_true, not_false_eq_true, not_true_eq_false, true_iff, false_iff, iff_true, iff_false]; omega)))
theorem sortedMail_iff : ∀ (l : List Msg), sortedMail l = true ↔ ∀ q, q + 1 < l.length → lessID (l.getD q default).id (l.getD (q + 1) default).id = true
  | [] => by simp [sortedMail]
  | [a] => by simp [sortedMail]
  | a :: b :: l => by
    unfold sortedMail
    rw [Bool.and_eq_true, sortedMail_iff (b :: l)]
    constructor
    · rintro ⟨h1, h2⟩ q hq
      cases q with
      | zero => exact h1
      | succ q => exact h2 q (by simpa using hq)
    · intro h
      exact ⟨h 0 (by simp), fun q hq => h (q + 1) (by simpa using hq)⟩
theorem any_findIx {α : Type} (F : α → Bool) : ∀ (l : List α) (k : Nat), l.any F = decide (findIx F l k ≥ 0)
  | [], k => rfl
  | x :: l, k => by
    unfold findIx
    rw [List.any_cons, any_findIx F l (k + 1)]
    cases h : F x with
    | true => simp
    | false => simp
theorem containsF_ (F : Msg → Bool) (g : FuncId) (cap : List PV) (hc0 : closedL cap = true) (l : List Msg) (hl : l.length ≤ 100000) (hp : ∀ x ∈ l, Pure Tryd.prog g (pMsg x :: cap) (bl (F x))) : Pure Tryd.prog 36 [sl 6 eMsg l, .func g cap] (bl (l.any F)) := by
  have h := indexF_ F g cap hc0 l hl hp
  have e := any_findIx F l 0
  rw [e]
  refine Pure.of_spec (Spec.of_run (fn := Tryd.f36) Tryd.func36 rfl rfl (by kernel_rfl) ?_) (by first | assumption | rfl | (split <;> rfl) | (split <;> split <;> rfl))
  repeat' (first | refine Run.ctl rfl ?_ | (refine Rg.op false tok rfl rfl rfl rfl ?_ ?_ ?_; (first | exact ⟨⟩ | omega | focus (simp <;> omega) | decide +kernel); (first | exact trivial | exact rfl | exact .inl rfl | exact .inr rfl)) | refine Rg.call (h) rfl rfl rfl rfl rfl ⟨⟨.refl _, .refl _, trivial⟩, by show (bif closedL cap then true else false) = true; rw [hc0]; rfl⟩ ?_ | (refine Rg.op true tok rfl rfl rfl rfl ?_ ?_ ?_; (first | exact ⟨⟩ | omega | focus (simp <;> omega) | decide +kernel); (first | exact trivial | exact rfl | exact .inl rfl | exact .inr rfl)) | refine Rg.nil ?_ | refine Rg.skip rfl rfl rfl ?_ | refine Run.regR ?_ | refine Run.condT rfl ?_ | refine Run.condF rfl ?_ | ((first | refine Run.condB rfl (fun hc => ?_) (fun hc => ?_) | ((fail_if_success (refine Rg.lit true rfl ?_)); (fail_if_success (refine Rg.lit false rfl ?_)); refine Rg.guard rfl (fun hc => ?_) (fun hc => ?_))) <;> ((try simp only [cs] at hc))))
  (first | refine Run.ret tok Tryd.func36 rfl ?_ | refine Run.fall tok Tryd.func36 rfl ?_)
  exact .refl _
theorem sorted_ (l : List Msg) (hl : l.length ≤ 100000) : Pure Tryd.prog 34 [sl 6 eMsg l] (bl (sortedMail l)) := by
  refine Pure.of_spec (Spec.of_run (fn := Tryd.f34) Tryd.func34 rfl rfl (by kernel_rfl) ?_) (by first | assumption | rfl | (split <;> rfl) | (split <;> split <;> rfl))
  repeat' (first | refine Run.ctl rfl ?_ | (refine Rg.op false tok rfl rfl rfl rfl ?_ ?_ ?_; (first | exact ⟨⟩ | omega | focus (simp <;> omega) | decide +kernel); (first | exact trivial | exact rfl | exact .inl rfl | exact .inr rfl | focus ((repeat (first | exact trivial | (refine ⟨Stay.op false tok rfl rfl rfl ?_ (fun t ht => by cases ht; rfl), ?_⟩; (first | exact ⟨⟩ | omega | focus (simp <;> omega) | decide +kernel)) | (refine ⟨Stay.op true tok rfl rfl rfl ?_ (fun t ht => by cases ht; rfl), ?_⟩; (first | exact ⟨⟩ | omega | focus (simp <;> omega) | decide +kernel)) | refine ⟨Stay.skip rfl rfl (fun t ht => by cases ht; rfl), ?_⟩)); done))) | (refine Rg.op true tok rfl rfl rfl rfl ?_ ?_ ?_; (first | exact ⟨⟩ | omega | focus (simp <;> omega) | decide +kernel); (first | exact trivial | exact rfl | exact .inl rfl | exact .inr rfl | focus ((repeat (first | exact trivial | (refine ⟨Stay.op false tok rfl rfl rfl ?_ (fun t ht => by cases ht; rfl), ?_⟩; (first | exact ⟨⟩ | omega | focus (simp <;> omega) | decide +kernel)) | (refine ⟨Stay.op true tok rfl rfl rfl ?_ (fun t ht => by cases ht; rfl), ?_⟩; (first | exact ⟨⟩ | omega | focus (simp <;> omega) | decide +kernel)) | refine ⟨Stay.skip rfl rfl (fun t ht => by cases ht; rfl), ?_⟩)); done))) | refine Rg.nil ?_ | refine Rg.fork ?_ ?_ | refine Rg.skip rfl rfl rfl ?_ | refine Run.regR ?_ | refine Run.drwR mixed (by kernel_rfl) rfl ?_ | refine Run.condT rfl ?_ | refine Run.condF rfl ?_ | ((first | refine Run.condB rfl (fun hc => ?_) (fun hc => ?_) | ((fail_if_success (refine Rg.lit true rfl ?_)); (fail_if_success (refine Rg.lit false rfl ?_)); refine Rg.guard rfl (fun hc => ?_) (fun hc => ?_))) <;> ((try simp only [cs] at hc); (first | ((exfalso; omega); done) | skip))))
  refine Run.loopN (ι := Nat) (fun i => ([(0, sl 6 eMsg l), (4, sl 6 eMsg l), (5, i64 l.length), (6, i64 i)], [])) (fun i => i ≤ l.length ∧ ∀ q, q + 1 < i → lessID (l.getD q default).id (l.getD (q + 1) default).id = true) (fun i => l.length - i) 0 ⟨rfl, rfl, rfl, rfl, trivial⟩ rfl ⟨by omega, fun q hq => by omega⟩ ?_
  rintro i ⟨hi, hf⟩ back backR
  by_cases hlt : i < l.length
  · cases i with
    | zero =>
      repeat' (first | refine Run.ctl rfl ?_ | (refine Rg.op false tok rfl rfl rfl rfl ?_ ?_ ?_; (first | exact ⟨⟩ | omega | focus (simp <;> omega) | decide +kernel); (first | exact trivial | exact rfl | exact .inl rfl | exact .inr rfl | focus ((repeat (first | exact trivial | (refine ⟨Stay.op false tok rfl rfl rfl ?_ (fun t ht => by cases ht; rfl), ?_⟩; (first | exact ⟨⟩ | omega | focus (simp <;> omega) | decide +kernel)) | (refine ⟨Stay.op true tok rfl rfl rfl ?_ (fun t ht => by cases ht; rfl), ?_⟩; (first | exact ⟨⟩ | omega | focus (simp <;> omega) | decide +kernel)) | refine ⟨Stay.skip rfl rfl (fun t ht => by cases ht; rfl), ?_⟩)); done))) | (refine Rg.op true tok rfl rfl rfl rfl ?_ ?_ ?_; (first | exact ⟨⟩ | omega | focus (simp <;> omega) | decide +kernel); (first | exact trivial | exact rfl | exact .inl rfl | exact .inr rfl | focus ((repeat (first | exact trivial | (refine ⟨Stay.op false tok rfl rfl rfl ?_ (fun t ht => by cases ht; rfl), ?_⟩; (first | exact ⟨⟩ | omega | focus (simp <;> omega) | decide +kernel)) | (refine ⟨Stay.op true tok rfl rfl rfl ?_ (fun t ht => by cases ht; rfl), ?_⟩; (first | exact ⟨⟩ | omega | focus (simp <;> omega) | decide +kernel)) | refine ⟨Stay.skip rfl rfl (fun t ht => by cases ht; rfl), ?_⟩)); done))) | refine Rg.nil ?_ | refine Rg.fork ?_ ?_ | refine Rg.skip rfl rfl rfl ?_ | refine Run.regR ?_ | refine Run.drwR mixed (by kernel_rfl) rfl ?_ | refine Run.condT rfl ?_ | refine Run.condF rfl ?_ | ((first | refine Run.condB rfl (fun hc => ?_) (fun hc => ?_) | ((fail_if_success (refine Rg.lit true rfl ?_)); (fail_if_success (refine Rg.lit false rfl ?_)); refine Rg.guard rfl (fun hc => ?_) (fun hc => ?_))) <;> ((try simp only [cs] at hc); (first | ((exfalso; omega); done) | ((exfalso; simp at hc; done); done) | skip))))
      exact back 1 _ _ ⟨by omega, fun q hq => by omega⟩ (by omega) ⟨rfl, rfl, rfl, rfl, trivial⟩ rfl
    | succ i =>
      have hle := less_ (l.getD i default).id (l.getD (i + 1) default).id
      cases hb : lessID (l.getD i default).id (l.getD (i + 1) default).id with
      | true =>
        rw [hb] at hle
        repeat' (first | refine Rg.any rfl rfl rfl (fun _ hq => G_ixFK tok i rfl rfl rfl rfl rfl (by omega) (by omega) hq) (by first | exact trivial | exact rfl | exact .inl rfl | exact .inr rfl | focus ((repeat (first | exact trivial | (refine ⟨Stay.op false tok rfl rfl rfl ?_ (fun t ht => by cases ht; rfl), ?_⟩; (first | exact ⟨⟩ | omega | focus (simp <;> omega) | decide +kernel)) | (refine ⟨Stay.op true tok rfl rfl rfl ?_ (fun t ht => by cases ht; rfl), ?_⟩; (first | exact ⟨⟩ | omega | focus (simp <;> omega) | decide +kernel)) | refine ⟨Stay.skip rfl rfl (fun t ht => by cases ht; rfl), ?_⟩)); done)) ?_ | refine Run.ctl rfl ?_ | (refine Rg.op false tok rfl rfl rfl rfl ?_ ?_ ?_; (first | exact ⟨⟩ | omega | focus (simp <;> omega) | decide +kernel); (first | exact trivial | exact rfl | exact .inl rfl | exact .inr rfl | focus ((repeat (first | exact trivial | (refine ⟨Stay.op false tok rfl rfl rfl ?_ (fun t ht => by cases ht; rfl), ?_⟩; (first | exact ⟨⟩ | omega | focus (simp <;> omega) | decide +kernel)) | (refine ⟨Stay.op true tok rfl rfl rfl ?_ (fun t ht => by cases ht; rfl), ?_⟩; (first | exact ⟨⟩ | omega | focus (simp <;> omega) | decide +kernel)) | refine ⟨Stay.skip rfl rfl (fun t ht => by cases ht; rfl), ?_⟩)); done))) | refine Rg.call (hle) rfl rfl rfl rfl rfl ⟨⟨.refl _, .refl _, trivial⟩, rfl⟩ ?_ | (refine Rg.op true tok rfl rfl rfl rfl ?_ ?_ ?_; (first | exact ⟨⟩ | omega | focus (simp <;> omega) | decide +kernel); (first | exact trivial | exact rfl | exact .inl rfl | exact .inr rfl | focus ((repeat (first | exact trivial | (refine ⟨Stay.op false tok rfl rfl rfl ?_ (fun t ht => by cases ht; rfl), ?_⟩; (first | exact ⟨⟩ | omega | focus (simp <;> omega) | decide +kernel)) | (refine ⟨Stay.op true tok rfl rfl rfl ?_ (fun t ht => by cases ht; rfl), ?_⟩; (first | exact ⟨⟩ | omega | focus (simp <;> omega) | decide +kernel)) | refine ⟨Stay.skip rfl rfl (fun t ht => by cases ht; rfl), ?_⟩)); done))) | refine Rg.nil ?_ | refine Rg.fork ?_ ?_ | refine Rg.skip rfl rfl rfl ?_ | refine Run.regR ?_ | refine Run.drwR mixed (by kernel_rfl) rfl ?_ | refine Run.condT rfl ?_ | refine Run.condF rfl ?_ | ((first | refine Run.condB rfl (fun hc => ?_) (fun hc => ?_) | ((fail_if_success (refine Rg.lit true rfl ?_)); (fail_if_success (refine Rg.lit false rfl ?_)); refine Rg.guard rfl (fun hc => ?_) (fun hc => ?_))) <;> ((try simp only [cs] at hc); (first | ((exfalso; omega); done) | skip))))
        exact back (i + 1 + 1) _ _ ⟨hlt, fun q hq => by
          by_cases h : q + 1 < i + 1
          · exact hf q h
          · obtain rfl : q = i := by omega
            exact hb⟩ (by omega) ⟨rfl, rfl, rfl, rfl, trivial⟩ rfl
      | false =>
        have hs : sortedMail l = false := by
          rw [Bool.eq_false_iff]
          intro h
          have := (sortedMail_iff l).1 h i hlt
          rw [hb] at this; cases this
        rw [hb] at hle
        rw [hs]
        repeat' (first | refine Rg.any rfl rfl rfl (fun _ hq => G_ixFK tok i rfl rfl rfl rfl rfl (by omega) (by omega) hq) (by first | exact trivial | exact rfl | exact .inl rfl | exact .inr rfl | focus ((repeat (first | exact trivial | (refine ⟨Stay.op false tok rfl rfl rfl ?_ (fun t ht => by cases ht; rfl), ?_⟩; (first | exact ⟨⟩ | omega | focus (simp <;> omega) | decide +kernel)) | (refine ⟨Stay.op true tok rfl rfl rfl ?_ (fun t ht => by cases ht; rfl), ?_⟩; (first | exact ⟨⟩ | omega | focus (simp <;> omega) | decide +kernel)) | refine ⟨Stay.skip rfl rfl (fun t ht => by cases ht; rfl), ?_⟩)); done)) ?_ | refine Run.ctl rfl ?_ | (refine Rg.op false tok rfl rfl rfl rfl ?_ ?_ ?_; (first | exact ⟨⟩ | omega | focus (simp <;> omega) | decide +kernel); (first | exact trivial | exact rfl | exact .inl rfl | exact .inr rfl | focus ((repeat (first | exact trivial | (refine ⟨Stay.op false tok rfl rfl rfl ?_ (fun t ht => by cases ht; rfl), ?_⟩; (first | exact ⟨⟩ | omega | focus (simp <;> omega) | decide +kernel)) | (refine ⟨Stay.op true tok rfl rfl rfl ?_ (fun t ht => by cases ht; rfl), ?_⟩; (first | exact ⟨⟩ | omega | focus (simp <;> omega) | decide +kernel)) | refine ⟨Stay.skip rfl rfl (fun t ht => by cases ht; rfl), ?_⟩)); done))) | refine Rg.call (hle) rfl rfl rfl rfl rfl ⟨⟨.refl _, .refl _, trivial⟩, rfl⟩ ?_ | (refine Rg.op true tok rfl rfl rfl rfl ?_ ?_ ?_; (first | exact ⟨⟩ | omega | focus (simp <;> omega) | decide +kernel); (first | exact trivial | exact rfl | exact .inl rfl | exact .inr rfl | focus ((repeat (first | exact trivial | (refine ⟨Stay.op false tok rfl rfl rfl ?_ (fun t ht => by cases ht; rfl), ?_⟩; (first | exact ⟨⟩ | omega | focus (simp <;> omega) | decide +kernel)) | (refine ⟨Stay.op true tok rfl rfl rfl ?_ (fun t ht => by cases ht; rfl), ?_⟩; (first | exact ⟨⟩ | omega | focus (simp <;> omega) | decide +kernel)) | refine ⟨Stay.skip rfl rfl (fun t ht => by cases ht; rfl), ?_⟩)); done))) | refine Rg.nil ?_ | refine Rg.fork ?_ ?_ | refine Rg.skip rfl rfl rfl ?_ | refine Run.regR ?_ | refine Run.drwR mixed (by kernel_rfl) rfl ?_ | refine Run.condT rfl ?_ | refine Run.condF rfl ?_ | ((first | refine Run.condB rfl (fun hc => ?_) (fun hc => ?_) | ((fail_if_success (refine Rg.lit true rfl ?_)); (fail_if_success (refine Rg.lit false rfl ?_)); refine Rg.guard rfl (fun hc => ?_) (fun hc => ?_))) <;> ((try simp only [cs] at hc); (first | ((exfalso; omega); done) | skip))))
        (first | refine Run.ret tok Tryd.func34 rfl ?_ | refine Run.fall tok Tryd.func34 rfl ?_)
        exact .refl _
  · obtain rfl : i = l.length := by omega
    rw [(sortedMail_iff l).2 hf]
    repeat' (first | refine Run.ctl rfl ?_ | (refine Rg.op false tok rfl rfl rfl rfl ?_ ?_ ?_; (first | exact ⟨⟩ | omega | focus (simp <;> omega) | decide +kernel); (first | exact trivial | exact rfl | exact .inl rfl | exact .inr rfl | focus ((repeat (first | exact trivial | (refine ⟨Stay.op false tok rfl rfl rfl ?_ (fun t ht => by cases ht; rfl), ?_⟩; (first | exact ⟨⟩ | omega | focus (simp <;> omega) | decide +kernel)) | (refine ⟨Stay.op true tok rfl rfl rfl ?_ (fun t ht => by cases ht; rfl), ?_⟩; (first | exact ⟨⟩ | omega | focus (simp <;> omega) | decide +kernel)) | refine ⟨Stay.skip rfl rfl (fun t ht => by cases ht; rfl), ?_⟩)); done))) | (refine Rg.op true tok rfl rfl rfl rfl ?_ ?_ ?_; (first | exact ⟨⟩ | omega | focus (simp <;> omega) | decide +kernel); (first | exact trivial | exact rfl | exact .inl rfl | exact .inr rfl | focus ((repeat (first | exact trivial | (refine ⟨Stay.op false tok rfl rfl rfl ?_ (fun t ht => by cases ht; rfl), ?_⟩; (first | exact ⟨⟩ | omega | focus (simp <;> omega) | decide +kernel)) | (refine ⟨Stay.op true tok rfl rfl rfl ?_ (fun t ht => by cases ht; rfl), ?_⟩; (first | exact ⟨⟩ | omega | focus (simp <;> omega) | decide +kernel)) | refine ⟨Stay.skip rfl rfl (fun t ht => by cases ht; rfl), ?_⟩)); done))) | refine Rg.nil ?_ | refine Rg.fork ?_ ?_ | refine Rg.skip rfl rfl rfl ?_ | refine Run.regR ?_ | refine Run.drwR mixed (by kernel_rfl) rfl ?_ | refine Run.condT rfl ?_ | refine Run.condF rfl ?_ | ((first | refine Run.condB rfl (fun hc => ?_) (fun hc => ?_) | ((fail_if_success (refine Rg.lit true rfl ?_)); (fail_if_success (refine Rg.lit false rfl ?_)); refine Rg.guard rfl (fun hc => ?_) (fun hc => ?_))) <;> ((try simp only [cs] at hc); (first | ((exfalso; omega); done) | skip))))
    (first | refine Run.ret tok Tryd.func34 rfl ?_ | refine Run.fall tok Tryd.func34 rfl ?_)
    exact .refl _
theorem fitsC_ (p : Pg) (w : Wd) (m : Msg) : Pure Tryd.prog 37 [pMsg m, .fptr 4 1 (fun _ => ePg p) 0 0, .fptr 6 1 (fun _ => eWd w) 0 0] (bl (!msgFit p w m)) := by
  have h := message_ p w m
  refine Pure.of_spec (Spec.of_run (fn := Tryd.f37) Tryd.func37 rfl rfl (by kernel_rfl) ?_) (by first | assumption | rfl | (split <;> rfl) | (split <;> split <;> rfl))
  repeat' (first | refine Run.ctl rfl ?_ | (refine Rg.op false tok rfl rfl rfl rfl ?_ ?_ ?_; (first | exact ⟨⟩ | omega | focus (simp <;> omega) | decide +kernel); (first | exact trivial | exact rfl | exact .inl rfl | exact .inr rfl)) | refine Rg.call (h) rfl rfl rfl rfl rfl ⟨⟨.refl _, .refl _, .refl _, trivial⟩, rfl⟩ ?_ | (refine Rg.op true tok rfl rfl rfl rfl ?_ ?_ ?_; (first | exact ⟨⟩ | omega | focus (simp <;> omega) | decide +kernel); (first | exact trivial | exact rfl | exact .inl rfl | exact .inr rfl)) | refine Rg.nil ?_ | refine Rg.skip rfl rfl rfl ?_ | refine Run.regR ?_ | refine Run.condT rfl ?_ | refine Run.condF rfl ?_ | ((first | refine Run.condB rfl (fun hc => ?_) (fun hc => ?_) | ((fail_if_success (refine Rg.lit true rfl ?_)); (fail_if_success (refine Rg.lit false rfl ?_)); refine Rg.guard rfl (fun hc => ?_) (fun hc => ?_))) <;> ((try simp only [cs] at hc))))
  (first | refine Run.ret tok Tryd.func37 rfl ?_ | refine Run.fall tok Tryd.func37 rfl ?_)
  exact .refl _
theorem lmin4 (a b c d : Int) : (lmin a [b, c, d] < 0) = ¬(0 ≤ a ∧ 0 ≤ b ∧ 0 ≤ c ∧ 0 ≤ d) := by
  apply propext
  simp only [lmin]
  omega
theorem any_not {α : Type} (F : α → Bool) : ∀ l : List α, l.any (fun x => !F x) = !l.all F
  | [] => rfl
  | x :: l => by rw [List.any_cons, List.all_cons, any_not F l]; cases F x <;> simp
theorem fits_ (p : Pg) (w : Wd) (hl : w.mail.length ≤ 100000) (ha : w.actors.length ≤ 100000) : Pure Tryd.prog 20 [pPg p, pWd w] (bl (worldFit p w)) := by
  have hso := sorted_ w.mail hl
  have hb4 : ∀ z : Int, (z < 0) = ¬(0 ≤ z) := fun z => propext (by omega)
  have hm4 := lmin4 w.used.drop w.used.dup w.used.time w.used.crash
  have hcf := containsF_ (fun m => !msgFit p w m) 37 [.fptr 4 1 (fun _ => ePg p) 0 0, .fptr 6 1 (fun _ => eWd w) 0 0] rfl w.mail hl (fun m _ => fitsC_ p w m)
  have ean : w.mail.any (fun m => !msgFit p w m) = !w.mail.all (msgFit p w) := any_not _ _
  rw [ean] at hcf
  unfold worldFit
  generalize w.mail.all (msgFit p w) = M at hcf ⊢
  generalize sortedMail w.mail = S at hso ⊢
  by_cases h0 : w.actors.length = p.actors.length ∧ 0 ≤ w.used.drop ∧ 0 ≤ w.used.dup ∧ 0 ≤ w.used.time ∧ 0 ≤ w.used.crash
  · rw [decide_eq_true h0, Bool.true_and]
    have hm5 : ¬(lmin w.used.drop [w.used.dup, w.used.time, w.used.crash] < 0) := by rw [hm4]; exact fun h => h h0.2
    cases S with
    | false =>
      rw [Bool.false_and, Bool.false_and]
      refine Pure.of_spec (Spec.of_run (fn := Tryd.f20) Tryd.func20 rfl rfl (by kernel_rfl) ?_) (by first | assumption | rfl | (split <;> rfl) | (split <;> split <;> rfl))
      repeat' (first | refine Run.ctl rfl ?_ | (refine Rg.op false tok rfl rfl rfl rfl ?_ ?_ ?_; (first | exact ⟨⟩ | omega | focus (simp <;> omega) | decide +kernel); (first | exact trivial | exact rfl | exact .inl rfl | exact .inr rfl | focus ((repeat (first | exact trivial | (refine ⟨Stay.op false tok rfl rfl rfl ?_ (fun t ht => by cases ht; rfl), ?_⟩; (first | exact ⟨⟩ | omega | focus (simp <;> omega) | decide +kernel)) | (refine ⟨Stay.op true tok rfl rfl rfl ?_ (fun t ht => by cases ht; rfl), ?_⟩; (first | exact ⟨⟩ | omega | focus (simp <;> omega) | decide +kernel)) | refine ⟨Stay.skip rfl rfl (fun t ht => by cases ht; rfl), ?_⟩)); done))) | refine Rg.call (hso) rfl rfl rfl rfl rfl ⟨⟨.refl _, trivial⟩, rfl⟩ ?_ | (refine Rg.op true tok rfl rfl rfl rfl ?_ ?_ ?_; (first | exact ⟨⟩ | omega | focus (simp <;> omega) | decide +kernel); (first | exact trivial | exact rfl | exact .inl rfl | exact .inr rfl | focus ((repeat (first | exact trivial | (refine ⟨Stay.op false tok rfl rfl rfl ?_ (fun t ht => by cases ht; rfl), ?_⟩; (first | exact ⟨⟩ | omega | focus (simp <;> omega) | decide +kernel)) | (refine ⟨Stay.op true tok rfl rfl rfl ?_ (fun t ht => by cases ht; rfl), ?_⟩; (first | exact ⟨⟩ | omega | focus (simp <;> omega) | decide +kernel)) | refine ⟨Stay.skip rfl rfl (fun t ht => by cases ht; rfl), ?_⟩)); done))) | refine Rg.nil ?_ | refine Rg.fork ?_ ?_ | refine Rg.skip rfl rfl rfl ?_ | refine Run.regR ?_ | refine Run.drwR mixed (by kernel_rfl) rfl ?_ | refine Run.condT rfl ?_ | refine Run.condF rfl ?_ | ((first | refine Run.condB rfl (fun hc => ?_) (fun hc => ?_) | ((fail_if_success (refine Rg.lit true rfl ?_)); (fail_if_success (refine Rg.lit false rfl ?_)); refine Rg.guard rfl (fun hc => ?_) (fun hc => ?_))) <;> ((try simp only [cs] at hc); (first | ((exfalso; omega); done) | skip))))
      (first | refine Run.ret tok Tryd.func20 rfl ?_ | refine Run.fall tok Tryd.func20 rfl ?_)
      exact .refl _
    | true =>
      rw [Bool.true_and]
      refine Pure.of_spec (Spec.of_run (fn := Tryd.f20) Tryd.func20 rfl rfl (by kernel_rfl) ?_) (by first | assumption | rfl | (split <;> rfl) | (split <;> split <;> rfl))
      repeat' (first | refine Run.ctl rfl ?_ | (refine Rg.op false tok rfl rfl rfl rfl ?_ ?_ ?_; (first | exact ⟨⟩ | omega | focus (simp <;> omega) | decide +kernel); (first | exact trivial | exact rfl | exact .inl rfl | exact .inr rfl | focus ((repeat (first | exact trivial | (refine ⟨Stay.op false tok rfl rfl rfl ?_ (fun t ht => by cases ht; rfl), ?_⟩; (first | exact ⟨⟩ | omega | focus (simp <;> omega) | decide +kernel)) | (refine ⟨Stay.op true tok rfl rfl rfl ?_ (fun t ht => by cases ht; rfl), ?_⟩; (first | exact ⟨⟩ | omega | focus (simp <;> omega) | decide +kernel)) | refine ⟨Stay.skip rfl rfl (fun t ht => by cases ht; rfl), ?_⟩)); done))) | refine Rg.call (hso) rfl rfl rfl rfl rfl ⟨⟨.refl _, trivial⟩, rfl⟩ ?_ | (refine Rg.op true tok rfl rfl rfl rfl ?_ ?_ ?_; (first | exact ⟨⟩ | omega | focus (simp <;> omega) | decide +kernel); (first | exact trivial | exact rfl | exact .inl rfl | exact .inr rfl | focus ((repeat (first | exact trivial | (refine ⟨Stay.op false tok rfl rfl rfl ?_ (fun t ht => by cases ht; rfl), ?_⟩; (first | exact ⟨⟩ | omega | focus (simp <;> omega) | decide +kernel)) | (refine ⟨Stay.op true tok rfl rfl rfl ?_ (fun t ht => by cases ht; rfl), ?_⟩; (first | exact ⟨⟩ | omega | focus (simp <;> omega) | decide +kernel)) | refine ⟨Stay.skip rfl rfl (fun t ht => by cases ht; rfl), ?_⟩)); done))) | refine Rg.nil ?_ | refine Rg.fork ?_ ?_ | refine Rg.skip rfl rfl rfl ?_ | refine Run.regR ?_ | refine Run.drwR mixed (by kernel_rfl) rfl ?_ | refine Run.condT rfl ?_ | refine Run.condF rfl ?_ | ((first | refine Run.condB rfl (fun hc => ?_) (fun hc => ?_) | ((fail_if_success (refine Rg.lit true rfl ?_)); (fail_if_success (refine Rg.lit false rfl ?_)); refine Rg.guard rfl (fun hc => ?_) (fun hc => ?_))) <;> ((try simp only [cs] at hc); (first | ((exfalso; omega); done) | skip))))
      refine Run.loopN (ι := Nat) (fun i => ([(2, .ptr 0 0 0), (3, .ptr 1 0 0), (37, sl 5 eLcl w.actors), (38, i64 w.actors.length), (39, i64 i)], [pbox p, wdbox w])) (fun i => i ≤ w.actors.length ∧ ((p.actors.zip w.actors).drop i).all (fun x => localFit x.1 x.2) = (p.actors.zip w.actors).all (fun x => localFit x.1 x.2)) (fun i => w.actors.length - i) 0 ⟨rfl, rfl, rfl, rfl, rfl, trivial⟩ rfl ⟨by omega, rfl⟩ ?_
      rintro i ⟨hi, hf⟩ back backR
      dsimp only
      by_cases hlt : i < w.actors.length
      · have hz : i < (p.actors.zip w.actors).length := by rw [List.length_zip]; omega
        have hzi : (p.actors.zip w.actors).getD i default = (p.actors.getD i default, w.actors.getD i default) := by
          have h2 : i < p.actors.length := by omega
          rw [List.getD_eq_getElem?_getD, List.getElem?_eq_getElem hz, List.getElem_zip, List.getD_eq_getElem?_getD, List.getD_eq_getElem?_getD, List.getElem?_eq_getElem hlt, List.getElem?_eq_getElem h2]
          rfl
        rw [all_at hz, hzi] at hf
        dsimp only at hf
        have hlo := local_ (p.actors.getD i default) (w.actors.getD i default)
        cases hb : localFit (p.actors.getD i default) (w.actors.getD i default) with
        | true =>
          rw [hb] at hf hlo
          rw [Bool.true_and] at hf
          repeat' (first | refine Run.ctl rfl ?_ | (refine Rg.op false tok rfl rfl rfl rfl ?_ ?_ ?_; (first | exact ⟨⟩ | omega | focus (simp <;> omega) | decide +kernel); (first | exact trivial | exact rfl | exact .inl rfl | exact .inr rfl | focus ((repeat (first | exact trivial | (refine ⟨Stay.op false tok rfl rfl rfl ?_ (fun t ht => by cases ht; rfl), ?_⟩; (first | exact ⟨⟩ | omega | focus (simp <;> omega) | decide +kernel)) | (refine ⟨Stay.op true tok rfl rfl rfl ?_ (fun t ht => by cases ht; rfl), ?_⟩; (first | exact ⟨⟩ | omega | focus (simp <;> omega) | decide +kernel)) | refine ⟨Stay.skip rfl rfl (fun t ht => by cases ht; rfl), ?_⟩)); done))) | refine Rg.call (hlo) rfl rfl rfl rfl rfl ⟨⟨.refl _, .refl _, trivial⟩, rfl⟩ ?_ | (refine Rg.op true tok rfl rfl rfl rfl ?_ ?_ ?_; (first | exact ⟨⟩ | omega | focus (simp <;> omega) | decide +kernel); (first | exact trivial | exact rfl | exact .inl rfl | exact .inr rfl | focus ((repeat (first | exact trivial | (refine ⟨Stay.op false tok rfl rfl rfl ?_ (fun t ht => by cases ht; rfl), ?_⟩; (first | exact ⟨⟩ | omega | focus (simp <;> omega) | decide +kernel)) | (refine ⟨Stay.op true tok rfl rfl rfl ?_ (fun t ht => by cases ht; rfl), ?_⟩; (first | exact ⟨⟩ | omega | focus (simp <;> omega) | decide +kernel)) | refine ⟨Stay.skip rfl rfl (fun t ht => by cases ht; rfl), ?_⟩)); done))) | refine Rg.nil ?_ | refine Rg.fork ?_ ?_ | refine Rg.skip rfl rfl rfl ?_ | refine Run.regR ?_ | refine Run.drwR mixed (by kernel_rfl) rfl ?_ | refine Run.condT rfl ?_ | refine Run.condF rfl ?_ | ((first | refine Run.condB rfl (fun hc => ?_) (fun hc => ?_) | ((fail_if_success (refine Rg.lit true rfl ?_)); (fail_if_success (refine Rg.lit false rfl ?_)); refine Rg.guard rfl (fun hc => ?_) (fun hc => ?_))) <;> ((try simp only [cs] at hc); (first | ((exfalso; omega); done) | skip))))
          exact backR [0, 1] (i + 1) _ _ ⟨hlt, hf⟩ (by omega) rfl ⟨⟨_, rfl, rfl, rfl, rfl, rfl, fun k hk => .ofEq rfl rfl⟩, ⟨_, rfl, rfl, rfl, rfl, rfl, fun k hk => .ofEq rfl rfl⟩, trivial⟩ ⟨.ptrN rfl rfl, .ptrN rfl rfl, .cl rfl, .cl rfl, .cl rfl, trivial⟩
        | false =>
          rw [hb] at hf hlo
          rw [Bool.false_and] at hf
          rw [← hf, Bool.false_and]
          repeat' (first | refine Run.ctl rfl ?_ | (refine Rg.op false tok rfl rfl rfl rfl ?_ ?_ ?_; (first | exact ⟨⟩ | omega | focus (simp <;> omega) | decide +kernel); (first | exact trivial | exact rfl | exact .inl rfl | exact .inr rfl | focus ((repeat (first | exact trivial | (refine ⟨Stay.op false tok rfl rfl rfl ?_ (fun t ht => by cases ht; rfl), ?_⟩; (first | exact ⟨⟩ | omega | focus (simp <;> omega) | decide +kernel)) | (refine ⟨Stay.op true tok rfl rfl rfl ?_ (fun t ht => by cases ht; rfl), ?_⟩; (first | exact ⟨⟩ | omega | focus (simp <;> omega) | decide +kernel)) | refine ⟨Stay.skip rfl rfl (fun t ht => by cases ht; rfl), ?_⟩)); done))) | refine Rg.call (hlo) rfl rfl rfl rfl rfl ⟨⟨.refl _, .refl _, trivial⟩, rfl⟩ ?_ | (refine Rg.op true tok rfl rfl rfl rfl ?_ ?_ ?_; (first | exact ⟨⟩ | omega | focus (simp <;> omega) | decide +kernel); (first | exact trivial | exact rfl | exact .inl rfl | exact .inr rfl | focus ((repeat (first | exact trivial | (refine ⟨Stay.op false tok rfl rfl rfl ?_ (fun t ht => by cases ht; rfl), ?_⟩; (first | exact ⟨⟩ | omega | focus (simp <;> omega) | decide +kernel)) | (refine ⟨Stay.op true tok rfl rfl rfl ?_ (fun t ht => by cases ht; rfl), ?_⟩; (first | exact ⟨⟩ | omega | focus (simp <;> omega) | decide +kernel)) | refine ⟨Stay.skip rfl rfl (fun t ht => by cases ht; rfl), ?_⟩)); done))) | refine Rg.nil ?_ | refine Rg.fork ?_ ?_ | refine Rg.skip rfl rfl rfl ?_ | refine Run.regR ?_ | refine Run.drwR mixed (by kernel_rfl) rfl ?_ | refine Run.condT rfl ?_ | refine Run.condF rfl ?_ | ((first | refine Run.condB rfl (fun hc => ?_) (fun hc => ?_) | ((fail_if_success (refine Rg.lit true rfl ?_)); (fail_if_success (refine Rg.lit false rfl ?_)); refine Rg.guard rfl (fun hc => ?_) (fun hc => ?_))) <;> ((try simp only [cs] at hc); (first | ((exfalso; omega); done) | skip))))
          (first | refine Run.ret tok Tryd.func20 rfl ?_ | refine Run.fall tok Tryd.func20 rfl ?_)
          exact .refl _
      · obtain rfl : i = w.actors.length := by omega
        have hz : (p.actors.zip w.actors).length = w.actors.length := by rw [List.length_zip]; omega
        rw [← hz, List.drop_length, List.all_nil] at hf
        rw [← hf, Bool.true_and]
        repeat' (first | refine Run.ctl rfl ?_ | (refine Rg.op false tok rfl rfl rfl rfl ?_ ?_ ?_; (first | exact ⟨⟩ | omega | focus (simp <;> omega) | decide +kernel); (first | exact trivial | exact rfl | exact .inl rfl | exact .inr rfl | focus ((repeat (first | exact trivial | (refine ⟨Stay.op false tok rfl rfl rfl ?_ (fun t ht => by cases ht; rfl), ?_⟩; (first | exact ⟨⟩ | omega | focus (simp <;> omega) | decide +kernel)) | (refine ⟨Stay.op true tok rfl rfl rfl ?_ (fun t ht => by cases ht; rfl), ?_⟩; (first | exact ⟨⟩ | omega | focus (simp <;> omega) | decide +kernel)) | refine ⟨Stay.skip rfl rfl (fun t ht => by cases ht; rfl), ?_⟩)); done))) | refine Rg.lend (hcf) rfl rfl rfl rfl rfl rfl ⟨⟨.refl _, .func' ⟨.box rfl rfl rfl rfl rfl (.refl _), .box rfl rfl rfl rfl rfl (.refl _), trivial⟩, trivial⟩, rfl⟩ ?_ | (refine Rg.op true tok rfl rfl rfl rfl ?_ ?_ ?_; (first | exact ⟨⟩ | omega | focus (simp <;> omega) | decide +kernel); (first | exact trivial | exact rfl | exact .inl rfl | exact .inr rfl | focus ((repeat (first | exact trivial | (refine ⟨Stay.op false tok rfl rfl rfl ?_ (fun t ht => by cases ht; rfl), ?_⟩; (first | exact ⟨⟩ | omega | focus (simp <;> omega) | decide +kernel)) | (refine ⟨Stay.op true tok rfl rfl rfl ?_ (fun t ht => by cases ht; rfl), ?_⟩; (first | exact ⟨⟩ | omega | focus (simp <;> omega) | decide +kernel)) | refine ⟨Stay.skip rfl rfl (fun t ht => by cases ht; rfl), ?_⟩)); done))) | refine Rg.nil ?_ | refine Rg.fork ?_ ?_ | refine Rg.skip rfl rfl rfl ?_ | refine Run.regR ?_ | refine Run.drwR mixed (by kernel_rfl) rfl ?_ | refine Run.condT rfl ?_ | refine Run.condF rfl ?_ | ((first | refine Run.condB rfl (fun hc => ?_) (fun hc => ?_) | ((fail_if_success (refine Rg.lit true rfl ?_)); (fail_if_success (refine Rg.lit false rfl ?_)); refine Rg.guard rfl (fun hc => ?_) (fun hc => ?_))) <;> ((try simp only [cs] at hc); (first | ((exfalso; omega); done) | skip))))
        (first | refine Run.ret tok Tryd.func20 rfl ?_ | refine Run.fall tok Tryd.func20 rfl ?_)
        exact .ofBool (by simp)
  · rw [decide_eq_false h0, Bool.false_and, Bool.false_and, Bool.false_and]
    cases S <;> (
    refine Pure.of_spec (Spec.of_run (fn := Tryd.f20) Tryd.func20 rfl rfl (by kernel_rfl) ?_) (by first | assumption | rfl | (split <;> rfl) | (split <;> split <;> rfl))
    repeat' (first | refine Run.ctl rfl ?_ | (refine Rg.op false tok rfl rfl rfl rfl ?_ ?_ ?_; (first | exact ⟨⟩ | omega | focus (simp <;> omega) | decide +kernel); (first | exact trivial | exact rfl | exact .inl rfl | exact .inr rfl | focus ((repeat (first | exact trivial | (refine ⟨Stay.op false tok rfl rfl rfl ?_ (fun t ht => by cases ht; rfl), ?_⟩; (first | exact ⟨⟩ | omega | focus (simp <;> omega) | decide +kernel)) | (refine ⟨Stay.op true tok rfl rfl rfl ?_ (fun t ht => by cases ht; rfl), ?_⟩; (first | exact ⟨⟩ | omega | focus (simp <;> omega) | decide +kernel)) | refine ⟨Stay.skip rfl rfl (fun t ht => by cases ht; rfl), ?_⟩)); done))) | refine Rg.call (hso) rfl rfl rfl rfl rfl ⟨⟨.refl _, trivial⟩, rfl⟩ ?_ | (refine Rg.op true tok rfl rfl rfl rfl ?_ ?_ ?_; (first | exact ⟨⟩ | omega | focus (simp <;> omega) | decide +kernel); (first | exact trivial | exact rfl | exact .inl rfl | exact .inr rfl | focus ((repeat (first | exact trivial | (refine ⟨Stay.op false tok rfl rfl rfl ?_ (fun t ht => by cases ht; rfl), ?_⟩; (first | exact ⟨⟩ | omega | focus (simp <;> omega) | decide +kernel)) | (refine ⟨Stay.op true tok rfl rfl rfl ?_ (fun t ht => by cases ht; rfl), ?_⟩; (first | exact ⟨⟩ | omega | focus (simp <;> omega) | decide +kernel)) | refine ⟨Stay.skip rfl rfl (fun t ht => by cases ht; rfl), ?_⟩)); done))) | refine Rg.nil ?_ | refine Rg.fork ?_ ?_ | refine Rg.skip rfl rfl rfl ?_ | refine Run.regR ?_ | refine Run.drwR mixed (by kernel_rfl) rfl ?_ | refine Run.condT rfl ?_ | refine Run.condF rfl ?_ | ((first | refine Run.condB rfl (fun hc => ?_) (fun hc => ?_) | ((fail_if_success (refine Rg.lit true rfl ?_)); (fail_if_success (refine Rg.lit false rfl ?_)); refine Rg.guard rfl (fun hc => ?_) (fun hc => ?_))) <;> ((try simp only [cs] at hc); (first | ((exfalso; omega); done) | ((exfalso; rw [← Int.not_lt, hm4] at hc; omega); done) | skip))))
    all_goals ((first | refine Run.ret tok Tryd.func20 rfl ?_ | refine Run.fall tok Tryd.func20 rfl ?_); exact .refl _))
theorem worldCheck_ (p : Pg) (w : Wd) (hl : w.mail.length ≤ 100000) (ha : w.actors.length ≤ 100000) : Pure Tryd.prog 10 [pPg p, pWd w] (bl (worldOk p w)) := by
  have hfc := flowCheck_ p
  have hfi := fits_ p w hl ha
  unfold worldOk
  generalize flowWhy p = z at hfc ⊢
  generalize worldFit p w = b at hfi ⊢
  by_cases h : z = 0
  · rw [decide_eq_true h, Bool.true_and]
    refine Pure.of_spec (Spec.of_run (fn := Tryd.f10) Tryd.func10 rfl rfl (by kernel_rfl) ?_) (by first | assumption | rfl | (split <;> rfl) | (split <;> split <;> rfl))
    repeat' (first | refine Run.ctl rfl ?_ | (refine Rg.op false tok rfl rfl rfl rfl ?_ ?_ ?_; (first | exact ⟨⟩ | omega | focus (simp <;> omega) | decide +kernel); (first | exact trivial | exact rfl | exact .inl rfl | exact .inr rfl)) | refine Rg.call (hfc) rfl rfl rfl rfl rfl ⟨⟨.refl _, trivial⟩, rfl⟩ ?_ | refine Rg.call (hfi) rfl rfl rfl rfl rfl ⟨⟨.refl _, .refl _, trivial⟩, rfl⟩ ?_ | (refine Rg.op true tok rfl rfl rfl rfl ?_ ?_ ?_; (first | exact ⟨⟩ | omega | focus (simp <;> omega) | decide +kernel); (first | exact trivial | exact rfl | exact .inl rfl | exact .inr rfl)) | refine Rg.nil ?_ | refine Rg.skip rfl rfl rfl ?_ | refine Run.regR ?_ | refine Run.condT rfl ?_ | refine Run.condF rfl ?_ | ((first | refine Run.condB rfl (fun hc => ?_) (fun hc => ?_) | ((fail_if_success (refine Rg.lit true rfl ?_)); (fail_if_success (refine Rg.lit false rfl ?_)); refine Rg.guard rfl (fun hc => ?_) (fun hc => ?_))) <;> ((try simp only [cs] at hc); (first | ((exfalso; omega); done) | ((exact absurd h hc); done) | skip))))
    (first | refine Run.ret tok Tryd.func10 rfl ?_ | refine Run.fall tok Tryd.func10 rfl ?_)
    exact .refl _
  · rw [decide_eq_false h, Bool.false_and]
    refine Pure.of_spec (Spec.of_run (fn := Tryd.f10) Tryd.func10 rfl rfl (by kernel_rfl) ?_) (by first | assumption | rfl | (split <;> rfl) | (split <;> split <;> rfl))
    repeat' (first | refine Run.ctl rfl ?_ | (refine Rg.op false tok rfl rfl rfl rfl ?_ ?_ ?_; (first | exact ⟨⟩ | omega | focus (simp <;> omega) | decide +kernel); (first | exact trivial | exact rfl | exact .inl rfl | exact .inr rfl)) | refine Rg.call (hfc) rfl rfl rfl rfl rfl ⟨⟨.refl _, trivial⟩, rfl⟩ ?_ | refine Rg.call (hfi) rfl rfl rfl rfl rfl ⟨⟨.refl _, .refl _, trivial⟩, rfl⟩ ?_ | (refine Rg.op true tok rfl rfl rfl rfl ?_ ?_ ?_; (first | exact ⟨⟩ | omega | focus (simp <;> omega) | decide +kernel); (first | exact trivial | exact rfl | exact .inl rfl | exact .inr rfl)) | refine Rg.nil ?_ | refine Rg.skip rfl rfl rfl ?_ | refine Run.regR ?_ | refine Run.condT rfl ?_ | refine Run.condF rfl ?_ | ((first | refine Run.condB rfl (fun hc => ?_) (fun hc => ?_) | ((fail_if_success (refine Rg.lit true rfl ?_)); (fail_if_success (refine Rg.lit false rfl ?_)); refine Rg.guard rfl (fun hc => ?_) (fun hc => ?_))) <;> ((try simp only [cs] at hc); (first | ((exfalso; omega); done) | ((exact absurd hc h); done) | skip))))
    (first | refine Run.ret tok Tryd.func10 rfl ?_ | refine Run.fall tok Tryd.func10 rfl ?_)
    exact .refl _
end Go.Proofs.YtffckdfcmdmnoaaDoor.W
end
section
/- Walks: watches (chapter 14). -/
set_option linter.unusedVariables false
set_option linter.unusedSimpArgs false
set_option linter.unusedSectionVars false
set_option pp.maxSteps 40000
set_option maxHeartbeats 4000000
namespace Go.Proofs.YtffckdfcmdmnoaaDoor.W
open Go Go.Sy

def okW (l : List (List Instr)) : Prop := ∀ x ∈ l, x.length ≤ 100000 ∧ ∀ i ∈ x, R64 i.a
end Go.Proofs.YtffckdfcmdmnoaaDoor.W
end
section
/- Walks: marks; what the laws of watches hold against each other (chapter 14). -/
set_option linter.unusedVariables false
set_option linter.unusedSimpArgs false
set_option linter.unusedSectionVars false
set_option pp.maxSteps 40000
set_option maxHeartbeats 4000000
namespace Go.Proofs.YtffckdfcmdmnoaaDoor.W
open Go Go.Sy

theorem list_eq_iff {α : Type} [Inhabited α] [DecidableEq α] {a b : List α} (hl : a.length = b.length) : a = b ↔ ∀ q, q < a.length → a.getD q default = b.getD q default := by
  constructor
  · rintro rfl q _; rfl
  · intro h
    apply List.ext_getElem hl
    intro i h1 h2
    have := h i h1
    simpa [h1, h2] using this
end Go.Proofs.YtffckdfcmdmnoaaDoor.W
end
