/- Texts merged: E5. -/
import Derived.Test.YtlimecfjpfaljaaDoorM32
import Derived.Test.YtlimecfjpfaljaaDoorM33
section
/- Walks: the law of what is asked (chapter 13). -/
set_option linter.unusedVariables false
set_option linter.unusedSimpArgs false
set_option linter.unusedSectionVars false
set_option pp.maxSteps 40000
set_option maxHeartbeats 8000000
namespace Go.Proofs.YtlimecfjpfaljaaDoor.W
open Go Go.Sy

def wdR (a b c sent over down : Int) : Wd := ⟨[⟨[a, b], false, down, sent, over⟩, ⟨[c], true, 0, 0, 0⟩], [⟨⟨-1, 0, 0⟩, ⟨1, 0, []⟩⟩, ⟨⟨0, 1, 0⟩, ⟨0, 0, []⟩⟩], bg0⟩
def l13 : List (List Instr) := [[⟨31, 0⟩], [⟨31, 1⟩], [⟨31, 2⟩], [⟨31, 16⟩], [⟨32, 0⟩], [⟨32, 1⟩], [⟨33, 0⟩], [⟨36, 0⟩], [⟨35, 0⟩], [⟨35, 1⟩], [⟨34, 0⟩], [⟨34, 1⟩], [⟨37, 0⟩]]
def want13 (a b c sent over down : Int) : List Int := [a, b, 0, c, down, 0, over, sent, 0, 1, 1, 1, 2]
theorem worldR {a b c sent over down : Int} (h1 : 2 ≤ sent ∧ sent ≤ 1000) (h2 : 0 ≤ over ∧ over ≤ 1000) (h3 : 0 ≤ down ∧ down ≤ 4) : worldOk pg13 (wdR a b c sent over down) = true := by
  unfold worldOk worldFit
  simp only [Bool.and_eq_true, decide_eq_true_eq]
  refine ⟨flow13, ⟨⟨⟨rfl, Int.le_refl _, Int.le_refl _, Int.le_refl _, Int.le_refl _⟩, rfl⟩, ?_⟩, ?_⟩
  · simp [wdR, pg13, localFit]
    omega
  · simp [wdR, msgFit, noteWhy, pg13, bg0]
    omega
theorem readOne {w : Wd} {i : Instr} {v : Int} (hw : worldOk pg13 w = true) (h : exWhy pg13 [i] = 0) (hv : exOf w [i] = v) : exValue pg13 w [i] = (v, 0) := by
  unfold exValue
  rw [h, if_neg (by decide), hw, if_neg (by decide), hv]
theorem reads {a b c sent over down : Int} (hw : worldOk pg13 (wdR a b c sent over down) = true) (q : Nat) (hq : q < 13) : exValue pg13 (wdR a b c sent over down) (l13.getD q default) = ((want13 a b c sent over down).getD q default, 0) := by
  rcases q with _ | _ | _ | _ | _ | _ | _ | _ | _ | _ | _ | _ | _ | q
  all_goals first
    | exact readOne hw (by decide +kernel) rfl
    | (exfalso; omega)
theorem okW_of13 {l : List (List Instr)} (h : (l.all fun x => decide (x.length ≤ 100000) && x.all fun i => decide (-9223372036854775808 ≤ i.a ∧ i.a ≤ 9223372036854775807)) = true) : ∀ x ∈ l, x.length ≤ 100000 ∧ ∀ i ∈ x, R64 i.a := by
  intro x hx
  rw [List.all_eq_true] at h
  have := h x hx
  simp only [Bool.and_eq_true, decide_eq_true_eq, List.all_eq_true] at this
  exact ⟨this.1, fun i hi => this.2 i hi⟩
theorem exprReads_ (a b c sent over down : Int) (_ : R64 a) (_ : R64 b) (_ : R64 c) (_ : R64 sent) (_ : R64 over) (_ : R64 down) : Pure Tryd.prog 7 [i64 a, i64 b, i64 c, i64 sent, i64 over, i64 down] (bl true) := by
  by_cases hg : sent < 2 ∨ 1000 < sent ∨ over < 0 ∨ 1000 < over ∨ down < 0 ∨ 4 < down
  · refine Pure.of_spec (Spec.of_run (fn := Tryd.f7) Tryd.func7 rfl rfl (by kernel_rfl) ?_) (by first | assumption | rfl | (split <;> rfl) | (split <;> split <;> rfl))
    repeat' (first | refine Run.ctl rfl ?_ | (refine Rg.op false tok rfl rfl rfl rfl ?_ ?_ ?_; (first | exact ⟨⟩ | omega | focus (simp <;> omega) | decide +kernel); (first | exact trivial | exact rfl | exact .inl rfl | exact .inr rfl)) | refine Rg.call (awake13_) rfl rfl rfl rfl rfl ⟨trivial, rfl⟩ ?_ | (refine Rg.op true tok rfl rfl rfl rfl ?_ ?_ ?_; (first | exact ⟨⟩ | omega | focus (simp <;> omega) | decide +kernel); (first | exact trivial | exact rfl | exact .inl rfl | exact .inr rfl)) | refine Rg.nil ?_ | refine Rg.skip rfl rfl rfl ?_ | refine Run.regR ?_ | refine Run.condT rfl ?_ | refine Run.condF rfl ?_ | ((first | refine Run.condB rfl (fun hc => ?_) (fun hc => ?_) | ((fail_if_success (refine Rg.lit true rfl ?_)); (fail_if_success (refine Rg.lit false rfl ?_)); refine Rg.guard rfl (fun hc => ?_) (fun hc => ?_))) <;> ((try simp only [cs] at hc); (first | ((exfalso; omega); done) | skip))))
    all_goals ((first | refine Run.ret tok Tryd.func7 rfl ?_ | refine Run.fall tok Tryd.func7 rfl ?_); exact .refl _)
  have hw := worldR (a := a) (b := b) (c := c) (sent := sent) (over := over) (down := down) (by omega) (by omega) (by omega)
  have hrd := reads hw
  refine Pure.of_spec (Spec.of_run (fn := Tryd.f7) Tryd.func7 rfl rfl (by kernel_rfl) ?_) (by first | assumption | rfl | (split <;> rfl) | (split <;> split <;> rfl))
  repeat' (first | refine Rg.any rfl rfl rfl (fun _ hq => G_buildZ tok rfl rfl rfl rfl rfl rfl rfl rfl rfl rfl rfl hq) (by first | exact trivial | exact rfl | exact .inl rfl | exact .inr rfl | focus ((repeat (first | exact trivial | (refine ⟨Stay.op false tok rfl rfl rfl ?_ (fun t ht => by cases ht; rfl), ?_⟩; (first | exact ⟨⟩ | omega | focus (simp <;> omega) | decide +kernel)) | (refine ⟨Stay.op true tok rfl rfl rfl ?_ (fun t ht => by cases ht; rfl), ?_⟩; (first | exact ⟨⟩ | omega | focus (simp <;> omega) | decide +kernel)) | refine ⟨Stay.skip rfl rfl (fun t ht => by cases ht; rfl), ?_⟩)); done)) ?_ | refine Run.ctl rfl ?_ | (refine Rg.op false tok rfl rfl rfl rfl ?_ ?_ ?_; (first | exact ⟨⟩ | omega | focus (simp <;> omega) | decide +kernel); (first | exact trivial | exact rfl | exact .inl rfl | exact .inr rfl)) | refine Rg.call (one13_) rfl rfl rfl rfl rfl ⟨trivial, rfl⟩ ?_ | (refine Rg.op true tok rfl rfl rfl rfl ?_ ?_ ?_; (first | exact ⟨⟩ | omega | focus (simp <;> omega) | decide +kernel); (first | exact trivial | exact rfl | exact .inl rfl | exact .inr rfl)) | refine Rg.nil ?_ | refine Rg.skip rfl rfl rfl ?_ | refine Run.regR ?_ | refine Run.condT rfl ?_ | refine Run.condF rfl ?_ | ((first | refine Run.condB rfl (fun hc => ?_) (fun hc => ?_) | ((fail_if_success (refine Rg.lit true rfl ?_)); (fail_if_success (refine Rg.lit false rfl ?_)); refine Rg.guard rfl (fun hc => ?_) (fun hc => ?_))) <;> ((try simp only [cs] at hc); (first | ((exfalso; omega); done) | skip))))
  refine Run.weak (i := 1) ⟨34, 6, 1, fun _ => eWd (wdR a b c sent over down), false, false⟩ rfl rfl rfl (Nat.le_refl _) rfl (fun k hk => ⟨.cv (by (repeat (first | exact trivial | exact .refl _ | exact .rowNil | refine Cv.slcL rfl rfl rfl rfl rfl (fun _ => rfl) ?_ | refine Cv.fzL rfl (fun _ => rfl) ?_ | refine Cv.agg' ?_ | refine ⟨?_, ?_⟩))), .cv (by (repeat (first | exact trivial | exact .refl _ | exact .rowNil | refine Cv.slcL rfl rfl rfl rfl rfl (fun _ => rfl) ?_ | refine Cv.fzL rfl (fun _ => rfl) ?_ | refine Cv.agg' ?_ | refine ⟨?_, ?_⟩))), .refl _, .refl _, .refl _, .refl _, trivial⟩) ?_
  refine Run.weakE [(13, .ptr 0 0 0), (14, .ptr 1 0 0), (15, sl 1 eW l13), (16, sl 1 eInt (want13 a b c sent over down)), (17, i64 (0 : Nat))] (fun x hx => ?_) ?_
  · simp only [List.mem_cons, List.not_mem_nil, or_false] at hx
    rcases hx with rfl | rfl | rfl | rfl | rfl
    · exact .refl _
    · exact .refl _
    · exact .cv (by (repeat (first | exact trivial | exact .refl _ | exact .rowNil | refine Cv.slcL rfl rfl rfl rfl rfl (fun _ => rfl) ?_ | refine Cv.fzL rfl (fun _ => rfl) ?_ | refine Cv.agg' ?_ | refine ⟨?_, ?_⟩)))
    · exact .cv (by (repeat (first | exact trivial | exact .refl _ | exact .rowNil | refine Cv.slcL rfl rfl rfl rfl rfl (fun _ => rfl) ?_ | refine Cv.fzL rfl (fun _ => rfl) ?_ | refine Cv.agg' ?_ | refine ⟨?_, ?_⟩)))
    · exact .refl _
  refine Run.renumL [0, 1] [pbox pg13, wdbox (wdR a b c sent over down)] [(13, .ptr 0 0 0), (14, .ptr 1 0 0), (15, sl 1 eW l13), (16, sl 1 eInt (want13 a b c sent over down)), (17, i64 (0 : Nat))] rfl rfl rfl rfl ⟨⟨_, rfl, rfl, rfl, rfl, rfl, fun k hk => .ofEq rfl rfl⟩, ⟨_, rfl, rfl, rfl, rfl, rfl, fun k hk => .ofEq rfl rfl⟩, trivial⟩ ⟨.ptrN rfl rfl, .ptrN rfl rfl, .cl rfl, .cl rfl, .cl rfl, trivial⟩ ?_
  have hll : l13.length = 13 := rfl
  have hwl : (want13 a b c sent over down).length = 13 := rfl
  have hvl := fun q => value_ pg13 (wdR a b c sent over down) (l13.getD q default)
  have hok : ∀ q, q < 13 → (l13.getD q default).length ≤ 100000 ∧ ∀ i ∈ l13.getD q default, R64 i.a := by
    have h : (l13.all fun x => decide (x.length ≤ 100000) && x.all fun i => decide (-9223372036854775808 ≤ i.a ∧ i.a ≤ 9223372036854775807)) = true := by decide +kernel
    intro q hq
    exact okW_of13 h _ (mem_getD (by rw [hll]; exact hq))
  generalize l13 = L at hll hvl hok hrd ⊢
  generalize want13 a b c sent over down = W at hwl hrd ⊢
  refine Run.loopN (ι := Nat) (fun i => ([(13, .ptr 0 0 0), (14, .ptr 1 0 0), (15, sl 1 eW L), (16, sl 1 eInt W), (17, i64 i)], [pbox pg13, wdbox (wdR a b c sent over down)])) (fun i => i ≤ 13) (fun i => 13 - i) 0 ⟨rfl, rfl, rfl, rfl, rfl, trivial⟩ rfl (by omega) ?_
  rintro i hi back backR
  dsimp only
  by_cases hlt : i < 13
  · have hv := hvl i (hok i hlt).1 (hok i hlt).2 (by show 2 ≤ 100000; omega) (by show 2 ≤ 100000; omega)
    rw [hrd i hlt] at hv
    dsimp only at hv
    repeat' (first | (refine Run.drwP [] [0, 1, 2, 3, 4, 5, 6, 7, 8, 9, 10, 11] [none, none, none, none, none, none, none, none, none, none, none, none] mixed (by kernel_rfl) rfl ?_) | refine Run.ctl rfl ?_ | (refine Rg.op false tok rfl rfl rfl rfl ?_ ?_ ?_; (first | exact ⟨⟩ | omega | focus (simp <;> omega) | decide +kernel); (first | exact trivial | exact rfl | exact .inl rfl | exact .inr rfl | focus ((repeat (first | exact trivial | (refine ⟨Stay.op false tok rfl rfl rfl ?_ (fun t ht => by cases ht; rfl), ?_⟩; (first | exact ⟨⟩ | omega | focus (simp <;> omega) | decide +kernel)) | (refine ⟨Stay.op true tok rfl rfl rfl ?_ (fun t ht => by cases ht; rfl), ?_⟩; (first | exact ⟨⟩ | omega | focus (simp <;> omega) | decide +kernel)) | refine ⟨Stay.skip rfl rfl (fun t ht => by cases ht; rfl), ?_⟩)); done))) | refine Rg.call (hv) rfl rfl rfl rfl rfl ⟨⟨.refl _, .refl _, .refl _, trivial⟩, rfl⟩ ?_ | (refine Rg.op true tok rfl rfl rfl rfl ?_ ?_ ?_; (first | exact ⟨⟩ | omega | focus (simp <;> omega) | decide +kernel); (first | exact trivial | exact rfl | exact .inl rfl | exact .inr rfl | focus ((repeat (first | exact trivial | (refine ⟨Stay.op false tok rfl rfl rfl ?_ (fun t ht => by cases ht; rfl), ?_⟩; (first | exact ⟨⟩ | omega | focus (simp <;> omega) | decide +kernel)) | (refine ⟨Stay.op true tok rfl rfl rfl ?_ (fun t ht => by cases ht; rfl), ?_⟩; (first | exact ⟨⟩ | omega | focus (simp <;> omega) | decide +kernel)) | refine ⟨Stay.skip rfl rfl (fun t ht => by cases ht; rfl), ?_⟩)); done))) | refine Rg.nil ?_ | refine Rg.skip rfl rfl rfl ?_ | refine Run.regR ?_ | refine Run.drwR mixed (by kernel_rfl) rfl ?_ | refine Run.condT rfl ?_ | refine Run.condF rfl ?_ | ((first | refine Run.condB rfl (fun hc => ?_) (fun hc => ?_) | ((fail_if_success (refine Rg.lit true rfl ?_)); (fail_if_success (refine Rg.lit false rfl ?_)); refine Rg.guard rfl (fun hc => ?_) (fun hc => ?_))) <;> ((try simp only [cs] at hc); (first | ((exfalso; omega); done) | ((exact absurd rfl hc); done) | skip))))
    exact backR [0, 1] (i + 1) _ _ (by omega) (by omega) rfl ⟨⟨_, rfl, rfl, rfl, rfl, rfl, fun k hk => .ofEq rfl rfl⟩, ⟨_, rfl, rfl, rfl, rfl, rfl, fun k hk => .ofEq rfl rfl⟩, trivial⟩ ⟨.ptrN rfl rfl, .ptrN rfl rfl, .cl rfl, .cl rfl, .cl rfl, trivial⟩
  · obtain rfl : i = 13 := by omega
    repeat' (first | refine Run.ctl rfl ?_ | (refine Rg.op false tok rfl rfl rfl rfl ?_ ?_ ?_; (first | exact ⟨⟩ | omega | focus (simp <;> omega) | decide +kernel); (first | exact trivial | exact rfl | exact .inl rfl | exact .inr rfl)) | refine Rg.call (awake13_) rfl rfl rfl rfl rfl ⟨trivial, rfl⟩ ?_ | (refine Rg.op true tok rfl rfl rfl rfl ?_ ?_ ?_; (first | exact ⟨⟩ | omega | focus (simp <;> omega) | decide +kernel); (first | exact trivial | exact rfl | exact .inl rfl | exact .inr rfl)) | refine Rg.nil ?_ | refine Rg.skip rfl rfl rfl ?_ | refine Run.regR ?_ | refine Run.condT rfl ?_ | refine Run.condF rfl ?_ | ((first | refine Run.condB rfl (fun hc => ?_) (fun hc => ?_) | ((fail_if_success (refine Rg.lit true rfl ?_)); (fail_if_success (refine Rg.lit false rfl ?_)); refine Rg.guard rfl (fun hc => ?_) (fun hc => ?_))) <;> ((try simp only [cs] at hc); (first | ((exfalso; omega); done) | skip))))
    (first | refine Run.ret tok Tryd.func7 rfl ?_ | refine Run.fall tok Tryd.func7 rfl ?_)
    exact .refl _
end Go.Proofs.YtlimecfjpfaljaaDoor.W
end
