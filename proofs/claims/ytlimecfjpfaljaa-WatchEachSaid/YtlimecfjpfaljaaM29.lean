/- Texts merged: D25, D26. -/
import Derived.Test.YtlimecfjpfaljaaM28
section
/- Walks: the errors of watches (chapter 14). -/
set_option linter.unusedVariables false
set_option linter.unusedSimpArgs false
set_option linter.unusedSectionVars false
set_option pp.maxSteps 40000
set_option maxHeartbeats 8000000
namespace Go.Proofs.Ytlimecfjpfaljaa.W
open Go Go.Sy

/-- The watches of the law: at one place another one. -/
def errW (at' : Int) (i : Nat) : List Instr := if (i : Int) = at' then [⟨32, 5⟩] else [⟨1, 1⟩]
def errWs (at' : Int) (i n : Nat) : List (List Instr) := (List.range n).map fun j => if j < i then errW at' j else []
theorem errWs_at (at' : Int) (i : Nat) {n k : Nat} (hk : k < n) : (errWs at' i n).getD k default = if k < i then errW at' k else [] := by
  unfold errWs; simp [hk]
theorem WkL_set {α : Type} [Inhabited α] (enc : α → List PV) (l l' : List α) {st : St} {i k n : Nat} {el : Nat → List PV} (hl : ∀ k, k < n → k ≠ i → l'.getD k default = l.getD k default) (he : ∀ k, k ≠ i → el k = rows enc l k) (hi : WkL st (el i) (enc (l'.getD i default))) (hk : k < n) : WkL st (el k) (rows enc l' k) := by
  by_cases hki : k = i
  · subst hki; exact hi
  · rw [he k hki]; unfold rows; rw [hl k hk hki]; exact .refl _
theorem one_prog (fuel : Int) : progWhy (onePg 3 fuel) = if fuel < 1 ∨ 256 < fuel then 1 else 0 := by
  have hf : firstWhy (handlerWhy (onePg 3 fuel)) (onePg 3 fuel).handlers = 0 := by kernel_rfl
  have ha : firstWhy (actorWhy (onePg 3 fuel)) (onePg 3 fuel).actors = 0 := by kernel_rfl
  have hn : firstWhy (noteWhy (onePg 3 fuel)) (onePg 3 fuel).boot = 0 := by kernel_rfl
  unfold progWhy
  rw [hf, ha, hn, if_neg (by simp [onePg])]
  by_cases h : fuel < 1 ∨ 256 < fuel
  · rw [if_pos h, if_pos (.inr h)]
  · rw [if_neg h, if_neg (fun e => e.elim (fun e => by simp [onePg] at e) h)]
    rfl
theorem one_flowF (fuel : Int) : flowWhy (onePg 3 fuel) = if fuel < 1 ∨ 256 < fuel then 1 else 0 := by
  have hw : (onePg 3 fuel).handlers.all (walkOk (onePg 3 fuel)) = true := by kernel_rfl
  unfold flowWhy
  rw [one_prog, hw]
  by_cases h : fuel < 1 ∨ 256 < fuel
  · rw [if_pos h]; rfl
  · rw [if_neg h]; rfl
theorem firstWhy_val {α : Type} {f : α → Int} {c : Int} (hc : c ≠ 0) : ∀ {l : List α}, (∀ x ∈ l, f x = 0 ∨ f x = c) → (∃ x ∈ l, f x = c) → firstWhy f l = c
  | [], _, ⟨x, hx, _⟩ => nomatch hx
  | y :: l, h, ⟨x, hx, he⟩ => by
    unfold firstWhy
    rcases h y (by simp) with h0 | h0
    · rw [if_neg (by simp [h0])]
      refine firstWhy_val hc (fun x hx => h x (by simp [hx])) ?_
      rcases List.mem_cons.1 hx with rfl | hx
      · exact absurd (h0.symm.trans he) (fun e => hc e.symm)
      · exact ⟨x, hx, he⟩
    · rw [if_pos (by rw [h0]; exact hc)]; exact h0
theorem ex_good (fuel : Int) (h : ¬(fuel < 1 ∨ 256 < fuel)) : exWhy (onePg 3 fuel) [⟨1, 1⟩] = 0 := by
  have he : exFrom (onePg 3 fuel) [⟨1, 1⟩] 0 = 0 := by kernel_rfl
  unfold exWhy
  rw [one_flowF, if_neg h, he]; rfl
theorem ex_bad (fuel : Int) (h : ¬(fuel < 1 ∨ 256 < fuel)) : exWhy (onePg 3 fuel) [⟨32, 5⟩] = 7 := by
  have he : exFrom (onePg 3 fuel) [⟨32, 5⟩] 0 = 7 := by kernel_rfl
  unfold exWhy
  rw [one_flowF, if_neg h, he]; rfl
theorem errWs_len (at' : Int) (i n : Nat) : (errWs at' i n).length = n := by unfold errWs; simp
theorem errWs_mem {at' : Int} {n : Nat} {x : List Instr} (h : x ∈ errWs at' n n) : ∃ j, j < n ∧ x = errW at' j := by
  unfold errWs at h
  obtain ⟨j, hj, rfl⟩ := List.mem_map.1 h
  have := List.mem_range.1 hj
  exact ⟨j, this, by rw [if_pos this]⟩
theorem errWs_why (at' fuel : Int) (n : Nat) (h : ¬(fuel < 1 ∨ 256 < fuel)) : firstWhy (exWhy (onePg 3 fuel)) (errWs at' n n) = if 0 ≤ at' ∧ at' < n then 7 else 0 := by
  by_cases ha : 0 ≤ at' ∧ at' < n
  · rw [if_pos ha]
    refine firstWhy_val (by decide) (fun x hx => ?_) ⟨[⟨32, 5⟩], ?_, ex_bad fuel h⟩
    · obtain ⟨j, _, rfl⟩ := errWs_mem hx
      unfold errW
      split
      · exact .inr (ex_bad fuel h)
      · exact .inl (ex_good fuel h)
    · refine List.mem_map.2 ⟨at'.toNat, List.mem_range.2 (by omega), ?_⟩
      rw [if_pos (by omega)]; unfold errW; rw [if_pos (by omega)]
  · rw [if_neg ha]
    refine firstWhy_zero.2 fun x hx => ?_
    obtain ⟨j, hj, rfl⟩ := errWs_mem hx
    unfold errW
    rw [if_neg (by omega)]
    exact ex_good fuel h
theorem errWs_ok (at' : Int) (n : Nat) : okW (errWs at' n n) := fun x hx => by
  obtain ⟨j, _, rfl⟩ := errWs_mem hx
  unfold errW
  split <;> exact ⟨by decide, fun i hi => by simp at hi; subst hi; exact ⟨by decide, by decide⟩⟩
theorem watchErrors_ (n at' fuel : Int) (_ : R64 n) (_ : R64 at') (_ : R64 fuel) : Pure Try.prog 6 [i64 n, i64 at', i64 fuel] (bl true) := by
  by_cases h0 : n < 0 ∨ 12 < n ∨ fuel < 0 ∨ 300 < fuel
  · refine Pure.of_spec (Spec.of_run (fn := Try.f6) Try.func6 rfl rfl (by kernel_rfl) ?_) (by first | assumption | rfl | (split <;> rfl) | (split <;> split <;> rfl))
    repeat' (first | refine Run.ctl rfl ?_ | (refine Rg.op false tok rfl rfl rfl rfl ?_ ?_ ?_; (first | exact True.intro | omega | exact Nat.succ_pos _ | focus (simp; done) | focus (simp; omega) | decide +kernel); (first | exact trivial | exact rfl | exact .inl rfl | exact .inr rfl | focus ((repeat (first | exact trivial | (refine ⟨Stay.op false tok rfl rfl rfl ?_ (fun t ht => by cases ht; rfl), ?_⟩; (first | exact True.intro | omega | exact Nat.succ_pos _ | focus (simp; done) | focus (simp; omega) | decide +kernel)) | (refine ⟨Stay.op true tok rfl rfl rfl ?_ (fun t ht => by cases ht; rfl), ?_⟩; (first | exact True.intro | omega | exact Nat.succ_pos _ | focus (simp; done) | focus (simp; omega) | decide +kernel)) | refine ⟨Stay.skip rfl rfl (fun t ht => by cases ht; rfl), ?_⟩)); done))) | refine Rg.call (awake14_) rfl rfl rfl rfl rfl ⟨trivial, rfl⟩ ?_ | (refine Rg.op true tok rfl rfl rfl rfl ?_ ?_ ?_; (first | exact True.intro | omega | exact Nat.succ_pos _ | focus (simp; done) | focus (simp; omega) | decide +kernel); (first | exact trivial | exact rfl | exact .inl rfl | exact .inr rfl | focus ((repeat (first | exact trivial | (refine ⟨Stay.op false tok rfl rfl rfl ?_ (fun t ht => by cases ht; rfl), ?_⟩; (first | exact True.intro | omega | exact Nat.succ_pos _ | focus (simp; done) | focus (simp; omega) | decide +kernel)) | (refine ⟨Stay.op true tok rfl rfl rfl ?_ (fun t ht => by cases ht; rfl), ?_⟩; (first | exact True.intro | omega | exact Nat.succ_pos _ | focus (simp; done) | focus (simp; omega) | decide +kernel)) | refine ⟨Stay.skip rfl rfl (fun t ht => by cases ht; rfl), ?_⟩)); done))) | refine Rg.nil ?_ | refine Rg.skip rfl rfl rfl ?_ | refine Run.regR ?_ | refine Run.drwR mixed (by kernel_rfl) rfl ?_ | refine Run.condT rfl ?_ | refine Run.condF rfl ?_ | (refine Run.condB rfl (fun hc => ?_) (fun hc => ?_) <;> ((try simp only [cs] at hc); (first | ((exfalso; omega); done) | skip))) | ((fail_if_success (refine Rg.lit true rfl ?_)); (fail_if_success (refine Rg.lit false rfl ?_)); refine Rg.guard rfl (fun hc => ?_) (fun hc => ?_) <;> ((try simp only [cs] at hc); (first | ((exfalso; omega); done) | skip))))
    all_goals ((first | refine Run.ret tok Try.func6 rfl ?_ | refine Run.fall tok Try.func6 rfl ?_); exact .refl _)
  obtain ⟨m, rfl⟩ : ∃ m : Nat, n = m := ⟨n.toNat, by omega⟩
  refine Pure.of_spec (Spec.of_run (fn := Try.f6) Try.func6 rfl rfl (by kernel_rfl) ?_) (by first | assumption | rfl | (split <;> rfl) | (split <;> split <;> rfl))
  repeat' (first | refine Rg.any rfl rfl rfl (fun _ hq => G_make tok (n := m) rfl rfl rfl rfl rfl rfl rfl rfl rfl (by omega) (by omega) (by dsimp only; omega) (by omega) (by omega) hq) (by first | exact trivial | exact rfl | exact .inl rfl | exact .inr rfl | focus ((repeat (first | exact trivial | (refine ⟨Stay.op false tok rfl rfl rfl ?_ (fun t ht => by cases ht; rfl), ?_⟩; (first | exact True.intro | omega | exact Nat.succ_pos _ | focus (simp; done) | focus (simp; omega) | decide +kernel)) | (refine ⟨Stay.op true tok rfl rfl rfl ?_ (fun t ht => by cases ht; rfl), ?_⟩; (first | exact True.intro | omega | exact Nat.succ_pos _ | focus (simp; done) | focus (simp; omega) | decide +kernel)) | refine ⟨Stay.skip rfl rfl (fun t ht => by cases ht; rfl), ?_⟩)); done)) ?_ | refine Run.ctl rfl ?_ | (refine Rg.op false tok rfl rfl rfl rfl ?_ ?_ ?_; (first | exact True.intro | omega | exact Nat.succ_pos _ | focus (simp; done) | focus (simp; omega) | decide +kernel); (first | exact trivial | exact rfl | exact .inl rfl | exact .inr rfl | focus ((repeat (first | exact trivial | (refine ⟨Stay.op false tok rfl rfl rfl ?_ (fun t ht => by cases ht; rfl), ?_⟩; (first | exact True.intro | omega | exact Nat.succ_pos _ | focus (simp; done) | focus (simp; omega) | decide +kernel)) | (refine ⟨Stay.op true tok rfl rfl rfl ?_ (fun t ht => by cases ht; rfl), ?_⟩; (first | exact True.intro | omega | exact Nat.succ_pos _ | focus (simp; done) | focus (simp; omega) | decide +kernel)) | refine ⟨Stay.skip rfl rfl (fun t ht => by cases ht; rfl), ?_⟩)); done))) | refine Rg.call (one14_) rfl rfl rfl rfl rfl ⟨trivial, rfl⟩ ?_ | refine Rg.call (awake14_) rfl rfl rfl rfl rfl ⟨trivial, rfl⟩ ?_ | (refine Rg.op true tok rfl rfl rfl rfl ?_ ?_ ?_; (first | exact True.intro | omega | exact Nat.succ_pos _ | focus (simp; done) | focus (simp; omega) | decide +kernel); (first | exact trivial | exact rfl | exact .inl rfl | exact .inr rfl | focus ((repeat (first | exact trivial | (refine ⟨Stay.op false tok rfl rfl rfl ?_ (fun t ht => by cases ht; rfl), ?_⟩; (first | exact True.intro | omega | exact Nat.succ_pos _ | focus (simp; done) | focus (simp; omega) | decide +kernel)) | (refine ⟨Stay.op true tok rfl rfl rfl ?_ (fun t ht => by cases ht; rfl), ?_⟩; (first | exact True.intro | omega | exact Nat.succ_pos _ | focus (simp; done) | focus (simp; omega) | decide +kernel)) | refine ⟨Stay.skip rfl rfl (fun t ht => by cases ht; rfl), ?_⟩)); done))) | refine Rg.nil ?_ | refine Rg.skip rfl rfl rfl ?_ | refine Run.regR ?_ | refine Run.drwR mixed (by kernel_rfl) rfl ?_ | refine Run.condT rfl ?_ | refine Run.condF rfl ?_ | (refine Run.condB rfl (fun hc => ?_) (fun hc => ?_) <;> ((try simp only [cs] at hc); (first | ((exfalso; omega); done) | skip))) | ((fail_if_success (refine Rg.lit true rfl ?_)); (fail_if_success (refine Rg.lit false rfl ?_)); refine Rg.guard rfl (fun hc => ?_) (fun hc => ?_) <;> ((try simp only [cs] at hc); (first | ((exfalso; omega); done) | skip))))
  refine Run.renumL [0, 1] [pbox (onePg 3 fuel), some ⟨53, 1, m, fun _ => [.atom (.slice none 0 0)], false, false⟩] [(0, i64 m), (1, i64 at'), (2, i64 fuel), (7, .ptr 0 0 0), (8, .slc 1 0 m), (9, i64 (0 : Nat))] rfl rfl rfl rfl ⟨⟨_, rfl, rfl, rfl, rfl, rfl, fun k hk => .ofEq rfl rfl⟩, ⟨_, rfl, rfl, rfl, rfl, rfl, fun k hk => .ofEq rfl rfl⟩, trivial⟩ ⟨.cl rfl, .cl rfl, .cl rfl, .ptrN rfl rfl, .slcN rfl rfl rfl, .cl rfl, trivial⟩ ?_
  refine Run.weak (i := 1) ⟨53, 1, m, rows eW (errWs at' 0 m), false, false⟩ rfl rfl rfl (Nat.le_refl _) rfl (fun k hk => by
    show WkL _ _ (eW ((errWs at' 0 m).getD k default))
    rw [errWs_at at' 0 hk, if_neg (by omega)]
    exact ⟨.cv .nil, trivial⟩) ?_
  refine Run.loopN (ι := Nat) (fun i => ([(0, i64 m), (1, i64 at'), (2, i64 fuel), (7, .ptr 0 0 0), (8, .slc 1 0 m), (9, i64 i)], [pbox (onePg 3 fuel), some ⟨53, 1, m, rows eW (errWs at' i m), false, false⟩])) (fun i => i ≤ m) (fun i => m - i) 0 ⟨rfl, rfl, rfl, rfl, rfl, rfl, trivial⟩ rfl (by omega) ?_
  rintro i hi back backR
  dsimp only
  by_cases hlt : i < m
  · by_cases he : (i : Int) = at'
    · repeat' (first | refine Run.ctl rfl ?_ | (refine Rg.op false tok rfl rfl rfl rfl ?_ ?_ ?_; (first | exact True.intro | omega | exact Nat.succ_pos _ | focus (simp; done) | focus (simp; omega) | decide +kernel); (first | exact trivial | exact rfl | exact .inl rfl | exact .inr rfl | focus ((repeat (first | exact trivial | (refine ⟨Stay.op false tok rfl rfl rfl ?_ (fun t ht => by cases ht; rfl), ?_⟩; (first | exact True.intro | omega | exact Nat.succ_pos _ | focus (simp; done) | focus (simp; omega) | decide +kernel)) | (refine ⟨Stay.op true tok rfl rfl rfl ?_ (fun t ht => by cases ht; rfl), ?_⟩; (first | exact True.intro | omega | exact Nat.succ_pos _ | focus (simp; done) | focus (simp; omega) | decide +kernel)) | refine ⟨Stay.skip rfl rfl (fun t ht => by cases ht; rfl), ?_⟩)); done))) | (refine Rg.op true tok rfl rfl rfl rfl ?_ ?_ ?_; (first | exact True.intro | omega | exact Nat.succ_pos _ | focus (simp; done) | focus (simp; omega) | decide +kernel); (first | exact trivial | exact rfl | exact .inl rfl | exact .inr rfl | focus ((repeat (first | exact trivial | (refine ⟨Stay.op false tok rfl rfl rfl ?_ (fun t ht => by cases ht; rfl), ?_⟩; (first | exact True.intro | omega | exact Nat.succ_pos _ | focus (simp; done) | focus (simp; omega) | decide +kernel)) | (refine ⟨Stay.op true tok rfl rfl rfl ?_ (fun t ht => by cases ht; rfl), ?_⟩; (first | exact True.intro | omega | exact Nat.succ_pos _ | focus (simp; done) | focus (simp; omega) | decide +kernel)) | refine ⟨Stay.skip rfl rfl (fun t ht => by cases ht; rfl), ?_⟩)); done))) | refine Rg.nil ?_ | refine Rg.skip rfl rfl rfl ?_ | refine Run.regR ?_ | refine Run.drwR mixed (by kernel_rfl) rfl ?_ | refine Run.condT rfl ?_ | refine Run.condF rfl ?_ | (refine Run.condB rfl (fun hc => ?_) (fun hc => ?_) <;> ((try simp only [cs] at hc); (first | ((exfalso; omega); done) | ((exact absurd he hc); done) | skip))) | ((fail_if_success (refine Rg.lit true rfl ?_)); (fail_if_success (refine Rg.lit false rfl ?_)); refine Rg.guard rfl (fun hc => ?_) (fun hc => ?_) <;> ((try simp only [cs] at hc); (first | ((exfalso; omega); done) | ((exact absurd he hc); done) | skip))))
      refine Run.freeze (i := 3) rfl rfl ?_
      refine Run.weak (i := 1) ⟨53, 1, m, rows eW (errWs at' (i + 1) m), false, false⟩ rfl rfl rfl (Nat.le_refl _) rfl (fun k hk => WkL_set eW (errWs at' i m) _ (i := i) (fun k hk hki => by rw [errWs_at _ _ hk, errWs_at _ _ hk]; split <;> split <;> first | rfl | omega) (fun k hki => by
        have hb : Nat.beq k (0 + i) = false := by
          cases hb : Nat.beq k (0 + i) with
          | false => rfl
          | true => exact absurd (by have := Nat.eq_of_beq_eq_true hb; omega) hki
        dsimp only; simp only [hb, cond_false]) (by
        have hb : Nat.beq i (0 + i) = true := by rw [Nat.zero_add]; exact Nat.beq_refl i
        rw [errWs_at _ _ hlt, if_pos (Nat.lt_succ_self _)]; unfold errW; rw [if_pos he]
        have hb2 : Nat.beq (0 + i) (0 + i) = true := Nat.beq_refl _
        dsimp only; simp only [hb, hb2, cond_true]
        exact (show WkL _ [_] [_] from ⟨.cv (by (repeat (first | exact trivial | exact .refl _ | exact .rowNil | refine Cv.slcL rfl rfl rfl rfl rfl (fun _ => rfl) ?_ | refine Cv.fzL rfl (fun _ => rfl) ?_ | refine Cv.agg' ?_ | refine ⟨?_, ?_⟩))), trivial⟩)) hk) ?_
      exact backR [0, 1] (i + 1) _ _ hlt (by omega) rfl ⟨⟨_, rfl, rfl, rfl, rfl, rfl, fun k hk => .ofEq rfl rfl⟩, ⟨_, rfl, rfl, rfl, rfl, rfl, fun k hk => .ofEq rfl rfl⟩, trivial⟩ ⟨.cl rfl, .cl rfl, .cl rfl, .ptrN rfl rfl, .slcN rfl rfl rfl, .cl rfl, trivial⟩
    · repeat' (first | refine Run.ctl rfl ?_ | (refine Rg.op false tok rfl rfl rfl rfl ?_ ?_ ?_; (first | exact True.intro | omega | exact Nat.succ_pos _ | focus (simp; done) | focus (simp; omega) | decide +kernel); (first | exact trivial | exact rfl | exact .inl rfl | exact .inr rfl | focus ((repeat (first | exact trivial | (refine ⟨Stay.op false tok rfl rfl rfl ?_ (fun t ht => by cases ht; rfl), ?_⟩; (first | exact True.intro | omega | exact Nat.succ_pos _ | focus (simp; done) | focus (simp; omega) | decide +kernel)) | (refine ⟨Stay.op true tok rfl rfl rfl ?_ (fun t ht => by cases ht; rfl), ?_⟩; (first | exact True.intro | omega | exact Nat.succ_pos _ | focus (simp; done) | focus (simp; omega) | decide +kernel)) | refine ⟨Stay.skip rfl rfl (fun t ht => by cases ht; rfl), ?_⟩)); done))) | (refine Rg.op true tok rfl rfl rfl rfl ?_ ?_ ?_; (first | exact True.intro | omega | exact Nat.succ_pos _ | focus (simp; done) | focus (simp; omega) | decide +kernel); (first | exact trivial | exact rfl | exact .inl rfl | exact .inr rfl | focus ((repeat (first | exact trivial | (refine ⟨Stay.op false tok rfl rfl rfl ?_ (fun t ht => by cases ht; rfl), ?_⟩; (first | exact True.intro | omega | exact Nat.succ_pos _ | focus (simp; done) | focus (simp; omega) | decide +kernel)) | (refine ⟨Stay.op true tok rfl rfl rfl ?_ (fun t ht => by cases ht; rfl), ?_⟩; (first | exact True.intro | omega | exact Nat.succ_pos _ | focus (simp; done) | focus (simp; omega) | decide +kernel)) | refine ⟨Stay.skip rfl rfl (fun t ht => by cases ht; rfl), ?_⟩)); done))) | refine Rg.nil ?_ | refine Rg.skip rfl rfl rfl ?_ | refine Run.regR ?_ | refine Run.drwR mixed (by kernel_rfl) rfl ?_ | refine Run.condT rfl ?_ | refine Run.condF rfl ?_ | (refine Run.condB rfl (fun hc => ?_) (fun hc => ?_) <;> ((try simp only [cs] at hc); (first | ((exfalso; omega); done) | ((exact absurd hc he); done) | skip))) | ((fail_if_success (refine Rg.lit true rfl ?_)); (fail_if_success (refine Rg.lit false rfl ?_)); refine Rg.guard rfl (fun hc => ?_) (fun hc => ?_) <;> ((try simp only [cs] at hc); (first | ((exfalso; omega); done) | ((exact absurd hc he); done) | skip))))
      refine Run.freeze (i := 2) rfl rfl ?_
      refine Run.weak (i := 1) ⟨53, 1, m, rows eW (errWs at' (i + 1) m), false, false⟩ rfl rfl rfl (Nat.le_refl _) rfl (fun k hk => WkL_set eW (errWs at' i m) _ (i := i) (fun k hk hki => by rw [errWs_at _ _ hk, errWs_at _ _ hk]; split <;> split <;> first | rfl | omega) (fun k hki => by
        have hb : Nat.beq k (0 + i) = false := by
          cases hb : Nat.beq k (0 + i) with
          | false => rfl
          | true => exact absurd (by have := Nat.eq_of_beq_eq_true hb; omega) hki
        dsimp only; simp only [hb, cond_false]) (by
        have hb : Nat.beq i (0 + i) = true := by rw [Nat.zero_add]; exact Nat.beq_refl i
        rw [errWs_at _ _ hlt, if_pos (Nat.lt_succ_self _)]; unfold errW; rw [if_neg he]
        have hb2 : Nat.beq (0 + i) (0 + i) = true := Nat.beq_refl _
        dsimp only; simp only [hb, hb2, cond_true]
        exact (show WkL _ [_] [_] from ⟨.cv (by (repeat (first | exact trivial | exact .refl _ | exact .rowNil | refine Cv.slcL rfl rfl rfl rfl rfl (fun _ => rfl) ?_ | refine Cv.fzL rfl (fun _ => rfl) ?_ | refine Cv.agg' ?_ | refine ⟨?_, ?_⟩))), trivial⟩)) hk) ?_
      exact backR [0, 1] (i + 1) _ _ hlt (by omega) rfl ⟨⟨_, rfl, rfl, rfl, rfl, rfl, fun k hk => .ofEq rfl rfl⟩, ⟨_, rfl, rfl, rfl, rfl, rfl, fun k hk => .ofEq rfl rfl⟩, trivial⟩ ⟨.cl rfl, .cl rfl, .cl rfl, .ptrN rfl rfl, .slcN rfl rfl rfl, .cl rfl, trivial⟩
  · obtain rfl : i = m := by omega
    have hck := watchCheck_ (onePg 3 fuel) (errWs at' i i) (by rw [errWs_len]; omega) (errWs_ok at' i)
    have hL := errWs_len at' i i
    unfold watchWhy at hck
    rw [hL, one_flowF] at hck
    have hy := errWs_why at' fuel i
    generalize errWs at' i i = L at hck hL hy ⊢
    by_cases hm : 8 < i
    · rw [if_pos hm] at hck
      repeat' (first | refine Run.ctl rfl ?_ | (refine Rg.op false tok rfl rfl rfl rfl ?_ ?_ ?_; (first | exact True.intro | omega | exact Nat.succ_pos _ | focus (simp; done) | focus (simp; omega) | decide +kernel); (first | exact trivial | exact rfl | exact .inl rfl | exact .inr rfl | focus ((repeat (first | exact trivial | (refine ⟨Stay.op false tok rfl rfl rfl ?_ (fun t ht => by cases ht; rfl), ?_⟩; (first | exact True.intro | omega | exact Nat.succ_pos _ | focus (simp; done) | focus (simp; omega) | decide +kernel)) | (refine ⟨Stay.op true tok rfl rfl rfl ?_ (fun t ht => by cases ht; rfl), ?_⟩; (first | exact True.intro | omega | exact Nat.succ_pos _ | focus (simp; done) | focus (simp; omega) | decide +kernel)) | refine ⟨Stay.skip rfl rfl (fun t ht => by cases ht; rfl), ?_⟩)); done))) | refine Rg.call (awake14_) rfl rfl rfl rfl rfl ⟨trivial, rfl⟩ ?_ | refine Rg.lend (hck) rfl rfl rfl rfl rfl rfl ⟨⟨.refl _, .row rfl rfl rfl (by dsimp only; omega) hL.symm (fun _ => rfl) (fun j hj => by rw [Nat.zero_add]), trivial⟩, rfl⟩ ?_ | (refine Rg.op true tok rfl rfl rfl rfl ?_ ?_ ?_; (first | exact True.intro | omega | exact Nat.succ_pos _ | focus (simp; done) | focus (simp; omega) | decide +kernel); (first | exact trivial | exact rfl | exact .inl rfl | exact .inr rfl | focus ((repeat (first | exact trivial | (refine ⟨Stay.op false tok rfl rfl rfl ?_ (fun t ht => by cases ht; rfl), ?_⟩; (first | exact True.intro | omega | exact Nat.succ_pos _ | focus (simp; done) | focus (simp; omega) | decide +kernel)) | (refine ⟨Stay.op true tok rfl rfl rfl ?_ (fun t ht => by cases ht; rfl), ?_⟩; (first | exact True.intro | omega | exact Nat.succ_pos _ | focus (simp; done) | focus (simp; omega) | decide +kernel)) | refine ⟨Stay.skip rfl rfl (fun t ht => by cases ht; rfl), ?_⟩)); done))) | refine Rg.nil ?_ | refine Rg.skip rfl rfl rfl ?_ | refine Run.regR ?_ | refine Run.drwR mixed (by kernel_rfl) rfl ?_ | refine Run.condT rfl ?_ | refine Run.condF rfl ?_ | (refine Run.condB rfl (fun hc => ?_) (fun hc => ?_) <;> ((try simp only [cs] at hc); (first | ((exfalso; omega); done) | skip))) | ((fail_if_success (refine Rg.lit true rfl ?_)); (fail_if_success (refine Rg.lit false rfl ?_)); refine Rg.guard rfl (fun hc => ?_) (fun hc => ?_) <;> ((try simp only [cs] at hc); (first | ((exfalso; omega); done) | skip))))
      all_goals ((first | refine Run.ret tok Try.func6 rfl ?_ | refine Run.fall tok Try.func6 rfl ?_); exact .refl _)
    rw [if_neg hm] at hck
    by_cases hf : fuel < 1 ∨ 256 < fuel
    · rw [if_pos hf, if_pos (by decide)] at hck
      repeat' (first | refine Run.ctl rfl ?_ | (refine Rg.op false tok rfl rfl rfl rfl ?_ ?_ ?_; (first | exact True.intro | omega | exact Nat.succ_pos _ | focus (simp; done) | focus (simp; omega) | decide +kernel); (first | exact trivial | exact rfl | exact .inl rfl | exact .inr rfl | focus ((repeat (first | exact trivial | (refine ⟨Stay.op false tok rfl rfl rfl ?_ (fun t ht => by cases ht; rfl), ?_⟩; (first | exact True.intro | omega | exact Nat.succ_pos _ | focus (simp; done) | focus (simp; omega) | decide +kernel)) | (refine ⟨Stay.op true tok rfl rfl rfl ?_ (fun t ht => by cases ht; rfl), ?_⟩; (first | exact True.intro | omega | exact Nat.succ_pos _ | focus (simp; done) | focus (simp; omega) | decide +kernel)) | refine ⟨Stay.skip rfl rfl (fun t ht => by cases ht; rfl), ?_⟩)); done))) | refine Rg.call (awake14_) rfl rfl rfl rfl rfl ⟨trivial, rfl⟩ ?_ | refine Rg.lend (hck) rfl rfl rfl rfl rfl rfl ⟨⟨.refl _, .row rfl rfl rfl (by dsimp only; omega) hL.symm (fun _ => rfl) (fun j hj => by rw [Nat.zero_add]), trivial⟩, rfl⟩ ?_ | (refine Rg.op true tok rfl rfl rfl rfl ?_ ?_ ?_; (first | exact True.intro | omega | exact Nat.succ_pos _ | focus (simp; done) | focus (simp; omega) | decide +kernel); (first | exact trivial | exact rfl | exact .inl rfl | exact .inr rfl | focus ((repeat (first | exact trivial | (refine ⟨Stay.op false tok rfl rfl rfl ?_ (fun t ht => by cases ht; rfl), ?_⟩; (first | exact True.intro | omega | exact Nat.succ_pos _ | focus (simp; done) | focus (simp; omega) | decide +kernel)) | (refine ⟨Stay.op true tok rfl rfl rfl ?_ (fun t ht => by cases ht; rfl), ?_⟩; (first | exact True.intro | omega | exact Nat.succ_pos _ | focus (simp; done) | focus (simp; omega) | decide +kernel)) | refine ⟨Stay.skip rfl rfl (fun t ht => by cases ht; rfl), ?_⟩)); done))) | refine Rg.nil ?_ | refine Rg.skip rfl rfl rfl ?_ | refine Run.regR ?_ | refine Run.drwR mixed (by kernel_rfl) rfl ?_ | refine Run.condT rfl ?_ | refine Run.condF rfl ?_ | (refine Run.condB rfl (fun hc => ?_) (fun hc => ?_) <;> ((try simp only [cs] at hc); (first | ((exfalso; omega); done) | skip))) | ((fail_if_success (refine Rg.lit true rfl ?_)); (fail_if_success (refine Rg.lit false rfl ?_)); refine Rg.guard rfl (fun hc => ?_) (fun hc => ?_) <;> ((try simp only [cs] at hc); (first | ((exfalso; omega); done) | skip))))
      all_goals ((first | refine Run.ret tok Try.func6 rfl ?_ | refine Run.fall tok Try.func6 rfl ?_); exact .refl _)
    rw [if_neg hf, if_neg (by decide), hy hf] at hck
    by_cases ha : 0 ≤ at' ∧ at' < i
    · rw [if_pos ha] at hck
      repeat' (first | refine Run.ctl rfl ?_ | (refine Rg.op false tok rfl rfl rfl rfl ?_ ?_ ?_; (first | exact True.intro | omega | exact Nat.succ_pos _ | focus (simp; done) | focus (simp; omega) | decide +kernel); (first | exact trivial | exact rfl | exact .inl rfl | exact .inr rfl | focus ((repeat (first | exact trivial | (refine ⟨Stay.op false tok rfl rfl rfl ?_ (fun t ht => by cases ht; rfl), ?_⟩; (first | exact True.intro | omega | exact Nat.succ_pos _ | focus (simp; done) | focus (simp; omega) | decide +kernel)) | (refine ⟨Stay.op true tok rfl rfl rfl ?_ (fun t ht => by cases ht; rfl), ?_⟩; (first | exact True.intro | omega | exact Nat.succ_pos _ | focus (simp; done) | focus (simp; omega) | decide +kernel)) | refine ⟨Stay.skip rfl rfl (fun t ht => by cases ht; rfl), ?_⟩)); done))) | refine Rg.call (awake14_) rfl rfl rfl rfl rfl ⟨trivial, rfl⟩ ?_ | refine Rg.lend (hck) rfl rfl rfl rfl rfl rfl ⟨⟨.refl _, .row rfl rfl rfl (by dsimp only; omega) hL.symm (fun _ => rfl) (fun j hj => by rw [Nat.zero_add]), trivial⟩, rfl⟩ ?_ | (refine Rg.op true tok rfl rfl rfl rfl ?_ ?_ ?_; (first | exact True.intro | omega | exact Nat.succ_pos _ | focus (simp; done) | focus (simp; omega) | decide +kernel); (first | exact trivial | exact rfl | exact .inl rfl | exact .inr rfl | focus ((repeat (first | exact trivial | (refine ⟨Stay.op false tok rfl rfl rfl ?_ (fun t ht => by cases ht; rfl), ?_⟩; (first | exact True.intro | omega | exact Nat.succ_pos _ | focus (simp; done) | focus (simp; omega) | decide +kernel)) | (refine ⟨Stay.op true tok rfl rfl rfl ?_ (fun t ht => by cases ht; rfl), ?_⟩; (first | exact True.intro | omega | exact Nat.succ_pos _ | focus (simp; done) | focus (simp; omega) | decide +kernel)) | refine ⟨Stay.skip rfl rfl (fun t ht => by cases ht; rfl), ?_⟩)); done))) | refine Rg.nil ?_ | refine Rg.skip rfl rfl rfl ?_ | refine Run.regR ?_ | refine Run.drwR mixed (by kernel_rfl) rfl ?_ | refine Run.condT rfl ?_ | refine Run.condF rfl ?_ | (refine Run.condB rfl (fun hc => ?_) (fun hc => ?_) <;> ((try simp only [cs] at hc); (first | ((exfalso; omega); done) | skip))) | ((fail_if_success (refine Rg.lit true rfl ?_)); (fail_if_success (refine Rg.lit false rfl ?_)); refine Rg.guard rfl (fun hc => ?_) (fun hc => ?_) <;> ((try simp only [cs] at hc); (first | ((exfalso; omega); done) | skip))))
      all_goals ((first | refine Run.ret tok Try.func6 rfl ?_ | refine Run.fall tok Try.func6 rfl ?_); exact .refl _)
    · rw [if_neg ha] at hck
      repeat' (first | refine Run.ctl rfl ?_ | (refine Rg.op false tok rfl rfl rfl rfl ?_ ?_ ?_; (first | exact True.intro | omega | exact Nat.succ_pos _ | focus (simp; done) | focus (simp; omega) | decide +kernel); (first | exact trivial | exact rfl | exact .inl rfl | exact .inr rfl | focus ((repeat (first | exact trivial | (refine ⟨Stay.op false tok rfl rfl rfl ?_ (fun t ht => by cases ht; rfl), ?_⟩; (first | exact True.intro | omega | exact Nat.succ_pos _ | focus (simp; done) | focus (simp; omega) | decide +kernel)) | (refine ⟨Stay.op true tok rfl rfl rfl ?_ (fun t ht => by cases ht; rfl), ?_⟩; (first | exact True.intro | omega | exact Nat.succ_pos _ | focus (simp; done) | focus (simp; omega) | decide +kernel)) | refine ⟨Stay.skip rfl rfl (fun t ht => by cases ht; rfl), ?_⟩)); done))) | refine Rg.call (awake14_) rfl rfl rfl rfl rfl ⟨trivial, rfl⟩ ?_ | refine Rg.lend (hck) rfl rfl rfl rfl rfl rfl ⟨⟨.refl _, .row rfl rfl rfl (by dsimp only; omega) hL.symm (fun _ => rfl) (fun j hj => by rw [Nat.zero_add]), trivial⟩, rfl⟩ ?_ | (refine Rg.op true tok rfl rfl rfl rfl ?_ ?_ ?_; (first | exact True.intro | omega | exact Nat.succ_pos _ | focus (simp; done) | focus (simp; omega) | decide +kernel); (first | exact trivial | exact rfl | exact .inl rfl | exact .inr rfl | focus ((repeat (first | exact trivial | (refine ⟨Stay.op false tok rfl rfl rfl ?_ (fun t ht => by cases ht; rfl), ?_⟩; (first | exact True.intro | omega | exact Nat.succ_pos _ | focus (simp; done) | focus (simp; omega) | decide +kernel)) | (refine ⟨Stay.op true tok rfl rfl rfl ?_ (fun t ht => by cases ht; rfl), ?_⟩; (first | exact True.intro | omega | exact Nat.succ_pos _ | focus (simp; done) | focus (simp; omega) | decide +kernel)) | refine ⟨Stay.skip rfl rfl (fun t ht => by cases ht; rfl), ?_⟩)); done))) | refine Rg.nil ?_ | refine Rg.skip rfl rfl rfl ?_ | refine Run.regR ?_ | refine Run.drwR mixed (by kernel_rfl) rfl ?_ | refine Run.condT rfl ?_ | refine Run.condF rfl ?_ | (refine Run.condB rfl (fun hc => ?_) (fun hc => ?_) <;> ((try simp only [cs] at hc); (first | ((exfalso; omega); done) | skip))) | ((fail_if_success (refine Rg.lit true rfl ?_)); (fail_if_success (refine Rg.lit false rfl ?_)); refine Rg.guard rfl (fun hc => ?_) (fun hc => ?_) <;> ((try simp only [cs] at hc); (first | ((exfalso; omega); done) | skip))))
      all_goals ((first | refine Run.ret tok Try.func6 rfl ?_ | refine Run.fall tok Try.func6 rfl ?_); exact .refl _)
end Go.Proofs.Ytlimecfjpfaljaa.W
end
section
/- Walks: each watch by itself (chapter 14). -/
set_option linter.unusedVariables false
set_option linter.unusedSimpArgs false
set_option linter.unusedSectionVars false
set_option pp.maxSteps 40000
set_option maxHeartbeats 8000000
namespace Go.Proofs.Ytlimecfjpfaljaa.W
open Go Go.Sy

theorem Rn.agg' {r : Nat → Nat} {N : Nat} {cs ds : List PV} (h : RnL r N cs ds) : Rn r N (.agg cs) (.agg ds) := .agg h.spec.1 h.spec.2
def oneR (x : Int) : St := [some ⟨61, 2, 1, fun _ => [i64 0, .atom (.slice none 0 0)], false, false⟩, some ⟨3, 1, 1, fun _ => [i64 x], false, false⟩, some ⟨47, 4, 1, fun _ => [.slc 1 0 1, i64 0, i64 (-1), bl false], false, false⟩, some ⟨26, 4, 1, fun _ => [.slc 0 0 1, .slc 2 0 1, .atom (.slice none 0 0), i64 5], false, false⟩]
theorem one14O_ : Own Try.prog 16 [] [] (.agg [.slc 0 0 1, .slc 2 0 1, .atom (.slice none 0 0), i64 5]) (oneR 3) := by
  refine Spec.of_run (fn := Try.f16) Try.func16 rfl rfl (by kernel_rfl) ?_
  repeat' (first | refine Run.ctl rfl ?_ | (refine Rg.op false tok rfl rfl rfl rfl ?_ ?_ ?_; (first | exact True.intro | omega | exact Nat.succ_pos _ | focus (simp; done) | focus (simp; omega) | decide +kernel); (first | exact trivial | exact rfl | exact .inl rfl | exact .inr rfl | focus ((repeat (first | exact trivial | (refine ⟨Stay.op false tok rfl rfl rfl ?_ (fun t ht => by cases ht; rfl), ?_⟩; (first | exact True.intro | omega | exact Nat.succ_pos _ | focus (simp; done) | focus (simp; omega) | decide +kernel)) | (refine ⟨Stay.op true tok rfl rfl rfl ?_ (fun t ht => by cases ht; rfl), ?_⟩; (first | exact True.intro | omega | exact Nat.succ_pos _ | focus (simp; done) | focus (simp; omega) | decide +kernel)) | refine ⟨Stay.skip rfl rfl (fun t ht => by cases ht; rfl), ?_⟩)); done))) | (refine Rg.op true tok rfl rfl rfl rfl ?_ ?_ ?_; (first | exact True.intro | omega | exact Nat.succ_pos _ | focus (simp; done) | focus (simp; omega) | decide +kernel); (first | exact trivial | exact rfl | exact .inl rfl | exact .inr rfl | focus ((repeat (first | exact trivial | (refine ⟨Stay.op false tok rfl rfl rfl ?_ (fun t ht => by cases ht; rfl), ?_⟩; (first | exact True.intro | omega | exact Nat.succ_pos _ | focus (simp; done) | focus (simp; omega) | decide +kernel)) | (refine ⟨Stay.op true tok rfl rfl rfl ?_ (fun t ht => by cases ht; rfl), ?_⟩; (first | exact True.intro | omega | exact Nat.succ_pos _ | focus (simp; done) | focus (simp; omega) | decide +kernel)) | refine ⟨Stay.skip rfl rfl (fun t ht => by cases ht; rfl), ?_⟩)); done))) | refine Rg.nil ?_ | refine Rg.skip rfl rfl rfl ?_ | refine Run.regR ?_ | refine Run.drwR mixed (by kernel_rfl) rfl ?_ | refine Run.condT rfl ?_ | refine Run.condF rfl ?_ | (refine Run.condB rfl (fun hc => ?_) (fun hc => ?_) <;> ((try simp only [cs] at hc))) | ((fail_if_success (refine Rg.lit true rfl ?_)); (fail_if_success (refine Rg.lit false rfl ?_)); refine Rg.guard rfl (fun hc => ?_) (fun hc => ?_) <;> ((try simp only [cs] at hc))))
  refine Run.renumL [1, 2, 3, 0] (oneR 3) [(0, .ptr 3 0 0)] rfl rfl rfl rfl ⟨⟨_, rfl, rfl, rfl, rfl, rfl, fun k hk => by (obtain rfl : k = 0 := Nat.lt_one_iff.1 hk); exact .ofEq rfl rfl⟩, ⟨_, rfl, rfl, rfl, rfl, rfl, fun k hk => by (obtain rfl : k = 0 := Nat.lt_one_iff.1 hk); exact .ofEq rfl rfl⟩, ⟨_, rfl, rfl, rfl, rfl, rfl, fun k hk => by (obtain rfl : k = 0 := Nat.lt_one_iff.1 hk); exact ⟨.slcN rfl rfl rfl, .cl rfl, .cl rfl, .cl rfl, trivial⟩⟩, ⟨_, rfl, rfl, rfl, rfl, rfl, fun k hk => by (obtain rfl : k = 0 := Nat.lt_one_iff.1 hk); exact ⟨.slcN rfl rfl rfl, .slcN rfl rfl rfl, .cl rfl, .cl rfl, trivial⟩⟩, trivial⟩ ⟨.ptrN rfl rfl, trivial⟩ ?_
  (first | refine Run.ret tok Try.func16 rfl ?_ | refine Run.fall tok Try.func16 rfl ?_)
  exact ⟨rfl, rfl⟩
def watchOf (v : Int) : List Instr := [⟨31, 0⟩, ⟨1, v⟩, ⟨10, 0⟩]
def wantFrom (x : Int) : List Int → Nat → List Int
  | [], _ => []
  | v :: l, k => if v = x then (k : Int) :: wantFrom x l (k + 1) else wantFrom x l (k + 1)
theorem wantFrom_at (x : Int) {l : List Int} {i : Nat} (hi : i < l.length) : wantFrom x (l.drop i) i = if l.getD i default = x then (i : Int) :: wantFrom x (l.drop (i + 1)) (i + 1) else wantFrom x (l.drop (i + 1)) (i + 1) := by
  rw [List.drop_eq_getElem_cons hi]
  have : l.getD i default = l[i] := by simp [hi]
  rw [this]
  rfl
theorem wantFrom_len (x : Int) : ∀ (l : List Int) (k : Nat), (wantFrom x l k).length ≤ l.length
  | [], _ => Nat.le_refl _
  | v :: l, k => by
    have := wantFrom_len x l (k + 1)
    unfold wantFrom
    split
    · simp; omega
    · simp; omega
theorem wrap_zero {x v : Int} (hx : R64 x) (hv : R64 v) : wrap (x - v) = 0 ↔ v = x := by
  obtain ⟨h1, h2⟩ := hx
  obtain ⟨h3, h4⟩ := hv
  constructor
  · intro h
    unfold wrap IntKind.wrap at h
    simp [IntKind.signed, IntKind.bits] at h
    omega
  · rintro rfl
    rw [Int.sub_self]; rfl
theorem each_why (x v : Int) : exWhy (onePg x 5) (watchOf v) = 0 := by kernel_rfl
theorem each_value (x v : Int) : exValue (onePg x 5) (oneW x) (watchOf v) = (wrap (x - v), 0) := by
  unfold exValue
  rw [each_why, if_neg (by decide), if_neg (by rw [show worldOk (onePg x 5) (oneW x) = true by kernel_rfl]; simp)]
  rfl
theorem each_bad {x : Int} (hx : R64 x) : ∀ (l : List Int) (k : Nat), (∀ v ∈ l, R64 v) → badFrom (onePg x 5) (oneW x) (l.map watchOf) k = wantFrom x l k
  | [], _, _ => rfl
  | v :: l, k, h => by
    have h1 := wrap_zero hx (h v (by simp))
    have h2 := each_bad hx l (k + 1) (fun v hv => h v (by simp [hv]))
    rw [List.map_cons]
    unfold badFrom wantFrom
    rw [each_value, h2]
    by_cases he : v = x
    · rw [if_pos he, if_pos (by rw [h1.2 he])]
    · rw [if_neg he, if_neg (fun e => he (h1.1 (Prod.mk.inj e).1))]
theorem each_check (x : Int) (l : List Int) : watchWhy (onePg x 5) (l.map watchOf) = if 8 < l.length then 3 else 0 := by
  unfold watchWhy
  rw [List.length_map, one_flow, if_neg (show ¬((0 : Int) ≠ 0) by decide), firstWhy_zero.2 (fun y hy => by
    obtain ⟨v, _, rfl⟩ := List.mem_map.1 hy
    exact each_why x v)]
theorem each_ok {l : List Int} (h : ∀ v ∈ l, R64 v) : okW (l.map watchOf) := fun y hy => by
  obtain ⟨v, hv, rfl⟩ := List.mem_map.1 hy
  have := h v hv
  exact ⟨by simp [watchOf], fun i hi => by
    simp [watchOf] at hi
    rcases hi with rfl | rfl | rfl
    · exact ⟨by decide, by decide⟩
    · exact this
    · exact ⟨by decide, by decide⟩⟩
theorem WkL_tk {α : Type} [Inhabited α] (enc : α → List PV) (l : List α) {st : St} {i : Nat} (hi : i < l.length) {a b : Nat → List PV} (ha : ∀ k, a k = rows enc (l.take i) (0 + k)) (hb : WkL st (b 0) (enc (l.getD i default))) : ∀ k, k < i + 1 → WkL st (appEl i a b k) (rows enc (l.take (i + 1)) k) := by
  intro k hk
  by_cases h : k < i
  · rw [appEl_left h, ha, Nat.zero_add]
    refine .ofEq ?_
    unfold rows
    congr 1
    simp [List.getElem?_take, h, hk]
  · obtain rfl : k = i := by omega
    rw [appEl_right (Nat.le_refl _), Nat.sub_self]
    have : rows enc (l.take (k + 1)) k = enc (l.getD k default) := by
      unfold rows
      congr 1
      simp [List.getElem?_take]
    rw [this]
    exact hb
theorem watchEach_ (values : List Int) (x : Int) (hv : ∀ v ∈ values, R64 v) (hx : R64 x) : Pure Try.prog 4 [sl 1 eInt values, i64 x] (bl true) := by
  by_cases h30 : 30 < values.length
  · refine Pure.of_spec (Spec.of_run (fn := Try.f4) Try.func4 rfl rfl (by kernel_rfl) ?_) (by first | assumption | rfl | (split <;> rfl) | (split <;> split <;> rfl))
    repeat' (first | refine Run.ctl rfl ?_ | (refine Rg.op false tok rfl rfl rfl rfl ?_ ?_ ?_; (first | exact True.intro | omega | exact Nat.succ_pos _ | focus (simp; done) | focus (simp; omega) | decide +kernel); (first | exact trivial | exact rfl | exact .inl rfl | exact .inr rfl | focus ((repeat (first | exact trivial | (refine ⟨Stay.op false tok rfl rfl rfl ?_ (fun t ht => by cases ht; rfl), ?_⟩; (first | exact True.intro | omega | exact Nat.succ_pos _ | focus (simp; done) | focus (simp; omega) | decide +kernel)) | (refine ⟨Stay.op true tok rfl rfl rfl ?_ (fun t ht => by cases ht; rfl), ?_⟩; (first | exact True.intro | omega | exact Nat.succ_pos _ | focus (simp; done) | focus (simp; omega) | decide +kernel)) | refine ⟨Stay.skip rfl rfl (fun t ht => by cases ht; rfl), ?_⟩)); done))) | refine Rg.call (awake14_) rfl rfl rfl rfl rfl ⟨trivial, rfl⟩ ?_ | (refine Rg.op true tok rfl rfl rfl rfl ?_ ?_ ?_; (first | exact True.intro | omega | exact Nat.succ_pos _ | focus (simp; done) | focus (simp; omega) | decide +kernel); (first | exact trivial | exact rfl | exact .inl rfl | exact .inr rfl | focus ((repeat (first | exact trivial | (refine ⟨Stay.op false tok rfl rfl rfl ?_ (fun t ht => by cases ht; rfl), ?_⟩; (first | exact True.intro | omega | exact Nat.succ_pos _ | focus (simp; done) | focus (simp; omega) | decide +kernel)) | (refine ⟨Stay.op true tok rfl rfl rfl ?_ (fun t ht => by cases ht; rfl), ?_⟩; (first | exact True.intro | omega | exact Nat.succ_pos _ | focus (simp; done) | focus (simp; omega) | decide +kernel)) | refine ⟨Stay.skip rfl rfl (fun t ht => by cases ht; rfl), ?_⟩)); done))) | refine Rg.nil ?_ | refine Rg.skip rfl rfl rfl ?_ | refine Run.regR ?_ | refine Run.drwR mixed (by kernel_rfl) rfl ?_ | refine Run.condT rfl ?_ | refine Run.condF rfl ?_ | (refine Run.condB rfl (fun hc => ?_) (fun hc => ?_) <;> ((try simp only [cs] at hc); (first | ((exfalso; omega); done) | skip))) | ((fail_if_success (refine Rg.lit true rfl ?_)); (fail_if_success (refine Rg.lit false rfl ?_)); refine Rg.guard rfl (fun hc => ?_) (fun hc => ?_) <;> ((try simp only [cs] at hc); (first | ((exfalso; omega); done) | skip))))
    (first | refine Run.ret tok Try.func4 rfl ?_ | refine Run.fall tok Try.func4 rfl ?_)
    exact .refl _
  have hs := start_ (onePg x 5) (one_flow x)
  rw [one_start] at hs
  refine Pure.of_spec (Spec.of_run (fn := Try.f4) Try.func4 rfl rfl (by kernel_rfl) ?_) (by first | assumption | rfl | (split <;> rfl) | (split <;> split <;> rfl))
  repeat' (first | (refine Run.renumL [0, 1, 2, 4] (oneR x) [(0, sl 1 eInt values), (1, i64 x), (5, .ptr 3 0 0)] rfl rfl rfl rfl ⟨⟨_, rfl, rfl, rfl, rfl, rfl, fun k hk => by (obtain rfl : k = 0 := Nat.lt_one_iff.1 hk); exact .ofEq rfl rfl⟩, ⟨_, rfl, rfl, rfl, rfl, rfl, fun k hk => by (obtain rfl : k = 0 := Nat.lt_one_iff.1 hk); exact .ofEq rfl rfl⟩, ⟨_, rfl, rfl, rfl, rfl, rfl, fun k hk => by (obtain rfl : k = 0 := Nat.lt_one_iff.1 hk); exact ⟨.slcN rfl rfl rfl, .cl rfl, .cl rfl, .cl rfl, trivial⟩⟩, ⟨_, rfl, rfl, rfl, rfl, rfl, fun k hk => by (obtain rfl : k = 0 := Nat.lt_one_iff.1 hk); exact ⟨.slcN rfl rfl rfl, .slcN rfl rfl rfl, .cl rfl, .cl rfl, trivial⟩⟩, trivial⟩ ⟨.cl rfl, .cl rfl, .ptrN rfl rfl, trivial⟩ ?_; refine Run.freeze (i := 0) rfl rfl ?_; refine Run.freeze (i := 1) rfl rfl ?_; refine Run.freeze (i := 2) rfl rfl ?_; refine Run.weak (i := 3) ⟨26, 4, 1, fun _ => ePg (onePg x 5), false, false⟩ rfl rfl rfl (Nat.le_refl _) rfl (fun k hk => ⟨.cv (by focus ((repeat (first | exact trivial | exact .refl _ | exact .rowNil | refine Cv.slcL rfl rfl rfl rfl rfl (fun _ => rfl) ?_ | refine Cv.fzL rfl (fun _ => rfl) ?_ | refine Cv.agg' ?_ | refine ⟨?_, ?_⟩)); done)), .cv (by focus ((repeat (first | exact trivial | exact .refl _ | exact .rowNil | refine Cv.slcL rfl rfl rfl rfl rfl (fun _ => rfl) ?_ | refine Cv.fzL rfl (fun _ => rfl) ?_ | refine Cv.agg' ?_ | refine ⟨?_, ?_⟩)); done)), .cv .nil, .refl _, trivial⟩) ?_; refine Run.renumL [3] [pbox (onePg x 5)] [(0, sl 1 eInt values), (1, i64 x), (5, .ptr 0 0 0)] rfl rfl rfl rfl ⟨⟨_, rfl, rfl, rfl, rfl, rfl, fun k hk => .ofEq rfl rfl⟩, trivial⟩ ⟨.cl rfl, .cl rfl, .ptrN rfl rfl, trivial⟩ ?_) | refine Run.ctl rfl ?_ | (refine Rg.op false tok rfl rfl rfl rfl ?_ ?_ ?_; (first | exact True.intro | omega | exact Nat.succ_pos _ | focus (simp; done) | focus (simp; omega) | decide +kernel); (first | exact trivial | exact rfl | exact .inl rfl | exact .inr rfl | focus ((repeat (first | exact trivial | (refine ⟨Stay.op false tok rfl rfl rfl ?_ (fun t ht => by cases ht; rfl), ?_⟩; (first | exact True.intro | omega | exact Nat.succ_pos _ | focus (simp; done) | focus (simp; omega) | decide +kernel)) | (refine ⟨Stay.op true tok rfl rfl rfl ?_ (fun t ht => by cases ht; rfl), ?_⟩; (first | exact True.intro | omega | exact Nat.succ_pos _ | focus (simp; done) | focus (simp; omega) | decide +kernel)) | refine ⟨Stay.skip rfl rfl (fun t ht => by cases ht; rfl), ?_⟩)); done))) | (refine Rg.own one14O_ [] rfl rfl rfl rfl rfl rfl trivial trivial rfl rfl trivial ?_) | refine Rg.call (hs) rfl rfl rfl rfl rfl ⟨⟨.refl _, trivial⟩, rfl⟩ ?_ | (refine Rg.op true tok rfl rfl rfl rfl ?_ ?_ ?_; (first | exact True.intro | omega | exact Nat.succ_pos _ | focus (simp; done) | focus (simp; omega) | decide +kernel); (first | exact trivial | exact rfl | exact .inl rfl | exact .inr rfl | focus ((repeat (first | exact trivial | (refine ⟨Stay.op false tok rfl rfl rfl ?_ (fun t ht => by cases ht; rfl), ?_⟩; (first | exact True.intro | omega | exact Nat.succ_pos _ | focus (simp; done) | focus (simp; omega) | decide +kernel)) | (refine ⟨Stay.op true tok rfl rfl rfl ?_ (fun t ht => by cases ht; rfl), ?_⟩; (first | exact True.intro | omega | exact Nat.succ_pos _ | focus (simp; done) | focus (simp; omega) | decide +kernel)) | refine ⟨Stay.skip rfl rfl (fun t ht => by cases ht; rfl), ?_⟩)); done))) | refine Rg.nil ?_ | refine Rg.skip rfl rfl rfl ?_ | refine Run.regR ?_ | refine Run.drwR mixed (by kernel_rfl) rfl ?_ | refine Run.condT rfl ?_ | refine Run.condF rfl ?_ | (refine Run.condB rfl (fun hc => ?_) (fun hc => ?_) <;> ((try simp only [cs] at hc); (first | ((exfalso; omega); done) | skip))) | ((fail_if_success (refine Rg.lit true rfl ?_)); (fail_if_success (refine Rg.lit false rfl ?_)); refine Rg.guard rfl (fun hc => ?_) (fun hc => ?_) <;> ((try simp only [cs] at hc); (first | ((exfalso; omega); done) | skip))))
  refine Run.renumL [0, 1] [pbox (onePg x 5), wdbox (oneW x)] [(0, sl 1 eInt values), (1, i64 x), (5, .ptr 0 0 0), (6, .ptr 1 0 0), (8, .atom (.slice none 0 0)), (9, .atom (.slice none 0 0)), (10, i64 (0 : Nat))] rfl rfl rfl rfl ⟨⟨_, rfl, rfl, rfl, rfl, rfl, fun k hk => .ofEq rfl rfl⟩, ⟨_, rfl, rfl, rfl, rfl, rfl, fun k hk => .ofEq rfl rfl⟩, trivial⟩ ⟨.cl rfl, .cl rfl, .ptrN rfl rfl, .ptrN rfl rfl, .cl rfl, .cl rfl, .cl rfl, trivial⟩ ?_
  refine Run.nilRow 8 53 1 (rows eW []) rfl ?_
  refine Run.nilRow 9 3 1 (rows eInt []) rfl ?_
  generalize hB : wantFrom x values 0 = B
  refine Run.loopN (ι := Nat × List Int) (fun j => ([(0, sl 1 eInt values), (1, i64 x), (5, .ptr 0 0 0), (6, .ptr 1 0 0), (8, .slc 2 0 j.1), (9, .slc 3 0 j.2.length), (10, i64 j.1)], [pbox (onePg x 5), wdbox (oneW x), some ⟨53, 1, j.1, rows eW ((values.map watchOf).take j.1), false, false⟩, rowI j.2])) (fun j => j.1 ≤ values.length ∧ j.2 ++ wantFrom x (values.drop j.1) j.1 = B ∧ j.2.length ≤ j.1) (fun j => values.length - j.1) (0, []) ⟨rfl, rfl, rfl, rfl, rfl, rfl, rfl, trivial⟩ rfl ⟨by omega, hB, by simp⟩ ?_
  rintro ⟨i, out⟩ ⟨hi, hf, hol⟩ back backR
  dsimp only at hi hf hol ⊢
  by_cases hlt : i < values.length
  · rw [wantFrom_at x hlt] at hf
    by_cases he : values.getD i default = x
    · rw [if_pos he] at hf
      repeat' (first | refine Run.ctl rfl ?_ | (refine Rg.op false tok rfl rfl rfl rfl ?_ ?_ ?_; (first | exact True.intro | omega | exact Nat.succ_pos _ | focus (simp; done) | focus (simp; omega) | decide +kernel); (first | exact trivial | exact rfl | exact .inl rfl | exact .inr rfl | focus ((repeat (first | exact trivial | (refine ⟨Stay.op false tok rfl rfl rfl ?_ (fun t ht => by cases ht; rfl), ?_⟩; (first | exact True.intro | omega | exact Nat.succ_pos _ | focus (simp; done) | focus (simp; omega) | decide +kernel)) | (refine ⟨Stay.op true tok rfl rfl rfl ?_ (fun t ht => by cases ht; rfl), ?_⟩; (first | exact True.intro | omega | exact Nat.succ_pos _ | focus (simp; done) | focus (simp; omega) | decide +kernel)) | refine ⟨Stay.skip rfl rfl (fun t ht => by cases ht; rfl), ?_⟩)); done))) | (refine Rg.op true tok rfl rfl rfl rfl ?_ ?_ ?_; (first | exact True.intro | omega | exact Nat.succ_pos _ | focus (simp; done) | focus (simp; omega) | decide +kernel); (first | exact trivial | exact rfl | exact .inl rfl | exact .inr rfl | focus ((repeat (first | exact trivial | (refine ⟨Stay.op false tok rfl rfl rfl ?_ (fun t ht => by cases ht; rfl), ?_⟩; (first | exact True.intro | omega | exact Nat.succ_pos _ | focus (simp; done) | focus (simp; omega) | decide +kernel)) | (refine ⟨Stay.op true tok rfl rfl rfl ?_ (fun t ht => by cases ht; rfl), ?_⟩; (first | exact True.intro | omega | exact Nat.succ_pos _ | focus (simp; done) | focus (simp; omega) | decide +kernel)) | refine ⟨Stay.skip rfl rfl (fun t ht => by cases ht; rfl), ?_⟩)); done))) | refine Rg.nil ?_ | refine Rg.skip rfl rfl rfl ?_ | refine Run.regR ?_ | refine Run.drwR mixed (by kernel_rfl) rfl ?_ | refine Run.condT rfl ?_ | refine Run.condF rfl ?_ | (refine Run.condB rfl (fun hc => ?_) (fun hc => ?_) <;> ((try simp only [cs] at hc); (first | ((exfalso; omega); done) | ((exact absurd he hc); done) | skip))) | ((fail_if_success (refine Rg.lit true rfl ?_)); (fail_if_success (refine Rg.lit false rfl ?_)); refine Rg.guard rfl (fun hc => ?_) (fun hc => ?_) <;> ((try simp only [cs] at hc); (first | ((exfalso; omega); done) | ((exact absurd he hc); done) | skip))))
      refine Run.freeze (i := 4) rfl rfl ?_
      refine Run.weak (i := 6) ⟨53, 1, i + 1, rows eW ((values.map watchOf).take (i + 1)), false, false⟩ rfl rfl rfl (Nat.le_refl _) rfl (fun k hk => by
        dsimp only
        refine WkL_tk eW (values.map watchOf) (by simpa using hlt) (fun _ => rfl) ?_ k hk
        rw [getD_map _ _ hlt]
        refine (show WkL _ [_] [_] from ⟨.cv ?_, trivial⟩)
        (repeat (first | exact trivial | exact .refl _ | exact .rowNil | refine Cv.slcL rfl rfl rfl rfl rfl (fun _ => rfl) ?_ | refine Cv.fzL rfl (fun _ => rfl) ?_ | refine Cv.agg' ?_ | refine ⟨?_, ?_⟩))) ?_
      exact backR [0, 1, 6, 8] (i + 1, out ++ [(i : Int)]) _ _ ⟨hlt, by rw [List.append_assoc]; exact hf, by simp; omega⟩ (by dsimp only; omega) rfl ⟨⟨_, rfl, rfl, rfl, rfl, rfl, fun k hk => .ofEq rfl rfl⟩, ⟨_, rfl, rfl, rfl, rfl, rfl, fun k hk => .ofEq rfl rfl⟩, ⟨_, rfl, rfl, rfl, rfl, rfl, fun k hk => .ofEq rfl rfl⟩, ⟨_, rfl, rfl, rfl, by simp, rfl, fun k hk => .ofEq (by dsimp only at hk ⊢; exact rows_snoc eInt out _ rfl (fun k _ => by rw [Nat.zero_add]) rfl hk) rfl⟩, trivial⟩ ⟨.cl rfl, .cl rfl, .ptrN rfl rfl, .ptrN rfl rfl, .slcN rfl rfl rfl, .slcN rfl rfl (by simp), .cl rfl, trivial⟩
    · rw [if_neg he] at hf
      repeat' (first | refine Run.ctl rfl ?_ | (refine Rg.op false tok rfl rfl rfl rfl ?_ ?_ ?_; (first | exact True.intro | omega | exact Nat.succ_pos _ | focus (simp; done) | focus (simp; omega) | decide +kernel); (first | exact trivial | exact rfl | exact .inl rfl | exact .inr rfl | focus ((repeat (first | exact trivial | (refine ⟨Stay.op false tok rfl rfl rfl ?_ (fun t ht => by cases ht; rfl), ?_⟩; (first | exact True.intro | omega | exact Nat.succ_pos _ | focus (simp; done) | focus (simp; omega) | decide +kernel)) | (refine ⟨Stay.op true tok rfl rfl rfl ?_ (fun t ht => by cases ht; rfl), ?_⟩; (first | exact True.intro | omega | exact Nat.succ_pos _ | focus (simp; done) | focus (simp; omega) | decide +kernel)) | refine ⟨Stay.skip rfl rfl (fun t ht => by cases ht; rfl), ?_⟩)); done))) | (refine Rg.op true tok rfl rfl rfl rfl ?_ ?_ ?_; (first | exact True.intro | omega | exact Nat.succ_pos _ | focus (simp; done) | focus (simp; omega) | decide +kernel); (first | exact trivial | exact rfl | exact .inl rfl | exact .inr rfl | focus ((repeat (first | exact trivial | (refine ⟨Stay.op false tok rfl rfl rfl ?_ (fun t ht => by cases ht; rfl), ?_⟩; (first | exact True.intro | omega | exact Nat.succ_pos _ | focus (simp; done) | focus (simp; omega) | decide +kernel)) | (refine ⟨Stay.op true tok rfl rfl rfl ?_ (fun t ht => by cases ht; rfl), ?_⟩; (first | exact True.intro | omega | exact Nat.succ_pos _ | focus (simp; done) | focus (simp; omega) | decide +kernel)) | refine ⟨Stay.skip rfl rfl (fun t ht => by cases ht; rfl), ?_⟩)); done))) | refine Rg.nil ?_ | refine Rg.skip rfl rfl rfl ?_ | refine Run.regR ?_ | refine Run.drwR mixed (by kernel_rfl) rfl ?_ | refine Run.condT rfl ?_ | refine Run.condF rfl ?_ | (refine Run.condB rfl (fun hc => ?_) (fun hc => ?_) <;> ((try simp only [cs] at hc); (first | ((exfalso; omega); done) | ((exact absurd hc he); done) | skip))) | ((fail_if_success (refine Rg.lit true rfl ?_)); (fail_if_success (refine Rg.lit false rfl ?_)); refine Rg.guard rfl (fun hc => ?_) (fun hc => ?_) <;> ((try simp only [cs] at hc); (first | ((exfalso; omega); done) | ((exact absurd hc he); done) | skip))))
      refine Run.freeze (i := 4) rfl rfl ?_
      refine Run.weak (i := 6) ⟨53, 1, i + 1, rows eW ((values.map watchOf).take (i + 1)), false, false⟩ rfl rfl rfl (Nat.le_refl _) rfl (fun k hk => by
        dsimp only
        refine WkL_tk eW (values.map watchOf) (by simpa using hlt) (fun _ => rfl) ?_ k hk
        rw [getD_map _ _ hlt]
        refine (show WkL _ [_] [_] from ⟨.cv ?_, trivial⟩)
        (repeat (first | exact trivial | exact .refl _ | exact .rowNil | refine Cv.slcL rfl rfl rfl rfl rfl (fun _ => rfl) ?_ | refine Cv.fzL rfl (fun _ => rfl) ?_ | refine Cv.agg' ?_ | refine ⟨?_, ?_⟩))) ?_
      exact backR [0, 1, 6, 3] (i + 1, out) _ _ ⟨hlt, hf, by dsimp only; omega⟩ (by dsimp only; omega) rfl ⟨⟨_, rfl, rfl, rfl, rfl, rfl, fun k hk => .ofEq rfl rfl⟩, ⟨_, rfl, rfl, rfl, rfl, rfl, fun k hk => .ofEq rfl rfl⟩, ⟨_, rfl, rfl, rfl, rfl, rfl, fun k hk => .ofEq rfl rfl⟩, ⟨_, rfl, rfl, rfl, rfl, rfl, fun k hk => .ofEq rfl rfl⟩, trivial⟩ ⟨.cl rfl, .cl rfl, .ptrN rfl rfl, .ptrN rfl rfl, .slcN rfl rfl rfl, .slcN rfl rfl rfl, .cl rfl, trivial⟩
  · obtain rfl : i = values.length := by omega
    rw [List.drop_length] at hf
    unfold wantFrom at hf
    rw [List.append_nil] at hf
    subst hf
    have hok := each_ok hv
    have hck := watchCheck_ (onePg x 5) (values.map watchOf) (by simp; omega) hok
    rw [each_check] at hck
    have hbad := bad_ (onePg x 5) (oneW x) (values.map watchOf) (by simp; omega) hok (by simp [oneW]) (by simp [oneW])
    have hbi : badIn (onePg x 5) (oneW x) (values.map watchOf) = out := by
      unfold badIn; rw [each_bad hx values 0 hv]; exact hB
    rw [hbi] at hbad
    have hin := ints_ out out (by omega) (by omega)
    rw [decide_eq_true rfl] at hin
    rw [← List.length_map (f := watchOf), List.take_length]
    have hL : (values.map watchOf).length = values.length := by simp
    generalize values.map watchOf = L at hck hbad hL ⊢
    refine Run.freeze (i := 2) rfl rfl ?_
    by_cases h8 : 8 < L.length
    · rw [if_pos (by omega)] at hck
      repeat' (first | refine Run.ctl rfl ?_ | (refine Rg.op false tok rfl rfl rfl rfl ?_ ?_ ?_; (first | exact True.intro | omega | exact Nat.succ_pos _ | focus (simp; done) | focus (simp; omega) | decide +kernel); (first | exact trivial | exact rfl | exact .inl rfl | exact .inr rfl | focus ((repeat (first | exact trivial | (refine ⟨Stay.op false tok rfl rfl rfl ?_ (fun t ht => by cases ht; rfl), ?_⟩; (first | exact True.intro | omega | exact Nat.succ_pos _ | focus (simp; done) | focus (simp; omega) | decide +kernel)) | (refine ⟨Stay.op true tok rfl rfl rfl ?_ (fun t ht => by cases ht; rfl), ?_⟩; (first | exact True.intro | omega | exact Nat.succ_pos _ | focus (simp; done) | focus (simp; omega) | decide +kernel)) | refine ⟨Stay.skip rfl rfl (fun t ht => by cases ht; rfl), ?_⟩)); done))) | refine Rg.call (awake14_) rfl rfl rfl rfl rfl ⟨trivial, rfl⟩ ?_ | (refine Rg.call hck rfl rfl rfl rfl rfl ⟨⟨.refl _, .row rfl rfl rfl (by dsimp only; omega) rfl (fun _ => rfl) (fun j hj => by rw [Nat.zero_add]), trivial⟩, rfl⟩ ?_) | (refine Rg.call hbad rfl rfl rfl rfl rfl ⟨⟨.refl _, .refl _, .row rfl rfl rfl (by dsimp only; omega) rfl (fun _ => rfl) (fun j hj => by rw [Nat.zero_add]), trivial⟩, rfl⟩ ?_) | refine Rg.lend (hin) rfl rfl rfl rfl rfl rfl ⟨⟨.refl _, .row rfl rfl rfl (by dsimp only; omega) rfl (fun _ => rfl) (fun j hj => by rw [Nat.zero_add]), trivial⟩, rfl⟩ ?_ | (refine Rg.op true tok rfl rfl rfl rfl ?_ ?_ ?_; (first | exact True.intro | omega | exact Nat.succ_pos _ | focus (simp; done) | focus (simp; omega) | decide +kernel); (first | exact trivial | exact rfl | exact .inl rfl | exact .inr rfl | focus ((repeat (first | exact trivial | (refine ⟨Stay.op false tok rfl rfl rfl ?_ (fun t ht => by cases ht; rfl), ?_⟩; (first | exact True.intro | omega | exact Nat.succ_pos _ | focus (simp; done) | focus (simp; omega) | decide +kernel)) | (refine ⟨Stay.op true tok rfl rfl rfl ?_ (fun t ht => by cases ht; rfl), ?_⟩; (first | exact True.intro | omega | exact Nat.succ_pos _ | focus (simp; done) | focus (simp; omega) | decide +kernel)) | refine ⟨Stay.skip rfl rfl (fun t ht => by cases ht; rfl), ?_⟩)); done))) | refine Rg.nil ?_ | refine Rg.skip rfl rfl rfl ?_ | refine Run.regR ?_ | refine Run.drwR mixed (by kernel_rfl) rfl ?_ | refine Run.condT rfl ?_ | refine Run.condF rfl ?_ | (refine Run.condB rfl (fun hc => ?_) (fun hc => ?_) <;> ((try simp only [cs] at hc); (first | ((exfalso; omega); done) | ((exfalso; revert hc; rw [decide_eq_false (show ¬((L.length : Int) ≤ 8) by omega)]; decide); done) | skip))) | ((fail_if_success (refine Rg.lit true rfl ?_)); (fail_if_success (refine Rg.lit false rfl ?_)); refine Rg.guard rfl (fun hc => ?_) (fun hc => ?_) <;> ((try simp only [cs] at hc); (first | ((exfalso; omega); done) | ((exfalso; revert hc; rw [decide_eq_false (show ¬((L.length : Int) ≤ 8) by omega)]; decide); done) | skip))))
      all_goals ((first | refine Run.ret tok Try.func4 rfl ?_ | refine Run.fall tok Try.func4 rfl ?_); exact .refl _)
    · rw [if_neg (by omega)] at hck
      repeat' (first | refine Run.ctl rfl ?_ | (refine Rg.op false tok rfl rfl rfl rfl ?_ ?_ ?_; (first | exact True.intro | omega | exact Nat.succ_pos _ | focus (simp; done) | focus (simp; omega) | decide +kernel); (first | exact trivial | exact rfl | exact .inl rfl | exact .inr rfl | focus ((repeat (first | exact trivial | (refine ⟨Stay.op false tok rfl rfl rfl ?_ (fun t ht => by cases ht; rfl), ?_⟩; (first | exact True.intro | omega | exact Nat.succ_pos _ | focus (simp; done) | focus (simp; omega) | decide +kernel)) | (refine ⟨Stay.op true tok rfl rfl rfl ?_ (fun t ht => by cases ht; rfl), ?_⟩; (first | exact True.intro | omega | exact Nat.succ_pos _ | focus (simp; done) | focus (simp; omega) | decide +kernel)) | refine ⟨Stay.skip rfl rfl (fun t ht => by cases ht; rfl), ?_⟩)); done))) | refine Rg.call (awake14_) rfl rfl rfl rfl rfl ⟨trivial, rfl⟩ ?_ | (refine Rg.call hck rfl rfl rfl rfl rfl ⟨⟨.refl _, .row rfl rfl rfl (by dsimp only; omega) rfl (fun _ => rfl) (fun j hj => by rw [Nat.zero_add]), trivial⟩, rfl⟩ ?_) | (refine Rg.call hbad rfl rfl rfl rfl rfl ⟨⟨.refl _, .refl _, .row rfl rfl rfl (by dsimp only; omega) rfl (fun _ => rfl) (fun j hj => by rw [Nat.zero_add]), trivial⟩, rfl⟩ ?_) | refine Rg.lend (hin) rfl rfl rfl rfl rfl rfl ⟨⟨.refl _, .row rfl rfl rfl (by dsimp only; omega) rfl (fun _ => rfl) (fun j hj => by rw [Nat.zero_add]), trivial⟩, rfl⟩ ?_ | (refine Rg.op true tok rfl rfl rfl rfl ?_ ?_ ?_; (first | exact True.intro | omega | exact Nat.succ_pos _ | focus (simp; done) | focus (simp; omega) | decide +kernel); (first | exact trivial | exact rfl | exact .inl rfl | exact .inr rfl | focus ((repeat (first | exact trivial | (refine ⟨Stay.op false tok rfl rfl rfl ?_ (fun t ht => by cases ht; rfl), ?_⟩; (first | exact True.intro | omega | exact Nat.succ_pos _ | focus (simp; done) | focus (simp; omega) | decide +kernel)) | (refine ⟨Stay.op true tok rfl rfl rfl ?_ (fun t ht => by cases ht; rfl), ?_⟩; (first | exact True.intro | omega | exact Nat.succ_pos _ | focus (simp; done) | focus (simp; omega) | decide +kernel)) | refine ⟨Stay.skip rfl rfl (fun t ht => by cases ht; rfl), ?_⟩)); done))) | refine Rg.nil ?_ | refine Rg.skip rfl rfl rfl ?_ | refine Run.regR ?_ | refine Run.drwR mixed (by kernel_rfl) rfl ?_ | refine Run.condT rfl ?_ | refine Run.condF rfl ?_ | (refine Run.condB rfl (fun hc => ?_) (fun hc => ?_) <;> ((try simp only [cs] at hc); (first | ((exfalso; omega); done) | ((exfalso; revert hc; rw [decide_eq_true (show (L.length : Int) ≤ 8 by omega)]; decide); done) | skip))) | ((fail_if_success (refine Rg.lit true rfl ?_)); (fail_if_success (refine Rg.lit false rfl ?_)); refine Rg.guard rfl (fun hc => ?_) (fun hc => ?_) <;> ((try simp only [cs] at hc); (first | ((exfalso; omega); done) | ((exfalso; revert hc; rw [decide_eq_true (show (L.length : Int) ≤ 8 by omega)]; decide); done) | skip))))
      all_goals ((first | refine Run.ret tok Try.func4 rfl ?_ | refine Run.fall tok Try.func4 rfl ?_); exact .refl _)
end Go.Proofs.Ytlimecfjpfaljaa.W
end
