/- Walks: events stand by their kinds (chapter 7). -/
import Derived.Test.YtocfjbopkgmjkaaDoorB4
import Derived.Test.YtocfjbopkgmjkaaDoorB5
set_option linter.unusedVariables false
set_option linter.unusedSimpArgs false
set_option linter.unusedSectionVars false
set_option pp.maxSteps 3000
set_option maxHeartbeats 1000000
namespace Go.Proofs.YtocfjbopkgmjkaaDoor.W
open Go Go.Sy

theorem identNames_ (e : Ev) (he : e.ok) : Pure Tryd.prog 6 [pEv e] (bl true) := by
  by_cases h1 : 1 ≤ e.kind ∧ e.kind ≤ 3 ∧ e.who = 0
  · exact identNames_msg e he h1.1 h1.2.1 h1.2.2
  · by_cases h2 : (e.kind = 4 ∨ e.kind = 5) ∧ [e.id.from_, e.id.n, e.id.copy] = [0, 0, 0]
    · exact identNames_act e he h2.1 ((ID_list e.id ⟨0, 0, 0⟩).1 h2.2)
    · exact identNames_none e he h1 h2
theorem tmod5_rng (a : Int) : (-5 < a.tmod 5 ∧ a.tmod 5 < 5) ∧ 0 ≤ (a.tmod 5 + 5).tmod 5 ∧ (a.tmod 5 + 5).tmod 5 < 5 := by
  have h := tmod5 a
  refine ⟨⟨?_, ?_⟩, by omega, by omega⟩
  · have := Int.lt_tmod_of_pos a (b := 5) (by decide); omega
  · exact Int.tmod_lt_of_pos a (by decide)
theorem identKinds_ (a b : Int) (x y : ID) (m n : Int) (ha : R64 a) (hb : R64 b) (hx : x.ok) (hy : y.ok) (hm : R64 m) (hn : R64 n) : Pure Tryd.prog 7 [i64 a, i64 b, pID x, pID y, i64 m, i64 n] (bl true) := by
  obtain ⟨⟨a1, a2⟩, a3, a4⟩ := tmod5_rng a
  obtain ⟨⟨b1, b2⟩, b3, b4⟩ := tmod5_rng b
  have hl := less_ x y
  have irr : ∀ z : ID, lessID z z = false := fun z => by
    cases h : lessID z z with
    | false => rfl
    | true => exact (lessID_no h h).elim
  refine Pure.of_spec (Spec.of_run (fn := Tryd.f7) Tryd.func7 rfl rfl (by kernel_rfl) ?_) (by first | assumption | rfl | (split <;> rfl) | (split <;> split <;> rfl))
  repeat' (first | refine Run.ctl rfl ?_ | (refine Rg.op false tok rfl rfl rfl rfl ?_ ?_ ?_; (first | exact True.intro | omega | (simp; done) | (simp; omega) | decide +kernel); (first | exact trivial | exact .inl rfl | exact .inr rfl)) | refine Rg.call (hl) rfl rfl rfl rfl rfl ⟨⟨.refl _, .refl _, trivial⟩, rfl⟩ ?_ | refine Rg.call (before_ ⟨_, ⟨_, _, _⟩, _⟩ ⟨_, ⟨_, _, _⟩, _⟩) rfl rfl rfl rfl rfl ⟨⟨.refl _, .refl _, trivial⟩, rfl⟩ ?_ | refine Rg.call (awake7_) rfl rfl rfl rfl rfl ⟨trivial, rfl⟩ ?_ | (refine Rg.op true tok rfl rfl rfl rfl ?_ ?_ ?_; (first | exact True.intro | omega | (simp; done) | (simp; omega) | decide +kernel); (first | exact trivial | exact .inl rfl | exact .inr rfl)) | refine Rg.nil ?_ | refine Rg.skip rfl rfl rfl ?_ | refine Run.regR ?_ | refine Run.drwR mixed (by kernel_rfl) rfl ?_ | refine Run.condT rfl ?_ | refine Run.condF rfl ?_ | (refine Run.condB rfl (fun hc => ?_) (fun hc => ?_) <;> ((try simp only [cs] at hc); (first | ((exfalso; omega); done) | skip))) | ((fail_if_success (refine Rg.lit true rfl ?_)); (fail_if_success (refine Rg.lit false rfl ?_)); refine Rg.guard rfl (fun hc => ?_) (fun hc => ?_) <;> ((try simp only [cs] at hc); (first | ((exfalso; omega); done) | skip))))
  all_goals refine Run.ret tok Tryd.func7 rfl ?_
  all_goals refine .ofBool ?_
  all_goals first
    | rfl
    | (refine (hc ?_).elim
       rw [lessEv_eq]
       generalize (a.tmod 5 + 5).tmod 5 = j at *
       generalize (b.tmod 5 + 5).tmod 5 = k at *
       clear hl hc
       simp only [ne_eq]
       repeat' split
       all_goals (first | rfl | omega | (rename_i h; simp_all; done) | (simp_all; omega) | (rename_i h; have e : x = y := Classical.not_not.1 h; rw [e, irr]; rfl)))
end Go.Proofs.YtocfjbopkgmjkaaDoor.W
