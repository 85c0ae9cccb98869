/- Walks: orders, names, kinds (chapter 7). -/
import Derived.Test.YtocfjbopkgmjkaaDoorB3
set_option linter.unusedVariables false
set_option linter.unusedSimpArgs false
set_option linter.unusedSectionVars false
set_option pp.maxSteps 3000
set_option maxHeartbeats 2000000
namespace Go.Proofs.YtocfjbopkgmjkaaDoor.W
open Go Go.Sy

theorem cmp_lt {a b : Int} : cmpI a b < 0 ↔ a < b := by
  have := cmpI_neg a b
  simpa using this
theorem lessID_iff (a b : ID) : lessID a b = true ↔ a.from_ < b.from_ ∨ (a.from_ = b.from_ ∧ (a.n < b.n ∨ (a.n = b.n ∧ a.copy < b.copy))) := by
  rw [← lessR_eq]
  unfold lessR
  repeat' split
  all_goals simp
  all_goals omega
theorem lessEv_iff (a b : Ev) : lessEv a b = true ↔ a.kind < b.kind ∨ (a.kind = b.kind ∧ (lessID a.id b.id = true ∨ (a.id = b.id ∧ a.who < b.who))) := by
  rw [lessEv_eq]
  by_cases h1 : a.kind = b.kind
  · by_cases h2 : a.id = b.id
    · have : ¬ lessID b.id b.id = true := by rw [lessID_iff]; omega
      simp [h1, h2, this]
    · simp [h1, h2]
  · simp [h1]
theorem lessID_no {a b : ID} (h : lessID a b = true) (g : lessID b a = true) : False := by
  rw [lessID_iff] at h g
  omega
theorem lessID_tr {a b c : ID} (h : lessID a b = true) (g : lessID b c = true) (k : lessID a c = false) : False := by
  have : lessID a c = true := by rw [lessID_iff] at h g ⊢; omega
  rw [this] at k; cases k
theorem ID_list (a b : ID) : [a.from_, a.n, a.copy] = [b.from_, b.n, b.copy] ↔ a = b := by
  constructor
  · intro h
    simp only [List.cons.injEq, and_true] at h
    cases a; cases b
    simp_all
  · intro h; rw [h]
theorem lessID_ne {a b : ID} (h : lessID a b = true) : ¬ [a.from_, a.n, a.copy] = [b.from_, b.n, b.copy] := by
  intro e
  rw [ID_list] at e
  subst e
  exact lessID_no h h
theorem lessID_eq {a b : ID} (h : lessID a b = false) (g : lessID b a = false) : [a.from_, a.n, a.copy] = [b.from_, b.n, b.copy] := by
  rw [ID_list]
  have h := mt (lessID_iff a b).2 (by rw [h]; simp)
  have g := mt (lessID_iff b a).2 (by rw [g]; simp)
  cases a; cases b
  simp only [ID.mk.injEq]
  simp only at h g
  omega
theorem lessEv_no {a b : Ev} (h : lessEv a b = true) (g : lessEv b a = true) : False := by
  rw [lessEv_iff] at h g
  rcases h with h | ⟨h1, h2 | ⟨h2, h3⟩⟩ <;> rcases g with g | ⟨g1, g2 | ⟨g2, g3⟩⟩ <;> try omega
  · exact lessID_no h2 g2
  · rw [g2] at h2; exact lessID_no h2 h2
  · rw [h2] at g2; exact lessID_no g2 g2
theorem lessEv_tr {a b c : Ev} (h : lessEv a b = true) (g : lessEv b c = true) (k : lessEv a c = false) : False := by
  have : lessEv a c = true := by
    rw [lessEv_iff] at h g ⊢
    rcases h with h | ⟨h1, h2 | ⟨h2, h3⟩⟩ <;> rcases g with g | ⟨g1, g2 | ⟨g2, g3⟩⟩
    · exact .inl (by omega)
    · exact .inl (by omega)
    · exact .inl (by omega)
    · exact .inl (by omega)
    · refine .inr ⟨by omega, .inl ?_⟩
      cases hk : lessID a.id c.id with
      | true => rfl
      | false => exact (lessID_tr h2 g2 hk).elim
    · exact .inr ⟨by omega, .inl (g2 ▸ h2)⟩
    · exact .inl (by omega)
    · exact .inr ⟨by omega, .inl (h2 ▸ g2)⟩
    · exact .inr ⟨by omega, .inr ⟨h2.trans g2, by omega⟩⟩
  rw [this] at k; cases k
theorem lessEv_ne {x y : Ev} (h : lessEv x y = true) : ¬ [x.kind, x.id.from_, x.id.n, x.id.copy, x.who] = [y.kind, y.id.from_, y.id.n, y.id.copy, y.who] := by
  intro e
  have := ev_ext e
  subst this
  exact lessEv_no h h
theorem lessEv_eqL {x y : Ev} (h : lessEv x y = false) (g : lessEv y x = false) : [x.kind, x.id.from_, x.id.n, x.id.copy, x.who] = [y.kind, y.id.from_, y.id.n, y.id.copy, y.who] := by
  have h := mt (lessEv_iff x y).2 (by rw [h]; simp)
  have g := mt (lessEv_iff y x).2 (by rw [g]; simp)
  have hk : x.kind = y.kind := by
    rcases Int.lt_trichotomy x.kind y.kind with e | e | e
    · exact absurd (.inl e) h
    · exact e
    · exact absurd (.inl e) g
  have h1 : lessID x.id y.id = false := by
    cases hl : lessID x.id y.id with
    | false => rfl
    | true => exact absurd (.inr ⟨hk, .inl hl⟩) h
  have h2 : lessID y.id x.id = false := by
    cases hl : lessID y.id x.id with
    | false => rfl
    | true => exact absurd (.inr ⟨hk.symm, .inl hl⟩) g
  have hi := (ID_list _ _).1 (lessID_eq h1 h2)
  have hw : x.who = y.who := by
    rcases Int.lt_trichotomy x.who y.who with e | e | e
    · exact absurd (.inr ⟨hk, .inr ⟨hi, e⟩⟩) h
    · exact e
    · exact absurd (.inr ⟨hk.symm, .inr ⟨hi.symm, e⟩⟩) g
  rw [hk, hi, hw]
theorem idCases (a b c : ID) : ∃ p q r s : Bool, lessID a b = p ∧ lessID b a = q ∧ lessID b c = r ∧ lessID a c = s ∧
    ((p = true ∧ q = false ∧ ((r = false ∧ s = lessID a c) ∨ (r = true ∧ s = true)) ∧ ¬ [a.from_, a.n, a.copy] = [b.from_, b.n, b.copy]) ∨
    (p = false ∧ q = true ∧ r = lessID b c ∧ s = lessID a c ∧ ¬ [a.from_, a.n, a.copy] = [b.from_, b.n, b.copy]) ∨ (p = false ∧ q = false ∧ r = lessID b c ∧ s = lessID a c ∧ [a.from_, a.n, a.copy] = [b.from_, b.n, b.copy])) := by
  refine ⟨_, _, _, _, rfl, rfl, rfl, rfl, ?_⟩
  cases h1 : lessID a b with
  | true =>
    refine .inl ⟨rfl, by cases h2 : lessID b a; rfl; exact (lessID_no h1 h2).elim, ?_, lessID_ne h1⟩
    cases h3 : lessID b c with
    | false => exact .inl ⟨rfl, rfl⟩
    | true => exact .inr ⟨rfl, by cases h4 : lessID a c; exact (lessID_tr h1 h3 h4).elim; rfl⟩
  | false =>
    cases h2 : lessID b a with
    | true => exact .inr (.inl ⟨rfl, rfl, rfl, rfl, fun e => lessID_ne h2 e.symm⟩)
    | false => exact .inr (.inr ⟨rfl, rfl, rfl, rfl, lessID_eq h1 h2⟩)
theorem evCases (x y z : Ev) : ∃ p q r s : Bool, lessEv x y = p ∧ lessEv y x = q ∧ lessEv y z = r ∧ lessEv x z = s ∧
    ((p = true ∧ q = false ∧ ((r = false ∧ s = lessEv x z) ∨ (r = true ∧ s = true)) ∧ ¬ [x.kind, x.id.from_, x.id.n, x.id.copy, x.who] = [y.kind, y.id.from_, y.id.n, y.id.copy, y.who]) ∨
    (p = false ∧ q = true ∧ r = lessEv y z ∧ s = lessEv x z ∧ ¬ [x.kind, x.id.from_, x.id.n, x.id.copy, x.who] = [y.kind, y.id.from_, y.id.n, y.id.copy, y.who]) ∨ (p = false ∧ q = false ∧ r = lessEv y z ∧ s = lessEv x z ∧ [x.kind, x.id.from_, x.id.n, x.id.copy, x.who] = [y.kind, y.id.from_, y.id.n, y.id.copy, y.who])) := by
  refine ⟨_, _, _, _, rfl, rfl, rfl, rfl, ?_⟩
  cases h1 : lessEv x y with
  | true =>
    refine .inl ⟨rfl, by cases h2 : lessEv y x; rfl; exact (lessEv_no h1 h2).elim, ?_, lessEv_ne h1⟩
    cases h3 : lessEv y z with
    | false => exact .inl ⟨rfl, rfl⟩
    | true => exact .inr ⟨rfl, by cases h4 : lessEv x z; exact (lessEv_tr h1 h3 h4).elim; rfl⟩
  | false =>
    cases h2 : lessEv y x with
    | true => exact .inr (.inl ⟨rfl, rfl, rfl, rfl, fun e => lessEv_ne h2 e.symm⟩)
    | false => exact .inr (.inr ⟨rfl, rfl, rfl, rfl, lessEv_eqL h1 h2⟩)
theorem identOrder_ (a b c : ID) (x y z : Ev) (ha : a.ok) (hb : b.ok) (hc0 : c.ok) (hx : x.ok) (hy : y.ok) (hz : z.ok) : Pure Tryd.prog 5 [pID a, pID b, pID c, pEv x, pEv y, pEv z] (bl true) := by
  have l1 := less_ a b
  have l2 := less_ b a
  have l3 := less_ b c
  have l4 := less_ a c
  have m1 := before_ x y
  have m2 := before_ y x
  have m3 := before_ y z
  have m4 := before_ x z
  obtain ⟨p, q, r, s, h1, h2, h3, h4, hh⟩ := idCases a b c
  obtain ⟨p', q', r', s', g1, g2, g3, g4, gg⟩ := evCases x y z
  rw [h1] at l1
  rw [h2] at l2
  rw [h3] at l3
  rw [h4] at l4
  rw [g1] at m1
  rw [g2] at m2
  rw [g3] at m3
  rw [g4] at m4
  clear h1 h2 h3 h4 g1 g2 g3 g4
  rcases hh with ⟨rfl, rfl, (⟨rfl, h5⟩ | ⟨rfl, rfl⟩), hE⟩ | ⟨rfl, rfl, h5, h6, hE⟩ | ⟨rfl, rfl, h5, h6, hE⟩ <;> rcases gg with ⟨rfl, rfl, (⟨rfl, g5⟩ | ⟨rfl, rfl⟩), gE⟩ | ⟨rfl, rfl, g5, g6, gE⟩ | ⟨rfl, rfl, g5, g6, gE⟩
  all_goals
    refine Pure.of_spec (Spec.of_run (fn := Tryd.f5) Tryd.func5 rfl rfl (by kernel_rfl) ?_) (by first | assumption | rfl | (split <;> rfl) | (split <;> split <;> rfl))
    repeat' (first | refine Run.ctl rfl ?_ | (refine Rg.op false tok rfl rfl rfl rfl ?_ ?_ ?_; (first | exact True.intro | omega | (simp; done) | (simp; omega) | decide +kernel); (first | exact trivial | exact .inl rfl | exact .inr rfl)) | refine Rg.call (l1) rfl rfl rfl rfl rfl ⟨⟨.refl _, .refl _, trivial⟩, rfl⟩ ?_ | refine Rg.call (l2) rfl rfl rfl rfl rfl ⟨⟨.refl _, .refl _, trivial⟩, rfl⟩ ?_ | refine Rg.call (l3) rfl rfl rfl rfl rfl ⟨⟨.refl _, .refl _, trivial⟩, rfl⟩ ?_ | refine Rg.call (l4) rfl rfl rfl rfl rfl ⟨⟨.refl _, .refl _, trivial⟩, rfl⟩ ?_ | refine Rg.call (m1) rfl rfl rfl rfl rfl ⟨⟨.refl _, .refl _, trivial⟩, rfl⟩ ?_ | refine Rg.call (m2) rfl rfl rfl rfl rfl ⟨⟨.refl _, .refl _, trivial⟩, rfl⟩ ?_ | refine Rg.call (m3) rfl rfl rfl rfl rfl ⟨⟨.refl _, .refl _, trivial⟩, rfl⟩ ?_ | refine Rg.call (m4) rfl rfl rfl rfl rfl ⟨⟨.refl _, .refl _, trivial⟩, rfl⟩ ?_ | refine Rg.call (awake7_) rfl rfl rfl rfl rfl ⟨trivial, rfl⟩ ?_ | (refine Rg.op true tok rfl rfl rfl rfl ?_ ?_ ?_; (first | exact True.intro | omega | (simp; done) | (simp; omega) | decide +kernel); (first | exact trivial | exact .inl rfl | exact .inr rfl)) | refine Rg.nil ?_ | refine Rg.skip rfl rfl rfl ?_ | refine Run.regR ?_ | refine Run.drwR mixed (by kernel_rfl) rfl ?_ | refine Run.condT rfl ?_ | refine Run.condF rfl ?_ | (refine Run.condB rfl (fun hc => ?_) (fun hc => ?_) <;> ((try simp only [cs] at hc); (first | (exact absurd hc hE) | (exact absurd hE hc) | (exact absurd hc gE) | (exact absurd gE hc) | skip))) | ((fail_if_success (refine Rg.lit true rfl ?_)); (fail_if_success (refine Rg.lit false rfl ?_)); refine Rg.guard rfl (fun hc => ?_) (fun hc => ?_) <;> ((try simp only [cs] at hc); (first | (exact absurd hc hE) | (exact absurd hE hc) | (exact absurd hc gE) | (exact absurd gE hc) | skip))))
    refine Run.ret tok Tryd.func5 rfl ?_
    exact .refl _
end Go.Proofs.YtocfjbopkgmjkaaDoor.W
