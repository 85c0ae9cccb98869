/- Walks: orders of IDs and events. -/
import Derived.Test.YtocfjbopkgmjkaaDoorL1
set_option linter.unusedVariables false
set_option linter.unusedSimpArgs false
set_option linter.unusedSectionVars false
set_option pp.maxSteps 3000
namespace Go.Proofs.YtocfjbopkgmjkaaDoor.W
open Go Go.Sy

structure ID where
  from_ : Int
  n : Int
  copy : Int
  deriving DecidableEq, Inhabited
structure Ev where
  kind : Int
  id : ID
  who : Int
  deriving DecidableEq, Inhabited
def eID (x : ID) : List PV := [i64 x.from_, i64 x.n, i64 x.copy]
def eEv (e : Ev) : List PV := [i64 e.kind, i64 e.id.from_, i64 e.id.n, i64 e.id.copy, i64 e.who]
def pID (x : ID) : PV := .agg (eID x)
def pEv (e : Ev) : PV := .agg (eEv e)

def cmpI (a b : Int) : Int := if a < b then -1 else if a > b then 1 else 0
def orI : List Int → Int
  | [] => 0
  | a :: l => if a ≠ 0 then a else orI l
def orderID (a b : ID) : Int := orI [cmpI a.from_ b.from_, cmpI a.n b.n, cmpI a.copy b.copy]
def lessID (a b : ID) : Bool := orderID a b < 0
def orderEv (a b : Ev) : Int := orI [cmpI a.kind b.kind, orderID a.id b.id, cmpI a.who b.who]
def lessEv (a b : Ev) : Bool := orderEv a b < 0

theorem isNaN_ (a : Int) : Pure Tryd.prog 73 [i64 a] (bl false) := by
  refine Pure.of_spec (Spec.of_run (fn := Tryd.f73) Tryd.func73 rfl rfl (by kernel_rfl) ?_) (by first | assumption | rfl | (split <;> rfl) | (split <;> split <;> rfl))
  repeat' (first | refine Run.ctl rfl ?_ | (refine Rg.op false tok rfl rfl rfl rfl ?_ ?_ ?_; (first | exact True.intro | omega | (simp; done) | (simp; omega) | decide +kernel); (first | exact trivial | exact .inl rfl | exact .inr rfl)) | (refine Rg.op true tok rfl rfl rfl rfl ?_ ?_ ?_; (first | exact True.intro | omega | (simp; done) | (simp; omega) | decide +kernel); (first | exact trivial | exact .inl rfl | exact .inr rfl)) | refine Rg.nil ?_ | refine Rg.skip rfl rfl rfl ?_ | refine Run.regR ?_ | refine Run.drwR mixed (by kernel_rfl) rfl ?_ | refine Run.condT rfl ?_ | refine Run.condF rfl ?_ | (refine Run.condB rfl (fun hc => ?_) (fun hc => ?_) <;> ((try simp only [cs] at hc))) | ((fail_if_success (refine Rg.lit true rfl ?_)); (fail_if_success (refine Rg.lit false rfl ?_)); refine Rg.guard rfl (fun hc => ?_) (fun hc => ?_) <;> ((try simp only [cs] at hc))))
  (first | refine Run.ret tok Tryd.func73 rfl ?_ | refine Run.fall tok Tryd.func73 rfl ?_)
  exact .ofBool (by simp)
theorem compare_ (a b : Int) : Pure Tryd.prog 61 [i64 a, i64 b] (i64 (cmpI a b)) := by
  refine Pure.of_spec (Spec.of_run (fn := Tryd.f61) Tryd.func61 rfl rfl (by kernel_rfl) ?_) (by first | assumption | rfl | (split <;> rfl) | (split <;> split <;> rfl))
  repeat' (first | refine Run.ctl rfl ?_ | (refine Rg.op false tok rfl rfl rfl rfl ?_ ?_ ?_; (first | exact True.intro | omega | (simp; done) | (simp; omega) | decide +kernel); (first | exact trivial | exact .inl rfl | exact .inr rfl)) | refine Rg.call (isNaN_ _) rfl rfl rfl rfl rfl ⟨⟨.refl _, trivial⟩, rfl⟩ ?_ | (refine Rg.op true tok rfl rfl rfl rfl ?_ ?_ ?_; (first | exact True.intro | omega | (simp; done) | (simp; omega) | decide +kernel); (first | exact trivial | exact .inl rfl | exact .inr rfl)) | refine Rg.nil ?_ | refine Rg.skip rfl rfl rfl ?_ | refine Run.regR ?_ | refine Run.drwR mixed (by kernel_rfl) rfl ?_ | refine Run.condT rfl ?_ | refine Run.condF rfl ?_ | (refine Run.condB rfl (fun hc => ?_) (fun hc => ?_) <;> ((try simp only [cs] at hc))) | ((fail_if_success (refine Rg.lit true rfl ?_)); (fail_if_success (refine Rg.lit false rfl ?_)); refine Rg.guard rfl (fun hc => ?_) (fun hc => ?_) <;> ((try simp only [cs] at hc))))
  all_goals ((first | refine Run.ret tok Tryd.func61 rfl ?_ | refine Run.fall tok Tryd.func61 rfl ?_); refine .ofInt ?_; unfold cmpI; repeat' split) <;> omega
theorem orI_drop (l : List Int) (i : Nat) (h : i < l.length) : orI (l.drop i) = if l.getD i default ≠ 0 then l.getD i default else orI (l.drop (i + 1)) := by
  rw [List.drop_eq_getElem_cons h]
  simp [orI, h]
theorem or_ (l : List Int) (hl : l.length ≤ 1000) : Pure Tryd.prog 60 [sl 1 eInt l] (i64 (orI l)) := by
  refine Pure.of_spec (Spec.of_run (fn := Tryd.f60) Tryd.func60 rfl rfl (by kernel_rfl) ?_) (by first | assumption | rfl | (split <;> rfl) | (split <;> split <;> rfl))
  repeat' (first | refine Run.ctl rfl ?_ | (refine Rg.op false tok rfl rfl rfl rfl ?_ ?_ ?_; (first | exact True.intro | omega | (simp; done) | (simp; omega) | decide +kernel); (first | exact trivial | exact .inl rfl | exact .inr rfl)) | (refine Rg.op true tok rfl rfl rfl rfl ?_ ?_ ?_; (first | exact True.intro | omega | (simp; done) | (simp; omega) | decide +kernel); (first | exact trivial | exact .inl rfl | exact .inr rfl)) | refine Rg.nil ?_ | refine Rg.skip rfl rfl rfl ?_ | refine Run.regR ?_ | refine Run.drwR mixed (by kernel_rfl) rfl ?_ | refine Run.condT rfl ?_ | refine Run.condF rfl ?_ | (refine Run.condB rfl (fun hc => ?_) (fun hc => ?_) <;> ((try simp only [cs] at hc))) | ((fail_if_success (refine Rg.lit true rfl ?_)); (fail_if_success (refine Rg.lit false rfl ?_)); refine Rg.guard rfl (fun hc => ?_) (fun hc => ?_) <;> ((try simp only [cs] at hc))))
  refine Run.loopAt (ι := Nat) (fun i => ([(0, sl 1 eInt l), (3, i64 0), (6, sl 1 eInt l), (7, i64 l.length), (8, i64 i)], [])) (fun i => i ≤ l.length ∧ orI (l.drop i) = orI l) (fun i => l.length - i) 0 ⟨rfl, rfl, rfl, rfl, rfl, trivial⟩ rfl ⟨by omega, rfl⟩ ?_
  rintro i ⟨hi, hor⟩ back
  repeat' (first | refine Run.ctl rfl ?_ | (refine Rg.op false tok rfl rfl rfl rfl ?_ ?_ ?_; (first | exact True.intro | omega | (simp; done) | (simp; omega) | decide +kernel); (first | exact trivial | exact .inl rfl | exact .inr rfl)) | (refine Rg.op true tok rfl rfl rfl rfl ?_ ?_ ?_; (first | exact True.intro | omega | (simp; done) | (simp; omega) | decide +kernel); (first | exact trivial | exact .inl rfl | exact .inr rfl)) | refine Rg.nil ?_ | refine Rg.skip rfl rfl rfl ?_ | refine Run.regR ?_ | refine Run.drwR mixed (by kernel_rfl) rfl ?_ | refine Run.condT rfl ?_ | refine Run.condF rfl ?_ | (refine Run.condB rfl (fun hc => ?_) (fun hc => ?_) <;> ((try simp only [cs] at hc))) | ((fail_if_success (refine Rg.lit true rfl ?_)); (fail_if_success (refine Rg.lit false rfl ?_)); refine Rg.guard rfl (fun hc => ?_) (fun hc => ?_) <;> ((try simp only [cs] at hc))))
  · have h1 : i < l.length := by omega
    (first | refine Run.ret tok Tryd.func60 rfl ?_ | refine Run.fall tok Tryd.func60 rfl ?_)
    refine .ofInt ?_
    rw [← hor, orI_drop l i h1, if_pos hc]
  · have h1 : i < l.length := by omega
    rw [orI_drop l i h1, if_neg (by simpa using hc)] at hor
    exact back (i + 1) _ _ ⟨by omega, hor⟩ (by omega) ⟨rfl, rfl, rfl, rfl, rfl, trivial⟩ rfl
  · (first | refine Run.ret tok Tryd.func60 rfl ?_ | refine Run.fall tok Tryd.func60 rfl ?_)
    refine .ofInt ?_
    have : i = l.length := by omega
    subst this
    rw [← hor]; simp [orI]
theorem order_ (a b : ID) : Pure Tryd.prog 46 [pID a, pID b] (i64 (orderID a b)) := by
  refine Pure.of_spec (Spec.of_run (fn := Tryd.f46) Tryd.func46 rfl rfl (by kernel_rfl) ?_) (by first | assumption | rfl | (split <;> rfl) | (split <;> split <;> rfl))
  repeat' (first | refine Run.ctl rfl ?_ | (refine Rg.op false tok rfl rfl rfl rfl ?_ ?_ ?_; (first | exact True.intro | omega | (simp; done) | (simp; omega) | decide +kernel); (first | exact trivial | exact .inl rfl | exact .inr rfl)) | refine Rg.call (compare_ _ _) rfl rfl rfl rfl rfl ⟨⟨.refl _, .refl _, trivial⟩, rfl⟩ ?_ | refine Rg.call (or_ [_, _, _] (by simp)) rfl rfl rfl rfl rfl ⟨⟨.rowF rfl (fun _ => rfl) (fun j hj => by rcases j with _ | _ | _ | _ | _ | _ | _ | _ | j <;> first | rfl | (exfalso; simp at hj; try omega)), trivial⟩, rfl⟩ ?_ | (refine Rg.op true tok rfl rfl rfl rfl ?_ ?_ ?_; (first | exact True.intro | omega | (simp; done) | (simp; omega) | decide +kernel); (first | exact trivial | exact .inl rfl | exact .inr rfl)) | refine Rg.nil ?_ | refine Rg.skip rfl rfl rfl ?_ | refine Run.regR ?_ | refine Run.drwR mixed (by kernel_rfl) rfl ?_ | refine Run.condT rfl ?_ | refine Run.condF rfl ?_ | (refine Run.condB rfl (fun hc => ?_) (fun hc => ?_) <;> ((try simp only [cs] at hc))) | ((fail_if_success (refine Rg.lit true rfl ?_)); (fail_if_success (refine Rg.lit false rfl ?_)); refine Rg.guard rfl (fun hc => ?_) (fun hc => ?_) <;> ((try simp only [cs] at hc))))
  (first | refine Run.ret tok Tryd.func46 rfl ?_ | refine Run.fall tok Tryd.func46 rfl ?_)
  exact .ofInt rfl
theorem less_ (a b : ID) : Pure Tryd.prog 17 [pID a, pID b] (bl (lessID a b)) := by
  refine Pure.of_spec (Spec.of_run (fn := Tryd.f17) Tryd.func17 rfl rfl (by kernel_rfl) ?_) (by first | assumption | rfl | (split <;> rfl) | (split <;> split <;> rfl))
  repeat' (first | refine Run.ctl rfl ?_ | (refine Rg.op false tok rfl rfl rfl rfl ?_ ?_ ?_; (first | exact True.intro | omega | (simp; done) | (simp; omega) | decide +kernel); (first | exact trivial | exact .inl rfl | exact .inr rfl)) | refine Rg.call (order_ a b) rfl rfl rfl rfl rfl ⟨⟨.refl _, .refl _, trivial⟩, rfl⟩ ?_ | (refine Rg.op true tok rfl rfl rfl rfl ?_ ?_ ?_; (first | exact True.intro | omega | (simp; done) | (simp; omega) | decide +kernel); (first | exact trivial | exact .inl rfl | exact .inr rfl)) | refine Rg.nil ?_ | refine Rg.skip rfl rfl rfl ?_ | refine Run.regR ?_ | refine Run.drwR mixed (by kernel_rfl) rfl ?_ | refine Run.condT rfl ?_ | refine Run.condF rfl ?_ | (refine Run.condB rfl (fun hc => ?_) (fun hc => ?_) <;> ((try simp only [cs] at hc))) | ((fail_if_success (refine Rg.lit true rfl ?_)); (fail_if_success (refine Rg.lit false rfl ?_)); refine Rg.guard rfl (fun hc => ?_) (fun hc => ?_) <;> ((try simp only [cs] at hc))))
  (first | refine Run.ret tok Tryd.func17 rfl ?_ | refine Run.fall tok Tryd.func17 rfl ?_)
  exact .ofBool rfl
theorem orderEv_ (a b : Ev) : Pure Tryd.prog 48 [pEv a, pEv b] (i64 (orderEv a b)) := by
  refine Pure.of_spec (Spec.of_run (fn := Tryd.f48) Tryd.func48 rfl rfl (by kernel_rfl) ?_) (by first | assumption | rfl | (split <;> rfl) | (split <;> split <;> rfl))
  repeat' (first | refine Run.ctl rfl ?_ | (refine Rg.op false tok rfl rfl rfl rfl ?_ ?_ ?_; (first | exact True.intro | omega | (simp; done) | (simp; omega) | decide +kernel); (first | exact trivial | exact .inl rfl | exact .inr rfl)) | refine Rg.call (compare_ _ _) rfl rfl rfl rfl rfl ⟨⟨.refl _, .refl _, trivial⟩, rfl⟩ ?_ | refine Rg.call (order_ a.id b.id) rfl rfl rfl rfl rfl ⟨⟨.refl _, .refl _, trivial⟩, rfl⟩ ?_ | refine Rg.call (or_ [_, _, _] (by simp)) rfl rfl rfl rfl rfl ⟨⟨.rowF rfl (fun _ => rfl) (fun j hj => by rcases j with _ | _ | _ | _ | _ | _ | _ | _ | j <;> first | rfl | (exfalso; simp at hj; try omega)), trivial⟩, rfl⟩ ?_ | (refine Rg.op true tok rfl rfl rfl rfl ?_ ?_ ?_; (first | exact True.intro | omega | (simp; done) | (simp; omega) | decide +kernel); (first | exact trivial | exact .inl rfl | exact .inr rfl)) | refine Rg.nil ?_ | refine Rg.skip rfl rfl rfl ?_ | refine Run.regR ?_ | refine Run.drwR mixed (by kernel_rfl) rfl ?_ | refine Run.condT rfl ?_ | refine Run.condF rfl ?_ | (refine Run.condB rfl (fun hc => ?_) (fun hc => ?_) <;> ((try simp only [cs] at hc))) | ((fail_if_success (refine Rg.lit true rfl ?_)); (fail_if_success (refine Rg.lit false rfl ?_)); refine Rg.guard rfl (fun hc => ?_) (fun hc => ?_) <;> ((try simp only [cs] at hc))))
  (first | refine Run.ret tok Tryd.func48 rfl ?_ | refine Run.fall tok Tryd.func48 rfl ?_)
  exact .ofInt rfl
theorem before_ (a b : Ev) : Pure Tryd.prog 21 [pEv a, pEv b] (bl (lessEv a b)) := by
  refine Pure.of_spec (Spec.of_run (fn := Tryd.f21) Tryd.func21 rfl rfl (by kernel_rfl) ?_) (by first | assumption | rfl | (split <;> rfl) | (split <;> split <;> rfl))
  repeat' (first | refine Run.ctl rfl ?_ | (refine Rg.op false tok rfl rfl rfl rfl ?_ ?_ ?_; (first | exact True.intro | omega | (simp; done) | (simp; omega) | decide +kernel); (first | exact trivial | exact .inl rfl | exact .inr rfl)) | refine Rg.call (orderEv_ a b) rfl rfl rfl rfl rfl ⟨⟨.refl _, .refl _, trivial⟩, rfl⟩ ?_ | (refine Rg.op true tok rfl rfl rfl rfl ?_ ?_ ?_; (first | exact True.intro | omega | (simp; done) | (simp; omega) | decide +kernel); (first | exact trivial | exact .inl rfl | exact .inr rfl)) | refine Rg.nil ?_ | refine Rg.skip rfl rfl rfl ?_ | refine Run.regR ?_ | refine Run.drwR mixed (by kernel_rfl) rfl ?_ | refine Run.condT rfl ?_ | refine Run.condF rfl ?_ | (refine Run.condB rfl (fun hc => ?_) (fun hc => ?_) <;> ((try simp only [cs] at hc))) | ((fail_if_success (refine Rg.lit true rfl ?_)); (fail_if_success (refine Rg.lit false rfl ?_)); refine Rg.guard rfl (fun hc => ?_) (fun hc => ?_) <;> ((try simp only [cs] at hc))))
  (first | refine Run.ret tok Tryd.func21 rfl ?_ | refine Run.fall tok Tryd.func21 rfl ?_)
  exact .ofBool rfl
end Go.Proofs.YtocfjbopkgmjkaaDoor.W
