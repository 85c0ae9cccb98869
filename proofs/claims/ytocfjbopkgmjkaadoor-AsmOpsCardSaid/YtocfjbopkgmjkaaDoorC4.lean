/- Walks: the document's instructions, lines, codes. -/
import Derived.Test.YtocfjbopkgmjkaaDoorC3
set_option linter.unusedVariables false
set_option linter.unusedSimpArgs false
set_option linter.unusedSectionVars false
set_option pp.maxSteps 3000
set_option maxHeartbeats 1000000
namespace Go.Proofs.YtocfjbopkgmjkaaDoor.W
open Go Go.Sy

theorem roperand_ (op : Int) : Pure Tryd.prog 38 [i64 op] (i64 (operand op)) := by
  refine Pure.of_spec (Spec.of_run (fn := Tryd.f38) Tryd.func38 rfl rfl (by kernel_rfl) ?_) (by first | assumption | rfl | (split <;> rfl) | (split <;> split <;> rfl))
  repeat' (first | refine Run.ctl rfl ?_ | (refine Rg.op false tok rfl rfl rfl rfl ?_ ?_ ?_; (first | exact True.intro | omega | (simp; done) | (simp; omega) | decide +kernel); (first | exact trivial | exact .inl rfl | exact .inr rfl)) | (refine Rg.op true tok rfl rfl rfl rfl ?_ ?_ ?_; (first | exact True.intro | omega | (simp; done) | (simp; omega) | decide +kernel); (first | exact trivial | exact .inl rfl | exact .inr rfl)) | refine Rg.nil ?_ | refine Rg.skip rfl rfl rfl ?_ | refine Run.regR ?_ | refine Run.drwR mixed (by kernel_rfl) rfl ?_ | refine Run.condT rfl ?_ | refine Run.condF rfl ?_ | (refine Run.condB rfl (fun hc => ?_) (fun hc => ?_) <;> ((try simp only [cs] at hc))) | ((fail_if_success (refine Rg.lit true rfl ?_)); (fail_if_success (refine Rg.lit false rfl ?_)); refine Rg.guard rfl (fun hc => ?_) (fun hc => ?_) <;> ((try simp only [cs] at hc))))
  all_goals ((first | refine Run.ret tok Tryd.func38 rfl ?_ | refine Run.fall tok Tryd.func38 rfl ?_); refine .ofInt ?_; unfold operand; simp_all)
theorem rvalid_ (op : Int) : Pure Tryd.prog 55 [i64 op] (bl (opValid op)) := by
  refine Pure.of_spec (Spec.of_run (fn := Tryd.f55) Tryd.func55 rfl rfl (by kernel_rfl) ?_) (by first | assumption | rfl | (split <;> rfl) | (split <;> split <;> rfl))
  repeat' (first | refine Run.ctl rfl ?_ | (refine Rg.op false tok rfl rfl rfl rfl ?_ ?_ ?_; (first | exact True.intro | omega | (simp; done) | (simp; omega) | decide +kernel); (first | exact trivial | exact .inl rfl | exact .inr rfl)) | (refine Rg.op true tok rfl rfl rfl rfl ?_ ?_ ?_; (first | exact True.intro | omega | (simp; done) | (simp; omega) | decide +kernel); (first | exact trivial | exact .inl rfl | exact .inr rfl)) | refine Rg.nil ?_ | refine Rg.skip rfl rfl rfl ?_ | refine Run.regR ?_ | refine Run.drwR mixed (by kernel_rfl) rfl ?_ | refine Run.condT rfl ?_ | refine Run.condF rfl ?_ | (refine Run.condB rfl (fun hc => ?_) (fun hc => ?_) <;> ((try simp only [cs] at hc))) | ((fail_if_success (refine Rg.lit true rfl ?_)); (fail_if_success (refine Rg.lit false rfl ?_)); refine Rg.guard rfl (fun hc => ?_) (fun hc => ?_) <;> ((try simp only [cs] at hc))))
  all_goals ((first | refine Run.ret tok Tryd.func55 rfl ?_ | refine Run.fall tok Tryd.func55 rfl ?_); refine .ofBool ?_; unfold opValid; simp_all <;> omega)
theorem rnames_ : Pure Tryd.prog 56 [] (sl 1 eStr (([] :: opNames).map bs)) := by
  refine Pure.of_spec (Spec.of_run (fn := Tryd.f56) Tryd.func56 rfl rfl (by kernel_rfl) ?_) (by first | assumption | rfl | (split <;> rfl) | (split <;> split <;> rfl))
  repeat' (first | refine Run.ctl rfl ?_ | (refine Rg.op false tok rfl rfl rfl rfl ?_ ?_ ?_; (first | exact True.intro | omega | (simp; done) | (simp; omega) | decide +kernel); (first | exact trivial | exact .inl rfl | exact .inr rfl)) | (refine Rg.op true tok rfl rfl rfl rfl ?_ ?_ ?_; (first | exact True.intro | omega | (simp; done) | (simp; omega) | decide +kernel); (first | exact trivial | exact .inl rfl | exact .inr rfl)) | refine Rg.nil ?_ | refine Rg.skip rfl rfl rfl ?_ | refine Run.regR ?_ | refine Run.drwR mixed (by kernel_rfl) rfl ?_ | refine Run.condT rfl ?_ | refine Run.condF rfl ?_ | (refine Run.condB rfl (fun hc => ?_) (fun hc => ?_) <;> ((try simp only [cs] at hc))) | ((fail_if_success (refine Rg.lit true rfl ?_)); (fail_if_success (refine Rg.lit false rfl ?_)); refine Rg.guard rfl (fun hc => ?_) (fun hc => ?_) <;> ((try simp only [cs] at hc))))
  (first | refine Run.ret tok Tryd.func56 rfl ?_ | refine Run.fall tok Tryd.func56 rfl ?_)
  exact .row rfl rfl rfl (by decide) rfl (fun _ => rfl) (fun j hj => by
    have hj : j < 26 := hj
    rcases j with _ | _ | _ | _ | _ | _ | _ | _ | _ | _ | _ | _ | _ | _ | _ | _ | _ | _ | _ | _ | _ | _ | _ | _ | _ | _ | j <;> first | rfl | (exfalso; omega))
theorem getD_map {α β : Type} (f : α → β) (l : List α) (i : Nat) (d : β) (e : α) (h : i < l.length) : (l.map f).getD i d = f (l.getD i e) := by
  rw [List.getD_eq_getElem?_getD, List.getElem?_map, List.getD_eq_getElem?_getD, List.getElem?_eq_getElem h]; rfl
theorem rname_op (op : Int) : Pure Tryd.prog 36 [i64 op] (str (bs (opName op))) := by
  have hv := rvalid_ op
  by_cases h : 1 ≤ op ∧ op ≤ 25
  · have e : opValid op = true := by simp [opValid, h]
    rw [e] at hv
    obtain ⟨h1, h2⟩ := h
    refine Pure.of_spec (Spec.of_run (fn := Tryd.f36) Tryd.func36 rfl rfl (by kernel_rfl) ?_) (by first | assumption | rfl | (split <;> rfl) | (split <;> split <;> rfl))
    repeat' (first | refine Rg.any rfl rfl rfl (fun _ hq => G_ixF tok rfl rfl rfl rfl rfl (by omega) (by simp [opNames]; omega) hq) (by first | exact trivial | exact .inl rfl | exact .inr rfl) ?_ | refine Run.ctl rfl ?_ | (refine Rg.op false tok rfl rfl rfl rfl ?_ ?_ ?_; (first | exact True.intro | omega | (simp; done) | (simp; omega) | decide +kernel); (first | exact trivial | exact .inl rfl | exact .inr rfl)) | refine Rg.call (hv) rfl rfl rfl rfl rfl ⟨⟨.refl _, trivial⟩, rfl⟩ ?_ | refine Rg.call (rnames_) rfl rfl rfl rfl rfl ⟨trivial, rfl⟩ ?_ | (refine Rg.op true tok rfl rfl rfl rfl ?_ ?_ ?_; (first | exact True.intro | omega | (simp; done) | (simp; omega) | decide +kernel); (first | exact trivial | exact .inl rfl | exact .inr rfl)) | refine Rg.nil ?_ | refine Rg.skip rfl rfl rfl ?_ | refine Run.regR ?_ | refine Run.drwR mixed (by kernel_rfl) rfl ?_ | refine Run.condT rfl ?_ | refine Run.condF rfl ?_ | (refine Run.condB rfl (fun hc => ?_) (fun hc => ?_) <;> ((try simp only [cs] at hc))) | ((fail_if_success (refine Rg.lit true rfl ?_)); (fail_if_success (refine Rg.lit false rfl ?_)); refine Rg.guard rfl (fun hc => ?_) (fun hc => ?_) <;> ((try simp only [cs] at hc))))
    (first | refine Run.ret tok Tryd.func36 rfl ?_ | refine Run.fall tok Tryd.func36 rfl ?_)
    refine .ofStr ?_
    unfold opName
    rw [if_pos e]
    obtain ⟨j, rfl⟩ : ∃ j : Nat, op = ((j + 1 : Nat) : Int) := ⟨(op - 1).toNat, by omega⟩
    have hl : j + 1 < ([] :: opNames).length := by simp [opNames]; omega
    rw [Int.toNat_natCast, getD_map bs _ _ default [] hl, show (((j + 1 : Nat) : Int) - 1).toNat = j by omega]
    rfl
  · have e : opValid op = false := by simp [opValid]; omega
    rw [e] at hv
    refine Pure.of_spec (Spec.of_run (fn := Tryd.f36) Tryd.func36 rfl rfl (by kernel_rfl) ?_) (by first | assumption | rfl | (split <;> rfl) | (split <;> split <;> rfl))
    repeat' (first | refine Run.ctl rfl ?_ | (refine Rg.op false tok rfl rfl rfl rfl ?_ ?_ ?_; (first | exact True.intro | omega | (simp; done) | (simp; omega) | decide +kernel); (first | exact trivial | exact .inl rfl | exact .inr rfl)) | refine Rg.call (hv) rfl rfl rfl rfl rfl ⟨⟨.refl _, trivial⟩, rfl⟩ ?_ | (refine Rg.op true tok rfl rfl rfl rfl ?_ ?_ ?_; (first | exact True.intro | omega | (simp; done) | (simp; omega) | decide +kernel); (first | exact trivial | exact .inl rfl | exact .inr rfl)) | refine Rg.nil ?_ | refine Rg.skip rfl rfl rfl ?_ | refine Run.regR ?_ | refine Run.drwR mixed (by kernel_rfl) rfl ?_ | refine Run.condT rfl ?_ | refine Run.condF rfl ?_ | (refine Run.condB rfl (fun hc => ?_) (fun hc => ?_) <;> ((try simp only [cs] at hc))) | ((fail_if_success (refine Rg.lit true rfl ?_)); (fail_if_success (refine Rg.lit false rfl ?_)); refine Rg.guard rfl (fun hc => ?_) (fun hc => ?_) <;> ((try simp only [cs] at hc))))
    (first | refine Run.ret tok Tryd.func36 rfl ?_ | refine Run.fall tok Tryd.func36 rfl ?_)
    refine .ofStr ?_
    unfold opName
    rw [if_neg (by rw [e]; simp)]
    rfl
theorem rfind_ (s : List UInt8) : Pure Tryd.prog 50 [str (bs s)] (findP s) := by
  obtain ⟨pv, hpv⟩ : ∃ pv, pv = findP s := ⟨_, rfl⟩
  have hcl : closedB pv = true := by rw [hpv]; unfold findP; split <;> rfl
  rw [← hpv]
  have hlen : opNames.length = 25 := rfl
  refine Pure.of_spec (Spec.of_run (fn := Tryd.f50) Tryd.func50 rfl rfl (by kernel_rfl) ?_) (by first | assumption | rfl | (split <;> rfl) | (split <;> split <;> rfl))
  repeat' (first | refine Run.ctl rfl ?_ | (refine Rg.op false tok rfl rfl rfl rfl ?_ ?_ ?_; (first | exact True.intro | omega | (simp; done) | (simp; omega) | decide +kernel); (first | exact trivial | exact .inl rfl | exact .inr rfl)) | refine Rg.call (rnames_) rfl rfl rfl rfl rfl ⟨trivial, rfl⟩ ?_ | (refine Rg.op true tok rfl rfl rfl rfl ?_ ?_ ?_; (first | exact True.intro | omega | (simp; done) | (simp; omega) | decide +kernel); (first | exact trivial | exact .inl rfl | exact .inr rfl)) | refine Rg.nil ?_ | refine Rg.skip rfl rfl rfl ?_ | refine Run.regR ?_ | refine Run.drwR mixed (by kernel_rfl) rfl ?_ | refine Run.condT rfl ?_ | refine Run.condF rfl ?_ | (refine Run.condB rfl (fun hc => ?_) (fun hc => ?_) <;> ((try simp only [cs] at hc))) | ((fail_if_success (refine Rg.lit true rfl ?_)); (fail_if_success (refine Rg.lit false rfl ?_)); refine Rg.guard rfl (fun hc => ?_) (fun hc => ?_) <;> ((try simp only [cs] at hc))))
  refine Run.loopAt (ι := Nat) (fun i => ([(0, str (bs s)), (4, sl 1 eStr (([] :: opNames).map bs)), (5, i64 (i + 1 : Nat))], [])) (fun i => i ≤ 25 ∧ findIn s (opNames.drop i) i = findIn s opNames 0) (fun i => 25 - i) 0 ⟨rfl, rfl, rfl, trivial⟩ rfl ⟨by omega, rfl⟩ ?_
  rintro i ⟨hi, hf⟩ back
  have hg : i < 25 → (([] :: opNames).map bs).getD (i + 1) default = bs (opNames.getD i []) := fun h => getD_map bs _ _ default [] (by simp [hlen]; omega)
  have hll : ((([] :: opNames).map bs).length) = 26 := rfl
  repeat' (first | refine Run.ctl rfl ?_ | (refine Rg.op false tok rfl rfl rfl rfl ?_ ?_ ?_; (first | exact True.intro | omega | (rw [hll]; omega) | (simp; done) | (simp; omega) | decide +kernel); (first | exact trivial | exact .inl rfl | exact .inr rfl)) | (refine Rg.op true tok rfl rfl rfl rfl ?_ ?_ ?_; (first | exact True.intro | omega | (rw [hll]; omega) | (simp; done) | (simp; omega) | decide +kernel); (first | exact trivial | exact .inl rfl | exact .inr rfl)) | refine Rg.nil ?_ | refine Rg.skip rfl rfl rfl ?_ | refine Run.regR ?_ | refine Run.drwR mixed (by kernel_rfl) rfl ?_ | refine Run.condT rfl ?_ | refine Run.condF rfl ?_ | (refine Run.condB rfl (fun hc => ?_) (fun hc => ?_) <;> ((try simp only [cs] at hc))) | ((fail_if_success (refine Rg.lit true rfl ?_)); (fail_if_success (refine Rg.lit false rfl ?_)); refine Rg.guard rfl (fun hc => ?_) (fun hc => ?_) <;> ((try simp only [cs] at hc))))
  · have h1 : i < 25 := by rw [hll] at *; omega
    rw [hg h1, bs_toL, bs_toL] at hc
    rw [findIn_drop s opNames i (by omega), if_pos hc] at hf
    (first | refine Run.ret tok Tryd.func50 rfl ?_ | refine Run.fall tok Tryd.func50 rfl ?_)
    rw [hpv]
    unfold findP opFind
    rw [← hf, if_neg (by omega)]
    exact .refl _
  · have h1 : i < 25 := by rw [hll] at *; omega
    rw [hg h1, bs_toL, bs_toL] at hc
    rw [findIn_drop s opNames i (by omega), if_neg hc] at hf
    exact back (i + 1) _ _ ⟨by omega, hf⟩ (by omega) ⟨rfl, rfl, rfl, trivial⟩ rfl
  · have : i = 25 := by rw [hll] at *; omega
    subst this
    rw [show opNames.drop 25 = [] from rfl] at hf
    (first | refine Run.ret tok Tryd.func50 rfl ?_ | refine Run.fall tok Tryd.func50 rfl ?_)
    rw [hpv]
    unfold findP opFind
    rw [← hf]
    exact .refl _
theorem opName_bad {op : Int} (h : opValid op = false) : opName op = [] := by unfold opName; rw [if_neg (by rw [h]; simp)]
theorem rline_ (i : Instr) (h : i.ok) : Pure Tryd.prog 34 [pInstr i] (str (bs (lineOf i))) := by
  have hN := opName_len i.op
  have hA := Lib.itoa_length_le i.a h.2.1 h.2.2
  have hop := fun h => operand_valid (op := i.op) h
  have hbad := opName_bad (op := i.op)
  refine Pure.of_spec (Spec.of_run (fn := Tryd.f34) Tryd.func34 rfl rfl (by kernel_rfl) ?_) (by first | assumption | rfl | (split <;> rfl) | (split <;> split <;> rfl))
  repeat' (first | refine Run.ctl rfl ?_ | (refine Rg.op false tok rfl rfl rfl rfl ?_ ?_ ?_; (first | exact True.intro | omega | (simp only [ByteArray.size_append, mk_bs, bs_size, List.length_cons, List.length_nil]; omega) | (simp; done) | (simp; omega) | decide +kernel); (first | exact trivial | exact .inl rfl | exact .inr rfl)) | refine Rg.call (roperand_ i.op) rfl rfl rfl rfl rfl ⟨⟨.refl _, trivial⟩, rfl⟩ ?_ | refine Rg.call (rvalid_ i.op) rfl rfl rfl rfl rfl ⟨⟨.refl _, trivial⟩, rfl⟩ ?_ | refine Rg.call (rname_op i.op) rfl rfl rfl rfl rfl ⟨⟨.refl _, trivial⟩, rfl⟩ ?_ | refine Rg.call (decimal_ i.a h.2) rfl rfl rfl rfl rfl ⟨⟨.refl _, trivial⟩, rfl⟩ ?_ | (refine Rg.op true tok rfl rfl rfl rfl ?_ ?_ ?_; (first | exact True.intro | omega | (simp only [ByteArray.size_append, mk_bs, bs_size, List.length_cons, List.length_nil]; omega) | (simp; done) | (simp; omega) | decide +kernel); (first | exact trivial | exact .inl rfl | exact .inr rfl)) | refine Rg.nil ?_ | refine Rg.skip rfl rfl rfl ?_ | refine Run.regR ?_ | refine Run.drwR mixed (by kernel_rfl) rfl ?_ | refine Run.condT rfl ?_ | refine Run.condF rfl ?_ | (refine Run.condB rfl (fun hc => ?_) (fun hc => ?_) <;> ((try simp only [cs] at hc))) | ((fail_if_success (refine Rg.lit true rfl ?_)); (fail_if_success (refine Rg.lit false rfl ?_)); refine Rg.guard rfl (fun hc => ?_) (fun hc => ?_) <;> ((try simp only [cs] at hc))))
  all_goals ((first | refine Run.ret tok Tryd.func34 rfl ?_ | refine Run.fall tok Tryd.func34 rfl ?_); refine .ofStr ?_; unfold lineOf)
  all_goals (try simp only [mk_bs, bs_app])
  all_goals refine congrArg bs ?_
  all_goals (first | (simp_all; done) | (cases hv : opValid i.op <;> simp_all))
theorem rcodeText_ (l : List Instr) (hok : ∀ x ∈ l, x.ok) (hl : l.length ≤ 10000) : Pure Tryd.prog 31 [sl 2 eInstr l] (str (bs (codeText l))) := by
  refine Pure.of_spec (Spec.of_run (fn := Tryd.f31) Tryd.func31 rfl rfl (by kernel_rfl) ?_) (by first | assumption | rfl | (split <;> rfl) | (split <;> split <;> rfl))
  repeat' (first | refine Run.ctl rfl ?_ | (refine Rg.op false tok rfl rfl rfl rfl ?_ ?_ ?_; (first | exact True.intro | omega | (simp; done) | (simp; omega) | decide +kernel); (first | exact trivial | exact .inl rfl | exact .inr rfl)) | (refine Rg.op true tok rfl rfl rfl rfl ?_ ?_ ?_; (first | exact True.intro | omega | (simp; done) | (simp; omega) | decide +kernel); (first | exact trivial | exact .inl rfl | exact .inr rfl)) | refine Rg.nil ?_ | refine Rg.skip rfl rfl rfl ?_ | refine Run.regR ?_ | refine Run.drwR mixed (by kernel_rfl) rfl ?_ | refine Run.condT rfl ?_ | refine Run.condF rfl ?_ | (refine Run.condB rfl (fun hc => ?_) (fun hc => ?_) <;> ((try simp only [cs] at hc))) | ((fail_if_success (refine Rg.lit true rfl ?_)); (fail_if_success (refine Rg.lit false rfl ?_)); refine Rg.guard rfl (fun hc => ?_) (fun hc => ?_) <;> ((try simp only [cs] at hc))))
  refine Run.loopAt (ι := Nat) (fun i => ([(0, sl 2 eInstr l), (3, str (bs (lined lineOf (l.take i)))), (4, i64 i)], [])) (fun i => i ≤ l.length ∧ ∀ x ∈ l.take i, lineOf x ≠ []) (fun i => l.length - i) 0 ⟨rfl, rfl, rfl, trivial⟩ rfl ⟨by omega, by simp⟩ ?_
  rintro i ⟨hi, hne⟩ back
  by_cases hlt : i < l.length
  · have hx := hok _ (getD_mem hlt)
    have hline := rline_ _ hx
    have hll := lineOf_len _ hx
    have hsn := lined_snoc l i hlt
    have htl : (lined lineOf (l.take i)).length ≤ 31 * l.length := by
      have := lined_len (l.take i) (fun x hx => hok x (List.mem_of_mem_take hx))
      rw [List.length_take] at this; omega
    by_cases h0 : lineOf (l.getD i default) = []
    · have hz : (bs (lineOf (l.getD i default))).toList = (ByteArray.mk #[]).toList := by rw [h0]; rfl
      repeat' (first | refine Run.ctl rfl ?_ | (refine Rg.op false tok rfl rfl rfl rfl ?_ ?_ ?_; (first | exact True.intro | omega | (simp; done) | (simp; omega) | decide +kernel); (first | exact trivial | exact .inl rfl | exact .inr rfl)) | refine Rg.call (hline) rfl rfl rfl rfl rfl ⟨⟨.refl _, trivial⟩, rfl⟩ ?_ | (refine Rg.op true tok rfl rfl rfl rfl ?_ ?_ ?_; (first | exact True.intro | omega | (simp; done) | (simp; omega) | decide +kernel); (first | exact trivial | exact .inl rfl | exact .inr rfl)) | refine Rg.nil ?_ | refine Rg.skip rfl rfl rfl ?_ | refine Run.regR ?_ | refine Run.drwR mixed (by kernel_rfl) rfl ?_ | refine Run.condT rfl ?_ | refine Run.condF rfl ?_ | (refine Run.condB rfl (fun hc => ?_) (fun hc => ?_) <;> ((try simp only [cs] at hc); (first | ((exfalso; omega); done) | ((exact absurd hz hc); done) | skip))) | ((fail_if_success (refine Rg.lit true rfl ?_)); (fail_if_success (refine Rg.lit false rfl ?_)); refine Rg.guard rfl (fun hc => ?_) (fun hc => ?_) <;> ((try simp only [cs] at hc); (first | ((exfalso; omega); done) | ((exact absurd hz hc); done) | skip))))
      (first | refine Run.ret tok Tryd.func31 rfl ?_ | refine Run.fall tok Tryd.func31 rfl ?_)
      refine .ofStr ?_
      have : codeText l = [] := by
        unfold codeText textG
        rw [if_pos]
        simp only [List.any_eq_true]
        exact ⟨_, getD_mem hlt, by rw [h0]; rfl⟩
      rw [this]; rfl
    · have hz := toL_ne _ h0
      repeat' (first | refine Run.ctl rfl ?_ | (refine Rg.op false tok rfl rfl rfl rfl ?_ ?_ ?_; (first | exact True.intro | omega | (simp only [ByteArray.size_append, mk_bs, bs_size, List.length_cons, List.length_nil]; omega) | (simp; done) | (simp; omega) | decide +kernel); (first | exact trivial | exact .inl rfl | exact .inr rfl)) | refine Rg.call (hline) rfl rfl rfl rfl rfl ⟨⟨.refl _, trivial⟩, rfl⟩ ?_ | (refine Rg.op true tok rfl rfl rfl rfl ?_ ?_ ?_; (first | exact True.intro | omega | (simp only [ByteArray.size_append, mk_bs, bs_size, List.length_cons, List.length_nil]; omega) | (simp; done) | (simp; omega) | decide +kernel); (first | exact trivial | exact .inl rfl | exact .inr rfl)) | refine Rg.nil ?_ | refine Rg.skip rfl rfl rfl ?_ | refine Run.regR ?_ | refine Run.drwR mixed (by kernel_rfl) rfl ?_ | refine Run.condT rfl ?_ | refine Run.condF rfl ?_ | (refine Run.condB rfl (fun hc => ?_) (fun hc => ?_) <;> ((try simp only [cs] at hc); (first | ((exfalso; omega); done) | ((exact absurd hc hz); done) | skip))) | ((fail_if_success (refine Rg.lit true rfl ?_)); (fail_if_success (refine Rg.lit false rfl ?_)); refine Rg.guard rfl (fun hc => ?_) (fun hc => ?_) <;> ((try simp only [cs] at hc); (first | ((exfalso; omega); done) | ((exact absurd hc hz); done) | skip))))
      refine back (i + 1) _ _ ⟨hlt, fun x hx => ?_⟩ (by omega) ⟨rfl, ?_, rfl, trivial⟩ rfl
      · rw [List.take_add_one, List.getElem?_eq_getElem hlt] at hx
        rcases List.mem_append.1 hx with hx | hx
        · exact hne x hx
        · simp at hx
          rw [List.getD_eq_getElem?_getD, List.getElem?_eq_getElem hlt] at h0
          rw [hx]; exact h0
      · show PV.atom (.string (bs (lined lineOf (l.take i)) ++ bs (lineOf (l.getD i default)) ++ ByteArray.mk #[10])) = str (bs _)
        rw [hsn, mk_bs, bs_app, bs_app, List.append_assoc]
        rfl
  · repeat' (first | refine Run.ctl rfl ?_ | (refine Rg.op false tok rfl rfl rfl rfl ?_ ?_ ?_; (first | exact True.intro | omega | (simp; done) | (simp; omega) | decide +kernel); (first | exact trivial | exact .inl rfl | exact .inr rfl)) | (refine Rg.op true tok rfl rfl rfl rfl ?_ ?_ ?_; (first | exact True.intro | omega | (simp; done) | (simp; omega) | decide +kernel); (first | exact trivial | exact .inl rfl | exact .inr rfl)) | refine Rg.nil ?_ | refine Rg.skip rfl rfl rfl ?_ | refine Run.regR ?_ | refine Run.drwR mixed (by kernel_rfl) rfl ?_ | refine Run.condT rfl ?_ | refine Run.condF rfl ?_ | (refine Run.condB rfl (fun hc => ?_) (fun hc => ?_) <;> ((try simp only [cs] at hc); (first | ((exfalso; omega); done) | skip))) | ((fail_if_success (refine Rg.lit true rfl ?_)); (fail_if_success (refine Rg.lit false rfl ?_)); refine Rg.guard rfl (fun hc => ?_) (fun hc => ?_) <;> ((try simp only [cs] at hc); (first | ((exfalso; omega); done) | skip))))
    (first | refine Run.ret tok Tryd.func31 rfl ?_ | refine Run.fall tok Tryd.func31 rfl ?_)
    refine .ofStr ?_
    have hil : i = l.length := by omega
    have : codeText l = lined lineOf l := by
      unfold codeText textG
      rw [if_neg]
      rw [hil, List.take_length] at hne
      simpa using hne
    rw [this, hil, List.take_length]
theorem instr_list (a b : Instr) : [a.op, a.a] = [b.op, b.a] ↔ a = b := by
  cases a; cases b; simp
theorem take_eq {α : Type} [Inhabited α] {a b : List α} {i : Nat} (ha : i < a.length) (hb : i < b.length) (h : a.take i = b.take i) (hg : a.getD i default = b.getD i default) : a.take (i + 1) = b.take (i + 1) := by
  rw [List.getD_eq_getElem?_getD, List.getElem?_eq_getElem ha, List.getD_eq_getElem?_getD, List.getElem?_eq_getElem hb] at hg
  simp at hg
  rw [List.take_add_one, List.take_add_one, List.getElem?_eq_getElem ha, List.getElem?_eq_getElem hb, h, hg]
theorem codeEq_ (a b : List Instr) (hl : a.length ≤ 100000) : Pure Tryd.prog 32 [sl 2 eInstr a, sl 2 eInstr b] (bl (decide (a = b))) := by
  by_cases hlen : a.length = b.length
  · refine Pure.of_spec (Spec.of_run (fn := Tryd.f32) Tryd.func32 rfl rfl (by kernel_rfl) ?_) (by first | assumption | rfl | (split <;> rfl) | (split <;> split <;> rfl))
    repeat' (first | refine Run.ctl rfl ?_ | (refine Rg.op false tok rfl rfl rfl rfl ?_ ?_ ?_; (first | exact True.intro | omega | (simp; done) | (simp; omega) | decide +kernel); (first | exact trivial | exact .inl rfl | exact .inr rfl)) | (refine Rg.op true tok rfl rfl rfl rfl ?_ ?_ ?_; (first | exact True.intro | omega | (simp; done) | (simp; omega) | decide +kernel); (first | exact trivial | exact .inl rfl | exact .inr rfl)) | refine Rg.nil ?_ | refine Rg.skip rfl rfl rfl ?_ | refine Run.regR ?_ | refine Run.drwR mixed (by kernel_rfl) rfl ?_ | refine Run.condT rfl ?_ | refine Run.condF rfl ?_ | (refine Run.condB rfl (fun hc => ?_) (fun hc => ?_) <;> ((try simp only [cs] at hc); (first | ((exfalso; omega); done) | skip))) | ((fail_if_success (refine Rg.lit true rfl ?_)); (fail_if_success (refine Rg.lit false rfl ?_)); refine Rg.guard rfl (fun hc => ?_) (fun hc => ?_) <;> ((try simp only [cs] at hc); (first | ((exfalso; omega); done) | skip))))
    refine Run.loopAt (ι := Nat) (fun i => ([(0, sl 2 eInstr a), (1, sl 2 eInstr b), (5, i64 i)], [])) (fun i => i ≤ a.length ∧ a.take i = b.take i) (fun i => a.length - i) 0 ⟨rfl, rfl, rfl, trivial⟩ rfl ⟨by omega, rfl⟩ ?_
    rintro i ⟨hi, ht⟩ back
    repeat' (first | refine Run.ctl rfl ?_ | (refine Rg.op false tok rfl rfl rfl rfl ?_ ?_ ?_; (first | exact True.intro | omega | (simp; done) | (simp; omega) | decide +kernel); (first | exact trivial | exact .inl rfl | exact .inr rfl)) | (refine Rg.op true tok rfl rfl rfl rfl ?_ ?_ ?_; (first | exact True.intro | omega | (simp; done) | (simp; omega) | decide +kernel); (first | exact trivial | exact .inl rfl | exact .inr rfl)) | refine Rg.nil ?_ | refine Rg.skip rfl rfl rfl ?_ | refine Run.regR ?_ | refine Run.drwR mixed (by kernel_rfl) rfl ?_ | refine Run.condT rfl ?_ | refine Run.condF rfl ?_ | (refine Run.condB rfl (fun hc => ?_) (fun hc => ?_) <;> ((try simp only [cs] at hc))) | ((fail_if_success (refine Rg.lit true rfl ?_)); (fail_if_success (refine Rg.lit false rfl ?_)); refine Rg.guard rfl (fun hc => ?_) (fun hc => ?_) <;> ((try simp only [cs] at hc))))
    · have h1 : i < a.length := by omega
      rw [instr_list] at hc
      (first | refine Run.ret tok Tryd.func32 rfl ?_ | refine Run.fall tok Tryd.func32 rfl ?_)
      refine .ofBool ?_
      symm
      rw [decide_eq_false_iff_not]
      rintro rfl
      exact hc rfl
    · have h1 : i < a.length := by omega
      rw [instr_list] at hc
      exact back (i + 1) _ _ ⟨by omega, take_eq h1 (by omega) ht hc⟩ (by omega) ⟨rfl, rfl, rfl, trivial⟩ rfl
    · have : i = a.length := by omega
      subst this
      (first | refine Run.ret tok Tryd.func32 rfl ?_ | refine Run.fall tok Tryd.func32 rfl ?_)
      refine .ofBool ?_
      symm
      rw [decide_eq_true_eq]
      rw [List.take_length, hlen, List.take_length] at ht
      exact ht
  · refine Pure.of_spec (Spec.of_run (fn := Tryd.f32) Tryd.func32 rfl rfl (by kernel_rfl) ?_) (by first | assumption | rfl | (split <;> rfl) | (split <;> split <;> rfl))
    repeat' (first | refine Run.ctl rfl ?_ | (refine Rg.op false tok rfl rfl rfl rfl ?_ ?_ ?_; (first | exact True.intro | omega | (simp; done) | (simp; omega) | decide +kernel); (first | exact trivial | exact .inl rfl | exact .inr rfl)) | (refine Rg.op true tok rfl rfl rfl rfl ?_ ?_ ?_; (first | exact True.intro | omega | (simp; done) | (simp; omega) | decide +kernel); (first | exact trivial | exact .inl rfl | exact .inr rfl)) | refine Rg.nil ?_ | refine Rg.skip rfl rfl rfl ?_ | refine Run.regR ?_ | refine Run.drwR mixed (by kernel_rfl) rfl ?_ | refine Run.condT rfl ?_ | refine Run.condF rfl ?_ | (refine Run.condB rfl (fun hc => ?_) (fun hc => ?_) <;> ((try simp only [cs] at hc); (first | ((exfalso; omega); done) | skip))) | ((fail_if_success (refine Rg.lit true rfl ?_)); (fail_if_success (refine Rg.lit false rfl ?_)); refine Rg.guard rfl (fun hc => ?_) (fun hc => ?_) <;> ((try simp only [cs] at hc); (first | ((exfalso; omega); done) | skip))))
    (first | refine Run.ret tok Tryd.func32 rfl ?_ | refine Run.fall tok Tryd.func32 rfl ?_)
    refine .ofBool ?_
    symm
    rw [decide_eq_false_iff_not]
    rintro rfl
    exact hlen rfl
end Go.Proofs.YtocfjbopkgmjkaaDoor.W
