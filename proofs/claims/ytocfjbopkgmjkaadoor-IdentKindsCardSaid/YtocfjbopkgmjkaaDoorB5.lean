/- Walks: just events that there may be have a name; events stand by their kinds (chapter 7). -/
import Derived.Test.YtocfjbopkgmjkaaDoorB3
set_option linter.unusedVariables false
set_option linter.unusedSimpArgs false
set_option linter.unusedSectionVars false
set_option pp.maxSteps 3000
set_option maxHeartbeats 1000000
namespace Go.Proofs.YtocfjbopkgmjkaaDoor.W
open Go Go.Sy

theorem nilB : (ByteArray.mk #[]).toList = [] := by rw [ByteArray.toList_eq]
theorem toL_ne (l : List UInt8) (h : l ≠ []) : ¬ (bs l).toList = (ByteArray.mk #[]).toList := fun e => h (by have := (toL_nil _).1 e; rwa [bs_toList] at this)
/-- Neither of a message without an actor, nor of an actor without a message: no name. -/
theorem identNames_none (e : Ev) (he : e.ok) (h1 : ¬ (1 ≤ e.kind ∧ e.kind ≤ 3 ∧ e.who = 0)) (h2 : ¬ ((e.kind = 4 ∨ e.kind = 5) ∧ [e.id.from_, e.id.n, e.id.copy] = [0, 0, 0])) : Pure Tryd.prog 6 [pEv e] (bl true) := by
  have hn : nameEv e = [] := by
    rcases nameEv_cases e with ⟨k, hk, a, b, c⟩ | ⟨k, hk, a, b⟩ | h
    · exact absurd ⟨by omega, by omega, c⟩ h1
    · exact absurd ⟨by omega, by rw [b]⟩ h2
    · exact h
  have hz : (bs (nameEv e)).toList = (ByteArray.mk #[]).toList := by rw [hn]; rfl
  have hz' : (bs (nameEv e)).toList = [] := hz.trans nilB
  have hq : (e.kind = 4 ∨ e.kind = 5) → ([e.id.from_, e.id.n, e.id.copy] == [0, 0, 0]) = false := fun h => beq_eq_false_iff_ne.2 fun g => h2 ⟨h, g⟩
  refine Pure.of_spec (Spec.of_run (fn := Tryd.f6) Tryd.func6 rfl rfl (by kernel_rfl) ?_) (by first | assumption | rfl | (split <;> rfl) | (split <;> split <;> rfl))
  repeat' (first | refine Run.ctl rfl ?_ | (refine Rg.op false tok rfl rfl rfl rfl ?_ ?_ ?_; (first | exact True.intro | omega | (simp; done) | (simp; omega) | decide +kernel); (first | exact trivial | exact .inl rfl | exact .inr rfl)) | refine Rg.call (name_ e he) rfl rfl rfl rfl rfl ⟨⟨.refl _, trivial⟩, rfl⟩ ?_ | refine Rg.call (fault_ e) rfl rfl rfl rfl rfl ⟨⟨.refl _, trivial⟩, rfl⟩ ?_ | refine Rg.call (awake7_) rfl rfl rfl rfl rfl ⟨trivial, rfl⟩ ?_ | (refine Rg.op true tok rfl rfl rfl rfl ?_ ?_ ?_; (first | exact True.intro | omega | (simp; done) | (simp; omega) | decide +kernel); (first | exact trivial | exact .inl rfl | exact .inr rfl)) | refine Rg.nil ?_ | refine Rg.skip rfl rfl rfl ?_ | refine Run.regR ?_ | refine Run.drwR mixed (by kernel_rfl) rfl ?_ | refine Run.condT rfl ?_ | refine Run.condF rfl ?_ | (refine Run.condB rfl (fun hc => ?_) (fun hc => ?_) <;> ((try simp only [cs] at hc); (first | ((exact absurd hz hc); done) | ((exfalso; simp [faultEv] at hc; omega); done) | ((exfalso; omega); done) | ((exfalso; refine h2 ⟨?_, hc⟩; omega); done) | ((exfalso; rw [hq (by omega)] at hc; simp [hz'] at hc); done) | skip))) | ((fail_if_success (refine Rg.lit true rfl ?_)); (fail_if_success (refine Rg.lit false rfl ?_)); refine Rg.guard rfl (fun hc => ?_) (fun hc => ?_) <;> ((try simp only [cs] at hc); (first | ((exact absurd hz hc); done) | ((exfalso; simp [faultEv] at hc; omega); done) | ((exfalso; omega); done) | ((exfalso; refine h2 ⟨?_, hc⟩; omega); done) | ((exfalso; rw [hq (by omega)] at hc; simp [hz'] at hc); done) | skip))))
  all_goals (refine Run.ret tok Tryd.func6 rfl ?_; exact .refl _)
theorem identNames_act (e : Ev) (he : e.ok) (h1 : e.kind = 4 ∨ e.kind = 5) (h2 : e.id = ⟨0, 0, 0⟩) : Pure Tryd.prog 6 [pEv e] (bl true) := by
  have hn : nameEv e ≠ [] := by
    unfold nameEv
    rw [if_neg (by simp [isMsg]; omega), if_pos (by simp [isAct, h1, h2])]
    simp
  have hz := toL_ne _ hn
  have hz' : ¬ (bs (nameEv e)).toList = [] := fun h => hz (h.trans nilB.symm)
  have hi : [e.id.from_, e.id.n, e.id.copy] = [0, 0, 0] := by rw [h2]
  have hq : ([e.id.from_, e.id.n, e.id.copy] == [0, 0, 0]) = true := by rw [hi]; rfl
  refine Pure.of_spec (Spec.of_run (fn := Tryd.f6) Tryd.func6 rfl rfl (by kernel_rfl) ?_) (by first | assumption | rfl | (split <;> rfl) | (split <;> split <;> rfl))
  repeat' (first | refine Run.ctl rfl ?_ | (refine Rg.op false tok rfl rfl rfl rfl ?_ ?_ ?_; (first | exact True.intro | omega | (simp; done) | (simp; omega) | decide +kernel); (first | exact trivial | exact .inl rfl | exact .inr rfl)) | refine Rg.call (name_ e he) rfl rfl rfl rfl rfl ⟨⟨.refl _, trivial⟩, rfl⟩ ?_ | refine Rg.call (fault_ e) rfl rfl rfl rfl rfl ⟨⟨.refl _, trivial⟩, rfl⟩ ?_ | refine Rg.call (awake7_) rfl rfl rfl rfl rfl ⟨trivial, rfl⟩ ?_ | (refine Rg.op true tok rfl rfl rfl rfl ?_ ?_ ?_; (first | exact True.intro | omega | (simp; done) | (simp; omega) | decide +kernel); (first | exact trivial | exact .inl rfl | exact .inr rfl)) | refine Rg.nil ?_ | refine Rg.skip rfl rfl rfl ?_ | refine Run.regR ?_ | refine Run.drwR mixed (by kernel_rfl) rfl ?_ | refine Run.condT rfl ?_ | refine Run.condF rfl ?_ | (refine Run.condB rfl (fun hc => ?_) (fun hc => ?_) <;> ((try simp only [cs] at hc); (first | ((exact absurd hc hz); done) | ((exact absurd hi hc); done) | ((exfalso; rw [hq] at hc; simp [hz'] at hc); done) | ((exfalso; omega); done) | ((exfalso; simp [faultEv] at hc; omega); done) | skip))) | ((fail_if_success (refine Rg.lit true rfl ?_)); (fail_if_success (refine Rg.lit false rfl ?_)); refine Rg.guard rfl (fun hc => ?_) (fun hc => ?_) <;> ((try simp only [cs] at hc); (first | ((exact absurd hc hz); done) | ((exact absurd hi hc); done) | ((exfalso; rw [hq] at hc; simp [hz'] at hc); done) | ((exfalso; omega); done) | ((exfalso; simp [faultEv] at hc; omega); done) | skip))))
  all_goals (refine Run.ret tok Tryd.func6 rfl ?_; exact .refl _)
theorem cutTail (a b : List UInt8) : ((bs (a ++ b)).extract ((((bs (a ++ b)).size : Nat) : Int) - (((bs b).size : Nat) : Int)).toNat ((((bs (a ++ b)).size : Nat) : Int)).toNat) = bs b := by
  rw [extract_bs, bs_toList, bs_size, bs_size]
  congr 1
  have : (((a ++ b).length : Nat) : Int) - ((b.length : Nat) : Int) = ((a.length : Nat) : Int) := by simp
  rw [this, Int.toNat_natCast, Int.toNat_natCast, List.take_length, List.drop_left]
theorem identNames_msg (e : Ev) (he : e.ok) (h1 : 1 ≤ e.kind) (h3 : e.kind ≤ 3) (hw : e.who = 0) : Pure Tryd.prog 6 [pEv e] (bl true) := by
  have hN : nameEv e = (kindName e.kind ++ [32]) ++ textID e.id := by
    unfold nameEv
    rw [if_pos (by simp [isMsg, hw]; omega)]
  have hK : nameEv { e with who := 1 } = [] := by
    unfold nameEv
    rw [if_neg (by simp), if_neg (by simp [isAct]; omega)]
  have hy : (bs []).toList = (ByteArray.mk #[]).toList := rfl
  have n1 := name_ e he
  have n2 := name_ { e with who := 1 } ⟨he.1, he.2.1, R64_small 1 (by decide)⟩
  rw [hN] at n1
  rw [hK] at n2
  have hz' : ¬ (bs ((kindName e.kind ++ [32]) ++ textID e.id)).toList = [] := fun h => toL_ne _ (by simp) (h.trans nilB.symm)
  have hz := toL_ne ((kindName e.kind ++ [32]) ++ textID e.id) (by simp)
  have hcut := cutTail (kindName e.kind ++ [32]) (textID e.id)
  have hl : (bs (textID e.id)).size < (bs ((kindName e.kind ++ [32]) ++ textID e.id)).size := by rw [bs_size, bs_size]; simp; omega
  have hNs : (bs ((kindName e.kind ++ [32]) ++ textID e.id)).size ≤ 100 := by rw [bs_size, ← hN]; exact nameEv_len e he
  generalize bs ((kindName e.kind ++ [32]) ++ textID e.id) = N at *
  have ht := text_ e.id he.2.1
  generalize bs (textID e.id) = t at *
  refine Pure.of_spec (Spec.of_run (fn := Tryd.f6) Tryd.func6 rfl rfl (by kernel_rfl) ?_) (by first | assumption | rfl | (split <;> rfl) | (split <;> split <;> rfl))
  repeat' (first | refine Run.ctl rfl ?_ | (refine Rg.op false tok rfl rfl rfl rfl ?_ ?_ ?_; (first | exact True.intro | omega | (simp; done) | (simp; omega) | decide +kernel); (first | exact trivial | exact .inl rfl | exact .inr rfl)) | refine Rg.call (n1) rfl rfl rfl rfl rfl ⟨⟨.refl _, trivial⟩, rfl⟩ ?_ | refine Rg.call (n2) rfl rfl rfl rfl rfl ⟨⟨.refl _, trivial⟩, rfl⟩ ?_ | refine Rg.call (ht) rfl rfl rfl rfl rfl ⟨⟨.refl _, trivial⟩, rfl⟩ ?_ | refine Rg.call (fault_ e) rfl rfl rfl rfl rfl ⟨⟨.refl _, trivial⟩, rfl⟩ ?_ | refine Rg.call (awake7_) rfl rfl rfl rfl rfl ⟨trivial, rfl⟩ ?_ | (refine Rg.op true tok rfl rfl rfl rfl ?_ ?_ ?_; (first | exact True.intro | omega | (simp; done) | (simp; omega) | decide +kernel); (first | exact trivial | exact .inl rfl | exact .inr rfl)) | refine Rg.nil ?_ | refine Rg.skip rfl rfl rfl ?_ | refine Run.regR ?_ | refine Run.drwR mixed (by kernel_rfl) rfl ?_ | refine Run.condT rfl ?_ | refine Run.condF rfl ?_ | (refine Run.condB rfl (fun hc => ?_) (fun hc => ?_) <;> ((try simp only [cs] at hc); (first | ((exact absurd hc hz); done) | ((exfalso; omega); done) | ((exfalso; simp [faultEv] at hc; omega); done) | ((exact absurd (congrArg ByteArray.toList hcut) hc); done) | ((exact absurd hy hc); done) | ((exfalso; simp [hz'] at hc); done) | ((exfalso; simp [faultEv] at hc); done) | skip))) | ((fail_if_success (refine Rg.lit true rfl ?_)); (fail_if_success (refine Rg.lit false rfl ?_)); refine Rg.guard rfl (fun hc => ?_) (fun hc => ?_) <;> ((try simp only [cs] at hc); (first | ((exact absurd hc hz); done) | ((exfalso; omega); done) | ((exfalso; simp [faultEv] at hc; omega); done) | ((exact absurd (congrArg ByteArray.toList hcut) hc); done) | ((exact absurd hy hc); done) | ((exfalso; simp [hz'] at hc); done) | ((exfalso; simp [faultEv] at hc); done) | skip))))
  all_goals (refine Run.ret tok Tryd.func6 rfl ?_; exact .refl _)
theorem tmod5 (a : Int) : 1 + ((a.tmod 5 + 5).tmod 5) = 1 + a % 5 := by
  have h1 : a.tmod 5 = if 0 ≤ a then a % 5 else -((-a) % 5) := by
    split
    · rw [Int.tmod_eq_emod_of_nonneg (by omega)]
    · have : a.tmod 5 = -((-a).tmod 5) := by rw [Int.neg_tmod]; simp
      rw [this, Int.tmod_eq_emod_of_nonneg (by omega)]
  rw [Int.tmod_eq_emod_of_nonneg (by rw [h1]; split <;> omega), h1]
  split <;> omega
end Go.Proofs.YtocfjbopkgmjkaaDoor.W
