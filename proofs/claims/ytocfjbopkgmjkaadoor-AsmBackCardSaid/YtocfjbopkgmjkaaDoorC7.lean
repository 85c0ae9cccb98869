/- Walks: the law of the words of codes (chapter 5). -/
import Derived.Test.YtocfjbopkgmjkaaDoorC6
import Derived.Test.YtocfjbopkgmjkaaDoorO2
set_option linter.unusedVariables false
set_option linter.unusedSimpArgs false
set_option linter.unusedSectionVars false
set_option pp.maxSteps 3000
set_option maxHeartbeats 1000000
namespace Go.Proofs.YtocfjbopkgmjkaaDoor.W
open Go Go.Sy

theorem bs10 (l : List UInt8) : bs l ++ ByteArray.mk #[10] = bs (l ++ [10]) := by rw [mk_bs, bs_app]
theorem codeOne_ (op n : Int) : Pure Tryd.prog 32 [sl 2 eInstr [⟨op, n⟩], sl 2 eInstr [⟨op, n⟩]] (bl true) := by
  have h := codeEq_ [⟨op, n⟩] [⟨op, n⟩] (by simp)
  rwa [decide_eq_true rfl] at h
theorem asmOps_ (op n : Int) (s : ByteArray) (ho : R64 op) (hn : R64 n) : Pure Tryd.prog 11 [i64 op, i64 n, str s] (bl true) := by
  by_cases hb : s.size ≤ 50
  · have hN := opName_len op
    have hA := Lib.itoa_length_le n hn.1 hn.2
    have nm := rname_op op
    have dc := decimal_ n hn
    have od := roperand_ op
    obtain ⟨w1, w2⟩ := read_word op n ho hn
    have p1 := codeParse_ (bs (opName op) ++ ByteArray.mk #[10]) (by rw [bs10, bs_size]; simp; omega)
    have p2 := codeParse_ (bs (opName op) ++ ByteArray.mk #[32] ++ bs (Lib.itoa n) ++ ByteArray.mk #[10]) (by simp only [ByteArray.size_append, mk_bs, bs_size, List.length_cons, List.length_nil]; omega)
    rw [bs10, bs_toList, w1, ← bs10] at p1
    rw [show (bs (opName op) ++ ByteArray.mk #[32] ++ bs (Lib.itoa n) ++ ByteArray.mk #[10]).data.toList = opName op ++ [32] ++ Lib.itoa n ++ [10] by rw [mk_bs, mk_bs, bs_app, bs_app, bs_app, bs_toList], w2] at p2
    have p3 := codeParse_ (bs (opName op) ++ s ++ ByteArray.mk #[10]) (by simp only [ByteArray.size_append, mk_bs, bs_size, List.length_cons, List.length_nil]; omega)
    have p4 := rcodeParse_ (bs (opName op) ++ s ++ ByteArray.mk #[10]) (by simp only [ByteArray.size_append, mk_bs, bs_size, List.length_cons, List.length_nil]; omega)
    generalize codeIn (bs (opName op) ++ s ++ ByteArray.mk #[10]).data.toList = q at p3 p4
    cases hv : opValid op with
    | false =>
      rw [if_neg (by simp [hv])] at p1 p2
      have hz : (bs (opName op)).toList = (ByteArray.mk #[]).toList := by rw [opName_bad hv]; rfl
      unfold readP at p1 p2
      refine Pure.of_spec (Spec.of_run (fn := Tryd.f11) Tryd.func11 rfl rfl (by kernel_rfl) ?_) (by first | assumption | rfl | (split <;> rfl) | (split <;> split <;> rfl))
      repeat' (first | refine Run.ctl rfl ?_ | (refine Rg.op false tok rfl rfl rfl rfl ?_ ?_ ?_; (first | exact True.intro | omega | (simp only [ByteArray.size_append, mk_bs, bs_size, List.length_cons, List.length_nil]; omega) | (simp; done) | (simp; omega) | decide +kernel); (first | exact trivial | exact .inl rfl | exact .inr rfl)) | refine Rg.call (nm) rfl rfl rfl rfl rfl ⟨⟨.refl _, trivial⟩, rfl⟩ ?_ | refine Rg.call (dc) rfl rfl rfl rfl rfl ⟨⟨.refl _, trivial⟩, rfl⟩ ?_ | refine Rg.call (p1) rfl rfl rfl rfl rfl ⟨⟨.refl _, trivial⟩, rfl⟩ ?_ | refine Rg.call (p2) rfl rfl rfl rfl rfl ⟨⟨.refl _, trivial⟩, rfl⟩ ?_ | refine Rg.call (awake5_) rfl rfl rfl rfl rfl ⟨trivial, rfl⟩ ?_ | (refine Rg.op true tok rfl rfl rfl rfl ?_ ?_ ?_; (first | exact True.intro | omega | (simp only [ByteArray.size_append, mk_bs, bs_size, List.length_cons, List.length_nil]; omega) | (simp; done) | (simp; omega) | decide +kernel); (first | exact trivial | exact .inl rfl | exact .inr rfl)) | refine Rg.nil ?_ | refine Rg.skip rfl rfl rfl ?_ | refine Run.regR ?_ | refine Run.drwR mixed (by kernel_rfl) rfl ?_ | refine Run.condT rfl ?_ | refine Run.condF rfl ?_ | (refine Run.condB rfl (fun hc => ?_) (fun hc => ?_) <;> ((try simp only [cs] at hc); (first | ((exfalso; omega); done) | ((exact absurd hz hc); done) | ((exact absurd rfl hc); done) | skip))) | ((fail_if_success (refine Rg.lit true rfl ?_)); (fail_if_success (refine Rg.lit false rfl ?_)); refine Rg.guard rfl (fun hc => ?_) (fun hc => ?_) <;> ((try simp only [cs] at hc); (first | ((exfalso; omega); done) | ((exact absurd hz hc); done) | ((exact absurd rfl hc); done) | skip))))
      (first | refine Run.ret tok Tryd.func11 rfl ?_ | refine Run.fall tok Tryd.func11 rfl ?_)
      exact .refl _
    | true =>
      have hz := toL_ne _ (opName_ne hv)
      by_cases h0 : operand op = 0
      · rw [if_pos ⟨hv, h0⟩] at p1
        rw [if_neg (by simp [h0])] at p2
        rw [h0] at od
        unfold readP at p1 p2
        cases q <;> unfold readP at p3 p4
        all_goals
          refine Pure.of_spec (Spec.of_run (fn := Tryd.f11) Tryd.func11 rfl rfl (by kernel_rfl) ?_) (by first | assumption | rfl | (split <;> rfl) | (split <;> split <;> rfl))
          repeat' (first | refine Rg.any rfl rfl rfl (fun _ hq => G_litF tok rfl rfl rfl rfl rfl hq) (by first | exact trivial | exact .inl rfl | exact .inr rfl) ?_ | refine Run.ctl rfl ?_ | (refine Rg.op false tok rfl rfl rfl rfl ?_ ?_ ?_; (first | exact True.intro | omega | (simp only [ByteArray.size_append, mk_bs, bs_size, List.length_cons, List.length_nil]; omega) | (simp; done) | (simp; omega) | decide +kernel); (first | exact trivial | exact .inl rfl | exact .inr rfl)) | refine Rg.call (nm) rfl rfl rfl rfl rfl ⟨⟨.refl _, trivial⟩, rfl⟩ ?_ | refine Rg.call (dc) rfl rfl rfl rfl rfl ⟨⟨.refl _, trivial⟩, rfl⟩ ?_ | refine Rg.call (od) rfl rfl rfl rfl rfl ⟨⟨.refl _, trivial⟩, rfl⟩ ?_ | refine Rg.call (p1) rfl rfl rfl rfl rfl ⟨⟨.refl _, trivial⟩, rfl⟩ ?_ | refine Rg.call (p2) rfl rfl rfl rfl rfl ⟨⟨.refl _, trivial⟩, rfl⟩ ?_ | refine Rg.call (p3) rfl rfl rfl rfl rfl ⟨⟨.refl _, trivial⟩, rfl⟩ ?_ | refine Rg.call (p4) rfl rfl rfl rfl rfl ⟨⟨.refl _, trivial⟩, rfl⟩ ?_ | refine Rg.call (awake5_) rfl rfl rfl rfl rfl ⟨trivial, rfl⟩ ?_ | refine Rg.call (codeOne_ op 0) rfl rfl rfl rfl rfl ⟨⟨.refl _, .rowF rfl (fun _ => rfl) (fun j hj => by rcases j with _ | j <;> first | rfl | (exfalso; simp at hj; done) | (exfalso; simp at hj; omega)), trivial⟩, rfl⟩ ?_ | (refine Rg.op true tok rfl rfl rfl rfl ?_ ?_ ?_; (first | exact True.intro | omega | (simp only [ByteArray.size_append, mk_bs, bs_size, List.length_cons, List.length_nil]; omega) | (simp; done) | (simp; omega) | decide +kernel); (first | exact trivial | exact .inl rfl | exact .inr rfl)) | refine Rg.nil ?_ | refine Rg.skip rfl rfl rfl ?_ | refine Run.regR ?_ | refine Run.drwR mixed (by kernel_rfl) rfl ?_ | refine Run.condT rfl ?_ | refine Run.condF rfl ?_ | (refine Run.condB rfl (fun hc => ?_) (fun hc => ?_) <;> ((try simp only [cs] at hc); (first | ((exfalso; omega); done) | ((exact absurd hc hz); done) | ((exact absurd rfl hc); done) | skip))) | ((fail_if_success (refine Rg.lit true rfl ?_)); (fail_if_success (refine Rg.lit false rfl ?_)); refine Rg.guard rfl (fun hc => ?_) (fun hc => ?_) <;> ((try simp only [cs] at hc); (first | ((exfalso; omega); done) | ((exact absurd hc hz); done) | ((exact absurd rfl hc); done) | skip))))
          all_goals ((first | refine Run.ret tok Tryd.func11 rfl ?_ | refine Run.fall tok Tryd.func11 rfl ?_); exact .refl _)
      · rw [if_neg (by simp [h0])] at p1
        rw [if_pos ⟨hv, h0⟩] at p2
        unfold readP at p1 p2
        cases q <;> unfold readP at p3 p4
        all_goals
          refine Pure.of_spec (Spec.of_run (fn := Tryd.f11) Tryd.func11 rfl rfl (by kernel_rfl) ?_) (by first | assumption | rfl | (split <;> rfl) | (split <;> split <;> rfl))
          repeat' (first | refine Rg.any rfl rfl rfl (fun _ hq => G_litF tok rfl rfl rfl rfl rfl hq) (by first | exact trivial | exact .inl rfl | exact .inr rfl) ?_ | refine Run.ctl rfl ?_ | (refine Rg.op false tok rfl rfl rfl rfl ?_ ?_ ?_; (first | exact True.intro | omega | (simp only [ByteArray.size_append, mk_bs, bs_size, List.length_cons, List.length_nil]; omega) | (simp; done) | (simp; omega) | decide +kernel); (first | exact trivial | exact .inl rfl | exact .inr rfl)) | refine Rg.call (nm) rfl rfl rfl rfl rfl ⟨⟨.refl _, trivial⟩, rfl⟩ ?_ | refine Rg.call (dc) rfl rfl rfl rfl rfl ⟨⟨.refl _, trivial⟩, rfl⟩ ?_ | refine Rg.call (od) rfl rfl rfl rfl rfl ⟨⟨.refl _, trivial⟩, rfl⟩ ?_ | refine Rg.call (p1) rfl rfl rfl rfl rfl ⟨⟨.refl _, trivial⟩, rfl⟩ ?_ | refine Rg.call (p2) rfl rfl rfl rfl rfl ⟨⟨.refl _, trivial⟩, rfl⟩ ?_ | refine Rg.call (p3) rfl rfl rfl rfl rfl ⟨⟨.refl _, trivial⟩, rfl⟩ ?_ | refine Rg.call (p4) rfl rfl rfl rfl rfl ⟨⟨.refl _, trivial⟩, rfl⟩ ?_ | refine Rg.call (awake5_) rfl rfl rfl rfl rfl ⟨trivial, rfl⟩ ?_ | refine Rg.call (codeOne_ op n) rfl rfl rfl rfl rfl ⟨⟨.refl _, .rowF rfl (fun _ => rfl) (fun j hj => by rcases j with _ | j <;> first | rfl | (exfalso; simp at hj; done) | (exfalso; simp at hj; omega)), trivial⟩, rfl⟩ ?_ | (refine Rg.op true tok rfl rfl rfl rfl ?_ ?_ ?_; (first | exact True.intro | omega | (simp only [ByteArray.size_append, mk_bs, bs_size, List.length_cons, List.length_nil]; omega) | (simp; done) | (simp; omega) | decide +kernel); (first | exact trivial | exact .inl rfl | exact .inr rfl)) | refine Rg.nil ?_ | refine Rg.skip rfl rfl rfl ?_ | refine Run.regR ?_ | refine Run.drwR mixed (by kernel_rfl) rfl ?_ | refine Run.condT rfl ?_ | refine Run.condF rfl ?_ | (refine Run.condB rfl (fun hc => ?_) (fun hc => ?_) <;> ((try simp only [cs] at hc); (first | ((exfalso; omega); done) | ((exact absurd hc hz); done) | ((exact absurd rfl hc); done) | ((exfalso; simp [h0] at hc; done); done) | skip))) | ((fail_if_success (refine Rg.lit true rfl ?_)); (fail_if_success (refine Rg.lit false rfl ?_)); refine Rg.guard rfl (fun hc => ?_) (fun hc => ?_) <;> ((try simp only [cs] at hc); (first | ((exfalso; omega); done) | ((exact absurd hc hz); done) | ((exact absurd rfl hc); done) | ((exfalso; simp [h0] at hc; done); done) | skip))))
          all_goals ((first | refine Run.ret tok Tryd.func11 rfl ?_ | refine Run.fall tok Tryd.func11 rfl ?_); exact .refl _)
  · refine Pure.of_spec (Spec.of_run (fn := Tryd.f11) Tryd.func11 rfl rfl (by kernel_rfl) ?_) (by first | assumption | rfl | (split <;> rfl) | (split <;> split <;> rfl))
    repeat' (first | refine Run.ctl rfl ?_ | (refine Rg.op false tok rfl rfl rfl rfl ?_ ?_ ?_; (first | exact True.intro | omega | (simp; done) | (simp; omega) | decide +kernel); (first | exact trivial | exact .inl rfl | exact .inr rfl)) | refine Rg.call (awake5_) rfl rfl rfl rfl rfl ⟨trivial, rfl⟩ ?_ | (refine Rg.op true tok rfl rfl rfl rfl ?_ ?_ ?_; (first | exact True.intro | omega | (simp; done) | (simp; omega) | decide +kernel); (first | exact trivial | exact .inl rfl | exact .inr rfl)) | refine Rg.nil ?_ | refine Rg.skip rfl rfl rfl ?_ | refine Run.regR ?_ | refine Run.drwR mixed (by kernel_rfl) rfl ?_ | refine Run.condT rfl ?_ | refine Run.condF rfl ?_ | (refine Run.condB rfl (fun hc => ?_) (fun hc => ?_) <;> ((try simp only [cs] at hc); (first | ((exfalso; omega); done) | skip))) | ((fail_if_success (refine Rg.lit true rfl ?_)); (fail_if_success (refine Rg.lit false rfl ?_)); refine Rg.guard rfl (fun hc => ?_) (fun hc => ?_) <;> ((try simp only [cs] at hc); (first | ((exfalso; omega); done) | skip))))
    all_goals ((first | refine Run.ret tok Tryd.func11 rfl ?_ | refine Run.fall tok Tryd.func11 rfl ?_); exact .refl _)
theorem asmBackW_ (c : List Instr) (at_ : Int) (sign : Int) (hc0 : ∀ x ∈ c, x.ok) (ha : R64 at_) (h : (Lit.int .u8 sign).wf = true) : Pure Tryd.prog 9 [sl 2 eInstr c, i64 at_, .atom (.int .u8 sign)] (bl true) := asmBack_ c at_ sign hc0 ha (wf_u8 h).1 (wf_u8 h).2
end Go.Proofs.YtocfjbopkgmjkaaDoor.W
