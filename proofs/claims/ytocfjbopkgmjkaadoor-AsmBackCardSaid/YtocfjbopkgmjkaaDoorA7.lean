/- Walks: the document's texts. -/
import Derived.Test.YtocfjbopkgmjkaaDoorA6
set_option linter.unusedVariables false
set_option linter.unusedSimpArgs false
set_option linter.unusedSectionVars false
set_option pp.maxSteps 3000
set_option maxHeartbeats 400000
namespace Go.Proofs.YtocfjbopkgmjkaaDoor.W
open Go Go.Sy

theorem rtext_ (x : ID) (h : x.ok) : Pure Tryd.prog 20 [pID x] (str (bs (textID x))) := by
  obtain ⟨ha, hb, hc⟩ := h
  have l1 := Lib.itoa_length_le x.from_ ha.1 ha.2
  have l2 := Lib.itoa_length_le x.n hb.1 hb.2
  have l3 := Lib.itoa_length_le x.copy hc.1 hc.2
  refine Pure.of_spec (Spec.of_run (fn := Tryd.f20) Tryd.func20 rfl rfl (by kernel_rfl) ?_) (by first | assumption | rfl | (split <;> rfl) | (split <;> split <;> rfl))
  repeat' (first | refine Rg.any rfl rfl rfl (fun _ hq => G_concat' rfl rfl rfl (by simp only [ByteArray.size_append, mk_bs, bs_size, List.length_cons, List.length_nil]; omega) hq) (by first | exact trivial | exact .inl rfl | exact .inr rfl) ?_ | refine Run.ctl rfl ?_ | (refine Rg.op false tok rfl rfl rfl rfl ?_ ?_ ?_; (first | exact True.intro | omega | (simp; done) | (simp; omega) | decide +kernel); (first | exact trivial | exact .inl rfl | exact .inr rfl)) | refine Rg.call (decimal_ x.from_ ha) rfl rfl rfl rfl rfl ⟨⟨.refl _, trivial⟩, rfl⟩ ?_ | refine Rg.call (decimal_ x.n hb) rfl rfl rfl rfl rfl ⟨⟨.refl _, trivial⟩, rfl⟩ ?_ | refine Rg.call (decimal_ x.copy hc) rfl rfl rfl rfl rfl ⟨⟨.refl _, trivial⟩, rfl⟩ ?_ | (refine Rg.op true tok rfl rfl rfl rfl ?_ ?_ ?_; (first | exact True.intro | omega | (simp; done) | (simp; omega) | decide +kernel); (first | exact trivial | exact .inl rfl | exact .inr rfl)) | refine Rg.nil ?_ | refine Rg.skip rfl rfl rfl ?_ | refine Run.regR ?_ | refine Run.drwR mixed (by kernel_rfl) rfl ?_ | refine Run.condT rfl ?_ | refine Run.condF rfl ?_ | (refine Run.condB rfl (fun hc => ?_) (fun hc => ?_) <;> ((try simp only [cs] at hc))) | ((fail_if_success (refine Rg.lit true rfl ?_)); (fail_if_success (refine Rg.lit false rfl ?_)); refine Rg.guard rfl (fun hc => ?_) (fun hc => ?_) <;> ((try simp only [cs] at hc))))
  (first | refine Run.ret tok Tryd.func20 rfl ?_ | refine Run.fall tok Tryd.func20 rfl ?_)
  refine .ofStr ?_
  simp only [mk_bs, bs_app, textID]
theorem kinds_ : Pure Tryd.prog 45 [] (sl 1 eStr kindNames) := by
  refine Pure.of_spec (Spec.of_run (fn := Tryd.f45) Tryd.func45 rfl rfl (by kernel_rfl) ?_) (by first | assumption | rfl | (split <;> rfl) | (split <;> split <;> rfl))
  repeat' (first | refine Run.ctl rfl ?_ | (refine Rg.op false tok rfl rfl rfl rfl ?_ ?_ ?_; (first | exact True.intro | omega | (simp; done) | (simp; omega) | decide +kernel); (first | exact trivial | exact .inl rfl | exact .inr rfl)) | (refine Rg.op true tok rfl rfl rfl rfl ?_ ?_ ?_; (first | exact True.intro | omega | (simp; done) | (simp; omega) | decide +kernel); (first | exact trivial | exact .inl rfl | exact .inr rfl)) | refine Rg.nil ?_ | refine Rg.skip rfl rfl rfl ?_ | refine Run.regR ?_ | refine Run.drwR mixed (by kernel_rfl) rfl ?_ | refine Run.condT rfl ?_ | refine Run.condF rfl ?_ | (refine Run.condB rfl (fun hc => ?_) (fun hc => ?_) <;> ((try simp only [cs] at hc))) | ((fail_if_success (refine Rg.lit true rfl ?_)); (fail_if_success (refine Rg.lit false rfl ?_)); refine Rg.guard rfl (fun hc => ?_) (fun hc => ?_) <;> ((try simp only [cs] at hc))))
  (first | refine Run.ret tok Tryd.func45 rfl ?_ | refine Run.fall tok Tryd.func45 rfl ?_)
  exact .row rfl rfl rfl (by decide) rfl (fun _ => rfl) (fun j hj => by rcases j with _ | _ | _ | _ | _ | _ | j <;> first | rfl | (exfalso; simp [kindNames] at hj; omega))
theorem rname_ (e : Ev) (h : e.ok) : Pure Tryd.prog 24 [pEv e] (str (bs (nameEv e))) := by
  obtain ⟨hk, hid, hw⟩ := h
  have hl := textID_len e.id hid
  have hl2 := Lib.itoa_length_le e.who hw.1 hw.2
  have hl3 := kindName_len e.kind
  have hlt : ∀ k : Int, k ≤ 5 → k < (kindNames.length : Int) := by intro k hk; simp [kindNames]; omega
  refine Pure.of_spec (Spec.of_run (fn := Tryd.f24) Tryd.func24 rfl rfl (by kernel_rfl) ?_) (by first | assumption | rfl | (split <;> rfl) | (split <;> split <;> rfl))
  repeat' (first | refine Rg.any rfl rfl rfl (fun _ hq => G_concat' rfl rfl rfl (by simp only [ByteArray.size_append, mk_bs, bs_size, List.length_cons, List.length_nil]; omega) hq) (by first | exact trivial | exact .inl rfl | exact .inr rfl) ?_ | refine Rg.any rfl rfl rfl (fun _ hq => G_ixF tok rfl rfl rfl rfl rfl (by omega) (hlt _ (by omega)) hq) (by first | exact trivial | exact .inl rfl | exact .inr rfl) ?_ | refine Rg.any rfl rfl rfl (fun _ hq => G_eqStruct tok (xs := [e.id.from_, e.id.n, e.id.copy]) (ys := [0, 0, 0]) rfl (by kernel_rfl) rfl rfl rfl rfl rfl rfl hq) (by first | exact trivial | exact .inl rfl | exact .inr rfl) ?_ | refine Run.ctl rfl ?_ | (refine Rg.op false tok rfl rfl rfl rfl ?_ ?_ ?_; (first | exact True.intro | omega | (simp; done) | (simp; omega) | decide +kernel); (first | exact trivial | exact .inl rfl | exact .inr rfl)) | refine Rg.call (kinds_) rfl rfl rfl rfl rfl ⟨trivial, rfl⟩ ?_ | refine Rg.call (rtext_ e.id hid) rfl rfl rfl rfl rfl ⟨⟨.refl _, trivial⟩, rfl⟩ ?_ | refine Rg.call (decimal_ e.who hw) rfl rfl rfl rfl rfl ⟨⟨.refl _, trivial⟩, rfl⟩ ?_ | (refine Rg.op true tok rfl rfl rfl rfl ?_ ?_ ?_; (first | exact True.intro | omega | (simp; done) | (simp; omega) | decide +kernel); (first | exact trivial | exact .inl rfl | exact .inr rfl)) | refine Rg.nil ?_ | refine Rg.skip rfl rfl rfl ?_ | refine Run.regR ?_ | refine Run.drwR mixed (by kernel_rfl) rfl ?_ | refine Run.condT rfl ?_ | refine Run.condF rfl ?_ | (refine Run.condB rfl (fun hc => ?_) (fun hc => ?_) <;> ((try simp only [cs] at hc))) | ((fail_if_success (refine Rg.lit true rfl ?_)); (fail_if_success (refine Rg.lit false rfl ?_)); refine Rg.guard rfl (fun hc => ?_) (fun hc => ?_) <;> ((try simp only [cs] at hc))))
  all_goals ((first | refine Run.ret tok Tryd.func24 rfl ?_ | refine Run.fall tok Tryd.func24 rfl ?_); refine .ofStr ?_)
  all_goals (try rw [kindName_bs])
  all_goals simp only [mk_bs, bs_app]
  all_goals refine congrArg bs ?_
  all_goals unfold nameEv isMsg isAct
  all_goals simp_all [ID_zero]
  all_goals (try omega)
end Go.Proofs.YtocfjbopkgmjkaaDoor.W
