/- Walks: names of events. -/
import Derived.Test.YtocfjbopkgmjkaaDoorA3
set_option linter.unusedVariables false
set_option linter.unusedSimpArgs false
set_option linter.unusedSectionVars false
set_option pp.maxSteps 3000
namespace Go.Proofs.YtocfjbopkgmjkaaDoor.W
open Go Go.Sy

/- " deliver drop dup time crash" -/
def namesT : List UInt8 := [32, 100, 101, 108, 105, 118, 101, 114, 32, 100, 114, 111, 112, 32, 100, 117, 112, 32, 116, 105, 109, 101, 32, 99, 114, 97, 115, 104]
def kindNames : List ByteArray := [bs [], bs [100, 101, 108, 105, 118, 101, 114], bs [100, 114, 111, 112], bs [100, 117, 112], bs [116, 105, 109, 101], bs [99, 114, 97, 115, 104]]
theorem kinds_split : splitL (bs namesT) (bs [32]) = kindNames := by decide +kernel
theorem split_names : Pure Tryd.prog 39 [str (bs namesT), str (bs [32])] (sl 1 eStr kindNames) := by
  have h1 : 1 ≤ (bs [32]).size := by simp [bs_size]
  have hc0 := Lib.countB_le (bs [32]) h1 _ (bs namesT) (Nat.le_refl _)
  have h28 : (bs namesT).size = 28 := by simp [bs_size, namesT]
  have h := split_ (bs namesT) (bs [32]) (by omega) h1 (splitL_len _ _ h1) (by simp only [maxLen]; omega)
  rwa [kinds_split] at h
def kindName (k : Int) : List UInt8 := (kindNames.getD k.toNat default).data.toList
def nameEv (e : Ev) : List UInt8 :=
  if isMsg e.kind && decide (e.who = 0) then kindName e.kind ++ [32] ++ textID e.id
  else if isAct e.kind && decide (e.id = ⟨0, 0, 0⟩) then kindName e.kind ++ [32] ++ Lib.itoa e.who
  else []
theorem kindName_len (k : Int) : (kindNames.getD k.toNat default).size ≤ 7 := by
  have : ∀ n : Nat, (kindNames.getD n default).size ≤ 7 := by
    intro n
    rcases n with _ | _ | _ | _ | _ | _ | n <;> first | decide | (simp [kindNames]; decide)
  exact this _
theorem textID_len (x : ID) (h : x.ok) : (textID x).length ≤ 65 := by
  obtain ⟨⟨a0, a1⟩, ⟨b0, b1⟩, ⟨c0, c1⟩⟩ := h
  have l1 := Lib.itoa_length_le x.from_ a0 a1
  have l2 := Lib.itoa_length_le x.n b0 b1
  have l3 := Lib.itoa_length_le x.copy c0 c1
  simp [textID]; omega
theorem kindName_bs (k : Int) : kindNames.getD k.toNat default = bs (kindName k) := by simp [kindName, bs]
theorem ID_zero (x : ID) : x = ⟨0, 0, 0⟩ ↔ x.from_ = 0 ∧ x.n = 0 ∧ x.copy = 0 := by cases x; simp
theorem name_ (e : Ev) (h : e.ok) : Pure Tryd.prog 23 [pEv e] (str (bs (nameEv e))) := by
  obtain ⟨hk, hid, hw⟩ := h
  have hl := textID_len e.id hid
  have hl2 := Lib.itoa_length_le e.who hw.1 hw.2
  have hl3 := kindName_len e.kind
  have hmsg : isMsg e.kind = true → 0 ≤ e.kind ∧ e.kind < (kindNames.length : Int) := by intro hh; simp [isMsg] at hh; simp [kindNames]; omega
  have hact : isAct e.kind = true → 0 ≤ e.kind ∧ e.kind < (kindNames.length : Int) := by intro hh; simp [isAct] at hh; simp [kindNames]; omega
  refine Pure.of_spec (Spec.of_run (fn := Tryd.f23) Tryd.func23 rfl rfl (by kernel_rfl) ?_) (by first | assumption | rfl | (split <;> rfl) | (split <;> split <;> rfl))
  repeat' (first | refine Rg.any rfl rfl rfl (fun _ hq => G_concat' rfl rfl rfl (by simp only [ByteArray.size_append, mk_bs, bs_size, List.length_cons, List.length_nil]; omega) hq) (by first | exact trivial | exact .inl rfl | exact .inr rfl) ?_ | refine Rg.any rfl rfl rfl (fun _ hq => G_ixF tok rfl rfl rfl rfl rfl (hmsg (by assumption)).1 (hmsg (by assumption)).2 hq) (by first | exact trivial | exact .inl rfl | exact .inr rfl) ?_ | refine Rg.any rfl rfl rfl (fun _ hq => G_ixF tok rfl rfl rfl rfl rfl (hact (by assumption)).1 (hact (by assumption)).2 hq) (by first | exact trivial | exact .inl rfl | exact .inr rfl) ?_ | refine Rg.any rfl rfl rfl (fun _ hq => G_eqStruct tok (xs := [e.id.from_, e.id.n, e.id.copy]) (ys := [0, 0, 0]) rfl (by kernel_rfl) rfl rfl rfl rfl rfl rfl hq) (by first | exact trivial | exact .inl rfl | exact .inr rfl) ?_ | refine Run.ctl rfl ?_ | (refine Rg.op false tok rfl rfl rfl rfl ?_ ?_ ?_; (first | exact True.intro | omega | (simp; done) | (simp; omega) | decide +kernel); (first | exact trivial | exact .inl rfl | exact .inr rfl)) | refine Rg.call (ofMessage_ e.kind) rfl rfl rfl rfl rfl ⟨⟨.refl _, trivial⟩, rfl⟩ ?_ | refine Rg.call (ofActor_ e.kind) rfl rfl rfl rfl rfl ⟨⟨.refl _, trivial⟩, rfl⟩ ?_ | refine Rg.call (split_names) rfl rfl rfl rfl rfl ⟨⟨.refl _, .refl _, trivial⟩, rfl⟩ ?_ | refine Rg.call (text_ e.id hid) rfl rfl rfl rfl rfl ⟨⟨.refl _, trivial⟩, rfl⟩ ?_ | refine Rg.call (itoa_ e.who hw.1 hw.2) rfl rfl rfl rfl rfl ⟨⟨.refl _, trivial⟩, rfl⟩ ?_ | (refine Rg.op true tok rfl rfl rfl rfl ?_ ?_ ?_; (first | exact True.intro | omega | (simp; done) | (simp; omega) | decide +kernel); (first | exact trivial | exact .inl rfl | exact .inr rfl)) | refine Rg.nil ?_ | refine Rg.skip rfl rfl rfl ?_ | refine Run.regR ?_ | refine Run.drwR mixed (by kernel_rfl) rfl ?_ | refine Run.condT rfl ?_ | refine Run.condF rfl ?_ | (refine Run.condB rfl (fun hc => ?_) (fun hc => ?_) <;> ((try simp only [cs] at hc))) | ((fail_if_success (refine Rg.lit true rfl ?_)); (fail_if_success (refine Rg.lit false rfl ?_)); refine Rg.guard rfl (fun hc => ?_) (fun hc => ?_) <;> ((try simp only [cs] at hc))))
  all_goals ((first | refine Run.ret tok Tryd.func23 rfl ?_ | refine Run.fall tok Tryd.func23 rfl ?_); refine .ofStr ?_)
  all_goals (try rw [kindName_bs])
  all_goals simp only [mk_bs, bs_app]
  all_goals refine congrArg bs ?_
  all_goals unfold nameEv
  all_goals simp_all [ID_zero]
end Go.Proofs.YtocfjbopkgmjkaaDoor.W
