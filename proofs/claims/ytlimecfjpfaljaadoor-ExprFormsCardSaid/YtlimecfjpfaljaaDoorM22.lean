/- Texts merged: D6. -/
import Derived.Test.YtlimecfjpfaljaaDoorM21
section
/- Walks: places of messages (chapter 8). -/
set_option linter.unusedVariables false
set_option linter.unusedSimpArgs false
set_option linter.unusedSectionVars false
set_option pp.maxSteps 3000
set_option maxHeartbeats 1000000
namespace Go.Proofs.YtlimecfjpfaljaaDoor.W
open Go Go.Sy

/-- The place of the first that has it; -1: none. -/
def findIx {α : Type} (F : α → Bool) : List α → Nat → Int
  | [], _ => -1
  | x :: l, k => if F x then (k : Int) else findIx F l (k + 1)
theorem findIx_at {α : Type} [Inhabited α] {F : α → Bool} {l : List α} {i : Nat} (hi : i < l.length) : findIx F (l.drop i) i = if F (l.getD i default) then (i : Int) else findIx F (l.drop (i + 1)) (i + 1) := by
  rw [List.drop_eq_getElem_cons hi]
  have : l.getD i default = l[i] := by simp [hi]
  rw [this]
  rfl
theorem findIx_mail (id : ID) : ∀ (l : List Msg) (k : Nat), findIx (fun m => decide (m.id = id)) l k = findMail id l k
  | [], _ => rfl
  | m :: l, k => by
    unfold findIx findMail
    rw [findIx_mail id l (k + 1)]
    by_cases h : m.id = id <;> simp [h]
theorem findIx_rng {α : Type} {F : α → Bool} : ∀ {l : List α} {k : Nat}, findIx F l k = -1 ∨ ((k : Int) ≤ findIx F l k ∧ findIx F l k < k + l.length)
  | [], k => .inl rfl
  | x :: l, k => by
    unfold findIx
    split
    · right; simp only [List.length_cons]; omega
    · rcases findIx_rng (F := F) (l := l) (k := k + 1) with h | h
      · exact .inl h
      · right; simp only [List.length_cons]; omega
theorem findC_ (m : Msg) (id : ID) : Pure Tryd.prog 111 [pMsg m, .fptr 3 1 (fun _ => eID id) 0 0] (bl (decide (m.id = id))) := by
  obtain ⟨⟨f, n, c⟩, nt⟩ := m
  obtain ⟨f', n', c'⟩ := id
  refine Pure.of_spec (Spec.of_run (fn := Tryd.f111) Tryd.func111 rfl rfl (by kernel_rfl) ?_) (by first | assumption | rfl | (split <;> rfl) | (split <;> split <;> rfl))
  repeat' (first | refine Run.ctl rfl ?_ | (refine Rg.op false tok rfl rfl rfl rfl ?_ ?_ ?_; (first | exact ⟨⟩ | omega | focus (simp <;> omega) | decide +kernel); (first | exact trivial | exact rfl | exact .inl rfl | exact .inr rfl)) | (refine Rg.op true tok rfl rfl rfl rfl ?_ ?_ ?_; (first | exact ⟨⟩ | omega | focus (simp <;> omega) | decide +kernel); (first | exact trivial | exact rfl | exact .inl rfl | exact .inr rfl)) | refine Rg.nil ?_ | refine Rg.skip rfl rfl rfl ?_ | refine Run.regR ?_ | refine Run.condT rfl ?_ | refine Run.condF rfl ?_ | ((first | refine Run.condB rfl (fun hc => ?_) (fun hc => ?_) | ((fail_if_success (refine Rg.lit true rfl ?_)); (fail_if_success (refine Rg.lit false rfl ?_)); refine Rg.guard rfl (fun hc => ?_) (fun hc => ?_))) <;> ((try simp only [cs] at hc))))
  (first | refine Run.ret tok Tryd.func111 rfl ?_ | refine Run.fall tok Tryd.func111 rfl ?_)
  refine .ofBool ?_
  by_cases h : f = f' ∧ n = n' ∧ c = c'
  · obtain ⟨rfl, rfl, rfl⟩ := h; simp
  · rw [decide_eq_false (by simpa using h)]; simpa using h
theorem putC_ (x : Msg) (m : Msg) : Pure Tryd.prog 98 [pMsg x, .fptr 6 1 (fun _ => eMsg m) 0 0] (bl (!lessID x.id m.id)) := by
  refine Pure.of_spec (Spec.of_run (fn := Tryd.f98) Tryd.func98 rfl rfl (by kernel_rfl) ?_) (by first | assumption | rfl | (split <;> rfl) | (split <;> split <;> rfl))
  repeat' (first | refine Run.ctl rfl ?_ | (refine Rg.op false tok rfl rfl rfl rfl ?_ ?_ ?_; (first | exact ⟨⟩ | omega | focus (simp <;> omega) | decide +kernel); (first | exact trivial | exact rfl | exact .inl rfl | exact .inr rfl)) | refine Rg.call (less_ x.id m.id) rfl rfl rfl rfl rfl ⟨⟨.refl _, .refl _, trivial⟩, rfl⟩ ?_ | (refine Rg.op true tok rfl rfl rfl rfl ?_ ?_ ?_; (first | exact ⟨⟩ | omega | focus (simp <;> omega) | decide +kernel); (first | exact trivial | exact rfl | exact .inl rfl | exact .inr rfl)) | refine Rg.nil ?_ | refine Rg.skip rfl rfl rfl ?_ | refine Run.regR ?_ | refine Run.condT rfl ?_ | refine Run.condF rfl ?_ | ((first | refine Run.condB rfl (fun hc => ?_) (fun hc => ?_) | ((fail_if_success (refine Rg.lit true rfl ?_)); (fail_if_success (refine Rg.lit false rfl ?_)); refine Rg.guard rfl (fun hc => ?_) (fun hc => ?_))) <;> ((try simp only [cs] at hc))))
  (first | refine Run.ret tok Tryd.func98 rfl ?_ | refine Run.fall tok Tryd.func98 rfl ?_)
  exact .ofBool rfl
theorem indexF_ (F : Msg → Bool) (g : FuncId) (cap : List PV) (hc0 : closedL cap = true) (l : List Msg) (hl : l.length ≤ 100000) (hp : ∀ x ∈ l, Pure Tryd.prog g (pMsg x :: cap) (bl (F x))) : Pure Tryd.prog 88 [sl 6 eMsg l, .func g cap] (i64 (findIx F l 0)) := by
  refine Pure.of_spec (Spec.of_run (fn := Tryd.f88) Tryd.func88 rfl rfl (by kernel_rfl) ?_) (by first | assumption | rfl | (split <;> rfl) | (split <;> split <;> rfl))
  repeat' (first | refine Run.ctl rfl ?_ | (refine Rg.op false tok rfl rfl rfl rfl ?_ ?_ ?_; (first | exact ⟨⟩ | omega | focus (simp <;> omega) | decide +kernel); (first | exact trivial | exact rfl | exact .inl rfl | exact .inr rfl)) | (refine Rg.op true tok rfl rfl rfl rfl ?_ ?_ ?_; (first | exact ⟨⟩ | omega | focus (simp <;> omega) | decide +kernel); (first | exact trivial | exact rfl | exact .inl rfl | exact .inr rfl)) | refine Rg.nil ?_ | refine Rg.skip rfl rfl rfl ?_ | refine Run.regR ?_ | refine Run.condT rfl ?_ | refine Run.condF rfl ?_ | ((first | refine Run.condB rfl (fun hc => ?_) (fun hc => ?_) | ((fail_if_success (refine Rg.lit true rfl ?_)); (fail_if_success (refine Rg.lit false rfl ?_)); refine Rg.guard rfl (fun hc => ?_) (fun hc => ?_))) <;> ((try simp only [cs] at hc); (first | ((exfalso; omega); done) | skip))))
  refine Run.loopN (ι := Nat) (fun i => ([(0, sl 6 eMsg l), (1, .func g cap), (6, sl 6 eMsg l), (7, i64 l.length), (8, i64 i)], [])) (fun i => i ≤ l.length ∧ findIx F (l.drop i) i = findIx F l 0) (fun i => l.length - i) 0 ⟨rfl, rfl, rfl, rfl, rfl, trivial⟩ rfl ⟨by omega, rfl⟩ ?_
  rintro i ⟨hi, hf⟩ back backR
  by_cases hlt : i < l.length
  · rw [findIx_at hlt] at hf
    have hm : l.getD i default ∈ l := by rw [List.getD_eq_getElem?_getD, List.getElem?_eq_getElem hlt]; exact List.getElem_mem hlt
    have hin := hp _ hm
    cases hw : F (l.getD i default) with
    | false =>
      rw [hw] at hf hin
      repeat' (first | refine Run.ctl rfl ?_ | (refine Rg.op false tok rfl rfl rfl rfl ?_ ?_ ?_; (first | exact ⟨⟩ | omega | focus (simp <;> omega) | decide +kernel); (first | exact trivial | exact rfl | exact .inl rfl | exact .inr rfl)) | refine Rg.call (hin) rfl rfl rfl rfl rfl ⟨⟨.refl _, CvL.refl _⟩, hc0⟩ ?_ | (refine Rg.op true tok rfl rfl rfl rfl ?_ ?_ ?_; (first | exact ⟨⟩ | omega | focus (simp <;> omega) | decide +kernel); (first | exact trivial | exact rfl | exact .inl rfl | exact .inr rfl)) | refine Rg.nil ?_ | refine Rg.skip rfl rfl rfl ?_ | refine Run.regR ?_ | refine Run.condT rfl ?_ | refine Run.condF rfl ?_ | ((first | refine Run.condB rfl (fun hc => ?_) (fun hc => ?_) | ((fail_if_success (refine Rg.lit true rfl ?_)); (fail_if_success (refine Rg.lit false rfl ?_)); refine Rg.guard rfl (fun hc => ?_) (fun hc => ?_))) <;> ((try simp only [cs] at hc); (first | ((exact absurd rfl hc); done) | ((exfalso; omega); done) | skip))))
      exact back (i + 1) _ _ ⟨by omega, hf⟩ (by omega) ⟨rfl, rfl, rfl, rfl, rfl, trivial⟩ rfl
    | true =>
      rw [hw] at hf hin
      rw [← hf]
      repeat' (first | refine Run.ctl rfl ?_ | (refine Rg.op false tok rfl rfl rfl rfl ?_ ?_ ?_; (first | exact ⟨⟩ | omega | focus (simp <;> omega) | decide +kernel); (first | exact trivial | exact rfl | exact .inl rfl | exact .inr rfl)) | refine Rg.call (hin) rfl rfl rfl rfl rfl ⟨⟨.refl _, CvL.refl _⟩, hc0⟩ ?_ | (refine Rg.op true tok rfl rfl rfl rfl ?_ ?_ ?_; (first | exact ⟨⟩ | omega | focus (simp <;> omega) | decide +kernel); (first | exact trivial | exact rfl | exact .inl rfl | exact .inr rfl)) | refine Rg.nil ?_ | refine Rg.skip rfl rfl rfl ?_ | refine Run.regR ?_ | refine Run.condT rfl ?_ | refine Run.condF rfl ?_ | ((first | refine Run.condB rfl (fun hc => ?_) (fun hc => ?_) | ((fail_if_success (refine Rg.lit true rfl ?_)); (fail_if_success (refine Rg.lit false rfl ?_)); refine Rg.guard rfl (fun hc => ?_) (fun hc => ?_))) <;> ((try simp only [cs] at hc); (first | ((exact absurd hc hw); done) | ((exfalso; omega); done) | skip))))
      (first | refine Run.ret tok Tryd.func88 rfl ?_ | refine Run.fall tok Tryd.func88 rfl ?_)
      exact .refl _
  · obtain rfl : i = l.length := by omega
    rw [List.drop_length] at hf
    rw [← hf]
    repeat' (first | refine Run.ctl rfl ?_ | (refine Rg.op false tok rfl rfl rfl rfl ?_ ?_ ?_; (first | exact ⟨⟩ | omega | focus (simp <;> omega) | decide +kernel); (first | exact trivial | exact rfl | exact .inl rfl | exact .inr rfl)) | (refine Rg.op true tok rfl rfl rfl rfl ?_ ?_ ?_; (first | exact ⟨⟩ | omega | focus (simp <;> omega) | decide +kernel); (first | exact trivial | exact rfl | exact .inl rfl | exact .inr rfl)) | refine Rg.nil ?_ | refine Rg.skip rfl rfl rfl ?_ | refine Run.regR ?_ | refine Run.condT rfl ?_ | refine Run.condF rfl ?_ | ((first | refine Run.condB rfl (fun hc => ?_) (fun hc => ?_) | ((fail_if_success (refine Rg.lit true rfl ?_)); (fail_if_success (refine Rg.lit false rfl ?_)); refine Rg.guard rfl (fun hc => ?_) (fun hc => ?_))) <;> ((try simp only [cs] at hc); (first | ((exfalso; omega); done) | skip))))
    (first | refine Run.ret tok Tryd.func88 rfl ?_ | refine Run.fall tok Tryd.func88 rfl ?_)
    exact .refl _
theorem find_ (l : List Msg) (id : ID) (hl : l.length ≤ 100000) : Pure Tryd.prog 97 [sl 6 eMsg l, pID id] (i64 (findMail id l 0)) := by
  have h := indexF_ (fun m => decide (m.id = id)) 111 [.fptr 3 1 (fun _ => eID id) 0 0] rfl l hl (fun x _ => findC_ x id)
  rw [findIx_mail] at h
  refine Pure.of_spec (Spec.of_run (fn := Tryd.f97) Tryd.func97 rfl rfl (by kernel_rfl) ?_) (by first | assumption | rfl | (split <;> rfl) | (split <;> split <;> rfl))
  repeat' (first | refine Run.ctl rfl ?_ | (refine Rg.op false tok rfl rfl rfl rfl ?_ ?_ ?_; (first | exact ⟨⟩ | omega | focus (simp <;> omega) | decide +kernel); (first | exact trivial | exact rfl | exact .inl rfl | exact .inr rfl)) | refine Rg.lend (h) rfl rfl rfl rfl rfl rfl ⟨⟨.refl _, .func' ⟨.box rfl rfl rfl rfl rfl (.refl _), trivial⟩, trivial⟩, rfl⟩ ?_ | (refine Rg.op true tok rfl rfl rfl rfl ?_ ?_ ?_; (first | exact ⟨⟩ | omega | focus (simp <;> omega) | decide +kernel); (first | exact trivial | exact rfl | exact .inl rfl | exact .inr rfl)) | refine Rg.nil ?_ | refine Rg.skip rfl rfl rfl ?_ | refine Run.regR ?_ | refine Run.condT rfl ?_ | refine Run.condF rfl ?_ | ((first | refine Run.condB rfl (fun hc => ?_) (fun hc => ?_) | ((fail_if_success (refine Rg.lit true rfl ?_)); (fail_if_success (refine Rg.lit false rfl ?_)); refine Rg.guard rfl (fun hc => ?_) (fun hc => ?_))) <;> ((try simp only [cs] at hc))))
  (first | refine Run.ret tok Tryd.func97 rfl ?_ | refine Run.fall tok Tryd.func97 rfl ?_)
  exact .refl _
end Go.Proofs.YtlimecfjpfaljaaDoor.W
end
