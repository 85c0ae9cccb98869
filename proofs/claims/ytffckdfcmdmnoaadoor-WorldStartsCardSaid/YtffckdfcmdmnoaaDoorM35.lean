/- Texts merged: P13, P14, D30. -/
import Derived.Test.YtffckdfcmdmnoaaDoorM33
import Derived.Test.YtffckdfcmdmnoaaDoorM24
import Derived.Test.YtffckdfcmdmnoaaDoorM16
import Derived.Test.YtffckdfcmdmnoaaDoorM29
section
/- Plain: what a program's start is (chapter 9). -/
set_option linter.unusedVariables false
set_option linter.unusedSimpArgs false
set_option linter.unusedSectionVars false
namespace Go.Proofs.YtffckdfcmdmnoaaDoor.W
open Go Go.Sy

/-- How many found no room. -/
def ovs : List Lcl → Int
  | [] => 0
  | a :: l => a.over + ovs l
theorem ovs_set : ∀ (l : List Lcl) (k : Nat), k < l.length → ovs (l.set k (addOver (l.getD k default))) = ovs l + 1
  | [], k, h => absurd h (Nat.not_lt_zero k)
  | a :: l, 0, _ => by
    show (a.over + 1) + ovs l = a.over + ovs l + 1
    omega
  | a :: l, k + 1, h => by
    have := ovs_set l k (by simpa using h)
    show a.over + ovs (l.set k (addOver (l.getD k default))) = a.over + ovs l + 1
    omega
theorem ovs_take : ∀ (l : List Lcl) (i : Nat), i < l.length → ovs (l.take (i + 1)) = ovs (l.take i) + (l.getD i default).over
  | [], i, h => absurd h (Nat.not_lt_zero i)
  | a :: l, 0, _ => by
    show a.over + ovs [] = ovs [] + a.over
    omega
  | a :: l, i + 1, h => by
    have := ovs_take l i (by simpa using h)
    show a.over + ovs (l.take (i + 1)) = a.over + ovs (l.take i) + (l.getD i default).over
    omega
theorem ovs_map (l : List Act) : ovs (l.map startLcl) = 0 := by
  induction l with
  | nil => rfl
  | cons a l ih =>
    show (0 : Int) + ovs (l.map startLcl) = 0
    omega
theorem ovs_nonneg : ∀ (l : List Lcl), (∀ x ∈ l, 0 ≤ x.over) → ∀ i, 0 ≤ ovs (l.take i) ∧ ovs (l.take i) ≤ ovs l
  | [], _, i => by simp [ovs]
  | a :: l, h, 0 => by
    have h1 := h a (by simp)
    have := (ovs_nonneg l (fun x hx => h x (by simp [hx])) 0).2
    show (0 : Int) ≤ 0 ∧ (0 : Int) ≤ a.over + ovs l
    simp only [List.take_zero, ovs] at this
    omega
  | a :: l, h, i + 1 => by
    have h1 := h a (by simp)
    have := ovs_nonneg l (fun x hx => h x (by simp [hx])) i
    show 0 ≤ a.over + ovs (l.take i) ∧ a.over + ovs (l.take i) ≤ a.over + ovs l
    omega
structure StInv (p : Pg) (i : Nat) (w : Wd) : Prop where
  la : w.actors.length = p.actors.length
  us : w.used = bg0
  srt : sortedMail w.mail = true
  ml : ∀ x ∈ w.mail, ∃ j : Nat, j < i ∧ x.id = ⟨-1, (j : Int), 0⟩ ∧ noteWhy p x.note = 0 ∧ x.note ∈ p.boot
  sum : (w.mail.length : Int) + ovs w.actors = i
  ac : ∀ k, k < w.actors.length → ∃ o : Int, 0 ≤ o ∧ o ≤ i ∧ w.actors.getD k default = { startLcl (p.actors.getD k default) with over := o }
theorem noteWhy_to {p : Pg} {n : Nt} (h : noteWhy p n = 0) : 0 ≤ n.to_ ∧ n.to_ < p.actors.length := by
  unfold noteWhy at h
  split at h
  · cases h
  · omega
theorem StInv.miss {p : Pg} {i : Nat} {w : Wd} (h : StInv p i w) {k : Nat} (hk : k < w.actors.length) : StInv p (i + 1) { w with actors := w.actors.set k (addOver (w.actors.getD k default)) } := by
  refine ⟨by simpa using h.la, h.us, h.srt, fun x hx => ?_, ?_, fun q hq => ?_⟩
  · obtain ⟨j, h1, h2, h3⟩ := h.ml x hx
    exact ⟨j, by omega, h2, h3⟩
  · have h1 := h.sum
    have h2 := ovs_set w.actors k hk
    show (w.mail.length : Int) + ovs (w.actors.set k (addOver (w.actors.getD k default))) = ((i + 1 : Nat) : Int)
    omega
  · simp only [List.length_set] at hq
    obtain ⟨o, h1, h2, h3⟩ := h.ac q hq
    show ∃ o : Int, 0 ≤ o ∧ o ≤ ((i + 1 : Nat) : Int) ∧ (w.actors.set k (addOver (w.actors.getD k default))).getD q default = _
    by_cases e : q = k
    · subst e
      refine ⟨o + 1, by omega, by omega, ?_⟩
      rw [h3]
      simp [hq, addOver]
    · refine ⟨o, h1, by omega, ?_⟩
      rw [← h3]
      simp [List.getElem?_set, Ne.symm e]
theorem StInv.post {p : Pg} {i : Nat} {w : Wd} (h : StInv p i w) {n : Nt} (hn : noteWhy p n = 0) (hb : n ∈ p.boot) : StInv p (i + 1) (postIn p w ⟨⟨-1, (i : Int), 0⟩, n⟩) := by
  have hto := noteWhy_to hn
  have hk : n.to_.toNat < w.actors.length := by rw [h.la]; omega
  unfold postIn
  dsimp only
  split
  · have hlast : ∀ x ∈ w.mail, lessID x.id (⟨-1, (i : Int), 0⟩ : ID) = true := fun x hx => by
      obtain ⟨j, h1, h2, _⟩ := h.ml x hx
      rw [h2]
      simp [lessID, orderID, orI, cmpI]
      omega
    have hp := putMail_last ⟨⟨-1, (i : Int), 0⟩, n⟩ hlast
    rw [hp]
    dsimp only
    refine ⟨h.la, h.us, sorted_snoc _ h.srt hlast, fun x hx => ?_, ?_, fun q hq => ?_⟩
    · rcases List.mem_append.1 hx with hx | hx
      · obtain ⟨j, h1, h2, h3⟩ := h.ml x hx
        exact ⟨j, by omega, h2, h3⟩
      · rw [List.mem_singleton] at hx
        subst hx
        exact ⟨i, by omega, rfl, hn, hb⟩
    · have := h.sum
      simp only [List.length_append, List.length_cons, List.length_nil]
      omega
    · obtain ⟨o, h1, h2, h3⟩ := h.ac q hq
      exact ⟨o, h1, by omega, h3⟩
  · exact h.miss hk
theorem StInv.from_ {p : Pg} : ∀ (l : List Nt) {i : Nat} {w : Wd}, StInv p i w → (∀ n ∈ l, noteWhy p n = 0 ∧ n ∈ p.boot) → StInv p (i + l.length) (giveFrom p (-1) i l w)
  | [], i, w, h, _ => h
  | n :: l, i, w, h, hn => by
    obtain ⟨h1, hb⟩ := hn n (by simp)
    have hto := noteWhy_to h1
    have := StInv.from_ l (h.post h1 hb) (fun x hx => hn x (by simp [hx]))
    rw [giveFrom, if_pos ⟨hto.1, hto.2, by rw [h.la]; exact hto.2⟩, List.length_cons, show i + (l.length + 1) = i + 1 + l.length by omega]
    exact this
theorem start_inv {p : Pg} (hp : PgFit p) : StInv p p.boot.length (startOf p) := by
  have h0 : StInv p 0 ⟨p.actors.map startLcl, [], bg0⟩ := by
    refine ⟨by simp, rfl, rfl, fun x hx => (nomatch hx), ?_, fun k hk => ⟨0, by omega, by omega, ?_⟩⟩
    · show ((0 : Nat) : Int) + ovs (p.actors.map startLcl) = ((0 : Nat) : Int)
      rw [ovs_map]
      rfl
    · simp only [List.length_map] at hk
      simp [hk, startLcl]
  have := StInv.from_ p.boot h0 (fun n hn => ⟨hp.n n hn, hn⟩)
  rw [Nat.zero_add] at this
  exact this
theorem flow_fit {p : Pg} (h0 : flowWhy p = 0) : PgFit p := by
  unfold flowWhy at h0
  split at h0
  · rename_i h; exact absurd h0 h
  · rename_i h; exact progWhy_zero.1 (by simpa using h)
theorem actorWhy_armed {p : Pg} {a : Act} (h : actorWhy p a = 0) : a.armed = true → a.timer ≠ -1 := by
  intro h1 h2
  unfold actorWhy at h
  split at h
  · cases h
  split at h
  · cases h
  split at h
  · cases h
  split at h
  · cases h
  rename_i h4
  exact h4 ⟨h1, h2⟩
theorem StInv.ok {p : Pg} (h0 : flowWhy p = 0) {w : Wd} {i : Nat} (h : StInv p i w) (hi : i ≤ 16) : worldOk p w = true := by
  have hp := flow_fit h0
  unfold worldOk worldFit
  simp only [Bool.and_eq_true, decide_eq_true_eq]
  rw [h.us]
  refine ⟨h0, ⟨⟨⟨h.la, Int.le_refl _, Int.le_refl _, Int.le_refl _, Int.le_refl _⟩, h.srt⟩, ?_⟩, ?_⟩
  · rw [List.all_eq_true]
    intro x hx
    obtain ⟨k, hk, rfl⟩ := List.getElem_of_mem hx
    rw [List.length_zip, h.la, Nat.min_self] at hk
    rw [List.getElem_zip]
    have ha := hp.a _ (mem_getD (l := p.actors) hk)
    obtain ⟨o, h1, h2, h3⟩ := h.ac k (by rw [h.la]; exact hk)
    have e1 : p.actors.getD k default = p.actors[k] := by simp [hk]
    have e2 : w.actors.getD k default = w.actors[k]'(by rw [h.la]; exact hk) := by simp [show k < w.actors.length by rw [h.la]; exact hk]
    rw [e1] at ha h3
    rw [← e2, h3]
    have har := actorWhy_armed ha
    unfold localFit startLcl
    dsimp only
    rw [decide_eq_true_eq]
    refine ⟨rfl, by omega, by omega, by omega, h1, by omega, by omega, fun e => har e.1 e.2⟩
  · rw [List.all_eq_true]
    intro x hx
    obtain ⟨j, h1, h2, h3, _⟩ := h.ml x hx
    unfold msgFit
    rw [h2, h3, h.us]
    rw [if_neg (by dsimp only [bg0]; omega), if_pos rfl]
    rw [decide_eq_true_eq]
    show (j : Int) < 16
    omega
theorem StInv.at_ {p : Pg} {i : Nat} {w : Wd} (h : StInv p i w) {l : Lcl} (hl : l ∈ w.actors) : ∃ a ∈ p.actors, ∃ o : Int, 0 ≤ o ∧ o ≤ i ∧ l = { startLcl a with over := o } := by
  obtain ⟨k, hk, rfl⟩ := List.getElem_of_mem hl
  obtain ⟨o, h1, h2, h3⟩ := h.ac k hk
  have e2 : w.actors.getD k default = w.actors[k] := by simp [hk]
  exact ⟨_, mem_getD (l := p.actors) (i := k) (by rw [← h.la]; exact hk), o, h1, h2, by rw [← h3, e2]⟩
theorem StInv.okW {p : Pg} (hp : p.ok) {w : Wd} {i : Nat} (h : StInv p i w) (hi : i ≤ 16) : w.ok := by
  refine ⟨fun l hl => ?_, fun x hx => ?_, ?_⟩
  · obtain ⟨a, ha, o, h1, h2, rfl⟩ := h.at_ hl
    refine ⟨(hp.2.1 a ha).1, ?_, ?_, ?_⟩ <;> (unfold R64 startLcl; dsimp only; omega)
  · obtain ⟨j, h1, h2, h3, h4⟩ := h.ml x hx
    refine ⟨?_, hp.2.2.1 _ h4⟩
    rw [h2]
    refine ⟨?_, ?_, ?_⟩ <;> (unfold R64; dsimp only; omega)
  · rw [h.us]
    refine ⟨?_, ?_, ?_, ?_⟩ <;> (unfold R64 bg0; dsimp only; omega)
theorem StInv.lens {p : Pg} (h0 : flowWhy p = 0) {w : Wd} {i : Nat} (h : StInv p i w) (hi : i ≤ 16) : 0 < w.actors.length ∧ w.actors.length ≤ 8 ∧ w.mail.length ≤ 16 ∧ (∀ l ∈ w.actors, l.regs.length ≤ 8) ∧ ∀ m ∈ w.mail, m.note.args.length ≤ 4 := by
  have hp := flow_fit h0
  have h1 := hp.na
  have h2 := hp.na0
  have h3 := h.sum
  have h4 := h.la
  have h5 := ovs_nonneg w.actors (fun l hl => by
    obtain ⟨a, ha, o, h1, h2, rfl⟩ := h.at_ hl
    exact h1) 0
  simp only [List.take_zero, ovs] at h5
  refine ⟨by omega, by omega, by omega, fun l hl => ?_, fun x hx => ?_⟩
  · obtain ⟨a, ha, o, _, _, rfl⟩ := h.at_ hl
    have := hp.a a ha
    unfold actorWhy at this
    split at this
    · cases this
    · show a.regs.length ≤ 8
      omega
  · obtain ⟨j, _, _, h3, _⟩ := h.ml x hx
    unfold noteWhy at h3
    split at h3
    · cases h3
    split at h3
    · cases h3
    rename_i g1 g2
    have g3 := (handlerWhy_zero.1 (hp.h _ (mem_getD (l := p.handlers) (i := x.note.handler.toNat) (by omega)))).a1
    omega
end Go.Proofs.YtffckdfcmdmnoaaDoor.W
end
section
/- Plain: a list's all, from a place on. -/
set_option linter.unusedVariables false
set_option linter.unusedSimpArgs false
set_option linter.unusedSectionVars false
namespace Go.Proofs.YtffckdfcmdmnoaaDoor.W
open Go Go.Sy

theorem all_drop {α : Type} [Inhabited α] (f : α → Bool) {l : List α} {i : Nat} (hi : i < l.length) : (l.drop i).all f = (f (l.getD i default) && (l.drop (i + 1)).all f) := by
  rw [List.drop_eq_getElem_cons hi, List.all_cons]
  simp [hi]
end Go.Proofs.YtffckdfcmdmnoaaDoor.W
end
section
/- Walks: which programs and worlds are looked at. -/
set_option linter.unusedVariables false
set_option linter.unusedSimpArgs false
set_option linter.unusedSectionVars false
set_option pp.maxSteps 40000
set_option maxHeartbeats 4000000
namespace Go.Proofs.YtffckdfcmdmnoaaDoor.W
open Go Go.Sy

def smallB (p : Pg) : Bool := decide (p.handlers.length ≤ 18 ∧ p.actors.length ≤ 10 ∧ p.boot.length ≤ 18) && ((p.handlers.all fun a => decide (a.code.length ≤ 70)) && ((p.actors.all fun a => decide (a.regs.length ≤ 10)) && p.boot.all fun a => decide (a.args.length ≤ 6)))
theorem smallB_ (p : Pg) : Pure Tryd.prog 7 [pPg p] (bl (smallB p)) := by
  unfold smallB
  by_cases h1 : p.handlers.length ≤ 18 ∧ p.actors.length ≤ 10 ∧ p.boot.length ≤ 18
  · rw [decide_eq_true h1, Bool.true_and]
    refine Pure.of_spec (Spec.of_run (fn := Tryd.f7) Tryd.func7 rfl rfl (by kernel_rfl) ?_) (by first | assumption | rfl | (split <;> rfl) | (split <;> split <;> rfl))
    repeat' (first | refine Run.ctl rfl ?_ | (refine Rg.op false tok rfl rfl rfl rfl ?_ ?_ ?_; (first | exact ⟨⟩ | omega | focus (simp <;> omega) | decide +kernel); (first | exact trivial | exact rfl | exact .inl rfl | exact .inr rfl)) | (refine Rg.op true tok rfl rfl rfl rfl ?_ ?_ ?_; (first | exact ⟨⟩ | omega | focus (simp <;> omega) | decide +kernel); (first | exact trivial | exact rfl | exact .inl rfl | exact .inr rfl)) | refine Rg.nil ?_ | refine Rg.skip rfl rfl rfl ?_ | refine Run.regR ?_ | refine Run.condT rfl ?_ | refine Run.condF rfl ?_ | ((first | refine Run.condB rfl (fun hc => ?_) (fun hc => ?_) | ((fail_if_success (refine Rg.lit true rfl ?_)); (fail_if_success (refine Rg.lit false rfl ?_)); refine Rg.guard rfl (fun hc => ?_) (fun hc => ?_))) <;> ((try simp only [cs] at hc); (first | ((exfalso; omega); done) | skip))))
    refine Run.loopN (ι := Nat) (fun i => ([(1, .ptr 0 0 0), (3, i64 i)], [pbox p])) (fun i => i ≤ p.handlers.length ∧ (p.handlers.drop i).all (fun a => decide (a.code.length ≤ 70)) = p.handlers.all fun a => decide (a.code.length ≤ 70)) (fun i => p.handlers.length - i) 0 ⟨rfl, rfl, trivial⟩ rfl ⟨by omega, rfl⟩ ?_
    rintro i ⟨hi, hf⟩ back backR
    dsimp only
    by_cases hlt : i < p.handlers.length
    · rw [all_drop _ hlt] at hf
      by_cases h70 : (p.handlers.getD i default).code.length ≤ 70
      · rw [decide_eq_true h70, Bool.true_and] at hf
        repeat' (first | refine Run.ctl rfl ?_ | (refine Rg.op false tok rfl rfl rfl rfl ?_ ?_ ?_; (first | exact ⟨⟩ | omega | focus (simp <;> omega) | decide +kernel); (first | exact trivial | exact rfl | exact .inl rfl | exact .inr rfl)) | (refine Rg.op true tok rfl rfl rfl rfl ?_ ?_ ?_; (first | exact ⟨⟩ | omega | focus (simp <;> omega) | decide +kernel); (first | exact trivial | exact rfl | exact .inl rfl | exact .inr rfl)) | refine Rg.nil ?_ | refine Rg.skip rfl rfl rfl ?_ | refine Run.regR ?_ | refine Run.condT rfl ?_ | refine Run.condF rfl ?_ | ((first | refine Run.condB rfl (fun hc => ?_) (fun hc => ?_) | ((fail_if_success (refine Rg.lit true rfl ?_)); (fail_if_success (refine Rg.lit false rfl ?_)); refine Rg.guard rfl (fun hc => ?_) (fun hc => ?_))) <;> ((try simp only [cs] at hc); (first | ((exfalso; omega); done) | skip))))
        exact back (i + 1) _ _ ⟨by omega, hf⟩ (by omega) ⟨rfl, rfl, trivial⟩ rfl
      · rw [decide_eq_false h70, Bool.false_and] at hf
        rw [← hf]
        repeat' (first | refine Run.ctl rfl ?_ | (refine Rg.op false tok rfl rfl rfl rfl ?_ ?_ ?_; (first | exact ⟨⟩ | omega | focus (simp <;> omega) | decide +kernel); (first | exact trivial | exact rfl | exact .inl rfl | exact .inr rfl)) | (refine Rg.op true tok rfl rfl rfl rfl ?_ ?_ ?_; (first | exact ⟨⟩ | omega | focus (simp <;> omega) | decide +kernel); (first | exact trivial | exact rfl | exact .inl rfl | exact .inr rfl)) | refine Rg.nil ?_ | refine Rg.skip rfl rfl rfl ?_ | refine Run.regR ?_ | refine Run.condT rfl ?_ | refine Run.condF rfl ?_ | ((first | refine Run.condB rfl (fun hc => ?_) (fun hc => ?_) | ((fail_if_success (refine Rg.lit true rfl ?_)); (fail_if_success (refine Rg.lit false rfl ?_)); refine Rg.guard rfl (fun hc => ?_) (fun hc => ?_))) <;> ((try simp only [cs] at hc); (first | ((exfalso; omega); done) | skip))))
        (first | refine Run.ret tok Tryd.func7 rfl ?_ | refine Run.fall tok Tryd.func7 rfl ?_)
        refine .ofBool ?_
        simp
    · obtain rfl : i = p.handlers.length := by omega
      rw [List.drop_length] at hf
      rw [← hf, List.all_nil]
      clear hf
      repeat' (first | refine Run.ctl rfl ?_ | (refine Rg.op false tok rfl rfl rfl rfl ?_ ?_ ?_; (first | exact ⟨⟩ | omega | focus (simp <;> omega) | decide +kernel); (first | exact trivial | exact rfl | exact .inl rfl | exact .inr rfl)) | (refine Rg.op true tok rfl rfl rfl rfl ?_ ?_ ?_; (first | exact ⟨⟩ | omega | focus (simp <;> omega) | decide +kernel); (first | exact trivial | exact rfl | exact .inl rfl | exact .inr rfl)) | refine Rg.nil ?_ | refine Rg.skip rfl rfl rfl ?_ | refine Run.regR ?_ | refine Run.condT rfl ?_ | refine Run.condF rfl ?_ | ((first | refine Run.condB rfl (fun hc => ?_) (fun hc => ?_) | ((fail_if_success (refine Rg.lit true rfl ?_)); (fail_if_success (refine Rg.lit false rfl ?_)); refine Rg.guard rfl (fun hc => ?_) (fun hc => ?_))) <;> ((try simp only [cs] at hc); (first | ((exfalso; omega); done) | skip))))
      refine Run.loopN (ι := Nat) (fun i => ([(1, .ptr 0 0 0), (4, i64 i)], [pbox p])) (fun i => i ≤ p.actors.length ∧ (p.actors.drop i).all (fun a => decide (a.regs.length ≤ 10)) = p.actors.all fun a => decide (a.regs.length ≤ 10)) (fun i => p.actors.length - i) 0 ⟨rfl, rfl, trivial⟩ rfl ⟨by omega, rfl⟩ ?_
      rintro i ⟨hi, hf⟩ back backR
      dsimp only
      by_cases hlt : i < p.actors.length
      · rw [all_drop _ hlt] at hf
        by_cases h70 : (p.actors.getD i default).regs.length ≤ 10
        · rw [decide_eq_true h70, Bool.true_and] at hf
          repeat' (first | refine Run.ctl rfl ?_ | (refine Rg.op false tok rfl rfl rfl rfl ?_ ?_ ?_; (first | exact ⟨⟩ | omega | focus (simp <;> omega) | decide +kernel); (first | exact trivial | exact rfl | exact .inl rfl | exact .inr rfl)) | (refine Rg.op true tok rfl rfl rfl rfl ?_ ?_ ?_; (first | exact ⟨⟩ | omega | focus (simp <;> omega) | decide +kernel); (first | exact trivial | exact rfl | exact .inl rfl | exact .inr rfl)) | refine Rg.nil ?_ | refine Rg.skip rfl rfl rfl ?_ | refine Run.regR ?_ | refine Run.condT rfl ?_ | refine Run.condF rfl ?_ | ((first | refine Run.condB rfl (fun hc => ?_) (fun hc => ?_) | ((fail_if_success (refine Rg.lit true rfl ?_)); (fail_if_success (refine Rg.lit false rfl ?_)); refine Rg.guard rfl (fun hc => ?_) (fun hc => ?_))) <;> ((try simp only [cs] at hc); (first | ((exfalso; omega); done) | skip))))
          exact back (i + 1) _ _ ⟨by omega, hf⟩ (by omega) ⟨rfl, rfl, trivial⟩ rfl
        · rw [decide_eq_false h70, Bool.false_and] at hf
          rw [← hf]
          repeat' (first | refine Run.ctl rfl ?_ | (refine Rg.op false tok rfl rfl rfl rfl ?_ ?_ ?_; (first | exact ⟨⟩ | omega | focus (simp <;> omega) | decide +kernel); (first | exact trivial | exact rfl | exact .inl rfl | exact .inr rfl)) | (refine Rg.op true tok rfl rfl rfl rfl ?_ ?_ ?_; (first | exact ⟨⟩ | omega | focus (simp <;> omega) | decide +kernel); (first | exact trivial | exact rfl | exact .inl rfl | exact .inr rfl)) | refine Rg.nil ?_ | refine Rg.skip rfl rfl rfl ?_ | refine Run.regR ?_ | refine Run.condT rfl ?_ | refine Run.condF rfl ?_ | ((first | refine Run.condB rfl (fun hc => ?_) (fun hc => ?_) | ((fail_if_success (refine Rg.lit true rfl ?_)); (fail_if_success (refine Rg.lit false rfl ?_)); refine Rg.guard rfl (fun hc => ?_) (fun hc => ?_))) <;> ((try simp only [cs] at hc); (first | ((exfalso; omega); done) | skip))))
          (first | refine Run.ret tok Tryd.func7 rfl ?_ | refine Run.fall tok Tryd.func7 rfl ?_)
          refine .ofBool ?_
          simp
      · obtain rfl : i = p.actors.length := by omega
        rw [List.drop_length] at hf
        rw [← hf, List.all_nil]
        clear hf
        repeat' (first | refine Run.ctl rfl ?_ | (refine Rg.op false tok rfl rfl rfl rfl ?_ ?_ ?_; (first | exact ⟨⟩ | omega | focus (simp <;> omega) | decide +kernel); (first | exact trivial | exact rfl | exact .inl rfl | exact .inr rfl)) | (refine Rg.op true tok rfl rfl rfl rfl ?_ ?_ ?_; (first | exact ⟨⟩ | omega | focus (simp <;> omega) | decide +kernel); (first | exact trivial | exact rfl | exact .inl rfl | exact .inr rfl)) | refine Rg.nil ?_ | refine Rg.skip rfl rfl rfl ?_ | refine Run.regR ?_ | refine Run.condT rfl ?_ | refine Run.condF rfl ?_ | ((first | refine Run.condB rfl (fun hc => ?_) (fun hc => ?_) | ((fail_if_success (refine Rg.lit true rfl ?_)); (fail_if_success (refine Rg.lit false rfl ?_)); refine Rg.guard rfl (fun hc => ?_) (fun hc => ?_))) <;> ((try simp only [cs] at hc); (first | ((exfalso; omega); done) | skip))))
        refine Run.loopN (ι := Nat) (fun i => ([(1, .ptr 0 0 0), (5, i64 i)], [pbox p])) (fun i => i ≤ p.boot.length ∧ (p.boot.drop i).all (fun a => decide (a.args.length ≤ 6)) = p.boot.all fun a => decide (a.args.length ≤ 6)) (fun i => p.boot.length - i) 0 ⟨rfl, rfl, trivial⟩ rfl ⟨by omega, rfl⟩ ?_
        rintro i ⟨hi, hf⟩ back backR
        dsimp only
        by_cases hlt : i < p.boot.length
        · rw [all_drop _ hlt] at hf
          by_cases h70 : (p.boot.getD i default).args.length ≤ 6
          · rw [decide_eq_true h70, Bool.true_and] at hf
            repeat' (first | refine Run.ctl rfl ?_ | (refine Rg.op false tok rfl rfl rfl rfl ?_ ?_ ?_; (first | exact ⟨⟩ | omega | focus (simp <;> omega) | decide +kernel); (first | exact trivial | exact rfl | exact .inl rfl | exact .inr rfl)) | (refine Rg.op true tok rfl rfl rfl rfl ?_ ?_ ?_; (first | exact ⟨⟩ | omega | focus (simp <;> omega) | decide +kernel); (first | exact trivial | exact rfl | exact .inl rfl | exact .inr rfl)) | refine Rg.nil ?_ | refine Rg.skip rfl rfl rfl ?_ | refine Run.regR ?_ | refine Run.condT rfl ?_ | refine Run.condF rfl ?_ | ((first | refine Run.condB rfl (fun hc => ?_) (fun hc => ?_) | ((fail_if_success (refine Rg.lit true rfl ?_)); (fail_if_success (refine Rg.lit false rfl ?_)); refine Rg.guard rfl (fun hc => ?_) (fun hc => ?_))) <;> ((try simp only [cs] at hc); (first | ((exfalso; omega); done) | skip))))
            exact back (i + 1) _ _ ⟨by omega, hf⟩ (by omega) ⟨rfl, rfl, trivial⟩ rfl
          · rw [decide_eq_false h70, Bool.false_and] at hf
            rw [← hf]
            repeat' (first | refine Run.ctl rfl ?_ | (refine Rg.op false tok rfl rfl rfl rfl ?_ ?_ ?_; (first | exact ⟨⟩ | omega | focus (simp <;> omega) | decide +kernel); (first | exact trivial | exact rfl | exact .inl rfl | exact .inr rfl)) | (refine Rg.op true tok rfl rfl rfl rfl ?_ ?_ ?_; (first | exact ⟨⟩ | omega | focus (simp <;> omega) | decide +kernel); (first | exact trivial | exact rfl | exact .inl rfl | exact .inr rfl)) | refine Rg.nil ?_ | refine Rg.skip rfl rfl rfl ?_ | refine Run.regR ?_ | refine Run.condT rfl ?_ | refine Run.condF rfl ?_ | ((first | refine Run.condB rfl (fun hc => ?_) (fun hc => ?_) | ((fail_if_success (refine Rg.lit true rfl ?_)); (fail_if_success (refine Rg.lit false rfl ?_)); refine Rg.guard rfl (fun hc => ?_) (fun hc => ?_))) <;> ((try simp only [cs] at hc); (first | ((exfalso; omega); done) | skip))))
            (first | refine Run.ret tok Tryd.func7 rfl ?_ | refine Run.fall tok Tryd.func7 rfl ?_)
            refine .ofBool ?_
            simp
        · obtain rfl : i = p.boot.length := by omega
          rw [List.drop_length] at hf
          rw [← hf, List.all_nil]
          clear hf
          repeat' (first | refine Run.ctl rfl ?_ | (refine Rg.op false tok rfl rfl rfl rfl ?_ ?_ ?_; (first | exact ⟨⟩ | omega | focus (simp <;> omega) | decide +kernel); (first | exact trivial | exact rfl | exact .inl rfl | exact .inr rfl)) | (refine Rg.op true tok rfl rfl rfl rfl ?_ ?_ ?_; (first | exact ⟨⟩ | omega | focus (simp <;> omega) | decide +kernel); (first | exact trivial | exact rfl | exact .inl rfl | exact .inr rfl)) | refine Rg.nil ?_ | refine Rg.skip rfl rfl rfl ?_ | refine Run.regR ?_ | refine Run.condT rfl ?_ | refine Run.condF rfl ?_ | ((first | refine Run.condB rfl (fun hc => ?_) (fun hc => ?_) | ((fail_if_success (refine Rg.lit true rfl ?_)); (fail_if_success (refine Rg.lit false rfl ?_)); refine Rg.guard rfl (fun hc => ?_) (fun hc => ?_))) <;> ((try simp only [cs] at hc); (first | ((exfalso; omega); done) | skip))))
          (first | refine Run.ret tok Tryd.func7 rfl ?_ | refine Run.fall tok Tryd.func7 rfl ?_)
          exact .refl _
  · rw [decide_eq_false h1, Bool.false_and]
    refine Pure.of_spec (Spec.of_run (fn := Tryd.f7) Tryd.func7 rfl rfl (by kernel_rfl) ?_) (by first | assumption | rfl | (split <;> rfl) | (split <;> split <;> rfl))
    repeat' (first | refine Run.ctl rfl ?_ | (refine Rg.op false tok rfl rfl rfl rfl ?_ ?_ ?_; (first | exact ⟨⟩ | omega | focus (simp <;> omega) | decide +kernel); (first | exact trivial | exact rfl | exact .inl rfl | exact .inr rfl)) | (refine Rg.op true tok rfl rfl rfl rfl ?_ ?_ ?_; (first | exact ⟨⟩ | omega | focus (simp <;> omega) | decide +kernel); (first | exact trivial | exact rfl | exact .inl rfl | exact .inr rfl)) | refine Rg.nil ?_ | refine Rg.skip rfl rfl rfl ?_ | refine Run.regR ?_ | refine Run.condT rfl ?_ | refine Run.condF rfl ?_ | ((first | refine Run.condB rfl (fun hc => ?_) (fun hc => ?_) | ((fail_if_success (refine Rg.lit true rfl ?_)); (fail_if_success (refine Rg.lit false rfl ?_)); refine Rg.guard rfl (fun hc => ?_) (fun hc => ?_))) <;> ((try simp only [cs] at hc); (first | ((exfalso; omega); done) | skip))))
    all_goals ((first | refine Run.ret tok Tryd.func7 rfl ?_ | refine Run.fall tok Tryd.func7 rfl ?_); exact .refl _)
end Go.Proofs.YtffckdfcmdmnoaaDoor.W
end
