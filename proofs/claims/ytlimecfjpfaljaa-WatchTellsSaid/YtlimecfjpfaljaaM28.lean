/- Texts merged: D32, P9. -/
import Derived.Test.YtlimecfjpfaljaaM27
import Derived.Test.YtlimecfjpfaljaaM21
section
/- Walks: the document's own order of messages. -/
set_option linter.unusedVariables false
set_option linter.unusedSimpArgs false
set_option linter.unusedSectionVars false
set_option pp.maxSteps 40000
set_option maxHeartbeats 2000000
namespace Go.Proofs.Ytlimecfjpfaljaa.W
open Go Go.Sy

theorem refLess_ (a b : ID) : Pure Try.prog 71 [pID a, pID b] (bl (lessID a b)) := by
  refine Pure.of_spec (Spec.of_run (fn := Try.f71) Try.func71 rfl rfl (by kernel_rfl) ?_) (by first | assumption | rfl | (split <;> rfl) | (split <;> split <;> rfl))
  repeat' (first | refine Run.ctl rfl ?_ | (refine Rg.op false tok rfl rfl rfl rfl ?_ ?_ ?_; (first | exact ⟨⟩ | omega | focus (simp <;> omega) | decide +kernel); (first | exact trivial | exact rfl | exact .inl rfl | exact .inr rfl)) | (refine Rg.op true tok rfl rfl rfl rfl ?_ ?_ ?_; (first | exact ⟨⟩ | omega | focus (simp <;> omega) | decide +kernel); (first | exact trivial | exact rfl | exact .inl rfl | exact .inr rfl)) | refine Rg.nil ?_ | refine Rg.skip rfl rfl rfl ?_ | refine Run.regR ?_ | refine Run.condT rfl ?_ | refine Run.condF rfl ?_ | ((first | refine Run.condB rfl (fun hc => ?_) (fun hc => ?_) | ((fail_if_success (refine Rg.lit true rfl ?_)); (fail_if_success (refine Rg.lit false rfl ?_)); refine Rg.guard rfl (fun hc => ?_) (fun hc => ?_))) <;> ((try simp only [cs] at hc); (first | ((exfalso; omega); done) | skip))))
  all_goals ((first | refine Run.ret tok Try.func71 rfl ?_ | refine Run.fall tok Try.func71 rfl ?_); refine .ofBool ?_; rw [Bool.eq_iff_iff]; simp only [lessID, orderID, orI, cmpI, decide_eq_true_eq]; repeat' split) <;> first | omega | (simp; done) | (simp; omega) | (simp_all; done) | (simp_all; omega)
theorem refSorted_ (l : List Msg) (hl : l.length ≤ 100000) : Pure Try.prog 43 [sl 6 eMsg l] (bl (sortedMail l)) := by
  refine Pure.of_spec (Spec.of_run (fn := Try.f43) Try.func43 rfl rfl (by kernel_rfl) ?_) (by first | assumption | rfl | (split <;> rfl) | (split <;> split <;> rfl))
  repeat' (first | refine Run.ctl rfl ?_ | (refine Rg.op false tok rfl rfl rfl rfl ?_ ?_ ?_; (first | exact ⟨⟩ | omega | focus (simp <;> omega) | decide +kernel); (first | exact trivial | exact rfl | exact .inl rfl | exact .inr rfl)) | (refine Rg.op true tok rfl rfl rfl rfl ?_ ?_ ?_; (first | exact ⟨⟩ | omega | focus (simp <;> omega) | decide +kernel); (first | exact trivial | exact rfl | exact .inl rfl | exact .inr rfl)) | refine Rg.nil ?_ | refine Rg.skip rfl rfl rfl ?_ | refine Run.regR ?_ | refine Run.condT rfl ?_ | refine Run.condF rfl ?_ | ((first | refine Run.condB rfl (fun hc => ?_) (fun hc => ?_) | ((fail_if_success (refine Rg.lit true rfl ?_)); (fail_if_success (refine Rg.lit false rfl ?_)); refine Rg.guard rfl (fun hc => ?_) (fun hc => ?_))) <;> ((try simp only [cs] at hc); (first | ((exfalso; omega); done) | skip))))
  refine Run.loopN (ι := Nat) (fun j => ([(0, sl 6 eMsg l), (3, i64 (j + 1 : Nat))], [])) (fun j => j ≤ l.length ∧ ∀ q, q < j → q + 1 < l.length → lessID (l.getD q default).id (l.getD (q + 1) default).id = true) (fun j => l.length - j) 0 ⟨rfl, rfl, trivial⟩ rfl ⟨by omega, fun q hq => by omega⟩ ?_
  rintro j ⟨hj, hf⟩ back backR
  dsimp only
  by_cases hlt : j + 1 < l.length
  · have hle := refLess_ (l.getD j default).id (l.getD (j + 1) default).id
    cases hb : lessID (l.getD j default).id (l.getD (j + 1) default).id with
    | true =>
      rw [hb] at hle
      repeat' (first | (refine Run.drwP [] [0, 1, 2, 3, 4, 5, 6, 7, 8, 9, 10, 11, 12] [none, none, none, none, none, none, none, none, none, none, none, none, none] mixed (by kernel_rfl) rfl ?_) | refine Rg.any rfl rfl rfl (fun _ hq => G_ixFK tok j rfl rfl rfl rfl rfl (by omega) (by omega) hq) (by first | exact trivial | exact rfl | exact .inl rfl | exact .inr rfl | focus ((repeat (first | exact trivial | (refine ⟨Stay.op false tok rfl rfl rfl ?_ (fun t ht => by cases ht; rfl), ?_⟩; (first | exact ⟨⟩ | omega | focus (simp <;> omega) | decide +kernel)) | (refine ⟨Stay.op true tok rfl rfl rfl ?_ (fun t ht => by cases ht; rfl), ?_⟩; (first | exact ⟨⟩ | omega | focus (simp <;> omega) | decide +kernel)) | refine ⟨Stay.skip rfl rfl (fun t ht => by cases ht; rfl), ?_⟩)); done)) ?_ | refine Run.ctl rfl ?_ | (refine Rg.op false tok rfl rfl rfl rfl ?_ ?_ ?_; (first | exact ⟨⟩ | omega | focus (simp <;> omega) | decide +kernel); (first | exact trivial | exact rfl | exact .inl rfl | exact .inr rfl | focus ((repeat (first | exact trivial | (refine ⟨Stay.op false tok rfl rfl rfl ?_ (fun t ht => by cases ht; rfl), ?_⟩; (first | exact ⟨⟩ | omega | focus (simp <;> omega) | decide +kernel)) | (refine ⟨Stay.op true tok rfl rfl rfl ?_ (fun t ht => by cases ht; rfl), ?_⟩; (first | exact ⟨⟩ | omega | focus (simp <;> omega) | decide +kernel)) | refine ⟨Stay.skip rfl rfl (fun t ht => by cases ht; rfl), ?_⟩)); done))) | refine Rg.call (hle) rfl rfl rfl rfl rfl ⟨⟨.refl _, .refl _, trivial⟩, rfl⟩ ?_ | (refine Rg.op true tok rfl rfl rfl rfl ?_ ?_ ?_; (first | exact ⟨⟩ | omega | focus (simp <;> omega) | decide +kernel); (first | exact trivial | exact rfl | exact .inl rfl | exact .inr rfl | focus ((repeat (first | exact trivial | (refine ⟨Stay.op false tok rfl rfl rfl ?_ (fun t ht => by cases ht; rfl), ?_⟩; (first | exact ⟨⟩ | omega | focus (simp <;> omega) | decide +kernel)) | (refine ⟨Stay.op true tok rfl rfl rfl ?_ (fun t ht => by cases ht; rfl), ?_⟩; (first | exact ⟨⟩ | omega | focus (simp <;> omega) | decide +kernel)) | refine ⟨Stay.skip rfl rfl (fun t ht => by cases ht; rfl), ?_⟩)); done))) | refine Rg.nil ?_ | refine Rg.skip rfl rfl rfl ?_ | refine Run.regR ?_ | refine Run.drwR mixed (by kernel_rfl) rfl ?_ | refine Run.condT rfl ?_ | refine Run.condF rfl ?_ | ((first | refine Run.condB rfl (fun hc => ?_) (fun hc => ?_) | ((fail_if_success (refine Rg.lit true rfl ?_)); (fail_if_success (refine Rg.lit false rfl ?_)); refine Rg.guard rfl (fun hc => ?_) (fun hc => ?_))) <;> ((try simp only [cs] at hc); (first | ((exfalso; omega); done) | ((cases hc); done) | skip))))
      exact back (j + 1) _ _ ⟨by omega, fun q hq hl => by
        by_cases h : q < j
        · exact hf q h hl
        · obtain rfl : q = j := by omega
          exact hb⟩ (by omega) ⟨rfl, rfl, trivial⟩ rfl
    | false =>
      rw [hb] at hle
      have hs : sortedMail l = false := by
        cases h : sortedMail l with
        | false => rfl
        | true => rw [(sortedMail_iff l).1 h j hlt] at hb; cases hb
      rw [hs]
      repeat' (first | (refine Run.drwP [] [0, 1, 2, 3, 4, 5, 6, 7, 8, 9, 10, 11, 12] [none, none, none, none, none, none, none, none, none, none, none, none, none] mixed (by kernel_rfl) rfl ?_) | refine Rg.any rfl rfl rfl (fun _ hq => G_ixFK tok j rfl rfl rfl rfl rfl (by omega) (by omega) hq) (by first | exact trivial | exact rfl | exact .inl rfl | exact .inr rfl | focus ((repeat (first | exact trivial | (refine ⟨Stay.op false tok rfl rfl rfl ?_ (fun t ht => by cases ht; rfl), ?_⟩; (first | exact ⟨⟩ | omega | focus (simp <;> omega) | decide +kernel)) | (refine ⟨Stay.op true tok rfl rfl rfl ?_ (fun t ht => by cases ht; rfl), ?_⟩; (first | exact ⟨⟩ | omega | focus (simp <;> omega) | decide +kernel)) | refine ⟨Stay.skip rfl rfl (fun t ht => by cases ht; rfl), ?_⟩)); done)) ?_ | refine Run.ctl rfl ?_ | (refine Rg.op false tok rfl rfl rfl rfl ?_ ?_ ?_; (first | exact ⟨⟩ | omega | focus (simp <;> omega) | decide +kernel); (first | exact trivial | exact rfl | exact .inl rfl | exact .inr rfl | focus ((repeat (first | exact trivial | (refine ⟨Stay.op false tok rfl rfl rfl ?_ (fun t ht => by cases ht; rfl), ?_⟩; (first | exact ⟨⟩ | omega | focus (simp <;> omega) | decide +kernel)) | (refine ⟨Stay.op true tok rfl rfl rfl ?_ (fun t ht => by cases ht; rfl), ?_⟩; (first | exact ⟨⟩ | omega | focus (simp <;> omega) | decide +kernel)) | refine ⟨Stay.skip rfl rfl (fun t ht => by cases ht; rfl), ?_⟩)); done))) | refine Rg.call (hle) rfl rfl rfl rfl rfl ⟨⟨.refl _, .refl _, trivial⟩, rfl⟩ ?_ | (refine Rg.op true tok rfl rfl rfl rfl ?_ ?_ ?_; (first | exact ⟨⟩ | omega | focus (simp <;> omega) | decide +kernel); (first | exact trivial | exact rfl | exact .inl rfl | exact .inr rfl | focus ((repeat (first | exact trivial | (refine ⟨Stay.op false tok rfl rfl rfl ?_ (fun t ht => by cases ht; rfl), ?_⟩; (first | exact ⟨⟩ | omega | focus (simp <;> omega) | decide +kernel)) | (refine ⟨Stay.op true tok rfl rfl rfl ?_ (fun t ht => by cases ht; rfl), ?_⟩; (first | exact ⟨⟩ | omega | focus (simp <;> omega) | decide +kernel)) | refine ⟨Stay.skip rfl rfl (fun t ht => by cases ht; rfl), ?_⟩)); done))) | refine Rg.nil ?_ | refine Rg.skip rfl rfl rfl ?_ | refine Run.regR ?_ | refine Run.drwR mixed (by kernel_rfl) rfl ?_ | refine Run.condT rfl ?_ | refine Run.condF rfl ?_ | ((first | refine Run.condB rfl (fun hc => ?_) (fun hc => ?_) | ((fail_if_success (refine Rg.lit true rfl ?_)); (fail_if_success (refine Rg.lit false rfl ?_)); refine Rg.guard rfl (fun hc => ?_) (fun hc => ?_))) <;> ((try simp only [cs] at hc); (first | ((exfalso; omega); done) | ((cases hc); done) | skip))))
      (first | refine Run.ret tok Try.func43 rfl ?_ | refine Run.fall tok Try.func43 rfl ?_)
      exact .refl _
  · have hs : sortedMail l = true := (sortedMail_iff l).2 fun q hq => hf q (by omega) hq
    rw [hs]
    repeat' (first | refine Run.ctl rfl ?_ | (refine Rg.op false tok rfl rfl rfl rfl ?_ ?_ ?_; (first | exact ⟨⟩ | omega | focus (simp <;> omega) | decide +kernel); (first | exact trivial | exact rfl | exact .inl rfl | exact .inr rfl)) | (refine Rg.op true tok rfl rfl rfl rfl ?_ ?_ ?_; (first | exact ⟨⟩ | omega | focus (simp <;> omega) | decide +kernel); (first | exact trivial | exact rfl | exact .inl rfl | exact .inr rfl)) | refine Rg.nil ?_ | refine Rg.skip rfl rfl rfl ?_ | refine Run.regR ?_ | refine Run.condT rfl ?_ | refine Run.condF rfl ?_ | ((first | refine Run.condB rfl (fun hc => ?_) (fun hc => ?_) | ((fail_if_success (refine Rg.lit true rfl ?_)); (fail_if_success (refine Rg.lit false rfl ?_)); refine Rg.guard rfl (fun hc => ?_) (fun hc => ?_))) <;> ((try simp only [cs] at hc); (first | ((exfalso; omega); done) | skip))))
    (first | refine Run.ret tok Try.func43 rfl ?_ | refine Run.fall tok Try.func43 rfl ?_)
    exact .refl _
end Go.Proofs.Ytlimecfjpfaljaa.W
end
section
/- Plain: the depths by rounds, as the document finds them: the same programs may be. -/
set_option linter.unusedVariables false
set_option linter.unusedSimpArgs false
set_option linter.unusedSectionVars false
namespace Go.Proofs.Ytlimecfjpfaljaa.W
open Go Go.Sy

structure Ds where
  l : List Int
  mo : Int
  ag : Bool
def agN (b : Bool) : Nat := if b then 1 else 0
def pushR (n : Int) : List Int → List Int → Bool → Option (List Int × Bool)
  | [], l, ag => some (l, ag)
  | k :: ks, l, ag =>
    if l.getD k.toNat 0 = -1 then pushR n ks (l.set k.toNat n) true
    else if l.getD k.toNat 0 = n then pushR n ks l ag
    else none
def stepR (p : Pg) (code : List Instr) (i : Nat) (s : Ds) : Option Ds :=
  if s.l.getD i 0 = -1 then some s
  else if s.l.getD i 0 - takesOf p (code.getD i default) < 0 ∨ 8 < s.l.getD i 0 - takesOf p (code.getD i default) + opPuts (code.getD i default).op then none
  else match pushR (s.l.getD i 0 - takesOf p (code.getD i default) + opPuts (code.getD i default).op) (nextOf i (code.getD i default)) s.l s.ag with
    | none => none
    | some (l, ag) => some ⟨l, lmax s.mo [s.l.getD i 0, s.l.getD i 0 - takesOf p (code.getD i default) + opPuts (code.getD i default).op], ag⟩
def fromR (p : Pg) (code : List Instr) : Nat → Nat → Ds → Option Ds
  | 0, _, s => some s
  | f + 1, i, s => match stepR p code i s with
    | none => none
    | some s' => fromR p code f (i + 1) s'
def rounds (p : Pg) (code : List Instr) : Nat → Ds → Option Ds
  | 0, _ => none
  | f + 1, s => match fromR p code code.length 0 ⟨s.l, s.mo, false⟩ with
    | none => none
    | some s' => if s'.ag = true then rounds p code f s' else some s'
def refDepths (p : Pg) (h : Hd) : Option Ds := rounds p h.code (h.code.length + 1) ⟨(List.replicate (h.code.length + 1) (-1)).set 0 0, 0, true⟩
/-- The rest of a round, behind a place's followers. -/
def goR (p : Pg) (code : List Instr) (m i : Nat) (mo : Int) : Option (List Int × Bool) → Option Ds
  | none => none
  | some (l, ag) => fromR p code m i ⟨l, mo, ag⟩
theorem fromR_succ (p : Pg) (code : List Instr) (m i : Nat) (l : List Int) (mo : Int) (ag : Bool) : fromR p code (m + 1) i ⟨l, mo, ag⟩ =
    if l.getD i 0 = -1 then fromR p code m (i + 1) ⟨l, mo, ag⟩
    else if l.getD i 0 - takesOf p (code.getD i default) < 0 ∨ 8 < l.getD i 0 - takesOf p (code.getD i default) + opPuts (code.getD i default).op then none
    else goR p code m (i + 1) (lmax mo [l.getD i 0, l.getD i 0 - takesOf p (code.getD i default) + opPuts (code.getD i default).op]) (pushR (l.getD i 0 - takesOf p (code.getD i default) + opPuts (code.getD i default).op) (nextOf i (code.getD i default)) l ag) := by
  rw [fromR]
  unfold stepR
  dsimp only
  by_cases h0 : l.getD i 0 = -1
  · rw [if_pos h0, if_pos h0]
  rw [if_neg h0, if_neg h0]
  by_cases hb : l.getD i 0 - takesOf p (code.getD i default) < 0 ∨ 8 < l.getD i 0 - takesOf p (code.getD i default) + opPuts (code.getD i default).op
  · rw [if_pos hb, if_pos hb]
  rw [if_neg hb, if_neg hb]
  cases pushR (l.getD i 0 - takesOf p (code.getD i default) + opPuts (code.getD i default).op) (nextOf i (code.getD i default)) l ag with
  | none => rfl
  | some x => rfl
theorem pushR_at (n : Int) {ks : List Int} {j : Nat} (hj : j < ks.length) (l : List Int) (ag : Bool) : pushR n (ks.drop j) l ag =
    if l.getD (ks.getD j 0).toNat 0 = -1 then pushR n (ks.drop (j + 1)) (l.set (ks.getD j 0).toNat n) true
    else if l.getD (ks.getD j 0).toNat 0 = n then pushR n (ks.drop (j + 1)) l ag else none := by
  rw [List.drop_eq_getElem_cons hj]
  have : ks.getD j 0 = ks[j] := by simp [hj]
  rw [this]
  rfl
structure PushedR (n : Int) (ks l o : List Int) (ag ag' : Bool) : Prop where
  len : o.length = l.length
  keep : ∀ k : Nat, l.getD k 0 ≠ -1 → o.getD k 0 = l.getD k 0
  new : ∀ k : Nat, o.getD k 0 ≠ -1 → l.getD k 0 ≠ -1 ∨ ((k : Int) ∈ ks ∧ o.getD k 0 = n)
  quiet : ag' = false → o = l ∧ ag = false ∧ ∀ j ∈ ks, l.getD j.toNat 0 = n
  cnt : o.count (-1) + agN ag' ≤ l.count (-1) + agN ag
theorem pushR_some {n : Int} (hn : n ≠ -1) : ∀ {ks l o : List Int} {ag ag' : Bool}, (∀ k ∈ ks, 0 ≤ k ∧ k < (l.length : Int)) → pushR n ks l ag = some (o, ag') → PushedR n ks l o ag ag'
  | [], l, o, ag, ag', _, h => by
    simp only [pushR, Option.some.injEq, Prod.mk.injEq] at h
    obtain ⟨rfl, rfl⟩ := h
    exact ⟨rfl, fun _ _ => rfl, fun _ h => .inl h, fun h => ⟨rfl, h, fun _ h => (nomatch h)⟩, Nat.le_refl _⟩
  | k :: ks, l, o, ag, ag', hk, h => by
    have hk0 := hk k (by simp)
    unfold pushR at h
    split at h
    · rename_i e
      have e' : ∀ j : Nat, (l.set k.toNat n).getD j 0 = if k = j then n else l.getD j 0 := fun j => set_at hk0
      have ih := pushR_some hn (fun x hx => by rw [List.length_set]; exact hk x (by simp [hx])) h
      refine ⟨by rw [ih.len, List.length_set], fun j hj => ?_, fun j hj => ?_, fun ha => ?_, ?_⟩
      · have hne : ¬ k = j := fun e2 => by
          rw [e2] at e; exact hj (by simpa using e)
        have := ih.keep j (by rw [e', if_neg hne]; exact hj)
        rw [this, e', if_neg hne]
      · by_cases hne : k = j
        · refine .inr ⟨by simp [hne], ?_⟩
          rw [ih.keep j (by rw [e', if_pos hne]; exact hn), e', if_pos hne]
        · rcases ih.new j hj with h1 | ⟨h1, h2⟩
          · rw [e', if_neg hne] at h1; exact .inl h1
          · exact .inr ⟨by simp [h1], h2⟩
      · have := (ih.quiet ha).2.1
        cases this
      · have := ih.cnt
        have h2 := count_set (n := n) (i := k.toNat) (l := l) (by omega) e hn
        have h3 : agN true = 1 := rfl
        rw [h3] at this
        omega
    split at h
    · rename_i e1 e2
      have ih := pushR_some hn (fun x hx => hk x (by simp [hx])) h
      refine ⟨ih.len, ih.keep, fun j hj => ?_, fun ha => ?_, ih.cnt⟩
      · rcases ih.new j hj with h1 | ⟨h1, h2⟩
        · exact .inl h1
        · exact .inr ⟨by simp [h1], h2⟩
      · obtain ⟨q1, q2, q3⟩ := ih.quiet ha
        refine ⟨q1, q2, fun j hj => ?_⟩
        rcases List.mem_cons.1 hj with rfl | hj
        · exact e2
        · exact q3 j hj
    · cases h
theorem pushR_none {n : Int} (hn : n ≠ -1) : ∀ {ks l : List Int} {ag : Bool}, (∀ k ∈ ks, 0 ≤ k ∧ k < (l.length : Int)) → pushR n ks l ag = none → ∃ k ∈ ks, (l.getD k.toNat 0 ≠ -1 ∧ l.getD k.toNat 0 ≠ n)
  | [], l, ag, _, h => by cases h
  | k :: ks, l, ag, hk, h => by
    have hk0 := hk k (by simp)
    unfold pushR at h
    split at h
    · rename_i e
      obtain ⟨j, hj, h1, h2⟩ := pushR_none hn (fun x hx => by rw [List.length_set]; exact hk x (by simp [hx])) h
      have hj0 := hk j (by simp [hj])
      rw [set_at hk0] at h1 h2
      by_cases hkj : k = j.toNat
      · rw [if_pos hkj] at h2; exact absurd rfl h2
      · rw [if_neg hkj] at h1 h2
        exact ⟨j, by simp [hj], h1, h2⟩
    split at h
    · obtain ⟨j, hj, h1⟩ := pushR_none hn (fun x hx => hk x (by simp [hx])) h
      exact ⟨j, by simp [hj], h1⟩
    · rename_i e1 e2
      exact ⟨k, by simp, e1, e2⟩
structure RInv (p : Pg) (code : List Instr) (l : List Int) : Prop where
  len : l.length = code.length + 1
  reach : ∀ k : Nat, k ≤ code.length → l.getD k 0 ≠ -1 → Reach p code k (l.getD k 0) ∧ 0 ≤ l.getD k 0
  start : l.getD 0 0 = 0
def DoneR (p : Pg) (code : List Instr) (l : List Int) (k : Nat) : Prop :=
  takesOf p (code.getD k default) ≤ l.getD k 0 ∧ l.getD k 0 - takesOf p (code.getD k default) + opPuts (code.getD k default).op ≤ 8 ∧
    ∀ j ∈ nextOf k (code.getD k default), l.getD j.toNat 0 = l.getD k 0 - takesOf p (code.getD k default) + opPuts (code.getD k default).op
structure StepR (p : Pg) (code : List Instr) (i f : Nat) (s s' : Ds) : Prop where
  inv : RInv p code s'.l
  cnt : s'.l.count (-1) + agN s'.ag ≤ s.l.count (-1) + agN s.ag
  quiet : s'.ag = false → s'.l = s.l ∧ s.ag = false ∧ ∀ k, i ≤ k → k < i + f → s.l.getD k 0 ≠ -1 → DoneR p code s.l k
theorem stepR_both {p : Pg} {code : List Instr} (hi : Inside code) {i : Nat} (hil : i < code.length) {s : Ds} (h : RInv p code s.l) :
    (∀ s', stepR p code i s = some s' → StepR p code i 1 s s') ∧ (stepR p code i s = none → ¬ Good p code) := by
  unfold stepR
  by_cases h0 : s.l.getD i 0 = -1
  · rw [if_pos h0]
    refine ⟨fun s' e => ?_, fun e => (nomatch e)⟩
    simp only [Option.some.injEq] at e
    subst e
    exact ⟨h, Nat.le_refl _, fun ha => ⟨rfl, ha, fun k h1 h2 h3 => by obtain rfl : k = i := by omega
                                                                      exact absurd h0 h3⟩⟩
  rw [if_neg h0]
  obtain ⟨r1, r2⟩ := h.reach i (by omega) h0
  by_cases hb : s.l.getD i 0 - takesOf p (code.getD i default) < 0 ∨ 8 < s.l.getD i 0 - takesOf p (code.getD i default) + opPuts (code.getD i default).op
  · rw [if_pos hb]
    refine ⟨fun s' e => (nomatch e), fun _ g => ?_⟩
    have := g.fit i _ r1 (by omega) (by omega)
    rw [Int.toNat_natCast] at this
    omega
  rw [if_neg hb]
  have hnx : ∀ k ∈ nextOf i (code.getD i default), 0 ≤ k ∧ k < (s.l.length : Int) := fun k hk => by
    have := nextOf_in hi (at_ := (i : Int)) (by omega) (by omega) (by rw [Int.toNat_natCast]; exact hk)
    rw [h.len]; omega
  have hp := (opPuts_rng (code.getD i default).op).1
  have hre : ∀ k ∈ nextOf i (code.getD i default), Reach p code k (s.l.getD i 0 - takesOf p (code.getD i default) + opPuts (code.getD i default).op) := fun k hk => by
    have := r1.step (k := k) (by omega) (by omega) (by rw [Int.toNat_natCast]; exact hk)
    rw [Int.toNat_natCast] at this
    exact this
  have hdone : ∀ l : List Int, l = s.l → (∀ j ∈ nextOf i (code.getD i default), l.getD j.toNat 0 = s.l.getD i 0 - takesOf p (code.getD i default) + opPuts (code.getD i default).op) → DoneR p code s.l i := fun l e h1 => by
    subst e
    exact ⟨by omega, by omega, h1⟩
  obtain ⟨n, hn⟩ : ∃ n, n = s.l.getD i 0 - takesOf p (code.getD i default) + opPuts (code.getD i default).op := ⟨_, rfl⟩
  rw [← hn] at hre hdone hb ⊢
  cases hps : pushR n (nextOf i (code.getD i default)) s.l s.ag with
  | none =>
    refine ⟨fun s' e => (nomatch e), fun _ g => ?_⟩
    obtain ⟨k, hk, h1, h2⟩ := pushR_none (by omega) hnx hps
    have h3 := hnx k hk
    rw [h.len] at h3
    obtain ⟨r3, _⟩ := h.reach k.toNat (by omega) h1
    rw [show ((k.toNat : Nat) : Int) = k by omega] at r3
    exact absurd (g.one k _ _ r3 (hre k hk)) h2
  | some x =>
    obtain ⟨o, ag'⟩ := x
    refine ⟨fun s' e => ?_, fun e => (nomatch e)⟩
    simp only [Option.some.injEq] at e
    subst e
    have P := pushR_some (by omega) hnx hps
    refine ⟨⟨by rw [P.len, h.len], fun k hk h1 => ?_, ?_⟩, P.cnt, fun ha => ?_⟩
    · rcases P.new k h1 with h2 | ⟨h2, h3⟩
      · dsimp only
        rw [P.keep k h2]; exact h.reach k hk h2
      · dsimp only
        rw [h3]; exact ⟨hre _ h2, by omega⟩
    · dsimp only
      rw [P.keep 0 (by rw [h.start]; decide)]; exact h.start
    · obtain ⟨q1, q2, q3⟩ := P.quiet ha
      refine ⟨q1, q2, fun k h1 h2 h3 => ?_⟩
      obtain rfl : k = i := by omega
      exact hdone s.l rfl q3
theorem fromR_both {p : Pg} {code : List Instr} (hi : Inside code) : ∀ (f i : Nat) {s : Ds}, i + f ≤ code.length → RInv p code s.l →
    (∀ s', fromR p code f i s = some s' → StepR p code i f s s') ∧ (fromR p code f i s = none → ¬ Good p code)
  | 0, i, s, _, h => by
    refine ⟨fun s' e => ?_, fun e => (nomatch e)⟩
    simp only [fromR, Option.some.injEq] at e
    subst e
    exact ⟨h, Nat.le_refl _, fun ha => ⟨rfl, ha, fun k h1 h2 => by omega⟩⟩
  | f + 1, i, s, hl, h => by
    obtain ⟨h1, h2⟩ := stepR_both hi (i := i) (by omega) h
    unfold fromR
    cases hs : stepR p code i s with
    | none => exact ⟨fun s' e => (nomatch e), fun _ => h2 hs⟩
    | some s1 =>
      have S := h1 s1 hs
      obtain ⟨h3, h4⟩ := fromR_both hi f (i + 1) (s := s1) (by omega) S.inv
      refine ⟨fun s' e => ?_, h4⟩
      have F := h3 s' e
      refine ⟨F.inv, by have := F.cnt; have := S.cnt; omega, fun ha => ?_⟩
      obtain ⟨q1, q2, q3⟩ := F.quiet ha
      obtain ⟨q4, q5, q6⟩ := S.quiet q2
      rw [q4] at q1 q3
      refine ⟨q1, q5, fun k k1 k2 k3 => ?_⟩
      by_cases hk : k = i
      · exact q6 k (by omega) (by omega) k3
      · exact q3 k (by omega) (by omega) k3
theorem rounds_iff {p : Pg} {code : List Instr} (hi : Inside code) : ∀ (f : Nat) {s : Ds}, RInv p code s.l → s.l.count (-1) < f → ((rounds p code f s).isSome = true ↔ Good p code)
  | 0, s, _, h => by omega
  | f + 1, s, h, hf => by
    obtain ⟨h1, h2⟩ := fromR_both hi code.length 0 (s := ⟨s.l, s.mo, false⟩) (by omega) h
    unfold rounds
    cases hs : fromR p code code.length 0 ⟨s.l, s.mo, false⟩ with
    | none => exact ⟨fun e => (nomatch e), fun g => absurd g (h2 hs)⟩
    | some s1 =>
      have S := h1 s1 hs
      dsimp only
      by_cases ha : s1.ag = true
      · rw [if_pos ha]
        refine rounds_iff hi f S.inv ?_
        have := S.cnt
        have h3 : agN true = 1 := rfl
        have h4 : agN false = 0 := rfl
        rw [ha, h3] at this
        dsimp only at this
        omega
      · rw [if_neg ha]
        refine ⟨fun _ => ?_, fun _ => rfl⟩
        obtain ⟨q1, q2, q3⟩ := S.quiet (by simpa using ha)
        dsimp only at q1 q3
        exact WInv.good hi (out := s.l) ⟨h.len, h.reach, h.start, fun a ha => (nomatch ha), fun k hk h1 _ => q3 k (by omega) (by omega) h1⟩
theorem refDepths_iff {p : Pg} {h : Hd} (hi : Inside h.code) : (refDepths p h).isSome = walkOk p h := by
  have hz : ∀ k : Nat, ((List.replicate (h.code.length + 1) (-1 : Int)).set 0 0).getD k 0 = if k = 0 then 0 else if k ≤ h.code.length then -1 else 0 := fun k => by
    rw [getD_set (by simp)]
    by_cases hk : 0 = k
    · subst hk; simp
    · rw [if_neg hk, if_neg (Ne.symm hk)]
      by_cases h2 : k ≤ h.code.length
      · rw [if_pos h2]; simp [show k < h.code.length + 1 by omega]
      · rw [if_neg h2]; simp [show ¬ k < h.code.length + 1 by omega]
  have h1 : (refDepths p h).isSome = true ↔ Good p h.code := by
    refine rounds_iff hi _ ⟨by simp, fun k hk h1 => ?_, by dsimp only; rw [hz]; rfl⟩ (by dsimp only; rw [count_rep]; omega)
    dsimp only at h1 ⊢
    rw [hz] at h1 ⊢
    by_cases h0 : k = 0
    · subst h0; exact ⟨.start, by simp⟩
    · rw [if_neg h0, if_pos hk] at h1; exact absurd rfl h1
  have h2 := walkOk_iff (p := p) (h := h) hi
  cases e1 : (refDepths p h).isSome <;> cases e2 : walkOk p h
  · rfl
  · rw [e1] at h1; exact absurd (h1.2 (h2.1 e2)) (by decide)
  · rw [e2] at h2; exact absurd (h2.2 (h1.1 e1)) (by decide)
  · rfl
end Go.Proofs.Ytlimecfjpfaljaa.W
end
