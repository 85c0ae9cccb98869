/- Texts merged: D33. -/
import Derived.Test.YtlimecfjpfaljaaM28
section
/- Walks: the document's own depths (chapter 4). -/
set_option linter.unusedVariables false
set_option linter.unusedSimpArgs false
set_option linter.unusedSectionVars false
set_option pp.maxSteps 40000
set_option maxHeartbeats 4000000
namespace Go.Proofs.Ytlimecfjpfaljaa.W
open Go Go.Sy

def depthsR (o : Option Ds) : PV := match o with
  | some s => .tup [sl 1 eInt s.l, i64 s.mo, i64 0]
  | none => .tup [sl 1 eInt ([] : List Int), i64 (-1), i64 5]
def rowF (i n : Nat) : Option Blk := some ⟨3, 1, n, repEl (-1) i, false, false⟩
theorem repEl_set (i : Nat) (j : Nat) : (bif Nat.beq j (0 + i) then setL 0 (repEl (-1) i (0 + i)) [i64 (-1)] else repEl (-1) i j) = repEl (-1) (i + 1) j := by
  rw [Nat.zero_add]
  by_cases h : j = i
  · subst h
    have e1 : Nat.beq j j = true := Nat.beq_refl j
    rw [e1, repEl_out (n := j) (j := j) (by omega), repEl_in (n := j + 1) (j := j) (by omega)]
    rfl
  · have : Nat.beq j i = false := by
      rw [Bool.eq_false_iff]
      intro hh
      exact h (Nat.eq_of_beq_eq_true hh)
    rw [this]
    show repEl (-1) i j = _
    by_cases h2 : j < i
    · rw [repEl_in (n := i) h2, repEl_in (n := i + 1) (by omega)]
    · rw [repEl_out (n := i) h2, repEl_out (n := i + 1) (by omega)]
theorem refDepths_ {p : Pg} (hp : PgFit p) (k : Nat) (hk : k < p.handlers.length) : Pure Try.prog 36 [pPg p, i64 k] (depthsR (refDepths p (p.handlers.getD k default))) := by
  have hf := hdFit hp (mem_getD hk)
  have hhs := hp.hs
  have ha : ∀ x ∈ p.handlers, 0 ≤ x.args ∧ x.args ≤ 4 := fun x hx => ⟨(hdFit hp hx).a0, (hdFit hp hx).a1⟩
  have hcl := hf.cl
  have hin : Inside (p.handlers.getD k default).code := fun i hi ho => (instrWhy_zero (hf.i i hi)).2.1 ho
  unfold refDepths
  generalize hD : rounds p (p.handlers.getD k default).code ((p.handlers.getD k default).code.length + 1) ⟨(List.replicate ((p.handlers.getD k default).code.length + 1) (-1)).set 0 0, 0, true⟩ = D
  have hclD : closedB (depthsR D) = true := by cases D <;> rfl
  refine Pure.of_spec (Spec.of_run (fn := Try.f36) Try.func36 rfl rfl (by kernel_rfl) ?_) hclD
  repeat' (first | refine Rg.any rfl rfl rfl (fun _ hq => G_make tok (n := (p.handlers.getD k default).code.length + 1) rfl rfl rfl rfl rfl rfl rfl rfl rfl (by omega) (by omega) (by dsimp only; omega) (by omega) (by omega) hq) (by first | exact trivial | exact rfl | exact .inl rfl | exact .inr rfl | focus ((repeat (first | exact trivial | (refine ⟨Stay.op false tok rfl rfl rfl ?_ (fun t ht => by cases ht; rfl), ?_⟩; (first | exact ⟨⟩ | omega | focus (simp <;> omega) | decide +kernel)) | (refine ⟨Stay.op true tok rfl rfl rfl ?_ (fun t ht => by cases ht; rfl), ?_⟩; (first | exact ⟨⟩ | omega | focus (simp <;> omega) | decide +kernel)) | refine ⟨Stay.skip rfl rfl (fun t ht => by cases ht; rfl), ?_⟩)); done)) ?_ | refine Run.ctl rfl ?_ | (refine Rg.op false tok rfl rfl rfl rfl ?_ ?_ ?_; (first | exact ⟨⟩ | omega | focus (simp <;> omega) | decide +kernel); (first | exact trivial | exact rfl | exact .inl rfl | exact .inr rfl)) | (refine Rg.op true tok rfl rfl rfl rfl ?_ ?_ ?_; (first | exact ⟨⟩ | omega | focus (simp <;> omega) | decide +kernel); (first | exact trivial | exact rfl | exact .inl rfl | exact .inr rfl)) | refine Rg.nil ?_ | refine Rg.skip rfl rfl rfl ?_ | refine Run.regR ?_ | refine Run.condT rfl ?_ | refine Run.condF rfl ?_ | ((first | refine Run.condB rfl (fun hc => ?_) (fun hc => ?_) | ((fail_if_success (refine Rg.lit true rfl ?_)); (fail_if_success (refine Rg.lit false rfl ?_)); refine Rg.guard rfl (fun hc => ?_) (fun hc => ?_))) <;> ((try simp only [cs] at hc); (first | ((exfalso; omega); done) | skip))))
  refine Run.renumL [0, 1] [pbox p, rowF 0 ((p.handlers.getD k default).code.length + 1)] [(2, .ptr 0 0 0), (7, sl 2 eInstr (p.handlers.getD k default).code), (8, i64 (p.handlers.getD k default).code.length), (9, .slc 1 0 ((p.handlers.getD k default).code.length + 1)), (10, i64 (0 : Nat))] rfl rfl rfl rfl ⟨⟨_, rfl, rfl, rfl, rfl, rfl, fun k hk => .ofEq rfl rfl⟩, ⟨_, rfl, rfl, rfl, rfl, rfl, fun j hj => .ofEq (by
    dsimp only
    rw [repEl_out (by omega)]
    rfl) (repEl_cl (-1) 0 j)⟩, trivial⟩ ⟨.ptrN rfl rfl, .cl rfl, .cl rfl, .slcN rfl rfl rfl, .cl rfl, trivial⟩ ?_
  generalize p.handlers.getD k default = h at hf hcl hin hD ⊢
  generalize hN : h.code.length + 1 = N at hD ⊢
  refine Run.loopN (ι := Nat) (fun i => ([(2, .ptr 0 0 0), (7, sl 2 eInstr h.code), (8, i64 h.code.length), (9, .slc 1 0 N), (10, i64 i)], [pbox p, rowF i N])) (fun i => i ≤ N) (fun i => N - i) 0 ⟨rfl, rfl, rfl, rfl, rfl, trivial⟩ rfl (by omega) ?_
  rintro i hi back backR
  dsimp only
  by_cases hlt : i < N
  · repeat' (first | refine Run.ctl rfl ?_ | (refine Rg.op false tok rfl rfl rfl rfl ?_ ?_ ?_; (first | exact ⟨⟩ | omega | focus (simp <;> omega) | decide +kernel); (first | exact trivial | exact rfl | exact .inl rfl | exact .inr rfl)) | (refine Rg.op true tok rfl rfl rfl rfl ?_ ?_ ?_; (first | exact ⟨⟩ | omega | focus (simp <;> omega) | decide +kernel); (first | exact trivial | exact rfl | exact .inl rfl | exact .inr rfl)) | refine Rg.nil ?_ | refine Rg.skip rfl rfl rfl ?_ | refine Run.regR ?_ | refine Run.condT rfl ?_ | refine Run.condF rfl ?_ | ((first | refine Run.condB rfl (fun hc => ?_) (fun hc => ?_) | ((fail_if_success (refine Rg.lit true rfl ?_)); (fail_if_success (refine Rg.lit false rfl ?_)); refine Rg.guard rfl (fun hc => ?_) (fun hc => ?_))) <;> ((try simp only [cs] at hc); (first | ((exfalso; omega); done) | skip))))
    exact backR [0, 1] (i + 1) _ _ (by omega) (by omega) rfl ⟨⟨_, rfl, rfl, rfl, rfl, rfl, fun k hk => .ofEq rfl rfl⟩, ⟨_, rfl, rfl, rfl, rfl, rfl, fun j hj => .ofEq (by dsimp only; exact repEl_set i j) (repEl_cl (-1) (i + 1) j)⟩, trivial⟩ ⟨.ptrN rfl rfl, .cl rfl, .cl rfl, .slcN rfl rfl rfl, .cl rfl, trivial⟩
  obtain rfl : i = N := by omega
  clear back backR
  clear hi hlt
  repeat' (first | refine Run.ctl rfl ?_ | (refine Rg.op false tok rfl rfl rfl rfl ?_ ?_ ?_; (first | exact ⟨⟩ | omega | focus (simp <;> omega) | decide +kernel); (first | exact trivial | exact rfl | exact .inl rfl | exact .inr rfl)) | (refine Rg.op true tok rfl rfl rfl rfl ?_ ?_ ?_; (first | exact ⟨⟩ | omega | focus (simp <;> omega) | decide +kernel); (first | exact trivial | exact rfl | exact .inl rfl | exact .inr rfl)) | refine Rg.nil ?_ | refine Rg.skip rfl rfl rfl ?_ | refine Run.regR ?_ | refine Run.condT rfl ?_ | refine Run.condF rfl ?_ | ((first | refine Run.condB rfl (fun hc => ?_) (fun hc => ?_) | ((fail_if_success (refine Rg.lit true rfl ?_)); (fail_if_success (refine Rg.lit false rfl ?_)); refine Rg.guard rfl (fun hc => ?_) (fun hc => ?_))) <;> ((try simp only [cs] at hc); (first | ((exfalso; omega); done) | skip))))
  have hset := fun k => rows_set eInt (List.replicate i (-1)) 0 (k := 0) (by simp; omega) k
  refine Run.renumL [0, 1] [pbox p, rowI ((List.replicate i (-1)).set 0 0)] [(2, .ptr 0 0 0), (7, sl 2 eInstr h.code), (8, i64 h.code.length), (9, .slc 1 0 ((List.replicate i (-1 : Int)).set 0 0).length), (11, i64 0), (12, bl true)] rfl rfl rfl rfl
    ⟨⟨_, rfl, rfl, rfl, rfl, rfl, fun k hk => .ofEq rfl rfl⟩, ⟨_, rfl, rfl, rfl, by simp, rfl, fun j hj => .ofEq (by
      have hj : j < i := by simpa using hj
      dsimp only
      rw [hset j]
      have e : repEl (-1) i j = rows eInt (List.replicate i (-1)) j := by rw [repEl_in hj]; simp [rows, hj]
      have e2 : setL 0 (repEl (-1) i (0 + 0)) [i64 0] = eInt 0 := by rw [repEl_in (by omega)]; rfl
      rw [e]
      show (bif Nat.beq j (0 + 0) then setL 0 (repEl (-1) i (0 + 0)) [i64 0] else _) = _
      rw [e2]) rfl⟩, trivial⟩ ⟨.ptrN rfl rfl, .cl rfl, .cl rfl, .slcN rfl rfl (by simp), .cl rfl, .cl rfl, trivial⟩ ?_
  have hl0 : ((List.replicate i (-1 : Int)).set 0 0).length = h.code.length + 1 := by simp; omega
  have hc0 : ((List.replicate i (-1 : Int)).set 0 0).count (-1) < i := by rw [← hN, count_rep]; omega
  have hr0 : ∀ k ∈ (List.replicate i (-1 : Int)).set 0 0, -1 ≤ k ∧ k ≤ 8 := fun k hk => by
    rcases List.mem_or_eq_of_mem_set hk with hk | rfl
    · have := (List.mem_replicate.1 hk).2; omega
    · omega
  generalize (List.replicate i (-1 : Int)).set 0 0 = L0 at hD hl0 hc0 hr0 ⊢
  clear hset hc
  refine Run.loopN (ι := Nat × Ds) (fun x => ([(2, .ptr 0 0 0), (7, sl 2 eInstr h.code), (8, i64 h.code.length), (9, .slc 1 0 x.2.l.length), (11, i64 x.2.mo), (12, bl x.2.ag)], [pbox p, rowI x.2.l]))
    (fun x => (if x.2.ag = true then rounds p h.code x.1 x.2 = D ∧ x.2.l.count (-1) < x.1 else D = some x.2) ∧ Bd h.code.length x.2.l [] ∧ x.1 ≤ 100) (fun x => x.1) (i, ⟨L0, 0, true⟩) ⟨rfl, rfl, rfl, rfl, rfl, rfl, trivial⟩ rfl
    ⟨by rw [if_pos rfl]; exact ⟨hD, hc0⟩, ⟨hl0, hr0, fun a ha => (nomatch ha)⟩, by dsimp only; omega⟩ ?_
  clear hD hc0 hl0 hr0
  rintro ⟨f, ⟨l0, mo0, ag0⟩⟩ ⟨hw, hb, hf1⟩ back backR
  dsimp only at hw hb hf1 ⊢
  cases ag0 with
  | false =>
    rw [if_neg (by decide)] at hw
    subst hw
    repeat' (first | refine Run.ctl rfl ?_ | (refine Rg.op false tok rfl rfl rfl rfl ?_ ?_ ?_; (first | exact ⟨⟩ | omega | focus (simp <;> omega) | decide +kernel); (first | exact trivial | exact rfl | exact .inl rfl | exact .inr rfl)) | (refine Rg.op true tok rfl rfl rfl rfl ?_ ?_ ?_; (first | exact ⟨⟩ | omega | focus (simp <;> omega) | decide +kernel); (first | exact trivial | exact rfl | exact .inl rfl | exact .inr rfl)) | refine Rg.nil ?_ | refine Rg.skip rfl rfl rfl ?_ | refine Run.regR ?_ | refine Run.condT rfl ?_ | refine Run.condF rfl ?_ | ((first | refine Run.condB rfl (fun hc => ?_) (fun hc => ?_) | ((fail_if_success (refine Rg.lit true rfl ?_)); (fail_if_success (refine Rg.lit false rfl ?_)); refine Rg.guard rfl (fun hc => ?_) (fun hc => ?_))) <;> ((try simp only [cs] at hc); (first | ((cases hc); done) | skip))))
    (first | refine Run.ret tok Try.func36 rfl ?_ | refine Run.fall tok Try.func36 rfl ?_)
    exact .tup' ⟨.row rfl rfl rfl (by dsimp only; omega) rfl (fun _ => rfl) (fun j hj => by rw [Nat.zero_add]), .refl _, .refl _, trivial⟩
  | true =>
    rw [if_pos rfl] at hw
    obtain ⟨hw, hcn⟩ := hw
    obtain ⟨f, rfl⟩ : ∃ f', f = f' + 1 := ⟨f - 1, by omega⟩
    unfold rounds at hw
    dsimp only at hw
    generalize hR : fromR p h.code h.code.length 0 ⟨l0, mo0, false⟩ = R at hw
    repeat' (first | refine Run.ctl rfl ?_ | (refine Rg.op false tok rfl rfl rfl rfl ?_ ?_ ?_; (first | exact ⟨⟩ | omega | focus (simp <;> omega) | decide +kernel); (first | exact trivial | exact rfl | exact .inl rfl | exact .inr rfl)) | (refine Rg.op true tok rfl rfl rfl rfl ?_ ?_ ?_; (first | exact ⟨⟩ | omega | focus (simp <;> omega) | decide +kernel); (first | exact trivial | exact rfl | exact .inl rfl | exact .inr rfl)) | refine Rg.nil ?_ | refine Rg.skip rfl rfl rfl ?_ | refine Run.regR ?_ | refine Run.condT rfl ?_ | refine Run.condF rfl ?_ | ((first | refine Run.condB rfl (fun hc => ?_) (fun hc => ?_) | ((fail_if_success (refine Rg.lit true rfl ?_)); (fail_if_success (refine Rg.lit false rfl ?_)); refine Rg.guard rfl (fun hc => ?_) (fun hc => ?_))) <;> ((try simp only [cs] at hc); (first | ((cases hc); done) | skip))))
    refine Run.loopN (ι := Nat × Ds) (fun x => ([(2, .ptr 0 0 0), (7, sl 2 eInstr h.code), (8, i64 h.code.length), (9, .slc 1 0 x.2.l.length), (11, i64 x.2.mo), (12, bl x.2.ag), (13, i64 x.1)], [pbox p, rowI x.2.l]))
      (fun x => x.1 ≤ h.code.length ∧ fromR p h.code (h.code.length - x.1) x.1 x.2 = R ∧ Bd h.code.length x.2.l [] ∧ x.2.l.count (-1) + agN x.2.ag ≤ f) (fun x => h.code.length - x.1) (0, ⟨l0, mo0, false⟩) ⟨rfl, rfl, rfl, rfl, rfl, rfl, rfl, trivial⟩ rfl
      ⟨by omega, hR, hb, by show _ + 0 ≤ _; dsimp only at hcn ⊢; omega⟩ ?_
    clear hR hb hcn
    rintro ⟨a, ⟨l, mo, ag⟩⟩ ⟨hal, hR, hb, hcn⟩ back2 backR2
    dsimp only at hal hR hb hcn ⊢
    by_cases hlt : a < h.code.length
    rotate_left
    · obtain rfl : a = h.code.length := by omega
      rw [Nat.sub_self] at hR
      unfold fromR at hR
      subst hR
      dsimp only at hw
      repeat' (first | refine Run.ctl rfl ?_ | (refine Rg.op false tok rfl rfl rfl rfl ?_ ?_ ?_; (first | exact ⟨⟩ | omega | focus (simp <;> omega) | decide +kernel); (first | exact trivial | exact rfl | exact .inl rfl | exact .inr rfl)) | (refine Rg.op true tok rfl rfl rfl rfl ?_ ?_ ?_; (first | exact ⟨⟩ | omega | focus (simp <;> omega) | decide +kernel); (first | exact trivial | exact rfl | exact .inl rfl | exact .inr rfl)) | refine Rg.nil ?_ | refine Rg.skip rfl rfl rfl ?_ | refine Run.regR ?_ | refine Run.condT rfl ?_ | refine Run.condF rfl ?_ | ((first | refine Run.condB rfl (fun hc => ?_) (fun hc => ?_) | ((fail_if_success (refine Rg.lit true rfl ?_)); (fail_if_success (refine Rg.lit false rfl ?_)); refine Rg.guard rfl (fun hc => ?_) (fun hc => ?_))) <;> ((try simp only [cs] at hc); (first | ((exfalso; omega); done) | skip))))
      cases ag with
      | false =>
        rw [if_neg (by decide)] at hw
        exact backR [0, 1] (f, ⟨l, mo, false⟩) _ _ ⟨by dsimp only; rw [if_neg (by decide)]; exact hw.symm, hb, by dsimp only; omega⟩ (by dsimp only; omega) rfl ⟨⟨_, rfl, rfl, rfl, rfl, rfl, fun k hk => .ofEq rfl rfl⟩, ⟨_, rfl, rfl, rfl, rfl, rfl, fun k hk => .ofEq rfl rfl⟩, trivial⟩ ⟨.ptrN rfl rfl, .cl rfl, .cl rfl, .slcN rfl rfl rfl, .cl rfl, .cl rfl, trivial⟩
      | true =>
        rw [if_pos rfl] at hw
        have h3 : agN true = 1 := rfl
        rw [h3] at hcn
        exact backR [0, 1] (f, ⟨l, mo, true⟩) _ _ ⟨by dsimp only; rw [if_pos rfl]; exact ⟨hw, by omega⟩, hb, by dsimp only; omega⟩ (by dsimp only; omega) rfl ⟨⟨_, rfl, rfl, rfl, rfl, rfl, fun k hk => .ofEq rfl rfl⟩, ⟨_, rfl, rfl, rfl, rfl, rfl, fun k hk => .ofEq rfl rfl⟩, trivial⟩ ⟨.ptrN rfl rfl, .cl rfl, .cl rfl, .slcN rfl rfl rfl, .cl rfl, .cl rfl, trivial⟩
    obtain ⟨m, hm⟩ : ∃ m, h.code.length - a = m + 1 := ⟨h.code.length - a - 1, by omega⟩
    have hm2 : m = h.code.length - (a + 1) := by omega
    rw [hm] at hR
    rw [fromR_succ] at hR
    have hoa := hb.at (k := a) (by omega)
    have hall : a < l.length := by have := hb.len; omega
    have hoa2 : l.getD (0 + a) default = l.getD a 0 := by rw [Nat.zero_add]; rfl
    by_cases h0 : l.getD a 0 = -1
    · rw [if_pos h0, hm2] at hR
      repeat' (first | refine Run.ctl rfl ?_ | (refine Rg.op false tok rfl rfl rfl rfl ?_ ?_ ?_; (first | exact ⟨⟩ | omega | focus (simp <;> omega) | decide +kernel); (first | exact trivial | exact rfl | exact .inl rfl | exact .inr rfl)) | (refine Rg.op true tok rfl rfl rfl rfl ?_ ?_ ?_; (first | exact ⟨⟩ | omega | focus (simp <;> omega) | decide +kernel); (first | exact trivial | exact rfl | exact .inl rfl | exact .inr rfl)) | refine Rg.nil ?_ | refine Rg.skip rfl rfl rfl ?_ | refine Run.regR ?_ | refine Run.condT rfl ?_ | refine Run.condF rfl ?_ | ((first | refine Run.condB rfl (fun hc => ?_) (fun hc => ?_) | ((fail_if_success (refine Rg.lit true rfl ?_)); (fail_if_success (refine Rg.lit false rfl ?_)); refine Rg.guard rfl (fun hc => ?_) (fun hc => ?_))) <;> ((try simp only [cs] at hc); (first | ((exfalso; omega); done) | skip))))
      exact backR2 [0, 1] (a + 1, ⟨l, mo, ag⟩) _ _ ⟨hlt, hR, hb, hcn⟩ (by dsimp only; omega) rfl ⟨⟨_, rfl, rfl, rfl, rfl, rfl, fun k hk => .ofEq rfl rfl⟩, ⟨_, rfl, rfl, rfl, rfl, rfl, fun k hk => .ofEq rfl rfl⟩, trivial⟩ ⟨.ptrN rfl rfl, .cl rfl, .cl rfl, .slcN rfl rfl rfl, .cl rfl, .cl rfl, .cl rfl, trivial⟩
    rw [if_neg h0] at hR
    have hi0 := hf.i _ (mem_getD hlt)
    have hi1 := instrWhy_zero hi0
    have hks : ∀ k ∈ nextOf a (h.code.getD a default), 0 ≤ k ∧ k ≤ h.code.length := fun k hk => nextOf_in hin (at_ := (a : Int)) (by omega) (by omega) (by rw [Int.toNat_natCast]; exact hk)
    generalize hi : h.code.getD a default = c at hR hi1 hks
    obtain ⟨op, ca⟩ := c
    dsimp only at hi1
    have harg : op = 22 → 0 ≤ (p.handlers.getD ca.toNat default).args ∧ (p.handlers.getD ca.toNat default).args ≤ 4 := fun ho => ha _ (mem_getD (by have := hi1.2.2.2.2.1 ho; omega))
    have hPo := refPops_ op
    have hPu := refPuts_ op
    have r5 := opPops_rng op
    have r6 := opPuts_rng op
    generalize hT : takesOf p ⟨op, ca⟩ = tk at hR
    unfold takesOf at hT
    dsimp only at hT hR
    generalize opPops op = pp at hPo r5 hT
    generalize opPuts op = pu at hPu r6 hR
    by_cases h22 : op = 22
    · obtain ⟨cn, rfl⟩ : ∃ cn : Nat, ca = cn := ⟨ca.toNat, by have := hi1.2.2.2.2.1 h22; omega⟩
      have hcn2 : cn < p.handlers.length := by have := hi1.2.2.2.2.1 h22; omega
      have harg := harg h22
      rw [if_pos h22] at hT
      rw [Int.toNat_natCast] at hT harg
      subst hT
      have hnx : nextOf a ⟨op, cn⟩ = [(a : Int) + 1] := by unfold nextOf; dsimp only; rw [if_neg (by omega), if_neg (by omega), if_neg (by omega)]
      rw [hnx] at hR hks
      clear hi1 hnx
      have htk : 0 ≤ pp + (p.handlers.getD cn default).args ∧ pp + (p.handlers.getD cn default).args ≤ 6 := by omega
      rw [← hoa2] at hR
      by_cases hbad : l.getD (0 + a) default - (pp + (p.handlers.getD cn default).args) < 0 ∨ 8 < l.getD (0 + a) default - (pp + (p.handlers.getD cn default).args) + pu
      · rw [if_pos hbad] at hR
        subst hR
        dsimp only at hw
        subst hw
        repeat' (first | (rw [hi]) | (refine Run.drwP [] [0, 1, 2, 3, 4, 5, 6, 7, 8, 9, 10] [none, none, none, none, none, none, none, none, none, none, none] mixed (by kernel_rfl) rfl ?_) | refine Run.ctl rfl ?_ | (refine Rg.op false tok rfl rfl rfl rfl ?_ ?_ ?_; (first | exact ⟨⟩ | omega | focus (simp <;> omega) | decide +kernel); (first | exact trivial | exact rfl | exact .inl rfl | exact .inr rfl | focus ((repeat (first | exact trivial | (refine ⟨Stay.op false tok rfl rfl rfl ?_ (fun t ht => by cases ht; rfl), ?_⟩; (first | exact ⟨⟩ | omega | focus (simp <;> omega) | decide +kernel)) | (refine ⟨Stay.op true tok rfl rfl rfl ?_ (fun t ht => by cases ht; rfl), ?_⟩; (first | exact ⟨⟩ | omega | focus (simp <;> omega) | decide +kernel)) | refine ⟨Stay.skip rfl rfl (fun t ht => by cases ht; rfl), ?_⟩)); done))) | refine Rg.call (hPo) rfl rfl rfl rfl rfl ⟨⟨.refl _, trivial⟩, rfl⟩ ?_ | refine Rg.call (hPu) rfl rfl rfl rfl rfl ⟨⟨.refl _, trivial⟩, rfl⟩ ?_ | (refine Rg.op true tok rfl rfl rfl rfl ?_ ?_ ?_; (first | exact ⟨⟩ | omega | focus (simp <;> omega) | decide +kernel); (first | exact trivial | exact rfl | exact .inl rfl | exact .inr rfl | focus ((repeat (first | exact trivial | (refine ⟨Stay.op false tok rfl rfl rfl ?_ (fun t ht => by cases ht; rfl), ?_⟩; (first | exact ⟨⟩ | omega | focus (simp <;> omega) | decide +kernel)) | (refine ⟨Stay.op true tok rfl rfl rfl ?_ (fun t ht => by cases ht; rfl), ?_⟩; (first | exact ⟨⟩ | omega | focus (simp <;> omega) | decide +kernel)) | refine ⟨Stay.skip rfl rfl (fun t ht => by cases ht; rfl), ?_⟩)); done))) | refine Rg.nil ?_ | refine Rg.skip rfl rfl rfl ?_ | refine Run.regR ?_ | refine Run.drwR mixed (by kernel_rfl) rfl ?_ | refine Run.condT rfl ?_ | refine Run.condF rfl ?_ | ((first | refine Run.condB rfl (fun hc => ?_) (fun hc => ?_) | ((fail_if_success (refine Rg.lit true rfl ?_)); (fail_if_success (refine Rg.lit false rfl ?_)); refine Rg.guard rfl (fun hc => ?_) (fun hc => ?_))) <;> ((try simp only [cs] at hc); (first | ((exfalso; omega); done) | skip))))
        all_goals ((first | refine Run.ret tok Try.func36 rfl ?_ | refine Run.fall tok Try.func36 rfl ?_); exact .tup' ⟨.rowNil, .refl _, .refl _, trivial⟩)
      rw [if_neg hbad] at hR
      have hN : 0 ≤ l.getD (0 + a) default - (pp + (p.handlers.getD cn default).args) + pu ∧ l.getD (0 + a) default - (pp + (p.handlers.getD cn default).args) + pu ≤ 8 := by omega
      repeat' (first | (rw [hi]) | (refine Run.drwP [] [0, 1, 2, 3, 4, 5, 6, 7, 8, 9, 10] [none, none, none, none, none, none, none, none, none, none, none] mixed (by kernel_rfl) rfl ?_) | refine Run.ctl rfl ?_ | (refine Rg.op false tok rfl rfl rfl rfl ?_ ?_ ?_; (first | exact ⟨⟩ | omega | focus (simp <;> omega) | decide +kernel); (first | exact trivial | exact rfl | exact .inl rfl | exact .inr rfl | focus ((repeat (first | exact trivial | (refine ⟨Stay.op false tok rfl rfl rfl ?_ (fun t ht => by cases ht; rfl), ?_⟩; (first | exact ⟨⟩ | omega | focus (simp <;> omega) | decide +kernel)) | (refine ⟨Stay.op true tok rfl rfl rfl ?_ (fun t ht => by cases ht; rfl), ?_⟩; (first | exact ⟨⟩ | omega | focus (simp <;> omega) | decide +kernel)) | refine ⟨Stay.skip rfl rfl (fun t ht => by cases ht; rfl), ?_⟩)); done))) | refine Rg.call (hPo) rfl rfl rfl rfl rfl ⟨⟨.refl _, trivial⟩, rfl⟩ ?_ | refine Rg.call (hPu) rfl rfl rfl rfl rfl ⟨⟨.refl _, trivial⟩, rfl⟩ ?_ | (refine Rg.op true tok rfl rfl rfl rfl ?_ ?_ ?_; (first | exact ⟨⟩ | omega | focus (simp <;> omega) | decide +kernel); (first | exact trivial | exact rfl | exact .inl rfl | exact .inr rfl | focus ((repeat (first | exact trivial | (refine ⟨Stay.op false tok rfl rfl rfl ?_ (fun t ht => by cases ht; rfl), ?_⟩; (first | exact ⟨⟩ | omega | focus (simp <;> omega) | decide +kernel)) | (refine ⟨Stay.op true tok rfl rfl rfl ?_ (fun t ht => by cases ht; rfl), ?_⟩; (first | exact ⟨⟩ | omega | focus (simp <;> omega) | decide +kernel)) | refine ⟨Stay.skip rfl rfl (fun t ht => by cases ht; rfl), ?_⟩)); done))) | refine Rg.nil ?_ | refine Rg.skip rfl rfl rfl ?_ | refine Run.regR ?_ | refine Run.drwR mixed (by kernel_rfl) rfl ?_ | refine Run.condT rfl ?_ | refine Run.condF rfl ?_ | ((first | refine Run.condB rfl (fun hc => ?_) (fun hc => ?_) | ((fail_if_success (refine Rg.lit true rfl ?_)); (fail_if_success (refine Rg.lit false rfl ?_)); refine Rg.guard rfl (fun hc => ?_) (fun hc => ?_))) <;> ((try simp only [cs] at hc); (first | ((exfalso; omega); done) | skip))))
      skip
      refine Run.renumL [0, 1, 3] [pbox p, rowI l, rowI ([(a : Int) + 1] : List Int)] [(2, .ptr 0 0 0), (7, sl 2 eInstr h.code), (8, i64 h.code.length), (9, .slc 1 0 l.length), (11, i64 (lmax mo [l.getD (0 + a) default, l.getD (0 + a) default - (pp + (p.handlers.getD cn default).args) + pu])), (12, bl ag), (13, i64 a), (16, i64 (l.getD (0 + a) default - (pp + (p.handlers.getD cn default).args) + pu)), (17, .slc 2 0 ([(a : Int) + 1] : List Int).length), (18, i64 (0 : Nat))] rfl rfl rfl rfl
        ⟨⟨_, rfl, rfl, rfl, rfl, rfl, fun k hk => .ofEq rfl rfl⟩, ⟨_, rfl, rfl, rfl, rfl, rfl, fun k hk => .ofEq rfl rfl⟩, ⟨_, rfl, rfl, rfl, rfl, rfl, fun k hk => (by rcases k with _ | _ | k <;> first | exact .ofEq rfl rfl | exact absurd hk (by simp))⟩, trivial⟩
        ⟨.ptrN rfl rfl, .cl rfl, .cl rfl, .slcN rfl rfl rfl, .cl rfl, .cl rfl, .cl rfl, .cl rfl, .slcN rfl rfl rfl, .cl rfl, trivial⟩ ?_
      have hkl : ([(a : Int) + 1] : List Int).length ≤ 2 := by simp
      generalize lmax mo [l.getD (0 + a) default, l.getD (0 + a) default - (pp + (p.handlers.getD cn default).args) + pu] = M at hR ⊢
      generalize l.getD (0 + a) default - (pp + (p.handlers.getD cn default).args) + pu = N at hR hN ⊢
      generalize ([(a : Int) + 1] : List Int) = ks at hks hkl hR ⊢
      rw [hm2] at hR
      refine Run.loopN (ι := Nat × List Int × Bool) (fun x => ([(2, .ptr 0 0 0), (7, sl 2 eInstr h.code), (8, i64 h.code.length), (9, .slc 1 0 x.2.1.length), (11, i64 M), (12, bl x.2.2), (13, i64 a), (16, i64 N), (17, .slc 2 0 ks.length), (18, i64 x.1)], [pbox p, rowI x.2.1, rowI ks]))
        (fun x => x.1 ≤ ks.length ∧ goR p h.code (h.code.length - (a + 1)) (a + 1) M (pushR N (ks.drop x.1) x.2.1 x.2.2) = R ∧ Bd h.code.length x.2.1 [] ∧ x.2.1.count (-1) + agN x.2.2 ≤ f) (fun x => ks.length - x.1) (0, l, ag) ⟨rfl, rfl, rfl, rfl, rfl, rfl, rfl, rfl, rfl, rfl, trivial⟩ rfl
        ⟨by omega, hR, hb, hcn⟩ ?_
      clear hbad hR hb hcn hoa hall hoa2 h0
      rintro ⟨j, o, ag2⟩ ⟨hj, hR, hb, hcn⟩ back3 backR3
      dsimp only at hj hR hb hcn ⊢
      by_cases hjl : j < ks.length
      rotate_left
      · obtain rfl : j = ks.length := by omega
        rw [List.drop_length] at hR
        unfold pushR goR at hR
        dsimp only at hR
        repeat' (first | refine Run.ctl rfl ?_ | (refine Rg.op false tok rfl rfl rfl rfl ?_ ?_ ?_; (first | exact ⟨⟩ | omega | focus (simp <;> omega) | decide +kernel); (first | exact trivial | exact rfl | exact .inl rfl | exact .inr rfl)) | (refine Rg.op true tok rfl rfl rfl rfl ?_ ?_ ?_; (first | exact ⟨⟩ | omega | focus (simp <;> omega) | decide +kernel); (first | exact trivial | exact rfl | exact .inl rfl | exact .inr rfl)) | refine Rg.nil ?_ | refine Rg.skip rfl rfl rfl ?_ | refine Run.regR ?_ | refine Run.condT rfl ?_ | refine Run.condF rfl ?_ | ((first | refine Run.condB rfl (fun hc => ?_) (fun hc => ?_) | ((fail_if_success (refine Rg.lit true rfl ?_)); (fail_if_success (refine Rg.lit false rfl ?_)); refine Rg.guard rfl (fun hc => ?_) (fun hc => ?_))) <;> ((try simp only [cs] at hc); (first | ((exfalso; omega); done) | skip))))
        exact backR2 [0, 1] (a + 1, ⟨o, M, ag2⟩) _ _ ⟨hlt, hR, hb, hcn⟩ (by dsimp only; omega) rfl ⟨⟨_, rfl, rfl, rfl, rfl, rfl, fun k hk => .ofEq rfl rfl⟩, ⟨_, rfl, rfl, rfl, rfl, rfl, fun k hk => .ofEq rfl rfl⟩, trivial⟩ ⟨.ptrN rfl rfl, .cl rfl, .cl rfl, .slcN rfl rfl rfl, .cl rfl, .cl rfl, .cl rfl, trivial⟩
      rw [pushR_at N hjl] at hR
      obtain ⟨hk0, hk1⟩ := hks (ks.getD j default) (mem_getD hjl)
      obtain ⟨kk, hkk⟩ : ∃ kk : Nat, ks.getD j default = kk := ⟨(ks.getD j default).toNat, by omega⟩
      rw [show ks.getD j 0 = kk from hkk, Int.toNat_natCast] at hR
      rw [hkk] at hk0 hk1
      have hko : kk < o.length := by have := hb.len; omega
      have hkk2 : ks.getD (0 + j) default = kk := by rw [Nat.zero_add]; exact hkk
      have hoo : o.getD (0 + kk) default = o.getD kk 0 := by rw [Nat.zero_add]; rfl
      have hrn := hb.at (k := kk) (by omega)
      by_cases h1 : o.getD kk 0 = -1
      · rw [if_pos h1] at hR
        have hb2 := hb.push (k := kk) (m := N) ⟨by omega, by omega⟩ hN
        rw [Int.toNat_natCast] at hb2
        have hc2 := count_set (n := N) hko h1 (by omega)
        have ha1 : agN true = 1 := rfl
        have ha2 : 0 ≤ agN ag2 := Nat.zero_le _
        repeat' (first | refine Rg.any rfl rfl rfl (fun _ hq => G_ixOK tok kk rfl rfl rfl rfl rfl rfl hkk2 (by omega) hq) (by first | exact trivial | exact rfl | exact .inl rfl | exact .inr rfl | focus ((repeat (first | exact trivial | (refine ⟨Stay.op false tok rfl rfl rfl ?_ (fun t ht => by cases ht; rfl), ?_⟩; (first | exact ⟨⟩ | omega | focus (simp <;> omega) | decide +kernel)) | (refine ⟨Stay.op true tok rfl rfl rfl ?_ (fun t ht => by cases ht; rfl), ?_⟩; (first | exact ⟨⟩ | omega | focus (simp <;> omega) | decide +kernel)) | refine ⟨Stay.skip rfl rfl (fun t ht => by cases ht; rfl), ?_⟩)); done)) ?_ | refine Run.ctl rfl ?_ | (refine Rg.op false tok rfl rfl rfl rfl ?_ ?_ ?_; (first | exact ⟨⟩ | omega | focus (simp <;> omega) | decide +kernel); (first | exact trivial | exact rfl | exact .inl rfl | exact .inr rfl)) | (refine Rg.op true tok rfl rfl rfl rfl ?_ ?_ ?_; (first | exact ⟨⟩ | omega | focus (simp <;> omega) | decide +kernel); (first | exact trivial | exact rfl | exact .inl rfl | exact .inr rfl)) | refine Rg.nil ?_ | refine Rg.skip rfl rfl rfl ?_ | refine Run.regR ?_ | refine Run.condT rfl ?_ | refine Run.condF rfl ?_ | ((first | refine Run.condB rfl (fun hc => ?_) (fun hc => ?_) | ((fail_if_success (refine Rg.lit true rfl ?_)); (fail_if_success (refine Rg.lit false rfl ?_)); refine Rg.guard rfl (fun hc => ?_) (fun hc => ?_))) <;> ((try simp only [cs] at hc); (first | ((exfalso; omega); done) | skip))))
        exact backR3 [0, 1, 2] (j + 1, o.set kk N, true) _ _ ⟨hjl, hR, ⟨hb2.len, hb2.rng, fun a ha => (nomatch ha)⟩, by dsimp only; omega⟩ (by dsimp only; omega) rfl ⟨⟨_, rfl, rfl, rfl, rfl, rfl, fun k hk => .ofEq rfl rfl⟩, ⟨_, rfl, rfl, rfl, by simp, rfl, fun j hj => .ofEq (by dsimp only; rw [rows_set eInt o N hko j]; rfl) rfl⟩, ⟨_, rfl, rfl, rfl, rfl, rfl, fun k hk => .ofEq rfl rfl⟩, trivial⟩ ⟨.ptrN rfl rfl, .cl rfl, .cl rfl, .slcN rfl rfl (by simp), .cl rfl, .cl rfl, .cl rfl, .cl rfl, .slcN rfl rfl rfl, .cl rfl, trivial⟩
      rw [if_neg h1] at hR
      by_cases h2 : o.getD kk 0 = N
      · rw [if_pos h2] at hR
        repeat' (first | refine Rg.any rfl rfl rfl (fun _ hq => G_ixOK tok kk rfl rfl rfl rfl rfl rfl hkk2 (by omega) hq) (by first | exact trivial | exact rfl | exact .inl rfl | exact .inr rfl | focus ((repeat (first | exact trivial | (refine ⟨Stay.op false tok rfl rfl rfl ?_ (fun t ht => by cases ht; rfl), ?_⟩; (first | exact ⟨⟩ | omega | focus (simp <;> omega) | decide +kernel)) | (refine ⟨Stay.op true tok rfl rfl rfl ?_ (fun t ht => by cases ht; rfl), ?_⟩; (first | exact ⟨⟩ | omega | focus (simp <;> omega) | decide +kernel)) | refine ⟨Stay.skip rfl rfl (fun t ht => by cases ht; rfl), ?_⟩)); done)) ?_ | refine Run.ctl rfl ?_ | (refine Rg.op false tok rfl rfl rfl rfl ?_ ?_ ?_; (first | exact ⟨⟩ | omega | focus (simp <;> omega) | decide +kernel); (first | exact trivial | exact rfl | exact .inl rfl | exact .inr rfl)) | (refine Rg.op true tok rfl rfl rfl rfl ?_ ?_ ?_; (first | exact ⟨⟩ | omega | focus (simp <;> omega) | decide +kernel); (first | exact trivial | exact rfl | exact .inl rfl | exact .inr rfl)) | refine Rg.nil ?_ | refine Rg.skip rfl rfl rfl ?_ | refine Run.regR ?_ | refine Run.condT rfl ?_ | refine Run.condF rfl ?_ | ((first | refine Run.condB rfl (fun hc => ?_) (fun hc => ?_) | ((fail_if_success (refine Rg.lit true rfl ?_)); (fail_if_success (refine Rg.lit false rfl ?_)); refine Rg.guard rfl (fun hc => ?_) (fun hc => ?_))) <;> ((try simp only [cs] at hc); (first | ((exfalso; omega); done) | skip))))
        exact back3 (j + 1, o, ag2) _ _ ⟨hjl, hR, hb, hcn⟩ (by dsimp only; omega) ⟨rfl, rfl, rfl, rfl, rfl, rfl, rfl, rfl, rfl, rfl, trivial⟩ rfl
      · rw [if_neg h2] at hR
        unfold goR at hR
        subst hR
        dsimp only at hw
        subst hw
        repeat' (first | refine Rg.any rfl rfl rfl (fun _ hq => G_ixOK tok kk rfl rfl rfl rfl rfl rfl hkk2 (by omega) hq) (by first | exact trivial | exact rfl | exact .inl rfl | exact .inr rfl | focus ((repeat (first | exact trivial | (refine ⟨Stay.op false tok rfl rfl rfl ?_ (fun t ht => by cases ht; rfl), ?_⟩; (first | exact ⟨⟩ | omega | focus (simp <;> omega) | decide +kernel)) | (refine ⟨Stay.op true tok rfl rfl rfl ?_ (fun t ht => by cases ht; rfl), ?_⟩; (first | exact ⟨⟩ | omega | focus (simp <;> omega) | decide +kernel)) | refine ⟨Stay.skip rfl rfl (fun t ht => by cases ht; rfl), ?_⟩)); done)) ?_ | refine Run.ctl rfl ?_ | (refine Rg.op false tok rfl rfl rfl rfl ?_ ?_ ?_; (first | exact ⟨⟩ | omega | focus (simp <;> omega) | decide +kernel); (first | exact trivial | exact rfl | exact .inl rfl | exact .inr rfl)) | (refine Rg.op true tok rfl rfl rfl rfl ?_ ?_ ?_; (first | exact ⟨⟩ | omega | focus (simp <;> omega) | decide +kernel); (first | exact trivial | exact rfl | exact .inl rfl | exact .inr rfl)) | refine Rg.nil ?_ | refine Rg.skip rfl rfl rfl ?_ | refine Run.regR ?_ | refine Run.condT rfl ?_ | refine Run.condF rfl ?_ | ((first | refine Run.condB rfl (fun hc => ?_) (fun hc => ?_) | ((fail_if_success (refine Rg.lit true rfl ?_)); (fail_if_success (refine Rg.lit false rfl ?_)); refine Rg.guard rfl (fun hc => ?_) (fun hc => ?_))) <;> ((try simp only [cs] at hc); (first | ((exfalso; omega); done) | skip))))
        (first | refine Run.ret tok Try.func36 rfl ?_ | refine Run.fall tok Try.func36 rfl ?_)
        exact .tup' ⟨.rowNil, .refl _, .refl _, trivial⟩
    · rw [if_neg h22, Int.add_zero] at hT
      subst hT
      clear harg
      have hi2 := hi1.2.1
      clear hi1
      by_cases h20 : op = 20
      · have hnx : nextOf a ⟨op, ca⟩ = [ca] := by unfold nextOf; dsimp only; rw [if_pos h20]
        rw [hnx] at hR hks
        clear hnx hi2
        have htk : 0 ≤ pp ∧ pp ≤ 6 := by omega
        rw [← hoa2] at hR
        by_cases hbad : l.getD (0 + a) default - pp < 0 ∨ 8 < l.getD (0 + a) default - pp + pu
        · rw [if_pos hbad] at hR
          subst hR
          dsimp only at hw
          subst hw
          repeat' (first | (rw [hi]) | (refine Run.drwP [] [0, 1, 2, 3, 4, 5, 6, 7, 8, 9, 10] [none, none, none, none, none, none, none, none, none, none, none] mixed (by kernel_rfl) rfl ?_) | refine Run.ctl rfl ?_ | (refine Rg.op false tok rfl rfl rfl rfl ?_ ?_ ?_; (first | exact ⟨⟩ | omega | focus (simp <;> omega) | decide +kernel); (first | exact trivial | exact rfl | exact .inl rfl | exact .inr rfl | focus ((repeat (first | exact trivial | (refine ⟨Stay.op false tok rfl rfl rfl ?_ (fun t ht => by cases ht; rfl), ?_⟩; (first | exact ⟨⟩ | omega | focus (simp <;> omega) | decide +kernel)) | (refine ⟨Stay.op true tok rfl rfl rfl ?_ (fun t ht => by cases ht; rfl), ?_⟩; (first | exact ⟨⟩ | omega | focus (simp <;> omega) | decide +kernel)) | refine ⟨Stay.skip rfl rfl (fun t ht => by cases ht; rfl), ?_⟩)); done))) | refine Rg.call (hPo) rfl rfl rfl rfl rfl ⟨⟨.refl _, trivial⟩, rfl⟩ ?_ | refine Rg.call (hPu) rfl rfl rfl rfl rfl ⟨⟨.refl _, trivial⟩, rfl⟩ ?_ | (refine Rg.op true tok rfl rfl rfl rfl ?_ ?_ ?_; (first | exact ⟨⟩ | omega | focus (simp <;> omega) | decide +kernel); (first | exact trivial | exact rfl | exact .inl rfl | exact .inr rfl | focus ((repeat (first | exact trivial | (refine ⟨Stay.op false tok rfl rfl rfl ?_ (fun t ht => by cases ht; rfl), ?_⟩; (first | exact ⟨⟩ | omega | focus (simp <;> omega) | decide +kernel)) | (refine ⟨Stay.op true tok rfl rfl rfl ?_ (fun t ht => by cases ht; rfl), ?_⟩; (first | exact ⟨⟩ | omega | focus (simp <;> omega) | decide +kernel)) | refine ⟨Stay.skip rfl rfl (fun t ht => by cases ht; rfl), ?_⟩)); done))) | refine Rg.nil ?_ | refine Rg.skip rfl rfl rfl ?_ | refine Run.regR ?_ | refine Run.drwR mixed (by kernel_rfl) rfl ?_ | refine Run.condT rfl ?_ | refine Run.condF rfl ?_ | ((first | refine Run.condB rfl (fun hc => ?_) (fun hc => ?_) | ((fail_if_success (refine Rg.lit true rfl ?_)); (fail_if_success (refine Rg.lit false rfl ?_)); refine Rg.guard rfl (fun hc => ?_) (fun hc => ?_))) <;> ((try simp only [cs] at hc); (first | ((exfalso; omega); done) | skip))))
          all_goals ((first | refine Run.ret tok Try.func36 rfl ?_ | refine Run.fall tok Try.func36 rfl ?_); exact .tup' ⟨.rowNil, .refl _, .refl _, trivial⟩)
        rw [if_neg hbad] at hR
        have hN : 0 ≤ l.getD (0 + a) default - pp + pu ∧ l.getD (0 + a) default - pp + pu ≤ 8 := by omega
        repeat' (first | (rw [hi]) | (refine Run.drwP [] [0, 1, 2, 3, 4, 5, 6, 7, 8, 9, 10] [none, none, none, none, none, none, none, none, none, none, none] mixed (by kernel_rfl) rfl ?_) | refine Run.ctl rfl ?_ | (refine Rg.op false tok rfl rfl rfl rfl ?_ ?_ ?_; (first | exact ⟨⟩ | omega | focus (simp <;> omega) | decide +kernel); (first | exact trivial | exact rfl | exact .inl rfl | exact .inr rfl | focus ((repeat (first | exact trivial | (refine ⟨Stay.op false tok rfl rfl rfl ?_ (fun t ht => by cases ht; rfl), ?_⟩; (first | exact ⟨⟩ | omega | focus (simp <;> omega) | decide +kernel)) | (refine ⟨Stay.op true tok rfl rfl rfl ?_ (fun t ht => by cases ht; rfl), ?_⟩; (first | exact ⟨⟩ | omega | focus (simp <;> omega) | decide +kernel)) | refine ⟨Stay.skip rfl rfl (fun t ht => by cases ht; rfl), ?_⟩)); done))) | refine Rg.call (hPo) rfl rfl rfl rfl rfl ⟨⟨.refl _, trivial⟩, rfl⟩ ?_ | refine Rg.call (hPu) rfl rfl rfl rfl rfl ⟨⟨.refl _, trivial⟩, rfl⟩ ?_ | (refine Rg.op true tok rfl rfl rfl rfl ?_ ?_ ?_; (first | exact ⟨⟩ | omega | focus (simp <;> omega) | decide +kernel); (first | exact trivial | exact rfl | exact .inl rfl | exact .inr rfl | focus ((repeat (first | exact trivial | (refine ⟨Stay.op false tok rfl rfl rfl ?_ (fun t ht => by cases ht; rfl), ?_⟩; (first | exact ⟨⟩ | omega | focus (simp <;> omega) | decide +kernel)) | (refine ⟨Stay.op true tok rfl rfl rfl ?_ (fun t ht => by cases ht; rfl), ?_⟩; (first | exact ⟨⟩ | omega | focus (simp <;> omega) | decide +kernel)) | refine ⟨Stay.skip rfl rfl (fun t ht => by cases ht; rfl), ?_⟩)); done))) | refine Rg.nil ?_ | refine Rg.skip rfl rfl rfl ?_ | refine Run.regR ?_ | refine Run.drwR mixed (by kernel_rfl) rfl ?_ | refine Run.condT rfl ?_ | refine Run.condF rfl ?_ | ((first | refine Run.condB rfl (fun hc => ?_) (fun hc => ?_) | ((fail_if_success (refine Rg.lit true rfl ?_)); (fail_if_success (refine Rg.lit false rfl ?_)); refine Rg.guard rfl (fun hc => ?_) (fun hc => ?_))) <;> ((try simp only [cs] at hc); (first | ((exfalso; omega); done) | skip))))
        skip
        refine Run.renumL [0, 1, 3] [pbox p, rowI l, rowI ([ca] : List Int)] [(2, .ptr 0 0 0), (7, sl 2 eInstr h.code), (8, i64 h.code.length), (9, .slc 1 0 l.length), (11, i64 (lmax mo [l.getD (0 + a) default, l.getD (0 + a) default - pp + pu])), (12, bl ag), (13, i64 a), (16, i64 (l.getD (0 + a) default - pp + pu)), (17, .slc 2 0 ([ca] : List Int).length), (18, i64 (0 : Nat))] rfl rfl rfl rfl
          ⟨⟨_, rfl, rfl, rfl, rfl, rfl, fun k hk => .ofEq rfl rfl⟩, ⟨_, rfl, rfl, rfl, rfl, rfl, fun k hk => .ofEq rfl rfl⟩, ⟨_, rfl, rfl, rfl, rfl, rfl, fun k hk => (by rcases k with _ | _ | k <;> first | exact .ofEq rfl rfl | exact absurd hk (by simp))⟩, trivial⟩
          ⟨.ptrN rfl rfl, .cl rfl, .cl rfl, .slcN rfl rfl rfl, .cl rfl, .cl rfl, .cl rfl, .cl rfl, .slcN rfl rfl rfl, .cl rfl, trivial⟩ ?_
        have hkl : ([ca] : List Int).length ≤ 2 := by simp
        generalize lmax mo [l.getD (0 + a) default, l.getD (0 + a) default - pp + pu] = M at hR ⊢
        generalize l.getD (0 + a) default - pp + pu = N at hR hN ⊢
        generalize ([ca] : List Int) = ks at hks hkl hR ⊢
        rw [hm2] at hR
        refine Run.loopN (ι := Nat × List Int × Bool) (fun x => ([(2, .ptr 0 0 0), (7, sl 2 eInstr h.code), (8, i64 h.code.length), (9, .slc 1 0 x.2.1.length), (11, i64 M), (12, bl x.2.2), (13, i64 a), (16, i64 N), (17, .slc 2 0 ks.length), (18, i64 x.1)], [pbox p, rowI x.2.1, rowI ks]))
          (fun x => x.1 ≤ ks.length ∧ goR p h.code (h.code.length - (a + 1)) (a + 1) M (pushR N (ks.drop x.1) x.2.1 x.2.2) = R ∧ Bd h.code.length x.2.1 [] ∧ x.2.1.count (-1) + agN x.2.2 ≤ f) (fun x => ks.length - x.1) (0, l, ag) ⟨rfl, rfl, rfl, rfl, rfl, rfl, rfl, rfl, rfl, rfl, trivial⟩ rfl
          ⟨by omega, hR, hb, hcn⟩ ?_
        clear hbad hR hb hcn hoa hall hoa2 h0
        rintro ⟨j, o, ag2⟩ ⟨hj, hR, hb, hcn⟩ back3 backR3
        dsimp only at hj hR hb hcn ⊢
        by_cases hjl : j < ks.length
        rotate_left
        · obtain rfl : j = ks.length := by omega
          rw [List.drop_length] at hR
          unfold pushR goR at hR
          dsimp only at hR
          repeat' (first | refine Run.ctl rfl ?_ | (refine Rg.op false tok rfl rfl rfl rfl ?_ ?_ ?_; (first | exact ⟨⟩ | omega | focus (simp <;> omega) | decide +kernel); (first | exact trivial | exact rfl | exact .inl rfl | exact .inr rfl)) | (refine Rg.op true tok rfl rfl rfl rfl ?_ ?_ ?_; (first | exact ⟨⟩ | omega | focus (simp <;> omega) | decide +kernel); (first | exact trivial | exact rfl | exact .inl rfl | exact .inr rfl)) | refine Rg.nil ?_ | refine Rg.skip rfl rfl rfl ?_ | refine Run.regR ?_ | refine Run.condT rfl ?_ | refine Run.condF rfl ?_ | ((first | refine Run.condB rfl (fun hc => ?_) (fun hc => ?_) | ((fail_if_success (refine Rg.lit true rfl ?_)); (fail_if_success (refine Rg.lit false rfl ?_)); refine Rg.guard rfl (fun hc => ?_) (fun hc => ?_))) <;> ((try simp only [cs] at hc); (first | ((exfalso; omega); done) | skip))))
          exact backR2 [0, 1] (a + 1, ⟨o, M, ag2⟩) _ _ ⟨hlt, hR, hb, hcn⟩ (by dsimp only; omega) rfl ⟨⟨_, rfl, rfl, rfl, rfl, rfl, fun k hk => .ofEq rfl rfl⟩, ⟨_, rfl, rfl, rfl, rfl, rfl, fun k hk => .ofEq rfl rfl⟩, trivial⟩ ⟨.ptrN rfl rfl, .cl rfl, .cl rfl, .slcN rfl rfl rfl, .cl rfl, .cl rfl, .cl rfl, trivial⟩
        rw [pushR_at N hjl] at hR
        obtain ⟨hk0, hk1⟩ := hks (ks.getD j default) (mem_getD hjl)
        obtain ⟨kk, hkk⟩ : ∃ kk : Nat, ks.getD j default = kk := ⟨(ks.getD j default).toNat, by omega⟩
        rw [show ks.getD j 0 = kk from hkk, Int.toNat_natCast] at hR
        rw [hkk] at hk0 hk1
        have hko : kk < o.length := by have := hb.len; omega
        have hkk2 : ks.getD (0 + j) default = kk := by rw [Nat.zero_add]; exact hkk
        have hoo : o.getD (0 + kk) default = o.getD kk 0 := by rw [Nat.zero_add]; rfl
        have hrn := hb.at (k := kk) (by omega)
        by_cases h1 : o.getD kk 0 = -1
        · rw [if_pos h1] at hR
          have hb2 := hb.push (k := kk) (m := N) ⟨by omega, by omega⟩ hN
          rw [Int.toNat_natCast] at hb2
          have hc2 := count_set (n := N) hko h1 (by omega)
          have ha1 : agN true = 1 := rfl
          have ha2 : 0 ≤ agN ag2 := Nat.zero_le _
          repeat' (first | refine Rg.any rfl rfl rfl (fun _ hq => G_ixOK tok kk rfl rfl rfl rfl rfl rfl hkk2 (by omega) hq) (by first | exact trivial | exact rfl | exact .inl rfl | exact .inr rfl | focus ((repeat (first | exact trivial | (refine ⟨Stay.op false tok rfl rfl rfl ?_ (fun t ht => by cases ht; rfl), ?_⟩; (first | exact ⟨⟩ | omega | focus (simp <;> omega) | decide +kernel)) | (refine ⟨Stay.op true tok rfl rfl rfl ?_ (fun t ht => by cases ht; rfl), ?_⟩; (first | exact ⟨⟩ | omega | focus (simp <;> omega) | decide +kernel)) | refine ⟨Stay.skip rfl rfl (fun t ht => by cases ht; rfl), ?_⟩)); done)) ?_ | refine Run.ctl rfl ?_ | (refine Rg.op false tok rfl rfl rfl rfl ?_ ?_ ?_; (first | exact ⟨⟩ | omega | focus (simp <;> omega) | decide +kernel); (first | exact trivial | exact rfl | exact .inl rfl | exact .inr rfl)) | (refine Rg.op true tok rfl rfl rfl rfl ?_ ?_ ?_; (first | exact ⟨⟩ | omega | focus (simp <;> omega) | decide +kernel); (first | exact trivial | exact rfl | exact .inl rfl | exact .inr rfl)) | refine Rg.nil ?_ | refine Rg.skip rfl rfl rfl ?_ | refine Run.regR ?_ | refine Run.condT rfl ?_ | refine Run.condF rfl ?_ | ((first | refine Run.condB rfl (fun hc => ?_) (fun hc => ?_) | ((fail_if_success (refine Rg.lit true rfl ?_)); (fail_if_success (refine Rg.lit false rfl ?_)); refine Rg.guard rfl (fun hc => ?_) (fun hc => ?_))) <;> ((try simp only [cs] at hc); (first | ((exfalso; omega); done) | skip))))
          exact backR3 [0, 1, 2] (j + 1, o.set kk N, true) _ _ ⟨hjl, hR, ⟨hb2.len, hb2.rng, fun a ha => (nomatch ha)⟩, by dsimp only; omega⟩ (by dsimp only; omega) rfl ⟨⟨_, rfl, rfl, rfl, rfl, rfl, fun k hk => .ofEq rfl rfl⟩, ⟨_, rfl, rfl, rfl, by simp, rfl, fun j hj => .ofEq (by dsimp only; rw [rows_set eInt o N hko j]; rfl) rfl⟩, ⟨_, rfl, rfl, rfl, rfl, rfl, fun k hk => .ofEq rfl rfl⟩, trivial⟩ ⟨.ptrN rfl rfl, .cl rfl, .cl rfl, .slcN rfl rfl (by simp), .cl rfl, .cl rfl, .cl rfl, .cl rfl, .slcN rfl rfl rfl, .cl rfl, trivial⟩
        rw [if_neg h1] at hR
        by_cases h2 : o.getD kk 0 = N
        · rw [if_pos h2] at hR
          repeat' (first | refine Rg.any rfl rfl rfl (fun _ hq => G_ixOK tok kk rfl rfl rfl rfl rfl rfl hkk2 (by omega) hq) (by first | exact trivial | exact rfl | exact .inl rfl | exact .inr rfl | focus ((repeat (first | exact trivial | (refine ⟨Stay.op false tok rfl rfl rfl ?_ (fun t ht => by cases ht; rfl), ?_⟩; (first | exact ⟨⟩ | omega | focus (simp <;> omega) | decide +kernel)) | (refine ⟨Stay.op true tok rfl rfl rfl ?_ (fun t ht => by cases ht; rfl), ?_⟩; (first | exact ⟨⟩ | omega | focus (simp <;> omega) | decide +kernel)) | refine ⟨Stay.skip rfl rfl (fun t ht => by cases ht; rfl), ?_⟩)); done)) ?_ | refine Run.ctl rfl ?_ | (refine Rg.op false tok rfl rfl rfl rfl ?_ ?_ ?_; (first | exact ⟨⟩ | omega | focus (simp <;> omega) | decide +kernel); (first | exact trivial | exact rfl | exact .inl rfl | exact .inr rfl)) | (refine Rg.op true tok rfl rfl rfl rfl ?_ ?_ ?_; (first | exact ⟨⟩ | omega | focus (simp <;> omega) | decide +kernel); (first | exact trivial | exact rfl | exact .inl rfl | exact .inr rfl)) | refine Rg.nil ?_ | refine Rg.skip rfl rfl rfl ?_ | refine Run.regR ?_ | refine Run.condT rfl ?_ | refine Run.condF rfl ?_ | ((first | refine Run.condB rfl (fun hc => ?_) (fun hc => ?_) | ((fail_if_success (refine Rg.lit true rfl ?_)); (fail_if_success (refine Rg.lit false rfl ?_)); refine Rg.guard rfl (fun hc => ?_) (fun hc => ?_))) <;> ((try simp only [cs] at hc); (first | ((exfalso; omega); done) | skip))))
          exact back3 (j + 1, o, ag2) _ _ ⟨hjl, hR, hb, hcn⟩ (by dsimp only; omega) ⟨rfl, rfl, rfl, rfl, rfl, rfl, rfl, rfl, rfl, rfl, trivial⟩ rfl
        · rw [if_neg h2] at hR
          unfold goR at hR
          subst hR
          dsimp only at hw
          subst hw
          repeat' (first | refine Rg.any rfl rfl rfl (fun _ hq => G_ixOK tok kk rfl rfl rfl rfl rfl rfl hkk2 (by omega) hq) (by first | exact trivial | exact rfl | exact .inl rfl | exact .inr rfl | focus ((repeat (first | exact trivial | (refine ⟨Stay.op false tok rfl rfl rfl ?_ (fun t ht => by cases ht; rfl), ?_⟩; (first | exact ⟨⟩ | omega | focus (simp <;> omega) | decide +kernel)) | (refine ⟨Stay.op true tok rfl rfl rfl ?_ (fun t ht => by cases ht; rfl), ?_⟩; (first | exact ⟨⟩ | omega | focus (simp <;> omega) | decide +kernel)) | refine ⟨Stay.skip rfl rfl (fun t ht => by cases ht; rfl), ?_⟩)); done)) ?_ | refine Run.ctl rfl ?_ | (refine Rg.op false tok rfl rfl rfl rfl ?_ ?_ ?_; (first | exact ⟨⟩ | omega | focus (simp <;> omega) | decide +kernel); (first | exact trivial | exact rfl | exact .inl rfl | exact .inr rfl)) | (refine Rg.op true tok rfl rfl rfl rfl ?_ ?_ ?_; (first | exact ⟨⟩ | omega | focus (simp <;> omega) | decide +kernel); (first | exact trivial | exact rfl | exact .inl rfl | exact .inr rfl)) | refine Rg.nil ?_ | refine Rg.skip rfl rfl rfl ?_ | refine Run.regR ?_ | refine Run.condT rfl ?_ | refine Run.condF rfl ?_ | ((first | refine Run.condB rfl (fun hc => ?_) (fun hc => ?_) | ((fail_if_success (refine Rg.lit true rfl ?_)); (fail_if_success (refine Rg.lit false rfl ?_)); refine Rg.guard rfl (fun hc => ?_) (fun hc => ?_))) <;> ((try simp only [cs] at hc); (first | ((exfalso; omega); done) | skip))))
          (first | refine Run.ret tok Try.func36 rfl ?_ | refine Run.fall tok Try.func36 rfl ?_)
          exact .tup' ⟨.rowNil, .refl _, .refl _, trivial⟩
      by_cases h21 : op = 21
      · have hnx : nextOf a ⟨op, ca⟩ = [ca, (a : Int) + 1] := by unfold nextOf; dsimp only; rw [if_neg h20, if_pos h21]
        rw [hnx] at hR hks
        clear hnx hi2
        have htk : 0 ≤ pp ∧ pp ≤ 6 := by omega
        rw [← hoa2] at hR
        by_cases hbad : l.getD (0 + a) default - pp < 0 ∨ 8 < l.getD (0 + a) default - pp + pu
        · rw [if_pos hbad] at hR
          subst hR
          dsimp only at hw
          subst hw
          repeat' (first | (rw [hi]) | (refine Run.drwP [] [0, 1, 2, 3, 4, 5, 6, 7, 8, 9, 10] [none, none, none, none, none, none, none, none, none, none, none] mixed (by kernel_rfl) rfl ?_) | refine Run.ctl rfl ?_ | (refine Rg.op false tok rfl rfl rfl rfl ?_ ?_ ?_; (first | exact ⟨⟩ | omega | focus (simp <;> omega) | decide +kernel); (first | exact trivial | exact rfl | exact .inl rfl | exact .inr rfl | focus ((repeat (first | exact trivial | (refine ⟨Stay.op false tok rfl rfl rfl ?_ (fun t ht => by cases ht; rfl), ?_⟩; (first | exact ⟨⟩ | omega | focus (simp <;> omega) | decide +kernel)) | (refine ⟨Stay.op true tok rfl rfl rfl ?_ (fun t ht => by cases ht; rfl), ?_⟩; (first | exact ⟨⟩ | omega | focus (simp <;> omega) | decide +kernel)) | refine ⟨Stay.skip rfl rfl (fun t ht => by cases ht; rfl), ?_⟩)); done))) | refine Rg.call (hPo) rfl rfl rfl rfl rfl ⟨⟨.refl _, trivial⟩, rfl⟩ ?_ | refine Rg.call (hPu) rfl rfl rfl rfl rfl ⟨⟨.refl _, trivial⟩, rfl⟩ ?_ | (refine Rg.op true tok rfl rfl rfl rfl ?_ ?_ ?_; (first | exact ⟨⟩ | omega | focus (simp <;> omega) | decide +kernel); (first | exact trivial | exact rfl | exact .inl rfl | exact .inr rfl | focus ((repeat (first | exact trivial | (refine ⟨Stay.op false tok rfl rfl rfl ?_ (fun t ht => by cases ht; rfl), ?_⟩; (first | exact ⟨⟩ | omega | focus (simp <;> omega) | decide +kernel)) | (refine ⟨Stay.op true tok rfl rfl rfl ?_ (fun t ht => by cases ht; rfl), ?_⟩; (first | exact ⟨⟩ | omega | focus (simp <;> omega) | decide +kernel)) | refine ⟨Stay.skip rfl rfl (fun t ht => by cases ht; rfl), ?_⟩)); done))) | refine Rg.nil ?_ | refine Rg.skip rfl rfl rfl ?_ | refine Run.regR ?_ | refine Run.drwR mixed (by kernel_rfl) rfl ?_ | refine Run.condT rfl ?_ | refine Run.condF rfl ?_ | ((first | refine Run.condB rfl (fun hc => ?_) (fun hc => ?_) | ((fail_if_success (refine Rg.lit true rfl ?_)); (fail_if_success (refine Rg.lit false rfl ?_)); refine Rg.guard rfl (fun hc => ?_) (fun hc => ?_))) <;> ((try simp only [cs] at hc); (first | ((exfalso; omega); done) | skip))))
          all_goals ((first | refine Run.ret tok Try.func36 rfl ?_ | refine Run.fall tok Try.func36 rfl ?_); exact .tup' ⟨.rowNil, .refl _, .refl _, trivial⟩)
        rw [if_neg hbad] at hR
        have hN : 0 ≤ l.getD (0 + a) default - pp + pu ∧ l.getD (0 + a) default - pp + pu ≤ 8 := by omega
        repeat' (first | (rw [hi]) | (refine Run.drwP [] [0, 1, 2, 3, 4, 5, 6, 7, 8, 9, 10] [none, none, none, none, none, none, none, none, none, none, none] mixed (by kernel_rfl) rfl ?_) | refine Run.ctl rfl ?_ | (refine Rg.op false tok rfl rfl rfl rfl ?_ ?_ ?_; (first | exact ⟨⟩ | omega | focus (simp <;> omega) | decide +kernel); (first | exact trivial | exact rfl | exact .inl rfl | exact .inr rfl | focus ((repeat (first | exact trivial | (refine ⟨Stay.op false tok rfl rfl rfl ?_ (fun t ht => by cases ht; rfl), ?_⟩; (first | exact ⟨⟩ | omega | focus (simp <;> omega) | decide +kernel)) | (refine ⟨Stay.op true tok rfl rfl rfl ?_ (fun t ht => by cases ht; rfl), ?_⟩; (first | exact ⟨⟩ | omega | focus (simp <;> omega) | decide +kernel)) | refine ⟨Stay.skip rfl rfl (fun t ht => by cases ht; rfl), ?_⟩)); done))) | refine Rg.call (hPo) rfl rfl rfl rfl rfl ⟨⟨.refl _, trivial⟩, rfl⟩ ?_ | refine Rg.call (hPu) rfl rfl rfl rfl rfl ⟨⟨.refl _, trivial⟩, rfl⟩ ?_ | (refine Rg.op true tok rfl rfl rfl rfl ?_ ?_ ?_; (first | exact ⟨⟩ | omega | focus (simp <;> omega) | decide +kernel); (first | exact trivial | exact rfl | exact .inl rfl | exact .inr rfl | focus ((repeat (first | exact trivial | (refine ⟨Stay.op false tok rfl rfl rfl ?_ (fun t ht => by cases ht; rfl), ?_⟩; (first | exact ⟨⟩ | omega | focus (simp <;> omega) | decide +kernel)) | (refine ⟨Stay.op true tok rfl rfl rfl ?_ (fun t ht => by cases ht; rfl), ?_⟩; (first | exact ⟨⟩ | omega | focus (simp <;> omega) | decide +kernel)) | refine ⟨Stay.skip rfl rfl (fun t ht => by cases ht; rfl), ?_⟩)); done))) | refine Rg.nil ?_ | refine Rg.skip rfl rfl rfl ?_ | refine Run.regR ?_ | refine Run.drwR mixed (by kernel_rfl) rfl ?_ | refine Run.condT rfl ?_ | refine Run.condF rfl ?_ | ((first | refine Run.condB rfl (fun hc => ?_) (fun hc => ?_) | ((fail_if_success (refine Rg.lit true rfl ?_)); (fail_if_success (refine Rg.lit false rfl ?_)); refine Rg.guard rfl (fun hc => ?_) (fun hc => ?_))) <;> ((try simp only [cs] at hc); (first | ((exfalso; omega); done) | skip))))
        skip
        refine Run.renumL [0, 1, 3] [pbox p, rowI l, rowI ([ca, (a : Int) + 1] : List Int)] [(2, .ptr 0 0 0), (7, sl 2 eInstr h.code), (8, i64 h.code.length), (9, .slc 1 0 l.length), (11, i64 (lmax mo [l.getD (0 + a) default, l.getD (0 + a) default - pp + pu])), (12, bl ag), (13, i64 a), (16, i64 (l.getD (0 + a) default - pp + pu)), (17, .slc 2 0 ([ca, (a : Int) + 1] : List Int).length), (18, i64 (0 : Nat))] rfl rfl rfl rfl
          ⟨⟨_, rfl, rfl, rfl, rfl, rfl, fun k hk => .ofEq rfl rfl⟩, ⟨_, rfl, rfl, rfl, rfl, rfl, fun k hk => .ofEq rfl rfl⟩, ⟨_, rfl, rfl, rfl, rfl, rfl, fun k hk => (by rcases k with _ | _ | k <;> first | exact .ofEq rfl rfl | exact absurd hk (by simp))⟩, trivial⟩
          ⟨.ptrN rfl rfl, .cl rfl, .cl rfl, .slcN rfl rfl rfl, .cl rfl, .cl rfl, .cl rfl, .cl rfl, .slcN rfl rfl rfl, .cl rfl, trivial⟩ ?_
        have hkl : ([ca, (a : Int) + 1] : List Int).length ≤ 2 := by simp
        generalize lmax mo [l.getD (0 + a) default, l.getD (0 + a) default - pp + pu] = M at hR ⊢
        generalize l.getD (0 + a) default - pp + pu = N at hR hN ⊢
        generalize ([ca, (a : Int) + 1] : List Int) = ks at hks hkl hR ⊢
        rw [hm2] at hR
        refine Run.loopN (ι := Nat × List Int × Bool) (fun x => ([(2, .ptr 0 0 0), (7, sl 2 eInstr h.code), (8, i64 h.code.length), (9, .slc 1 0 x.2.1.length), (11, i64 M), (12, bl x.2.2), (13, i64 a), (16, i64 N), (17, .slc 2 0 ks.length), (18, i64 x.1)], [pbox p, rowI x.2.1, rowI ks]))
          (fun x => x.1 ≤ ks.length ∧ goR p h.code (h.code.length - (a + 1)) (a + 1) M (pushR N (ks.drop x.1) x.2.1 x.2.2) = R ∧ Bd h.code.length x.2.1 [] ∧ x.2.1.count (-1) + agN x.2.2 ≤ f) (fun x => ks.length - x.1) (0, l, ag) ⟨rfl, rfl, rfl, rfl, rfl, rfl, rfl, rfl, rfl, rfl, trivial⟩ rfl
          ⟨by omega, hR, hb, hcn⟩ ?_
        clear hbad hR hb hcn hoa hall hoa2 h0
        rintro ⟨j, o, ag2⟩ ⟨hj, hR, hb, hcn⟩ back3 backR3
        dsimp only at hj hR hb hcn ⊢
        by_cases hjl : j < ks.length
        rotate_left
        · obtain rfl : j = ks.length := by omega
          rw [List.drop_length] at hR
          unfold pushR goR at hR
          dsimp only at hR
          repeat' (first | refine Run.ctl rfl ?_ | (refine Rg.op false tok rfl rfl rfl rfl ?_ ?_ ?_; (first | exact ⟨⟩ | omega | focus (simp <;> omega) | decide +kernel); (first | exact trivial | exact rfl | exact .inl rfl | exact .inr rfl)) | (refine Rg.op true tok rfl rfl rfl rfl ?_ ?_ ?_; (first | exact ⟨⟩ | omega | focus (simp <;> omega) | decide +kernel); (first | exact trivial | exact rfl | exact .inl rfl | exact .inr rfl)) | refine Rg.nil ?_ | refine Rg.skip rfl rfl rfl ?_ | refine Run.regR ?_ | refine Run.condT rfl ?_ | refine Run.condF rfl ?_ | ((first | refine Run.condB rfl (fun hc => ?_) (fun hc => ?_) | ((fail_if_success (refine Rg.lit true rfl ?_)); (fail_if_success (refine Rg.lit false rfl ?_)); refine Rg.guard rfl (fun hc => ?_) (fun hc => ?_))) <;> ((try simp only [cs] at hc); (first | ((exfalso; omega); done) | skip))))
          exact backR2 [0, 1] (a + 1, ⟨o, M, ag2⟩) _ _ ⟨hlt, hR, hb, hcn⟩ (by dsimp only; omega) rfl ⟨⟨_, rfl, rfl, rfl, rfl, rfl, fun k hk => .ofEq rfl rfl⟩, ⟨_, rfl, rfl, rfl, rfl, rfl, fun k hk => .ofEq rfl rfl⟩, trivial⟩ ⟨.ptrN rfl rfl, .cl rfl, .cl rfl, .slcN rfl rfl rfl, .cl rfl, .cl rfl, .cl rfl, trivial⟩
        rw [pushR_at N hjl] at hR
        obtain ⟨hk0, hk1⟩ := hks (ks.getD j default) (mem_getD hjl)
        obtain ⟨kk, hkk⟩ : ∃ kk : Nat, ks.getD j default = kk := ⟨(ks.getD j default).toNat, by omega⟩
        rw [show ks.getD j 0 = kk from hkk, Int.toNat_natCast] at hR
        rw [hkk] at hk0 hk1
        have hko : kk < o.length := by have := hb.len; omega
        have hkk2 : ks.getD (0 + j) default = kk := by rw [Nat.zero_add]; exact hkk
        have hoo : o.getD (0 + kk) default = o.getD kk 0 := by rw [Nat.zero_add]; rfl
        have hrn := hb.at (k := kk) (by omega)
        by_cases h1 : o.getD kk 0 = -1
        · rw [if_pos h1] at hR
          have hb2 := hb.push (k := kk) (m := N) ⟨by omega, by omega⟩ hN
          rw [Int.toNat_natCast] at hb2
          have hc2 := count_set (n := N) hko h1 (by omega)
          have ha1 : agN true = 1 := rfl
          have ha2 : 0 ≤ agN ag2 := Nat.zero_le _
          repeat' (first | refine Rg.any rfl rfl rfl (fun _ hq => G_ixOK tok kk rfl rfl rfl rfl rfl rfl hkk2 (by omega) hq) (by first | exact trivial | exact rfl | exact .inl rfl | exact .inr rfl | focus ((repeat (first | exact trivial | (refine ⟨Stay.op false tok rfl rfl rfl ?_ (fun t ht => by cases ht; rfl), ?_⟩; (first | exact ⟨⟩ | omega | focus (simp <;> omega) | decide +kernel)) | (refine ⟨Stay.op true tok rfl rfl rfl ?_ (fun t ht => by cases ht; rfl), ?_⟩; (first | exact ⟨⟩ | omega | focus (simp <;> omega) | decide +kernel)) | refine ⟨Stay.skip rfl rfl (fun t ht => by cases ht; rfl), ?_⟩)); done)) ?_ | refine Run.ctl rfl ?_ | (refine Rg.op false tok rfl rfl rfl rfl ?_ ?_ ?_; (first | exact ⟨⟩ | omega | focus (simp <;> omega) | decide +kernel); (first | exact trivial | exact rfl | exact .inl rfl | exact .inr rfl)) | (refine Rg.op true tok rfl rfl rfl rfl ?_ ?_ ?_; (first | exact ⟨⟩ | omega | focus (simp <;> omega) | decide +kernel); (first | exact trivial | exact rfl | exact .inl rfl | exact .inr rfl)) | refine Rg.nil ?_ | refine Rg.skip rfl rfl rfl ?_ | refine Run.regR ?_ | refine Run.condT rfl ?_ | refine Run.condF rfl ?_ | ((first | refine Run.condB rfl (fun hc => ?_) (fun hc => ?_) | ((fail_if_success (refine Rg.lit true rfl ?_)); (fail_if_success (refine Rg.lit false rfl ?_)); refine Rg.guard rfl (fun hc => ?_) (fun hc => ?_))) <;> ((try simp only [cs] at hc); (first | ((exfalso; omega); done) | skip))))
          exact backR3 [0, 1, 2] (j + 1, o.set kk N, true) _ _ ⟨hjl, hR, ⟨hb2.len, hb2.rng, fun a ha => (nomatch ha)⟩, by dsimp only; omega⟩ (by dsimp only; omega) rfl ⟨⟨_, rfl, rfl, rfl, rfl, rfl, fun k hk => .ofEq rfl rfl⟩, ⟨_, rfl, rfl, rfl, by simp, rfl, fun j hj => .ofEq (by dsimp only; rw [rows_set eInt o N hko j]; rfl) rfl⟩, ⟨_, rfl, rfl, rfl, rfl, rfl, fun k hk => .ofEq rfl rfl⟩, trivial⟩ ⟨.ptrN rfl rfl, .cl rfl, .cl rfl, .slcN rfl rfl (by simp), .cl rfl, .cl rfl, .cl rfl, .cl rfl, .slcN rfl rfl rfl, .cl rfl, trivial⟩
        rw [if_neg h1] at hR
        by_cases h2 : o.getD kk 0 = N
        · rw [if_pos h2] at hR
          repeat' (first | refine Rg.any rfl rfl rfl (fun _ hq => G_ixOK tok kk rfl rfl rfl rfl rfl rfl hkk2 (by omega) hq) (by first | exact trivial | exact rfl | exact .inl rfl | exact .inr rfl | focus ((repeat (first | exact trivial | (refine ⟨Stay.op false tok rfl rfl rfl ?_ (fun t ht => by cases ht; rfl), ?_⟩; (first | exact ⟨⟩ | omega | focus (simp <;> omega) | decide +kernel)) | (refine ⟨Stay.op true tok rfl rfl rfl ?_ (fun t ht => by cases ht; rfl), ?_⟩; (first | exact ⟨⟩ | omega | focus (simp <;> omega) | decide +kernel)) | refine ⟨Stay.skip rfl rfl (fun t ht => by cases ht; rfl), ?_⟩)); done)) ?_ | refine Run.ctl rfl ?_ | (refine Rg.op false tok rfl rfl rfl rfl ?_ ?_ ?_; (first | exact ⟨⟩ | omega | focus (simp <;> omega) | decide +kernel); (first | exact trivial | exact rfl | exact .inl rfl | exact .inr rfl)) | (refine Rg.op true tok rfl rfl rfl rfl ?_ ?_ ?_; (first | exact ⟨⟩ | omega | focus (simp <;> omega) | decide +kernel); (first | exact trivial | exact rfl | exact .inl rfl | exact .inr rfl)) | refine Rg.nil ?_ | refine Rg.skip rfl rfl rfl ?_ | refine Run.regR ?_ | refine Run.condT rfl ?_ | refine Run.condF rfl ?_ | ((first | refine Run.condB rfl (fun hc => ?_) (fun hc => ?_) | ((fail_if_success (refine Rg.lit true rfl ?_)); (fail_if_success (refine Rg.lit false rfl ?_)); refine Rg.guard rfl (fun hc => ?_) (fun hc => ?_))) <;> ((try simp only [cs] at hc); (first | ((exfalso; omega); done) | skip))))
          exact back3 (j + 1, o, ag2) _ _ ⟨hjl, hR, hb, hcn⟩ (by dsimp only; omega) ⟨rfl, rfl, rfl, rfl, rfl, rfl, rfl, rfl, rfl, rfl, trivial⟩ rfl
        · rw [if_neg h2] at hR
          unfold goR at hR
          subst hR
          dsimp only at hw
          subst hw
          repeat' (first | refine Rg.any rfl rfl rfl (fun _ hq => G_ixOK tok kk rfl rfl rfl rfl rfl rfl hkk2 (by omega) hq) (by first | exact trivial | exact rfl | exact .inl rfl | exact .inr rfl | focus ((repeat (first | exact trivial | (refine ⟨Stay.op false tok rfl rfl rfl ?_ (fun t ht => by cases ht; rfl), ?_⟩; (first | exact ⟨⟩ | omega | focus (simp <;> omega) | decide +kernel)) | (refine ⟨Stay.op true tok rfl rfl rfl ?_ (fun t ht => by cases ht; rfl), ?_⟩; (first | exact ⟨⟩ | omega | focus (simp <;> omega) | decide +kernel)) | refine ⟨Stay.skip rfl rfl (fun t ht => by cases ht; rfl), ?_⟩)); done)) ?_ | refine Run.ctl rfl ?_ | (refine Rg.op false tok rfl rfl rfl rfl ?_ ?_ ?_; (first | exact ⟨⟩ | omega | focus (simp <;> omega) | decide +kernel); (first | exact trivial | exact rfl | exact .inl rfl | exact .inr rfl)) | (refine Rg.op true tok rfl rfl rfl rfl ?_ ?_ ?_; (first | exact ⟨⟩ | omega | focus (simp <;> omega) | decide +kernel); (first | exact trivial | exact rfl | exact .inl rfl | exact .inr rfl)) | refine Rg.nil ?_ | refine Rg.skip rfl rfl rfl ?_ | refine Run.regR ?_ | refine Run.condT rfl ?_ | refine Run.condF rfl ?_ | ((first | refine Run.condB rfl (fun hc => ?_) (fun hc => ?_) | ((fail_if_success (refine Rg.lit true rfl ?_)); (fail_if_success (refine Rg.lit false rfl ?_)); refine Rg.guard rfl (fun hc => ?_) (fun hc => ?_))) <;> ((try simp only [cs] at hc); (first | ((exfalso; omega); done) | skip))))
          (first | refine Run.ret tok Try.func36 rfl ?_ | refine Run.fall tok Try.func36 rfl ?_)
          exact .tup' ⟨.rowNil, .refl _, .refl _, trivial⟩
      by_cases h25 : op = 25
      · have hnx : nextOf a ⟨op, ca⟩ = [] := by unfold nextOf; dsimp only; rw [if_neg h20, if_neg h21, if_pos h25]
        rw [hnx] at hR hks
        clear hnx hi2
        have htk : 0 ≤ pp ∧ pp ≤ 6 := by omega
        rw [← hoa2] at hR
        by_cases hbad : l.getD (0 + a) default - pp < 0 ∨ 8 < l.getD (0 + a) default - pp + pu
        · rw [if_pos hbad] at hR
          subst hR
          dsimp only at hw
          subst hw
          repeat' (first | (rw [hi]) | (refine Run.drwP [] [0, 1, 2, 3, 4, 5, 6, 7, 8, 9, 10] [none, none, none, none, none, none, none, none, none, none, none] mixed (by kernel_rfl) rfl ?_) | refine Run.ctl rfl ?_ | (refine Rg.op false tok rfl rfl rfl rfl ?_ ?_ ?_; (first | exact ⟨⟩ | omega | focus (simp <;> omega) | decide +kernel); (first | exact trivial | exact rfl | exact .inl rfl | exact .inr rfl | focus ((repeat (first | exact trivial | (refine ⟨Stay.op false tok rfl rfl rfl ?_ (fun t ht => by cases ht; rfl), ?_⟩; (first | exact ⟨⟩ | omega | focus (simp <;> omega) | decide +kernel)) | (refine ⟨Stay.op true tok rfl rfl rfl ?_ (fun t ht => by cases ht; rfl), ?_⟩; (first | exact ⟨⟩ | omega | focus (simp <;> omega) | decide +kernel)) | refine ⟨Stay.skip rfl rfl (fun t ht => by cases ht; rfl), ?_⟩)); done))) | refine Rg.call (hPo) rfl rfl rfl rfl rfl ⟨⟨.refl _, trivial⟩, rfl⟩ ?_ | refine Rg.call (hPu) rfl rfl rfl rfl rfl ⟨⟨.refl _, trivial⟩, rfl⟩ ?_ | (refine Rg.op true tok rfl rfl rfl rfl ?_ ?_ ?_; (first | exact ⟨⟩ | omega | focus (simp <;> omega) | decide +kernel); (first | exact trivial | exact rfl | exact .inl rfl | exact .inr rfl | focus ((repeat (first | exact trivial | (refine ⟨Stay.op false tok rfl rfl rfl ?_ (fun t ht => by cases ht; rfl), ?_⟩; (first | exact ⟨⟩ | omega | focus (simp <;> omega) | decide +kernel)) | (refine ⟨Stay.op true tok rfl rfl rfl ?_ (fun t ht => by cases ht; rfl), ?_⟩; (first | exact ⟨⟩ | omega | focus (simp <;> omega) | decide +kernel)) | refine ⟨Stay.skip rfl rfl (fun t ht => by cases ht; rfl), ?_⟩)); done))) | refine Rg.nil ?_ | refine Rg.skip rfl rfl rfl ?_ | refine Run.regR ?_ | refine Run.drwR mixed (by kernel_rfl) rfl ?_ | refine Run.condT rfl ?_ | refine Run.condF rfl ?_ | ((first | refine Run.condB rfl (fun hc => ?_) (fun hc => ?_) | ((fail_if_success (refine Rg.lit true rfl ?_)); (fail_if_success (refine Rg.lit false rfl ?_)); refine Rg.guard rfl (fun hc => ?_) (fun hc => ?_))) <;> ((try simp only [cs] at hc); (first | ((exfalso; omega); done) | skip))))
          all_goals ((first | refine Run.ret tok Try.func36 rfl ?_ | refine Run.fall tok Try.func36 rfl ?_); exact .tup' ⟨.rowNil, .refl _, .refl _, trivial⟩)
        rw [if_neg hbad] at hR
        have hN : 0 ≤ l.getD (0 + a) default - pp + pu ∧ l.getD (0 + a) default - pp + pu ≤ 8 := by omega
        repeat' (first | (rw [hi]) | (refine Run.drwP [] [0, 1, 2, 3, 4, 5, 6, 7, 8, 9, 10] [none, none, none, none, none, none, none, none, none, none, none] mixed (by kernel_rfl) rfl ?_) | refine Run.ctl rfl ?_ | (refine Rg.op false tok rfl rfl rfl rfl ?_ ?_ ?_; (first | exact ⟨⟩ | omega | focus (simp <;> omega) | decide +kernel); (first | exact trivial | exact rfl | exact .inl rfl | exact .inr rfl | focus ((repeat (first | exact trivial | (refine ⟨Stay.op false tok rfl rfl rfl ?_ (fun t ht => by cases ht; rfl), ?_⟩; (first | exact ⟨⟩ | omega | focus (simp <;> omega) | decide +kernel)) | (refine ⟨Stay.op true tok rfl rfl rfl ?_ (fun t ht => by cases ht; rfl), ?_⟩; (first | exact ⟨⟩ | omega | focus (simp <;> omega) | decide +kernel)) | refine ⟨Stay.skip rfl rfl (fun t ht => by cases ht; rfl), ?_⟩)); done))) | refine Rg.call (hPo) rfl rfl rfl rfl rfl ⟨⟨.refl _, trivial⟩, rfl⟩ ?_ | refine Rg.call (hPu) rfl rfl rfl rfl rfl ⟨⟨.refl _, trivial⟩, rfl⟩ ?_ | (refine Rg.op true tok rfl rfl rfl rfl ?_ ?_ ?_; (first | exact ⟨⟩ | omega | focus (simp <;> omega) | decide +kernel); (first | exact trivial | exact rfl | exact .inl rfl | exact .inr rfl | focus ((repeat (first | exact trivial | (refine ⟨Stay.op false tok rfl rfl rfl ?_ (fun t ht => by cases ht; rfl), ?_⟩; (first | exact ⟨⟩ | omega | focus (simp <;> omega) | decide +kernel)) | (refine ⟨Stay.op true tok rfl rfl rfl ?_ (fun t ht => by cases ht; rfl), ?_⟩; (first | exact ⟨⟩ | omega | focus (simp <;> omega) | decide +kernel)) | refine ⟨Stay.skip rfl rfl (fun t ht => by cases ht; rfl), ?_⟩)); done))) | refine Rg.nil ?_ | refine Rg.skip rfl rfl rfl ?_ | refine Run.regR ?_ | refine Run.drwR mixed (by kernel_rfl) rfl ?_ | refine Run.condT rfl ?_ | refine Run.condF rfl ?_ | ((first | refine Run.condB rfl (fun hc => ?_) (fun hc => ?_) | ((fail_if_success (refine Rg.lit true rfl ?_)); (fail_if_success (refine Rg.lit false rfl ?_)); refine Rg.guard rfl (fun hc => ?_) (fun hc => ?_))) <;> ((try simp only [cs] at hc); (first | ((exfalso; omega); done) | skip))))
        refine Run.nilRow 17 3 1 (rows eInt []) rfl ?_
        refine Run.renumL [0, 1, 3] [pbox p, rowI l, rowI ([] : List Int)] [(2, .ptr 0 0 0), (7, sl 2 eInstr h.code), (8, i64 h.code.length), (9, .slc 1 0 l.length), (11, i64 (lmax mo [l.getD (0 + a) default, l.getD (0 + a) default - pp + pu])), (12, bl ag), (13, i64 a), (16, i64 (l.getD (0 + a) default - pp + pu)), (17, .slc 2 0 ([] : List Int).length), (18, i64 (0 : Nat))] rfl rfl rfl rfl
          ⟨⟨_, rfl, rfl, rfl, rfl, rfl, fun k hk => .ofEq rfl rfl⟩, ⟨_, rfl, rfl, rfl, rfl, rfl, fun k hk => .ofEq rfl rfl⟩, ⟨_, rfl, rfl, rfl, rfl, rfl, fun k hk => (by rcases k with _ | _ | k <;> first | exact .ofEq rfl rfl | exact absurd hk (by simp))⟩, trivial⟩
          ⟨.ptrN rfl rfl, .cl rfl, .cl rfl, .slcN rfl rfl rfl, .cl rfl, .cl rfl, .cl rfl, .cl rfl, .slcN rfl rfl rfl, .cl rfl, trivial⟩ ?_
        have hkl : ([] : List Int).length ≤ 2 := by simp
        generalize lmax mo [l.getD (0 + a) default, l.getD (0 + a) default - pp + pu] = M at hR ⊢
        generalize l.getD (0 + a) default - pp + pu = N at hR hN ⊢
        generalize ([] : List Int) = ks at hks hkl hR ⊢
        rw [hm2] at hR
        refine Run.loopN (ι := Nat × List Int × Bool) (fun x => ([(2, .ptr 0 0 0), (7, sl 2 eInstr h.code), (8, i64 h.code.length), (9, .slc 1 0 x.2.1.length), (11, i64 M), (12, bl x.2.2), (13, i64 a), (16, i64 N), (17, .slc 2 0 ks.length), (18, i64 x.1)], [pbox p, rowI x.2.1, rowI ks]))
          (fun x => x.1 ≤ ks.length ∧ goR p h.code (h.code.length - (a + 1)) (a + 1) M (pushR N (ks.drop x.1) x.2.1 x.2.2) = R ∧ Bd h.code.length x.2.1 [] ∧ x.2.1.count (-1) + agN x.2.2 ≤ f) (fun x => ks.length - x.1) (0, l, ag) ⟨rfl, rfl, rfl, rfl, rfl, rfl, rfl, rfl, rfl, rfl, trivial⟩ rfl
          ⟨by omega, hR, hb, hcn⟩ ?_
        clear hbad hR hb hcn hoa hall hoa2 h0
        rintro ⟨j, o, ag2⟩ ⟨hj, hR, hb, hcn⟩ back3 backR3
        dsimp only at hj hR hb hcn ⊢
        by_cases hjl : j < ks.length
        rotate_left
        · obtain rfl : j = ks.length := by omega
          rw [List.drop_length] at hR
          unfold pushR goR at hR
          dsimp only at hR
          repeat' (first | refine Run.ctl rfl ?_ | (refine Rg.op false tok rfl rfl rfl rfl ?_ ?_ ?_; (first | exact ⟨⟩ | omega | focus (simp <;> omega) | decide +kernel); (first | exact trivial | exact rfl | exact .inl rfl | exact .inr rfl)) | (refine Rg.op true tok rfl rfl rfl rfl ?_ ?_ ?_; (first | exact ⟨⟩ | omega | focus (simp <;> omega) | decide +kernel); (first | exact trivial | exact rfl | exact .inl rfl | exact .inr rfl)) | refine Rg.nil ?_ | refine Rg.skip rfl rfl rfl ?_ | refine Run.regR ?_ | refine Run.condT rfl ?_ | refine Run.condF rfl ?_ | ((first | refine Run.condB rfl (fun hc => ?_) (fun hc => ?_) | ((fail_if_success (refine Rg.lit true rfl ?_)); (fail_if_success (refine Rg.lit false rfl ?_)); refine Rg.guard rfl (fun hc => ?_) (fun hc => ?_))) <;> ((try simp only [cs] at hc); (first | ((exfalso; omega); done) | skip))))
          exact backR2 [0, 1] (a + 1, ⟨o, M, ag2⟩) _ _ ⟨hlt, hR, hb, hcn⟩ (by dsimp only; omega) rfl ⟨⟨_, rfl, rfl, rfl, rfl, rfl, fun k hk => .ofEq rfl rfl⟩, ⟨_, rfl, rfl, rfl, rfl, rfl, fun k hk => .ofEq rfl rfl⟩, trivial⟩ ⟨.ptrN rfl rfl, .cl rfl, .cl rfl, .slcN rfl rfl rfl, .cl rfl, .cl rfl, .cl rfl, trivial⟩
        rw [pushR_at N hjl] at hR
        obtain ⟨hk0, hk1⟩ := hks (ks.getD j default) (mem_getD hjl)
        obtain ⟨kk, hkk⟩ : ∃ kk : Nat, ks.getD j default = kk := ⟨(ks.getD j default).toNat, by omega⟩
        rw [show ks.getD j 0 = kk from hkk, Int.toNat_natCast] at hR
        rw [hkk] at hk0 hk1
        have hko : kk < o.length := by have := hb.len; omega
        have hkk2 : ks.getD (0 + j) default = kk := by rw [Nat.zero_add]; exact hkk
        have hoo : o.getD (0 + kk) default = o.getD kk 0 := by rw [Nat.zero_add]; rfl
        have hrn := hb.at (k := kk) (by omega)
        by_cases h1 : o.getD kk 0 = -1
        · rw [if_pos h1] at hR
          have hb2 := hb.push (k := kk) (m := N) ⟨by omega, by omega⟩ hN
          rw [Int.toNat_natCast] at hb2
          have hc2 := count_set (n := N) hko h1 (by omega)
          have ha1 : agN true = 1 := rfl
          have ha2 : 0 ≤ agN ag2 := Nat.zero_le _
          repeat' (first | refine Rg.any rfl rfl rfl (fun _ hq => G_ixOK tok kk rfl rfl rfl rfl rfl rfl hkk2 (by omega) hq) (by first | exact trivial | exact rfl | exact .inl rfl | exact .inr rfl | focus ((repeat (first | exact trivial | (refine ⟨Stay.op false tok rfl rfl rfl ?_ (fun t ht => by cases ht; rfl), ?_⟩; (first | exact ⟨⟩ | omega | focus (simp <;> omega) | decide +kernel)) | (refine ⟨Stay.op true tok rfl rfl rfl ?_ (fun t ht => by cases ht; rfl), ?_⟩; (first | exact ⟨⟩ | omega | focus (simp <;> omega) | decide +kernel)) | refine ⟨Stay.skip rfl rfl (fun t ht => by cases ht; rfl), ?_⟩)); done)) ?_ | refine Run.ctl rfl ?_ | (refine Rg.op false tok rfl rfl rfl rfl ?_ ?_ ?_; (first | exact ⟨⟩ | omega | focus (simp <;> omega) | decide +kernel); (first | exact trivial | exact rfl | exact .inl rfl | exact .inr rfl)) | (refine Rg.op true tok rfl rfl rfl rfl ?_ ?_ ?_; (first | exact ⟨⟩ | omega | focus (simp <;> omega) | decide +kernel); (first | exact trivial | exact rfl | exact .inl rfl | exact .inr rfl)) | refine Rg.nil ?_ | refine Rg.skip rfl rfl rfl ?_ | refine Run.regR ?_ | refine Run.condT rfl ?_ | refine Run.condF rfl ?_ | ((first | refine Run.condB rfl (fun hc => ?_) (fun hc => ?_) | ((fail_if_success (refine Rg.lit true rfl ?_)); (fail_if_success (refine Rg.lit false rfl ?_)); refine Rg.guard rfl (fun hc => ?_) (fun hc => ?_))) <;> ((try simp only [cs] at hc); (first | ((exfalso; omega); done) | skip))))
          exact backR3 [0, 1, 2] (j + 1, o.set kk N, true) _ _ ⟨hjl, hR, ⟨hb2.len, hb2.rng, fun a ha => (nomatch ha)⟩, by dsimp only; omega⟩ (by dsimp only; omega) rfl ⟨⟨_, rfl, rfl, rfl, rfl, rfl, fun k hk => .ofEq rfl rfl⟩, ⟨_, rfl, rfl, rfl, by simp, rfl, fun j hj => .ofEq (by dsimp only; rw [rows_set eInt o N hko j]; rfl) rfl⟩, ⟨_, rfl, rfl, rfl, rfl, rfl, fun k hk => .ofEq rfl rfl⟩, trivial⟩ ⟨.ptrN rfl rfl, .cl rfl, .cl rfl, .slcN rfl rfl (by simp), .cl rfl, .cl rfl, .cl rfl, .cl rfl, .slcN rfl rfl rfl, .cl rfl, trivial⟩
        rw [if_neg h1] at hR
        by_cases h2 : o.getD kk 0 = N
        · rw [if_pos h2] at hR
          repeat' (first | refine Rg.any rfl rfl rfl (fun _ hq => G_ixOK tok kk rfl rfl rfl rfl rfl rfl hkk2 (by omega) hq) (by first | exact trivial | exact rfl | exact .inl rfl | exact .inr rfl | focus ((repeat (first | exact trivial | (refine ⟨Stay.op false tok rfl rfl rfl ?_ (fun t ht => by cases ht; rfl), ?_⟩; (first | exact ⟨⟩ | omega | focus (simp <;> omega) | decide +kernel)) | (refine ⟨Stay.op true tok rfl rfl rfl ?_ (fun t ht => by cases ht; rfl), ?_⟩; (first | exact ⟨⟩ | omega | focus (simp <;> omega) | decide +kernel)) | refine ⟨Stay.skip rfl rfl (fun t ht => by cases ht; rfl), ?_⟩)); done)) ?_ | refine Run.ctl rfl ?_ | (refine Rg.op false tok rfl rfl rfl rfl ?_ ?_ ?_; (first | exact ⟨⟩ | omega | focus (simp <;> omega) | decide +kernel); (first | exact trivial | exact rfl | exact .inl rfl | exact .inr rfl)) | (refine Rg.op true tok rfl rfl rfl rfl ?_ ?_ ?_; (first | exact ⟨⟩ | omega | focus (simp <;> omega) | decide +kernel); (first | exact trivial | exact rfl | exact .inl rfl | exact .inr rfl)) | refine Rg.nil ?_ | refine Rg.skip rfl rfl rfl ?_ | refine Run.regR ?_ | refine Run.condT rfl ?_ | refine Run.condF rfl ?_ | ((first | refine Run.condB rfl (fun hc => ?_) (fun hc => ?_) | ((fail_if_success (refine Rg.lit true rfl ?_)); (fail_if_success (refine Rg.lit false rfl ?_)); refine Rg.guard rfl (fun hc => ?_) (fun hc => ?_))) <;> ((try simp only [cs] at hc); (first | ((exfalso; omega); done) | skip))))
          exact back3 (j + 1, o, ag2) _ _ ⟨hjl, hR, hb, hcn⟩ (by dsimp only; omega) ⟨rfl, rfl, rfl, rfl, rfl, rfl, rfl, rfl, rfl, rfl, trivial⟩ rfl
        · rw [if_neg h2] at hR
          unfold goR at hR
          subst hR
          dsimp only at hw
          subst hw
          repeat' (first | refine Rg.any rfl rfl rfl (fun _ hq => G_ixOK tok kk rfl rfl rfl rfl rfl rfl hkk2 (by omega) hq) (by first | exact trivial | exact rfl | exact .inl rfl | exact .inr rfl | focus ((repeat (first | exact trivial | (refine ⟨Stay.op false tok rfl rfl rfl ?_ (fun t ht => by cases ht; rfl), ?_⟩; (first | exact ⟨⟩ | omega | focus (simp <;> omega) | decide +kernel)) | (refine ⟨Stay.op true tok rfl rfl rfl ?_ (fun t ht => by cases ht; rfl), ?_⟩; (first | exact ⟨⟩ | omega | focus (simp <;> omega) | decide +kernel)) | refine ⟨Stay.skip rfl rfl (fun t ht => by cases ht; rfl), ?_⟩)); done)) ?_ | refine Run.ctl rfl ?_ | (refine Rg.op false tok rfl rfl rfl rfl ?_ ?_ ?_; (first | exact ⟨⟩ | omega | focus (simp <;> omega) | decide +kernel); (first | exact trivial | exact rfl | exact .inl rfl | exact .inr rfl)) | (refine Rg.op true tok rfl rfl rfl rfl ?_ ?_ ?_; (first | exact ⟨⟩ | omega | focus (simp <;> omega) | decide +kernel); (first | exact trivial | exact rfl | exact .inl rfl | exact .inr rfl)) | refine Rg.nil ?_ | refine Rg.skip rfl rfl rfl ?_ | refine Run.regR ?_ | refine Run.condT rfl ?_ | refine Run.condF rfl ?_ | ((first | refine Run.condB rfl (fun hc => ?_) (fun hc => ?_) | ((fail_if_success (refine Rg.lit true rfl ?_)); (fail_if_success (refine Rg.lit false rfl ?_)); refine Rg.guard rfl (fun hc => ?_) (fun hc => ?_))) <;> ((try simp only [cs] at hc); (first | ((exfalso; omega); done) | skip))))
          (first | refine Run.ret tok Try.func36 rfl ?_ | refine Run.fall tok Try.func36 rfl ?_)
          exact .tup' ⟨.rowNil, .refl _, .refl _, trivial⟩
      · have hnx : nextOf a ⟨op, ca⟩ = [(a : Int) + 1] := by unfold nextOf; dsimp only; rw [if_neg h20, if_neg h21, if_neg h25]
        rw [hnx] at hR hks
        clear hnx hi2
        have htk : 0 ≤ pp ∧ pp ≤ 6 := by omega
        rw [← hoa2] at hR
        by_cases hbad : l.getD (0 + a) default - pp < 0 ∨ 8 < l.getD (0 + a) default - pp + pu
        · rw [if_pos hbad] at hR
          subst hR
          dsimp only at hw
          subst hw
          repeat' (first | (rw [hi]) | (refine Run.drwP [] [0, 1, 2, 3, 4, 5, 6, 7, 8, 9, 10] [none, none, none, none, none, none, none, none, none, none, none] mixed (by kernel_rfl) rfl ?_) | refine Run.ctl rfl ?_ | (refine Rg.op false tok rfl rfl rfl rfl ?_ ?_ ?_; (first | exact ⟨⟩ | omega | focus (simp <;> omega) | decide +kernel); (first | exact trivial | exact rfl | exact .inl rfl | exact .inr rfl | focus ((repeat (first | exact trivial | (refine ⟨Stay.op false tok rfl rfl rfl ?_ (fun t ht => by cases ht; rfl), ?_⟩; (first | exact ⟨⟩ | omega | focus (simp <;> omega) | decide +kernel)) | (refine ⟨Stay.op true tok rfl rfl rfl ?_ (fun t ht => by cases ht; rfl), ?_⟩; (first | exact ⟨⟩ | omega | focus (simp <;> omega) | decide +kernel)) | refine ⟨Stay.skip rfl rfl (fun t ht => by cases ht; rfl), ?_⟩)); done))) | refine Rg.call (hPo) rfl rfl rfl rfl rfl ⟨⟨.refl _, trivial⟩, rfl⟩ ?_ | refine Rg.call (hPu) rfl rfl rfl rfl rfl ⟨⟨.refl _, trivial⟩, rfl⟩ ?_ | (refine Rg.op true tok rfl rfl rfl rfl ?_ ?_ ?_; (first | exact ⟨⟩ | omega | focus (simp <;> omega) | decide +kernel); (first | exact trivial | exact rfl | exact .inl rfl | exact .inr rfl | focus ((repeat (first | exact trivial | (refine ⟨Stay.op false tok rfl rfl rfl ?_ (fun t ht => by cases ht; rfl), ?_⟩; (first | exact ⟨⟩ | omega | focus (simp <;> omega) | decide +kernel)) | (refine ⟨Stay.op true tok rfl rfl rfl ?_ (fun t ht => by cases ht; rfl), ?_⟩; (first | exact ⟨⟩ | omega | focus (simp <;> omega) | decide +kernel)) | refine ⟨Stay.skip rfl rfl (fun t ht => by cases ht; rfl), ?_⟩)); done))) | refine Rg.nil ?_ | refine Rg.skip rfl rfl rfl ?_ | refine Run.regR ?_ | refine Run.drwR mixed (by kernel_rfl) rfl ?_ | refine Run.condT rfl ?_ | refine Run.condF rfl ?_ | ((first | refine Run.condB rfl (fun hc => ?_) (fun hc => ?_) | ((fail_if_success (refine Rg.lit true rfl ?_)); (fail_if_success (refine Rg.lit false rfl ?_)); refine Rg.guard rfl (fun hc => ?_) (fun hc => ?_))) <;> ((try simp only [cs] at hc); (first | ((exfalso; omega); done) | skip))))
          all_goals ((first | refine Run.ret tok Try.func36 rfl ?_ | refine Run.fall tok Try.func36 rfl ?_); exact .tup' ⟨.rowNil, .refl _, .refl _, trivial⟩)
        rw [if_neg hbad] at hR
        have hN : 0 ≤ l.getD (0 + a) default - pp + pu ∧ l.getD (0 + a) default - pp + pu ≤ 8 := by omega
        repeat' (first | (rw [hi]) | (refine Run.drwP [] [0, 1, 2, 3, 4, 5, 6, 7, 8, 9, 10] [none, none, none, none, none, none, none, none, none, none, none] mixed (by kernel_rfl) rfl ?_) | refine Run.ctl rfl ?_ | (refine Rg.op false tok rfl rfl rfl rfl ?_ ?_ ?_; (first | exact ⟨⟩ | omega | focus (simp <;> omega) | decide +kernel); (first | exact trivial | exact rfl | exact .inl rfl | exact .inr rfl | focus ((repeat (first | exact trivial | (refine ⟨Stay.op false tok rfl rfl rfl ?_ (fun t ht => by cases ht; rfl), ?_⟩; (first | exact ⟨⟩ | omega | focus (simp <;> omega) | decide +kernel)) | (refine ⟨Stay.op true tok rfl rfl rfl ?_ (fun t ht => by cases ht; rfl), ?_⟩; (first | exact ⟨⟩ | omega | focus (simp <;> omega) | decide +kernel)) | refine ⟨Stay.skip rfl rfl (fun t ht => by cases ht; rfl), ?_⟩)); done))) | refine Rg.call (hPo) rfl rfl rfl rfl rfl ⟨⟨.refl _, trivial⟩, rfl⟩ ?_ | refine Rg.call (hPu) rfl rfl rfl rfl rfl ⟨⟨.refl _, trivial⟩, rfl⟩ ?_ | (refine Rg.op true tok rfl rfl rfl rfl ?_ ?_ ?_; (first | exact ⟨⟩ | omega | focus (simp <;> omega) | decide +kernel); (first | exact trivial | exact rfl | exact .inl rfl | exact .inr rfl | focus ((repeat (first | exact trivial | (refine ⟨Stay.op false tok rfl rfl rfl ?_ (fun t ht => by cases ht; rfl), ?_⟩; (first | exact ⟨⟩ | omega | focus (simp <;> omega) | decide +kernel)) | (refine ⟨Stay.op true tok rfl rfl rfl ?_ (fun t ht => by cases ht; rfl), ?_⟩; (first | exact ⟨⟩ | omega | focus (simp <;> omega) | decide +kernel)) | refine ⟨Stay.skip rfl rfl (fun t ht => by cases ht; rfl), ?_⟩)); done))) | refine Rg.nil ?_ | refine Rg.skip rfl rfl rfl ?_ | refine Run.regR ?_ | refine Run.drwR mixed (by kernel_rfl) rfl ?_ | refine Run.condT rfl ?_ | refine Run.condF rfl ?_ | ((first | refine Run.condB rfl (fun hc => ?_) (fun hc => ?_) | ((fail_if_success (refine Rg.lit true rfl ?_)); (fail_if_success (refine Rg.lit false rfl ?_)); refine Rg.guard rfl (fun hc => ?_) (fun hc => ?_))) <;> ((try simp only [cs] at hc); (first | ((exfalso; omega); done) | skip))))
        skip
        refine Run.renumL [0, 1, 3] [pbox p, rowI l, rowI ([(a : Int) + 1] : List Int)] [(2, .ptr 0 0 0), (7, sl 2 eInstr h.code), (8, i64 h.code.length), (9, .slc 1 0 l.length), (11, i64 (lmax mo [l.getD (0 + a) default, l.getD (0 + a) default - pp + pu])), (12, bl ag), (13, i64 a), (16, i64 (l.getD (0 + a) default - pp + pu)), (17, .slc 2 0 ([(a : Int) + 1] : List Int).length), (18, i64 (0 : Nat))] rfl rfl rfl rfl
          ⟨⟨_, rfl, rfl, rfl, rfl, rfl, fun k hk => .ofEq rfl rfl⟩, ⟨_, rfl, rfl, rfl, rfl, rfl, fun k hk => .ofEq rfl rfl⟩, ⟨_, rfl, rfl, rfl, rfl, rfl, fun k hk => (by rcases k with _ | _ | k <;> first | exact .ofEq rfl rfl | exact absurd hk (by simp))⟩, trivial⟩
          ⟨.ptrN rfl rfl, .cl rfl, .cl rfl, .slcN rfl rfl rfl, .cl rfl, .cl rfl, .cl rfl, .cl rfl, .slcN rfl rfl rfl, .cl rfl, trivial⟩ ?_
        have hkl : ([(a : Int) + 1] : List Int).length ≤ 2 := by simp
        generalize lmax mo [l.getD (0 + a) default, l.getD (0 + a) default - pp + pu] = M at hR ⊢
        generalize l.getD (0 + a) default - pp + pu = N at hR hN ⊢
        generalize ([(a : Int) + 1] : List Int) = ks at hks hkl hR ⊢
        rw [hm2] at hR
        refine Run.loopN (ι := Nat × List Int × Bool) (fun x => ([(2, .ptr 0 0 0), (7, sl 2 eInstr h.code), (8, i64 h.code.length), (9, .slc 1 0 x.2.1.length), (11, i64 M), (12, bl x.2.2), (13, i64 a), (16, i64 N), (17, .slc 2 0 ks.length), (18, i64 x.1)], [pbox p, rowI x.2.1, rowI ks]))
          (fun x => x.1 ≤ ks.length ∧ goR p h.code (h.code.length - (a + 1)) (a + 1) M (pushR N (ks.drop x.1) x.2.1 x.2.2) = R ∧ Bd h.code.length x.2.1 [] ∧ x.2.1.count (-1) + agN x.2.2 ≤ f) (fun x => ks.length - x.1) (0, l, ag) ⟨rfl, rfl, rfl, rfl, rfl, rfl, rfl, rfl, rfl, rfl, trivial⟩ rfl
          ⟨by omega, hR, hb, hcn⟩ ?_
        clear hbad hR hb hcn hoa hall hoa2 h0
        rintro ⟨j, o, ag2⟩ ⟨hj, hR, hb, hcn⟩ back3 backR3
        dsimp only at hj hR hb hcn ⊢
        by_cases hjl : j < ks.length
        rotate_left
        · obtain rfl : j = ks.length := by omega
          rw [List.drop_length] at hR
          unfold pushR goR at hR
          dsimp only at hR
          repeat' (first | refine Run.ctl rfl ?_ | (refine Rg.op false tok rfl rfl rfl rfl ?_ ?_ ?_; (first | exact ⟨⟩ | omega | focus (simp <;> omega) | decide +kernel); (first | exact trivial | exact rfl | exact .inl rfl | exact .inr rfl)) | (refine Rg.op true tok rfl rfl rfl rfl ?_ ?_ ?_; (first | exact ⟨⟩ | omega | focus (simp <;> omega) | decide +kernel); (first | exact trivial | exact rfl | exact .inl rfl | exact .inr rfl)) | refine Rg.nil ?_ | refine Rg.skip rfl rfl rfl ?_ | refine Run.regR ?_ | refine Run.condT rfl ?_ | refine Run.condF rfl ?_ | ((first | refine Run.condB rfl (fun hc => ?_) (fun hc => ?_) | ((fail_if_success (refine Rg.lit true rfl ?_)); (fail_if_success (refine Rg.lit false rfl ?_)); refine Rg.guard rfl (fun hc => ?_) (fun hc => ?_))) <;> ((try simp only [cs] at hc); (first | ((exfalso; omega); done) | skip))))
          exact backR2 [0, 1] (a + 1, ⟨o, M, ag2⟩) _ _ ⟨hlt, hR, hb, hcn⟩ (by dsimp only; omega) rfl ⟨⟨_, rfl, rfl, rfl, rfl, rfl, fun k hk => .ofEq rfl rfl⟩, ⟨_, rfl, rfl, rfl, rfl, rfl, fun k hk => .ofEq rfl rfl⟩, trivial⟩ ⟨.ptrN rfl rfl, .cl rfl, .cl rfl, .slcN rfl rfl rfl, .cl rfl, .cl rfl, .cl rfl, trivial⟩
        rw [pushR_at N hjl] at hR
        obtain ⟨hk0, hk1⟩ := hks (ks.getD j default) (mem_getD hjl)
        obtain ⟨kk, hkk⟩ : ∃ kk : Nat, ks.getD j default = kk := ⟨(ks.getD j default).toNat, by omega⟩
        rw [show ks.getD j 0 = kk from hkk, Int.toNat_natCast] at hR
        rw [hkk] at hk0 hk1
        have hko : kk < o.length := by have := hb.len; omega
        have hkk2 : ks.getD (0 + j) default = kk := by rw [Nat.zero_add]; exact hkk
        have hoo : o.getD (0 + kk) default = o.getD kk 0 := by rw [Nat.zero_add]; rfl
        have hrn := hb.at (k := kk) (by omega)
        by_cases h1 : o.getD kk 0 = -1
        · rw [if_pos h1] at hR
          have hb2 := hb.push (k := kk) (m := N) ⟨by omega, by omega⟩ hN
          rw [Int.toNat_natCast] at hb2
          have hc2 := count_set (n := N) hko h1 (by omega)
          have ha1 : agN true = 1 := rfl
          have ha2 : 0 ≤ agN ag2 := Nat.zero_le _
          repeat' (first | refine Rg.any rfl rfl rfl (fun _ hq => G_ixOK tok kk rfl rfl rfl rfl rfl rfl hkk2 (by omega) hq) (by first | exact trivial | exact rfl | exact .inl rfl | exact .inr rfl | focus ((repeat (first | exact trivial | (refine ⟨Stay.op false tok rfl rfl rfl ?_ (fun t ht => by cases ht; rfl), ?_⟩; (first | exact ⟨⟩ | omega | focus (simp <;> omega) | decide +kernel)) | (refine ⟨Stay.op true tok rfl rfl rfl ?_ (fun t ht => by cases ht; rfl), ?_⟩; (first | exact ⟨⟩ | omega | focus (simp <;> omega) | decide +kernel)) | refine ⟨Stay.skip rfl rfl (fun t ht => by cases ht; rfl), ?_⟩)); done)) ?_ | refine Run.ctl rfl ?_ | (refine Rg.op false tok rfl rfl rfl rfl ?_ ?_ ?_; (first | exact ⟨⟩ | omega | focus (simp <;> omega) | decide +kernel); (first | exact trivial | exact rfl | exact .inl rfl | exact .inr rfl)) | (refine Rg.op true tok rfl rfl rfl rfl ?_ ?_ ?_; (first | exact ⟨⟩ | omega | focus (simp <;> omega) | decide +kernel); (first | exact trivial | exact rfl | exact .inl rfl | exact .inr rfl)) | refine Rg.nil ?_ | refine Rg.skip rfl rfl rfl ?_ | refine Run.regR ?_ | refine Run.condT rfl ?_ | refine Run.condF rfl ?_ | ((first | refine Run.condB rfl (fun hc => ?_) (fun hc => ?_) | ((fail_if_success (refine Rg.lit true rfl ?_)); (fail_if_success (refine Rg.lit false rfl ?_)); refine Rg.guard rfl (fun hc => ?_) (fun hc => ?_))) <;> ((try simp only [cs] at hc); (first | ((exfalso; omega); done) | skip))))
          exact backR3 [0, 1, 2] (j + 1, o.set kk N, true) _ _ ⟨hjl, hR, ⟨hb2.len, hb2.rng, fun a ha => (nomatch ha)⟩, by dsimp only; omega⟩ (by dsimp only; omega) rfl ⟨⟨_, rfl, rfl, rfl, rfl, rfl, fun k hk => .ofEq rfl rfl⟩, ⟨_, rfl, rfl, rfl, by simp, rfl, fun j hj => .ofEq (by dsimp only; rw [rows_set eInt o N hko j]; rfl) rfl⟩, ⟨_, rfl, rfl, rfl, rfl, rfl, fun k hk => .ofEq rfl rfl⟩, trivial⟩ ⟨.ptrN rfl rfl, .cl rfl, .cl rfl, .slcN rfl rfl (by simp), .cl rfl, .cl rfl, .cl rfl, .cl rfl, .slcN rfl rfl rfl, .cl rfl, trivial⟩
        rw [if_neg h1] at hR
        by_cases h2 : o.getD kk 0 = N
        · rw [if_pos h2] at hR
          repeat' (first | refine Rg.any rfl rfl rfl (fun _ hq => G_ixOK tok kk rfl rfl rfl rfl rfl rfl hkk2 (by omega) hq) (by first | exact trivial | exact rfl | exact .inl rfl | exact .inr rfl | focus ((repeat (first | exact trivial | (refine ⟨Stay.op false tok rfl rfl rfl ?_ (fun t ht => by cases ht; rfl), ?_⟩; (first | exact ⟨⟩ | omega | focus (simp <;> omega) | decide +kernel)) | (refine ⟨Stay.op true tok rfl rfl rfl ?_ (fun t ht => by cases ht; rfl), ?_⟩; (first | exact ⟨⟩ | omega | focus (simp <;> omega) | decide +kernel)) | refine ⟨Stay.skip rfl rfl (fun t ht => by cases ht; rfl), ?_⟩)); done)) ?_ | refine Run.ctl rfl ?_ | (refine Rg.op false tok rfl rfl rfl rfl ?_ ?_ ?_; (first | exact ⟨⟩ | omega | focus (simp <;> omega) | decide +kernel); (first | exact trivial | exact rfl | exact .inl rfl | exact .inr rfl)) | (refine Rg.op true tok rfl rfl rfl rfl ?_ ?_ ?_; (first | exact ⟨⟩ | omega | focus (simp <;> omega) | decide +kernel); (first | exact trivial | exact rfl | exact .inl rfl | exact .inr rfl)) | refine Rg.nil ?_ | refine Rg.skip rfl rfl rfl ?_ | refine Run.regR ?_ | refine Run.condT rfl ?_ | refine Run.condF rfl ?_ | ((first | refine Run.condB rfl (fun hc => ?_) (fun hc => ?_) | ((fail_if_success (refine Rg.lit true rfl ?_)); (fail_if_success (refine Rg.lit false rfl ?_)); refine Rg.guard rfl (fun hc => ?_) (fun hc => ?_))) <;> ((try simp only [cs] at hc); (first | ((exfalso; omega); done) | skip))))
          exact back3 (j + 1, o, ag2) _ _ ⟨hjl, hR, hb, hcn⟩ (by dsimp only; omega) ⟨rfl, rfl, rfl, rfl, rfl, rfl, rfl, rfl, rfl, rfl, trivial⟩ rfl
        · rw [if_neg h2] at hR
          unfold goR at hR
          subst hR
          dsimp only at hw
          subst hw
          repeat' (first | refine Rg.any rfl rfl rfl (fun _ hq => G_ixOK tok kk rfl rfl rfl rfl rfl rfl hkk2 (by omega) hq) (by first | exact trivial | exact rfl | exact .inl rfl | exact .inr rfl | focus ((repeat (first | exact trivial | (refine ⟨Stay.op false tok rfl rfl rfl ?_ (fun t ht => by cases ht; rfl), ?_⟩; (first | exact ⟨⟩ | omega | focus (simp <;> omega) | decide +kernel)) | (refine ⟨Stay.op true tok rfl rfl rfl ?_ (fun t ht => by cases ht; rfl), ?_⟩; (first | exact ⟨⟩ | omega | focus (simp <;> omega) | decide +kernel)) | refine ⟨Stay.skip rfl rfl (fun t ht => by cases ht; rfl), ?_⟩)); done)) ?_ | refine Run.ctl rfl ?_ | (refine Rg.op false tok rfl rfl rfl rfl ?_ ?_ ?_; (first | exact ⟨⟩ | omega | focus (simp <;> omega) | decide +kernel); (first | exact trivial | exact rfl | exact .inl rfl | exact .inr rfl)) | (refine Rg.op true tok rfl rfl rfl rfl ?_ ?_ ?_; (first | exact ⟨⟩ | omega | focus (simp <;> omega) | decide +kernel); (first | exact trivial | exact rfl | exact .inl rfl | exact .inr rfl)) | refine Rg.nil ?_ | refine Rg.skip rfl rfl rfl ?_ | refine Run.regR ?_ | refine Run.condT rfl ?_ | refine Run.condF rfl ?_ | ((first | refine Run.condB rfl (fun hc => ?_) (fun hc => ?_) | ((fail_if_success (refine Rg.lit true rfl ?_)); (fail_if_success (refine Rg.lit false rfl ?_)); refine Rg.guard rfl (fun hc => ?_) (fun hc => ?_))) <;> ((try simp only [cs] at hc); (first | ((exfalso; omega); done) | skip))))
          (first | refine Run.ret tok Try.func36 rfl ?_ | refine Run.fall tok Try.func36 rfl ?_)
          exact .tup' ⟨.rowNil, .refl _, .refl _, trivial⟩
theorem refFlow_ (p : Pg) : Pure Try.prog 23 [pPg p] (i64 (flowWhy p)) := by
  have hc0 := refProg_ p
  unfold flowWhy
  by_cases h0 : progWhy p = 0
  · have hp := progWhy_zero.1 h0
    have hhs := hp.hs
    rw [if_neg (by simpa using h0)]
    rw [h0] at hc0
    refine Pure.of_spec (Spec.of_run (fn := Try.f23) Try.func23 rfl rfl (by kernel_rfl) ?_) (by first | assumption | rfl | (split <;> rfl) | (split <;> split <;> rfl))
    repeat' (first | refine Run.ctl rfl ?_ | (refine Rg.op false tok rfl rfl rfl rfl ?_ ?_ ?_; (first | exact ⟨⟩ | omega | focus (simp <;> omega) | decide +kernel); (first | exact trivial | exact rfl | exact .inl rfl | exact .inr rfl)) | refine Rg.call (hc0) rfl rfl rfl rfl rfl ⟨⟨.refl _, trivial⟩, rfl⟩ ?_ | (refine Rg.op true tok rfl rfl rfl rfl ?_ ?_ ?_; (first | exact ⟨⟩ | omega | focus (simp <;> omega) | decide +kernel); (first | exact trivial | exact rfl | exact .inl rfl | exact .inr rfl)) | refine Rg.nil ?_ | refine Rg.skip rfl rfl rfl ?_ | refine Run.regR ?_ | refine Run.condT rfl ?_ | refine Run.condF rfl ?_ | ((first | refine Run.condB rfl (fun hc => ?_) (fun hc => ?_) | ((fail_if_success (refine Rg.lit true rfl ?_)); (fail_if_success (refine Rg.lit false rfl ?_)); refine Rg.guard rfl (fun hc => ?_) (fun hc => ?_))) <;> ((try simp only [cs] at hc); (first | ((exfalso; omega); done) | skip))))
    refine Run.loopN (ι := Nat × Int) (fun x => ([(1, .ptr 0 0 0), (3, i64 x.2), (4, i64 x.1)], [pbox p])) (fun x => x.1 ≤ p.handlers.length ∧ (if x.2 = 0 then (p.handlers.drop x.1).all (walkOk p) = p.handlers.all (walkOk p) else x.2 = 5 ∧ p.handlers.all (walkOk p) = false)) (fun x => p.handlers.length - x.1) (0, 0) ⟨rfl, rfl, rfl, trivial⟩ rfl ⟨by omega, by rw [if_pos rfl]; rfl⟩ ?_
    rintro ⟨i, e⟩ ⟨hi, hf⟩ back backR
    dsimp only at hi hf ⊢
    by_cases he : e = 0
    · subst he
      rw [if_pos rfl] at hf
      by_cases hlt : i < p.handlers.length
      · rw [all_at hlt] at hf
        have hw := refDepths_ hp i hlt
        have hh : HdFit p (p.handlers.getD i default) := hdFit hp (mem_getD hlt)
        have hs := refDepths_iff (p := p) (h := p.handlers.getD i default) (fun i hi ho => (instrWhy_zero (hh.i i hi)).2.1 ho)
        rcases hd : refDepths p (p.handlers.getD i default) with _ | ⟨o, m, g⟩
        · rw [hd] at hw hs
          rw [← hs, Option.isSome_none, Bool.false_and] at hf
          unfold depthsR at hw
          dsimp only at hw
          repeat' (first | refine Run.ctl rfl ?_ | (refine Rg.op false tok rfl rfl rfl rfl ?_ ?_ ?_; (first | exact ⟨⟩ | omega | focus (simp <;> omega) | decide +kernel); (first | exact trivial | exact rfl | exact .inl rfl | exact .inr rfl)) | refine Rg.call (hw) rfl rfl rfl rfl rfl ⟨⟨.refl _, .refl _, trivial⟩, rfl⟩ ?_ | (refine Rg.op true tok rfl rfl rfl rfl ?_ ?_ ?_; (first | exact ⟨⟩ | omega | focus (simp <;> omega) | decide +kernel); (first | exact trivial | exact rfl | exact .inl rfl | exact .inr rfl)) | refine Rg.nil ?_ | refine Rg.skip rfl rfl rfl ?_ | refine Run.regR ?_ | refine Run.condT rfl ?_ | refine Run.condF rfl ?_ | ((first | refine Run.condB rfl (fun hc => ?_) (fun hc => ?_) | ((fail_if_success (refine Rg.lit true rfl ?_)); (fail_if_success (refine Rg.lit false rfl ?_)); refine Rg.guard rfl (fun hc => ?_) (fun hc => ?_))) <;> ((try simp only [cs] at hc); (first | ((exfalso; omega); done) | skip))))
          exact backR [0] (i + 1, 5) _ _ ⟨hlt, by dsimp only; rw [if_neg (by decide)]; exact ⟨rfl, hf.symm⟩⟩ (by dsimp only; omega) rfl ⟨⟨_, rfl, rfl, rfl, rfl, rfl, fun k hk => .ofEq rfl rfl⟩, trivial⟩ ⟨.ptrN rfl rfl, .cl rfl, .cl rfl, trivial⟩
        · rw [hd] at hw hs
          rw [← hs, Option.isSome_some, Bool.true_and] at hf
          unfold depthsR at hw
          dsimp only at hw
          repeat' (first | refine Run.ctl rfl ?_ | (refine Rg.op false tok rfl rfl rfl rfl ?_ ?_ ?_; (first | exact ⟨⟩ | omega | focus (simp <;> omega) | decide +kernel); (first | exact trivial | exact rfl | exact .inl rfl | exact .inr rfl)) | refine Rg.call (hw) rfl rfl rfl rfl rfl ⟨⟨.refl _, .refl _, trivial⟩, rfl⟩ ?_ | (refine Rg.op true tok rfl rfl rfl rfl ?_ ?_ ?_; (first | exact ⟨⟩ | omega | focus (simp <;> omega) | decide +kernel); (first | exact trivial | exact rfl | exact .inl rfl | exact .inr rfl)) | refine Rg.nil ?_ | refine Rg.skip rfl rfl rfl ?_ | refine Run.regR ?_ | refine Run.condT rfl ?_ | refine Run.condF rfl ?_ | ((first | refine Run.condB rfl (fun hc => ?_) (fun hc => ?_) | ((fail_if_success (refine Rg.lit true rfl ?_)); (fail_if_success (refine Rg.lit false rfl ?_)); refine Rg.guard rfl (fun hc => ?_) (fun hc => ?_))) <;> ((try simp only [cs] at hc); (first | ((exfalso; omega); done) | skip))))
          exact backR [0] (i + 1, 0) _ _ ⟨hlt, by rw [if_pos rfl]; exact hf⟩ (by dsimp only; omega) rfl ⟨⟨_, rfl, rfl, rfl, rfl, rfl, fun k hk => .ofEq rfl rfl⟩, trivial⟩ ⟨.ptrN rfl rfl, .cl rfl, .cl rfl, trivial⟩
      · obtain rfl : i = p.handlers.length := by omega
        rw [List.drop_length, List.all_nil] at hf
        rw [← hf]
        repeat' (first | refine Run.ctl rfl ?_ | (refine Rg.op false tok rfl rfl rfl rfl ?_ ?_ ?_; (first | exact ⟨⟩ | omega | focus (simp <;> omega) | decide +kernel); (first | exact trivial | exact rfl | exact .inl rfl | exact .inr rfl)) | (refine Rg.op true tok rfl rfl rfl rfl ?_ ?_ ?_; (first | exact ⟨⟩ | omega | focus (simp <;> omega) | decide +kernel); (first | exact trivial | exact rfl | exact .inl rfl | exact .inr rfl)) | refine Rg.nil ?_ | refine Rg.skip rfl rfl rfl ?_ | refine Run.regR ?_ | refine Run.condT rfl ?_ | refine Run.condF rfl ?_ | ((first | refine Run.condB rfl (fun hc => ?_) (fun hc => ?_) | ((fail_if_success (refine Rg.lit true rfl ?_)); (fail_if_success (refine Rg.lit false rfl ?_)); refine Rg.guard rfl (fun hc => ?_) (fun hc => ?_))) <;> ((try simp only [cs] at hc); (first | ((exfalso; omega); done) | skip))))
        (first | refine Run.ret tok Try.func23 rfl ?_ | refine Run.fall tok Try.func23 rfl ?_)
        exact .refl _
    · rw [if_neg he] at hf
      obtain ⟨rfl, hf⟩ := hf
      rw [hf]
      repeat' (first | refine Run.ctl rfl ?_ | (refine Rg.op false tok rfl rfl rfl rfl ?_ ?_ ?_; (first | exact ⟨⟩ | omega | focus (simp <;> omega) | decide +kernel); (first | exact trivial | exact rfl | exact .inl rfl | exact .inr rfl)) | (refine Rg.op true tok rfl rfl rfl rfl ?_ ?_ ?_; (first | exact ⟨⟩ | omega | focus (simp <;> omega) | decide +kernel); (first | exact trivial | exact rfl | exact .inl rfl | exact .inr rfl)) | refine Rg.nil ?_ | refine Rg.skip rfl rfl rfl ?_ | refine Run.regR ?_ | refine Run.condT rfl ?_ | refine Run.condF rfl ?_ | ((first | refine Run.condB rfl (fun hc => ?_) (fun hc => ?_) | ((fail_if_success (refine Rg.lit true rfl ?_)); (fail_if_success (refine Rg.lit false rfl ?_)); refine Rg.guard rfl (fun hc => ?_) (fun hc => ?_))) <;> ((try simp only [cs] at hc); (first | ((exfalso; omega); done) | skip))))
      all_goals ((first | refine Run.ret tok Try.func23 rfl ?_ | refine Run.fall tok Try.func23 rfl ?_); exact .refl _)
  · rw [if_pos (by simpa using h0)]
    generalize progWhy p = z at hc0 h0
    refine Pure.of_spec (Spec.of_run (fn := Try.f23) Try.func23 rfl rfl (by kernel_rfl) ?_) (by first | assumption | rfl | (split <;> rfl) | (split <;> split <;> rfl))
    repeat' (first | refine Run.ctl rfl ?_ | (refine Rg.op false tok rfl rfl rfl rfl ?_ ?_ ?_; (first | exact ⟨⟩ | omega | focus (simp <;> omega) | decide +kernel); (first | exact trivial | exact rfl | exact .inl rfl | exact .inr rfl)) | refine Rg.call (hc0) rfl rfl rfl rfl rfl ⟨⟨.refl _, trivial⟩, rfl⟩ ?_ | (refine Rg.op true tok rfl rfl rfl rfl ?_ ?_ ?_; (first | exact ⟨⟩ | omega | focus (simp <;> omega) | decide +kernel); (first | exact trivial | exact rfl | exact .inl rfl | exact .inr rfl)) | refine Rg.nil ?_ | refine Rg.skip rfl rfl rfl ?_ | refine Run.regR ?_ | refine Run.condT rfl ?_ | refine Run.condF rfl ?_ | ((first | refine Run.condB rfl (fun hc => ?_) (fun hc => ?_) | ((fail_if_success (refine Rg.lit true rfl ?_)); (fail_if_success (refine Rg.lit false rfl ?_)); refine Rg.guard rfl (fun hc => ?_) (fun hc => ?_))) <;> ((try simp only [cs] at hc); (first | ((exfalso; omega); done) | skip))))
    refine Run.loopN (ι := Nat) (fun i => ([(1, .ptr 0 0 0), (3, i64 z), (4, i64 i)], [pbox p])) (fun i => i = 0) (fun i => 0) 0 ⟨rfl, rfl, rfl, trivial⟩ rfl rfl ?_
    rintro i rfl back backR
    dsimp only
    repeat' (first | refine Run.ctl rfl ?_ | (refine Rg.op false tok rfl rfl rfl rfl ?_ ?_ ?_; (first | exact ⟨⟩ | omega | focus (simp <;> omega) | decide +kernel); (first | exact trivial | exact rfl | exact .inl rfl | exact .inr rfl)) | (refine Rg.op true tok rfl rfl rfl rfl ?_ ?_ ?_; (first | exact ⟨⟩ | omega | focus (simp <;> omega) | decide +kernel); (first | exact trivial | exact rfl | exact .inl rfl | exact .inr rfl)) | refine Rg.nil ?_ | refine Rg.skip rfl rfl rfl ?_ | refine Run.regR ?_ | refine Run.condT rfl ?_ | refine Run.condF rfl ?_ | ((first | refine Run.condB rfl (fun hc => ?_) (fun hc => ?_) | ((fail_if_success (refine Rg.lit true rfl ?_)); (fail_if_success (refine Rg.lit false rfl ?_)); refine Rg.guard rfl (fun hc => ?_) (fun hc => ?_))) <;> ((try simp only [cs] at hc); (first | ((exfalso; omega); done) | skip))))
    all_goals ((first | refine Run.ret tok Try.func23 rfl ?_ | refine Run.fall tok Try.func23 rfl ?_); exact .refl _)
end Go.Proofs.Ytlimecfjpfaljaa.W
end
