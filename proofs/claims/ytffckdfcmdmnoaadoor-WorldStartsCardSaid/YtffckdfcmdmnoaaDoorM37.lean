/- Texts merged: F7. -/
import Derived.Test.YtffckdfcmdmnoaaDoorM34
import Derived.Test.YtffckdfcmdmnoaaDoorM35
import Derived.Test.YtffckdfcmdmnoaaDoorM36
section
/- Walks: the law of a program's start (chapter 9). -/
set_option linter.unusedVariables false
set_option linter.unusedSimpArgs false
set_option linter.unusedSectionVars false
set_option pp.maxSteps 40000
set_option maxHeartbeats 4000000
namespace Go.Proofs.YtffckdfcmdmnoaaDoor.W
open Go Go.Sy

theorem numsText_four (a b c d : Int) : numsText [a, b, c, d] = Lib.itoa a ++ 32 :: (Lib.itoa b ++ 32 :: (Lib.itoa c ++ 32 :: Lib.itoa d)) := by
  simp [numsText, Lib.join]
/-- The first actor has one more that found no room. -/
def overOne (w : Wd) : Wd := { w with actors := w.actors.set 0 (addOver (w.actors.getD 0 default)) }
theorem overOne_text {w : Wd} (h0 : 0 < w.actors.length) (hr : R64 (w.actors.getD 0 default).over) (hr1 : R64 ((w.actors.getD 0 default).over + 1)) : wdText (overOne w) ≠ wdText w := by
  obtain ⟨al, ml, us⟩ := w
  cases al with
  | nil => exact absurd h0 (Nat.lt_irrefl _)
  | cons a al =>
    dsimp only [List.getD_cons_zero] at hr hr1
    intro h
    unfold wdText overOne at h
    dsimp only [List.set_cons_zero, List.getD_cons_zero] at h
    unfold lclsText at h
    simp only [List.map_cons, List.flatten_cons, List.append_assoc] at h
    rw [show (a :: al).getD 0 default = a from rfl] at h
    unfold lclLine addOver at h
    simp only [numsText_four, List.append_assoc, List.append_cancel_left_eq, List.cons_append, List.cons.injEq, true_and, List.append_cancel_right_eq] at h
    have := Lib.itoa_inj (a := a.over + 1) (b := a.over) hr1 hr h
    omega
theorem overOne_ne {w : Wd} (h0 : 0 < w.actors.length) : overOne w ≠ w := by
  obtain ⟨al, ml, us⟩ := w
  cases al with
  | nil => exact absurd h0 (Nat.lt_irrefl _)
  | cons a al =>
    intro h
    unfold overOne at h
    simp only [List.set_cons_zero, List.getD_cons_zero, Wd.mk.injEq, List.cons.injEq, and_true] at h
    have := congrArg Lcl.over h
    unfold addOver at this
    dsimp only at this
    omega
theorem row_put {α : Type} [Inhabited α] (enc : α → List PV) (l : List α) {k : Nat} (a : α) (hk : k < l.length) {X : List PV} {f : Nat → List PV} (hX : X = enc a) (hf : ∀ j, f j = rows enc l j) (j : Nat) : (bif Nat.beq j (0 + k) then X else f j) = rows enc (l.set k a) j := by
  rw [rows_set enc l a hk j, hX, hf]
theorem worldStarts_ (p : Pg) (hok : p.ok) : Pure Tryd.prog 3 [pPg p] (bl true) := by
  have hsm := smallB_ p
  by_cases hs : smallB p = true
  case neg =>
    rw [Bool.not_eq_true] at hs
    rw [hs] at hsm
    refine Pure.of_spec (Spec.of_run (fn := Tryd.f3) Tryd.func3 rfl rfl (by kernel_rfl) ?_) (by first | assumption | rfl | (split <;> rfl) | (split <;> split <;> rfl))
    repeat' (first | refine Run.ctl rfl ?_ | (refine Rg.op false tok rfl rfl rfl rfl ?_ ?_ ?_; (first | exact ⟨⟩ | omega | focus (simp <;> omega) | decide +kernel); (first | exact trivial | exact rfl | exact .inl rfl | exact .inr rfl)) | refine Rg.call (hsm) rfl rfl rfl rfl rfl ⟨⟨.refl _, trivial⟩, rfl⟩ ?_ | refine Rg.call (awake9_) rfl rfl rfl rfl rfl ⟨trivial, rfl⟩ ?_ | (refine Rg.op true tok rfl rfl rfl rfl ?_ ?_ ?_; (first | exact ⟨⟩ | omega | focus (simp <;> omega) | decide +kernel); (first | exact trivial | exact rfl | exact .inl rfl | exact .inr rfl)) | refine Rg.nil ?_ | refine Rg.skip rfl rfl rfl ?_ | refine Run.regR ?_ | refine Run.condT rfl ?_ | refine Run.condF rfl ?_ | ((first | refine Run.condB rfl (fun hc => ?_) (fun hc => ?_) | ((fail_if_success (refine Rg.lit true rfl ?_)); (fail_if_success (refine Rg.lit false rfl ?_)); refine Rg.guard rfl (fun hc => ?_) (fun hc => ?_))) <;> ((try simp only [cs] at hc); (first | ((exact absurd hc (by decide)); done) | ((exact absurd rfl hc); done) | skip))))
    all_goals ((first | refine Run.ret tok Tryd.func3 rfl ?_ | refine Run.fall tok Tryd.func3 rfl ?_); exact .refl _)
  rw [hs] at hsm
  by_cases hf : flowWhy p = 0
  case neg =>
    have hst := startBad_ p hf
    refine Pure.of_spec (Spec.of_run (fn := Tryd.f3) Tryd.func3 rfl rfl (by kernel_rfl) ?_) (by first | assumption | rfl | (split <;> rfl) | (split <;> split <;> rfl))
    repeat' (first | refine Run.ctl rfl ?_ | (refine Rg.op false tok rfl rfl rfl rfl ?_ ?_ ?_; (first | exact ⟨⟩ | omega | focus (simp <;> omega) | decide +kernel); (first | exact trivial | exact rfl | exact .inl rfl | exact .inr rfl)) | refine Rg.call (hsm) rfl rfl rfl rfl rfl ⟨⟨.refl _, trivial⟩, rfl⟩ ?_ | refine Rg.call (hst) rfl rfl rfl rfl rfl ⟨⟨.refl _, trivial⟩, rfl⟩ ?_ | refine Rg.call (awake9_) rfl rfl rfl rfl rfl ⟨trivial, rfl⟩ ?_ | (refine Rg.op true tok rfl rfl rfl rfl ?_ ?_ ?_; (first | exact ⟨⟩ | omega | focus (simp <;> omega) | decide +kernel); (first | exact trivial | exact rfl | exact .inl rfl | exact .inr rfl)) | refine Rg.nil ?_ | refine Rg.skip rfl rfl rfl ?_ | refine Run.regR ?_ | refine Run.condT rfl ?_ | refine Run.condF rfl ?_ | ((first | refine Run.condB rfl (fun hc => ?_) (fun hc => ?_) | ((fail_if_success (refine Rg.lit true rfl ?_)); (fail_if_success (refine Rg.lit false rfl ?_)); refine Rg.guard rfl (fun hc => ?_) (fun hc => ?_))) <;> ((try simp only [cs] at hc); (first | ((exact absurd hc (by decide)); done) | ((exact absurd hc hf); done) | skip))))
    all_goals ((first | refine Run.ret tok Tryd.func3 rfl ?_ | refine Run.fall tok Tryd.func3 rfl ?_); exact .refl _)
  have hst := start_ p hf
  have hp := flow_fit hf
  have hnb := hp.nb
  have hinv := start_inv hp
  have hwo := hinv.ok hf hnb
  have hwk := hinv.okW hok hnb
  obtain ⟨hl0, hl8, hl16, hlr, hla⟩ := hinv.lens hf hnb
  generalize startOf p = w at hst hinv hwo hwk hl0 hl8 hl16 hlr hla
  have hsum := hinv.sum
  have hus := hinv.us
  have hlen := hinv.la
  have hck := worldCheck_ p w (by omega) (by omega)
  rw [hwo] at hck
  have hov : ∀ l ∈ w.actors, 0 ≤ l.over ∧ l.over ≤ p.boot.length := fun l hl => by
    obtain ⟨a, ha, o, h1, h2, rfl⟩ := hinv.at_ hl
    exact ⟨h1, h2⟩
  have hnn := ovs_nonneg w.actors (fun l hl => (hov l hl).1)
  have h0o := hov _ (mem_getD hl0)
  have hshort : WdShort w := ⟨by omega, fun m hm => by have := hla m hm; omega, by omega, fun l hl => by have := hlr l hl; omega⟩
  have hcp := worldCopyO_ w hshort
  have hcq := worldCopy_ w hshort
  have htx : WdTx w := ⟨by omega, by omega, by omega, fun l hl => by have := hlr l hl; omega, fun m hm => by have := hla m hm; omega, hwk⟩
  have hset : ∀ l ∈ (overOne w).actors, l = addOver (w.actors.getD 0 default) ∨ l ∈ w.actors := fun l hl => by
    rcases List.mem_or_eq_of_mem_set hl with hl | hl
    · exact .inr hl
    · exact .inl hl
  have hr0 : (addOver (w.actors.getD 0 default)).regs.length ≤ 8 := show (w.actors.getD 0 default).regs.length ≤ 8 from hlr _ (mem_getD hl0)
  have hlv : (overOne w).actors.length = w.actors.length := by simp [overOne]
  have hshv : WdShort (overOne w) := ⟨hshort.1, hshort.2.1, by rw [hlv]; omega, fun l hl => by
    rcases hset l hl with rfl | hl
    · omega
    · exact hshort.2.2.2 l hl⟩
  have htv : WdTx (overOne w) := ⟨by rw [hlv]; omega, by rw [hlv]; omega, htx.m1, fun l hl => by
    rcases hset l hl with rfl | hl
    · omega
    · exact htx.r1 l hl, htx.n1, fun l hl => by
    rcases hset l hl with rfl | hl
    · have hx := hwk.1 _ (mem_getD hl0)
      exact ⟨hx.1, hx.2.1, hx.2.2.1, by unfold R64 addOver; dsimp only; omega⟩
    · exact hwk.1 l hl, hwk.2.1, hwk.2.2⟩
  have hsame := worldSame_ (overOne w) w hshv hshort
  rw [decide_eq_false (overOne_ne hl0)] at hsame
  have ht1 := worldText_ w htx
  have ht2 := worldText_ (overOne w) htv
  have hne : ¬ (bs (wdText (overOne w))).toList = (bs (wdText w)).toList := fun h => overOne_text hl0 (by unfold R64; omega) (by unfold R64; omega) (by rw [bs_toL, bs_toL] at h; exact h)
  refine Pure.of_spec (Spec.of_run (fn := Tryd.f3) Tryd.func3 rfl rfl (by kernel_rfl) ?_) (by first | assumption | rfl | (split <;> rfl) | (split <;> split <;> rfl))
  repeat' (first | refine Run.ctl rfl ?_ | (refine Rg.op false tok rfl rfl rfl rfl ?_ ?_ ?_; (first | exact ⟨⟩ | omega | focus (simp <;> omega) | decide +kernel); (first | exact trivial | exact rfl | exact .inl rfl | exact .inr rfl)) | refine Rg.call (hsm) rfl rfl rfl rfl rfl ⟨⟨.refl _, trivial⟩, rfl⟩ ?_ | refine Rg.call (hst) rfl rfl rfl rfl rfl ⟨⟨.refl _, trivial⟩, rfl⟩ ?_ | refine Rg.call (hck) rfl rfl rfl rfl rfl ⟨⟨.refl _, .refl _, trivial⟩, rfl⟩ ?_ | refine Rg.call (awake9_) rfl rfl rfl rfl rfl ⟨trivial, rfl⟩ ?_ | (refine Rg.op true tok rfl rfl rfl rfl ?_ ?_ ?_; (first | exact ⟨⟩ | omega | focus (simp <;> omega) | decide +kernel); (first | exact trivial | exact rfl | exact .inl rfl | exact .inr rfl)) | refine Rg.nil ?_ | refine Rg.skip rfl rfl rfl ?_ | refine Run.regR ?_ | refine Run.condT rfl ?_ | refine Run.condF rfl ?_ | ((first | refine Run.condB rfl (fun hc => ?_) (fun hc => ?_) | ((fail_if_success (refine Rg.lit true rfl ?_)); (fail_if_success (refine Rg.lit false rfl ?_)); refine Rg.guard rfl (fun hc => ?_) (fun hc => ?_))) <;> ((try simp only [cs] at hc); (first | ((exact absurd hc (by decide)); done) | ((exact absurd rfl hc); done) | ((simp [hus, bg0] at hc); done) | ((exfalso; omega); done) | skip))))
  refine Run.loopN (ι := Nat) (fun i => ([(1, .ptr 0 0 0), (3, .ptr 1 0 0), (5, i64 (ovs (w.actors.take i))), (6, i64 i)], [pbox p, wdbox w])) (fun i => i ≤ w.actors.length) (fun i => w.actors.length - i) 0 ⟨rfl, rfl, rfl, rfl, trivial⟩ rfl (by omega) ?_
  rintro i hi back backR
  dsimp only
  by_cases hlt : i < w.actors.length
  · have h1 := hnn i
    have h2 := hnn (i + 1)
    have h3 := ovs_take w.actors i hlt
    repeat' (first | refine Run.ctl rfl ?_ | (refine Rg.op false tok rfl rfl rfl rfl ?_ ?_ ?_; (first | exact ⟨⟩ | omega | focus (simp <;> omega) | decide +kernel); (first | exact trivial | exact rfl | exact .inl rfl | exact .inr rfl)) | (refine Rg.op true tok rfl rfl rfl rfl ?_ ?_ ?_; (first | exact ⟨⟩ | omega | focus (simp <;> omega) | decide +kernel); (first | exact trivial | exact rfl | exact .inl rfl | exact .inr rfl)) | refine Rg.nil ?_ | refine Rg.skip rfl rfl rfl ?_ | refine Run.regR ?_ | refine Run.condT rfl ?_ | refine Run.condF rfl ?_ | ((first | refine Run.condB rfl (fun hc => ?_) (fun hc => ?_) | ((fail_if_success (refine Rg.lit true rfl ?_)); (fail_if_success (refine Rg.lit false rfl ?_)); refine Rg.guard rfl (fun hc => ?_) (fun hc => ?_))) <;> ((try simp only [cs] at hc); (first | ((exfalso; omega); done) | skip))))
    refine back (i + 1) _ _ (by omega) (by omega) ⟨rfl, rfl, ?_, rfl, trivial⟩ rfl
    exact congrArg i64 h3.symm
  · obtain rfl : i = w.actors.length := by omega
    rw [List.take_length]
    have h1 := (hnn w.actors.length).1
    rw [List.take_length] at h1
    repeat' (first | refine Run.ctl rfl ?_ | (refine Rg.op false tok rfl rfl rfl rfl ?_ ?_ ?_; (first | exact ⟨⟩ | omega | focus (simp <;> omega) | decide +kernel); (first | exact trivial | exact rfl | exact .inl rfl | exact .inr rfl)) | (refine Rg.op true tok rfl rfl rfl rfl ?_ ?_ ?_; (first | exact ⟨⟩ | omega | focus (simp <;> omega) | decide +kernel); (first | exact trivial | exact rfl | exact .inl rfl | exact .inr rfl)) | refine Rg.nil ?_ | refine Rg.skip rfl rfl rfl ?_ | refine Run.regR ?_ | refine Run.condT rfl ?_ | refine Run.condF rfl ?_ | ((first | refine Run.condB rfl (fun hc => ?_) (fun hc => ?_) | ((fail_if_success (refine Rg.lit true rfl ?_)); (fail_if_success (refine Rg.lit false rfl ?_)); refine Rg.guard rfl (fun hc => ?_) (fun hc => ?_))) <;> ((try simp only [cs] at hc); (first | ((exfalso; omega); done) | skip))))
    refine Rg.own hcp [] rfl rfl rfl rfl rfl rfl trivial ⟨.cl rfl, trivial⟩ rfl rfl trivial ?_
    repeat' ((fail_if_success (refine Run.atReg 17 rfl ?_)); first | refine Run.ctl rfl ?_ | (refine Rg.op false tok rfl rfl rfl rfl ?_ ?_ ?_; (first | exact ⟨⟩ | omega | focus (simp <;> omega) | decide +kernel); (first | exact trivial | exact rfl | exact .inl rfl | exact .inr rfl)) | (refine Rg.op true tok rfl rfl rfl rfl ?_ ?_ ?_; (first | exact ⟨⟩ | omega | focus (simp <;> omega) | decide +kernel); (first | exact trivial | exact rfl | exact .inl rfl | exact .inr rfl)) | refine Rg.nil ?_ | refine Rg.skip rfl rfl rfl ?_ | refine Run.regR ?_ | refine Run.condT rfl ?_ | refine Run.condF rfl ?_ | ((first | refine Run.condB rfl (fun hc => ?_) (fun hc => ?_) | ((fail_if_success (refine Rg.lit true rfl ?_)); (fail_if_success (refine Rg.lit false rfl ?_)); refine Rg.guard rfl (fun hc => ?_) (fun hc => ?_))) <;> ((try simp only [cs] at hc); (first | ((exfalso; omega); done) | skip))))
    refine Run.renumL [0, 1, 4, 3] [pbox p, wdbox w, wbox 3 (overOne w), rowL (overOne w).actors] [(1, .ptr 0 0 0), (3, .ptr 1 0 0), (5, i64 (ovs w.actors)), (7, .ptr 2 0 0)] rfl rfl rfl rfl ⟨⟨_, rfl, rfl, rfl, rfl, rfl, fun k hk => .ofEq rfl rfl⟩, ⟨_, rfl, rfl, rfl, rfl, rfl, fun k hk => .ofEq rfl rfl⟩, ⟨_, rfl, rfl, rfl, rfl, rfl, fun k hk => ⟨.slcN rfl rfl hlv.symm, .cl rfl, .cl rfl, .cl rfl, .cl rfl, .cl rfl, trivial⟩⟩, ⟨_, rfl, rfl, rfl, hlv, rfl, fun j hj => .ofEq (row_put eLcl w.actors (addOver (w.actors.getD 0 default)) hl0 (by
      show [_, _, _, _, i64 (IntKind.wrap .i64 ((w.actors.getD 0 default).over + 1))] = eLcl (addOver (w.actors.getD 0 default))
      rw [wrap_id (by unfold R64; omega)]
      rfl) (fun _ => rfl) j) rfl⟩, trivial⟩ ⟨.ptrN rfl rfl, .ptrN rfl rfl, .cl rfl, .ptrN rfl rfl, trivial⟩ ?_
    refine Run.freeze (i := 3) rfl rfl ?_
    refine Run.weak (i := 2) ⟨34, 6, 1, fun _ => eWd (overOne w), false, false⟩ rfl rfl rfl (Nat.le_refl _) rfl (fun k hk => ⟨.cv (.row rfl rfl rfl (by dsimp only; omega) rfl (fun _ => rfl) (fun j hj => by rw [Nat.zero_add])), .refl _, .refl _, .refl _, .refl _, .refl _, trivial⟩) ?_
    have hbl : (w.mail.length : Int) + ovs w.actors = p.boot.length := hsum
    repeat' (first | refine Run.ctl rfl ?_ | (refine Rg.op false tok rfl rfl rfl rfl ?_ ?_ ?_; (first | exact ⟨⟩ | omega | focus (simp <;> omega) | decide +kernel); (first | exact trivial | exact rfl | exact .inl rfl | exact .inr rfl | focus ((repeat (first | exact trivial | (refine ⟨Stay.op false tok rfl rfl rfl ?_ (fun t ht => by cases ht; rfl), ?_⟩; (first | exact ⟨⟩ | omega | focus (simp <;> omega) | decide +kernel)) | (refine ⟨Stay.op true tok rfl rfl rfl ?_ (fun t ht => by cases ht; rfl), ?_⟩; (first | exact ⟨⟩ | omega | focus (simp <;> omega) | decide +kernel)) | refine ⟨Stay.skip rfl rfl (fun t ht => by cases ht; rfl), ?_⟩)); done))) | refine Rg.call (hsame) rfl rfl rfl rfl rfl ⟨⟨.refl _, .refl _, trivial⟩, rfl⟩ ?_ | refine Rg.call (ht1) rfl rfl rfl rfl rfl ⟨⟨.refl _, trivial⟩, rfl⟩ ?_ | refine Rg.call (ht2) rfl rfl rfl rfl rfl ⟨⟨.refl _, trivial⟩, rfl⟩ ?_ | refine Rg.call (hcq) rfl rfl rfl rfl rfl ⟨⟨.refl _, trivial⟩, rfl⟩ ?_ | refine Rg.call (awake9_) rfl rfl rfl rfl rfl ⟨trivial, rfl⟩ ?_ | (refine Rg.op true tok rfl rfl rfl rfl ?_ ?_ ?_; (first | exact ⟨⟩ | omega | focus (simp <;> omega) | decide +kernel); (first | exact trivial | exact rfl | exact .inl rfl | exact .inr rfl | focus ((repeat (first | exact trivial | (refine ⟨Stay.op false tok rfl rfl rfl ?_ (fun t ht => by cases ht; rfl), ?_⟩; (first | exact ⟨⟩ | omega | focus (simp <;> omega) | decide +kernel)) | (refine ⟨Stay.op true tok rfl rfl rfl ?_ (fun t ht => by cases ht; rfl), ?_⟩; (first | exact ⟨⟩ | omega | focus (simp <;> omega) | decide +kernel)) | refine ⟨Stay.skip rfl rfl (fun t ht => by cases ht; rfl), ?_⟩)); done))) | refine Rg.nil ?_ | refine Rg.fork ?_ ?_ | refine Rg.skip rfl rfl rfl ?_ | refine Run.regR ?_ | refine Run.drwR mixed (by kernel_rfl) rfl ?_ | refine Run.condT rfl ?_ | refine Run.condF rfl ?_ | ((first | refine Run.condB rfl (fun hc => ?_) (fun hc => ?_) | ((fail_if_success (refine Rg.lit true rfl ?_)); (fail_if_success (refine Rg.lit false rfl ?_)); refine Rg.guard rfl (fun hc => ?_) (fun hc => ?_))) <;> ((try simp only [cs] at hc); (first | ((exact absurd hc (by decide)); done) | ((exact absurd rfl hc); done) | ((exact absurd hc hne); done) | ((exact absurd trivial hc); done) | ((exfalso; omega); done) | skip))))
    all_goals ((first | refine Run.ret tok Tryd.func3 rfl ?_ | refine Run.fall tok Tryd.func3 rfl ?_); exact .refl _)
end Go.Proofs.YtffckdfcmdmnoaaDoor.W
end
