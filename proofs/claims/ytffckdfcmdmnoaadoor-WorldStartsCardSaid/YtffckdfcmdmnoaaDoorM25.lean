/- Texts merged: D14. -/
import Derived.Test.YtffckdfcmdmnoaaDoorM24
section
/- Walks: a program's start (chapter 9). -/
set_option linter.unusedVariables false
set_option linter.unusedSimpArgs false
set_option linter.unusedSectionVars false
set_option pp.maxSteps 40000
set_option maxHeartbeats 2000000
namespace Go.Proofs.YtffckdfcmdmnoaaDoor.W
open Go Go.Sy

theorem getD_map {α β : Type} [Inhabited α] [Inhabited β] (f : α → β) (l : List α) {i : Nat} (hi : i < l.length) : (l.map f).getD i default = f (l.getD i default) := by simp [hi]
theorem actorWhy_regs {p : Pg} {a : Act} (h : actorWhy p a = 0) : a.regs.length ≤ 8 := by
  unfold actorWhy at h
  split at h
  · cases h
  · omega
/-- A world whose actors stand in row number i. -/
def eWdR (i : Nat) (w : Wd) : List PV := [.slc i 0 w.actors.length, sl 6 eMsg w.mail, i64 w.used.drop, i64 w.used.dup, i64 w.used.time, i64 w.used.crash]
def wbox (i : Nat) (w : Wd) : Option Blk := some ⟨34, 6, 1, fun _ => eWdR i w, false, false⟩
theorem noteWhy_args {p : Pg} {n : Nt} (h : noteWhy p n = 0) (hp : PgFit p) : n.args.length ≤ 4 := by
  unfold noteWhy at h
  split at h
  · cases h
  split at h
  · cases h
  rename_i h1 h2
  have h3 := (hdFit hp (mem_getD (l := p.handlers) (i := n.handler.toNat) (by omega))).a1
  omega
theorem startO_ (p : Pg) (h0 : flowWhy p = 0) : Own Tryd.prog 9 [pPg p] [] (.tup [.agg (eWdR 2 (startOf p)), i64 0]) [pbox p, wbox 2 (startOf p), rowL (startOf p).actors] := by
  have hfc := flowCheck_ p
  rw [h0] at hfc
  have hp : PgFit p := by
    unfold flowWhy at h0
    split at h0
    · rename_i h; exact absurd h0 h
    · rename_i h; exact progWhy_zero.1 (by simpa using h)
  have hna := hp.na
  have hnb := hp.nb
  refine Spec.of_run (fn := Tryd.f9) Tryd.func9 rfl rfl (by kernel_rfl) ?_
  repeat' (first | refine Run.ctl rfl ?_ | (refine Rg.op false tok rfl rfl rfl rfl ?_ ?_ ?_; (first | exact ⟨⟩ | omega | focus (simp <;> omega) | decide +kernel); (first | exact trivial | exact rfl | exact .inl rfl | exact .inr rfl)) | refine Rg.call (hfc) rfl rfl rfl rfl rfl ⟨⟨.refl _, trivial⟩, rfl⟩ ?_ | (refine Rg.op true tok rfl rfl rfl rfl ?_ ?_ ?_; (first | exact ⟨⟩ | omega | focus (simp <;> omega) | decide +kernel); (first | exact trivial | exact rfl | exact .inl rfl | exact .inr rfl)) | refine Rg.nil ?_ | refine Rg.skip rfl rfl rfl ?_ | refine Run.regR ?_ | refine Run.condT rfl ?_ | refine Run.condF rfl ?_ | ((first | refine Run.condB rfl (fun hc => ?_) (fun hc => ?_) | ((fail_if_success (refine Rg.lit true rfl ?_)); (fail_if_success (refine Rg.lit false rfl ?_)); refine Rg.guard rfl (fun hc => ?_) (fun hc => ?_))) <;> ((try simp only [cs] at hc); (first | ((exfalso; omega); done) | ((exact absurd rfl hc); done) | skip))))
  refine Run.noRow 41 5 (rows eLcl []) ?_
  refine Run.weak (i := 1) ⟨34, 6, 1, fun _ => [.slc 2 0 0, sl 6 eMsg [], i64 0, i64 0, i64 0, i64 0], false, false⟩ rfl rfl rfl (Nat.le_refl _) rfl (fun k hk => ⟨.nil, .cv .nil, .refl _, .refl _, .refl _, .refl _, trivial⟩) ?_
  refine Run.loopN (ι := Nat) (fun i => ([(1, .ptr 0 0 0), (2, .ptr 1 0 0), (14, sl 4 eAct p.actors), (15, i64 p.actors.length), (16, i64 i)], [pbox p, some ⟨34, 6, 1, fun _ => [.slc 2 0 i, sl 6 eMsg [], i64 0, i64 0, i64 0, i64 0], false, false⟩, some ⟨41, 5, i, rows eLcl ((p.actors.map startLcl).take i), false, false⟩])) (fun i => i ≤ p.actors.length) (fun i => p.actors.length - i) 0 ⟨rfl, rfl, rfl, rfl, rfl, trivial⟩ rfl (by omega) ?_
  rintro i hi back backR
  dsimp only
  by_cases hlt : i < p.actors.length
  · have ha := actorWhy_regs (hp.a _ (mem_getD hlt))
    have hcl := clone_ (p.actors.getD i default).regs (by omega)
    repeat' (first | (refine Run.drwP [8, 9, 11] [0, 1, 2, 3, 4, 5, 6, 7, 8, 9, 10, 11] [none, none, none, none, none, none, none, none, some [1, 0], some [], none, some []] mixed (by kernel_rfl) rfl ?_) | refine Run.ctl rfl ?_ | (refine Rg.op false tok rfl rfl rfl rfl ?_ ?_ ?_; (first | exact ⟨⟩ | omega | focus (simp <;> omega) | decide +kernel); (first | exact trivial | exact rfl | exact .inl rfl | exact .inr rfl | focus ((repeat (first | exact trivial | (refine ⟨Stay.op false tok rfl rfl rfl ?_ (fun t ht => by cases ht; rfl), ?_⟩; (first | exact ⟨⟩ | omega | focus (simp <;> omega) | decide +kernel)) | (refine ⟨Stay.op true tok rfl rfl rfl ?_ (fun t ht => by cases ht; rfl), ?_⟩; (first | exact ⟨⟩ | omega | focus (simp <;> omega) | decide +kernel)) | refine ⟨Stay.skip rfl rfl (fun t ht => by cases ht; rfl), ?_⟩)); done))) | refine Rg.call (hcl) rfl rfl rfl rfl rfl ⟨⟨.refl _, trivial⟩, rfl⟩ ?_ | (refine Rg.op true tok rfl rfl rfl rfl ?_ ?_ ?_; (first | exact ⟨⟩ | omega | focus (simp <;> omega) | decide +kernel); (first | exact trivial | exact rfl | exact .inl rfl | exact .inr rfl | focus ((repeat (first | exact trivial | (refine ⟨Stay.op false tok rfl rfl rfl ?_ (fun t ht => by cases ht; rfl), ?_⟩; (first | exact ⟨⟩ | omega | focus (simp <;> omega) | decide +kernel)) | (refine ⟨Stay.op true tok rfl rfl rfl ?_ (fun t ht => by cases ht; rfl), ?_⟩; (first | exact ⟨⟩ | omega | focus (simp <;> omega) | decide +kernel)) | refine ⟨Stay.skip rfl rfl (fun t ht => by cases ht; rfl), ?_⟩)); done))) | refine Rg.nil ?_ | refine Rg.fork ?_ ?_ | refine Rg.skip rfl rfl rfl ?_ | refine Run.regR ?_ | refine Run.drwR mixed (by kernel_rfl) rfl ?_ | refine Run.condT rfl ?_ | refine Run.condF rfl ?_ | ((first | refine Run.condB rfl (fun hc => ?_) (fun hc => ?_) | ((fail_if_success (refine Rg.lit true rfl ?_)); (fail_if_success (refine Rg.lit false rfl ?_)); refine Rg.guard rfl (fun hc => ?_) (fun hc => ?_))) <;> ((try simp only [cs] at hc); (first | ((exfalso; omega); done) | skip))))
    exact backR [0, 1, 5] (i + 1) _ _ hlt (by omega) rfl ⟨⟨_, rfl, rfl, rfl, rfl, rfl, fun k hk => .ofEq rfl rfl⟩, ⟨_, rfl, rfl, rfl, rfl, rfl, fun k hk => ⟨.slcN rfl rfl rfl, .cl rfl, .cl rfl, .cl rfl, .cl rfl, .cl rfl, trivial⟩⟩, ⟨_, rfl, rfl, rfl, rfl, rfl, fun k hk => .ofEq (by dsimp only; exact rows_tk eLcl (p.actors.map startLcl) (by simpa using hlt) (fun _ => rfl) (by rw [getD_map _ _ hlt]; rfl) k hk) rfl⟩, trivial⟩ ⟨.ptrN rfl rfl, .ptrN rfl rfl, .cl rfl, .cl rfl, .cl rfl, trivial⟩
  · obtain rfl : i = p.actors.length := by omega
    have hgive := give_ p ⟨p.actors.map startLcl, [], bg0⟩ (-1) p.boot (by simp; omega) ⟨by simp; omega, fun x hx => (nomatch hx), fun l hl => by
      obtain ⟨a, ha, rfl⟩ := List.mem_map.1 hl
      show -9223372036854775808 ≤ (0 : Int) ∧ (0 : Int) + _ ≤ _
      omega⟩ (fun n hn => by have := noteWhy_args (hp.n n hn) hp; omega) (fun h => by omega)
    have hs : startOf p = giveIn p ⟨p.actors.map startLcl, [], bg0⟩ (-1) p.boot := rfl
    rw [← hs] at hgive
    generalize startOf p = w at hgive ⊢
    repeat' (first | refine Run.ctl rfl ?_ | (refine Rg.op false tok rfl rfl rfl rfl ?_ ?_ ?_; (first | exact ⟨⟩ | omega | focus (simp <;> omega) | decide +kernel); (first | exact trivial | exact rfl | exact .inl rfl | exact .inr rfl)) | (refine Rg.op true tok rfl rfl rfl rfl ?_ ?_ ?_; (first | exact ⟨⟩ | omega | focus (simp <;> omega) | decide +kernel); (first | exact trivial | exact rfl | exact .inl rfl | exact .inr rfl)) | refine Rg.nil ?_ | refine Rg.skip rfl rfl rfl ?_ | refine Run.regR ?_ | refine Run.condT rfl ?_ | refine Run.condF rfl ?_ | ((first | refine Run.condB rfl (fun hc => ?_) (fun hc => ?_) | ((fail_if_success (refine Rg.lit true rfl ?_)); (fail_if_success (refine Rg.lit false rfl ?_)); refine Rg.guard rfl (fun hc => ?_) (fun hc => ?_))) <;> ((try simp only [cs] at hc); (first | ((exfalso; omega); done) | skip))))
    refine Rg.own hgive [1, 2] rfl rfl rfl rfl rfl rfl ⟨⟨_, rfl, rfl, rfl, rfl, rfl, fun k hk => ⟨.slcN rfl rfl (by simp), .cl rfl, .cl rfl, .cl rfl, .cl rfl, .cl rfl, trivial⟩⟩, ⟨_, rfl, rfl, rfl, by simp, rfl, fun k hk => .ofEq (by dsimp only; rw [← List.length_map (f := startLcl), List.take_length]) rfl⟩, trivial⟩ ⟨.cl rfl, .ptrN rfl rfl, .cl rfl, .cl rfl, trivial⟩ rfl rfl trivial ?_
    repeat' (first | refine Run.ctl rfl ?_ | (refine Rg.op false tok rfl rfl rfl rfl ?_ ?_ ?_; (first | exact ⟨⟩ | omega | focus (simp <;> omega) | decide +kernel); (first | exact trivial | exact rfl | exact .inl rfl | exact .inr rfl)) | (refine Rg.op true tok rfl rfl rfl rfl ?_ ?_ ?_; (first | exact ⟨⟩ | omega | focus (simp <;> omega) | decide +kernel); (first | exact trivial | exact rfl | exact .inl rfl | exact .inr rfl)) | refine Rg.nil ?_ | refine Rg.skip rfl rfl rfl ?_ | refine Run.regR ?_ | refine Run.condT rfl ?_ | refine Run.condF rfl ?_ | ((first | refine Run.condB rfl (fun hc => ?_) (fun hc => ?_) | ((fail_if_success (refine Rg.lit true rfl ?_)); (fail_if_success (refine Rg.lit false rfl ?_)); refine Rg.guard rfl (fun hc => ?_) (fun hc => ?_))) <;> ((try simp only [cs] at hc); (first | ((exfalso; omega); done) | skip))))
    refine Run.renumL [0, 1, 2] [pbox p, wbox 2 w, rowL w.actors] [(2, .ptr 1 0 0), (3, i64 0)] rfl rfl rfl rfl ⟨⟨_, rfl, rfl, rfl, rfl, rfl, fun k hk => .ofEq rfl rfl⟩, ⟨_, rfl, rfl, rfl, rfl, rfl, fun k hk => ⟨.slcN rfl rfl rfl, .cl rfl, .cl rfl, .cl rfl, .cl rfl, .cl rfl, trivial⟩⟩, ⟨_, rfl, rfl, rfl, rfl, rfl, fun k hk => .ofEq rfl rfl⟩, trivial⟩ ⟨.ptrN rfl rfl, .cl rfl, trivial⟩ ?_
    (first | refine Run.ret tok Tryd.func9 rfl ?_ | refine Run.fall tok Tryd.func9 rfl ?_)
    exact ⟨rfl, rfl⟩
theorem startBad_ (p : Pg) (h0 : flowWhy p ≠ 0) : Pure Tryd.prog 9 [pPg p] (.tup [pWd wd0, i64 (flowWhy p)]) := by
  have hfc := flowCheck_ p
  generalize flowWhy p = z at hfc h0
  refine Pure.of_spec (Spec.of_run (fn := Tryd.f9) Tryd.func9 rfl rfl (by kernel_rfl) ?_) (by first | assumption | rfl | (split <;> rfl) | (split <;> split <;> rfl))
  repeat' (first | refine Run.ctl rfl ?_ | (refine Rg.op false tok rfl rfl rfl rfl ?_ ?_ ?_; (first | exact ⟨⟩ | omega | focus (simp <;> omega) | decide +kernel); (first | exact trivial | exact rfl | exact .inl rfl | exact .inr rfl)) | refine Rg.call (hfc) rfl rfl rfl rfl rfl ⟨⟨.refl _, trivial⟩, rfl⟩ ?_ | (refine Rg.op true tok rfl rfl rfl rfl ?_ ?_ ?_; (first | exact ⟨⟩ | omega | focus (simp <;> omega) | decide +kernel); (first | exact trivial | exact rfl | exact .inl rfl | exact .inr rfl)) | refine Rg.nil ?_ | refine Rg.skip rfl rfl rfl ?_ | refine Run.regR ?_ | refine Run.condT rfl ?_ | refine Run.condF rfl ?_ | ((first | refine Run.condB rfl (fun hc => ?_) (fun hc => ?_) | ((fail_if_success (refine Rg.lit true rfl ?_)); (fail_if_success (refine Rg.lit false rfl ?_)); refine Rg.guard rfl (fun hc => ?_) (fun hc => ?_))) <;> ((try simp only [cs] at hc); (first | ((exfalso; omega); done) | ((exact absurd hc h0); done) | skip))))
  (first | refine Run.ret tok Tryd.func9 rfl ?_ | refine Run.fall tok Tryd.func9 rfl ?_)
  exact .tup' ⟨.agg' ⟨.rowNil, .rowNil, .refl _, .refl _, .refl _, .refl _, trivial⟩, .refl _, trivial⟩
theorem start_ (p : Pg) (h0 : flowWhy p = 0) : Pure Tryd.prog 9 [pPg p] (.tup [pWd (startOf p), i64 0]) :=
  (startO_ p h0).pure (.tup' ⟨.agg' ⟨.row rfl rfl rfl (by simp) rfl (fun _ => rfl) (fun j hj => by rw [Nat.zero_add]), .refl _, .refl _, .refl _, .refl _, .refl _, trivial⟩, .refl _, trivial⟩) rfl
end Go.Proofs.YtffckdfcmdmnoaaDoor.W
end
