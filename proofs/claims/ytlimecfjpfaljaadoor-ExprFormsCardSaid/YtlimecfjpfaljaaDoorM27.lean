/- Texts merged: D19, D20, D21. -/
import Derived.Test.YtlimecfjpfaljaaDoorM26
section
/- Walks: an expression's value (chapter 13). -/
set_option linter.unusedVariables false
set_option linter.unusedSimpArgs false
set_option linter.unusedSectionVars false
set_option pp.maxSteps 40000
set_option maxHeartbeats 4000000
namespace Go.Proofs.YtlimecfjpfaljaaDoor.W
open Go Go.Sy

def wdbox (w : Wd) : Option Blk := some ⟨34, 6, 1, fun _ => eWd w, false, false⟩
theorem rows_take {α : Type} [Inhabited α] (enc : α → List PV) (l : List α) {n k : Nat} (h : k < n) : rows enc (l.take n) k = rows enc l k := by
  unfold rows; congr 1; simp [List.getElem?_take, h]
theorem rows_snoc {α : Type} [Inhabited α] (enc : α → List PV) (l : List α) (x : α) {a b : Nat → List PV} {n : Nat} (hn : n = l.length) (ha : ∀ k, k < l.length → a k = rows enc l k) (hb : b 0 = enc x) {k : Nat} (hk : k < n + 1) : appEl n a b k = rows enc (l ++ [x]) k :=
  rows_app enc l [x] hn ha (fun q hq => by obtain rfl : q = 0 := by simpa using hq
                                           exact hb) k (by subst hn; exact hk)
theorem whose_rng {p : Pg} {i : Instr} {n : Int} (h : ExOk p i n) (hA : asksW i.op = true) (hna : 0 < p.actors.length) : (i.op = 31 → 0 ≤ i.a) ∧ 0 ≤ (whoseW i).1 ∧ (whoseW i).1 < p.actors.length := by
  have hw := h.who
  unfold whoseW at hw ⊢
  by_cases h37 : i.op = 37
  · simp only [hA, h37, or_true, if_true]
    exact ⟨fun e => by omega, by omega, by omega⟩
  · have hn : ¬(asksW i.op = false ∨ i.op = 37) := by rintro (e | e); rw [hA] at e; cases e; exact h37 e
    rw [if_neg hn] at hw ⊢
    by_cases h31 : i.op = 31 ∧ 0 ≤ i.a
    · rw [if_pos h31] at hw ⊢
      exact ⟨fun _ => h31.2, hw rfl⟩
    · rw [if_neg h31] at hw ⊢
      have := hw rfl
      dsimp only at this ⊢
      exact ⟨fun e => this.1, this⟩
theorem exOf_ (p : Pg) (w : Wd) (x : List Instr) (hx : x.length ≤ 64) (hok : ∀ i ∈ x, R64 i.a) (hl : w.mail.length ≤ 100000) (hwa : w.actors.length = p.actors.length) (hna : 0 < p.actors.length) (hE0 : exFrom p x 0 = 0) : Pure Tryd.prog 40 [pWd w, sl 2 eInstr x] (i64 (exOf w x)) := by
  unfold exOf
  generalize hF0 : x.foldl (exStep w) [] = F
  refine Pure.of_spec (Spec.of_run (fn := Tryd.f40) Tryd.func40 rfl rfl (by kernel_rfl) ?_) (by first | assumption | rfl | (split <;> rfl) | (split <;> split <;> rfl))
  repeat' (first | refine Run.ctl rfl ?_ | (refine Rg.op false tok rfl rfl rfl rfl ?_ ?_ ?_; (first | exact ⟨⟩ | omega | focus (simp <;> omega) | decide +kernel); (first | exact trivial | exact rfl | exact .inl rfl | exact .inr rfl | focus ((repeat (first | exact trivial | (refine ⟨Stay.op false tok rfl rfl rfl ?_ (fun t ht => by cases ht; rfl), ?_⟩; (first | exact ⟨⟩ | omega | focus (simp <;> omega) | decide +kernel)) | (refine ⟨Stay.op true tok rfl rfl rfl ?_ (fun t ht => by cases ht; rfl), ?_⟩; (first | exact ⟨⟩ | omega | focus (simp <;> omega) | decide +kernel)) | refine ⟨Stay.skip rfl rfl (fun t ht => by cases ht; rfl), ?_⟩)); done))) | (refine Rg.op true tok rfl rfl rfl rfl ?_ ?_ ?_; (first | exact ⟨⟩ | omega | focus (simp <;> omega) | decide +kernel); (first | exact trivial | exact rfl | exact .inl rfl | exact .inr rfl | focus ((repeat (first | exact trivial | (refine ⟨Stay.op false tok rfl rfl rfl ?_ (fun t ht => by cases ht; rfl), ?_⟩; (first | exact ⟨⟩ | omega | focus (simp <;> omega) | decide +kernel)) | (refine ⟨Stay.op true tok rfl rfl rfl ?_ (fun t ht => by cases ht; rfl), ?_⟩; (first | exact ⟨⟩ | omega | focus (simp <;> omega) | decide +kernel)) | refine ⟨Stay.skip rfl rfl (fun t ht => by cases ht; rfl), ?_⟩)); done))) | refine Rg.nil ?_ | refine Rg.skip rfl rfl rfl ?_ | refine Run.regR ?_ | refine Run.drwR mixed (by kernel_rfl) rfl ?_ | refine Run.condT rfl ?_ | refine Run.condF rfl ?_ | ((first | refine Run.condB rfl (fun hc => ?_) (fun hc => ?_) | ((fail_if_success (refine Rg.lit true rfl ?_)); (fail_if_success (refine Rg.lit false rfl ?_)); refine Rg.guard rfl (fun hc => ?_) (fun hc => ?_))) <;> ((try simp only [cs] at hc); (first | ((exfalso; omega); done) | skip))))
  refine Run.nilRow 5 3 1 (rows eInt []) rfl ?_
  refine Run.loopN (ι := Nat × List Int) (fun j => ([(2, .ptr 0 0 0), (5, .slc 1 0 j.2.length), (13, sl 2 eInstr x), (14, i64 x.length), (15, i64 j.1)], [wdbox w, rowI j.2])) (fun j => j.1 ≤ x.length ∧ (x.drop j.1).foldl (exStep w) j.2 = F ∧ exFrom p (x.drop j.1) j.2.length = 0 ∧ j.2.length ≤ 8) (fun j => x.length - j.1) (0, []) ⟨rfl, rfl, rfl, rfl, rfl, trivial⟩ rfl ⟨by omega, hF0, hE0, by simp⟩ ?_
  rintro ⟨j, S⟩ ⟨hj, hF, hE, hSl⟩ back backR
  dsimp only at hj hF hE hSl ⊢
  by_cases hlt : j < x.length
  · rw [exFrom_at p hlt] at hE
    have hd : x.drop j = x.getD j default :: x.drop (j + 1) := by rw [List.drop_eq_getElem_cons hlt]; simp [hlt]
    rw [hd, List.foldl_cons] at hF
    by_cases hw : exInstr p (x.getD j default) S.length = 0
    rotate_left
    · rw [if_pos hw] at hE; exact absurd hE hw
    rw [if_neg (by simpa using hw)] at hE
    have hex := exInstr_zero.1 hw
    have hlen := exStep_len (w := w) hex
    rw [← hlen] at hE
    have hia := hok _ (mem_getD hlt)
    have hS2 : (exStep w S (x.getD j default)).length ≤ 8 := by have := hex.hi; omega
    have has := asks_ (x.getD j default).op
    have hlo := hex.lo
    generalize hi : x.getD j default = i at hF hE hex hlen hia has hlo hS2
    obtain ⟨op, a⟩ := i
    have ho : (x.getD j default).op = op := by rw [hi]
    have ha : (x.getD j default).a = a := by rw [hi]
    dsimp only at has hia hlo
    by_cases hA : asksW op = true
    · have hask := ask_ w ⟨op, a⟩ hia (by simpa [asksW] using hA) (whose_rng hex hA hna).1 (by rw [hwa]; exact (whose_rng hex hA hna).2) hl
      have hst : exStep w S ⟨op, a⟩ = S ++ [exAsk w ⟨op, a⟩] := by unfold exStep; dsimp only; rw [if_pos hA]
      rw [hst] at hF hE hlen hS2
      generalize exAsk w ⟨op, a⟩ = v at hask hst hF hE hlen hS2
      rw [hA] at has
      rw [← ho] at has
      rw [← hi] at hask
      repeat' (first | refine Run.ctl rfl ?_ | (refine Rg.op false tok rfl rfl rfl rfl ?_ ?_ ?_; (first | exact ⟨⟩ | omega | focus (simp <;> omega) | decide +kernel); (first | exact trivial | exact rfl | exact .inl rfl | exact .inr rfl | focus ((repeat (first | exact trivial | (refine ⟨Stay.op false tok rfl rfl rfl ?_ (fun t ht => by cases ht; rfl), ?_⟩; (first | exact ⟨⟩ | omega | focus (simp <;> omega) | decide +kernel)) | (refine ⟨Stay.op true tok rfl rfl rfl ?_ (fun t ht => by cases ht; rfl), ?_⟩; (first | exact ⟨⟩ | omega | focus (simp <;> omega) | decide +kernel)) | refine ⟨Stay.skip rfl rfl (fun t ht => by cases ht; rfl), ?_⟩)); done))) | refine Rg.call (has) rfl rfl rfl rfl rfl ⟨⟨.refl _, trivial⟩, rfl⟩ ?_ | refine Rg.call (hask) rfl rfl rfl rfl rfl ⟨⟨.refl _, .refl _, trivial⟩, rfl⟩ ?_ | (refine Rg.op true tok rfl rfl rfl rfl ?_ ?_ ?_; (first | exact ⟨⟩ | omega | focus (simp <;> omega) | decide +kernel); (first | exact trivial | exact rfl | exact .inl rfl | exact .inr rfl | focus ((repeat (first | exact trivial | (refine ⟨Stay.op false tok rfl rfl rfl ?_ (fun t ht => by cases ht; rfl), ?_⟩; (first | exact ⟨⟩ | omega | focus (simp <;> omega) | decide +kernel)) | (refine ⟨Stay.op true tok rfl rfl rfl ?_ (fun t ht => by cases ht; rfl), ?_⟩; (first | exact ⟨⟩ | omega | focus (simp <;> omega) | decide +kernel)) | refine ⟨Stay.skip rfl rfl (fun t ht => by cases ht; rfl), ?_⟩)); done))) | refine Rg.nil ?_ | refine Rg.skip rfl rfl rfl ?_ | refine Run.regR ?_ | refine Run.drwR mixed (by kernel_rfl) rfl ?_ | refine Run.condT rfl ?_ | refine Run.condF rfl ?_ | ((first | refine Run.condB rfl (fun hc => ?_) (fun hc => ?_) | ((fail_if_success (refine Rg.lit true rfl ?_)); (fail_if_success (refine Rg.lit false rfl ?_)); refine Rg.guard rfl (fun hc => ?_) (fun hc => ?_))) <;> ((try simp only [cs] at hc); (first | ((exfalso; omega); done) | skip))))
      exact backR [0, 4] (j + 1, S ++ [v]) _ _ ⟨hlt, hF, hE, hS2⟩ (by dsimp only; omega) rfl ⟨⟨_, rfl, rfl, rfl, rfl, rfl, fun k hk => .ofEq rfl rfl⟩, ⟨_, rfl, rfl, rfl, by simp, rfl, fun k hk => .ofEq (by dsimp only at hk ⊢; exact rows_snoc eInt S v rfl (fun k _ => by rw [Nat.zero_add]) rfl hk) rfl⟩, trivial⟩ ⟨.ptrN rfl rfl, .slcK rfl rfl rfl (by simp), .cl rfl, .cl rfl, .cl rfl, trivial⟩
    · have hA' : asksW op = false := by simpa using hA
      rw [hA', ← ho] at has
      have hst : exStep w S ⟨op, a⟩ = (if op = 1 then S ++ [a] else if op = 2 then S.take (S.length - 1) else if op = 3 then S ++ [S.getD (S.length - 1) 0] else if op = 4 then (S.set (S.length - 1) (S.getD (S.length - 2) 0)).set (S.length - 2) (S.getD (S.length - 1) 0) else if (sumOne op (S.getD (S.length - 1) 0)).2 then S.set (S.length - 1) (sumOne op (S.getD (S.length - 1) 0)).1 else S.take (S.length - 2) ++ [(sumTwo op (S.getD (S.length - 2) 0) (S.getD (S.length - 1) 0)).1]) := by unfold exStep; dsimp only; rw [if_neg hA]
      have hop := hex.op
      have hnA : ¬(31 ≤ op ∧ op ≤ 37) := by simpa [asksW] using hA
      dsimp only at hop
      clear hex
      by_cases h1 : op = 1
      · rw [if_pos h1] at hst
        rw [hst] at hF hE hlen hS2
        repeat' (first | refine Run.ctl rfl ?_ | (refine Rg.op false tok rfl rfl rfl rfl ?_ ?_ ?_; (first | exact ⟨⟩ | omega | focus (simp <;> omega) | decide +kernel); (first | exact trivial | exact rfl | exact .inl rfl | exact .inr rfl | focus ((repeat (first | exact trivial | (refine ⟨Stay.op false tok rfl rfl rfl ?_ (fun t ht => by cases ht; rfl), ?_⟩; (first | exact ⟨⟩ | omega | focus (simp <;> omega) | decide +kernel)) | (refine ⟨Stay.op true tok rfl rfl rfl ?_ (fun t ht => by cases ht; rfl), ?_⟩; (first | exact ⟨⟩ | omega | focus (simp <;> omega) | decide +kernel)) | refine ⟨Stay.skip rfl rfl (fun t ht => by cases ht; rfl), ?_⟩)); done))) | refine Rg.call (has) rfl rfl rfl rfl rfl ⟨⟨.refl _, trivial⟩, rfl⟩ ?_ | (refine Rg.op true tok rfl rfl rfl rfl ?_ ?_ ?_; (first | exact ⟨⟩ | omega | focus (simp <;> omega) | decide +kernel); (first | exact trivial | exact rfl | exact .inl rfl | exact .inr rfl | focus ((repeat (first | exact trivial | (refine ⟨Stay.op false tok rfl rfl rfl ?_ (fun t ht => by cases ht; rfl), ?_⟩; (first | exact ⟨⟩ | omega | focus (simp <;> omega) | decide +kernel)) | (refine ⟨Stay.op true tok rfl rfl rfl ?_ (fun t ht => by cases ht; rfl), ?_⟩; (first | exact ⟨⟩ | omega | focus (simp <;> omega) | decide +kernel)) | refine ⟨Stay.skip rfl rfl (fun t ht => by cases ht; rfl), ?_⟩)); done))) | refine Rg.nil ?_ | refine Rg.skip rfl rfl rfl ?_ | refine Run.regR ?_ | refine Run.drwR mixed (by kernel_rfl) rfl ?_ | refine Run.condT rfl ?_ | refine Run.condF rfl ?_ | ((first | refine Run.condB rfl (fun hc => ?_) (fun hc => ?_) | ((fail_if_success (refine Rg.lit true rfl ?_)); (fail_if_success (refine Rg.lit false rfl ?_)); refine Rg.guard rfl (fun hc => ?_) (fun hc => ?_))) <;> ((try simp only [cs] at hc); (first | ((exfalso; omega); done) | skip))))
        subst ha
        exact backR [0, 4] (j + 1, S ++ [(x.getD j default).a]) _ _ ⟨hlt, hF, hE, hS2⟩ (by dsimp only; omega) rfl ⟨⟨_, rfl, rfl, rfl, rfl, rfl, fun k hk => .ofEq rfl rfl⟩, ⟨_, rfl, rfl, rfl, by simp, rfl, fun k hk => .ofEq (by dsimp only at hk ⊢; exact rows_snoc eInt S _ rfl (fun k _ => by rw [Nat.zero_add]) rfl hk) rfl⟩, trivial⟩ ⟨.ptrN rfl rfl, .slcK rfl rfl rfl (by simp), .cl rfl, .cl rfl, .cl rfl, trivial⟩
      rw [if_neg h1] at hst
      by_cases h2 : op = 2
      · rw [if_pos h2] at hst
        rw [hst] at hF hE hlen hS2
        have hlo1 : 1 ≤ (S.length : Int) := by rw [h2] at hlo; exact hlo
        repeat' (first | refine Run.ctl rfl ?_ | (refine Rg.op false tok rfl rfl rfl rfl ?_ ?_ ?_; (first | exact ⟨⟩ | omega | focus (simp <;> omega) | decide +kernel); (first | exact trivial | exact rfl | exact .inl rfl | exact .inr rfl | focus ((repeat (first | exact trivial | (refine ⟨Stay.op false tok rfl rfl rfl ?_ (fun t ht => by cases ht; rfl), ?_⟩; (first | exact ⟨⟩ | omega | focus (simp <;> omega) | decide +kernel)) | (refine ⟨Stay.op true tok rfl rfl rfl ?_ (fun t ht => by cases ht; rfl), ?_⟩; (first | exact ⟨⟩ | omega | focus (simp <;> omega) | decide +kernel)) | refine ⟨Stay.skip rfl rfl (fun t ht => by cases ht; rfl), ?_⟩)); done))) | refine Rg.call (has) rfl rfl rfl rfl rfl ⟨⟨.refl _, trivial⟩, rfl⟩ ?_ | (refine Rg.op true tok rfl rfl rfl rfl ?_ ?_ ?_; (first | exact ⟨⟩ | omega | focus (simp <;> omega) | decide +kernel); (first | exact trivial | exact rfl | exact .inl rfl | exact .inr rfl | focus ((repeat (first | exact trivial | (refine ⟨Stay.op false tok rfl rfl rfl ?_ (fun t ht => by cases ht; rfl), ?_⟩; (first | exact ⟨⟩ | omega | focus (simp <;> omega) | decide +kernel)) | (refine ⟨Stay.op true tok rfl rfl rfl ?_ (fun t ht => by cases ht; rfl), ?_⟩; (first | exact ⟨⟩ | omega | focus (simp <;> omega) | decide +kernel)) | refine ⟨Stay.skip rfl rfl (fun t ht => by cases ht; rfl), ?_⟩)); done))) | refine Rg.nil ?_ | refine Rg.skip rfl rfl rfl ?_ | refine Run.regR ?_ | refine Run.drwR mixed (by kernel_rfl) rfl ?_ | refine Run.condT rfl ?_ | refine Run.condF rfl ?_ | ((first | refine Run.condB rfl (fun hc => ?_) (fun hc => ?_) | ((fail_if_success (refine Rg.lit true rfl ?_)); (fail_if_success (refine Rg.lit false rfl ?_)); refine Rg.guard rfl (fun hc => ?_) (fun hc => ?_))) <;> ((try simp only [cs] at hc); (first | ((exfalso; omega); done) | skip))))
        refine Run.weak (i := 1) ⟨3, 1, S.length - 1, rows eInt (S.take (S.length - 1)), false, false⟩ rfl rfl rfl (by dsimp only; omega) rfl (fun k hk => WkL.ofEq (by dsimp only at hk ⊢; exact (rows_take eInt S hk).symm)) ?_
        exact backR [0, 1] (j + 1, S.take (S.length - 1)) _ _ ⟨hlt, hF, hE, hS2⟩ (by dsimp only; omega) rfl ⟨⟨_, rfl, rfl, rfl, rfl, rfl, fun k hk => .ofEq rfl rfl⟩, ⟨_, rfl, rfl, rfl, by simp, rfl, fun k hk => .ofEq rfl rfl⟩, trivial⟩ ⟨.ptrN rfl rfl, .slcK rfl rfl rfl (by rw [List.length_take]; omega), .cl rfl, .cl rfl, .cl rfl, trivial⟩
      rw [if_neg h2] at hst
      by_cases h3 : op = 3
      · rw [if_pos h3] at hst
        rw [hst] at hF hE hlen hS2
        have hlo1 : 1 ≤ (S.length : Int) := by rw [h3] at hlo; exact hlo
        repeat' (first | refine Rg.any rfl rfl rfl (fun _ hq => G_ixOK tok (S.length - 1) rfl rfl rfl rfl rfl rfl (by omega) (by omega) hq) (by first | exact trivial | exact rfl | exact .inl rfl | exact .inr rfl | focus ((repeat (first | exact trivial | (refine ⟨Stay.op false tok rfl rfl rfl ?_ (fun t ht => by cases ht; rfl), ?_⟩; (first | exact ⟨⟩ | omega | focus (simp <;> omega) | decide +kernel)) | (refine ⟨Stay.op true tok rfl rfl rfl ?_ (fun t ht => by cases ht; rfl), ?_⟩; (first | exact ⟨⟩ | omega | focus (simp <;> omega) | decide +kernel)) | refine ⟨Stay.skip rfl rfl (fun t ht => by cases ht; rfl), ?_⟩)); done)) ?_ | refine Run.ctl rfl ?_ | (refine Rg.op false tok rfl rfl rfl rfl ?_ ?_ ?_; (first | exact ⟨⟩ | omega | focus (simp <;> omega) | decide +kernel); (first | exact trivial | exact rfl | exact .inl rfl | exact .inr rfl | focus ((repeat (first | exact trivial | (refine ⟨Stay.op false tok rfl rfl rfl ?_ (fun t ht => by cases ht; rfl), ?_⟩; (first | exact ⟨⟩ | omega | focus (simp <;> omega) | decide +kernel)) | (refine ⟨Stay.op true tok rfl rfl rfl ?_ (fun t ht => by cases ht; rfl), ?_⟩; (first | exact ⟨⟩ | omega | focus (simp <;> omega) | decide +kernel)) | refine ⟨Stay.skip rfl rfl (fun t ht => by cases ht; rfl), ?_⟩)); done))) | refine Rg.call (has) rfl rfl rfl rfl rfl ⟨⟨.refl _, trivial⟩, rfl⟩ ?_ | (refine Rg.op true tok rfl rfl rfl rfl ?_ ?_ ?_; (first | exact ⟨⟩ | omega | focus (simp <;> omega) | decide +kernel); (first | exact trivial | exact rfl | exact .inl rfl | exact .inr rfl | focus ((repeat (first | exact trivial | (refine ⟨Stay.op false tok rfl rfl rfl ?_ (fun t ht => by cases ht; rfl), ?_⟩; (first | exact ⟨⟩ | omega | focus (simp <;> omega) | decide +kernel)) | (refine ⟨Stay.op true tok rfl rfl rfl ?_ (fun t ht => by cases ht; rfl), ?_⟩; (first | exact ⟨⟩ | omega | focus (simp <;> omega) | decide +kernel)) | refine ⟨Stay.skip rfl rfl (fun t ht => by cases ht; rfl), ?_⟩)); done))) | refine Rg.nil ?_ | refine Rg.skip rfl rfl rfl ?_ | refine Run.regR ?_ | refine Run.drwR mixed (by kernel_rfl) rfl ?_ | refine Run.condT rfl ?_ | refine Run.condF rfl ?_ | ((first | refine Run.condB rfl (fun hc => ?_) (fun hc => ?_) | ((fail_if_success (refine Rg.lit true rfl ?_)); (fail_if_success (refine Rg.lit false rfl ?_)); refine Rg.guard rfl (fun hc => ?_) (fun hc => ?_))) <;> ((try simp only [cs] at hc); (first | ((exfalso; omega); done) | skip))))
        exact backR [0, 4] (j + 1, S ++ [S.getD (S.length - 1) 0]) _ _ ⟨hlt, hF, hE, hS2⟩ (by dsimp only; omega) rfl ⟨⟨_, rfl, rfl, rfl, rfl, rfl, fun k hk => .ofEq rfl rfl⟩, ⟨_, rfl, rfl, rfl, by simp, rfl, fun k hk => .ofEq (by dsimp only at hk ⊢; exact rows_snoc eInt S _ rfl (fun k _ => by rw [Nat.zero_add]) (by show eInt (S.getD (0 + (S.length - 1)) default) = _; rw [Nat.zero_add]; rfl) hk) rfl⟩, trivial⟩ ⟨.ptrN rfl rfl, .slcK rfl rfl rfl (by simp), .cl rfl, .cl rfl, .cl rfl, trivial⟩
      rw [if_neg h3] at hst
      have hp1 : op ≠ 4 → 1 ≤ opPops op := by rw [pops_at]; intro _; split <;> (try split) <;> omega
      have hp2 : op ≠ 14 → op ≠ 19 → 2 ≤ opPops op := by rw [pops_at]; intro _ _; split <;> omega
      have e1 : S.getD (S.length - 1) 0 = S.getD (0 + (S.length - 1)) default := by rw [Nat.zero_add]; rfl
      have e2 : S.getD (S.length - 2) 0 = S.getD (0 + (S.length - 2)) default := by rw [Nat.zero_add]; rfl
      rw [e1, e2] at hst
      by_cases h4 : op = 4
      · rw [if_pos h4] at hst
        rw [hst] at hF hE hlen hS2
        have hlo1 : 2 ≤ (S.length : Int) := by rw [h4] at hlo; exact hlo
        repeat' (first | (refine Run.drwP [17, 19] [0, 1, 2, 3, 4, 5, 6, 7, 8, 9, 10, 11, 12, 13, 14, 15, 16, 17, 18, 19] [none, none, none, none, none, none, none, none, none, none, none, none, none, none, none, none, none, some [5, 4, 3], none, some []] mixed (by kernel_rfl) rfl ?_) | refine Rg.any rfl rfl rfl (fun _ hq => G_ixOK tok (S.length - 1) rfl rfl rfl rfl rfl rfl (by omega) (by omega) hq) (by first | exact trivial | exact rfl | exact .inl rfl | exact .inr rfl | focus ((repeat (first | exact trivial | (refine ⟨Stay.op false tok rfl rfl rfl ?_ (fun t ht => by cases ht; rfl), ?_⟩; (first | exact ⟨⟩ | omega | focus (simp <;> omega) | decide +kernel)) | (refine ⟨Stay.op true tok rfl rfl rfl ?_ (fun t ht => by cases ht; rfl), ?_⟩; (first | exact ⟨⟩ | omega | focus (simp <;> omega) | decide +kernel)) | refine ⟨Stay.skip rfl rfl (fun t ht => by cases ht; rfl), ?_⟩)); done)) ?_ | refine Rg.any rfl rfl rfl (fun _ hq => G_ixOK tok (S.length - 2) rfl rfl rfl rfl rfl rfl (by omega) (by omega) hq) (by first | exact trivial | exact rfl | exact .inl rfl | exact .inr rfl | focus ((repeat (first | exact trivial | (refine ⟨Stay.op false tok rfl rfl rfl ?_ (fun t ht => by cases ht; rfl), ?_⟩; (first | exact ⟨⟩ | omega | focus (simp <;> omega) | decide +kernel)) | (refine ⟨Stay.op true tok rfl rfl rfl ?_ (fun t ht => by cases ht; rfl), ?_⟩; (first | exact ⟨⟩ | omega | focus (simp <;> omega) | decide +kernel)) | refine ⟨Stay.skip rfl rfl (fun t ht => by cases ht; rfl), ?_⟩)); done)) ?_ | refine Run.ctl rfl ?_ | (refine Rg.op false tok rfl rfl rfl rfl ?_ ?_ ?_; (first | exact ⟨⟩ | omega | focus (simp <;> omega) | decide +kernel); (first | exact trivial | exact rfl | exact .inl rfl | exact .inr rfl | focus ((repeat (first | exact trivial | (refine ⟨Stay.op false tok rfl rfl rfl ?_ (fun t ht => by cases ht; rfl), ?_⟩; (first | exact ⟨⟩ | omega | focus (simp <;> omega) | decide +kernel)) | (refine ⟨Stay.op true tok rfl rfl rfl ?_ (fun t ht => by cases ht; rfl), ?_⟩; (first | exact ⟨⟩ | omega | focus (simp <;> omega) | decide +kernel)) | refine ⟨Stay.skip rfl rfl (fun t ht => by cases ht; rfl), ?_⟩)); done))) | refine Rg.call (has) rfl rfl rfl rfl rfl ⟨⟨.refl _, trivial⟩, rfl⟩ ?_ | (refine Rg.op true tok rfl rfl rfl rfl ?_ ?_ ?_; (first | exact ⟨⟩ | omega | focus (simp <;> omega) | decide +kernel); (first | exact trivial | exact rfl | exact .inl rfl | exact .inr rfl | focus ((repeat (first | exact trivial | (refine ⟨Stay.op false tok rfl rfl rfl ?_ (fun t ht => by cases ht; rfl), ?_⟩; (first | exact ⟨⟩ | omega | focus (simp <;> omega) | decide +kernel)) | (refine ⟨Stay.op true tok rfl rfl rfl ?_ (fun t ht => by cases ht; rfl), ?_⟩; (first | exact ⟨⟩ | omega | focus (simp <;> omega) | decide +kernel)) | refine ⟨Stay.skip rfl rfl (fun t ht => by cases ht; rfl), ?_⟩)); done))) | refine Rg.nil ?_ | refine Rg.skip rfl rfl rfl ?_ | refine Run.regR ?_ | refine Run.drwR mixed (by kernel_rfl) rfl ?_ | refine Run.condT rfl ?_ | refine Run.condF rfl ?_ | ((first | refine Run.condB rfl (fun hc => ?_) (fun hc => ?_) | ((fail_if_success (refine Rg.lit true rfl ?_)); (fail_if_success (refine Rg.lit false rfl ?_)); refine Rg.guard rfl (fun hc => ?_) (fun hc => ?_))) <;> ((try simp only [cs] at hc); (first | ((exfalso; omega); done) | skip))))
        exact backR [0, 1] (j + 1, (S.set (S.length - 1) (S.getD (0 + (S.length - 2)) default)).set (S.length - 2) (S.getD (0 + (S.length - 1)) default)) _ _ ⟨hlt, hF, hE, hS2⟩ (by dsimp only; omega) rfl ⟨⟨_, rfl, rfl, rfl, rfl, rfl, fun k hk => .ofEq rfl rfl⟩, ⟨_, rfl, rfl, rfl, by simp, rfl, fun k hk => .ofEq (by
          dsimp only
          have hb : Nat.beq (0 + (S.length - 2)) (0 + (S.length - 1)) = false := by
            rw [Bool.eq_false_iff]
            intro hh
            have := Nat.eq_of_beq_eq_true hh
            omega
          rw [rows_set eInt _ _ (by rw [List.length_set]; omega), rows_set eInt _ _ (by omega), hb]
          rfl) rfl⟩, trivial⟩ ⟨.ptrN rfl rfl, .slcK rfl rfl rfl (by simp), .cl rfl, .cl rfl, .cl rfl, trivial⟩
      rw [if_neg h4] at hst
      have hp1 := hp1 h4
      have hone := one_ op (S.getD (0 + (S.length - 1)) default)
      have hs14 : (sumOne op (S.getD (0 + (S.length - 1)) default)).2 = false → op ≠ 14 ∧ op ≠ 19 := by
        unfold sumOne
        intro h
        refine ⟨fun e => ?_, fun e => ?_⟩ <;> (rw [e] at h; simp at h)
      generalize sumOne op (S.getD (0 + (S.length - 1)) default) = r at hone hs14 hst
      obtain ⟨v, b⟩ := r
      rw [← ho] at hone
      cases b with
      | true =>
        rw [if_pos rfl] at hst
        rw [hst] at hF hE hlen hS2
        repeat' (first | refine Rg.any rfl rfl rfl (fun _ hq => G_ixOK tok (S.length - 1) rfl rfl rfl rfl rfl rfl (by omega) (by omega) hq) (by first | exact trivial | exact rfl | exact .inl rfl | exact .inr rfl | focus ((repeat (first | exact trivial | (refine ⟨Stay.op false tok rfl rfl rfl ?_ (fun t ht => by cases ht; rfl), ?_⟩; (first | exact ⟨⟩ | omega | focus (simp <;> omega) | decide +kernel)) | (refine ⟨Stay.op true tok rfl rfl rfl ?_ (fun t ht => by cases ht; rfl), ?_⟩; (first | exact ⟨⟩ | omega | focus (simp <;> omega) | decide +kernel)) | refine ⟨Stay.skip rfl rfl (fun t ht => by cases ht; rfl), ?_⟩)); done)) ?_ | refine Run.ctl rfl ?_ | (refine Rg.op false tok rfl rfl rfl rfl ?_ ?_ ?_; (first | exact ⟨⟩ | omega | focus (simp <;> omega) | decide +kernel); (first | exact trivial | exact rfl | exact .inl rfl | exact .inr rfl | focus ((repeat (first | exact trivial | (refine ⟨Stay.op false tok rfl rfl rfl ?_ (fun t ht => by cases ht; rfl), ?_⟩; (first | exact ⟨⟩ | omega | focus (simp <;> omega) | decide +kernel)) | (refine ⟨Stay.op true tok rfl rfl rfl ?_ (fun t ht => by cases ht; rfl), ?_⟩; (first | exact ⟨⟩ | omega | focus (simp <;> omega) | decide +kernel)) | refine ⟨Stay.skip rfl rfl (fun t ht => by cases ht; rfl), ?_⟩)); done))) | refine Rg.call (has) rfl rfl rfl rfl rfl ⟨⟨.refl _, trivial⟩, rfl⟩ ?_ | refine Rg.call (hone) rfl rfl rfl rfl rfl ⟨⟨.refl _, .refl _, trivial⟩, rfl⟩ ?_ | (refine Rg.op true tok rfl rfl rfl rfl ?_ ?_ ?_; (first | exact ⟨⟩ | omega | focus (simp <;> omega) | decide +kernel); (first | exact trivial | exact rfl | exact .inl rfl | exact .inr rfl | focus ((repeat (first | exact trivial | (refine ⟨Stay.op false tok rfl rfl rfl ?_ (fun t ht => by cases ht; rfl), ?_⟩; (first | exact ⟨⟩ | omega | focus (simp <;> omega) | decide +kernel)) | (refine ⟨Stay.op true tok rfl rfl rfl ?_ (fun t ht => by cases ht; rfl), ?_⟩; (first | exact ⟨⟩ | omega | focus (simp <;> omega) | decide +kernel)) | refine ⟨Stay.skip rfl rfl (fun t ht => by cases ht; rfl), ?_⟩)); done))) | refine Rg.nil ?_ | refine Rg.skip rfl rfl rfl ?_ | refine Run.regR ?_ | refine Run.drwR mixed (by kernel_rfl) rfl ?_ | refine Run.condT rfl ?_ | refine Run.condF rfl ?_ | ((first | refine Run.condB rfl (fun hc => ?_) (fun hc => ?_) | ((fail_if_success (refine Rg.lit true rfl ?_)); (fail_if_success (refine Rg.lit false rfl ?_)); refine Rg.guard rfl (fun hc => ?_) (fun hc => ?_))) <;> ((try simp only [cs] at hc); (first | ((exfalso; omega); done) | skip))))
        exact backR [0, 1] (j + 1, S.set (S.length - 1) v) _ _ ⟨hlt, hF, hE, hS2⟩ (by dsimp only; omega) rfl ⟨⟨_, rfl, rfl, rfl, rfl, rfl, fun k hk => .ofEq rfl rfl⟩, ⟨_, rfl, rfl, rfl, by simp, rfl, fun k hk => .ofEq (by
          dsimp only
          rw [rows_set eInt _ _ (by omega)]
          rfl) rfl⟩, trivial⟩ ⟨.ptrN rfl rfl, .slcK rfl rfl rfl (by simp), .cl rfl, .cl rfl, .cl rfl, trivial⟩
      | false =>
        have hp2 := hp2 (hs14 rfl).1 (hs14 rfl).2
        rw [if_neg (by simp)] at hst
        have htwo := two_ op (S.getD (0 + (S.length - 2)) default) (S.getD (0 + (S.length - 1)) default)
        generalize sumTwo op (S.getD (0 + (S.length - 2)) default) (S.getD (0 + (S.length - 1)) default) = r2 at htwo hst
        obtain ⟨v2, dn⟩ := r2
        rw [← ho] at htwo
        rw [hst] at hF hE hlen hS2
        repeat' (first | refine Rg.any rfl rfl rfl (fun _ hq => G_ixOK tok (S.length - 1) rfl rfl rfl rfl rfl rfl (by omega) (by omega) hq) (by first | exact trivial | exact rfl | exact .inl rfl | exact .inr rfl | focus ((repeat (first | exact trivial | (refine ⟨Stay.op false tok rfl rfl rfl ?_ (fun t ht => by cases ht; rfl), ?_⟩; (first | exact ⟨⟩ | omega | focus (simp <;> omega) | decide +kernel)) | (refine ⟨Stay.op true tok rfl rfl rfl ?_ (fun t ht => by cases ht; rfl), ?_⟩; (first | exact ⟨⟩ | omega | focus (simp <;> omega) | decide +kernel)) | refine ⟨Stay.skip rfl rfl (fun t ht => by cases ht; rfl), ?_⟩)); done)) ?_ | refine Rg.any rfl rfl rfl (fun _ hq => G_ixOK tok (S.length - 2) rfl rfl rfl rfl rfl rfl (by omega) (by omega) hq) (by first | exact trivial | exact rfl | exact .inl rfl | exact .inr rfl | focus ((repeat (first | exact trivial | (refine ⟨Stay.op false tok rfl rfl rfl ?_ (fun t ht => by cases ht; rfl), ?_⟩; (first | exact ⟨⟩ | omega | focus (simp <;> omega) | decide +kernel)) | (refine ⟨Stay.op true tok rfl rfl rfl ?_ (fun t ht => by cases ht; rfl), ?_⟩; (first | exact ⟨⟩ | omega | focus (simp <;> omega) | decide +kernel)) | refine ⟨Stay.skip rfl rfl (fun t ht => by cases ht; rfl), ?_⟩)); done)) ?_ | refine Run.ctl rfl ?_ | (refine Rg.op false tok rfl rfl rfl rfl ?_ ?_ ?_; (first | exact ⟨⟩ | omega | focus (simp <;> omega) | decide +kernel); (first | exact trivial | exact rfl | exact .inl rfl | exact .inr rfl | focus ((repeat (first | exact trivial | (refine ⟨Stay.op false tok rfl rfl rfl ?_ (fun t ht => by cases ht; rfl), ?_⟩; (first | exact ⟨⟩ | omega | focus (simp <;> omega) | decide +kernel)) | (refine ⟨Stay.op true tok rfl rfl rfl ?_ (fun t ht => by cases ht; rfl), ?_⟩; (first | exact ⟨⟩ | omega | focus (simp <;> omega) | decide +kernel)) | refine ⟨Stay.skip rfl rfl (fun t ht => by cases ht; rfl), ?_⟩)); done))) | refine Rg.call (has) rfl rfl rfl rfl rfl ⟨⟨.refl _, trivial⟩, rfl⟩ ?_ | refine Rg.call (hone) rfl rfl rfl rfl rfl ⟨⟨.refl _, .refl _, trivial⟩, rfl⟩ ?_ | refine Rg.call (htwo) rfl rfl rfl rfl rfl ⟨⟨.refl _, .refl _, .refl _, trivial⟩, rfl⟩ ?_ | (refine Rg.op true tok rfl rfl rfl rfl ?_ ?_ ?_; (first | exact ⟨⟩ | omega | focus (simp <;> omega) | decide +kernel); (first | exact trivial | exact rfl | exact .inl rfl | exact .inr rfl | focus ((repeat (first | exact trivial | (refine ⟨Stay.op false tok rfl rfl rfl ?_ (fun t ht => by cases ht; rfl), ?_⟩; (first | exact ⟨⟩ | omega | focus (simp <;> omega) | decide +kernel)) | (refine ⟨Stay.op true tok rfl rfl rfl ?_ (fun t ht => by cases ht; rfl), ?_⟩; (first | exact ⟨⟩ | omega | focus (simp <;> omega) | decide +kernel)) | refine ⟨Stay.skip rfl rfl (fun t ht => by cases ht; rfl), ?_⟩)); done))) | refine Rg.nil ?_ | refine Rg.skip rfl rfl rfl ?_ | refine Run.regR ?_ | refine Run.drwR mixed (by kernel_rfl) rfl ?_ | refine Run.condT rfl ?_ | refine Run.condF rfl ?_ | ((first | refine Run.condB rfl (fun hc => ?_) (fun hc => ?_) | ((fail_if_success (refine Rg.lit true rfl ?_)); (fail_if_success (refine Rg.lit false rfl ?_)); refine Rg.guard rfl (fun hc => ?_) (fun hc => ?_))) <;> ((try simp only [cs] at hc); (first | ((exfalso; omega); done) | skip))))
        exact backR [0, 4] (j + 1, S.take (S.length - 2) ++ [v2]) _ _ ⟨hlt, hF, hE, hS2⟩ (by dsimp only; omega) rfl ⟨⟨_, rfl, rfl, rfl, rfl, rfl, fun k hk => .ofEq rfl rfl⟩, ⟨_, rfl, rfl, rfl, by simp; omega, rfl, fun k hk => .ofEq (by
          dsimp only at hk ⊢
          exact rows_snoc eInt (S.take (S.length - 2)) v2 (by rw [List.length_take]; omega) (fun k hk => by rw [List.length_take] at hk; rw [rows_take eInt S (by omega)]; congr 1; omega) rfl hk) rfl⟩, trivial⟩ ⟨.ptrN rfl rfl, .slcK rfl rfl rfl (by simp; omega), .cl rfl, .cl rfl, .cl rfl, trivial⟩
  · obtain rfl : j = x.length := by omega
    rw [List.drop_length] at hF hE
    have hS1 : (S.length : Int) = 1 := by
      unfold exFrom at hE
      by_cases h : (S.length : Int) = 1
      · exact h
      · rw [if_pos h] at hE; cases hE
    have hS0 : 0 < S.length := by omega
    rw [List.foldl_nil] at hF
    subst hF
    repeat' (first | refine Run.ctl rfl ?_ | (refine Rg.op false tok rfl rfl rfl rfl ?_ ?_ ?_; (first | exact ⟨⟩ | omega | focus (exact hS0) | focus (simp <;> omega) | decide +kernel); (first | exact trivial | exact rfl | exact .inl rfl | exact .inr rfl | focus ((repeat (first | exact trivial | (refine ⟨Stay.op false tok rfl rfl rfl ?_ (fun t ht => by cases ht; rfl), ?_⟩; (first | exact ⟨⟩ | omega | focus (simp <;> omega) | decide +kernel)) | (refine ⟨Stay.op true tok rfl rfl rfl ?_ (fun t ht => by cases ht; rfl), ?_⟩; (first | exact ⟨⟩ | omega | focus (simp <;> omega) | decide +kernel)) | refine ⟨Stay.skip rfl rfl (fun t ht => by cases ht; rfl), ?_⟩)); done))) | (refine Rg.op true tok rfl rfl rfl rfl ?_ ?_ ?_; (first | exact ⟨⟩ | omega | focus (exact hS0) | focus (simp <;> omega) | decide +kernel); (first | exact trivial | exact rfl | exact .inl rfl | exact .inr rfl | focus ((repeat (first | exact trivial | (refine ⟨Stay.op false tok rfl rfl rfl ?_ (fun t ht => by cases ht; rfl), ?_⟩; (first | exact ⟨⟩ | omega | focus (simp <;> omega) | decide +kernel)) | (refine ⟨Stay.op true tok rfl rfl rfl ?_ (fun t ht => by cases ht; rfl), ?_⟩; (first | exact ⟨⟩ | omega | focus (simp <;> omega) | decide +kernel)) | refine ⟨Stay.skip rfl rfl (fun t ht => by cases ht; rfl), ?_⟩)); done))) | refine Rg.nil ?_ | refine Rg.skip rfl rfl rfl ?_ | refine Run.regR ?_ | refine Run.drwR mixed (by kernel_rfl) rfl ?_ | refine Run.condT rfl ?_ | refine Run.condF rfl ?_ | ((first | refine Run.condB rfl (fun hc => ?_) (fun hc => ?_) | ((fail_if_success (refine Rg.lit true rfl ?_)); (fail_if_success (refine Rg.lit false rfl ?_)); refine Rg.guard rfl (fun hc => ?_) (fun hc => ?_))) <;> ((try simp only [cs] at hc); (first | ((exfalso; omega); done) | skip))))
    (first | refine Run.ret tok Tryd.func40 rfl ?_ | refine Run.fall tok Tryd.func40 rfl ?_)
    exact .refl _
end Go.Proofs.YtlimecfjpfaljaaDoor.W
end
section
/- Walks: what a world may be (chapter 9). -/
set_option linter.unusedVariables false
set_option linter.unusedSimpArgs false
set_option linter.unusedSectionVars false
set_option pp.maxSteps 40000
set_option maxHeartbeats 4000000
namespace Go.Proofs.YtlimecfjpfaljaaDoor.W
open Go Go.Sy

theorem message_ (p : Pg) (w : Wd) (m : Msg) : Pure Tryd.prog 58 [pPg p, pWd w, pMsg m] (bl (msgFit p w m)) := by
  have hn := noteWhy_ p m.note
  unfold msgFit
  by_cases h0 : noteWhy p m.note ≠ 0 ∨ m.id.n < 0 ∨ m.id.copy < 0 ∨ w.used.dup < m.id.copy ∨ m.id.from_ < -1 ∨ (w.actors.length : Int) ≤ m.id.from_
  · rw [if_pos h0]
    generalize noteWhy p m.note = z at hn h0
    refine Pure.of_spec (Spec.of_run (fn := Tryd.f58) Tryd.func58 rfl rfl (by kernel_rfl) ?_) (by first | assumption | rfl | (split <;> rfl) | (split <;> split <;> rfl))
    repeat' (first | refine Run.ctl rfl ?_ | (refine Rg.op false tok rfl rfl rfl rfl ?_ ?_ ?_; (first | exact ⟨⟩ | omega | focus (simp <;> omega) | decide +kernel); (first | exact trivial | exact rfl | exact .inl rfl | exact .inr rfl | focus ((repeat (first | exact trivial | (refine ⟨Stay.op false tok rfl rfl rfl ?_ (fun t ht => by cases ht; rfl), ?_⟩; (first | exact ⟨⟩ | omega | focus (simp <;> omega) | decide +kernel)) | (refine ⟨Stay.op true tok rfl rfl rfl ?_ (fun t ht => by cases ht; rfl), ?_⟩; (first | exact ⟨⟩ | omega | focus (simp <;> omega) | decide +kernel)) | refine ⟨Stay.skip rfl rfl (fun t ht => by cases ht; rfl), ?_⟩)); done))) | refine Rg.call (hn) rfl rfl rfl rfl rfl ⟨⟨.refl _, .refl _, trivial⟩, rfl⟩ ?_ | (refine Rg.op true tok rfl rfl rfl rfl ?_ ?_ ?_; (first | exact ⟨⟩ | omega | focus (simp <;> omega) | decide +kernel); (first | exact trivial | exact rfl | exact .inl rfl | exact .inr rfl | focus ((repeat (first | exact trivial | (refine ⟨Stay.op false tok rfl rfl rfl ?_ (fun t ht => by cases ht; rfl), ?_⟩; (first | exact ⟨⟩ | omega | focus (simp <;> omega) | decide +kernel)) | (refine ⟨Stay.op true tok rfl rfl rfl ?_ (fun t ht => by cases ht; rfl), ?_⟩; (first | exact ⟨⟩ | omega | focus (simp <;> omega) | decide +kernel)) | refine ⟨Stay.skip rfl rfl (fun t ht => by cases ht; rfl), ?_⟩)); done))) | refine Rg.nil ?_ | refine Rg.skip rfl rfl rfl ?_ | refine Run.regR ?_ | refine Run.drwR mixed (by kernel_rfl) rfl ?_ | refine Run.condT rfl ?_ | refine Run.condF rfl ?_ | ((first | refine Run.condB rfl (fun hc => ?_) (fun hc => ?_) | ((fail_if_success (refine Rg.lit true rfl ?_)); (fail_if_success (refine Rg.lit false rfl ?_)); refine Rg.guard rfl (fun hc => ?_) (fun hc => ?_))) <;> ((try simp only [cs] at hc); (first | ((exfalso; omega); done) | skip))))
    all_goals ((first | refine Run.ret tok Tryd.func58 rfl ?_ | refine Run.fall tok Tryd.func58 rfl ?_); exact .refl _)
  rw [if_neg h0]
  generalize noteWhy p m.note = z at hn h0
  by_cases h1 : m.id.from_ = -1
  · rw [if_pos h1]
    refine Pure.of_spec (Spec.of_run (fn := Tryd.f58) Tryd.func58 rfl rfl (by kernel_rfl) ?_) (by first | assumption | rfl | (split <;> rfl) | (split <;> split <;> rfl))
    repeat' (first | refine Run.ctl rfl ?_ | (refine Rg.op false tok rfl rfl rfl rfl ?_ ?_ ?_; (first | exact ⟨⟩ | omega | focus (simp <;> omega) | decide +kernel); (first | exact trivial | exact rfl | exact .inl rfl | exact .inr rfl | focus ((repeat (first | exact trivial | (refine ⟨Stay.op false tok rfl rfl rfl ?_ (fun t ht => by cases ht; rfl), ?_⟩; (first | exact ⟨⟩ | omega | focus (simp <;> omega) | decide +kernel)) | (refine ⟨Stay.op true tok rfl rfl rfl ?_ (fun t ht => by cases ht; rfl), ?_⟩; (first | exact ⟨⟩ | omega | focus (simp <;> omega) | decide +kernel)) | refine ⟨Stay.skip rfl rfl (fun t ht => by cases ht; rfl), ?_⟩)); done))) | refine Rg.call (hn) rfl rfl rfl rfl rfl ⟨⟨.refl _, .refl _, trivial⟩, rfl⟩ ?_ | (refine Rg.op true tok rfl rfl rfl rfl ?_ ?_ ?_; (first | exact ⟨⟩ | omega | focus (simp <;> omega) | decide +kernel); (first | exact trivial | exact rfl | exact .inl rfl | exact .inr rfl | focus ((repeat (first | exact trivial | (refine ⟨Stay.op false tok rfl rfl rfl ?_ (fun t ht => by cases ht; rfl), ?_⟩; (first | exact ⟨⟩ | omega | focus (simp <;> omega) | decide +kernel)) | (refine ⟨Stay.op true tok rfl rfl rfl ?_ (fun t ht => by cases ht; rfl), ?_⟩; (first | exact ⟨⟩ | omega | focus (simp <;> omega) | decide +kernel)) | refine ⟨Stay.skip rfl rfl (fun t ht => by cases ht; rfl), ?_⟩)); done))) | refine Rg.nil ?_ | refine Rg.skip rfl rfl rfl ?_ | refine Run.regR ?_ | refine Run.drwR mixed (by kernel_rfl) rfl ?_ | refine Run.condT rfl ?_ | refine Run.condF rfl ?_ | ((first | refine Run.condB rfl (fun hc => ?_) (fun hc => ?_) | ((fail_if_success (refine Rg.lit true rfl ?_)); (fail_if_success (refine Rg.lit false rfl ?_)); refine Rg.guard rfl (fun hc => ?_) (fun hc => ?_))) <;> ((try simp only [cs] at hc); (first | ((exfalso; omega); done) | skip))))
    (first | refine Run.ret tok Tryd.func58 rfl ?_ | refine Run.fall tok Tryd.func58 rfl ?_)
    exact .refl _
  rw [if_neg h1]
  obtain ⟨⟨f, n, c⟩, nt⟩ := m
  dsimp only at h0 h1 hn ⊢
  obtain ⟨k, rfl⟩ : ∃ k : Nat, f = k := ⟨f.toNat, by omega⟩
  rw [Int.toNat_natCast]
  refine Pure.of_spec (Spec.of_run (fn := Tryd.f58) Tryd.func58 rfl rfl (by kernel_rfl) ?_) (by first | assumption | rfl | (split <;> rfl) | (split <;> split <;> rfl))
  repeat' (first | refine Run.ctl rfl ?_ | (refine Rg.op false tok rfl rfl rfl rfl ?_ ?_ ?_; (first | exact ⟨⟩ | omega | focus (simp <;> omega) | decide +kernel); (first | exact trivial | exact rfl | exact .inl rfl | exact .inr rfl | focus ((repeat (first | exact trivial | (refine ⟨Stay.op false tok rfl rfl rfl ?_ (fun t ht => by cases ht; rfl), ?_⟩; (first | exact ⟨⟩ | omega | focus (simp <;> omega) | decide +kernel)) | (refine ⟨Stay.op true tok rfl rfl rfl ?_ (fun t ht => by cases ht; rfl), ?_⟩; (first | exact ⟨⟩ | omega | focus (simp <;> omega) | decide +kernel)) | refine ⟨Stay.skip rfl rfl (fun t ht => by cases ht; rfl), ?_⟩)); done))) | refine Rg.call (hn) rfl rfl rfl rfl rfl ⟨⟨.refl _, .refl _, trivial⟩, rfl⟩ ?_ | (refine Rg.op true tok rfl rfl rfl rfl ?_ ?_ ?_; (first | exact ⟨⟩ | omega | focus (simp <;> omega) | decide +kernel); (first | exact trivial | exact rfl | exact .inl rfl | exact .inr rfl | focus ((repeat (first | exact trivial | (refine ⟨Stay.op false tok rfl rfl rfl ?_ (fun t ht => by cases ht; rfl), ?_⟩; (first | exact ⟨⟩ | omega | focus (simp <;> omega) | decide +kernel)) | (refine ⟨Stay.op true tok rfl rfl rfl ?_ (fun t ht => by cases ht; rfl), ?_⟩; (first | exact ⟨⟩ | omega | focus (simp <;> omega) | decide +kernel)) | refine ⟨Stay.skip rfl rfl (fun t ht => by cases ht; rfl), ?_⟩)); done))) | refine Rg.nil ?_ | refine Rg.skip rfl rfl rfl ?_ | refine Run.regR ?_ | refine Run.drwR mixed (by kernel_rfl) rfl ?_ | refine Run.condT rfl ?_ | refine Run.condF rfl ?_ | ((first | refine Run.condB rfl (fun hc => ?_) (fun hc => ?_) | ((fail_if_success (refine Rg.lit true rfl ?_)); (fail_if_success (refine Rg.lit false rfl ?_)); refine Rg.guard rfl (fun hc => ?_) (fun hc => ?_))) <;> ((try simp only [cs] at hc); (first | ((exfalso; omega); done) | skip))))
  (first | refine Run.ret tok Tryd.func58 rfl ?_ | refine Run.fall tok Tryd.func58 rfl ?_)
  exact .refl _
theorem lmax2 (a b : Int) : a ≤ lmax a [b] ∧ b ≤ lmax a [b] ∧ (lmax a [b] = a ∨ lmax a [b] = b) := by
  simp only [lmax]
  omega
theorem local_ (a : Act) (l : Lcl) : Pure Tryd.prog 55 [pAct a, pLcl l] (bl (localFit a l)) := by
  obtain ⟨regs, armed, down, sent, over⟩ := l
  have hm := lmin2 sent over
  have hM := lmax2 sent over
  unfold localFit
  dsimp only
  cases armed <;> (
  refine Pure.of_spec (Spec.of_run (fn := Tryd.f55) Tryd.func55 rfl rfl (by kernel_rfl) ?_) (by first | assumption | rfl | (split <;> rfl) | (split <;> split <;> rfl))
  repeat' (first | refine Run.ctl rfl ?_ | (refine Rg.op false tok rfl rfl rfl rfl ?_ ?_ ?_; (first | exact ⟨⟩ | omega | focus (simp <;> omega) | decide +kernel); (first | exact trivial | exact rfl | exact .inl rfl | exact .inr rfl)) | (refine Rg.op true tok rfl rfl rfl rfl ?_ ?_ ?_; (first | exact ⟨⟩ | omega | focus (simp <;> omega) | decide +kernel); (first | exact trivial | exact rfl | exact .inl rfl | exact .inr rfl)) | refine Rg.nil ?_ | refine Rg.skip rfl rfl rfl ?_ | refine Run.regR ?_ | refine Run.condT rfl ?_ | refine Run.condF rfl ?_ | ((first | refine Run.condB rfl (fun hc => ?_) (fun hc => ?_) | ((fail_if_success (refine Rg.lit true rfl ?_)); (fail_if_success (refine Rg.lit false rfl ?_)); refine Rg.guard rfl (fun hc => ?_) (fun hc => ?_))) <;> ((try simp only [cs] at hc); (first | ((exfalso; omega); done) | skip))))
  all_goals ((first | refine Run.ret tok Tryd.func55 rfl ?_ | refine Run.fall tok Tryd.func55 rfl ?_); refine .ofBool ?_; (try dsimp only); (rw [Bool.eq_iff_iff]; simp only [Bool.or_eq_true, Bool.and_eq_true, decide_eq_true_eq, bne_iff_ne, beq_iff_eq, ne_eq, Bool.not_eq_true, Bool.not_eq_true', Bool.not_eq_false', Bool.not_eq_eq_eq_not, Bool.not_true, Bool.not_false, decide_eq_false_iff_not, bne_eq_false_iff_eq, beq_eq_false_iff_ne, Bool.false_eq_true, reduceCtorEq, false_and, true_and, and_false, and_true, not_false_eq_true, not_true_eq_false, true_iff, false_iff, iff_true, iff_false]; omega)))
theorem sortedMail_iff : ∀ (l : List Msg), sortedMail l = true ↔ ∀ q, q + 1 < l.length → lessID (l.getD q default).id (l.getD (q + 1) default).id = true
  | [] => by simp [sortedMail]
  | [a] => by simp [sortedMail]
  | a :: b :: l => by
    unfold sortedMail
    rw [Bool.and_eq_true, sortedMail_iff (b :: l)]
    constructor
    · rintro ⟨h1, h2⟩ q hq
      cases q with
      | zero => exact h1
      | succ q => exact h2 q (by simpa using hq)
    · intro h
      exact ⟨h 0 (by simp), fun q hq => h (q + 1) (by simpa using hq)⟩
theorem any_findIx {α : Type} (F : α → Bool) : ∀ (l : List α) (k : Nat), l.any F = decide (findIx F l k ≥ 0)
  | [], k => rfl
  | x :: l, k => by
    unfold findIx
    rw [List.any_cons, any_findIx F l (k + 1)]
    cases h : F x with
    | true => simp
    | false => simp
theorem containsF_ (F : Msg → Bool) (g : FuncId) (cap : List PV) (hc0 : closedL cap = true) (l : List Msg) (hl : l.length ≤ 100000) (hp : ∀ x ∈ l, Pure Tryd.prog g (pMsg x :: cap) (bl (F x))) : Pure Tryd.prog 56 [sl 6 eMsg l, .func g cap] (bl (l.any F)) := by
  have h := indexF_ F g cap hc0 l hl hp
  have e := any_findIx F l 0
  rw [e]
  refine Pure.of_spec (Spec.of_run (fn := Tryd.f56) Tryd.func56 rfl rfl (by kernel_rfl) ?_) (by first | assumption | rfl | (split <;> rfl) | (split <;> split <;> rfl))
  repeat' (first | refine Run.ctl rfl ?_ | (refine Rg.op false tok rfl rfl rfl rfl ?_ ?_ ?_; (first | exact ⟨⟩ | omega | focus (simp <;> omega) | decide +kernel); (first | exact trivial | exact rfl | exact .inl rfl | exact .inr rfl)) | refine Rg.call (h) rfl rfl rfl rfl rfl ⟨⟨.refl _, .refl _, trivial⟩, by show (bif closedL cap then true else false) = true; rw [hc0]; rfl⟩ ?_ | (refine Rg.op true tok rfl rfl rfl rfl ?_ ?_ ?_; (first | exact ⟨⟩ | omega | focus (simp <;> omega) | decide +kernel); (first | exact trivial | exact rfl | exact .inl rfl | exact .inr rfl)) | refine Rg.nil ?_ | refine Rg.skip rfl rfl rfl ?_ | refine Run.regR ?_ | refine Run.condT rfl ?_ | refine Run.condF rfl ?_ | ((first | refine Run.condB rfl (fun hc => ?_) (fun hc => ?_) | ((fail_if_success (refine Rg.lit true rfl ?_)); (fail_if_success (refine Rg.lit false rfl ?_)); refine Rg.guard rfl (fun hc => ?_) (fun hc => ?_))) <;> ((try simp only [cs] at hc))))
  (first | refine Run.ret tok Tryd.func56 rfl ?_ | refine Run.fall tok Tryd.func56 rfl ?_)
  exact .refl _
theorem sorted_ (l : List Msg) (hl : l.length ≤ 100000) : Pure Tryd.prog 54 [sl 6 eMsg l] (bl (sortedMail l)) := by
  refine Pure.of_spec (Spec.of_run (fn := Tryd.f54) Tryd.func54 rfl rfl (by kernel_rfl) ?_) (by first | assumption | rfl | (split <;> rfl) | (split <;> split <;> rfl))
  repeat' (first | refine Run.ctl rfl ?_ | (refine Rg.op false tok rfl rfl rfl rfl ?_ ?_ ?_; (first | exact ⟨⟩ | omega | focus (simp <;> omega) | decide +kernel); (first | exact trivial | exact rfl | exact .inl rfl | exact .inr rfl | focus ((repeat (first | exact trivial | (refine ⟨Stay.op false tok rfl rfl rfl ?_ (fun t ht => by cases ht; rfl), ?_⟩; (first | exact ⟨⟩ | omega | focus (simp <;> omega) | decide +kernel)) | (refine ⟨Stay.op true tok rfl rfl rfl ?_ (fun t ht => by cases ht; rfl), ?_⟩; (first | exact ⟨⟩ | omega | focus (simp <;> omega) | decide +kernel)) | refine ⟨Stay.skip rfl rfl (fun t ht => by cases ht; rfl), ?_⟩)); done))) | (refine Rg.op true tok rfl rfl rfl rfl ?_ ?_ ?_; (first | exact ⟨⟩ | omega | focus (simp <;> omega) | decide +kernel); (first | exact trivial | exact rfl | exact .inl rfl | exact .inr rfl | focus ((repeat (first | exact trivial | (refine ⟨Stay.op false tok rfl rfl rfl ?_ (fun t ht => by cases ht; rfl), ?_⟩; (first | exact ⟨⟩ | omega | focus (simp <;> omega) | decide +kernel)) | (refine ⟨Stay.op true tok rfl rfl rfl ?_ (fun t ht => by cases ht; rfl), ?_⟩; (first | exact ⟨⟩ | omega | focus (simp <;> omega) | decide +kernel)) | refine ⟨Stay.skip rfl rfl (fun t ht => by cases ht; rfl), ?_⟩)); done))) | refine Rg.nil ?_ | refine Rg.skip rfl rfl rfl ?_ | refine Run.regR ?_ | refine Run.drwR mixed (by kernel_rfl) rfl ?_ | refine Run.condT rfl ?_ | refine Run.condF rfl ?_ | ((first | refine Run.condB rfl (fun hc => ?_) (fun hc => ?_) | ((fail_if_success (refine Rg.lit true rfl ?_)); (fail_if_success (refine Rg.lit false rfl ?_)); refine Rg.guard rfl (fun hc => ?_) (fun hc => ?_))) <;> ((try simp only [cs] at hc); (first | ((exfalso; omega); done) | skip))))
  refine Run.loopN (ι := Nat) (fun i => ([(0, sl 6 eMsg l), (4, sl 6 eMsg l), (5, i64 l.length), (6, i64 i)], [])) (fun i => i ≤ l.length ∧ ∀ q, q + 1 < i → lessID (l.getD q default).id (l.getD (q + 1) default).id = true) (fun i => l.length - i) 0 ⟨rfl, rfl, rfl, rfl, trivial⟩ rfl ⟨by omega, fun q hq => by omega⟩ ?_
  rintro i ⟨hi, hf⟩ back backR
  by_cases hlt : i < l.length
  · cases i with
    | zero =>
      repeat' (first | refine Run.ctl rfl ?_ | (refine Rg.op false tok rfl rfl rfl rfl ?_ ?_ ?_; (first | exact ⟨⟩ | omega | focus (simp <;> omega) | decide +kernel); (first | exact trivial | exact rfl | exact .inl rfl | exact .inr rfl | focus ((repeat (first | exact trivial | (refine ⟨Stay.op false tok rfl rfl rfl ?_ (fun t ht => by cases ht; rfl), ?_⟩; (first | exact ⟨⟩ | omega | focus (simp <;> omega) | decide +kernel)) | (refine ⟨Stay.op true tok rfl rfl rfl ?_ (fun t ht => by cases ht; rfl), ?_⟩; (first | exact ⟨⟩ | omega | focus (simp <;> omega) | decide +kernel)) | refine ⟨Stay.skip rfl rfl (fun t ht => by cases ht; rfl), ?_⟩)); done))) | (refine Rg.op true tok rfl rfl rfl rfl ?_ ?_ ?_; (first | exact ⟨⟩ | omega | focus (simp <;> omega) | decide +kernel); (first | exact trivial | exact rfl | exact .inl rfl | exact .inr rfl | focus ((repeat (first | exact trivial | (refine ⟨Stay.op false tok rfl rfl rfl ?_ (fun t ht => by cases ht; rfl), ?_⟩; (first | exact ⟨⟩ | omega | focus (simp <;> omega) | decide +kernel)) | (refine ⟨Stay.op true tok rfl rfl rfl ?_ (fun t ht => by cases ht; rfl), ?_⟩; (first | exact ⟨⟩ | omega | focus (simp <;> omega) | decide +kernel)) | refine ⟨Stay.skip rfl rfl (fun t ht => by cases ht; rfl), ?_⟩)); done))) | refine Rg.nil ?_ | refine Rg.skip rfl rfl rfl ?_ | refine Run.regR ?_ | refine Run.drwR mixed (by kernel_rfl) rfl ?_ | refine Run.condT rfl ?_ | refine Run.condF rfl ?_ | ((first | refine Run.condB rfl (fun hc => ?_) (fun hc => ?_) | ((fail_if_success (refine Rg.lit true rfl ?_)); (fail_if_success (refine Rg.lit false rfl ?_)); refine Rg.guard rfl (fun hc => ?_) (fun hc => ?_))) <;> ((try simp only [cs] at hc); (first | ((exfalso; omega); done) | ((exfalso; simp at hc; done); done) | skip))))
      exact back 1 _ _ ⟨by omega, fun q hq => by omega⟩ (by omega) ⟨rfl, rfl, rfl, rfl, trivial⟩ rfl
    | succ i =>
      have hle := less_ (l.getD i default).id (l.getD (i + 1) default).id
      cases hb : lessID (l.getD i default).id (l.getD (i + 1) default).id with
      | true =>
        rw [hb] at hle
        repeat' (first | refine Rg.any rfl rfl rfl (fun _ hq => G_ixFK tok i rfl rfl rfl rfl rfl (by omega) (by omega) hq) (by first | exact trivial | exact rfl | exact .inl rfl | exact .inr rfl | focus ((repeat (first | exact trivial | (refine ⟨Stay.op false tok rfl rfl rfl ?_ (fun t ht => by cases ht; rfl), ?_⟩; (first | exact ⟨⟩ | omega | focus (simp <;> omega) | decide +kernel)) | (refine ⟨Stay.op true tok rfl rfl rfl ?_ (fun t ht => by cases ht; rfl), ?_⟩; (first | exact ⟨⟩ | omega | focus (simp <;> omega) | decide +kernel)) | refine ⟨Stay.skip rfl rfl (fun t ht => by cases ht; rfl), ?_⟩)); done)) ?_ | refine Run.ctl rfl ?_ | (refine Rg.op false tok rfl rfl rfl rfl ?_ ?_ ?_; (first | exact ⟨⟩ | omega | focus (simp <;> omega) | decide +kernel); (first | exact trivial | exact rfl | exact .inl rfl | exact .inr rfl | focus ((repeat (first | exact trivial | (refine ⟨Stay.op false tok rfl rfl rfl ?_ (fun t ht => by cases ht; rfl), ?_⟩; (first | exact ⟨⟩ | omega | focus (simp <;> omega) | decide +kernel)) | (refine ⟨Stay.op true tok rfl rfl rfl ?_ (fun t ht => by cases ht; rfl), ?_⟩; (first | exact ⟨⟩ | omega | focus (simp <;> omega) | decide +kernel)) | refine ⟨Stay.skip rfl rfl (fun t ht => by cases ht; rfl), ?_⟩)); done))) | refine Rg.call (hle) rfl rfl rfl rfl rfl ⟨⟨.refl _, .refl _, trivial⟩, rfl⟩ ?_ | (refine Rg.op true tok rfl rfl rfl rfl ?_ ?_ ?_; (first | exact ⟨⟩ | omega | focus (simp <;> omega) | decide +kernel); (first | exact trivial | exact rfl | exact .inl rfl | exact .inr rfl | focus ((repeat (first | exact trivial | (refine ⟨Stay.op false tok rfl rfl rfl ?_ (fun t ht => by cases ht; rfl), ?_⟩; (first | exact ⟨⟩ | omega | focus (simp <;> omega) | decide +kernel)) | (refine ⟨Stay.op true tok rfl rfl rfl ?_ (fun t ht => by cases ht; rfl), ?_⟩; (first | exact ⟨⟩ | omega | focus (simp <;> omega) | decide +kernel)) | refine ⟨Stay.skip rfl rfl (fun t ht => by cases ht; rfl), ?_⟩)); done))) | refine Rg.nil ?_ | refine Rg.skip rfl rfl rfl ?_ | refine Run.regR ?_ | refine Run.drwR mixed (by kernel_rfl) rfl ?_ | refine Run.condT rfl ?_ | refine Run.condF rfl ?_ | ((first | refine Run.condB rfl (fun hc => ?_) (fun hc => ?_) | ((fail_if_success (refine Rg.lit true rfl ?_)); (fail_if_success (refine Rg.lit false rfl ?_)); refine Rg.guard rfl (fun hc => ?_) (fun hc => ?_))) <;> ((try simp only [cs] at hc); (first | ((exfalso; omega); done) | skip))))
        exact back (i + 1 + 1) _ _ ⟨hlt, fun q hq => by
          by_cases h : q + 1 < i + 1
          · exact hf q h
          · obtain rfl : q = i := by omega
            exact hb⟩ (by omega) ⟨rfl, rfl, rfl, rfl, trivial⟩ rfl
      | false =>
        have hs : sortedMail l = false := by
          rw [Bool.eq_false_iff]
          intro h
          have := (sortedMail_iff l).1 h i hlt
          rw [hb] at this; cases this
        rw [hb] at hle
        rw [hs]
        repeat' (first | refine Rg.any rfl rfl rfl (fun _ hq => G_ixFK tok i rfl rfl rfl rfl rfl (by omega) (by omega) hq) (by first | exact trivial | exact rfl | exact .inl rfl | exact .inr rfl | focus ((repeat (first | exact trivial | (refine ⟨Stay.op false tok rfl rfl rfl ?_ (fun t ht => by cases ht; rfl), ?_⟩; (first | exact ⟨⟩ | omega | focus (simp <;> omega) | decide +kernel)) | (refine ⟨Stay.op true tok rfl rfl rfl ?_ (fun t ht => by cases ht; rfl), ?_⟩; (first | exact ⟨⟩ | omega | focus (simp <;> omega) | decide +kernel)) | refine ⟨Stay.skip rfl rfl (fun t ht => by cases ht; rfl), ?_⟩)); done)) ?_ | refine Run.ctl rfl ?_ | (refine Rg.op false tok rfl rfl rfl rfl ?_ ?_ ?_; (first | exact ⟨⟩ | omega | focus (simp <;> omega) | decide +kernel); (first | exact trivial | exact rfl | exact .inl rfl | exact .inr rfl | focus ((repeat (first | exact trivial | (refine ⟨Stay.op false tok rfl rfl rfl ?_ (fun t ht => by cases ht; rfl), ?_⟩; (first | exact ⟨⟩ | omega | focus (simp <;> omega) | decide +kernel)) | (refine ⟨Stay.op true tok rfl rfl rfl ?_ (fun t ht => by cases ht; rfl), ?_⟩; (first | exact ⟨⟩ | omega | focus (simp <;> omega) | decide +kernel)) | refine ⟨Stay.skip rfl rfl (fun t ht => by cases ht; rfl), ?_⟩)); done))) | refine Rg.call (hle) rfl rfl rfl rfl rfl ⟨⟨.refl _, .refl _, trivial⟩, rfl⟩ ?_ | (refine Rg.op true tok rfl rfl rfl rfl ?_ ?_ ?_; (first | exact ⟨⟩ | omega | focus (simp <;> omega) | decide +kernel); (first | exact trivial | exact rfl | exact .inl rfl | exact .inr rfl | focus ((repeat (first | exact trivial | (refine ⟨Stay.op false tok rfl rfl rfl ?_ (fun t ht => by cases ht; rfl), ?_⟩; (first | exact ⟨⟩ | omega | focus (simp <;> omega) | decide +kernel)) | (refine ⟨Stay.op true tok rfl rfl rfl ?_ (fun t ht => by cases ht; rfl), ?_⟩; (first | exact ⟨⟩ | omega | focus (simp <;> omega) | decide +kernel)) | refine ⟨Stay.skip rfl rfl (fun t ht => by cases ht; rfl), ?_⟩)); done))) | refine Rg.nil ?_ | refine Rg.skip rfl rfl rfl ?_ | refine Run.regR ?_ | refine Run.drwR mixed (by kernel_rfl) rfl ?_ | refine Run.condT rfl ?_ | refine Run.condF rfl ?_ | ((first | refine Run.condB rfl (fun hc => ?_) (fun hc => ?_) | ((fail_if_success (refine Rg.lit true rfl ?_)); (fail_if_success (refine Rg.lit false rfl ?_)); refine Rg.guard rfl (fun hc => ?_) (fun hc => ?_))) <;> ((try simp only [cs] at hc); (first | ((exfalso; omega); done) | skip))))
        (first | refine Run.ret tok Tryd.func54 rfl ?_ | refine Run.fall tok Tryd.func54 rfl ?_)
        exact .refl _
  · obtain rfl : i = l.length := by omega
    rw [(sortedMail_iff l).2 hf]
    repeat' (first | refine Run.ctl rfl ?_ | (refine Rg.op false tok rfl rfl rfl rfl ?_ ?_ ?_; (first | exact ⟨⟩ | omega | focus (simp <;> omega) | decide +kernel); (first | exact trivial | exact rfl | exact .inl rfl | exact .inr rfl | focus ((repeat (first | exact trivial | (refine ⟨Stay.op false tok rfl rfl rfl ?_ (fun t ht => by cases ht; rfl), ?_⟩; (first | exact ⟨⟩ | omega | focus (simp <;> omega) | decide +kernel)) | (refine ⟨Stay.op true tok rfl rfl rfl ?_ (fun t ht => by cases ht; rfl), ?_⟩; (first | exact ⟨⟩ | omega | focus (simp <;> omega) | decide +kernel)) | refine ⟨Stay.skip rfl rfl (fun t ht => by cases ht; rfl), ?_⟩)); done))) | (refine Rg.op true tok rfl rfl rfl rfl ?_ ?_ ?_; (first | exact ⟨⟩ | omega | focus (simp <;> omega) | decide +kernel); (first | exact trivial | exact rfl | exact .inl rfl | exact .inr rfl | focus ((repeat (first | exact trivial | (refine ⟨Stay.op false tok rfl rfl rfl ?_ (fun t ht => by cases ht; rfl), ?_⟩; (first | exact ⟨⟩ | omega | focus (simp <;> omega) | decide +kernel)) | (refine ⟨Stay.op true tok rfl rfl rfl ?_ (fun t ht => by cases ht; rfl), ?_⟩; (first | exact ⟨⟩ | omega | focus (simp <;> omega) | decide +kernel)) | refine ⟨Stay.skip rfl rfl (fun t ht => by cases ht; rfl), ?_⟩)); done))) | refine Rg.nil ?_ | refine Rg.skip rfl rfl rfl ?_ | refine Run.regR ?_ | refine Run.drwR mixed (by kernel_rfl) rfl ?_ | refine Run.condT rfl ?_ | refine Run.condF rfl ?_ | ((first | refine Run.condB rfl (fun hc => ?_) (fun hc => ?_) | ((fail_if_success (refine Rg.lit true rfl ?_)); (fail_if_success (refine Rg.lit false rfl ?_)); refine Rg.guard rfl (fun hc => ?_) (fun hc => ?_))) <;> ((try simp only [cs] at hc); (first | ((exfalso; omega); done) | skip))))
    (first | refine Run.ret tok Tryd.func54 rfl ?_ | refine Run.fall tok Tryd.func54 rfl ?_)
    exact .refl _
theorem fitsC_ (p : Pg) (w : Wd) (m : Msg) : Pure Tryd.prog 57 [pMsg m, .fptr 4 1 (fun _ => ePg p) 0 0, .fptr 6 1 (fun _ => eWd w) 0 0] (bl (!msgFit p w m)) := by
  have h := message_ p w m
  refine Pure.of_spec (Spec.of_run (fn := Tryd.f57) Tryd.func57 rfl rfl (by kernel_rfl) ?_) (by first | assumption | rfl | (split <;> rfl) | (split <;> split <;> rfl))
  repeat' (first | refine Run.ctl rfl ?_ | (refine Rg.op false tok rfl rfl rfl rfl ?_ ?_ ?_; (first | exact ⟨⟩ | omega | focus (simp <;> omega) | decide +kernel); (first | exact trivial | exact rfl | exact .inl rfl | exact .inr rfl)) | refine Rg.call (h) rfl rfl rfl rfl rfl ⟨⟨.refl _, .refl _, .refl _, trivial⟩, rfl⟩ ?_ | (refine Rg.op true tok rfl rfl rfl rfl ?_ ?_ ?_; (first | exact ⟨⟩ | omega | focus (simp <;> omega) | decide +kernel); (first | exact trivial | exact rfl | exact .inl rfl | exact .inr rfl)) | refine Rg.nil ?_ | refine Rg.skip rfl rfl rfl ?_ | refine Run.regR ?_ | refine Run.condT rfl ?_ | refine Run.condF rfl ?_ | ((first | refine Run.condB rfl (fun hc => ?_) (fun hc => ?_) | ((fail_if_success (refine Rg.lit true rfl ?_)); (fail_if_success (refine Rg.lit false rfl ?_)); refine Rg.guard rfl (fun hc => ?_) (fun hc => ?_))) <;> ((try simp only [cs] at hc))))
  (first | refine Run.ret tok Tryd.func57 rfl ?_ | refine Run.fall tok Tryd.func57 rfl ?_)
  exact .refl _
theorem lmin4 (a b c d : Int) : (lmin a [b, c, d] < 0) = ¬(0 ≤ a ∧ 0 ≤ b ∧ 0 ≤ c ∧ 0 ≤ d) := by
  apply propext
  simp only [lmin]
  omega
theorem any_not {α : Type} (F : α → Bool) : ∀ l : List α, l.any (fun x => !F x) = !l.all F
  | [] => rfl
  | x :: l => by rw [List.any_cons, List.all_cons, any_not F l]; cases F x <;> simp
theorem fits_ (p : Pg) (w : Wd) (hl : w.mail.length ≤ 100000) (ha : w.actors.length ≤ 100000) : Pure Tryd.prog 29 [pPg p, pWd w] (bl (worldFit p w)) := by
  have hso := sorted_ w.mail hl
  have hb4 : ∀ z : Int, (z < 0) = ¬(0 ≤ z) := fun z => propext (by omega)
  have hm4 := lmin4 w.used.drop w.used.dup w.used.time w.used.crash
  have hcf := containsF_ (fun m => !msgFit p w m) 57 [.fptr 4 1 (fun _ => ePg p) 0 0, .fptr 6 1 (fun _ => eWd w) 0 0] rfl w.mail hl (fun m _ => fitsC_ p w m)
  have ean : w.mail.any (fun m => !msgFit p w m) = !w.mail.all (msgFit p w) := any_not _ _
  rw [ean] at hcf
  unfold worldFit
  generalize w.mail.all (msgFit p w) = M at hcf ⊢
  generalize sortedMail w.mail = S at hso ⊢
  by_cases h0 : w.actors.length = p.actors.length ∧ 0 ≤ w.used.drop ∧ 0 ≤ w.used.dup ∧ 0 ≤ w.used.time ∧ 0 ≤ w.used.crash
  · rw [decide_eq_true h0, Bool.true_and]
    have hm5 : ¬(lmin w.used.drop [w.used.dup, w.used.time, w.used.crash] < 0) := by rw [hm4]; exact fun h => h h0.2
    cases S with
    | false =>
      rw [Bool.false_and, Bool.false_and]
      refine Pure.of_spec (Spec.of_run (fn := Tryd.f29) Tryd.func29 rfl rfl (by kernel_rfl) ?_) (by first | assumption | rfl | (split <;> rfl) | (split <;> split <;> rfl))
      repeat' (first | refine Run.ctl rfl ?_ | (refine Rg.op false tok rfl rfl rfl rfl ?_ ?_ ?_; (first | exact ⟨⟩ | omega | focus (simp <;> omega) | decide +kernel); (first | exact trivial | exact rfl | exact .inl rfl | exact .inr rfl | focus ((repeat (first | exact trivial | (refine ⟨Stay.op false tok rfl rfl rfl ?_ (fun t ht => by cases ht; rfl), ?_⟩; (first | exact ⟨⟩ | omega | focus (simp <;> omega) | decide +kernel)) | (refine ⟨Stay.op true tok rfl rfl rfl ?_ (fun t ht => by cases ht; rfl), ?_⟩; (first | exact ⟨⟩ | omega | focus (simp <;> omega) | decide +kernel)) | refine ⟨Stay.skip rfl rfl (fun t ht => by cases ht; rfl), ?_⟩)); done))) | refine Rg.call (hso) rfl rfl rfl rfl rfl ⟨⟨.refl _, trivial⟩, rfl⟩ ?_ | (refine Rg.op true tok rfl rfl rfl rfl ?_ ?_ ?_; (first | exact ⟨⟩ | omega | focus (simp <;> omega) | decide +kernel); (first | exact trivial | exact rfl | exact .inl rfl | exact .inr rfl | focus ((repeat (first | exact trivial | (refine ⟨Stay.op false tok rfl rfl rfl ?_ (fun t ht => by cases ht; rfl), ?_⟩; (first | exact ⟨⟩ | omega | focus (simp <;> omega) | decide +kernel)) | (refine ⟨Stay.op true tok rfl rfl rfl ?_ (fun t ht => by cases ht; rfl), ?_⟩; (first | exact ⟨⟩ | omega | focus (simp <;> omega) | decide +kernel)) | refine ⟨Stay.skip rfl rfl (fun t ht => by cases ht; rfl), ?_⟩)); done))) | refine Rg.nil ?_ | refine Rg.skip rfl rfl rfl ?_ | refine Run.regR ?_ | refine Run.drwR mixed (by kernel_rfl) rfl ?_ | refine Run.condT rfl ?_ | refine Run.condF rfl ?_ | ((first | refine Run.condB rfl (fun hc => ?_) (fun hc => ?_) | ((fail_if_success (refine Rg.lit true rfl ?_)); (fail_if_success (refine Rg.lit false rfl ?_)); refine Rg.guard rfl (fun hc => ?_) (fun hc => ?_))) <;> ((try simp only [cs] at hc); (first | ((exfalso; omega); done) | skip))))
      (first | refine Run.ret tok Tryd.func29 rfl ?_ | refine Run.fall tok Tryd.func29 rfl ?_)
      exact .refl _
    | true =>
      rw [Bool.true_and]
      refine Pure.of_spec (Spec.of_run (fn := Tryd.f29) Tryd.func29 rfl rfl (by kernel_rfl) ?_) (by first | assumption | rfl | (split <;> rfl) | (split <;> split <;> rfl))
      repeat' (first | refine Run.ctl rfl ?_ | (refine Rg.op false tok rfl rfl rfl rfl ?_ ?_ ?_; (first | exact ⟨⟩ | omega | focus (simp <;> omega) | decide +kernel); (first | exact trivial | exact rfl | exact .inl rfl | exact .inr rfl | focus ((repeat (first | exact trivial | (refine ⟨Stay.op false tok rfl rfl rfl ?_ (fun t ht => by cases ht; rfl), ?_⟩; (first | exact ⟨⟩ | omega | focus (simp <;> omega) | decide +kernel)) | (refine ⟨Stay.op true tok rfl rfl rfl ?_ (fun t ht => by cases ht; rfl), ?_⟩; (first | exact ⟨⟩ | omega | focus (simp <;> omega) | decide +kernel)) | refine ⟨Stay.skip rfl rfl (fun t ht => by cases ht; rfl), ?_⟩)); done))) | refine Rg.call (hso) rfl rfl rfl rfl rfl ⟨⟨.refl _, trivial⟩, rfl⟩ ?_ | (refine Rg.op true tok rfl rfl rfl rfl ?_ ?_ ?_; (first | exact ⟨⟩ | omega | focus (simp <;> omega) | decide +kernel); (first | exact trivial | exact rfl | exact .inl rfl | exact .inr rfl | focus ((repeat (first | exact trivial | (refine ⟨Stay.op false tok rfl rfl rfl ?_ (fun t ht => by cases ht; rfl), ?_⟩; (first | exact ⟨⟩ | omega | focus (simp <;> omega) | decide +kernel)) | (refine ⟨Stay.op true tok rfl rfl rfl ?_ (fun t ht => by cases ht; rfl), ?_⟩; (first | exact ⟨⟩ | omega | focus (simp <;> omega) | decide +kernel)) | refine ⟨Stay.skip rfl rfl (fun t ht => by cases ht; rfl), ?_⟩)); done))) | refine Rg.nil ?_ | refine Rg.skip rfl rfl rfl ?_ | refine Run.regR ?_ | refine Run.drwR mixed (by kernel_rfl) rfl ?_ | refine Run.condT rfl ?_ | refine Run.condF rfl ?_ | ((first | refine Run.condB rfl (fun hc => ?_) (fun hc => ?_) | ((fail_if_success (refine Rg.lit true rfl ?_)); (fail_if_success (refine Rg.lit false rfl ?_)); refine Rg.guard rfl (fun hc => ?_) (fun hc => ?_))) <;> ((try simp only [cs] at hc); (first | ((exfalso; omega); done) | skip))))
      refine Run.loopN (ι := Nat) (fun i => ([(2, .ptr 0 0 0), (3, .ptr 1 0 0), (37, sl 5 eLcl w.actors), (38, i64 w.actors.length), (39, i64 i)], [pbox p, wdbox w])) (fun i => i ≤ w.actors.length ∧ ((p.actors.zip w.actors).drop i).all (fun x => localFit x.1 x.2) = (p.actors.zip w.actors).all (fun x => localFit x.1 x.2)) (fun i => w.actors.length - i) 0 ⟨rfl, rfl, rfl, rfl, rfl, trivial⟩ rfl ⟨by omega, rfl⟩ ?_
      rintro i ⟨hi, hf⟩ back backR
      dsimp only
      by_cases hlt : i < w.actors.length
      · have hz : i < (p.actors.zip w.actors).length := by rw [List.length_zip]; omega
        have hzi : (p.actors.zip w.actors).getD i default = (p.actors.getD i default, w.actors.getD i default) := by
          have h2 : i < p.actors.length := by omega
          rw [List.getD_eq_getElem?_getD, List.getElem?_eq_getElem hz, List.getElem_zip, List.getD_eq_getElem?_getD, List.getD_eq_getElem?_getD, List.getElem?_eq_getElem hlt, List.getElem?_eq_getElem h2]
          rfl
        rw [all_at hz, hzi] at hf
        dsimp only at hf
        have hlo := local_ (p.actors.getD i default) (w.actors.getD i default)
        cases hb : localFit (p.actors.getD i default) (w.actors.getD i default) with
        | true =>
          rw [hb] at hf hlo
          rw [Bool.true_and] at hf
          repeat' (first | refine Run.ctl rfl ?_ | (refine Rg.op false tok rfl rfl rfl rfl ?_ ?_ ?_; (first | exact ⟨⟩ | omega | focus (simp <;> omega) | decide +kernel); (first | exact trivial | exact rfl | exact .inl rfl | exact .inr rfl | focus ((repeat (first | exact trivial | (refine ⟨Stay.op false tok rfl rfl rfl ?_ (fun t ht => by cases ht; rfl), ?_⟩; (first | exact ⟨⟩ | omega | focus (simp <;> omega) | decide +kernel)) | (refine ⟨Stay.op true tok rfl rfl rfl ?_ (fun t ht => by cases ht; rfl), ?_⟩; (first | exact ⟨⟩ | omega | focus (simp <;> omega) | decide +kernel)) | refine ⟨Stay.skip rfl rfl (fun t ht => by cases ht; rfl), ?_⟩)); done))) | refine Rg.call (hlo) rfl rfl rfl rfl rfl ⟨⟨.refl _, .refl _, trivial⟩, rfl⟩ ?_ | (refine Rg.op true tok rfl rfl rfl rfl ?_ ?_ ?_; (first | exact ⟨⟩ | omega | focus (simp <;> omega) | decide +kernel); (first | exact trivial | exact rfl | exact .inl rfl | exact .inr rfl | focus ((repeat (first | exact trivial | (refine ⟨Stay.op false tok rfl rfl rfl ?_ (fun t ht => by cases ht; rfl), ?_⟩; (first | exact ⟨⟩ | omega | focus (simp <;> omega) | decide +kernel)) | (refine ⟨Stay.op true tok rfl rfl rfl ?_ (fun t ht => by cases ht; rfl), ?_⟩; (first | exact ⟨⟩ | omega | focus (simp <;> omega) | decide +kernel)) | refine ⟨Stay.skip rfl rfl (fun t ht => by cases ht; rfl), ?_⟩)); done))) | refine Rg.nil ?_ | refine Rg.skip rfl rfl rfl ?_ | refine Run.regR ?_ | refine Run.drwR mixed (by kernel_rfl) rfl ?_ | refine Run.condT rfl ?_ | refine Run.condF rfl ?_ | ((first | refine Run.condB rfl (fun hc => ?_) (fun hc => ?_) | ((fail_if_success (refine Rg.lit true rfl ?_)); (fail_if_success (refine Rg.lit false rfl ?_)); refine Rg.guard rfl (fun hc => ?_) (fun hc => ?_))) <;> ((try simp only [cs] at hc); (first | ((exfalso; omega); done) | skip))))
          exact backR [0, 1] (i + 1) _ _ ⟨hlt, hf⟩ (by omega) rfl ⟨⟨_, rfl, rfl, rfl, rfl, rfl, fun k hk => .ofEq rfl rfl⟩, ⟨_, rfl, rfl, rfl, rfl, rfl, fun k hk => .ofEq rfl rfl⟩, trivial⟩ ⟨.ptrN rfl rfl, .ptrN rfl rfl, .cl rfl, .cl rfl, .cl rfl, trivial⟩
        | false =>
          rw [hb] at hf hlo
          rw [Bool.false_and] at hf
          rw [← hf, Bool.false_and]
          repeat' (first | refine Run.ctl rfl ?_ | (refine Rg.op false tok rfl rfl rfl rfl ?_ ?_ ?_; (first | exact ⟨⟩ | omega | focus (simp <;> omega) | decide +kernel); (first | exact trivial | exact rfl | exact .inl rfl | exact .inr rfl | focus ((repeat (first | exact trivial | (refine ⟨Stay.op false tok rfl rfl rfl ?_ (fun t ht => by cases ht; rfl), ?_⟩; (first | exact ⟨⟩ | omega | focus (simp <;> omega) | decide +kernel)) | (refine ⟨Stay.op true tok rfl rfl rfl ?_ (fun t ht => by cases ht; rfl), ?_⟩; (first | exact ⟨⟩ | omega | focus (simp <;> omega) | decide +kernel)) | refine ⟨Stay.skip rfl rfl (fun t ht => by cases ht; rfl), ?_⟩)); done))) | refine Rg.call (hlo) rfl rfl rfl rfl rfl ⟨⟨.refl _, .refl _, trivial⟩, rfl⟩ ?_ | (refine Rg.op true tok rfl rfl rfl rfl ?_ ?_ ?_; (first | exact ⟨⟩ | omega | focus (simp <;> omega) | decide +kernel); (first | exact trivial | exact rfl | exact .inl rfl | exact .inr rfl | focus ((repeat (first | exact trivial | (refine ⟨Stay.op false tok rfl rfl rfl ?_ (fun t ht => by cases ht; rfl), ?_⟩; (first | exact ⟨⟩ | omega | focus (simp <;> omega) | decide +kernel)) | (refine ⟨Stay.op true tok rfl rfl rfl ?_ (fun t ht => by cases ht; rfl), ?_⟩; (first | exact ⟨⟩ | omega | focus (simp <;> omega) | decide +kernel)) | refine ⟨Stay.skip rfl rfl (fun t ht => by cases ht; rfl), ?_⟩)); done))) | refine Rg.nil ?_ | refine Rg.skip rfl rfl rfl ?_ | refine Run.regR ?_ | refine Run.drwR mixed (by kernel_rfl) rfl ?_ | refine Run.condT rfl ?_ | refine Run.condF rfl ?_ | ((first | refine Run.condB rfl (fun hc => ?_) (fun hc => ?_) | ((fail_if_success (refine Rg.lit true rfl ?_)); (fail_if_success (refine Rg.lit false rfl ?_)); refine Rg.guard rfl (fun hc => ?_) (fun hc => ?_))) <;> ((try simp only [cs] at hc); (first | ((exfalso; omega); done) | skip))))
          (first | refine Run.ret tok Tryd.func29 rfl ?_ | refine Run.fall tok Tryd.func29 rfl ?_)
          exact .refl _
      · obtain rfl : i = w.actors.length := by omega
        have hz : (p.actors.zip w.actors).length = w.actors.length := by rw [List.length_zip]; omega
        rw [← hz, List.drop_length, List.all_nil] at hf
        rw [← hf, Bool.true_and]
        repeat' (first | refine Run.ctl rfl ?_ | (refine Rg.op false tok rfl rfl rfl rfl ?_ ?_ ?_; (first | exact ⟨⟩ | omega | focus (simp <;> omega) | decide +kernel); (first | exact trivial | exact rfl | exact .inl rfl | exact .inr rfl | focus ((repeat (first | exact trivial | (refine ⟨Stay.op false tok rfl rfl rfl ?_ (fun t ht => by cases ht; rfl), ?_⟩; (first | exact ⟨⟩ | omega | focus (simp <;> omega) | decide +kernel)) | (refine ⟨Stay.op true tok rfl rfl rfl ?_ (fun t ht => by cases ht; rfl), ?_⟩; (first | exact ⟨⟩ | omega | focus (simp <;> omega) | decide +kernel)) | refine ⟨Stay.skip rfl rfl (fun t ht => by cases ht; rfl), ?_⟩)); done))) | refine Rg.lend (hcf) rfl rfl rfl rfl rfl rfl ⟨⟨.refl _, .func' ⟨.box rfl rfl rfl rfl rfl (.refl _), .box rfl rfl rfl rfl rfl (.refl _), trivial⟩, trivial⟩, rfl⟩ ?_ | (refine Rg.op true tok rfl rfl rfl rfl ?_ ?_ ?_; (first | exact ⟨⟩ | omega | focus (simp <;> omega) | decide +kernel); (first | exact trivial | exact rfl | exact .inl rfl | exact .inr rfl | focus ((repeat (first | exact trivial | (refine ⟨Stay.op false tok rfl rfl rfl ?_ (fun t ht => by cases ht; rfl), ?_⟩; (first | exact ⟨⟩ | omega | focus (simp <;> omega) | decide +kernel)) | (refine ⟨Stay.op true tok rfl rfl rfl ?_ (fun t ht => by cases ht; rfl), ?_⟩; (first | exact ⟨⟩ | omega | focus (simp <;> omega) | decide +kernel)) | refine ⟨Stay.skip rfl rfl (fun t ht => by cases ht; rfl), ?_⟩)); done))) | refine Rg.nil ?_ | refine Rg.skip rfl rfl rfl ?_ | refine Run.regR ?_ | refine Run.drwR mixed (by kernel_rfl) rfl ?_ | refine Run.condT rfl ?_ | refine Run.condF rfl ?_ | ((first | refine Run.condB rfl (fun hc => ?_) (fun hc => ?_) | ((fail_if_success (refine Rg.lit true rfl ?_)); (fail_if_success (refine Rg.lit false rfl ?_)); refine Rg.guard rfl (fun hc => ?_) (fun hc => ?_))) <;> ((try simp only [cs] at hc); (first | ((exfalso; omega); done) | skip))))
        (first | refine Run.ret tok Tryd.func29 rfl ?_ | refine Run.fall tok Tryd.func29 rfl ?_)
        exact .ofBool (by simp)
  · rw [decide_eq_false h0, Bool.false_and, Bool.false_and, Bool.false_and]
    cases S <;> (
    refine Pure.of_spec (Spec.of_run (fn := Tryd.f29) Tryd.func29 rfl rfl (by kernel_rfl) ?_) (by first | assumption | rfl | (split <;> rfl) | (split <;> split <;> rfl))
    repeat' (first | refine Run.ctl rfl ?_ | (refine Rg.op false tok rfl rfl rfl rfl ?_ ?_ ?_; (first | exact ⟨⟩ | omega | focus (simp <;> omega) | decide +kernel); (first | exact trivial | exact rfl | exact .inl rfl | exact .inr rfl | focus ((repeat (first | exact trivial | (refine ⟨Stay.op false tok rfl rfl rfl ?_ (fun t ht => by cases ht; rfl), ?_⟩; (first | exact ⟨⟩ | omega | focus (simp <;> omega) | decide +kernel)) | (refine ⟨Stay.op true tok rfl rfl rfl ?_ (fun t ht => by cases ht; rfl), ?_⟩; (first | exact ⟨⟩ | omega | focus (simp <;> omega) | decide +kernel)) | refine ⟨Stay.skip rfl rfl (fun t ht => by cases ht; rfl), ?_⟩)); done))) | refine Rg.call (hso) rfl rfl rfl rfl rfl ⟨⟨.refl _, trivial⟩, rfl⟩ ?_ | (refine Rg.op true tok rfl rfl rfl rfl ?_ ?_ ?_; (first | exact ⟨⟩ | omega | focus (simp <;> omega) | decide +kernel); (first | exact trivial | exact rfl | exact .inl rfl | exact .inr rfl | focus ((repeat (first | exact trivial | (refine ⟨Stay.op false tok rfl rfl rfl ?_ (fun t ht => by cases ht; rfl), ?_⟩; (first | exact ⟨⟩ | omega | focus (simp <;> omega) | decide +kernel)) | (refine ⟨Stay.op true tok rfl rfl rfl ?_ (fun t ht => by cases ht; rfl), ?_⟩; (first | exact ⟨⟩ | omega | focus (simp <;> omega) | decide +kernel)) | refine ⟨Stay.skip rfl rfl (fun t ht => by cases ht; rfl), ?_⟩)); done))) | refine Rg.nil ?_ | refine Rg.skip rfl rfl rfl ?_ | refine Run.regR ?_ | refine Run.drwR mixed (by kernel_rfl) rfl ?_ | refine Run.condT rfl ?_ | refine Run.condF rfl ?_ | ((first | refine Run.condB rfl (fun hc => ?_) (fun hc => ?_) | ((fail_if_success (refine Rg.lit true rfl ?_)); (fail_if_success (refine Rg.lit false rfl ?_)); refine Rg.guard rfl (fun hc => ?_) (fun hc => ?_))) <;> ((try simp only [cs] at hc); (first | ((exfalso; omega); done) | ((exfalso; rw [← Int.not_lt, hm4] at hc; omega); done) | skip))))
    all_goals ((first | refine Run.ret tok Tryd.func29 rfl ?_ | refine Run.fall tok Tryd.func29 rfl ?_); exact .refl _))
theorem worldCheck_ (p : Pg) (w : Wd) (hl : w.mail.length ≤ 100000) (ha : w.actors.length ≤ 100000) : Pure Tryd.prog 14 [pPg p, pWd w] (bl (worldOk p w)) := by
  have hfc := flowCheck_ p
  have hfi := fits_ p w hl ha
  unfold worldOk
  generalize flowWhy p = z at hfc ⊢
  generalize worldFit p w = b at hfi ⊢
  by_cases h : z = 0
  · rw [decide_eq_true h, Bool.true_and]
    refine Pure.of_spec (Spec.of_run (fn := Tryd.f14) Tryd.func14 rfl rfl (by kernel_rfl) ?_) (by first | assumption | rfl | (split <;> rfl) | (split <;> split <;> rfl))
    repeat' (first | refine Run.ctl rfl ?_ | (refine Rg.op false tok rfl rfl rfl rfl ?_ ?_ ?_; (first | exact ⟨⟩ | omega | focus (simp <;> omega) | decide +kernel); (first | exact trivial | exact rfl | exact .inl rfl | exact .inr rfl)) | refine Rg.call (hfc) rfl rfl rfl rfl rfl ⟨⟨.refl _, trivial⟩, rfl⟩ ?_ | refine Rg.call (hfi) rfl rfl rfl rfl rfl ⟨⟨.refl _, .refl _, trivial⟩, rfl⟩ ?_ | (refine Rg.op true tok rfl rfl rfl rfl ?_ ?_ ?_; (first | exact ⟨⟩ | omega | focus (simp <;> omega) | decide +kernel); (first | exact trivial | exact rfl | exact .inl rfl | exact .inr rfl)) | refine Rg.nil ?_ | refine Rg.skip rfl rfl rfl ?_ | refine Run.regR ?_ | refine Run.condT rfl ?_ | refine Run.condF rfl ?_ | ((first | refine Run.condB rfl (fun hc => ?_) (fun hc => ?_) | ((fail_if_success (refine Rg.lit true rfl ?_)); (fail_if_success (refine Rg.lit false rfl ?_)); refine Rg.guard rfl (fun hc => ?_) (fun hc => ?_))) <;> ((try simp only [cs] at hc); (first | ((exfalso; omega); done) | ((exact absurd h hc); done) | skip))))
    (first | refine Run.ret tok Tryd.func14 rfl ?_ | refine Run.fall tok Tryd.func14 rfl ?_)
    exact .refl _
  · rw [decide_eq_false h, Bool.false_and]
    refine Pure.of_spec (Spec.of_run (fn := Tryd.f14) Tryd.func14 rfl rfl (by kernel_rfl) ?_) (by first | assumption | rfl | (split <;> rfl) | (split <;> split <;> rfl))
    repeat' (first | refine Run.ctl rfl ?_ | (refine Rg.op false tok rfl rfl rfl rfl ?_ ?_ ?_; (first | exact ⟨⟩ | omega | focus (simp <;> omega) | decide +kernel); (first | exact trivial | exact rfl | exact .inl rfl | exact .inr rfl)) | refine Rg.call (hfc) rfl rfl rfl rfl rfl ⟨⟨.refl _, trivial⟩, rfl⟩ ?_ | refine Rg.call (hfi) rfl rfl rfl rfl rfl ⟨⟨.refl _, .refl _, trivial⟩, rfl⟩ ?_ | (refine Rg.op true tok rfl rfl rfl rfl ?_ ?_ ?_; (first | exact ⟨⟩ | omega | focus (simp <;> omega) | decide +kernel); (first | exact trivial | exact rfl | exact .inl rfl | exact .inr rfl)) | refine Rg.nil ?_ | refine Rg.skip rfl rfl rfl ?_ | refine Run.regR ?_ | refine Run.condT rfl ?_ | refine Run.condF rfl ?_ | ((first | refine Run.condB rfl (fun hc => ?_) (fun hc => ?_) | ((fail_if_success (refine Rg.lit true rfl ?_)); (fail_if_success (refine Rg.lit false rfl ?_)); refine Rg.guard rfl (fun hc => ?_) (fun hc => ?_))) <;> ((try simp only [cs] at hc); (first | ((exfalso; omega); done) | ((exact absurd hc h); done) | skip))))
    (first | refine Run.ret tok Tryd.func14 rfl ?_ | refine Run.fall tok Tryd.func14 rfl ?_)
    exact .refl _
end Go.Proofs.YtlimecfjpfaljaaDoor.W
end
section
/- Walks: watches (chapter 14). -/
set_option linter.unusedVariables false
set_option linter.unusedSimpArgs false
set_option linter.unusedSectionVars false
set_option pp.maxSteps 40000
set_option maxHeartbeats 4000000
namespace Go.Proofs.YtlimecfjpfaljaaDoor.W
open Go Go.Sy

theorem value_ (p : Pg) (w : Wd) (x : List Instr) (hx : x.length ≤ 100000) (hok : ∀ i ∈ x, R64 i.a) (hl : w.mail.length ≤ 100000) (ha : w.actors.length ≤ 100000) : Pure Tryd.prog 23 [pPg p, pWd w, sl 2 eInstr x] (.tup [i64 (exValue p w x).1, i64 (exValue p w x).2]) := by
  have hec := exCheck_ p x hx hok
  have hwc := worldCheck_ p w hl ha
  unfold exValue
  by_cases h1 : exWhy p x = 0
  · rw [if_neg (by simpa using h1)]
    rw [h1] at hec
    cases hb : worldOk p w with
    | false =>
      rw [hb] at hwc
      rw [if_pos rfl]
      refine Pure.of_spec (Spec.of_run (fn := Tryd.f23) Tryd.func23 rfl rfl (by kernel_rfl) ?_) (by first | assumption | rfl | (split <;> rfl) | (split <;> split <;> rfl))
      repeat' (first | refine Run.ctl rfl ?_ | (refine Rg.op false tok rfl rfl rfl rfl ?_ ?_ ?_; (first | exact ⟨⟩ | omega | focus (simp <;> omega) | decide +kernel); (first | exact trivial | exact rfl | exact .inl rfl | exact .inr rfl)) | refine Rg.call (hec) rfl rfl rfl rfl rfl ⟨⟨.refl _, .refl _, trivial⟩, rfl⟩ ?_ | refine Rg.call (hwc) rfl rfl rfl rfl rfl ⟨⟨.refl _, .refl _, trivial⟩, rfl⟩ ?_ | (refine Rg.op true tok rfl rfl rfl rfl ?_ ?_ ?_; (first | exact ⟨⟩ | omega | focus (simp <;> omega) | decide +kernel); (first | exact trivial | exact rfl | exact .inl rfl | exact .inr rfl)) | refine Rg.nil ?_ | refine Rg.skip rfl rfl rfl ?_ | refine Run.regR ?_ | refine Run.condT rfl ?_ | refine Run.condF rfl ?_ | ((first | refine Run.condB rfl (fun hc => ?_) (fun hc => ?_) | ((fail_if_success (refine Rg.lit true rfl ?_)); (fail_if_success (refine Rg.lit false rfl ?_)); refine Rg.guard rfl (fun hc => ?_) (fun hc => ?_))) <;> ((try simp only [cs] at hc); (first | ((exfalso; omega); done) | skip))))
      (first | refine Run.ret tok Tryd.func23 rfl ?_ | refine Run.fall tok Tryd.func23 rfl ?_)
      exact .refl _
    | true =>
      rw [hb] at hwc
      rw [if_neg (by simp)]
      unfold worldOk worldFit at hb
      simp only [Bool.and_eq_true, decide_eq_true_eq] at hb
      obtain ⟨hfw, ⟨⟨⟨hal, _⟩, _⟩, _⟩⟩ := hb
      have hp := flowWhy_fit hfw
      unfold exWhy at h1
      rw [if_neg (by simpa using hfw)] at h1
      have hx64 : x.length ≤ 64 := by
        by_cases h : 64 < x.length
        · rw [if_pos h] at h1; cases h1
        · omega
      rw [if_neg (by omega)] at h1
      have hof := exOf_ p w x hx64 hok hl hal.1 hp.na0 h1
      refine Pure.of_spec (Spec.of_run (fn := Tryd.f23) Tryd.func23 rfl rfl (by kernel_rfl) ?_) (by first | assumption | rfl | (split <;> rfl) | (split <;> split <;> rfl))
      repeat' (first | refine Run.ctl rfl ?_ | (refine Rg.op false tok rfl rfl rfl rfl ?_ ?_ ?_; (first | exact ⟨⟩ | omega | focus (simp <;> omega) | decide +kernel); (first | exact trivial | exact rfl | exact .inl rfl | exact .inr rfl)) | refine Rg.call (hec) rfl rfl rfl rfl rfl ⟨⟨.refl _, .refl _, trivial⟩, rfl⟩ ?_ | refine Rg.call (hwc) rfl rfl rfl rfl rfl ⟨⟨.refl _, .refl _, trivial⟩, rfl⟩ ?_ | refine Rg.call (hof) rfl rfl rfl rfl rfl ⟨⟨.refl _, .refl _, trivial⟩, rfl⟩ ?_ | (refine Rg.op true tok rfl rfl rfl rfl ?_ ?_ ?_; (first | exact ⟨⟩ | omega | focus (simp <;> omega) | decide +kernel); (first | exact trivial | exact rfl | exact .inl rfl | exact .inr rfl)) | refine Rg.nil ?_ | refine Rg.skip rfl rfl rfl ?_ | refine Run.regR ?_ | refine Run.condT rfl ?_ | refine Run.condF rfl ?_ | ((first | refine Run.condB rfl (fun hc => ?_) (fun hc => ?_) | ((fail_if_success (refine Rg.lit true rfl ?_)); (fail_if_success (refine Rg.lit false rfl ?_)); refine Rg.guard rfl (fun hc => ?_) (fun hc => ?_))) <;> ((try simp only [cs] at hc); (first | ((exfalso; omega); done) | skip))))
      (first | refine Run.ret tok Tryd.func23 rfl ?_ | refine Run.fall tok Tryd.func23 rfl ?_)
      exact .refl _
  · rw [if_pos (by simpa using h1)]
    generalize exWhy p x = z at hec h1
    refine Pure.of_spec (Spec.of_run (fn := Tryd.f23) Tryd.func23 rfl rfl (by kernel_rfl) ?_) (by first | assumption | rfl | (split <;> rfl) | (split <;> split <;> rfl))
    repeat' (first | refine Run.ctl rfl ?_ | (refine Rg.op false tok rfl rfl rfl rfl ?_ ?_ ?_; (first | exact ⟨⟩ | omega | focus (simp <;> omega) | decide +kernel); (first | exact trivial | exact rfl | exact .inl rfl | exact .inr rfl)) | refine Rg.call (hec) rfl rfl rfl rfl rfl ⟨⟨.refl _, .refl _, trivial⟩, rfl⟩ ?_ | (refine Rg.op true tok rfl rfl rfl rfl ?_ ?_ ?_; (first | exact ⟨⟩ | omega | focus (simp <;> omega) | decide +kernel); (first | exact trivial | exact rfl | exact .inl rfl | exact .inr rfl)) | refine Rg.nil ?_ | refine Rg.skip rfl rfl rfl ?_ | refine Run.regR ?_ | refine Run.condT rfl ?_ | refine Run.condF rfl ?_ | ((first | refine Run.condB rfl (fun hc => ?_) (fun hc => ?_) | ((fail_if_success (refine Rg.lit true rfl ?_)); (fail_if_success (refine Rg.lit false rfl ?_)); refine Rg.guard rfl (fun hc => ?_) (fun hc => ?_))) <;> ((try simp only [cs] at hc); (first | ((exfalso; omega); done) | ((exact absurd hc h1); done) | skip))))
    (first | refine Run.ret tok Tryd.func23 rfl ?_ | refine Run.fall tok Tryd.func23 rfl ?_)
    exact .refl _
def eW (x : List Instr) : List PV := [sl 2 eInstr x]
def okW (l : List (List Instr)) : Prop := ∀ x ∈ l, x.length ≤ 100000 ∧ ∀ i ∈ x, R64 i.a
theorem badFrom_at (p : Pg) (w : Wd) {l : List (List Instr)} {i : Nat} (hi : i < l.length) : badFrom p w (l.drop i) i = if exValue p w (l.getD i default) = (0, 0) then (i : Int) :: badFrom p w (l.drop (i + 1)) (i + 1) else badFrom p w (l.drop (i + 1)) (i + 1) := by
  rw [List.drop_eq_getElem_cons hi]
  have : l.getD i default = l[i] := by simp [hi]
  rw [this]
  rfl
end Go.Proofs.YtlimecfjpfaljaaDoor.W
end
