/- Texts merged: D36, D37. -/
import Derived.Test.YtlimecfjpfaljaaM28
import Derived.Test.YtlimecfjpfaljaaM32
import Derived.Test.YtlimecfjpfaljaaM29
import Derived.Test.YtlimecfjpfaljaaM30
import Derived.Test.YtlimecfjpfaljaaM31
section
/- Walks: the document's own value of an expression (chapter 13). -/
set_option linter.unusedVariables false
set_option linter.unusedSimpArgs false
set_option linter.unusedSectionVars false
set_option pp.maxSteps 40000
set_option maxHeartbeats 4000000
namespace Go.Proofs.Ytlimecfjpfaljaa.W
open Go Go.Sy

theorem two_end (S : List Int) (h : 2 ≤ S.length) : ∃ T u v, S = T ++ [u, v] := by
  refine ⟨S.take (S.length - 2), S[S.length - 2], S[S.length - 1], ?_⟩
  have h1 : S.drop (S.length - 2) = [S[S.length - 2], S[S.length - 1]] := by
    rw [List.drop_eq_getElem_cons (by omega)]
    congr 1
    have : S.length - 2 + 1 = S.length - 1 := by omega
    rw [this, List.drop_eq_getElem_cons (by omega), List.drop_eq_nil_of_le (by omega)]
  rw [← h1, List.take_append_drop]
theorem one_end (S : List Int) (h : 1 ≤ S.length) : ∃ T u, S = T ++ [u] := by
  refine ⟨S.take (S.length - 1), S[S.length - 1], ?_⟩
  have h1 : S.drop (S.length - 1) = [S[S.length - 1]] := by
    rw [List.drop_eq_getElem_cons (by omega), List.drop_eq_nil_of_le (by omega)]
  rw [← h1, List.take_append_drop]
theorem set_two (S : List Int) (h : 2 ≤ S.length) (a b : Int) : (S.set (S.length - 1) b).set (S.length - 2) a = S.take (S.length - 2) ++ [a, b] := by
  obtain ⟨T, u, v, rfl⟩ := two_end S h
  have e1 : (T ++ [u, v]).length - 1 = T.length + 1 := by simp
  have e2 : (T ++ [u, v]).length - 2 = T.length := by simp
  rw [e1, e2]
  simp [List.set_append]
theorem set_last (S : List Int) (h : 1 ≤ S.length) (a : Int) : S.set (S.length - 1) a = S.take (S.length - 1) ++ [a] := by
  obtain ⟨T, u, rfl⟩ := one_end S h
  have e1 : (T ++ [u]).length - 1 = T.length := by simp
  rw [e1]
  simp [List.set_append]
theorem app0_rows {l : List Int} {a : Nat → List PV} {k : Nat} : appEl 0 a (fun j => rows eInt l (0 + Int.toNat 0 + j)) (0 + k) = rows eInt l k := by
  unfold appEl
  rw [show Nat.blt (0 + k) 0 = false from by cases k <;> rfl]
  show rows eInt l _ = _
  congr 1
  simp
theorem refValue_ (p : Pg) (w : Wd) (x : List Instr) (hx : x.length ≤ 64) (hok : ∀ i ∈ x, R64 i.a) (hl : w.mail.length ≤ 100000) (hwa : w.actors.length = p.actors.length) (hna : 0 < p.actors.length) (hE0 : exFrom p x 0 = 0) : Pure Try.prog 27 [pWd w, sl 2 eInstr x] (i64 (exOf w x)) := by
  unfold exOf
  generalize hF0 : x.foldl (exStep w) [] = F
  refine Pure.of_spec (Spec.of_run (fn := Try.f27) Try.func27 rfl rfl (by kernel_rfl) ?_) (by first | assumption | rfl | (split <;> rfl) | (split <;> split <;> rfl))
  repeat' (first | refine Run.ctl rfl ?_ | (refine Rg.op false tok rfl rfl rfl rfl ?_ ?_ ?_; (first | exact ⟨⟩ | omega | focus (simp <;> omega) | decide +kernel); (first | exact trivial | exact rfl | exact .inl rfl | exact .inr rfl)) | (refine Rg.op true tok rfl rfl rfl rfl ?_ ?_ ?_; (first | exact ⟨⟩ | omega | focus (simp <;> omega) | decide +kernel); (first | exact trivial | exact rfl | exact .inl rfl | exact .inr rfl)) | refine Rg.nil ?_ | refine Rg.skip rfl rfl rfl ?_ | refine Run.regR ?_ | refine Run.condT rfl ?_ | refine Run.condF rfl ?_ | ((first | refine Run.condB rfl (fun hc => ?_) (fun hc => ?_) | ((fail_if_success (refine Rg.lit true rfl ?_)); (fail_if_success (refine Rg.lit false rfl ?_)); refine Rg.guard rfl (fun hc => ?_) (fun hc => ?_))) <;> ((try simp only [cs] at hc); (first | ((exfalso; omega); done) | skip))))
  refine Run.nilRow 5 3 1 (rows eInt []) rfl ?_
  refine Run.loopN (ι := Nat × List Int) (fun j => ([(1, sl 2 eInstr x), (2, .ptr 0 0 0), (5, .slc 1 0 j.2.length), (6, i64 j.1)], [wdbox w, rowI j.2])) (fun j => j.1 ≤ x.length ∧ (x.drop j.1).foldl (exStep w) j.2 = F ∧ exFrom p (x.drop j.1) j.2.length = 0 ∧ j.2.length ≤ 8) (fun j => x.length - j.1) (0, []) ⟨rfl, rfl, rfl, rfl, trivial⟩ rfl ⟨by omega, hF0, hE0, by simp⟩ ?_
  rintro ⟨j, S⟩ ⟨hj, hF, hE, hSl⟩ back backR
  dsimp only at hj hF hE hSl ⊢
  by_cases hlt : j < x.length
  rotate_left
  · obtain rfl : j = x.length := by omega
    rw [List.drop_length] at hF hE
    have hS1 : (S.length : Int) = 1 := by
      unfold exFrom at hE
      by_cases h : (S.length : Int) = 1
      · exact h
      · rw [if_pos h] at hE; cases hE
    have hS0 : 0 < S.length := by omega
    rw [List.foldl_nil] at hF
    subst hF
    repeat' (first | refine Run.ctl rfl ?_ | (refine Rg.op false tok rfl rfl rfl rfl ?_ ?_ ?_; (first | exact ⟨⟩ | omega | focus (exact hS0) | focus (simp <;> omega) | decide +kernel); (first | exact trivial | exact rfl | exact .inl rfl | exact .inr rfl)) | (refine Rg.op true tok rfl rfl rfl rfl ?_ ?_ ?_; (first | exact ⟨⟩ | omega | focus (exact hS0) | focus (simp <;> omega) | decide +kernel); (first | exact trivial | exact rfl | exact .inl rfl | exact .inr rfl)) | refine Rg.nil ?_ | refine Rg.skip rfl rfl rfl ?_ | refine Run.regR ?_ | refine Run.condT rfl ?_ | refine Run.condF rfl ?_ | ((first | refine Run.condB rfl (fun hc => ?_) (fun hc => ?_) | ((fail_if_success (refine Rg.lit true rfl ?_)); (fail_if_success (refine Rg.lit false rfl ?_)); refine Rg.guard rfl (fun hc => ?_) (fun hc => ?_))) <;> ((try simp only [cs] at hc); (first | ((exfalso; omega); done) | skip))))
    (first | refine Run.ret tok Try.func27 rfl ?_ | refine Run.fall tok Try.func27 rfl ?_)
    exact .refl _
  rw [exFrom_at p hlt] at hE
  have hd : x.drop j = x.getD j default :: x.drop (j + 1) := by rw [List.drop_eq_getElem_cons hlt]; simp [hlt]
  rw [hd, List.foldl_cons] at hF
  by_cases hw : exInstr p (x.getD j default) S.length = 0
  rotate_left
  · rw [if_pos hw] at hE; exact absurd hE hw
  rw [if_neg (by simpa using hw)] at hE
  have hex := exInstr_zero.1 hw
  have hlen := exStep_len (w := w) hex
  rw [← hlen] at hE
  have hia := hok _ (mem_getD hlt)
  have hS2 : (exStep w S (x.getD j default)).length ≤ 8 := by have := hex.hi; omega
  have hlo := hex.lo
  clear hw
  generalize hi : x.getD j default = i at hF hE hex hlen hia hlo hS2
  obtain ⟨op, a⟩ := i
  dsimp only at hia hlo
  have hop := hex.op
  dsimp only at hop
  by_cases hA : asksW op = true
  · have hst : exStep w S ⟨op, a⟩ = S ++ [exAsk w ⟨op, a⟩] := by unfold exStep; dsimp only; rw [if_pos hA]
    have hrng := whose_rng hex hA hna
    have hopA : 31 ≤ op ∧ op ≤ 37 := by simpa [asksW] using hA
    clear hex hlo hop
    rw [hst] at hF hE hlen hS2
    by_cases h31 : op = 31
    · obtain ⟨m, rfl⟩ : ∃ m : Nat, a = m := ⟨a.toNat, by have := hrng.1 h31; dsimp only at this; omega⟩
      have hdv : (m : Int).tdiv 16 = (m / 16 : Nat) := rfl
      have hmd : (m : Int).tmod 16 = (m % 16 : Nat) := rfl
      have hdv2 : IntKind.wrap .i64 ((m : Int).tdiv 16) = (m / 16 : Nat) := by rw [hdv]; exact wrap_id (by unfold R64 at hia ⊢; omega)
      have hwh : (whoseW ⟨op, (m : Int)⟩).1 = (m / 16 : Nat) := by
        unfold whoseW
        dsimp only
        rw [if_neg (by rintro (e | e); rw [hA] at e; cases e; omega), if_pos ⟨h31, by omega⟩]
        exact hdv
      have hr1 := hrng.2
      rw [hwh] at hr1
      have hask : exAsk w ⟨op, (m : Int)⟩ = (w.actors.getD (m / 16) default).regs.getD (m % 16) 0 := by
        unfold exAsk
        dsimp only
        rw [if_pos h31, hwh]
        rfl
      rw [hask] at hF hE hlen hS2
      clear hrng hst hwh hask
      subst h31
      have hm16 : m / 16 < w.actors.length := by omega
      by_cases hreg : m % 16 < (w.actors.getD (m / 16) default).regs.length
      ·
        repeat' (first | (rw [hi]) | refine Rg.any rfl rfl rfl (fun _ hq => G_ixFK tok (m / 16) rfl rfl rfl rfl rfl hdv2 (by omega) hq) (by first | exact trivial | exact rfl | exact .inl rfl | exact .inr rfl | focus ((repeat (first | exact trivial | (refine ⟨Stay.op false tok rfl rfl rfl ?_ (fun t ht => by cases ht; rfl), ?_⟩; (first | exact ⟨⟩ | omega | focus (simp <;> omega) | decide +kernel)) | (refine ⟨Stay.op true tok rfl rfl rfl ?_ (fun t ht => by cases ht; rfl), ?_⟩; (first | exact ⟨⟩ | omega | focus (simp <;> omega) | decide +kernel)) | refine ⟨Stay.skip rfl rfl (fun t ht => by cases ht; rfl), ?_⟩)); done)) ?_ | refine Rg.any rfl rfl rfl (fun _ hq => G_ixFK tok (m % 16) rfl rfl rfl rfl rfl hmd (by omega) hq) (by first | exact trivial | exact rfl | exact .inl rfl | exact .inr rfl | focus ((repeat (first | exact trivial | (refine ⟨Stay.op false tok rfl rfl rfl ?_ (fun t ht => by cases ht; rfl), ?_⟩; (first | exact ⟨⟩ | omega | focus (simp <;> omega) | decide +kernel)) | (refine ⟨Stay.op true tok rfl rfl rfl ?_ (fun t ht => by cases ht; rfl), ?_⟩; (first | exact ⟨⟩ | omega | focus (simp <;> omega) | decide +kernel)) | refine ⟨Stay.skip rfl rfl (fun t ht => by cases ht; rfl), ?_⟩)); done)) ?_ | refine Run.ctl rfl ?_ | (refine Rg.op false tok rfl rfl rfl rfl ?_ ?_ ?_; (first | exact ⟨⟩ | omega | focus (simp <;> omega) | decide +kernel); (first | exact trivial | exact rfl | exact .inl rfl | exact .inr rfl)) | (refine Rg.op true tok rfl rfl rfl rfl ?_ ?_ ?_; (first | exact ⟨⟩ | omega | focus (simp <;> omega) | decide +kernel); (first | exact trivial | exact rfl | exact .inl rfl | exact .inr rfl)) | refine Rg.nil ?_ | refine Rg.skip rfl rfl rfl ?_ | refine Run.regR ?_ | refine Run.condT rfl ?_ | refine Run.condF rfl ?_ | ((first | refine Run.condB rfl (fun hc => ?_) (fun hc => ?_) | ((fail_if_success (refine Rg.lit true rfl ?_)); (fail_if_success (refine Rg.lit false rfl ?_)); refine Rg.guard rfl (fun hc => ?_) (fun hc => ?_))) <;> ((try simp only [cs] at hc); (first | ((exfalso; omega); done) | skip))))
        exact backR [0, 5] (j + 1, S ++ [(w.actors.getD (m / 16) default).regs.getD (m % 16) 0]) _ _ ⟨hlt, hF, hE, hS2⟩ (by dsimp only; omega) rfl ⟨⟨_, rfl, rfl, rfl, rfl, rfl, fun k hk => .ofEq rfl rfl⟩, ⟨_, rfl, rfl, rfl, by first | (simp; done) | (simp; omega), rfl, fun k hk => .ofEq (by dsimp only at hk ⊢; exact rows_snoc eInt S _ rfl (fun k _ => by rw [Nat.zero_add]) rfl hk) rfl⟩, trivial⟩ ⟨.cl rfl, .ptrN rfl rfl, .slcK rfl rfl rfl (by first | (simp; done) | (simp; omega)), .cl rfl, trivial⟩
      · have ez : (w.actors.getD (m / 16) default).regs.getD (m % 16) 0 = 0 := by rw [List.getD_eq_getElem?_getD, List.getElem?_eq_none (by omega)]; rfl
        rw [ez] at hF hE hlen hS2
        repeat' (first | (rw [hi]) | refine Rg.any rfl rfl rfl (fun _ hq => G_ixFK tok (m / 16) rfl rfl rfl rfl rfl hdv2 (by omega) hq) (by first | exact trivial | exact rfl | exact .inl rfl | exact .inr rfl | focus ((repeat (first | exact trivial | (refine ⟨Stay.op false tok rfl rfl rfl ?_ (fun t ht => by cases ht; rfl), ?_⟩; (first | exact ⟨⟩ | omega | focus (simp <;> omega) | decide +kernel)) | (refine ⟨Stay.op true tok rfl rfl rfl ?_ (fun t ht => by cases ht; rfl), ?_⟩; (first | exact ⟨⟩ | omega | focus (simp <;> omega) | decide +kernel)) | refine ⟨Stay.skip rfl rfl (fun t ht => by cases ht; rfl), ?_⟩)); done)) ?_ | refine Run.ctl rfl ?_ | (refine Rg.op false tok rfl rfl rfl rfl ?_ ?_ ?_; (first | exact ⟨⟩ | omega | focus (simp <;> omega) | decide +kernel); (first | exact trivial | exact rfl | exact .inl rfl | exact .inr rfl)) | (refine Rg.op true tok rfl rfl rfl rfl ?_ ?_ ?_; (first | exact ⟨⟩ | omega | focus (simp <;> omega) | decide +kernel); (first | exact trivial | exact rfl | exact .inl rfl | exact .inr rfl)) | refine Rg.nil ?_ | refine Rg.skip rfl rfl rfl ?_ | refine Run.regR ?_ | refine Run.condT rfl ?_ | refine Run.condF rfl ?_ | ((first | refine Run.condB rfl (fun hc => ?_) (fun hc => ?_) | ((fail_if_success (refine Rg.lit true rfl ?_)); (fail_if_success (refine Rg.lit false rfl ?_)); refine Rg.guard rfl (fun hc => ?_) (fun hc => ?_))) <;> ((try simp only [cs] at hc); (first | ((exfalso; omega); done) | skip))))
        exact backR [0, 5] (j + 1, S ++ [0]) _ _ ⟨hlt, hF, hE, hS2⟩ (by dsimp only; omega) rfl ⟨⟨_, rfl, rfl, rfl, rfl, rfl, fun k hk => .ofEq rfl rfl⟩, ⟨_, rfl, rfl, rfl, by first | (simp; done) | (simp; omega), rfl, fun k hk => .ofEq (by dsimp only at hk ⊢; exact rows_snoc eInt S _ rfl (fun k _ => by rw [Nat.zero_add]) rfl hk) rfl⟩, trivial⟩ ⟨.cl rfl, .ptrN rfl rfl, .slcK rfl rfl rfl (by first | (simp; done) | (simp; omega)), .cl rfl, trivial⟩
    by_cases h37 : op = 37
    · have hask : exAsk w ⟨op, a⟩ = w.mail.length := by unfold exAsk; dsimp only; rw [h37]; rfl
      rw [hask] at hF hE hlen hS2
      clear hrng hst hask
      subst h37
      repeat' (first | (rw [hi]) | refine Run.ctl rfl ?_ | (refine Rg.op false tok rfl rfl rfl rfl ?_ ?_ ?_; (first | exact ⟨⟩ | omega | focus (simp <;> omega) | decide +kernel); (first | exact trivial | exact rfl | exact .inl rfl | exact .inr rfl)) | (refine Rg.op true tok rfl rfl rfl rfl ?_ ?_ ?_; (first | exact ⟨⟩ | omega | focus (simp <;> omega) | decide +kernel); (first | exact trivial | exact rfl | exact .inl rfl | exact .inr rfl)) | refine Rg.nil ?_ | refine Rg.skip rfl rfl rfl ?_ | refine Run.regR ?_ | refine Run.condT rfl ?_ | refine Run.condF rfl ?_ | ((first | refine Run.condB rfl (fun hc => ?_) (fun hc => ?_) | ((fail_if_success (refine Rg.lit true rfl ?_)); (fail_if_success (refine Rg.lit false rfl ?_)); refine Rg.guard rfl (fun hc => ?_) (fun hc => ?_))) <;> ((try simp only [cs] at hc); (first | ((exfalso; omega); done) | ((cases hc); done) | skip))))
      exact backR [0, 4] (j + 1, S ++ [(w.mail.length : Int)]) _ _ ⟨hlt, hF, hE, hS2⟩ (by dsimp only; omega) rfl ⟨⟨_, rfl, rfl, rfl, rfl, rfl, fun k hk => .ofEq rfl rfl⟩, ⟨_, rfl, rfl, rfl, by first | (simp; done) | (simp; omega), rfl, fun k hk => .ofEq (by dsimp only at hk ⊢; exact rows_snoc eInt S _ rfl (fun k _ => by rw [Nat.zero_add]) rfl hk) rfl⟩, trivial⟩ ⟨.cl rfl, .ptrN rfl rfl, .slcK rfl rfl rfl (by first | (simp; done) | (simp; omega)), .cl rfl, trivial⟩
    have hwh : (whoseW ⟨op, a⟩).1 = a := by
      unfold whoseW
      dsimp only
      rw [if_neg (by rintro (e | e); rw [hA] at e; cases e; omega), if_neg (by rintro ⟨e, _⟩; omega)]
    have hr1 := hrng.2
    rw [hwh] at hr1
    obtain ⟨k, rfl⟩ : ∃ k : Nat, a = k := ⟨a.toNat, by omega⟩
    have hk : k < w.actors.length := by omega
    have hmt := refTo_ w.mail k hl
    have htr := refTruth_ (w.actors.getD k default).armed
    clear hrng
    have hc5 : op = 32 ∨ op = 33 ∨ op = 34 ∨ op = 35 ∨ op = 36 := by omega
    rcases hc5 with rfl | rfl | rfl | rfl | rfl
    · have hask : exAsk w ⟨32, k⟩ = (w.actors.getD k default).down := by unfold exAsk; rw [hwh]; rfl
      rw [hask] at hF hE hlen hS2
      clear hask hst hwh
      repeat' (first | (rw [hi]) | refine Run.ctl rfl ?_ | (refine Rg.op false tok rfl rfl rfl rfl ?_ ?_ ?_; (first | exact ⟨⟩ | omega | focus (simp <;> omega) | decide +kernel); (first | exact trivial | exact rfl | exact .inl rfl | exact .inr rfl)) | (refine Rg.op true tok rfl rfl rfl rfl ?_ ?_ ?_; (first | exact ⟨⟩ | omega | focus (simp <;> omega) | decide +kernel); (first | exact trivial | exact rfl | exact .inl rfl | exact .inr rfl)) | refine Rg.nil ?_ | refine Rg.skip rfl rfl rfl ?_ | refine Run.regR ?_ | refine Run.condT rfl ?_ | refine Run.condF rfl ?_ | ((first | refine Run.condB rfl (fun hc => ?_) (fun hc => ?_) | ((fail_if_success (refine Rg.lit true rfl ?_)); (fail_if_success (refine Rg.lit false rfl ?_)); refine Rg.guard rfl (fun hc => ?_) (fun hc => ?_))) <;> ((try simp only [cs] at hc); (first | ((exfalso; omega); done) | ((cases hc); done) | skip))))
      exact backR [0, 4] (j + 1, S ++ [(w.actors.getD k default).down]) _ _ ⟨hlt, hF, hE, hS2⟩ (by dsimp only; omega) rfl ⟨⟨_, rfl, rfl, rfl, rfl, rfl, fun k hk => .ofEq rfl rfl⟩, ⟨_, rfl, rfl, rfl, by first | (simp; done) | (simp; omega), rfl, fun k hk => .ofEq (by dsimp only at hk ⊢; exact rows_snoc eInt S _ rfl (fun k _ => by rw [Nat.zero_add]) rfl hk) rfl⟩, trivial⟩ ⟨.cl rfl, .ptrN rfl rfl, .slcK rfl rfl rfl (by first | (simp; done) | (simp; omega)), .cl rfl, trivial⟩
    · have hask : exAsk w ⟨33, k⟩ = (w.actors.getD k default).over := by unfold exAsk; rw [hwh]; rfl
      rw [hask] at hF hE hlen hS2
      clear hask hst hwh
      repeat' (first | (rw [hi]) | refine Run.ctl rfl ?_ | (refine Rg.op false tok rfl rfl rfl rfl ?_ ?_ ?_; (first | exact ⟨⟩ | omega | focus (simp <;> omega) | decide +kernel); (first | exact trivial | exact rfl | exact .inl rfl | exact .inr rfl)) | (refine Rg.op true tok rfl rfl rfl rfl ?_ ?_ ?_; (first | exact ⟨⟩ | omega | focus (simp <;> omega) | decide +kernel); (first | exact trivial | exact rfl | exact .inl rfl | exact .inr rfl)) | refine Rg.nil ?_ | refine Rg.skip rfl rfl rfl ?_ | refine Run.regR ?_ | refine Run.condT rfl ?_ | refine Run.condF rfl ?_ | ((first | refine Run.condB rfl (fun hc => ?_) (fun hc => ?_) | ((fail_if_success (refine Rg.lit true rfl ?_)); (fail_if_success (refine Rg.lit false rfl ?_)); refine Rg.guard rfl (fun hc => ?_) (fun hc => ?_))) <;> ((try simp only [cs] at hc); (first | ((exfalso; omega); done) | ((cases hc); done) | skip))))
      exact backR [0, 4] (j + 1, S ++ [(w.actors.getD k default).over]) _ _ ⟨hlt, hF, hE, hS2⟩ (by dsimp only; omega) rfl ⟨⟨_, rfl, rfl, rfl, rfl, rfl, fun k hk => .ofEq rfl rfl⟩, ⟨_, rfl, rfl, rfl, by first | (simp; done) | (simp; omega), rfl, fun k hk => .ofEq (by dsimp only at hk ⊢; exact rows_snoc eInt S _ rfl (fun k _ => by rw [Nat.zero_add]) rfl hk) rfl⟩, trivial⟩ ⟨.cl rfl, .ptrN rfl rfl, .slcK rfl rfl rfl (by first | (simp; done) | (simp; omega)), .cl rfl, trivial⟩
    · have hask : exAsk w ⟨34, k⟩ = toMail w.mail k := by unfold exAsk; rw [hwh]; rfl
      rw [hask] at hF hE hlen hS2
      clear hask hst hwh
      repeat' (first | (rw [hi]) | refine Run.ctl rfl ?_ | (refine Rg.op false tok rfl rfl rfl rfl ?_ ?_ ?_; (first | exact ⟨⟩ | omega | focus (simp <;> omega) | decide +kernel); (first | exact trivial | exact rfl | exact .inl rfl | exact .inr rfl)) | refine Rg.call (hmt) rfl rfl rfl rfl rfl ⟨⟨.refl _, .refl _, trivial⟩, rfl⟩ ?_ | (refine Rg.op true tok rfl rfl rfl rfl ?_ ?_ ?_; (first | exact ⟨⟩ | omega | focus (simp <;> omega) | decide +kernel); (first | exact trivial | exact rfl | exact .inl rfl | exact .inr rfl)) | refine Rg.nil ?_ | refine Rg.skip rfl rfl rfl ?_ | refine Run.regR ?_ | refine Run.condT rfl ?_ | refine Run.condF rfl ?_ | ((first | refine Run.condB rfl (fun hc => ?_) (fun hc => ?_) | ((fail_if_success (refine Rg.lit true rfl ?_)); (fail_if_success (refine Rg.lit false rfl ?_)); refine Rg.guard rfl (fun hc => ?_) (fun hc => ?_))) <;> ((try simp only [cs] at hc); (first | ((exfalso; omega); done) | skip))))
      exact backR [0, 4] (j + 1, S ++ [(toMail w.mail k : Int)]) _ _ ⟨hlt, hF, hE, hS2⟩ (by dsimp only; omega) rfl ⟨⟨_, rfl, rfl, rfl, rfl, rfl, fun k hk => .ofEq rfl rfl⟩, ⟨_, rfl, rfl, rfl, by first | (simp; done) | (simp; omega), rfl, fun k hk => .ofEq (by dsimp only at hk ⊢; exact rows_snoc eInt S _ rfl (fun k _ => by rw [Nat.zero_add]) rfl hk) rfl⟩, trivial⟩ ⟨.cl rfl, .ptrN rfl rfl, .slcK rfl rfl rfl (by first | (simp; done) | (simp; omega)), .cl rfl, trivial⟩
    · have hask : exAsk w ⟨35, k⟩ = truth (w.actors.getD k default).armed := by unfold exAsk; rw [hwh]; rfl
      rw [hask] at hF hE hlen hS2
      clear hask hst hwh
      repeat' (first | (rw [hi]) | refine Run.ctl rfl ?_ | (refine Rg.op false tok rfl rfl rfl rfl ?_ ?_ ?_; (first | exact ⟨⟩ | omega | focus (simp <;> omega) | decide +kernel); (first | exact trivial | exact rfl | exact .inl rfl | exact .inr rfl)) | refine Rg.call (htr) rfl rfl rfl rfl rfl ⟨⟨.refl _, trivial⟩, rfl⟩ ?_ | (refine Rg.op true tok rfl rfl rfl rfl ?_ ?_ ?_; (first | exact ⟨⟩ | omega | focus (simp <;> omega) | decide +kernel); (first | exact trivial | exact rfl | exact .inl rfl | exact .inr rfl)) | refine Rg.nil ?_ | refine Rg.skip rfl rfl rfl ?_ | refine Run.regR ?_ | refine Run.condT rfl ?_ | refine Run.condF rfl ?_ | ((first | refine Run.condB rfl (fun hc => ?_) (fun hc => ?_) | ((fail_if_success (refine Rg.lit true rfl ?_)); (fail_if_success (refine Rg.lit false rfl ?_)); refine Rg.guard rfl (fun hc => ?_) (fun hc => ?_))) <;> ((try simp only [cs] at hc); (first | ((exfalso; omega); done) | skip))))
      exact backR [0, 4] (j + 1, S ++ [truth (w.actors.getD k default).armed]) _ _ ⟨hlt, hF, hE, hS2⟩ (by dsimp only; omega) rfl ⟨⟨_, rfl, rfl, rfl, rfl, rfl, fun k hk => .ofEq rfl rfl⟩, ⟨_, rfl, rfl, rfl, by first | (simp; done) | (simp; omega), rfl, fun k hk => .ofEq (by dsimp only at hk ⊢; exact rows_snoc eInt S _ rfl (fun k _ => by rw [Nat.zero_add]) rfl hk) rfl⟩, trivial⟩ ⟨.cl rfl, .ptrN rfl rfl, .slcK rfl rfl rfl (by first | (simp; done) | (simp; omega)), .cl rfl, trivial⟩
    · have hask : exAsk w ⟨36, k⟩ = (w.actors.getD k default).sent := by unfold exAsk; rw [hwh]; rfl
      rw [hask] at hF hE hlen hS2
      clear hask hst hwh
      repeat' (first | (rw [hi]) | refine Run.ctl rfl ?_ | (refine Rg.op false tok rfl rfl rfl rfl ?_ ?_ ?_; (first | exact ⟨⟩ | omega | focus (simp <;> omega) | decide +kernel); (first | exact trivial | exact rfl | exact .inl rfl | exact .inr rfl)) | (refine Rg.op true tok rfl rfl rfl rfl ?_ ?_ ?_; (first | exact ⟨⟩ | omega | focus (simp <;> omega) | decide +kernel); (first | exact trivial | exact rfl | exact .inl rfl | exact .inr rfl)) | refine Rg.nil ?_ | refine Rg.skip rfl rfl rfl ?_ | refine Run.regR ?_ | refine Run.condT rfl ?_ | refine Run.condF rfl ?_ | ((first | refine Run.condB rfl (fun hc => ?_) (fun hc => ?_) | ((fail_if_success (refine Rg.lit true rfl ?_)); (fail_if_success (refine Rg.lit false rfl ?_)); refine Rg.guard rfl (fun hc => ?_) (fun hc => ?_))) <;> ((try simp only [cs] at hc); (first | ((exfalso; omega); done) | ((cases hc); done) | skip))))
      exact backR [0, 4] (j + 1, S ++ [(w.actors.getD k default).sent]) _ _ ⟨hlt, hF, hE, hS2⟩ (by dsimp only; omega) rfl ⟨⟨_, rfl, rfl, rfl, rfl, rfl, fun k hk => .ofEq rfl rfl⟩, ⟨_, rfl, rfl, rfl, by first | (simp; done) | (simp; omega), rfl, fun k hk => .ofEq (by dsimp only at hk ⊢; exact rows_snoc eInt S _ rfl (fun k _ => by rw [Nat.zero_add]) rfl hk) rfl⟩, trivial⟩ ⟨.cl rfl, .ptrN rfl rfl, .slcK rfl rfl rfl (by first | (simp; done) | (simp; omega)), .cl rfl, trivial⟩
  have hA' : asksW op = false := by simpa using hA
  have hst : exStep w S ⟨op, a⟩ = (if op = 1 then S ++ [a] else if op = 2 then S.take (S.length - 1) else if op = 3 then S ++ [S.getD (S.length - 1) 0] else if op = 4 then (S.set (S.length - 1) (S.getD (S.length - 2) 0)).set (S.length - 2) (S.getD (S.length - 1) 0) else if (sumOne op (S.getD (S.length - 1) 0)).2 then S.set (S.length - 1) (sumOne op (S.getD (S.length - 1) 0)).1 else S.take (S.length - 2) ++ [(sumTwo op (S.getD (S.length - 2) 0) (S.getD (S.length - 1) 0)).1]) := by unfold exStep; dsimp only; rw [if_neg hA]
  have hnA : ¬(31 ≤ op ∧ op ≤ 37) := by simpa [asksW] using hA
  clear hex hA hA'
  by_cases h1 : op = 1
  · rw [if_pos h1] at hst
    rw [hst] at hF hE hlen hS2
    repeat' (first | (rw [hi]) | refine Run.ctl rfl ?_ | (refine Rg.op false tok rfl rfl rfl rfl ?_ ?_ ?_; (first | exact ⟨⟩ | omega | focus (simp <;> omega) | decide +kernel); (first | exact trivial | exact rfl | exact .inl rfl | exact .inr rfl)) | (refine Rg.op true tok rfl rfl rfl rfl ?_ ?_ ?_; (first | exact ⟨⟩ | omega | focus (simp <;> omega) | decide +kernel); (first | exact trivial | exact rfl | exact .inl rfl | exact .inr rfl)) | refine Rg.nil ?_ | refine Rg.skip rfl rfl rfl ?_ | refine Run.regR ?_ | refine Run.condT rfl ?_ | refine Run.condF rfl ?_ | ((first | refine Run.condB rfl (fun hc => ?_) (fun hc => ?_) | ((fail_if_success (refine Rg.lit true rfl ?_)); (fail_if_success (refine Rg.lit false rfl ?_)); refine Rg.guard rfl (fun hc => ?_) (fun hc => ?_))) <;> ((try simp only [cs] at hc); (first | ((exfalso; omega); done) | ((cases hc); done) | skip))))
    exact backR [0, 4] (j + 1, S ++ [a]) _ _ ⟨hlt, hF, hE, hS2⟩ (by dsimp only; omega) rfl ⟨⟨_, rfl, rfl, rfl, rfl, rfl, fun k hk => .ofEq rfl rfl⟩, ⟨_, rfl, rfl, rfl, by first | (simp; done) | (simp; omega), rfl, fun k hk => .ofEq (by dsimp only at hk ⊢; exact rows_snoc eInt S _ rfl (fun k _ => by rw [Nat.zero_add]) rfl hk) rfl⟩, trivial⟩ ⟨.cl rfl, .ptrN rfl rfl, .slcK rfl rfl rfl (by first | (simp; done) | (simp; omega)), .cl rfl, trivial⟩
  rw [if_neg h1] at hst
  by_cases h2 : op = 2
  · rw [if_pos h2] at hst
    rw [hst] at hF hE hlen hS2
    have hlo1 : 1 ≤ (S.length : Int) := by rw [h2] at hlo; exact hlo
    repeat' (first | (rw [hi]) | refine Run.ctl rfl ?_ | (refine Rg.op false tok rfl rfl rfl rfl ?_ ?_ ?_; (first | exact ⟨⟩ | omega | focus (simp <;> omega) | decide +kernel); (first | exact trivial | exact rfl | exact .inl rfl | exact .inr rfl)) | (refine Rg.op true tok rfl rfl rfl rfl ?_ ?_ ?_; (first | exact ⟨⟩ | omega | focus (simp <;> omega) | decide +kernel); (first | exact trivial | exact rfl | exact .inl rfl | exact .inr rfl)) | refine Rg.nil ?_ | refine Rg.skip rfl rfl rfl ?_ | refine Run.regR ?_ | refine Run.condT rfl ?_ | refine Run.condF rfl ?_ | ((first | refine Run.condB rfl (fun hc => ?_) (fun hc => ?_) | ((fail_if_success (refine Rg.lit true rfl ?_)); (fail_if_success (refine Rg.lit false rfl ?_)); refine Rg.guard rfl (fun hc => ?_) (fun hc => ?_))) <;> ((try simp only [cs] at hc); (first | ((exfalso; omega); done) | ((cases hc); done) | skip))))
    refine Run.weak (i := 1) ⟨3, 1, S.length - 1, rows eInt (S.take (S.length - 1)), false, false⟩ rfl rfl rfl (by dsimp only; omega) rfl (fun k hk => WkL.ofEq (by dsimp only at hk ⊢; exact (rows_take eInt S hk).symm)) ?_
    exact backR [0, 1] (j + 1, S.take (S.length - 1)) _ _ ⟨hlt, hF, hE, hS2⟩ (by dsimp only; omega) rfl ⟨⟨_, rfl, rfl, rfl, rfl, rfl, fun k hk => .ofEq rfl rfl⟩, ⟨_, rfl, rfl, rfl, by simp, rfl, fun k hk => .ofEq rfl rfl⟩, trivial⟩ ⟨.cl rfl, .ptrN rfl rfl, .slcK rfl rfl rfl (by rw [List.length_take]; omega), .cl rfl, trivial⟩
  rw [if_neg h2] at hst
  by_cases h3 : op = 3
  · rw [if_pos h3] at hst
    rw [hst] at hF hE hlen hS2
    have hlo1 : 1 ≤ (S.length : Int) := by rw [h3] at hlo; exact hlo
    repeat' (first | (rw [hi]) | refine Rg.any rfl rfl rfl (fun _ hq => G_ixOK tok (S.length - 1) rfl rfl rfl rfl rfl rfl (by omega) (by omega) hq) (by first | exact trivial | exact rfl | exact .inl rfl | exact .inr rfl | focus ((repeat (first | exact trivial | (refine ⟨Stay.op false tok rfl rfl rfl ?_ (fun t ht => by cases ht; rfl), ?_⟩; (first | exact ⟨⟩ | omega | focus (simp <;> omega) | decide +kernel)) | (refine ⟨Stay.op true tok rfl rfl rfl ?_ (fun t ht => by cases ht; rfl), ?_⟩; (first | exact ⟨⟩ | omega | focus (simp <;> omega) | decide +kernel)) | refine ⟨Stay.skip rfl rfl (fun t ht => by cases ht; rfl), ?_⟩)); done)) ?_ | refine Run.ctl rfl ?_ | (refine Rg.op false tok rfl rfl rfl rfl ?_ ?_ ?_; (first | exact ⟨⟩ | omega | focus (simp <;> omega) | decide +kernel); (first | exact trivial | exact rfl | exact .inl rfl | exact .inr rfl)) | (refine Rg.op true tok rfl rfl rfl rfl ?_ ?_ ?_; (first | exact ⟨⟩ | omega | focus (simp <;> omega) | decide +kernel); (first | exact trivial | exact rfl | exact .inl rfl | exact .inr rfl)) | refine Rg.nil ?_ | refine Rg.skip rfl rfl rfl ?_ | refine Run.regR ?_ | refine Run.condT rfl ?_ | refine Run.condF rfl ?_ | ((first | refine Run.condB rfl (fun hc => ?_) (fun hc => ?_) | ((fail_if_success (refine Rg.lit true rfl ?_)); (fail_if_success (refine Rg.lit false rfl ?_)); refine Rg.guard rfl (fun hc => ?_) (fun hc => ?_))) <;> ((try simp only [cs] at hc); (first | ((exfalso; omega); done) | skip))))
    exact backR [0, 4] (j + 1, S ++ [S.getD (S.length - 1) 0]) _ _ ⟨hlt, hF, hE, hS2⟩ (by dsimp only; omega) rfl ⟨⟨_, rfl, rfl, rfl, rfl, rfl, fun k hk => .ofEq rfl rfl⟩, ⟨_, rfl, rfl, rfl, by first | (simp; done) | (simp; omega), rfl, fun k hk => .ofEq (by dsimp only at hk ⊢; exact rows_snoc eInt S _ rfl (fun k _ => by rw [Nat.zero_add]) (by show eInt (S.getD (0 + (S.length - 1)) default) = _; rw [Nat.zero_add]; rfl) hk) rfl⟩, trivial⟩ ⟨.cl rfl, .ptrN rfl rfl, .slcK rfl rfl rfl (by first | (simp; done) | (simp; omega)), .cl rfl, trivial⟩
  rw [if_neg h3] at hst
  have hp1 : op ≠ 4 → 1 ≤ opPops op := by rw [pops_at]; intro _; split <;> (try split) <;> omega
  have hp2 : op ≠ 14 → op ≠ 19 → 2 ≤ opPops op := by rw [pops_at]; intro _ _; split <;> omega
  have e1 : S.getD (S.length - 1) 0 = S.getD (0 + (S.length - 1)) default := by rw [Nat.zero_add]; rfl
  have e2 : S.getD (S.length - 2) 0 = S.getD (0 + (S.length - 2)) default := by rw [Nat.zero_add]; rfl
  rw [e1, e2] at hst
  by_cases h4 : op = 4
  · have hlo1 : 2 ≤ S.length := by have hlo : (2 : Int) ≤ (S.length : Int) := by (rw [h4] at hlo; exact hlo)
                                   omega
    rw [if_pos h4, set_two S hlo1] at hst
    rw [hst] at hF hE hlen hS2
    repeat' (first | (rw [hi]) | (refine Run.drwP [0, 5, 17, 18] [1, 2, 3, 4, 6, 7, 8, 9, 10, 11, 12, 13, 14, 15, 16, 0, 5, 17, 18] [none, none, none, none, none, none, none, none, none, none, none, none, none, none, none, some [16, 15, 14, 13, 12, 11, 10, 9, 8, 7, 6, 4, 3, 2, 1], some [16, 15, 14, 13, 12, 11, 10, 9, 8, 7, 6], some [], some []] mixed (by kernel_rfl) rfl ?_) | refine Rg.any rfl rfl rfl (fun _ hq => G_ixOK tok (S.length - 1) rfl rfl rfl rfl rfl rfl (by omega) (by omega) hq) (by first | exact trivial | exact rfl | exact .inl rfl | exact .inr rfl | focus ((repeat (first | exact trivial | (refine ⟨Stay.op false tok rfl rfl rfl ?_ (fun t ht => by cases ht; rfl), ?_⟩; (first | exact ⟨⟩ | omega | focus (simp <;> omega) | decide +kernel)) | (refine ⟨Stay.op true tok rfl rfl rfl ?_ (fun t ht => by cases ht; rfl), ?_⟩; (first | exact ⟨⟩ | omega | focus (simp <;> omega) | decide +kernel)) | refine ⟨Stay.skip rfl rfl (fun t ht => by cases ht; rfl), ?_⟩ | (refine ⟨Stay.g rfl rfl (fun _ hq => G_ixOK tok (S.length - 1) rfl rfl rfl rfl rfl rfl (by omega) (by omega) hq) (fun t ht => by cases ht; rfl), ?_⟩) | (refine ⟨Stay.g rfl rfl (fun _ hq => G_ixOK tok (S.length - 2) rfl rfl rfl rfl rfl rfl (by omega) (by omega) hq) (fun t ht => by cases ht; rfl), ?_⟩) | (refine ⟨Stay.g rfl rfl (fun _ hq => G_buildZ tok (len := 2) rfl rfl rfl rfl rfl rfl rfl rfl rfl rfl rfl hq) (fun t ht => by cases ht; rfl), ?_⟩))); done)) ?_ | refine Rg.any rfl rfl rfl (fun _ hq => G_ixOK tok (S.length - 2) rfl rfl rfl rfl rfl rfl (by omega) (by omega) hq) (by first | exact trivial | exact rfl | exact .inl rfl | exact .inr rfl | focus ((repeat (first | exact trivial | (refine ⟨Stay.op false tok rfl rfl rfl ?_ (fun t ht => by cases ht; rfl), ?_⟩; (first | exact ⟨⟩ | omega | focus (simp <;> omega) | decide +kernel)) | (refine ⟨Stay.op true tok rfl rfl rfl ?_ (fun t ht => by cases ht; rfl), ?_⟩; (first | exact ⟨⟩ | omega | focus (simp <;> omega) | decide +kernel)) | refine ⟨Stay.skip rfl rfl (fun t ht => by cases ht; rfl), ?_⟩ | (refine ⟨Stay.g rfl rfl (fun _ hq => G_ixOK tok (S.length - 1) rfl rfl rfl rfl rfl rfl (by omega) (by omega) hq) (fun t ht => by cases ht; rfl), ?_⟩) | (refine ⟨Stay.g rfl rfl (fun _ hq => G_ixOK tok (S.length - 2) rfl rfl rfl rfl rfl rfl (by omega) (by omega) hq) (fun t ht => by cases ht; rfl), ?_⟩) | (refine ⟨Stay.g rfl rfl (fun _ hq => G_buildZ tok (len := 2) rfl rfl rfl rfl rfl rfl rfl rfl rfl rfl rfl hq) (fun t ht => by cases ht; rfl), ?_⟩))); done)) ?_ | refine Rg.any rfl rfl rfl (fun _ hq => G_buildZ tok (len := 2) rfl rfl rfl rfl rfl rfl rfl rfl rfl rfl rfl hq) (by first | exact trivial | exact rfl | exact .inl rfl | exact .inr rfl | focus ((repeat (first | exact trivial | (refine ⟨Stay.op false tok rfl rfl rfl ?_ (fun t ht => by cases ht; rfl), ?_⟩; (first | exact ⟨⟩ | omega | focus (simp <;> omega) | decide +kernel)) | (refine ⟨Stay.op true tok rfl rfl rfl ?_ (fun t ht => by cases ht; rfl), ?_⟩; (first | exact ⟨⟩ | omega | focus (simp <;> omega) | decide +kernel)) | refine ⟨Stay.skip rfl rfl (fun t ht => by cases ht; rfl), ?_⟩ | (refine ⟨Stay.g rfl rfl (fun _ hq => G_ixOK tok (S.length - 1) rfl rfl rfl rfl rfl rfl (by omega) (by omega) hq) (fun t ht => by cases ht; rfl), ?_⟩) | (refine ⟨Stay.g rfl rfl (fun _ hq => G_ixOK tok (S.length - 2) rfl rfl rfl rfl rfl rfl (by omega) (by omega) hq) (fun t ht => by cases ht; rfl), ?_⟩) | (refine ⟨Stay.g rfl rfl (fun _ hq => G_buildZ tok (len := 2) rfl rfl rfl rfl rfl rfl rfl rfl rfl rfl rfl hq) (fun t ht => by cases ht; rfl), ?_⟩))); done)) ?_ | refine Rg.any rfl rfl rfl (fun _ hq => G_appOS tok rfl rfl rfl rfl rfl rfl rfl rfl (by dsimp only; omega) (by dsimp only; omega) (by dsimp only; omega) hq) (by first | exact trivial | exact rfl | exact .inl rfl | exact .inr rfl | focus ((repeat (first | exact trivial | (refine ⟨Stay.op false tok rfl rfl rfl ?_ (fun t ht => by cases ht; rfl), ?_⟩; (first | exact ⟨⟩ | omega | focus (simp <;> omega) | decide +kernel)) | (refine ⟨Stay.op true tok rfl rfl rfl ?_ (fun t ht => by cases ht; rfl), ?_⟩; (first | exact ⟨⟩ | omega | focus (simp <;> omega) | decide +kernel)) | refine ⟨Stay.skip rfl rfl (fun t ht => by cases ht; rfl), ?_⟩ | (refine ⟨Stay.g rfl rfl (fun _ hq => G_ixOK tok (S.length - 1) rfl rfl rfl rfl rfl rfl (by omega) (by omega) hq) (fun t ht => by cases ht; rfl), ?_⟩) | (refine ⟨Stay.g rfl rfl (fun _ hq => G_ixOK tok (S.length - 2) rfl rfl rfl rfl rfl rfl (by omega) (by omega) hq) (fun t ht => by cases ht; rfl), ?_⟩) | (refine ⟨Stay.g rfl rfl (fun _ hq => G_buildZ tok (len := 2) rfl rfl rfl rfl rfl rfl rfl rfl rfl rfl rfl hq) (fun t ht => by cases ht; rfl), ?_⟩))); done)) ?_ | refine Run.ctl rfl ?_ | (refine Rg.op false tok rfl rfl rfl rfl ?_ ?_ ?_; (first | exact ⟨⟩ | omega | focus (simp <;> omega) | decide +kernel); (first | exact trivial | exact rfl | exact .inl rfl | exact .inr rfl | focus ((repeat (first | exact trivial | (refine ⟨Stay.op false tok rfl rfl rfl ?_ (fun t ht => by cases ht; rfl), ?_⟩; (first | exact ⟨⟩ | omega | focus (simp <;> omega) | decide +kernel)) | (refine ⟨Stay.op true tok rfl rfl rfl ?_ (fun t ht => by cases ht; rfl), ?_⟩; (first | exact ⟨⟩ | omega | focus (simp <;> omega) | decide +kernel)) | refine ⟨Stay.skip rfl rfl (fun t ht => by cases ht; rfl), ?_⟩ | (refine ⟨Stay.g rfl rfl (fun _ hq => G_ixOK tok (S.length - 1) rfl rfl rfl rfl rfl rfl (by omega) (by omega) hq) (fun t ht => by cases ht; rfl), ?_⟩) | (refine ⟨Stay.g rfl rfl (fun _ hq => G_ixOK tok (S.length - 2) rfl rfl rfl rfl rfl rfl (by omega) (by omega) hq) (fun t ht => by cases ht; rfl), ?_⟩) | (refine ⟨Stay.g rfl rfl (fun _ hq => G_buildZ tok (len := 2) rfl rfl rfl rfl rfl rfl rfl rfl rfl rfl rfl hq) (fun t ht => by cases ht; rfl), ?_⟩))); done))) | (refine Rg.op true tok rfl rfl rfl rfl ?_ ?_ ?_; (first | exact ⟨⟩ | omega | focus (simp <;> omega) | decide +kernel); (first | exact trivial | exact rfl | exact .inl rfl | exact .inr rfl | focus ((repeat (first | exact trivial | (refine ⟨Stay.op false tok rfl rfl rfl ?_ (fun t ht => by cases ht; rfl), ?_⟩; (first | exact ⟨⟩ | omega | focus (simp <;> omega) | decide +kernel)) | (refine ⟨Stay.op true tok rfl rfl rfl ?_ (fun t ht => by cases ht; rfl), ?_⟩; (first | exact ⟨⟩ | omega | focus (simp <;> omega) | decide +kernel)) | refine ⟨Stay.skip rfl rfl (fun t ht => by cases ht; rfl), ?_⟩ | (refine ⟨Stay.g rfl rfl (fun _ hq => G_ixOK tok (S.length - 1) rfl rfl rfl rfl rfl rfl (by omega) (by omega) hq) (fun t ht => by cases ht; rfl), ?_⟩) | (refine ⟨Stay.g rfl rfl (fun _ hq => G_ixOK tok (S.length - 2) rfl rfl rfl rfl rfl rfl (by omega) (by omega) hq) (fun t ht => by cases ht; rfl), ?_⟩) | (refine ⟨Stay.g rfl rfl (fun _ hq => G_buildZ tok (len := 2) rfl rfl rfl rfl rfl rfl rfl rfl rfl rfl rfl hq) (fun t ht => by cases ht; rfl), ?_⟩))); done))) | refine Rg.nil ?_ | refine Rg.skip rfl rfl rfl ?_ | refine Run.regR ?_ | refine Run.drwR mixed (by kernel_rfl) rfl ?_ | refine Run.condT rfl ?_ | refine Run.condF rfl ?_ | ((first | refine Run.condB rfl (fun hc => ?_) (fun hc => ?_) | ((fail_if_success (refine Rg.lit true rfl ?_)); (fail_if_success (refine Rg.lit false rfl ?_)); refine Rg.guard rfl (fun hc => ?_) (fun hc => ?_))) <;> ((try simp only [cs] at hc); (first | ((exfalso; omega); done) | skip))))
    exact backR [0, 5] (j + 1, S.take (S.length - 2) ++ [S.getD (0 + (S.length - 1)) default, S.getD (0 + (S.length - 2)) default]) _ _ ⟨hlt, hF, hE, hS2⟩ (by dsimp only; omega) rfl ⟨⟨_, rfl, rfl, rfl, rfl, rfl, fun k hk => .ofEq rfl rfl⟩, ⟨_, rfl, rfl, rfl, by first | (simp; done) | (simp; omega), rfl, fun k hk => .ofEq (by dsimp only at hk ⊢; exact rows_app eInt (S.take (S.length - 2)) _ (by rw [List.length_take]; omega) (fun k hk => by rw [List.length_take] at hk; rw [rows_take eInt S (by omega)]; exact app0_rows) (fun q hq => by rcases q with _ | _ | q; rfl; rfl; simp at hq; omega) k hk) rfl⟩, trivial⟩ ⟨.cl rfl, .ptrN rfl rfl, .slcK rfl rfl rfl (by first | (simp; done) | (simp; omega)), .cl rfl, trivial⟩
  rw [if_neg h4] at hst
  have hp1 := hp1 h4
  have hone := refOne_ op (S.getD (0 + (S.length - 1)) default)
  have hs14 : (sumOne op (S.getD (0 + (S.length - 1)) default)).2 = decide (op = 14 ∨ op = 19) := by
    unfold sumOne
    by_cases h14 : op = 14
    · rw [if_pos h14]; simp [h14]
    · rw [if_neg h14]
      by_cases h19 : op = 19
      · rw [if_pos h19]; simp [h19]
      · rw [if_neg h19]; simp [h14, h19]
  by_cases ho14 : op = 14 ∨ op = 19
  · rw [decide_eq_true ho14] at hs14
    generalize sumOne op (S.getD (0 + (S.length - 1)) default) = r at hone hs14 hst
    obtain ⟨v, b⟩ := r
    dsimp only at hs14
    subst hs14
    rw [if_pos rfl, set_last S (by omega)] at hst
    rw [hst] at hF hE hlen hS2
    have ho14b := ho14
    rcases ho14b with h14 | h19
    ·
      repeat' (first | (rw [hi]) | (refine Run.drwP [] [0, 1, 2, 3, 4, 5, 6, 7, 8, 9, 10, 11, 12] [none, none, none, none, none, none, none, none, none, none, none, none, none] mixed (by kernel_rfl) rfl ?_) | refine Rg.any rfl rfl rfl (fun _ hq => G_appOS tok rfl rfl rfl rfl rfl rfl rfl rfl (by dsimp only; omega) (by dsimp only; omega) (by dsimp only; omega) hq) (by first | exact trivial | exact rfl | exact .inl rfl | exact .inr rfl | focus ((repeat (first | exact trivial | (refine ⟨Stay.op false tok rfl rfl rfl ?_ (fun t ht => by cases ht; rfl), ?_⟩; (first | exact ⟨⟩ | omega | focus (simp <;> omega) | decide +kernel)) | (refine ⟨Stay.op true tok rfl rfl rfl ?_ (fun t ht => by cases ht; rfl), ?_⟩; (first | exact ⟨⟩ | omega | focus (simp <;> omega) | decide +kernel)) | refine ⟨Stay.skip rfl rfl (fun t ht => by cases ht; rfl), ?_⟩)); done)) ?_ | refine Rg.any rfl rfl rfl (fun _ hq => G_ixOK tok (S.length - 1) rfl rfl rfl rfl rfl rfl (by omega) (by omega) hq) (by first | exact trivial | exact rfl | exact .inl rfl | exact .inr rfl | focus ((repeat (first | exact trivial | (refine ⟨Stay.op false tok rfl rfl rfl ?_ (fun t ht => by cases ht; rfl), ?_⟩; (first | exact ⟨⟩ | omega | focus (simp <;> omega) | decide +kernel)) | (refine ⟨Stay.op true tok rfl rfl rfl ?_ (fun t ht => by cases ht; rfl), ?_⟩; (first | exact ⟨⟩ | omega | focus (simp <;> omega) | decide +kernel)) | refine ⟨Stay.skip rfl rfl (fun t ht => by cases ht; rfl), ?_⟩)); done)) ?_ | refine Run.ctl rfl ?_ | (refine Rg.op false tok rfl rfl rfl rfl ?_ ?_ ?_; (first | exact ⟨⟩ | omega | focus (simp <;> omega) | decide +kernel); (first | exact trivial | exact rfl | exact .inl rfl | exact .inr rfl | focus ((repeat (first | exact trivial | (refine ⟨Stay.op false tok rfl rfl rfl ?_ (fun t ht => by cases ht; rfl), ?_⟩; (first | exact ⟨⟩ | omega | focus (simp <;> omega) | decide +kernel)) | (refine ⟨Stay.op true tok rfl rfl rfl ?_ (fun t ht => by cases ht; rfl), ?_⟩; (first | exact ⟨⟩ | omega | focus (simp <;> omega) | decide +kernel)) | refine ⟨Stay.skip rfl rfl (fun t ht => by cases ht; rfl), ?_⟩)); done))) | refine Rg.call (hone) rfl rfl rfl rfl rfl ⟨⟨.refl _, .refl _, trivial⟩, rfl⟩ ?_ | (refine Rg.op true tok rfl rfl rfl rfl ?_ ?_ ?_; (first | exact ⟨⟩ | omega | focus (simp <;> omega) | decide +kernel); (first | exact trivial | exact rfl | exact .inl rfl | exact .inr rfl | focus ((repeat (first | exact trivial | (refine ⟨Stay.op false tok rfl rfl rfl ?_ (fun t ht => by cases ht; rfl), ?_⟩; (first | exact ⟨⟩ | omega | focus (simp <;> omega) | decide +kernel)) | (refine ⟨Stay.op true tok rfl rfl rfl ?_ (fun t ht => by cases ht; rfl), ?_⟩; (first | exact ⟨⟩ | omega | focus (simp <;> omega) | decide +kernel)) | refine ⟨Stay.skip rfl rfl (fun t ht => by cases ht; rfl), ?_⟩)); done))) | refine Rg.nil ?_ | refine Rg.skip rfl rfl rfl ?_ | refine Run.regR ?_ | refine Run.drwR mixed (by kernel_rfl) rfl ?_ | refine Run.condT rfl ?_ | refine Run.condF rfl ?_ | ((first | refine Run.condB rfl (fun hc => ?_) (fun hc => ?_) | ((fail_if_success (refine Rg.lit true rfl ?_)); (fail_if_success (refine Rg.lit false rfl ?_)); refine Rg.guard rfl (fun hc => ?_) (fun hc => ?_))) <;> ((try simp only [cs] at hc); (first | ((exfalso; omega); done) | skip))))
      exact backR [0, 6] (j + 1, S.take (S.length - 1) ++ [v]) _ _ ⟨hlt, hF, hE, hS2⟩ (by dsimp only; omega) rfl ⟨⟨_, rfl, rfl, rfl, rfl, rfl, fun k hk => .ofEq rfl rfl⟩, ⟨_, rfl, rfl, rfl, by first | (simp; done) | (simp; omega), rfl, fun k hk => .ofEq (by dsimp only at hk ⊢; exact rows_app eInt (S.take (S.length - 1)) _ (by rw [List.length_take]; omega) (fun k hk => by rw [List.length_take] at hk; rw [rows_take eInt S (by omega)]; exact app0_rows) (fun q hq => by rcases q with _ | q; rfl; simp at hq) k hk) rfl⟩, trivial⟩ ⟨.cl rfl, .ptrN rfl rfl, .slcK rfl rfl rfl (by first | (simp; done) | (simp; omega)), .cl rfl, trivial⟩
    ·
      repeat' (first | (rw [hi]) | (refine Run.drwP [] [0, 1, 2, 3, 4, 5, 6, 7, 8, 9, 10, 11, 12] [none, none, none, none, none, none, none, none, none, none, none, none, none] mixed (by kernel_rfl) rfl ?_) | refine Rg.any rfl rfl rfl (fun _ hq => G_appOS tok rfl rfl rfl rfl rfl rfl rfl rfl (by dsimp only; omega) (by dsimp only; omega) (by dsimp only; omega) hq) (by first | exact trivial | exact rfl | exact .inl rfl | exact .inr rfl | focus ((repeat (first | exact trivial | (refine ⟨Stay.op false tok rfl rfl rfl ?_ (fun t ht => by cases ht; rfl), ?_⟩; (first | exact ⟨⟩ | omega | focus (simp <;> omega) | decide +kernel)) | (refine ⟨Stay.op true tok rfl rfl rfl ?_ (fun t ht => by cases ht; rfl), ?_⟩; (first | exact ⟨⟩ | omega | focus (simp <;> omega) | decide +kernel)) | refine ⟨Stay.skip rfl rfl (fun t ht => by cases ht; rfl), ?_⟩)); done)) ?_ | refine Rg.any rfl rfl rfl (fun _ hq => G_ixOK tok (S.length - 1) rfl rfl rfl rfl rfl rfl (by omega) (by omega) hq) (by first | exact trivial | exact rfl | exact .inl rfl | exact .inr rfl | focus ((repeat (first | exact trivial | (refine ⟨Stay.op false tok rfl rfl rfl ?_ (fun t ht => by cases ht; rfl), ?_⟩; (first | exact ⟨⟩ | omega | focus (simp <;> omega) | decide +kernel)) | (refine ⟨Stay.op true tok rfl rfl rfl ?_ (fun t ht => by cases ht; rfl), ?_⟩; (first | exact ⟨⟩ | omega | focus (simp <;> omega) | decide +kernel)) | refine ⟨Stay.skip rfl rfl (fun t ht => by cases ht; rfl), ?_⟩)); done)) ?_ | refine Run.ctl rfl ?_ | (refine Rg.op false tok rfl rfl rfl rfl ?_ ?_ ?_; (first | exact ⟨⟩ | omega | focus (simp <;> omega) | decide +kernel); (first | exact trivial | exact rfl | exact .inl rfl | exact .inr rfl | focus ((repeat (first | exact trivial | (refine ⟨Stay.op false tok rfl rfl rfl ?_ (fun t ht => by cases ht; rfl), ?_⟩; (first | exact ⟨⟩ | omega | focus (simp <;> omega) | decide +kernel)) | (refine ⟨Stay.op true tok rfl rfl rfl ?_ (fun t ht => by cases ht; rfl), ?_⟩; (first | exact ⟨⟩ | omega | focus (simp <;> omega) | decide +kernel)) | refine ⟨Stay.skip rfl rfl (fun t ht => by cases ht; rfl), ?_⟩)); done))) | refine Rg.call (hone) rfl rfl rfl rfl rfl ⟨⟨.refl _, .refl _, trivial⟩, rfl⟩ ?_ | (refine Rg.op true tok rfl rfl rfl rfl ?_ ?_ ?_; (first | exact ⟨⟩ | omega | focus (simp <;> omega) | decide +kernel); (first | exact trivial | exact rfl | exact .inl rfl | exact .inr rfl | focus ((repeat (first | exact trivial | (refine ⟨Stay.op false tok rfl rfl rfl ?_ (fun t ht => by cases ht; rfl), ?_⟩; (first | exact ⟨⟩ | omega | focus (simp <;> omega) | decide +kernel)) | (refine ⟨Stay.op true tok rfl rfl rfl ?_ (fun t ht => by cases ht; rfl), ?_⟩; (first | exact ⟨⟩ | omega | focus (simp <;> omega) | decide +kernel)) | refine ⟨Stay.skip rfl rfl (fun t ht => by cases ht; rfl), ?_⟩)); done))) | refine Rg.nil ?_ | refine Rg.skip rfl rfl rfl ?_ | refine Run.regR ?_ | refine Run.drwR mixed (by kernel_rfl) rfl ?_ | refine Run.condT rfl ?_ | refine Run.condF rfl ?_ | ((first | refine Run.condB rfl (fun hc => ?_) (fun hc => ?_) | ((fail_if_success (refine Rg.lit true rfl ?_)); (fail_if_success (refine Rg.lit false rfl ?_)); refine Rg.guard rfl (fun hc => ?_) (fun hc => ?_))) <;> ((try simp only [cs] at hc); (first | ((exfalso; omega); done) | skip))))
      exact backR [0, 6] (j + 1, S.take (S.length - 1) ++ [v]) _ _ ⟨hlt, hF, hE, hS2⟩ (by dsimp only; omega) rfl ⟨⟨_, rfl, rfl, rfl, rfl, rfl, fun k hk => .ofEq rfl rfl⟩, ⟨_, rfl, rfl, rfl, by first | (simp; done) | (simp; omega), rfl, fun k hk => .ofEq (by dsimp only at hk ⊢; exact rows_app eInt (S.take (S.length - 1)) _ (by rw [List.length_take]; omega) (fun k hk => by rw [List.length_take] at hk; rw [rows_take eInt S (by omega)]; exact app0_rows) (fun q hq => by rcases q with _ | q; rfl; simp at hq) k hk) rfl⟩, trivial⟩ ⟨.cl rfl, .ptrN rfl rfl, .slcK rfl rfl rfl (by first | (simp; done) | (simp; omega)), .cl rfl, trivial⟩
  · rw [decide_eq_false ho14] at hs14
    have hp2 := hp2 (fun e => ho14 (.inl e)) (fun e => ho14 (.inr e))
    rw [if_neg (by rw [hs14]; decide)] at hst
    have htwo := refTwo_ op (S.getD (0 + (S.length - 2)) default) (S.getD (0 + (S.length - 1)) default)
    generalize sumTwo op (S.getD (0 + (S.length - 2)) default) (S.getD (0 + (S.length - 1)) default) = r2 at htwo hst
    obtain ⟨v2, dn⟩ := r2
    rw [hst] at hF hE hlen hS2
    clear hone hs14
    repeat' (first | (rw [hi]) | (refine Run.drwP [] [0, 1, 2, 3, 4, 5, 6, 7, 8, 9, 10, 11, 12, 13, 14, 15, 16, 17] [none, none, none, none, none, none, none, none, none, none, none, none, none, none, none, none, none, none] mixed (by kernel_rfl) rfl ?_) | refine Rg.any rfl rfl rfl (fun _ hq => G_appOS tok rfl rfl rfl rfl rfl rfl rfl rfl (by dsimp only; omega) (by dsimp only; omega) (by dsimp only; omega) hq) (by first | exact trivial | exact rfl | exact .inl rfl | exact .inr rfl | focus ((repeat (first | exact trivial | (refine ⟨Stay.op false tok rfl rfl rfl ?_ (fun t ht => by cases ht; rfl), ?_⟩; (first | exact ⟨⟩ | omega | focus (simp <;> omega) | decide +kernel)) | (refine ⟨Stay.op true tok rfl rfl rfl ?_ (fun t ht => by cases ht; rfl), ?_⟩; (first | exact ⟨⟩ | omega | focus (simp <;> omega) | decide +kernel)) | refine ⟨Stay.skip rfl rfl (fun t ht => by cases ht; rfl), ?_⟩)); done)) ?_ | refine Rg.any rfl rfl rfl (fun _ hq => G_ixOK tok (S.length - 1) rfl rfl rfl rfl rfl rfl (by omega) (by omega) hq) (by first | exact trivial | exact rfl | exact .inl rfl | exact .inr rfl | focus ((repeat (first | exact trivial | (refine ⟨Stay.op false tok rfl rfl rfl ?_ (fun t ht => by cases ht; rfl), ?_⟩; (first | exact ⟨⟩ | omega | focus (simp <;> omega) | decide +kernel)) | (refine ⟨Stay.op true tok rfl rfl rfl ?_ (fun t ht => by cases ht; rfl), ?_⟩; (first | exact ⟨⟩ | omega | focus (simp <;> omega) | decide +kernel)) | refine ⟨Stay.skip rfl rfl (fun t ht => by cases ht; rfl), ?_⟩)); done)) ?_ | refine Rg.any rfl rfl rfl (fun _ hq => G_ixOK tok (S.length - 2) rfl rfl rfl rfl rfl rfl (by omega) (by omega) hq) (by first | exact trivial | exact rfl | exact .inl rfl | exact .inr rfl | focus ((repeat (first | exact trivial | (refine ⟨Stay.op false tok rfl rfl rfl ?_ (fun t ht => by cases ht; rfl), ?_⟩; (first | exact ⟨⟩ | omega | focus (simp <;> omega) | decide +kernel)) | (refine ⟨Stay.op true tok rfl rfl rfl ?_ (fun t ht => by cases ht; rfl), ?_⟩; (first | exact ⟨⟩ | omega | focus (simp <;> omega) | decide +kernel)) | refine ⟨Stay.skip rfl rfl (fun t ht => by cases ht; rfl), ?_⟩)); done)) ?_ | refine Run.ctl rfl ?_ | (refine Rg.op false tok rfl rfl rfl rfl ?_ ?_ ?_; (first | exact ⟨⟩ | omega | focus (simp <;> omega) | decide +kernel); (first | exact trivial | exact rfl | exact .inl rfl | exact .inr rfl | focus ((repeat (first | exact trivial | (refine ⟨Stay.op false tok rfl rfl rfl ?_ (fun t ht => by cases ht; rfl), ?_⟩; (first | exact ⟨⟩ | omega | focus (simp <;> omega) | decide +kernel)) | (refine ⟨Stay.op true tok rfl rfl rfl ?_ (fun t ht => by cases ht; rfl), ?_⟩; (first | exact ⟨⟩ | omega | focus (simp <;> omega) | decide +kernel)) | refine ⟨Stay.skip rfl rfl (fun t ht => by cases ht; rfl), ?_⟩)); done))) | refine Rg.call (htwo) rfl rfl rfl rfl rfl ⟨⟨.refl _, .refl _, .refl _, trivial⟩, rfl⟩ ?_ | (refine Rg.op true tok rfl rfl rfl rfl ?_ ?_ ?_; (first | exact ⟨⟩ | omega | focus (simp <;> omega) | decide +kernel); (first | exact trivial | exact rfl | exact .inl rfl | exact .inr rfl | focus ((repeat (first | exact trivial | (refine ⟨Stay.op false tok rfl rfl rfl ?_ (fun t ht => by cases ht; rfl), ?_⟩; (first | exact ⟨⟩ | omega | focus (simp <;> omega) | decide +kernel)) | (refine ⟨Stay.op true tok rfl rfl rfl ?_ (fun t ht => by cases ht; rfl), ?_⟩; (first | exact ⟨⟩ | omega | focus (simp <;> omega) | decide +kernel)) | refine ⟨Stay.skip rfl rfl (fun t ht => by cases ht; rfl), ?_⟩)); done))) | refine Rg.nil ?_ | refine Rg.skip rfl rfl rfl ?_ | refine Run.regR ?_ | refine Run.drwR mixed (by kernel_rfl) rfl ?_ | refine Run.condT rfl ?_ | refine Run.condF rfl ?_ | ((first | refine Run.condB rfl (fun hc => ?_) (fun hc => ?_) | ((fail_if_success (refine Rg.lit true rfl ?_)); (fail_if_success (refine Rg.lit false rfl ?_)); refine Rg.guard rfl (fun hc => ?_) (fun hc => ?_))) <;> ((try simp only [cs] at hc); (first | ((exfalso; omega); done) | skip))))
    exact backR [0, 6] (j + 1, S.take (S.length - 2) ++ [v2]) _ _ ⟨hlt, hF, hE, hS2⟩ (by dsimp only; omega) rfl ⟨⟨_, rfl, rfl, rfl, rfl, rfl, fun k hk => .ofEq rfl rfl⟩, ⟨_, rfl, rfl, rfl, by first | (simp; done) | (simp; omega), rfl, fun k hk => .ofEq (by dsimp only at hk ⊢; exact rows_app eInt (S.take (S.length - 2)) _ (by rw [List.length_take]; omega) (fun k hk => by rw [List.length_take] at hk; rw [rows_take eInt S (by omega)]; exact app0_rows) (fun q hq => by rcases q with _ | q; rfl; simp at hq) k hk) rfl⟩, trivial⟩ ⟨.cl rfl, .ptrN rfl rfl, .slcK rfl rfl rfl (by first | (simp; done) | (simp; omega)), .cl rfl, trivial⟩
end Go.Proofs.Ytlimecfjpfaljaa.W
end
section
/- Walks: the law that the document's answers about watches are ours (chapter 14). -/
set_option linter.unusedVariables false
set_option linter.unusedSimpArgs false
set_option linter.unusedSectionVars false
set_option pp.maxSteps 40000
set_option maxHeartbeats 4000000
namespace Go.Proofs.Ytlimecfjpfaljaa.W
open Go Go.Sy

theorem refAll_ (p : Pg) (l : List (List Instr)) (hl : l.length ≤ 100000) (hok : okW l) : Pure Try.prog 12 [pPg p, sl 1 eW l] (i64 (watchWhy p l)) := by
  have hfc := refFlow_ p
  unfold watchWhy
  by_cases h8 : 8 < l.length
  · rw [if_pos h8]
    refine Pure.of_spec (Spec.of_run (fn := Try.f12) Try.func12 rfl rfl (by kernel_rfl) ?_) (by first | assumption | rfl | (split <;> rfl) | (split <;> split <;> rfl))
    repeat' (first | refine Run.ctl rfl ?_ | (refine Rg.op false tok rfl rfl rfl rfl ?_ ?_ ?_; (first | exact ⟨⟩ | omega | focus (simp <;> omega) | decide +kernel); (first | exact trivial | exact rfl | exact .inl rfl | exact .inr rfl)) | (refine Rg.op true tok rfl rfl rfl rfl ?_ ?_ ?_; (first | exact ⟨⟩ | omega | focus (simp <;> omega) | decide +kernel); (first | exact trivial | exact rfl | exact .inl rfl | exact .inr rfl)) | refine Rg.nil ?_ | refine Rg.skip rfl rfl rfl ?_ | refine Run.regR ?_ | refine Run.condT rfl ?_ | refine Run.condF rfl ?_ | ((first | refine Run.condB rfl (fun hc => ?_) (fun hc => ?_) | ((fail_if_success (refine Rg.lit true rfl ?_)); (fail_if_success (refine Rg.lit false rfl ?_)); refine Rg.guard rfl (fun hc => ?_) (fun hc => ?_))) <;> ((try simp only [cs] at hc); (first | ((exfalso; omega); done) | skip))))
    (first | refine Run.ret tok Try.func12 rfl ?_ | refine Run.fall tok Try.func12 rfl ?_)
    exact .refl _
  rw [if_neg h8]
  by_cases h0 : flowWhy p = 0
  · rw [if_neg (by simpa using h0)]
    rw [h0] at hfc
    generalize hF : firstWhy (exWhy p) l = F
    refine Pure.of_spec (Spec.of_run (fn := Try.f12) Try.func12 rfl rfl (by kernel_rfl) ?_) (by first | assumption | rfl | (split <;> rfl) | (split <;> split <;> rfl))
    repeat' (first | refine Run.ctl rfl ?_ | (refine Rg.op false tok rfl rfl rfl rfl ?_ ?_ ?_; (first | exact ⟨⟩ | omega | focus (simp <;> omega) | decide +kernel); (first | exact trivial | exact rfl | exact .inl rfl | exact .inr rfl)) | refine Rg.call (hfc) rfl rfl rfl rfl rfl ⟨⟨.refl _, trivial⟩, rfl⟩ ?_ | (refine Rg.op true tok rfl rfl rfl rfl ?_ ?_ ?_; (first | exact ⟨⟩ | omega | focus (simp <;> omega) | decide +kernel); (first | exact trivial | exact rfl | exact .inl rfl | exact .inr rfl)) | refine Rg.nil ?_ | refine Rg.skip rfl rfl rfl ?_ | refine Run.regR ?_ | refine Run.condT rfl ?_ | refine Run.condF rfl ?_ | ((first | refine Run.condB rfl (fun hc => ?_) (fun hc => ?_) | ((fail_if_success (refine Rg.lit true rfl ?_)); (fail_if_success (refine Rg.lit false rfl ?_)); refine Rg.guard rfl (fun hc => ?_) (fun hc => ?_))) <;> ((try simp only [cs] at hc); (first | ((exfalso; omega); done) | skip))))
    refine Run.loopN (ι := Nat × Int) (fun x => ([(1, sl 1 eW l), (2, .ptr 0 0 0), (5, i64 x.2), (6, i64 x.1)], [pbox p])) (fun x => x.1 ≤ l.length ∧ (if x.2 = 0 then firstWhy (exWhy p) (l.drop x.1) = F else x.2 = F)) (fun x => l.length - x.1) (0, 0) ⟨rfl, rfl, rfl, rfl, trivial⟩ rfl ⟨by omega, by rw [if_pos rfl]; exact hF⟩ ?_
    clear hF
    rintro ⟨i, e⟩ ⟨hi, hf⟩ back backR
    dsimp only at hi hf ⊢
    by_cases he : e = 0
    · subst he
      rw [if_pos rfl] at hf
      by_cases hlt : i < l.length
      · rw [firstWhy_at hlt] at hf
        have hm := hok _ (mem_getD hlt)
        have hin := refEx_ p (l.getD i default) hm.1 hm.2 (refFlow_ p)
        by_cases hw : exWhy p (l.getD i default) = 0
        · rw [if_neg (fun e => e hw)] at hf
          rw [hw] at hin
          repeat' (first | (refine Run.drwP [] [0, 1, 2, 3, 4, 5, 6] [none, none, none, none, none, none, none] mixed (by kernel_rfl) rfl ?_) | refine Run.ctl rfl ?_ | (refine Rg.op false tok rfl rfl rfl rfl ?_ ?_ ?_; (first | exact ⟨⟩ | omega | focus (simp <;> omega) | decide +kernel); (first | exact trivial | exact rfl | exact .inl rfl | exact .inr rfl | focus ((repeat (first | exact trivial | (refine ⟨Stay.op false tok rfl rfl rfl ?_ (fun t ht => by cases ht; rfl), ?_⟩; (first | exact ⟨⟩ | omega | focus (simp <;> omega) | decide +kernel)) | (refine ⟨Stay.op true tok rfl rfl rfl ?_ (fun t ht => by cases ht; rfl), ?_⟩; (first | exact ⟨⟩ | omega | focus (simp <;> omega) | decide +kernel)) | refine ⟨Stay.skip rfl rfl (fun t ht => by cases ht; rfl), ?_⟩)); done))) | refine Rg.call (hin) rfl rfl rfl rfl rfl ⟨⟨.refl _, .refl _, trivial⟩, rfl⟩ ?_ | (refine Rg.op true tok rfl rfl rfl rfl ?_ ?_ ?_; (first | exact ⟨⟩ | omega | focus (simp <;> omega) | decide +kernel); (first | exact trivial | exact rfl | exact .inl rfl | exact .inr rfl | focus ((repeat (first | exact trivial | (refine ⟨Stay.op false tok rfl rfl rfl ?_ (fun t ht => by cases ht; rfl), ?_⟩; (first | exact ⟨⟩ | omega | focus (simp <;> omega) | decide +kernel)) | (refine ⟨Stay.op true tok rfl rfl rfl ?_ (fun t ht => by cases ht; rfl), ?_⟩; (first | exact ⟨⟩ | omega | focus (simp <;> omega) | decide +kernel)) | refine ⟨Stay.skip rfl rfl (fun t ht => by cases ht; rfl), ?_⟩)); done))) | refine Rg.nil ?_ | refine Rg.skip rfl rfl rfl ?_ | refine Run.regR ?_ | refine Run.drwR mixed (by kernel_rfl) rfl ?_ | refine Run.condT rfl ?_ | refine Run.condF rfl ?_ | ((first | refine Run.condB rfl (fun hc => ?_) (fun hc => ?_) | ((fail_if_success (refine Rg.lit true rfl ?_)); (fail_if_success (refine Rg.lit false rfl ?_)); refine Rg.guard rfl (fun hc => ?_) (fun hc => ?_))) <;> ((try simp only [cs] at hc); (first | ((exfalso; omega); done) | skip))))
          exact backR [0] (i + 1, 0) _ _ ⟨hlt, by rw [if_pos rfl]; exact hf⟩ (by dsimp only; omega) rfl ⟨⟨_, rfl, rfl, rfl, rfl, rfl, fun k hk => .ofEq rfl rfl⟩, trivial⟩ ⟨.cl rfl, .ptrN rfl rfl, .cl rfl, .cl rfl, trivial⟩
        · rw [if_pos hw] at hf
          rw [hf] at hin hw
          repeat' (first | (refine Run.drwP [] [0, 1, 2, 3, 4, 5, 6] [none, none, none, none, none, none, none] mixed (by kernel_rfl) rfl ?_) | refine Run.ctl rfl ?_ | (refine Rg.op false tok rfl rfl rfl rfl ?_ ?_ ?_; (first | exact ⟨⟩ | omega | focus (simp <;> omega) | decide +kernel); (first | exact trivial | exact rfl | exact .inl rfl | exact .inr rfl | focus ((repeat (first | exact trivial | (refine ⟨Stay.op false tok rfl rfl rfl ?_ (fun t ht => by cases ht; rfl), ?_⟩; (first | exact ⟨⟩ | omega | focus (simp <;> omega) | decide +kernel)) | (refine ⟨Stay.op true tok rfl rfl rfl ?_ (fun t ht => by cases ht; rfl), ?_⟩; (first | exact ⟨⟩ | omega | focus (simp <;> omega) | decide +kernel)) | refine ⟨Stay.skip rfl rfl (fun t ht => by cases ht; rfl), ?_⟩)); done))) | refine Rg.call (hin) rfl rfl rfl rfl rfl ⟨⟨.refl _, .refl _, trivial⟩, rfl⟩ ?_ | (refine Rg.op true tok rfl rfl rfl rfl ?_ ?_ ?_; (first | exact ⟨⟩ | omega | focus (simp <;> omega) | decide +kernel); (first | exact trivial | exact rfl | exact .inl rfl | exact .inr rfl | focus ((repeat (first | exact trivial | (refine ⟨Stay.op false tok rfl rfl rfl ?_ (fun t ht => by cases ht; rfl), ?_⟩; (first | exact ⟨⟩ | omega | focus (simp <;> omega) | decide +kernel)) | (refine ⟨Stay.op true tok rfl rfl rfl ?_ (fun t ht => by cases ht; rfl), ?_⟩; (first | exact ⟨⟩ | omega | focus (simp <;> omega) | decide +kernel)) | refine ⟨Stay.skip rfl rfl (fun t ht => by cases ht; rfl), ?_⟩)); done))) | refine Rg.nil ?_ | refine Rg.skip rfl rfl rfl ?_ | refine Run.regR ?_ | refine Run.drwR mixed (by kernel_rfl) rfl ?_ | refine Run.condT rfl ?_ | refine Run.condF rfl ?_ | ((first | refine Run.condB rfl (fun hc => ?_) (fun hc => ?_) | ((fail_if_success (refine Rg.lit true rfl ?_)); (fail_if_success (refine Rg.lit false rfl ?_)); refine Rg.guard rfl (fun hc => ?_) (fun hc => ?_))) <;> ((try simp only [cs] at hc); (first | ((exfalso; omega); done) | skip))))
          exact backR [0] (i + 1, F) _ _ ⟨hlt, by dsimp only; rw [if_neg hw]⟩ (by dsimp only; omega) rfl ⟨⟨_, rfl, rfl, rfl, rfl, rfl, fun k hk => .ofEq rfl rfl⟩, trivial⟩ ⟨.cl rfl, .ptrN rfl rfl, .cl rfl, .cl rfl, trivial⟩
      · obtain rfl : i = l.length := by omega
        rw [List.drop_length] at hf
        rw [← hf]
        repeat' (first | refine Run.ctl rfl ?_ | (refine Rg.op false tok rfl rfl rfl rfl ?_ ?_ ?_; (first | exact ⟨⟩ | omega | focus (simp <;> omega) | decide +kernel); (first | exact trivial | exact rfl | exact .inl rfl | exact .inr rfl)) | (refine Rg.op true tok rfl rfl rfl rfl ?_ ?_ ?_; (first | exact ⟨⟩ | omega | focus (simp <;> omega) | decide +kernel); (first | exact trivial | exact rfl | exact .inl rfl | exact .inr rfl)) | refine Rg.nil ?_ | refine Rg.skip rfl rfl rfl ?_ | refine Run.regR ?_ | refine Run.condT rfl ?_ | refine Run.condF rfl ?_ | ((first | refine Run.condB rfl (fun hc => ?_) (fun hc => ?_) | ((fail_if_success (refine Rg.lit true rfl ?_)); (fail_if_success (refine Rg.lit false rfl ?_)); refine Rg.guard rfl (fun hc => ?_) (fun hc => ?_))) <;> ((try simp only [cs] at hc); (first | ((exfalso; omega); done) | skip))))
        (first | refine Run.ret tok Try.func12 rfl ?_ | refine Run.fall tok Try.func12 rfl ?_)
        exact .refl _
    · rw [if_neg he] at hf
      subst hf
      repeat' (first | refine Run.ctl rfl ?_ | (refine Rg.op false tok rfl rfl rfl rfl ?_ ?_ ?_; (first | exact ⟨⟩ | omega | focus (simp <;> omega) | decide +kernel); (first | exact trivial | exact rfl | exact .inl rfl | exact .inr rfl)) | (refine Rg.op true tok rfl rfl rfl rfl ?_ ?_ ?_; (first | exact ⟨⟩ | omega | focus (simp <;> omega) | decide +kernel); (first | exact trivial | exact rfl | exact .inl rfl | exact .inr rfl)) | refine Rg.nil ?_ | refine Rg.skip rfl rfl rfl ?_ | refine Run.regR ?_ | refine Run.condT rfl ?_ | refine Run.condF rfl ?_ | ((first | refine Run.condB rfl (fun hc => ?_) (fun hc => ?_) | ((fail_if_success (refine Rg.lit true rfl ?_)); (fail_if_success (refine Rg.lit false rfl ?_)); refine Rg.guard rfl (fun hc => ?_) (fun hc => ?_))) <;> ((try simp only [cs] at hc); (first | ((exfalso; omega); done) | skip))))
      all_goals ((first | refine Run.ret tok Try.func12 rfl ?_ | refine Run.fall tok Try.func12 rfl ?_); exact .refl _)
  · rw [if_pos (by simpa using h0)]
    generalize flowWhy p = z at hfc h0
    refine Pure.of_spec (Spec.of_run (fn := Try.f12) Try.func12 rfl rfl (by kernel_rfl) ?_) (by first | assumption | rfl | (split <;> rfl) | (split <;> split <;> rfl))
    repeat' (first | refine Run.ctl rfl ?_ | (refine Rg.op false tok rfl rfl rfl rfl ?_ ?_ ?_; (first | exact ⟨⟩ | omega | focus (simp <;> omega) | decide +kernel); (first | exact trivial | exact rfl | exact .inl rfl | exact .inr rfl)) | refine Rg.call (hfc) rfl rfl rfl rfl rfl ⟨⟨.refl _, trivial⟩, rfl⟩ ?_ | (refine Rg.op true tok rfl rfl rfl rfl ?_ ?_ ?_; (first | exact ⟨⟩ | omega | focus (simp <;> omega) | decide +kernel); (first | exact trivial | exact rfl | exact .inl rfl | exact .inr rfl)) | refine Rg.nil ?_ | refine Rg.skip rfl rfl rfl ?_ | refine Run.regR ?_ | refine Run.condT rfl ?_ | refine Run.condF rfl ?_ | ((first | refine Run.condB rfl (fun hc => ?_) (fun hc => ?_) | ((fail_if_success (refine Rg.lit true rfl ?_)); (fail_if_success (refine Rg.lit false rfl ?_)); refine Rg.guard rfl (fun hc => ?_) (fun hc => ?_))) <;> ((try simp only [cs] at hc); (first | ((exfalso; omega); done) | skip))))
    refine Run.loopN (ι := Nat) (fun i => ([(1, sl 1 eW l), (2, .ptr 0 0 0), (5, i64 z), (6, i64 i)], [pbox p])) (fun i => i = 0) (fun i => 0) 0 ⟨rfl, rfl, rfl, rfl, trivial⟩ rfl rfl ?_
    rintro i rfl back backR
    dsimp only
    repeat' (first | refine Run.ctl rfl ?_ | (refine Rg.op false tok rfl rfl rfl rfl ?_ ?_ ?_; (first | exact ⟨⟩ | omega | focus (simp <;> omega) | decide +kernel); (first | exact trivial | exact rfl | exact .inl rfl | exact .inr rfl)) | (refine Rg.op true tok rfl rfl rfl rfl ?_ ?_ ?_; (first | exact ⟨⟩ | omega | focus (simp <;> omega) | decide +kernel); (first | exact trivial | exact rfl | exact .inl rfl | exact .inr rfl)) | refine Rg.nil ?_ | refine Rg.skip rfl rfl rfl ?_ | refine Run.regR ?_ | refine Run.condT rfl ?_ | refine Run.condF rfl ?_ | ((first | refine Run.condB rfl (fun hc => ?_) (fun hc => ?_) | ((fail_if_success (refine Rg.lit true rfl ?_)); (fail_if_success (refine Rg.lit false rfl ?_)); refine Rg.guard rfl (fun hc => ?_) (fun hc => ?_))) <;> ((try simp only [cs] at hc); (first | ((exfalso; omega); done) | skip))))
    all_goals ((first | refine Run.ret tok Try.func12 rfl ?_ | refine Run.fall tok Try.func12 rfl ?_); exact .refl _)
theorem badFrom_none (p : Pg) (w : Wd) (h : worldOk p w = false) : ∀ (l : List (List Instr)) (k : Nat), badFrom p w l k = []
  | [], _ => rfl
  | x :: l, k => by
    unfold badFrom
    have hx : exValue p w x ≠ (0, 0) := by
      unfold exValue
      by_cases h0 : exWhy p x ≠ 0
      · rw [if_pos h0]
        intro e
        exact h0 (congrArg Prod.snd e)
      · rw [if_neg h0, if_pos h]
        decide
    rw [if_neg hx, badFrom_none p w h l (k + 1)]
theorem refBad_ (p : Pg) (w : Wd) (l : List (List Instr)) (hll : l.length ≤ 100000) (hok : okW l) (hl : w.mail.length ≤ 100000) (ha : w.actors.length ≤ 100000) : Pure Try.prog 15 [pPg p, pWd w, sl 1 eW l] (sl 1 eInt (badIn p w l)) := by
  have hwc := refWorld_ p w hl ha (refFlow_ p)
  unfold badIn
  cases hb : worldOk p w with
  | false =>
    rw [hb] at hwc
    rw [badFrom_none p w hb]
    refine Pure.of_spec (Spec.of_run (fn := Try.f15) Try.func15 rfl rfl (by kernel_rfl) ?_) (by first | assumption | rfl | (split <;> rfl) | (split <;> split <;> rfl))
    repeat' (first | refine Run.ctl rfl ?_ | (refine Rg.op false tok rfl rfl rfl rfl ?_ ?_ ?_; (first | exact ⟨⟩ | omega | focus (simp <;> omega) | decide +kernel); (first | exact trivial | exact rfl | exact .inl rfl | exact .inr rfl)) | refine Rg.call (hwc) rfl rfl rfl rfl rfl ⟨⟨.refl _, .refl _, trivial⟩, rfl⟩ ?_ | (refine Rg.op true tok rfl rfl rfl rfl ?_ ?_ ?_; (first | exact ⟨⟩ | omega | focus (simp <;> omega) | decide +kernel); (first | exact trivial | exact rfl | exact .inl rfl | exact .inr rfl)) | refine Rg.nil ?_ | refine Rg.skip rfl rfl rfl ?_ | refine Run.regR ?_ | refine Run.condT rfl ?_ | refine Run.condF rfl ?_ | ((first | refine Run.condB rfl (fun hc => ?_) (fun hc => ?_) | ((fail_if_success (refine Rg.lit true rfl ?_)); (fail_if_success (refine Rg.lit false rfl ?_)); refine Rg.guard rfl (fun hc => ?_) (fun hc => ?_))) <;> ((try simp only [cs] at hc); (first | ((exfalso; omega); done) | skip))))
    (first | refine Run.ret tok Try.func15 rfl ?_ | refine Run.fall tok Try.func15 rfl ?_)
    exact .rowNil
  | true =>
    rw [hb] at hwc
    generalize hB : badFrom p w l 0 = B
    refine Pure.of_spec (Spec.of_run (fn := Try.f15) Try.func15 rfl rfl (by kernel_rfl) ?_) (by first | assumption | rfl | (split <;> rfl) | (split <;> split <;> rfl))
    repeat' (first | refine Run.ctl rfl ?_ | (refine Rg.op false tok rfl rfl rfl rfl ?_ ?_ ?_; (first | exact ⟨⟩ | omega | focus (simp <;> omega) | decide +kernel); (first | exact trivial | exact rfl | exact .inl rfl | exact .inr rfl)) | refine Rg.call (hwc) rfl rfl rfl rfl rfl ⟨⟨.refl _, .refl _, trivial⟩, rfl⟩ ?_ | (refine Rg.op true tok rfl rfl rfl rfl ?_ ?_ ?_; (first | exact ⟨⟩ | omega | focus (simp <;> omega) | decide +kernel); (first | exact trivial | exact rfl | exact .inl rfl | exact .inr rfl)) | refine Rg.nil ?_ | refine Rg.skip rfl rfl rfl ?_ | refine Run.regR ?_ | refine Run.condT rfl ?_ | refine Run.condF rfl ?_ | ((first | refine Run.condB rfl (fun hc => ?_) (fun hc => ?_) | ((fail_if_success (refine Rg.lit true rfl ?_)); (fail_if_success (refine Rg.lit false rfl ?_)); refine Rg.guard rfl (fun hc => ?_) (fun hc => ?_))) <;> ((try simp only [cs] at hc); (first | ((exfalso; omega); done) | skip))))
    refine Run.nilRow 7 3 1 (rows eInt []) rfl ?_
    refine Run.loopN (ι := Nat × List Int) (fun j => ([(2, sl 1 eW l), (3, .ptr 0 0 0), (4, .ptr 1 0 0), (7, .slc 2 0 j.2.length), (8, i64 j.1)], [pbox p, wdbox w, rowI j.2])) (fun j => j.1 ≤ l.length ∧ j.2 ++ badFrom p w (l.drop j.1) j.1 = B ∧ j.2.length ≤ j.1) (fun j => l.length - j.1) (0, []) ⟨rfl, rfl, rfl, rfl, rfl, trivial⟩ rfl ⟨by omega, hB, by simp⟩ ?_
    rintro ⟨i, out⟩ ⟨hi, hf, hol⟩ back backR
    dsimp only at hi hf hol ⊢
    by_cases hlt : i < l.length
    · rw [badFrom_at p w hlt] at hf
      have hm := hok _ (mem_getD hlt)
      have hx := refEx_ p (l.getD i default) hm.1 hm.2 (refFlow_ p)
      by_cases hw0 : exWhy p (l.getD i default) = 0
      rotate_left
      · rw [if_neg (by unfold exValue; rw [if_pos hw0]; intro e; exact hw0 (congrArg Prod.snd e))] at hf
        generalize exWhy p (l.getD i default) = z at hx hw0
        repeat' (first | (refine Run.drwP [] [0, 1, 2, 3, 4, 5, 6, 7, 8, 9, 10, 11, 12, 13, 14, 15] [none, none, none, none, none, none, none, none, none, none, none, none, none, none, none, none] mixed (by kernel_rfl) rfl ?_) | refine Run.ctl rfl ?_ | (refine Rg.op false tok rfl rfl rfl rfl ?_ ?_ ?_; (first | exact ⟨⟩ | omega | focus (simp <;> omega) | decide +kernel); (first | exact trivial | exact rfl | exact .inl rfl | exact .inr rfl | focus ((repeat (first | exact trivial | (refine ⟨Stay.op false tok rfl rfl rfl ?_ (fun t ht => by cases ht; rfl), ?_⟩; (first | exact ⟨⟩ | omega | focus (simp <;> omega) | decide +kernel)) | (refine ⟨Stay.op true tok rfl rfl rfl ?_ (fun t ht => by cases ht; rfl), ?_⟩; (first | exact ⟨⟩ | omega | focus (simp <;> omega) | decide +kernel)) | refine ⟨Stay.skip rfl rfl (fun t ht => by cases ht; rfl), ?_⟩)); done))) | refine Rg.call (hx) rfl rfl rfl rfl rfl ⟨⟨.refl _, .refl _, trivial⟩, rfl⟩ ?_ | (refine Rg.op true tok rfl rfl rfl rfl ?_ ?_ ?_; (first | exact ⟨⟩ | omega | focus (simp <;> omega) | decide +kernel); (first | exact trivial | exact rfl | exact .inl rfl | exact .inr rfl | focus ((repeat (first | exact trivial | (refine ⟨Stay.op false tok rfl rfl rfl ?_ (fun t ht => by cases ht; rfl), ?_⟩; (first | exact ⟨⟩ | omega | focus (simp <;> omega) | decide +kernel)) | (refine ⟨Stay.op true tok rfl rfl rfl ?_ (fun t ht => by cases ht; rfl), ?_⟩; (first | exact ⟨⟩ | omega | focus (simp <;> omega) | decide +kernel)) | refine ⟨Stay.skip rfl rfl (fun t ht => by cases ht; rfl), ?_⟩)); done))) | refine Rg.nil ?_ | refine Rg.skip rfl rfl rfl ?_ | refine Run.regR ?_ | refine Run.drwR mixed (by kernel_rfl) rfl ?_ | refine Run.condT rfl ?_ | refine Run.condF rfl ?_ | ((first | refine Run.condB rfl (fun hc => ?_) (fun hc => ?_) | ((fail_if_success (refine Rg.lit true rfl ?_)); (fail_if_success (refine Rg.lit false rfl ?_)); refine Rg.guard rfl (fun hc => ?_) (fun hc => ?_))) <;> ((try simp only [cs] at hc); (first | ((exfalso; omega); done) | skip))))
        all_goals exact back (i + 1, out) _ _ ⟨hlt, hf, by dsimp only; omega⟩ (by dsimp only; omega) ⟨rfl, rfl, rfl, rfl, rfl, trivial⟩ rfl
      have hev : exValue p w (l.getD i default) = (exOf w (l.getD i default), 0) := by
        unfold exValue
        rw [if_neg (by simpa using hw0), if_neg (by rw [hb]; decide)]
      rw [hev] at hf
      have hbi := worldOk_iff.1 hb
      have hp := flowWhy_fit hbi.1
      have h1 := hw0
      unfold exWhy at h1
      rw [if_neg (by simpa using hbi.1)] at h1
      have hx64 : (l.getD i default).length ≤ 64 := by
        by_cases h : 64 < (l.getD i default).length
        · rw [if_pos h] at h1; cases h1
        · omega
      rw [if_neg (by omega)] at h1
      have hv := refValue_ p w (l.getD i default) hx64 hm.2 hl hbi.2.1.1 hp.na0 h1
      rw [hw0] at hx
      clear h1 hev
      generalize exOf w (l.getD i default) = v at hv hf
      by_cases h0 : v = 0
      · subst h0
        rw [if_pos rfl] at hf
        repeat' (first | (refine Run.drwP [] [0, 1, 2, 3, 4, 5, 6, 7, 8, 9, 10, 11, 12, 13, 14, 15] [none, none, none, none, none, none, none, none, none, none, none, none, none, none, none, none] mixed (by kernel_rfl) rfl ?_) | refine Run.ctl rfl ?_ | (refine Rg.op false tok rfl rfl rfl rfl ?_ ?_ ?_; (first | exact ⟨⟩ | omega | focus (simp <;> omega) | decide +kernel); (first | exact trivial | exact rfl | exact .inl rfl | exact .inr rfl | focus ((repeat (first | exact trivial | (refine ⟨Stay.op false tok rfl rfl rfl ?_ (fun t ht => by cases ht; rfl), ?_⟩; (first | exact ⟨⟩ | omega | focus (simp <;> omega) | decide +kernel)) | (refine ⟨Stay.op true tok rfl rfl rfl ?_ (fun t ht => by cases ht; rfl), ?_⟩; (first | exact ⟨⟩ | omega | focus (simp <;> omega) | decide +kernel)) | refine ⟨Stay.skip rfl rfl (fun t ht => by cases ht; rfl), ?_⟩)); done))) | refine Rg.call (hx) rfl rfl rfl rfl rfl ⟨⟨.refl _, .refl _, trivial⟩, rfl⟩ ?_ | refine Rg.call (hv) rfl rfl rfl rfl rfl ⟨⟨.refl _, .refl _, trivial⟩, rfl⟩ ?_ | (refine Rg.op true tok rfl rfl rfl rfl ?_ ?_ ?_; (first | exact ⟨⟩ | omega | focus (simp <;> omega) | decide +kernel); (first | exact trivial | exact rfl | exact .inl rfl | exact .inr rfl | focus ((repeat (first | exact trivial | (refine ⟨Stay.op false tok rfl rfl rfl ?_ (fun t ht => by cases ht; rfl), ?_⟩; (first | exact ⟨⟩ | omega | focus (simp <;> omega) | decide +kernel)) | (refine ⟨Stay.op true tok rfl rfl rfl ?_ (fun t ht => by cases ht; rfl), ?_⟩; (first | exact ⟨⟩ | omega | focus (simp <;> omega) | decide +kernel)) | refine ⟨Stay.skip rfl rfl (fun t ht => by cases ht; rfl), ?_⟩)); done))) | refine Rg.nil ?_ | refine Rg.skip rfl rfl rfl ?_ | refine Run.regR ?_ | refine Run.drwR mixed (by kernel_rfl) rfl ?_ | refine Run.condT rfl ?_ | refine Run.condF rfl ?_ | ((first | refine Run.condB rfl (fun hc => ?_) (fun hc => ?_) | ((fail_if_success (refine Rg.lit true rfl ?_)); (fail_if_success (refine Rg.lit false rfl ?_)); refine Rg.guard rfl (fun hc => ?_) (fun hc => ?_))) <;> ((try simp only [cs] at hc); (first | ((exfalso; omega); done) | skip))))
        exact backR [0, 1, 4] (i + 1, out ++ [(i : Int)]) _ _ ⟨hlt, by rw [List.append_assoc]; exact hf, by simp; omega⟩ (by dsimp only; omega) rfl ⟨⟨_, rfl, rfl, rfl, rfl, rfl, fun k hk => .ofEq rfl rfl⟩, ⟨_, rfl, rfl, rfl, rfl, rfl, fun k hk => .ofEq rfl rfl⟩, ⟨_, rfl, rfl, rfl, by simp, rfl, fun k hk => .ofEq (by dsimp only at hk ⊢; exact rows_snoc eInt out _ rfl (fun k _ => by rw [Nat.zero_add]) rfl hk) rfl⟩, trivial⟩ ⟨.cl rfl, .ptrN rfl rfl, .ptrN rfl rfl, .slcN rfl rfl (by simp), .cl rfl, trivial⟩
      · rw [if_neg (by simpa using h0)] at hf
        repeat' (first | (refine Run.drwP [] [0, 1, 2, 3, 4, 5, 6, 7, 8, 9, 10, 11, 12, 13, 14, 15] [none, none, none, none, none, none, none, none, none, none, none, none, none, none, none, none] mixed (by kernel_rfl) rfl ?_) | refine Run.ctl rfl ?_ | (refine Rg.op false tok rfl rfl rfl rfl ?_ ?_ ?_; (first | exact ⟨⟩ | omega | focus (simp <;> omega) | decide +kernel); (first | exact trivial | exact rfl | exact .inl rfl | exact .inr rfl | focus ((repeat (first | exact trivial | (refine ⟨Stay.op false tok rfl rfl rfl ?_ (fun t ht => by cases ht; rfl), ?_⟩; (first | exact ⟨⟩ | omega | focus (simp <;> omega) | decide +kernel)) | (refine ⟨Stay.op true tok rfl rfl rfl ?_ (fun t ht => by cases ht; rfl), ?_⟩; (first | exact ⟨⟩ | omega | focus (simp <;> omega) | decide +kernel)) | refine ⟨Stay.skip rfl rfl (fun t ht => by cases ht; rfl), ?_⟩)); done))) | refine Rg.call (hx) rfl rfl rfl rfl rfl ⟨⟨.refl _, .refl _, trivial⟩, rfl⟩ ?_ | refine Rg.call (hv) rfl rfl rfl rfl rfl ⟨⟨.refl _, .refl _, trivial⟩, rfl⟩ ?_ | (refine Rg.op true tok rfl rfl rfl rfl ?_ ?_ ?_; (first | exact ⟨⟩ | omega | focus (simp <;> omega) | decide +kernel); (first | exact trivial | exact rfl | exact .inl rfl | exact .inr rfl | focus ((repeat (first | exact trivial | (refine ⟨Stay.op false tok rfl rfl rfl ?_ (fun t ht => by cases ht; rfl), ?_⟩; (first | exact ⟨⟩ | omega | focus (simp <;> omega) | decide +kernel)) | (refine ⟨Stay.op true tok rfl rfl rfl ?_ (fun t ht => by cases ht; rfl), ?_⟩; (first | exact ⟨⟩ | omega | focus (simp <;> omega) | decide +kernel)) | refine ⟨Stay.skip rfl rfl (fun t ht => by cases ht; rfl), ?_⟩)); done))) | refine Rg.nil ?_ | refine Rg.skip rfl rfl rfl ?_ | refine Run.regR ?_ | refine Run.drwR mixed (by kernel_rfl) rfl ?_ | refine Run.condT rfl ?_ | refine Run.condF rfl ?_ | ((first | refine Run.condB rfl (fun hc => ?_) (fun hc => ?_) | ((fail_if_success (refine Rg.lit true rfl ?_)); (fail_if_success (refine Rg.lit false rfl ?_)); refine Rg.guard rfl (fun hc => ?_) (fun hc => ?_))) <;> ((try simp only [cs] at hc); (first | ((exfalso; omega); done) | skip))))
        all_goals exact back (i + 1, out) _ _ ⟨hlt, hf, by dsimp only; omega⟩ (by dsimp only; omega) ⟨rfl, rfl, rfl, rfl, rfl, trivial⟩ rfl
    · obtain rfl : i = l.length := by omega
      rw [List.drop_length] at hf
      unfold badFrom at hf
      rw [List.append_nil] at hf
      subst hf
      repeat' (first | refine Run.ctl rfl ?_ | (refine Rg.op false tok rfl rfl rfl rfl ?_ ?_ ?_; (first | exact ⟨⟩ | omega | focus (simp <;> omega) | decide +kernel); (first | exact trivial | exact rfl | exact .inl rfl | exact .inr rfl)) | (refine Rg.op true tok rfl rfl rfl rfl ?_ ?_ ?_; (first | exact ⟨⟩ | omega | focus (simp <;> omega) | decide +kernel); (first | exact trivial | exact rfl | exact .inl rfl | exact .inr rfl)) | refine Rg.nil ?_ | refine Rg.skip rfl rfl rfl ?_ | refine Run.regR ?_ | refine Run.condT rfl ?_ | refine Run.condF rfl ?_ | ((first | refine Run.condB rfl (fun hc => ?_) (fun hc => ?_) | ((fail_if_success (refine Rg.lit true rfl ?_)); (fail_if_success (refine Rg.lit false rfl ?_)); refine Rg.guard rfl (fun hc => ?_) (fun hc => ?_))) <;> ((try simp only [cs] at hc); (first | ((exfalso; omega); done) | skip))))
      (first | refine Run.ret tok Try.func15 rfl ?_ | refine Run.fall tok Try.func15 rfl ?_)
      exact .row rfl rfl rfl (by dsimp only; omega) rfl (fun _ => rfl) (fun j hj => by rw [Nat.zero_add])
theorem badFrom_len (p : Pg) (w : Wd) : ∀ (l : List (List Instr)) (k : Nat), (badFrom p w l k).length ≤ l.length
  | [], _ => Nat.le_refl _
  | x :: l, k => by
    unfold badFrom
    have := badFrom_len p w l (k + 1)
    split <;> simp <;> omega
theorem watchTells_ (p : Pg) (w : Wd) (l : List (List Instr)) (_ : p.ok) (_ : w.ok) (hW : ∀ x ∈ l, ∀ i ∈ x, i.ok) : Pure Try.prog 3 [pPg p, pWd w, sl 1 eW l] (bl true) := by
  have hs := smallB_ p
  have hw := worldB_ w
  have hl := watchesB_ l
  by_cases hb : smallB p = true ∧ worldB w = true ∧ watchesB l = true
  · rw [hb.1] at hs
    rw [hb.2.1] at hw
    rw [hb.2.2] at hl
    have h1 : w.mail.length ≤ 100000 ∧ w.actors.length ≤ 100000 := by
      have := hb.2.1
      unfold worldB mailB at this
      simp only [Bool.and_eq_true, decide_eq_true_eq] at this
      omega
    have h2 : l.length ≤ 10 ∧ okW l := by
      have := hb.2.2
      unfold watchesB at this
      simp only [Bool.and_eq_true, decide_eq_true_eq, List.all_eq_true] at this
      obtain ⟨t1, t2⟩ := this
      refine ⟨t2, fun x hx => ⟨?_, fun i hi => (hW x hx i hi).2⟩⟩
      have := t1 x (by rw [List.take_of_length_le (by omega)]; exact hx)
      omega
    have c1 := watchCheck_ p l (by omega) h2.2
    have c2 := refAll_ p l (by omega) h2.2
    have c3 := bad_ p w l (by omega) h2.2 h1.1 h1.2
    have c4 := refBad_ p w l (by omega) h2.2 h1.1 h1.2
    have hbl : (badIn p w l).length ≤ 100000 := by have := badFrom_len p w l 0; unfold badIn; omega
    have c5 := ints_ (badIn p w l) (badIn p w l) hbl hbl
    rw [decide_eq_true rfl] at c5
    refine Pure.of_spec (Spec.of_run (fn := Try.f3) Try.func3 rfl rfl (by kernel_rfl) ?_) (by first | assumption | rfl | (split <;> rfl) | (split <;> split <;> rfl))
    repeat' (first | (refine Run.drwP [] [0, 1, 2, 3, 4, 5, 6, 7, 8, 9, 10, 11, 12, 13, 14, 15, 16, 17, 18, 19, 20, 21] [none, none, none, none, none, none, none, none, none, none, none, none, none, none, none, none, none, none, none, none, none, none] mixed (by kernel_rfl) rfl ?_) | refine Run.ctl rfl ?_ | (refine Rg.op false tok rfl rfl rfl rfl ?_ ?_ ?_; (first | exact ⟨⟩ | omega | focus (simp <;> omega) | decide +kernel); (first | exact trivial | exact rfl | exact .inl rfl | exact .inr rfl | focus ((repeat (first | exact trivial | (refine ⟨Stay.op false tok rfl rfl rfl ?_ (fun t ht => by cases ht; rfl), ?_⟩; (first | exact ⟨⟩ | omega | focus (simp <;> omega) | decide +kernel)) | (refine ⟨Stay.op true tok rfl rfl rfl ?_ (fun t ht => by cases ht; rfl), ?_⟩; (first | exact ⟨⟩ | omega | focus (simp <;> omega) | decide +kernel)) | refine ⟨Stay.skip rfl rfl (fun t ht => by cases ht; rfl), ?_⟩)); done))) | refine Rg.call (hs) rfl rfl rfl rfl rfl ⟨⟨.refl _, trivial⟩, rfl⟩ ?_ | refine Rg.call (hw) rfl rfl rfl rfl rfl ⟨⟨.refl _, trivial⟩, rfl⟩ ?_ | refine Rg.call (hl) rfl rfl rfl rfl rfl ⟨⟨.refl _, trivial⟩, rfl⟩ ?_ | refine Rg.call (c1) rfl rfl rfl rfl rfl ⟨⟨.refl _, .refl _, trivial⟩, rfl⟩ ?_ | refine Rg.call (c2) rfl rfl rfl rfl rfl ⟨⟨.refl _, .refl _, trivial⟩, rfl⟩ ?_ | refine Rg.call (c3) rfl rfl rfl rfl rfl ⟨⟨.refl _, .refl _, .refl _, trivial⟩, rfl⟩ ?_ | refine Rg.call (c4) rfl rfl rfl rfl rfl ⟨⟨.refl _, .refl _, .refl _, trivial⟩, rfl⟩ ?_ | refine Rg.call (c5) rfl rfl rfl rfl rfl ⟨⟨.refl _, .refl _, trivial⟩, rfl⟩ ?_ | refine Rg.call (awake14_) rfl rfl rfl rfl rfl ⟨trivial, rfl⟩ ?_ | (refine Rg.op true tok rfl rfl rfl rfl ?_ ?_ ?_; (first | exact ⟨⟩ | omega | focus (simp <;> omega) | decide +kernel); (first | exact trivial | exact rfl | exact .inl rfl | exact .inr rfl | focus ((repeat (first | exact trivial | (refine ⟨Stay.op false tok rfl rfl rfl ?_ (fun t ht => by cases ht; rfl), ?_⟩; (first | exact ⟨⟩ | omega | focus (simp <;> omega) | decide +kernel)) | (refine ⟨Stay.op true tok rfl rfl rfl ?_ (fun t ht => by cases ht; rfl), ?_⟩; (first | exact ⟨⟩ | omega | focus (simp <;> omega) | decide +kernel)) | refine ⟨Stay.skip rfl rfl (fun t ht => by cases ht; rfl), ?_⟩)); done))) | refine Rg.nil ?_ | refine Rg.skip rfl rfl rfl ?_ | refine Run.regR ?_ | refine Run.drwR mixed (by kernel_rfl) rfl ?_ | refine Run.condT rfl ?_ | refine Run.condF rfl ?_ | ((first | refine Run.condB rfl (fun hc => ?_) (fun hc => ?_) | ((fail_if_success (refine Rg.lit true rfl ?_)); (fail_if_success (refine Rg.lit false rfl ?_)); refine Rg.guard rfl (fun hc => ?_) (fun hc => ?_))) <;> ((try simp only [cs] at hc); (first | ((exfalso; omega); done) | ((exact absurd rfl hc); done) | skip))))
    all_goals ((first | refine Run.ret tok Try.func3 rfl ?_ | refine Run.fall tok Try.func3 rfl ?_); first | exact .refl _ | (refine .ofBool ?_; simp))
  · generalize smallB p = a at hs hb
    generalize worldB w = b at hw hb
    generalize watchesB l = c at hl hb
    have hb2 : a = false ∨ (a = true ∧ b = false) ∨ (a = true ∧ b = true ∧ c = false) := by
      revert hb; cases a <;> cases b <;> cases c <;> simp
    rcases hb2 with rfl | ⟨rfl, rfl⟩ | ⟨rfl, rfl, rfl⟩
    · refine Pure.of_spec (Spec.of_run (fn := Try.f3) Try.func3 rfl rfl (by kernel_rfl) ?_) (by first | assumption | rfl | (split <;> rfl) | (split <;> split <;> rfl))
      repeat' (first | refine Run.ctl rfl ?_ | (refine Rg.op false tok rfl rfl rfl rfl ?_ ?_ ?_; (first | exact ⟨⟩ | omega | focus (simp <;> omega) | decide +kernel); (first | exact trivial | exact rfl | exact .inl rfl | exact .inr rfl)) | refine Rg.call (hs) rfl rfl rfl rfl rfl ⟨⟨.refl _, trivial⟩, rfl⟩ ?_ | refine Rg.call (hw) rfl rfl rfl rfl rfl ⟨⟨.refl _, trivial⟩, rfl⟩ ?_ | refine Rg.call (hl) rfl rfl rfl rfl rfl ⟨⟨.refl _, trivial⟩, rfl⟩ ?_ | refine Rg.call (awake14_) rfl rfl rfl rfl rfl ⟨trivial, rfl⟩ ?_ | (refine Rg.op true tok rfl rfl rfl rfl ?_ ?_ ?_; (first | exact ⟨⟩ | omega | focus (simp <;> omega) | decide +kernel); (first | exact trivial | exact rfl | exact .inl rfl | exact .inr rfl)) | refine Rg.nil ?_ | refine Rg.skip rfl rfl rfl ?_ | refine Run.regR ?_ | refine Run.condT rfl ?_ | refine Run.condF rfl ?_ | ((first | refine Run.condB rfl (fun hc => ?_) (fun hc => ?_) | ((fail_if_success (refine Rg.lit true rfl ?_)); (fail_if_success (refine Rg.lit false rfl ?_)); refine Rg.guard rfl (fun hc => ?_) (fun hc => ?_))) <;> ((try simp only [cs] at hc); (first | ((exact absurd rfl hc); done) | skip))))
      all_goals ((first | refine Run.ret tok Try.func3 rfl ?_ | refine Run.fall tok Try.func3 rfl ?_); exact .refl _)
    · refine Pure.of_spec (Spec.of_run (fn := Try.f3) Try.func3 rfl rfl (by kernel_rfl) ?_) (by first | assumption | rfl | (split <;> rfl) | (split <;> split <;> rfl))
      repeat' (first | refine Run.ctl rfl ?_ | (refine Rg.op false tok rfl rfl rfl rfl ?_ ?_ ?_; (first | exact ⟨⟩ | omega | focus (simp <;> omega) | decide +kernel); (first | exact trivial | exact rfl | exact .inl rfl | exact .inr rfl)) | refine Rg.call (hs) rfl rfl rfl rfl rfl ⟨⟨.refl _, trivial⟩, rfl⟩ ?_ | refine Rg.call (hw) rfl rfl rfl rfl rfl ⟨⟨.refl _, trivial⟩, rfl⟩ ?_ | refine Rg.call (hl) rfl rfl rfl rfl rfl ⟨⟨.refl _, trivial⟩, rfl⟩ ?_ | refine Rg.call (awake14_) rfl rfl rfl rfl rfl ⟨trivial, rfl⟩ ?_ | (refine Rg.op true tok rfl rfl rfl rfl ?_ ?_ ?_; (first | exact ⟨⟩ | omega | focus (simp <;> omega) | decide +kernel); (first | exact trivial | exact rfl | exact .inl rfl | exact .inr rfl)) | refine Rg.nil ?_ | refine Rg.skip rfl rfl rfl ?_ | refine Run.regR ?_ | refine Run.condT rfl ?_ | refine Run.condF rfl ?_ | ((first | refine Run.condB rfl (fun hc => ?_) (fun hc => ?_) | ((fail_if_success (refine Rg.lit true rfl ?_)); (fail_if_success (refine Rg.lit false rfl ?_)); refine Rg.guard rfl (fun hc => ?_) (fun hc => ?_))) <;> ((try simp only [cs] at hc); (first | ((exact absurd rfl hc); done) | skip))))
      all_goals ((first | refine Run.ret tok Try.func3 rfl ?_ | refine Run.fall tok Try.func3 rfl ?_); exact .refl _)
    · refine Pure.of_spec (Spec.of_run (fn := Try.f3) Try.func3 rfl rfl (by kernel_rfl) ?_) (by first | assumption | rfl | (split <;> rfl) | (split <;> split <;> rfl))
      repeat' (first | refine Run.ctl rfl ?_ | (refine Rg.op false tok rfl rfl rfl rfl ?_ ?_ ?_; (first | exact ⟨⟩ | omega | focus (simp <;> omega) | decide +kernel); (first | exact trivial | exact rfl | exact .inl rfl | exact .inr rfl)) | refine Rg.call (hs) rfl rfl rfl rfl rfl ⟨⟨.refl _, trivial⟩, rfl⟩ ?_ | refine Rg.call (hw) rfl rfl rfl rfl rfl ⟨⟨.refl _, trivial⟩, rfl⟩ ?_ | refine Rg.call (hl) rfl rfl rfl rfl rfl ⟨⟨.refl _, trivial⟩, rfl⟩ ?_ | refine Rg.call (awake14_) rfl rfl rfl rfl rfl ⟨trivial, rfl⟩ ?_ | (refine Rg.op true tok rfl rfl rfl rfl ?_ ?_ ?_; (first | exact ⟨⟩ | omega | focus (simp <;> omega) | decide +kernel); (first | exact trivial | exact rfl | exact .inl rfl | exact .inr rfl)) | refine Rg.nil ?_ | refine Rg.skip rfl rfl rfl ?_ | refine Run.regR ?_ | refine Run.condT rfl ?_ | refine Run.condF rfl ?_ | ((first | refine Run.condB rfl (fun hc => ?_) (fun hc => ?_) | ((fail_if_success (refine Rg.lit true rfl ?_)); (fail_if_success (refine Rg.lit false rfl ?_)); refine Rg.guard rfl (fun hc => ?_) (fun hc => ?_))) <;> ((try simp only [cs] at hc); (first | ((exact absurd rfl hc); done) | skip))))
      all_goals ((first | refine Run.ret tok Try.func3 rfl ?_ | refine Run.fall tok Try.func3 rfl ?_); exact .refl _)
end Go.Proofs.Ytlimecfjpfaljaa.W
end
