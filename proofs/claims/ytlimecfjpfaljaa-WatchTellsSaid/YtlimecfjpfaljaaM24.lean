/- Texts merged: D21. -/
import Derived.Test.YtlimecfjpfaljaaM23
section
/- Walks: watches (chapter 14). -/
set_option linter.unusedVariables false
set_option linter.unusedSimpArgs false
set_option linter.unusedSectionVars false
set_option pp.maxSteps 40000
set_option maxHeartbeats 4000000
namespace Go.Proofs.Ytlimecfjpfaljaa.W
open Go Go.Sy

theorem value_ (p : Pg) (w : Wd) (x : List Instr) (hx : x.length ≤ 100000) (hok : ∀ i ∈ x, R64 i.a) (hl : w.mail.length ≤ 100000) (ha : w.actors.length ≤ 100000) : Pure Try.prog 25 [pPg p, pWd w, sl 2 eInstr x] (.tup [i64 (exValue p w x).1, i64 (exValue p w x).2]) := by
  have hec := exCheck_ p x hx hok
  have hwc := worldCheck_ p w hl ha
  unfold exValue
  by_cases h1 : exWhy p x = 0
  · rw [if_neg (by simpa using h1)]
    rw [h1] at hec
    cases hb : worldOk p w with
    | false =>
      rw [hb] at hwc
      rw [if_pos rfl]
      refine Pure.of_spec (Spec.of_run (fn := Try.f25) Try.func25 rfl rfl (by kernel_rfl) ?_) (by first | assumption | rfl | (split <;> rfl) | (split <;> split <;> rfl))
      repeat' (first | refine Run.ctl rfl ?_ | (refine Rg.op false tok rfl rfl rfl rfl ?_ ?_ ?_; (first | exact ⟨⟩ | omega | focus (simp <;> omega) | decide +kernel); (first | exact trivial | exact rfl | exact .inl rfl | exact .inr rfl)) | refine Rg.call (hec) rfl rfl rfl rfl rfl ⟨⟨.refl _, .refl _, trivial⟩, rfl⟩ ?_ | refine Rg.call (hwc) rfl rfl rfl rfl rfl ⟨⟨.refl _, .refl _, trivial⟩, rfl⟩ ?_ | (refine Rg.op true tok rfl rfl rfl rfl ?_ ?_ ?_; (first | exact ⟨⟩ | omega | focus (simp <;> omega) | decide +kernel); (first | exact trivial | exact rfl | exact .inl rfl | exact .inr rfl)) | refine Rg.nil ?_ | refine Rg.skip rfl rfl rfl ?_ | refine Run.regR ?_ | refine Run.condT rfl ?_ | refine Run.condF rfl ?_ | ((first | refine Run.condB rfl (fun hc => ?_) (fun hc => ?_) | ((fail_if_success (refine Rg.lit true rfl ?_)); (fail_if_success (refine Rg.lit false rfl ?_)); refine Rg.guard rfl (fun hc => ?_) (fun hc => ?_))) <;> ((try simp only [cs] at hc); (first | ((exfalso; omega); done) | skip))))
      (first | refine Run.ret tok Try.func25 rfl ?_ | refine Run.fall tok Try.func25 rfl ?_)
      exact .refl _
    | true =>
      rw [hb] at hwc
      rw [if_neg (by simp)]
      unfold worldOk worldFit at hb
      simp only [Bool.and_eq_true, decide_eq_true_eq] at hb
      obtain ⟨hfw, ⟨⟨⟨hal, _⟩, _⟩, _⟩⟩ := hb
      have hp := flowWhy_fit hfw
      unfold exWhy at h1
      rw [if_neg (by simpa using hfw)] at h1
      have hx64 : x.length ≤ 64 := by
        by_cases h : 64 < x.length
        · rw [if_pos h] at h1; cases h1
        · omega
      rw [if_neg (by omega)] at h1
      have hof := exOf_ p w x hx64 hok hl hal.1 hp.na0 h1
      refine Pure.of_spec (Spec.of_run (fn := Try.f25) Try.func25 rfl rfl (by kernel_rfl) ?_) (by first | assumption | rfl | (split <;> rfl) | (split <;> split <;> rfl))
      repeat' (first | refine Run.ctl rfl ?_ | (refine Rg.op false tok rfl rfl rfl rfl ?_ ?_ ?_; (first | exact ⟨⟩ | omega | focus (simp <;> omega) | decide +kernel); (first | exact trivial | exact rfl | exact .inl rfl | exact .inr rfl)) | refine Rg.call (hec) rfl rfl rfl rfl rfl ⟨⟨.refl _, .refl _, trivial⟩, rfl⟩ ?_ | refine Rg.call (hwc) rfl rfl rfl rfl rfl ⟨⟨.refl _, .refl _, trivial⟩, rfl⟩ ?_ | refine Rg.call (hof) rfl rfl rfl rfl rfl ⟨⟨.refl _, .refl _, trivial⟩, rfl⟩ ?_ | (refine Rg.op true tok rfl rfl rfl rfl ?_ ?_ ?_; (first | exact ⟨⟩ | omega | focus (simp <;> omega) | decide +kernel); (first | exact trivial | exact rfl | exact .inl rfl | exact .inr rfl)) | refine Rg.nil ?_ | refine Rg.skip rfl rfl rfl ?_ | refine Run.regR ?_ | refine Run.condT rfl ?_ | refine Run.condF rfl ?_ | ((first | refine Run.condB rfl (fun hc => ?_) (fun hc => ?_) | ((fail_if_success (refine Rg.lit true rfl ?_)); (fail_if_success (refine Rg.lit false rfl ?_)); refine Rg.guard rfl (fun hc => ?_) (fun hc => ?_))) <;> ((try simp only [cs] at hc); (first | ((exfalso; omega); done) | skip))))
      (first | refine Run.ret tok Try.func25 rfl ?_ | refine Run.fall tok Try.func25 rfl ?_)
      exact .refl _
  · rw [if_pos (by simpa using h1)]
    generalize exWhy p x = z at hec h1
    refine Pure.of_spec (Spec.of_run (fn := Try.f25) Try.func25 rfl rfl (by kernel_rfl) ?_) (by first | assumption | rfl | (split <;> rfl) | (split <;> split <;> rfl))
    repeat' (first | refine Run.ctl rfl ?_ | (refine Rg.op false tok rfl rfl rfl rfl ?_ ?_ ?_; (first | exact ⟨⟩ | omega | focus (simp <;> omega) | decide +kernel); (first | exact trivial | exact rfl | exact .inl rfl | exact .inr rfl)) | refine Rg.call (hec) rfl rfl rfl rfl rfl ⟨⟨.refl _, .refl _, trivial⟩, rfl⟩ ?_ | (refine Rg.op true tok rfl rfl rfl rfl ?_ ?_ ?_; (first | exact ⟨⟩ | omega | focus (simp <;> omega) | decide +kernel); (first | exact trivial | exact rfl | exact .inl rfl | exact .inr rfl)) | refine Rg.nil ?_ | refine Rg.skip rfl rfl rfl ?_ | refine Run.regR ?_ | refine Run.condT rfl ?_ | refine Run.condF rfl ?_ | ((first | refine Run.condB rfl (fun hc => ?_) (fun hc => ?_) | ((fail_if_success (refine Rg.lit true rfl ?_)); (fail_if_success (refine Rg.lit false rfl ?_)); refine Rg.guard rfl (fun hc => ?_) (fun hc => ?_))) <;> ((try simp only [cs] at hc); (first | ((exfalso; omega); done) | ((exact absurd hc h1); done) | skip))))
    (first | refine Run.ret tok Try.func25 rfl ?_ | refine Run.fall tok Try.func25 rfl ?_)
    exact .refl _
def eW (x : List Instr) : List PV := [sl 2 eInstr x]
def okW (l : List (List Instr)) : Prop := ∀ x ∈ l, x.length ≤ 100000 ∧ ∀ i ∈ x, R64 i.a
theorem watchCheck_ (p : Pg) (l : List (List Instr)) (hl : l.length ≤ 100000) (hok : okW l) : Pure Try.prog 11 [pPg p, sl 1 eW l] (i64 (watchWhy p l)) := by
  have hfc := flowCheck_ p
  unfold watchWhy
  by_cases h8 : 8 < l.length
  · rw [if_pos h8]
    refine Pure.of_spec (Spec.of_run (fn := Try.f11) Try.func11 rfl rfl (by kernel_rfl) ?_) (by first | assumption | rfl | (split <;> rfl) | (split <;> split <;> rfl))
    repeat' (first | refine Run.ctl rfl ?_ | (refine Rg.op false tok rfl rfl rfl rfl ?_ ?_ ?_; (first | exact ⟨⟩ | omega | focus (simp <;> omega) | decide +kernel); (first | exact trivial | exact rfl | exact .inl rfl | exact .inr rfl)) | (refine Rg.op true tok rfl rfl rfl rfl ?_ ?_ ?_; (first | exact ⟨⟩ | omega | focus (simp <;> omega) | decide +kernel); (first | exact trivial | exact rfl | exact .inl rfl | exact .inr rfl)) | refine Rg.nil ?_ | refine Rg.skip rfl rfl rfl ?_ | refine Run.regR ?_ | refine Run.condT rfl ?_ | refine Run.condF rfl ?_ | ((first | refine Run.condB rfl (fun hc => ?_) (fun hc => ?_) | ((fail_if_success (refine Rg.lit true rfl ?_)); (fail_if_success (refine Rg.lit false rfl ?_)); refine Rg.guard rfl (fun hc => ?_) (fun hc => ?_))) <;> ((try simp only [cs] at hc); (first | ((exfalso; omega); done) | skip))))
    (first | refine Run.ret tok Try.func11 rfl ?_ | refine Run.fall tok Try.func11 rfl ?_)
    exact .refl _
  rw [if_neg h8]
  by_cases h0 : flowWhy p = 0
  · rw [if_neg (by simpa using h0)]
    rw [h0] at hfc
    refine Pure.of_spec (Spec.of_run (fn := Try.f11) Try.func11 rfl rfl (by kernel_rfl) ?_) (by first | assumption | rfl | (split <;> rfl) | (split <;> split <;> rfl))
    repeat' (first | refine Run.ctl rfl ?_ | (refine Rg.op false tok rfl rfl rfl rfl ?_ ?_ ?_; (first | exact ⟨⟩ | omega | focus (simp <;> omega) | decide +kernel); (first | exact trivial | exact rfl | exact .inl rfl | exact .inr rfl)) | refine Rg.call (hfc) rfl rfl rfl rfl rfl ⟨⟨.refl _, trivial⟩, rfl⟩ ?_ | (refine Rg.op true tok rfl rfl rfl rfl ?_ ?_ ?_; (first | exact ⟨⟩ | omega | focus (simp <;> omega) | decide +kernel); (first | exact trivial | exact rfl | exact .inl rfl | exact .inr rfl)) | refine Rg.nil ?_ | refine Rg.skip rfl rfl rfl ?_ | refine Run.regR ?_ | refine Run.condT rfl ?_ | refine Run.condF rfl ?_ | ((first | refine Run.condB rfl (fun hc => ?_) (fun hc => ?_) | ((fail_if_success (refine Rg.lit true rfl ?_)); (fail_if_success (refine Rg.lit false rfl ?_)); refine Rg.guard rfl (fun hc => ?_) (fun hc => ?_))) <;> ((try simp only [cs] at hc); (first | ((exfalso; omega); done) | ((exact absurd rfl hc); done) | skip))))
    refine Run.loopN (ι := Nat) (fun i => ([(2, .ptr 0 0 0), (17, sl 1 eW l), (18, i64 l.length), (19, i64 i)], [pbox p])) (fun i => i ≤ l.length ∧ firstWhy (exWhy p) (l.drop i) = firstWhy (exWhy p) l) (fun i => l.length - i) 0 ⟨rfl, rfl, rfl, rfl, trivial⟩ rfl ⟨by omega, rfl⟩ ?_
    rintro i ⟨hi, hf⟩ back backR
    dsimp only
    by_cases hlt : i < l.length
    · rw [firstWhy_at hlt] at hf
      have hm := hok _ (mem_getD hlt)
      have hin := exCheck_ p (l.getD i default) hm.1 hm.2
      by_cases hw : exWhy p (l.getD i default) = 0
      · rw [if_neg (fun e => e hw)] at hf
        rw [hw] at hin
        repeat' (first | refine Run.ctl rfl ?_ | (refine Rg.op false tok rfl rfl rfl rfl ?_ ?_ ?_; (first | exact ⟨⟩ | omega | focus (simp <;> omega) | decide +kernel); (first | exact trivial | exact rfl | exact .inl rfl | exact .inr rfl)) | refine Rg.call (hin) rfl rfl rfl rfl rfl ⟨⟨.refl _, .refl _, trivial⟩, rfl⟩ ?_ | (refine Rg.op true tok rfl rfl rfl rfl ?_ ?_ ?_; (first | exact ⟨⟩ | omega | focus (simp <;> omega) | decide +kernel); (first | exact trivial | exact rfl | exact .inl rfl | exact .inr rfl)) | refine Rg.nil ?_ | refine Rg.skip rfl rfl rfl ?_ | refine Run.regR ?_ | refine Run.condT rfl ?_ | refine Run.condF rfl ?_ | ((first | refine Run.condB rfl (fun hc => ?_) (fun hc => ?_) | ((fail_if_success (refine Rg.lit true rfl ?_)); (fail_if_success (refine Rg.lit false rfl ?_)); refine Rg.guard rfl (fun hc => ?_) (fun hc => ?_))) <;> ((try simp only [cs] at hc); (first | ((exact absurd rfl hc); done) | ((exfalso; omega); done) | skip))))
        exact back (i + 1) _ _ ⟨hlt, hf⟩ (by omega) ⟨rfl, rfl, rfl, rfl, trivial⟩ rfl
      · rw [if_pos hw] at hf
        rw [← hf]
        generalize exWhy p (l.getD i default) = z at hin hw
        repeat' (first | refine Run.ctl rfl ?_ | (refine Rg.op false tok rfl rfl rfl rfl ?_ ?_ ?_; (first | exact ⟨⟩ | omega | focus (simp <;> omega) | decide +kernel); (first | exact trivial | exact rfl | exact .inl rfl | exact .inr rfl)) | refine Rg.call (hin) rfl rfl rfl rfl rfl ⟨⟨.refl _, .refl _, trivial⟩, rfl⟩ ?_ | (refine Rg.op true tok rfl rfl rfl rfl ?_ ?_ ?_; (first | exact ⟨⟩ | omega | focus (simp <;> omega) | decide +kernel); (first | exact trivial | exact rfl | exact .inl rfl | exact .inr rfl)) | refine Rg.nil ?_ | refine Rg.skip rfl rfl rfl ?_ | refine Run.regR ?_ | refine Run.condT rfl ?_ | refine Run.condF rfl ?_ | ((first | refine Run.condB rfl (fun hc => ?_) (fun hc => ?_) | ((fail_if_success (refine Rg.lit true rfl ?_)); (fail_if_success (refine Rg.lit false rfl ?_)); refine Rg.guard rfl (fun hc => ?_) (fun hc => ?_))) <;> ((try simp only [cs] at hc); (first | ((exact absurd hc hw); done) | ((exfalso; omega); done) | skip))))
        (first | refine Run.ret tok Try.func11 rfl ?_ | refine Run.fall tok Try.func11 rfl ?_)
        exact .refl _
    · obtain rfl : i = l.length := by omega
      rw [List.drop_length] at hf
      rw [← hf]
      repeat' (first | refine Run.ctl rfl ?_ | (refine Rg.op false tok rfl rfl rfl rfl ?_ ?_ ?_; (first | exact ⟨⟩ | omega | focus (simp <;> omega) | decide +kernel); (first | exact trivial | exact rfl | exact .inl rfl | exact .inr rfl)) | (refine Rg.op true tok rfl rfl rfl rfl ?_ ?_ ?_; (first | exact ⟨⟩ | omega | focus (simp <;> omega) | decide +kernel); (first | exact trivial | exact rfl | exact .inl rfl | exact .inr rfl)) | refine Rg.nil ?_ | refine Rg.skip rfl rfl rfl ?_ | refine Run.regR ?_ | refine Run.condT rfl ?_ | refine Run.condF rfl ?_ | ((first | refine Run.condB rfl (fun hc => ?_) (fun hc => ?_) | ((fail_if_success (refine Rg.lit true rfl ?_)); (fail_if_success (refine Rg.lit false rfl ?_)); refine Rg.guard rfl (fun hc => ?_) (fun hc => ?_))) <;> ((try simp only [cs] at hc); (first | ((exfalso; omega); done) | skip))))
      (first | refine Run.ret tok Try.func11 rfl ?_ | refine Run.fall tok Try.func11 rfl ?_)
      exact .refl _
  · rw [if_pos (by simpa using h0)]
    generalize flowWhy p = z at hfc h0
    refine Pure.of_spec (Spec.of_run (fn := Try.f11) Try.func11 rfl rfl (by kernel_rfl) ?_) (by first | assumption | rfl | (split <;> rfl) | (split <;> split <;> rfl))
    repeat' (first | refine Run.ctl rfl ?_ | (refine Rg.op false tok rfl rfl rfl rfl ?_ ?_ ?_; (first | exact ⟨⟩ | omega | focus (simp <;> omega) | decide +kernel); (first | exact trivial | exact rfl | exact .inl rfl | exact .inr rfl)) | refine Rg.call (hfc) rfl rfl rfl rfl rfl ⟨⟨.refl _, trivial⟩, rfl⟩ ?_ | (refine Rg.op true tok rfl rfl rfl rfl ?_ ?_ ?_; (first | exact ⟨⟩ | omega | focus (simp <;> omega) | decide +kernel); (first | exact trivial | exact rfl | exact .inl rfl | exact .inr rfl)) | refine Rg.nil ?_ | refine Rg.skip rfl rfl rfl ?_ | refine Run.regR ?_ | refine Run.condT rfl ?_ | refine Run.condF rfl ?_ | ((first | refine Run.condB rfl (fun hc => ?_) (fun hc => ?_) | ((fail_if_success (refine Rg.lit true rfl ?_)); (fail_if_success (refine Rg.lit false rfl ?_)); refine Rg.guard rfl (fun hc => ?_) (fun hc => ?_))) <;> ((try simp only [cs] at hc); (first | ((exfalso; omega); done) | ((exact absurd hc h0); done) | skip))))
    (first | refine Run.ret tok Try.func11 rfl ?_ | refine Run.fall tok Try.func11 rfl ?_)
    exact .refl _
theorem badFrom_at (p : Pg) (w : Wd) {l : List (List Instr)} {i : Nat} (hi : i < l.length) : badFrom p w (l.drop i) i = if exValue p w (l.getD i default) = (0, 0) then (i : Int) :: badFrom p w (l.drop (i + 1)) (i + 1) else badFrom p w (l.drop (i + 1)) (i + 1) := by
  rw [List.drop_eq_getElem_cons hi]
  have : l.getD i default = l[i] := by simp [hi]
  rw [this]
  rfl
theorem bad_ (p : Pg) (w : Wd) (l : List (List Instr)) (hll : l.length ≤ 100000) (hok : okW l) (hl : w.mail.length ≤ 100000) (ha : w.actors.length ≤ 100000) : Pure Try.prog 14 [pPg p, pWd w, sl 1 eW l] (sl 1 eInt (badIn p w l)) := by
  unfold badIn
  generalize hB : badFrom p w l 0 = B
  refine Pure.of_spec (Spec.of_run (fn := Try.f14) Try.func14 rfl rfl (by kernel_rfl) ?_) (by first | assumption | rfl | (split <;> rfl) | (split <;> split <;> rfl))
  repeat' (first | refine Run.ctl rfl ?_ | (refine Rg.op false tok rfl rfl rfl rfl ?_ ?_ ?_; (first | exact ⟨⟩ | omega | focus (simp <;> omega) | decide +kernel); (first | exact trivial | exact rfl | exact .inl rfl | exact .inr rfl)) | (refine Rg.op true tok rfl rfl rfl rfl ?_ ?_ ?_; (first | exact ⟨⟩ | omega | focus (simp <;> omega) | decide +kernel); (first | exact trivial | exact rfl | exact .inl rfl | exact .inr rfl)) | refine Rg.nil ?_ | refine Rg.skip rfl rfl rfl ?_ | refine Run.regR ?_ | refine Run.condT rfl ?_ | refine Run.condF rfl ?_ | ((first | refine Run.condB rfl (fun hc => ?_) (fun hc => ?_) | ((fail_if_success (refine Rg.lit true rfl ?_)); (fail_if_success (refine Rg.lit false rfl ?_)); refine Rg.guard rfl (fun hc => ?_) (fun hc => ?_))) <;> ((try simp only [cs] at hc); (first | ((exfalso; omega); done) | skip))))
  refine Run.nilRow 6 3 1 (rows eInt []) rfl ?_
  refine Run.loopN (ι := Nat × List Int) (fun j => ([(3, .ptr 0 0 0), (4, .ptr 1 0 0), (6, .slc 2 0 j.2.length), (11, sl 1 eW l), (12, i64 l.length), (13, i64 j.1)], [pbox p, wdbox w, rowI j.2])) (fun j => j.1 ≤ l.length ∧ j.2 ++ badFrom p w (l.drop j.1) j.1 = B ∧ j.2.length ≤ j.1) (fun j => l.length - j.1) (0, []) ⟨rfl, rfl, rfl, rfl, rfl, rfl, trivial⟩ rfl ⟨by omega, hB, by simp⟩ ?_
  rintro ⟨i, out⟩ ⟨hi, hf, hol⟩ back backR
  dsimp only at hi hf hol ⊢
  by_cases hlt : i < l.length
  · rw [badFrom_at p w hlt] at hf
    have hm := hok _ (mem_getD hlt)
    have hv := value_ p w (l.getD i default) hm.1 hm.2 hl ha
    generalize exValue p w (l.getD i default) = r at hv hf
    obtain ⟨v, y⟩ := r
    dsimp only at hv
    by_cases h0 : v = 0 ∧ y = 0
    · obtain ⟨rfl, rfl⟩ := h0
      rw [if_pos rfl] at hf
      repeat' (first | refine Run.ctl rfl ?_ | (refine Rg.op false tok rfl rfl rfl rfl ?_ ?_ ?_; (first | exact ⟨⟩ | omega | focus (simp <;> omega) | decide +kernel); (first | exact trivial | exact rfl | exact .inl rfl | exact .inr rfl)) | refine Rg.call (hv) rfl rfl rfl rfl rfl ⟨⟨.refl _, .refl _, .refl _, trivial⟩, rfl⟩ ?_ | (refine Rg.op true tok rfl rfl rfl rfl ?_ ?_ ?_; (first | exact ⟨⟩ | omega | focus (simp <;> omega) | decide +kernel); (first | exact trivial | exact rfl | exact .inl rfl | exact .inr rfl)) | refine Rg.nil ?_ | refine Rg.skip rfl rfl rfl ?_ | refine Run.regR ?_ | refine Run.condT rfl ?_ | refine Run.condF rfl ?_ | ((first | refine Run.condB rfl (fun hc => ?_) (fun hc => ?_) | ((fail_if_success (refine Rg.lit true rfl ?_)); (fail_if_success (refine Rg.lit false rfl ?_)); refine Rg.guard rfl (fun hc => ?_) (fun hc => ?_))) <;> ((try simp only [cs] at hc); (first | ((exfalso; omega); done) | ((exact absurd rfl hc); done) | skip))))
      exact backR [0, 1, 4] (i + 1, out ++ [(i : Int)]) _ _ ⟨hlt, by rw [List.append_assoc]; exact hf, by simp; omega⟩ (by dsimp only; omega) rfl ⟨⟨_, rfl, rfl, rfl, rfl, rfl, fun k hk => .ofEq rfl rfl⟩, ⟨_, rfl, rfl, rfl, rfl, rfl, fun k hk => .ofEq rfl rfl⟩, ⟨_, rfl, rfl, rfl, by simp, rfl, fun k hk => .ofEq (by dsimp only at hk ⊢; exact rows_snoc eInt out _ rfl (fun k _ => by rw [Nat.zero_add]) rfl hk) rfl⟩, trivial⟩ ⟨.ptrN rfl rfl, .ptrN rfl rfl, .slcN rfl rfl (by simp), .cl rfl, .cl rfl, .cl rfl, trivial⟩
    · rw [if_neg (by simpa using h0)] at hf
      repeat' (first | refine Run.ctl rfl ?_ | (refine Rg.op false tok rfl rfl rfl rfl ?_ ?_ ?_; (first | exact ⟨⟩ | omega | focus (simp <;> omega) | decide +kernel); (first | exact trivial | exact rfl | exact .inl rfl | exact .inr rfl)) | refine Rg.call (hv) rfl rfl rfl rfl rfl ⟨⟨.refl _, .refl _, .refl _, trivial⟩, rfl⟩ ?_ | (refine Rg.op true tok rfl rfl rfl rfl ?_ ?_ ?_; (first | exact ⟨⟩ | omega | focus (simp <;> omega) | decide +kernel); (first | exact trivial | exact rfl | exact .inl rfl | exact .inr rfl)) | refine Rg.nil ?_ | refine Rg.skip rfl rfl rfl ?_ | refine Run.regR ?_ | refine Run.condT rfl ?_ | refine Run.condF rfl ?_ | ((first | refine Run.condB rfl (fun hc => ?_) (fun hc => ?_) | ((fail_if_success (refine Rg.lit true rfl ?_)); (fail_if_success (refine Rg.lit false rfl ?_)); refine Rg.guard rfl (fun hc => ?_) (fun hc => ?_))) <;> ((try simp only [cs] at hc); (first | ((exfalso; omega); done) | skip))))
      all_goals exact back (i + 1, out) _ _ ⟨hlt, hf, by dsimp only; omega⟩ (by dsimp only; omega) ⟨rfl, rfl, rfl, rfl, rfl, rfl, trivial⟩ rfl
  · obtain rfl : i = l.length := by omega
    rw [List.drop_length] at hf
    unfold badFrom at hf
    rw [List.append_nil] at hf
    subst hf
    repeat' (first | refine Run.ctl rfl ?_ | (refine Rg.op false tok rfl rfl rfl rfl ?_ ?_ ?_; (first | exact ⟨⟩ | omega | focus (simp <;> omega) | decide +kernel); (first | exact trivial | exact rfl | exact .inl rfl | exact .inr rfl)) | (refine Rg.op true tok rfl rfl rfl rfl ?_ ?_ ?_; (first | exact ⟨⟩ | omega | focus (simp <;> omega) | decide +kernel); (first | exact trivial | exact rfl | exact .inl rfl | exact .inr rfl)) | refine Rg.nil ?_ | refine Rg.skip rfl rfl rfl ?_ | refine Run.regR ?_ | refine Run.condT rfl ?_ | refine Run.condF rfl ?_ | ((first | refine Run.condB rfl (fun hc => ?_) (fun hc => ?_) | ((fail_if_success (refine Rg.lit true rfl ?_)); (fail_if_success (refine Rg.lit false rfl ?_)); refine Rg.guard rfl (fun hc => ?_) (fun hc => ?_))) <;> ((try simp only [cs] at hc); (first | ((exfalso; omega); done) | skip))))
    (first | refine Run.ret tok Try.func14 rfl ?_ | refine Run.fall tok Try.func14 rfl ?_)
    exact .row rfl rfl rfl (by dsimp only; omega) rfl (fun _ => rfl) (fun j hj => by rw [Nat.zero_add])
end Go.Proofs.Ytlimecfjpfaljaa.W
end
