/- Texts merged: D22, D23, D24, D25, D26, D27. -/
import Derived.Test.YtlimecfjpfaljaaM24
import Derived.Test.YtlimecfjpfaljaaM25
section
/- Walks: marks; what the laws of watches hold against each other (chapter 14). -/
set_option linter.unusedVariables false
set_option linter.unusedSimpArgs false
set_option linter.unusedSectionVars false
set_option pp.maxSteps 40000
set_option maxHeartbeats 4000000
namespace Go.Proofs.Ytlimecfjpfaljaa.W
open Go Go.Sy

def eBool (b : Bool) : List PV := [bl b]
def rowB (l : List Bool) : Option Blk := some ⟨4, 1, l.length, rows eBool l, false, false⟩
def markOne (n : Int) (m : List Bool) (i : Int) : List Bool := if 0 ≤ i ∧ i < n then m.set i.toNat true else m
def marksIn (n : Int) (bad : List Int) : List Bool := bad.foldl (markOne n) (List.replicate n.toNat false)
def marksOf (n : Int) (bad : List Int) : List Bool := if n < 0 ∨ 1000 < n then [] else marksIn n bad
theorem foldl_at {α β : Type} [Inhabited α] (f : β → α → β) {l : List α} {i : Nat} (hi : i < l.length) (b : β) : (l.drop i).foldl f b = (l.drop (i + 1)).foldl f (f b (l.getD i default)) := by
  rw [List.drop_eq_getElem_cons hi]
  have : l.getD i default = l[i] := by simp [hi]
  rw [this]
  rfl
theorem marks_ (n : Int) (bad : List Int) (hb : bad.length ≤ 100000) : Pure Try.prog 18 [i64 n, sl 1 eInt bad] (sl 1 eBool (marksOf n bad)) := by
  unfold marksOf
  by_cases h0 : n < 0 ∨ 1000 < n
  · rw [if_pos h0]
    refine Pure.of_spec (Spec.of_run (fn := Try.f18) Try.func18 rfl rfl (by kernel_rfl) ?_) (by first | assumption | rfl | (split <;> rfl) | (split <;> split <;> rfl))
    repeat' (first | refine Run.ctl rfl ?_ | (refine Rg.op false tok rfl rfl rfl rfl ?_ ?_ ?_; (first | exact ⟨⟩ | omega | focus (simp <;> omega) | decide +kernel); (first | exact trivial | exact rfl | exact .inl rfl | exact .inr rfl)) | (refine Rg.op true tok rfl rfl rfl rfl ?_ ?_ ?_; (first | exact ⟨⟩ | omega | focus (simp <;> omega) | decide +kernel); (first | exact trivial | exact rfl | exact .inl rfl | exact .inr rfl)) | refine Rg.nil ?_ | refine Rg.skip rfl rfl rfl ?_ | refine Run.regR ?_ | refine Run.condT rfl ?_ | refine Run.condF rfl ?_ | ((first | refine Run.condB rfl (fun hc => ?_) (fun hc => ?_) | ((fail_if_success (refine Rg.lit true rfl ?_)); (fail_if_success (refine Rg.lit false rfl ?_)); refine Rg.guard rfl (fun hc => ?_) (fun hc => ?_))) <;> ((try simp only [cs] at hc); (first | ((exfalso; omega); done) | skip))))
    all_goals ((first | refine Run.ret tok Try.func18 rfl ?_ | refine Run.fall tok Try.func18 rfl ?_); exact .rowNil)
  · rw [if_neg h0]
    obtain ⟨m, rfl⟩ : ∃ m : Nat, n = m := ⟨n.toNat, by omega⟩
    unfold marksIn
    rw [Int.toNat_natCast]
    generalize hF : bad.foldl (markOne m) (List.replicate m false) = F
    refine Pure.of_spec (Spec.of_run (fn := Try.f18) Try.func18 rfl rfl (by kernel_rfl) ?_) (by first | assumption | rfl | (split <;> rfl) | (split <;> split <;> rfl))
    repeat' (first | refine Rg.any rfl rfl rfl (fun _ hq => G_make tok (n := m) rfl rfl rfl rfl rfl rfl rfl rfl rfl (by omega) (by omega) (by dsimp only; omega) (by omega) (by omega) hq) (by first | exact trivial | exact rfl | exact .inl rfl | exact .inr rfl | focus ((repeat (first | exact trivial | (refine ⟨Stay.op false tok rfl rfl rfl ?_ (fun t ht => by cases ht; rfl), ?_⟩; (first | exact ⟨⟩ | omega | focus (simp <;> omega) | decide +kernel)) | (refine ⟨Stay.op true tok rfl rfl rfl ?_ (fun t ht => by cases ht; rfl), ?_⟩; (first | exact ⟨⟩ | omega | focus (simp <;> omega) | decide +kernel)) | refine ⟨Stay.skip rfl rfl (fun t ht => by cases ht; rfl), ?_⟩)); done)) ?_ | refine Run.ctl rfl ?_ | (refine Rg.op false tok rfl rfl rfl rfl ?_ ?_ ?_; (first | exact ⟨⟩ | omega | focus (simp <;> omega) | decide +kernel); (first | exact trivial | exact rfl | exact .inl rfl | exact .inr rfl)) | (refine Rg.op true tok rfl rfl rfl rfl ?_ ?_ ?_; (first | exact ⟨⟩ | omega | focus (simp <;> omega) | decide +kernel); (first | exact trivial | exact rfl | exact .inl rfl | exact .inr rfl)) | refine Rg.nil ?_ | refine Rg.skip rfl rfl rfl ?_ | refine Run.regR ?_ | refine Run.condT rfl ?_ | refine Run.condF rfl ?_ | ((first | refine Run.condB rfl (fun hc => ?_) (fun hc => ?_) | ((fail_if_success (refine Rg.lit true rfl ?_)); (fail_if_success (refine Rg.lit false rfl ?_)); refine Rg.guard rfl (fun hc => ?_) (fun hc => ?_))) <;> ((try simp only [cs] at hc); (first | ((exfalso; omega); done) | skip))))
    refine Run.renumL [0] [rowB (List.replicate m false)] [(0, i64 m), (5, .slc 0 0 m), (16, sl 1 eInt bad), (17, i64 bad.length), (18, i64 (0 : Nat))] rfl rfl rfl rfl ⟨⟨_, rfl, rfl, rfl, by simp, rfl, fun k hk => .ofEq (by dsimp only at hk ⊢; unfold rows; simp [hk]; rfl) rfl⟩, trivial⟩ ⟨.cl rfl, .slcN rfl rfl rfl, .cl rfl, .cl rfl, .cl rfl, trivial⟩ ?_
    refine Run.loopN (ι := Nat × List Bool) (fun j => ([(0, i64 m), (5, .slc 0 0 m), (16, sl 1 eInt bad), (17, i64 bad.length), (18, i64 j.1)], [rowB j.2])) (fun j => j.1 ≤ bad.length ∧ (bad.drop j.1).foldl (markOne m) j.2 = F ∧ j.2.length = m) (fun j => bad.length - j.1) (0, List.replicate m false) ⟨rfl, rfl, rfl, rfl, rfl, trivial⟩ rfl ⟨by omega, hF, by simp⟩ ?_
    rintro ⟨i, mk⟩ ⟨hi, hf, hml⟩ back backR
    dsimp only at hi hf hml ⊢
    by_cases hlt : i < bad.length
    · rw [foldl_at _ hlt] at hf
      by_cases hin : 0 ≤ bad.getD i default ∧ bad.getD i default < m
      · obtain ⟨k, hk⟩ : ∃ k : Nat, bad.getD i default = k := ⟨(bad.getD i default).toNat, by omega⟩
        have hf1 : markOne m mk (bad.getD i default) = mk.set k true := by unfold markOne; rw [if_pos hin, hk, Int.toNat_natCast]
        rw [hf1] at hf
        repeat' (first | refine Rg.any rfl rfl rfl (fun _ hq => G_ixOK tok k rfl rfl rfl rfl rfl rfl hk (by omega) hq) (by first | exact trivial | exact rfl | exact .inl rfl | exact .inr rfl | focus ((repeat (first | exact trivial | (refine ⟨Stay.op false tok rfl rfl rfl ?_ (fun t ht => by cases ht; rfl), ?_⟩; (first | exact ⟨⟩ | omega | focus (simp <;> omega) | decide +kernel)) | (refine ⟨Stay.op true tok rfl rfl rfl ?_ (fun t ht => by cases ht; rfl), ?_⟩; (first | exact ⟨⟩ | omega | focus (simp <;> omega) | decide +kernel)) | refine ⟨Stay.skip rfl rfl (fun t ht => by cases ht; rfl), ?_⟩)); done)) ?_ | refine Run.ctl rfl ?_ | (refine Rg.op false tok rfl rfl rfl rfl ?_ ?_ ?_; (first | exact ⟨⟩ | omega | focus (simp <;> omega) | decide +kernel); (first | exact trivial | exact rfl | exact .inl rfl | exact .inr rfl)) | (refine Rg.op true tok rfl rfl rfl rfl ?_ ?_ ?_; (first | exact ⟨⟩ | omega | focus (simp <;> omega) | decide +kernel); (first | exact trivial | exact rfl | exact .inl rfl | exact .inr rfl)) | refine Rg.nil ?_ | refine Rg.skip rfl rfl rfl ?_ | refine Run.regR ?_ | refine Run.condT rfl ?_ | refine Run.condF rfl ?_ | ((first | refine Run.condB rfl (fun hc => ?_) (fun hc => ?_) | ((fail_if_success (refine Rg.lit true rfl ?_)); (fail_if_success (refine Rg.lit false rfl ?_)); refine Rg.guard rfl (fun hc => ?_) (fun hc => ?_))) <;> ((try simp only [cs] at hc); (first | ((exfalso; omega); done) | skip))))
        exact backR [0] (i + 1, mk.set k true) _ _ ⟨hlt, hf, by simp [hml]⟩ (by dsimp only; omega) rfl ⟨⟨_, rfl, rfl, rfl, by simp, rfl, fun j hj => .ofEq (by dsimp only; rw [rows_set eBool mk true (by omega) j]; rfl) rfl⟩, trivial⟩ ⟨.cl rfl, .slcN rfl rfl rfl, .cl rfl, .cl rfl, .cl rfl, trivial⟩
      · have hf1 : markOne m mk (bad.getD i default) = mk := by unfold markOne; rw [if_neg hin]
        rw [hf1] at hf
        repeat' (first | refine Run.ctl rfl ?_ | (refine Rg.op false tok rfl rfl rfl rfl ?_ ?_ ?_; (first | exact ⟨⟩ | omega | focus (simp <;> omega) | decide +kernel); (first | exact trivial | exact rfl | exact .inl rfl | exact .inr rfl)) | (refine Rg.op true tok rfl rfl rfl rfl ?_ ?_ ?_; (first | exact ⟨⟩ | omega | focus (simp <;> omega) | decide +kernel); (first | exact trivial | exact rfl | exact .inl rfl | exact .inr rfl)) | refine Rg.nil ?_ | refine Rg.skip rfl rfl rfl ?_ | refine Run.regR ?_ | refine Run.condT rfl ?_ | refine Run.condF rfl ?_ | ((first | refine Run.condB rfl (fun hc => ?_) (fun hc => ?_) | ((fail_if_success (refine Rg.lit true rfl ?_)); (fail_if_success (refine Rg.lit false rfl ?_)); refine Rg.guard rfl (fun hc => ?_) (fun hc => ?_))) <;> ((try simp only [cs] at hc); (first | ((exfalso; omega); done) | skip))))
        all_goals exact back (i + 1, mk) _ _ ⟨hlt, hf, hml⟩ (by dsimp only; omega) ⟨rfl, rfl, rfl, rfl, rfl, trivial⟩ rfl
    · obtain rfl : i = bad.length := by omega
      rw [List.drop_length, List.foldl_nil] at hf
      subst hf
      repeat' (first | refine Run.ctl rfl ?_ | (refine Rg.op false tok rfl rfl rfl rfl ?_ ?_ ?_; (first | exact ⟨⟩ | omega | focus (simp <;> omega) | decide +kernel); (first | exact trivial | exact rfl | exact .inl rfl | exact .inr rfl)) | (refine Rg.op true tok rfl rfl rfl rfl ?_ ?_ ?_; (first | exact ⟨⟩ | omega | focus (simp <;> omega) | decide +kernel); (first | exact trivial | exact rfl | exact .inl rfl | exact .inr rfl)) | refine Rg.nil ?_ | refine Rg.skip rfl rfl rfl ?_ | refine Run.regR ?_ | refine Run.condT rfl ?_ | refine Run.condF rfl ?_ | ((first | refine Run.condB rfl (fun hc => ?_) (fun hc => ?_) | ((fail_if_success (refine Rg.lit true rfl ?_)); (fail_if_success (refine Rg.lit false rfl ?_)); refine Rg.guard rfl (fun hc => ?_) (fun hc => ?_))) <;> ((try simp only [cs] at hc); (first | ((exfalso; omega); done) | skip))))
      (first | refine Run.ret tok Try.func18 rfl ?_ | refine Run.fall tok Try.func18 rfl ?_)
      exact .row rfl rfl rfl (by dsimp only; omega) hml.symm (fun _ => rfl) (fun j hj => by rw [Nat.zero_add])
theorem list_eq_iff {α : Type} [Inhabited α] [DecidableEq α] {a b : List α} (hl : a.length = b.length) : a = b ↔ ∀ q, q < a.length → a.getD q default = b.getD q default := by
  constructor
  · rintro rfl q _; rfl
  · intro h
    apply List.ext_getElem hl
    intro i h1 h2
    have := h i h1
    simpa [h1, h2] using this
theorem ints_ (a b : List Int) (ha : a.length ≤ 100000) (hb : b.length ≤ 100000) : Pure Try.prog 13 [sl 1 eInt a, sl 1 eInt b] (bl (decide (a = b))) := by
  by_cases hl : a.length = b.length
  · refine Pure.of_spec (Spec.of_run (fn := Try.f13) Try.func13 rfl rfl (by kernel_rfl) ?_) (by first | assumption | rfl | (split <;> rfl) | (split <;> split <;> rfl))
    repeat' (first | refine Run.ctl rfl ?_ | (refine Rg.op false tok rfl rfl rfl rfl ?_ ?_ ?_; (first | exact ⟨⟩ | omega | focus (simp <;> omega) | decide +kernel); (first | exact trivial | exact rfl | exact .inl rfl | exact .inr rfl | focus ((repeat (first | exact trivial | (refine ⟨Stay.op false tok rfl rfl rfl ?_ (fun t ht => by cases ht; rfl), ?_⟩; (first | exact ⟨⟩ | omega | focus (simp <;> omega) | decide +kernel)) | (refine ⟨Stay.op true tok rfl rfl rfl ?_ (fun t ht => by cases ht; rfl), ?_⟩; (first | exact ⟨⟩ | omega | focus (simp <;> omega) | decide +kernel)) | refine ⟨Stay.skip rfl rfl (fun t ht => by cases ht; rfl), ?_⟩)); done))) | (refine Rg.op true tok rfl rfl rfl rfl ?_ ?_ ?_; (first | exact ⟨⟩ | omega | focus (simp <;> omega) | decide +kernel); (first | exact trivial | exact rfl | exact .inl rfl | exact .inr rfl | focus ((repeat (first | exact trivial | (refine ⟨Stay.op false tok rfl rfl rfl ?_ (fun t ht => by cases ht; rfl), ?_⟩; (first | exact ⟨⟩ | omega | focus (simp <;> omega) | decide +kernel)) | (refine ⟨Stay.op true tok rfl rfl rfl ?_ (fun t ht => by cases ht; rfl), ?_⟩; (first | exact ⟨⟩ | omega | focus (simp <;> omega) | decide +kernel)) | refine ⟨Stay.skip rfl rfl (fun t ht => by cases ht; rfl), ?_⟩)); done))) | refine Rg.nil ?_ | refine Rg.skip rfl rfl rfl ?_ | refine Run.regR ?_ | refine Run.drwR mixed (by kernel_rfl) rfl ?_ | refine Run.condT rfl ?_ | refine Run.condF rfl ?_ | ((first | refine Run.condB rfl (fun hc => ?_) (fun hc => ?_) | ((fail_if_success (refine Rg.lit true rfl ?_)); (fail_if_success (refine Rg.lit false rfl ?_)); refine Rg.guard rfl (fun hc => ?_) (fun hc => ?_))) <;> ((try simp only [cs] at hc); (first | ((exfalso; omega); done) | skip))))
    refine Run.loopN (ι := Nat) (fun i => ([(0, sl 1 eInt a), (1, sl 1 eInt b), (5, i64 i)], [])) (fun i => i ≤ a.length ∧ ∀ q, q < i → a.getD q default = b.getD q default) (fun i => a.length - i) 0 ⟨rfl, rfl, rfl, trivial⟩ rfl ⟨by omega, fun q hq => by omega⟩ ?_
    rintro i ⟨hi, hf⟩ back backR
    by_cases hlt : i < a.length
    · by_cases he : a.getD i default = b.getD i default
      · repeat' (first | refine Run.ctl rfl ?_ | (refine Rg.op false tok rfl rfl rfl rfl ?_ ?_ ?_; (first | exact ⟨⟩ | omega | focus (simp <;> omega) | decide +kernel); (first | exact trivial | exact rfl | exact .inl rfl | exact .inr rfl | focus ((repeat (first | exact trivial | (refine ⟨Stay.op false tok rfl rfl rfl ?_ (fun t ht => by cases ht; rfl), ?_⟩; (first | exact ⟨⟩ | omega | focus (simp <;> omega) | decide +kernel)) | (refine ⟨Stay.op true tok rfl rfl rfl ?_ (fun t ht => by cases ht; rfl), ?_⟩; (first | exact ⟨⟩ | omega | focus (simp <;> omega) | decide +kernel)) | refine ⟨Stay.skip rfl rfl (fun t ht => by cases ht; rfl), ?_⟩)); done))) | (refine Rg.op true tok rfl rfl rfl rfl ?_ ?_ ?_; (first | exact ⟨⟩ | omega | focus (simp <;> omega) | decide +kernel); (first | exact trivial | exact rfl | exact .inl rfl | exact .inr rfl | focus ((repeat (first | exact trivial | (refine ⟨Stay.op false tok rfl rfl rfl ?_ (fun t ht => by cases ht; rfl), ?_⟩; (first | exact ⟨⟩ | omega | focus (simp <;> omega) | decide +kernel)) | (refine ⟨Stay.op true tok rfl rfl rfl ?_ (fun t ht => by cases ht; rfl), ?_⟩; (first | exact ⟨⟩ | omega | focus (simp <;> omega) | decide +kernel)) | refine ⟨Stay.skip rfl rfl (fun t ht => by cases ht; rfl), ?_⟩)); done))) | refine Rg.nil ?_ | refine Rg.skip rfl rfl rfl ?_ | refine Run.regR ?_ | refine Run.drwR mixed (by kernel_rfl) rfl ?_ | refine Run.condT rfl ?_ | refine Run.condF rfl ?_ | ((first | refine Run.condB rfl (fun hc => ?_) (fun hc => ?_) | ((fail_if_success (refine Rg.lit true rfl ?_)); (fail_if_success (refine Rg.lit false rfl ?_)); refine Rg.guard rfl (fun hc => ?_) (fun hc => ?_))) <;> ((try simp only [cs] at hc); (first | ((exfalso; omega); done) | ((exact absurd he hc); done) | skip))))
        exact back (i + 1) _ _ ⟨hlt, fun q hq => by
          by_cases h : q < i
          · exact hf q h
          · obtain rfl : q = i := by omega
            exact he⟩ (by omega) ⟨rfl, rfl, rfl, trivial⟩ rfl
      · rw [decide_eq_false (fun e => he (by rw [e]))]
        repeat' (first | refine Run.ctl rfl ?_ | (refine Rg.op false tok rfl rfl rfl rfl ?_ ?_ ?_; (first | exact ⟨⟩ | omega | focus (simp <;> omega) | decide +kernel); (first | exact trivial | exact rfl | exact .inl rfl | exact .inr rfl | focus ((repeat (first | exact trivial | (refine ⟨Stay.op false tok rfl rfl rfl ?_ (fun t ht => by cases ht; rfl), ?_⟩; (first | exact ⟨⟩ | omega | focus (simp <;> omega) | decide +kernel)) | (refine ⟨Stay.op true tok rfl rfl rfl ?_ (fun t ht => by cases ht; rfl), ?_⟩; (first | exact ⟨⟩ | omega | focus (simp <;> omega) | decide +kernel)) | refine ⟨Stay.skip rfl rfl (fun t ht => by cases ht; rfl), ?_⟩)); done))) | (refine Rg.op true tok rfl rfl rfl rfl ?_ ?_ ?_; (first | exact ⟨⟩ | omega | focus (simp <;> omega) | decide +kernel); (first | exact trivial | exact rfl | exact .inl rfl | exact .inr rfl | focus ((repeat (first | exact trivial | (refine ⟨Stay.op false tok rfl rfl rfl ?_ (fun t ht => by cases ht; rfl), ?_⟩; (first | exact ⟨⟩ | omega | focus (simp <;> omega) | decide +kernel)) | (refine ⟨Stay.op true tok rfl rfl rfl ?_ (fun t ht => by cases ht; rfl), ?_⟩; (first | exact ⟨⟩ | omega | focus (simp <;> omega) | decide +kernel)) | refine ⟨Stay.skip rfl rfl (fun t ht => by cases ht; rfl), ?_⟩)); done))) | refine Rg.nil ?_ | refine Rg.skip rfl rfl rfl ?_ | refine Run.regR ?_ | refine Run.drwR mixed (by kernel_rfl) rfl ?_ | refine Run.condT rfl ?_ | refine Run.condF rfl ?_ | ((first | refine Run.condB rfl (fun hc => ?_) (fun hc => ?_) | ((fail_if_success (refine Rg.lit true rfl ?_)); (fail_if_success (refine Rg.lit false rfl ?_)); refine Rg.guard rfl (fun hc => ?_) (fun hc => ?_))) <;> ((try simp only [cs] at hc); (first | ((exfalso; omega); done) | ((exact absurd hc he); done) | skip))))
        (first | refine Run.ret tok Try.func13 rfl ?_ | refine Run.fall tok Try.func13 rfl ?_)
        exact .refl _
    · obtain rfl : i = a.length := by omega
      rw [decide_eq_true ((list_eq_iff hl).2 hf)]
      repeat' (first | refine Run.ctl rfl ?_ | (refine Rg.op false tok rfl rfl rfl rfl ?_ ?_ ?_; (first | exact ⟨⟩ | omega | focus (simp <;> omega) | decide +kernel); (first | exact trivial | exact rfl | exact .inl rfl | exact .inr rfl | focus ((repeat (first | exact trivial | (refine ⟨Stay.op false tok rfl rfl rfl ?_ (fun t ht => by cases ht; rfl), ?_⟩; (first | exact ⟨⟩ | omega | focus (simp <;> omega) | decide +kernel)) | (refine ⟨Stay.op true tok rfl rfl rfl ?_ (fun t ht => by cases ht; rfl), ?_⟩; (first | exact ⟨⟩ | omega | focus (simp <;> omega) | decide +kernel)) | refine ⟨Stay.skip rfl rfl (fun t ht => by cases ht; rfl), ?_⟩)); done))) | (refine Rg.op true tok rfl rfl rfl rfl ?_ ?_ ?_; (first | exact ⟨⟩ | omega | focus (simp <;> omega) | decide +kernel); (first | exact trivial | exact rfl | exact .inl rfl | exact .inr rfl | focus ((repeat (first | exact trivial | (refine ⟨Stay.op false tok rfl rfl rfl ?_ (fun t ht => by cases ht; rfl), ?_⟩; (first | exact ⟨⟩ | omega | focus (simp <;> omega) | decide +kernel)) | (refine ⟨Stay.op true tok rfl rfl rfl ?_ (fun t ht => by cases ht; rfl), ?_⟩; (first | exact ⟨⟩ | omega | focus (simp <;> omega) | decide +kernel)) | refine ⟨Stay.skip rfl rfl (fun t ht => by cases ht; rfl), ?_⟩)); done))) | refine Rg.nil ?_ | refine Rg.skip rfl rfl rfl ?_ | refine Run.regR ?_ | refine Run.drwR mixed (by kernel_rfl) rfl ?_ | refine Run.condT rfl ?_ | refine Run.condF rfl ?_ | ((first | refine Run.condB rfl (fun hc => ?_) (fun hc => ?_) | ((fail_if_success (refine Rg.lit true rfl ?_)); (fail_if_success (refine Rg.lit false rfl ?_)); refine Rg.guard rfl (fun hc => ?_) (fun hc => ?_))) <;> ((try simp only [cs] at hc); (first | ((exfalso; omega); done) | skip))))
      (first | refine Run.ret tok Try.func13 rfl ?_ | refine Run.fall tok Try.func13 rfl ?_)
      exact .refl _
  · rw [decide_eq_false (fun e => hl (by rw [e]))]
    refine Pure.of_spec (Spec.of_run (fn := Try.f13) Try.func13 rfl rfl (by kernel_rfl) ?_) (by first | assumption | rfl | (split <;> rfl) | (split <;> split <;> rfl))
    repeat' (first | refine Run.ctl rfl ?_ | (refine Rg.op false tok rfl rfl rfl rfl ?_ ?_ ?_; (first | exact ⟨⟩ | omega | focus (simp <;> omega) | decide +kernel); (first | exact trivial | exact rfl | exact .inl rfl | exact .inr rfl | focus ((repeat (first | exact trivial | (refine ⟨Stay.op false tok rfl rfl rfl ?_ (fun t ht => by cases ht; rfl), ?_⟩; (first | exact ⟨⟩ | omega | focus (simp <;> omega) | decide +kernel)) | (refine ⟨Stay.op true tok rfl rfl rfl ?_ (fun t ht => by cases ht; rfl), ?_⟩; (first | exact ⟨⟩ | omega | focus (simp <;> omega) | decide +kernel)) | refine ⟨Stay.skip rfl rfl (fun t ht => by cases ht; rfl), ?_⟩)); done))) | (refine Rg.op true tok rfl rfl rfl rfl ?_ ?_ ?_; (first | exact ⟨⟩ | omega | focus (simp <;> omega) | decide +kernel); (first | exact trivial | exact rfl | exact .inl rfl | exact .inr rfl | focus ((repeat (first | exact trivial | (refine ⟨Stay.op false tok rfl rfl rfl ?_ (fun t ht => by cases ht; rfl), ?_⟩; (first | exact ⟨⟩ | omega | focus (simp <;> omega) | decide +kernel)) | (refine ⟨Stay.op true tok rfl rfl rfl ?_ (fun t ht => by cases ht; rfl), ?_⟩; (first | exact ⟨⟩ | omega | focus (simp <;> omega) | decide +kernel)) | refine ⟨Stay.skip rfl rfl (fun t ht => by cases ht; rfl), ?_⟩)); done))) | refine Rg.nil ?_ | refine Rg.skip rfl rfl rfl ?_ | refine Run.regR ?_ | refine Run.drwR mixed (by kernel_rfl) rfl ?_ | refine Run.condT rfl ?_ | refine Run.condF rfl ?_ | ((first | refine Run.condB rfl (fun hc => ?_) (fun hc => ?_) | ((fail_if_success (refine Rg.lit true rfl ?_)); (fail_if_success (refine Rg.lit false rfl ?_)); refine Rg.guard rfl (fun hc => ?_) (fun hc => ?_))) <;> ((try simp only [cs] at hc); (first | ((exfalso; omega); done) | skip))))
    (first | refine Run.ret tok Try.func13 rfl ?_ | refine Run.fall tok Try.func13 rfl ?_)
    exact .refl _
end Go.Proofs.Ytlimecfjpfaljaa.W
end
section
/- Walks: what the document fixes of watches (chapter 14). -/
set_option linter.unusedVariables false
set_option linter.unusedSimpArgs false
set_option linter.unusedSectionVars false
set_option pp.maxSteps 40000
set_option maxHeartbeats 8000000
namespace Go.Proofs.Ytlimecfjpfaljaa.W
open Go Go.Sy

theorem yes_ (a b : List Bool) (ha : a.length ≤ 100000) (hb : b.length ≤ 100000) : Pure Try.prog 19 [sl 1 eBool a, sl 1 eBool b] (bl (decide (a = b))) := by
  by_cases hl : a.length = b.length
  · refine Pure.of_spec (Spec.of_run (fn := Try.f19) Try.func19 rfl rfl (by kernel_rfl) ?_) (by first | assumption | rfl | (split <;> rfl) | (split <;> split <;> rfl))
    repeat' (first | refine Run.ctl rfl ?_ | (refine Rg.op false tok rfl rfl rfl rfl ?_ ?_ ?_; (first | exact ⟨⟩ | omega | focus (simp <;> omega) | decide +kernel); (first | exact trivial | exact rfl | exact .inl rfl | exact .inr rfl | focus ((repeat (first | exact trivial | (refine ⟨Stay.op false tok rfl rfl rfl ?_ (fun t ht => by cases ht; rfl), ?_⟩; (first | exact ⟨⟩ | omega | focus (simp <;> omega) | decide +kernel)) | (refine ⟨Stay.op true tok rfl rfl rfl ?_ (fun t ht => by cases ht; rfl), ?_⟩; (first | exact ⟨⟩ | omega | focus (simp <;> omega) | decide +kernel)) | refine ⟨Stay.skip rfl rfl (fun t ht => by cases ht; rfl), ?_⟩)); done))) | (refine Rg.op true tok rfl rfl rfl rfl ?_ ?_ ?_; (first | exact ⟨⟩ | omega | focus (simp <;> omega) | decide +kernel); (first | exact trivial | exact rfl | exact .inl rfl | exact .inr rfl | focus ((repeat (first | exact trivial | (refine ⟨Stay.op false tok rfl rfl rfl ?_ (fun t ht => by cases ht; rfl), ?_⟩; (first | exact ⟨⟩ | omega | focus (simp <;> omega) | decide +kernel)) | (refine ⟨Stay.op true tok rfl rfl rfl ?_ (fun t ht => by cases ht; rfl), ?_⟩; (first | exact ⟨⟩ | omega | focus (simp <;> omega) | decide +kernel)) | refine ⟨Stay.skip rfl rfl (fun t ht => by cases ht; rfl), ?_⟩)); done))) | refine Rg.nil ?_ | refine Rg.skip rfl rfl rfl ?_ | refine Run.regR ?_ | refine Run.drwR mixed (by kernel_rfl) rfl ?_ | refine Run.condT rfl ?_ | refine Run.condF rfl ?_ | ((first | refine Run.condB rfl (fun hc => ?_) (fun hc => ?_) | ((fail_if_success (refine Rg.lit true rfl ?_)); (fail_if_success (refine Rg.lit false rfl ?_)); refine Rg.guard rfl (fun hc => ?_) (fun hc => ?_))) <;> ((try simp only [cs] at hc); (first | ((exfalso; omega); done) | skip))))
    refine Run.loopN (ι := Nat) (fun i => ([(0, sl 1 eBool a), (1, sl 1 eBool b), (5, i64 i)], [])) (fun i => i ≤ a.length ∧ ∀ q, q < i → a.getD q default = b.getD q default) (fun i => a.length - i) 0 ⟨rfl, rfl, rfl, trivial⟩ rfl ⟨by omega, fun q hq => by omega⟩ ?_
    rintro i ⟨hi, hf⟩ back backR
    by_cases hlt : i < a.length
    · by_cases he : a.getD i default = b.getD i default
      · repeat' (first | refine Run.ctl rfl ?_ | (refine Rg.op false tok rfl rfl rfl rfl ?_ ?_ ?_; (first | exact ⟨⟩ | omega | focus (simp <;> omega) | decide +kernel); (first | exact trivial | exact rfl | exact .inl rfl | exact .inr rfl | focus ((repeat (first | exact trivial | (refine ⟨Stay.op false tok rfl rfl rfl ?_ (fun t ht => by cases ht; rfl), ?_⟩; (first | exact ⟨⟩ | omega | focus (simp <;> omega) | decide +kernel)) | (refine ⟨Stay.op true tok rfl rfl rfl ?_ (fun t ht => by cases ht; rfl), ?_⟩; (first | exact ⟨⟩ | omega | focus (simp <;> omega) | decide +kernel)) | refine ⟨Stay.skip rfl rfl (fun t ht => by cases ht; rfl), ?_⟩)); done))) | (refine Rg.op true tok rfl rfl rfl rfl ?_ ?_ ?_; (first | exact ⟨⟩ | omega | focus (simp <;> omega) | decide +kernel); (first | exact trivial | exact rfl | exact .inl rfl | exact .inr rfl | focus ((repeat (first | exact trivial | (refine ⟨Stay.op false tok rfl rfl rfl ?_ (fun t ht => by cases ht; rfl), ?_⟩; (first | exact ⟨⟩ | omega | focus (simp <;> omega) | decide +kernel)) | (refine ⟨Stay.op true tok rfl rfl rfl ?_ (fun t ht => by cases ht; rfl), ?_⟩; (first | exact ⟨⟩ | omega | focus (simp <;> omega) | decide +kernel)) | refine ⟨Stay.skip rfl rfl (fun t ht => by cases ht; rfl), ?_⟩)); done))) | refine Rg.nil ?_ | refine Rg.skip rfl rfl rfl ?_ | refine Run.regR ?_ | refine Run.drwR mixed (by kernel_rfl) rfl ?_ | refine Run.condT rfl ?_ | refine Run.condF rfl ?_ | ((first | refine Run.condB rfl (fun hc => ?_) (fun hc => ?_) | ((fail_if_success (refine Rg.lit true rfl ?_)); (fail_if_success (refine Rg.lit false rfl ?_)); refine Rg.guard rfl (fun hc => ?_) (fun hc => ?_))) <;> ((try simp only [cs] at hc); (first | ((exfalso; omega); done) | ((exact absurd he hc); done) | skip))))
        exact back (i + 1) _ _ ⟨hlt, fun q hq => by
          by_cases h : q < i
          · exact hf q h
          · obtain rfl : q = i := by omega
            exact he⟩ (by omega) ⟨rfl, rfl, rfl, trivial⟩ rfl
      · rw [decide_eq_false (fun e => he (by rw [e]))]
        repeat' (first | refine Run.ctl rfl ?_ | (refine Rg.op false tok rfl rfl rfl rfl ?_ ?_ ?_; (first | exact ⟨⟩ | omega | focus (simp <;> omega) | decide +kernel); (first | exact trivial | exact rfl | exact .inl rfl | exact .inr rfl | focus ((repeat (first | exact trivial | (refine ⟨Stay.op false tok rfl rfl rfl ?_ (fun t ht => by cases ht; rfl), ?_⟩; (first | exact ⟨⟩ | omega | focus (simp <;> omega) | decide +kernel)) | (refine ⟨Stay.op true tok rfl rfl rfl ?_ (fun t ht => by cases ht; rfl), ?_⟩; (first | exact ⟨⟩ | omega | focus (simp <;> omega) | decide +kernel)) | refine ⟨Stay.skip rfl rfl (fun t ht => by cases ht; rfl), ?_⟩)); done))) | (refine Rg.op true tok rfl rfl rfl rfl ?_ ?_ ?_; (first | exact ⟨⟩ | omega | focus (simp <;> omega) | decide +kernel); (first | exact trivial | exact rfl | exact .inl rfl | exact .inr rfl | focus ((repeat (first | exact trivial | (refine ⟨Stay.op false tok rfl rfl rfl ?_ (fun t ht => by cases ht; rfl), ?_⟩; (first | exact ⟨⟩ | omega | focus (simp <;> omega) | decide +kernel)) | (refine ⟨Stay.op true tok rfl rfl rfl ?_ (fun t ht => by cases ht; rfl), ?_⟩; (first | exact ⟨⟩ | omega | focus (simp <;> omega) | decide +kernel)) | refine ⟨Stay.skip rfl rfl (fun t ht => by cases ht; rfl), ?_⟩)); done))) | refine Rg.nil ?_ | refine Rg.skip rfl rfl rfl ?_ | refine Run.regR ?_ | refine Run.drwR mixed (by kernel_rfl) rfl ?_ | refine Run.condT rfl ?_ | refine Run.condF rfl ?_ | ((first | refine Run.condB rfl (fun hc => ?_) (fun hc => ?_) | ((fail_if_success (refine Rg.lit true rfl ?_)); (fail_if_success (refine Rg.lit false rfl ?_)); refine Rg.guard rfl (fun hc => ?_) (fun hc => ?_))) <;> ((try simp only [cs] at hc); (first | ((exfalso; omega); done) | ((exact absurd hc he); done) | skip))))
        (first | refine Run.ret tok Try.func19 rfl ?_ | refine Run.fall tok Try.func19 rfl ?_)
        exact .refl _
    · obtain rfl : i = a.length := by omega
      rw [decide_eq_true ((list_eq_iff hl).2 hf)]
      repeat' (first | refine Run.ctl rfl ?_ | (refine Rg.op false tok rfl rfl rfl rfl ?_ ?_ ?_; (first | exact ⟨⟩ | omega | focus (simp <;> omega) | decide +kernel); (first | exact trivial | exact rfl | exact .inl rfl | exact .inr rfl | focus ((repeat (first | exact trivial | (refine ⟨Stay.op false tok rfl rfl rfl ?_ (fun t ht => by cases ht; rfl), ?_⟩; (first | exact ⟨⟩ | omega | focus (simp <;> omega) | decide +kernel)) | (refine ⟨Stay.op true tok rfl rfl rfl ?_ (fun t ht => by cases ht; rfl), ?_⟩; (first | exact ⟨⟩ | omega | focus (simp <;> omega) | decide +kernel)) | refine ⟨Stay.skip rfl rfl (fun t ht => by cases ht; rfl), ?_⟩)); done))) | (refine Rg.op true tok rfl rfl rfl rfl ?_ ?_ ?_; (first | exact ⟨⟩ | omega | focus (simp <;> omega) | decide +kernel); (first | exact trivial | exact rfl | exact .inl rfl | exact .inr rfl | focus ((repeat (first | exact trivial | (refine ⟨Stay.op false tok rfl rfl rfl ?_ (fun t ht => by cases ht; rfl), ?_⟩; (first | exact ⟨⟩ | omega | focus (simp <;> omega) | decide +kernel)) | (refine ⟨Stay.op true tok rfl rfl rfl ?_ (fun t ht => by cases ht; rfl), ?_⟩; (first | exact ⟨⟩ | omega | focus (simp <;> omega) | decide +kernel)) | refine ⟨Stay.skip rfl rfl (fun t ht => by cases ht; rfl), ?_⟩)); done))) | refine Rg.nil ?_ | refine Rg.skip rfl rfl rfl ?_ | refine Run.regR ?_ | refine Run.drwR mixed (by kernel_rfl) rfl ?_ | refine Run.condT rfl ?_ | refine Run.condF rfl ?_ | ((first | refine Run.condB rfl (fun hc => ?_) (fun hc => ?_) | ((fail_if_success (refine Rg.lit true rfl ?_)); (fail_if_success (refine Rg.lit false rfl ?_)); refine Rg.guard rfl (fun hc => ?_) (fun hc => ?_))) <;> ((try simp only [cs] at hc); (first | ((exfalso; omega); done) | skip))))
      (first | refine Run.ret tok Try.func19 rfl ?_ | refine Run.fall tok Try.func19 rfl ?_)
      exact .refl _
  · rw [decide_eq_false (fun e => hl (by rw [e]))]
    refine Pure.of_spec (Spec.of_run (fn := Try.f19) Try.func19 rfl rfl (by kernel_rfl) ?_) (by first | assumption | rfl | (split <;> rfl) | (split <;> split <;> rfl))
    repeat' (first | refine Run.ctl rfl ?_ | (refine Rg.op false tok rfl rfl rfl rfl ?_ ?_ ?_; (first | exact ⟨⟩ | omega | focus (simp <;> omega) | decide +kernel); (first | exact trivial | exact rfl | exact .inl rfl | exact .inr rfl | focus ((repeat (first | exact trivial | (refine ⟨Stay.op false tok rfl rfl rfl ?_ (fun t ht => by cases ht; rfl), ?_⟩; (first | exact ⟨⟩ | omega | focus (simp <;> omega) | decide +kernel)) | (refine ⟨Stay.op true tok rfl rfl rfl ?_ (fun t ht => by cases ht; rfl), ?_⟩; (first | exact ⟨⟩ | omega | focus (simp <;> omega) | decide +kernel)) | refine ⟨Stay.skip rfl rfl (fun t ht => by cases ht; rfl), ?_⟩)); done))) | (refine Rg.op true tok rfl rfl rfl rfl ?_ ?_ ?_; (first | exact ⟨⟩ | omega | focus (simp <;> omega) | decide +kernel); (first | exact trivial | exact rfl | exact .inl rfl | exact .inr rfl | focus ((repeat (first | exact trivial | (refine ⟨Stay.op false tok rfl rfl rfl ?_ (fun t ht => by cases ht; rfl), ?_⟩; (first | exact ⟨⟩ | omega | focus (simp <;> omega) | decide +kernel)) | (refine ⟨Stay.op true tok rfl rfl rfl ?_ (fun t ht => by cases ht; rfl), ?_⟩; (first | exact ⟨⟩ | omega | focus (simp <;> omega) | decide +kernel)) | refine ⟨Stay.skip rfl rfl (fun t ht => by cases ht; rfl), ?_⟩)); done))) | refine Rg.nil ?_ | refine Rg.skip rfl rfl rfl ?_ | refine Run.regR ?_ | refine Run.drwR mixed (by kernel_rfl) rfl ?_ | refine Run.condT rfl ?_ | refine Run.condF rfl ?_ | ((first | refine Run.condB rfl (fun hc => ?_) (fun hc => ?_) | ((fail_if_success (refine Rg.lit true rfl ?_)); (fail_if_success (refine Rg.lit false rfl ?_)); refine Rg.guard rfl (fun hc => ?_) (fun hc => ?_))) <;> ((try simp only [cs] at hc); (first | ((exfalso; omega); done) | skip))))
    (first | refine Run.ret tok Try.func19 rfl ?_ | refine Run.fall tok Try.func19 rfl ?_)
    exact .refl _
def onePg (x fuel : Int) : Pg := ⟨[⟨0, []⟩], [⟨[x], 0, -1, false⟩], [], fuel⟩
theorem one14_ : Pure Try.prog 16 [] (pPg (onePg 3 5)) := by
  refine Pure.of_spec (Spec.of_run (fn := Try.f16) Try.func16 rfl rfl (by kernel_rfl) ?_) (by first | assumption | rfl | (split <;> rfl) | (split <;> split <;> rfl))
  repeat' (first | refine Run.ctl rfl ?_ | (refine Rg.op false tok rfl rfl rfl rfl ?_ ?_ ?_; (first | exact ⟨⟩ | omega | focus (simp <;> omega) | decide +kernel); (first | exact trivial | exact rfl | exact .inl rfl | exact .inr rfl)) | (refine Rg.op true tok rfl rfl rfl rfl ?_ ?_ ?_; (first | exact ⟨⟩ | omega | focus (simp <;> omega) | decide +kernel); (first | exact trivial | exact rfl | exact .inl rfl | exact .inr rfl)) | refine Rg.nil ?_ | refine Rg.skip rfl rfl rfl ?_ | refine Run.regR ?_ | refine Run.condT rfl ?_ | refine Run.condF rfl ?_ | ((first | refine Run.condB rfl (fun hc => ?_) (fun hc => ?_) | ((fail_if_success (refine Rg.lit true rfl ?_)); (fail_if_success (refine Rg.lit false rfl ?_)); refine Rg.guard rfl (fun hc => ?_) (fun hc => ?_))) <;> ((try simp only [cs] at hc))))
  (first | refine Run.ret tok Try.func16 rfl ?_ | refine Run.fall tok Try.func16 rfl ?_)
  (repeat (first | exact trivial | exact .refl _ | exact .rowNil | refine Cv.slcL rfl rfl rfl rfl rfl (fun _ => rfl) ?_ | refine Cv.fzL rfl (fun _ => rfl) ?_ | refine Cv.agg' ?_ | refine ⟨?_, ?_⟩))
def w3 : List (List Instr) := [[⟨1, 0⟩], [⟨1, 1⟩], [⟨31, 0⟩, ⟨1, 3⟩, ⟨15, 0⟩, ⟨19, 0⟩]]
def oneW (x : Int) : Wd := ⟨[⟨[x], false, 0, 0, 0⟩], [], bg0⟩
theorem one_flow (x : Int) : flowWhy (onePg x 5) = 0 := by kernel_rfl
theorem one_start (x : Int) : startOf (onePg x 5) = oneW x := rfl
theorem okW_of {l : List (List Instr)} (h : (l.all fun x => decide (x.length ≤ 100000) && x.all fun i => decide (-9223372036854775808 ≤ i.a ∧ i.a ≤ 9223372036854775807)) = true) : okW l := by
  intro x hx
  rw [List.all_eq_true] at h
  have := h x hx
  simp only [Bool.and_eq_true, decide_eq_true_eq, List.all_eq_true] at this
  exact ⟨this.1, fun i hi => this.2 i hi⟩
theorem awake14_ : Pure Try.prog 10 [] (bl true) := by
  have h1 := watchCheck_ (onePg 3 5) w3 (by decide) (okW_of (by decide +kernel))
  rw [show watchWhy (onePg 3 5) w3 = 0 by decide +kernel] at h1
  have h2 := watchCheck_ (onePg 3 5) (w3 ++ [[]]) (by decide) (okW_of (by decide +kernel))
  rw [show watchWhy (onePg 3 5) (w3 ++ [[]]) = 5 by decide +kernel] at h2
  have h3 := watchCheck_ (onePg 3 5) (List.replicate 9 []) (by decide) (okW_of (by decide +kernel))
  rw [show watchWhy (onePg 3 5) (List.replicate 9 []) = 3 by decide +kernel] at h3
  have h4 := bad_ (onePg 3 5) (oneW 3) w3 (by decide) (okW_of (by decide +kernel)) (by decide) (by decide)
  rw [show badIn (onePg 3 5) (oneW 3) w3 = [0, 2] by decide +kernel] at h4
  have h5 := ints_ [0, 2] [0, 2] (by decide) (by decide)
  rw [decide_eq_true rfl] at h5
  have h6 := marks_ 3 [0, 2, 5] (by decide)
  rw [show marksOf 3 [0, 2, 5] = [true, false, true] by decide] at h6
  have h7 := yes_ [true, false, true] [true, false, true] (by decide) (by decide)
  rw [decide_eq_true rfl] at h7
  have h8 := marks_ (-1) [] (by decide)
  rw [show marksOf (-1) [] = [] by decide] at h8
  have hs := start_ (onePg 3 5) (one_flow 3)
  rw [one_start] at hs
  refine Pure.of_spec (Spec.of_run (fn := Try.f10) Try.func10 rfl rfl (by kernel_rfl) ?_) (by first | assumption | rfl | (split <;> rfl) | (split <;> split <;> rfl))
  repeat' (first | refine Rg.any rfl rfl rfl (fun _ hq => G_buildF tok rfl rfl rfl rfl rfl rfl rfl rfl rfl hq) (by first | exact trivial | exact rfl | exact .inl rfl | exact .inr rfl | focus ((repeat (first | exact trivial | (refine ⟨Stay.op false tok rfl rfl rfl ?_ (fun t ht => by cases ht; rfl), ?_⟩; (first | exact ⟨⟩ | omega | focus (simp <;> omega) | decide +kernel)) | (refine ⟨Stay.op true tok rfl rfl rfl ?_ (fun t ht => by cases ht; rfl), ?_⟩; (first | exact ⟨⟩ | omega | focus (simp <;> omega) | decide +kernel)) | refine ⟨Stay.skip rfl rfl (fun t ht => by cases ht; rfl), ?_⟩)); done)) ?_ | refine Run.ctl rfl ?_ | (refine Rg.op false tok rfl rfl rfl rfl ?_ ?_ ?_; (first | exact ⟨⟩ | omega | focus (simp <;> omega) | decide +kernel); (first | exact trivial | exact rfl | exact .inl rfl | exact .inr rfl | focus ((repeat (first | exact trivial | (refine ⟨Stay.op false tok rfl rfl rfl ?_ (fun t ht => by cases ht; rfl), ?_⟩; (first | exact ⟨⟩ | omega | focus (simp <;> omega) | decide +kernel)) | (refine ⟨Stay.op true tok rfl rfl rfl ?_ (fun t ht => by cases ht; rfl), ?_⟩; (first | exact ⟨⟩ | omega | focus (simp <;> omega) | decide +kernel)) | refine ⟨Stay.skip rfl rfl (fun t ht => by cases ht; rfl), ?_⟩)); done))) | refine Rg.call (one14_) rfl rfl rfl rfl rfl ⟨trivial, rfl⟩ ?_ | refine Rg.call (hs) rfl rfl rfl rfl rfl ⟨⟨.refl _, trivial⟩, rfl⟩ ?_ | (refine Rg.op true tok rfl rfl rfl rfl ?_ ?_ ?_; (first | exact ⟨⟩ | omega | focus (simp <;> omega) | decide +kernel); (first | exact trivial | exact rfl | exact .inl rfl | exact .inr rfl | focus ((repeat (first | exact trivial | (refine ⟨Stay.op false tok rfl rfl rfl ?_ (fun t ht => by cases ht; rfl), ?_⟩; (first | exact ⟨⟩ | omega | focus (simp <;> omega) | decide +kernel)) | (refine ⟨Stay.op true tok rfl rfl rfl ?_ (fun t ht => by cases ht; rfl), ?_⟩; (first | exact ⟨⟩ | omega | focus (simp <;> omega) | decide +kernel)) | refine ⟨Stay.skip rfl rfl (fun t ht => by cases ht; rfl), ?_⟩)); done))) | refine Rg.nil ?_ | refine Rg.skip rfl rfl rfl ?_ | refine Run.regR ?_ | refine Run.condT rfl ?_ | refine Run.condF rfl ?_ | ((first | refine Run.condB rfl (fun hc => ?_) (fun hc => ?_) | ((fail_if_success (refine Rg.lit true rfl ?_)); (fail_if_success (refine Rg.lit false rfl ?_)); refine Rg.guard rfl (fun hc => ?_) (fun hc => ?_))) <;> ((try simp only [cs] at hc))))
  refine Run.freeze (i := 2) rfl rfl ?_
  refine Run.freeze (i := 3) rfl rfl ?_
  refine Run.freeze (i := 4) rfl rfl ?_
  refine Run.freeze (i := 5) rfl rfl ?_
  (refine Run.drwP [11, 12, 18] [0, 1, 2, 3, 4, 5, 6, 7, 8, 9, 10, 11, 12, 13, 14, 15, 16, 17, 18, 19, 20, 21, 22, 23, 24, 25, 26, 27, 28, 29, 30, 31, 32, 33, 34, 35, 36, 37, 38, 39, 40, 41] [none, none, none, none, none, none, none, none, none, none, none, some [10, 9], some [9], none, none, none, none, none, some [17], none, none, none, none, none, none, none, none, none, none, none, none, none, none, none, none, none, none, none, none, none, none, none] mixed (by kernel_rfl) rfl ?_)
  repeat' (first | refine Rg.any rfl rfl rfl (fun _ hq => G_appF tok rfl rfl rfl rfl rfl rfl rfl rfl rfl (by decide) (by decide) hq) (by first | exact trivial | exact rfl | exact .inl rfl | exact .inr rfl | focus ((repeat (first | exact trivial | (refine ⟨Stay.op false tok rfl rfl rfl ?_ (fun t ht => by cases ht; rfl), ?_⟩; (first | exact ⟨⟩ | omega | focus (simp <;> omega) | decide +kernel)) | (refine ⟨Stay.op true tok rfl rfl rfl ?_ (fun t ht => by cases ht; rfl), ?_⟩; (first | exact ⟨⟩ | omega | focus (simp <;> omega) | decide +kernel)) | refine ⟨Stay.skip rfl rfl (fun t ht => by cases ht; rfl), ?_⟩)); done)) ?_ | refine Rg.any rfl rfl rfl (fun _ hq => G_make tok (n := 9) rfl rfl rfl rfl rfl rfl rfl rfl rfl (by decide) (by decide) (by decide) (by decide) (by decide) hq) (by first | exact trivial | exact rfl | exact .inl rfl | exact .inr rfl | focus ((repeat (first | exact trivial | (refine ⟨Stay.op false tok rfl rfl rfl ?_ (fun t ht => by cases ht; rfl), ?_⟩; (first | exact ⟨⟩ | omega | focus (simp <;> omega) | decide +kernel)) | (refine ⟨Stay.op true tok rfl rfl rfl ?_ (fun t ht => by cases ht; rfl), ?_⟩; (first | exact ⟨⟩ | omega | focus (simp <;> omega) | decide +kernel)) | refine ⟨Stay.skip rfl rfl (fun t ht => by cases ht; rfl), ?_⟩)); done)) ?_ | refine Run.ctl rfl ?_ | (refine Rg.op false tok rfl rfl rfl rfl ?_ ?_ ?_; (first | exact ⟨⟩ | omega | focus (simp <;> omega) | decide +kernel); (first | exact trivial | exact rfl | exact .inl rfl | exact .inr rfl | focus ((repeat (first | exact trivial | (refine ⟨Stay.op false tok rfl rfl rfl ?_ (fun t ht => by cases ht; rfl), ?_⟩; (first | exact ⟨⟩ | omega | focus (simp <;> omega) | decide +kernel)) | (refine ⟨Stay.op true tok rfl rfl rfl ?_ (fun t ht => by cases ht; rfl), ?_⟩; (first | exact ⟨⟩ | omega | focus (simp <;> omega) | decide +kernel)) | refine ⟨Stay.skip rfl rfl (fun t ht => by cases ht; rfl), ?_⟩)); done))) | (refine Rg.call (h1) rfl rfl rfl rfl rfl ⟨⟨.refl _, ?_, trivial⟩, rfl⟩ ?_; focus ((repeat (first | exact trivial | exact .refl _ | exact .rowNil | refine Cv.slcL rfl rfl rfl rfl rfl (fun _ => rfl) ?_ | refine Cv.fzL rfl (fun _ => rfl) ?_ | refine Cv.agg' ?_ | refine ⟨?_, ?_⟩)); done)) | (refine Rg.lend (h2) rfl rfl rfl rfl rfl rfl ⟨⟨.refl _, ?_, trivial⟩, rfl⟩ ?_; focus ((repeat (first | exact trivial | exact .refl _ | exact .rowNil | refine Cv.slcL rfl rfl rfl rfl rfl (fun _ => rfl) ?_ | refine Cv.fzL rfl (fun _ => rfl) ?_ | refine Cv.agg' ?_ | refine ⟨?_, ?_⟩)); done)) | (refine Rg.lend (h3) rfl rfl rfl rfl rfl rfl ⟨⟨.refl _, ?_, trivial⟩, rfl⟩ ?_; focus ((repeat (first | exact trivial | exact .refl _ | exact .rowNil | refine Cv.slcL rfl rfl rfl rfl rfl (fun _ => rfl) ?_ | refine Cv.fzL rfl (fun _ => rfl) ?_ | refine Cv.agg' ?_ | refine ⟨?_, ?_⟩)); done)) | (refine Rg.call (h4) rfl rfl rfl rfl rfl ⟨⟨.refl _, .refl _, ?_, trivial⟩, rfl⟩ ?_; focus ((repeat (first | exact trivial | exact .refl _ | exact .rowNil | refine Cv.slcL rfl rfl rfl rfl rfl (fun _ => rfl) ?_ | refine Cv.fzL rfl (fun _ => rfl) ?_ | refine Cv.agg' ?_ | refine ⟨?_, ?_⟩)); done)) | (refine Rg.call (h5) rfl rfl rfl rfl rfl ⟨⟨.refl _, ?_, trivial⟩, rfl⟩ ?_; focus ((repeat (first | exact trivial | exact .refl _ | exact .rowNil | refine Cv.slcL rfl rfl rfl rfl rfl (fun _ => rfl) ?_ | refine Cv.fzL rfl (fun _ => rfl) ?_ | refine Cv.agg' ?_ | refine ⟨?_, ?_⟩)); done)) | (refine Rg.call (h6) rfl rfl rfl rfl rfl ⟨⟨.refl _, ?_, trivial⟩, rfl⟩ ?_; focus ((repeat (first | exact trivial | exact .refl _ | exact .rowNil | refine Cv.slcL rfl rfl rfl rfl rfl (fun _ => rfl) ?_ | refine Cv.fzL rfl (fun _ => rfl) ?_ | refine Cv.agg' ?_ | refine ⟨?_, ?_⟩)); done)) | (refine Rg.call (h7) rfl rfl rfl rfl rfl ⟨⟨.refl _, ?_, trivial⟩, rfl⟩ ?_; focus ((repeat (first | exact trivial | exact .refl _ | exact .rowNil | refine Cv.slcL rfl rfl rfl rfl rfl (fun _ => rfl) ?_ | refine Cv.fzL rfl (fun _ => rfl) ?_ | refine Cv.agg' ?_ | refine ⟨?_, ?_⟩)); done)) | (refine Rg.call (h8) rfl rfl rfl rfl rfl ⟨⟨.refl _, ?_, trivial⟩, rfl⟩ ?_; focus ((repeat (first | exact trivial | exact .refl _ | exact .rowNil | refine Cv.slcL rfl rfl rfl rfl rfl (fun _ => rfl) ?_ | refine Cv.fzL rfl (fun _ => rfl) ?_ | refine Cv.agg' ?_ | refine ⟨?_, ?_⟩)); done)) | (refine Rg.op true tok rfl rfl rfl rfl ?_ ?_ ?_; (first | exact ⟨⟩ | omega | focus (simp <;> omega) | decide +kernel); (first | exact trivial | exact rfl | exact .inl rfl | exact .inr rfl | focus ((repeat (first | exact trivial | (refine ⟨Stay.op false tok rfl rfl rfl ?_ (fun t ht => by cases ht; rfl), ?_⟩; (first | exact ⟨⟩ | omega | focus (simp <;> omega) | decide +kernel)) | (refine ⟨Stay.op true tok rfl rfl rfl ?_ (fun t ht => by cases ht; rfl), ?_⟩; (first | exact ⟨⟩ | omega | focus (simp <;> omega) | decide +kernel)) | refine ⟨Stay.skip rfl rfl (fun t ht => by cases ht; rfl), ?_⟩)); done))) | refine Rg.nil ?_ | refine Rg.skip rfl rfl rfl ?_ | refine Run.regR ?_ | refine Run.drwR mixed (by kernel_rfl) rfl ?_ | refine Run.condT rfl ?_ | refine Run.condF rfl ?_ | ((first | refine Run.condB rfl (fun hc => ?_) (fun hc => ?_) | ((fail_if_success (refine Rg.lit true rfl ?_)); (fail_if_success (refine Rg.lit false rfl ?_)); refine Rg.guard rfl (fun hc => ?_) (fun hc => ?_))) <;> ((try simp only [cs] at hc))))
  (first | refine Run.ret tok Try.func10 rfl ?_ | refine Run.fall tok Try.func10 rfl ?_)
  exact .ofBool rfl
end Go.Proofs.Ytlimecfjpfaljaa.W
end
section
/- Walks: the laws of watches (chapter 14). -/
set_option linter.unusedVariables false
set_option linter.unusedSimpArgs false
set_option linter.unusedSectionVars false
set_option pp.maxSteps 40000
set_option maxHeartbeats 8000000
namespace Go.Proofs.Ytlimecfjpfaljaa.W
open Go Go.Sy

end Go.Proofs.Ytlimecfjpfaljaa.W
end
section
/- Walks: the errors of watches (chapter 14). -/
set_option linter.unusedVariables false
set_option linter.unusedSimpArgs false
set_option linter.unusedSectionVars false
set_option pp.maxSteps 40000
set_option maxHeartbeats 8000000
namespace Go.Proofs.Ytlimecfjpfaljaa.W
open Go Go.Sy

end Go.Proofs.Ytlimecfjpfaljaa.W
end
section
/- Walks: each watch by itself (chapter 14). -/
set_option linter.unusedVariables false
set_option linter.unusedSimpArgs false
set_option linter.unusedSectionVars false
set_option pp.maxSteps 40000
set_option maxHeartbeats 8000000
namespace Go.Proofs.Ytlimecfjpfaljaa.W
open Go Go.Sy

theorem Rn.agg' {r : Nat → Nat} {N : Nat} {cs ds : List PV} (h : RnL r N cs ds) : Rn r N (.agg cs) (.agg ds) := .agg h.spec.1 h.spec.2
end Go.Proofs.Ytlimecfjpfaljaa.W
end
section
/- Walks: the document's own answers (chapters 1 to 3). -/
set_option linter.unusedVariables false
set_option linter.unusedSimpArgs false
set_option linter.unusedSectionVars false
set_option pp.maxSteps 40000
set_option maxHeartbeats 4000000
namespace Go.Proofs.Ytlimecfjpfaljaa.W
open Go Go.Sy

theorem refValid_ (op : Int) : Pure Try.prog 66 [i64 op] (bl (opValid op)) := by
  refine Pure.of_spec (Spec.of_run (fn := Try.f66) Try.func66 rfl rfl (by kernel_rfl) ?_) (by first | assumption | rfl | (split <;> rfl) | (split <;> split <;> rfl))
  repeat' (first | refine Run.ctl rfl ?_ | (refine Rg.op false tok rfl rfl rfl rfl ?_ ?_ ?_; (first | exact ⟨⟩ | omega | focus (simp <;> omega) | decide +kernel); (first | exact trivial | exact rfl | exact .inl rfl | exact .inr rfl)) | (refine Rg.op true tok rfl rfl rfl rfl ?_ ?_ ?_; (first | exact ⟨⟩ | omega | focus (simp <;> omega) | decide +kernel); (first | exact trivial | exact rfl | exact .inl rfl | exact .inr rfl)) | refine Rg.nil ?_ | refine Rg.skip rfl rfl rfl ?_ | refine Run.regR ?_ | refine Run.condT rfl ?_ | refine Run.condF rfl ?_ | ((first | refine Run.condB rfl (fun hc => ?_) (fun hc => ?_) | ((fail_if_success (refine Rg.lit true rfl ?_)); (fail_if_success (refine Rg.lit false rfl ?_)); refine Rg.guard rfl (fun hc => ?_) (fun hc => ?_))) <;> ((try simp only [cs] at hc))))
  all_goals ((first | refine Run.ret tok Try.func66 rfl ?_ | refine Run.fall tok Try.func66 rfl ?_); refine .ofBool ?_; simp only [opValid]; first | rfl | (simp; omega))
theorem refOperand_ (op : Int) : Pure Try.prog 76 [i64 op] (i64 (operand op)) := by
  refine Pure.of_spec (Spec.of_run (fn := Try.f76) Try.func76 rfl rfl (by kernel_rfl) ?_) (by first | assumption | rfl | (split <;> rfl) | (split <;> split <;> rfl))
  repeat' (first | refine Run.ctl rfl ?_ | (refine Rg.op false tok rfl rfl rfl rfl ?_ ?_ ?_; (first | exact ⟨⟩ | omega | focus (simp <;> omega) | decide +kernel); (first | exact trivial | exact rfl | exact .inl rfl | exact .inr rfl)) | (refine Rg.op true tok rfl rfl rfl rfl ?_ ?_ ?_; (first | exact ⟨⟩ | omega | focus (simp <;> omega) | decide +kernel); (first | exact trivial | exact rfl | exact .inl rfl | exact .inr rfl)) | refine Rg.nil ?_ | refine Rg.skip rfl rfl rfl ?_ | refine Run.regR ?_ | refine Run.condT rfl ?_ | refine Run.condF rfl ?_ | ((first | refine Run.condB rfl (fun hc => ?_) (fun hc => ?_) | ((fail_if_success (refine Rg.lit true rfl ?_)); (fail_if_success (refine Rg.lit false rfl ?_)); refine Rg.guard rfl (fun hc => ?_) (fun hc => ?_))) <;> ((try simp only [cs] at hc); (first | ((exfalso; omega); done) | skip))))
  all_goals ((first | refine Run.ret tok Try.func76 rfl ?_ | refine Run.fall tok Try.func76 rfl ?_); refine .ofInt ?_; unfold operand; repeat' split) <;> omega
theorem refPops_ (op : Int) : Pure Try.prog 39 [i64 op] (i64 (opPops op)) := by
  unfold opPops
  have hV := refValid_ op
  cases hv : opValid op with
  | false =>
    rw [hv] at hV
    rw [if_neg (by simp)]
    refine Pure.of_spec (Spec.of_run (fn := Try.f39) Try.func39 rfl rfl (by kernel_rfl) ?_) (by first | assumption | rfl | (split <;> rfl) | (split <;> split <;> rfl))
    repeat' (first | refine Run.ctl rfl ?_ | (refine Rg.op false tok rfl rfl rfl rfl ?_ ?_ ?_; (first | exact ⟨⟩ | omega | focus (simp <;> omega) | decide +kernel); (first | exact trivial | exact rfl | exact .inl rfl | exact .inr rfl)) | refine Rg.call (hV) rfl rfl rfl rfl rfl ⟨⟨.refl _, trivial⟩, rfl⟩ ?_ | (refine Rg.op true tok rfl rfl rfl rfl ?_ ?_ ?_; (first | exact ⟨⟩ | omega | focus (simp <;> omega) | decide +kernel); (first | exact trivial | exact rfl | exact .inl rfl | exact .inr rfl)) | refine Rg.nil ?_ | refine Rg.skip rfl rfl rfl ?_ | refine Run.regR ?_ | refine Run.condT rfl ?_ | refine Run.condF rfl ?_ | ((first | refine Run.condB rfl (fun hc => ?_) (fun hc => ?_) | ((fail_if_success (refine Rg.lit true rfl ?_)); (fail_if_success (refine Rg.lit false rfl ?_)); refine Rg.guard rfl (fun hc => ?_) (fun hc => ?_))) <;> ((try simp only [cs] at hc); (first | ((exact absurd rfl hc); done) | skip))))
    all_goals ((first | refine Run.ret tok Try.func39 rfl ?_ | refine Run.fall tok Try.func39 rfl ?_); exact .refl _)
  | true =>
    rw [hv] at hV
    rw [if_pos rfl]
    have hr : 1 ≤ op ∧ op ≤ 25 := by simpa [opValid] using hv
    obtain ⟨k, rfl⟩ : ∃ k : Nat, op = k := ⟨op.toNat, by omega⟩
    rw [Int.toNat_natCast]
    refine Pure.of_spec (Spec.of_run (fn := Try.f39) Try.func39 rfl rfl (by kernel_rfl) ?_) (by first | assumption | rfl | (split <;> rfl) | (split <;> split <;> rfl))
    repeat' (first | refine Run.ctl rfl ?_ | (refine Rg.op false tok rfl rfl rfl rfl ?_ ?_ ?_; (first | exact ⟨⟩ | omega | focus (simp <;> omega) | decide +kernel); (first | exact trivial | exact rfl | exact .inl rfl | exact .inr rfl)) | refine Rg.call (hV) rfl rfl rfl rfl rfl ⟨⟨.refl _, trivial⟩, rfl⟩ ?_ | (refine Rg.op true tok rfl rfl rfl rfl ?_ ?_ ?_; (first | exact ⟨⟩ | omega | focus (simp <;> omega) | decide +kernel); (first | exact trivial | exact rfl | exact .inl rfl | exact .inr rfl)) | refine Rg.nil ?_ | refine Rg.skip rfl rfl rfl ?_ | refine Run.regR ?_ | refine Run.condT rfl ?_ | refine Run.condF rfl ?_ | ((first | refine Run.condB rfl (fun hc => ?_) (fun hc => ?_) | ((fail_if_success (refine Rg.lit true rfl ?_)); (fail_if_success (refine Rg.lit false rfl ?_)); refine Rg.guard rfl (fun hc => ?_) (fun hc => ?_))) <;> ((try simp only [cs] at hc); (first | ((exact absurd rfl hc); done) | ((exfalso; omega); done) | skip))))
    rcases k with _ | _ | _ | _ | _ | _ | _ | _ | _ | _ | _ | _ | _ | _ | _ | _ | _ | _ | _ | _ | _ | _ | _ | _ | _ | _ | k
    all_goals (try (exfalso; simp at hr; done))
    all_goals (try (exfalso; omega))
    all_goals (
      repeat' (first | refine Run.ctl rfl ?_ | (refine Rg.op false tok rfl rfl rfl rfl ?_ ?_ ?_; (first | exact ⟨⟩ | omega | focus (simp <;> omega) | decide +kernel); (first | exact trivial | exact rfl | exact .inl rfl | exact .inr rfl)) | (refine Rg.op true tok rfl rfl rfl rfl ?_ ?_ ?_; (first | exact ⟨⟩ | omega | focus (simp <;> omega) | decide +kernel); (first | exact trivial | exact rfl | exact .inl rfl | exact .inr rfl)) | refine Rg.nil ?_ | refine Rg.skip rfl rfl rfl ?_ | refine Run.regR ?_ | refine Run.condT rfl ?_ | refine Run.condF rfl ?_ | ((first | refine Run.condB rfl (fun hc => ?_) (fun hc => ?_) | ((fail_if_success (refine Rg.lit true rfl ?_)); (fail_if_success (refine Rg.lit false rfl ?_)); refine Rg.guard rfl (fun hc => ?_) (fun hc => ?_))) <;> ((try simp only [cs] at hc))))
      (first | refine Run.ret tok Try.func39 rfl ?_ | refine Run.fall tok Try.func39 rfl ?_)
      exact .refl _)
theorem refPuts_ (op : Int) : Pure Try.prog 40 [i64 op] (i64 (opPuts op)) := by
  unfold opPuts
  have hV := refValid_ op
  cases hv : opValid op with
  | false =>
    rw [hv] at hV
    rw [if_neg (by simp)]
    refine Pure.of_spec (Spec.of_run (fn := Try.f40) Try.func40 rfl rfl (by kernel_rfl) ?_) (by first | assumption | rfl | (split <;> rfl) | (split <;> split <;> rfl))
    repeat' (first | refine Run.ctl rfl ?_ | (refine Rg.op false tok rfl rfl rfl rfl ?_ ?_ ?_; (first | exact ⟨⟩ | omega | focus (simp <;> omega) | decide +kernel); (first | exact trivial | exact rfl | exact .inl rfl | exact .inr rfl)) | refine Rg.call (hV) rfl rfl rfl rfl rfl ⟨⟨.refl _, trivial⟩, rfl⟩ ?_ | (refine Rg.op true tok rfl rfl rfl rfl ?_ ?_ ?_; (first | exact ⟨⟩ | omega | focus (simp <;> omega) | decide +kernel); (first | exact trivial | exact rfl | exact .inl rfl | exact .inr rfl)) | refine Rg.nil ?_ | refine Rg.skip rfl rfl rfl ?_ | refine Run.regR ?_ | refine Run.condT rfl ?_ | refine Run.condF rfl ?_ | ((first | refine Run.condB rfl (fun hc => ?_) (fun hc => ?_) | ((fail_if_success (refine Rg.lit true rfl ?_)); (fail_if_success (refine Rg.lit false rfl ?_)); refine Rg.guard rfl (fun hc => ?_) (fun hc => ?_))) <;> ((try simp only [cs] at hc); (first | ((exact absurd rfl hc); done) | skip))))
    all_goals ((first | refine Run.ret tok Try.func40 rfl ?_ | refine Run.fall tok Try.func40 rfl ?_); exact .refl _)
  | true =>
    rw [hv] at hV
    rw [if_pos rfl]
    have hr : 1 ≤ op ∧ op ≤ 25 := by simpa [opValid] using hv
    obtain ⟨k, rfl⟩ : ∃ k : Nat, op = k := ⟨op.toNat, by omega⟩
    rw [Int.toNat_natCast]
    refine Pure.of_spec (Spec.of_run (fn := Try.f40) Try.func40 rfl rfl (by kernel_rfl) ?_) (by first | assumption | rfl | (split <;> rfl) | (split <;> split <;> rfl))
    repeat' (first | refine Run.ctl rfl ?_ | (refine Rg.op false tok rfl rfl rfl rfl ?_ ?_ ?_; (first | exact ⟨⟩ | omega | focus (simp <;> omega) | decide +kernel); (first | exact trivial | exact rfl | exact .inl rfl | exact .inr rfl)) | refine Rg.call (hV) rfl rfl rfl rfl rfl ⟨⟨.refl _, trivial⟩, rfl⟩ ?_ | (refine Rg.op true tok rfl rfl rfl rfl ?_ ?_ ?_; (first | exact ⟨⟩ | omega | focus (simp <;> omega) | decide +kernel); (first | exact trivial | exact rfl | exact .inl rfl | exact .inr rfl)) | refine Rg.nil ?_ | refine Rg.skip rfl rfl rfl ?_ | refine Run.regR ?_ | refine Run.condT rfl ?_ | refine Run.condF rfl ?_ | ((first | refine Run.condB rfl (fun hc => ?_) (fun hc => ?_) | ((fail_if_success (refine Rg.lit true rfl ?_)); (fail_if_success (refine Rg.lit false rfl ?_)); refine Rg.guard rfl (fun hc => ?_) (fun hc => ?_))) <;> ((try simp only [cs] at hc); (first | ((exact absurd rfl hc); done) | ((exfalso; omega); done) | skip))))
    rcases k with _ | _ | _ | _ | _ | _ | _ | _ | _ | _ | _ | _ | _ | _ | _ | _ | _ | _ | _ | _ | _ | _ | _ | _ | _ | _ | k
    all_goals (try (exfalso; simp at hr; done))
    all_goals (try (exfalso; omega))
    all_goals (
      repeat' (first | refine Run.ctl rfl ?_ | (refine Rg.op false tok rfl rfl rfl rfl ?_ ?_ ?_; (first | exact ⟨⟩ | omega | focus (simp <;> omega) | decide +kernel); (first | exact trivial | exact rfl | exact .inl rfl | exact .inr rfl)) | (refine Rg.op true tok rfl rfl rfl rfl ?_ ?_ ?_; (first | exact ⟨⟩ | omega | focus (simp <;> omega) | decide +kernel); (first | exact trivial | exact rfl | exact .inl rfl | exact .inr rfl)) | refine Rg.nil ?_ | refine Rg.skip rfl rfl rfl ?_ | refine Run.regR ?_ | refine Run.condT rfl ?_ | refine Run.condF rfl ?_ | ((first | refine Run.condB rfl (fun hc => ?_) (fun hc => ?_) | ((fail_if_success (refine Rg.lit true rfl ?_)); (fail_if_success (refine Rg.lit false rfl ?_)); refine Rg.guard rfl (fun hc => ?_) (fun hc => ?_))) <;> ((try simp only [cs] at hc))))
      (first | refine Run.ret tok Try.func40 rfl ?_ | refine Run.fall tok Try.func40 rfl ?_)
      exact .refl _)
theorem refNote_ (p : Pg) (n : Nt) : Pure Try.prog 44 [pPg p, pNt n] (i64 (noteWhy p n)) := by
  obtain ⟨to_, hd, args⟩ := n
  by_cases h0 : 0 ≤ hd
  · obtain ⟨k, rfl⟩ : ∃ k : Nat, hd = k := ⟨hd.toNat, by omega⟩
    refine Pure.of_spec (Spec.of_run (fn := Try.f44) Try.func44 rfl rfl (by kernel_rfl) ?_) (by first | assumption | rfl | (split <;> rfl) | (split <;> split <;> rfl))
    repeat' (first | refine Run.ctl rfl ?_ | (refine Rg.op false tok rfl rfl rfl rfl ?_ ?_ ?_; (first | exact ⟨⟩ | omega | focus (simp <;> omega) | decide +kernel); (first | exact trivial | exact rfl | exact .inl rfl | exact .inr rfl | focus ((repeat (first | exact trivial | (refine ⟨Stay.op false tok rfl rfl rfl ?_ (fun t ht => by cases ht; rfl), ?_⟩; (first | exact ⟨⟩ | omega | focus (simp <;> omega) | decide +kernel)) | (refine ⟨Stay.op true tok rfl rfl rfl ?_ (fun t ht => by cases ht; rfl), ?_⟩; (first | exact ⟨⟩ | omega | focus (simp <;> omega) | decide +kernel)) | refine ⟨Stay.skip rfl rfl (fun t ht => by cases ht; rfl), ?_⟩)); done))) | (refine Rg.op true tok rfl rfl rfl rfl ?_ ?_ ?_; (first | exact ⟨⟩ | omega | focus (simp <;> omega) | decide +kernel); (first | exact trivial | exact rfl | exact .inl rfl | exact .inr rfl | focus ((repeat (first | exact trivial | (refine ⟨Stay.op false tok rfl rfl rfl ?_ (fun t ht => by cases ht; rfl), ?_⟩; (first | exact ⟨⟩ | omega | focus (simp <;> omega) | decide +kernel)) | (refine ⟨Stay.op true tok rfl rfl rfl ?_ (fun t ht => by cases ht; rfl), ?_⟩; (first | exact ⟨⟩ | omega | focus (simp <;> omega) | decide +kernel)) | refine ⟨Stay.skip rfl rfl (fun t ht => by cases ht; rfl), ?_⟩)); done))) | refine Rg.nil ?_ | refine Rg.skip rfl rfl rfl ?_ | refine Run.regR ?_ | refine Run.drwR mixed (by kernel_rfl) rfl ?_ | refine Run.condT rfl ?_ | refine Run.condF rfl ?_ | ((first | refine Run.condB rfl (fun hc => ?_) (fun hc => ?_) | ((fail_if_success (refine Rg.lit true rfl ?_)); (fail_if_success (refine Rg.lit false rfl ?_)); refine Rg.guard rfl (fun hc => ?_) (fun hc => ?_))) <;> ((try simp only [cs] at hc); (first | ((exfalso; omega); done) | skip))))
    all_goals ((first | refine Run.ret tok Try.func44 rfl ?_ | refine Run.fall tok Try.func44 rfl ?_); refine .ofInt ?_; simp only [noteWhy, Int.toNat_natCast]; repeat' split) <;> first | rfl | (exfalso; omega) | (exfalso; simp_all; done)
  · refine Pure.of_spec (Spec.of_run (fn := Try.f44) Try.func44 rfl rfl (by kernel_rfl) ?_) (by first | assumption | rfl | (split <;> rfl) | (split <;> split <;> rfl))
    repeat' (first | refine Run.ctl rfl ?_ | (refine Rg.op false tok rfl rfl rfl rfl ?_ ?_ ?_; (first | exact ⟨⟩ | omega | focus (simp <;> omega) | decide +kernel); (first | exact trivial | exact rfl | exact .inl rfl | exact .inr rfl | focus ((repeat (first | exact trivial | (refine ⟨Stay.op false tok rfl rfl rfl ?_ (fun t ht => by cases ht; rfl), ?_⟩; (first | exact ⟨⟩ | omega | focus (simp <;> omega) | decide +kernel)) | (refine ⟨Stay.op true tok rfl rfl rfl ?_ (fun t ht => by cases ht; rfl), ?_⟩; (first | exact ⟨⟩ | omega | focus (simp <;> omega) | decide +kernel)) | refine ⟨Stay.skip rfl rfl (fun t ht => by cases ht; rfl), ?_⟩)); done))) | (refine Rg.op true tok rfl rfl rfl rfl ?_ ?_ ?_; (first | exact ⟨⟩ | omega | focus (simp <;> omega) | decide +kernel); (first | exact trivial | exact rfl | exact .inl rfl | exact .inr rfl | focus ((repeat (first | exact trivial | (refine ⟨Stay.op false tok rfl rfl rfl ?_ (fun t ht => by cases ht; rfl), ?_⟩; (first | exact ⟨⟩ | omega | focus (simp <;> omega) | decide +kernel)) | (refine ⟨Stay.op true tok rfl rfl rfl ?_ (fun t ht => by cases ht; rfl), ?_⟩; (first | exact ⟨⟩ | omega | focus (simp <;> omega) | decide +kernel)) | refine ⟨Stay.skip rfl rfl (fun t ht => by cases ht; rfl), ?_⟩)); done))) | refine Rg.nil ?_ | refine Rg.skip rfl rfl rfl ?_ | refine Run.regR ?_ | refine Run.drwR mixed (by kernel_rfl) rfl ?_ | refine Run.condT rfl ?_ | refine Run.condF rfl ?_ | ((first | refine Run.condB rfl (fun hc => ?_) (fun hc => ?_) | ((fail_if_success (refine Rg.lit true rfl ?_)); (fail_if_success (refine Rg.lit false rfl ?_)); refine Rg.guard rfl (fun hc => ?_) (fun hc => ?_))) <;> ((try simp only [cs] at hc); (first | ((exfalso; omega); done) | skip))))
    all_goals ((first | refine Run.ret tok Try.func44 rfl ?_ | refine Run.fall tok Try.func44 rfl ?_); refine .ofInt ?_; simp only [noteWhy]; repeat' split) <;> first | rfl | (exfalso; omega) | (exfalso; simp_all; done)
/-- The document's answer about one instruction. -/
theorem refInstr_ (i : Instr) (n args hs : Int) (p : Pg) (h : Hd) (hn : n = h.code.length) (ha : args = h.args) (hh : hs = p.handlers.length) : Pure Try.prog 65 [pInstr i, i64 n, i64 args, i64 hs] (i64 (instrWhy p h i)) := by
  subst hn ha hh
  have hV := refValid_ i.op
  have hO := refOperand_ i.op
  unfold instrWhy
  cases hv : opValid i.op with
  | false =>
    rw [hv] at hV
    rw [if_pos (.inl rfl)]
    refine Pure.of_spec (Spec.of_run (fn := Try.f65) Try.func65 rfl rfl (by kernel_rfl) ?_) (by first | assumption | rfl | (split <;> rfl) | (split <;> split <;> rfl))
    repeat' (first | refine Run.ctl rfl ?_ | (refine Rg.op false tok rfl rfl rfl rfl ?_ ?_ ?_; (first | exact ⟨⟩ | omega | focus (simp <;> omega) | decide +kernel); (first | exact trivial | exact rfl | exact .inl rfl | exact .inr rfl)) | refine Rg.call (hO) rfl rfl rfl rfl rfl ⟨⟨.refl _, trivial⟩, rfl⟩ ?_ | refine Rg.call (hV) rfl rfl rfl rfl rfl ⟨⟨.refl _, trivial⟩, rfl⟩ ?_ | (refine Rg.op true tok rfl rfl rfl rfl ?_ ?_ ?_; (first | exact ⟨⟩ | omega | focus (simp <;> omega) | decide +kernel); (first | exact trivial | exact rfl | exact .inl rfl | exact .inr rfl)) | refine Rg.nil ?_ | refine Rg.skip rfl rfl rfl ?_ | refine Run.regR ?_ | refine Run.condT rfl ?_ | refine Run.condF rfl ?_ | ((first | refine Run.condB rfl (fun hc => ?_) (fun hc => ?_) | ((fail_if_success (refine Rg.lit true rfl ?_)); (fail_if_success (refine Rg.lit false rfl ?_)); refine Rg.guard rfl (fun hc => ?_) (fun hc => ?_))) <;> ((try simp only [cs] at hc); (first | ((exact absurd rfl hc); done) | ((exfalso; omega); done) | skip))))
    all_goals ((first | refine Run.ret tok Try.func65 rfl ?_ | refine Run.fall tok Try.func65 rfl ?_); exact .refl _)
  | true =>
    rw [hv] at hV
    simp only [Bool.true_eq_false, false_or]
    generalize operand i.op = k at hO
    refine Pure.of_spec (Spec.of_run (fn := Try.f65) Try.func65 rfl rfl (by kernel_rfl) ?_) (by first | assumption | rfl | (split <;> rfl) | (split <;> split <;> rfl))
    repeat' (first | refine Run.ctl rfl ?_ | (refine Rg.op false tok rfl rfl rfl rfl ?_ ?_ ?_; (first | exact ⟨⟩ | omega | focus (simp <;> omega) | decide +kernel); (first | exact trivial | exact rfl | exact .inl rfl | exact .inr rfl)) | refine Rg.call (hO) rfl rfl rfl rfl rfl ⟨⟨.refl _, trivial⟩, rfl⟩ ?_ | refine Rg.call (hV) rfl rfl rfl rfl rfl ⟨⟨.refl _, trivial⟩, rfl⟩ ?_ | (refine Rg.op true tok rfl rfl rfl rfl ?_ ?_ ?_; (first | exact ⟨⟩ | omega | focus (simp <;> omega) | decide +kernel); (first | exact trivial | exact rfl | exact .inl rfl | exact .inr rfl)) | refine Rg.nil ?_ | refine Rg.skip rfl rfl rfl ?_ | refine Run.regR ?_ | refine Run.condT rfl ?_ | refine Run.condF rfl ?_ | ((first | refine Run.condB rfl (fun hc => ?_) (fun hc => ?_) | ((fail_if_success (refine Rg.lit true rfl ?_)); (fail_if_success (refine Rg.lit false rfl ?_)); refine Rg.guard rfl (fun hc => ?_) (fun hc => ?_))) <;> ((try simp only [cs] at hc); (first | ((exact absurd rfl hc); done) | ((exfalso; omega); done) | skip))))
    all_goals ((first | refine Run.ret tok Try.func65 rfl ?_ | refine Run.fall tok Try.func65 rfl ?_); refine .ofInt ?_; repeat' split) <;> first | rfl | (exfalso; omega)
theorem refTruth_ (b : Bool) : Pure Try.prog 47 [bl b] (i64 (truth b)) := by
  cases b <;> (
  refine Pure.of_spec (Spec.of_run (fn := Try.f47) Try.func47 rfl rfl (by kernel_rfl) ?_) (by first | assumption | rfl | (split <;> rfl) | (split <;> split <;> rfl))
  repeat' (first | refine Run.ctl rfl ?_ | (refine Rg.op false tok rfl rfl rfl rfl ?_ ?_ ?_; (first | exact ⟨⟩ | omega | focus (simp <;> omega) | decide +kernel); (first | exact trivial | exact rfl | exact .inl rfl | exact .inr rfl)) | (refine Rg.op true tok rfl rfl rfl rfl ?_ ?_ ?_; (first | exact ⟨⟩ | omega | focus (simp <;> omega) | decide +kernel); (first | exact trivial | exact rfl | exact .inl rfl | exact .inr rfl)) | refine Rg.nil ?_ | refine Rg.skip rfl rfl rfl ?_ | refine Run.regR ?_ | refine Run.condT rfl ?_ | refine Run.condF rfl ?_ | ((first | refine Run.condB rfl (fun hc => ?_) (fun hc => ?_) | ((fail_if_success (refine Rg.lit true rfl ?_)); (fail_if_success (refine Rg.lit false rfl ?_)); refine Rg.guard rfl (fun hc => ?_) (fun hc => ?_))) <;> ((try simp only [cs] at hc); (first | ((exact absurd rfl hc); done) | ((cases hc); done) | skip))))
  all_goals ((first | refine Run.ret tok Try.func47 rfl ?_ | refine Run.fall tok Try.func47 rfl ?_); exact .refl _))
theorem refTo_ (l : List Msg) (who : Int) (hl : l.length ≤ 100000) : Pure Try.prog 46 [sl 6 eMsg l, i64 who] (i64 (toMail l who)) := by
  refine Pure.of_spec (Spec.of_run (fn := Try.f46) Try.func46 rfl rfl (by kernel_rfl) ?_) (by first | assumption | rfl | (split <;> rfl) | (split <;> split <;> rfl))
  repeat' (first | refine Run.ctl rfl ?_ | (refine Rg.op false tok rfl rfl rfl rfl ?_ ?_ ?_; (first | exact ⟨⟩ | omega | focus (simp <;> omega) | decide +kernel); (first | exact trivial | exact rfl | exact .inl rfl | exact .inr rfl)) | (refine Rg.op true tok rfl rfl rfl rfl ?_ ?_ ?_; (first | exact ⟨⟩ | omega | focus (simp <;> omega) | decide +kernel); (first | exact trivial | exact rfl | exact .inl rfl | exact .inr rfl)) | refine Rg.nil ?_ | refine Rg.skip rfl rfl rfl ?_ | refine Run.regR ?_ | refine Run.condT rfl ?_ | refine Run.condF rfl ?_ | ((first | refine Run.condB rfl (fun hc => ?_) (fun hc => ?_) | ((fail_if_success (refine Rg.lit true rfl ?_)); (fail_if_success (refine Rg.lit false rfl ?_)); refine Rg.guard rfl (fun hc => ?_) (fun hc => ?_))) <;> ((try simp only [cs] at hc); (first | ((exfalso; omega); done) | skip))))
  refine Run.loopN (ι := Nat) (fun i => ([(0, sl 6 eMsg l), (1, i64 who), (5, i64 (toMail (l.take i) who)), (6, i64 i)], [])) (fun i => i ≤ l.length) (fun i => l.length - i) 0 ⟨rfl, rfl, rfl, rfl, trivial⟩ rfl (by omega) ?_
  rintro i hi back backR
  have hle : toMail (l.take i) who ≤ l.length := by unfold toMail; have := List.countP_le_length (p := fun m : Msg => decide (m.note.to_ = who)) (l := l.take i); rw [List.length_take] at this; omega
  by_cases hlt : i < l.length
  · have ht := toMail_at hlt who
    by_cases hw : (l.getD i default).note.to_ = who
    · rw [if_pos hw] at ht
      repeat' (first | refine Run.ctl rfl ?_ | (refine Rg.op false tok rfl rfl rfl rfl ?_ ?_ ?_; (first | exact ⟨⟩ | omega | focus (simp <;> omega) | decide +kernel); (first | exact trivial | exact rfl | exact .inl rfl | exact .inr rfl)) | (refine Rg.op true tok rfl rfl rfl rfl ?_ ?_ ?_; (first | exact ⟨⟩ | omega | focus (simp <;> omega) | decide +kernel); (first | exact trivial | exact rfl | exact .inl rfl | exact .inr rfl)) | refine Rg.nil ?_ | refine Rg.skip rfl rfl rfl ?_ | refine Run.regR ?_ | refine Run.condT rfl ?_ | refine Run.condF rfl ?_ | ((first | refine Run.condB rfl (fun hc => ?_) (fun hc => ?_) | ((fail_if_success (refine Rg.lit true rfl ?_)); (fail_if_success (refine Rg.lit false rfl ?_)); refine Rg.guard rfl (fun hc => ?_) (fun hc => ?_))) <;> ((try simp only [cs] at hc); (first | ((exact absurd hw hc); done) | ((exfalso; omega); done) | skip))))
      refine backR [] (i + 1) _ _ (by omega) (by omega) rfl trivial ⟨.cl rfl, .cl rfl, ?_, .cl rfl, trivial⟩
      show Rn _ _ _ (i64 (toMail (l.take (i + 1)) who : Nat))
      rw [ht]
      exact .cl rfl
    · rw [if_neg hw] at ht
      repeat' (first | refine Run.ctl rfl ?_ | (refine Rg.op false tok rfl rfl rfl rfl ?_ ?_ ?_; (first | exact ⟨⟩ | omega | focus (simp <;> omega) | decide +kernel); (first | exact trivial | exact rfl | exact .inl rfl | exact .inr rfl)) | (refine Rg.op true tok rfl rfl rfl rfl ?_ ?_ ?_; (first | exact ⟨⟩ | omega | focus (simp <;> omega) | decide +kernel); (first | exact trivial | exact rfl | exact .inl rfl | exact .inr rfl)) | refine Rg.nil ?_ | refine Rg.skip rfl rfl rfl ?_ | refine Run.regR ?_ | refine Run.condT rfl ?_ | refine Run.condF rfl ?_ | ((first | refine Run.condB rfl (fun hc => ?_) (fun hc => ?_) | ((fail_if_success (refine Rg.lit true rfl ?_)); (fail_if_success (refine Rg.lit false rfl ?_)); refine Rg.guard rfl (fun hc => ?_) (fun hc => ?_))) <;> ((try simp only [cs] at hc); (first | ((exact absurd hc hw); done) | ((exfalso; omega); done) | skip))))
      refine backR [] (i + 1) _ _ (by omega) (by omega) rfl trivial ⟨.cl rfl, .cl rfl, ?_, .cl rfl, trivial⟩
      show Rn _ _ _ (i64 (toMail (l.take (i + 1)) who : Nat))
      rw [ht]
      exact .cl rfl
  · obtain rfl : i = l.length := by omega
    rw [List.take_length]
    repeat' (first | refine Run.ctl rfl ?_ | (refine Rg.op false tok rfl rfl rfl rfl ?_ ?_ ?_; (first | exact ⟨⟩ | omega | focus (simp <;> omega) | decide +kernel); (first | exact trivial | exact rfl | exact .inl rfl | exact .inr rfl)) | (refine Rg.op true tok rfl rfl rfl rfl ?_ ?_ ?_; (first | exact ⟨⟩ | omega | focus (simp <;> omega) | decide +kernel); (first | exact trivial | exact rfl | exact .inl rfl | exact .inr rfl)) | refine Rg.nil ?_ | refine Rg.skip rfl rfl rfl ?_ | refine Run.regR ?_ | refine Run.condT rfl ?_ | refine Run.condF rfl ?_ | ((first | refine Run.condB rfl (fun hc => ?_) (fun hc => ?_) | ((fail_if_success (refine Rg.lit true rfl ?_)); (fail_if_success (refine Rg.lit false rfl ?_)); refine Rg.guard rfl (fun hc => ?_) (fun hc => ?_))) <;> ((try simp only [cs] at hc); (first | ((exfalso; omega); done) | skip))))
    (first | refine Run.ret tok Try.func46 rfl ?_ | refine Run.fall tok Try.func46 rfl ?_)
    exact .refl _
end Go.Proofs.Ytlimecfjpfaljaa.W
end
