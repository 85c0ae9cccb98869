/- Texts merged: F4, F5. -/
import Derived.Test.YtffckdfcmdmnoaaDoorM32
import Derived.Test.YtffckdfcmdmnoaaDoorM29
import Derived.Test.YtffckdfcmdmnoaaDoorM33
section
/- Walks: what the document fixes of worlds (chapter 9). -/
set_option linter.unusedVariables false
set_option linter.unusedSimpArgs false
set_option linter.unusedSectionVars false
set_option pp.maxSteps 40000
set_option maxHeartbeats 4000000
namespace Go.Proofs.YtffckdfcmdmnoaaDoor.W
open Go Go.Sy

theorem WkL_more {α : Type} [Inhabited α] (enc : α → List PV) (l : List α) {st : St} {i : Nat} (hi : i < l.length) {a b : Nat → List PV} (ha : ∀ k, a k = rows enc (l.take i) (0 + k)) (hb : WkL st (b 0) (enc (l.getD i default))) : ∀ k, k < i + 1 → WkL st (appEl i a b k) (rows enc (l.take (i + 1)) k) := by
  intro k hk
  by_cases h : k < i
  · rw [appEl_left h, ha, Nat.zero_add]
    refine .ofEq ?_
    unfold rows
    congr 1
    simp [List.getElem?_take, h, hk]
  · obtain rfl : k = i := by omega
    rw [appEl_right (Nat.le_refl _), Nat.sub_self]
    have e : rows enc (l.take (k + 1)) k = enc (l.getD k default) := by
      unfold rows
      congr 1
      simp [List.getElem?_take]
    rw [e]
    exact hb
def twoBox (i : Nat) (most : Int) : Option Blk := some ⟨26, 4, 1, fun _ => [sl 2 eHd [⟨1, []⟩], sl 4 eAct [⟨[4], most, -1, false⟩, ⟨[], most, -1, false⟩], .slc 2 0 i, i64 5], false, false⟩
def zeroPg : Option Blk := some ⟨26, 4, 1, fun _ => [.atom (.slice none 0 0), .atom (.slice none 0 0), .atom (.slice none 0 0), i64 0], false, false⟩
theorem pgTwo_ (n : Nat) (most : Int) (hn : n ≤ 1000) : Pure Tryd.prog 14 [i64 n, i64 most] (pPg (pgTwo n most)) := by
  refine Pure.of_spec (Spec.of_run (fn := Tryd.f14) Tryd.func14 rfl rfl (by kernel_rfl) ?_) (by first | assumption | rfl | (split <;> rfl) | (split <;> split <;> rfl))
  repeat' (first | refine Rg.any rfl rfl rfl (fun _ hq => G_buildZ tok rfl rfl rfl rfl rfl rfl rfl rfl rfl rfl rfl hq) (by first | exact trivial | exact rfl | exact .inl rfl | exact .inr rfl | focus ((repeat (first | exact trivial | (refine ⟨Stay.op false tok rfl rfl rfl ?_ (fun t ht => by cases ht; rfl), ?_⟩; (first | exact ⟨⟩ | omega | focus (simp <;> omega) | decide +kernel)) | (refine ⟨Stay.op true tok rfl rfl rfl ?_ (fun t ht => by cases ht; rfl), ?_⟩; (first | exact ⟨⟩ | omega | focus (simp <;> omega) | decide +kernel)) | refine ⟨Stay.skip rfl rfl (fun t ht => by cases ht; rfl), ?_⟩)); done)) ?_ | refine Run.ctl rfl ?_ | (refine Rg.op false tok rfl rfl rfl rfl ?_ ?_ ?_; (first | exact ⟨⟩ | omega | focus (simp <;> omega) | decide +kernel); (first | exact trivial | exact rfl | exact .inl rfl | exact .inr rfl)) | (refine Rg.op true tok rfl rfl rfl rfl ?_ ?_ ?_; (first | exact ⟨⟩ | omega | focus (simp <;> omega) | decide +kernel); (first | exact trivial | exact rfl | exact .inl rfl | exact .inr rfl)) | refine Rg.nil ?_ | refine Rg.skip rfl rfl rfl ?_ | refine Run.regR ?_ | refine Run.condT rfl ?_ | refine Run.condF rfl ?_ | ((first | refine Run.condB rfl (fun hc => ?_) (fun hc => ?_) | ((fail_if_success (refine Rg.lit true rfl ?_)); (fail_if_success (refine Rg.lit false rfl ?_)); refine Rg.guard rfl (fun hc => ?_) (fun hc => ?_))) <;> ((try simp only [cs] at hc); (first | ((exfalso; omega); done) | skip))))
  refine Run.noRow 47 3 (rows eNt []) ?_
  refine Run.weak (i := 1) ⟨26, 4, 1, fun _ => [sl 2 eHd [⟨1, []⟩], sl 4 eAct [⟨[4], most, -1, false⟩, ⟨[], most, -1, false⟩], .slc 2 0 0, i64 5], false, false⟩ rfl rfl rfl (Nat.le_refl _) rfl (fun k hk => ⟨.cv (by (repeat (first | exact trivial | exact .refl _ | exact .rowNil | refine Cv.slcL rfl rfl rfl rfl rfl (fun _ => rfl) ?_ | refine Cv.fzL rfl (fun _ => rfl) ?_ | refine Cv.agg' ?_ | refine ⟨?_, ?_⟩))), .cv (by (repeat (first | exact trivial | exact .refl _ | exact .rowNil | refine Cv.slcL rfl rfl rfl rfl rfl (fun _ => rfl) ?_ | refine Cv.fzL rfl (fun _ => rfl) ?_ | refine Cv.agg' ?_ | refine ⟨?_, ?_⟩))), .nil, .refl _, trivial⟩) ?_
  refine Run.renumL [0, 1, 2] [zeroPg, twoBox 0 most, some ⟨47, 3, 0, rows eNt ((boots n).take 0), false, false⟩] [(0, i64 n), (4, .ptr 0 0 0), (5, .ptr 1 0 0), (6, i64 (0 : Nat))] rfl rfl rfl rfl ⟨⟨_, rfl, rfl, rfl, rfl, rfl, fun k hk => .ofEq rfl rfl⟩, ⟨_, rfl, rfl, rfl, rfl, rfl, fun k hk => ⟨.cl rfl, .cl rfl, .slcN rfl rfl rfl, .cl rfl, trivial⟩⟩, ⟨_, rfl, rfl, rfl, rfl, rfl, fun k hk => absurd hk (Nat.not_lt_zero k)⟩, trivial⟩ ⟨.cl rfl, .ptrN rfl rfl, .ptrN rfl rfl, .cl rfl, trivial⟩ ?_
  refine Run.loopN (ι := Nat) (fun i => ([(0, i64 n), (4, .ptr 0 0 0), (5, .ptr 1 0 0), (6, i64 i)], [zeroPg, twoBox i most, some ⟨47, 3, i, rows eNt ((boots n).take i), false, false⟩])) (fun i => i ≤ n) (fun i => n - i) 0 ⟨rfl, rfl, rfl, rfl, trivial⟩ rfl (by omega) ?_
  rintro i hi back backR
  dsimp only
  by_cases hlt : i < n
  · have hbl := boots_len n
    repeat' (first | refine Rg.any rfl rfl rfl (fun _ hq => G_buildZ tok rfl rfl rfl rfl rfl rfl rfl rfl rfl rfl rfl hq) (by first | exact trivial | exact rfl | exact .inl rfl | exact .inr rfl | focus ((repeat (first | exact trivial | (refine ⟨Stay.op false tok rfl rfl rfl ?_ (fun t ht => by cases ht; rfl), ?_⟩; (first | exact ⟨⟩ | omega | focus (simp <;> omega) | decide +kernel)) | (refine ⟨Stay.op true tok rfl rfl rfl ?_ (fun t ht => by cases ht; rfl), ?_⟩; (first | exact ⟨⟩ | omega | focus (simp <;> omega) | decide +kernel)) | refine ⟨Stay.skip rfl rfl (fun t ht => by cases ht; rfl), ?_⟩)); done)) ?_ | refine Run.ctl rfl ?_ | (refine Rg.op false tok rfl rfl rfl rfl ?_ ?_ ?_; (first | exact ⟨⟩ | omega | focus (simp <;> omega) | decide +kernel); (first | exact trivial | exact rfl | exact .inl rfl | exact .inr rfl)) | (refine Rg.op true tok rfl rfl rfl rfl ?_ ?_ ?_; (first | exact ⟨⟩ | omega | focus (simp <;> omega) | decide +kernel); (first | exact trivial | exact rfl | exact .inl rfl | exact .inr rfl)) | refine Rg.nil ?_ | refine Rg.skip rfl rfl rfl ?_ | refine Run.regR ?_ | refine Run.condT rfl ?_ | refine Run.condF rfl ?_ | ((first | refine Run.condB rfl (fun hc => ?_) (fun hc => ?_) | ((fail_if_success (refine Rg.lit true rfl ?_)); (fail_if_success (refine Rg.lit false rfl ?_)); refine Rg.guard rfl (fun hc => ?_) (fun hc => ?_))) <;> ((try simp only [cs] at hc); (first | ((exfalso; omega); done) | skip))))
    refine Run.weak (i := 3) ⟨47, 3, i + 1, rows eNt ((boots n).take (i + 1)), false, false⟩ rfl rfl rfl (Nat.le_refl _) rfl (fun k hk => by
      dsimp only
      refine WkL_more eNt (boots n) (by rw [hbl]; exact hlt) (fun _ => rfl) ?_ k hk
      rw [boots_at n i hlt]
      refine (show WkL _ [_, _, _] [_, _, _] from ⟨.refl _, .refl _, .cv ?_, trivial⟩)
      (repeat (first | exact trivial | exact .refl _ | exact .rowNil | refine Cv.slcL rfl rfl rfl rfl rfl (fun _ => rfl) ?_ | refine Cv.fzL rfl (fun _ => rfl) ?_ | refine Cv.agg' ?_ | refine ⟨?_, ?_⟩))) ?_
    exact backR [0, 1, 3] (i + 1) _ _ (by omega) (by omega) rfl ⟨⟨_, rfl, rfl, rfl, rfl, rfl, fun k hk => .ofEq rfl rfl⟩, ⟨_, rfl, rfl, rfl, rfl, rfl, fun k hk => ⟨.cl rfl, .cl rfl, .slcN rfl rfl rfl, .cl rfl, trivial⟩⟩, ⟨_, rfl, rfl, rfl, rfl, rfl, fun k hk => .ofEq rfl rfl⟩, trivial⟩ ⟨.cl rfl, .ptrN rfl rfl, .ptrN rfl rfl, .cl rfl, trivial⟩
  · obtain rfl : i = n := by omega
    repeat' (first | refine Run.ctl rfl ?_ | (refine Rg.op false tok rfl rfl rfl rfl ?_ ?_ ?_; (first | exact ⟨⟩ | omega | focus (simp <;> omega) | decide +kernel); (first | exact trivial | exact rfl | exact .inl rfl | exact .inr rfl)) | (refine Rg.op true tok rfl rfl rfl rfl ?_ ?_ ?_; (first | exact ⟨⟩ | omega | focus (simp <;> omega) | decide +kernel); (first | exact trivial | exact rfl | exact .inl rfl | exact .inr rfl)) | refine Rg.nil ?_ | refine Rg.skip rfl rfl rfl ?_ | refine Run.regR ?_ | refine Run.condT rfl ?_ | refine Run.condF rfl ?_ | ((first | refine Run.condB rfl (fun hc => ?_) (fun hc => ?_) | ((fail_if_success (refine Rg.lit true rfl ?_)); (fail_if_success (refine Rg.lit false rfl ?_)); refine Rg.guard rfl (fun hc => ?_) (fun hc => ?_))) <;> ((try simp only [cs] at hc); (first | ((exfalso; omega); done) | skip))))
    (first | refine Run.ret tok Tryd.func14 rfl ?_ | refine Run.fall tok Tryd.func14 rfl ?_)
    have ht : (boots i).take i = boots i := List.take_of_length_le (by rw [boots_len]; exact Nat.le_refl _)
    rw [ht]
    exact .agg' ⟨.refl _, .refl _, .row rfl rfl rfl (by dsimp only; omega) (boots_len i).symm (fun _ => rfl) (fun j hj => by dsimp only; rw [Nat.zero_add]; rfl), .refl _, trivial⟩
def pg9 : Pg := pgTwo 3 1
def wd9 : Wd := ⟨[⟨[4], false, 0, 0, 1⟩, ⟨[], false, 0, 0, 0⟩], [⟨⟨-1, 0, 0⟩, ⟨0, 0, [0]⟩⟩, ⟨⟨-1, 1, 0⟩, ⟨1, 0, [1]⟩⟩], bg0⟩
theorem flow9 : flowWhy pg9 = 0 := by kernel_rfl
theorem start9 : startOf pg9 = wd9 := by decide +kernel
theorem R64_of {n : Int} (h : decide (-9223372036854775808 ≤ n ∧ n ≤ 9223372036854775807) = true) : R64 n := by
  simp only [decide_eq_true_eq] at h
  exact h
theorem short9 : WdShort wd9 := ⟨by decide, by decide, by decide, by decide⟩
theorem tx9 : WdTx wd9 := ⟨by decide, by decide, by decide, by decide, by decide, by
  refine ⟨?_, ?_, ?_⟩
  · intro l hl
    simp only [wd9, List.mem_cons, List.not_mem_nil, or_false] at hl
    rcases hl with rfl | rfl
    · refine ⟨fun n hn => ?_, ?_, ?_, ?_⟩
      · rw [List.mem_singleton] at hn; rw [hn]; exact R64_of (by decide)
      all_goals exact R64_of (by decide)
    · refine ⟨fun n hn => (nomatch hn), ?_, ?_, ?_⟩
      all_goals exact R64_of (by decide)
  · intro m hm
    simp only [wd9, List.mem_cons, List.not_mem_nil, or_false] at hm
    rcases hm with rfl | rfl
    all_goals
      refine ⟨⟨R64_of (by decide), R64_of (by decide), R64_of (by decide)⟩, R64_of (by decide), R64_of (by decide), fun n hn => ?_⟩
      rw [List.mem_singleton] at hn; rw [hn]; exact R64_of (by decide)
  · exact ⟨R64_of (by decide), R64_of (by decide), R64_of (by decide), R64_of (by decide)⟩⟩
theorem awake9_ : Pure Tryd.prog 8 [] (bl true) := by
  have hp := pgTwo_ 3 1 (by omega)
  rw [show pgTwo 3 1 = pg9 from rfl] at hp
  have hs := start_ pg9 flow9
  rw [start9] at hs
  have hb := startBad_ ⟨[], [], [], 0⟩ (by decide +kernel)
  rw [show flowWhy ⟨[], [], [], 0⟩ = 1 by decide +kernel] at hb
  have c1 := worldCheck_ pg9 wd9 (by decide) (by decide)
  rw [show worldOk pg9 wd9 = true by decide +kernel] at c1
  have c2 := worldCheck_ pg9 wd0 (by decide) (by decide)
  rw [show worldOk pg9 wd0 = false by decide +kernel] at c2
  have c3 := worldCopy_ wd9 short9
  have c4 := worldSame_ wd9 wd9 short9 short9
  rw [decide_eq_true rfl] at c4
  have c5 := worldText_ wd9 tx9
  rw [show wdText wd9 = [52, 124, 48, 32, 48, 32, 48, 32, 49, 10, 124, 48, 32, 48, 32, 48, 32, 48, 10, 45, 49, 46, 48, 46, 48, 32, 48, 32, 48, 32, 48, 10, 45, 49, 46, 49, 46, 48, 32, 49, 32, 48, 32, 49, 10, 48, 32, 48, 32, 48, 32, 48, 10] by decide +kernel] at c5
  refine Pure.of_spec (Spec.of_run (fn := Tryd.f8) Tryd.func8 rfl rfl (by kernel_rfl) ?_) (by first | assumption | rfl | (split <;> rfl) | (split <;> split <;> rfl))
  repeat' (first | (refine Run.drwP [] [0, 1, 2, 3, 4, 5, 6, 7, 8, 9, 10, 11, 12, 13, 14, 15, 16, 17, 18, 19, 20, 21, 22, 23, 24, 25, 26, 27, 28, 29, 30, 31, 32, 33, 34, 35, 36, 37, 38, 39, 40, 41, 42, 43, 44, 45, 46] [none, none, none, none, none, none, none, none, none, none, none, none, none, none, none, none, none, none, none, none, none, none, none, none, none, none, none, none, none, none, none, none, none, none, none, none, none, none, none, none, none, none, none, none, none, none, none] mixed (by kernel_rfl) rfl ?_) | refine Run.ctl rfl ?_ | (refine Rg.op false tok rfl rfl rfl rfl ?_ ?_ ?_; (first | exact ⟨⟩ | omega | focus (simp <;> omega) | decide +kernel); (first | exact trivial | exact rfl | exact .inl rfl | exact .inr rfl | focus ((repeat (first | exact trivial | (refine ⟨Stay.op false tok rfl rfl rfl ?_ (fun t ht => by cases ht; rfl), ?_⟩; (first | exact ⟨⟩ | omega | focus (simp <;> omega) | decide +kernel)) | (refine ⟨Stay.op true tok rfl rfl rfl ?_ (fun t ht => by cases ht; rfl), ?_⟩; (first | exact ⟨⟩ | omega | focus (simp <;> omega) | decide +kernel)) | refine ⟨Stay.skip rfl rfl (fun t ht => by cases ht; rfl), ?_⟩)); done))) | refine Rg.call (hp) rfl rfl rfl rfl rfl ⟨⟨.refl _, .refl _, trivial⟩, rfl⟩ ?_ | refine Rg.call (hs) rfl rfl rfl rfl rfl ⟨⟨.refl _, trivial⟩, rfl⟩ ?_ | (refine Rg.call (hb) rfl rfl rfl rfl rfl ⟨⟨?_, trivial⟩, rfl⟩ ?_; focus ((repeat (first | exact trivial | exact .refl _ | exact .rowNil | refine Cv.slcL rfl rfl rfl rfl rfl (fun _ => rfl) ?_ | refine Cv.fzL rfl (fun _ => rfl) ?_ | refine Cv.agg' ?_ | refine ⟨?_, ?_⟩)); done)) | refine Rg.call (c1) rfl rfl rfl rfl rfl ⟨⟨.refl _, .refl _, trivial⟩, rfl⟩ ?_ | (refine Rg.call (c2) rfl rfl rfl rfl rfl ⟨⟨.refl _, ?_, trivial⟩, rfl⟩ ?_; focus ((repeat (first | exact trivial | exact .refl _ | exact .rowNil | refine Cv.slcL rfl rfl rfl rfl rfl (fun _ => rfl) ?_ | refine Cv.fzL rfl (fun _ => rfl) ?_ | refine Cv.agg' ?_ | refine ⟨?_, ?_⟩)); done)) | refine Rg.call (c3) rfl rfl rfl rfl rfl ⟨⟨.refl _, trivial⟩, rfl⟩ ?_ | refine Rg.call (c4) rfl rfl rfl rfl rfl ⟨⟨.refl _, .refl _, trivial⟩, rfl⟩ ?_ | refine Rg.call (c5) rfl rfl rfl rfl rfl ⟨⟨.refl _, trivial⟩, rfl⟩ ?_ | (refine Rg.op true tok rfl rfl rfl rfl ?_ ?_ ?_; (first | exact ⟨⟩ | omega | focus (simp <;> omega) | decide +kernel); (first | exact trivial | exact rfl | exact .inl rfl | exact .inr rfl | focus ((repeat (first | exact trivial | (refine ⟨Stay.op false tok rfl rfl rfl ?_ (fun t ht => by cases ht; rfl), ?_⟩; (first | exact ⟨⟩ | omega | focus (simp <;> omega) | decide +kernel)) | (refine ⟨Stay.op true tok rfl rfl rfl ?_ (fun t ht => by cases ht; rfl), ?_⟩; (first | exact ⟨⟩ | omega | focus (simp <;> omega) | decide +kernel)) | refine ⟨Stay.skip rfl rfl (fun t ht => by cases ht; rfl), ?_⟩)); done))) | refine Rg.nil ?_ | refine Rg.fork ?_ ?_ | refine Rg.skip rfl rfl rfl ?_ | refine Run.regR ?_ | refine Run.drwR mixed (by kernel_rfl) rfl ?_ | refine Run.condT rfl ?_ | refine Run.condF rfl ?_ | ((first | refine Run.condB rfl (fun hc => ?_) (fun hc => ?_) | ((fail_if_success (refine Rg.lit true rfl ?_)); (fail_if_success (refine Rg.lit false rfl ?_)); refine Rg.guard rfl (fun hc => ?_) (fun hc => ?_))) <;> ((try simp only [cs] at hc); (first | ((exact absurd rfl hc); done) | skip))))
  all_goals first | exact .ofBool (beq_self_eq_true _) | ((first | refine Run.ret tok Tryd.func8 rfl ?_ | refine Run.fall tok Tryd.func8 rfl ?_); exact .ofBool (beq_self_eq_true _)) | exact .ofBool rfl | ((first | refine Run.ret tok Tryd.func8 rfl ?_ | refine Run.fall tok Tryd.func8 rfl ?_); exact .ofBool rfl)
end Go.Proofs.YtffckdfcmdmnoaaDoor.W
end
section
/- Walks: notes sent (chapter 9). -/
set_option linter.unusedVariables false
set_option linter.unusedSimpArgs false
set_option linter.unusedSectionVars false
set_option pp.maxSteps 40000
set_option maxHeartbeats 4000000
namespace Go.Proofs.YtffckdfcmdmnoaaDoor.W
open Go Go.Sy

end Go.Proofs.YtffckdfcmdmnoaaDoor.W
end
