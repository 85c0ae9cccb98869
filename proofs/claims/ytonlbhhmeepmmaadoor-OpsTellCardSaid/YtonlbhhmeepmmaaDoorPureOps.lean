/- The three statements of chapter 1, as plain Lean: for every number and text. -/
import Derived.Test.YtonlbhhmeepmmaaDoorOpsPure
set_option linter.unusedVariables false
set_option linter.unusedSimpArgs false
namespace Go.Proofs.YtonlbhhmeepmmaaDoor.P
open Go.RowKit Go.Proofs.YtonlbhhmeepmmaaDoorW.PrintWords Go.Proofs.YtonlbhhmeepmmaaDoorW.PrintLast

theorem awake1_ok : gavottelaw1_awake.f 100 = some true := by kernel_rfl
def tell1 (a : Int) : Option Bool := (ops_Pops.f 100 a).bind fun t156 => ((gavotteref1_Pops.f a).bind fun t157 => (if t156 = t157 then ((ops_Puts.f 100 a).bind fun t158 => ((gavotteref1_Puts.f a).bind fun t159 => (if t158 = t159 then ((ops_Operand.f 100 a).bind fun t160 => ((gavotteref1_Operand.f 100 a).bind fun t161 => (if t160 = t161 then (some true) else (some false)))) else (some false)))) else (some false)))
theorem ref_operand_eq (k : Nat) (a : Int) : gavotteref1_Operand.f k a = ops_Operand.f k a := by
  unfold gavotteref1_Operand.f ops_Operand.f
  have h1 : ∀ k a b, gavotteref1_Operand.j1 k a b = ops_Operand.j1 k a b := by
    intro k a b; cases k <;> rfl
  have h0 : ∀ k a b, gavotteref1_Operand.j0 k a b = ops_Operand.j0 k a b := by
    intro k a b
    cases k with
    | zero => rfl
    | succ k => simp only [gavotteref1_Operand.j0, ops_Operand.j0, h1]
  rw [h0, h0]
theorem tell1_ok (a : Int) : tell1 a = some true := by
  refine each_op (P := fun a => tell1 a = some true) a (fun h => ?_) (by decide +kernel)
  show tell1 a = some true
  unfold tell1 gavotteref1_Pops.f gavotteref1_Puts.f
  rw [ref_operand_eq, ref_valid_eq, pops_out 98 h, puts_out 98 h, operand_out 96 h, decide_eq_false (by omega)]
  rfl
theorem OpsTell (a0 : Int) (a1 : ByteArray) : ∃ k, gavottelaw1_OpsTell.f k a0 a1 = some true := by
  refine ⟨100, ?_⟩
  unfold gavottelaw1_OpsTell.f
  rw [awake1_ok]
  split
  · rfl
  · rw [find_ok a1 100 (by omega), ref_find_ok a1 100 (by omega), valid_eq, ref_valid_eq, name_eq, ref_name_eq]
    simp only [Option.bind_some, beq_self_eq_true, if_true]
    exact tell1_ok a0
theorem find_name (j : Fin 25) : ops_Find.f 100 (nameOf ((j.val + 1 : Nat) : Int)) = some (((j.val + 1 : Nat) : Int), true) := by
  revert j; decide +kernel
theorem names_differ (i j : Fin 25) : ((nameOf ((i.val + 1 : Nat) : Int)).toList == (nameOf ((j.val + 1 : Nat) : Int)).toList) = (i == j) := by
  revert i j; decide +kernel
theorem fin_of {a : Int} (h : 1 ≤ a ∧ a ≤ 25) : ∃ j : Fin 25, a = ((j.val + 1 : Nat) : Int) := ⟨⟨(a - 1).toNat, by omega⟩, by simp only; omega⟩
theorem names_tail (a b : Int) (k : Nat) (h : gavottelaw1_awake.f k = some true) : gavottelaw1_OpsNames.j0 (k + 1) a b false = some true := by
  simp only [gavottelaw1_OpsNames.j0]
  rw [if_neg (by decide), valid_eq, valid_eq, name_eq, name_eq, h]
  simp only [Option.bind_some, decide_eq_true_eq]
  by_cases ha : 1 ≤ a ∧ a ≤ 25
  · rw [if_pos ha]
    by_cases hb : 1 ≤ b ∧ b ≤ 25
    · rw [if_pos hb]
      obtain ⟨i, rfl⟩ := fin_of ha
      obtain ⟨j, rfl⟩ := fin_of hb
      rw [names_differ, if_pos]
      by_cases e : i = j
      · subst e; simp
      · have : ¬ (((i.val + 1 : Nat) : Int) = ((j.val + 1 : Nat) : Int)) := fun h => e (Fin.ext (by omega))
        rw [beq_eq_false_iff_ne.2 e, beq_eq_false_iff_ne.2 this]
        rfl
    · rw [if_neg hb]
  · rw [if_neg ha]
theorem OpsNames (a b : Int) : ∃ k, gavottelaw1_OpsNames.f k a b = some true := by
  refine ⟨101 , ?_⟩
  have hk : gavottelaw1_awake.f 100 = some true := awake1_ok
  unfold gavottelaw1_OpsNames.f
  rw [name_eq, valid_eq]
  simp only [Option.bind_some]
  by_cases ha : 1 ≤ a ∧ a ≤ 25
  · obtain ⟨i, rfl⟩ := fin_of ha
    have hf := at_rounds (ops_Find.mono _) (show 100 ≤ 101 by omega) (find_name i)
    rw [hf]
    simp only [Option.bind_some]
    rw [decide_eq_true ha, if_neg (by decide)]
    simp only [if_true]
    exact names_tail _ _ 100 hk
  · have e : nameOf a = ⟨#[]⟩ := by unfold nameOf; rw [if_neg ha]
    have hf : ops_Find.f 101 (⟨#[]⟩ : ByteArray) = some (0, false) := by kernel_rfl
    rw [e, hf]
    simp only [Option.bind_some]
    rw [decide_eq_false ha, if_neg (by decide), if_neg (by decide)]
    simp only [if_true]
    rw [show ((⟨#[]⟩ : ByteArray).toList != ([] : List UInt8)) = false by decide +kernel]
    exact names_tail _ _ 100 hk
theorem OpsBalance (a : Int) : ∃ k, gavottelaw1_OpsBalance.f k a = some true := by
  refine ⟨110, ?_⟩
  refine each_op (P := fun a => gavottelaw1_OpsBalance.f 110 a = some true) a (fun h => ?_) (by decide +kernel)
  show gavottelaw1_OpsBalance.f 110 a = some true
  unfold gavottelaw1_OpsBalance.f
  have hk := at_rounds gavottelaw1_awake.mono (show 100 ≤ 110 by omega) awake1_ok
  rw [valid_eq, pops_out 108 h, puts_out 108 h, operand_out 106 h, hk, decide_eq_false (by omega)]
  rfl
end Go.Proofs.YtonlbhhmeepmmaaDoor.P
