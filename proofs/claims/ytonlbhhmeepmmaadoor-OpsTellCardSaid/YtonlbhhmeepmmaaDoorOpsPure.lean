/- What the tables of the instructions' names come to: both ways of finding a name answer alike, and each name is found. -/
import Derived.Test.YtonlbhhmeepmmaaDoorP
set_option linter.unusedVariables false
set_option linter.unusedSimpArgs false
namespace Go.Proofs.YtonlbhhmeepmmaaDoor.P
open Go.RowKit Go.Proofs.YtonlbhhmeepmmaaDoorW.PrintWords Go.Proofs.YtonlbhhmeepmmaaDoorW.PrintLast

/-- The instructions' names, by number from 1 on. -/
def nl : List ByteArray := ([[112, 117, 115, 104], [112, 111, 112], [99, 111, 112, 121], [115, 119, 97, 112], [108, 111, 97, 100], [115, 116, 111, 114, 101], [97, 114, 103], [115, 101, 108, 102], [97, 100, 100], [115, 117, 98], [109, 117, 108], [100, 105, 118], [109, 111, 100], [110, 101, 103], [101, 113], [108, 101, 115, 115], [97, 110, 100], [111, 114], [110, 111, 116], [106, 117, 109, 112], [122, 101, 114, 111], [115, 101, 110, 100], [97, 114, 109], [99, 97, 108, 109], [101, 110, 100]] : List (List UInt8)).map fun l => ⟨l.toArray⟩
def idx (s : ByteArray) (l : List ByteArray) : Option Nat := l.findIdx? fun x => decide (s.toList = x.toList)
theorem rdOf_mid (d : ByteArray) (p r : List ByteArray) (x : ByteArray) : rdOf d (p ++ x :: r) (p.length : Int) = x := by
  simp [rdOf, List.getD]
theorem wrap_small {i : Int} (h : 0 ≤ i) (h' : i ≤ 4611686018427387904) : wrap64 (i + 1) = i + 1 := by unfold wrap64; omega
theorem index_l0 (s : ByteArray) : ∀ (r p : List ByteArray) (k : Nat), r.length < k → (p ++ r).length ≤ 4611686018427387904 →
    slices_Index_string_string.l0 k (p ++ r) s ((p ++ r).length : Int) (p.length : Int) = some (match idx s r with | some j => (p.length : Int) + j | none => -1)
  | [], p, k, hk, hl => by
    obtain ⟨k, rfl⟩ : ∃ m, k = m + 1 := ⟨k - 1, by omega⟩
    unfold slices_Index_string_string.l0
    rw [if_neg (by simp)]
    rfl
  | x :: r, p, k, hk, hl => by
    obtain ⟨k, rfl⟩ : ∃ m, k = m + 1 := ⟨k - 1, by omega⟩
    unfold slices_Index_string_string.l0
    simp only [List.length_cons] at hk
    have h1 : (p.length : Int) < ((p ++ x :: r).length : Int) := by simp; omega
    rw [if_pos h1, if_pos (by omega), if_pos h1, rdOf_mid]
    by_cases e : s.toList = x.toList
    · rw [if_pos e]
      simp [idx, List.findIdx?_cons, e]
    · rw [if_neg e]
      have ih := index_l0 s r (p ++ [x]) k (by omega) (by simpa using hl)
      rw [wrap_small (by omega) (by simp only [List.length_append, List.length_cons] at hl; omega)]
      have e1 : (p ++ [x]) ++ r = p ++ x :: r := by simp
      have e2 : (((p ++ [x]).length : Nat) : Int) = (p.length : Int) + 1 := by simp
      rw [e1, e2] at ih
      rw [ih]
      simp only [idx, List.findIdx?_cons, e, decide_false]
      cases hf : List.findIdx? (fun x => decide (s.toList = x.toList)) r with
      | none => simp
      | some j =>
        simp only [Option.map_some, if_false, Bool.false_eq_true, Option.some.injEq]
        show (p.length : Int) + 1 + (j : Int) = (p.length : Int) + ((j + 1 : Nat) : Int)
        omega
theorem fields_nl : strings_Fields.f (⟨#[112, 117, 115, 104, 32, 112, 111, 112, 32, 99, 111, 112, 121, 32, 115, 119, 97, 112, 32, 108, 111, 97, 100, 32, 115, 116, 111, 114, 101, 32, 97, 114, 103, 32, 115, 101, 108, 102, 32, 97, 100, 100, 32, 115, 117, 98, 32, 109, 117, 108, 32, 100, 105, 118, 32, 109, 111, 100, 32, 110, 101, 103, 32, 101, 113, 32, 108, 101, 115, 115, 32, 97, 110, 100, 32, 111, 114, 32, 110, 111, 116, 32, 106, 117, 109, 112, 32, 122, 101, 114, 111, 32, 115, 101, 110, 100, 32, 97, 114, 109, 32, 99, 97, 108, 109, 32, 101, 110, 100]⟩ : ByteArray) = some nl := by kernel_rfl
/-- Which instruction a text is. -/
def opOf (s : ByteArray) : Int × Bool := match idx s nl with | some j => ((j : Int) + 1, true) | none => (0, false)
theorem idx_lt {s : ByteArray} {l : List ByteArray} {j : Nat} (h : idx s l = some j) : j < l.length := by
  unfold idx at h
  exact (List.findIdx?_eq_some_iff_findIdx_eq.1 h).1
theorem find_ok (s : ByteArray) (k : Nat) (hk : 25 < k) : ops_Find.f k s = some (opOf s) := by
  unfold ops_Find.f
  rw [fields_nl]
  simp only [Option.bind_some]
  unfold slices_Index_string_string.f
  have h := index_l0 s nl [] k (by rw [show nl.length = 25 by decide]; exact hk) (by decide)
  simp only [List.nil_append, List.length_nil] at h
  rw [show (0 : Int) = ((0 : Nat) : Int) from rfl, h]
  simp only [Option.bind_some]
  unfold opOf
  cases hi : idx s nl with
  | none => simp [wrap64]
  | some j =>
    have := idx_lt hi
    have h2 : nl.length = 25 := by decide
    simp only [Int.natCast_zero, Int.zero_add, Option.some.injEq, Prod.mk.injEq]
    refine ⟨?_, by simp⟩
    unfold wrap64
    omega
def refNames : List ByteArray := ⟨#[]⟩ :: nl
theorem names_ref : gavotteref1_Names.f = some refNames := by kernel_rfl
theorem find_l0 (s : ByteArray) : ∀ (r p : List ByteArray) (k : Nat), r.length < k → (p ++ r).length ≤ 4611686018427387904 →
    gavotteref1_Find.l0 k s (p ++ r) (p.length : Int) = some (match idx s r with | some j => ((p.length : Int) + j, true) | none => (0, false))
  | [], p, k, hk, hl => by
    obtain ⟨k, rfl⟩ : ∃ m, k = m + 1 := ⟨k - 1, by omega⟩
    unfold gavotteref1_Find.l0
    rw [if_neg (by simp)]
    rfl
  | x :: r, p, k, hk, hl => by
    obtain ⟨k, rfl⟩ : ∃ m, k = m + 1 := ⟨k - 1, by omega⟩
    unfold gavotteref1_Find.l0
    simp only [List.length_cons] at hk
    have h1 : (p.length : Int) < ((p ++ x :: r).length : Int) := by simp; omega
    rw [if_pos h1, if_pos (by omega), rdOf_mid]
    by_cases e : x.toList = s.toList
    · rw [if_pos e]
      simp [idx, List.findIdx?_cons, e]
    · rw [if_neg e]
      have ih := find_l0 s r (p ++ [x]) k (by omega) (by simpa using hl)
      rw [wrap_small (by omega) (by simp only [List.length_append, List.length_cons] at hl; omega)]
      have e1 : (p ++ [x]) ++ r = p ++ x :: r := by simp
      have e2 : (((p ++ [x]).length : Nat) : Int) = (p.length : Int) + 1 := by simp
      rw [e1, e2] at ih
      rw [ih]
      have e' : ¬ s.toList = x.toList := fun h => e h.symm
      simp only [idx, List.findIdx?_cons, e', decide_false]
      cases hf : List.findIdx? (fun x => decide (s.toList = x.toList)) r with
      | none => simp
      | some j => simp only [Option.map_some, if_false, Bool.false_eq_true, Option.some.injEq, Prod.mk.injEq, and_true]; push_cast; omega
theorem ref_find_ok (s : ByteArray) (k : Nat) (hk : 25 < k) : gavotteref1_Find.f k s = some (opOf s) := by
  unfold gavotteref1_Find.f
  rw [names_ref]
  simp only [Option.bind_some]
  have h := find_l0 s nl [⟨#[]⟩] k (by rw [show nl.length = 25 by decide]; exact hk) (by decide)
  have e : [(⟨#[]⟩ : ByteArray)] ++ nl = refNames := rfl
  rw [e] at h
  simp only [List.length_cons, List.length_nil, Int.natCast_add, Int.natCast_one, Int.natCast_zero] at h
  have e0 : (0 : Int) + 1 = 1 := rfl
  rw [e0] at h
  rw [h]
  unfold opOf
  cases idx s nl with
  | none => rfl
  | some j => simp only [Option.some.injEq, Prod.mk.injEq, and_true]; omega
/-- A claim on each of the instructions, and on what is none. -/
theorem each_op {P : Int → Prop} (a : Int) (h0 : a < 1 ∨ 25 < a → P a) (h : ∀ j : Fin 25, P (j.val + 1 : Nat)) : P a := by
  by_cases hr : a < 1 ∨ 25 < a
  · exact h0 hr
  · have := h ⟨(a - 1).toNat, by omega⟩
    have e : (((a - 1).toNat + 1 : Nat) : Int) = a := by omega
    rw [e] at this
    exact this

def nameOf (a : Int) : ByteArray := if 1 ≤ a ∧ a ≤ 25 then nl.getD (a - 1).toNat ⟨#[]⟩ else ⟨#[]⟩
theorem valid_eq (a : Int) : ops_Valid.f a = some (decide (1 ≤ a ∧ a ≤ 25)) := by
  unfold ops_Valid.f
  split
  · rename_i h
    congr 1
    by_cases h2 : a ≤ 25 <;> simp [h2, h, show (1 : Int) ≤ a from h]
  · rename_i h
    simp [show ¬ (1 : Int) ≤ a from h]
theorem ref_valid_eq (a : Int) : gavotteref1_Valid.f a = some (decide (1 ≤ a ∧ a ≤ 25)) := valid_eq a
theorem name_eq (a : Int) : ops_Name.f a = some (nameOf a) := by
  unfold ops_Name.f nameOf
  rw [valid_eq]
  simp only [Option.bind_some, decide_eq_true_eq]
  by_cases h : 1 ≤ a ∧ a ≤ 25
  · rw [if_pos h, if_pos h, fields_nl]
    have e : wrap64 (a - 1) = a - 1 := by unfold wrap64; omega
    simp only [Option.bind_some]
    rw [e, if_pos (by omega), if_pos (by rw [show nl.length = 25 by decide]; omega)]
    rfl
  · rw [if_neg h, if_neg h]
theorem ref_name_eq (a : Int) : gavotteref1_Name.f a = some (nameOf a) := by
  unfold gavotteref1_Name.f nameOf
  rw [ref_valid_eq]
  simp only [Option.bind_some, decide_eq_true_eq]
  by_cases h : 1 ≤ a ∧ a ≤ 25
  · rw [if_pos h, if_pos h, names_ref]
    simp only [Option.bind_some]
    rw [if_pos (by omega), if_pos (by rw [show refNames.length = 26 by decide]; omega)]
    obtain ⟨n, rfl⟩ := Int.eq_ofNat_of_zero_le (show 0 ≤ a by omega)
    congr 1
    unfold rdOf refNames
    rcases n with _ | n
    · omega
    · have e2 : ((n + 1 : Nat) : Int) - 1 = (n : Int) := by omega
      rw [e2]
      simp only [Int.toNat_natCast, List.getD_eq_getElem?_getD, List.getElem?_cons_succ]
      rfl
  · rw [if_neg h, if_neg h]
theorem out_cases {a : Int} (h : a < 1 ∨ 25 < a) : a ≠ 1 ∧ a ≠ 2 ∧ a ≠ 3 ∧ a ≠ 4 ∧ a ≠ 5 ∧ a ≠ 6 ∧ a ≠ 7 ∧ a ≠ 8 ∧ a ≠ 14 ∧ a ≠ 19 ∧ a ≠ 20 ∧ a ≠ 21 ∧ a ≠ 22 ∧ ¬ (a ≥ 9 ∧ a ≤ 19) ∧ ¬ (a ≥ 9 ∧ a ≤ 13) ∧ ¬ (a ≥ 15 ∧ a ≤ 18) := by omega
theorem pops_out {a : Int} (k : Nat) (h : a < 1 ∨ 25 < a) : ops_Pops.f (k + 2) a = some 0 := by
  simp only [ops_Pops.f, ops_Pops.j0, decide_eq_true_eq, beq_iff_eq, Bool.false_eq_true, if_false]
  rcases h with h | h <;> (repeat (first | rfl | rw [if_neg (by omega)] | rw [if_pos (by omega)]))
theorem puts_out {a : Int} (k : Nat) (h : a < 1 ∨ 25 < a) : ops_Puts.f (k + 2) a = some 0 := by
  simp only [ops_Puts.f, ops_Puts.j0, decide_eq_true_eq, beq_iff_eq, Bool.false_eq_true, if_false]
  rcases h with h | h <;> (repeat (first | rfl | rw [if_neg (by omega)] | rw [if_pos (by omega)]))
theorem operand_out {a : Int} (k : Nat) (h : a < 1 ∨ 25 < a) : ops_Operand.f (k + 4) a = some 0 := by
  simp only [ops_Operand.f, ops_Operand.j0, ops_Operand.j1, decide_eq_true_eq, beq_iff_eq, Bool.false_eq_true, if_false]
  rcases h with h | h <;> (repeat (first | rfl | rw [if_neg (by omega)] | rw [if_pos (by omega)]))
end Go.Proofs.YtonlbhhmeepmmaaDoor.P
