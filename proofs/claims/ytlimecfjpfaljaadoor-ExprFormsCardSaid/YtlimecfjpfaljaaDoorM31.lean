/- Texts merged: P11. -/
import Derived.Test.YtlimecfjpfaljaaDoorM21
section
/- Plain: sums, and odd forms, of expressions (chapter 13). -/
set_option linter.unusedVariables false
set_option linter.unusedSimpArgs false
set_option linter.unusedSectionVars false
namespace Go.Proofs.YtlimecfjpfaljaaDoor.W
open Go Go.Sy

theorem wrap_add (a b : Int) : wrap (wrap a + b) = wrap (a + b) ∧ wrap (b + wrap a) = wrap (b + a) := by
  unfold wrap
  simp only [IntKind.wrap, IntKind.signed, IntKind.bits]
  simp
  constructor <;> omega
theorem wrap_r {a : Int} (h : R64 a) : wrap a = a := by
  unfold R64 at h
  unfold wrap
  simp only [IntKind.wrap, IntKind.signed, IntKind.bits]
  simp
  omega
theorem exFrom_cons (p : Pg) (i : Instr) (l : List Instr) (n : Int) (h : exInstr p i n = 0) : exFrom p (i :: l) n = exFrom p l (n + (putsW i.op - opPops i.op)) := by
  rw [exFrom, if_neg (by simpa using h)]
theorem exFrom_bad (p : Pg) (i : Instr) (l : List Instr) (n : Int) (h : exInstr p i n = 5) : exFrom p (i :: l) n = 5 := by
  rw [exFrom, if_pos (by rw [h]; decide), h]
theorem go_push (p : Pg) (a : Int) (l : List Instr) (n : Int) (h0 : 0 ≤ n) (h : n < 8) : exFrom p (⟨1, a⟩ :: l) n = exFrom p l (n + 1) := by
  rw [exFrom_cons]
  · rfl
  · refine exInstr_zero.2 ⟨by dsimp only; omega, fun e => (nomatch e), fun e => ?_, fun e => (nomatch e), ?_, ?_⟩
    · cases e
    · show (0 : Int) ≤ n
      exact h0
    · show n - 0 + 1 ≤ 8
      omega
theorem push_bad (p : Pg) (a : Int) (l : List Instr) : exFrom p (⟨1, a⟩ :: l) 8 = 5 := by
  refine exFrom_bad p _ l 8 ?_
  unfold exInstr
  have h1 : ¬((asksW 1 = false ∧ reckonsW 1 = false) ∨ (someW 1 = false ∧ a ≠ 0)) := by
    rintro (⟨_, e⟩ | ⟨e, _⟩)
    · exact absurd e (by decide)
    · exact absurd e (by decide)
  have h2 : ¬((1 : Int) = 31 ∧ 8 ≤ a % 16) := by rintro ⟨e, _⟩; cases e
  have h3 : ¬((whoseW ⟨1, a⟩).2 = true ∧ ((whoseW ⟨1, a⟩).1 < 0 ∨ (p.actors.length : Int) ≤ (whoseW ⟨1, a⟩).1)) := by rintro ⟨e, _⟩; cases e
  have h4 : ((8 : Int) < opPops 1 ∨ 8 < 8 - opPops 1 + putsW 1) := .inr (by decide)
  exact (if_neg h1).trans ((if_neg h2).trans ((if_neg h3).trans (if_pos h4)))
theorem go_add (p : Pg) (l : List Instr) (n : Int) (h0 : 2 ≤ n) (h : n ≤ 8) : exFrom p (⟨9, 0⟩ :: l) n = exFrom p l (n - 1) := by
  rw [exFrom_cons]
  · show exFrom p l (n + (1 - 2)) = _
    congr 1
  · refine exInstr_zero.2 ⟨by dsimp only; omega, fun e => rfl, fun e => ?_, fun e => (nomatch e), ?_, ?_⟩
    · cases e
    · show (2 : Int) ≤ n
      exact h0
    · show n - 2 + 1 ≤ 8
      omega
theorem step_push (w : Wd) (s : List Int) (a : Int) : exStep w s ⟨1, a⟩ = s ++ [a] := rfl
theorem step_add (w : Wd) (s : List Int) (u v : Int) : exStep w (s ++ [u, v]) ⟨9, 0⟩ = s ++ [wrap (u + v)] := by
  have e1 : (s ++ [u, v]).length - 2 = s.length := by simp
  have e2 : (s ++ [u, v]).length - 1 = s.length + 1 := by simp
  show (s ++ [u, v]).take ((s ++ [u, v]).length - 2) ++ [wrap ((s ++ [u, v]).getD ((s ++ [u, v]).length - 2) 0 + (s ++ [u, v]).getD ((s ++ [u, v]).length - 1) 0)] = _
  rw [e1, e2]
  simp
/-- The code behind so many numbers. -/
def sumCode (deep : Bool) (l : List Int) : Nat → List Instr
  | 0 => []
  | i + 1 => sumCode deep l i ++ ⟨1, l.getD i 0⟩ :: (if deep = false ∧ 0 < i then [⟨9, 0⟩] else [])
theorem sumCode_len (deep : Bool) (l : List Int) : ∀ i, (sumCode deep l i).length ≤ 2 * i
  | 0 => Nat.le_refl _
  | i + 1 => by
    have := sumCode_len deep l i
    unfold sumCode
    rw [List.length_append, List.length_cons]
    split <;> simp <;> omega
def sumTo (l : List Int) (i : Nat) : Int := wrap (l.take i).sum
theorem sumTo_succ (l : List Int) (i : Nat) (h : i < l.length) : sumTo l (i + 1) = wrap (sumTo l i + l.getD i 0) := by
  unfold sumTo
  have e : (l.take (i + 1)).sum = (l.take i).sum + l.getD i 0 := by
    rw [List.take_add_one, List.getElem?_eq_getElem h, List.sum_append]
    simp [h]
  rw [(wrap_add _ _).1, e]
theorem flat_from (p : Pg) (l : List Int) : ∀ (i : Nat) (y : List Instr), i ≤ l.length → exFrom p (sumCode false l i ++ y) 0 = exFrom p y (if i = 0 then 0 else 1)
  | 0, y, _ => rfl
  | i + 1, y, h => by
    unfold sumCode
    rw [List.append_assoc, flat_from p l i _ (by omega)]
    by_cases h0 : i = 0
    · subst h0
      have e : (if false = false ∧ 0 < 0 then [⟨9, 0⟩] else [] : List Instr) = [] := rfl
      rw [if_pos rfl, e, List.cons_append, List.nil_append, go_push p _ _ 0 (by omega) (by omega)]
      rfl
    · have e : (if false = false ∧ 0 < i then [⟨9, 0⟩] else [] : List Instr) = [⟨9, 0⟩] := if_pos ⟨rfl, by omega⟩
      rw [if_neg h0, e, List.cons_append, go_push p _ _ 1 (by omega) (by omega), List.cons_append, List.nil_append, go_add p _ _ (by omega) (by omega)]
      rfl
theorem flat_of (w : Wd) (l : List Int) (hok : ∀ x ∈ l, R64 x) : ∀ (i : Nat), i ≤ l.length → (sumCode false l i).foldl (exStep w) [] = if i = 0 then [] else [sumTo l i]
  | 0, _ => rfl
  | i + 1, h => by
    unfold sumCode
    have e1 : (if i + 1 = 0 then [] else [sumTo l (i + 1)] : List Int) = [sumTo l (i + 1)] := if_neg (by omega)
    rw [List.foldl_append, flat_of w l hok i (by omega), e1, sumTo_succ l i (by omega)]
    by_cases h0 : i = 0
    · subst h0
      have e : (if false = false ∧ 0 < 0 then [⟨9, 0⟩] else [] : List Instr) = [] := rfl
      rw [if_pos rfl, e]
      show [l.getD 0 0] = _
      have : R64 (l.getD 0 0) := by
        have hl : 0 < l.length := by omega
        simp only [List.getD_eq_getElem?_getD, List.getElem?_eq_getElem hl, Option.getD_some]
        exact hok _ (List.getElem_mem hl)
      have e0 : sumTo l 0 = 0 := by unfold sumTo; simp; exact wrap_r (by unfold R64; omega)
      rw [e0, Int.zero_add, wrap_r this]
    · have e : (if false = false ∧ 0 < i then [⟨9, 0⟩] else [] : List Instr) = [⟨9, 0⟩] := if_pos ⟨rfl, by omega⟩
      rw [if_neg h0, e]
      rfl
theorem deep_from (p : Pg) (l : List Int) : ∀ (i : Nat) (y : List Instr), i ≤ l.length → i ≤ 8 → exFrom p (sumCode true l i ++ y) 0 = exFrom p y i
  | 0, y, _, _ => rfl
  | i + 1, y, h, h8 => by
    unfold sumCode
    have e : (if true = false ∧ 0 < i then [⟨9, 0⟩] else [] : List Instr) = [] := if_neg (by rintro ⟨e, _⟩; cases e)
    rw [List.append_assoc, deep_from p l i _ (by omega) (by omega), e, List.cons_append, List.nil_append, go_push p _ _ i (by omega) (by omega)]
    rfl
theorem deep_bad (p : Pg) (l : List Int) : ∀ (i : Nat) (y : List Instr), i ≤ l.length → 8 < i → exFrom p (sumCode true l i ++ y) 0 = 5
  | 0, y, _, h => by omega
  | i + 1, y, h, h8 => by
    unfold sumCode
    rw [List.append_assoc]
    by_cases h9 : i = 8
    · subst h9
      rw [deep_from p l 8 _ (by omega) (by omega), List.cons_append]
      exact push_bad p _ _
    · exact deep_bad p l i _ (by omega) (by omega)
theorem deep_of (w : Wd) (l : List Int) : ∀ (i : Nat), i ≤ l.length → (sumCode true l i).foldl (exStep w) [] = l.take i
  | 0, _ => rfl
  | i + 1, h => by
    unfold sumCode
    have e : (if true = false ∧ 0 < i then [⟨9, 0⟩] else [] : List Instr) = [] := if_neg (by rintro ⟨e, _⟩; cases e)
    have hl : i < l.length := by omega
    rw [List.foldl_append, deep_of w l i (by omega), e, List.take_add_one, List.getElem?_eq_getElem hl]
    show l.take i ++ [l.getD i 0] = _
    simp [hl]
def adds (k : Nat) : List Instr := List.replicate k ⟨9, 0⟩
theorem adds_from (p : Pg) : ∀ (k : Nat) (n : Int) (y : List Instr), (k : Int) < n → n ≤ 8 → exFrom p (adds k ++ y) n = exFrom p y (n - k)
  | 0, n, y, _, _ => by simp [adds]
  | k + 1, n, y, h, h8 => by
    have : adds (k + 1) = ⟨9, 0⟩ :: adds k := rfl
    rw [this, List.cons_append, go_add p _ _ (by omega) (by omega), adds_from p k (n - 1) y (by omega) (by omega)]
    congr 1
    omega
theorem adds_of (w : Wd) (l : List Int) (n : Nat) (hn : n ≤ l.length) : ∀ (k : Nat), k < n → (adds k).foldl (exStep w) (l.take (n - 1) ++ [wrap ((l.take n).drop (n - 1)).sum]) = l.take (n - 1 - k) ++ [wrap ((l.take n).drop (n - 1 - k)).sum]
  | 0, _ => rfl
  | k + 1, h => by
    have e : adds (k + 1) = adds k ++ [⟨9, 0⟩] := by simp [adds, List.replicate_succ']
    rw [e, List.foldl_append, adds_of w l n hn k (by omega)]
    obtain ⟨m, hm⟩ : ∃ m, n - 1 - k = m + 1 := ⟨n - 1 - k - 1, by omega⟩
    have hm2 : n - 1 - (k + 1) = m := by omega
    have hml : m < l.length := by omega
    rw [hm, hm2, List.take_add_one, List.getElem?_eq_getElem hml, List.append_assoc]
    show exStep w (l.take m ++ [l[m], _]) ⟨9, 0⟩ = _
    rw [step_add, (wrap_add _ _).2]
    have hd : (l.take n).drop m = l[m] :: (l.take n).drop (m + 1) := by
      rw [List.drop_eq_getElem_cons (by rw [List.length_take]; omega)]
      simp
    rw [hd, List.sum_cons]
theorem deep_sum (w : Wd) (l : List Int) (hok : ∀ x ∈ l, R64 x) (h0 : 0 < l.length) : (sumCode true l l.length ++ adds (l.length - 1)).foldl (exStep w) [] = [sumTo l l.length] := by
  rw [List.foldl_append, deep_of w l _ (Nat.le_refl _)]
  have h := adds_of w l l.length (Nat.le_refl _) (l.length - 1) (by omega)
  have hl : l.length - 1 < l.length := by omega
  have e : l.take l.length = l.take (l.length - 1) ++ [wrap ((l.take l.length).drop (l.length - 1)).sum] := by
    have hr : R64 l[l.length - 1] := hok _ (List.getElem_mem hl)
    have hd : (l.take l.length).drop (l.length - 1) = [l[l.length - 1]] := by
      rw [List.take_length, List.drop_eq_getElem_cons hl, List.drop_eq_nil_of_le (by omega)]
    rw [hd, List.sum_cons, List.sum_nil, Int.add_zero, wrap_r hr]
    have := List.take_append_drop (l.length - 1) l
    rw [List.take_length] at hd ⊢
    rw [hd] at this
    exact this.symm
  rw [e, h]
  simp [sumTo]
end Go.Proofs.YtlimecfjpfaljaaDoor.W
end
