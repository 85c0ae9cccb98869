/- Plain: instructions' names, lines, texts of lines. -/
import Derived.Test.YtocfjbopkgmjkaaDoorP1
set_option linter.unusedVariables false
set_option linter.unusedSimpArgs false
set_option linter.unusedSectionVars false
namespace Go.Proofs.YtocfjbopkgmjkaaDoor.W
open Go Go.Sy

/-! ### texts of lines -/
section
variable {α : Type} (line : α → List UInt8) (item : List UInt8 → Option α)
def linesOf : List (List UInt8) → Option (List α)
  | [] => none
  | [l] => if l = [] then some [] else none
  | l :: m :: r => match item l, linesOf (m :: r) with
    | some x, some y => some (x :: y)
    | _, _ => none
/-- What is read of a text of lines. -/
def readG (s : List UInt8) : Option (List α) := linesOf item (splitC 10 s)
def lined (l : List α) : List UInt8 := (l.map fun x => line x ++ [10]).flatten
/-- The text of lines; empty, if one is. -/
def textG (l : List α) : List UInt8 := if l.any (fun x => (line x).isEmpty) then [] else lined line l
theorem readG_nil : readG item [] = some [] := by simp [readG, splitC, linesOf]
theorem readG_line {a b : List UInt8} (h : (10 : UInt8) ∉ a) : readG item (a ++ 10 :: b) = match item a, readG item b with
    | some x, some y => some (x :: y)
    | _, _ => none := by
  unfold readG
  rw [splitC_at b h]
  cases hs : splitC 10 b with
  | nil => exact absurd hs (splitC_ne 10 b)
  | cons m r => rfl
theorem readG_lineB {a b : List UInt8} (h : (10 : UInt8) ∉ a) : readG item (a ++ 10 :: b) = (item a).bind fun x => (readG item b).map (x :: ·) := by
  rw [readG_line item h]
  cases item a <;> cases readG item b <;> rfl
theorem readG_open {a : List UInt8} (h : (10 : UInt8) ∉ a) (h0 : a ≠ []) : readG item a = none := by
  unfold readG
  rw [splitC_not h]
  simp [linesOf, h0]
theorem lined_cons (x : α) (l : List α) : lined line (x :: l) = line x ++ 10 :: lined line l := by simp [lined]
theorem lined_app (a b : List α) : lined line (a ++ b) = lined line a ++ lined line b := by simp [lined]
variable {line item} {ok : α → Prop}
theorem split10 (s : List UInt8) : ((10 : UInt8) ∉ s) ∨ ∃ a b, s = a ++ 10 :: b ∧ (10 : UInt8) ∉ a := by
  induction s with
  | nil => exact .inl (by simp)
  | cons c s ih =>
    by_cases hc : c = 10
    · exact .inr ⟨[], s, by simp [hc], by simp⟩
    · rcases ih with h | ⟨a, b, h1, h2⟩
      · exact .inl (by simp [Ne.symm hc, h])
      · exact .inr ⟨c :: a, b, by simp [h1], by simp [Ne.symm hc, h2]⟩
theorem readG_iff (hi : ∀ l x, item l = some x ↔ ok x ∧ line x = l ∧ l ≠ []) (hn : ∀ x, ok x → (10 : UInt8) ∉ line x) : ∀ (xs : List α) (s : List UInt8), readG item s = some xs ↔ (∀ x ∈ xs, ok x ∧ line x ≠ []) ∧ lined line xs = s := by
  have key : ∀ (n : Nat) (s : List UInt8), s.length ≤ n → ∀ xs, readG item s = some xs ↔ (∀ x ∈ xs, ok x ∧ line x ≠ []) ∧ lined line xs = s := by
    intro n
    induction n with
    | zero =>
      intro s hs xs
      have : s = [] := List.eq_nil_of_length_eq_zero (by omega)
      subst this
      rw [readG_nil]
      constructor
      · intro h; cases h; simp [lined]
      · rintro ⟨_, h⟩
        cases xs with
        | nil => rfl
        | cons x xs => rw [lined_cons] at h; simp at h
    | succ n ih =>
      intro s hs xs
      rcases split10 s with h10 | ⟨a, b, rfl, h10⟩
      · by_cases h0 : s = []
        · exact ih s (by simp [h0]) xs
        · rw [readG_open item h10 h0]
          constructor
          · intro h; cases h
          · rintro ⟨_, h⟩
            cases xs with
            | nil => exact absurd h.symm h0
            | cons x xs => rw [lined_cons] at h; exact absurd (by rw [← h]; simp) h10
      · rw [readG_line item h10]
        have hb : b.length ≤ n := by simp at hs; omega
        have ihb := ih b hb
        constructor
        · intro h
          cases ha : item a with
          | none => rw [ha] at h; cases h
          | some x =>
            cases hb' : readG item b with
            | none => rw [ha, hb'] at h; cases h
            | some ys =>
              rw [ha, hb'] at h
              cases h
              obtain ⟨o1, o2, o3⟩ := (hi a x).1 ha
              obtain ⟨p1, p2⟩ := (ihb ys).1 hb'
              refine ⟨fun z hz => ?_, by rw [lined_cons, o2, p2]⟩
              rcases List.mem_cons.1 hz with rfl | hz
              · exact ⟨o1, by rw [o2]; exact o3⟩
              · exact p1 z hz
        · rintro ⟨h1, h2⟩
          cases xs with
          | nil => simp [lined] at h2
          | cons x ys =>
            rw [lined_cons] at h2
            have hx := h1 x (by simp)
            have hxn := hn x hx.1
            have e : line x = a ∧ lined line ys = b := by
              have l1 := congrArg (splitC 10) h2
              rw [splitC_at _ hxn, splitC_at _ h10] at l1
              have e1 : line x = a := by injection l1
              rw [e1] at h2
              exact ⟨e1, by simpa using h2⟩
            rw [(hi a x).2 ⟨hx.1, e.1, by rw [← e.1]; exact hx.2⟩, (ihb ys).2 ⟨fun z hz => h1 z (by simp [hz]), e.2⟩]
  intro xs s
  exact key s.length s (Nat.le_refl _) xs
end

theorem R64_0 : R64 0 := by unfold R64; omega
/-! ### instructions -/
structure Instr where
  op : Int
  a : Int
  deriving DecidableEq, Inhabited
def Instr.ok (i : Instr) : Prop := R64 i.op ∧ R64 i.a
def eInstr (i : Instr) : List PV := [i64 i.op, i64 i.a]
def pInstr (i : Instr) : PV := .agg (eInstr i)
def opNames : List (List UInt8) := [[112, 117, 115, 104], [112, 111, 112], [99, 111, 112, 121], [115, 119, 97, 112], [108, 111, 97, 100], [115, 116, 111, 114, 101], [97, 114, 103], [115, 101, 108, 102], [97, 100, 100], [115, 117, 98], [109, 117, 108], [100, 105, 118], [109, 111, 100], [110, 101, 103], [101, 113], [108, 101, 115, 115], [97, 110, 100], [111, 114], [110, 111, 116], [106, 117, 109, 112], [122, 101, 114, 111], [115, 101, 110, 100], [97, 114, 109], [99, 97, 108, 109], [101, 110, 100]]
def opValid (op : Int) : Bool := decide (1 ≤ op) && decide (op ≤ 25)
def opName (op : Int) : List UInt8 := if opValid op then opNames.getD (op - 1).toNat [] else []
def findIn (s : List UInt8) : List (List UInt8) → Nat → Int
  | [], _ => -1
  | x :: l, k => if x = s then (k : Int) else findIn s l (k + 1)
/-- The instruction of a name; 0: none. -/
def opFind (s : List UInt8) : Int := findIn s opNames 0 + 1
def operand (op : Int) : Int := if op = 1 then 1 else if op = 5 ∨ op = 6 then 2 else if op = 7 then 3 else if op = 20 ∨ op = 21 then 4 else if op = 22 then 5 else 0
def lineOf (i : Instr) : List UInt8 := if operand i.op ≠ 0 then opName i.op ++ [32] ++ Lib.itoa i.a else if i.a ≠ 0 then [] else opName i.op
/-- The instruction of a line. -/
def lineIn (s : List UInt8) : Option Instr :=
  match Lib.cut s [32] with
  | (name, rest, some_) => if opFind name = 0 ∨ some_ ≠ decide (operand (opFind name) ≠ 0) then none else if some_ then (Lib.numOf rest).map fun n => ⟨opFind name, n⟩ else some ⟨opFind name, 0⟩
theorem opFind_rng (s : List UInt8) : 0 ≤ opFind s ∧ opFind s ≤ 25 := by
  have : ∀ (l : List (List UInt8)) (k : Nat), -1 ≤ findIn s l k ∧ findIn s l k < k + l.length := by
    intro l
    induction l with
    | nil => intro k; simp [findIn]; omega
    | cons x l ih =>
      intro k
      unfold findIn
      split
      · simp; omega
      · have := ih (k + 1); simp; omega
  have h := this opNames 0
  have hl : opNames.length = 25 := rfl
  rw [hl] at h
  unfold opFind
  omega
theorem opFind_name (op : Int) (h : opValid op = true) : opFind (opName op) = op := by
  simp [opValid] at h
  have : op = 1 ∨ op = 2 ∨ op = 3 ∨ op = 4 ∨ op = 5 ∨ op = 6 ∨ op = 7 ∨ op = 8 ∨ op = 9 ∨ op = 10 ∨ op = 11 ∨ op = 12 ∨ op = 13 ∨ op = 14 ∨ op = 15 ∨ op = 16 ∨ op = 17 ∨ op = 18 ∨ op = 19 ∨ op = 20 ∨ op = 21 ∨ op = 22 ∨ op = 23 ∨ op = 24 ∨ op = 25 := by omega
  rcases this with rfl | rfl | rfl | rfl | rfl | rfl | rfl | rfl | rfl | rfl | rfl | rfl | rfl | rfl | rfl | rfl | rfl | rfl | rfl | rfl | rfl | rfl | rfl | rfl | rfl <;> decide
theorem opFind_inv {s : List UInt8} (h : opFind s ≠ 0) : opValid (opFind s) = true ∧ opName (opFind s) = s := by
  have key : ∀ (l : List (List UInt8)) (k : Nat), findIn s l k ≠ -1 → ∃ j : Nat, findIn s l k = (k + j : Nat) ∧ l[j]? = some s := by
    intro l
    induction l with
    | nil => intro k hk; exact absurd rfl hk
    | cons x l ih =>
      intro k hk
      unfold findIn at hk ⊢
      by_cases hx : x = s
      · rw [if_pos hx]; exact ⟨0, rfl, by simp [hx]⟩
      · rw [if_neg hx] at hk ⊢
        obtain ⟨j, h1, h2⟩ := ih (k + 1) hk
        exact ⟨j + 1, by rw [h1]; congr 1; omega, by simpa using h2⟩
  have hr := opFind_rng s
  unfold opFind at h ⊢
  obtain ⟨j, h1, h2⟩ := key opNames 0 (by omega)
  have hj : j < opNames.length := (List.getElem?_eq_some_iff.1 h2).1
  have hv : opValid (findIn s opNames 0 + 1) = true := by
    rw [h1]; simp [opNames] at hj; simp [opValid]; omega
  refine ⟨hv, ?_⟩
  unfold opName
  rw [if_pos hv, h1, List.getD_eq_getElem?_getD]
  have : (((0 + j : Nat) : Int) + 1 - 1).toNat = j := by omega
  rw [this, h2]; rfl
theorem opName_ne {op : Int} (h : opValid op = true) : opName op ≠ [] := by
  intro e
  have := opFind_name op h
  rw [e] at this
  have h0 : opFind [] = 0 := by decide
  rw [h0] at this
  rw [← this] at h
  exact absurd h (by decide)
theorem opName_no (op : Int) (c : UInt8) (hc : c.toNat < 97) : c ∉ opName op := by
  unfold opName
  split
  · intro hm
    have hall : ∀ l ∈ opNames, ∀ x ∈ l, 97 ≤ x.toNat := by decide
    rw [List.getD_eq_getElem?_getD] at hm
    cases hg : opNames[(op - 1).toNat]? with
    | none => rw [hg] at hm; simp at hm
    | some l =>
      rw [hg] at hm
      have := hall l (List.mem_of_getElem? hg) c hm
      omega
  · simp
theorem operand_valid {op : Int} (h : operand op ≠ 0) : opValid op = true := by
  unfold operand at h
  simp [opValid]
  repeat' split at h
  all_goals omega
theorem lineIn_iff (l : List UInt8) (i : Instr) : lineIn l = some i ↔ i.ok ∧ lineOf i = l ∧ l ≠ [] := by
  have hrng : ∀ s, R64 (opFind s) := fun s => by have := opFind_rng s; unfold R64; omega
  constructor
  · intro h
    have hsp : ((32 : UInt8) ∉ l) ∨ ∃ a b, l = a ++ 32 :: b ∧ (32 : UInt8) ∉ a := by
      clear h
      induction l with
      | nil => exact .inl (by simp)
      | cons c s ih =>
        by_cases hc : c = 32
        · exact .inr ⟨[], s, by simp [hc], by simp⟩
        · rcases ih with h | ⟨a, b, h1, h2⟩
          · exact .inl (by simp [Ne.symm hc, h])
          · exact .inr ⟨c :: a, b, by simp [h1], by simp [Ne.symm hc, h2]⟩
    unfold lineIn at h
    rcases hsp with hno | ⟨a, b, rfl, hno⟩
    · rw [cut_not hno] at h
      simp only [Bool.false_eq_true, if_false] at h
      split at h
      · cases h
      · rename_i hh
        have h1 : opFind l ≠ 0 := fun e => hh (.inl e)
        have h2 : operand (opFind l) = 0 := by
          by_cases e : operand (opFind l) = 0
          · exact e
          · exact absurd (.inr (by simp [e])) hh
        cases h
        obtain ⟨v1, v2⟩ := opFind_inv h1
        refine ⟨⟨hrng l, by unfold R64; simp⟩, ?_, fun e => ?_⟩
        · unfold lineOf; simp [h2, v2]
        · rw [e] at h1; exact h1 (by decide)
    · rw [cut_at b hno] at h
      simp only [if_true] at h
      split at h
      · cases h
      · rename_i hh
        have h1 : opFind a ≠ 0 := fun e => hh (.inl e)
        have h2 : operand (opFind a) ≠ 0 := fun e => hh (.inr (by simp [e]))
        simp only [Option.map_eq_some_iff] at h
        obtain ⟨n, hn, rfl⟩ := h
        obtain ⟨v1, v2⟩ := opFind_inv h1
        obtain ⟨n1, n2⟩ := (Lib.numOf_iff _ _).1 hn
        refine ⟨⟨hrng a, n1⟩, ?_, by simp⟩
        unfold lineOf
        simp [h2, v2, n2]
  · rintro ⟨⟨h1, h2⟩, rfl, hne⟩
    unfold lineOf at hne ⊢
    by_cases ho : operand i.op ≠ 0
    · rw [if_pos ho] at hne ⊢
      have hv := operand_valid ho
      unfold lineIn
      rw [List.append_assoc]
      rw [show opName i.op ++ ([32] ++ Lib.itoa i.a) = opName i.op ++ 32 :: Lib.itoa i.a by simp, cut_at _ (opName_no _ _ (by decide))]
      simp only [opFind_name _ hv, if_true]
      have hop : i.op ≠ 0 := fun e => by rw [e] at hv; exact absurd hv (by decide)
      rw [if_neg (by simp [hop, ho]), (Lib.numOf_iff _ _).2 ⟨h2, rfl⟩]
      rfl
    · rw [if_neg ho] at hne ⊢
      by_cases ha : i.a ≠ 0
      · rw [if_pos ha] at hne; exact absurd rfl hne
      · rw [if_neg ha] at hne ⊢
        have ho : operand i.op = 0 := by simpa using ho
        have ha : i.a = 0 := by simpa using ha
        have hv : opValid i.op = true := by
          unfold opName at hne
          by_cases h : opValid i.op = true
          · exact h
          · rw [if_neg h] at hne; exact absurd rfl hne
        unfold lineIn
        rw [cut_not (opName_no _ _ (by decide))]
        have hop : i.op ≠ 0 := fun e => by rw [e] at hv; exact absurd hv (by decide)
        simp only [opFind_name _ hv, Bool.false_eq_true, if_false]
        rw [if_neg (by simp [hop, ho])]
        cases i
        simp_all
theorem lineOf_no (i : Instr) (c : UInt8) (hc : c.toNat < 45) (h32 : c ≠ 32) : c ∉ lineOf i := by
  unfold lineOf
  have h1 := opName_no i.op c (by omega)
  have h2 := itoa_no (n := i.a) (c := c) (.inl hc)
  repeat' split
  · simp [h1, h2, h32]
  · simp
  · exact h1
theorem opName_len (op : Int) : (opName op).length ≤ 5 := by
  unfold opName
  split
  · have hall : ∀ l ∈ opNames, l.length ≤ 5 := by decide
    rw [List.getD_eq_getElem?_getD]
    cases hg : opNames[(op - 1).toNat]? with
    | none => simp
    | some l => exact hall l (List.mem_of_getElem? hg)
  · simp
theorem cut_len (l : List UInt8) (c : UInt8) : (Lib.cut l [c]).1.length ≤ l.length ∧ (Lib.cut l [c]).2.1.length ≤ l.length := by
  have : (c ∉ l) ∨ ∃ a b, l = a ++ c :: b ∧ c ∉ a := by
    induction l with
    | nil => exact .inl (by simp)
    | cons x s ih =>
      by_cases hc : x = c
      · exact .inr ⟨[], s, by simp [hc], by simp⟩
      · rcases ih with h | ⟨a, b, h1, h2⟩
        · exact .inl (by simp [Ne.symm hc, h])
        · exact .inr ⟨x :: a, b, by simp [h1], by simp [Ne.symm hc, h2]⟩
  rcases this with h | ⟨a, b, rfl, h⟩
  · rw [cut_not h]; simp
  · rw [cut_at b h]; simp; omega
theorem nilB : (ByteArray.mk #[]).toList = [] := by rw [ByteArray.toList_eq]
theorem toL_ne (l : List UInt8) (h : l ≠ []) : ¬ (bs l).toList = (ByteArray.mk #[]).toList := fun e => h (by rw [nilB, ByteArray.toList_eq] at e; simpa [bs] using e)
theorem lineOf_len (i : Instr) (h : i.ok) : (lineOf i).length ≤ 30 := by
  have := opName_len i.op
  have := Lib.itoa_length_le i.a h.2.1 h.2.2
  unfold lineOf
  repeat' split
  · simp; omega
  · simp
  · omega
def codeIn (s : List UInt8) : Option (List Instr) := readG lineIn s
def codeText (l : List Instr) : List UInt8 := textG lineOf l
theorem codeIn_iff (xs : List Instr) (s : List UInt8) : codeIn s = some xs ↔ (∀ x ∈ xs, x.ok ∧ lineOf x ≠ []) ∧ lined lineOf xs = s :=
  readG_iff lineIn_iff (fun x _ => lineOf_no x 10 (by decide) (by decide)) xs s
end Go.Proofs.YtocfjbopkgmjkaaDoor.W
