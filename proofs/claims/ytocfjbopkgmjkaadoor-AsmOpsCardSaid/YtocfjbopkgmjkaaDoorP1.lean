/- Plain: texts cut at a sign; names of messages read. -/
import Derived.Test.YtocfjbopkgmjkaaDoorA8
set_option linter.unusedVariables false
set_option linter.unusedSimpArgs false
set_option linter.unusedSectionVars false
namespace Go.Proofs.YtocfjbopkgmjkaaDoor.W
open Go Go.Sy

/-! ### cut at a sign -/
theorem ix_not {c : UInt8} : ∀ {l : List UInt8}, c ∉ l → Lib.index l [c] = -1
  | [], _ => rfl
  | b :: l, h => by
    have h1 : b ≠ c := fun e => h (by simp [e])
    have h2 := ix_not (c := c) (l := l) (fun e => h (by simp [e]))
    unfold Lib.index
    rw [if_neg (by simp [List.isPrefixOf]; exact fun e => h1 e.symm), h2]
    rfl
theorem ix_at {c : UInt8} (b : List UInt8) : ∀ {a : List UInt8}, c ∉ a → Lib.index (a ++ c :: b) [c] = (a.length : Int)
  | [], _ => by
    show Lib.index (c :: b) [c] = 0
    unfold Lib.index
    rw [if_pos (by simp [List.isPrefixOf])]
  | x :: a, h => by
    have h1 : x ≠ c := fun e => h (by simp [e])
    have h2 := ix_at (c := c) b (a := a) (fun e => h (by simp [e]))
    show Lib.index (x :: (a ++ c :: b)) [c] = _
    unfold Lib.index
    rw [if_neg (by simp [List.isPrefixOf]; exact fun e => h1 e.symm), h2, if_neg (by simp)]
    simp
theorem cut_not {c : UInt8} {l : List UInt8} (h : c ∉ l) : Lib.cut l [c] = (l, [], false) := by
  unfold Lib.cut
  rw [ix_not h, if_neg (by decide)]
theorem cut_at {c : UInt8} {a : List UInt8} (b : List UInt8) (h : c ∉ a) : Lib.cut (a ++ c :: b) [c] = (a, b, true) := by
  unfold Lib.cut
  rw [ix_at b h, if_pos (by omega)]
  simp
def splitC (c : UInt8) : List UInt8 → List (List UInt8)
  | [] => [[]]
  | x :: l => if x = c then [] :: splitC c l else match splitC c l with
    | [] => [[x]]
    | p :: ps => (x :: p) :: ps
theorem splitC_not {c : UInt8} : ∀ {l : List UInt8}, c ∉ l → splitC c l = [l]
  | [], _ => rfl
  | x :: l, h => by
    have h1 : x ≠ c := fun e => h (by simp [e])
    have h2 := splitC_not (c := c) (l := l) (fun e => h (by simp [e]))
    unfold splitC
    rw [if_neg h1, h2]
theorem splitC_at {c : UInt8} (b : List UInt8) : ∀ {a : List UInt8}, c ∉ a → splitC c (a ++ c :: b) = a :: splitC c b
  | [], _ => by
    show splitC c (c :: b) = _
    conv => lhs; unfold splitC
    rw [if_pos rfl]
  | x :: a, h => by
    have h1 : x ≠ c := fun e => h (by simp [e])
    have h2 := splitC_at (c := c) b (a := a) (fun e => h (by simp [e]))
    show splitC c (x :: (a ++ c :: b)) = _
    conv => lhs; unfold splitC
    rw [if_neg h1, h2]
theorem splitC_ne (c : UInt8) (l : List UInt8) : splitC c l ≠ [] := by
  cases l with
  | nil => simp [splitC]
  | cons x l =>
    unfold splitC
    split
    · simp
    · split <;> simp
/-- Pieces with a sign between them. -/
def joinC (c : UInt8) : List (List UInt8) → List UInt8
  | [] => []
  | [p] => p
  | p :: ps => p ++ c :: joinC c ps
theorem joinC_cons (c : UInt8) (p : List UInt8) {ps : List (List UInt8)} (h : ps ≠ []) : joinC c (p :: ps) = p ++ c :: joinC c ps := by
  cases ps with
  | nil => exact absurd rfl h
  | cons q ps => rfl
theorem joinC_split (c : UInt8) : ∀ l : List UInt8, joinC c (splitC c l) = l
  | [] => rfl
  | x :: l => by
    have ih := joinC_split c l
    unfold splitC
    split
    · rename_i h
      rw [joinC_cons c [] (splitC_ne c l), ih, h]
      rfl
    · split
      · rename_i h; exact absurd h (splitC_ne c l)
      · rename_i p ps h
        rw [h] at ih
        cases ps with
        | nil => simp only [joinC] at ih ⊢; rw [ih]
        | cons q ps => simp only [joinC] at ih ⊢; rw [← ih]; rfl
theorem splitK_C (c : UInt8) : ∀ (n : Nat) (l : List UInt8), l.length ≤ n → Lib.splitK [c] 0 (Lib.count l [c]) l = splitC c l := by
  intro n
  induction n with
  | zero =>
    intro l h
    obtain rfl : l = [] := List.eq_nil_of_length_eq_zero (by omega)
    rfl
  | succ n ih =>
    intro l h
    by_cases hc : c ∈ l
    · obtain ⟨a, b, rfl, ha⟩ := List.eq_append_cons_of_mem hc
      have hix := ix_at (c := c) b ha
      rw [Lib.count_hit (by simp) hix, splitC_at b ha, Nat.add_comm]
      unfold Lib.splitK
      rw [hix, if_neg (by simp)]
      have hd : (a ++ c :: b).drop (a.length + [c].length) = b := by simp
      have ht : (a ++ c :: b).take (((a.length : Nat) : Int).toNat + 0) = a := by simp
      have hd2 : (a ++ c :: b).drop (((a.length : Nat) : Int).toNat + [c].length) = b := by simp
      rw [hd, ht, hd2, ih b (by simp at h; omega)]
    · have hix := ix_not hc
      rw [Lib.count_miss hix, splitC_not hc]
      rfl
theorem splitL_C (c : UInt8) (s : ByteArray) : splitL s (bs [c]) = (splitC c s.data.toList).map bs := by
  have h := Lib.splitB_data (bs [c]) 0 (Lib.countB s (bs [c])) s
  have e1 : (bs [c]).data.toList = [c] := by simp [bs]
  have e2 : Lib.countB s (bs [c]) = Lib.count s.data.toList [c] := by unfold Lib.countB; rw [e1]
  rw [e1] at h
  conv at h => rhs; rw [e2, splitK_C c _ _ (Nat.le_refl _)]
  rw [← h, List.map_map]
  have : ∀ l : List ByteArray, l.map (bs ∘ fun x => x.data.toList) = l := by
    intro l
    induction l with
    | nil => rfl
    | cons x l ih => simp only [List.map_cons, ih, Function.comp, bs_inv]
  rw [this]
  rfl

/-- A piece ends at the end, or at the sign. -/
theorem piece_end {c : UInt8} {l : List UInt8} {i fr : Nat} (hfi : fr ≤ i) (hi : i ≤ l.length) (hno : c ∉ (l.take i).drop fr) (he : i = l.length ∨ l[i]? = some c) :
    splitC c (l.drop fr) = (l.take i).drop fr :: (if i = l.length then [] else splitC c (l.drop (i + 1))) := by
  by_cases h : i = l.length
  · rw [if_pos h]
    have e : (l.take i).drop fr = l.drop fr := by rw [List.take_of_length_le (by omega)]
    rw [e] at hno ⊢
    exact splitC_not hno
  · rw [if_neg h]
    have hlt : i < l.length := by omega
    have hc : l[i] = c := by
      rcases he with h' | h'
      · exact absurd h' h
      · rw [List.getElem?_eq_getElem hlt] at h'; simpa using h'
    have e : l.drop fr = (l.take i).drop fr ++ c :: l.drop (i + 1) := by
      conv => lhs; rw [← List.take_append_drop i l]
      rw [List.drop_append_of_le_length (by simp; omega), ← List.getElem_cons_drop hlt, hc]
    rw [e, splitC_at _ hno]
theorem piece_more {c : UInt8} {l : List UInt8} {i fr : Nat} (hfi : fr ≤ i) (hi : i < l.length) (hno : c ∉ (l.take i).drop fr) (he : l[i]? ≠ some c) : c ∉ (l.take (i + 1)).drop fr := by
  rw [List.take_add_one, List.getElem?_eq_getElem hi, Option.toList_some, List.drop_append_of_le_length (by simp; omega)]
  intro hm
  rcases List.mem_append.1 hm with hm | hm
  · exact hno hm
  · rw [List.getElem?_eq_getElem hi] at he
    simp at hm
    exact he (by rw [hm])
theorem byte_is (s : ByteArray) (c : UInt8) (i : Nat) (h : i < s.size) : byteAt s (i : Int) = (c.toNat : Int) ↔ s.data.toList[i]? = some c := by
  have hl : i < s.data.toList.length := by rw [Array.length_toList]; exact h
  rw [byteAt_get s i hl, List.getElem?_eq_getElem hl]
  constructor
  · intro h
    have : (s.data.toList[i]).toNat = c.toNat := by omega
    rw [UInt8.toNat.inj this]
  · intro h
    simp only [Option.some.injEq] at h
    rw [h]
theorem extract_bs (s : ByteArray) (i j : Nat) : s.extract i j = bs ((s.data.toList.take j).drop i) := by
  apply ByteArray.ext
  apply Array.toList_inj.1
  simp [bs, ByteArray.data_extract, Array.toList_extract, List.extract_eq_take_drop, List.drop_take]

/-! ### numerals -/
theorem itoa_mem {n : Int} {c : UInt8} (h : c ∈ Lib.itoa n) : c = 45 ∨ Lib.IsDig c := by
  unfold Lib.itoa at h
  split at h
  · rcases List.mem_cons.1 h with h | h
    · exact .inl h
    · exact .inr (Lib.decDigits_all _ c h)
  · exact .inr (Lib.decDigits_all _ c h)
theorem itoa_no {n : Int} {c : UInt8} (h : c.toNat < 45 ∨ c.toNat = 46 ∨ c.toNat = 47 ∨ 57 < c.toNat) : c ∉ Lib.itoa n := by
  intro hm
  rcases itoa_mem hm with rfl | hd
  · have : (45 : UInt8).toNat = 45 := rfl
    omega
  · unfold Lib.IsDig at hd
    omega
theorem itoa_ne (n : Int) : Lib.itoa n ≠ [] := by
  unfold Lib.itoa
  split
  · simp
  · exact Lib.decDigits_ne _
def numL : List (List UInt8) → Option (List Int)
  | [] => some []
  | s :: l => match Lib.numOf s, numL l with
    | some n, some r => some (n :: r)
    | _, _ => none
theorem numsOf_map : ∀ l : List (List UInt8), numsOf (l.map bs) = numL l
  | [] => rfl
  | s :: l => by
    simp only [List.map_cons, numsOf, numL, bs_toList, numsOf_map l]
    cases Lib.numOf s <;> cases numL l <;> rfl
theorem numL_iff : ∀ (l : List (List UInt8)) (ns : List Int), numL l = some ns ↔ (∀ n ∈ ns, R64 n) ∧ ns.map Lib.itoa = l
  | [], ns => by
    unfold numL
    constructor
    · intro h; cases h; simp
    · rintro ⟨_, h⟩
      simp at h
      rw [h]
  | s :: l, ns => by
    unfold numL
    constructor
    · intro h
      split at h
      · rename_i n r h1 h2
        cases h
        obtain ⟨hr, he⟩ := (Lib.numOf_iff _ _).1 h1
        obtain ⟨hr2, he2⟩ := (numL_iff l r).1 h2
        refine ⟨fun m hm => ?_, by simp [he, he2]⟩
        rcases List.mem_cons.1 hm with rfl | hm
        · exact hr
        · exact hr2 m hm
      · cases h
    · rintro ⟨hr, he⟩
      cases ns with
      | nil => simp at he
      | cons n ns =>
        simp only [List.map_cons, List.cons.injEq] at he
        have h1 := (Lib.numOf_iff s n).2 ⟨hr n (by simp), he.1⟩
        have h2 := (numL_iff l ns).2 ⟨fun m hm => hr m (by simp [hm]), he.2⟩
        rw [h1, h2]
theorem numL_snoc (l : List (List UInt8)) (s : List UInt8) : numL (l ++ [s]) = match numL l, Lib.numOf s with
    | some r, some n => some (r ++ [n])
    | _, _ => none := by
  induction l with
  | nil => simp only [List.nil_append, numL]; cases Lib.numOf s <;> rfl
  | cons x l ih =>
    simp only [List.cons_append, numL, ih]
    cases Lib.numOf x <;> cases numL l <;> cases Lib.numOf s <;> rfl
theorem numL_app_none {l m : List (List UInt8)} (h : numL l = none) : numL (l ++ m) = none := by
  induction l with
  | nil => simp [numL] at h
  | cons x l ih =>
    simp only [List.cons_append, numL] at h ⊢
    cases hx : Lib.numOf x with
    | none => rfl
    | some n =>
      rw [hx] at h
      cases hl : numL l with
      | none => rw [ih hl]
      | some r => rw [hl] at h; cases h

/-! ### names of messages -/
def idOf (l : List UInt8) : Option ID := match numL (splitC 46 l) with
  | some [a, b, c] => some ⟨a, b, c⟩
  | _ => none
theorem parseID_of (s : ByteArray) : parseID s = idOf s.data.toList := by
  unfold parseID idOf dots
  rw [splitL_C, numsOf_map]
  rfl
theorem textID_split (x : ID) : splitC 46 (textID x) = [Lib.itoa x.from_, Lib.itoa x.n, Lib.itoa x.copy] := by
  have h : ∀ n : Int, (46 : UInt8) ∉ Lib.itoa n := fun n => itoa_no (.inr (.inl rfl))
  have e : textID x = Lib.itoa x.from_ ++ 46 :: (Lib.itoa x.n ++ 46 :: Lib.itoa x.copy) := by simp [textID]
  rw [e, splitC_at _ (h _), splitC_at _ (h _), splitC_not (h _)]
theorem idOf_iff (l : List UInt8) (x : ID) : idOf l = some x ↔ x.ok ∧ textID x = l := by
  constructor
  · intro h
    unfold idOf at h
    split at h
    · rename_i a b c hn
      cases h
      obtain ⟨hr, he⟩ := (numL_iff _ _).1 hn
      refine ⟨⟨hr a (by simp), hr b (by simp), hr c (by simp)⟩, ?_⟩
      have := joinC_split 46 l
      rw [← he] at this
      rw [← this]
      simp [textID, joinC]
    · cases h
  · rintro ⟨⟨h1, h2, h3⟩, rfl⟩
    unfold idOf
    have hn := (numL_iff [Lib.itoa x.from_, Lib.itoa x.n, Lib.itoa x.copy] [x.from_, x.n, x.copy]).2 ⟨by simp; exact ⟨h1, h2, h3⟩, rfl⟩
    rw [textID_split, hn]
theorem textID_inj {x y : ID} (hx : x.ok) (hy : y.ok) (h : textID x = textID y) : x = y := by
  have := congrArg (splitC 46) h
  rw [textID_split, textID_split] at this
  simp only [List.cons.injEq, and_true] at this
  obtain ⟨a, b, c⟩ := this
  obtain ⟨x1, x2, x3⟩ := hx
  obtain ⟨y1, y2, y3⟩ := hy
  have e1 := Lib.itoa_inj x1 y1 a
  have e2 := Lib.itoa_inj x2 y2 b
  have e3 := Lib.itoa_inj x3 y3 c
  cases x; cases y
  simp only [ID.mk.injEq]
  exact ⟨e1, e2, e3⟩
end Go.Proofs.YtocfjbopkgmjkaaDoor.W
