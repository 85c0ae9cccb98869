/- Texts merged: Num. -/
import Derived.Lib.AtoiAll
import Derived.Lib.AtoiAllCases
import Derived.Lib.ItoaNum
import Derived.Lib.ItoaLen
import Derived.Lib.ItoaMem
section
/- Decimal numerals: what strconv.Itoa writes strconv.Atoi reads, and nothing else is written for it. Plain Lean, no program. -/
set_option linter.unusedVariables false
namespace Go.Lib
/-- What a row of digits spells, behind what stands ahead of it. -/
def dval (acc : Nat) (l : List UInt8) : Nat := l.foldl (fun a c => a * 10 + (c.toNat - 48)) acc
def IsDig (c : UInt8) : Prop := 48 ≤ c.toNat ∧ c.toNat ≤ 57
theorem dval_append (acc : Nat) (l r : List UInt8) : dval acc (l ++ r) = dval (dval acc l) r := by simp [dval, List.foldl_append]
theorem dig_of {d : Nat} (h : d < 10) : IsDig (UInt8.ofNat (48 + d)) ∧ (UInt8.ofNat (48 + d)).toNat - 48 = d := by
  have e : (UInt8.ofNat (48 + d)).toNat = 48 + d := by rw [UInt8.toNat_ofNat']; omega
  unfold IsDig
  rw [e]
  omega
theorem decDigits_all (u : Nat) : ∀ c ∈ decDigits u, IsDig c := by
  induction u using Nat.strongRecOn with
  | _ u ih =>
    rw [decDigits]
    split
    · rename_i h
      intro c hc
      rw [List.mem_singleton.1 hc]
      exact (dig_of h).1
    · rename_i h
      intro c hc
      rcases List.mem_append.1 hc with hc | hc
      · exact ih (u / 10) (by omega) c hc
      · rw [List.mem_singleton.1 hc]
        exact (dig_of (Nat.mod_lt _ (by decide))).1
theorem decDigits_val (u : Nat) : dval 0 (decDigits u) = u := by
  induction u using Nat.strongRecOn with
  | _ u ih =>
    rw [decDigits]
    split
    · rename_i h
      simp only [dval, List.foldl_cons, List.foldl_nil]
      rw [(dig_of h).2]
      omega
    · rename_i h
      rw [dval_append, ih (u / 10) (by omega)]
      simp only [dval, List.foldl_cons, List.foldl_nil]
      rw [(dig_of (Nat.mod_lt u (by decide))).2]
      omega
theorem decDigits_ne (u : Nat) : decDigits u ≠ [] := by
  have := nDigits_pos u
  intro h
  have h2 := decDigits_length u
  rw [h] at h2
  simp at h2
  omega
theorem dval_ge : ∀ (l : List UInt8) (acc : Nat), acc ≤ dval acc l
  | [], acc => Nat.le_refl _
  | c :: r, acc => by
    have := dval_ge r (acc * 10 + (c.toNat - 48))
    simp only [dval, List.foldl_cons] at this ⊢
    omega
theorem parse_digits : ∀ (l : List UInt8) (acc : Nat), (∀ c ∈ l, IsDig c) → dval acc l < 18446744073709551616 → parseUint10 acc l = .ok (dval acc l)
  | [], acc, _, _ => rfl
  | c :: r, acc, hd, hv => by
    have hc := hd c (List.mem_cons_self ..)
    unfold IsDig at hc
    have e : dval acc (c :: r) = dval (acc * 10 + (c.toNat - 48)) r := rfl
    have hge := dval_ge r (acc * 10 + (c.toNat - 48))
    rw [e] at hv ⊢
    unfold parseUint10
    rw [if_pos hc, if_neg (by omega), if_neg (by omega)]
    exact parse_digits r _ (fun x hx => hd x (List.mem_cons_of_mem _ hx)) hv
theorem atoi_itoa (n : Int) (h0 : -9223372036854775808 ≤ n) (h1 : n ≤ 9223372036854775807) : atoiAll (itoa n) = .ok n := by
  have mag : ∀ u : Nat, u < 18446744073709551616 → parseMag (decDigits u) = .ok u := by
    intro u hu
    unfold parseMag
    rw [if_neg (decDigits_ne u), parse_digits _ 0 (decDigits_all u) (by rw [decDigits_val]; exact hu), decDigits_val]
  by_cases hn : n < 0
  · obtain ⟨u, rfl⟩ : ∃ u : Nat, n = -(u : Int) := ⟨n.natAbs, by omega⟩
    rw [itoa_neg u (by omega), atoiAll_minus, mag u (by omega)]
    unfold signed
    simp only
    rw [if_neg (by omega)]
  · obtain ⟨u, rfl⟩ : ∃ u : Nat, n = (u : Int) := ⟨n.toNat, by omega⟩
    rw [itoa_nonneg]
    have hm := mag u (by omega)
    cases hd : decDigits u with
    | nil => exact absurd hd (decDigits_ne u)
    | cons c r =>
      have hc := decDigits_all u c (by rw [hd]; exact List.mem_cons_self ..)
      unfold IsDig at hc
      rw [atoiAll_plain c r (by omega) (by omega), ← hd, hm]
      unfold signless
      simp only
      rw [if_neg (by omega)]
/-- The number that a text is, written as a number is written; none: it is none. -/
def numOf (l : List UInt8) : Option Int := match atoiAll l with | .ok v => if itoa v = l then some v else none | _ => none
theorem numOf_iff (l : List UInt8) (n : Int) : numOf l = some n ↔ (-9223372036854775808 ≤ n ∧ n ≤ 9223372036854775807) ∧ itoa n = l := by
  constructor
  · intro h
    unfold numOf at h
    split at h
    · rename_i v hv
      split at h
      · rename_i he
        cases h
        exact ⟨atoiAll_bounds hv, he⟩
      · cases h
    · cases h
  · rintro ⟨⟨h0, h1⟩, rfl⟩
    unfold numOf
    rw [atoi_itoa n h0 h1]
    simp
theorem itoa_inj {a b : Int} (ha : -9223372036854775808 ≤ a ∧ a ≤ 9223372036854775807) (hb : -9223372036854775808 ≤ b ∧ b ≤ 9223372036854775807) (h : itoa a = itoa b) : a = b := by
  have h1 := (numOf_iff (itoa a) a).2 ⟨ha, rfl⟩
  have h2 := (numOf_iff (itoa a) b).2 ⟨hb, h.symm⟩
  rw [h1] at h2
  exact Option.some.inj h2
end Go.Lib
end
