/- Plain: names of events read. -/
import Derived.Test.YtocfjbopkgmjkaaDoorA9
set_option linter.unusedVariables false
set_option linter.unusedSimpArgs false
set_option linter.unusedSectionVars false
namespace Go.Proofs.YtocfjbopkgmjkaaDoor.W
open Go Go.Sy

def kN (k : Nat) : List UInt8 := (kindNames.getD k default).data.toList
theorem kN_eq (k : Nat) : kindName (k : Int) = kN k := rfl
def wd (k : Nat) : List UInt8 := kN k ++ [32]
theorem kN_no (k : Nat) (h : k ≤ 5) : (32 : UInt8) ∉ kN k := by
  rcases k with _ | _ | _ | _ | _ | _ | k
  all_goals first
    | decide
    | omega
theorem kN_inj {j k : Nat} (hj : j ≤ 5) (hk : k ≤ 5) (h : kN j = kN k) : j = k := by
  have : ∀ j : Fin 6, ∀ k : Fin 6, kN j = kN k → j = k := by decide
  have := this ⟨j, by omega⟩ ⟨k, by omega⟩ h
  simpa using this
theorem wd_inj {j k : Nat} {l : List UInt8} (hj : j ≤ 5) (hk : k ≤ 5) (h1 : wd j <+: l) (h2 : wd k <+: l) : j = k := by
  obtain ⟨a, ha⟩ := h1
  obtain ⟨b, hb⟩ := h2
  have e1 := cut_at a (kN_no j hj)
  have e2 := cut_at b (kN_no k hk)
  have e3 : kN j ++ 32 :: a = kN k ++ 32 :: b := by
    have : wd j ++ a = wd k ++ b := by rw [ha, hb]
    simpa [wd] using this
  rw [e3, e2] at e1
  simp only [Prod.mk.injEq] at e1
  exact (kN_inj hk hj e1.1).symm
def evAt (k : Nat) (rest : List UInt8) : Option Ev :=
  if k ≤ 3 then (idOf rest).map (fun x => ⟨k, x, 0⟩) else (Lib.numOf rest).map (fun n => ⟨k, ⟨0, 0, 0⟩, n⟩)
def evOf (l : List UInt8) : Option Ev := match [1, 2, 3, 4, 5].find? (fun k => (wd k).isPrefixOf l) with
  | some k => evAt k (l.drop (wd k).length)
  | none => none
theorem evOf_hit {l : List UInt8} {k : Nat} (h1 : 1 ≤ k) (h5 : k ≤ 5) (h : wd k <+: l) : evOf l = evAt k (l.drop (wd k).length) := by
  unfold evOf
  cases hf : [1, 2, 3, 4, 5].find? (fun k => (wd k).isPrefixOf l) with
  | none =>
    rw [List.find?_eq_none] at hf
    exact absurd (List.isPrefixOf_iff_prefix.2 h) (hf k (by rcases k with _ | _ | _ | _ | _ | _ | k <;> first | omega | simp))
  | some j =>
    have hp := List.find?_some hf
    have hm := List.mem_of_find?_eq_some hf
    have hj : j ≤ 5 := by simp at hm; omega
    obtain rfl := wd_inj hj h5 (List.isPrefixOf_iff_prefix.1 hp) h
    rfl
theorem evOf_miss {l : List UInt8} (h : ∀ k, 1 ≤ k → k < 6 → ¬ wd k <+: l) : evOf l = none := by
  unfold evOf
  rw [List.find?_eq_none.2]
  intro k hk hp
  have : 1 ≤ k ∧ k < 6 := by simp at hk; omega
  exact h k this.1 this.2 (List.isPrefixOf_iff_prefix.1 hp)
theorem nameEv_msg (e : Ev) (k : Nat) (hk : e.kind = (k : Int)) (h1 : 1 ≤ k) (h3 : k ≤ 3) (hw : e.who = 0) : nameEv e = wd k ++ textID e.id := by
  unfold nameEv
  rw [if_pos (by simp [isMsg, hk, hw]; omega), hk, kN_eq]
  rfl
theorem nameEv_act (e : Ev) (k : Nat) (hk : e.kind = (k : Int)) (h4 : k = 4 ∨ k = 5) (hi : e.id = ⟨0, 0, 0⟩) : nameEv e = wd k ++ Lib.itoa e.who := by
  unfold nameEv
  rw [if_neg (by simp [isMsg, hk]; omega), if_pos (by simp [isAct, hk, hi]; omega), hk, kN_eq]
  rfl
theorem nameEv_cases (e : Ev) : (∃ k : Nat, e.kind = (k : Int) ∧ 1 ≤ k ∧ k ≤ 3 ∧ e.who = 0) ∨ (∃ k : Nat, e.kind = (k : Int) ∧ (k = 4 ∨ k = 5) ∧ e.id = ⟨0, 0, 0⟩) ∨ nameEv e = [] := by
  by_cases h1 : (isMsg e.kind && decide (e.who = 0)) = true
  · simp [isMsg] at h1
    exact .inl ⟨e.kind.toNat, by omega, by omega, by omega, h1.2⟩
  · by_cases h2 : (isAct e.kind && decide (e.id = ⟨0, 0, 0⟩)) = true
    · simp only [isAct, Bool.and_eq_true, Bool.or_eq_true, decide_eq_true_eq] at h2
      exact .inr (.inl ⟨e.kind.toNat, by omega, by omega, h2.2⟩)
    · refine .inr (.inr ?_)
      unfold nameEv
      rw [if_neg h1, if_neg h2]
theorem wd_ne (k : Nat) (l : List UInt8) : wd k ++ l ≠ [] := by simp [wd]
theorem R64_small (k : Nat) (h : k ≤ 5) : R64 (k : Int) := by unfold R64; omega
theorem R64_zero : R64 0 := by unfold R64; omega
theorem evAt_some {k : Nat} {r : List UInt8} {e : Ev} (h1 : 1 ≤ k) (h5 : k ≤ 5) (h : evAt k r = some e) : e.ok ∧ nameEv e = wd k ++ r := by
  unfold evAt at h
  split at h
  · rename_i h3
    rw [Option.map_eq_some_iff] at h
    obtain ⟨x, hx, rfl⟩ := h
    obtain ⟨ho, ht⟩ := (idOf_iff _ _).1 hx
    exact ⟨⟨R64_small k h5, ho, R64_zero⟩, by rw [nameEv_msg _ k rfl h1 h3 rfl, ht]⟩
  · rename_i h3
    rw [Option.map_eq_some_iff] at h
    obtain ⟨x, hx, rfl⟩ := h
    obtain ⟨ho, ht⟩ := (Lib.numOf_iff _ _).1 hx
    exact ⟨⟨R64_small k h5, ⟨R64_zero, R64_zero, R64_zero⟩, ho⟩, by rw [nameEv_act _ k rfl (by omega) rfl, ht]⟩
theorem evOf_iff (l : List UInt8) (e : Ev) : evOf l = some e ↔ e.ok ∧ nameEv e = l ∧ l ≠ [] := by
  constructor
  · intro h
    by_cases hk : ∃ k, 1 ≤ k ∧ k < 6 ∧ wd k <+: l
    · obtain ⟨k, h1, h6, hp⟩ := hk
      rw [evOf_hit h1 (by omega) hp] at h
      obtain ⟨ho, hn⟩ := evAt_some h1 (by omega) h
      obtain ⟨r, rfl⟩ := hp
      rw [List.drop_left] at hn
      exact ⟨ho, hn, wd_ne _ _⟩
    · rw [evOf_miss (fun k h1 h6 hp => hk ⟨k, h1, h6, hp⟩)] at h
      cases h
  · rintro ⟨⟨hk, hi, hw⟩, rfl, hne⟩
    rcases nameEv_cases e with ⟨k, he, h1, h3, h0⟩ | ⟨k, he, h4, h0⟩ | h
    · rw [nameEv_msg e k he h1 h3 h0, evOf_hit h1 (by omega) (List.prefix_append _ _), List.drop_left]
      unfold evAt
      rw [if_pos h3, (idOf_iff _ _).2 ⟨hi, rfl⟩]
      cases e
      simp at he h0 ⊢
      exact ⟨he.symm, h0.symm⟩
    · rw [nameEv_act e k he h4 h0, evOf_hit (by omega) (by omega) (List.prefix_append _ _), List.drop_left]
      unfold evAt
      rw [if_neg (by omega), (Lib.numOf_iff _ _).2 ⟨hw, rfl⟩]
      cases e
      simp at he h0 ⊢
      exact ⟨he.symm, h0.symm⟩
    · exact absurd h hne
theorem nameEv_inj {x y : Ev} (hx : x.ok) (hy : y.ok) (hne : nameEv x ≠ []) (h : nameEv x = nameEv y) : x = y := by
  have h1 := (evOf_iff (nameEv x) x).2 ⟨hx, rfl, hne⟩
  have h2 := (evOf_iff (nameEv x) y).2 ⟨hy, h.symm, hne⟩
  rw [h1] at h2
  exact Option.some.inj h2

/-! ### as the program reads -/
def kindOf (nm : List UInt8) : Nat → Nat
  | 0 => 0
  | i + 1 => if kN i = nm then i else kindOf nm i
theorem kindOf_le (nm : List UInt8) : ∀ i, kindOf nm i ≤ i - 1
  | 0 => Nat.le_refl _
  | i + 1 => by
    have := kindOf_le nm i
    unfold kindOf
    split <;> omega
theorem kindOf_kN (k : Nat) (h : k ≤ 5) : kindOf (kN k) 6 = k := by
  rcases k with _ | _ | _ | _ | _ | _ | k
  all_goals first
    | decide
    | omega
def ev0 (l : List UInt8) : Ev :=
  let c := Lib.cut l [32]
  let k := kindOf c.1 6
  if isMsg k then ⟨k, (idOf c.2.1).getD ⟨0, 0, 0⟩, 0⟩ else if isAct k then ⟨k, ⟨0, 0, 0⟩, (Lib.numOf c.2.1).getD 0⟩ else ⟨k, ⟨0, 0, 0⟩, 0⟩
def eventL (l : List UInt8) : Option Ev := if l = [] ∨ nameEv (ev0 l) ≠ l then none else some (ev0 l)
theorem ev0_ok (l : List UInt8) : (ev0 l).ok := by
  have hz : (⟨0, 0, 0⟩ : ID).ok := ⟨R64_zero, R64_zero, R64_zero⟩
  have hk := R64_small (kindOf (Lib.cut l [32]).1 6) (by have := kindOf_le (Lib.cut l [32]).1 6; omega)
  unfold ev0
  simp only
  split
  · refine ⟨hk, ?_, R64_zero⟩
    show ((idOf (Lib.cut l [32]).2.1).getD ⟨0, 0, 0⟩).ok
    cases h : idOf (Lib.cut l [32]).2.1 with
    | none => exact hz
    | some x => exact ((idOf_iff _ _).1 h).1
  · split
    · refine ⟨hk, hz, ?_⟩
      show R64 ((Lib.numOf (Lib.cut l [32]).2.1).getD 0)
      cases h : Lib.numOf (Lib.cut l [32]).2.1 with
      | none => exact R64_zero
      | some x => exact ((Lib.numOf_iff _ _).1 h).1
    · exact ⟨hk, hz, R64_zero⟩
theorem ev0_name (e : Ev) (he : e.ok) (hne : nameEv e ≠ []) : ev0 (nameEv e) = e := by
  obtain ⟨hk, hi, hw⟩ := he
  rcases nameEv_cases e with ⟨k, he, h1, h3, h0⟩ | ⟨k, he, h4, h0⟩ | h
  · rw [nameEv_msg e k he h1 h3 h0]
    have hc : Lib.cut (wd k ++ textID e.id) [32] = (kN k, textID e.id, true) := by
      have := cut_at (textID e.id) (kN_no k (by omega))
      simpa [wd] using this
    unfold ev0
    simp only [hc]
    rw [kindOf_kN k (by omega), if_pos (by simp [isMsg]; omega), (idOf_iff _ _).2 ⟨hi, rfl⟩]
    cases e
    simp at he h0 ⊢
    exact ⟨he.symm, h0.symm⟩
  · rw [nameEv_act e k he h4 h0]
    have hc : Lib.cut (wd k ++ Lib.itoa e.who) [32] = (kN k, Lib.itoa e.who, true) := by
      have := cut_at (Lib.itoa e.who) (kN_no k (by omega))
      simpa [wd] using this
    unfold ev0
    simp only [hc]
    rw [kindOf_kN k (by omega), if_neg (by simp [isMsg]; omega), if_pos (by simp [isAct]; omega), (Lib.numOf_iff _ _).2 ⟨hw, rfl⟩]
    cases e
    simp at he h0 ⊢
    exact ⟨he.symm, h0.symm⟩
  · exact absurd h hne
theorem eventL_eq (l : List UInt8) : eventL l = evOf l := by
  unfold eventL
  split
  · rename_i h
    cases he : evOf l with
    | none => rfl
    | some e =>
      obtain ⟨ho, hn, hne⟩ := (evOf_iff _ _).1 he
      rcases h with h | h
      · exact absurd h hne
      · have := ev0_name e ho (by rw [hn]; exact hne)
        rw [hn] at this
        rw [this] at h
        exact absurd hn h
  · rename_i h
    have h1 : l ≠ [] := fun e => h (.inl e)
    have h2 : nameEv (ev0 l) = l := Classical.byContradiction fun e => h (.inr e)
    exact ((evOf_iff _ _).2 ⟨ev0_ok l, h2, h1⟩).symm
end Go.Proofs.YtocfjbopkgmjkaaDoor.W
