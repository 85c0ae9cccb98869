/- Texts merged: P10, E0. -/
import Derived.Test.YtffckdfcmdmnoaaDoorM21
import Derived.Test.YtffckdfcmdmnoaaDoorM19
section
/- Plain: an expression's text (chapter 13). -/
set_option linter.unusedVariables false
set_option linter.unusedSimpArgs false
set_option linter.unusedSectionVars false
namespace Go.Proofs.YtffckdfcmdmnoaaDoor.W
open Go Go.Sy

/- "reg down over waiting armed sent mail" -/
theorem joinTail_cons (sep x : List UInt8) (r : List (List UInt8)) : Lib.joinTail sep (x :: r) = sep ++ x ++ Lib.joinTail sep r := by simp [Lib.joinTail]
theorem join_len (sep : List UInt8) (n : Nat) : ∀ (l : List (List UInt8)), (∀ x ∈ l, x.length ≤ n) → (Lib.joinTail sep l).length ≤ l.length * (n + sep.length)
  | [], _ => by simp [Lib.joinTail]
  | x :: l, h => by
    have := join_len sep n l (fun y hy => h y (by simp [hy]))
    have h1 := h x (by simp)
    rw [joinTail_cons]
    simp only [List.length_append, List.length_cons, Nat.add_mul]
    omega
end Go.Proofs.YtffckdfcmdmnoaaDoor.W
end
section
/- Walks: joined texts, and rounds. -/
set_option linter.unusedVariables false
set_option linter.unusedSimpArgs false
set_option linter.unusedSectionVars false
set_option pp.maxSteps 40000
set_option maxHeartbeats 4000000
namespace Go.Proofs.YtffckdfcmdmnoaaDoor.W
open Go Go.Sy

theorem join_ (xs : List ByteArray) (sep : ByteArray) (hN : xs.length ≤ 100000) (hlen : (Lib.join (xs.map (·.data.toList)) sep.data.toList).length ≤ 140737488355328) : Pure Tryd.prog 46 [sl 1 eStr xs, str sep] (str (bs (Lib.join (xs.map (·.data.toList)) sep.data.toList))) := by
  refine ⟨⟨_, Tryd.func46, by kernel_rfl, by kernel_rfl⟩, fun K w vs hg hk hsz hv => ?_⟩
  have h1 : rd vs 1 = .string sep := (hv 1 (str sep) rfl).atom_inv
  have h0 := hv 0 _ rfl
  have hvs : vs = #[rd vs 0, .string sep] := by
    rw [← h1]
    have hs : vs.size = 2 := hsz
    apply Array.ext
    · simp [hs]
    · intro i hi1 hi2
      rcases i with _ | _ | i
      · simp [rd, hs]
      · simp [rd, hs]
      · simp at hi2; omega
  rw [hvs]
  generalize rd vs 0 = v at h0
  clear hvs hv hsz h1
  unfold sl at h0
  generalize hn : xs.length = n at h0
  generalize he : rows eStr xs = el at h0
  cases h0 with
  | @fz _ _ _ _ b o cap cur hb hn0 hc hm hs hl h1 h =>
    have hin := hk _ _ hb
    obtain ⟨e, hw⟩ := hin
    have hbw : b < w.heap.size := by
      rcases Nat.lt_or_ge b w.heap.size with h' | h'
      · exact h'
      · rw [Array.getElem?_eq_none h'] at hw; cases hw
    subst hn
    refine (Tryd.strings_Join b o cap xs sep w (fun j x hj => ?_) hbw (by omega) hc hlen).mono fun e' w' ⟨he', hb'⟩ => ⟨_, K, he', .atom _, fun _ _ h => h, KIn.below hk hb', fun _ _ h => .inl h, hb'⟩
    have hjl : j < xs.length := (List.getElem?_eq_some_iff.1 hj).1
    have hx := h j hjl 0 (str x) (by rw [← he]; simp [rows, hj, eStr])
    have hx2 := hx.atom_inv
    simp only [Nat.mul_one, Nat.add_zero] at hx2
    have hcs : o + j < cur.size := by omega
    simp only [World.cell?, hw]
    simp only [rd, Array.getD_eq_getD_getElem?, Array.getElem?_eq_getElem hcs, Option.getD_some] at hx2
    simp [Array.getElem?_eq_getElem hcs, hx2]
  | fz0 A cap hm =>
    have hxs : xs = [] := List.eq_nil_of_length_eq_zero hn
    subst hxs
    refine (Tryd.strings_Join_none A cap sep w).mono fun e' w' ⟨he', hw'⟩ => ⟨_, K, he', .atom _, fun _ _ h => h, by rw [hw']; exact hk, fun _ _ h => .inl h, by rw [hw']; exact RowKit.Below.refl _ _⟩
def rowS (l : List ByteArray) : Option Blk := some ⟨9, 1, l.length, rows eStr l, false, false⟩
theorem rows_snocE {α : Type} [Inhabited α] (enc : α → List PV) (l : List α) (x : α) {a b : Nat → List PV} {n : Nat} (hn : n = l.length) (ha : ∀ k, k < l.length → a k = rows enc l k) (hb : b 0 = enc x) {k : Nat} (hk : k < n + 1) : appEl n a b k = rows enc (l ++ [x]) k :=
  rows_app enc l [x] hn ha (fun q hq => by obtain rfl : q = 0 := by simpa using hq
                                           exact hb) k (by subst hn; exact hk)
end Go.Proofs.YtffckdfcmdmnoaaDoor.W
end
