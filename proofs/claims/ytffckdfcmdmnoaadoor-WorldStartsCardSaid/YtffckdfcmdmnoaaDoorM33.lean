/- Texts merged: P12. -/
import Derived.Test.YtffckdfcmdmnoaaDoorM21
section
/- Plain: mailboxes' room (chapter 9). -/
set_option linter.unusedVariables false
set_option linter.unusedSimpArgs false
set_option linter.unusedSectionVars false
namespace Go.Proofs.YtffckdfcmdmnoaaDoor.W
open Go Go.Sy

def bootN (i : Nat) : Nt := ⟨((i % 2 : Nat) : Int), 0, [(i : Int)]⟩
def boots (n : Nat) : List Nt := (List.range n).map bootN
def pgTwo (n : Nat) (most : Int) : Pg := ⟨[⟨1, []⟩], [⟨[4], most, -1, false⟩, ⟨[], most, -1, false⟩], boots n, 5⟩
theorem boots_len (n : Nat) : (boots n).length = n := by simp [boots]
theorem boots_at (n i : Nat) (h : i < n) : (boots n).getD i default = bootN i := by simp [boots, h]
/-- A message that comes behind all others is put at the end. -/
theorem putAt_last (m : Msg) : ∀ {l : List Msg}, (∀ x ∈ l, lessID x.id m.id = true) → putAt m l = l ++ [m]
  | [], _ => rfl
  | x :: l, h => by
    unfold putAt
    rw [if_pos (h x (by simp)), putAt_last m (fun y hy => h y (by simp [hy]))]
    rfl
theorem less_ne {a b : ID} (h : lessID a b = true) : a ≠ b := by
  rintro rfl
  simp [lessID, orderID, orI, cmpI] at h
theorem putMail_last (m : Msg) {l : List Msg} (h : ∀ x ∈ l, lessID x.id m.id = true) : putMail l m = some (l ++ [m]) := by
  unfold putMail
  have hn : ¬ (l.any fun x => decide (x.id = m.id)) = true := by
    rw [List.any_eq_true]
    rintro ⟨x, hx, e⟩
    exact less_ne (h x hx) (by simpa using e)
  rw [if_neg hn, putAt_last m h]
theorem sorted_snoc (m : Msg) : ∀ {l : List Msg}, sortedMail l = true → (∀ x ∈ l, lessID x.id m.id = true) → sortedMail (l ++ [m]) = true
  | [], _, _ => rfl
  | [x], _, h => by
    show (lessID x.id m.id && true) = true
    rw [h x (by simp)]
    rfl
  | x :: y :: l, hs, h => by
    unfold sortedMail at hs
    rw [Bool.and_eq_true] at hs
    have := sorted_snoc m hs.2 (fun z hz => h z (by simp [hz]))
    show (lessID x.id y.id && sortedMail (y :: (l ++ [m]))) = true
    rw [hs.1]
    exact this
end Go.Proofs.YtffckdfcmdmnoaaDoor.W
end
