/- Texts merged: D7, D8, D9, D10. -/
import Derived.Test.YtffckdfcmdmnoaaDoorM21
import Derived.Test.YtffckdfcmdmnoaaDoorM22
section
/- Walks: copies (chapters 3, 8). -/
set_option linter.unusedVariables false
set_option linter.unusedSimpArgs false
set_option linter.unusedSectionVars false
set_option pp.maxSteps 3000
set_option maxHeartbeats 1000000
namespace Go.Proofs.YtffckdfcmdmnoaaDoor.W
open Go Go.Sy

theorem app0 {a b : Nat → List PV} (k : Nat) : appEl 0 a b k = b k := by rw [appEl_right (Nat.zero_le k), Nat.sub_zero]
theorem app0' {a b : Nat → List PV} (k : Nat) : appEl 0 a b (0 + k) = b k := by rw [Nat.zero_add, app0]
/-- One more element of a list. -/
theorem rows_tk {α : Type} [Inhabited α] (enc : α → List PV) (l : List α) {i : Nat} (hi : i < l.length) {a b : Nat → List PV} (ha : ∀ k, a k = rows enc (l.take i) (0 + k)) (hb : b 0 = enc (l.getD i default)) : ∀ k, k < i + 1 → appEl i a b k = rows enc (l.take (i + 1)) k := by
  intro k hk
  by_cases h : k < i
  · rw [appEl_left h, ha, Nat.zero_add]
    unfold rows
    congr 1
    simp [List.getElem?_take, h, hk]
  · obtain rfl : k = i := by omega
    rw [appEl_right (Nat.le_refl _), Nat.sub_self, hb]
    unfold rows
    congr 1
    simp [List.getElem?_take]
theorem mem_getD {α : Type} [Inhabited α] {l : List α} {i : Nat} (h : i < l.length) : l.getD i default ∈ l := by rw [List.getD_eq_getElem?_getD, List.getElem?_eq_getElem h]; exact List.getElem_mem h
theorem clone_ (l : List Int) (hl : l.length ≤ 100000) : Pure Tryd.prog 18 [sl 1 eInt l] (sl 1 eInt l) := by
  refine Pure.of_spec (Spec.of_run (fn := Tryd.f18) Tryd.func18 rfl rfl (by kernel_rfl) ?_) (by first | assumption | rfl | (split <;> rfl) | (split <;> split <;> rfl))
  repeat' (first | refine Run.ctl rfl ?_ | (refine Rg.op false tok rfl rfl rfl rfl ?_ ?_ ?_; (first | exact ⟨⟩ | omega | focus (simp <;> omega) | decide +kernel); (first | exact trivial | exact rfl | exact .inl rfl | exact .inr rfl)) | (refine Rg.op true tok rfl rfl rfl rfl ?_ ?_ ?_; (first | exact ⟨⟩ | omega | focus (simp <;> omega) | decide +kernel); (first | exact trivial | exact rfl | exact .inl rfl | exact .inr rfl)) | refine Rg.nil ?_ | refine Rg.skip rfl rfl rfl ?_ | refine Run.regR ?_ | refine Run.condT rfl ?_ | refine Run.condF rfl ?_ | ((first | refine Run.condB rfl (fun hc => ?_) (fun hc => ?_) | ((fail_if_success (refine Rg.lit true rfl ?_)); (fail_if_success (refine Rg.lit false rfl ?_)); refine Rg.guard rfl (fun hc => ?_) (fun hc => ?_))) <;> ((try simp only [cs] at hc))))
  refine Rg.many rfl rfl rfl rfl (fun R hR => G_slcNil tok rfl rfl rfl rfl rfl R hR) (fun _ _ _ => trivial) ?_
  rintro pv st' ⟨b, rfl, rfl, hb⟩
  cases b with
  | true =>
    have h0 : l = [] := by
      cases l with
      | nil => rfl
      | cons a l => exact absurd (hb (by simp)) (by simp)
    subst h0
    repeat' (first | refine Run.ctl rfl ?_ | (refine Rg.op false tok rfl rfl rfl rfl ?_ ?_ ?_; (first | exact ⟨⟩ | omega | focus (simp <;> omega) | decide +kernel); (first | exact trivial | exact rfl | exact .inl rfl | exact .inr rfl)) | (refine Rg.op true tok rfl rfl rfl rfl ?_ ?_ ?_; (first | exact ⟨⟩ | omega | focus (simp <;> omega) | decide +kernel); (first | exact trivial | exact rfl | exact .inl rfl | exact .inr rfl)) | refine Rg.nil ?_ | refine Rg.skip rfl rfl rfl ?_ | refine Run.regR ?_ | refine Run.condT rfl ?_ | refine Run.condF rfl ?_ | ((first | refine Run.condB rfl (fun hc => ?_) (fun hc => ?_) | ((fail_if_success (refine Rg.lit true rfl ?_)); (fail_if_success (refine Rg.lit false rfl ?_)); refine Rg.guard rfl (fun hc => ?_) (fun hc => ?_))) <;> ((try simp only [cs] at hc))))
    (first | refine Run.ret tok Tryd.func18 rfl ?_ | refine Run.fall tok Tryd.func18 rfl ?_)
    exact Cv.rowNil
  | false =>
    repeat' (first | refine Run.ctl rfl ?_ | (refine Rg.op false tok rfl rfl rfl rfl ?_ ?_ ?_; (first | exact ⟨⟩ | omega | focus (simp <;> omega) | decide +kernel); (first | exact trivial | exact rfl | exact .inl rfl | exact .inr rfl)) | (refine Rg.op true tok rfl rfl rfl rfl ?_ ?_ ?_; (first | exact ⟨⟩ | omega | focus (simp <;> omega) | decide +kernel); (first | exact trivial | exact rfl | exact .inl rfl | exact .inr rfl)) | refine Rg.nil ?_ | refine Rg.skip rfl rfl rfl ?_ | refine Run.regR ?_ | refine Run.condT rfl ?_ | refine Run.condF rfl ?_ | ((first | refine Run.condB rfl (fun hc => ?_) (fun hc => ?_) | ((fail_if_success (refine Rg.lit true rfl ?_)); (fail_if_success (refine Rg.lit false rfl ?_)); refine Rg.guard rfl (fun hc => ?_) (fun hc => ?_))) <;> ((try simp only [cs] at hc))))
    (first | refine Run.ret tok Tryd.func18 rfl ?_ | refine Run.fall tok Tryd.func18 rfl ?_)
    exact Cv.row rfl rfl rfl (by simp) (Nat.zero_add _) (fun _ => rfl) (fun j hj => by dsimp only; exact app0' j)
theorem copyNote_ (n : Nt) (hl : n.args.length ≤ 100000) : Pure Tryd.prog 61 [pNt n] (pNt n) := by
  refine Pure.of_spec (Spec.of_run (fn := Tryd.f61) Tryd.func61 rfl rfl (by kernel_rfl) ?_) (by first | assumption | rfl | (split <;> rfl) | (split <;> split <;> rfl))
  repeat' (first | refine Run.ctl rfl ?_ | (refine Rg.op false tok rfl rfl rfl rfl ?_ ?_ ?_; (first | exact ⟨⟩ | omega | focus (simp <;> omega) | decide +kernel); (first | exact trivial | exact rfl | exact .inl rfl | exact .inr rfl)) | refine Rg.call (clone_ n.args hl) rfl rfl rfl rfl rfl ⟨⟨.refl _, trivial⟩, rfl⟩ ?_ | (refine Rg.op true tok rfl rfl rfl rfl ?_ ?_ ?_; (first | exact ⟨⟩ | omega | focus (simp <;> omega) | decide +kernel); (first | exact trivial | exact rfl | exact .inl rfl | exact .inr rfl)) | refine Rg.nil ?_ | refine Rg.skip rfl rfl rfl ?_ | refine Run.regR ?_ | refine Run.condT rfl ?_ | refine Run.condF rfl ?_ | ((first | refine Run.condB rfl (fun hc => ?_) (fun hc => ?_) | ((fail_if_success (refine Rg.lit true rfl ?_)); (fail_if_success (refine Rg.lit false rfl ?_)); refine Rg.guard rfl (fun hc => ?_) (fun hc => ?_))) <;> ((try simp only [cs] at hc))))
  (first | refine Run.ret tok Tryd.func61 rfl ?_ | refine Run.fall tok Tryd.func61 rfl ?_)
  exact .refl _
theorem own_ (m : Msg) (hl : m.note.args.length ≤ 100000) : Pure Tryd.prog 39 [pMsg m] (pMsg m) := by
  refine Pure.of_spec (Spec.of_run (fn := Tryd.f39) Tryd.func39 rfl rfl (by kernel_rfl) ?_) (by first | assumption | rfl | (split <;> rfl) | (split <;> split <;> rfl))
  repeat' (first | refine Run.ctl rfl ?_ | (refine Rg.op false tok rfl rfl rfl rfl ?_ ?_ ?_; (first | exact ⟨⟩ | omega | focus (simp <;> omega) | decide +kernel); (first | exact trivial | exact rfl | exact .inl rfl | exact .inr rfl)) | refine Rg.call (copyNote_ m.note hl) rfl rfl rfl rfl rfl ⟨⟨.refl _, trivial⟩, rfl⟩ ?_ | (refine Rg.op true tok rfl rfl rfl rfl ?_ ?_ ?_; (first | exact ⟨⟩ | omega | focus (simp <;> omega) | decide +kernel); (first | exact trivial | exact rfl | exact .inl rfl | exact .inr rfl)) | refine Rg.nil ?_ | refine Rg.skip rfl rfl rfl ?_ | refine Run.regR ?_ | refine Run.condT rfl ?_ | refine Run.condF rfl ?_ | ((first | refine Run.condB rfl (fun hc => ?_) (fun hc => ?_) | ((fail_if_success (refine Rg.lit true rfl ?_)); (fail_if_success (refine Rg.lit false rfl ?_)); refine Rg.guard rfl (fun hc => ?_) (fun hc => ?_))) <;> ((try simp only [cs] at hc))))
  (first | refine Run.ret tok Tryd.func39 rfl ?_ | refine Run.fall tok Tryd.func39 rfl ?_)
  exact .refl _
def rowM (l : List Msg) : Option Blk := some ⟨51, 6, l.length, rows eMsg l, false, false⟩
theorem mailCopy_ (l : List Msg) (hl : l.length ≤ 100000) (ha : ∀ m ∈ l, m.note.args.length ≤ 100000) : Own Tryd.prog 21 [sl 6 eMsg l] [] (.slc 0 0 l.length) [rowM l] := by
  refine Spec.of_run (fn := Tryd.f21) Tryd.func21 rfl rfl (by kernel_rfl) ?_
  repeat' (first | refine Run.ctl rfl ?_ | (refine Rg.op false tok rfl rfl rfl rfl ?_ ?_ ?_; (first | exact ⟨⟩ | omega | focus (simp <;> omega) | decide +kernel); (first | exact trivial | exact rfl | exact .inl rfl | exact .inr rfl)) | (refine Rg.op true tok rfl rfl rfl rfl ?_ ?_ ?_; (first | exact ⟨⟩ | omega | focus (simp <;> omega) | decide +kernel); (first | exact trivial | exact rfl | exact .inl rfl | exact .inr rfl)) | refine Rg.nil ?_ | refine Rg.skip rfl rfl rfl ?_ | refine Run.regR ?_ | refine Run.condT rfl ?_ | refine Run.condF rfl ?_ | ((first | refine Run.condB rfl (fun hc => ?_) (fun hc => ?_) | ((fail_if_success (refine Rg.lit true rfl ?_)); (fail_if_success (refine Rg.lit false rfl ?_)); refine Rg.guard rfl (fun hc => ?_) (fun hc => ?_))) <;> ((try simp only [cs] at hc))))
  refine Run.nilRow 2 51 6 (rows eMsg []) rfl ?_
  refine Run.loopN (ι := Nat) (fun i => ([(2, .slc 0 0 i), (5, sl 6 eMsg l), (6, i64 l.length), (7, i64 i)], [some ⟨51, 6, i, rows eMsg (l.take i), false, false⟩])) (fun i => i ≤ l.length) (fun i => l.length - i) 0 ⟨rfl, rfl, rfl, rfl, trivial⟩ rfl (by omega) ?_
  rintro i hi back backR
  by_cases hlt : i < l.length
  · have hm := mem_getD hlt
    have hown := own_ _ (ha _ hm)
    repeat' (first | refine Run.ctl rfl ?_ | (refine Rg.op false tok rfl rfl rfl rfl ?_ ?_ ?_; (first | exact ⟨⟩ | omega | focus (simp <;> omega) | decide +kernel); (first | exact trivial | exact rfl | exact .inl rfl | exact .inr rfl)) | refine Rg.call (hown) rfl rfl rfl rfl rfl ⟨⟨.refl _, trivial⟩, rfl⟩ ?_ | (refine Rg.op true tok rfl rfl rfl rfl ?_ ?_ ?_; (first | exact ⟨⟩ | omega | focus (simp <;> omega) | decide +kernel); (first | exact trivial | exact rfl | exact .inl rfl | exact .inr rfl)) | refine Rg.nil ?_ | refine Rg.skip rfl rfl rfl ?_ | refine Run.regR ?_ | refine Run.condT rfl ?_ | refine Run.condF rfl ?_ | ((first | refine Run.condB rfl (fun hc => ?_) (fun hc => ?_) | ((fail_if_success (refine Rg.lit true rfl ?_)); (fail_if_success (refine Rg.lit false rfl ?_)); refine Rg.guard rfl (fun hc => ?_) (fun hc => ?_))) <;> ((try simp only [cs] at hc); (first | ((exfalso; omega); done) | skip))))
    exact backR [3] (i + 1) _ _ hlt (by omega) rfl ⟨⟨_, rfl, rfl, rfl, rfl, rfl, fun k hk => .ofEq (by dsimp only; exact rows_tk eMsg l hlt (fun _ => rfl) rfl k hk) rfl⟩, trivial⟩ ⟨.slcN rfl rfl rfl, .cl rfl, .cl rfl, .cl rfl, trivial⟩
  · obtain rfl : i = l.length := by omega
    repeat' (first | refine Run.ctl rfl ?_ | (refine Rg.op false tok rfl rfl rfl rfl ?_ ?_ ?_; (first | exact ⟨⟩ | omega | focus (simp <;> omega) | decide +kernel); (first | exact trivial | exact rfl | exact .inl rfl | exact .inr rfl)) | (refine Rg.op true tok rfl rfl rfl rfl ?_ ?_ ?_; (first | exact ⟨⟩ | omega | focus (simp <;> omega) | decide +kernel); (first | exact trivial | exact rfl | exact .inl rfl | exact .inr rfl)) | refine Rg.nil ?_ | refine Rg.skip rfl rfl rfl ?_ | refine Run.regR ?_ | refine Run.condT rfl ?_ | refine Run.condF rfl ?_ | ((first | refine Run.condB rfl (fun hc => ?_) (fun hc => ?_) | ((fail_if_success (refine Rg.lit true rfl ?_)); (fail_if_success (refine Rg.lit false rfl ?_)); refine Rg.guard rfl (fun hc => ?_) (fun hc => ?_))) <;> ((try simp only [cs] at hc); (first | ((exfalso; omega); done) | skip))))
    refine Run.renumL [0] [rowM l] [(2, .slc 0 0 l.length)] rfl rfl rfl rfl ⟨⟨_, rfl, rfl, rfl, rfl, rfl, fun k hk => .ofEq (by rw [List.take_length]) rfl⟩, trivial⟩ ⟨.slcN rfl rfl rfl, trivial⟩ ?_
    (first | refine Run.ret tok Tryd.func21 rfl ?_ | refine Run.fall tok Tryd.func21 rfl ?_)
    exact ⟨rfl, rfl⟩
end Go.Proofs.YtffckdfcmdmnoaaDoor.W
end
section
/- Walks: a message put where it belongs (chapter 8). -/
set_option linter.unusedVariables false
set_option linter.unusedSimpArgs false
set_option linter.unusedSectionVars false
set_option pp.maxSteps 3000
set_option maxHeartbeats 1000000
namespace Go.Proofs.YtffckdfcmdmnoaaDoor.W
open Go Go.Sy

def insAt {α : Type} (l : List α) (i : Nat) (m : α) : List α := l.take i ++ m :: l.drop i
theorem insAt_len {α : Type} {l : List α} {i : Nat} {m : α} (h : i ≤ l.length) : (insAt l i m).length = l.length + 1 := by
  unfold insAt
  simp only [List.length_append, List.length_take, List.length_cons, List.length_drop]
  omega
theorem rows_ins {α : Type} [Inhabited α] (enc : α → List PV) (l : List α) (m : α) {i : Nat} (hi : i ≤ l.length) {a : Nat → List PV} (h1 : ∀ k, k < i → a k = rows enc l k) (h2 : a i = enc m) (h3 : ∀ k, i < k → k < l.length + 1 → a k = rows enc l (k - 1)) : ∀ k, k < l.length + 1 → a k = rows enc (insAt l i m) k := by
  intro k hk
  unfold insAt
  rcases Nat.lt_trichotomy k i with h | h | h
  · rw [h1 k h]
    unfold rows
    congr 1
    simp only [List.getD_eq_getElem?_getD]
    rw [List.getElem?_append_left (by simp; omega), List.getElem?_take, if_pos h]
  · subst h
    rw [h2]
    unfold rows
    congr 1
    simp only [List.getD_eq_getElem?_getD]
    rw [List.getElem?_append_right (by simp; omega)]
    simp [List.length_take, Nat.min_eq_left hi]
  · rw [h3 k h hk]
    unfold rows
    congr 1
    simp only [List.getD_eq_getElem?_getD]
    rw [List.getElem?_append_right (by simp; omega)]
    obtain ⟨j, rfl⟩ : ∃ j, k = i + 1 + j := ⟨k - (i + 1), by omega⟩
    simp only [List.length_take, Nat.min_eq_left hi]
    rw [show i + 1 + j - i = j + 1 by omega, List.getElem?_cons_succ, List.getElem?_drop, show i + 1 + j - 1 = i + j by omega]
theorem ovl_next : Extern.findNext Tryd.f79 = none := by kernel_rfl
theorem ovl_find : Extern.find Tryd.f79 = some (Extern.SlicesOverlaps.overlaps #[30, 30] #[4]) := by kernel_rfl
theorem ovl_name : (Tryd.f79.name == "runtime.NumGoroutine") = false := by kernel_rfl
theorem room_in {sz n j : Nat} {a : Nat → List PV} (h : j < n) : roomEl sz n a j = a j := by
  unfold roomEl
  rw [show Nat.blt j n = true by rw [Nat.blt_eq]; exact h]
  rfl
theorem insert_ (l : List Msg) (m : Msg) (i : Nat) (hl : l.length ≤ 100000) (hi : i ≤ l.length) : Sy.Spec Tryd.prog 70 [.slc 0 0 l.length, i64 i, .slc 1 0 1] [rowM l, rowM [m]]
    (fun v s => (v = .slc 0 0 (l.length + 1) ∧ s = [rowM (insAt l i m), none]) ∨ (v = .slc 2 0 (l.length + 1) ∧ s = [none, none, rowM (insAt l i m)])) := by
  have hn : l.length + 1 = (insAt l i m).length := (insAt_len hi).symm
  by_cases he : i = l.length
  · refine Spec.of_run (fn := Tryd.f70) Tryd.func70 rfl rfl (by kernel_rfl) ?_
    repeat' (first | refine Run.ctl rfl ?_ | (refine Rg.op false tok rfl rfl rfl rfl ?_ ?_ ?_; (first | exact ⟨⟩ | omega | focus (simp <;> omega) | decide +kernel); (first | exact trivial | exact rfl | exact .inl rfl | exact .inr rfl)) | (refine Rg.op true tok rfl rfl rfl rfl ?_ ?_ ?_; (first | exact ⟨⟩ | omega | focus (simp <;> omega) | decide +kernel); (first | exact trivial | exact rfl | exact .inl rfl | exact .inr rfl)) | refine Rg.nil ?_ | refine Rg.skip rfl rfl rfl ?_ | refine Run.regR ?_ | refine Run.condT rfl ?_ | refine Run.condF rfl ?_ | ((first | refine Run.condB rfl (fun hc => ?_) (fun hc => ?_) | ((fail_if_success (refine Rg.lit true rfl ?_)); (fail_if_success (refine Rg.lit false rfl ?_)); refine Rg.guard rfl (fun hc => ?_) (fun hc => ?_))) <;> ((try simp only [cs] at hc); (first | ((exfalso; omega); done) | skip))))
    refine Run.renumL [0, 1, 2] [none, none, rowM (insAt l i m)] [(6, .slc 2 0 (l.length + 1))] rfl rfl rfl rfl ⟨⟨_, rfl, rfl, rfl, hn.symm, rfl, fun k hk => .ofEq (by dsimp only at hk ⊢; exact rows_ins eMsg l m hi (fun k hk => by rw [appEl_left (by omega), Nat.zero_add]) (by rw [he, appEl_right (Nat.le_refl _), Nat.sub_self]; rfl) (fun k h1 h2 => by omega) k hk) rfl⟩, trivial⟩ ⟨.slcN rfl rfl rfl, trivial⟩ ?_
    (first | refine Run.ret tok Tryd.func70 rfl ?_ | refine Run.fall tok Tryd.func70 rfl ?_)
    exact .inr ⟨rfl, rfl⟩
  · have hlt : i < l.length := by omega
    refine Spec.of_run (fn := Tryd.f70) Tryd.func70 rfl rfl (by kernel_rfl) ?_
    repeat' (first | refine Run.ctl rfl ?_ | (refine Rg.op false tok rfl rfl rfl rfl ?_ ?_ ?_; (first | exact ⟨⟩ | omega | focus (simp <;> omega) | decide +kernel); (first | exact trivial | exact rfl | exact .inl rfl | exact .inr rfl)) | (refine Rg.op true tok rfl rfl rfl rfl ?_ ?_ ?_; (first | exact ⟨⟩ | omega | focus (simp <;> omega) | decide +kernel); (first | exact trivial | exact rfl | exact .inl rfl | exact .inr rfl)) | refine Rg.nil ?_ | refine Rg.skip rfl rfl rfl ?_ | refine Run.regR ?_ | refine Run.condT rfl ?_ | refine Run.condF rfl ?_ | ((first | refine Run.condB rfl (fun hc => ?_) (fun hc => ?_) | ((fail_if_success (refine Rg.lit true rfl ?_)); (fail_if_success (refine Rg.lit false rfl ?_)); refine Rg.guard rfl (fun hc => ?_) (fun hc => ?_))) <;> ((try simp only [cs] at hc); (first | ((exfalso; omega); done) | skip))))
    refine Rg.cap tok rfl rfl rfl rfl (fun _ _ => trivial) rfl rfl rfl rfl rfl rfl rfl (Nat.zero_add _) (by omega) ?_
    intro c hc1 hc2
    repeat' (first | refine Rg.any rfl rfl rfl (fun _ hq => G_appZ tok rfl rfl rfl rfl rfl rfl rfl rfl rfl (by dsimp only; omega) rfl (by omega) (by dsimp only; omega) rfl (by dsimp only; omega) hq) (by first | exact trivial | exact rfl | exact .inl rfl | exact .inr rfl | focus ((repeat (first | exact trivial | (refine ⟨Stay.op false tok rfl rfl rfl ?_ (fun t ht => by cases ht; rfl), ?_⟩; (first | exact ⟨⟩ | omega | focus (simp <;> omega) | decide +kernel)) | (refine ⟨Stay.op true tok rfl rfl rfl ?_ (fun t ht => by cases ht; rfl), ?_⟩; (first | exact ⟨⟩ | omega | focus (simp <;> omega) | decide +kernel)) | refine ⟨Stay.skip rfl rfl (fun t ht => by cases ht; rfl), ?_⟩)); done)) ?_ | refine Run.ctl rfl ?_ | (refine Rg.op false tok rfl rfl rfl rfl ?_ ?_ ?_; (first | exact ⟨⟩ | omega | focus (simp <;> omega) | decide +kernel); (first | exact trivial | exact rfl | exact .inl rfl | exact .inr rfl)) | (refine Rg.op true tok rfl rfl rfl rfl ?_ ?_ ?_; (first | exact ⟨⟩ | omega | focus (simp <;> omega) | decide +kernel); (first | exact trivial | exact rfl | exact .inl rfl | exact .inr rfl)) | refine Rg.nil ?_ | refine Rg.skip rfl rfl rfl ?_ | refine Run.regR ?_ | refine Run.condT rfl ?_ | refine Run.condF rfl ?_ | ((first | refine Run.condB rfl (fun hc => ?_) (fun hc => ?_) | ((fail_if_success (refine Rg.lit true rfl ?_)); (fail_if_success (refine Rg.lit false rfl ?_)); refine Rg.guard rfl (fun hc => ?_) (fun hc => ?_))) <;> ((try simp only [cs] at hc); (first | ((exfalso; omega); done) | skip))))
    · refine Rg.any rfl rfl rfl (fun _ hq => G_copy tok 1 rfl rfl rfl rfl rfl rfl rfl (by dsimp only; omega) rfl (by omega) hq) trivial ?_
      repeat' (first | refine Run.drwT [8] mixed (by kernel_rfl) ?_ | refine Run.ctl rfl ?_ | (refine Rg.op false tok rfl rfl rfl rfl ?_ ?_ ?_; (first | exact ⟨⟩ | omega | focus (simp <;> omega) | decide +kernel); (first | exact trivial | exact rfl | exact .inl rfl | exact .inr rfl)) | (refine Rg.op true tok rfl rfl rfl rfl ?_ ?_ ?_; (first | exact ⟨⟩ | omega | focus (simp <;> omega) | decide +kernel); (first | exact trivial | exact rfl | exact .inl rfl | exact .inr rfl)) | refine Rg.nil ?_ | refine Rg.skip rfl rfl rfl ?_ | refine Run.regR ?_ | refine Run.condT rfl ?_ | refine Run.condF rfl ?_ | ((first | refine Run.condB rfl (fun hc => ?_) (fun hc => ?_) | ((fail_if_success (refine Rg.lit true rfl ?_)); (fail_if_success (refine Rg.lit false rfl ?_)); refine Rg.guard rfl (fun hc => ?_) (fun hc => ?_))) <;> ((try simp only [cs] at hc); (first | ((exfalso; omega); done) | skip))))
      refine Rg.any rfl rfl rfl (fun _ hq => G_copyO tok (l.length - i) rfl rfl rfl rfl rfl rfl rfl rfl rfl rfl (by dsimp only; omega) (by dsimp only; omega) (by omega) hq) (.inl rfl) ?_
      repeat' (first | refine Run.ctl rfl ?_ | (refine Rg.op false tok rfl rfl rfl rfl ?_ ?_ ?_; (first | exact ⟨⟩ | omega | focus (simp <;> omega) | decide +kernel); (first | exact trivial | exact rfl | exact .inl rfl | exact .inr rfl)) | (refine Rg.op true tok rfl rfl rfl rfl ?_ ?_ ?_; (first | exact ⟨⟩ | omega | focus (simp <;> omega) | decide +kernel); (first | exact trivial | exact rfl | exact .inl rfl | exact .inr rfl)) | refine Rg.nil ?_ | refine Rg.skip rfl rfl rfl ?_ | refine Run.regR ?_ | refine Run.condT rfl ?_ | refine Run.condF rfl ?_ | ((first | refine Run.condB rfl (fun hc => ?_) (fun hc => ?_) | ((fail_if_success (refine Rg.lit true rfl ?_)); (fail_if_success (refine Rg.lit false rfl ?_)); refine Rg.guard rfl (fun hc => ?_) (fun hc => ?_))) <;> ((try simp only [cs] at hc); (first | ((exfalso; omega); done) | skip))))
      refine Run.renumL [0, 1, 2] [none, none, rowM (insAt l i m)] [(6, .slc 2 0 (l.length + 1))] rfl rfl rfl rfl ⟨⟨_, rfl, rfl, rfl, by dsimp only; omega, rfl, fun k hk => .ofEq (by
        dsimp only at hk ⊢
        refine rows_ins eMsg l m hi (fun k hk => ?_) ?_ (fun k h1 h2 => ?_) k (by omega)
        · rw [cpEl_out (by omega), cpEl_out (by omega), appEl_left (by omega), room_in (by omega)]
          congr 1; omega
        · rw [cpEl_out (by omega), cpEl_in (by omega)]
          show rows eMsg [m] _ = _
          rw [show 0 + (i - (0 + (i : Int).toNat)) = 0 by omega]; rfl
        · rw [cpEl_in (by omega), room_in (by omega)]
          congr 1; omega) rfl⟩, trivial⟩ ⟨.slcN rfl rfl (by omega), trivial⟩ ?_
      (first | refine Run.ret tok Tryd.func70 rfl ?_ | refine Run.fall tok Tryd.func70 rfl ?_)
      exact .inr ⟨rfl, rfl⟩
    · refine Rg.any rfl rfl rfl (fun _ hq => G_sliceRoom tok rfl rfl rfl rfl rfl rfl rfl rfl (bndI_spec rfl) (bndI_spec rfl) (by omega) (by omega) (by omega) (by dsimp only; omega) hq) trivial ?_
      repeat' (first | refine Run.ctl rfl ?_ | (refine Rg.op false tok rfl rfl rfl rfl ?_ ?_ ?_; (first | exact ⟨⟩ | omega | focus (simp <;> omega) | decide +kernel); (first | exact trivial | exact rfl | exact .inl rfl | exact .inr rfl)) | (refine Rg.op true tok rfl rfl rfl rfl ?_ ?_ ?_; (first | exact ⟨⟩ | omega | focus (simp <;> omega) | decide +kernel); (first | exact trivial | exact rfl | exact .inl rfl | exact .inr rfl)) | refine Rg.nil ?_ | refine Rg.skip rfl rfl rfl ?_ | refine Run.regR ?_ | refine Run.condT rfl ?_ | refine Run.condF rfl ?_ | ((first | refine Run.condB rfl (fun hc => ?_) (fun hc => ?_) | ((fail_if_success (refine Rg.lit true rfl ?_)); (fail_if_success (refine Rg.lit false rfl ?_)); refine Rg.guard rfl (fun hc => ?_) (fun hc => ?_))) <;> ((try simp only [cs] at hc); (first | ((exfalso; omega); done) | skip))))
      refine Rg.any rfl rfl rfl (fun _ hq => G_ovl tok Tryd.func79 ovl_name rfl ovl_next ovl_find rfl rfl rfl rfl rfl rfl rfl rfl (by omega) (by omega) rfl rfl rfl hq) trivial ?_
      repeat' (first | refine Run.drwT [8] mixed (by kernel_rfl) ?_ | refine Run.ctl rfl ?_ | (refine Rg.op false tok rfl rfl rfl rfl ?_ ?_ ?_; (first | exact ⟨⟩ | omega | focus (simp <;> omega) | decide +kernel); (first | exact trivial | exact rfl | exact .inl rfl | exact .inr rfl)) | (refine Rg.op true tok rfl rfl rfl rfl ?_ ?_ ?_; (first | exact ⟨⟩ | omega | focus (simp <;> omega) | decide +kernel); (first | exact trivial | exact rfl | exact .inl rfl | exact .inr rfl)) | refine Rg.nil ?_ | refine Rg.skip rfl rfl rfl ?_ | refine Run.regR ?_ | refine Run.condT rfl ?_ | refine Run.condF rfl ?_ | ((first | refine Run.condB rfl (fun hc => ?_) (fun hc => ?_) | ((fail_if_success (refine Rg.lit true rfl ?_)); (fail_if_success (refine Rg.lit false rfl ?_)); refine Rg.guard rfl (fun hc => ?_) (fun hc => ?_))) <;> ((try simp only [cs] at hc); (first | ((exfalso; omega); done) | skip))))
      refine Rg.any rfl rfl rfl (fun _ hq => G_copyO tok (l.length - i) rfl rfl rfl rfl rfl rfl rfl rfl rfl rfl (by dsimp only; omega) (by dsimp only; omega) (by omega) hq) (.inl rfl) ?_
      repeat' (first | refine Run.ctl rfl ?_ | (refine Rg.op false tok rfl rfl rfl rfl ?_ ?_ ?_; (first | exact ⟨⟩ | omega | focus (simp <;> omega) | decide +kernel); (first | exact trivial | exact rfl | exact .inl rfl | exact .inr rfl)) | (refine Rg.op true tok rfl rfl rfl rfl ?_ ?_ ?_; (first | exact ⟨⟩ | omega | focus (simp <;> omega) | decide +kernel); (first | exact trivial | exact rfl | exact .inl rfl | exact .inr rfl)) | refine Rg.nil ?_ | refine Rg.skip rfl rfl rfl ?_ | refine Run.regR ?_ | refine Run.condT rfl ?_ | refine Run.condF rfl ?_ | ((first | refine Run.condB rfl (fun hc => ?_) (fun hc => ?_) | ((fail_if_success (refine Rg.lit true rfl ?_)); (fail_if_success (refine Rg.lit false rfl ?_)); refine Rg.guard rfl (fun hc => ?_) (fun hc => ?_))) <;> ((try simp only [cs] at hc); (first | ((exfalso; omega); done) | skip))))
      refine Rg.any rfl rfl rfl (fun _ hq => G_copy tok 1 rfl rfl rfl rfl rfl rfl rfl (by dsimp only; omega) rfl (by omega) hq) trivial ?_
      repeat' (first | refine Run.ctl rfl ?_ | (refine Rg.op false tok rfl rfl rfl rfl ?_ ?_ ?_; (first | exact ⟨⟩ | omega | focus (simp <;> omega) | decide +kernel); (first | exact trivial | exact rfl | exact .inl rfl | exact .inr rfl)) | (refine Rg.op true tok rfl rfl rfl rfl ?_ ?_ ?_; (first | exact ⟨⟩ | omega | focus (simp <;> omega) | decide +kernel); (first | exact trivial | exact rfl | exact .inl rfl | exact .inr rfl)) | refine Rg.nil ?_ | refine Rg.skip rfl rfl rfl ?_ | refine Run.regR ?_ | refine Run.condT rfl ?_ | refine Run.condF rfl ?_ | ((first | refine Run.condB rfl (fun hc => ?_) (fun hc => ?_) | ((fail_if_success (refine Rg.lit true rfl ?_)); (fail_if_success (refine Rg.lit false rfl ?_)); refine Rg.guard rfl (fun hc => ?_) (fun hc => ?_))) <;> ((try simp only [cs] at hc); (first | ((exfalso; omega); done) | skip))))
      refine Run.weak (i := 0) ⟨51, 6, l.length + 1, rows eMsg (insAt l i m), false, false⟩ rfl rfl rfl (by dsimp only; omega) rfl (fun k hk => WkL.ofEq (by
        dsimp only at hk ⊢
        refine rows_ins eMsg l m hi (fun k hk => ?_) ?_ (fun k h1 h2 => ?_) k (by omega)
        · rw [cpEl_out (by omega), cpEl_out (by omega), room_in (by omega)]
        · rw [cpEl_in (by omega)]
          show rows eMsg [m] _ = _
          rw [show 0 + (i - (0 + Int.toNat 0 + (i : Int).toNat)) = 0 by omega]; rfl
        · rw [cpEl_out (by omega), cpEl_in (by omega), room_in (by omega)]
          congr 1; omega)) ?_
      refine Run.renumL [0, 1] [rowM (insAt l i m), none] [(6, .slc 0 0 (l.length + 1))] rfl rfl rfl rfl ⟨⟨_, rfl, rfl, rfl, hn.symm, rfl, fun k hk => .ofEq rfl rfl⟩, trivial⟩ ⟨.slcN rfl rfl (by omega), trivial⟩ ?_
      (first | refine Run.ret tok Tryd.func70 rfl ?_ | refine Run.fall tok Tryd.func70 rfl ?_)
      exact .inl ⟨rfl, rfl⟩
end Go.Proofs.YtffckdfcmdmnoaaDoor.W
end
section
/- Walks: mail.Put (chapter 8). -/
set_option linter.unusedVariables false
set_option linter.unusedSimpArgs false
set_option linter.unusedSectionVars false
set_option pp.maxSteps 3000
set_option maxHeartbeats 1000000
namespace Go.Proofs.YtffckdfcmdmnoaaDoor.W
open Go Go.Sy

/-- Where a message belongs. -/
def placeOf (l : List Msg) (m : Msg) : Nat := if findIx (fun x => !lessID x.id m.id) l 0 < 0 then l.length else (findIx (fun x => !lessID x.id m.id) l 0).toNat
theorem findIx_shift {α : Type} (F : α → Bool) : ∀ (l : List α) (k : Nat), findIx F l k = if findIx F l 0 < 0 then -1 else findIx F l 0 + k
  | [], k => rfl
  | x :: l, k => by
    unfold findIx
    by_cases h : F x = true
    · rw [if_pos h, if_pos h]; simp
    · rw [if_neg h, if_neg h, findIx_shift F l (k + 1), findIx_shift F l (0 + 1)]
      have := findIx_rng (F := F) (l := l) (k := 0)
      by_cases h2 : findIx F l 0 < 0
      · simp [h2]
      · simp only [h2, if_false]
        rw [if_neg (by omega)]; omega
theorem putAt_ins (m : Msg) : ∀ (l : List Msg), putAt m l = insAt l (placeOf l m) m
  | [] => rfl
  | x :: l => by
    unfold putAt placeOf findIx
    by_cases h : lessID x.id m.id = true
    · have hn : ¬((!lessID x.id m.id) = true) := by simp [h]
      rw [if_pos h, if_neg hn, findIx_shift, putAt_ins m l]
      have := findIx_rng (F := fun x => !lessID x.id m.id) (l := l) (k := 0)
      unfold placeOf insAt
      by_cases h2 : findIx (fun x => !lessID x.id m.id) l 0 < 0
      · simp [h2]
      · rw [if_neg h2, if_neg h2, if_neg (by omega)]
        have e : (findIx (fun x => !lessID x.id m.id) l 0 + ((0 + 1 : Nat) : Int)).toNat = (findIx (fun x => !lessID x.id m.id) l 0).toNat + 1 := by omega
        rw [e]; rfl
    · have h' : (!lessID x.id m.id) = true := by simpa using h
      rw [if_neg h, if_pos h']; rfl
theorem placeOf_le (l : List Msg) (m : Msg) : placeOf l m ≤ l.length := by
  unfold placeOf
  have := findIx_rng (F := fun x => !lessID x.id m.id) (l := l) (k := 0)
  split <;> omega
theorem findMail_iff (id : ID) : ∀ (l : List Msg) (k : Nat), findMail id l k = -1 ∧ (l.any (fun x => x.id = id)) = false ∨ (k : Int) ≤ findMail id l k ∧ (l.any (fun x => x.id = id)) = true
  | [], _ => .inl ⟨rfl, rfl⟩
  | m :: l, k => by
    unfold findMail
    by_cases h : m.id = id
    · right; simp [h]
    · rw [if_neg h]
      rcases findMail_iff id l (k + 1) with ⟨h1, h2⟩ | ⟨h1, h2⟩
      · left; simp [h1, h] at h2 ⊢; exact h2
      · right; refine ⟨by omega, ?_⟩; simp at h2 ⊢; exact .inr h2
def putP (l : List Msg) (m : Msg) : PV := match putMail l m with
  | some l' => .tup [sl 6 eMsg l', i64 0]
  | none => .tup [sl 6 eMsg ([] : List Msg), i64 1]
theorem put_ (l : List Msg) (m : Msg) (hl : l.length ≤ 100000) (ha : ∀ x ∈ l, x.note.args.length ≤ 100000) (hm : m.note.args.length ≤ 100000) : Pure Tryd.prog 58 [sl 6 eMsg l, pMsg m] (putP l m) := by
  have hf := find_ l m.id hl
  unfold putP putMail
  rcases findMail_iff m.id l 0 with ⟨h1, h2⟩ | ⟨h1, h2⟩
  · rw [h2, if_neg (by simp)]
    rw [h1] at hf
    have hx := indexF_ (fun x => !lessID x.id m.id) 69 [.fptr 6 1 (fun _ => eMsg m) 0 0] rfl l hl (fun x _ => putC_ x m)
    have hc0 := mailCopy_ l hl ha
    have ho := own_ m hm
    have hi := insert_ l m (placeOf l m) hl (placeOf_le l m)
    have hn : l.length + 1 = (insAt l (placeOf l m) m).length := (insAt_len (placeOf_le l m)).symm
    rw [putAt_ins]
    have hq : placeOf l m = if findIx (fun x => !lessID x.id m.id) l 0 < 0 then l.length else (findIx (fun x => !lessID x.id m.id) l 0).toNat := rfl
    generalize findIx (fun x => !lessID x.id m.id) l 0 = z at hx hq
    by_cases hz : z < 0
    · rw [if_pos hz] at hq
      rw [hq] at hi hn ⊢
      refine Pure.of_spec (Spec.of_run (fn := Tryd.f58) Tryd.func58 rfl rfl (by kernel_rfl) ?_) (by first | assumption | rfl | (split <;> rfl) | (split <;> split <;> rfl))
      repeat' (first | (refine Run.drwP [1, 5, 6] [0, 2, 3, 1, 4, 5, 6, 7, 8] [none, none, none, some [3, 2], none, some [2], some [], none, none] mixed (by kernel_rfl) rfl ?_) | refine Run.ctl rfl ?_ | (refine Rg.op false tok rfl rfl rfl rfl ?_ ?_ ?_; (first | exact ⟨⟩ | omega | focus (simp <;> omega) | decide +kernel); (first | exact trivial | exact rfl | exact .inl rfl | exact .inr rfl | focus ((repeat (first | exact trivial | (refine ⟨Stay.op false tok rfl rfl rfl ?_ (fun t ht => by cases ht; rfl), ?_⟩; (first | exact ⟨⟩ | omega | focus (simp <;> omega) | decide +kernel)) | (refine ⟨Stay.op true tok rfl rfl rfl ?_ (fun t ht => by cases ht; rfl), ?_⟩; (first | exact ⟨⟩ | omega | focus (simp <;> omega) | decide +kernel)) | refine ⟨Stay.skip rfl rfl (fun t ht => by cases ht; rfl), ?_⟩)); done))) | refine Rg.call (hf) rfl rfl rfl rfl rfl ⟨⟨.refl _, .refl _, trivial⟩, rfl⟩ ?_ | refine Rg.lend (hx) rfl rfl rfl rfl rfl rfl ⟨⟨.refl _, .func' ⟨.box rfl rfl rfl rfl rfl (.refl _), trivial⟩, trivial⟩, rfl⟩ ?_ | (refine Rg.op true tok rfl rfl rfl rfl ?_ ?_ ?_; (first | exact ⟨⟩ | omega | focus (simp <;> omega) | decide +kernel); (first | exact trivial | exact rfl | exact .inl rfl | exact .inr rfl | focus ((repeat (first | exact trivial | (refine ⟨Stay.op false tok rfl rfl rfl ?_ (fun t ht => by cases ht; rfl), ?_⟩; (first | exact ⟨⟩ | omega | focus (simp <;> omega) | decide +kernel)) | (refine ⟨Stay.op true tok rfl rfl rfl ?_ (fun t ht => by cases ht; rfl), ?_⟩; (first | exact ⟨⟩ | omega | focus (simp <;> omega) | decide +kernel)) | refine ⟨Stay.skip rfl rfl (fun t ht => by cases ht; rfl), ?_⟩)); done))) | refine Rg.nil ?_ | refine Rg.fork ?_ ?_ | refine Rg.skip rfl rfl rfl ?_ | refine Run.regR ?_ | refine Run.drwR mixed (by kernel_rfl) rfl ?_ | refine Run.condT rfl ?_ | refine Run.condF rfl ?_ | ((first | refine Run.condB rfl (fun hc => ?_) (fun hc => ?_) | ((fail_if_success (refine Rg.lit true rfl ?_)); (fail_if_success (refine Rg.lit false rfl ?_)); refine Rg.guard rfl (fun hc => ?_) (fun hc => ?_))) <;> ((try simp only [cs] at hc); (first | ((exfalso; omega); done) | skip))))
      refine Rg.own hc0 [] rfl rfl rfl rfl rfl rfl trivial ⟨.cl rfl, trivial⟩ rfl rfl (by (first | exact trivial | exact rfl | exact .inl rfl | exact .inr rfl | focus ((repeat (first | exact trivial | (refine ⟨Stay.op false tok rfl rfl rfl ?_ (fun t ht => by cases ht; rfl), ?_⟩; (first | exact ⟨⟩ | omega | focus (simp <;> omega) | decide +kernel)) | (refine ⟨Stay.op true tok rfl rfl rfl ?_ (fun t ht => by cases ht; rfl), ?_⟩; (first | exact ⟨⟩ | omega | focus (simp <;> omega) | decide +kernel)) | refine ⟨Stay.skip rfl rfl (fun t ht => by cases ht; rfl), ?_⟩)); done))) ?_
      repeat' (first | refine Run.ctl rfl ?_ | (refine Rg.op false tok rfl rfl rfl rfl ?_ ?_ ?_; (first | exact ⟨⟩ | omega | focus (simp <;> omega) | decide +kernel); (first | exact trivial | exact rfl | exact .inl rfl | exact .inr rfl | focus ((repeat (first | exact trivial | (refine ⟨Stay.op false tok rfl rfl rfl ?_ (fun t ht => by cases ht; rfl), ?_⟩; (first | exact ⟨⟩ | omega | focus (simp <;> omega) | decide +kernel)) | (refine ⟨Stay.op true tok rfl rfl rfl ?_ (fun t ht => by cases ht; rfl), ?_⟩; (first | exact ⟨⟩ | omega | focus (simp <;> omega) | decide +kernel)) | refine ⟨Stay.skip rfl rfl (fun t ht => by cases ht; rfl), ?_⟩)); done))) | refine Rg.call (ho) rfl rfl rfl rfl rfl ⟨⟨.refl _, trivial⟩, rfl⟩ ?_ | (refine Rg.op true tok rfl rfl rfl rfl ?_ ?_ ?_; (first | exact ⟨⟩ | omega | focus (simp <;> omega) | decide +kernel); (first | exact trivial | exact rfl | exact .inl rfl | exact .inr rfl | focus ((repeat (first | exact trivial | (refine ⟨Stay.op false tok rfl rfl rfl ?_ (fun t ht => by cases ht; rfl), ?_⟩; (first | exact ⟨⟩ | omega | focus (simp <;> omega) | decide +kernel)) | (refine ⟨Stay.op true tok rfl rfl rfl ?_ (fun t ht => by cases ht; rfl), ?_⟩; (first | exact ⟨⟩ | omega | focus (simp <;> omega) | decide +kernel)) | refine ⟨Stay.skip rfl rfl (fun t ht => by cases ht; rfl), ?_⟩)); done))) | refine Rg.nil ?_ | refine Rg.fork ?_ ?_ | refine Rg.skip rfl rfl rfl ?_ | refine Run.regR ?_ | refine Run.drwR mixed (by kernel_rfl) rfl ?_ | refine Run.condT rfl ?_ | refine Run.condF rfl ?_ | ((first | refine Run.condB rfl (fun hc => ?_) (fun hc => ?_) | ((fail_if_success (refine Rg.lit true rfl ?_)); (fail_if_success (refine Rg.lit false rfl ?_)); refine Rg.guard rfl (fun hc => ?_) (fun hc => ?_))) <;> ((try simp only [cs] at hc); (first | ((exfalso; omega); done) | skip))))
      refine Rg.owns hi (fun pv s h => by rcases h with ⟨_, rfl⟩ | ⟨_, rfl⟩ <;> rfl) [1, 2] rfl rfl rfl rfl rfl rfl ⟨⟨_, rfl, rfl, rfl, rfl, rfl, fun k hk => .ofEq rfl rfl⟩, ⟨_, rfl, rfl, rfl, rfl, rfl, fun k hk => (by rcases k with _ | k <;> first | exact .ofEq rfl rfl | exact absurd hk (by simp))⟩, trivial⟩ ⟨.slcN rfl rfl rfl, .cl rfl, .slcN rfl rfl rfl, trivial⟩ rfl (fun _ _ _ => trivial) ?_
      rintro pv s (⟨rfl, rfl⟩ | ⟨rfl, rfl⟩)
      · repeat' (first | refine Run.ctl rfl ?_ | (refine Rg.op false tok rfl rfl rfl rfl ?_ ?_ ?_; (first | exact ⟨⟩ | omega | focus (simp <;> omega) | decide +kernel); (first | exact trivial | exact rfl | exact .inl rfl | exact .inr rfl | focus ((repeat (first | exact trivial | (refine ⟨Stay.op false tok rfl rfl rfl ?_ (fun t ht => by cases ht; rfl), ?_⟩; (first | exact ⟨⟩ | omega | focus (simp <;> omega) | decide +kernel)) | (refine ⟨Stay.op true tok rfl rfl rfl ?_ (fun t ht => by cases ht; rfl), ?_⟩; (first | exact ⟨⟩ | omega | focus (simp <;> omega) | decide +kernel)) | refine ⟨Stay.skip rfl rfl (fun t ht => by cases ht; rfl), ?_⟩)); done))) | (refine Rg.op true tok rfl rfl rfl rfl ?_ ?_ ?_; (first | exact ⟨⟩ | omega | focus (simp <;> omega) | decide +kernel); (first | exact trivial | exact rfl | exact .inl rfl | exact .inr rfl | focus ((repeat (first | exact trivial | (refine ⟨Stay.op false tok rfl rfl rfl ?_ (fun t ht => by cases ht; rfl), ?_⟩; (first | exact ⟨⟩ | omega | focus (simp <;> omega) | decide +kernel)) | (refine ⟨Stay.op true tok rfl rfl rfl ?_ (fun t ht => by cases ht; rfl), ?_⟩; (first | exact ⟨⟩ | omega | focus (simp <;> omega) | decide +kernel)) | refine ⟨Stay.skip rfl rfl (fun t ht => by cases ht; rfl), ?_⟩)); done))) | refine Rg.nil ?_ | refine Rg.fork ?_ ?_ | refine Rg.skip rfl rfl rfl ?_ | refine Run.regR ?_ | refine Run.drwR mixed (by kernel_rfl) rfl ?_ | refine Run.condT rfl ?_ | refine Run.condF rfl ?_ | ((first | refine Run.condB rfl (fun hc => ?_) (fun hc => ?_) | ((fail_if_success (refine Rg.lit true rfl ?_)); (fail_if_success (refine Rg.lit false rfl ?_)); refine Rg.guard rfl (fun hc => ?_) (fun hc => ?_))) <;> ((try simp only [cs] at hc))))
        (first | refine Run.ret tok Tryd.func58 rfl ?_ | refine Run.fall tok Tryd.func58 rfl ?_)
        exact .tup' ⟨.row rfl rfl rfl (by dsimp only; omega) hn (fun _ => rfl) (fun j hj => by rw [Nat.zero_add]; rfl), .refl _, trivial⟩
      · repeat' (first | refine Run.ctl rfl ?_ | (refine Rg.op false tok rfl rfl rfl rfl ?_ ?_ ?_; (first | exact ⟨⟩ | omega | focus (simp <;> omega) | decide +kernel); (first | exact trivial | exact rfl | exact .inl rfl | exact .inr rfl | focus ((repeat (first | exact trivial | (refine ⟨Stay.op false tok rfl rfl rfl ?_ (fun t ht => by cases ht; rfl), ?_⟩; (first | exact ⟨⟩ | omega | focus (simp <;> omega) | decide +kernel)) | (refine ⟨Stay.op true tok rfl rfl rfl ?_ (fun t ht => by cases ht; rfl), ?_⟩; (first | exact ⟨⟩ | omega | focus (simp <;> omega) | decide +kernel)) | refine ⟨Stay.skip rfl rfl (fun t ht => by cases ht; rfl), ?_⟩)); done))) | (refine Rg.op true tok rfl rfl rfl rfl ?_ ?_ ?_; (first | exact ⟨⟩ | omega | focus (simp <;> omega) | decide +kernel); (first | exact trivial | exact rfl | exact .inl rfl | exact .inr rfl | focus ((repeat (first | exact trivial | (refine ⟨Stay.op false tok rfl rfl rfl ?_ (fun t ht => by cases ht; rfl), ?_⟩; (first | exact ⟨⟩ | omega | focus (simp <;> omega) | decide +kernel)) | (refine ⟨Stay.op true tok rfl rfl rfl ?_ (fun t ht => by cases ht; rfl), ?_⟩; (first | exact ⟨⟩ | omega | focus (simp <;> omega) | decide +kernel)) | refine ⟨Stay.skip rfl rfl (fun t ht => by cases ht; rfl), ?_⟩)); done))) | refine Rg.nil ?_ | refine Rg.fork ?_ ?_ | refine Rg.skip rfl rfl rfl ?_ | refine Run.regR ?_ | refine Run.drwR mixed (by kernel_rfl) rfl ?_ | refine Run.condT rfl ?_ | refine Run.condF rfl ?_ | ((first | refine Run.condB rfl (fun hc => ?_) (fun hc => ?_) | ((fail_if_success (refine Rg.lit true rfl ?_)); (fail_if_success (refine Rg.lit false rfl ?_)); refine Rg.guard rfl (fun hc => ?_) (fun hc => ?_))) <;> ((try simp only [cs] at hc))))
        (first | refine Run.ret tok Tryd.func58 rfl ?_ | refine Run.fall tok Tryd.func58 rfl ?_)
        exact .tup' ⟨.row rfl rfl rfl (by dsimp only; omega) hn (fun _ => rfl) (fun j hj => by rw [Nat.zero_add]; rfl), .refl _, trivial⟩
    · rw [if_neg hz] at hq
      obtain ⟨k, rfl⟩ : ∃ k : Nat, z = k := ⟨z.toNat, by omega⟩
      rw [Int.toNat_natCast] at hq
      rw [hq] at hi hn ⊢
      refine Pure.of_spec (Spec.of_run (fn := Tryd.f58) Tryd.func58 rfl rfl (by kernel_rfl) ?_) (by first | assumption | rfl | (split <;> rfl) | (split <;> split <;> rfl))
      repeat' (first | (refine Run.drwP [1, 5, 6] [0, 2, 3, 1, 4, 5, 6, 7, 8] [none, none, none, some [3, 2], none, some [2], some [], none, none] mixed (by kernel_rfl) rfl ?_) | refine Run.ctl rfl ?_ | (refine Rg.op false tok rfl rfl rfl rfl ?_ ?_ ?_; (first | exact ⟨⟩ | omega | focus (simp <;> omega) | decide +kernel); (first | exact trivial | exact rfl | exact .inl rfl | exact .inr rfl | focus ((repeat (first | exact trivial | (refine ⟨Stay.op false tok rfl rfl rfl ?_ (fun t ht => by cases ht; rfl), ?_⟩; (first | exact ⟨⟩ | omega | focus (simp <;> omega) | decide +kernel)) | (refine ⟨Stay.op true tok rfl rfl rfl ?_ (fun t ht => by cases ht; rfl), ?_⟩; (first | exact ⟨⟩ | omega | focus (simp <;> omega) | decide +kernel)) | refine ⟨Stay.skip rfl rfl (fun t ht => by cases ht; rfl), ?_⟩)); done))) | refine Rg.call (hf) rfl rfl rfl rfl rfl ⟨⟨.refl _, .refl _, trivial⟩, rfl⟩ ?_ | refine Rg.lend (hx) rfl rfl rfl rfl rfl rfl ⟨⟨.refl _, .func' ⟨.box rfl rfl rfl rfl rfl (.refl _), trivial⟩, trivial⟩, rfl⟩ ?_ | (refine Rg.op true tok rfl rfl rfl rfl ?_ ?_ ?_; (first | exact ⟨⟩ | omega | focus (simp <;> omega) | decide +kernel); (first | exact trivial | exact rfl | exact .inl rfl | exact .inr rfl | focus ((repeat (first | exact trivial | (refine ⟨Stay.op false tok rfl rfl rfl ?_ (fun t ht => by cases ht; rfl), ?_⟩; (first | exact ⟨⟩ | omega | focus (simp <;> omega) | decide +kernel)) | (refine ⟨Stay.op true tok rfl rfl rfl ?_ (fun t ht => by cases ht; rfl), ?_⟩; (first | exact ⟨⟩ | omega | focus (simp <;> omega) | decide +kernel)) | refine ⟨Stay.skip rfl rfl (fun t ht => by cases ht; rfl), ?_⟩)); done))) | refine Rg.nil ?_ | refine Rg.fork ?_ ?_ | refine Rg.skip rfl rfl rfl ?_ | refine Run.regR ?_ | refine Run.drwR mixed (by kernel_rfl) rfl ?_ | refine Run.condT rfl ?_ | refine Run.condF rfl ?_ | ((first | refine Run.condB rfl (fun hc => ?_) (fun hc => ?_) | ((fail_if_success (refine Rg.lit true rfl ?_)); (fail_if_success (refine Rg.lit false rfl ?_)); refine Rg.guard rfl (fun hc => ?_) (fun hc => ?_))) <;> ((try simp only [cs] at hc); (first | ((exfalso; omega); done) | skip))))
      refine Rg.own hc0 [] rfl rfl rfl rfl rfl rfl trivial ⟨.cl rfl, trivial⟩ rfl rfl (by (first | exact trivial | exact rfl | exact .inl rfl | exact .inr rfl | focus ((repeat (first | exact trivial | (refine ⟨Stay.op false tok rfl rfl rfl ?_ (fun t ht => by cases ht; rfl), ?_⟩; (first | exact ⟨⟩ | omega | focus (simp <;> omega) | decide +kernel)) | (refine ⟨Stay.op true tok rfl rfl rfl ?_ (fun t ht => by cases ht; rfl), ?_⟩; (first | exact ⟨⟩ | omega | focus (simp <;> omega) | decide +kernel)) | refine ⟨Stay.skip rfl rfl (fun t ht => by cases ht; rfl), ?_⟩)); done))) ?_
      repeat' (first | refine Run.ctl rfl ?_ | (refine Rg.op false tok rfl rfl rfl rfl ?_ ?_ ?_; (first | exact ⟨⟩ | omega | focus (simp <;> omega) | decide +kernel); (first | exact trivial | exact rfl | exact .inl rfl | exact .inr rfl | focus ((repeat (first | exact trivial | (refine ⟨Stay.op false tok rfl rfl rfl ?_ (fun t ht => by cases ht; rfl), ?_⟩; (first | exact ⟨⟩ | omega | focus (simp <;> omega) | decide +kernel)) | (refine ⟨Stay.op true tok rfl rfl rfl ?_ (fun t ht => by cases ht; rfl), ?_⟩; (first | exact ⟨⟩ | omega | focus (simp <;> omega) | decide +kernel)) | refine ⟨Stay.skip rfl rfl (fun t ht => by cases ht; rfl), ?_⟩)); done))) | refine Rg.call (ho) rfl rfl rfl rfl rfl ⟨⟨.refl _, trivial⟩, rfl⟩ ?_ | (refine Rg.op true tok rfl rfl rfl rfl ?_ ?_ ?_; (first | exact ⟨⟩ | omega | focus (simp <;> omega) | decide +kernel); (first | exact trivial | exact rfl | exact .inl rfl | exact .inr rfl | focus ((repeat (first | exact trivial | (refine ⟨Stay.op false tok rfl rfl rfl ?_ (fun t ht => by cases ht; rfl), ?_⟩; (first | exact ⟨⟩ | omega | focus (simp <;> omega) | decide +kernel)) | (refine ⟨Stay.op true tok rfl rfl rfl ?_ (fun t ht => by cases ht; rfl), ?_⟩; (first | exact ⟨⟩ | omega | focus (simp <;> omega) | decide +kernel)) | refine ⟨Stay.skip rfl rfl (fun t ht => by cases ht; rfl), ?_⟩)); done))) | refine Rg.nil ?_ | refine Rg.fork ?_ ?_ | refine Rg.skip rfl rfl rfl ?_ | refine Run.regR ?_ | refine Run.drwR mixed (by kernel_rfl) rfl ?_ | refine Run.condT rfl ?_ | refine Run.condF rfl ?_ | ((first | refine Run.condB rfl (fun hc => ?_) (fun hc => ?_) | ((fail_if_success (refine Rg.lit true rfl ?_)); (fail_if_success (refine Rg.lit false rfl ?_)); refine Rg.guard rfl (fun hc => ?_) (fun hc => ?_))) <;> ((try simp only [cs] at hc); (first | ((exfalso; omega); done) | skip))))
      refine Rg.owns hi (fun pv s h => by rcases h with ⟨_, rfl⟩ | ⟨_, rfl⟩ <;> rfl) [1, 2] rfl rfl rfl rfl rfl rfl ⟨⟨_, rfl, rfl, rfl, rfl, rfl, fun k hk => .ofEq rfl rfl⟩, ⟨_, rfl, rfl, rfl, rfl, rfl, fun k hk => (by rcases k with _ | k <;> first | exact .ofEq rfl rfl | exact absurd hk (by simp))⟩, trivial⟩ ⟨.slcN rfl rfl rfl, .cl rfl, .slcN rfl rfl rfl, trivial⟩ rfl (fun _ _ _ => trivial) ?_
      rintro pv s (⟨rfl, rfl⟩ | ⟨rfl, rfl⟩)
      · repeat' (first | refine Run.ctl rfl ?_ | (refine Rg.op false tok rfl rfl rfl rfl ?_ ?_ ?_; (first | exact ⟨⟩ | omega | focus (simp <;> omega) | decide +kernel); (first | exact trivial | exact rfl | exact .inl rfl | exact .inr rfl | focus ((repeat (first | exact trivial | (refine ⟨Stay.op false tok rfl rfl rfl ?_ (fun t ht => by cases ht; rfl), ?_⟩; (first | exact ⟨⟩ | omega | focus (simp <;> omega) | decide +kernel)) | (refine ⟨Stay.op true tok rfl rfl rfl ?_ (fun t ht => by cases ht; rfl), ?_⟩; (first | exact ⟨⟩ | omega | focus (simp <;> omega) | decide +kernel)) | refine ⟨Stay.skip rfl rfl (fun t ht => by cases ht; rfl), ?_⟩)); done))) | (refine Rg.op true tok rfl rfl rfl rfl ?_ ?_ ?_; (first | exact ⟨⟩ | omega | focus (simp <;> omega) | decide +kernel); (first | exact trivial | exact rfl | exact .inl rfl | exact .inr rfl | focus ((repeat (first | exact trivial | (refine ⟨Stay.op false tok rfl rfl rfl ?_ (fun t ht => by cases ht; rfl), ?_⟩; (first | exact ⟨⟩ | omega | focus (simp <;> omega) | decide +kernel)) | (refine ⟨Stay.op true tok rfl rfl rfl ?_ (fun t ht => by cases ht; rfl), ?_⟩; (first | exact ⟨⟩ | omega | focus (simp <;> omega) | decide +kernel)) | refine ⟨Stay.skip rfl rfl (fun t ht => by cases ht; rfl), ?_⟩)); done))) | refine Rg.nil ?_ | refine Rg.fork ?_ ?_ | refine Rg.skip rfl rfl rfl ?_ | refine Run.regR ?_ | refine Run.drwR mixed (by kernel_rfl) rfl ?_ | refine Run.condT rfl ?_ | refine Run.condF rfl ?_ | ((first | refine Run.condB rfl (fun hc => ?_) (fun hc => ?_) | ((fail_if_success (refine Rg.lit true rfl ?_)); (fail_if_success (refine Rg.lit false rfl ?_)); refine Rg.guard rfl (fun hc => ?_) (fun hc => ?_))) <;> ((try simp only [cs] at hc))))
        (first | refine Run.ret tok Tryd.func58 rfl ?_ | refine Run.fall tok Tryd.func58 rfl ?_)
        exact .tup' ⟨.row rfl rfl rfl (by dsimp only; omega) hn (fun _ => rfl) (fun j hj => by rw [Nat.zero_add]; rfl), .refl _, trivial⟩
      · repeat' (first | refine Run.ctl rfl ?_ | (refine Rg.op false tok rfl rfl rfl rfl ?_ ?_ ?_; (first | exact ⟨⟩ | omega | focus (simp <;> omega) | decide +kernel); (first | exact trivial | exact rfl | exact .inl rfl | exact .inr rfl | focus ((repeat (first | exact trivial | (refine ⟨Stay.op false tok rfl rfl rfl ?_ (fun t ht => by cases ht; rfl), ?_⟩; (first | exact ⟨⟩ | omega | focus (simp <;> omega) | decide +kernel)) | (refine ⟨Stay.op true tok rfl rfl rfl ?_ (fun t ht => by cases ht; rfl), ?_⟩; (first | exact ⟨⟩ | omega | focus (simp <;> omega) | decide +kernel)) | refine ⟨Stay.skip rfl rfl (fun t ht => by cases ht; rfl), ?_⟩)); done))) | (refine Rg.op true tok rfl rfl rfl rfl ?_ ?_ ?_; (first | exact ⟨⟩ | omega | focus (simp <;> omega) | decide +kernel); (first | exact trivial | exact rfl | exact .inl rfl | exact .inr rfl | focus ((repeat (first | exact trivial | (refine ⟨Stay.op false tok rfl rfl rfl ?_ (fun t ht => by cases ht; rfl), ?_⟩; (first | exact ⟨⟩ | omega | focus (simp <;> omega) | decide +kernel)) | (refine ⟨Stay.op true tok rfl rfl rfl ?_ (fun t ht => by cases ht; rfl), ?_⟩; (first | exact ⟨⟩ | omega | focus (simp <;> omega) | decide +kernel)) | refine ⟨Stay.skip rfl rfl (fun t ht => by cases ht; rfl), ?_⟩)); done))) | refine Rg.nil ?_ | refine Rg.fork ?_ ?_ | refine Rg.skip rfl rfl rfl ?_ | refine Run.regR ?_ | refine Run.drwR mixed (by kernel_rfl) rfl ?_ | refine Run.condT rfl ?_ | refine Run.condF rfl ?_ | ((first | refine Run.condB rfl (fun hc => ?_) (fun hc => ?_) | ((fail_if_success (refine Rg.lit true rfl ?_)); (fail_if_success (refine Rg.lit false rfl ?_)); refine Rg.guard rfl (fun hc => ?_) (fun hc => ?_))) <;> ((try simp only [cs] at hc))))
        (first | refine Run.ret tok Tryd.func58 rfl ?_ | refine Run.fall tok Tryd.func58 rfl ?_)
        exact .tup' ⟨.row rfl rfl rfl (by dsimp only; omega) hn (fun _ => rfl) (fun j hj => by rw [Nat.zero_add]; rfl), .refl _, trivial⟩
  · rw [h2, if_pos rfl]
    generalize findMail m.id l 0 = z at hf h1
    refine Pure.of_spec (Spec.of_run (fn := Tryd.f58) Tryd.func58 rfl rfl (by kernel_rfl) ?_) (by first | assumption | rfl | (split <;> rfl) | (split <;> split <;> rfl))
    repeat' (first | refine Run.ctl rfl ?_ | (refine Rg.op false tok rfl rfl rfl rfl ?_ ?_ ?_; (first | exact ⟨⟩ | omega | focus (simp <;> omega) | decide +kernel); (first | exact trivial | exact rfl | exact .inl rfl | exact .inr rfl | focus ((repeat (first | exact trivial | (refine ⟨Stay.op false tok rfl rfl rfl ?_ (fun t ht => by cases ht; rfl), ?_⟩; (first | exact ⟨⟩ | omega | focus (simp <;> omega) | decide +kernel)) | (refine ⟨Stay.op true tok rfl rfl rfl ?_ (fun t ht => by cases ht; rfl), ?_⟩; (first | exact ⟨⟩ | omega | focus (simp <;> omega) | decide +kernel)) | refine ⟨Stay.skip rfl rfl (fun t ht => by cases ht; rfl), ?_⟩)); done))) | refine Rg.call (hf) rfl rfl rfl rfl rfl ⟨⟨.refl _, .refl _, trivial⟩, rfl⟩ ?_ | (refine Rg.op true tok rfl rfl rfl rfl ?_ ?_ ?_; (first | exact ⟨⟩ | omega | focus (simp <;> omega) | decide +kernel); (first | exact trivial | exact rfl | exact .inl rfl | exact .inr rfl | focus ((repeat (first | exact trivial | (refine ⟨Stay.op false tok rfl rfl rfl ?_ (fun t ht => by cases ht; rfl), ?_⟩; (first | exact ⟨⟩ | omega | focus (simp <;> omega) | decide +kernel)) | (refine ⟨Stay.op true tok rfl rfl rfl ?_ (fun t ht => by cases ht; rfl), ?_⟩; (first | exact ⟨⟩ | omega | focus (simp <;> omega) | decide +kernel)) | refine ⟨Stay.skip rfl rfl (fun t ht => by cases ht; rfl), ?_⟩)); done))) | refine Rg.nil ?_ | refine Rg.fork ?_ ?_ | refine Rg.skip rfl rfl rfl ?_ | refine Run.regR ?_ | refine Run.drwR mixed (by kernel_rfl) rfl ?_ | refine Run.condT rfl ?_ | refine Run.condF rfl ?_ | ((first | refine Run.condB rfl (fun hc => ?_) (fun hc => ?_) | ((fail_if_success (refine Rg.lit true rfl ?_)); (fail_if_success (refine Rg.lit false rfl ?_)); refine Rg.guard rfl (fun hc => ?_) (fun hc => ?_))) <;> ((try simp only [cs] at hc); (first | ((exfalso; omega); done) | skip))))
    (first | refine Run.ret tok Tryd.func58 rfl ?_ | refine Run.fall tok Tryd.func58 rfl ?_)
    exact .tup' ⟨.rowNil, .refl _, trivial⟩
end Go.Proofs.YtffckdfcmdmnoaaDoor.W
end
section
/- Walks: messages sent (chapter 9). -/
set_option linter.unusedVariables false
set_option linter.unusedSimpArgs false
set_option linter.unusedSectionVars false
set_option pp.maxSteps 3000
set_option maxHeartbeats 1000000
namespace Go.Proofs.YtffckdfcmdmnoaaDoor.W
open Go Go.Sy

def eWdO (w : Wd) : List PV := [.slc 1 0 w.actors.length, sl 6 eMsg w.mail, i64 w.used.drop, i64 w.used.dup, i64 w.used.time, i64 w.used.crash]
def rowL (l : List Lcl) : Option Blk := some ⟨41, 5, l.length, rows eLcl l, false, false⟩
/-- A world of one's own: its box, and the row of its actors. -/
def wdSt (w : Wd) : St := [some ⟨34, 6, 1, fun _ => eWdO w, false, false⟩, rowL w.actors]
theorem rows_set {α : Type} [Inhabited α] (enc : α → List PV) (l : List α) {k : Nat} (a : α) (hk : k < l.length) (j : Nat) : rows enc (l.set k a) j = bif Nat.beq j (0 + k) then enc a else rows enc l j := by
  rw [Nat.zero_add]
  unfold rows
  by_cases h : j = k
  · subst h; simp [hk]
  · have : Nat.beq j k = false := by rw [Bool.eq_false_iff]; intro hh; exact h (Nat.eq_of_beq_eq_true hh)
    rw [this]
    simp only [cond_false]
    congr 1
    simp [List.getElem?_set, Ne.symm h]
theorem wrap_id {n : Int} (h : R64 n) : IntKind.wrap .i64 n = n := by
  unfold R64 at h
  unfold IntKind.wrap
  simp [IntKind.signed, IntKind.bits]
  omega
theorem post_ (p : Pg) (w : Wd) (m : Msg) (k : Nat) (hk : m.note.to_ = k) (hp : k < p.actors.length) (hw : k < w.actors.length) (hl : w.mail.length ≤ 100000) (ha : ∀ x ∈ w.mail, x.note.args.length ≤ 100000) (hm : m.note.args.length ≤ 100000) (ho : -9223372036854775808 ≤ (w.actors.getD k default).over ∧ (w.actors.getD k default).over < 9223372036854775807) :
    Own Tryd.prog 33 [pPg p, .ptr 0 0 0, pMsg m] (wdSt w) (.tup []) (wdSt (postIn p w m)) := by
  have hto := mailTo_ w.mail m.note.to_ hl
  have hput := put_ w.mail m hl ha hm
  obtain ⟨id, to_, hd, args⟩ := m
  dsimp only at hk
  subst hk
  unfold postIn
  dsimp only [Int.toNat_natCast] at hto hput ⊢
  by_cases hr : (toMail w.mail k : Int) < (p.actors.getD k default).cap
  · rw [if_pos hr]
    unfold putP at hput
    cases hpm : putMail w.mail ⟨id, k, hd, args⟩ with
    | some l =>
      rw [hpm] at hput
      dsimp only at hput ⊢
      refine Spec.of_run (fn := Tryd.f33) Tryd.func33 rfl rfl (by kernel_rfl) ?_
      repeat' (first | (refine Run.drwP [] [0, 1, 2, 3, 4, 5, 6, 7, 8, 9, 10, 11, 12] [none, none, none, none, none, none, none, none, none, none, none, none, none] mixed (by kernel_rfl) rfl ?_) | (refine Run.drwP [] [0, 1, 2, 3, 4, 5, 6, 7, 8, 9, 10] [none, none, none, none, none, none, none, none, none, none, none] mixed (by kernel_rfl) rfl ?_) | refine Run.ctl rfl ?_ | (refine Rg.op false tok rfl rfl rfl rfl ?_ ?_ ?_; (first | exact ⟨⟩ | omega | focus (simp <;> omega) | decide +kernel); (first | exact trivial | exact rfl | exact .inl rfl | exact .inr rfl | focus ((repeat (first | exact trivial | (refine ⟨Stay.op false tok rfl rfl rfl ?_ (fun t ht => by cases ht; rfl), ?_⟩; (first | exact ⟨⟩ | omega | focus (simp <;> omega) | decide +kernel)) | (refine ⟨Stay.op true tok rfl rfl rfl ?_ (fun t ht => by cases ht; rfl), ?_⟩; (first | exact ⟨⟩ | omega | focus (simp <;> omega) | decide +kernel)) | refine ⟨Stay.skip rfl rfl (fun t ht => by cases ht; rfl), ?_⟩)); done))) | refine Rg.call (hto) rfl rfl rfl rfl rfl ⟨⟨.refl _, .refl _, trivial⟩, rfl⟩ ?_ | refine Rg.call (hput) rfl rfl rfl rfl rfl ⟨⟨.refl _, .refl _, trivial⟩, rfl⟩ ?_ | (refine Rg.op true tok rfl rfl rfl rfl ?_ ?_ ?_; (first | exact ⟨⟩ | omega | focus (simp <;> omega) | decide +kernel); (first | exact trivial | exact rfl | exact .inl rfl | exact .inr rfl | focus ((repeat (first | exact trivial | (refine ⟨Stay.op false tok rfl rfl rfl ?_ (fun t ht => by cases ht; rfl), ?_⟩; (first | exact ⟨⟩ | omega | focus (simp <;> omega) | decide +kernel)) | (refine ⟨Stay.op true tok rfl rfl rfl ?_ (fun t ht => by cases ht; rfl), ?_⟩; (first | exact ⟨⟩ | omega | focus (simp <;> omega) | decide +kernel)) | refine ⟨Stay.skip rfl rfl (fun t ht => by cases ht; rfl), ?_⟩)); done))) | refine Rg.nil ?_ | refine Rg.fork ?_ ?_ | refine Rg.skip rfl rfl rfl ?_ | refine Run.regR ?_ | refine Run.drwR mixed (by kernel_rfl) rfl ?_ | refine Run.condT rfl ?_ | refine Run.condF rfl ?_ | ((first | refine Run.condB rfl (fun hc => ?_) (fun hc => ?_) | ((fail_if_success (refine Rg.lit true rfl ?_)); (fail_if_success (refine Rg.lit false rfl ?_)); refine Rg.guard rfl (fun hc => ?_) (fun hc => ?_))) <;> ((try simp only [cs] at hc); (first | ((exfalso; omega); done) | skip))))
      refine Run.renumL [0, 1] (wdSt { w with mail := l }) [] rfl rfl rfl rfl ⟨⟨_, rfl, rfl, rfl, rfl, rfl, fun k hk => ⟨.slcN rfl rfl rfl, .cl rfl, .cl rfl, .cl rfl, .cl rfl, .cl rfl, trivial⟩⟩, ⟨_, rfl, rfl, rfl, rfl, rfl, fun k hk => .ofEq rfl rfl⟩, trivial⟩ trivial ?_
      (first | refine Run.ret tok Tryd.func33 rfl ?_ | refine Run.fall tok Tryd.func33 rfl ?_)
      exact ⟨rfl, rfl⟩
    | none =>
      rw [hpm] at hput
      dsimp only at hput ⊢
      refine Spec.of_run (fn := Tryd.f33) Tryd.func33 rfl rfl (by kernel_rfl) ?_
      repeat' (first | (refine Run.drwP [] [0, 1, 2, 3, 4, 5, 6, 7, 8, 9, 10, 11, 12] [none, none, none, none, none, none, none, none, none, none, none, none, none] mixed (by kernel_rfl) rfl ?_) | (refine Run.drwP [] [0, 1, 2, 3, 4, 5, 6, 7, 8, 9, 10] [none, none, none, none, none, none, none, none, none, none, none] mixed (by kernel_rfl) rfl ?_) | refine Run.ctl rfl ?_ | (refine Rg.op false tok rfl rfl rfl rfl ?_ ?_ ?_; (first | exact ⟨⟩ | omega | focus (simp <;> omega) | decide +kernel); (first | exact trivial | exact rfl | exact .inl rfl | exact .inr rfl | focus ((repeat (first | exact trivial | (refine ⟨Stay.op false tok rfl rfl rfl ?_ (fun t ht => by cases ht; rfl), ?_⟩; (first | exact ⟨⟩ | omega | focus (simp <;> omega) | decide +kernel)) | (refine ⟨Stay.op true tok rfl rfl rfl ?_ (fun t ht => by cases ht; rfl), ?_⟩; (first | exact ⟨⟩ | omega | focus (simp <;> omega) | decide +kernel)) | refine ⟨Stay.skip rfl rfl (fun t ht => by cases ht; rfl), ?_⟩)); done))) | refine Rg.call (hto) rfl rfl rfl rfl rfl ⟨⟨.refl _, .refl _, trivial⟩, rfl⟩ ?_ | refine Rg.call (hput) rfl rfl rfl rfl rfl ⟨⟨.refl _, .refl _, trivial⟩, rfl⟩ ?_ | (refine Rg.op true tok rfl rfl rfl rfl ?_ ?_ ?_; (first | exact ⟨⟩ | omega | focus (simp <;> omega) | decide +kernel); (first | exact trivial | exact rfl | exact .inl rfl | exact .inr rfl | focus ((repeat (first | exact trivial | (refine ⟨Stay.op false tok rfl rfl rfl ?_ (fun t ht => by cases ht; rfl), ?_⟩; (first | exact ⟨⟩ | omega | focus (simp <;> omega) | decide +kernel)) | (refine ⟨Stay.op true tok rfl rfl rfl ?_ (fun t ht => by cases ht; rfl), ?_⟩; (first | exact ⟨⟩ | omega | focus (simp <;> omega) | decide +kernel)) | refine ⟨Stay.skip rfl rfl (fun t ht => by cases ht; rfl), ?_⟩)); done))) | refine Rg.nil ?_ | refine Rg.fork ?_ ?_ | refine Rg.skip rfl rfl rfl ?_ | refine Run.regR ?_ | refine Run.drwR mixed (by kernel_rfl) rfl ?_ | refine Run.condT rfl ?_ | refine Run.condF rfl ?_ | ((first | refine Run.condB rfl (fun hc => ?_) (fun hc => ?_) | ((fail_if_success (refine Rg.lit true rfl ?_)); (fail_if_success (refine Rg.lit false rfl ?_)); refine Rg.guard rfl (fun hc => ?_) (fun hc => ?_))) <;> ((try simp only [cs] at hc); (first | ((exfalso; omega); done) | skip))))
      refine Run.renumL [0, 1] (wdSt { w with actors := w.actors.set k (addOver (w.actors.getD k default)) }) [] rfl rfl rfl rfl ⟨⟨_, rfl, rfl, rfl, rfl, rfl, fun k hk => ⟨.slcN rfl rfl (by simp), .cl rfl, .cl rfl, .cl rfl, .cl rfl, .cl rfl, trivial⟩⟩, ⟨_, rfl, rfl, rfl, by simp, rfl, fun j hj => .ofEq (by dsimp only; rw [rows_set eLcl _ _ hw j, Nat.zero_add, wrap_id (by unfold R64; omega)]; rfl) rfl⟩, trivial⟩ trivial ?_
      (first | refine Run.ret tok Tryd.func33 rfl ?_ | refine Run.fall tok Tryd.func33 rfl ?_)
      exact ⟨rfl, rfl⟩
  · rw [if_neg hr]
    refine Spec.of_run (fn := Tryd.f33) Tryd.func33 rfl rfl (by kernel_rfl) ?_
    repeat' (first | (refine Run.drwP [] [0, 1, 2, 3, 4, 5, 6, 7, 8, 9, 10, 11, 12] [none, none, none, none, none, none, none, none, none, none, none, none, none] mixed (by kernel_rfl) rfl ?_) | refine Run.ctl rfl ?_ | (refine Rg.op false tok rfl rfl rfl rfl ?_ ?_ ?_; (first | exact ⟨⟩ | omega | focus (simp <;> omega) | decide +kernel); (first | exact trivial | exact rfl | exact .inl rfl | exact .inr rfl | focus ((repeat (first | exact trivial | (refine ⟨Stay.op false tok rfl rfl rfl ?_ (fun t ht => by cases ht; rfl), ?_⟩; (first | exact ⟨⟩ | omega | focus (simp <;> omega) | decide +kernel)) | (refine ⟨Stay.op true tok rfl rfl rfl ?_ (fun t ht => by cases ht; rfl), ?_⟩; (first | exact ⟨⟩ | omega | focus (simp <;> omega) | decide +kernel)) | refine ⟨Stay.skip rfl rfl (fun t ht => by cases ht; rfl), ?_⟩)); done))) | refine Rg.call (hto) rfl rfl rfl rfl rfl ⟨⟨.refl _, .refl _, trivial⟩, rfl⟩ ?_ | (refine Rg.op true tok rfl rfl rfl rfl ?_ ?_ ?_; (first | exact ⟨⟩ | omega | focus (simp <;> omega) | decide +kernel); (first | exact trivial | exact rfl | exact .inl rfl | exact .inr rfl | focus ((repeat (first | exact trivial | (refine ⟨Stay.op false tok rfl rfl rfl ?_ (fun t ht => by cases ht; rfl), ?_⟩; (first | exact ⟨⟩ | omega | focus (simp <;> omega) | decide +kernel)) | (refine ⟨Stay.op true tok rfl rfl rfl ?_ (fun t ht => by cases ht; rfl), ?_⟩; (first | exact ⟨⟩ | omega | focus (simp <;> omega) | decide +kernel)) | refine ⟨Stay.skip rfl rfl (fun t ht => by cases ht; rfl), ?_⟩)); done))) | refine Rg.nil ?_ | refine Rg.fork ?_ ?_ | refine Rg.skip rfl rfl rfl ?_ | refine Run.regR ?_ | refine Run.drwR mixed (by kernel_rfl) rfl ?_ | refine Run.condT rfl ?_ | refine Run.condF rfl ?_ | ((first | refine Run.condB rfl (fun hc => ?_) (fun hc => ?_) | ((fail_if_success (refine Rg.lit true rfl ?_)); (fail_if_success (refine Rg.lit false rfl ?_)); refine Rg.guard rfl (fun hc => ?_) (fun hc => ?_))) <;> ((try simp only [cs] at hc); (first | ((exfalso; omega); done) | skip))))
    refine Run.renumL [0, 1] (wdSt { w with actors := w.actors.set k (addOver (w.actors.getD k default)) }) [] rfl rfl rfl rfl ⟨⟨_, rfl, rfl, rfl, rfl, rfl, fun k hk => ⟨.slcN rfl rfl (by simp), .cl rfl, .cl rfl, .cl rfl, .cl rfl, .cl rfl, trivial⟩⟩, ⟨_, rfl, rfl, rfl, by simp, rfl, fun j hj => .ofEq (by dsimp only; rw [rows_set eLcl _ _ hw j, Nat.zero_add, wrap_id (by unfold R64; omega)]; rfl) rfl⟩, trivial⟩ trivial ?_
    (first | refine Run.ret tok Tryd.func33 rfl ?_ | refine Run.fall tok Tryd.func33 rfl ?_)
    exact ⟨rfl, rfl⟩
end Go.Proofs.YtffckdfcmdmnoaaDoor.W
end
