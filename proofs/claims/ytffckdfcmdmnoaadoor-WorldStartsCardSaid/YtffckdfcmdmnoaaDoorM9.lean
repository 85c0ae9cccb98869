/- Texts merged: Y11. -/
import Derived.Test.YtffckdfcmdmnoaaDoorM6
section
/- Rows of like elements; loops; ends. -/
set_option linter.unusedVariables false
set_option linter.unusedSimpArgs false
set_option linter.unusedSectionVars false
namespace Go.Sy
open Go Go.RowKit
variable [Globs]

/-- The cells of a row whose elements are those of a list. -/
def rows {α : Type} [Inhabited α] (enc : α → List PV) (xs : List α) : Nat → List PV := fun k => enc (xs.getD k default)
def sl {α : Type} [Inhabited α] (sz : Nat) (enc : α → List PV) (xs : List α) : PV := .fz sz xs.length (rows enc xs)

theorem rows_app {α : Type} [Inhabited α] (enc : α → List PV) (xs ys : List α) {n : Nat} (hn : n = xs.length) {a b : Nat → List PV} (ha : ∀ k, k < xs.length → a k = rows enc xs k) (hb : ∀ k, k < ys.length → b k = rows enc ys k) :
    ∀ k, k < n + ys.length → appEl n a b k = rows enc (xs ++ ys) k := by
  subst hn
  intro k hk
  rcases Nat.lt_or_ge k xs.length with h | h
  · rw [appEl_left h, ha k h]
    simp [rows, List.getElem?_append_left h]
  · rw [appEl_right h, hb _ (by omega)]
    simp [rows, List.getElem?_append_right h]
/-! ### ends -/
section
variable {ok : Blk → Bool} {st : St}
theorem Cv.ofInt {k : IntKind} {a b : Int} (h : a = b) : Cv ok st (.atom (.int k a)) (.atom (.int k b)) := h ▸ .refl _
theorem Cv.ofBool {a b : Bool} (h : a = b) : Cv ok st (.atom (.bool a)) (.atom (.bool b)) := h ▸ .refl _
theorem Cv.ofStr {a b : ByteArray} (h : a = b) : Cv ok st (.atom (.string a)) (.atom (.string b)) := h ▸ .refl _
theorem Cv.of {a b : PV} (h : a = b) : Cv ok st a b := h ▸ .refl _
theorem Cv.row {α : Type} [Inhabited α] {sz : Nat} {enc : α → List PV} {xs : List α} {i k n : Nat} {B : Blk} (hB : st.get i = some B) (hok : ok B = true) (hsz : Nat.beq B.sz sz = true) (hn : k + n ≤ B.n) (hl : n = xs.length) (hc : ∀ x, closedL (enc x) = true) (h : ∀ j, j < xs.length → B.el (k + j) = rows enc xs j) : Cv ok st (.slc i k n) (sl sz enc xs) :=
  Cv.slcEq hB hok hsz hn hl (fun j _ => hc _) (fun j hj => h j (hl ▸ hj))
theorem Cv.rowF {α : Type} [Inhabited α] {sz n : Nat} {el : Nat → List PV} {enc : α → List PV} {xs : List α} (hl : n = xs.length) (hc : ∀ x, closedL (enc x) = true) (h : ∀ j, j < xs.length → el j = rows enc xs j) : Cv ok st (.fz sz n el) (sl sz enc xs) :=
  Cv.fzEq hl (fun j _ => hc _) (fun j hj => h j (hl ▸ hj))
theorem Cv.rowNil {α : Type} [Inhabited α] {sz : Nat} {enc : α → List PV} : Cv ok st (.atom (.slice none 0 0)) (sl sz enc ([] : List α)) := .nil
end

/-! ### loops -/
section
variable {P : Program} {f : FuncId} {fn : Func} {n0 : Nat} {Q : PV → St → Prop} {k : List Item} {env : Env} {st : St}

/-- A loop whose head is always met in a state of one shape. -/
theorem Run.loopAt {ι : Type} (I : ι → List (Nat × PV) × St) (Inv : ι → Prop) (μ : ι → Nat) (i0 : ι) {c : Code} (he : envEq env (I i0).1) (hs : st = (I i0).2) (hi : Inv i0)
    (step : ∀ i, Inv i → (∀ j env' st', Inv j → μ j < μ i → envEq env' (I j).1 → st' = (I j).2 → Run P f fn n0 Q (.inLoop c :: k) env' st') → Run P f fn n0 Q (.code c :: .inLoop c :: k) (envL (I i).1) (I i).2) :
    Run P f fn n0 Q (.code (.loop c) :: k) env st := by
  refine Run.loopOf (Run.to he ?_)
  rw [hs]
  exact Run.loopInd (fun i => (envL (I i).1, (I i).2)) Inv μ (fun i hi back => step i hi (fun j env' st' hj hlt he' hs' => Run.to he' (hs' ▸ back j hj hlt))) i0 hi

/-- 'nil' is a row of one's own without elements. -/
theorem Run.nilRow (d e sz : Nat) (el : Nat → List PV) (hd : isNilS (env d) = true) (h : Run P f fn n0 Q k (env.put (some d) (.slc st.length 0 0)) (st ++ [some ⟨e, sz, 0, el, false, false⟩])) : Run P f fn n0 Q k env st := by
  intro hn0 K σ w a b cs hR hsz hdf hfn hk hE
  obtain ⟨hR', hX⟩ := hR.push (Below.refl _ _) (L := ⟨0, 0, 0, 0, false, rfl⟩) (B := ⟨e, sz, 0, el, false, false⟩) rfl (fun h => by cases h) (fun _ => rfl)
  obtain ⟨v, w', fr, ⟨K2, σ2, st2, pv2, q2, e2, r2, v2⟩, r⟩ := h (by simp; omega) K _ w a b cs hR' hsz hdf hfn hk (fun t => by
    show VR K _ _ (bif Nat.beq t d then _ else env t) _
    cases hb : Nat.beq t d with
    | true =>
      have := Nat.eq_of_beq_eq_true hb
      subst this
      have hv := hE t
      rw [isNilS_spec hd] at hv
      rw [hv.atom_inv]
      exact .slc0 none
    | false => exact (hE t).ext hX)
  exact ⟨v, w', fr, ⟨K2, σ2, st2, pv2, q2, (hX.less hn0).trans e2, r2, v2⟩, r⟩

def lgetN : List Nat → Nat → Nat
  | [], _ => 0
  | a :: _, 0 => a
  | _ :: l, n + 1 => lgetN l n
/-- The blocks of 'st'', one by one: each is the block of 'st' with the number beside it. -/
def StL (rs : List Nat) (N : Nat) (st : St) : List Nat → St → Prop
  | [], [] => True
  | _ :: l, none :: m => StL rs N st l m
  | a :: l, some B' :: m => (∃ B, st.get a = some B ∧ B'.e = B.e ∧ B'.sz = B.sz ∧ B'.n = B.n ∧ B'.as B = true ∧ ∀ k, k < B.n → RnL (lgetN rs) N (B.el k) (B'.el k)) ∧ StL rs N st l m
  | _, _ => False
theorem StL.spec {rs : List Nat} {N : Nat} {st : St} : ∀ {l : List Nat} {m : St}, StL rs N st l m → ∀ i B', m.get i = some B' → ∃ B, st.get (lgetN l i) = some B ∧ B'.e = B.e ∧ B'.sz = B.sz ∧ B'.n = B.n ∧ B'.as B = true ∧ ∀ k, k < B.n → RnL (lgetN rs) N (B.el k) (B'.el k)
  | [], [], _, i, B', h => by simp [St.get] at h
  | _ :: l, none :: m, h, i, B', hB => by
    cases i with
    | zero => simp [St.get] at hB
    | succ i => exact StL.spec (l := l) (m := m) h i B' hB
  | a :: l, some C :: m, h, i, B', hB => by
    cases i with
    | zero => simp only [St.get, Option.some.injEq] at hB; subst hB; exact h.1
    | succ i => exact StL.spec (l := l) (m := m) h.2 i B' hB
  | [], _ :: _, h, _, _, _ => h.elim
  | _ :: _, [], h, _, _, _ => h.elim
def nodupB : List Nat → Bool
  | [] => true
  | a :: l => bif lmem a l then false else nodupB l
theorem lgetN_mem {l : List Nat} {i : Nat} (h : i < l.length) : lgetN l i ∈ l := by
  induction l generalizing i with
  | nil => simp at h
  | cons a l ih => cases i with
    | zero => simp [lgetN]
    | succ i => simp at h; simp [lgetN, ih h]
theorem nodupB_inj : ∀ {l : List Nat}, nodupB l = true → ∀ {i j : Nat}, i < l.length → j < l.length → lgetN l i = lgetN l j → i = j
  | [], _, i, j, hi, _, _ => by simp at hi
  | a :: l, h, i, j, hi, hj, he => by
    unfold nodupB at h
    cases hm : lmem a l with
    | true => simp [hm] at h
    | false =>
      simp only [hm, cond_false] at h
      have hna : a ∉ l := fun hh => by rw [(lmem_eq a l).2 hh] at hm; cases hm
      cases i with
      | zero => cases j with
        | zero => rfl
        | succ j => simp at hj; simp [lgetN] at he; exact absurd (he ▸ lgetN_mem hj) hna
      | succ i => cases j with
        | zero => simp at hi; simp [lgetN] at he; exact absurd (he ▸ lgetN_mem hi) hna
        | succ j => simp at hi hj; simp [lgetN] at he; rw [nodupB_inj h hi hj he]
def idB : Nat → Nat → List Nat → Bool
  | _, 0, _ => true
  | i, n + 1, a :: l => bif Nat.beq a i then idB (i + 1) n l else false
  | _, _ + 1, [] => false
theorem idB_spec : ∀ {n i : Nat} {l : List Nat}, idB i n l = true → ∀ j, j < n → lgetN l j = i + j
  | 0, i, l, _, j, hj => by omega
  | n + 1, i, [], h, j, hj => by simp [idB] at h
  | n + 1, i, a :: l, h, j, hj => by
    unfold idB at h
    cases ha : Nat.beq a i with
    | false => simp [ha] at h
    | true =>
      simp only [ha, cond_true] at h
      cases j with
      | zero => simp [lgetN, Nat.eq_of_beq_eq_true ha]
      | succ j => simp only [lgetN]; rw [idB_spec h j (by omega)]; omega
def EnvRn (rs : List Nat) (N : Nat) (env : Env) : List (Nat × PV) → Prop
  | [] => True
  | (d, p) :: l => Rn (lgetN rs) N (env d) p ∧ EnvRn rs N env l
/-- New numbers for the blocks; and each block and each variable that is still looked at, said anew. -/
theorem Run.renumL (rs : List Nat) (st' : St) (l : List (Nat × PV)) (hid : idB 0 n0 rs = true) (hn : Nat.ble n0 rs.length = true) (hnd : nodupB rs = true) (hlen : Nat.beq st'.length rs.length = true) (hs : StL rs st'.length st rs st') (he : EnvRn rs st'.length env l) (h : Run P f fn n0 Q k (envL l) st') : Run P f fn n0 Q k env st := by
  have hlen := Nat.eq_of_beq_eq_true hlen
  refine Run.renum (lgetN rs) st' l (fun i hi => by rw [idB_spec hid i hi]; omega) (by rw [hlen]; exact Nat.le_of_ble_eq_true hn) ⟨fun i j hi hj he => nodupB_inj hnd (hlen ▸ hi) (hlen ▸ hj) he, hs.spec⟩ (fun x hx => ?_) h
  clear h
  induction l with
  | nil => simp at hx
  | cons y l ih =>
    obtain ⟨d, p⟩ := y
    rcases List.mem_cons.1 hx with rfl | hx
    · exact he.1
    · exact ih he.2 hx
theorem RnL.ofEq {r : Nat → Nat} {N : Nat} : ∀ {a b : List PV}, a = b → closedL b = true → RnL r N a b := by
  intro a b h hc
  subst h
  induction a with
  | nil => trivial
  | cons p l ih =>
    unfold closedL at hc
    cases hp : closedB p with
    | false => simp [hp] at hc
    | true => simp only [hp, cond_true] at hc; exact ⟨.cl hp, ih hc⟩

end
end Go.Sy
end
