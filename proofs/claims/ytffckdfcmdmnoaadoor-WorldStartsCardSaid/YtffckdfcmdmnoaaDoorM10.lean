/- Texts merged: Y12. -/
import Derived.Test.YtffckdfcmdmnoaaDoorM9
import Derived.Laws.BytesString
section
/- Contracts of the library, taken over. -/
set_option linter.unusedVariables false
set_option linter.unusedSimpArgs false
set_option linter.unusedSectionVars false
namespace Go.Sy
open Go Go.RowKit
variable [Globs]
abbrev KIn (K : KH) (w : World) : Prop := ∀ b cur, K b = some cur → InHeap w b cur

theorem KIn.below {K : KH} {w w' : World} (h : KIn K w) (hb : Below w.heap.size w w') : KIn K w' := by
  intro b cur hc
  obtain ⟨e, he⟩ := h b cur hc
  exact ⟨e, (hb.block b (Array.getElem?_eq_some_iff.1 he).1).trans he⟩
theorem atoms_inv {K : KH} {l : List Value} {vs : Array Value} (hsz : vs.size = (l.map PV.atom).length) (h : ∀ j p, (l.map PV.atom)[j]? = some p → VR K σ0 0 p (rd vs j)) : vs = l.toArray := by
  apply Array.ext
  · simpa using hsz
  · intro j h1 h2
    simp at h2
    have := (h j (.atom l[j]) (by simp [h2])).atom_inv
    simp [rd, h1] at this
    simp [this]

/-- A contract about plain values. -/
theorem Pure.ofCalls {P : Program} {f : FuncId} (l : List Value) {pv : PV} (hen : Enters P f)
    (h : ∀ (K : KH) (w : World), Globs.G K → KIn K w → Calls P f l.toArray w fun e w' => ∃ v, e = .returned v ∧ VR K σ0 0 pv v ∧ Below w.heap.size w w') : Pure P f (l.map .atom) pv := by
  refine ⟨hen, fun K w vs hg hk hsz hv => ?_⟩
  rw [atoms_inv hsz hv]
  refine (h K w hg hk).mono ?_
  rintro e w' ⟨v, he, hv, hb⟩
  exact ⟨v, K, he, hv, fun _ _ h => h, KIn.below hk hb, fun _ _ h => .inl h, hb⟩

def str (s : ByteArray) : PV := .atom (.string s)
def i64 (n : Int) : PV := .atom (.int .i64 n)
def bl (b : Bool) : PV := .atom (.bool b)
def eStr (s : ByteArray) : List PV := [str s]
def eInt (n : Int) : List PV := [i64 n]
instance : Inhabited ByteArray := ⟨ByteArray.empty⟩
section
variable {P : Program} {T : TT} {E : Operand → PV} {st : St} {o : Oper} {Q : PV → St → Prop}
/-- The index a natural number. -/
theorem G_ixFN (hT : TOk P T) {t e : TypeId} {te : TI} {x ix : Operand} {sz n : Nat} {el : Nat → List PV} {kd : IntKind} {i : Nat} (ho : o.op = .indexAddr t x ix) (ht : sliceT T t = some (e, te)) (hx : fzOf (E x) = some (sz, n, el)) (hsz : Nat.beq te.size sz = true)
    (hi : intOf' (E ix) = some (kd, (i : Int))) (h1 : i < n) (h : Q (.fptr sz n el i 0) st) : OpGoes P E st o Q := G_ixF hT ho ht hx hsz hi (by omega) (by omega) (by simpa using h)
theorem G_ixON (hT : TOk P T) {t e : TypeId} {te : TI} {x ix : Operand} {i0 k0 n : Nat} {B : Blk} {kd : IntKind} {i : Nat} (ho : o.op = .indexAddr t x ix) (ht : sliceT T t = some (e, te)) (hx : slcOf (E x) = some (i0, k0, n)) (hB : st.get i0 = some B) (hsz : Nat.beq te.size B.sz = true)
    (hi : intOf' (E ix) = some (kd, (i : Int))) (h1 : i < n) (h : Q (.ptr i0 (k0 + i) 0) st) : OpGoes P E st o Q := G_ixO hT ho ht hx hB hsz hi (by omega) (by omega) (by simpa using h)
end
omit [Globs] in
theorem Rn.slcN {r : Nat → Nat} {N i i' k n n' : Nat} (hi : r i' = i) (hlt : Nat.blt i' N = true) (hn : n = n') : Rn r N (.slc i k n) (.slc i' k n') := by
  subst hn; rw [Nat.blt_eq] at hlt; exact .slc hi hlt
omit [Globs] in
theorem Rn.ptrN {r : Nat → Nat} {N i i' k off : Nat} (hi : r i' = i) (hlt : Nat.blt i' N = true) : Rn r N (.ptr i k off) (.ptr i' k off) := by
  rw [Nat.blt_eq] at hlt; exact .ptr hi hlt

section
variable {P : Program} {T : TT} {E : Operand → PV} {st : St} {o : Oper} {Q : PV → St → Prop}
theorem G_ixS (hT : TOk P T) {t : TypeId} {x ix : Operand} {s : ByteArray} {kd : IntKind} {i : Int} (ho : o.op = .index t x ix) (ht : strT T t = true) (hx : strOf' (E x) = some s) (hi : intOf' (E ix) = some (kd, i)) (h0 : 0 ≤ i) (h1 : i < s.size) (h : Q (.atom (.int .u8 (byteAt s i))) st) : OpGoes P E st o Q := by
  obtain ⟨ti, a, b⟩ := strT_spec ht
  exact G_index_str hT ho a b (strOf'_spec hx) (intOf'_spec hi) h0 h1 h
theorem G_cutS (hT : TOk P T) {t : TypeId} {x : Operand} {lo hi : Option Operand} {s : ByteArray} {l h : Int} (ho : o.op = .slice t x lo hi none) (ht : strT T t = true) (hx : strOf' (E x) = some s) (hlo : bnd E lo 0 l) (hhi : bnd E hi s.size h) (h0 : 0 ≤ l) (h1 : l ≤ h) (h2 : h ≤ s.size)
    (hq : Q (.atom (.string (s.extract l.toNat h.toNat))) st) : OpGoes P E st o Q := by
  obtain ⟨ti, a, b⟩ := strT_spec ht
  exact G_slice_str hT ho a b (strOf'_spec hx) hlo hhi h0 h1 h2 hq
end
end Go.Sy
end
