/- Texts merged: Y1. -/
import Derived.Calls
import Derived.Laws.World
import Derived.Laws.Rows
import Derived.Laws.AppendOwn
import Derived.Below
import Derived.KernelRfl
section
/- Symbolic values over the model's heap, and runs of a function's code over them. -/
set_option linter.unusedVariables false
set_option linter.unusedSimpArgs false
set_option linter.unusedSectionVars false
namespace Go.Sy
open Go

inductive PV where
  | any
  | atom (v : Value)
  | ptr (i k off : Nat)
  | fptr (sz n : Nat) (el : Nat → List PV) (k off : Nat)
  | slc (i k n : Nat)
  | fz (sz n : Nat) (el : Nat → List PV)
  | agg (cs : List PV)
  | tup (vs : List PV)
  | iface (t : TypeId) (v : PV)
  | func (f : FuncId) (cap : List PV)

structure Loc where
  blk : Nat
  off : Nat
  tot : Nat
  sz : Nat
  real : Bool := true
  al : off % sz = 0
theorem Loc.al_add (L : Loc) (k : Nat) : (L.off + k * L.sz) % L.sz = 0 := by rw [Nat.add_mul_mod_self_right]; exact L.al

def rd (cur : Array Value) (i : Nat) : Value := cur.getD i undef
abbrev KH := Nat → Option (Array Value)

inductive VR (K : KH) (σ : Nat → Loc) : Nat → PV → Value → Prop
  | any {N : Nat} (v : Value) : VR K σ N .any v
  | atom {N : Nat} (v : Value) : VR K σ N (.atom v) v
  | ptr {N : Nat} {i k off : Nat} (hi : i < N) : VR K σ N (.ptr i k off) (.pointer (some ⟨(σ i).blk, (σ i).off + k * (σ i).sz + off, none⟩))
  | fptr {N : Nat} {sz n : Nat} {el : Nat → List PV} {k off b o : Nat} {cur : Array Value} (hb : K b = some cur) (hk : k < n) (hs : o + n * sz ≤ cur.size)
      (hl : ∀ k, k < n → (el k).length = sz) (h1 : ∀ k j, k < n → j < sz → (rd cur (o + k * sz + j)).oneCell' = true) (h : ∀ k, k < n → ∀ j p, (el k)[j]? = some p → VR K σ 0 p (rd cur (o + k * sz + j))) :
      VR K σ N (.fptr sz n el k off) (.pointer (some ⟨b, o + k * sz + off, none⟩))
  | slc {N : Nat} {i k n cap : Nat} (hi : i < N) (hr : (σ i).real = true) (ht : (σ i).off + (k + cap) * (σ i).sz = (σ i).tot) (hn : n ≤ cap) (hm : cap ≤ maxLen) :
      VR K σ N (.slc i k n) (.slice (some ⟨(σ i).blk, (σ i).off + k * (σ i).sz, none⟩) n cap)
  | slc0 {N : Nat} {i k : Nat} (A : Option Addr) : VR K σ N (.slc i k 0) (.slice A 0 0)
  | fz {N : Nat} {sz n : Nat} {el : Nat → List PV} {b o cap : Nat} {cur : Array Value} (hb : K b = some cur) (hn : 0 < n) (hc : n ≤ cap) (hm : cap ≤ maxLen) (hs : o + n * sz ≤ cur.size)
      (hl : ∀ k, k < n → (el k).length = sz) (h1 : ∀ k j, k < n → j < sz → (rd cur (o + k * sz + j)).oneCell' = true) (h : ∀ k, k < n → ∀ j p, (el k)[j]? = some p → VR K σ 0 p (rd cur (o + k * sz + j))) :
      VR K σ N (.fz sz n el) (.slice (some ⟨b, o, none⟩) n cap)
  | fz0 {N : Nat} {sz : Nat} {el : Nat → List PV} (A : Option Addr) (cap : Nat) (hm : cap ≤ maxLen) : VR K σ N (.fz sz 0 el) (.slice A 0 cap)
  | agg {N : Nat} {cs : List PV} {vs : Array Value} (hl : vs.size = cs.length) (h : ∀ j p, cs[j]? = some p → VR K σ N p (rd vs j)) : VR K σ N (.agg cs) (.agg vs)
  | tup {N : Nat} {cs : List PV} {vs : Array Value} (hl : vs.size = cs.length) (h : ∀ j p, cs[j]? = some p → VR K σ N p (rd vs j)) : VR K σ N (.tup cs) (.tuple vs)
  | iface {N : Nat} {t : TypeId} {p : PV} {v : Value} (h : VR K σ N p v) : VR K σ N (.iface t p) (.iface t v)
  | func {N : Nat} {f : FuncId} {cs : List PV} {vs : Array Value} (hl : vs.size = cs.length) (h : ∀ j p, cs[j]? = some p → VR K σ N p (rd vs j)) :
      VR K σ N (.func f cs) (.func (.func f) #[] vs)

theorem VR.mono {K K' : KH} {σ : Nat → Loc} {N : Nat} (hK : ∀ b cur, K b = some cur → K' b = some cur) {p : PV} {v : Value} (h : VR K σ N p v) :
    ∀ {σ' : Nat → Loc} {N' : Nat}, (∀ i, i < N → σ' i = σ i) → N ≤ N' → VR K' σ' N' p v := by
  induction h with
  | any v => intro σ' N' hσ hN; exact .any v
  | atom v => intro σ' N' hσ hN; exact .atom v
  | ptr hi => intro σ' N' hσ hN; rw [← hσ _ hi]; exact .ptr (Nat.lt_of_lt_of_le hi hN)
  | fptr hb hk hs hl h1 _ ih => intro σ' N' hσ hN; exact .fptr (hK _ _ hb) hk hs hl h1 (fun k hk j p hp => ih k hk j p hp (fun i hi => by omega) (Nat.le_refl _))
  | slc hi hr ht hn hm => intro σ' N' hσ hN; rw [← hσ _ hi] at hr ht ⊢; exact .slc (Nat.lt_of_lt_of_le hi hN) hr ht hn hm
  | slc0 A => intro σ' N' hσ hN; exact .slc0 A
  | fz hb hn hc hm hs hl h1 _ ih => intro σ' N' hσ hN; exact .fz (hK _ _ hb) hn hc hm hs hl h1 (fun k hk j p hp => ih k hk j p hp (fun i hi => by omega) (Nat.le_refl _))
  | fz0 A cap hm => intro σ' N' hσ hN; exact .fz0 A cap hm
  | agg hl _ ih => intro σ' N' hσ hN; exact .agg hl (fun j p hp => ih j p hp hσ hN)
  | tup hl _ ih => intro σ' N' hσ hN; exact .tup hl (fun j p hp => ih j p hp hσ hN)
  | iface _ ih => intro σ' N' hσ hN; exact .iface (ih hσ hN)
  | func hl _ ih => intro σ' N' hσ hN; exact .func hl (fun j p hp => ih j p hp hσ hN)

/-- What a value is that speaks of no block of the state's own, it is in every state. -/
theorem VR.zero {K : KH} {σ : Nat → Loc} {p : PV} {v : Value} (h : VR K σ 0 p v) (σ' : Nat → Loc) (N : Nat) : VR K σ' N p v := h.mono (fun _ _ h => h) (fun i hi => by omega) (Nat.zero_le _)

structure Blk where
  e : TypeId
  sz : Nat
  n : Nat
  el : Nat → List PV
  ro : Bool := false
  full : Bool := false

/-- A block may stand for another one: what it says of its kind is so of that one. -/
def Blk.as (B' B : Blk) : Bool := (bif B.ro then B'.ro else !B'.ro) && (!B'.full || B.full)
theorem Blk.as_spec {B' B : Blk} (h : B'.as B = true) : B'.ro = B.ro ∧ (B'.full = true → B.full = true) := by
  unfold Blk.as at h
  cases h1 : B.ro <;> cases h2 : B'.ro <;> cases h3 : B.full <;> cases h4 : B'.full <;> simp_all
theorem Blk.as_of {B' B : Blk} (h : B'.ro = B.ro) (hf : B'.full = true → B.full = true) : B'.as B = true := by
  unfold Blk.as
  cases h1 : B.ro <;> cases h2 : B'.ro <;> cases h3 : B.full <;> cases h4 : B'.full <;> simp_all
abbrev St := List (Option Blk)
def St.get : St → Nat → Option Blk
  | [], _ => none
  | b :: _, 0 => b
  | _ :: l, i + 1 => St.get l i
def St.upd : St → Nat → Option Blk → St
  | [], _, _ => []
  | _ :: l, 0, b => b :: l
  | a :: l, i + 1, b => a :: St.upd l i b

theorem St.get_eq (st : St) (i : Nat) : st.get i = (st[i]?).join := by
  induction st generalizing i with
  | nil => simp [St.get]
  | cons a l ih => cases i with
    | zero => simp [St.get]
    | succ i => simp [St.get, ih]
theorem St.upd_eq (st : St) (i : Nat) (b : Option Blk) : st.upd i b = st.set i b := by
  induction st generalizing i with
  | nil => simp [St.upd]
  | cons a l ih => cases i with
    | zero => simp [St.upd]
    | succ i => simp [St.upd, ih]
theorem St.get_lt {st : St} {i : Nat} {B : Blk} (h : st.get i = some B) : i < st.length := by
  rw [St.get_eq] at h
  rcases Nat.lt_or_ge i st.length with h' | h'
  · exact h'
  · rw [List.getElem?_eq_none h'] at h; cases h
theorem St.length_upd (st : St) (i : Nat) (b : Option Blk) : (st.upd i b).length = st.length := by rw [St.upd_eq]; simp
theorem St.get_upd_same {st : St} {i : Nat} (b : Option Blk) (h : i < st.length) : (st.upd i b).get i = b := by
  rw [St.get_eq, St.upd_eq, List.getElem?_set]; simp [h]
theorem St.get_upd_ne {st : St} {i j : Nat} (b : Option Blk) (h : i ≠ j) : (st.upd i b).get j = st.get j := by
  rw [St.get_eq, St.upd_eq, St.get_eq, List.getElem?_set, if_neg h]
theorem St.get_push_old {st : St} {i : Nat} (b : Option Blk) (h : i < st.length) : St.get (st ++ [b]) i = st.get i := by
  rw [St.get_eq, St.get_eq, List.getElem?_append_left h]
theorem St.get_push_new (st : St) (b : Option Blk) : St.get (st ++ [b]) st.length = b := by
  rw [St.get_eq, List.getElem?_append_right (Nat.le_refl _)]; simp
theorem St.get_push_cases {st : St} {i : Nat} {b : Option Blk} {B : Blk} (h : St.get (st ++ [b]) i = some B) : st.get i = some B ∨ (i = st.length ∧ b = some B) := by
  rcases Nat.lt_or_ge i st.length with h' | h'
  · exact .inl (by rwa [St.get_push_old b h'] at h)
  · have hl := St.get_lt h
    simp at hl
    have hi : i = st.length := by omega
    subst hi
    rw [St.get_push_new] at h
    exact .inr ⟨rfl, h⟩
theorem St.get_upd_cases {st : St} {i j : Nat} {b : Option Blk} {B : Blk} (h : (st.upd i b).get j = some B) : (j = i ∧ b = some B) ∨ (j ≠ i ∧ st.get j = some B) := by
  by_cases hj : j = i
  · subst hj
    rw [St.get_upd_same b (by have := St.get_lt h; rwa [St.length_upd] at this)] at h
    exact .inl ⟨rfl, h⟩
  · rw [St.get_upd_ne b (Ne.symm hj)] at h
    exact .inr ⟨hj, h⟩

theorem VR.atom_inv {K : KH} {σ : Nat → Loc} {N : Nat} {v u : Value} (h : VR K σ N (.atom v) u) : u = v := by cases h; rfl
/-- What a block's cells are, from cell 'o' on. -/
def Holds (K : KH) (σ : Nat → Loc) (N : Nat) (sz n : Nat) (el : Nat → List PV) (cur : Array Value) (o : Nat) : Prop :=
  o + n * sz ≤ cur.size ∧ (∀ i, i < cur.size → (rd cur i).oneCell' = true) ∧ ∀ k, k < n → (el k).length = sz ∧ ∀ j p, (el k)[j]? = some p → VR K σ N p (rd cur (o + k * sz + j))

theorem Holds.at {K : KH} {σ : Nat → Loc} {N : Nat} {sz n : Nat} {el : Nat → List PV} {cur : Array Value} {o : Nat} (h : Holds K σ N sz n el cur o) {k j : Nat} (hk : k < n) (hj : j < sz) : o + k * sz + j < cur.size := by
  have h1 := h.1
  have h2 : (k + 1) * sz ≤ n * sz := Nat.mul_le_mul_right _ hk
  rw [Nat.add_mul] at h2
  omega
theorem Holds.one {K : KH} {σ : Nat → Loc} {N : Nat} {sz n : Nat} {el : Nat → List PV} {cur : Array Value} {o : Nat} (h : Holds K σ N sz n el cur o) (k j : Nat) (hk : k < n) (hj : j < sz) : (rd cur (o + k * sz + j)).oneCell' = true := h.2.1 _ (h.at hk hj)
theorem Holds.mono {K K' : KH} {σ σ' : Nat → Loc} {N N' : Nat} (hK : ∀ b cur, K b = some cur → K' b = some cur) (hσ : ∀ i, i < N → σ' i = σ i) (hN : N ≤ N') {sz n : Nat} {el : Nat → List PV} {cur : Array Value} {o : Nat}
    (h : Holds K σ N sz n el cur o) : Holds K' σ' N' sz n el cur o := ⟨h.1, h.2.1, fun k hk => ⟨(h.2.2 k hk).1, fun j p hp => ((h.2.2 k hk).2 j p hp).mono hK hσ hN⟩⟩

/-- What is known of the package-level variables: they stay. -/
class Globs where
  G : KH → Prop
  mono : ∀ {K K' : KH}, (∀ b cur, K b = some cur → K' b = some cur) → G K → G K'

variable [Globs]
/-- A block that stands there, frozen or not. -/
abbrev InHeap (w : World) (b : Nat) (cur : Array Value) : Prop := ∃ e : TypeId × (Nat × Nat), w.heap[b]? = some (.cells cur e.1 e.2)
structure Rel (K : KH) (σ : Nat → Loc) (st : St) (w : World) : Prop where
  kin : ∀ b cur, K b = some cur → InHeap w b cur
  own : ∀ i B, st.get i = some B → ((σ i).real = false ∧ B.n = 0) ∨ ((σ i).real = true ∧ ∃ cur, w.heap[(σ i).blk]? = some (.cells cur B.e (0, 0)) ∧ cur.size = (σ i).tot ∧ (σ i).sz = B.sz ∧ Holds K σ st.length B.sz B.n B.el cur (σ i).off ∧
    K (σ i).blk = (if B.ro then some cur else none))
  sep : ∀ i j B B', st.get i = some B → st.get j = some B' → (σ i).real = true → (σ j).real = true → (σ i).blk = (σ j).blk → i = j
  gl : Globs.G K
  fl : ∀ i B, st.get i = some B → B.full = true → (σ i).real = true → (σ i).off + B.n * (σ i).sz = (σ i).tot

structure ExtN (n0 : Nat) (K : KH) (σ : Nat → Loc) (st : St) (w : World) (K' : KH) (σ' : Nat → Loc) (st' : St) (w' : World) : Prop where
  kle : ∀ b cur, K b = some cur → K' b = some cur
  sig : ∀ i, i < n0 → σ' i = σ i
  len : n0 ≤ st'.length
  os : w'.os = w.os
  tape : w'.tape = w.tape
  output : w'.output = w.output
  size : w.heap.size ≤ w'.heap.size
  live : ∀ i B, st'.get i = some B → B.ro = false → (σ' i).real = true → (∃ j B', st.get j = some B' ∧ B'.ro = false ∧ (σ j).real = true ∧ (σ j).blk = (σ' i).blk) ∨ w.heap.size ≤ (σ' i).blk
  keep : ∀ k, k < w.heap.size → (∀ j B, st.get j = some B → B.ro = false → (σ j).real = true → (σ j).blk ≠ k) → w'.heap[k]? = w.heap[k]?
  knew : ∀ b cur, K' b = some cur → K b = some cur ∨ (∃ j B, st.get j = some B ∧ B.ro = false ∧ (σ j).real = true ∧ (σ j).blk = b) ∨ w.heap.size ≤ b

abbrev Ext (K : KH) (σ : Nat → Loc) (st : St) (w : World) (K' : KH) (σ' : Nat → Loc) (st' : St) (w' : World) : Prop := ExtN st.length K σ st w K' σ' st' w'
theorem Ext.refl (K : KH) (σ : Nat → Loc) (st : St) (w : World) : Ext K σ st w K σ st w :=
  ⟨fun _ _ h => h, fun _ _ => rfl, Nat.le_refl _, rfl, rfl, rfl, Nat.le_refl _, fun i B h hr hl => .inl ⟨i, B, h, hr, hl, rfl⟩, fun _ _ _ => rfl, fun _ _ h => .inl h⟩
theorem ExtN.less {n0 n : Nat} {K K1 : KH} {σ σ1 : Nat → Loc} {st st1 : St} {w w1 : World} (h : ExtN n K σ st w K1 σ1 st1 w1) (hn : n0 ≤ n) : ExtN n0 K σ st w K1 σ1 st1 w1 :=
  ⟨h.kle, fun i hi => h.sig i (Nat.lt_of_lt_of_le hi hn), Nat.le_trans hn h.len, h.os, h.tape, h.output, h.size, h.live, h.keep, h.knew⟩

theorem ExtN.trans {n0 : Nat} {K K1 K2 : KH} {σ σ1 σ2 : Nat → Loc} {st st1 st2 : St} {w w1 w2 : World} (h : ExtN n0 K σ st w K1 σ1 st1 w1) (g : ExtN n0 K1 σ1 st1 w1 K2 σ2 st2 w2) : ExtN n0 K σ st w K2 σ2 st2 w2 := by
  refine ⟨fun b c hb => g.kle _ _ (h.kle _ _ hb), fun i hi => (g.sig i hi).trans (h.sig i hi), g.len, g.os.trans h.os, g.tape.trans h.tape, g.output.trans h.output,
    Nat.le_trans h.size g.size, fun i B hi hr hl => ?_, fun k hk hn => ?_, fun b cur hb => ?_⟩
  · rcases g.live i B hi hr hl with ⟨j, B', hj, hr', hl', he⟩ | hs
    · rcases h.live j B' hj hr' hl' with ⟨l, B'', hl, hr'', hl'', he'⟩ | hs
      · exact .inl ⟨l, B'', hl, hr'', hl'', he'.trans he⟩
      · exact .inr (he ▸ hs)
    · exact .inr (Nat.le_trans h.size hs)
  · rw [g.keep k (Nat.lt_of_lt_of_le hk h.size) fun j B hj hr hl he => ?_]
    · exact h.keep k hk hn
    · rcases h.live j B hj hr hl with ⟨l, B', hl, hr', hl', he'⟩ | hs
      · exact hn l B' hl hr' hl' (he'.trans he)
      · omega
  · rcases g.knew b cur hb with hb | ⟨j, B, hj, hr, hl, he⟩ | hs
    · exact h.knew b cur hb
    · rcases h.live j B hj hr hl with ⟨l, B', hl, hr', hl', he'⟩ | hs
      · exact .inr (.inl ⟨l, B', hl, hr', hl', he'.trans he⟩)
      · exact .inr (.inr (he ▸ hs))
    · exact .inr (.inr (Nat.le_trans h.size hs))
theorem Ext.trans {K K1 K2 : KH} {σ σ1 σ2 : Nat → Loc} {st st1 st2 : St} {w w1 w2 : World} (h : Ext K σ st w K1 σ1 st1 w1) (g : Ext K1 σ1 st1 w1 K2 σ2 st2 w2) : Ext K σ st w K2 σ2 st2 w2 := ExtN.trans h (ExtN.less g h.len)

theorem VR.ext {K K' : KH} {σ σ' : Nat → Loc} {st st' : St} {w w' : World} (h : Ext K σ st w K' σ' st' w') {p : PV} {v : Value} (hv : VR K σ st.length p v) : VR K' σ' st'.length p v :=
  hv.mono h.kle h.sig h.len

/-- What came of a step, or of a call: a value, and a state, that 'Q' allows. -/
def OutN (n0 : Nat) (Q : PV → St → Prop) (K : KH) (σ : Nat → Loc) (st : St) (w : World) (v : Value) (w' : World) : Prop :=
  ∃ K' σ' st' pv, Q pv st' ∧ ExtN n0 K σ st w K' σ' st' w' ∧ Rel K' σ' st' w' ∧ VR K' σ' st'.length pv v
def Out (Q : PV → St → Prop) (K : KH) (σ : Nat → Loc) (st : St) (w : World) (v : Value) (w' : World) : Prop :=
  ∃ K' σ' st' pv, Q pv st' ∧ Ext K σ st w K' σ' st' w' ∧ Rel K' σ' st' w' ∧ VR K' σ' st'.length pv v

theorem Out.mono {Q Q' : PV → St → Prop} (hq : ∀ p s, Q p s → Q' p s) {K : KH} {σ : Nat → Loc} {st : St} {w : World} {v : Value} {w' : World} (h : Out Q K σ st w v w') : Out Q' K σ st w v w' :=
  let ⟨K', σ', st', pv, q, r⟩ := h; ⟨K', σ', st', pv, hq _ _ q, r⟩
theorem Out.still {Q : PV → St → Prop} {K : KH} {σ : Nat → Loc} {st : St} {w : World} {v : Value} {pv : PV} (hR : Rel K σ st w) (hv : VR K σ st.length pv v) (hq : Q pv st) : Out Q K σ st w v w :=
  ⟨K, σ, st, pv, hq, Ext.refl _ _ _ _, hR, hv⟩

def Enters (P : Program) (f : FuncId) : Prop := ∃ fn, P.funcs[f]? = some fn ∧ (fn.name == "runtime.NumGoroutine") = false ∧ fn.body.isNone = false
/-- A call's contract. -/
def Spec (P : Program) (f : FuncId) (args : List PV) (st : St) (Q : PV → St → Prop) : Prop :=
  Enters P f ∧ ∀ K σ w (vs : Array Value), Rel K σ st w → vs.size = args.length → (∀ j p, args[j]? = some p → VR K σ st.length p (rd vs j)) →
    Calls P f vs w fun e w' => ∃ v, e = .returned v ∧ Out Q K σ st w v w'

def Env := Nat → PV
def Env.ev (env : Env) : Operand → PV
  | .tmp t => env t
  | .const v => .atom v
  | .global g => .atom (.pointer (some ⟨g, 0, none⟩))
  | .func f => .func f []
def Env.put (env : Env) (d : Option Tmp) (v : PV) : Env :=
  match d with
  | some d => fun t => bif Nat.beq t d then v else env t
  | none => env
def EnvRel (K : KH) (σ : Nat → Loc) (N : Nat) (env : Env) (a : Act) : Prop := ∀ t, VR K σ N (env t) (rd a.tmps t)

theorem EnvRel.ev {K : KH} {σ : Nat → Loc} {N : Nat} {env : Env} {a : Act} (h : EnvRel K σ N env a) (x : Operand) : VR K σ N (env.ev x) (a.eval x) := by
  cases x with
  | tmp t => exact h t
  | const v => exact .atom v
  | global g => exact .atom _
  | func f => exact .func (cs := []) (vs := #[]) rfl (fun j p hp => by simp at hp)

def dstOk (n : Nat) : Option Tmp → Bool
  | some d => Nat.blt d n
  | none => true

theorem EnvRel.put {K : KH} {σ : Nat → Loc} {N : Nat} {env : Env} {a : Act} (h : EnvRel K σ N env a) {d : Option Tmp} (hd : dstOk a.tmps.size d = true) {p : PV} {v : Value} (hv : VR K σ N p v) :
    EnvRel K σ N (env.put d p) (a.put d v) := by
  cases d with
  | none => exact h
  | some d =>
    intro t
    have hlt : d < a.tmps.size := by simpa [dstOk, Nat.blt_eq] using hd
    by_cases ht : t = d
    · subst ht
      have e1 : Nat.beq t t = true := by simp
      have e2 : rd (a.put (some t) v).tmps t = v := by simp [rd, Act.put, hlt]
      rw [e2]
      show VR K σ N (bif Nat.beq t t then p else env t) v
      rw [e1]; exact hv
    · have e1 : Nat.beq t d = false := by rw [Bool.eq_false_iff]; intro hh; exact ht (Nat.eq_of_beq_eq_true hh)
      have e2 : rd (a.put (some d) v).tmps t = rd a.tmps t := by
        simp [rd, Act.put, Array.getElem?_setIfInBounds, Ne.symm ht]
      rw [e2]
      show VR K σ N (bif Nat.beq t d then p else env t) _
      rw [e1]; exact h t

theorem Act.size_put (a : Act) (d : Option Tmp) (v : Value) : (a.put d v).tmps.size = a.tmps.size := by cases d <;> simp [Act.put]
theorem Act.defers_put (a : Act) (d : Option Tmp) (v : Value) : (a.put d v).defers = a.defers := by cases d <;> simp [Act.put]

/-- The rest of a function's body, from a state on: it returns what 'Q' allows. -/
def Run (P : Program) (f : FuncId) (fn : Func) (n0 : Nat) (Q : PV → St → Prop) (todo : List Item) (env : Env) (st : St) : Prop :=
  n0 ≤ st.length → ∀ K σ w a (b : Frame) cs, Rel K σ st w → a.tmps.size = fn.ntmps → a.defers = [] → b.fn = f → b.kind = .normal → EnvRel K σ st.length env a →
    ∃ v w' fr, OutN n0 Q K σ st w v w' ∧ Steps P (lone (b.at a todo) cs w) (lone fr cs w') ∧ fr.fn = f ∧ fr.leaving P w' (.returned v)

def argsEnv : List PV → Env
  | [], _ => .any
  | p :: _, 0 => p
  | _ :: l, n + 1 => argsEnv l n

theorem argsEnv_eq (l : List PV) (t : Nat) : argsEnv l t = (l[t]?).getD .any := by
  induction l generalizing t with
  | nil => simp [argsEnv]
  | cons p l ih => cases t with
    | zero => simp [argsEnv]
    | succ t => simp [argsEnv, ih]

section rules
variable {P : Program} {f : FuncId} {fn : Func} {n0 : Nat} {Q : PV → St → Prop} {k : List Item} {env : Env} {st : St}

theorem Spec.of_run {args : List PV} {c : Code} (hf : P.funcs[f]? = some fn) (hb : fn.body = some c) (hn : Nat.ble args.length fn.ntmps = true) (hg : (fn.name == "runtime.NumGoroutine") = false) (h : Run P f fn st.length Q [.code c] (argsEnv args) st) : Spec P f args st Q := by
  have hn := Nat.le_of_ble_eq_true hn
  refine ⟨⟨fn, hf, hg, by simp [hb]⟩, ?_⟩
  intro K σ w vs hR hsz hvs cs
  let b : Frame := { (default : Frame) with fn := f, kind := .normal }
  have henter : Frame.enter P f vs .normal = b.at { tmps := vs ++ Array.replicate (fn.ntmps - vs.size) undef, defers := [] } [.code c] := by
    simp [Frame.enter, Frame.at, hf, hb, b]
  obtain ⟨v, w', fr, hout, hst, hfn, hl⟩ := h (Nat.le_refl _) K σ w { tmps := vs ++ Array.replicate (fn.ntmps - vs.size) undef, defers := [] } b cs hR (by simp [hsz]; omega) rfl rfl rfl (fun t => by
    rw [argsEnv_eq]
    cases ht : args[t]? with
    | none => exact .any _
    | some p =>
      have hlt : t < vs.size := by
        rw [hsz]
        rcases Nat.lt_or_ge t args.length with h' | h'
        · exact h'
        · rw [List.getElem?_eq_none h'] at ht; cases ht
      have : rd (vs ++ Array.replicate (fn.ntmps - vs.size) undef) t = rd vs t := by
        simp [rd, Array.getElem?_append_left hlt]
      rw [this]
      exact hvs t p ht)
  rw [← henter] at hst
  exact ⟨.returned v, w', fr, ⟨v, rfl, hout⟩, hst, hfn, hl⟩

theorem Run.step {todo todo' : List Item} (hs : ∀ (b : Frame) a cs w, step P (lone (b.at a todo) cs w) = .next (lone (b.at a todo') cs w)) (h : Run P f fn n0 Q todo' env st) : Run P f fn n0 Q todo env st := by
  intro hn0 K σ w a b cs hR hsz hd hfn hk hE
  obtain ⟨v, w', fr, ho, hst, r⟩ := h hn0 K σ w a b cs hR hsz hd hfn hk hE
  exact ⟨v, w', fr, ho, .head (hs b a cs w) hst, r⟩
theorem Run.skip (h : Run P f fn n0 Q k env st) : Run P f fn n0 Q (.code .skip :: k) env st := .step (fun _ _ _ _ => step_skip) h
theorem Run.label {l : Nat} (h : Run P f fn n0 Q k env st) : Run P f fn n0 Q (.code (.label l) :: k) env st := .step (fun _ _ _ _ => step_label) h
theorem Run.inBlock {id : Nat} (h : Run P f fn n0 Q k env st) : Run P f fn n0 Q (.inBlock id :: k) env st := .step (fun _ _ _ _ => step_inBlock) h
theorem Run.seq {x y : Code} (h : Run P f fn n0 Q (.code x :: .code y :: k) env st) : Run P f fn n0 Q (.code (.seq x y) :: k) env st := .step (fun _ _ _ _ => step_seq) h
theorem Run.block {id : Nat} {c : Code} (h : Run P f fn n0 Q (.code c :: .inBlock id :: k) env st) : Run P f fn n0 Q (.code (.block id c) :: k) env st := .step (fun _ _ _ _ => step_block) h
theorem Run.loop {c : Code} (h : Run P f fn n0 Q (.code c :: .inLoop c :: k) env st) : Run P f fn n0 Q (.code (.loop c) :: k) env st := .step (fun _ _ _ _ => step_loop) h
theorem Run.inLoop {c : Code} (h : Run P f fn n0 Q (.code c :: .inLoop c :: k) env st) : Run P f fn n0 Q (.inLoop c :: k) env st := .step (fun _ _ _ _ => step_inLoop) h
theorem Run.exit {id : Nat} {k' : List Item} (he : exitTo id k = some k') (h : Run P f fn n0 Q k' env st) : Run P f fn n0 Q (.code (.exit id) :: k) env st := .step (fun _ _ _ _ => step_exit he) h
theorem Run.region {id : Nat} {ops : Array Oper} {l : List Nat} (hl : List.range ops.size = l) (h : Run P f fn n0 Q (.inRegion ops l :: k) env st) : Run P f fn n0 Q (.code (.region id ops false) :: k) env st :=
  .step (fun _ _ _ _ => step_region) (hl ▸ h)
theorem Run.regionEnd {ops : Array Oper} (h : Run P f fn n0 Q k env st) : Run P f fn n0 Q (.inRegion ops [] :: k) env st := .step (fun _ _ _ _ => step_region_end) h
theorem Run.cond {c : Operand} {x y : Code} {t : Bool} (hc : env.ev c = .atom (.bool t)) (ht : t = true → Run P f fn n0 Q (.code x :: k) env st) (hf : t = false → Run P f fn n0 Q (.code y :: k) env st) :
    Run P f fn n0 Q (.code (.cond c x y) :: k) env st := by
  intro hn0 K σ w a b cs hR hsz hd hfn hk hE
  have hv := hE.ev c
  rw [hc] at hv
  have hv' : a.eval c = .bool t := hv.atom_inv
  have h : Run P f fn n0 Q (.code (if t then x else y) :: k) env st := by cases t <;> simp_all
  obtain ⟨v, w', fr, ho, hst, r⟩ := h hn0 K σ w a b cs hR hsz hd hfn hk hE
  exact ⟨v, w', fr, ho, .head (step_cond hv') hst, r⟩
end rules
end Go.Sy
end
