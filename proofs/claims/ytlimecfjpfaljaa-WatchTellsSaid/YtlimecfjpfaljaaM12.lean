/- Texts merged: Y18. -/
import Derived.Test.YtlimecfjpfaljaaM11
import Derived.Lib.UnsafeStr
section
/- Calls under contracts about own memory; strings.Builder's operations. -/
set_option linter.unusedVariables false
set_option linter.unusedSimpArgs false
set_option linter.unusedSectionVars false
namespace Go.Sy
open Go Go.RowKit
variable [Globs]

def noRoB : St → Bool
  | [] => true
  | none :: l => noRoB l
  | some ⟨_, _, _, _, ro, _⟩ :: l => bif ro then false else noRoB l
theorem noRoB_spec : ∀ {s : St}, noRoB s = true → NoRo s
  | [], _, i, B, hB => by simp [St.get] at hB
  | none :: l, h, i, B, hB => by
    cases i with
    | zero => simp [St.get] at hB
    | succ i => exact noRoB_spec (s := l) h i B hB
  | some ⟨e, sz, n, el, ro, fu⟩ :: l, h, i, B, hB => by
    unfold noRoB at h
    cases ro with
    | true => simp at h
    | false => cases i with
      | zero => simp only [St.get, Option.some.injEq] at hB; subst hB; rfl
      | succ i => exact noRoB_spec (s := l) h i B hB
mutual
/-- A value under other numbers, written out. -/
def rnF (f : Nat → Nat) : PV → Option PV
  | .ptr i k off => some (.ptr (f i) k off)
  | .slc i k n => some (.slc (f i) k n)
  | .agg cs => (match rnFL f cs with | some l => some (.agg l) | none => none)
  | .tup cs => (match rnFL f cs with | some l => some (.tup l) | none => none)
  | .iface t p => (match rnF f p with | some q => some (.iface t q) | none => none)
  | .func g cs => (match rnFL f cs with | some l => some (.func g l) | none => none)
  | .any => some .any
  | .atom v => some (.atom v)
  | .fptr sz n el k off => some (.fptr sz n el k off)
  | .fz sz n el => some (.fz sz n el)
def rnFL (f : Nat → Nat) : List PV → Option (List PV)
  | [] => some []
  | p :: l => (match rnF f p, rnFL f l with | some q, some r => some (q :: r) | _, _ => none)
end
mutual
theorem rnF_spec {f : Nat → Nat} : ∀ {p q : PV}, rnF f p = some q → rnP f p = q
  | .ptr i k off, q, h => by simp [rnF] at h; subst h; rfl
  | .slc i k n, q, h => by simp [rnF] at h; subst h; rfl
  | .agg cs, q, h => by
    unfold rnF at h; split at h
    · rename_i l hl; simp at h; subst h; unfold rnP; rw [rnFL_spec hl]
    · cases h
  | .tup cs, q, h => by
    unfold rnF at h; split at h
    · rename_i l hl; simp at h; subst h; unfold rnP; rw [rnFL_spec hl]
    · cases h
  | .iface t p, q, h => by
    unfold rnF at h; split at h
    · rename_i l hl; simp at h; subst h; unfold rnP; rw [rnF_spec hl]
    · cases h
  | .func g cs, q, h => by
    unfold rnF at h; split at h
    · rename_i l hl; simp at h; subst h; unfold rnP; rw [rnFL_spec hl]
    · cases h
  | .any, q, h => by simp [rnF] at h; subst h; rfl
  | .atom v, q, h => by simp [rnF] at h; subst h; rfl
  | .fptr sz n el k off, q, h => by simp [rnF] at h; subst h; rfl
  | .fz sz n el, q, h => by simp [rnF] at h; subst h; rfl
theorem rnFL_spec {f : Nat → Nat} : ∀ {p q : List PV}, rnFL f p = some q → rnPL f p = q
  | [], q, h => by simp [rnFL] at h; subst h; rfl
  | a :: l, q, h => by
    unfold rnFL at h; split at h
    · rename_i b r hb hr; simp at h; subst h; unfold rnPL; rw [rnF_spec hb, rnFL_spec hr]
    · cases h
end
def allLt (n : Nat) : List Nat → Bool
  | [] => true
  | a :: l => bif Nat.blt a n then allLt n l else false
theorem allLt_spec {n : Nat} : ∀ {l : List Nat}, allLt n l = true → ∀ i, i < l.length → lgetN l i < n
  | [], _, i, hi => by simp at hi
  | a :: l, h, i, hi => by
    unfold allLt at h
    obtain ⟨h1, h2⟩ : Nat.blt a n = true ∧ allLt n l = true := by cases hb : Nat.blt a n <;> simp [hb] at h; exact ⟨rfl, h⟩
    cases i with
    | zero => simpa [lgetN, Nat.blt_eq] using h1
    | succ i => exact allLt_spec h2 i (by simpa using hi)
def ownOk (rs : List Nat) (n : Nat) (st0 s0 : St) : Bool := bif noRoB s0 then bif noRoB st0 then bif Nat.beq rs.length st0.length then bif nodupB rs then allLt n rs else false else false else false else false

/-- A contract about own memory: what comes of it. -/
def Own (P : Program) (g : FuncId) (asx : List PV) (st0 : St) (pv : PV) (s0 : St) : Prop := Spec P g asx st0 fun v s => v = pv ∧ s = s0

section
variable {P : Program} {f : FuncId} {fn : Func} {n0 : Nat} {Q : PV → St → Prop} {k k' : List Item} {env : Env} {st st' : St} {ops : Array Oper} {d d' : Md} {o : Oper} {rest : List Oper} {T : TT}
theorem Rg.own {g : FuncId} {cap asx : List PV} {pv pv0 : PV} {st0 s0 : St} {e : Option Tmp} {cp : Operand} {args : Array Operand} {ats : Array TypeId} (hp : Own P g asx st0 pv0 s0) (rs : List Nat) (hw : wants ops env o = some true) (hd : dstN fn.ntmps o.dst = some e) (hx : nx d = some d')
    (ho : o.op = .call { callee := .value cp, args, argTypes := ats }) (hc : funcOf (d.env ops o env cp) = some (g, cap)) (hb : ownOk rs st.length st0 s0 = true) (hsub : StL rs st0.length st rs st0) (hargs : RnL (lgetN rs) st0.length (args.toList.map (d.env ops o env) ++ cap) asx)
    (hpv : rnF (fwd rs st.length) pv0 = some pv) (hst : nl (putAll (fwd rs st.length) rs s0 st) = some st') (hk : d.ok P ops fn.ntmps st st' (env.put e pv)) (hr : Rg P f fn n0 Q k ops d' rest (env.put e pv) st') : Rg P f fn n0 Q k ops d (o :: rest) env st := by
  unfold ownOk at hb
  obtain ⟨b1, b2, b3, b4, b5⟩ : noRoB s0 = true ∧ noRoB st0 = true ∧ Nat.beq rs.length st0.length = true ∧ nodupB rs = true ∧ allLt st.length rs = true := by
    cases h1 : noRoB s0 <;> cases h2 : noRoB st0 <;> cases h3 : Nat.beq rs.length st0.length <;> cases h4 : nodupB rs <;> simp [h1, h2, h3, h4] at hb
    exact ⟨rfl, rfl, rfl, rfl, hb⟩
  have hs := Spec.frame (as' := args.toList.map (d.env ops o env) ++ cap) (st := st) (rs := rs) hp (fun pv s h => by rw [h.2]; exact noRoB_spec b1) (noRoB_spec b2) (Nat.eq_of_beq_eq_true b3) b4 (allLt_spec b5) hsub.spec hargs
  refine Rg.any hw hd hx (fun R hR => G_callSpec ho (funcOf_spec hc) hs (fun p s h => ?_)) hk hr
  obtain ⟨pv0', s0', ⟨rfl, rfl⟩, rfl, rfl⟩ := h
  rw [rnF_spec hpv, nl_spec hst]
  exact hR
end

/-! ### bytes -/
section
variable {P : Program} {T : TT} {E : Operand → PV} {st : St} {o : Oper} {Q : PV → St → Prop}
end

section
variable {P : Program} {T : TT} {E : Operand → PV} {st : St} {o : Oper} {Q : PV → St → Prop}
end
end Go.Sy
end
