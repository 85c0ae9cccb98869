/- The walk's rules. -/
import Derived.Test.YtocfjbopkgmjkaaDoorY15
set_option linter.unusedVariables false
set_option linter.unusedSimpArgs false
set_option linter.unusedSectionVars false
namespace Go.Sy
open Go Go.RowKit

/-! ### control -/
def ctl1 : List Item → Option (List Item)
  | .code .skip :: k => some k
  | .code (.label _) :: k => some k
  | .inBlock _ :: k => some k
  | .code (.seq x y) :: k => some (.code x :: .code y :: k)
  | .code (.block id c) :: k => some (.code c :: .inBlock id :: k)
  | .code (.exit id) :: k => exitTo id k
  | _ => none
def ctlR : Nat → List Item → Option (List Item)
  | 0, k => some k
  | n + 1, k => match ctl1 k with
    | none => some k
    | some k' => ctlR n k'
def ctl (k : List Item) : Option (List Item) := match ctl1 k with
  | none => none
  | some k' => ctlR 40 k'
def frc : List Nat → Option (List Nat)
  | [] => some []
  | a :: l => match frc l with
    | some r => some (a :: r)
    | none => none
theorem frc_spec : ∀ {l r : List Nat}, frc l = some r → l = r
  | [], r, h => by simp [frc] at h; exact h.symm
  | a :: l, r, h => by
    simp only [frc] at h
    split at h
    · rename_i r' hr; simp at h; subst h; rw [frc_spec hr]
    · cases h

theorem cs : (∀ (p : Prop) [Decidable p], (decide p = true) = p) ∧ (∀ (p : Prop) [Decidable p], (decide p = false) = ¬ p) ∧ (∀ (α : Type) [BEq α] [LawfulBEq α] (a b : α), ((a == b) = true) = (a = b)) ∧
    (∀ (α : Type) [BEq α] [LawfulBEq α] (a b : α), ((a == b) = false) = ¬ (a = b)) ∧ (∀ (α : Type) [BEq α] [LawfulBEq α] (a b : α), ((a != b) = true) = ¬ (a = b)) ∧ (∀ (α : Type) [BEq α] [LawfulBEq α] (a b : α), ((a != b) = false) = (a = b)) ∧
    (∀ b : Bool, ((!b) = true) = (b = false)) ∧ (∀ b : Bool, ((!b) = false) = (b = true)) ∧ (∀ b : Bool, (¬ (b = true)) = (b = false)) ∧ (∀ b : Bool, (¬ (b = false)) = (b = true)) ∧
    (∀ a b : Int, (¬ (a < b)) = (b ≤ a)) ∧ (∀ a b : Int, (¬ (a ≤ b)) = (b < a)) ∧ (∀ a b : Int, (a > b) = (b < a)) ∧ (∀ a b : Int, (a ≥ b) = (b ≤ a)) ∧ (∀ a b : Int, (a ≠ b) = ¬ (a = b)) ∧ (∀ p : Prop, (¬ ¬ p) = p) ∧ ((¬ True) = False) ∧ ((¬ False) = True) ∧ (∀ (α : Type) (a : α), (a = a) = True) ∧ ((true = false) = False) ∧ ((false = true) = False) ∧ ((!true) = false) ∧ ((!false) = true) ∧
    (∀ a b : Nat, ((a : Int) < (b : Int)) = (a < b)) ∧ (∀ a b : Nat, ((a : Int) ≤ (b : Int)) = (a ≤ b)) ∧ (∀ a b : Nat, ((a : Int) = (b : Int)) = (a = b)) ∧ (∀ a b : Nat, (¬ (a < b)) = (b ≤ a)) ∧ (∀ a b : Nat, (¬ (a ≤ b)) = (b < a)) :=
  ⟨by simp, by simp, fun _ _ _ a b => propext beq_iff_eq, fun _ _ _ a b => propext beq_eq_false_iff_ne, fun _ _ _ a b => propext bne_iff_ne, fun _ _ _ a b => propext bne_eq_false_iff_eq, by simp, by simp, by simp, by simp, by simp, by simp, by simp, by simp, by simp, by simp, by simp, by simp, by simp, by simp, by simp, by simp, by simp, by simp [Int.ofNat_lt], by simp, by simp [Int.ofNat_inj], by simp, by simp⟩

variable [Globs]
inductive Md where
  | seq
  | drw (lo : List Nat) (m : Nat)
def Md.nxt : Md → Md
  | .seq => .seq
  | .drw lo m => .drw lo (m + 1)
def nx : Md → Option Md
  | .seq => some .seq
  | .drw lo m => some (.drw lo (m + 1))
omit [Globs] in
theorem nx_spec {d d' : Md} (h : nx d = some d') : d.nxt = d' := by cases d <;> simp [nx] at h <;> exact h
def Md.env (d : Md) (ops : Array Oper) (o : Oper) (env : Env) : Operand → PV := match d with
  | .seq => env.ev
  | .drw lo m => bif lmem m lo then env.ev else (Env.only (o.looksAt ops) env).ev
def Md.ok (d : Md) (st st' : St) : Prop := match d with
  | .seq => True
  | .drw lo m => lmem m lo = true ∨ st' = st

section
variable {P : Program} {f : FuncId} {fn : Func} {n0 : Nat} {Q : PV → St → Prop} {k k' : List Item} {env : Env} {st st' : St} {ops : Array Oper} {d d' : Md} {o : Oper} {rest : List Oper} {T : TT}
theorem Run.ctl1 (h : Go.Sy.ctl1 k = some k') (hr : Run P f fn n0 Q k' env st) : Run P f fn n0 Q k env st := by
  unfold Go.Sy.ctl1 at h
  split at h
  · cases h; exact Run.skip hr
  · cases h; exact Run.label hr
  · cases h; exact Run.inBlock hr
  · cases h; exact Run.seq hr
  · cases h; exact Run.block hr
  · exact Run.exit h hr
  · cases h
theorem Run.ctlR : ∀ (n : Nat) {k k' : List Item}, Go.Sy.ctlR n k = some k' → Run P f fn n0 Q k' env st → Run P f fn n0 Q k env st
  | 0, k, k', h, hr => by simp [Go.Sy.ctlR] at h; rw [h]; exact hr
  | n + 1, k, k', h, hr => by
    simp only [Go.Sy.ctlR] at h
    split at h
    · cases h; exact hr
    · rename_i k2 h2; exact Run.ctl1 h2 (Run.ctlR n h hr)
theorem Run.ctl (h : Go.Sy.ctl k = some k') (hr : Run P f fn n0 Q k' env st) : Run P f fn n0 Q k env st := by
  unfold Go.Sy.ctl at h
  split at h
  · cases h
  · rename_i k2 h2; exact Run.ctl1 h2 (Run.ctlR 40 h hr)

def Rg (P : Program) (f : FuncId) (fn : Func) (n0 : Nat) (Q : PV → St → Prop) (k : List Item) (ops : Array Oper) (d : Md) (l : List Oper) (env : Env) (st : St) : Prop := match d with
  | .seq => RunL P f fn n0 Q ops l k env st
  | .drw lo m => Walk P ops lo fn.ntmps (fun e s => Run P f fn n0 Q k e s) m l env st

theorem Rg.gen {e : Option Tmp} (hw : wants ops env o = some true) (hd : dstN fn.ntmps o.dst = some e) (h : OpGoes P (d.env ops o env) st o fun pv st' => d.ok st st' ∧ Rg P f fn n0 Q k ops d.nxt rest (env.put e pv) st')
    (hs : ∀ lo m, d = .drw lo m → lmem m lo = false → ∃ pv, OpGoes P (d.env ops o env) st o (fun q s => q = pv ∧ s = st) ∧ Rg P f fn n0 Q k ops d.nxt rest (env.put e pv) st) : Rg P f fn n0 Q k ops d (o :: rest) env st := by
  cases d with
  | seq => exact RunL.op hw hd (h.mono fun p s hr => hr.2)
  | drw lo m =>
    cases hlo : lmem m lo with
    | true =>
      refine Walk.loud hlo hw hd ?_
      have : (Md.drw lo m).env ops o env = env.ev := by simp [Md.env, hlo]
      rw [this] at h
      exact h.mono fun p s hr => hr.2
    | false =>
      obtain ⟨pv, h1, h2⟩ := hs lo m rfl hlo
      have : (Md.drw lo m).env ops o env = (Env.only (o.looksAt ops) env).ev := by simp [Md.env, hlo]
      rw [this] at h1
      exact Walk.opE hlo hw hd ⟨pv, h1, h2⟩
theorem Rg.one {e : Option Tmp} {pv : PV} (hw : wants ops env o = some true) (hd : dstN fn.ntmps o.dst = some e) (h : ∀ R : PV → St → Prop, R pv st' → OpGoes P (d.env ops o env) st o R) (hk : d.ok st st') (hr : Rg P f fn n0 Q k ops d.nxt rest (env.put e pv) st') : Rg P f fn n0 Q k ops d (o :: rest) env st := by
  refine Rg.gen hw hd (h _ ⟨hk, hr⟩) (fun lo m hd' hlo => ?_)
  subst hd'
  rcases hk with hk | hk
  · rw [hk] at hlo; cases hlo
  · subst hk; exact ⟨pv, h _ ⟨rfl, rfl⟩, hr⟩
theorem Rg.any {e : Option Tmp} {pv : PV} (hw : wants ops env o = some true) (hd : dstN fn.ntmps o.dst = some e) (hx : nx d = some d') (h : ∀ R : PV → St → Prop, R pv st' → OpGoes P (d.env ops o env) st o R) (hk : d.ok st st') (hr : Rg P f fn n0 Q k ops d' rest (env.put e pv) st') : Rg P f fn n0 Q k ops d (o :: rest) env st :=
  Rg.one hw hd h hk (nx_spec hx ▸ hr)
/-- An operation. -/
theorem Rg.op (w : Bool) (hT : TOk P T) {e : Option Tmp} {c : Prop} {pv : PV} (hw : wants ops env o = some true) (hd : dstN fn.ntmps o.dst = some e) (hx : nx d = some d') (h : opX P T w (d.env ops o env) st o.op = some (c, pv, st')) (hc : c) (hk : d.ok st st')
    (hr : Rg P f fn n0 Q k ops d' rest (env.put e pv) st') : Rg P f fn n0 Q k ops d (o :: rest) env st := Rg.one hw hd (fun R hR => opX_spec hT h hc hR) hk (nx_spec hx ▸ hr)
theorem Md.ok_self : d.ok st st := by cases d; exact trivial; exact .inr rfl
/-- A call under a contract. -/
theorem Rg.call {g : FuncId} {cap as : List PV} {pv : PV} {e : Option Tmp} {cp : Operand} {args : Array Operand} {ats : Array TypeId} (hp : Pure P g as pv) (hw : wants ops env o = some true) (hd : dstN fn.ntmps o.dst = some e) (hx : nx d = some d') (ho : o.op = .call { callee := .value cp, args, argTypes := ats })
    (hc : funcOf (d.env ops o env cp) = some (g, cap)) (hcv : CvArgs roB st (args.toList.map (d.env ops o env) ++ cap) as) (hr : Rg P f fn n0 Q k ops d' rest (env.put e pv) st) : Rg P f fn n0 Q k ops d (o :: rest) env st :=
  Rg.one hw hd (fun R hR => G_call hp ho hc hcv hR) Md.ok_self (nx_spec hx ▸ hr)
theorem Rg.lend {g : FuncId} {cap as : List PV} {pv : PV} {e : Option Tmp} {cp : Operand} {args : Array Operand} {ats : Array TypeId} (hp : Pure P g as pv) (hw : wants ops env o = some true) (hd : dstN fn.ntmps o.dst = some e) (hx : nx d = some d') (ho : o.op = .call { callee := .value cp, args, argTypes := ats })
    (hc : funcOf (d.env ops o env cp) = some (g, cap)) (hfl : flatB pv = true) (hcv : CvArgs allB st (args.toList.map (d.env ops o env) ++ cap) as) (hr : Rg P f fn n0 Q k ops d' rest (env.put e pv) st) : Rg P f fn n0 Q k ops d (o :: rest) env st :=
  Rg.one hw hd (fun R hR => G_lend hp ho hc hfl hcv hR) Md.ok_self (nx_spec hx ▸ hr)
theorem Rg.skip {e : Option Tmp} (hw : wants ops env o = some false) (hd : dstN fn.ntmps o.dst = some e) (hx : nx d = some d') (h : Rg P f fn n0 Q k ops d' rest (env.put e (.atom undef)) st) : Rg P f fn n0 Q k ops d (o :: rest) env st := by
  rw [← nx_spec hx] at h
  cases d with
  | seq => exact RunL.skip hw hd h
  | drw lo m => exact Walk.skip' hw hd h
theorem Rg.nil (h : Run P f fn n0 Q k env st) : Rg P f fn n0 Q k ops d [] env st := by
  cases d with
  | seq => exact RunL.nil h
  | drw lo m => exact h
theorem Rg.guard {t : Nat} {b : Bool} (hg : guardOf ops env o = some (t, b)) (ht : b = true → Rg P f fn n0 Q k ops d (o :: rest) (env.put (some t) (.atom (.bool true))) st) (hf : b = false → Rg P f fn n0 Q k ops d (o :: rest) (env.put (some t) (.atom (.bool false))) st) :
    Rg P f fn n0 Q k ops d (o :: rest) env st := by
  cases d with
  | seq => exact RunL.guard hg ht hf
  | drw lo m => exact Walk.guard hg ht hf
/-- The next guard is a known one. -/
theorem Rg.lit (b : Bool) {t : Nat} (hg : guardOf ops env o = some (t, b)) (h : Rg P f fn n0 Q k ops d (o :: rest) env st) : Rg P f fn n0 Q k ops d (o :: rest) env st := h
theorem Run.regR {id : Nat} {l : List Oper} (h : Rg P f fn n0 Q k l.toArray .seq l env st) : Run P f fn n0 Q (.code (.region id l.toArray false) :: k) env st := Run.reg h
theorem Run.drwR {id : Nat} {l : List Oper} {lo : List Nat} (hm : P.follows .mixedOrders = true) (hB : fastG 0 (l.map (infoO l.toArray)) = true) (hl : frc (stores 0 l) = some lo)
    (h : Rg P f fn n0 Q k l.toArray (.drw lo 0) l env st) : Run P f fn n0 Q (.code (.region id l.toArray true) :: k) env st := Run.drwF hm hB (by rw [frc_spec hl]; exact h)
end
end Go.Sy
