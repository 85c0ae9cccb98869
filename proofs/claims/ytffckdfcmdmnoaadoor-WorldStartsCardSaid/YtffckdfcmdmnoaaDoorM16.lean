/- Texts merged: L1, A1, P0, P4. -/
import Derived.Test.YtffckdfcmdmnoaaDoorM7
import Derived.Test.YtffckdfcmdmnoaaDoorM8
import Derived.Lib.AppendIntMem
import Derived.Test.YtffckdfcmdmnoaaDoorM15
section
/- What is known of the package variables, and the library's functions. -/
set_option linter.unusedVariables false
set_option linter.unusedSimpArgs false
set_option linter.unusedSectionVars false
namespace Go.Proofs.YtffckdfcmdmnoaaDoor.W
open Go Go.Sy Go.RowKit

structure GK (K : KH) : Prop where
 maxLen : ∃ m : Int, K 1 = some #[.int .i64 m]
 pow10 : K 0 = some (Lib.pow10Tab.map fun z => Value.int .u64 z).toArray
instance globs : Globs where
  G := GK
  mono := fun h g => {
   maxLen := g.maxLen.imp fun _ hm => h _ _ hm
   pow10 := h _ _ g.pow10
    }

theorem varOf {K : KH} {w : World} {g : Nat} {n : String} {cur : Array Value} (hk : KIn K w) (hn : Tryd.prog.globalNamed n = some g) (h : K g = some cur) : w.var? Tryd.prog n = some cur := by
  obtain ⟨e, he⟩ := hk g cur h
  unfold World.var?
  rw [hn]
  simp only [Option.bind_some, he]
def bs (l : List UInt8) : ByteArray := ⟨l.toArray⟩
theorem itoa_ (n : Int) (h0 : -9223372036854775808 ≤ n) (h1 : n ≤ 9223372036854775807) : Pure Tryd.prog 45 [i64 n] (str (bs (Lib.itoa n))) :=
 Pure.ofCalls [.int .i64 n] ⟨_, Tryd.func45, by kernel_rfl, by kernel_rfl⟩ fun K w hg hk => (Tryd.strconv_Itoa n h0 h1 w (varOf hk (by kernel_rfl) hg.pow10)).mono fun e w' ⟨he, k, os, hw⟩ => ⟨_, he, .atom _, by rw [hw]; exact Lib.below_grow _ _ (Nat.le_refl _) _ _⟩
end Go.Proofs.YtffckdfcmdmnoaaDoor.W
end
section
/- Walks: orders of IDs and events. -/
set_option linter.unusedVariables false
set_option linter.unusedSimpArgs false
set_option linter.unusedSectionVars false
set_option pp.maxSteps 3000
namespace Go.Proofs.YtffckdfcmdmnoaaDoor.W
open Go Go.Sy

structure ID where
  from_ : Int
  n : Int
  copy : Int
  deriving DecidableEq, Inhabited
structure Ev where
  kind : Int
  id : ID
  who : Int
  deriving DecidableEq, Inhabited
def eID (x : ID) : List PV := [i64 x.from_, i64 x.n, i64 x.copy]
def pID (x : ID) : PV := .agg (eID x)
def R64 (n : Int) : Prop := -9223372036854775808 ≤ n ∧ n ≤ 9223372036854775807
def ID.ok (x : ID) : Prop := R64 x.from_ ∧ R64 x.n ∧ R64 x.copy
def Ev.ok (e : Ev) : Prop := R64 e.kind ∧ e.id.ok ∧ R64 e.who
def cmpI (a b : Int) : Int := if a < b then -1 else if a > b then 1 else 0
def orI : List Int → Int
  | [] => 0
  | a :: l => if a ≠ 0 then a else orI l
def orderID (a b : ID) : Int := orI [cmpI a.from_ b.from_, cmpI a.n b.n, cmpI a.copy b.copy]
def lessID (a b : ID) : Bool := orderID a b < 0
theorem isNaN_ (a : Int) : Pure Tryd.prog 89 [i64 a] (bl false) := by
  refine Pure.of_spec (Spec.of_run (fn := Tryd.f89) Tryd.func89 rfl rfl (by kernel_rfl) ?_) (by first | assumption | rfl | (split <;> rfl) | (split <;> split <;> rfl))
  repeat' (first | refine Run.ctl rfl ?_ | (refine Rg.op false tok rfl rfl rfl rfl ?_ ?_ ?_; (first | exact ⟨⟩ | omega | focus (simp <;> omega) | decide +kernel); (first | exact trivial | exact rfl | exact .inl rfl | exact .inr rfl)) | (refine Rg.op true tok rfl rfl rfl rfl ?_ ?_ ?_; (first | exact ⟨⟩ | omega | focus (simp <;> omega) | decide +kernel); (first | exact trivial | exact rfl | exact .inl rfl | exact .inr rfl)) | refine Rg.nil ?_ | refine Rg.skip rfl rfl rfl ?_ | refine Run.regR ?_ | refine Run.condT rfl ?_ | refine Run.condF rfl ?_ | ((first | refine Run.condB rfl (fun hc => ?_) (fun hc => ?_) | ((fail_if_success (refine Rg.lit true rfl ?_)); (fail_if_success (refine Rg.lit false rfl ?_)); refine Rg.guard rfl (fun hc => ?_) (fun hc => ?_))) <;> ((try simp only [cs] at hc))))
  (first | refine Run.ret tok Tryd.func89 rfl ?_ | refine Run.fall tok Tryd.func89 rfl ?_)
  exact .ofBool (by simp)
theorem compare_ (a b : Int) : Pure Tryd.prog 82 [i64 a, i64 b] (i64 (cmpI a b)) := by
  refine Pure.of_spec (Spec.of_run (fn := Tryd.f82) Tryd.func82 rfl rfl (by kernel_rfl) ?_) (by first | assumption | rfl | (split <;> rfl) | (split <;> split <;> rfl))
  repeat' (first | refine Run.ctl rfl ?_ | (refine Rg.op false tok rfl rfl rfl rfl ?_ ?_ ?_; (first | exact ⟨⟩ | omega | focus (simp <;> omega) | decide +kernel); (first | exact trivial | exact rfl | exact .inl rfl | exact .inr rfl)) | refine Rg.call (isNaN_ _) rfl rfl rfl rfl rfl ⟨⟨.refl _, trivial⟩, rfl⟩ ?_ | (refine Rg.op true tok rfl rfl rfl rfl ?_ ?_ ?_; (first | exact ⟨⟩ | omega | focus (simp <;> omega) | decide +kernel); (first | exact trivial | exact rfl | exact .inl rfl | exact .inr rfl)) | refine Rg.nil ?_ | refine Rg.skip rfl rfl rfl ?_ | refine Run.regR ?_ | refine Run.condT rfl ?_ | refine Run.condF rfl ?_ | ((first | refine Run.condB rfl (fun hc => ?_) (fun hc => ?_) | ((fail_if_success (refine Rg.lit true rfl ?_)); (fail_if_success (refine Rg.lit false rfl ?_)); refine Rg.guard rfl (fun hc => ?_) (fun hc => ?_))) <;> ((try simp only [cs] at hc))))
  all_goals ((first | refine Run.ret tok Tryd.func82 rfl ?_ | refine Run.fall tok Tryd.func82 rfl ?_); refine .ofInt ?_; unfold cmpI; repeat' split) <;> omega
theorem orI_drop (l : List Int) (i : Nat) (h : i < l.length) : orI (l.drop i) = if l.getD i default ≠ 0 then l.getD i default else orI (l.drop (i + 1)) := by
  rw [List.drop_eq_getElem_cons h]
  simp [orI, h]
theorem or_ (l : List Int) (hl : l.length ≤ 1000) : Pure Tryd.prog 81 [sl 1 eInt l] (i64 (orI l)) := by
  refine Pure.of_spec (Spec.of_run (fn := Tryd.f81) Tryd.func81 rfl rfl (by kernel_rfl) ?_) (by first | assumption | rfl | (split <;> rfl) | (split <;> split <;> rfl))
  repeat' (first | refine Run.ctl rfl ?_ | (refine Rg.op false tok rfl rfl rfl rfl ?_ ?_ ?_; (first | exact ⟨⟩ | omega | focus (simp <;> omega) | decide +kernel); (first | exact trivial | exact rfl | exact .inl rfl | exact .inr rfl | focus ((repeat (first | exact trivial | (refine ⟨Stay.op false tok rfl rfl rfl ?_ (fun t ht => by cases ht; rfl), ?_⟩; (first | exact ⟨⟩ | omega | focus (simp <;> omega) | decide +kernel)) | (refine ⟨Stay.op true tok rfl rfl rfl ?_ (fun t ht => by cases ht; rfl), ?_⟩; (first | exact ⟨⟩ | omega | focus (simp <;> omega) | decide +kernel)) | refine ⟨Stay.skip rfl rfl (fun t ht => by cases ht; rfl), ?_⟩)); done))) | (refine Rg.op true tok rfl rfl rfl rfl ?_ ?_ ?_; (first | exact ⟨⟩ | omega | focus (simp <;> omega) | decide +kernel); (first | exact trivial | exact rfl | exact .inl rfl | exact .inr rfl | focus ((repeat (first | exact trivial | (refine ⟨Stay.op false tok rfl rfl rfl ?_ (fun t ht => by cases ht; rfl), ?_⟩; (first | exact ⟨⟩ | omega | focus (simp <;> omega) | decide +kernel)) | (refine ⟨Stay.op true tok rfl rfl rfl ?_ (fun t ht => by cases ht; rfl), ?_⟩; (first | exact ⟨⟩ | omega | focus (simp <;> omega) | decide +kernel)) | refine ⟨Stay.skip rfl rfl (fun t ht => by cases ht; rfl), ?_⟩)); done))) | refine Rg.nil ?_ | refine Rg.fork ?_ ?_ | refine Rg.skip rfl rfl rfl ?_ | refine Run.regR ?_ | refine Run.drwR mixed (by kernel_rfl) rfl ?_ | refine Run.condT rfl ?_ | refine Run.condF rfl ?_ | ((first | refine Run.condB rfl (fun hc => ?_) (fun hc => ?_) | ((fail_if_success (refine Rg.lit true rfl ?_)); (fail_if_success (refine Rg.lit false rfl ?_)); refine Rg.guard rfl (fun hc => ?_) (fun hc => ?_))) <;> ((try simp only [cs] at hc))))
  refine Run.loopAt (ι := Nat) (fun i => ([(0, sl 1 eInt l), (3, i64 0), (6, sl 1 eInt l), (7, i64 l.length), (8, i64 i)], [])) (fun i => i ≤ l.length ∧ orI (l.drop i) = orI l) (fun i => l.length - i) 0 ⟨rfl, rfl, rfl, rfl, rfl, trivial⟩ rfl ⟨by omega, rfl⟩ ?_
  rintro i ⟨hi, hor⟩ back
  repeat' (first | refine Run.ctl rfl ?_ | (refine Rg.op false tok rfl rfl rfl rfl ?_ ?_ ?_; (first | exact ⟨⟩ | omega | focus (simp <;> omega) | decide +kernel); (first | exact trivial | exact rfl | exact .inl rfl | exact .inr rfl | focus ((repeat (first | exact trivial | (refine ⟨Stay.op false tok rfl rfl rfl ?_ (fun t ht => by cases ht; rfl), ?_⟩; (first | exact ⟨⟩ | omega | focus (simp <;> omega) | decide +kernel)) | (refine ⟨Stay.op true tok rfl rfl rfl ?_ (fun t ht => by cases ht; rfl), ?_⟩; (first | exact ⟨⟩ | omega | focus (simp <;> omega) | decide +kernel)) | refine ⟨Stay.skip rfl rfl (fun t ht => by cases ht; rfl), ?_⟩)); done))) | (refine Rg.op true tok rfl rfl rfl rfl ?_ ?_ ?_; (first | exact ⟨⟩ | omega | focus (simp <;> omega) | decide +kernel); (first | exact trivial | exact rfl | exact .inl rfl | exact .inr rfl | focus ((repeat (first | exact trivial | (refine ⟨Stay.op false tok rfl rfl rfl ?_ (fun t ht => by cases ht; rfl), ?_⟩; (first | exact ⟨⟩ | omega | focus (simp <;> omega) | decide +kernel)) | (refine ⟨Stay.op true tok rfl rfl rfl ?_ (fun t ht => by cases ht; rfl), ?_⟩; (first | exact ⟨⟩ | omega | focus (simp <;> omega) | decide +kernel)) | refine ⟨Stay.skip rfl rfl (fun t ht => by cases ht; rfl), ?_⟩)); done))) | refine Rg.nil ?_ | refine Rg.fork ?_ ?_ | refine Rg.skip rfl rfl rfl ?_ | refine Run.regR ?_ | refine Run.drwR mixed (by kernel_rfl) rfl ?_ | refine Run.condT rfl ?_ | refine Run.condF rfl ?_ | ((first | refine Run.condB rfl (fun hc => ?_) (fun hc => ?_) | ((fail_if_success (refine Rg.lit true rfl ?_)); (fail_if_success (refine Rg.lit false rfl ?_)); refine Rg.guard rfl (fun hc => ?_) (fun hc => ?_))) <;> ((try simp only [cs] at hc))))
  · have h1 : i < l.length := by omega
    (first | refine Run.ret tok Tryd.func81 rfl ?_ | refine Run.fall tok Tryd.func81 rfl ?_)
    refine .ofInt ?_
    rw [← hor, orI_drop l i h1, if_pos hc]
  · have h1 : i < l.length := by omega
    rw [orI_drop l i h1, if_neg (by simpa using hc)] at hor
    exact back (i + 1) _ _ ⟨by omega, hor⟩ (by omega) ⟨rfl, rfl, rfl, rfl, rfl, trivial⟩ rfl
  · (first | refine Run.ret tok Tryd.func81 rfl ?_ | refine Run.fall tok Tryd.func81 rfl ?_)
    refine .ofInt ?_
    have : i = l.length := by omega
    subst this
    rw [← hor]; simp [orI]
theorem order_ (a b : ID) : Pure Tryd.prog 71 [pID a, pID b] (i64 (orderID a b)) := by
  refine Pure.of_spec (Spec.of_run (fn := Tryd.f71) Tryd.func71 rfl rfl (by kernel_rfl) ?_) (by first | assumption | rfl | (split <;> rfl) | (split <;> split <;> rfl))
  repeat' (first | refine Run.ctl rfl ?_ | (refine Rg.op false tok rfl rfl rfl rfl ?_ ?_ ?_; (first | exact ⟨⟩ | omega | focus (simp <;> omega) | decide +kernel); (first | exact trivial | exact rfl | exact .inl rfl | exact .inr rfl | focus ((repeat (first | exact trivial | (refine ⟨Stay.op false tok rfl rfl rfl ?_ (fun t ht => by cases ht; rfl), ?_⟩; (first | exact ⟨⟩ | omega | focus (simp <;> omega) | decide +kernel)) | (refine ⟨Stay.op true tok rfl rfl rfl ?_ (fun t ht => by cases ht; rfl), ?_⟩; (first | exact ⟨⟩ | omega | focus (simp <;> omega) | decide +kernel)) | refine ⟨Stay.skip rfl rfl (fun t ht => by cases ht; rfl), ?_⟩)); done))) | refine Rg.call (compare_ _ _) rfl rfl rfl rfl rfl ⟨⟨.refl _, .refl _, trivial⟩, rfl⟩ ?_ | refine Rg.call (or_ [_, _, _] (by simp)) rfl rfl rfl rfl rfl ⟨⟨.rowF rfl (fun _ => rfl) (fun j hj => by rcases j with _ | _ | _ | _ | _ | _ | _ | _ | j <;> first | rfl | (exfalso; simp at hj; try omega)), trivial⟩, rfl⟩ ?_ | (refine Rg.op true tok rfl rfl rfl rfl ?_ ?_ ?_; (first | exact ⟨⟩ | omega | focus (simp <;> omega) | decide +kernel); (first | exact trivial | exact rfl | exact .inl rfl | exact .inr rfl | focus ((repeat (first | exact trivial | (refine ⟨Stay.op false tok rfl rfl rfl ?_ (fun t ht => by cases ht; rfl), ?_⟩; (first | exact ⟨⟩ | omega | focus (simp <;> omega) | decide +kernel)) | (refine ⟨Stay.op true tok rfl rfl rfl ?_ (fun t ht => by cases ht; rfl), ?_⟩; (first | exact ⟨⟩ | omega | focus (simp <;> omega) | decide +kernel)) | refine ⟨Stay.skip rfl rfl (fun t ht => by cases ht; rfl), ?_⟩)); done))) | refine Rg.nil ?_ | refine Rg.fork ?_ ?_ | refine Rg.skip rfl rfl rfl ?_ | refine Run.regR ?_ | refine Run.drwR mixed (by kernel_rfl) rfl ?_ | refine Run.condT rfl ?_ | refine Run.condF rfl ?_ | ((first | refine Run.condB rfl (fun hc => ?_) (fun hc => ?_) | ((fail_if_success (refine Rg.lit true rfl ?_)); (fail_if_success (refine Rg.lit false rfl ?_)); refine Rg.guard rfl (fun hc => ?_) (fun hc => ?_))) <;> ((try simp only [cs] at hc))))
  (first | refine Run.ret tok Tryd.func71 rfl ?_ | refine Run.fall tok Tryd.func71 rfl ?_)
  exact .ofInt rfl
theorem less_ (a b : ID) : Pure Tryd.prog 59 [pID a, pID b] (bl (lessID a b)) := by
  refine Pure.of_spec (Spec.of_run (fn := Tryd.f59) Tryd.func59 rfl rfl (by kernel_rfl) ?_) (by first | assumption | rfl | (split <;> rfl) | (split <;> split <;> rfl))
  repeat' (first | refine Run.ctl rfl ?_ | (refine Rg.op false tok rfl rfl rfl rfl ?_ ?_ ?_; (first | exact ⟨⟩ | omega | focus (simp <;> omega) | decide +kernel); (first | exact trivial | exact rfl | exact .inl rfl | exact .inr rfl | focus ((repeat (first | exact trivial | (refine ⟨Stay.op false tok rfl rfl rfl ?_ (fun t ht => by cases ht; rfl), ?_⟩; (first | exact ⟨⟩ | omega | focus (simp <;> omega) | decide +kernel)) | (refine ⟨Stay.op true tok rfl rfl rfl ?_ (fun t ht => by cases ht; rfl), ?_⟩; (first | exact ⟨⟩ | omega | focus (simp <;> omega) | decide +kernel)) | refine ⟨Stay.skip rfl rfl (fun t ht => by cases ht; rfl), ?_⟩)); done))) | refine Rg.call (order_ a b) rfl rfl rfl rfl rfl ⟨⟨.refl _, .refl _, trivial⟩, rfl⟩ ?_ | (refine Rg.op true tok rfl rfl rfl rfl ?_ ?_ ?_; (first | exact ⟨⟩ | omega | focus (simp <;> omega) | decide +kernel); (first | exact trivial | exact rfl | exact .inl rfl | exact .inr rfl | focus ((repeat (first | exact trivial | (refine ⟨Stay.op false tok rfl rfl rfl ?_ (fun t ht => by cases ht; rfl), ?_⟩; (first | exact ⟨⟩ | omega | focus (simp <;> omega) | decide +kernel)) | (refine ⟨Stay.op true tok rfl rfl rfl ?_ (fun t ht => by cases ht; rfl), ?_⟩; (first | exact ⟨⟩ | omega | focus (simp <;> omega) | decide +kernel)) | refine ⟨Stay.skip rfl rfl (fun t ht => by cases ht; rfl), ?_⟩)); done))) | refine Rg.nil ?_ | refine Rg.fork ?_ ?_ | refine Rg.skip rfl rfl rfl ?_ | refine Run.regR ?_ | refine Run.drwR mixed (by kernel_rfl) rfl ?_ | refine Run.condT rfl ?_ | refine Run.condF rfl ?_ | ((first | refine Run.condB rfl (fun hc => ?_) (fun hc => ?_) | ((fail_if_success (refine Rg.lit true rfl ?_)); (fail_if_success (refine Rg.lit false rfl ?_)); refine Rg.guard rfl (fun hc => ?_) (fun hc => ?_))) <;> ((try simp only [cs] at hc))))
  (first | refine Run.ret tok Tryd.func59 rfl ?_ | refine Run.fall tok Tryd.func59 rfl ?_)
  exact .ofBool rfl
end Go.Proofs.YtffckdfcmdmnoaaDoor.W
end
section
/- Plain: instructions. -/
set_option linter.unusedVariables false
set_option linter.unusedSimpArgs false
set_option linter.unusedSectionVars false
namespace Go.Proofs.YtffckdfcmdmnoaaDoor.W
open Go Go.Sy

/-! ### instructions -/
structure Instr where
  op : Int
  a : Int
  deriving DecidableEq, Inhabited
def Instr.ok (i : Instr) : Prop := R64 i.op ∧ R64 i.a
def eInstr (i : Instr) : List PV := [i64 i.op, i64 i.a]
def pInstr (i : Instr) : PV := .agg (eInstr i)
def opValid (op : Int) : Bool := decide (1 ≤ op) && decide (op ≤ 25)
def operand (op : Int) : Int := if op = 1 then 1 else if op = 5 ∨ op = 6 then 2 else if op = 7 then 3 else if op = 20 ∨ op = 21 then 4 else if op = 22 then 5 else 0
end Go.Proofs.YtffckdfcmdmnoaaDoor.W
end
section
/- Plain: programs, worlds, and what they may be (chapters 1 to 4, 8, 9). -/
set_option linter.unusedVariables false
set_option linter.unusedSimpArgs false
set_option linter.unusedSectionVars false
namespace Go.Proofs.YtffckdfcmdmnoaaDoor.W
open Go Go.Sy

/-! ### words -/
structure Hd where
  args : Int
  code : List Instr
  deriving DecidableEq, Inhabited
structure Act where
  regs : List Int
  cap : Int
  timer : Int
  armed : Bool
  deriving DecidableEq, Inhabited
structure Nt where
  to_ : Int
  handler : Int
  args : List Int
  deriving DecidableEq, Inhabited
structure Pg where
  handlers : List Hd
  actors : List Act
  boot : List Nt
  fuel : Int
  deriving DecidableEq, Inhabited
structure Msg where
  id : ID
  note : Nt
  deriving DecidableEq, Inhabited
structure Lcl where
  regs : List Int
  armed : Bool
  down : Int
  sent : Int
  over : Int
  deriving DecidableEq, Inhabited
structure Bg where
  drop : Int
  dup : Int
  time : Int
  crash : Int
  deriving DecidableEq, Inhabited
structure Wd where
  actors : List Lcl
  mail : List Msg
  used : Bg
  deriving DecidableEq, Inhabited
def eHd (h : Hd) : List PV := [i64 h.args, sl 2 eInstr h.code]
def pHd (h : Hd) : PV := .agg (eHd h)
def eAct (a : Act) : List PV := [sl 1 eInt a.regs, i64 a.cap, i64 a.timer, bl a.armed]
def pAct (a : Act) : PV := .agg (eAct a)
def eNt (n : Nt) : List PV := [i64 n.to_, i64 n.handler, sl 1 eInt n.args]
def pNt (n : Nt) : PV := .agg (eNt n)
def ePg (p : Pg) : List PV := [sl 2 eHd p.handlers, sl 4 eAct p.actors, sl 3 eNt p.boot, i64 p.fuel]
def pPg (p : Pg) : PV := .agg (ePg p)
def eMsg (m : Msg) : List PV := [i64 m.id.from_, i64 m.id.n, i64 m.id.copy, i64 m.note.to_, i64 m.note.handler, sl 1 eInt m.note.args]
def pMsg (m : Msg) : PV := .agg (eMsg m)
def eLcl (l : Lcl) : List PV := [sl 1 eInt l.regs, bl l.armed, i64 l.down, i64 l.sent, i64 l.over]
def pLcl (l : Lcl) : PV := .agg (eLcl l)
def eWd (w : Wd) : List PV := [sl 5 eLcl w.actors, sl 6 eMsg w.mail, i64 w.used.drop, i64 w.used.dup, i64 w.used.time, i64 w.used.crash]
def pWd (w : Wd) : PV := .agg (eWd w)
def Hd.ok (h : Hd) : Prop := R64 h.args ∧ ∀ i ∈ h.code, i.ok
def Act.ok (a : Act) : Prop := (∀ n ∈ a.regs, R64 n) ∧ R64 a.cap ∧ R64 a.timer
def Nt.ok (n : Nt) : Prop := R64 n.to_ ∧ R64 n.handler ∧ ∀ k ∈ n.args, R64 k
def Pg.ok (p : Pg) : Prop := (∀ h ∈ p.handlers, h.ok) ∧ (∀ a ∈ p.actors, a.ok) ∧ (∀ n ∈ p.boot, n.ok) ∧ R64 p.fuel
def Msg.ok (m : Msg) : Prop := m.id.ok ∧ m.note.ok
def Lcl.ok (l : Lcl) : Prop := (∀ n ∈ l.regs, R64 n) ∧ R64 l.down ∧ R64 l.sent ∧ R64 l.over
def Bg.ok (b : Bg) : Prop := R64 b.drop ∧ R64 b.dup ∧ R64 b.time ∧ R64 b.crash
def Wd.ok (w : Wd) : Prop := (∀ l ∈ w.actors, l.ok) ∧ (∀ m ∈ w.mail, m.ok) ∧ w.used.ok

/-! ### instructions -/
def popsT : List Int := [0, 0, 1, 1, 2, 0, 1, 0, 0, 2, 2, 2, 2, 2, 1, 2, 2, 2, 2, 1, 0, 1, 1, 0, 0, 0]
def putsT : List Int := [0, 1, 0, 2, 2, 1, 0, 1, 1, 1, 1, 1, 1, 1, 1, 1, 1, 1, 1, 1, 0, 0, 0, 0, 0, 0]
def opPops (op : Int) : Int := if opValid op then popsT.getD op.toNat 0 else 0
def opPuts (op : Int) : Int := if opValid op then putsT.getD op.toNat 0 else 0

/-! ### what a program may be -/
def instrWhy (p : Pg) (h : Hd) (i : Instr) : Int :=
  if opValid i.op = false ∨ (operand i.op = 0 ∧ i.a ≠ 0) then 1
  else if operand i.op = 4 ∧ (i.a < 0 ∨ (h.code.length : Int) < i.a) then 4
  else if (operand i.op = 2 ∧ (i.a < 0 ∨ 8 ≤ i.a)) ∨ (operand i.op = 3 ∧ (i.a < 0 ∨ h.args ≤ i.a)) then 6
  else if operand i.op = 5 ∧ (i.a < 0 ∨ (p.handlers.length : Int) ≤ i.a) then 7
  else 0
/-- The first error of a list's; 0: none. -/
def firstWhy {α : Type} (f : α → Int) : List α → Int
  | [] => 0
  | x :: l => if f x ≠ 0 then f x else firstWhy f l
theorem firstWhy_zero {α : Type} {f : α → Int} : ∀ {l : List α}, firstWhy f l = 0 ↔ ∀ x ∈ l, f x = 0
  | [] => by simp [firstWhy]
  | x :: l => by
    unfold firstWhy
    by_cases h : f x = 0
    · rw [if_neg (by simp [h]), firstWhy_zero]; simp [h]
    · rw [if_pos h]
      exact ⟨fun e => absurd e h, fun e => absurd (e x (by simp)) h⟩
theorem firstWhy_at {α : Type} [Inhabited α] {f : α → Int} {l : List α} {i : Nat} (hi : i < l.length) : firstWhy f (l.drop i) = if f (l.getD i default) ≠ 0 then f (l.getD i default) else firstWhy f (l.drop (i + 1)) := by
  rw [List.drop_eq_getElem_cons hi]
  have : l.getD i default = l[i] := by simp [hi]
  rw [this]
  rfl
def handlerWhy (p : Pg) (h : Hd) : Int :=
  if h.args < 0 ∨ 4 < h.args then 1 else if 64 < h.code.length then 3 else firstWhy (instrWhy p h) h.code
def actorWhy (p : Pg) (a : Act) : Int :=
  if 8 < a.regs.length then 3
  else if a.cap < 0 ∨ 16 < a.cap then 1
  else if a.timer ≠ -1 ∧ (a.timer < 0 ∨ (p.handlers.length : Int) ≤ a.timer ∨ (p.handlers.getD a.timer.toNat default).args ≠ 0) then 7
  else if a.armed = true ∧ a.timer = -1 then 1
  else 0
def noteWhy (p : Pg) (n : Nt) : Int :=
  if n.to_ < 0 ∨ (p.actors.length : Int) ≤ n.to_ ∨ n.handler < 0 ∨ (p.handlers.length : Int) ≤ n.handler then 7
  else if (n.args.length : Int) ≠ (p.handlers.getD n.handler.toNat default).args then 1
  else 0
def progWhy (p : Pg) : Int :=
  if 16 < p.handlers.length ∨ 8 < p.actors.length ∨ 16 < p.boot.length then 3
  else if p.actors.length = 0 ∨ p.fuel < 1 ∨ 256 < p.fuel then 1
  else if firstWhy (handlerWhy p) p.handlers ≠ 0 then firstWhy (handlerWhy p) p.handlers
  else if firstWhy (actorWhy p) p.actors ≠ 0 then firstWhy (actorWhy p) p.actors
  else firstWhy (noteWhy p) p.boot
structure PgFit (p : Pg) : Prop where
  hs : p.handlers.length ≤ 16
  na : p.actors.length ≤ 8
  nb : p.boot.length ≤ 16
  na0 : 0 < p.actors.length
  f1 : 1 ≤ p.fuel
  f2 : p.fuel ≤ 256
  h : ∀ h ∈ p.handlers, handlerWhy p h = 0
  a : ∀ a ∈ p.actors, actorWhy p a = 0
  n : ∀ n ∈ p.boot, noteWhy p n = 0
theorem progWhy_zero {p : Pg} : progWhy p = 0 ↔ PgFit p := by
  unfold progWhy
  constructor
  · intro h
    split at h
    · cases h
    · split at h
      · cases h
      · split at h
        · rename_i h3; exact absurd h h3
        · split at h
          · rename_i h4; exact absurd h h4
          · rename_i h1 h2 h3 h4
            have h3 : firstWhy (handlerWhy p) p.handlers = 0 := by simpa using h3
            have h4 : firstWhy (actorWhy p) p.actors = 0 := by simpa using h4
            exact ⟨by omega, by omega, by omega, by omega, by omega, by omega, firstWhy_zero.1 h3, firstWhy_zero.1 h4, firstWhy_zero.1 h⟩
  · intro h
    have := h.hs; have := h.na; have := h.nb; have := h.na0; have := h.f1; have := h.f2
    rw [if_neg (by omega), if_neg (by omega), firstWhy_zero.2 h.h, firstWhy_zero.2 h.a, if_neg (by simp), if_neg (by simp), firstWhy_zero.2 h.n]
structure HdFit (p : Pg) (h : Hd) : Prop where
  a0 : 0 ≤ h.args
  a1 : h.args ≤ 4
  cl : h.code.length ≤ 64
  i : ∀ i ∈ h.code, instrWhy p h i = 0
theorem handlerWhy_zero {p : Pg} {h : Hd} : handlerWhy p h = 0 ↔ HdFit p h := by
  unfold handlerWhy
  constructor
  · intro e
    split at e
    · cases e
    · split at e
      · cases e
      · exact ⟨by omega, by omega, by omega, firstWhy_zero.1 e⟩
  · intro e
    have := e.a0; have := e.a1; have := e.cl
    rw [if_neg (by omega), if_neg (by omega), firstWhy_zero.2 e.i]
theorem instrWhy_zero {p : Pg} {h : Hd} {i : Instr} (e : instrWhy p h i = 0) : opValid i.op = true ∧ (i.op = 20 ∨ i.op = 21 → 0 ≤ i.a ∧ i.a ≤ h.code.length) ∧ (i.op = 5 ∨ i.op = 6 → 0 ≤ i.a ∧ i.a < 8) ∧ (i.op = 7 → 0 ≤ i.a ∧ i.a < h.args) ∧ (i.op = 22 → 0 ≤ i.a ∧ i.a < p.handlers.length) ∧ (operand i.op = 0 → i.a = 0) := by
  unfold instrWhy at e
  split at e
  · cases e
  split at e
  · cases e
  split at e
  · cases e
  split at e
  · cases e
  rename_i h1 h2 h3 h4
  refine ⟨by simpa using fun e => h1 (.inl e), fun ho => ?_, fun ho => ?_, fun ho => ?_, fun ho => ?_, fun ho => Decidable.byContradiction (fun e => h1 (.inr ⟨ho, e⟩))⟩
  · have : operand i.op = 4 := by rcases ho with ho | ho <;> rw [ho] <;> decide
    omega
  · have : operand i.op = 2 := by rcases ho with ho | ho <;> rw [ho] <;> decide
    omega
  · have : operand i.op = 3 := by rw [ho]; decide
    omega
  · have : operand i.op = 5 := by rw [ho]; decide
    omega

/-! ### the stack, ahead of running -/
def takesOf (p : Pg) (i : Instr) : Int := opPops i.op + (if i.op = 22 then (p.handlers.getD i.a.toNat default).args else 0)
def nextOf (at_ : Int) (i : Instr) : List Int := if i.op = 20 then [i.a] else if i.op = 21 then [i.a, at_ + 1] else if i.op = 25 then [] else [at_ + 1]
def pushTo (n : Int) : List Int → List Int → List Int → Option (List Int × List Int)
  | [], out, left => some (out, left)
  | k :: ks, out, left =>
    if out.getD k.toNat 0 = -1 then pushTo n ks (out.set k.toNat n) (left ++ [k])
    else if out.getD k.toNat 0 = n then pushTo n ks out left
    else none
def walkStep (p : Pg) (code : List Instr) (at_ : Int) (out left : List Int) : Option (List Int × List Int) :=
  if at_ = code.length then some (out, left)
  else
    let i := code.getD at_.toNat default
    let n := out.getD at_.toNat 0 - takesOf p i
    if n < 0 ∨ 8 < n + opPuts i.op then none else pushTo (n + opPuts i.op) (nextOf at_ i) out left
def walkRun (p : Pg) (code : List Instr) : Nat → List Int → List Int → Bool
  | 0, _, left => left.isEmpty
  | f + 1, out, left => match left with
    | [] => true
    | at_ :: l => match walkStep p code at_ out l with
      | none => false
      | some (o, l') => walkRun p code f o l'
def walkOk (p : Pg) (h : Hd) : Bool := walkRun p h.code (h.code.length + 1) ((List.replicate (h.code.length + 1) (-1)).set 0 0) [0]
def flowWhy (p : Pg) : Int := if progWhy p ≠ 0 then progWhy p else if p.handlers.all (walkOk p) then 0 else 5

/-! ### messages -/
def sortedMail : List Msg → Bool
  | [] => true
  | [_] => true
  | a :: b :: l => lessID a.id b.id && sortedMail (b :: l)
def findMail (id : ID) : List Msg → Nat → Int
  | [], _ => -1
  | m :: l, k => if m.id = id then (k : Int) else findMail id l (k + 1)
def toMail (l : List Msg) (who : Int) : Nat := l.countP (fun m => m.note.to_ = who)
def putAt (m : Msg) : List Msg → List Msg
  | [] => [m]
  | x :: l => if lessID x.id m.id then x :: putAt m l else m :: x :: l
/-- A message where it belongs. -/
def putMail (l : List Msg) (m : Msg) : Option (List Msg) := if l.any (fun x => x.id = m.id) then none else some (putAt m l)

/-! ### worlds -/
def addOver (l : Lcl) : Lcl := { l with over := l.over + 1 }
def postIn (p : Pg) (w : Wd) (m : Msg) : Wd :=
  let k := m.note.to_.toNat
  let miss : Wd := { w with actors := w.actors.set k (addOver (w.actors.getD k default)) }
  if (toMail w.mail m.note.to_ : Int) < (p.actors.getD k default).cap then (match putMail w.mail m with | some l => { w with mail := l } | none => miss) else miss
def giveFrom (p : Pg) (from_ : Int) (first : Int) : List Nt → Wd → Wd
  | [], w => w
  | n :: l, w => giveFrom p from_ (first + 1) l (if 0 ≤ n.to_ ∧ n.to_ < p.actors.length ∧ n.to_ < w.actors.length then postIn p w ⟨⟨from_, first, 0⟩, n⟩ else w)
def giveIn (p : Pg) (w : Wd) (from_ : Int) (notes : List Nt) : Wd := giveFrom p from_ (if 0 ≤ from_ then (w.actors.getD from_.toNat default).sent - notes.length else 0) notes w
def bg0 : Bg := ⟨0, 0, 0, 0⟩
def wd0 : Wd := ⟨[], [], bg0⟩
def startLcl (a : Act) : Lcl := ⟨a.regs, a.armed, 0, 0, 0⟩
def startOf (p : Pg) : Wd := giveIn p ⟨p.actors.map startLcl, [], bg0⟩ (-1) p.boot
def localFit (a : Act) (l : Lcl) : Bool := decide (l.regs.length = a.regs.length ∧ 0 ≤ l.down ∧ l.down ≤ 4 ∧ 0 ≤ l.sent ∧ 0 ≤ l.over ∧ l.sent ≤ 2199023255551 ∧ l.over ≤ 2199023255551 ∧ ¬(l.armed = true ∧ a.timer = -1))
def msgFit (p : Pg) (w : Wd) (m : Msg) : Bool :=
  if noteWhy p m.note ≠ 0 ∨ m.id.n < 0 ∨ m.id.copy < 0 ∨ w.used.dup < m.id.copy ∨ m.id.from_ < -1 ∨ (w.actors.length : Int) ≤ m.id.from_ then false
  else if m.id.from_ = -1 then decide (m.id.n < 16)
  else decide (m.id.n < (w.actors.getD m.id.from_.toNat default).sent)
def worldFit (p : Pg) (w : Wd) : Bool :=
  decide (w.actors.length = p.actors.length ∧ 0 ≤ w.used.drop ∧ 0 ≤ w.used.dup ∧ 0 ≤ w.used.time ∧ 0 ≤ w.used.crash) && sortedMail w.mail && (p.actors.zip w.actors).all (fun x => localFit x.1 x.2) && w.mail.all (msgFit p w)
def worldOk (p : Pg) (w : Wd) : Bool := decide (flowWhy p = 0) && worldFit p w
end Go.Proofs.YtffckdfcmdmnoaaDoor.W
end
