/- Pointers held against nil and against themselves; pointers as unsafe ones. -/
import Derived.Test.YtocfjbopkgmjkaaDoorY18
import Derived.Lib.Builder
import Derived.Laws.Externs
set_option linter.unusedVariables false
set_option linter.unusedSimpArgs false
set_option linter.unusedSectionVars false
namespace Go.Sy
open Go Go.RowKit
variable [Globs]
section
variable {P : Program} {T : TT} {E : Operand → PV} {st : St} {o : Oper} {Q : PV → St → Prop}
def isPtrD : TypeDesc → Bool
  | .pointer _ => true
  | _ => false
/-- Whether a value is the nil pointer, if it is a pointer. -/
def nilP : PV → Option Bool
  | .ptr _ _ _ => some false
  | .fptr _ _ _ _ _ => some false
  | .atom (.pointer none) => some true
  | _ => none
omit [Globs] in
theorem nilP_false {K : KH} {σ : Nat → Loc} {N : Nat} {p : PV} {v : Value} (h : nilP p = some false) (hv : VR K σ N p v) : ∃ a, v = .pointer (some a) := by
  cases hv with
  | ptr _ => exact ⟨_, rfl⟩
  | fptr _ _ _ _ _ _ => exact ⟨_, rfl⟩
  | atom v => unfold nilP at h; split at h <;> simp_all
  | _ => simp [nilP] at h
omit [Globs] in
theorem nilP_true {p : PV} (h : nilP p = some true) : p = .atom (.pointer none) := by
  unfold nilP at h
  split at h
  · simp at h
  · simp at h
  · rfl
  · cases h
theorem run_equal_ptr_nil (w : World) {t e : TypeId} (hu : P.underlying t = some (.pointer e)) (a : Addr) : (Op.equal t (.pointer (some a)) (.pointer none)).run P w = .ok false w := by
  rw [Op.equal, show Op.maxDepth = 9999 + 1 from rfl]; generalize 9999 = d; simp [Op.equalIn, run_underlying hu]
theorem run_equal_nil_nil (w : World) {t e : TypeId} (hu : P.underlying t = some (.pointer e)) : (Op.equal t (.pointer none) (.pointer none)).run P w = .ok true w := by
  rw [Op.equal, show Op.maxDepth = 9999 + 1 from rfl]; generalize 9999 = d; simp [Op.equalIn, run_underlying hu]
theorem run_equal_ptr_same (w : World) {t e : TypeId} {j : TypeInfo} (hu : P.underlying t = some (.pointer e)) (hi : P.info? e = some j) (a : Addr) : (Op.equal t (.pointer (some a)) (.pointer (some a))).run P w = .ok true w := by
  rw [Op.equal, show Op.maxDepth = 9999 + 1 from rfl]; generalize 9999 = d; simp [Op.equalIn, run_underlying hu, sizeOf, typeInfo, hi, run_sameAddr_same]
theorem run_eqGuard_ptr (op : BinOp) (t : TypeId) (x y : Operand) (a b : Option Addr) (w : World) : (eqGuard op t x y (.pointer a) (.pointer b)).run P w = .ok () w := by
  cases op <;> simp [eqGuard]
theorem binOp_eql_ptr (t : TypeId) (a b : Option Addr) : binOp .eql t (.pointer a) (.pointer b) = (do pure (.bool (← Op.equal t (.pointer a) (.pointer b)))) := rfl
theorem binOp_neq_ptr (t : TypeId) (a b : Option Addr) : binOp .neq t (.pointer a) (.pointer b) = (do pure (.bool (!(← Op.equal t (.pointer a) (.pointer b))))) := rfl
theorem G_ptrNil (hT : TOk P T) {op : BinOp} {t t2 e : TypeId} {ti : TI} {x y : Operand} {r b : Bool} (ho : o.op = .binOp op t x y t2) (ht : T t = some ti) (hd : ptrElem ti.d = some e) (hx : nilP (E x) = some b) (hy : nilP (E y) = some true) (hop : xNilOp op b = some r) (h : Q (.atom (.bool r)) st) : OpGoes P E st o Q := by
  refine OpGoes.still (fun K σ w ρ hR hE => ?_) h
  have vx := hE x; have vy := hE y
  rw [nilP_true hy] at vy
  have hu := (hT t ti ht).1
  rw [ptrElem_spec hd] at hu
  have vy := vy.atom_inv
  refine ⟨.bool r, ?_, .atom _⟩
  cases b with
  | false =>
    obtain ⟨a, ha⟩ := nilP_false hx vx
    simp only [execOp, ho, ha, vy, Sem.run_bind, run_eqGuard_ptr, Result.andThen_ok]
    cases op <;> simp only [xNilOp, Option.some.injEq, reduceCtorEq] at hop <;> subst hop
    · simp only [binOp_eql_ptr, Sem.run_bind, run_equal_ptr_nil w hu, Result.andThen_ok, Sem.run_pure]
    · simp only [binOp_neq_ptr, Sem.run_bind, run_equal_ptr_nil w hu, Result.andThen_ok, Sem.run_pure]
  | true =>
    rw [nilP_true hx] at vx
    simp only [execOp, ho, vx.atom_inv, vy, Sem.run_bind, run_eqGuard_ptr, Result.andThen_ok]
    cases op <;> simp only [xNilOp, Option.some.injEq, reduceCtorEq] at hop <;> subst hop
    · simp only [binOp_eql_ptr, Sem.run_bind, run_equal_nil_nil w hu, Result.andThen_ok, Sem.run_pure]
    · simp only [binOp_neq_ptr, Sem.run_bind, run_equal_nil_nil w hu, Result.andThen_ok, Sem.run_pure]
/-- A pointer and itself. -/
theorem G_ptrSame (hT : TOk P T) {op : BinOp} {t t2 e : TypeId} {ti te : TI} {x y : Operand} {i k off : Nat} {r : Bool} (ho : o.op = .binOp op t x y t2) (ht : T t = some ti) (hd : ptrElem ti.d = some e) (he : T e = some te) (hx : ptrOf (E x) = some (i, k, off)) (hy : ptrOf (E y) = some (i, k, off)) (hop : xNilOp op true = some r) (h : Q (.atom (.bool r)) st) : OpGoes P E st o Q := by
  refine OpGoes.still (fun K σ w ρ hR hE => ?_) h
  have vx := hE x; have vy := hE y
  rw [ptrOf_spec hx] at vx
  rw [ptrOf_spec hy] at vy
  have hu := (hT t ti ht).1
  rw [ptrElem_spec hd] at hu
  obtain ⟨_, inf, hi, _⟩ := hT e te he
  generalize hg : ρ x = g at vx
  generalize hg' : ρ y = g' at vy
  cases vx with
  | ptr hi1 =>
    cases vy with
    | ptr hi2 =>
      refine ⟨.bool r, ?_, .atom _⟩
      simp only [execOp, ho, hg, hg', Sem.run_bind, run_eqGuard_ptr, Result.andThen_ok]
      cases op <;> simp only [xNilOp, Option.some.injEq, reduceCtorEq] at hop <;> subst hop
      · simp only [binOp_eql_ptr, Sem.run_bind, run_equal_ptr_same w hu hi, Result.andThen_ok, Sem.run_pure]
      · simp only [binOp_neq_ptr, Sem.run_bind, run_equal_ptr_same w hu hi, Result.andThen_ok, Sem.run_pure]
def isUnD : TypeDesc → Bool
  | .unsafePointer => true
  | _ => false
omit [Globs] in
theorem isUnD_spec {d : TypeDesc} (h : isUnD d = true) : d = .unsafePointer := by cases d <;> simp [isUnD] at h; rfl
/-- A pointer to a variable of one's own as an unsafe one. -/
theorem G_toUn (hT : TOk P T) {src dst e : TypeId} {ts td te : TI} {x : Operand} {i : Nat} {B : Blk} (ho : o.op = .convert src dst x) (hs : T src = some ts) (hse : ptrElem ts.d = some e) (he : T e = some te) (hnz : Nat.blt 0 te.size = true) (hd : T dst = some td) (hdu : isUnD td.d = true)
    (hx : ptrOf (E x) = some (i, 0, 0)) (hB : st.get i = some B) (hc : (bif Nat.blt 0 B.n then Nat.blt 0 B.sz else false) = true) (h : Q (.ptr i 0 0) st) : OpGoes P E st o Q := by
  refine OpGoes.still (fun K σ w ρ hR hE => ?_) h
  have vx := hE x
  rw [ptrOf_spec hx] at vx
  have hus := (hT src ts hs).1
  rw [ptrElem_spec hse] at hus
  have hud := (hT dst td hd).1
  rw [isUnD_spec hdu] at hud
  obtain ⟨_, inf, hi, hsz, _⟩ := hT e te he
  rw [Nat.blt_eq] at hnz
  cases h1 : Nat.blt 0 B.n <;> simp only [h1, cond_true, cond_false, reduceCtorEq] at hc
  rw [Nat.blt_eq] at h1 hc
  generalize hg : ρ x = g at vx
  cases vx with
  | ptr hi1 =>
    rcases hR.own i B hB with ⟨hf, hn0⟩ | ⟨hr, cur, f1, f2, f3, f4, f5⟩
    · omega
    · have hh := f4.1
      have hpos : 0 < B.n * B.sz := Nat.mul_pos h1 hc
      refine ⟨_, ?_, VR.ptr hi1⟩
      have := Lib.run_to_unsafe (P := P) w ⟨(σ i).blk, (σ i).off + 0 * (σ i).sz + 0, none⟩ hus hud hi (by rw [hsz]; omega) (e := B.e) (cells := cur.size) (by simp [World.shape?, f1]) (by simp; omega)
      simp only [execOp, ho, hg, Sem.run_bind, this, Result.andThen_ok, Sem.run_pure]
/-- And back. -/
theorem G_fromUn (hT : TOk P T) {src dst e : TypeId} {ts td te : TI} {x : Operand} {i : Nat} {B : Blk} (ho : o.op = .convert src dst x) (hs : T src = some ts) (hsu : isUnD ts.d = true) (hd : T dst = some td) (hde : ptrElem td.d = some e) (he : T e = some te)
    (hx : ptrOf (E x) = some (i, 0, 0)) (hB : st.get i = some B) (hc : (bif Nat.blt 0 B.n then bif Nat.blt 0 te.size then bif Nat.beq B.sz te.size then Nat.beq B.e e else false else false else false) = true) (h : Q (.ptr i 0 0) st) : OpGoes P E st o Q := by
  refine OpGoes.still (fun K σ w ρ hR hE => ?_) h
  have vx := hE x
  rw [ptrOf_spec hx] at vx
  have hus := (hT src ts hs).1
  rw [isUnD_spec hsu] at hus
  have hud := (hT dst td hd).1
  rw [ptrElem_spec hde] at hud
  obtain ⟨_, inf, hi, hsz, _⟩ := hT e te he
  cases h1 : Nat.blt 0 B.n <;> simp only [h1, cond_true, cond_false, reduceCtorEq] at hc
  cases h2 : Nat.blt 0 te.size <;> simp only [h2, cond_true, cond_false, reduceCtorEq] at hc
  cases h3 : Nat.beq B.sz te.size <;> simp only [h3, cond_true, cond_false, reduceCtorEq] at hc
  rw [Nat.blt_eq] at h1 h2
  have h3 := Nat.eq_of_beq_eq_true h3
  have h4 := Nat.eq_of_beq_eq_true hc
  have hco : P.cellsOf e = te.size := by simp [Program.cellsOf, hi, hsz]
  generalize hg : ρ x = g at vx
  cases vx with
  | ptr hi1 =>
    rcases hR.own i B hB with ⟨hf, hn0⟩ | ⟨hr, cur, f1, f2, f3, f4, f5⟩
    · omega
    · have hh := f4.1
      have hal := (σ i).al
      rw [f3, h3] at hal
      have hlies : liesAt P P.depth B.e (cur.size / P.cellsOf B.e) ((σ i).off + 0 * (σ i).sz + 0) e 1 = true := by
        have hdp : P.depth = (2 * (P.types.size + Made.depth) + 1) + 1 := rfl
        rw [h4, hco, hdp]
        simp only [liesAt, Bool.or_eq_true]
        left
        rw [hdp]
        have hq : (σ i).off / te.size + 1 ≤ cur.size / te.size := by
          have e1 : (σ i).off = te.size * ((σ i).off / te.size) := by have := Nat.div_add_mod (σ i).off te.size; rw [hal] at this; omega
          have e2 : te.size * ((σ i).off / te.size + 1) ≤ cur.size := by
            rw [Nat.mul_add, ← e1, Nat.mul_one]
            have : 1 * B.sz ≤ B.n * B.sz := Nat.mul_le_mul_right _ h1
            rw [h3] at this hh
            omega
          exact (Nat.le_div_iff_mul_le h2).2 (by rw [Nat.mul_comm]; exact e2)
        simp only [rowAt, hco, sameLayout]
        simp [hal, hq, show te.size ≠ 0 by omega]
      refine ⟨_, ?_, VR.ptr hi1⟩
      have := Lib.run_from_unsafe (P := P) w ⟨(σ i).blk, (σ i).off + 0 * (σ i).sz + 0, none⟩ hus hud hi (e := B.e) (cells := cur.size) (by simp [World.shape?, f1]) hlies
      simp only [execOp, ho, hg, Sem.run_bind, this, Result.andThen_ok, Sem.run_pure]
/-- A call of internal/abi.NoEscape. -/
theorem G_noEsc {c x : Operand} {ats : Array TypeId} {g : FuncId} {fn : Func} {pv : PV} (hf : P.funcs[g]? = some fn) (hname : (fn.name == "runtime.NumGoroutine") = false) (hb : fn.body.isNone = true) (hn : Extern.findNext fn = none) (he : Extern.find fn = some Extern.AbiNoEscape.same)
    (ho : o.op = .call { callee := .value c, args := #[x], argTypes := ats }) (hc : funcOf (E c) = some (g, [])) (hx : strict (E x) = some pv) (h : Q pv st) : OpGoes P E st o Q := by
  refine OpGoes.still (fun K σ w ρ hR hE => ?_) h
  have vx := hE x
  rw [strict_spec hx] at vx
  have vc := hE c
  rw [funcOf_spec hc] at vc
  generalize hg : ρ c = u at vc
  cases vc with
  | func hl h =>
    rename_i vs
    have hvs : vs = #[] := by apply Array.eq_empty_of_size_eq_zero; simpa using hl
    subst hvs
    refine ⟨ρ x, ?_, vx⟩
    simp [execOp, ho, resolve, hg, Deferred.ofValue, invoke, run_callFunc_extern hf hname hb hn he, Lib.run_noEscape]
/-- unsafe.SliceData of nil, unsafe.String of nothing. -/
theorem G_uDataN {t : TypeId} {x : Operand} (ho : o.op = .call { callee := .builtin .unsafeSliceData, args := #[x], argTypes := #[t] }) (hx : isNilS (E x) = true) (h : Q (.atom (.pointer none)) st) : OpGoes P E st o Q := by
  refine OpGoes.still (fun K σ w ρ hR hE => ?_) h
  have vx := hE x
  rw [isNilS_spec hx] at vx
  refine ⟨_, ?_, .atom _⟩
  simp only [execOp, ho, resolve, invoke, builtin, Sem.run_bind, Sem.run_pure, Result.andThen_ok, List.map_toArray, List.map_cons, List.map_nil, vx.atom_inv]
  rw [Lib.run_unsafeSliceData_nil]
  rfl
theorem G_uStr0 {pt it : TypeId} {x y : Operand} (ho : o.op = .call { callee := .builtin .unsafeString, args := #[x, y], argTypes := #[pt, it] }) (hx : nilP (E x) = some true) (hy : intOf' (E y) = some (.i64, 0)) (h : Q (.atom (.string .empty)) st) : OpGoes P E st o Q := by
  refine OpGoes.still (fun K σ w ρ hR hE => ?_) h
  have vx := hE x; have vy := hE y
  rw [nilP_true hx] at vx
  rw [intOf'_spec hy] at vy
  refine ⟨_, ?_, .atom _⟩
  simp only [execOp, ho, resolve, invoke, builtin, Sem.run_bind, Sem.run_pure, Result.andThen_ok, List.map_toArray, List.map_cons, List.map_nil, vx.atom_inv, vy.atom_inv]
  rw [Lib.run_unsafeString_none]
  rfl
end
end Go.Sy
