/- Texts merged: Y19, Y20, Y21. -/
import Derived.Test.YtffckdfcmdmnoaaDoorM13
import Derived.Lib.Builder
import Derived.Laws.Externs
section
/- Pointers held against nil and against themselves; pointers as unsafe ones. -/
set_option linter.unusedVariables false
set_option linter.unusedSimpArgs false
set_option linter.unusedSectionVars false
namespace Go.Sy
open Go Go.RowKit
variable [Globs]
section
variable {P : Program} {T : TT} {E : Operand → PV} {st : St} {o : Oper} {Q : PV → St → Prop}
/-- Whether a value is the nil pointer, if it is a pointer. -/
def nilP : PV → Option Bool
  | .ptr _ _ _ => some false
  | .fptr _ _ _ _ _ => some false
  | .atom (.pointer none) => some true
  | _ => none
omit [Globs] in
theorem nilP_false {K : KH} {σ : Nat → Loc} {N : Nat} {p : PV} {v : Value} (h : nilP p = some false) (hv : VR K σ N p v) : ∃ a, v = .pointer (some a) := by
  cases hv with
  | ptr _ => exact ⟨_, rfl⟩
  | fptr _ _ _ _ _ _ => exact ⟨_, rfl⟩
  | atom v => unfold nilP at h; split at h <;> simp_all
  | _ => simp [nilP] at h
omit [Globs] in
theorem nilP_true {p : PV} (h : nilP p = some true) : p = .atom (.pointer none) := by
  unfold nilP at h
  split at h
  · simp at h
  · simp at h
  · rfl
  · cases h
theorem run_equal_ptr_nil (w : World) {t e : TypeId} (hu : P.underlying t = some (.pointer e)) (a : Addr) : (Op.equal t (.pointer (some a)) (.pointer none)).run P w = .ok false w := by
  rw [Op.equal, show Op.maxDepth = 9999 + 1 from rfl]; generalize 9999 = d; simp [Op.equalIn, run_underlying hu]
theorem run_equal_nil_nil (w : World) {t e : TypeId} (hu : P.underlying t = some (.pointer e)) : (Op.equal t (.pointer none) (.pointer none)).run P w = .ok true w := by
  rw [Op.equal, show Op.maxDepth = 9999 + 1 from rfl]; generalize 9999 = d; simp [Op.equalIn, run_underlying hu]
theorem run_equal_ptr_same (w : World) {t e : TypeId} {j : TypeInfo} (hu : P.underlying t = some (.pointer e)) (hi : P.info? e = some j) (a : Addr) : (Op.equal t (.pointer (some a)) (.pointer (some a))).run P w = .ok true w := by
  rw [Op.equal, show Op.maxDepth = 9999 + 1 from rfl]; generalize 9999 = d; simp [Op.equalIn, run_underlying hu, sizeOf, typeInfo, hi, run_sameAddr_same]
theorem run_eqGuard_ptr (op : BinOp) (t : TypeId) (x y : Operand) (a b : Option Addr) (w : World) : (eqGuard op t x y (.pointer a) (.pointer b)).run P w = .ok () w := by
  cases op <;> simp [eqGuard]
theorem binOp_eql_ptr (t : TypeId) (a b : Option Addr) : binOp .eql t (.pointer a) (.pointer b) = (do pure (.bool (← Op.equal t (.pointer a) (.pointer b)))) := rfl
theorem binOp_neq_ptr (t : TypeId) (a b : Option Addr) : binOp .neq t (.pointer a) (.pointer b) = (do pure (.bool (!(← Op.equal t (.pointer a) (.pointer b))))) := rfl
theorem G_ptrNil (hT : TOk P T) {op : BinOp} {t t2 e : TypeId} {ti : TI} {x y : Operand} {r b : Bool} (ho : o.op = .binOp op t x y t2) (ht : T t = some ti) (hd : ptrElem ti.d = some e) (hx : nilP (E x) = some b) (hy : nilP (E y) = some true) (hop : xNilOp op b = some r) (h : Q (.atom (.bool r)) st) : OpGoes P E st o Q := by
  refine OpGoes.still (fun K σ w ρ hR hE => ?_) h
  have vx := hE x; have vy := hE y
  rw [nilP_true hy] at vy
  have hu := (hT t ti ht).1
  rw [ptrElem_spec hd] at hu
  have vy := vy.atom_inv
  refine ⟨.bool r, ?_, .atom _⟩
  cases b with
  | false =>
    obtain ⟨a, ha⟩ := nilP_false hx vx
    simp only [execOp, ho, ha, vy, Sem.run_bind, run_eqGuard_ptr, Result.andThen_ok]
    cases op <;> simp only [xNilOp, Option.some.injEq, reduceCtorEq] at hop <;> subst hop
    · simp only [binOp_eql_ptr, Sem.run_bind, run_equal_ptr_nil w hu, Result.andThen_ok, Sem.run_pure]
    · simp only [binOp_neq_ptr, Sem.run_bind, run_equal_ptr_nil w hu, Result.andThen_ok, Sem.run_pure]
  | true =>
    rw [nilP_true hx] at vx
    simp only [execOp, ho, vx.atom_inv, vy, Sem.run_bind, run_eqGuard_ptr, Result.andThen_ok]
    cases op <;> simp only [xNilOp, Option.some.injEq, reduceCtorEq] at hop <;> subst hop
    · simp only [binOp_eql_ptr, Sem.run_bind, run_equal_nil_nil w hu, Result.andThen_ok, Sem.run_pure]
    · simp only [binOp_neq_ptr, Sem.run_bind, run_equal_nil_nil w hu, Result.andThen_ok, Sem.run_pure]
/-- A pointer and itself. -/
theorem G_ptrSame (hT : TOk P T) {op : BinOp} {t t2 e : TypeId} {ti te : TI} {x y : Operand} {i k off : Nat} {r : Bool} (ho : o.op = .binOp op t x y t2) (ht : T t = some ti) (hd : ptrElem ti.d = some e) (he : T e = some te) (hx : ptrOf (E x) = some (i, k, off)) (hy : ptrOf (E y) = some (i, k, off)) (hop : xNilOp op true = some r) (h : Q (.atom (.bool r)) st) : OpGoes P E st o Q := by
  refine OpGoes.still (fun K σ w ρ hR hE => ?_) h
  have vx := hE x; have vy := hE y
  rw [ptrOf_spec hx] at vx
  rw [ptrOf_spec hy] at vy
  have hu := (hT t ti ht).1
  rw [ptrElem_spec hd] at hu
  obtain ⟨_, inf, hi, _⟩ := hT e te he
  generalize hg : ρ x = g at vx
  generalize hg' : ρ y = g' at vy
  cases vx with
  | ptr hi1 =>
    cases vy with
    | ptr hi2 =>
      refine ⟨.bool r, ?_, .atom _⟩
      simp only [execOp, ho, hg, hg', Sem.run_bind, run_eqGuard_ptr, Result.andThen_ok]
      cases op <;> simp only [xNilOp, Option.some.injEq, reduceCtorEq] at hop <;> subst hop
      · simp only [binOp_eql_ptr, Sem.run_bind, run_equal_ptr_same w hu hi, Result.andThen_ok, Sem.run_pure]
      · simp only [binOp_neq_ptr, Sem.run_bind, run_equal_ptr_same w hu hi, Result.andThen_ok, Sem.run_pure]
def isUnD : TypeDesc → Bool
  | .unsafePointer => true
  | _ => false
omit [Globs] in
theorem isUnD_spec {d : TypeDesc} (h : isUnD d = true) : d = .unsafePointer := by cases d <;> simp [isUnD] at h; rfl
/-- A pointer to a variable of one's own as an unsafe one. -/
theorem G_toUn (hT : TOk P T) {src dst e : TypeId} {ts td te : TI} {x : Operand} {i : Nat} {B : Blk} (ho : o.op = .convert src dst x) (hs : T src = some ts) (hse : ptrElem ts.d = some e) (he : T e = some te) (hnz : Nat.blt 0 te.size = true) (hd : T dst = some td) (hdu : isUnD td.d = true)
    (hx : ptrOf (E x) = some (i, 0, 0)) (hB : st.get i = some B) (hc : (bif Nat.blt 0 B.n then Nat.blt 0 B.sz else false) = true) (h : Q (.ptr i 0 0) st) : OpGoes P E st o Q := by
  refine OpGoes.still (fun K σ w ρ hR hE => ?_) h
  have vx := hE x
  rw [ptrOf_spec hx] at vx
  have hus := (hT src ts hs).1
  rw [ptrElem_spec hse] at hus
  have hud := (hT dst td hd).1
  rw [isUnD_spec hdu] at hud
  obtain ⟨_, inf, hi, hsz, _⟩ := hT e te he
  rw [Nat.blt_eq] at hnz
  cases h1 : Nat.blt 0 B.n <;> simp only [h1, cond_true, cond_false, reduceCtorEq] at hc
  rw [Nat.blt_eq] at h1 hc
  generalize hg : ρ x = g at vx
  cases vx with
  | ptr hi1 =>
    rcases hR.own i B hB with ⟨hf, hn0⟩ | ⟨hr, cur, f1, f2, f3, f4, f5⟩
    · omega
    · have hh := f4.1
      have hpos : 0 < B.n * B.sz := Nat.mul_pos h1 hc
      refine ⟨_, ?_, VR.ptr hi1⟩
      have := Lib.run_to_unsafe (P := P) w ⟨(σ i).blk, (σ i).off + 0 * (σ i).sz + 0, none⟩ hus hud hi (by rw [hsz]; omega) (e := B.e) (cells := cur.size) (by simp [World.shape?, f1]) (by simp; omega)
      simp only [execOp, ho, hg, Sem.run_bind, this, Result.andThen_ok, Sem.run_pure]
/-- And back. -/
theorem G_fromUn (hT : TOk P T) {src dst e : TypeId} {ts td te : TI} {x : Operand} {i : Nat} {B : Blk} (ho : o.op = .convert src dst x) (hs : T src = some ts) (hsu : isUnD ts.d = true) (hd : T dst = some td) (hde : ptrElem td.d = some e) (he : T e = some te)
    (hx : ptrOf (E x) = some (i, 0, 0)) (hB : st.get i = some B) (hc : (bif Nat.blt 0 B.n then bif Nat.blt 0 te.size then bif Nat.beq B.sz te.size then Nat.beq B.e e else false else false else false) = true) (h : Q (.ptr i 0 0) st) : OpGoes P E st o Q := by
  refine OpGoes.still (fun K σ w ρ hR hE => ?_) h
  have vx := hE x
  rw [ptrOf_spec hx] at vx
  have hus := (hT src ts hs).1
  rw [isUnD_spec hsu] at hus
  have hud := (hT dst td hd).1
  rw [ptrElem_spec hde] at hud
  obtain ⟨_, inf, hi, hsz, _⟩ := hT e te he
  cases h1 : Nat.blt 0 B.n <;> simp only [h1, cond_true, cond_false, reduceCtorEq] at hc
  cases h2 : Nat.blt 0 te.size <;> simp only [h2, cond_true, cond_false, reduceCtorEq] at hc
  cases h3 : Nat.beq B.sz te.size <;> simp only [h3, cond_true, cond_false, reduceCtorEq] at hc
  rw [Nat.blt_eq] at h1 h2
  have h3 := Nat.eq_of_beq_eq_true h3
  have h4 := Nat.eq_of_beq_eq_true hc
  have hco : P.cellsOf e = te.size := by simp [Program.cellsOf, hi, hsz]
  generalize hg : ρ x = g at vx
  cases vx with
  | ptr hi1 =>
    rcases hR.own i B hB with ⟨hf, hn0⟩ | ⟨hr, cur, f1, f2, f3, f4, f5⟩
    · omega
    · have hh := f4.1
      have hal := (σ i).al
      rw [f3, h3] at hal
      have hlies : liesAt P P.depth B.e (cur.size / P.cellsOf B.e) ((σ i).off + 0 * (σ i).sz + 0) e 1 = true := by
        have hdp : P.depth = (2 * (P.types.size + Made.depth) + 1) + 1 := rfl
        rw [h4, hco, hdp]
        simp only [liesAt, Bool.or_eq_true]
        left
        rw [hdp]
        have hq : (σ i).off / te.size + 1 ≤ cur.size / te.size := by
          have e1 : (σ i).off = te.size * ((σ i).off / te.size) := by have := Nat.div_add_mod (σ i).off te.size; rw [hal] at this; omega
          have e2 : te.size * ((σ i).off / te.size + 1) ≤ cur.size := by
            rw [Nat.mul_add, ← e1, Nat.mul_one]
            have : 1 * B.sz ≤ B.n * B.sz := Nat.mul_le_mul_right _ h1
            rw [h3] at this hh
            omega
          exact (Nat.le_div_iff_mul_le h2).2 (by rw [Nat.mul_comm]; exact e2)
        simp only [rowAt, hco, sameLayout]
        simp [hal, hq, show te.size ≠ 0 by omega]
      refine ⟨_, ?_, VR.ptr hi1⟩
      have := Lib.run_from_unsafe (P := P) w ⟨(σ i).blk, (σ i).off + 0 * (σ i).sz + 0, none⟩ hus hud hi (e := B.e) (cells := cur.size) (by simp [World.shape?, f1]) hlies
      simp only [execOp, ho, hg, Sem.run_bind, this, Result.andThen_ok, Sem.run_pure]
/-- A call of internal/abi.NoEscape. -/
theorem G_noEsc {c x : Operand} {ats : Array TypeId} {g : FuncId} {fn : Func} {pv : PV} (hf : P.funcs[g]? = some fn) (hname : (fn.name == "runtime.NumGoroutine") = false) (hb : fn.body.isNone = true) (hn : Extern.findNext fn = none) (he : Extern.find fn = some Extern.AbiNoEscape.same)
    (ho : o.op = .call { callee := .value c, args := #[x], argTypes := ats }) (hc : funcOf (E c) = some (g, [])) (hx : strict (E x) = some pv) (h : Q pv st) : OpGoes P E st o Q := by
  refine OpGoes.still (fun K σ w ρ hR hE => ?_) h
  have vx := hE x
  rw [strict_spec hx] at vx
  have vc := hE c
  rw [funcOf_spec hc] at vc
  generalize hg : ρ c = u at vc
  cases vc with
  | func hl h =>
    rename_i vs
    have hvs : vs = #[] := by apply Array.eq_empty_of_size_eq_zero; simpa using hl
    subst hvs
    refine ⟨ρ x, ?_, vx⟩
    simp [execOp, ho, resolve, hg, Deferred.ofValue, invoke, run_callFunc_extern hf hname hb hn he, Lib.run_noEscape]
end
end Go.Sy
end
section
/- Regions that draw their order: what comes late by way of others. -/
set_option linter.unusedVariables false
set_option linter.unusedSimpArgs false
set_option linter.unusedSectionVars false
namespace Go.Sy
open Go Go.RowKit
section
variable [Globs]
variable {P : Program} {md : Region.Mode} {ops : Array Oper} {nt : Nat} {st : St}
theorem anyQ_firstL {lo : List Nat} {R : Env → St → Prop} {i : Nat} {oi : Oper} {pv : PV} (hi : ops[i]? = some oi) (hlo : lmem i lo = false) (L : Nat → Bool) (hLaf : ∀ j oj, L j = true → ops[j]? = some oj → ∃ e ∈ oj.after, Region.binds md e = true ∧ (e.on = i ∨ L e.on = true)) :
    ∀ (fuel : Nat) (listed : Array Bool) (env : Env),
      (∀ j, L j = true → listed.getD j false = false) → (∀ j oj, ops[j]? = some oj → j ≠ i → listed.getD j true = false → L j = false → oi.apart ops oj = true ∧ lmem j lo = false) →
      i ∈ Region.ready md ops listed → Leaves P ops st nt oi pv env →
      anyQ P md ops lo nt R fuel (listed.setIfInBounds i true) (env.put oi.dst pv) st → anyQ P md ops lo nt R (fuel + 1) listed env st := by
  have own : ∀ {env : Env} {R' : Env → St → Prop}, Leaves P ops st nt oi pv env → R' (env.put oi.dst pv) st → gOp P ops lo nt i oi R' env st := by
    intro env R' hy hR
    unfold gOp
    simp only [hlo]
    exact ⟨pv, hy, hR⟩
  intro fuel
  induction fuel with
  | zero =>
    intro listed env _ _ hr hy H
    refine ⟨fun h => (by rw [h] at hr; cases hr), fun j hj => ?_⟩
    by_cases hji : j = i
    · subst hji; simp only [hi]; exact own hy H
    · have := ready_mono hj hji
      rw [H.1] at this
      cases this
  | succ fuel ih =>
    intro listed env hun hfree hr hy H
    refine ⟨fun h => (by rw [h] at hr; cases hr), fun j hj => ?_⟩
    by_cases hji : j = i
    · subst hji; simp only [hi]; exact own hy H
    · have h1 := H.2 j (ready_mono hj hji)
      obtain ⟨hjun, oj, hoj, hall⟩ := mem_ready.1 hj
      simp only [hoj] at h1 ⊢
      have hil : listed.getD i false = false := by
        have h0 := (mem_ready.1 hr).1
        rcases Nat.lt_or_ge i listed.size with h' | h'
        · simp [h'] at h0 ⊢; exact h0
        · simp [Array.getElem?_eq_none h']
      have hjL : L j = false := by
        cases hL : L j with
        | false => rfl
        | true =>
          obtain ⟨e, he, hb, hor⟩ := hLaf j oj hL hoj
          have h1 := hall e he hb
          rcases hor with h | h
          · rw [h, hil] at h1; cases h1
          · rw [hun _ h] at h1; cases h1
      obtain ⟨hap, hjlo⟩ := hfree j oj hoj hji hjun hjL
      have h2 := gOp_put hjlo hap hy h1
      have hun' : ∀ k, L k = true → (listed.setIfInBounds j true).getD k false = false := fun k hk => by
        have hjk : j ≠ k := fun e => by rw [e, hk] at hjL; cases hjL
        rw [getD_set_ne false hjk]; exact hun k hk
      have hfree' : ∀ k ok, ops[k]? = some ok → k ≠ i → (listed.setIfInBounds j true).getD k true = false → L k = false → oi.apart ops ok = true ∧ lmem k lo = false := fun k ok hk hki hu hno => by
        refine hfree k ok hk hki ?_ hno
        by_cases hjk : j = k
        · subst hjk; exact hjun
        · rw [getD_set_ne true hjk] at hu; exact hu
      refine gOp_mono (fun e s h3 => ?_) h2
      obtain ⟨hs, h4, h5⟩ := h3
      rw [hs]
      refine ih (listed.setIfInBounds j true) e hun' hfree' (ready_mono hr (Ne.symm hji)) h4 ?_
      rw [Array.setIfInBounds_comm _ _ hji]
      exact h5


end
/-- The places that come behind i, by themselves or by way of others. -/
def lateL (md : Region.Mode) (i : Nat) : Nat → List Oper → List Nat → List Nat
  | _, [], acc => acc
  | j, o :: l, acc => lateL md i (j + 1) l (bif o.after.any (fun e => Region.binds md e && (e.on == i || lmem e.on acc)) then j :: acc else acc)
variable [Globs] in
theorem lateL_spec {md : Region.Mode} {i : Nat} : ∀ (l : List Oper) (j : Nat) (acc : List Nat) (k : Nat), k ∈ lateL md i j l acc → k ∈ acc ∨ ∃ t o, l[t]? = some o ∧ k = j + t ∧ ∃ e ∈ o.after, Region.binds md e = true ∧ (e.on = i ∨ e.on ∈ lateL md i j l acc)
  | [], j, acc, k, h => .inl h
  | o :: l, j, acc, k, h => by
    unfold lateL at h ⊢
    have mono : ∀ (l : List Oper) (j : Nat) (acc : List Nat) (x : Nat), x ∈ acc → x ∈ lateL md i j l acc := by
      intro l
      induction l with
      | nil => intro j acc x hx; exact hx
      | cons o l ih =>
        intro j acc x hx
        unfold lateL
        apply ih
        cases o.after.any (fun e => Region.binds md e && (e.on == i || lmem e.on acc)) with
        | true => simp [hx]
        | false => exact hx
    rcases lateL_spec l (j + 1) _ k h with h1 | ⟨t, o', h1, h2, h3⟩
    · cases hb : o.after.any (fun e => Region.binds md e && (e.on == i || lmem e.on acc)) with
      | false => rw [hb] at h1; exact .inl h1
      | true =>
        rw [hb] at h1
        simp only [cond_true, List.mem_cons] at h1
        rcases h1 with rfl | h1
        · refine .inr ⟨0, o, rfl, rfl, ?_⟩
          rw [Array.any_eq_true] at hb
          obtain ⟨m, hm, hb'⟩ := hb
          simp only [Bool.and_eq_true, Bool.or_eq_true, beq_iff_eq] at hb'
          refine ⟨_, Array.getElem_mem hm, hb'.1, hb'.2.imp id fun h => mono _ _ _ _ ?_⟩
          exact List.mem_cons_of_mem _ ((lmem_eq _ _).1 h)
        · exact .inl h1
    · exact .inr ⟨t + 1, o', by simpa using h1, by omega, h3⟩
section
variable [Globs]
variable {P : Program} {md : Region.Mode} {ops : Array Oper} {nt : Nat} {st : St}
def freeT (md : Region.Mode) (ops : Array Oper) (lo : List Nat) (listed : Array Bool) (i : Nat) : Bool :=
  match ops[i]? with
  | none => false
  | some oi => (lateL md i 0 ops.toList []).all (fun j => !listed.getD j false) && (List.range ops.size).all fun j => j == i || listed.getD j true || lmem j (lateL md i 0 ops.toList []) || match ops[j]? with
      | some oj => oi.apart ops oj && !lmem j lo
      | none => true
def lexT (md : Region.Mode) (ops : Array Oper) (lo : List Nat) : Nat → Nat → Array Bool → Bool
  | 0, _, listed => (Region.ready md ops listed).isEmpty
  | fuel + 1, k, listed => (bif lmem k lo then Region.ready md ops listed == [k] else (Region.ready md ops listed).contains k && freeT md ops lo listed k) && lexT md ops lo fuel (k + 1) (listed.setIfInBounds k true)
theorem anyQ_lexT {lo : List Nat} {R : Env → St → Prop} : ∀ (l : List Oper) (k : Nat) (listed : Array Bool) (env : Env) (st : St), (∀ j, l[j]? = ops[k + j]?) →
    lexT md ops lo l.length k listed = true → Walk P ops lo nt R k l env st → anyQ P md ops lo nt R l.length listed env st
  | [], _, _, _, _, _, hB, h => ⟨by simpa [lexT] using hB, h⟩
  | o :: l, k, listed, env, st, hl, hB, h => by
    have h0 : ops[k]? = some o := by simpa using (hl 0).symm
    have hl' : ∀ j, l[j]? = ops[(k + 1) + j]? := fun j => by have := hl (j + 1); simpa [Nat.add_assoc, Nat.add_comm 1 j] using this
    simp only [List.length_cons, lexT, Bool.and_eq_true] at hB
    obtain ⟨hB0, hB'⟩ := hB
    cases hlo : lmem k lo with
    | true =>
      simp only [hlo, cond_true, beq_iff_eq] at hB0
      refine ⟨fun he => (by rw [hB0] at he; cases he), fun i hi => ?_⟩
      rw [hB0] at hi
      simp at hi
      subst hi
      simp only [h0]
      exact gOp_mono (fun e s hw => anyQ_lexT l (i + 1) _ e s hl' hB' hw) h
    | false =>
      simp only [hlo, cond_false, Bool.and_eq_true] at hB0
      have h' : gOp P ops lo nt k o (Walk P ops lo nt R (k + 1) l) env st := h
      unfold gOp at h'
      simp only [hlo] at h'
      obtain ⟨pv, hy, hK⟩ := h'
      obtain ⟨hr, hf⟩ := hB0
      simp only [freeT, h0, Bool.and_eq_true, List.all_eq_true, List.mem_range, Bool.not_eq_true'] at hf
      refine anyQ_firstL h0 hlo (fun j => lmem j (lateL md k 0 ops.toList [])) (fun j oj hj hoj => ?_) l.length listed env (fun j hj => hf.1 j ((lmem_eq _ _).1 hj)) (fun j oj hoj hne hun hno => ?_) (by simpa using hr) hy (anyQ_lexT l (k + 1) _ _ st hl' hB' hK)
      · rcases lateL_spec _ _ _ _ ((lmem_eq _ _).1 hj) with h1 | ⟨t, o', h1, h2, e, he, hb, hor⟩
        · cases h1
        · rw [Nat.zero_add] at h2
          subst h2
          rw [Array.getElem?_toList] at h1
          rw [hoj] at h1
          cases h1
          exact ⟨e, he, hb, hor.imp id fun h => (lmem_eq _ _).2 h⟩
      · have hlt : j < ops.size := (Array.getElem?_eq_some_iff.1 hoj).1
        have h1 := hf.2 j hlt
        simpa [hoj, hun, hno, hne] using h1
end
section
variable [Globs]
variable {P : Program} {f : FuncId} {fn : Func} {n0 : Nat} {Q : PV → St → Prop} {k : List Item} {env : Env} {st : St} {ops : Array Oper}
theorem Run.drawT {lo : List Nat} {id : Nat} {l : List Oper} (hm : P.follows .mixedOrders = true) (hB : lexT .any ops lo ops.size 0 (Array.replicate ops.size false) = true) (hl : ops.toList = l)
    (h : Walk P ops lo fn.ntmps (fun env' st' => Run P f fn n0 Q k env' st') 0 l env st) : Run P f fn n0 Q (.code (.region id ops true) :: k) env st := by
  subst hl
  intro hn0 K σ w a b cs hR hsz hd hfn hk hE
  have hany := anyQ_lexT (md := .any) ops.toList 0 (Array.replicate ops.size false) env st (by simp) (by simpa using hB) h
  have hR1 : Rel K σ st { w with drawn := w.drawn + 1 } := ⟨hR.kin, hR.own, hR.sep, hR.gl, hR.fl⟩
  have hX1 : Ext K σ st w K σ st { w with drawn := w.drawn + 1 } := ⟨fun _ _ h => h, fun _ _ => rfl, Nat.le_refl _, rfl, rfl, rfl, Nat.le_refl _, fun i B h hr hl => .inl ⟨i, B, h, hr, hl, rfl⟩, fun _ _ _ => rfl, fun _ _ h => .inl h⟩
  have hwp : (Code.region id ops true).wp P (fun e a' w' => e = .normal ∧ ∃ env' st', Mid fn.ntmps K σ st w env' st' a' w' ∧ Run P f fn n0 Q k env' st') a w :=
    wp_region_any hm (anyQ_sound (K := K) (σ := σ) (st0 := st) (w := w) (fun env' st' a' w' hmid hr => ⟨rfl, env', st', hmid, hr⟩) _ _ _ _ _ _ ⟨K, σ, hR1, hX1, hE, hsz, hd⟩ (by simpa using hany))
  obtain ⟨e, a', w', ⟨rfl, env', st', ⟨K', σ', hrel, hext, henv, hsz', hdf'⟩, hrun⟩, harr⟩ := hwp b k cs
  obtain ⟨v, w2, fr, ⟨K2, σ2, st2, pv2, q2, e2, r2, v2⟩, hst, hrest⟩ := hrun (Nat.le_trans hn0 hext.len) K' σ' w' a' b cs hrel hsz' hdf' hfn hk henv
  exact ⟨v, w2, fr, ⟨K2, σ2, st2, pv2, q2, (hext.less hn0).trans e2, r2, v2⟩, Steps.trans harr hst, hrest⟩
/-- A region that draws its order, the numbers of the operations that change the state given. -/
theorem Run.drwT (lo : List Nat) {id : Nat} {l : List Oper} (hm : P.follows .mixedOrders = true) (hB : lexT .any l.toArray lo l.toArray.size 0 (Array.replicate l.toArray.size false) = true)
    (h : Rg P f fn n0 Q k l.toArray (.drw lo 0) l env st) : Run P f fn n0 Q (.code (.region id l.toArray true) :: k) env st := Run.drawT (lo := lo) hm hB (by simp) h
def renOk (n0 : Nat) (rs : List Nat) (n : Nat) : Bool := idB 0 n0 rs && Nat.ble n0 rs.length && nodupB rs && Nat.beq n rs.length
/-- A loop whose rounds leave the blocks under other numbers. -/
theorem Run.loopN {ι : Type} (I : ι → List (Nat × PV) × St) (Inv : ι → Prop) (μ : ι → Nat) (i0 : ι) {c : Code} (he : envEq env (I i0).1) (hs : st = (I i0).2) (hi : Inv i0)
    (step : ∀ i, Inv i → (∀ j env' st', Inv j → μ j < μ i → envEq env' (I j).1 → st' = (I j).2 → Run P f fn n0 Q (.inLoop c :: k) env' st') →
      (∀ rs j env' st', Inv j → μ j < μ i → renOk n0 rs (I j).2.length = true → StL rs (I j).2.length st' rs (I j).2 → EnvRn rs (I j).2.length env' (I j).1 → Run P f fn n0 Q (.inLoop c :: k) env' st') → Run P f fn n0 Q (.code c :: .inLoop c :: k) (envL (I i).1) (I i).2) :
    Run P f fn n0 Q (.code (.loop c) :: k) env st := by
  refine Run.loopOf (Run.to he ?_)
  rw [hs]
  refine Run.loopInd (fun i => (envL (I i).1, (I i).2)) Inv μ (fun i hi back => step i hi (fun j env' st' hj hlt he' hs' => Run.to he' (hs' ▸ back j hj hlt)) (fun rs j env' st' hj hlt hr hs' he' => ?_)) i0 hi
  simp only [renOk, Bool.and_eq_true] at hr
  exact Run.renumL rs (I j).2 (I j).1 hr.1.1.1 hr.1.1.2 hr.1.2 hr.2 hs' he' (back j hj hlt)
end
end Go.Sy
end
section
/- Values written out, in other words. -/
set_option linter.unusedVariables false
set_option linter.unusedSimpArgs false
set_option linter.unusedSectionVars false
namespace Go.Sy
open Go Go.RowKit

/-- Of each number below n. -/
def AllJ (Q : Nat → Prop) : Nat → Prop
  | 0 => True
  | n + 1 => AllJ Q n ∧ Q n
theorem AllJ.all {Q : Nat → Prop} : ∀ {n : Nat}, AllJ Q n → ∀ j, j < n → Q j
  | 0, _, j, h => absurd h (Nat.not_lt_zero j)
  | n + 1, h, j, hj => by
    rcases Nat.lt_or_ge j n with h1 | h1
    · exact h.1.all j h1
    · obtain rfl : j = n := by omega
      exact h.2
section
variable [Globs] {ok : Blk → Bool} {st : St}
/-- A row of one's own, its elements one by one. -/
theorem Cv.slcL {α : Type} [Inhabited α] {sz : Nat} {enc : α → List PV} {xs : List α} {i k n : Nat} {B : Blk} (hB : st.get i = some B) (hok : ok B = true) (hsz : Nat.beq B.sz sz = true) (hn : Nat.ble (k + n) B.n = true) (hl : Nat.beq n xs.length = true) (hc : ∀ x, closedL (enc x) = true)
    (h : AllJ (fun j => CvL ok st (B.el (k + j)) (enc (xs.getD j default))) n) : Cv ok st (.slc i k n) (sl sz enc xs) := by
  have := Nat.eq_of_beq_eq_true hl
  subst this
  exact Cv.slc' hB hok hsz (Nat.le_of_ble_eq_true hn) (fun j _ => hc _) h.all
/-- A row that is known already, its elements one by one. -/
theorem Cv.fzL {α : Type} [Inhabited α] {sz : Nat} {enc : α → List PV} {xs : List α} {n : Nat} {el : Nat → List PV} (hl : Nat.beq n xs.length = true) (hc : ∀ x, closedL (enc x) = true)
    (h : AllJ (fun j => CvL ok st (el j) (enc (xs.getD j default))) n) : Cv ok st (.fz sz n el) (sl sz enc xs) := by
  have := Nat.eq_of_beq_eq_true hl
  subst this
  exact Cv.fz' (fun j _ => hc _) h.all
end
end Go.Sy
end
