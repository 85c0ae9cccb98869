/- Texts merged: Y18. -/
import Derived.Test.YtffckdfcmdmnoaaDoorM12
import Derived.Lib.UnsafeStr
section
/- Calls under contracts about own memory; strings.Builder's operations. -/
set_option linter.unusedVariables false
set_option linter.unusedSimpArgs false
set_option linter.unusedSectionVars false
namespace Go.Sy
open Go Go.RowKit
variable [Globs]

def noRoB : St → Bool
  | [] => true
  | none :: l => noRoB l
  | some ⟨_, _, _, _, ro, _⟩ :: l => bif ro then false else noRoB l
theorem noRoB_spec : ∀ {s : St}, noRoB s = true → NoRo s
  | [], _, i, B, hB => by simp [St.get] at hB
  | none :: l, h, i, B, hB => by
    cases i with
    | zero => simp [St.get] at hB
    | succ i => exact noRoB_spec (s := l) h i B hB
  | some ⟨e, sz, n, el, ro, fu⟩ :: l, h, i, B, hB => by
    unfold noRoB at h
    cases ro with
    | true => simp at h
    | false => cases i with
      | zero => simp only [St.get, Option.some.injEq] at hB; subst hB; rfl
      | succ i => exact noRoB_spec (s := l) h i B hB
mutual
/-- A value under other numbers, written out. -/
def rnF (f : Nat → Nat) : PV → Option PV
  | .ptr i k off => some (.ptr (f i) k off)
  | .slc i k n => some (.slc (f i) k n)
  | .agg cs => (match rnFL f cs with | some l => some (.agg l) | none => none)
  | .tup cs => (match rnFL f cs with | some l => some (.tup l) | none => none)
  | .iface t p => (match rnF f p with | some q => some (.iface t q) | none => none)
  | .func g cs => (match rnFL f cs with | some l => some (.func g l) | none => none)
  | .any => some .any
  | .atom v => some (.atom v)
  | .fptr sz n el k off => some (.fptr sz n el k off)
  | .fz sz n el => some (.fz sz n el)
def rnFL (f : Nat → Nat) : List PV → Option (List PV)
  | [] => some []
  | p :: l => (match rnF f p, rnFL f l with | some q, some r => some (q :: r) | _, _ => none)
end
mutual
theorem rnF_spec {f : Nat → Nat} : ∀ {p q : PV}, rnF f p = some q → rnP f p = q
  | .ptr i k off, q, h => by simp [rnF] at h; subst h; rfl
  | .slc i k n, q, h => by simp [rnF] at h; subst h; rfl
  | .agg cs, q, h => by
    unfold rnF at h; split at h
    · rename_i l hl; simp at h; subst h; unfold rnP; rw [rnFL_spec hl]
    · cases h
  | .tup cs, q, h => by
    unfold rnF at h; split at h
    · rename_i l hl; simp at h; subst h; unfold rnP; rw [rnFL_spec hl]
    · cases h
  | .iface t p, q, h => by
    unfold rnF at h; split at h
    · rename_i l hl; simp at h; subst h; unfold rnP; rw [rnF_spec hl]
    · cases h
  | .func g cs, q, h => by
    unfold rnF at h; split at h
    · rename_i l hl; simp at h; subst h; unfold rnP; rw [rnFL_spec hl]
    · cases h
  | .any, q, h => by simp [rnF] at h; subst h; rfl
  | .atom v, q, h => by simp [rnF] at h; subst h; rfl
  | .fptr sz n el k off, q, h => by simp [rnF] at h; subst h; rfl
  | .fz sz n el, q, h => by simp [rnF] at h; subst h; rfl
theorem rnFL_spec {f : Nat → Nat} : ∀ {p q : List PV}, rnFL f p = some q → rnPL f p = q
  | [], q, h => by simp [rnFL] at h; subst h; rfl
  | a :: l, q, h => by
    unfold rnFL at h; split at h
    · rename_i b r hb hr; simp at h; subst h; unfold rnPL; rw [rnF_spec hb, rnFL_spec hr]
    · cases h
end
def allLt (n : Nat) : List Nat → Bool
  | [] => true
  | a :: l => bif Nat.blt a n then allLt n l else false
theorem allLt_spec {n : Nat} : ∀ {l : List Nat}, allLt n l = true → ∀ i, i < l.length → lgetN l i < n
  | [], _, i, hi => by simp at hi
  | a :: l, h, i, hi => by
    unfold allLt at h
    obtain ⟨h1, h2⟩ : Nat.blt a n = true ∧ allLt n l = true := by cases hb : Nat.blt a n <;> simp [hb] at h; exact ⟨rfl, h⟩
    cases i with
    | zero => simpa [lgetN, Nat.blt_eq] using h1
    | succ i => exact allLt_spec h2 i (by simpa using hi)
def ownOk (rs : List Nat) (n : Nat) (st0 s0 : St) : Bool := bif noRoB s0 then bif noRoB st0 then bif Nat.beq rs.length st0.length then bif nodupB rs then allLt n rs else false else false else false else false

/-- A contract about own memory: what comes of it. -/
def Own (P : Program) (g : FuncId) (asx : List PV) (st0 : St) (pv : PV) (s0 : St) : Prop := Spec P g asx st0 fun v s => v = pv ∧ s = s0

section
variable {P : Program} {f : FuncId} {fn : Func} {n0 : Nat} {Q : PV → St → Prop} {k k' : List Item} {env : Env} {st st' : St} {ops : Array Oper} {d d' : Md} {o : Oper} {rest : List Oper} {T : TT}
theorem Rg.own {g : FuncId} {cap asx : List PV} {pv pv0 : PV} {st0 s0 : St} {e : Option Tmp} {cp : Operand} {args : Array Operand} {ats : Array TypeId} (hp : Own P g asx st0 pv0 s0) (rs : List Nat) (hw : wants ops env o = some true) (hd : dstN fn.ntmps o.dst = some e) (hx : nx d = some d')
    (ho : o.op = .call { callee := .value cp, args, argTypes := ats }) (hc : funcOf (d.env ops o env cp) = some (g, cap)) (hb : ownOk rs st.length st0 s0 = true) (hsub : StL rs st0.length st rs st0) (hargs : RnL (lgetN rs) st0.length (args.toList.map (d.env ops o env) ++ cap) asx)
    (hpv : rnF (fwd rs st.length) pv0 = some pv) (hst : nl (putAll (fwd rs st.length) rs s0 st) = some st') (hk : d.ok P ops fn.ntmps st st' (env.put e pv)) (hr : Rg P f fn n0 Q k ops d' rest (env.put e pv) st') : Rg P f fn n0 Q k ops d (o :: rest) env st := by
  unfold ownOk at hb
  obtain ⟨b1, b2, b3, b4, b5⟩ : noRoB s0 = true ∧ noRoB st0 = true ∧ Nat.beq rs.length st0.length = true ∧ nodupB rs = true ∧ allLt st.length rs = true := by
    cases h1 : noRoB s0 <;> cases h2 : noRoB st0 <;> cases h3 : Nat.beq rs.length st0.length <;> cases h4 : nodupB rs <;> simp [h1, h2, h3, h4] at hb
    exact ⟨rfl, rfl, rfl, rfl, hb⟩
  have hs := Spec.frame (as' := args.toList.map (d.env ops o env) ++ cap) (st := st) (rs := rs) hp (fun pv s h => by rw [h.2]; exact noRoB_spec b1) (noRoB_spec b2) (Nat.eq_of_beq_eq_true b3) b4 (allLt_spec b5) hsub.spec hargs
  refine Rg.any hw hd hx (fun R hR => G_callSpec ho (funcOf_spec hc) hs (fun p s h => ?_)) hk hr
  obtain ⟨pv0', s0', ⟨rfl, rfl⟩, rfl, rfl⟩ := h
  rw [rnF_spec hpv, nl_spec hst]
  exact hR
end

/-! ### bytes -/
def eU8 (c : UInt8) : List PV := [.atom (.int .u8 c.toNat)]
def strEl (s : ByteArray) : Nat → List PV := rows eU8 s.data.toList
section
variable {P : Program} {T : TT} {E : Operand → PV} {st : St} {o : Oper} {Q : PV → St → Prop}
theorem srt_str (hT : TOk P T) {t2 : TypeId} (h2 : strT T t2 = true) (K : KH) (σ : Nat → Loc) (N : Nat) (w : World) (s : ByteArray) : Srt P t2 K σ N w (.string s) 1 s.size (strEl s) (s.data.toList.map fun b => .int .u8 b.toNat) := by
  obtain ⟨ti, a, b⟩ := strT_spec h2
  have hu := (hT t2 ti a).1
  rw [isStrD_spec b] at hu
  have hl : s.data.toList.length = s.size := Array.length_toList
  refine ⟨fun w' => by simp [Builtin.lenOf], .inl hu, by simp [hl], fun v hv => ?_, fun w' _ => ?_, fun k hk => ⟨rfl, fun j p hp => ?_⟩⟩
  · simp at hv; obtain ⟨b, _, rfl⟩ := hv; rfl
  · simp only [Builtin.firstCells, Sem.run_pure]
    congr 1
    have : s.extract 0 s.size = s := by
      apply ByteArray.ext
      rw [ByteArray.data_extract]
      exact Array.extract_eq_self_of_le (Nat.le_refl _)
    rw [this]
    simp only [← List.map_toArray, Array.toArray_toList]
  · have hj : j < 1 := (List.getElem?_eq_some_iff.1 hp).1
    have : j = 0 := by omega
    subst this
    simp only [strEl, rows, eU8, List.getElem?_cons_zero, Option.some.injEq] at hp
    subst hp
    have hk' : k < s.data.toList.length := by rw [hl]; exact hk
    have e : rd (s.data.toList.map fun b => Value.int .u8 b.toNat).toArray (k * 1 + 0) = .int .u8 ((s.data.toList.getD k default).toNat) := by
      simp only [rd_list, Nat.mul_one, Nat.add_zero, List.getElem?_map, List.getElem?_eq_getElem hk', Option.map_some, Option.getD_some, List.getD_eq_getElem?_getD]
    rw [e]
    exact .atom _
theorem G_appSN (hT : TOk P T) {t t2 e : TypeId} {te : TI} {x y : Operand} {s : ByteArray} (ho : o.op = .call { callee := .builtin .append, args := #[x, y], argTypes := #[t, t2] }) (ht : sliceT T t = some (e, te)) (h2 : strT T t2 = true) (hx : isNilS (E x) = true)
    (hc : (bif Nat.beq te.size 1 then bif Nat.beq te.zero.cells.size te.size then Nat.blt 0 te.bytes else false else false) = true) (hy : strOf' (E y) = some s) (hb : s.size * te.bytes ≤ 140737488355328) (h : Q (.slc st.length 0 s.size) (st ++ [some ⟨e, te.size, s.size, strEl s, false, false⟩])) : OpGoes P E st o Q := by
  intro K σ w ρ hR hE
  obtain ⟨ti, a, b, c⟩ := sliceT_spec ht
  cases h3 : Nat.beq te.size 1 <;> simp only [h3, cond_true, cond_false, reduceCtorEq] at hc
  cases h4 : Nat.beq te.zero.cells.size te.size <;> simp only [h4, cond_true, cond_false, reduceCtorEq] at hc
  rw [Nat.blt_eq] at hc
  have h3 := Nat.eq_of_beq_eq_true h3
  have vx := hE x; have vy := hE y
  rw [isNilS_spec hx] at vx
  rw [strOf'_spec hy] at vy
  have hsrc := srt_str hT h2 K σ st.length w s
  rw [← h3] at hsrc
  obtain ⟨v, w', hr, hout⟩ := append_nil (P := P) (ty := o.type) (A := none) (di := none) (el0 := fun _ => []) hT a b c (Nat.eq_of_beq_eq_true h4) hR hsrc hc hb (Q := Q) (by
    have : appEl 0 (fun _ => []) (strEl s) = strEl s := by funext j; rw [appEl_right (Nat.zero_le _)]; rfl
    rw [this]; exact h)
  exact .inl ⟨v, w', .inl (by simp [execOp, ho, resolve, invoke, builtin, vx.atom_inv, vy.atom_inv, hr]), hout⟩
theorem G_appSO (hT : TOk P T) {t t2 e : TypeId} {te : TI} {x y : Operand} {i k0 n : Nat} {B : Blk} {s : ByteArray} (ho : o.op = .call { callee := .builtin .append, args := #[x, y], argTypes := #[t, t2] }) (ht : sliceT T t = some (e, te)) (h2 : strT T t2 = true)
    (hx : slcOf (E x) = some (i, k0, n)) (hB : st.get i = some B) (hc : (bif B.ro then false else bif Nat.beq B.e e then bif Nat.beq B.sz te.size then bif Nat.beq te.size 1 then bif Nat.beq te.zero.cells.size te.size then Nat.blt 0 te.bytes else false else false else false else false) = true)
    (hy : strOf' (E y) = some s) (hkn : k0 + n ≤ B.n) (hb : (n + s.size) * te.bytes ≤ 140737488355328) (h : Q (.slc st.length 0 (n + s.size)) (st.upd i none ++ [some ⟨e, te.size, n + s.size, appEl n (fun j => B.el (k0 + j)) (strEl s), false, false⟩])) : OpGoes P E st o Q := by
  intro K σ w ρ hR hE
  obtain ⟨ti, a, b, c⟩ := sliceT_spec ht
  cases g1 : B.ro <;> simp only [g1, cond_true, cond_false, reduceCtorEq] at hc
  cases g2 : Nat.beq B.e e <;> simp only [g2, cond_true, cond_false, reduceCtorEq] at hc
  cases g5 : Nat.beq B.sz te.size <;> simp only [g5, cond_true, cond_false, reduceCtorEq] at hc
  cases h3 : Nat.beq te.size 1 <;> simp only [h3, cond_true, cond_false, reduceCtorEq] at hc
  cases h4 : Nat.beq te.zero.cells.size te.size <;> simp only [h4, cond_true, cond_false, reduceCtorEq] at hc
  rw [Nat.blt_eq] at hc
  have h3 := Nat.eq_of_beq_eq_true h3
  have vx := hE x; have vy := hE y
  rw [slcOf_spec hx] at vx
  rw [strOf'_spec hy] at vy
  have hsrc := srt_str hT h2 K σ st.length w s
  rw [← h3] at hsrc
  obtain ⟨v, w', hr, hout⟩ := append_own (P := P) (ty := o.type) hT a b c (Nat.eq_of_beq_eq_true h4) hR hB g1 (Nat.eq_of_beq_eq_true g2) (Nat.eq_of_beq_eq_true g5) hkn vx hsrc hc hb h
  exact .inl ⟨v, w', .inl (by simp [execOp, ho, resolve, invoke, builtin, vy.atom_inv, hr]), hout⟩
end

omit [Globs] in
theorem liesAt_bytesO {P : Program} {e : TypeId} (hc : P.cellsOf e = 1) (count o n : Nat) (hn : o + n ≤ count) : liesAt P P.depth e count o e n = true := by
  have hd : P.depth = (2 * (P.types.size + Made.depth) + 1) + 1 := rfl
  rw [hd]
  simp only [liesAt, Bool.or_eq_true]
  left
  rw [hd]
  simp only [rowAt, hc, Nat.mod_one, Nat.div_one, sameLayout]
  simp [hn]

omit [Globs] in
theorem run_unsafeString_at {P : Program} (w : World) (pt it ty e : TypeId) (hp : P.underlying pt = some (.pointer e)) (hc : P.cellsOf e = 1) (g o cells : Nat) (hsh : w.shape? g = some (e, cells)) (l : List UInt8) (h0 : l ≠ []) (hn : o + l.length ≤ cells) (h63 : l.length ≤ 9223372036854775807)
    (hcell : ∀ j x, l[j]? = some x → w.cell? ((⟨g, o, none⟩ : Addr).add j) = some (.int .u8 x.toNat)) :
    (Builtin.unsafeString_ #[pt, it] ty #[.pointer (some ⟨g, o, none⟩), .int .i64 l.length]).run P w = .ok (.string ⟨l.toArray⟩) (w.freeze ⟨g, o, none⟩ l.length) := by
  have hl : l.length ≠ 0 := by simpa using h0
  have hlb := Lib.run_loadBytes (P := P) w l ⟨g, o, none⟩ .empty hcell
  have hlies := liesAt_bytesO (P := P) hc (cells / P.cellsOf e) o l.length (by rw [hc]; simpa using hn)
  have h63' : ¬ (9223372036854775807 : Int) < (l.length : Int) := by omega
  have hdef : Builtin.unsafeString_ #[pt, it] ty #[.pointer (some ⟨g, o, none⟩), .int .i64 l.length] =
      (do
        let n ← asInt (.int .i64 l.length)
        if n < 0 then runtimePanic (.error "unsafe.String: len out of range")
        if n > IntKind.i64.max then unsupported (.unsafePointer "String: a length above the largest int")
        if n = 0 then pure (.string .empty)
        else if ← variablesAt ⟨g, o, none⟩ (← elemOf pt) n.toNat then do
          let s ← loadBytes ⟨g, o, none⟩ .empty n.toNat
          freeze ⟨g, o, none⟩ n.toNat
          pure (.string s)
        else unsupported (.unsafePointer "String: not so many bytes at ptr")) := rfl
  rw [hdef]
  have hmax : IntKind.i64.max = 9223372036854775807 := rfl
  have hneg : ¬ (l.length : Int) < 0 := by omega
  simp [asInt, asIntOf, hmax, h63', hneg, hl, variablesAt, hsh, elemOf, run_underlying hp, hlies, hlb]

/-- A block is let go, and changed. -/
theorem Rel.letGo {K : KH} {σ : Nat → Loc} {st : St} {w w' : World} (hR : Rel K σ st w) {i : Nat} {B : Blk} (hB : st.get i = some B) (hro : B.ro = false) (hr : (σ i).real = true) (os : w'.os = w.os) (tape : w'.tape = w.tape) (output : w'.output = w.output) (size : w'.heap.size = w.heap.size) (hoth : ∀ k, k ≠ (σ i).blk → w'.heap[k]? = w.heap[k]?) :
    Rel K σ (st.upd i none) w' ∧ Ext K σ st w K σ (st.upd i none) w' := by
  have old : ∀ {j C}, (st.upd i none).get j = some C → j ≠ i ∧ st.get j = some C := by
    intro j C hC
    rcases St.get_upd_cases hC with ⟨rfl, hc⟩ | h
    · cases hc
    · exact h
  have hKn : K (σ i).blk = none := by
    rcases hR.own i B hB with ⟨hf, _⟩ | ⟨_, cur, _, _, _, _, g5⟩
    · rw [hr] at hf; cases hf
    · rw [hro] at g5; exact g5
  refine ⟨⟨fun b c hb => ?_, fun j C hC => ?_, fun j l C D hC hD r1 r2 he => hR.sep j l C D (old hC).2 (old hD).2 r1 r2 he, hR.gl, fun j C hC hf hr2 => hR.fl j C (old hC).2 hf hr2⟩, ⟨fun _ _ h => h, fun _ _ => rfl, by rw [St.length_upd]; exact Nat.le_refl _, os, tape, output, by rw [size]; exact Nat.le_refl _, fun j C hC hr' hl => .inl ⟨j, C, (old hC).2, hr', hl, rfl⟩, fun k hk hn => hoth k (fun e => hn i B hB hro hr e.symm), fun b c h => .inl h⟩⟩
  · obtain ⟨e, he⟩ := hR.kin b c hb
    exact ⟨e, by rw [hoth b (fun e1 => by rw [e1, hKn] at hb; cases hb)]; exact he⟩
  · rw [St.length_upd]
    obtain ⟨hji, hC⟩ := old hC
    rcases hR.own j C hC with h | ⟨hr', c, f1, f2, f3, f4, f5⟩
    · exact .inl h
    · exact .inr ⟨hr', c, by rw [hoth _ (fun e => hji (hR.sep j i C B hC hB hr' hr e))]; exact f1, f2, f3, f4, f5⟩

section
variable {P : Program} {T : TT} {E : Operand → PV} {st : St} {o : Oper} {Q : PV → St → Prop}
def ptrElem : TypeDesc → Option TypeId
  | .pointer e => some e
  | _ => none
omit [Globs] in
theorem ptrElem_spec {d : TypeDesc} {e : TypeId} (h : ptrElem d = some e) : d = .pointer e := by cases d <;> simp [ptrElem] at h; subst h; rfl
/-- unsafe.SliceData -/
theorem G_uData {t : TypeId} {x : Operand} {i k n : Nat} (ho : o.op = .call { callee := .builtin .unsafeSliceData, args := #[x], argTypes := #[t] }) (hx : slcOf (E x) = some (i, k, n)) (hn : 0 < n) (h : Q (.ptr i k 0) st) : OpGoes P E st o Q := by
  refine OpGoes.still (fun K σ w ρ hR hE => ?_) h
  have vx := hE x
  rw [slcOf_spec hx] at vx
  generalize hg : ρ x = g at vx
  cases vx with
  | slc0 A => omega
  | slc hi hr ht hnc hm =>
    refine ⟨_, ?_, VR.ptr hi⟩
    simp only [execOp, ho, resolve, invoke, builtin, Sem.run_bind, Sem.run_pure, Result.andThen_ok, List.map_toArray, List.map_cons, List.map_nil, hg]
    rw [Lib.run_unsafeSliceData_row _ _ _ _ _ _ (by omega)]
    rfl
/-- unsafe.String: the bytes are no more one's own. -/
theorem G_uStr (hT : TOk P T) {pt it e : TypeId} {tp te : TI} {x y : Operand} {i k n : Nat} {B : Blk} (l : List UInt8) (ho : o.op = .call { callee := .builtin .unsafeString, args := #[x, y], argTypes := #[pt, it] }) (hp : T pt = some tp) (hpe : ptrElem tp.d = some e) (he : T e = some te) (hs1 : Nat.beq te.size 1 = true)
    (hx : ptrOf (E x) = some (i, k, 0)) (hy : intOf' (E y) = some (.i64, (n : Int))) (hB : st.get i = some B) (hb : (bif B.ro then false else bif Nat.beq B.sz 1 then Nat.beq B.e e else false) = true) (hkn : k + n ≤ B.n) (hl : l.length = n) (h0 : 0 < n) (h63 : n ≤ 9223372036854775807) (hel : ∀ j, j < n → B.el (k + j) = rows eU8 l j)
    (h : Q (.atom (.string ⟨l.toArray⟩)) (st.upd i none)) : OpGoes P E st o Q := by
  intro K σ w ρ hR hE
  cases g1 : B.ro <;> simp only [g1, cond_true, cond_false, reduceCtorEq] at hb
  cases g2 : Nat.beq B.sz 1 <;> simp only [g2, cond_true, cond_false, reduceCtorEq] at hb
  have g2 := Nat.eq_of_beq_eq_true g2
  have hb := Nat.eq_of_beq_eq_true hb
  have hs1 := Nat.eq_of_beq_eq_true hs1
  have vx := hE x; have vy := hE y
  rw [ptrOf_spec hx] at vx
  rw [intOf'_spec hy] at vy
  have vy := vy.atom_inv
  have hup := (hT pt tp hp).1
  rw [ptrElem_spec hpe] at hup
  have hc : P.cellsOf e = 1 := by
    obtain ⟨_, inf, hi, hs, _⟩ := hT e te he
    simp [Program.cellsOf, hi, hs, hs1]
  generalize hg : ρ x = g at vx
  cases vx with
  | ptr hi =>
    rcases hR.own i B hB with ⟨hf, hn0⟩ | ⟨hr, cur, f1, f2, f3, f4, f5⟩
    · omega
    · rw [g2] at f3 f4
      have hsize := f4.1
      have hbyte : ∀ j x, l[j]? = some x → w.cell? ((⟨(σ i).blk, (σ i).off + k * (σ i).sz + 0, none⟩ : Addr).add j) = some (.int .u8 x.toNat) := by
        intro j x hj
        have hjl : j < l.length := (List.getElem?_eq_some_iff.1 hj).1
        have hh := (f4.2.2 (k + j) (by omega)).2 0 (.atom (.int .u8 x.toNat)) (by
          rw [hel j (by omega)]
          show (eU8 (l.getD j default))[0]? = _
          rw [List.getD_eq_getElem?_getD, hj]
          rfl)
        have := hh.atom_inv
        rw [f3, add_spot, cell_of_row w _ _ cur _ _ f1]
        have e1 : (σ i).off + k * 1 + 0 + j = (σ i).off + (k + j) * 1 + 0 := by omega
        rw [e1]
        have hlt : (σ i).off + (k + j) * 1 + 0 < cur.size := by omega
        unfold rd at this
        rw [Array.getD_eq_getD_getElem?, Array.getElem?_eq_getElem hlt] at this
        rw [Array.getElem?_eq_getElem hlt]
        exact congrArg some this
      have hrun := run_unsafeString_at (P := P) w pt it o.type e hup hc (σ i).blk ((σ i).off + k * (σ i).sz + 0) cur.size (by rw [← hb]; simp [World.shape?, f1]) l (by intro hh; rw [hh] at hl; simp at hl; omega) (by rw [f3]; omega) (by omega) hbyte
      rw [hl] at hrun
      obtain ⟨r1, r2⟩ := hR.letGo (w' := w.freeze ⟨(σ i).blk, (σ i).off + k * (σ i).sz + 0, none⟩ n) hB g1 hr (by unfold World.freeze; split <;> rfl) (by unfold World.freeze; split <;> rfl) (by unfold World.freeze; split <;> rfl) (by unfold World.freeze; split <;> simp) (fun k' hk' => by
        unfold World.freeze
        split
        · rfl
        · simp only [Array.getElem?_modify]
          rw [if_neg (Ne.symm hk')])
      refine .inl ⟨_, _, .inl (by
        simp only [execOp, ho, resolve, invoke, builtin, Sem.run_bind, Sem.run_pure, Result.andThen_ok, List.map_toArray, List.map_cons, List.map_nil, hg, vy]
        rw [hrun]
        rfl), K, σ, _, _, h, r2, r1, .atom _⟩
end
end Go.Sy
end
