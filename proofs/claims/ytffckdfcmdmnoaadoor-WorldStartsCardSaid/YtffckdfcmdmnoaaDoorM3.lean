/- Texts merged: Y2, Y3, Y4, Y5. -/
import Derived.Test.YtffckdfcmdmnoaaDoorM2
import Derived.Laws.StructEq
import Derived.Laws.Slices
import Derived.Laws.MakeOwn
import Derived.Laws.OwnMore
section
/- One operation of a region at a time. -/
set_option linter.unusedVariables false
set_option linter.unusedSimpArgs false
set_option linter.unusedSectionVars false
namespace Go.Sy
open Go
variable [Globs]

structure TI where
  d : TypeDesc
  size : Nat
  bytes : Nat
  zero : Value
abbrev TT := Nat → Option TI
def TOk (P : Program) (T : TT) : Prop := ∀ t i, T t = some i → P.underlying t = some i.d ∧ ∃ inf, P.info? t = some inf ∧ inf.size = i.size ∧ inf.bytes = i.bytes ∧ inf.zero = some i.zero ∧ i.zero.cells.all Value.oneCell' = true

def OpGoes (P : Program) (E : Operand → PV) (st : St) (o : Oper) (Q : PV → St → Prop) : Prop :=
  ∀ K σ w (ρ : Operand → Value), Rel K σ st w → (∀ x, VR K σ st.length (E x) (ρ x)) →
    (∃ v w', ((execOp ρ o).run P w = .ok (.value v) w' ∨ ((execOp ρ o).run P w = .ok .skip w' ∧ v = undef)) ∧ Out Q K σ st w v w') ∨
    (∃ f args, (execOp ρ o).run P w = .ok (.enter f args) w ∧ Calls P f args w fun e w' => ∃ v, e = .returned v ∧ Out Q K σ st w v w')

/-- Whether an operation is carried out, as far as the state shows. -/
def wants (ops : Array Oper) (env : Env) (o : Oper) : Option Bool :=
  match o.guard with
  | none => some true
  | some (j, want) =>
    match (ops[j]?).bind (·.dst) with
    | none => some false
    | some d => match env d with
      | .atom (.bool b) => some (bif want then b else !b)
      | .atom (.tuple _) => some false
      | _ => none

theorem wants_spec {K : KH} {σ : Nat → Loc} {N : Nat} {ops : Array Oper} {env : Env} {a : Act} (hE : EnvRel K σ N env a) {o : Oper} {b : Bool} (h : wants ops env o = some b) : Region.wanted o (yielded ops a.tmps) = b := by
  unfold wants at h
  unfold Region.wanted
  cases hg : o.guard with
  | none => simp [hg] at h; simp [h]
  | some jw =>
    obtain ⟨j, want⟩ := jw
    simp only [hg] at h ⊢
    unfold yielded
    cases hd : (ops[j]?).bind (·.dst) with
    | none => simp [hd] at h; subst h; cases want <;> rfl
    | some d =>
      simp only [hd] at h
      have hv := hE d
      have hrd : ∀ v, rd a.tmps d = v → v ≠ undef → a.tmps[d]? = some v := by
        intro v hv hne
        unfold rd at hv
        rcases Nat.lt_or_ge d a.tmps.size with h' | h'
        · simp [h'] at hv ⊢; exact hv
        · simp [h'] at hv; exact absurd hv.symm hne
      split at h
      · rename_i b' hb'
        rw [hb'] at hv
        have := hrd _ hv.atom_inv (by simp [undef])
        simp only [Option.some.injEq] at h
        simp [this]
        subst h
        cases want <;> cases b' <;> rfl
      · rename_i vs hb'
        rw [hb'] at hv
        have h1 := hv.atom_inv
        simp only [Option.some.injEq] at h
        subst h
        unfold rd at h1
        rcases Nat.lt_or_ge d a.tmps.size with h' | h'
        · simp [h'] at h1 ⊢; rw [h1]; cases want <;> simp
        · simp [h']
      · cases h

section
variable {P : Program} {f : FuncId} {fn : Func} {n0 : Nat} {Q : PV → St → Prop} {k : List Item} {env : Env} {st : St} {ops : Array Oper} {i : Nat} {rest : List Nat} {o : Oper}

theorem step_value {b : Frame} {a : Act} {cs : List Frame} {w w' : World} {v : Value} (ho : ops[i]? = some o) (hw : Region.wanted o (yielded ops a.tmps) = true)
    (hr : (execOp a.eval o).run P w = .ok (.value v) w' ∨ ((execOp a.eval o).run P w = .ok .skip w' ∧ v = undef)) :
    step P (lone (b.at a (.inRegion ops (i :: rest) :: k)) cs w) = .next (lone (b.at (a.put o.dst v) (.inRegion ops rest :: k)) cs w') := by
  have hg := stepG_op (P := P) (b := b) (k := k) (cs := cs) (w := w) (rest := rest) ho hw
  have hfin : ∀ v, (b.at a (.inRegion ops (i :: rest) :: k)).finish v = b.at (a.put o.dst v) (.inRegion ops rest :: k) := by
    intro v; rw [Frame.finish_at, ho]; rfl
  apply step_lone_go
  rcases hr with hr | ⟨hr, rfl⟩
  · rw [hg, ← hfin]; simp [stepG.apply, hr]
  · rw [hg, ← hfin]; simp [stepG.apply, hr]

theorem steps_enter {b : Frame} {a : Act} {cs : List Frame} {w : World} {g : FuncId} {args : Array Value} {R : Value → World → Prop} (ho : ops[i]? = some o) (hw : Region.wanted o (yielded ops a.tmps) = true)
    (hr : (execOp a.eval o).run P w = .ok (.enter g args) w) (hc : Calls P g args w fun e w' => ∃ v, e = .returned v ∧ R v w') :
    ∃ v w', R v w' ∧ Steps P (lone (b.at a (.inRegion ops (i :: rest) :: k)) cs w) (lone (b.at (a.put o.dst v) (.inRegion ops rest :: k)) cs w') := by
  have hg := stepG_op (P := P) (b := b) (k := k) (cs := cs) (w := w) (rest := rest) ho hw
  have hfin : ∀ v, (b.at a (.inRegion ops (i :: rest) :: k)).finish v = b.at (a.put o.dst v) (.inRegion ops rest :: k) := by
    intro v; rw [Frame.finish_at, ho]; rfl
  obtain ⟨e, w'', fr, ⟨v, rfl, hR⟩, hsteps, _, hleave⟩ := hc (b.at a (.inRegion ops (i :: rest) :: k) :: cs)
  have henter : step P (lone (b.at a (.inRegion ops (i :: rest) :: k)) cs w) =
      .next (lone (Frame.enter P g args .normal) (b.at a (.inRegion ops (i :: rest) :: k) :: cs) w) :=
    step_lone_go (by rw [hg]; simp [stepG.apply, hr, Frame.at])
  refine ⟨v, w'', hR, .head henter (Steps.trans hsteps (.one ?_))⟩
  rw [← hfin]; exact step_leave_returned hleave

theorem Run.op_skip (ho : ops[i]? = some o) (hw : wants ops env o = some false) (hd : dstOk fn.ntmps o.dst = true) (h : Run P f fn n0 Q (.inRegion ops rest :: k) (env.put o.dst (.atom undef)) st) :
    Run P f fn n0 Q (.inRegion ops (i :: rest) :: k) env st := by
  intro hn0 K σ w a b cs hR hsz hdf hfn hk hE
  have hs := step_op_skip (P := P) (b := b) (a := a) (k := k) (cs := cs) (w := w) (ops := ops) (i := i) (rest := rest) (by simp [ho, wants_spec hE hw])
  simp only [ho, Option.bind_some] at hs
  obtain ⟨v, w', fr, hout, hst, r⟩ := h hn0 K σ w (a.put o.dst undef) b cs hR (by rw [Act.size_put, hsz]) (by rw [Act.defers_put, hdf]) hfn hk (hE.put (by rw [hsz]; exact hd) (.atom _))
  exact ⟨v, w', fr, hout, .head hs hst, r⟩

theorem Run.op (ho : ops[i]? = some o) (hw : wants ops env o = some true) (hd : dstOk fn.ntmps o.dst = true)
    (h : OpGoes P env.ev st o fun pv st' => Run P f fn n0 Q (.inRegion ops rest :: k) (env.put o.dst pv) st') :
    Run P f fn n0 Q (.inRegion ops (i :: rest) :: k) env st := by
  intro hn0 K σ w a b cs hR hsz hdf hfn hk hE
  have hw' := wants_spec hE hw
  have go : ∀ v w1, Out (fun pv st' => Run P f fn n0 Q (.inRegion ops rest :: k) (env.put o.dst pv) st') K σ st w v w1 →
      ∃ u w' fr, OutN n0 Q K σ st w u w' ∧ Steps P (lone (b.at (a.put o.dst v) (.inRegion ops rest :: k)) cs w1) (lone fr cs w') ∧ fr.fn = f ∧ fr.leaving P w' (.returned u) := by
    rintro v w1 ⟨K1, σ1, st1, pv, hrun, hext, hrel, hvr⟩
    have hE1 : EnvRel K1 σ1 st1.length env a := fun t => (hE t).ext hext
    obtain ⟨u, w', fr, ⟨K2, σ2, st2, pv2, q2, e2, r2, v2⟩, hst, r⟩ := hrun (Nat.le_trans hn0 hext.len) K1 σ1 w1 (a.put o.dst v) b cs hrel (by rw [Act.size_put, hsz]) (by rw [Act.defers_put, hdf]) hfn hk (hE1.put (by rw [hsz]; exact hd) hvr)
    exact ⟨u, w', fr, ⟨K2, σ2, st2, pv2, q2, (hext.less hn0).trans e2, r2, v2⟩, hst, r⟩
  rcases h K σ w a.eval hR (fun x => hE.ev x) with ⟨v, w1, hr, hout⟩ | ⟨g, args, hr, hc⟩
  · obtain ⟨u, w', fr, ho', hst, r⟩ := go v w1 hout
    exact ⟨u, w', fr, ho', .head (step_value ho hw' hr) hst, r⟩
  · obtain ⟨v, w1, hout, hs1⟩ := steps_enter (b := b) (cs := cs) (rest := rest) (k := k) ho hw' hr hc
    obtain ⟨u, w', fr, ho', hst, r⟩ := go v w1 hout
    exact ⟨u, w', fr, ho', Steps.trans hs1 hst, r⟩

theorem Run.retag {d : Nat} {p q : PV} (hp : env d = p) (hpq : ∀ K σ N v, VR K σ N p v → VR K σ N q v) (h : Run P f fn n0 Q k (env.put (some d) q) st) : Run P f fn n0 Q k env st := by
  intro hn0 K σ w a b cs hR hsz hdf hfn hk hE
  refine h hn0 K σ w a b cs hR hsz hdf hfn hk (fun t => ?_)
  show VR K σ _ (bif Nat.beq t d then q else env t) _
  by_cases ht : t = d
  · subst ht
    have e1 : Nat.beq t t = true := by simp
    rw [e1]
    exact hpq _ _ _ _ (hp ▸ hE t)
  · have e1 : Nat.beq t d = false := by rw [Bool.eq_false_iff]; intro hh; exact ht (Nat.eq_of_beq_eq_true hh)
    rw [e1]; exact hE t

theorem Run.boolSplit {d : Nat} {b : Bool} (hp : env d = .atom (.bool b)) (ht : b = true → Run P f fn n0 Q k (env.put (some d) (.atom (.bool true))) st) (hf : b = false → Run P f fn n0 Q k (env.put (some d) (.atom (.bool false))) st) :
    Run P f fn n0 Q k env st := by
  cases b
  · exact Run.retag hp (fun _ _ _ _ h => h) (hf rfl)
  · exact Run.retag hp (fun _ _ _ _ h => h) (ht rfl)

theorem OpGoes.still {E : Operand → PV} {Q' : PV → St → Prop} {pv : PV} (h : ∀ K σ w (ρ : Operand → Value), Rel K σ st w → (∀ x, VR K σ st.length (E x) (ρ x)) → ∃ v, (execOp ρ o).run P w = .ok (.value v) w ∧ VR K σ st.length pv v)
    (hq : Q' pv st) : OpGoes P E st o Q' := by
  intro K σ w ρ hR hE
  obtain ⟨v, hr, hv⟩ := h K σ w ρ hR hE
  exact .inl ⟨v, w, .inl hr, Out.still hR hv hq⟩
end
end Go.Sy
end
section
/- The operations that leave the memory as it is. -/
set_option linter.unusedVariables false
set_option linter.unusedSimpArgs false
set_option linter.unusedSectionVars false
namespace Go.Sy
open Go
variable [Globs]

def lnth {α : Type} : List α → Nat → Option α
  | [], _ => none
  | a :: _, 0 => some a
  | _ :: l, n + 1 => lnth l n
theorem lnth_eq {α : Type} (l : List α) (n : Nat) : lnth l n = l[n]? := by
  induction l generalizing n with
  | nil => simp [lnth]
  | cons a l ih => cases n <;> simp [lnth, ih]
def ldrop {α : Type} : Nat → List α → List α
  | 0, l => l
  | _ + 1, [] => []
  | n + 1, _ :: l => ldrop n l
theorem ldrop_eq {α : Type} (n : Nat) (l : List α) : ldrop n l = l.drop n := by
  induction n generalizing l with
  | zero => simp [ldrop]
  | succ n ih => cases l <;> simp [ldrop, ih]
/-- The first n, if there are so many. -/
def ltake {α : Type} : Nat → List α → Option (List α)
  | 0, _ => some []
  | _ + 1, [] => none
  | n + 1, a :: l => match ltake n l with
    | some r => some (a :: r)
    | none => none
theorem ltake_spec {α : Type} : ∀ {n : Nat} {l r : List α}, ltake n l = some r → r.length = n ∧ r = l.take n
  | 0, l, r, h => by simp [ltake] at h; subst h; simp
  | n + 1, [], r, h => by simp [ltake] at h
  | n + 1, a :: l, r, h => by
    simp only [ltake] at h
    split at h
    · rename_i r' hr
      have := ltake_spec hr
      simp at h; subst h
      simp [this.1]; exact this.2
    · cases h

def isAggD : TypeDesc → Bool
  | .struct _ | .array _ _ => true
  | _ => false
def strict : PV → Option PV
  | .any => none
  | .atom v => some (.atom v)
  | .ptr i k off => some (.ptr i k off)
  | .fptr sz n el k off => some (.fptr sz n el k off)
  | .slc i k n => some (.slc i k n)
  | .fz sz n el => some (.fz sz n el)
  | .agg cs => some (.agg cs)
  | .tup vs => some (.tup vs)
  | .iface t v => some (.iface t v)
  | .func f c => some (.func f c)
theorem strict_spec {p q : PV} (h : strict p = some q) : p = q := by cases p <;> simp [strict] at h <;> exact h

/-- A variable of type t among cells, from 'off' on. -/
def readT (T : TT) (t : TypeId) (cs : List PV) (off : Nat) : Option PV :=
  match T t with
  | none => none
  | some ti => bif isAggD ti.d then (match ltake ti.size (ldrop off cs) with | some r => some (.agg r) | none => none) else (match lnth cs off with | some p => strict p | none => none)

theorem run_isAgg {P : Program} {T : TT} (hT : TOk P T) {t : TypeId} {ti : TI} (h : T t = some ti) (w : World) : (isAgg t).run P w = .ok (isAggD ti.d) w := by
  obtain ⟨hd, _⟩ := hT t ti h
  unfold isAgg
  rw [Sem.run_bind, run_underlying hd w]
  cases ti.d <;> simp [isAggD]
theorem run_sizeOf {P : Program} {T : TT} (hT : TOk P T) {t : TypeId} {ti : TI} (h : T t = some ti) (w : World) : (sizeOf t).run P w = .ok ti.size w := by
  obtain ⟨_, inf, hi, hs, _⟩ := hT t ti h
  simp [sizeOf, typeInfo, hi, hs]
theorem run_zeroValue {P : Program} {T : TT} (hT : TOk P T) {t : TypeId} {ti : TI} (h : T t = some ti) (w : World) : (zeroValue t).run P w = .ok ti.zero w := by
  obtain ⟨_, inf, hi, _, _, hz, _⟩ := hT t ti h
  simp [zeroValue, typeInfo, hi, hz]

theorem rd_list (l : List Value) (j : Nat) : rd l.toArray j = (l[j]?).getD undef := by simp [rd]
theorem rd_range (g : Nat → Value) (n j : Nat) (h : j < n) : rd ((List.range n).map g).toArray j = g j := by simp [rd_list, List.getElem?_range h]

section
variable {P : Program} {T : TT} {K : KH} {σ : Nat → Loc} {N : Nat}

/-- Reading a variable at an address where the cells stand. -/
theorem run_loadVar_cells (hT : TOk P T) {t : TypeId} {cs : List PV} {off : Nat} {pv : PV} (h : readT T t cs off = some pv) (w : World) (b o : Nat) (cur : Array Value) {e : TypeId} {fr : Nat × Nat} (hb : w.heap[b]? = some (.cells cur e fr))
    (hs : o + cs.length ≤ cur.size) (hc : ∀ j p, cs[j]? = some p → VR K σ N p (rd cur (o + j))) :
    ∃ v, (loadVar t ⟨b, o + off, none⟩).run P w = .ok v w ∧ VR K σ N pv v := by
  unfold readT at h
  cases hti : T t with
  | none => simp [hti] at h
  | some ti =>
    simp only [hti] at h
    have hcell : ∀ j, j < cs.length → w.cell? ⟨b, o + j, none⟩ = some (rd cur (o + j)) := by
      intro j hj
      rw [cell_of_row w b (o + j) cur e fr hb]
      have : o + j < cur.size := by omega
      simp [rd, this]
    cases ha : isAggD ti.d with
    | true =>
      simp only [ha, cond_true] at h
      split at h
      · rename_i r hr
        simp at h; subst h
        obtain ⟨hl, hr⟩ := ltake_spec hr
        rw [ldrop_eq] at hr
        have hlen : off + ti.size ≤ cs.length ∨ ti.size = 0 := by
          have : r.length = min ti.size (cs.length - off) := by rw [hr]; simp
          omega
        refine ⟨.agg ((List.range ti.size).map fun j => rd cur (o + off + j)).toArray, ?_, .agg (by simp [hl]) ?_⟩
        · have hld := run_loadCells (P := P) w ⟨b, o + off, none⟩ ti.size (fun j => rd cur (o + off + j)) (fun j hj => by
            have e1 : (⟨b, o + off, none⟩ : Addr).add j = ⟨b, o + (off + j), none⟩ := by unfold Addr.add; split <;> simp_all [Nat.add_assoc]
            rw [e1, hcell (off + j) (by omega)]
            congr 2; omega)
          simp [loadVar, Sem.run_bind, run_isAgg hT hti, ha, run_sizeOf hT hti, hld]
        · intro j p hp
          have hj : j < ti.size := by
            rcases Nat.lt_or_ge j r.length with h' | h'
            · omega
            · rw [List.getElem?_eq_none h'] at hp; cases hp
          rw [rd_range _ _ _ hj]
          rw [hr, List.getElem?_take, if_pos hj, List.getElem?_drop] at hp
          have := hc (off + j) p hp
          rwa [← Nat.add_assoc] at this
      · cases h
    | false =>
      simp only [ha, cond_false] at h
      split at h
      · rename_i p hp
        rw [lnth_eq] at hp
        have := strict_spec h
        subst this
        have hlt : off < cs.length := (List.getElem?_eq_some_iff.1 hp).1
        refine ⟨rd cur (o + off), ?_, hc off p hp⟩
        simp [loadVar, Sem.run_bind, run_isAgg hT hti, ha, hcell off hlt]
      · cases h

theorem run_part (hT : TOk P T) {t : TypeId} {cs : List PV} {off : Nat} {pv : PV} (h : readT T t cs off = some pv) (w : World) {vs : Array Value} (hl : vs.size = cs.length) (hc : ∀ j p, cs[j]? = some p → VR K σ N p (rd vs j)) :
    ∃ v, (part t vs off).run P w = .ok v w ∧ VR K σ N pv v := by
  unfold readT at h
  cases hti : T t with
  | none => simp [hti] at h
  | some ti =>
    simp only [hti] at h
    cases ha : isAggD ti.d with
    | true =>
      simp only [ha, cond_true] at h
      split at h
      · rename_i r hr
        simp at h; subst h
        obtain ⟨hl', hr⟩ := ltake_spec hr
        rw [ldrop_eq] at hr
        have hlen : off + ti.size ≤ cs.length ∨ ti.size = 0 := by
          have : r.length = min ti.size (cs.length - off) := by rw [hr]; simp
          omega
        refine ⟨.agg (vs.extract off (off + ti.size)), ?_, .agg (by simp; omega) ?_⟩
        · simp [part, Sem.run_bind, run_isAgg hT hti, ha, run_sizeOf hT hti]
        · intro j p hp
          have hj : j < ti.size := by
            rcases Nat.lt_or_ge j r.length with h' | h'
            · omega
            · rw [List.getElem?_eq_none h'] at hp; cases hp
          rw [hr, List.getElem?_take, if_pos hj, List.getElem?_drop] at hp
          have h2 := hc (off + j) p hp
          have : rd (vs.extract off (off + ti.size)) j = rd vs (off + j) := by
            simp only [rd, Array.getD_eq_getD_getElem?, Array.getElem?_extract]
            rw [if_pos (by omega)]
          rwa [this]
      · cases h
    | false =>
      simp only [ha, cond_false] at h
      split at h
      · rename_i p hp
        rw [lnth_eq] at hp
        have := strict_spec h
        subst this
        have hlt : off < vs.size := by rw [hl]; exact (List.getElem?_eq_some_iff.1 hp).1
        refine ⟨rd vs off, ?_, hc off p hp⟩
        simp [part, Sem.run_bind, run_isAgg hT hti, ha, rd, hlt]
      · cases h
end

/-! ### the operations -/
def ikeq : IntKind → IntKind → Bool
  | .i8, .i8 | .i16, .i16 | .i32, .i32 | .i64, .i64 | .u8, .u8 | .u16, .u16 | .u32, .u32 | .u64, .u64 => true
  | _, _ => false
theorem ikeq_spec {a b : IntKind} (h : ikeq a b = true) : a = b := by cases a <;> cases b <;> simp [ikeq] at h <;> rfl

def binInt (op : BinOp) (k : IntKind) (x y : Int) : Option PV :=
  match op with
  | .add => some (.atom (.int k (k.wrap (x + y))))
  | .sub => some (.atom (.int k (k.wrap (x - y))))
  | .mul => some (.atom (.int k (k.wrap (x * y))))
  | .and => some (.atom (.int k (k.wrap (BitVec.ofInt k.bits x &&& BitVec.ofInt k.bits y).toNat)))
  | .or => some (.atom (.int k (k.wrap (BitVec.ofInt k.bits x ||| BitVec.ofInt k.bits y).toNat)))
  | .xor => some (.atom (.int k (k.wrap (BitVec.ofInt k.bits x ^^^ BitVec.ofInt k.bits y).toNat)))
  | .andNot => some (.atom (.int k (k.wrap (BitVec.ofInt k.bits x &&& ~~~BitVec.ofInt k.bits y).toNat)))
  | .eql => some (.atom (.bool (x == y)))
  | .neq => some (.atom (.bool (x != y)))
  | .lss => some (.atom (.bool (x < y)))
  | .leq => some (.atom (.bool (x ≤ y)))
  | .gtr => some (.atom (.bool (x > y)))
  | .geq => some (.atom (.bool (x ≥ y)))
  | _ => none
def binStr (op : BinOp) (x y : ByteArray) : Option PV :=
  match op with
  | .eql => some (.atom (.bool (x.toList == y.toList)))
  | .neq => some (.atom (.bool !(x.toList == y.toList)))
  | .lss => some (.atom (.bool (Op.bytesLess x.toList y.toList)))
  | _ => none
def binBool (op : BinOp) (x y : Bool) : Option PV :=
  match op with
  | .eql => some (.atom (.bool (x == y)))
  | .neq => some (.atom (.bool (!(x == y))))
  | _ => none
def isBoolD : TypeDesc → Bool
  | .bool => true
  | _ => false
def xBin (T : TT) (op : BinOp) (t : TypeId) (x y : PV) : Option PV :=
  match x, y with
  | .atom (.int k a), .atom (.int k' b) => bif ikeq k k' then binInt op k a b else none
  | .atom (.string a), .atom (.string b) => binStr op a b
  | .atom (.bool a), .atom (.bool b) => (match T t with | some ti => bif isBoolD ti.d then binBool op a b else none | none => none)
  | _, _ => none

section
variable {P : Program} {T : TT} {E : Operand → PV} {st : St} {o : Oper} {Q : PV → St → Prop}

theorem isBoolD_spec {d : TypeDesc} (h : isBoolD d = true) : d = .bool := by cases d <;> simp [isBoolD] at h <;> rfl

theorem run_eqGuard_int (op : BinOp) (t : TypeId) (x y : Operand) (k k' : IntKind) (a b : Int) (w : World) : (eqGuard op t x y (.int k a) (.int k' b)).run P w = .ok () w := by
  cases op <;> simp [eqGuard]
theorem run_eqGuard_str (op : BinOp) (t : TypeId) (x y : Operand) (a b : ByteArray) (w : World) : (eqGuard op t x y (.string a) (.string b)).run P w = .ok () w := by
  cases op <;> simp [eqGuard]
theorem run_eqGuard_bool (op : BinOp) (t : TypeId) (x y : Operand) (a b : Bool) (w : World) : (eqGuard op t x y (.bool a) (.bool b)).run P w = .ok () w := by
  cases op <;> simp [eqGuard]

theorem G_bin (hT : TOk P T) {op : BinOp} {t t2 : TypeId} {x y : Operand} {pv : PV} (ho : o.op = .binOp op t x y t2) (hv : xBin T op t (E x) (E y) = some pv) (h : Q pv st) : OpGoes P E st o Q := by
  refine OpGoes.still (fun K σ w ρ hR hE => ?_) h
  have hx := hE x
  have hy := hE y
  unfold xBin at hv
  split at hv
  · rename_i k a k' b e1 e2
    rw [e1] at hx; rw [e2] at hy
    have hx := hx.atom_inv; have hy := hy.atom_inv
    cases hk : ikeq k k' with
    | false => simp [hk] at hv
    | true =>
      have := ikeq_spec hk; subst this
      simp only [hk, cond_true] at hv
      simp only [execOp, ho, hx, hy, Sem.run_bind, run_eqGuard_int, Result.andThen_ok]
      cases op <;> simp [binInt] at hv <;> subst hv <;> refine ⟨_, ?_, .atom _⟩ <;> simp [binOp, Op.intArith, Op.intBits, Op.intCmp]
  · rename_i a b e1 e2
    rw [e1] at hx; rw [e2] at hy
    have hx := hx.atom_inv; have hy := hy.atom_inv
    simp only [execOp, ho, hx, hy, Sem.run_bind, run_eqGuard_str, Result.andThen_ok]
    cases op <;> simp only [binStr, Option.some.injEq, reduceCtorEq] at hv <;> subst hv <;> refine ⟨_, ?_, .atom _⟩ <;> simp [binOp, Op.stringOp]
  · rename_i a b e1 e2
    rw [e1] at hx; rw [e2] at hy
    have hx := hx.atom_inv; have hy := hy.atom_inv
    split at hv
    · rename_i ti hti
      cases hb : isBoolD ti.d with
      | false => simp [hb] at hv
      | true =>
        simp only [hb, cond_true] at hv
        have hu := (hT t ti hti).1
        rw [isBoolD_spec hb] at hu
        simp only [execOp, ho, hx, hy, Sem.run_bind, run_eqGuard_bool, Result.andThen_ok]
        cases op <;> simp only [binBool, Option.some.injEq, reduceCtorEq] at hv <;> subst hv <;> refine ⟨_, ?_, .atom _⟩ <;> simp [binOp, run_equal_bool _ _ _ _ hu]
    · cases hv
  · cases hv

theorem G_move {x : Operand} {pv : PV} (ho : o.op = .move x) (hv : strict (E x) = some pv) (h : Q pv st) : OpGoes P E st o Q :=
  OpGoes.still (fun K σ w ρ hR hE => ⟨ρ x, by simp [execOp, ho], strict_spec hv ▸ hE x⟩) h
theorem G_assign {x : Operand} {pv : PV} (ho : o.op = .assign x) (hv : strict (E x) = some pv) (h : Q pv st) : OpGoes P E st o Q :=
  OpGoes.still (fun K σ w ρ hR hE => ⟨ρ x, by simp [execOp, ho], strict_spec hv ▸ hE x⟩) h
theorem G_pick {c x y : Operand} {b : Bool} {pv : PV} (ho : o.op = .pick c x y) (hc : E c = .atom (.bool b)) (hv : strict (bif b then E x else E y) = some pv) (h : Q pv st) : OpGoes P E st o Q :=
  OpGoes.still (fun K σ w ρ hR hE => by
    have h1 := hE c
    rw [hc] at h1
    have h1 := h1.atom_inv
    have h2 := strict_spec hv
    refine ⟨if b then ρ x else ρ y, by simp [execOp, ho, h1, asBool], ?_⟩
    cases b
    · subst h2; exact hE y
    · subst h2; exact hE x) h

def xUn (op : UnOp) (x : PV) : Option PV :=
  match op, x with
  | .neg, .atom (.int k n) => some (.atom (.int k (k.wrap (0 - n))))
  | .not, .atom (.bool b) => some (.atom (.bool !b))
  | _, _ => none
theorem G_un {op : UnOp} {t : TypeId} {x : Operand} {pv : PV} (ho : o.op = .unOp op t x) (hv : xUn op (E x) = some pv) (h : Q pv st) : OpGoes P E st o Q := by
  refine OpGoes.still (fun K σ w ρ hR hE => ?_) h
  have hx := hE x
  unfold xUn at hv
  split at hv
  · rename_i k n e1
    rw [e1] at hx; have hx := hx.atom_inv
    simp at hv; subst hv
    exact ⟨_, by simp [execOp, ho, hx, Op.unary, Op.intArith], .atom _⟩
  · rename_i b e1
    rw [e1] at hx; have hx := hx.atom_inv
    simp at hv; subst hv
    exact ⟨_, by simp [execOp, ho, hx, Op.unary], .atom _⟩
  · cases hv

def intD : TypeDesc → Option IntKind
  | .int k => some k
  | _ => none
def isStrD : TypeDesc → Bool
  | .string => true
  | _ => false
theorem intD_spec {d : TypeDesc} {k : IntKind} (h : intD d = some k) : d = .int k := by cases d <;> simp [intD] at h; subst h; rfl
def xConv (T : TT) (src dst : TypeId) (x : PV) : Option PV :=
  match T src, T dst with
  | some a, some b =>
    match x with
    | .atom (.int _ n) => (match intD a.d, intD b.d with | some _, some k => some (.atom (.int k (k.wrap n))) | _, _ => none)
    | _ => none
  | _, _ => none
theorem G_conv (hT : TOk P T) {src dst : TypeId} {x : Operand} {pv : PV} (ho : o.op = .convert src dst x) (hv : xConv T src dst (E x) = some pv) (h : Q pv st) : OpGoes P E st o Q := by
  refine OpGoes.still (fun K σ w ρ hR hE => ?_) h
  have hx := hE x
  unfold xConv at hv
  split at hv
  · rename_i a b ha hb
    split at hv
    · rename_i k n e1
      rw [e1] at hx; have hx := hx.atom_inv
      split at hv
      · rename_i k1 k2 h1 h2
        simp at hv; subst hv
        have u1 := (hT src a ha).1
        have u2 := (hT dst b hb).1
        rw [intD_spec h1] at u1
        rw [intD_spec h2] at u2
        exact ⟨_, by simp [execOp, ho, hx, convert, run_underlying u1, run_underlying u2, Conv.intToInt], .atom _⟩
      · cases hv
    · cases hv
  · cases hv

def afld (a : Array Field) (i : Nat) : Option Field := lnth a.toList i
theorem afld_spec {a : Array Field} {i : Nat} {fl : Field} (h : afld a i = some fl) : a[i]? = some fl := by rw [afld, lnth_eq] at h; simpa using h
def structD : TypeDesc → Option (Array Field)
  | .struct fs => some fs
  | _ => none
theorem structD_spec {d : TypeDesc} {fs : Array Field} (h : structD d = some fs) : d = .struct fs := by cases d <;> simp [structD] at h; subst h; rfl

/-- The place of a field, if it has cells. -/
def fldOf (T : TT) (t : TypeId) (f : Nat) : Option (Nat × TypeId) :=
  match T t with
  | none => none
  | some ti => match structD ti.d with
    | none => none
    | some fs => match afld fs f with
      | none => none
      | some fl => match T fl.type with
        | none => none
        | some fi => bif Nat.beq fi.size 0 then none else some (fl.offset, fl.type)
theorem fldOf_spec (hT : TOk P T) {t : TypeId} {f : Nat} {off : Nat} {ft : TypeId} (h : fldOf T t f = some (off, ft)) :
    ∃ fs fl fi, P.underlying t = some (.struct fs) ∧ fs[f]? = some fl ∧ fl.offset = off ∧ fl.type = ft ∧ T ft = some fi ∧ fi.size ≠ 0 := by
  unfold fldOf at h
  split at h
  · cases h
  · rename_i ti hti
    split at h
    · cases h
    · rename_i fs hfs
      split at h
      · cases h
      · rename_i fl hfl
        split at h
        · cases h
        · rename_i fi hfi
          cases hz : Nat.beq fi.size 0 with
          | true => simp [hz] at h
          | false =>
            simp [hz] at h
            have hu := (hT t ti hti).1
            rw [structD_spec hfs] at hu
            exact ⟨fs, fl, fi, hu, afld_spec hfl, h.1, h.2, h.2 ▸ hfi, by intro hh; rw [hh] at hz; simp at hz⟩

def xField (T : TT) (t : TypeId) (f : Nat) (x : PV) : Option PV :=
  match fldOf T t f with
  | none => none
  | some (off, ft) => match x with
    | .agg cs => readT T ft cs off
    | _ => none
theorem VR.agg_inv {K : KH} {σ : Nat → Loc} {N : Nat} {cs : List PV} {v : Value} (h : VR K σ N (.agg cs) v) : ∃ vs, v = .agg vs ∧ vs.size = cs.length ∧ ∀ j p, cs[j]? = some p → VR K σ N p (rd vs j) := by
  cases h with
  | agg hl h => exact ⟨_, rfl, hl, h⟩
theorem VR.tup_inv {K : KH} {σ : Nat → Loc} {N : Nat} {cs : List PV} {v : Value} (h : VR K σ N (.tup cs) v) : ∃ vs, v = .tuple vs ∧ vs.size = cs.length ∧ ∀ j p, cs[j]? = some p → VR K σ N p (rd vs j) := by
  cases h with
  | tup hl h => exact ⟨_, rfl, hl, h⟩
theorem G_field (hT : TOk P T) {t : TypeId} {x : Operand} {f : Nat} {pv : PV} (ho : o.op = .field t x f) (hv : xField T t f (E x) = some pv) (h : Q pv st) : OpGoes P E st o Q := by
  refine OpGoes.still (fun K σ w ρ hR hE => ?_) h
  have hx := hE x
  unfold xField at hv
  split at hv
  · cases hv
  · rename_i off ft hf
    split at hv
    · rename_i cs e1
      rw [e1] at hx
      obtain ⟨vs, hvs, hl, hc⟩ := hx.agg_inv
      obtain ⟨fs, fl, fi, hu, hfl, ho1, ho2, _⟩ := fldOf_spec hT hf
      subst ho1; subst ho2
      obtain ⟨v, hr, hv'⟩ := run_part (P := P) hT hv w hl hc
      exact ⟨v, by simp [execOp, ho, hvs, Instr.field, run_underlying hu, hfl, asAgg, hr], hv'⟩
    · cases hv

def xFieldAddr (T : TT) (t : TypeId) (f : Nat) (x : PV) : Option PV :=
  match fldOf T t f with
  | none => none
  | some (off, ft) => match x with
    | .ptr i k o => some (.ptr i k (o + off))
    | .fptr sz n el k o => some (.fptr sz n el k (o + off))
    | _ => none
theorem add_spot (b o j : Nat) : (⟨b, o, none⟩ : Addr).add j = ⟨b, o + j, none⟩ := by unfold Addr.add; split <;> simp_all
theorem run_fieldPlace (hT : TOk P T) {fl : Field} {fi : TI} (hf : T fl.type = some fi) (hz : fi.size ≠ 0) (b o : Nat) (w : World) : (fieldPlace ⟨b, o, none⟩ fl).run P w = .ok ⟨b, o + fl.offset, none⟩ w := by
  simp [fieldPlace, run_sizeOf hT hf, hz, add_spot]
theorem G_fieldAddr (hT : TOk P T) {t : TypeId} {x : Operand} {f : Nat} {pv : PV} (ho : o.op = .fieldAddr t x f) (hv : xFieldAddr T t f (E x) = some pv) (h : Q pv st) : OpGoes P E st o Q := by
  refine OpGoes.still (fun K σ w ρ hR hE => ?_) h
  have hx := hE x
  unfold xFieldAddr at hv
  split at hv
  · cases hv
  · rename_i off ft hf
    obtain ⟨fs, fl, fi, hu, hfl, ho1, ho2, hfi, hz⟩ := fldOf_spec hT hf
    subst ho1; subst ho2
    split at hv
    · rename_i i k o' e1
      simp at hv; subst hv
      rw [e1] at hx
      generalize hg : ρ x = g at hx
      cases hx with
      | ptr hi =>
        refine ⟨_, by simp [execOp, ho, hg, Instr.fieldAt, run_underlying hu, hfl, Instr.sureAddr, run_fieldPlace hT hfi hz]; rfl, ?_⟩
        have := VR.ptr (K := K) (σ := σ) (N := st.length) (i := i) (k := k) (off := o' + fl.offset) hi
        rwa [← Nat.add_assoc] at this
    · rename_i sz n el k o' e1
      simp at hv; subst hv
      rw [e1] at hx
      generalize hg : ρ x = g at hx
      cases hx with
      | fptr hb hk hs hl hone hc =>
        refine ⟨_, by simp [execOp, ho, hg, Instr.fieldAt, run_underlying hu, hfl, Instr.sureAddr, run_fieldPlace hT hfi hz]; rfl, ?_⟩
        have := VR.fptr (K := K) (σ := σ) (N := st.length) (off := o' + fl.offset) hb hk hs hl hone hc
        rwa [← Nat.add_assoc] at this
    · cases hv

def xLoad (T : TT) (st : St) (t : TypeId) (x : PV) : Option PV :=
  match x with
  | .ptr i k off => (match st.get i with | some B => bif Nat.blt k B.n then readT T t (B.el k) off else none | none => none)
  | .fptr _ _ el k off => readT T t (el k) off
  | _ => none
theorem Rel.cells {K : KH} {σ : Nat → Loc} {w : World} (hR : Rel K σ st w) {i : Nat} {B : Blk} (hB : st.get i = some B) {k : Nat} (hk : k < B.n) :
    ∃ cur, w.heap[(σ i).blk]? = some (.cells cur B.e (0, 0)) ∧ (σ i).sz = B.sz ∧ (B.el k).length = B.sz ∧ (σ i).off + k * B.sz + (B.el k).length ≤ cur.size ∧ ∀ j p, (B.el k)[j]? = some p → VR K σ st.length p (rd cur ((σ i).off + k * B.sz + j)) := by
  rcases hR.own i B hB with ⟨_, h0⟩ | ⟨hreal, cur, h1, h2, h3, h4, h5⟩
  · omega
  have h6 := h4.2.2 k hk
  refine ⟨cur, h1, h3, h6.1, ?_, h6.2⟩
  have : (k + 1) * B.sz ≤ B.n * B.sz := Nat.mul_le_mul_right _ hk
  rw [Nat.succ_mul] at this
  have := h4.1
  omega
theorem G_load (hT : TOk P T) {t : TypeId} {x : Operand} {pv : PV} (ho : o.op = .load t x) (hv : xLoad T st t (E x) = some pv) (h : Q pv st) : OpGoes P E st o Q := by
  refine OpGoes.still (fun K σ w ρ hR hE => ?_) h
  have hx := hE x
  unfold xLoad at hv
  split at hv
  · rename_i i k off e1
    rw [e1] at hx
    split at hv
    · rename_i B hB
      cases hk : Nat.blt k B.n with
      | false => simp [hk] at hv
      | true =>
        simp only [hk, cond_true] at hv
        rw [Nat.blt_eq] at hk
        obtain ⟨cur, h1, h3, h6, h7, h8⟩ := hR.cells hB hk
        obtain ⟨v, hr, hv'⟩ := run_loadVar_cells (K := K) (σ := σ) (N := st.length) hT hv w (σ i).blk ((σ i).off + k * B.sz) cur h1 h7 h8
        generalize hg : ρ x = g at hx
        cases hx with
        | ptr hi => exact ⟨v, by simp [execOp, ho, hg, Instr.loadAt, Instr.sureAddr, h3, hr], hv'⟩
    · cases hv
  · rename_i sz n el k off e1
    rw [e1] at hx
    generalize hg : ρ x = g at hx
    cases hx with
    | fptr hb hk hs hl hone hc =>
      rename_i b o' cur
      obtain ⟨e, he⟩ := hR.kin _ _ hb
      have : (k + 1) * sz ≤ n * sz := Nat.mul_le_mul_right _ hk
      rw [Nat.succ_mul] at this
      obtain ⟨v, hr, hv'⟩ := run_loadVar_cells (K := K) (σ := σ) (N := 0) hT hv w b (o' + k * sz) cur he (by rw [hl k hk]; omega) (hc k hk)
      exact ⟨v, by simp [execOp, ho, hg, Instr.loadAt, Instr.sureAddr, hr], hv'.zero _ _⟩
  · cases hv

def xExtract (x : PV) (i : Nat) : Option PV :=
  match x with
  | .tup vs => (match lnth vs i with | some p => strict p | none => none)
  | .atom (.tuple vs) => (match vs[i]? with | some v => some (.atom v) | none => none)
  | _ => none
theorem G_extract {x : Operand} {i : Nat} {pv : PV} (ho : o.op = .extract x i) (hv : xExtract (E x) i = some pv) (h : Q pv st) : OpGoes P E st o Q := by
  refine OpGoes.still (fun K σ w ρ hR hE => ?_) h
  have hx := hE x
  unfold xExtract at hv
  split at hv
  · rename_i cs e1
    rw [e1] at hx
    obtain ⟨vs, hvs, hl, hc⟩ := hx.tup_inv
    split at hv
    · rename_i p hp
      rw [lnth_eq] at hp
      have h1 := hc i p hp
      rw [strict_spec hv] at h1
      have hlt : i < vs.size := by rw [hl]; exact (List.getElem?_eq_some_iff.1 hp).1
      exact ⟨rd vs i, by simp [execOp, ho, hvs, Instr.extract, rd, hlt], h1⟩
    · cases hv
  · rename_i vs e1
    rw [e1] at hx
    have hx := hx.atom_inv
    split at hv
    · rename_i v hv'
      simp at hv; subst hv
      exact ⟨v, by simp [execOp, ho, hx, Instr.extract, hv'], .atom _⟩
    · cases hv
  · cases hv

def xNil (x : PV) : Option PV :=
  match x with
  | .ptr i k off => some (.ptr i k off)
  | .fptr sz n el k off => some (.fptr sz n el k off)
  | .func f c => some (.func f c)
  | _ => none
theorem G_nilCheck {x : Operand} {pv : PV} (ho : o.op = .nilCheck x) (hv : xNil (E x) = some pv) (h : Q pv st) : OpGoes P E st o Q := by
  refine OpGoes.still (fun K σ w ρ hR hE => ?_) h
  have hx := hE x
  unfold xNil at hv
  split at hv <;> (try cases hv; done)
  all_goals
    rename_i e1
    simp at hv; subst hv
    rw [e1] at hx
    generalize hg : ρ x = g at hx
    cases hx
    refine ⟨_, by simp [execOp, ho, hg]; rfl, ?_⟩
    constructor <;> assumption

theorem G_makeFunc {g : FuncId} {cap : Array Operand} (ho : o.op = .makeFunc (.func g) #[] cap) (h : Q (.func g (cap.toList.map E)) st) : OpGoes P E st o Q := by
  refine OpGoes.still (fun K σ w ρ hR hE => ?_) h
  refine ⟨_, by simp [execOp, ho, Instr.makeFunc]; rfl, .func (by simp) (fun j p hp => ?_)⟩
  simp at hp
  obtain ⟨x, hx, rfl⟩ := hp
  have : rd (cap.map ρ) j = ρ x := by simp [rd, hx]
  rw [this]; exact hE x

/-! len, min, max -/
def xLen (x : PV) : Option PV :=
  match x with
  | .slc _ _ n => some (.atom (.int .i64 n))
  | .fz _ n _ => some (.atom (.int .i64 n))
  | .atom (.slice _ n _) => some (.atom (.int .i64 n))
  | _ => none
theorem VR.slice_len {K : KH} {σ : Nat → Loc} {N i k n : Nat} {v : Value} (h : VR K σ N (.slc i k n) v) : ∃ A c, v = .slice A n c ∧ n ≤ c ∧ c ≤ maxLen := by
  cases h with
  | slc hi hr ht hn hm => exact ⟨_, _, rfl, hn, hm⟩
  | slc0 A => exact ⟨_, _, rfl, Nat.le_refl _, by simp [maxLen]⟩
theorem VR.fz_len {K : KH} {σ : Nat → Loc} {N sz n : Nat} {el : Nat → List PV} {v : Value} (h : VR K σ N (.fz sz n el) v) : ∃ A c, v = .slice A n c ∧ n ≤ c ∧ c ≤ maxLen := by
  cases h with
  | fz hb hn hc hm => exact ⟨_, _, rfl, hc, hm⟩
  | fz0 A c hm => exact ⟨_, _, rfl, Nat.zero_le _, hm⟩
def sliceD : TypeDesc → Option TypeId
  | .slice e => some e
  | _ => none
theorem sliceD_spec {d : TypeDesc} {e : TypeId} (h : sliceD d = some e) : d = .slice e := by cases d <;> simp [sliceD] at h; subst h; rfl
theorem G_len (hT : TOk P T) {t : TypeId} {x : Operand} {pv : PV} {ti : TI} {e : TypeId} (ho : o.op = .call { callee := .builtin .len, args := #[x], argTypes := #[t] }) (ht : T t = some ti) (hs : sliceD ti.d = some e) (hv : xLen (E x) = some pv) (h : Q pv st) : OpGoes P E st o Q := by
  refine OpGoes.still (fun K σ w ρ hR hE => ?_) h
  have hx := hE x
  have hu := (hT t ti ht).1
  rw [sliceD_spec hs] at hu
  have key : ∀ A (n : Nat) c, ρ x = .slice A n c → ∃ v, (execOp ρ o).run P w = .ok (.value v) w ∧ VR K σ st.length (.atom (.int .i64 n)) v := by
    intro A n c hh
    exact ⟨_, by simp [execOp, ho, hh, resolve, invoke, builtin, Builtin.len_, run_underlying hu]; rfl, .atom _⟩
  unfold xLen at hv
  split at hv <;> (try cases hv; done)
  all_goals
    rename_i e1
    simp at hv; subst hv
    rw [e1] at hx
  · obtain ⟨A, c, hh, _⟩ := hx.slice_len; exact key _ _ _ hh
  · obtain ⟨A, c, hh, _⟩ := hx.fz_len; exact key _ _ _ hh
  · exact key _ _ _ hx.atom_inv
theorem G_lenStr (hT : TOk P T) {t : TypeId} {x : Operand} {s : ByteArray} {ti : TI} (ho : o.op = .call { callee := .builtin .len, args := #[x], argTypes := #[t] }) (ht : T t = some ti) (hs : isStrD ti.d = true) (hv : E x = .atom (.string s)) (h : Q (.atom (.int .i64 s.size)) st) : OpGoes P E st o Q := by
  refine OpGoes.still (fun K σ w ρ hR hE => ?_) h
  have hx := hE x
  rw [hv] at hx
  have hu := (hT t ti ht).1
  have : ti.d = .string := by cases hd : ti.d <;> simp [hd, isStrD] at hs; rfl
  rw [this] at hu
  exact ⟨_, by simp [execOp, ho, hx.atom_inv, resolve, invoke, builtin, Builtin.len_, run_underlying hu]; rfl, .atom _⟩

def ints : List PV → Option (List Int)
  | [] => some []
  | .atom (.int .i64 n) :: l => (match ints l with | some r => some (n :: r) | none => none)
  | _ => none
def lmin : Int → List Int → Int
  | x, [] => x
  | x, y :: l => lmin (if y < x then y else x) l
theorem ints_spec {K : KH} {σ : Nat → Loc} {N : Nat} {ρ : Operand → Value} (hE : ∀ x, VR K σ N (E x) (ρ x)) : ∀ {xs : List Operand} {l : List Int}, ints (xs.map E) = some l → xs.map ρ = l.map (Value.int .i64)
  | [], l, h => by simp [ints] at h; subst h; rfl
  | x :: xs, l, h => by
    have hx := hE x
    simp only [List.map_cons] at h ⊢
    generalize E x = p at h hx
    cases p with
    | atom v =>
      cases v with
      | int k n =>
        cases k <;> simp only [ints] at h <;> try cases h
        split at h
        · rename_i r hr
          simp at h; subst h
          rw [hx.atom_inv, ints_spec hE hr]; rfl
        · cases h
      | _ => simp [ints] at h
    | _ => simp [ints] at h
def lmax : Int → List Int → Int
  | x, [] => x
  | x, y :: l => lmax (if y > x then y else x) l
end
end Go.Sy
end
section
/- The operations that ask for something. -/
set_option linter.unusedVariables false
set_option linter.unusedSimpArgs false
set_option linter.unusedSectionVars false
namespace Go.Sy
open Go
variable [Globs]
section
variable {P : Program} {T : TT} {E : Operand → PV} {st : St} {o : Oper} {Q : PV → St → Prop}

def bnd (E : Operand → PV) : Option Operand → Int → Int → Prop
  | none, d, l => l = d
  | some y, _, l => ∃ kd, E y = .atom (.int kd l)
def bndV : Option Value → Int → Int → Prop
  | none, d, l => l = d
  | some y, _, l => ∃ kd, y = .int kd l
theorem toNat_lt {i : Int} {n : Nat} (h0 : 0 ≤ i) (h1 : i < n) : i.toNat < n := by omega

theorem G_index_fz (hT : TOk P T) {t e : TypeId} {ti te : TI} {x ix : Operand} {sz n : Nat} {el : Nat → List PV} {kd : IntKind} {i : Int} (ho : o.op = .indexAddr t x ix) (ht : T t = some ti) (hs : sliceD ti.d = some e) (he : T e = some te) (hsz : Nat.beq te.size sz = true)
    (hx : E x = .fz sz n el) (hi : E ix = .atom (.int kd i)) (h0 : 0 ≤ i) (h1 : i < n) (h : Q (.fptr sz n el i.toNat 0) st) : OpGoes P E st o Q := by
  refine OpGoes.still (fun K σ w ρ hR hE => ?_) h
  have vx := hE x; have vi := hE ix
  rw [hx] at vx; rw [hi] at vi
  have vi := vi.atom_inv
  have hu := (hT t ti ht).1
  rw [sliceD_spec hs] at hu
  have hse := Nat.eq_of_beq_eq_true hsz
  generalize hg : ρ x = g at vx
  cases vx with
  | fz hb hn hc hm hsl hl hone hcell =>
    refine ⟨_, ?_, VR.fptr hb (toNat_lt h0 h1) hsl hl hone hcell⟩
    simp [execOp, ho, hg, vi, Instr.indexAt, asIntOf, run_underlying hu, run_sizeOf hT he, h0, h1, add_spot, hse]
  | fz0 A cap hm => omega

theorem G_index_own (hT : TOk P T) {t e : TypeId} {ti te : TI} {x ix : Operand} {i0 k0 n : Nat} {B : Blk} {kd : IntKind} {i : Int} (ho : o.op = .indexAddr t x ix) (ht : T t = some ti) (hs : sliceD ti.d = some e) (he : T e = some te)
    (hx : E x = .slc i0 k0 n) (hB : st.get i0 = some B) (hsz : Nat.beq te.size B.sz = true) (hi : E ix = .atom (.int kd i)) (h0 : 0 ≤ i) (h1 : i < n) (h : Q (.ptr i0 (k0 + i.toNat) 0) st) : OpGoes P E st o Q := by
  refine OpGoes.still (fun K σ w ρ hR hE => ?_) h
  have vx := hE x; have vi := hE ix
  rw [hx] at vx; rw [hi] at vi
  have vi := vi.atom_inv
  have hu := (hT t ti ht).1
  rw [sliceD_spec hs] at hu
  have hse := Nat.eq_of_beq_eq_true hsz
  generalize hg : ρ x = g at vx
  cases vx with
  | slc hi' hr' ht' hn hm =>
    have h3 : (σ i0).sz = B.sz := by
      rcases hR.own i0 B hB with ⟨hf, _⟩ | ⟨_, cur, _, _, h3, _⟩
      · rw [hr'] at hf; cases hf
      · exact h3
    refine ⟨_, ?_, VR.ptr hi'⟩
    simp [execOp, ho, hg, vi, Instr.indexAt, asIntOf, run_underlying hu, run_sizeOf hT he, h0, h1, add_spot, hse, h3, Nat.add_mul, Nat.add_assoc]
  | slc0 A => omega

theorem G_index_arr (hT : TOk P T) {t e : TypeId} {len : Nat} {ti te : TI} {x ix : Operand} {i0 k0 off : Nat} {kd : IntKind} {i : Int} (ho : o.op = .indexAddr t x ix) (ht : T t = some ti) (hs : ti.d = .array len e) (he : T e = some te)
    (hx : E x = .ptr i0 k0 off) (hi : E ix = .atom (.int kd i)) (h0 : 0 ≤ i) (h1 : i < len) (h : Q (.ptr i0 k0 (off + i.toNat * te.size)) st) : OpGoes P E st o Q := by
  refine OpGoes.still (fun K σ w ρ hR hE => ?_) h
  have vx := hE x; have vi := hE ix
  rw [hx] at vx; rw [hi] at vi
  have vi := vi.atom_inv
  have hu := (hT t ti ht).1
  rw [hs] at hu
  generalize hg : ρ x = g at vx
  cases vx with
  | ptr hi' =>
    refine ⟨_, ?_, VR.ptr hi'⟩
    simp [execOp, ho, hg, vi, Instr.indexAt, asIntOf, run_underlying hu, run_sizeOf hT he, Instr.sureAddr, h0, h1, add_spot, Nat.add_assoc]

def byteAt (s : ByteArray) (i : Int) : Int := ((s.data.getD i.toNat 0).toNat : Int)
theorem G_index_str (hT : TOk P T) {t : TypeId} {ti : TI} {x ix : Operand} {s : ByteArray} {kd : IntKind} {i : Int} (ho : o.op = .index t x ix) (ht : T t = some ti) (hs : isStrD ti.d = true)
    (hx : E x = .atom (.string s)) (hi : E ix = .atom (.int kd i)) (h0 : 0 ≤ i) (h1 : i < s.size) (h : Q (.atom (.int .u8 (byteAt s i))) st) : OpGoes P E st o Q := by
  refine OpGoes.still (fun K σ w ρ hR hE => ?_) h
  have vx := hE x; have vi := hE ix
  rw [hx] at vx; rw [hi] at vi
  have hu := (hT t ti ht).1
  have : ti.d = .string := by cases hd : ti.d <;> simp [hd, isStrD] at hs; rfl
  rw [this] at hu
  have hlt : i.toNat < s.size := by omega
  have hlt' : i.toNat < s.data.size := hlt
  have hb : s[i.toNat]? = some s[i.toNat] := by simp [hlt]
  refine ⟨_, ?_, .atom _⟩
  simp [execOp, ho, vx.atom_inv, vi.atom_inv, Instr.index, asIntOf, run_underlying hu, h0, hb]
  have e2 : (s.data[i.toNat]?).getD 0 = s.data[i.toNat] := by rw [Array.getElem?_eq_getElem hlt']; rfl
  simp only [byteAt, Array.getD_eq_getD_getElem?, e2]
  rfl

theorem isStrD_spec {d : TypeDesc} (hs : isStrD d = true) : d = .string := by cases hd : d <;> simp [hd, isStrD] at hs; rfl

/-- A cut of a string. -/
theorem G_slice_str (hT : TOk P T) {t : TypeId} {ti : TI} {x : Operand} {lo hi : Option Operand} {s : ByteArray} {l h : Int} (ho : o.op = .slice t x lo hi none) (ht : T t = some ti) (hs : isStrD ti.d = true) (hx : E x = .atom (.string s))
    (hlo : bnd E lo 0 l) (hhi : bnd E hi s.size h) (h0 : 0 ≤ l) (h1 : l ≤ h) (h2 : h ≤ s.size)
    (hq : Q (.atom (.string (s.extract l.toNat h.toNat))) st) : OpGoes P E st o Q := by
  refine OpGoes.still (fun K σ w ρ hR hE => ?_) hq
  have vx := hE x
  rw [hx] at vx
  have hu := (hT t ti ht).1
  rw [isStrD_spec hs] at hu
  have eh : (h.toNat : Int) = h := Int.toNat_of_nonneg (by omega)
  have eh0 : 0 ≤ h := by omega
  refine ⟨_, ?_, .atom _⟩
  cases lo with
  | none =>
    simp only [bnd, bndV] at hlo
    subst hlo
    cases hi with
    | none =>
      simp only [bnd, bndV] at hhi
      subst hhi
      simp [execOp, ho, vx.atom_inv, Instr.sliceAt, Instr.slice, run_underlying hu, Instr.sliceBounds]
    | some y =>
      obtain ⟨kd, hy⟩ := hhi
      have vy := hE y
      rw [hy] at vy
      simp [execOp, ho, vx.atom_inv, vy.atom_inv, Instr.sliceAt, Instr.slice, run_underlying hu, Instr.sliceBounds, run_sliceBound, h2, eh0]
  | some z =>
    obtain ⟨kz, hz⟩ := hlo
    have vz := hE z
    rw [hz] at vz
    cases hi with
    | none =>
      simp only [bnd, bndV] at hhi
      subst hhi
      simp [execOp, ho, vx.atom_inv, vz.atom_inv, Instr.sliceAt, Instr.slice, run_underlying hu, Instr.sliceBounds, run_sliceBound, h1, h0]
    | some y =>
      obtain ⟨kd, hy⟩ := hhi
      have vy := hE y
      rw [hy] at vy
      simp [execOp, ho, vx.atom_inv, vy.atom_inv, vz.atom_inv, Instr.sliceAt, Instr.slice, run_underlying hu, Instr.sliceBounds, run_sliceBound, h2, eh0, h0, eh, h1]

/-- A cut of a slice: the bounds. -/
theorem run_cut (hT : TOk P T) {t e : TypeId} {ti te : TI} (ht : T t = some ti) (hs : sliceD ti.d = some e) (he : T e = some te) (w : World) (A : Option Addr) (n c : Nat) (hc : n ≤ c) {lo hi : Option Value} {l h : Int}
    (hlo : bndV lo 0 l) (hhi : bndV hi n h) (h0 : 0 ≤ l) (h1 : l ≤ h) (h2 : h ≤ c) :
    (Instr.sliceAt t (.slice A n c) lo hi none).run P w = .ok (.slice (if c = l.toNat then A else A.map (·.add (l.toNat * te.size))) (h.toNat - l.toNat) (c - l.toNat)) w := by
  have hu := (hT t ti ht).1
  rw [sliceD_spec hs] at hu
  have eh : (h.toNat : Int) = h := Int.toNat_of_nonneg (by omega)
  have eh0 : 0 ≤ h := by omega
  have hh : h ≤ c := by omega
  cases lo with
  | none =>
    simp only [bnd, bndV] at hlo
    subst hlo
    cases hi with
    | none =>
      simp only [bnd, bndV] at hhi
      subst hhi
      simp [Instr.sliceAt, Instr.slice, run_underlying hu, Instr.sliceBounds, run_sizeOf hT he]
    | some y =>
      obtain ⟨kd, rfl⟩ := hhi
      simp [Instr.sliceAt, Instr.slice, run_underlying hu, Instr.sliceBounds, run_sliceBound, hh, eh0, run_sizeOf hT he]
  | some z =>
    obtain ⟨kz, rfl⟩ := hlo
    cases hi with
    | none =>
      simp only [bnd, bndV] at hhi
      subst hhi
      simp [Instr.sliceAt, Instr.slice, run_underlying hu, Instr.sliceBounds, run_sliceBound, h1, h0, run_sizeOf hT he]
    | some y =>
      obtain ⟨kd, rfl⟩ := hhi
      simp [Instr.sliceAt, Instr.slice, run_underlying hu, Instr.sliceBounds, run_sliceBound, hh, eh0, h0, eh, h1, run_sizeOf hT he]

theorem ev_bound {K : KH} {σ : Nat → Loc} {N : Nat} {ρ : Operand → Value} (hE : ∀ x, VR K σ N (E x) (ρ x)) {lo : Option Operand} {l d : Int} (hlo : bnd E lo d l) : bndV (lo.map ρ) d l := by
  cases lo with
  | none => exact hlo
  | some y =>
    obtain ⟨kd, hy⟩ := hlo
    have vy := hE y
    rw [hy] at vy
    exact ⟨kd, vy.atom_inv⟩

theorem VR.fz_cut {K : KH} {σ : Nat → Loc} {N sz n : Nat} {el : Nat → List PV} {A : Option Addr} {c : Nat} (hv : VR K σ N (.fz sz n el) (.slice A n c)) {l h : Nat} (h1 : l ≤ h) (h2 : h ≤ n) :
    VR K σ N (.fz sz (h - l) fun k => el (l + k)) (.slice (if c = l then A else A.map (·.add (l * sz))) (h - l) (c - l)) := by
  obtain ⟨A', c', he, hc', hm⟩ := hv.fz_len
  cases he
  by_cases hz : h - l = 0
  · rw [hz]
    exact .fz0 _ _ (by omega)
  · have hcl : c ≠ l := by omega
    cases hv with
    | fz hb hn hc hm hsl hl hone hcell =>
      rename_i b o cur
      rw [if_neg hcl]
      simp only [Option.map_some, add_spot]
      have hmul : l * sz + (h - l) * sz ≤ n * sz := by rw [← Nat.add_mul]; exact Nat.mul_le_mul_right _ (by omega)
      refine .fz hb (by omega) (by omega) (by omega) (by omega) (fun k hk => hl _ (by omega)) (fun k j hk hj => ?_) (fun k hk j p hp => ?_)
      · have := hone (l + k) j (by omega) hj
        rwa [Nat.add_mul, ← Nat.add_assoc] at this
      have := hcell (l + k) (by omega) j p hp
      rwa [Nat.add_mul, ← Nat.add_assoc] at this
    | fz0 A cap hm => omega

theorem G_slice_fz (hT : TOk P T) {t e : TypeId} {ti te : TI} {x : Operand} {lo hi : Option Operand} {sz n : Nat} {el : Nat → List PV} {l h : Int} (ho : o.op = .slice t x lo hi none) (ht : T t = some ti) (hs : sliceD ti.d = some e) (he : T e = some te) (hsz : Nat.beq te.size sz = true)
    (hx : E x = .fz sz n el) (hlo : bnd E lo 0 l) (hhi : bnd E hi n h) (h0 : 0 ≤ l) (h1 : l ≤ h) (h2 : h ≤ n)
    (hq : Q (.fz sz (h.toNat - l.toNat) fun k => el (l.toNat + k)) st) : OpGoes P E st o Q := by
  refine OpGoes.still (fun K σ w ρ hR hE => ?_) hq
  have vx := hE x
  rw [hx] at vx
  have hse := Nat.eq_of_beq_eq_true hsz
  obtain ⟨A, c, hr, hc, hm⟩ := vx.fz_len
  have hrun := run_cut (P := P) hT ht hs he w A n c hc (ev_bound hE hlo) (ev_bound hE hhi) h0 h1 (by omega)
  refine ⟨_, by simp only [execOp, ho, Sem.run_bind, hr, Option.map_none, hrun, Result.andThen_ok, Sem.run_pure]; rfl, ?_⟩
  rw [hr] at vx
  rw [hse]
  exact vx.fz_cut (by omega) (by omega)

theorem VR.slc_cut {K : KH} {σ : Nat → Loc} {N i k n : Nat} {A : Option Addr} {c s : Nat} (hs : (σ i).real = true → (σ i).sz = s) (hv : VR K σ N (.slc i k n) (.slice A n c)) {l h : Nat} (h1 : l ≤ h) (h2 : h ≤ c) :
    VR K σ N (.slc i (k + l) (h - l)) (.slice (if c = l then A else A.map (·.add (l * s))) (h - l) (c - l)) := by
  cases hv with
  | slc hi hr ht hn hm =>
    by_cases hcl : c = l
    · have : h - l = 0 := by omega
      rw [if_pos hcl, this, hcl, Nat.sub_self]
      exact .slc0 _
    · rw [if_neg hcl, ← hs hr]
      simp only [Option.map_some, add_spot]
      have := VR.slc (K := K) (N := N) (σ := σ) (i := i) (k := k + l) (n := h - l) (cap := c - l) hi hr (by rw [← ht]; congr 2; omega) (by omega) (by omega)
      rwa [Nat.add_mul, ← Nat.add_assoc] at this
  | slc0 A =>
    have e1 : l = 0 := by omega
    have e2 : h = 0 := by omega
    subst e1; subst e2
    exact .slc0 _
theorem Rel.szOf {K : KH} {σ : Nat → Loc} {w : World} (hR : Rel K σ st w) {i : Nat} {B : Blk} (hB : st.get i = some B) (hr : (σ i).real = true) : (σ i).sz = B.sz := by
  rcases hR.own i B hB with ⟨hf, _⟩ | ⟨_, cur, _, _, h3, _⟩
  · rw [hr] at hf; cases hf
  · exact h3
theorem G_slice_own (hT : TOk P T) {t e : TypeId} {ti te : TI} {x : Operand} {lo hi : Option Operand} {i0 k0 n : Nat} {B : Blk} {l h : Int} (ho : o.op = .slice t x lo hi none) (ht : T t = some ti) (hs : sliceD ti.d = some e) (he : T e = some te)
    (hx : E x = .slc i0 k0 n) (hB : st.get i0 = some B) (hsz : Nat.beq te.size B.sz = true) (hlo : bnd E lo 0 l) (hhi : bnd E hi n h) (h0 : 0 ≤ l) (h1 : l ≤ h) (h2 : h ≤ n)
    (hq : Q (.slc i0 (k0 + l.toNat) (h.toNat - l.toNat)) st) : OpGoes P E st o Q := by
  refine OpGoes.still (fun K σ w ρ hR hE => ?_) hq
  have vx := hE x
  rw [hx] at vx
  have hse := Nat.eq_of_beq_eq_true hsz
  obtain ⟨A, c, hr, hc, hm⟩ := vx.slice_len
  have hrun := run_cut (P := P) hT ht hs he w A n c hc (ev_bound hE hlo) (ev_bound hE hhi) h0 h1 (by omega)
  refine ⟨_, by simp only [execOp, ho, Sem.run_bind, hr, Option.map_none, hrun, Result.andThen_ok, Sem.run_pure]; rfl, ?_⟩
  rw [hr] at vx
  rw [hse]
  exact vx.slc_cut (hR.szOf hB) (by omega) (by omega)
theorem G_concat {t t2 : TypeId} {x y : Operand} {a b : ByteArray} (ho : o.op = .binOp .add t x y t2) (hx : E x = .atom (.string a)) (hy : E y = .atom (.string b)) (hb : a.size + b.size ≤ 9223372036854775807) (h : Q (.atom (.string (a ++ b))) st) : OpGoes P E st o Q := by
  refine OpGoes.still (fun K σ w ρ hR hE => ?_) h
  have vx := hE x; have vy := hE y
  rw [hx] at vx; rw [hy] at vy
  have : ¬ (((a.size + b.size : Nat) : Int) > IntKind.i64.max) := by simp only [IntKind.max, IntKind.signed, IntKind.bits]; simp; omega
  refine ⟨.string (a ++ b), ?_, .atom _⟩
  simp only [execOp, ho, vx.atom_inv, vy.atom_inv, Sem.run_bind, run_eqGuard_str, Result.andThen_ok, binOp, Op.stringOp]
  rw [if_neg this]; rfl

theorem G_quo {t t2 : TypeId} {x y : Operand} {k : IntKind} {a b : Int} (ho : o.op = .binOp .quo t x y t2) (hx : E x = .atom (.int k a)) (hy : E y = .atom (.int k b)) (hb : b ≠ 0) (h : Q (.atom (.int k (k.wrap (a.tdiv b)))) st) : OpGoes P E st o Q := by
  refine OpGoes.still (fun K σ w ρ hR hE => ?_) h
  have vx := hE x; have vy := hE y
  rw [hx] at vx; rw [hy] at vy
  exact ⟨_, by simp [execOp, ho, vx.atom_inv, vy.atom_inv, eqGuard, binOp, Op.intDiv, hb], .atom _⟩
theorem G_rem {t t2 : TypeId} {x y : Operand} {k : IntKind} {a b : Int} (ho : o.op = .binOp .rem t x y t2) (hx : E x = .atom (.int k a)) (hy : E y = .atom (.int k b)) (hb : b ≠ 0) (h : Q (.atom (.int k (a.tmod b))) st) : OpGoes P E st o Q := by
  refine OpGoes.still (fun K σ w ρ hR hE => ?_) h
  have vx := hE x; have vy := hE y
  rw [hx] at vx; rw [hy] at vy
  exact ⟨_, by simp [execOp, ho, vx.atom_inv, vy.atom_inv, eqGuard, binOp, Op.intDiv, hb], .atom _⟩
theorem G_shl {t t2 : TypeId} {x y : Operand} {k k' : IntKind} {a b : Int} (ho : o.op = .binOp .shl t x y t2) (hx : E x = .atom (.int k a)) (hy : E y = .atom (.int k' b)) (hb : 0 ≤ b) (h : Q (.atom (.int k (k.wrap (a * 2 ^ (min b.toNat k.bits))))) st) : OpGoes P E st o Q := by
  refine OpGoes.still (fun K σ w ρ hR hE => ?_) h
  have vx := hE x; have vy := hE y
  rw [hx] at vx; rw [hy] at vy
  have : ¬ b < 0 := by omega
  exact ⟨_, by simp [execOp, ho, vx.atom_inv, vy.atom_inv, eqGuard, binOp, Op.shift, this], .atom _⟩
theorem G_shr {t t2 : TypeId} {x y : Operand} {k k' : IntKind} {a b : Int} (ho : o.op = .binOp .shr t x y t2) (hx : E x = .atom (.int k a)) (hy : E y = .atom (.int k' b)) (hb : 0 ≤ b) (h : Q (.atom (.int k (a.fdiv (2 ^ (min b.toNat k.bits))))) st) : OpGoes P E st o Q := by
  refine OpGoes.still (fun K σ w ρ hR hE => ?_) h
  have vx := hE x; have vy := hE y
  rw [hx] at vx; rw [hy] at vy
  have : ¬ b < 0 := by omega
  exact ⟨_, by simp [execOp, ho, vx.atom_inv, vy.atom_inv, eqGuard, binOp, Op.shift, this], .atom _⟩

theorem run_min_list (w : World) : ∀ (l : List Int) (x : Int), ((l.map (Value.int .i64)).foldlM Builtin.min2 (.int .i64 x)).run P w = .ok (.int .i64 (lmin x l)) w
  | [], x => by simp [lmin]
  | y :: l, x => by simp [lmin, Builtin.min2, run_min_list w l]
theorem run_max_list (w : World) : ∀ (l : List Int) (x : Int), ((l.map (Value.int .i64)).foldlM Builtin.max2 (.int .i64 x)).run P w = .ok (.int .i64 (lmax x l)) w
  | [], x => by simp [lmax]
  | y :: l, x => by simp [lmax, Builtin.max2, run_max_list w l]
theorem G_min {args : Array Operand} {ts : Array TypeId} {x : Int} {l : List Int} (ho : o.op = .call { callee := .builtin .min, args := args, argTypes := ts }) (hl : ints (args.toList.map E) = some (x :: l)) (h : Q (.atom (.int .i64 (lmin x l))) st) : OpGoes P E st o Q := by
  refine OpGoes.still (fun K σ w ρ hR hE => ?_) h
  have := ints_spec hE hl
  have e : (args.map ρ).toList = (x :: l).map (Value.int .i64) := by simpa using this
  refine ⟨_, ?_, .atom _⟩
  simp only [execOp, ho, resolve, invoke, builtin, Builtin.min_, Sem.run_bind, Sem.run_pure, Result.andThen_ok, e, List.map_cons, run_min_list]
theorem G_max {args : Array Operand} {ts : Array TypeId} {x : Int} {l : List Int} (ho : o.op = .call { callee := .builtin .max, args := args, argTypes := ts }) (hl : ints (args.toList.map E) = some (x :: l)) (h : Q (.atom (.int .i64 (lmax x l))) st) : OpGoes P E st o Q := by
  refine OpGoes.still (fun K σ w ρ hR hE => ?_) h
  have := ints_spec hE hl
  have e : (args.map ρ).toList = (x :: l).map (Value.int .i64) := by simpa using this
  refine ⟨_, ?_, .atom _⟩
  simp only [execOp, ho, resolve, invoke, builtin, Builtin.max_, Sem.run_bind, Sem.run_pure, Result.andThen_ok, e, List.map_cons, run_max_list]

/-- Loading from an owned block at a place that is not written out. -/
theorem G_load_own (hT : TOk P T) {t : TypeId} {x : Operand} {i k off : Nat} {B : Blk} {cs : List PV} {pv : PV} (ho : o.op = .load t x) (hx : E x = .ptr i k off) (hB : st.get i = some B) (hk : k < B.n) (hc : B.el k = cs) (hv : readT T t cs off = some pv) (h : Q pv st) : OpGoes P E st o Q := by
  refine G_load hT ho ?_ h
  unfold xLoad
  rw [hx, ]
  simp only [hB]
  rw [show Nat.blt k B.n = true by rw [Nat.blt_eq]; exact hk, hc]
  exact hv

/-! a struct of whole numbers, compared -/
theorem aggInts {K : KH} {σ : Nat → Loc} {N : Nat} : ∀ {cs : List PV} {l : List Int}, ints cs = some l → ∀ {vs : Array Value}, vs.size = cs.length → (∀ j p, cs[j]? = some p → VR K σ N p (rd vs j)) → vs = (l.map (Value.int .i64)).toArray := by
  have key : ∀ {cs : List PV} {l : List Int}, ints cs = some l → cs.length = l.length ∧ ∀ (j : Nat) (n : Int), l[j]? = some n → cs[j]? = some (PV.atom (.int .i64 n)) := by
    intro cs
    induction cs with
    | nil => intro l h; simp [ints] at h; subst h; simp
    | cons p cs ih =>
      intro l h
      cases p with
      | atom v =>
        cases v with
        | int k n =>
          cases k <;> simp only [ints] at h <;> try cases h
          split at h
          · rename_i r hr
            simp at h; subst h
            obtain ⟨h1, h2⟩ := ih hr
            refine ⟨by simp [h1], fun j m hj => ?_⟩
            cases j with
            | zero => simp at hj; subst hj; rfl
            | succ j => simp at hj ⊢; exact h2 j m hj
          · cases h
        | _ => simp [ints] at h
      | _ => simp [ints] at h
  intro cs l h vs hl hc
  obtain ⟨h1, h2⟩ := key h
  apply Array.ext
  · simp [hl, h1]
  · intro j hj1 hj2
    simp at hj2
    have h3 := h2 j l[j] (by simp [hj2])
    have h4 := (hc j _ h3).atom_inv
    simp [rd, hj1] at h4
    simp [h4]

theorem run_equal_ifaceNil (w : World) {t : TypeId} {ms : Array (String × TypeId)} (hu : P.underlying t = some (.interface ms)) (t' : TypeId) (v : Value) : (Op.equal t (.iface t' v) .nilIface).run P w = .ok false w := by
  rw [Op.equal, show Op.maxDepth = 9999 + 1 from rfl]; generalize 9999 = d; simp [Op.equalIn, run_underlying hu]
theorem run_equal_nilNil (w : World) {t : TypeId} {ms : Array (String × TypeId)} (hu : P.underlying t = some (.interface ms)) : (Op.equal t .nilIface .nilIface).run P w = .ok true w := by
  rw [Op.equal, show Op.maxDepth = 9999 + 1 from rfl]; generalize 9999 = d; simp [Op.equalIn, run_underlying hu]
theorem binOp_eql_iface (t t' : TypeId) (v : Value) : binOp .eql t (.iface t' v) .nilIface = (do pure (.bool (← Op.equal t (.iface t' v) .nilIface))) := rfl
theorem binOp_neq_iface (t t' : TypeId) (v : Value) : binOp .neq t (.iface t' v) .nilIface = (do pure (.bool (!(← Op.equal t (.iface t' v) .nilIface)))) := rfl
theorem binOp_eql_nil (t : TypeId) : binOp .eql t .nilIface .nilIface = (do pure (.bool (← Op.equal t .nilIface .nilIface))) := rfl
theorem binOp_neq_nil (t : TypeId) : binOp .neq t .nilIface .nilIface = (do pure (.bool (!(← Op.equal t .nilIface .nilIface)))) := rfl
def isIfaceD : TypeDesc → Bool
  | .interface _ => true
  | _ => false
def xIface : PV → Option Bool
  | .iface _ _ => some false
  | .atom .nilIface => some true
  | _ => none
def xNilOp : BinOp → Bool → Option Bool
  | .eql, b => some b
  | .neq, b => some (!b)
  | _, _ => none
theorem G_ifaceNil (hT : TOk P T) {op : BinOp} {t t2 : TypeId} {x : Operand} {ti : TI} {r b : Bool} (ho : o.op = .binOp op t x (.const .nilIface) t2) (ht : T t = some ti) (hd : isIfaceD ti.d = true)
    (hx : xIface (E x) = some b) (hE' : E (.const .nilIface) = .atom .nilIface) (hop : xNilOp op b = some r) (h : Q (.atom (.bool r)) st) : OpGoes P E st o Q := by
  refine OpGoes.still (fun K σ w ρ hR hE => ?_) h
  have vx := hE x; have vy := hE (.const .nilIface)
  rw [hE'] at vy
  have vy := vy.atom_inv
  have hu := (hT t ti ht).1
  obtain ⟨ms, hms⟩ : ∃ ms, ti.d = .interface ms := by cases hh : ti.d <;> simp [hh, isIfaceD] at hd; exact ⟨_, rfl⟩
  rw [hms] at hu
  refine ⟨.bool r, ?_, .atom _⟩
  have hgd : ∀ v, (eqGuard op t x (.const .nilIface) v .nilIface).run P w = .ok () w := by
    intro v
    unfold eqGuard
    cases op <;> cases v <;> simp
  generalize hp : E x = p at hx vx
  cases p with
  | iface t' q =>
    simp only [xIface, Option.some.injEq] at hx
    subst hx
    generalize hg : ρ x = g at vx
    cases vx with
    | iface hv =>
      simp only [execOp, ho, hg, vy, Sem.run_bind, hgd, Result.andThen_ok]
      cases op <;> simp only [xNilOp, Option.some.injEq, reduceCtorEq] at hop <;> subst hop
      · simp only [binOp_eql_iface, Sem.run_bind, run_equal_ifaceNil w hu, Result.andThen_ok, Sem.run_pure]
      · simp only [binOp_neq_iface, Sem.run_bind, run_equal_ifaceNil w hu, Result.andThen_ok, Sem.run_pure]
  | atom v =>
    cases v <;> simp only [xIface, reduceCtorEq, Option.some.injEq] at hx
    subst hx
    simp only [execOp, ho, vx.atom_inv, vy, Sem.run_bind, hgd, Result.andThen_ok]
    cases op <;> simp only [xNilOp, Option.some.injEq, reduceCtorEq] at hop <;> subst hop
    · simp only [binOp_eql_nil, Sem.run_bind, run_equal_nilNil w hu, Result.andThen_ok, Sem.run_pure]
    · simp only [binOp_neq_nil, Sem.run_bind, run_equal_nilNil w hu, Result.andThen_ok, Sem.run_pure]
  | _ => simp [xIface] at hx
end
end Go.Sy
end
section
/- The operations that make and change memory. -/
set_option linter.unusedVariables false
set_option linter.unusedSimpArgs false
set_option linter.unusedSectionVars false
namespace Go.Sy
open Go Go.RowKit
variable [Globs]

def sx (σ : Nat → Loc) (n : Nat) (L : Loc) : Nat → Loc := fun i => if i = n then L else σ i
theorem sx_old {σ : Nat → Loc} {n : Nat} {L : Loc} {i : Nat} (h : i < n) : sx σ n L i = σ i := by simp [sx, Nat.ne_of_lt h]
theorem sx_new (σ : Nat → Loc) (n : Nat) (L : Loc) : sx σ n L n = L := by simp [sx]

theorem Rel.klt {K : KH} {σ : Nat → Loc} {st : St} {w : World} (hR : Rel K σ st w) {b : Nat} {cur : Array Value} (h : K b = some cur) : b < w.heap.size := by
  obtain ⟨e, he⟩ := hR.kin b cur h
  exact (Array.getElem?_eq_some_iff.1 he).1
theorem Rel.blt {K : KH} {σ : Nat → Loc} {st : St} {w : World} (hR : Rel K σ st w) {i : Nat} {B : Blk} (hB : st.get i = some B) (hr : (σ i).real = true) : (σ i).blk < w.heap.size := by
  rcases hR.own i B hB with ⟨hf, _⟩ | ⟨_, cur, he, _⟩
  · rw [hr] at hf; cases hf
  · exact (Array.getElem?_eq_some_iff.1 he).1

/-- A new block of the state's own. -/
theorem Rel.push {K : KH} {σ : Nat → Loc} {st : St} {w w' : World} (hR : Rel K σ st w) (hb : Below w.heap.size w w') {L : Loc} {B : Blk} (hro : B.ro = false)
    (hL : L.real = true → w.heap.size ≤ L.blk ∧ ∃ cur, w'.heap[L.blk]? = some (.cells cur B.e (0, 0)) ∧ cur.size = L.tot ∧ L.sz = B.sz ∧ Holds K σ st.length B.sz B.n B.el cur L.off) (hP : L.real = false → B.n = 0) (hfu : B.full = false := by first | rfl | assumption) :
    Rel K (sx σ st.length L) (st ++ [some B]) w' ∧ Ext K σ st w K (sx σ st.length L) (st ++ [some B]) w' := by
  have hsig : ∀ i, i < st.length → sx σ st.length L i = σ i := fun i hi => sx_old hi
  have hlen : st.length ≤ (st ++ [some B]).length := by simp
  have hblk : ∀ i C, st.get i = some C → (σ i).real = true → w'.heap[(σ i).blk]? = w.heap[(σ i).blk]? := fun i C hC hr => hb.block _ (hR.blt hC hr)
  refine ⟨⟨fun b cur hk => ?_, fun i C hC => ?_, fun i j C D hC hD h1 h2 he => ?_, hR.gl, fun i C hC hf hr => by
    rcases St.get_push_cases hC with hC | ⟨_, hBC⟩
    · rw [hsig i (St.get_lt hC)] at hr ⊢; exact hR.fl i C hC hf hr
    · cases hBC; rw [hfu] at hf; cases hf⟩, ⟨fun _ _ h => h, hsig, hlen, hb.os, hb.tape, hb.output, hb.size, fun i C hC hr hl => ?_, fun k hk _ => hb.block k hk, fun b cur h => .inl h⟩⟩
  · obtain ⟨e, he⟩ := hR.kin b cur hk
    exact ⟨e, (hb.block b (hR.klt hk)).trans he⟩
  · rcases St.get_push_cases hC with hC | ⟨rfl, hBC⟩
    · rw [hsig i (St.get_lt hC)]
      rcases hR.own i C hC with h | ⟨hr, cur, h1, h2, h3, h4, h5⟩
      · exact .inl h
      · exact .inr ⟨hr, cur, (hblk i C hC hr).trans h1, h2, h3, h4.mono (fun _ _ h => h) hsig hlen, h5⟩
    · cases hBC
      rw [sx_new]
      cases hr : L.real with
      | false => exact .inl ⟨rfl, hP hr⟩
      | true =>
        obtain ⟨hs, cur, h1, h2, h3, h4⟩ := hL hr
        refine .inr ⟨rfl, cur, h1, h2, h3, h4.mono (fun _ _ h => h) hsig hlen, ?_⟩
        rw [hro]
        cases hk : K L.blk with
        | none => rfl
        | some c => have := hR.klt hk; omega
  · rcases St.get_push_cases hC with hC | ⟨rfl, hBC⟩ <;> rcases St.get_push_cases hD with hD | ⟨rfl, hBD⟩
    · rw [hsig i (St.get_lt hC)] at h1 he
      rw [hsig j (St.get_lt hD)] at h2 he
      exact hR.sep i j C D hC hD h1 h2 he
    · rw [hsig i (St.get_lt hC)] at h1 he
      rw [sx_new] at h2 he
      have := hR.blt hC h1
      have := (hL h2).1
      omega
    · rw [hsig j (St.get_lt hD)] at h2 he
      rw [sx_new] at h1 he
      have := hR.blt hD h2
      have := (hL h1).1
      omega
    · rfl
  · rcases St.get_push_cases hC with hC | ⟨rfl, hBC⟩
    · rw [hsig i (St.get_lt hC)] at hl ⊢
      exact .inl ⟨i, C, hC, hr, hl, rfl⟩
    · rw [sx_new] at hl ⊢
      exact .inr (hL hl).1

/-- Another content of a block of the state's own. -/
theorem Rel.set {K : KH} {σ : Nat → Loc} {st : St} {w w' : World} (hR : Rel K σ st w) {i : Nat} {B B' : Blk} (hB : st.get i = some B) (hro : B.ro = false) (hro' : B'.ro = false) (hr : (σ i).real = true)
    (os : w'.os = w.os) (tape : w'.tape = w.tape) (output : w'.output = w.output) (size : w'.heap.size = w.heap.size) (hoth : ∀ k, k ≠ (σ i).blk → w'.heap[k]? = w.heap[k]?)
    {cur : Array Value} (h1 : w'.heap[(σ i).blk]? = some (.cells cur B'.e (0, 0))) (h2 : cur.size = (σ i).tot) (h3 : (σ i).sz = B'.sz) (h4 : Holds K σ st.length B'.sz B'.n B'.el cur (σ i).off) (hfu : B'.full = true → (σ i).off + B'.n * (σ i).sz = (σ i).tot) :
    Rel K σ (st.upd i (some B')) w' ∧ Ext K σ st w K σ (st.upd i (some B')) w' := by
  have hne : ∀ b c, K b = some c → b ≠ (σ i).blk := by
    intro b c hk hbb
    rcases hR.own i B hB with ⟨hf, _⟩ | ⟨_, _, _, _, _, _, h5⟩
    · rw [hr] at hf; cases hf
    · rw [hro] at h5; rw [hbb] at hk; rw [hk] at h5; cases h5
  refine ⟨⟨fun b c hk => ?_, fun j C hC => ?_, fun j l C D hC hD r1 r2 he => ?_, hR.gl, fun j C hC hf hr => by
    rcases St.get_upd_cases hC with ⟨rfl, hc⟩ | ⟨_, hC⟩
    · cases hc; exact hfu hf
    · exact hR.fl j C hC hf hr⟩, ⟨fun _ _ h => h, fun _ _ => rfl, by rw [St.length_upd]; exact Nat.le_refl _, os, tape, output, by rw [size]; exact Nat.le_refl _, fun j C hC hr' hl => ?_, fun k hk hn => hoth k (fun e => hn i B hB hro hr e.symm), fun b c h => .inl h⟩⟩
  · obtain ⟨e, he⟩ := hR.kin b c hk
    exact ⟨e, (hoth b (hne b c hk)).trans he⟩
  · rw [St.length_upd]
    rcases St.get_upd_cases hC with ⟨rfl, hc⟩ | ⟨hji, hC⟩
    · cases hc
      refine .inr ⟨hr, cur, h1, h2, h3, h4, ?_⟩
      rw [hro']
      cases hk : K (σ j).blk with
      | none => rfl
      | some c => exact absurd rfl (hne _ _ hk)
    · rcases hR.own j C hC with h | ⟨hr', c, g1, g2, g3, g4, g5⟩
      · exact .inl h
      · refine .inr ⟨hr', c, ?_, g2, g3, g4, g5⟩
        rw [hoth _ (fun e => hji (hR.sep j i C B hC hB hr' hr e))]
        exact g1
  · have old : ∀ {j C}, (st.upd i (some B')).get j = some C → ∃ C', st.get j = some C' := by
      intro j C hC
      rcases St.get_upd_cases hC with ⟨rfl, hc⟩ | ⟨hji, hC⟩
      · exact ⟨B, hB⟩
      · exact ⟨C, hC⟩
    obtain ⟨C', hC'⟩ := old hC
    obtain ⟨D', hD'⟩ := old hD
    exact hR.sep j l C' D' hC' hD' r1 r2 he
  · rcases St.get_upd_cases hC with ⟨rfl, hc⟩ | ⟨hji, hC⟩
    · exact .inl ⟨j, B, hB, hro, hl, rfl⟩
    · exact .inl ⟨j, C, hC, hr', hl, rfl⟩

/-- A block is let go. -/
theorem Rel.drop {K : KH} {σ : Nat → Loc} {st : St} {w : World} (hR : Rel K σ st w) (i : Nat) : Rel K σ (st.upd i none) w ∧ Ext K σ st w K σ (st.upd i none) w := by
  have old : ∀ {j C}, (st.upd i none).get j = some C → st.get j = some C := by
    intro j C hC
    rcases St.get_upd_cases hC with ⟨rfl, hc⟩ | ⟨_, hC⟩
    · cases hc
    · exact hC
  refine ⟨⟨hR.kin, fun j C hC => ?_, fun j l C D hC hD => hR.sep j l C D (old hC) (old hD), hR.gl, fun j C hC hf hr => hR.fl j C (old hC) hf hr⟩, ⟨fun _ _ h => h, fun _ _ => rfl, by rw [St.length_upd]; exact Nat.le_refl _, rfl, rfl, rfl, Nat.le_refl _, fun j C hC hr hl => .inl ⟨j, C, old hC, hr, hl, rfl⟩, fun _ _ _ => rfl, fun _ _ h => .inl h⟩⟩
  rw [St.length_upd]
  exact hR.own j C (old hC)

/-! ### cells of values -/
def pvCells : PV → Option (List PV)
  | .any => none
  | .tup _ => none
  | .agg cs => some cs
  | .atom v => bif v.oneCell' then some [.atom v] else none
  | .ptr i k off => some [.ptr i k off]
  | .fptr sz n el k off => some [.fptr sz n el k off]
  | .slc i k n => some [.slc i k n]
  | .fz sz n el => some [.fz sz n el]
  | .iface t v => some [.iface t v]
  | .func f c => some [.func f c]
def cellOk : PV → Bool
  | .any | .tup _ | .agg _ => false
  | .atom v => v.oneCell'
  | _ => true
def cellsOk : List PV → Bool
  | [] => true
  | p :: l => bif cellOk p then cellsOk l else false
theorem cellsOk_mem {l : List PV} (h : cellsOk l = true) : ∀ p ∈ l, cellOk p = true := by
  induction l with
  | nil => simp
  | cons p l ih =>
    unfold cellsOk at h
    cases hc : cellOk p with
    | false => simp [hc] at h
    | true => simp [hc] at h; simp [hc]; exact ih h
theorem VR.one {K : KH} {σ : Nat → Loc} {N : Nat} {p : PV} {v : Value} (h : VR K σ N p v) (hc : cellOk p = true) : v.oneCell' = true := by
  cases h <;> simp_all [cellOk, Value.oneCell']

theorem cells_spec {K : KH} {σ : Nat → Loc} {N : Nat} {p : PV} {v : Value} {cs : List PV} (h : VR K σ N p v) (hc : pvCells p = some cs) (hok : cellsOk cs = true) :
    v.cells.size = cs.length ∧ (∀ j q, cs[j]? = some q → VR K σ N q (rd v.cells j)) ∧ ∀ u ∈ v.cells.toList, u.oneCell' = true := by
  have single : ∀ q, cs = [q] → VR K σ N q v → v.cells = #[v] → v.cells.size = cs.length ∧ (∀ j q, cs[j]? = some q → VR K σ N q (rd v.cells j)) ∧ ∀ u ∈ v.cells.toList, u.oneCell' = true := by
    intro q hq hv hcell
    subst hq
    rw [hcell]
    refine ⟨rfl, fun j r hr => ?_, fun u hu => ?_⟩
    · cases j with
      | zero => simp at hr; subst hr; exact hv
      | succ j => simp at hr
    · simp at hu; subst hu; exact hv.one (cellsOk_mem hok q (by simp))
  cases p with
  | any => simp [pvCells] at hc
  | tup _ => simp [pvCells] at hc
  | agg cs' =>
    simp [pvCells] at hc; subst hc
    obtain ⟨vs, rfl, hl, hr⟩ := h.agg_inv
    refine ⟨hl, hr, fun u hu => ?_⟩
    obtain ⟨j, hj⟩ := List.getElem?_of_mem hu
    have hj' : vs[j]? = some u := by simpa [Value.cells] using hj
    have hlt : j < cs'.length := by rw [← hl]; exact (Array.getElem?_eq_some_iff.1 hj').1
    have := hr j _ (List.getElem?_eq_getElem hlt)
    have hu' : rd vs j = u := by simp [rd, hj']
    rw [hu'] at this
    exact this.one (cellsOk_mem hok _ (List.getElem_mem hlt))
  | atom u =>
    have := h.atom_inv
    subst this
    cases ho : v.oneCell' with
    | false => simp [pvCells, ho] at hc
    | true =>
      simp [pvCells, ho] at hc; subst hc
      exact single _ rfl (.atom _) (by cases v <;> simp_all [Value.cells, Value.oneCell'])
  | _ =>
    simp [pvCells] at hc; subst hc
    exact single _ rfl h (by cases h <;> rfl)

def overlay : List PV → List PV → List PV
  | cs, [] => cs
  | [], _ :: _ => []
  | _ :: cs, n :: ns => n :: overlay cs ns
def setL : Nat → List PV → List PV → List PV
  | 0, cs, new => overlay cs new
  | k + 1, c :: cs, new => c :: setL k cs new
  | _ + 1, [], _ => []
theorem overlay_get : ∀ (cs new : List PV) (j : Nat), new.length ≤ cs.length → (overlay cs new)[j]? = if j < new.length then new[j]? else cs[j]?
  | cs, [], j, _ => by simp [overlay]
  | [], _ :: _, j, h => by simp at h
  | c :: cs, n :: ns, 0, _ => by simp [overlay]
  | c :: cs, n :: ns, j + 1, h => by simp at h; simp [overlay, overlay_get cs ns j h]
theorem overlay_len : ∀ (cs new : List PV), new.length ≤ cs.length → (overlay cs new).length = cs.length
  | cs, [], _ => by simp [overlay]
  | [], _ :: _, h => by simp at h
  | c :: cs, n :: ns, h => by simp at h; simp [overlay, overlay_len cs ns h]
theorem setL_len : ∀ (off : Nat) (cs new : List PV), off + new.length ≤ cs.length → (setL off cs new).length = cs.length
  | 0, cs, new, h => by simp [setL]; exact overlay_len cs new (by omega)
  | k + 1, [], new, h => by simp at h
  | k + 1, c :: cs, new, h => by simp at h; simp [setL, setL_len k cs new (by omega)]
theorem setL_get : ∀ (off : Nat) (cs new : List PV) (j : Nat), off + new.length ≤ cs.length → (setL off cs new)[j]? = if off ≤ j ∧ j < off + new.length then new[j - off]? else cs[j]?
  | 0, cs, new, j, h => by simp [setL]; exact overlay_get cs new j (by omega)
  | k + 1, [], new, j, h => by simp at h
  | k + 1, c :: cs, new, 0, h => by simp [setL]
  | k + 1, c :: cs, new, j + 1, h => by
    simp at h
    simp only [setL, List.getElem?_cons_succ, setL_get k cs new j (by omega), Nat.add_sub_add_right]
    congr 1
    apply propext; omega

theorem rd_splice (cur : Array Value) (o : Nat) (vs : List Value) (h : o + vs.length ≤ cur.size) (j : Nat) :
    rd (cur.toList.take o ++ vs ++ cur.toList.drop (o + vs.length)).toArray j = if o ≤ j ∧ j < o + vs.length then (vs[j - o]?).getD undef else rd cur j := by
  simp only [rd_list, rd, Array.getD_eq_getD_getElem?]
  have hl : (cur.toList.take o).length = o := by simp; omega
  rw [List.append_assoc, List.getElem?_toArray, List.getElem?_append, hl]
  by_cases h1 : j < o
  · rw [if_pos h1, if_neg (by omega), List.getElem?_take, if_pos h1]; simp
  · rw [if_neg h1, List.getElem?_append]
    by_cases h2 : j < o + vs.length
    · rw [if_pos (by omega), if_pos ⟨by omega, h2⟩]
    · rw [if_neg (by omega), if_neg (by omega), List.getElem?_drop]
      have : o + vs.length + (j - o - vs.length) = j := by omega
      rw [this]; simp

section
variable {P : Program} {T : TT} {E : Operand → PV} {st : St} {o : Oper} {Q : PV → St → Prop}

theorem OpGoes.fresh {pv : PV} {B : Blk} (hro : B.ro = false) (h : ∀ K σ w (ρ : Operand → Value), Rel K σ st w → (∀ x, VR K σ st.length (E x) (ρ x)) →
      ∃ v cur w', (execOp ρ o).run P w = .ok (.value v) w' ∧ Below w.heap.size w w' ∧ w'.heap[w.heap.size]? = some (.cells cur B.e (0, 0)) ∧ Holds K σ st.length B.sz B.n B.el cur 0 ∧
        ∀ σ', (∀ i, i < st.length → σ' i = σ i) → σ' st.length = ⟨w.heap.size, 0, cur.size, B.sz, true, Nat.zero_mod _⟩ → VR K σ' (st.length + 1) pv v)
    (hq : Q pv (st ++ [some B])) (hfu : B.full = false := by first | rfl | assumption) : OpGoes P E st o Q := by
  intro K σ w ρ hR hE
  obtain ⟨v, cur, w', hr, hb, hh, hold, hv⟩ := h K σ w ρ hR hE
  obtain ⟨h1, h2⟩ := hR.push hb (L := ⟨w.heap.size, 0, cur.size, B.sz, true, Nat.zero_mod _⟩) (B := B) hro (fun _ => ⟨Nat.le_refl _, cur, hh, rfl, rfl, hold⟩) (fun h => by cases h)
  exact .inl ⟨v, w', .inl hr, K, _, _, pv, hq, h2, h1, by simpa using hv _ (fun i hi => sx_old hi) (sx_new _ _ _)⟩

theorem G_alloc (hT : TOk P T) {elem : TypeId} {ti : TI} (ho : o.op = .alloc elem) (ht : T elem = some ti) (hok : cellsOk (ti.zero.cells.toList.map .atom) = true)
    (h : Q (.ptr st.length 0 0) (st ++ [some ⟨elem, ti.zero.cells.size, 1, fun _ => ti.zero.cells.toList.map .atom, false, false⟩])) : OpGoes P E st o Q := by
  refine OpGoes.fresh rfl (fun K σ w ρ hR hE => ?_) h
  refine ⟨.pointer (some ⟨w.heap.size, 0, none⟩), ti.zero.cells, w.alloc (.cells ti.zero.cells elem), ?_, (Below.refl _ _).alloc (Nat.le_refl _) _, heap_alloc_new w _, ⟨by simp, fun j hj => ?_, fun k hk => ⟨by simp, fun j p hp => ?_⟩⟩, fun σ' _ hs => ?_⟩
  · simp [execOp, ho, Instr.alloc, run_zeroValue hT ht, newVar, newRow]
  · have := cellsOk_mem hok (.atom (rd ti.zero.cells j)) (by simp [rd, hj])
    exact this
  · have h0 : k = 0 := by have : k < 1 := hk; omega
    subst h0
    simp at hp
    obtain ⟨a, ha, rfl⟩ := hp
    simp [rd, ha]
    exact .atom _
  · have := VR.ptr (K := K) (σ := σ') (N := st.length + 1) (i := st.length) (k := 0) (off := 0) (by omega)
    simpa [hs] using this

theorem G_box {elem : TypeId} {x : Operand} {cs : List PV} (ho : o.op = .box elem x) (hc : pvCells (E x) = some cs) (hok : cellsOk cs = true)
    (h : Q (.ptr st.length 0 0) (st ++ [some ⟨elem, cs.length, 1, fun _ => cs, false, false⟩])) : OpGoes P E st o Q := by
  refine OpGoes.fresh rfl (fun K σ w ρ hR hE => ?_) h
  obtain ⟨h1, h2, h3⟩ := cells_spec (hE x) hc hok
  refine ⟨.pointer (some ⟨w.heap.size, 0, none⟩), (ρ x).cells, w.alloc (.cells (ρ x).cells elem), ?_, (Below.refl _ _).alloc (Nat.le_refl _) _, heap_alloc_new w _, ⟨by simp [h1], fun j hj => ?_, fun k hk => ⟨rfl, fun j p hp => ?_⟩⟩, fun σ' _ hs => ?_⟩
  · simp [execOp, ho, Instr.box, newVar, newRow]
  · have : rd (ρ x).cells j = (ρ x).cells[j] := by simp [rd, hj]
    rw [this]
    exact h3 _ (by simp)
  · have h0 : k = 0 := by have : k < 1 := hk; omega
    subst h0
    simpa using h2 j p hp
  · have := VR.ptr (K := K) (σ := σ') (N := st.length + 1) (i := st.length) (k := 0) (off := 0) (by omega)
    simpa [hs] using this

theorem G_store (hT : TOk P T) {t : TypeId} {ti : TI} {a x : Operand} {i k off : Nat} {B : Blk} {new : List PV} (ho : o.op = .store t a x) (ht : T t = some ti) (ha : E a = .ptr i k off) (hB : st.get i = some B) (hro : B.ro = false) (hk : k < B.n)
    (hc : pvCells (E x) = some new) (hok : cellsOk new = true) (hsz : Nat.beq new.length ti.size = true) (hfit : Nat.ble (off + new.length) B.sz = true)
    (h : Q (.atom undef) (st.upd i (some { B with el := fun k' => bif Nat.beq k' k then setL off (B.el k) new else B.el k' }))) : OpGoes P E st o Q := by
  intro K σ w ρ hR hE
  have hsz := Nat.eq_of_beq_eq_true hsz
  have hfit := Nat.le_of_ble_eq_true hfit
  obtain ⟨h1, h2, h3⟩ := cells_spec (hE x) hc hok
  have va := hE a
  rw [ha] at va
  rcases hR.own i B hB with ⟨_, hn⟩ | ⟨hr, cur, g1, g2, g3, g4, g5⟩
  · omega
  generalize hg : ρ a = g at va
  cases va with
  | ptr hi =>
    have hmul : (k + 1) * B.sz ≤ B.n * B.sz := Nat.mul_le_mul_right _ hk
    rw [Nat.succ_mul] at hmul
    have hbound := g4.1
    have hl : (ρ x).cells.toList.length = new.length := by simpa using h1
    have hfitc : (σ i).off + k * B.sz + off + new.length ≤ cur.size := by omega
    have hst := run_storeCells_at P (σ i).blk ((σ i).off + k * B.sz + off) B.e (ρ x).cells.toList 0 cur w g1 (by rw [hl]; omega) h3
    simp only [Nat.add_zero] at hst
    refine .inl ⟨undef, w.setRow (σ i).blk (cur.toList.take ((σ i).off + k * B.sz + off) ++ (ρ x).cells.toList ++ cur.toList.drop ((σ i).off + k * B.sz + off + (ρ x).cells.toList.length)).toArray, .inr ⟨?_, rfl⟩, ?_⟩
    · simp only [execOp, ho, hg, Instr.storeAt, Instr.sureAddr, Sem.run_bind, Sem.run_pure, Result.andThen_ok, storeVar, run_sizeOf hT ht, g3]
      rw [if_neg (by rw [h1, hsz]; simp)]
      simp only [hst, Result.andThen_ok]
    · have hel : (B.el k).length = B.sz := (g4.2.2 k hk).1
      have hrd : ∀ j, rd (cur.toList.take ((σ i).off + k * B.sz + off) ++ (ρ x).cells.toList ++ cur.toList.drop ((σ i).off + k * B.sz + off + (ρ x).cells.toList.length)).toArray j =
          if (σ i).off + k * B.sz + off ≤ j ∧ j < (σ i).off + k * B.sz + off + new.length then rd (ρ x).cells (j - ((σ i).off + k * B.sz + off)) else rd cur j := by
        intro j
        rw [rd_splice cur _ _ (by rw [hl]; exact hfitc), hl]
        simp [rd]
      have hother : ∀ k', k' < B.n → k' ≠ k → ∀ j, j < B.sz → ¬ ((σ i).off + k * B.sz + off ≤ (σ i).off + k' * B.sz + j ∧ (σ i).off + k' * B.sz + j < (σ i).off + k * B.sz + off + new.length) := by
        intro k' hk' hne j hj hh
        rcases Nat.lt_or_ge k' k with hlt | hge
        · have : (k' + 1) * B.sz ≤ k * B.sz := Nat.mul_le_mul_right _ hlt
          rw [Nat.succ_mul] at this; omega
        · have : (k + 1) * B.sz ≤ k' * B.sz := Nat.mul_le_mul_right _ (by omega)
          rw [Nat.succ_mul] at this; omega
      have hsize : (cur.toList.take ((σ i).off + k * B.sz + off) ++ (ρ x).cells.toList ++ cur.toList.drop ((σ i).off + k * B.sz + off + (ρ x).cells.toList.length)).toArray.size = cur.size := by simp only [List.size_toArray, List.length_append, List.length_take, List.length_drop, hl, Array.length_toList]; omega
      have holds : Holds K σ st.length B.sz B.n (fun k' => bif Nat.beq k' k then setL off (B.el k) new else B.el k') (cur.toList.take ((σ i).off + k * B.sz + off) ++ (ρ x).cells.toList ++ cur.toList.drop ((σ i).off + k * B.sz + off + (ρ x).cells.toList.length)).toArray (σ i).off := by
        refine ⟨by rw [hsize]; exact hbound, fun j hj => ?_, fun k' hk' => ?_⟩
        · rw [hrd]
          split
          · rename_i hh
            have hlt : j - ((σ i).off + k * B.sz + off) < (ρ x).cells.size := by rw [h1]; omega
            have : rd (ρ x).cells (j - ((σ i).off + k * B.sz + off)) = (ρ x).cells[j - ((σ i).off + k * B.sz + off)] := by simp [rd, hlt]
            rw [this]; exact h3 _ (by simp)
          · rw [hsize] at hj; exact g4.2.1 j hj
        · by_cases hkk : k' = k
          · subst hkk
            have e1 : Nat.beq k' k' = true := by simp
            simp only [e1, cond_true]
            refine ⟨by rw [setL_len _ _ _ (by omega)]; exact hel, fun j p hp => ?_⟩
            rw [setL_get _ _ _ _ (by omega)] at hp
            rw [hrd]
            by_cases hh : off ≤ j ∧ j < off + new.length
            · rw [if_pos hh] at hp
              rw [if_pos (by omega)]
              have := h2 _ p hp
              rwa [show (σ i).off + k' * B.sz + j - ((σ i).off + k' * B.sz + off) = j - off by omega]
            · rw [if_neg hh] at hp
              rw [if_neg (by omega)]
              exact (g4.2.2 k' hk').2 j p hp
          · have e1 : Nat.beq k' k = false := by rw [Bool.eq_false_iff]; intro hh; exact hkk (Nat.eq_of_beq_eq_true hh)
            simp only [e1, cond_false]
            refine ⟨(g4.2.2 k' hk').1, fun j p hp => ?_⟩
            have hj : j < B.sz := by
              rw [← (g4.2.2 k' hk').1]
              exact (List.getElem?_eq_some_iff.1 hp).1
            rw [hrd, if_neg (hother k' hk' hkk j hj)]
            exact (g4.2.2 k' hk').2 j p hp
      obtain ⟨r1, r2⟩ := hR.set (B' := { B with el := fun k' => bif Nat.beq k' k then setL off (B.el k) new else B.el k' }) hB hro hro hr (w' := w.setRow (σ i).blk (cur.toList.take ((σ i).off + k * B.sz + off) ++ (ρ x).cells.toList ++ cur.toList.drop ((σ i).off + k * B.sz + off + (ρ x).cells.toList.length)).toArray) rfl rfl rfl (size_setRow _ _ _) (fun k' hk' => setRow_other w (σ i).blk k' _ hk')
        (setRow_heap w (σ i).blk cur _ B.e (0, 0) g1) (by rw [hsize, g2]) g3 holds (fun h => hR.fl i B hB h hr)
      exact ⟨K, σ, _, .atom undef, h, r2, r1, .atom _⟩
end
end Go.Sy
end
