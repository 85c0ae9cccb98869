/- One operation of a region at a time. -/
import Derived.Test.YtocfjbopkgmjkaaDoorY1
import Derived.Laws.StructEq
import Derived.Laws.Slices
import Derived.Laws.MakeOwn
import Derived.Laws.OwnMore
set_option linter.unusedVariables false
set_option linter.unusedSimpArgs false
set_option linter.unusedSectionVars false
namespace Go.Sy
open Go
variable [Globs]

structure TI where
  d : TypeDesc
  size : Nat
  bytes : Nat
  zero : Value
abbrev TT := Nat → Option TI
def TOk (P : Program) (T : TT) : Prop := ∀ t i, T t = some i → P.underlying t = some i.d ∧ ∃ inf, P.info? t = some inf ∧ inf.size = i.size ∧ inf.bytes = i.bytes ∧ inf.zero = some i.zero

def OpGoes (P : Program) (E : Operand → PV) (st : St) (o : Oper) (Q : PV → St → Prop) : Prop :=
  ∀ K σ w (ρ : Operand → Value), Rel K σ st w → (∀ x, VR K σ st.length (E x) (ρ x)) →
    (∃ v w', ((execOp ρ o).run P w = .ok (.value v) w' ∨ ((execOp ρ o).run P w = .ok .skip w' ∧ v = undef)) ∧ Out Q K σ st w v w') ∨
    (∃ f args, (execOp ρ o).run P w = .ok (.enter f args) w ∧ Calls P f args w fun e w' => ∃ v, e = .returned v ∧ Out Q K σ st w v w')

/-- Whether an operation is carried out, as far as the state shows. -/
def wants (ops : Array Oper) (env : Env) (o : Oper) : Option Bool :=
  match o.guard with
  | none => some true
  | some (j, want) =>
    match (ops[j]?).bind (·.dst) with
    | none => some false
    | some d => match env d with
      | .atom (.bool b) => some (bif want then b else !b)
      | .atom (.tuple _) => some false
      | _ => none

theorem wants_spec {K : KH} {σ : Nat → Loc} {N : Nat} {ops : Array Oper} {env : Env} {a : Act} (hE : EnvRel K σ N env a) {o : Oper} {b : Bool} (h : wants ops env o = some b) : Region.wanted o (yielded ops a.tmps) = b := by
  unfold wants at h
  unfold Region.wanted
  cases hg : o.guard with
  | none => simp [hg] at h; simp [h]
  | some jw =>
    obtain ⟨j, want⟩ := jw
    simp only [hg] at h ⊢
    unfold yielded
    cases hd : (ops[j]?).bind (·.dst) with
    | none => simp [hd] at h; subst h; cases want <;> rfl
    | some d =>
      simp only [hd] at h
      have hv := hE d
      have hrd : ∀ v, rd a.tmps d = v → v ≠ undef → a.tmps[d]? = some v := by
        intro v hv hne
        unfold rd at hv
        rcases Nat.lt_or_ge d a.tmps.size with h' | h'
        · simp [h'] at hv ⊢; exact hv
        · simp [h'] at hv; exact absurd hv.symm hne
      split at h
      · rename_i b' hb'
        rw [hb'] at hv
        have := hrd _ hv.atom_inv (by simp [undef])
        simp only [Option.some.injEq] at h
        simp [this]
        subst h
        cases want <;> cases b' <;> rfl
      · rename_i vs hb'
        rw [hb'] at hv
        have h1 := hv.atom_inv
        simp only [Option.some.injEq] at h
        subst h
        unfold rd at h1
        rcases Nat.lt_or_ge d a.tmps.size with h' | h'
        · simp [h'] at h1 ⊢; rw [h1]; cases want <;> simp
        · simp [h']
      · cases h

section
variable {P : Program} {f : FuncId} {fn : Func} {n0 : Nat} {Q : PV → St → Prop} {k : List Item} {env : Env} {st : St} {ops : Array Oper} {i : Nat} {rest : List Nat} {o : Oper}

theorem step_value {b : Frame} {a : Act} {cs : List Frame} {w w' : World} {v : Value} (ho : ops[i]? = some o) (hw : Region.wanted o (yielded ops a.tmps) = true)
    (hr : (execOp a.eval o).run P w = .ok (.value v) w' ∨ ((execOp a.eval o).run P w = .ok .skip w' ∧ v = undef)) :
    step P (lone (b.at a (.inRegion ops (i :: rest) :: k)) cs w) = .next (lone (b.at (a.put o.dst v) (.inRegion ops rest :: k)) cs w') := by
  have hg := stepG_op (P := P) (b := b) (k := k) (cs := cs) (w := w) (rest := rest) ho hw
  have hfin : ∀ v, (b.at a (.inRegion ops (i :: rest) :: k)).finish v = b.at (a.put o.dst v) (.inRegion ops rest :: k) := by
    intro v; rw [Frame.finish_at, ho]; rfl
  apply step_lone_go
  rcases hr with hr | ⟨hr, rfl⟩
  · rw [hg, ← hfin]; simp [stepG.apply, hr]
  · rw [hg, ← hfin]; simp [stepG.apply, hr]

theorem steps_enter {b : Frame} {a : Act} {cs : List Frame} {w : World} {g : FuncId} {args : Array Value} {R : Value → World → Prop} (ho : ops[i]? = some o) (hw : Region.wanted o (yielded ops a.tmps) = true)
    (hr : (execOp a.eval o).run P w = .ok (.enter g args) w) (hc : Calls P g args w fun e w' => ∃ v, e = .returned v ∧ R v w') :
    ∃ v w', R v w' ∧ Steps P (lone (b.at a (.inRegion ops (i :: rest) :: k)) cs w) (lone (b.at (a.put o.dst v) (.inRegion ops rest :: k)) cs w') := by
  have hg := stepG_op (P := P) (b := b) (k := k) (cs := cs) (w := w) (rest := rest) ho hw
  have hfin : ∀ v, (b.at a (.inRegion ops (i :: rest) :: k)).finish v = b.at (a.put o.dst v) (.inRegion ops rest :: k) := by
    intro v; rw [Frame.finish_at, ho]; rfl
  obtain ⟨e, w'', fr, ⟨v, rfl, hR⟩, hsteps, _, hleave⟩ := hc (b.at a (.inRegion ops (i :: rest) :: k) :: cs)
  have henter : step P (lone (b.at a (.inRegion ops (i :: rest) :: k)) cs w) =
      .next (lone (Frame.enter P g args .normal) (b.at a (.inRegion ops (i :: rest) :: k) :: cs) w) :=
    step_lone_go (by rw [hg]; simp [stepG.apply, hr, Frame.at])
  refine ⟨v, w'', hR, .head henter (Steps.trans hsteps (.one ?_))⟩
  rw [← hfin]; exact step_leave_returned hleave

theorem Run.op_skip (ho : ops[i]? = some o) (hw : wants ops env o = some false) (hd : dstOk fn.ntmps o.dst = true) (h : Run P f fn n0 Q (.inRegion ops rest :: k) (env.put o.dst (.atom undef)) st) :
    Run P f fn n0 Q (.inRegion ops (i :: rest) :: k) env st := by
  intro hn0 K σ w a b cs hR hsz hdf hfn hk hE
  have hs := step_op_skip (P := P) (b := b) (a := a) (k := k) (cs := cs) (w := w) (ops := ops) (i := i) (rest := rest) (by simp [ho, wants_spec hE hw])
  simp only [ho, Option.bind_some] at hs
  obtain ⟨v, w', fr, hout, hst, r⟩ := h hn0 K σ w (a.put o.dst undef) b cs hR (by rw [Act.size_put, hsz]) (by rw [Act.defers_put, hdf]) hfn hk (hE.put (by rw [hsz]; exact hd) (.atom _))
  exact ⟨v, w', fr, hout, .head hs hst, r⟩

theorem Run.op (ho : ops[i]? = some o) (hw : wants ops env o = some true) (hd : dstOk fn.ntmps o.dst = true)
    (h : OpGoes P env.ev st o fun pv st' => Run P f fn n0 Q (.inRegion ops rest :: k) (env.put o.dst pv) st') :
    Run P f fn n0 Q (.inRegion ops (i :: rest) :: k) env st := by
  intro hn0 K σ w a b cs hR hsz hdf hfn hk hE
  have hw' := wants_spec hE hw
  have go : ∀ v w1, Out (fun pv st' => Run P f fn n0 Q (.inRegion ops rest :: k) (env.put o.dst pv) st') K σ st w v w1 →
      ∃ u w' fr, OutN n0 Q K σ st w u w' ∧ Steps P (lone (b.at (a.put o.dst v) (.inRegion ops rest :: k)) cs w1) (lone fr cs w') ∧ fr.fn = f ∧ fr.leaving P w' (.returned u) := by
    rintro v w1 ⟨K1, σ1, st1, pv, hrun, hext, hrel, hvr⟩
    have hE1 : EnvRel K1 σ1 st1.length env a := fun t => (hE t).ext hext
    obtain ⟨u, w', fr, ⟨K2, σ2, st2, pv2, q2, e2, r2, v2⟩, hst, r⟩ := hrun (Nat.le_trans hn0 hext.len) K1 σ1 w1 (a.put o.dst v) b cs hrel (by rw [Act.size_put, hsz]) (by rw [Act.defers_put, hdf]) hfn hk (hE1.put (by rw [hsz]; exact hd) hvr)
    exact ⟨u, w', fr, ⟨K2, σ2, st2, pv2, q2, (hext.less hn0).trans e2, r2, v2⟩, hst, r⟩
  rcases h K σ w a.eval hR (fun x => hE.ev x) with ⟨v, w1, hr, hout⟩ | ⟨g, args, hr, hc⟩
  · obtain ⟨u, w', fr, ho', hst, r⟩ := go v w1 hout
    exact ⟨u, w', fr, ho', .head (step_value ho hw' hr) hst, r⟩
  · obtain ⟨v, w1, hout, hs1⟩ := steps_enter (b := b) (cs := cs) (rest := rest) (k := k) ho hw' hr hc
    obtain ⟨u, w', fr, ho', hst, r⟩ := go v w1 hout
    exact ⟨u, w', fr, ho', Steps.trans hs1 hst, r⟩

theorem Run.retag {d : Nat} {p q : PV} (hp : env d = p) (hpq : ∀ K σ N v, VR K σ N p v → VR K σ N q v) (h : Run P f fn n0 Q k (env.put (some d) q) st) : Run P f fn n0 Q k env st := by
  intro hn0 K σ w a b cs hR hsz hdf hfn hk hE
  refine h hn0 K σ w a b cs hR hsz hdf hfn hk (fun t => ?_)
  show VR K σ _ (bif Nat.beq t d then q else env t) _
  by_cases ht : t = d
  · subst ht
    have e1 : Nat.beq t t = true := by simp
    rw [e1]
    exact hpq _ _ _ _ (hp ▸ hE t)
  · have e1 : Nat.beq t d = false := by rw [Bool.eq_false_iff]; intro hh; exact ht (Nat.eq_of_beq_eq_true hh)
    rw [e1]; exact hE t

theorem Run.boolSplit {d : Nat} {b : Bool} (hp : env d = .atom (.bool b)) (ht : b = true → Run P f fn n0 Q k (env.put (some d) (.atom (.bool true))) st) (hf : b = false → Run P f fn n0 Q k (env.put (some d) (.atom (.bool false))) st) :
    Run P f fn n0 Q k env st := by
  cases b
  · exact Run.retag hp (fun _ _ _ _ h => h) (hf rfl)
  · exact Run.retag hp (fun _ _ _ _ h => h) (ht rfl)

/-- Of the next operation's guard both cases are gone through. -/
theorem Run.guardSplit {j : Nat} {want : Bool} {d : Nat} {b : Bool} (ho : ops[i]? = some o) (hg : o.guard = some (j, want)) (hd : (ops[j]?).bind (·.dst) = some d) (hp : env d = .atom (.bool b))
    (ht : b = true → Run P f fn n0 Q (.inRegion ops (i :: rest) :: k) (env.put (some d) (.atom (.bool true))) st)
    (hf : b = false → Run P f fn n0 Q (.inRegion ops (i :: rest) :: k) (env.put (some d) (.atom (.bool false))) st) :
    Run P f fn n0 Q (.inRegion ops (i :: rest) :: k) env st := Run.boolSplit hp ht hf

theorem OpGoes.still {E : Operand → PV} {Q' : PV → St → Prop} {pv : PV} (h : ∀ K σ w (ρ : Operand → Value), Rel K σ st w → (∀ x, VR K σ st.length (E x) (ρ x)) → ∃ v, (execOp ρ o).run P w = .ok (.value v) w ∧ VR K σ st.length pv v)
    (hq : Q' pv st) : OpGoes P E st o Q' := by
  intro K σ w ρ hR hE
  obtain ⟨v, hr, hv⟩ := h K σ w ρ hR hE
  exact .inl ⟨v, w, .inl hr, Out.still hR hv hq⟩
end
end Go.Sy
