/- Regions that draw their order. -/
import Derived.Test.YtocfjbopkgmjkaaDoorY8
import Derived.Still
set_option linter.unusedVariables false
set_option linter.unusedSimpArgs false
set_option linter.unusedSectionVars false
namespace Go.Sy
open Go Go.RowKit
variable [Globs]

def lmem (t : Nat) : List Nat → Bool
  | [] => false
  | a :: l => bif Nat.beq t a then true else lmem t l
theorem lmem_eq (t : Nat) (l : List Nat) : lmem t l = true ↔ t ∈ l := by
  induction l with
  | nil => simp [lmem]
  | cons a l ih =>
    unfold lmem
    cases h : Nat.beq t a with
    | true => have := Nat.eq_of_beq_eq_true h; simp [this]
    | false =>
      have : t ≠ a := fun e => by subst e; simp at h
      simp [ih, this]
/-- What an operation looks at, and nothing else. -/
def Env.only (l : List Nat) (env : Env) : Env := fun t => bif lmem t l then env t else .any

theorem Env.only_put {l : List Nat} {env : Env} {d : Option Tmp} {p : PV} (h : ∀ t, d = some t → t ∉ l) : Env.only l (env.put d p) = Env.only l env := by
  funext t
  unfold Env.only
  cases hm : lmem t l with
  | false => rfl
  | true =>
    have hm := (lmem_eq t l).1 hm
    cases d with
    | none => rfl
    | some d =>
      show (bif Nat.beq t d then p else env t) = env t
      have : Nat.beq t d = false := by rw [Bool.eq_false_iff]; intro hh; exact h d rfl (Nat.eq_of_beq_eq_true hh ▸ hm)
      rw [this]; rfl
theorem Env.put_comm (env : Env) {x y : Option Tmp} (v u : PV) (h : ∀ d, x = some d → y ≠ some d) : (env.put x v).put y u = (env.put y u).put x v := by
  cases x with
  | none => rfl
  | some d => cases y with
    | none => rfl
    | some e =>
      have hne : d ≠ e := fun he => h d rfl (he ▸ rfl)
      funext t
      show (bif Nat.beq t e then u else bif Nat.beq t d then v else env t) = (bif Nat.beq t d then v else bif Nat.beq t e then u else env t)
      cases h1 : Nat.beq t e <;> cases h2 : Nat.beq t d <;> simp
      exact absurd ((Nat.eq_of_beq_eq_true h2).symm.trans (Nat.eq_of_beq_eq_true h1)) hne

section
variable {P : Program} {ops : Array Oper} {md : Region.Mode} {st : St} {nt : Nat}

theorem wants_put {o : Oper} {env : Env} {d : Option Tmp} {p : PV} (h : ∀ t, d = some t → t ∉ o.looksAt ops) : wants ops (env.put d p) o = wants ops env o := by
  unfold wants
  cases hg : o.guard with
  | none => rfl
  | some jw =>
    obtain ⟨j, want⟩ := jw
    simp only
    cases hd : (ops[j]?).bind (·.dst) with
    | none => rfl
    | some e =>
      simp only
      have : (env.put d p) e = env e := by
        cases d with
        | none => rfl
        | some d =>
          show (bif Nat.beq e d then p else env e) = env e
          have : Nat.beq e d = false := by
            rw [Bool.eq_false_iff]
            intro hh
            have := Nat.eq_of_beq_eq_true hh
            subst this
            refine h e rfl ?_
            unfold Oper.looksAt
            simp [hg, hd]
          rw [this]; rfl
      rw [this]

/-- In this state the operation leaves 'pv' behind, and the state's own memory alone. -/
def Leaves (P : Program) (ops : Array Oper) (st : St) (nt : Nat) (o : Oper) (pv : PV) (env : Env) : Prop :=
  dstOk nt o.dst = true ∧
  ((wants ops env o = some true ∧ OpGoes P (Env.only (o.looksAt ops) env).ev st o fun q st' => q = pv ∧ st' = st) ∨ (wants ops env o = some false ∧ pv = .atom undef))

theorem Leaves.put {o : Oper} {pv : PV} {env : Env} (h : Leaves P ops st nt o pv env) {d : Option Tmp} {p : PV} (hd : ∀ t, d = some t → t ∉ o.looksAt ops) : Leaves P ops st nt o pv (env.put d p) := by
  unfold Leaves at *
  rw [wants_put hd, Env.only_put hd]; exact h
theorem Leaves.unput {o : Oper} {pv : PV} {env : Env} {d : Option Tmp} {p : PV} (h : Leaves P ops st nt o pv (env.put d p)) (hd : ∀ t, d = some t → t ∉ o.looksAt ops) : Leaves P ops st nt o pv env := by
  unfold Leaves at *
  rw [wants_put hd, Env.only_put hd] at h; exact h

omit [Globs] in
theorem dummy_ : True := trivial
theorem OpGoes.mono {E : Operand → PV} {o : Oper} {R R' : PV → St → Prop} (h : ∀ p s, R p s → R' p s) (hh : OpGoes P E st o R) : OpGoes P E st o R' := by
  intro K σ w ρ hR hE
  rcases hh K σ w ρ hR hE with ⟨v, w', hr, ho⟩ | ⟨g, args, hr, hc⟩
  · exact .inl ⟨v, w', hr, ho.mono h⟩
  · exact .inr ⟨g, args, hr, hc.mono fun e w' ⟨v, he, ho⟩ => ⟨v, he, ho.mono h⟩⟩

/-- Operation number i comes up: one of the list 'lo' may change the state; another leaves it alone. -/
def gOp (P : Program) (ops : Array Oper) (lo : List Nat) (nt : Nat) (i : Nat) (o : Oper) (R : Env → St → Prop) (env : Env) (st : St) : Prop :=
  match lmem i lo with
  | true => dstOk nt o.dst = true ∧ ((wants ops env o = some true ∧ OpGoes P env.ev st o fun q st' => R (env.put o.dst q) st') ∨ (wants ops env o = some false ∧ R (env.put o.dst (.atom undef)) st))
  | false => ∃ pv, Leaves P ops st nt o pv env ∧ R (env.put o.dst pv) st
theorem gOp_mono {lo : List Nat} {i : Nat} {o : Oper} {env : Env} {R R' : Env → St → Prop} (h : ∀ e s, R e s → R' e s) (hh : gOp P ops lo nt i o R env st) : gOp P ops lo nt i o R' env st := by
  unfold gOp at *
  split at hh
  · exact ⟨hh.1, hh.2.imp (fun x => ⟨x.1, x.2.mono fun p s hr => h _ _ hr⟩) (fun x => ⟨x.1, h _ _ x.2⟩)⟩
  · obtain ⟨pv, h1, h2⟩ := hh; exact ⟨pv, h1, h _ _ h2⟩

def anyQ (P : Program) (md : Region.Mode) (ops : Array Oper) (lo : List Nat) (nt : Nat) (R : Env → St → Prop) : Nat → Array Bool → Env → St → Prop
  | 0, listed, env, st => Region.ready md ops listed = [] ∧ R env st
  | fuel + 1, listed, env, st => (Region.ready md ops listed = [] → R env st) ∧ ∀ i ∈ Region.ready md ops listed, match ops[i]? with
    | none => anyQ P md ops lo nt R fuel (listed.setIfInBounds i true) env st
    | some o => gOp P ops lo nt i o (anyQ P md ops lo nt R fuel (listed.setIfInBounds i true)) env st

theorem gOp_put {lo : List Nat} {j : Nat} {oi oj : Oper} {pv : PV} (hlo : lmem j lo = false) (hap : oi.apart ops oj = true) {R : Env → St → Prop} {env : Env}
    (hy : Leaves P ops st nt oi pv env) (h : gOp P ops lo nt j oj R (env.put oi.dst pv) st) :
    gOp P ops lo nt j oj (fun e s => s = st ∧ Leaves P ops st nt oi pv e ∧ R (e.put oi.dst pv) st) env st := by
  obtain ⟨h1, h2, h3⟩ := Oper.apart_spec hap
  unfold gOp at *
  simp only [hlo] at *
  obtain ⟨u, hu, hn⟩ := h
  exact ⟨u, hu.unput h1, by first | rfl | trivial, hy.put h3, by rw [← Env.put_comm env pv u h2]; exact hn⟩

theorem anyQ_first {lo : List Nat} {R : Env → St → Prop} {i : Nat} {oi : Oper} {pv : PV} (hi : ops[i]? = some oi) (hlo : lmem i lo = false) :
    ∀ (fuel : Nat) (listed : Array Bool) (env : Env),
      (∀ j oj, ops[j]? = some oj → j ≠ i → listed.getD j true = false → (∀ e ∈ oj.after, Region.binds md e = true → e.on ≠ i) → oi.apart ops oj = true ∧ lmem j lo = false) →
      i ∈ Region.ready md ops listed → Leaves P ops st nt oi pv env →
      anyQ P md ops lo nt R fuel (listed.setIfInBounds i true) (env.put oi.dst pv) st → anyQ P md ops lo nt R (fuel + 1) listed env st := by
  have own : ∀ {env : Env} {R' : Env → St → Prop}, Leaves P ops st nt oi pv env → R' (env.put oi.dst pv) st → gOp P ops lo nt i oi R' env st := by
    intro env R' hy hR
    unfold gOp
    simp only [hlo]
    exact ⟨pv, hy, hR⟩
  intro fuel
  induction fuel with
  | zero =>
    intro listed env _ hr hy H
    refine ⟨fun h => (by rw [h] at hr; cases hr), fun j hj => ?_⟩
    by_cases hji : j = i
    · subst hji; simp only [hi]; exact own hy H
    · have := ready_mono hj hji
      rw [H.1] at this
      cases this
  | succ fuel ih =>
    intro listed env hfree hr hy H
    refine ⟨fun h => (by rw [h] at hr; cases hr), fun j hj => ?_⟩
    by_cases hji : j = i
    · subst hji; simp only [hi]; exact own hy H
    · have h1 := H.2 j (ready_mono hj hji)
      obtain ⟨hjun, oj, hoj, hall⟩ := mem_ready.1 hj
      simp only [hoj] at h1 ⊢
      have hnot : ∀ e ∈ oj.after, Region.binds md e = true → e.on ≠ i := fun e he hb heq => by
        have h1 := hall e he hb
        have h0 := (mem_ready.1 hr).1
        rw [heq] at h1
        rcases Nat.lt_or_ge i listed.size with h' | h'
        · simp [h'] at h0 h1; rw [h0] at h1; cases h1
        · simp [Array.getElem?_eq_none h'] at h1
      obtain ⟨hap, hjlo⟩ := hfree j oj hoj hji hjun hnot
      have h2 := gOp_put hjlo hap hy h1
      have hfree' : ∀ k ok, ops[k]? = some ok → k ≠ i → (listed.setIfInBounds j true).getD k true = false →
          (∀ e ∈ ok.after, Region.binds md e = true → e.on ≠ i) → oi.apart ops ok = true ∧ lmem k lo = false := fun k ok hk hki hun hno => by
        refine hfree k ok hk hki ?_ hno
        by_cases hjk : j = k
        · subst hjk; exact hjun
        · rw [getD_set_ne true hjk] at hun; exact hun
      refine gOp_mono (fun e s h3 => ?_) h2
      obtain ⟨hs, h4, h5⟩ := h3
      rw [hs]
      refine ih (listed.setIfInBounds j true) e hfree' (ready_mono hr (Ne.symm hji)) h4 ?_
      rw [Array.setIfInBounds_comm _ _ hji]
      exact h5

/-- The walk in the order of the text; k: the number of the first operation of the list. -/
def Walk (P : Program) (ops : Array Oper) (lo : List Nat) (nt : Nat) (R : Env → St → Prop) : Nat → List Oper → Env → St → Prop
  | _, [], env, st => R env st
  | k, o :: rest, env, st => gOp P ops lo nt k o (Walk P ops lo nt R (k + 1) rest) env st

def freeG (md : Region.Mode) (ops : Array Oper) (lo : List Nat) (listed : Array Bool) (i : Nat) : Bool :=
  match ops[i]? with
  | none => false
  | some oi => (List.range ops.size).all fun j => j == i || listed.getD j true || match ops[j]? with
      | some oj => oj.after.any (fun e => Region.binds md e && e.on == i) || (oi.apart ops oj && !lmem j lo)
      | none => true
theorem freeG_spec {lo : List Nat} {i : Nat} {oi : Oper} {listed : Array Bool} (hi : ops[i]? = some oi) (h : freeG md ops lo listed i = true) (j : Nat) (oj : Oper)
    (hj : ops[j]? = some oj) (hne : j ≠ i) (hun : listed.getD j true = false) (hno : ∀ e ∈ oj.after, Region.binds md e = true → e.on ≠ i) :
    oi.apart ops oj = true ∧ lmem j lo = false := by
  have hlt : j < ops.size := (Array.getElem?_eq_some_iff.1 hj).1
  simp only [freeG, hi, List.all_eq_true, List.mem_range] at h
  have h1 := h j hlt
  simp only [hj, hun, Bool.or_false, Bool.or_eq_true, beq_iff_eq, hne, false_or] at h1
  rcases h1 with h1 | h1
  · rw [Array.any_eq_true] at h1
    obtain ⟨m, hm, hb⟩ := h1
    simp only [Bool.and_eq_true, beq_iff_eq] at hb
    exact absurd hb.2 (hno _ (Array.getElem_mem hm) hb.1)
  · simp only [Bool.and_eq_true, Bool.not_eq_true'] at h1
    exact h1
def lexG (md : Region.Mode) (ops : Array Oper) (lo : List Nat) : Nat → Nat → Array Bool → Bool
  | 0, _, listed => (Region.ready md ops listed).isEmpty
  | fuel + 1, k, listed => (bif lmem k lo then Region.ready md ops listed == [k] else (Region.ready md ops listed).contains k && freeG md ops lo listed k) && lexG md ops lo fuel (k + 1) (listed.setIfInBounds k true)

theorem anyQ_lex {lo : List Nat} {R : Env → St → Prop} : ∀ (l : List Oper) (k : Nat) (listed : Array Bool) (env : Env) (st : St), (∀ j, l[j]? = ops[k + j]?) →
    lexG md ops lo l.length k listed = true → Walk P ops lo nt R k l env st → anyQ P md ops lo nt R l.length listed env st
  | [], _, _, _, _, _, hB, h => ⟨by simpa [lexG] using hB, h⟩
  | o :: l, k, listed, env, st, hl, hB, h => by
    have h0 : ops[k]? = some o := by simpa using (hl 0).symm
    have hl' : ∀ j, l[j]? = ops[(k + 1) + j]? := fun j => by have := hl (j + 1); simpa [Nat.add_assoc, Nat.add_comm 1 j] using this
    simp only [List.length_cons, lexG, Bool.and_eq_true] at hB
    obtain ⟨hB0, hB'⟩ := hB
    cases hlo : lmem k lo with
    | true =>
      simp only [hlo, cond_true, beq_iff_eq] at hB0
      refine ⟨fun he => (by rw [hB0] at he; cases he), fun i hi => ?_⟩
      rw [hB0] at hi
      simp at hi
      subst hi
      simp only [h0]
      exact gOp_mono (fun e s hw => anyQ_lex l (i + 1) _ e s hl' hB' hw) h
    | false =>
      simp only [hlo, cond_false, Bool.and_eq_true] at hB0
      have h' : gOp P ops lo nt k o (Walk P ops lo nt R (k + 1) l) env st := h
      unfold gOp at h'
      simp only [hlo] at h'
      obtain ⟨pv, hy, hK⟩ := h'
      exact anyQ_first h0 hlo l.length listed env (freeG_spec h0 hB0.2) (by simpa using hB0.1) hy (anyQ_lex l (k + 1) _ _ st hl' hB' hK)

/-- The state as it may stand in the middle of the region. -/
def Mid (nt : Nat) (K : KH) (σ : Nat → Loc) (st0 : St) (w : World) (env : Env) (st : St) (a : Act) (w' : World) : Prop :=
  ∃ K' σ', Rel K' σ' st w' ∧ Ext K σ st0 w K' σ' st w' ∧ EnvRel K' σ' st.length env a ∧ a.tmps.size = nt ∧ a.defers = []

theorem EnvRel.only {K : KH} {σ : Nat → Loc} {N : Nat} {env : Env} {a : Act} (h : EnvRel K σ N env a) (l : List Nat) : EnvRel K σ N (Env.only l env) a := by
  intro t
  unfold Env.only
  cases lmem t l with
  | true => exact h t
  | false => exact .any _

theorem anyQ_sound {lo : List Nat} {K : KH} {σ : Nat → Loc} {st0 : St} {w : World} {R : Env → St → Prop} {Q : Exit → Act → World → Prop} (hQ : ∀ env st a w', Mid nt K σ st0 w env st a w' → R env st → Q .normal a w') : ∀ (fuel : Nat) (listed : Array Bool) (env : Env) (st : St) (a : Act) (w' : World),
    Mid nt K σ st0 w env st a w' → anyQ P md ops lo nt R fuel listed env st → wpAny P md ops Q fuel listed a w'
  | 0, _, _, _, _, _, hm, h => ⟨h.1, hQ _ _ _ _ hm h.2⟩
  | fuel + 1, listed, env, st, a, w', hm, h => by
    refine ⟨fun h0 => hQ _ _ _ _ hm (h.1 h0), fun i hi => ?_⟩
    have hq := h.2 i hi
    unfold wpOp
    split
    · rename_i ho; simp only [ho] at hq; exact anyQ_sound hQ fuel _ _ _ _ _ hm hq
    · rename_i o ho
      simp only [ho] at hq
      obtain ⟨K', σ', hrel, hext, henv, hsz, hdf⟩ := hm
      have fin : dstOk nt o.dst = true → ∀ v w2, Out (fun q st' => anyQ P md ops lo nt R fuel (listed.setIfInBounds i true) (env.put o.dst q) st') K' σ' st w' v w2 → wpAny P md ops Q fuel (listed.setIfInBounds i true) (a.put o.dst v) w2 := by
        rintro hd v w2 ⟨K2, σ2, st2, q, hR, e2, r2, v2⟩
        refine anyQ_sound hQ fuel _ _ _ _ _ ⟨K2, σ2, r2, Ext.trans hext e2, ?_, by rw [Act.size_put, hsz], by rw [Act.defers_put, hdf]⟩ hR
        exact EnvRel.put (fun t => (henv t).ext e2) (by rw [hsz]; exact hd) v2
      have go : ∀ (E : Env), EnvRel K' σ' st.length E a → dstOk nt o.dst = true → OpGoes P E.ev st o (fun q st' => anyQ P md ops lo nt R fuel (listed.setIfInBounds i true) (env.put o.dst q) st') → o.wp P a w' (wpAny P md ops Q fuel (listed.setIfInBounds i true)) Q := by
        intro E hE hd hgo
        unfold Oper.wp
        rcases hgo K' σ' w' a.eval hrel (fun x => hE.ev x) with ⟨v, w2, hr | ⟨hr, rfl⟩, hout⟩ | ⟨g, args, hr, hc⟩
        · rw [hr]; exact fin hd v w2 hout
        · rw [hr]; exact fin hd undef w2 hout
        · rw [hr]
          refine hc.mono ?_
          rintro e w2 ⟨v, rfl, hout⟩
          exact fin hd v w2 hout
      have skip : dstOk nt o.dst = true → wants ops env o = some false → anyQ P md ops lo nt R fuel (listed.setIfInBounds i true) (env.put o.dst (.atom undef)) st → (if Region.wanted o (yielded ops a.tmps) then o.wp P a w' (wpAny P md ops Q fuel (listed.setIfInBounds i true)) Q ∨ (o.asks P a w' ∧ LetsOut Q) else wpAny P md ops Q fuel (listed.setIfInBounds i true) (a.put o.dst undef) w') := by
        intro hd hw hR
        rw [if_neg (by rw [wants_spec henv hw]; simp)]
        exact anyQ_sound hQ fuel _ _ _ _ _ ⟨K', σ', hrel, hext, EnvRel.put henv (by rw [hsz]; exact hd) (.atom _), by rw [Act.size_put, hsz], by rw [Act.defers_put, hdf]⟩ hR
      cases hlo : lmem i lo <;> simp only [gOp, hlo] at hq
      rotate_left
      · obtain ⟨hd, hq⟩ := hq
        rcases hq with ⟨hw, hgo⟩ | ⟨hw, hR⟩
        · rw [if_pos (wants_spec henv hw)]
          exact .inl (go env henv hd hgo)
        · exact skip hd hw hR
      · obtain ⟨pv, ⟨hd, hy⟩, hR⟩ := hq
        rcases hy with ⟨hw, hgo⟩ | ⟨hw, hpv⟩
        · rw [if_pos (wants_spec henv hw)]
          exact .inl (go _ (henv.only _) hd (hgo.mono fun q s hq => by rw [hq.1, hq.2]; exact hR))
        · rw [hpv] at hR
          exact skip hd hw hR
end

section
variable {P : Program} {f : FuncId} {fn : Func} {n0 : Nat} {Q : PV → St → Prop} {k : List Item} {env : Env} {st : St} {ops : Array Oper}

theorem Run.draw {lo : List Nat} {id : Nat} {l : List Oper} (hm : P.follows .mixedOrders = true) (hB : lexG .any ops lo ops.size 0 (Array.replicate ops.size false) = true) (hl : ops.toList = l)
    (h : Walk P ops lo fn.ntmps (fun env' st' => Run P f fn n0 Q k env' st') 0 l env st) : Run P f fn n0 Q (.code (.region id ops true) :: k) env st := by
  subst hl
  intro hn0 K σ w a b cs hR hsz hd hfn hk hE
  have hany := anyQ_lex (md := .any) ops.toList 0 (Array.replicate ops.size false) env st (by simp) (by simpa using hB) h
  have hR1 : Rel K σ st { w with drawn := w.drawn + 1 } := ⟨hR.kin, hR.own, hR.sep, hR.gl⟩
  have hX1 : Ext K σ st w K σ st { w with drawn := w.drawn + 1 } := ⟨fun _ _ h => h, fun _ _ => rfl, Nat.le_refl _, rfl, rfl, rfl, Nat.le_refl _, fun i B h hr hl => .inl ⟨i, B, h, hr, hl, rfl⟩, fun _ _ _ => rfl, fun _ _ h => .inl h⟩
  have hwp : (Code.region id ops true).wp P (fun e a' w' => e = .normal ∧ ∃ env' st', Mid fn.ntmps K σ st w env' st' a' w' ∧ Run P f fn n0 Q k env' st') a w :=
    wp_region_any hm (anyQ_sound (K := K) (σ := σ) (st0 := st) (w := w) (fun env' st' a' w' hmid hr => ⟨rfl, env', st', hmid, hr⟩) _ _ _ _ _ _ ⟨K, σ, hR1, hX1, hE, hsz, hd⟩ (by simpa using hany))
  obtain ⟨e, a', w', ⟨rfl, env', st', ⟨K', σ', hrel, hext, henv, hsz', hdf'⟩, hrun⟩, harr⟩ := hwp b k cs
  obtain ⟨v, w2, fr, ⟨K2, σ2, st2, pv2, q2, e2, r2, v2⟩, hst, hrest⟩ := hrun (Nat.le_trans hn0 hext.len) K' σ' w' a' b cs hrel hsz' hdf' hfn hk henv
  exact ⟨v, w2, fr, ⟨K2, σ2, st2, pv2, q2, (hext.less hn0).trans e2, r2, v2⟩, Steps.trans harr hst, hrest⟩

variable {R : Env → St → Prop} {nt : Nat} {o : Oper} {rest : List Oper} {lo : List Nat} {m : Nat}
theorem Walk.nil (h : R env st) : Walk P ops lo nt R m [] env st := h
theorem Walk.retag {d : Nat} {l : List Oper} (h : Walk P ops lo nt R m l (env.put (some d) (env d)) st) : Walk P ops lo nt R m l env st := by
  have : env.put (some d) (env d) = env := by
    funext t
    show (bif Nat.beq t d then env d else env t) = env t
    cases hb : Nat.beq t d with
    | true => rw [Nat.eq_of_beq_eq_true hb]; rfl
    | false => rfl
  rwa [this] at h
end
end Go.Sy
