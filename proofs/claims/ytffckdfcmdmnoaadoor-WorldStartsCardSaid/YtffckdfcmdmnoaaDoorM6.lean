/- Texts merged: Y9, Y10. -/
import Derived.Test.YtffckdfcmdmnoaaDoorM5
import Derived.Still
section
/- Regions that draw their order. -/
set_option linter.unusedVariables false
set_option linter.unusedSimpArgs false
set_option linter.unusedSectionVars false
namespace Go.Sy
open Go Go.RowKit
variable [Globs]

def lmem (t : Nat) : List Nat → Bool
  | [] => false
  | a :: l => bif Nat.beq t a then true else lmem t l
theorem lmem_eq (t : Nat) (l : List Nat) : lmem t l = true ↔ t ∈ l := by
  induction l with
  | nil => simp [lmem]
  | cons a l ih =>
    unfold lmem
    cases h : Nat.beq t a with
    | true => have := Nat.eq_of_beq_eq_true h; simp [this]
    | false =>
      have : t ≠ a := fun e => by subst e; simp at h
      simp [ih, this]
/-- What an operation looks at, and nothing else. -/
def Env.only (l : List Nat) (env : Env) : Env := fun t => bif lmem t l then env t else .any

theorem Env.only_put {l : List Nat} {env : Env} {d : Option Tmp} {p : PV} (h : ∀ t, d = some t → t ∉ l) : Env.only l (env.put d p) = Env.only l env := by
  funext t
  unfold Env.only
  cases hm : lmem t l with
  | false => rfl
  | true =>
    have hm := (lmem_eq t l).1 hm
    cases d with
    | none => rfl
    | some d =>
      show (bif Nat.beq t d then p else env t) = env t
      have : Nat.beq t d = false := by rw [Bool.eq_false_iff]; intro hh; exact h d rfl (Nat.eq_of_beq_eq_true hh ▸ hm)
      rw [this]; rfl
theorem Env.put_comm (env : Env) {x y : Option Tmp} (v u : PV) (h : ∀ d, x = some d → y ≠ some d) : (env.put x v).put y u = (env.put y u).put x v := by
  cases x with
  | none => rfl
  | some d => cases y with
    | none => rfl
    | some e =>
      have hne : d ≠ e := fun he => h d rfl (he ▸ rfl)
      funext t
      show (bif Nat.beq t e then u else bif Nat.beq t d then v else env t) = (bif Nat.beq t d then v else bif Nat.beq t e then u else env t)
      cases h1 : Nat.beq t e <;> cases h2 : Nat.beq t d <;> simp
      exact absurd ((Nat.eq_of_beq_eq_true h2).symm.trans (Nat.eq_of_beq_eq_true h1)) hne

section
variable {P : Program} {ops : Array Oper} {md : Region.Mode} {st : St} {nt : Nat}

theorem wants_put {o : Oper} {env : Env} {d : Option Tmp} {p : PV} (h : ∀ t, d = some t → t ∉ o.looksAt ops) : wants ops (env.put d p) o = wants ops env o := by
  unfold wants
  cases hg : o.guard with
  | none => rfl
  | some jw =>
    obtain ⟨j, want⟩ := jw
    simp only
    cases hd : (ops[j]?).bind (·.dst) with
    | none => rfl
    | some e =>
      simp only
      have : (env.put d p) e = env e := by
        cases d with
        | none => rfl
        | some d =>
          show (bif Nat.beq e d then p else env e) = env e
          have : Nat.beq e d = false := by
            rw [Bool.eq_false_iff]
            intro hh
            have := Nat.eq_of_beq_eq_true hh
            subst this
            refine h e rfl ?_
            unfold Oper.looksAt
            simp [hg, hd]
          rw [this]; rfl
      rw [this]

/-- In this state the operation leaves 'pv' behind, and the state's own memory alone. -/
def Leaves (P : Program) (ops : Array Oper) (st : St) (nt : Nat) (o : Oper) (pv : PV) (env : Env) : Prop :=
  dstOk nt o.dst = true ∧
  ((wants ops env o = some true ∧ OpGoes P (Env.only (o.looksAt ops) env).ev st o fun q st' => q = pv ∧ st' = st) ∨ (wants ops env o = some false ∧ pv = .atom undef))

theorem Leaves.put {o : Oper} {pv : PV} {env : Env} (h : Leaves P ops st nt o pv env) {d : Option Tmp} {p : PV} (hd : ∀ t, d = some t → t ∉ o.looksAt ops) : Leaves P ops st nt o pv (env.put d p) := by
  unfold Leaves at *
  rw [wants_put hd, Env.only_put hd]; exact h
theorem Leaves.unput {o : Oper} {pv : PV} {env : Env} {d : Option Tmp} {p : PV} (h : Leaves P ops st nt o pv (env.put d p)) (hd : ∀ t, d = some t → t ∉ o.looksAt ops) : Leaves P ops st nt o pv env := by
  unfold Leaves at *
  rw [wants_put hd, Env.only_put hd] at h; exact h

theorem OpGoes.mono {E : Operand → PV} {o : Oper} {R R' : PV → St → Prop} (h : ∀ p s, R p s → R' p s) (hh : OpGoes P E st o R) : OpGoes P E st o R' := by
  intro K σ w ρ hR hE
  rcases hh K σ w ρ hR hE with ⟨v, w', hr, ho⟩ | ⟨g, args, hr, hc⟩
  · exact .inl ⟨v, w', hr, ho.mono h⟩
  · exact .inr ⟨g, args, hr, hc.mono fun e w' ⟨v, he, ho⟩ => ⟨v, he, ho.mono h⟩⟩

/-- Operation number i comes up: one of the list 'lo' may change the state; another leaves it alone. -/
def gOp (P : Program) (ops : Array Oper) (lo : List Nat) (nt : Nat) (i : Nat) (o : Oper) (R : Env → St → Prop) (env : Env) (st : St) : Prop :=
  match lmem i lo with
  | true => dstOk nt o.dst = true ∧ ((wants ops env o = some true ∧ OpGoes P env.ev st o fun q st' => R (env.put o.dst q) st') ∨ (wants ops env o = some false ∧ R (env.put o.dst (.atom undef)) st))
  | false => ∃ pv, Leaves P ops st nt o pv env ∧ R (env.put o.dst pv) st
theorem gOp_mono {lo : List Nat} {i : Nat} {o : Oper} {env : Env} {R R' : Env → St → Prop} (h : ∀ e s, R e s → R' e s) (hh : gOp P ops lo nt i o R env st) : gOp P ops lo nt i o R' env st := by
  unfold gOp at *
  split at hh
  · exact ⟨hh.1, hh.2.imp (fun x => ⟨x.1, x.2.mono fun p s hr => h _ _ hr⟩) (fun x => ⟨x.1, h _ _ x.2⟩)⟩
  · obtain ⟨pv, h1, h2⟩ := hh; exact ⟨pv, h1, h _ _ h2⟩

def anyQ (P : Program) (md : Region.Mode) (ops : Array Oper) (lo : List Nat) (nt : Nat) (R : Env → St → Prop) : Nat → Array Bool → Env → St → Prop
  | 0, listed, env, st => Region.ready md ops listed = [] ∧ R env st
  | fuel + 1, listed, env, st => (Region.ready md ops listed = [] → R env st) ∧ ∀ i ∈ Region.ready md ops listed, match ops[i]? with
    | none => anyQ P md ops lo nt R fuel (listed.setIfInBounds i true) env st
    | some o => gOp P ops lo nt i o (anyQ P md ops lo nt R fuel (listed.setIfInBounds i true)) env st

theorem gOp_put {lo : List Nat} {j : Nat} {oi oj : Oper} {pv : PV} (hlo : lmem j lo = false) (hap : oi.apart ops oj = true) {R : Env → St → Prop} {env : Env}
    (hy : Leaves P ops st nt oi pv env) (h : gOp P ops lo nt j oj R (env.put oi.dst pv) st) :
    gOp P ops lo nt j oj (fun e s => s = st ∧ Leaves P ops st nt oi pv e ∧ R (e.put oi.dst pv) st) env st := by
  obtain ⟨h1, h2, h3⟩ := Oper.apart_spec hap
  unfold gOp at *
  simp only [hlo] at *
  obtain ⟨u, hu, hn⟩ := h
  exact ⟨u, hu.unput h1, by first | rfl | trivial, hy.put h3, by rw [← Env.put_comm env pv u h2]; exact hn⟩

theorem anyQ_first {lo : List Nat} {R : Env → St → Prop} {i : Nat} {oi : Oper} {pv : PV} (hi : ops[i]? = some oi) (hlo : lmem i lo = false) :
    ∀ (fuel : Nat) (listed : Array Bool) (env : Env),
      (∀ j oj, ops[j]? = some oj → j ≠ i → listed.getD j true = false → (∀ e ∈ oj.after, Region.binds md e = true → e.on ≠ i) → oi.apart ops oj = true ∧ lmem j lo = false) →
      i ∈ Region.ready md ops listed → Leaves P ops st nt oi pv env →
      anyQ P md ops lo nt R fuel (listed.setIfInBounds i true) (env.put oi.dst pv) st → anyQ P md ops lo nt R (fuel + 1) listed env st := by
  have own : ∀ {env : Env} {R' : Env → St → Prop}, Leaves P ops st nt oi pv env → R' (env.put oi.dst pv) st → gOp P ops lo nt i oi R' env st := by
    intro env R' hy hR
    unfold gOp
    simp only [hlo]
    exact ⟨pv, hy, hR⟩
  intro fuel
  induction fuel with
  | zero =>
    intro listed env _ hr hy H
    refine ⟨fun h => (by rw [h] at hr; cases hr), fun j hj => ?_⟩
    by_cases hji : j = i
    · subst hji; simp only [hi]; exact own hy H
    · have := ready_mono hj hji
      rw [H.1] at this
      cases this
  | succ fuel ih =>
    intro listed env hfree hr hy H
    refine ⟨fun h => (by rw [h] at hr; cases hr), fun j hj => ?_⟩
    by_cases hji : j = i
    · subst hji; simp only [hi]; exact own hy H
    · have h1 := H.2 j (ready_mono hj hji)
      obtain ⟨hjun, oj, hoj, hall⟩ := mem_ready.1 hj
      simp only [hoj] at h1 ⊢
      have hnot : ∀ e ∈ oj.after, Region.binds md e = true → e.on ≠ i := fun e he hb heq => by
        have h1 := hall e he hb
        have h0 := (mem_ready.1 hr).1
        rw [heq] at h1
        rcases Nat.lt_or_ge i listed.size with h' | h'
        · simp [h'] at h0 h1; rw [h0] at h1; cases h1
        · simp [Array.getElem?_eq_none h'] at h1
      obtain ⟨hap, hjlo⟩ := hfree j oj hoj hji hjun hnot
      have h2 := gOp_put hjlo hap hy h1
      have hfree' : ∀ k ok, ops[k]? = some ok → k ≠ i → (listed.setIfInBounds j true).getD k true = false →
          (∀ e ∈ ok.after, Region.binds md e = true → e.on ≠ i) → oi.apart ops ok = true ∧ lmem k lo = false := fun k ok hk hki hun hno => by
        refine hfree k ok hk hki ?_ hno
        by_cases hjk : j = k
        · subst hjk; exact hjun
        · rw [getD_set_ne true hjk] at hun; exact hun
      refine gOp_mono (fun e s h3 => ?_) h2
      obtain ⟨hs, h4, h5⟩ := h3
      rw [hs]
      refine ih (listed.setIfInBounds j true) e hfree' (ready_mono hr (Ne.symm hji)) h4 ?_
      rw [Array.setIfInBounds_comm _ _ hji]
      exact h5

/-- The walk in the order of the text; k: the number of the first operation of the list. -/
def Walk (P : Program) (ops : Array Oper) (lo : List Nat) (nt : Nat) (R : Env → St → Prop) : Nat → List Oper → Env → St → Prop
  | _, [], env, st => R env st
  | k, o :: rest, env, st => gOp P ops lo nt k o (Walk P ops lo nt R (k + 1) rest) env st

def freeG (md : Region.Mode) (ops : Array Oper) (lo : List Nat) (listed : Array Bool) (i : Nat) : Bool :=
  match ops[i]? with
  | none => false
  | some oi => (List.range ops.size).all fun j => j == i || listed.getD j true || match ops[j]? with
      | some oj => oj.after.any (fun e => Region.binds md e && e.on == i) || (oi.apart ops oj && !lmem j lo)
      | none => true
theorem freeG_spec {lo : List Nat} {i : Nat} {oi : Oper} {listed : Array Bool} (hi : ops[i]? = some oi) (h : freeG md ops lo listed i = true) (j : Nat) (oj : Oper)
    (hj : ops[j]? = some oj) (hne : j ≠ i) (hun : listed.getD j true = false) (hno : ∀ e ∈ oj.after, Region.binds md e = true → e.on ≠ i) :
    oi.apart ops oj = true ∧ lmem j lo = false := by
  have hlt : j < ops.size := (Array.getElem?_eq_some_iff.1 hj).1
  simp only [freeG, hi, List.all_eq_true, List.mem_range] at h
  have h1 := h j hlt
  simp only [hj, hun, Bool.or_false, Bool.or_eq_true, beq_iff_eq, hne, false_or] at h1
  rcases h1 with h1 | h1
  · rw [Array.any_eq_true] at h1
    obtain ⟨m, hm, hb⟩ := h1
    simp only [Bool.and_eq_true, beq_iff_eq] at hb
    exact absurd hb.2 (hno _ (Array.getElem_mem hm) hb.1)
  · simp only [Bool.and_eq_true, Bool.not_eq_true'] at h1
    exact h1
def lexG (md : Region.Mode) (ops : Array Oper) (lo : List Nat) : Nat → Nat → Array Bool → Bool
  | 0, _, listed => (Region.ready md ops listed).isEmpty
  | fuel + 1, k, listed => (bif lmem k lo then Region.ready md ops listed == [k] else (Region.ready md ops listed).contains k && freeG md ops lo listed k) && lexG md ops lo fuel (k + 1) (listed.setIfInBounds k true)

theorem anyQ_lex {lo : List Nat} {R : Env → St → Prop} : ∀ (l : List Oper) (k : Nat) (listed : Array Bool) (env : Env) (st : St), (∀ j, l[j]? = ops[k + j]?) →
    lexG md ops lo l.length k listed = true → Walk P ops lo nt R k l env st → anyQ P md ops lo nt R l.length listed env st
  | [], _, _, _, _, _, hB, h => ⟨by simpa [lexG] using hB, h⟩
  | o :: l, k, listed, env, st, hl, hB, h => by
    have h0 : ops[k]? = some o := by simpa using (hl 0).symm
    have hl' : ∀ j, l[j]? = ops[(k + 1) + j]? := fun j => by have := hl (j + 1); simpa [Nat.add_assoc, Nat.add_comm 1 j] using this
    simp only [List.length_cons, lexG, Bool.and_eq_true] at hB
    obtain ⟨hB0, hB'⟩ := hB
    cases hlo : lmem k lo with
    | true =>
      simp only [hlo, cond_true, beq_iff_eq] at hB0
      refine ⟨fun he => (by rw [hB0] at he; cases he), fun i hi => ?_⟩
      rw [hB0] at hi
      simp at hi
      subst hi
      simp only [h0]
      exact gOp_mono (fun e s hw => anyQ_lex l (i + 1) _ e s hl' hB' hw) h
    | false =>
      simp only [hlo, cond_false, Bool.and_eq_true] at hB0
      have h' : gOp P ops lo nt k o (Walk P ops lo nt R (k + 1) l) env st := h
      unfold gOp at h'
      simp only [hlo] at h'
      obtain ⟨pv, hy, hK⟩ := h'
      exact anyQ_first h0 hlo l.length listed env (freeG_spec h0 hB0.2) (by simpa using hB0.1) hy (anyQ_lex l (k + 1) _ _ st hl' hB' hK)

/-- The state as it may stand in the middle of the region. -/
def Mid (nt : Nat) (K : KH) (σ : Nat → Loc) (st0 : St) (w : World) (env : Env) (st : St) (a : Act) (w' : World) : Prop :=
  ∃ K' σ', Rel K' σ' st w' ∧ Ext K σ st0 w K' σ' st w' ∧ EnvRel K' σ' st.length env a ∧ a.tmps.size = nt ∧ a.defers = []

theorem EnvRel.only {K : KH} {σ : Nat → Loc} {N : Nat} {env : Env} {a : Act} (h : EnvRel K σ N env a) (l : List Nat) : EnvRel K σ N (Env.only l env) a := by
  intro t
  unfold Env.only
  cases lmem t l with
  | true => exact h t
  | false => exact .any _

theorem anyQ_sound {lo : List Nat} {K : KH} {σ : Nat → Loc} {st0 : St} {w : World} {R : Env → St → Prop} {Q : Exit → Act → World → Prop} (hQ : ∀ env st a w', Mid nt K σ st0 w env st a w' → R env st → Q .normal a w') : ∀ (fuel : Nat) (listed : Array Bool) (env : Env) (st : St) (a : Act) (w' : World),
    Mid nt K σ st0 w env st a w' → anyQ P md ops lo nt R fuel listed env st → wpAny P md ops Q fuel listed a w'
  | 0, _, _, _, _, _, hm, h => ⟨h.1, hQ _ _ _ _ hm h.2⟩
  | fuel + 1, listed, env, st, a, w', hm, h => by
    refine ⟨fun h0 => hQ _ _ _ _ hm (h.1 h0), fun i hi => ?_⟩
    have hq := h.2 i hi
    unfold wpOp
    split
    · rename_i ho; simp only [ho] at hq; exact anyQ_sound hQ fuel _ _ _ _ _ hm hq
    · rename_i o ho
      simp only [ho] at hq
      obtain ⟨K', σ', hrel, hext, henv, hsz, hdf⟩ := hm
      have fin : dstOk nt o.dst = true → ∀ v w2, Out (fun q st' => anyQ P md ops lo nt R fuel (listed.setIfInBounds i true) (env.put o.dst q) st') K' σ' st w' v w2 → wpAny P md ops Q fuel (listed.setIfInBounds i true) (a.put o.dst v) w2 := by
        rintro hd v w2 ⟨K2, σ2, st2, q, hR, e2, r2, v2⟩
        refine anyQ_sound hQ fuel _ _ _ _ _ ⟨K2, σ2, r2, Ext.trans hext e2, ?_, by rw [Act.size_put, hsz], by rw [Act.defers_put, hdf]⟩ hR
        exact EnvRel.put (fun t => (henv t).ext e2) (by rw [hsz]; exact hd) v2
      have go : ∀ (E : Env), EnvRel K' σ' st.length E a → dstOk nt o.dst = true → OpGoes P E.ev st o (fun q st' => anyQ P md ops lo nt R fuel (listed.setIfInBounds i true) (env.put o.dst q) st') → o.wp P a w' (wpAny P md ops Q fuel (listed.setIfInBounds i true)) Q := by
        intro E hE hd hgo
        unfold Oper.wp
        rcases hgo K' σ' w' a.eval hrel (fun x => hE.ev x) with ⟨v, w2, hr | ⟨hr, rfl⟩, hout⟩ | ⟨g, args, hr, hc⟩
        · rw [hr]; exact fin hd v w2 hout
        · rw [hr]; exact fin hd undef w2 hout
        · rw [hr]
          refine hc.mono ?_
          rintro e w2 ⟨v, rfl, hout⟩
          exact fin hd v w2 hout
      have skip : dstOk nt o.dst = true → wants ops env o = some false → anyQ P md ops lo nt R fuel (listed.setIfInBounds i true) (env.put o.dst (.atom undef)) st → (if Region.wanted o (yielded ops a.tmps) then o.wp P a w' (wpAny P md ops Q fuel (listed.setIfInBounds i true)) Q ∨ (o.asks P a w' ∧ LetsOut Q) else wpAny P md ops Q fuel (listed.setIfInBounds i true) (a.put o.dst undef) w') := by
        intro hd hw hR
        rw [if_neg (by rw [wants_spec henv hw]; simp)]
        exact anyQ_sound hQ fuel _ _ _ _ _ ⟨K', σ', hrel, hext, EnvRel.put henv (by rw [hsz]; exact hd) (.atom _), by rw [Act.size_put, hsz], by rw [Act.defers_put, hdf]⟩ hR
      cases hlo : lmem i lo <;> simp only [gOp, hlo] at hq
      rotate_left
      · obtain ⟨hd, hq⟩ := hq
        rcases hq with ⟨hw, hgo⟩ | ⟨hw, hR⟩
        · rw [if_pos (wants_spec henv hw)]
          exact .inl (go env henv hd hgo)
        · exact skip hd hw hR
      · obtain ⟨pv, ⟨hd, hy⟩, hR⟩ := hq
        rcases hy with ⟨hw, hgo⟩ | ⟨hw, hpv⟩
        · rw [if_pos (wants_spec henv hw)]
          exact .inl (go _ (henv.only _) hd (hgo.mono fun q s hq => by rw [hq.1, hq.2]; exact hR))
        · rw [hpv] at hR
          exact skip hd hw hR
end

section
variable {P : Program} {f : FuncId} {fn : Func} {n0 : Nat} {Q : PV → St → Prop} {k : List Item} {env : Env} {st : St} {ops : Array Oper}

theorem Run.draw {lo : List Nat} {id : Nat} {l : List Oper} (hm : P.follows .mixedOrders = true) (hB : lexG .any ops lo ops.size 0 (Array.replicate ops.size false) = true) (hl : ops.toList = l)
    (h : Walk P ops lo fn.ntmps (fun env' st' => Run P f fn n0 Q k env' st') 0 l env st) : Run P f fn n0 Q (.code (.region id ops true) :: k) env st := by
  subst hl
  intro hn0 K σ w a b cs hR hsz hd hfn hk hE
  have hany := anyQ_lex (md := .any) ops.toList 0 (Array.replicate ops.size false) env st (by simp) (by simpa using hB) h
  have hR1 : Rel K σ st { w with drawn := w.drawn + 1 } := ⟨hR.kin, hR.own, hR.sep, hR.gl, hR.fl⟩
  have hX1 : Ext K σ st w K σ st { w with drawn := w.drawn + 1 } := ⟨fun _ _ h => h, fun _ _ => rfl, Nat.le_refl _, rfl, rfl, rfl, Nat.le_refl _, fun i B h hr hl => .inl ⟨i, B, h, hr, hl, rfl⟩, fun _ _ _ => rfl, fun _ _ h => .inl h⟩
  have hwp : (Code.region id ops true).wp P (fun e a' w' => e = .normal ∧ ∃ env' st', Mid fn.ntmps K σ st w env' st' a' w' ∧ Run P f fn n0 Q k env' st') a w :=
    wp_region_any hm (anyQ_sound (K := K) (σ := σ) (st0 := st) (w := w) (fun env' st' a' w' hmid hr => ⟨rfl, env', st', hmid, hr⟩) _ _ _ _ _ _ ⟨K, σ, hR1, hX1, hE, hsz, hd⟩ (by simpa using hany))
  obtain ⟨e, a', w', ⟨rfl, env', st', ⟨K', σ', hrel, hext, henv, hsz', hdf'⟩, hrun⟩, harr⟩ := hwp b k cs
  obtain ⟨v, w2, fr, ⟨K2, σ2, st2, pv2, q2, e2, r2, v2⟩, hst, hrest⟩ := hrun (Nat.le_trans hn0 hext.len) K' σ' w' a' b cs hrel hsz' hdf' hfn hk henv
  exact ⟨v, w2, fr, ⟨K2, σ2, st2, pv2, q2, (hext.less hn0).trans e2, r2, v2⟩, Steps.trans harr hst, hrest⟩

variable {R : Env → St → Prop} {nt : Nat} {o : Oper} {rest : List Oper} {lo : List Nat} {m : Nat}
theorem Walk.nil (h : R env st) : Walk P ops lo nt R m [] env st := h
theorem Walk.retag {d : Nat} {l : List Oper} (h : Walk P ops lo nt R m l (env.put (some d) (env d)) st) : Walk P ops lo nt R m l env st := by
  have : env.put (some d) (env d) = env := by
    funext t
    show (bif Nat.beq t d then env d else env t) = env t
    cases hb : Nat.beq t d with
    | true => rw [Nat.eq_of_beq_eq_true hb]; rfl
    | false => rfl
  rwa [this] at h
end
end Go.Sy
end
section
/- The rules as the walks use them. -/
set_option linter.unusedVariables false
set_option linter.unusedSimpArgs false
set_option linter.unusedSectionVars false
namespace Go.Sy
open Go Go.RowKit
variable [Globs]

/-! ### tables -/
def tlook : List (Nat × TI) → TT
  | [], _ => none
  | (a, i) :: l, t => bif Nat.beq t a then some i else tlook l t
def TL (P : Program) : List (Nat × TI) → Prop
  | [] => True
  | (t, i) :: l => (P.underlying t = some i.d ∧ (P.info? t).map (fun f => (f.size, f.bytes, f.zero)) = some (i.size, i.bytes, some i.zero) ∧ i.zero.cells.all Value.oneCell' = true) ∧ TL P l
omit [Globs] in
theorem TOk.of_list {P : Program} {l : List (Nat × TI)} (h : TL P l) : TOk P (tlook l) := by
  induction l with
  | nil => intro t i h; simp [tlook] at h
  | cons x l ih =>
    obtain ⟨a, j⟩ := x
    intro t i hi
    unfold tlook at hi
    cases hb : Nat.beq t a with
    | true =>
      have := Nat.eq_of_beq_eq_true hb
      subst this
      simp [hb] at hi; subst hi
      obtain ⟨⟨h1, h2, h3⟩, _⟩ := h
      refine ⟨h1, ?_⟩
      cases hf : P.info? t with
      | none => simp [hf] at h2
      | some f => simp [hf] at h2; exact ⟨f, rfl, h2.1, h2.2.1, h2.2.2, h3⟩
    | false => simp [hb] at hi; exact ih h.2 t i hi

def dstN (n : Nat) : Option Tmp → Option (Option Tmp)
  | some d => bif Nat.blt d n then some (some d) else none
  | none => some none
theorem dstN_spec {n : Nat} {d e : Option Tmp} (h : dstN n d = some e) : d = e ∧ dstOk n d = true := by
  cases d with
  | none => simp [dstN] at h; exact ⟨h, rfl⟩
  | some d =>
    cases hb : Nat.blt d n with
    | false => simp [dstN, hb] at h
    | true => simp [dstN, hb] at h; exact ⟨h, hb⟩

section
variable {P : Program} {f : FuncId} {fn : Func} {n0 : Nat} {Q : PV → St → Prop} {k : List Item} {env : Env} {st : St} {ops : Array Oper} {o : Oper} {rest : List Oper}

/-- The operations that are left. -/
def RunL (P : Program) (f : FuncId) (fn : Func) (n0 : Nat) (Q : PV → St → Prop) (ops : Array Oper) (l : List Oper) (k : List Item) (env : Env) (st : St) : Prop :=
  ∀ j, (∀ t, l[t]? = ops[j + t]?) → Run P f fn n0 Q (.inRegion ops (List.range' j l.length) :: k) env st

theorem Run.reg {id : Nat} {l : List Oper} (h : RunL P f fn n0 Q l.toArray l k env st) : Run P f fn n0 Q (.code (.region id l.toArray false) :: k) env st :=
  Run.region (l := List.range' 0 l.length) (by simp [List.range_eq_range']) (h 0 (by simp))
theorem RunL.nil (h : Run P f fn n0 Q k env st) : RunL P f fn n0 Q ops [] k env st := fun _ _ => Run.regionEnd h
theorem RunL.tail (h : RunL P f fn n0 Q ops rest k env st) {j : Nat} (hj : ∀ t, (o :: rest)[t]? = ops[j + t]?) : Run P f fn n0 Q (.inRegion ops (List.range' (j + 1) rest.length) :: k) env st :=
  h (j + 1) (fun t => by have := hj (t + 1); simpa [Nat.add_assoc, Nat.add_comm 1 t] using this)
theorem RunL.op {d : Option Tmp} (hw : wants ops env o = some true) (hd : dstN fn.ntmps o.dst = some d) (h : OpGoes P env.ev st o fun pv st' => RunL P f fn n0 Q ops rest k (env.put d pv) st') : RunL P f fn n0 Q ops (o :: rest) k env st := by
  intro j hj
  obtain ⟨e, hd'⟩ := dstN_spec hd
  have h0 : ops[j]? = some o := by simpa using (hj 0).symm
  refine Run.op h0 hw hd' (fun K σ w ρ hR hE => ?_)
  have up : ∀ v w', Out (fun pv st' => RunL P f fn n0 Q ops rest k (env.put d pv) st') K σ st w v w' → Out (fun pv st' => Run P f fn n0 Q (.inRegion ops (List.range' (j + 1) rest.length) :: k) (env.put o.dst pv) st') K σ st w v w' :=
    fun v w' ho => ho.mono (fun p s hr => by rw [e]; exact RunL.tail hr hj)
  rcases h K σ w ρ hR hE with ⟨v, w', hr, ho⟩ | ⟨g, args, hr, hc⟩
  · exact .inl ⟨v, w', hr, up v w' ho⟩
  · exact .inr ⟨g, args, hr, hc.mono fun e w' ⟨v, he, ho⟩ => ⟨v, he, up v w' ho⟩⟩
theorem RunL.skip {d : Option Tmp} (hw : wants ops env o = some false) (hd : dstN fn.ntmps o.dst = some d) (h : RunL P f fn n0 Q ops rest k (env.put d (.atom undef)) st) : RunL P f fn n0 Q ops (o :: rest) k env st := by
  intro j hj
  obtain ⟨e, hd'⟩ := dstN_spec hd
  have h0 : ops[j]? = some o := by simpa using (hj 0).symm
  exact Run.op_skip h0 hw hd' (by rw [e]; exact RunL.tail h hj)

/-- The guard of the next operation, as far as it is not known. -/
def guardOf (ops : Array Oper) (env : Env) (o : Oper) : Option (Nat × Bool) :=
  match o.guard with
  | none => none
  | some (j, _) => match (ops[j]?).bind (·.dst) with
    | none => none
    | some d => match env d with
      | .atom (.bool b) => some (d, b)
      | _ => none
theorem guardOf_spec {d : Nat} {b : Bool} (h : guardOf ops env o = some (d, b)) : env d = .atom (.bool b) := by
  unfold guardOf at h
  split at h
  · cases h
  · split at h
    · cases h
    · split at h
      · rename_i hb; simp at h; rw [← h.1, ← h.2]; exact hb
      · cases h
theorem RunL.guard {d : Nat} {b : Bool} (hg : guardOf ops env o = some (d, b)) (ht : b = true → RunL P f fn n0 Q ops (o :: rest) k (env.put (some d) (.atom (.bool true))) st) (hf : b = false → RunL P f fn n0 Q ops (o :: rest) k (env.put (some d) (.atom (.bool false))) st) :
    RunL P f fn n0 Q ops (o :: rest) k env st := by
  intro j hj
  have hp := guardOf_spec hg
  exact Run.boolSplit hp (fun hb => ht hb j hj) (fun hb => hf hb j hj)
theorem Run.condT {c : Operand} {x y : Code} (hc : env.ev c = .atom (.bool true)) (h : Run P f fn n0 Q (.code x :: k) env st) : Run P f fn n0 Q (.code (.cond c x y) :: k) env st := Run.cond hc (fun _ => h) (fun e => by cases e)
theorem Run.condF {c : Operand} {x y : Code} (hc : env.ev c = .atom (.bool false)) (h : Run P f fn n0 Q (.code y :: k) env st) : Run P f fn n0 Q (.code (.cond c x y) :: k) env st := Run.cond hc (fun e => by cases e) (fun _ => h)
def boolOf : PV → Option Bool
  | .atom (.bool b) => some b
  | _ => none
theorem boolOf_spec {p : PV} {b : Bool} (h : boolOf p = some b) : p = .atom (.bool b) := by
  cases p with
  | atom v => cases v <;> simp [boolOf] at h; subst h; rfl
  | _ => simp [boolOf] at h
theorem Run.condB {c : Operand} {x y : Code} {b : Bool} (hc : boolOf (env.ev c) = some b) (ht : b = true → Run P f fn n0 Q (.code x :: k) env st) (hf : b = false → Run P f fn n0 Q (.code y :: k) env st) :
    Run P f fn n0 Q (.code (.cond c x y) :: k) env st := Run.cond (boolOf_spec hc) ht hf
variable {R : Env → St → Prop} {nt : Nat} {lo : List Nat} {m : Nat}
theorem Walk.opE {d : Option Tmp} (hlo : lmem m lo = false) (hw : wants ops env o = some true) (hd : dstN nt o.dst = some d)
    (h : ∃ pv, (OpGoes P (Env.only (o.looksAt ops) env).ev st o fun q st' => q = pv ∧ st' = st) ∧ Walk P ops lo nt R (m + 1) rest (env.put d pv) st) : Walk P ops lo nt R m (o :: rest) env st := by
  obtain ⟨pv, h1, h2⟩ := h
  obtain ⟨e, hd'⟩ := dstN_spec hd
  unfold Walk gOp
  rw [hlo]
  exact ⟨pv, ⟨hd', .inl ⟨hw, h1⟩⟩, by rw [e]; exact h2⟩
theorem Walk.loud {d : Option Tmp} (hlo : lmem m lo = true) (hw : wants ops env o = some true) (hd : dstN nt o.dst = some d)
    (h : OpGoes P env.ev st o fun pv st' => Walk P ops lo nt R (m + 1) rest (env.put d pv) st') : Walk P ops lo nt R m (o :: rest) env st := by
  obtain ⟨e, hd'⟩ := dstN_spec hd
  unfold Walk gOp
  rw [hlo]
  exact ⟨hd', .inl ⟨hw, by rw [e]; exact h⟩⟩
theorem Walk.skip' {d : Option Tmp} (hw : wants ops env o = some false) (hd : dstN nt o.dst = some d) (h : Walk P ops lo nt R (m + 1) rest (env.put d (.atom undef)) st) : Walk P ops lo nt R m (o :: rest) env st := by
  obtain ⟨e, hd'⟩ := dstN_spec hd
  unfold Walk gOp
  split
  · exact ⟨hd', .inr ⟨hw, by rw [e]; exact h⟩⟩
  · exact ⟨_, ⟨hd', .inr ⟨hw, rfl⟩⟩, by rw [e]; exact h⟩
theorem Walk.guard {d : Nat} {b : Bool} (hg : guardOf ops env o = some (d, b)) (ht : b = true → Walk P ops lo nt R m (o :: rest) (env.put (some d) (.atom (.bool true))) st) (hf : b = false → Walk P ops lo nt R m (o :: rest) (env.put (some d) (.atom (.bool false))) st) :
    Walk P ops lo nt R m (o :: rest) env st := by
  have hp := guardOf_spec hg
  cases b
  · exact Walk.retag (d := d) (hp ▸ hf rfl)
  · exact Walk.retag (d := d) (hp ▸ ht rfl)
/-- The places of the stores. -/
def stores : Nat → List Oper → List Nat
  | _, [] => []
  | k, o :: l => match o.op with
    | .store _ _ _ => k :: stores (k + 1) l
    | .call { callee := .builtin .append, .. } => k :: stores (k + 1) l
    | .alloc _ => k :: stores (k + 1) l
    | .box _ _ => k :: stores (k + 1) l
    | _ => stores (k + 1) l
theorem Run.drw {id : Nat} {l : List Oper} (hm : P.follows .mixedOrders = true) (hB : lexG .any l.toArray (stores 0 l) l.toArray.size 0 (Array.replicate l.toArray.size false) = true)
    (h : Walk P l.toArray (stores 0 l) fn.ntmps (fun env' st' => Run P f fn n0 Q k env' st') 0 l env st) : Run P f fn n0 Q (.code (.region id l.toArray true) :: k) env st := Run.draw hm hB (by simp) h
end

section
variable {P : Program} {T : TT} {E : Operand → PV} {st : St} {o : Oper} {Q : PV → St → Prop}
def intOf' : PV → Option (IntKind × Int)
  | .atom (.int k n) => some (k, n)
  | _ => none
theorem intOf'_spec {p : PV} {k : IntKind} {n : Int} (h : intOf' p = some (k, n)) : p = .atom (.int k n) := by
  cases p with
  | atom v => cases v <;> simp [intOf'] at h; obtain ⟨rfl, rfl⟩ := h; rfl
  | _ => simp [intOf'] at h
def strOf' : PV → Option ByteArray
  | .atom (.string s) => some s
  | _ => none
theorem strOf'_spec {p : PV} {s : ByteArray} (h : strOf' p = some s) : p = .atom (.string s) := by
  cases p with
  | atom v => cases v <;> simp [strOf'] at h; subst h; rfl
  | _ => simp [strOf'] at h

theorem wrap_in {k : IntKind} {n : Int} (h0 : k.min ≤ n) (h1 : n ≤ k.max) : k.wrap n = n := by
  cases k <;> simp [IntKind.wrap, IntKind.min, IntKind.max, IntKind.signed, IntKind.bits] at * <;> omega
theorem wrap64 {n : Int} (h0 : -9223372036854775808 ≤ n) (h1 : n ≤ 9223372036854775807) : IntKind.i64.wrap n = n := wrap_in (by simpa [IntKind.min, IntKind.signed, IntKind.bits] using h0) (by simpa [IntKind.max, IntKind.signed, IntKind.bits] using h1)

/-- Sums that stay whole numbers of 64 bits. -/
theorem G_add64 (hT : TOk P T) {t t2 : TypeId} {x y : Operand} {a b : Int} (ho : o.op = .binOp .add t x y t2) (hx : intOf' (E x) = some (.i64, a)) (hy : intOf' (E y) = some (.i64, b)) (h0 : -9223372036854775808 ≤ a + b) (h1 : a + b ≤ 9223372036854775807) (h : Q (.atom (.int .i64 (a + b))) st) : OpGoes P E st o Q :=
  G_bin hT (pv := .atom (.int .i64 (a + b))) ho (by rw [intOf'_spec hx, intOf'_spec hy]; simp [xBin, ikeq, binInt, wrap64 h0 h1]) h
theorem G_sub64 (hT : TOk P T) {t t2 : TypeId} {x y : Operand} {a b : Int} (ho : o.op = .binOp .sub t x y t2) (hx : intOf' (E x) = some (.i64, a)) (hy : intOf' (E y) = some (.i64, b)) (h0 : -9223372036854775808 ≤ a - b) (h1 : a - b ≤ 9223372036854775807) (h : Q (.atom (.int .i64 (a - b))) st) : OpGoes P E st o Q :=
  G_bin hT (pv := .atom (.int .i64 (a - b))) ho (by rw [intOf'_spec hx, intOf'_spec hy]; simp [xBin, ikeq, binInt, wrap64 h0 h1]) h

theorem G_concat' {t t2 : TypeId} {x y : Operand} {a b : ByteArray} (ho : o.op = .binOp .add t x y t2) (hx : strOf' (E x) = some a) (hy : strOf' (E y) = some b) (hb : a.size + b.size ≤ 9223372036854775807) (h : Q (.atom (.string (a ++ b))) st) : OpGoes P E st o Q := G_concat ho (strOf'_spec hx) (strOf'_spec hy) hb h

def fzOf : PV → Option (Nat × Nat × (Nat → List PV))
  | .fz sz n el => some (sz, n, el)
  | _ => none
theorem fzOf_spec {p : PV} {sz n : Nat} {el : Nat → List PV} (h : fzOf p = some (sz, n, el)) : p = .fz sz n el := by
  cases p <;> simp [fzOf] at h; obtain ⟨rfl, rfl, rfl⟩ := h; rfl
def slcOf : PV → Option (Nat × Nat × Nat)
  | .slc i k n => some (i, k, n)
  | _ => none
theorem slcOf_spec {p : PV} {i k n : Nat} (h : slcOf p = some (i, k, n)) : p = .slc i k n := by
  cases p <;> simp [slcOf] at h; obtain ⟨rfl, rfl, rfl⟩ := h; rfl
def sliceT (T : TT) (t : TypeId) : Option (TypeId × TI) :=
  match T t with
  | none => none
  | some ti => match sliceD ti.d with
    | none => none
    | some e => match T e with
      | none => none
      | some te => some (e, te)
theorem sliceT_spec {t e : TypeId} {te : TI} (h : sliceT T t = some (e, te)) : ∃ ti, T t = some ti ∧ sliceD ti.d = some e ∧ T e = some te := by
  unfold sliceT at h
  split at h
  · cases h
  · rename_i ti hti
    split at h
    · cases h
    · rename_i e' he
      split at h
      · cases h
      · rename_i te' hte
        simp at h; obtain ⟨rfl, rfl⟩ := h
        exact ⟨ti, hti, he, hte⟩

theorem G_ixF (hT : TOk P T) {t e : TypeId} {te : TI} {x ix : Operand} {sz n : Nat} {el : Nat → List PV} {kd : IntKind} {i : Int} (ho : o.op = .indexAddr t x ix) (ht : sliceT T t = some (e, te)) (hx : fzOf (E x) = some (sz, n, el)) (hsz : Nat.beq te.size sz = true)
    (hi : intOf' (E ix) = some (kd, i)) (h0 : 0 ≤ i) (h1 : i < n) (h : Q (.fptr sz n el i.toNat 0) st) : OpGoes P E st o Q := by
  obtain ⟨ti, a, b, c⟩ := sliceT_spec ht
  exact G_index_fz hT ho a b c hsz (fzOf_spec hx) (intOf'_spec hi) h0 h1 h
theorem G_ixO (hT : TOk P T) {t e : TypeId} {te : TI} {x ix : Operand} {i0 k0 n : Nat} {B : Blk} {kd : IntKind} {i : Int} (ho : o.op = .indexAddr t x ix) (ht : sliceT T t = some (e, te)) (hx : slcOf (E x) = some (i0, k0, n)) (hB : st.get i0 = some B) (hsz : Nat.beq te.size B.sz = true)
    (hi : intOf' (E ix) = some (kd, i)) (h0 : 0 ≤ i) (h1 : i < n) (h : Q (.ptr i0 (k0 + i.toNat) 0) st) : OpGoes P E st o Q := by
  obtain ⟨ti, a, b, c⟩ := sliceT_spec ht
  exact G_index_own hT ho a b c (slcOf_spec hx) hB hsz (intOf'_spec hi) h0 h1 h

theorem G_appO (hT : TOk P T) {t e : TypeId} {te : TI} {x y : Operand} {i k0 n m : Nat} {B : Blk} {el : Nat → List PV} (ho : o.op = .call { callee := .builtin .append, args := #[x, y], argTypes := #[t, t] }) (ht : sliceT T t = some (e, te))
    (hx : slcOf (E x) = some (i, k0, n)) (hB : st.get i = some B) (hc : (bif B.ro then false else bif Nat.beq B.e e then bif Nat.beq B.sz te.size then bif Nat.beq te.zero.cells.size te.size then Nat.blt 0 te.bytes else false else false else false) = true)
    (hy : srcP st (E y) = some (te.size, m, el)) (hkn : k0 + n ≤ B.n) (hb : (n + m) * te.bytes ≤ 140737488355328) (h : Q (.slc st.length 0 (n + m)) (st.upd i none ++ [some ⟨e, te.size, n + m, appEl n (fun j => B.el (k0 + j)) el, false, false⟩])) : OpGoes P E st o Q := by
  obtain ⟨ti, a, b, c⟩ := sliceT_spec ht
  exact G_append_own hT ho a b c (slcOf_spec hx) hB hc hkn hy hb h
def isNilS : PV → Bool
  | .atom (.slice none 0 0) => true
  | _ => false
theorem isNilS_spec {p : PV} (h : isNilS p = true) : p = .atom (.slice none 0 0) := by
  unfold isNilS at h
  split at h
  · rfl
  · cases h
theorem G_appN (hT : TOk P T) {t e : TypeId} {te : TI} {x y : Operand} {m : Nat} {el : Nat → List PV} (ho : o.op = .call { callee := .builtin .append, args := #[x, y], argTypes := #[t, t] }) (ht : sliceT T t = some (e, te)) (hx : isNilS (E x) = true)
    (hc : (bif Nat.beq te.zero.cells.size te.size then Nat.blt 0 te.bytes else false) = true) (hy : srcP st (E y) = some (te.size, m, el)) (hb : m * te.bytes ≤ 140737488355328) (h : Q (.slc st.length 0 m) (st ++ [some ⟨e, te.size, m, el, false, false⟩])) : OpGoes P E st o Q := by
  obtain ⟨ti, a, b, c⟩ := sliceT_spec ht
  exact G_append_nil hT ho a b c (isNilS_spec hx) hc hy hb h
theorem G_litS (hT : TOk P T) {t e : TypeId} {len : Nat} {parts : Array (Nat × Operand)} {te : TI} {cs : List PV} (ho : o.op = .buildSlice t len parts) (ht : sliceT T t = some (e, te))
    (hc : (bif Nat.beq te.zero.cells.size te.size then bif Nat.blt 0 te.size then bif cellsOk (zeroEls te.zero) then Nat.ble (len * te.size) 16777216 else false else false else false) = true)
    (hf : fillP (fun i => some (i * te.size, te.size)) (zerosN (zeroEls te.zero) len) (parts.toList.map fun x => (x.1, E x.2)) = some cs) (h : Q (.slc st.length 0 len) (st ++ [some ⟨e, te.size, len, piece te.size cs, false, false⟩])) : OpGoes P E st o Q := by
  obtain ⟨ti, a, b, c⟩ := sliceT_spec ht
  cases h1 : Nat.beq te.zero.cells.size te.size <;> simp only [h1, cond_true, cond_false, reduceCtorEq] at hc
  cases h2 : Nat.blt 0 te.size <;> simp only [h2, cond_true, cond_false, reduceCtorEq] at hc
  cases h3 : cellsOk (zeroEls te.zero) <;> simp only [h3, cond_true, cond_false, reduceCtorEq] at hc
  exact G_buildSlice hT ho a b c h1 h2 h3 hc hf h
/-- A literal that nobody writes to. -/
theorem G_litF (hT : TOk P T) {t e : TypeId} {len : Nat} {parts : Array (Nat × Operand)} {te : TI} {cs : List PV} (ho : o.op = .buildSlice t len parts) (ht : sliceT T t = some (e, te))
    (hc : (bif Nat.beq te.zero.cells.size te.size then bif Nat.blt 0 te.size then bif cellsOk (zeroEls te.zero) then Nat.ble (len * te.size) 16777216 else false else false else false) = true)
    (hf : fillP (fun i => some (i * te.size, te.size)) (zerosN (zeroEls te.zero) len) (parts.toList.map fun x => (x.1, E x.2)) = some cs) (hcl : closedL cs = true) (h : Q (.fz te.size len (piece te.size cs)) st) : OpGoes P E st o Q := by
  obtain ⟨ti, a, b, c⟩ := sliceT_spec ht
  cases h1 : Nat.beq te.zero.cells.size te.size <;> simp only [h1, cond_true, cond_false, reduceCtorEq] at hc
  cases h2 : Nat.blt 0 te.size <;> simp only [h2, cond_true, cond_false, reduceCtorEq] at hc
  cases h3 : cellsOk (zeroEls te.zero) <;> simp only [h3, cond_true, cond_false, reduceCtorEq] at hc
  intro K σ w ρ hR hE
  obtain ⟨cells', hr, hh, hsize, hcl'⟩ := buildSlice_run hT ho a b c h1 h2 h3 hc hf w hE
  rw [Nat.blt_eq] at h2
  have hsmall := Nat.le_of_ble_eq_true hc
  have hm : len ≤ maxLen := by
    have : len * 1 ≤ len * te.size := Nat.mul_le_mul_left _ h2
    simp only [maxLen]; omega
  have hle : ∀ b cur, K b = some cur → (if b = w.heap.size then some cells' else K b) = some cur := by
    intro b cur hb
    have := hR.klt hb
    rw [if_neg (by omega)]; exact hb
  obtain ⟨a1, a2⟩ := hR.after (K' := fun b => if b = w.heap.size then some cells' else K b) (w' := w.alloc (.cells cells' e)) hle (fun b cur hb => by
    by_cases e1 : b = w.heap.size
    · rw [if_pos e1] at hb; cases hb; rw [e1]; exact ⟨(e, (0, 0)), heap_alloc_new w _⟩
    · rw [if_neg e1] at hb
      obtain ⟨e2, he2⟩ := hR.kin b cur hb
      exact ⟨e2, by rw [heap_alloc_old w _ _ (hR.klt hb)]; exact he2⟩) (fun b cur hb => by
    by_cases e1 : b = w.heap.size
    · exact .inr (by omega)
    · rw [if_neg e1] at hb; exact .inl hb) ((Below.refl _ _).alloc (Nat.le_refl _) _)
  refine .inl ⟨_, _, .inl hr, _, σ, st, _, h, a2, a1, ?_⟩
  rcases Nat.eq_zero_or_pos len with rfl | hpos
  · exact .fz0 _ _ hm
  · have := VR.fz (K := fun b => if b = w.heap.size then some cells' else K b) (σ := σ) (N := st.length) (sz := te.size) (n := len) (el := piece te.size cs) (b := w.heap.size) (o := 0) (cap := len) (cur := cells') (by simp) hpos (Nat.le_refl _) hm hh.1 (fun k hk => (hh.2.2 k hk).1) hh.one (fun k hk j p hp => by
      have h4 := ((hh.2.2 k hk).2 j p hp).mono (N' := st.length) hle (fun _ _ => rfl) (Nat.le_refl _)
      refine h4.closed (closedL_mem hcl p ?_)
      obtain ⟨p1, p2⟩ := piece_spec (sz := te.size) (n := len) (cs := cs) hcl' hk
      have hj : j < te.size := by rw [← p1]; exact (List.getElem?_eq_some_iff.1 hp).1
      rw [p2 j hj] at hp
      exact List.mem_of_getElem? hp)
    exact this
def buildT (T : TT) (t : TypeId) : Option (List (Nat × Nat) × Value) :=
  match T t with
  | none => none
  | some ti => match structD ti.d with
    | none => none
    | some fs => match placesP T fs.toList with
      | none => none
      | some pl => some (pl, ti.zero)
theorem G_lit (hT : TOk P T) {t : TypeId} {parts : Array (Nat × Operand)} {pl : List (Nat × Nat)} {z : Value} {cs : List PV} (ho : o.op = .build t parts) (ht : buildT T t = some (pl, z))
    (hf : fillP (lpl pl) (z.cells.toList.map .atom) (parts.toList.map fun x => (x.1, E x.2)) = some cs) (h : Q (.agg cs) st) : OpGoes P E st o Q := by
  unfold buildT at ht
  split at ht
  · cases ht
  · rename_i ti hti
    split at ht
    · cases ht
    · rename_i fs hfs
      split at ht
      · cases ht
      · rename_i pl' hpl
        simp at ht; obtain ⟨rfl, rfl⟩ := ht
        exact G_build hT ho hti hfs hpl hf h
def allocT (T : TT) (t : TypeId) : Option (Nat × List PV) :=
  match T t with
  | none => none
  | some ti => bif cellsOk (zeroEls ti.zero) then some (ti.zero.cells.size, zeroEls ti.zero) else none
theorem G_alloc' (hT : TOk P T) {elem : TypeId} {sz : Nat} {z : List PV} (ho : o.op = .alloc elem) (ht : allocT T elem = some (sz, z)) (h : Q (.ptr st.length 0 0) (st ++ [some ⟨elem, sz, 1, fun _ => z, false, false⟩])) : OpGoes P E st o Q := by
  unfold allocT at ht
  split at ht
  · cases ht
  · rename_i ti hti
    cases hc : cellsOk (zeroEls ti.zero) with
    | false => simp [hc] at ht
    | true =>
      simp [hc] at ht; obtain ⟨rfl, rfl⟩ := ht
      exact G_alloc hT ho hti hc h
def boxOf (p : PV) : Option (List PV) := match pvCells p with
  | some cs => bif cellsOk cs then some cs else none
  | none => none
theorem boxOf_spec {p : PV} {cs : List PV} (h : boxOf p = some cs) : pvCells p = some cs ∧ cellsOk cs = true := by
  unfold boxOf at h
  split at h
  · rename_i c hc
    cases hk : cellsOk c <;> simp [hk] at h
    subst h; exact ⟨hc, hk⟩
  · cases h
theorem G_box' {elem : TypeId} {x : Operand} {cs : List PV} (ho : o.op = .box elem x) (hc : boxOf (E x) = some cs) (h : Q (.ptr st.length 0 0) (st ++ [some ⟨elem, cs.length, 1, fun _ => cs, false, false⟩])) : OpGoes P E st o Q :=
  G_box ho (boxOf_spec hc).1 (boxOf_spec hc).2 h
def ptrOf : PV → Option (Nat × Nat × Nat)
  | .ptr i k off => some (i, k, off)
  | _ => none
theorem ptrOf_spec {p : PV} {i k off : Nat} (h : ptrOf p = some (i, k, off)) : p = .ptr i k off := by
  cases p <;> simp [ptrOf] at h; obtain ⟨rfl, rfl, rfl⟩ := h; rfl
theorem G_st (hT : TOk P T) {t : TypeId} {ti : TI} {a x : Operand} {i k off : Nat} {B : Blk} {new : List PV} (ho : o.op = .store t a x) (ht : T t = some ti) (ha : ptrOf (E a) = some (i, k, off)) (hB : st.get i = some B) (hc : boxOf (E x) = some new)
    (hb : (bif B.ro then false else bif Nat.beq new.length ti.size then Nat.ble (off + new.length) B.sz else false) = true) (hk : k < B.n)
    (h : Q (.atom undef) (st.upd i (some { B with el := fun k' => bif Nat.beq k' k then setL off (B.el k) new else B.el k' }))) : OpGoes P E st o Q := by
  cases h1 : B.ro <;> simp only [h1, cond_true, cond_false, reduceCtorEq] at hb
  cases h2 : Nat.beq new.length ti.size <;> simp only [h2, cond_true, cond_false, reduceCtorEq] at hb
  exact G_store hT ho ht (ptrOf_spec ha) hB h1 hk (boxOf_spec hc).1 (boxOf_spec hc).2 h2 hb h
theorem OpGoes.same (h : OpGoes P E st o fun pv st' => ∃ i B B', st'.get i = some B ∧ B'.e = B.e ∧ B'.sz = B.sz ∧ B'.n = B.n ∧ B'.as B = true ∧ (∀ k, k < B.n → B'.el k = B.el k) ∧ Q pv (st'.upd i (some B'))) : OpGoes P E st o Q := by
  intro K σ w ρ hR hE
  have up : ∀ v w', Out (fun pv st' => ∃ i B B', st'.get i = some B ∧ B'.e = B.e ∧ B'.sz = B.sz ∧ B'.n = B.n ∧ B'.as B = true ∧ (∀ k, k < B.n → B'.el k = B.el k) ∧ Q pv (st'.upd i (some B'))) K σ st w v w' → Out Q K σ st w v w' := by
    rintro v w' ⟨K', σ', st', pv, ⟨i, B, B', h1, h2, h3, h4, h5, h6, hq⟩, hx, hr, hv⟩
    obtain ⟨r1, x1⟩ := hr.same h1 h2 h3 h4 (Blk.as_spec h5).1 h6 (Blk.as_spec h5).2
    exact ⟨K', σ', _, pv, hq, Ext.trans hx x1, r1, by rw [St.length_upd]; exact hv⟩
  rcases h K σ w ρ hR hE with ⟨v, w', hr, ho⟩ | ⟨g, args, hr, hc⟩
  · exact .inl ⟨v, w', hr, up v w' ho⟩
  · exact .inr ⟨g, args, hr, hc.mono fun e w' ⟨v, he, ho⟩ => ⟨v, he, up v w' ho⟩⟩
/-- A store into a variable. -/
theorem G_st1 (hT : TOk P T) {t : TypeId} {ti : TI} {a x : Operand} {i off : Nat} {B : Blk} {new : List PV} (ho : o.op = .store t a x) (ht : T t = some ti) (ha : ptrOf (E a) = some (i, 0, off)) (hB : st.get i = some B) (hc : boxOf (E x) = some new)
    (hb : (bif B.ro then false else bif Nat.beq new.length ti.size then bif Nat.ble (off + new.length) B.sz then Nat.beq B.n 1 else false else false) = true)
    (h : Q (.atom undef) (st.upd i (some ⟨B.e, B.sz, 1, fun _ => setL off (B.el 0) new, false, false⟩))) : OpGoes P E st o Q := by
  cases h1 : B.ro <;> simp only [h1, cond_true, cond_false, reduceCtorEq] at hb
  cases h2 : Nat.beq new.length ti.size <;> simp only [h2, cond_true, cond_false, reduceCtorEq] at hb
  cases h3 : Nat.ble (off + new.length) B.sz <;> simp only [h3, cond_true, cond_false, reduceCtorEq] at hb
  have hn := Nat.eq_of_beq_eq_true hb
  refine OpGoes.same (G_store hT ho ht (ptrOf_spec ha) hB h1 (by omega) (boxOf_spec hc).1 (boxOf_spec hc).2 h2 h3 ⟨i, _, ⟨B.e, B.sz, 1, fun _ => setL off (B.el 0) new, false, false⟩, St.get_upd_same _ (St.get_lt hB), rfl, rfl, hn.symm, Blk.as_of h1.symm (fun h => nomatch h), fun k hk => ?_, ?_⟩)
  · have hk : k < B.n := hk
    have : k = 0 := by omega
    subst this; rfl
  · rw [show (st.upd i (some { B with el := fun k' => bif Nat.beq k' 0 then setL off (B.el 0) new else B.el k' })).upd i (some ⟨B.e, B.sz, 1, fun _ => setL off (B.el 0) new, false, false⟩) = st.upd i (some ⟨B.e, B.sz, 1, fun _ => setL off (B.el 0) new, false, false⟩) by simp [St.upd_eq]]
    exact h
theorem G_lenS (hT : TOk P T) {t e : TypeId} {te : TI} {x : Operand} {pv : PV} (ho : o.op = .call { callee := .builtin .len, args := #[x], argTypes := #[t] }) (ht : sliceT T t = some (e, te)) (hv : xLen (E x) = some pv) (h : Q pv st) : OpGoes P E st o Q := by
  obtain ⟨ti, a, b, c⟩ := sliceT_spec ht
  exact G_len hT ho a b hv h
def strT (T : TT) (t : TypeId) : Bool := match T t with
  | some ti => isStrD ti.d
  | none => false
theorem strT_spec {t : TypeId} (h : strT T t = true) : ∃ ti, T t = some ti ∧ isStrD ti.d = true := by
  unfold strT at h
  split at h
  · rename_i ti hti; exact ⟨ti, hti, h⟩
  · cases h
theorem G_lenT (hT : TOk P T) {t : TypeId} {x : Operand} {s : ByteArray} (ho : o.op = .call { callee := .builtin .len, args := #[x], argTypes := #[t] }) (ht : strT T t = true) (hv : strOf' (E x) = some s) (h : Q (.atom (.int .i64 s.size)) st) : OpGoes P E st o Q := by
  obtain ⟨ti, a, b⟩ := strT_spec ht
  exact G_lenStr hT ho a b (strOf'_spec hv) h
def funcOf : PV → Option (FuncId × List PV)
  | .func f c => some (f, c)
  | _ => none
theorem funcOf_spec {p : PV} {f : FuncId} {c : List PV} (h : funcOf p = some (f, c)) : p = .func f c := by
  cases p <;> simp [funcOf] at h; obtain ⟨rfl, rfl⟩ := h; rfl
theorem G_call {c : Operand} {args : Array Operand} {ats : Array TypeId} {g : FuncId} {cap asx : List PV} {pv : PV} (hp : Pure P g asx pv) (ho : o.op = .call { callee := .value c, args, argTypes := ats }) (hc : funcOf (E c) = some (g, cap))
    (hcv : CvArgs roB st (args.toList.map E ++ cap) asx) (h : Q pv st) : OpGoes P E st o Q := G_callPure ho (funcOf_spec hc) hp hcv h
theorem G_lend {c : Operand} {args : Array Operand} {ats : Array TypeId} {g : FuncId} {cap asx : List PV} {pv : PV} (hp : Pure P g asx pv) (ho : o.op = .call { callee := .value c, args, argTypes := ats }) (hc : funcOf (E c) = some (g, cap)) (hfl : flatB pv = true)
    (hcv : CvArgs allB st (args.toList.map E ++ cap) asx) (h : Q pv st) : OpGoes P E st o Q := G_callLend ho (funcOf_spec hc) hp hfl hcv h
theorem G_pick' {c x y : Operand} {b : Bool} {pv : PV} (ho : o.op = .pick c x y) (hc : boolOf (E c) = some b) (hv : strict (bif b then E x else E y) = some pv) (h : Q pv st) : OpGoes P E st o Q := G_pick ho (boolOf_spec hc) hv h
end
end Go.Sy
end
