/- Texts merged: Y29, Y16, Y17. -/
import Derived.Test.YtffckdfcmdmnoaaDoorM11
section
/- Regions that draw their order: two operations that change the state, the one or the other first. -/
set_option linter.unusedVariables false
set_option linter.unusedSimpArgs false
set_option linter.unusedSectionVars false
namespace Go.Sy
open Go Go.RowKit
variable [Globs]
/-- A plan: what leaves the state alone; what changes it; two of these, the one or the other first. -/
inductive PX where
  | done
  | q (k : Nat) (t : PX)
  | one (k : Nat) (t : PX)
  | two (k1 : Nat) (t1 : PX) (k2 : Nat) (t2 : PX)
def PX.dep : PX → Nat
  | .done => 0
  | .q _ t => t.dep + 1
  | .one _ t => t.dep + 1
  | .two _ t1 _ t2 => Nat.max t1.dep t2.dep + 1
section
variable (ops : Array Oper) (lo : List Nat)
def preB (k : Nat) (o : Oper) (W : Array Bool) : Bool := Nat.blt k W.size && o.after.all (fun e => !Region.binds .any e || Nat.blt e.on k)
def loudB (k : Nat) (wq : List Nat) (W : Array Bool) : Bool := match ops[k]? with
  | none => false
  | some o => preB k o W && lmem k lo && sepL ops o (stayF ops k wq)
def okX : PX → List Nat → Array Bool → Bool
  | .done, _, W => (Region.ready .any ops W).isEmpty
  | .q k t, wq, W => match ops[k]? with
    | none => false
    | some o => preB k o W && (Region.ready .any ops W).contains k && !(lmem k lo) && sepL ops o wq && selfP ops o && (late ops k).all (fun j => !W.getD j false) &&
      allI ops.size (fun j => Nat.beq j k || W.getD j true || lmem j (late ops k) || (match ops[j]? with | some oj => lookP ops o oj | none => true)) && okX t (k :: wq) (W.setIfInBounds k true)
  | .one k t, wq, W => loudB ops lo k wq W && Region.ready .any ops W == [k] && okX t (stayF ops k wq) (W.setIfInBounds k true)
  | .two k1 t1 k2 t2, wq, W => loudB ops lo k1 wq W && loudB ops lo k2 wq W && Region.ready .any ops W == [k1, k2] && okX t1 (stayF ops k1 wq) (W.setIfInBounds k1 true) && okX t2 (stayF ops k2 wq) (W.setIfInBounds k2 true)
end
section
variable (P : Program) (ops : Array Oper) (nt : Nat) (R : Env → St → Prop)
def LoudW (k : Nat) (pend : List Nat) (C : Env → St → Prop) (env : Env) (st : St) : Prop := ∃ o, ops[k]? = some o ∧ dstOk nt o.dst = true ∧
  ((wants ops env o = some true ∧ OpGoes P (Env.only (o.looksAt ops) env).ev st o fun q st' => StayL P ops st' nt pend (env.put o.dst q) ∧ C (env.put o.dst q) st') ∨ (wants ops env o = some false ∧ C (env.put o.dst (.atom undef)) st))
def WalkX : PX → List Nat → Env → St → Prop
  | .done, _, env, st => R env st
  | .q k t, wq, env, st => ∃ o, ops[k]? = some o ∧ ∃ pv, Leaves P ops st nt o pv env ∧ WalkX t (k :: wq) (env.put o.dst pv) st
  | .one k t, wq, env, st => LoudW P ops nt k (stayF ops k wq) (WalkX t (stayF ops k wq)) env st
  | .two k1 t1 k2 t2, wq, env, st => LoudW P ops nt k1 (stayF ops k1 wq) (WalkX t1 (stayF ops k1 wq)) env st ∧ LoudW P ops nt k2 (stayF ops k2 wq) (WalkX t2 (stayF ops k2 wq)) env st
end
section
variable {P : Program} {ops : Array Oper} {nt : Nat} {st : St} {lo wq : List Nat} {S W : Array Bool} {acts : List (Nat × Oper)} {ea ec : Env}
theorem preB_spec {k : Nat} {o : Oper} (h : preB k o W = true) : k < W.size ∧ ∀ e ∈ o.after, Region.binds .any e = true → e.on < k := by
  unfold preB at h
  simp only [Bool.and_eq_true] at h
  obtain ⟨h1, h2⟩ := h
  rw [Nat.blt_eq] at h1
  refine ⟨h1, fun e he hb => ?_⟩
  have := (Array.all_eq_true_iff_forall_mem.1 h2) e he
  simpa [hb, Nat.blt_eq] using this
theorem loudB_spec {k : Nat} (h : loudB ops lo k wq W = true) : ∃ o, ops[k]? = some o ∧ k < W.size ∧ lmem k lo = true ∧ sepL ops o (stayF ops k wq) = true := by
  unfold loudB at h
  split at h
  · cases h
  · rename_i o ho
    simp only [Bool.and_eq_true] at h
    exact ⟨o, ho, (preB_spec h.1.1).1, h.1.2, h.2⟩
theorem walkX_sound {R : Env → St → Prop} : ∀ (fuel : Nat) (S W : Array Bool) (acts : List (Nat × Oper)) (wq : List Nat) (t : PX) (ea ec : Env) (st : St), acts.length + t.dep ≤ fuel → okX ops lo t wq W = true → Pend P ops nt lo wq S W acts ea ec st →
    WalkX P ops nt R t wq ec st → anyQ P .any ops lo nt R fuel S ea st := by
  have end_ : ∀ {S W : Array Bool} {wq : List Nat} {ea ec : Env} {st : St}, okX ops lo .done wq W = true → Pend P ops nt lo wq S W [] ea ec st → WalkX P ops nt R .done wq ec st → Region.ready .any ops S = [] ∧ R ea st := by
    intro S W wq ea ec st hB hp hw
    obtain ⟨rfl, rfl⟩ := hp.none_
    exact ⟨by simpa [okX] using hB, hw⟩
  intro fuel
  induction fuel with
  | zero =>
    intro S W acts wq t ea ec st hf hB hp hw
    obtain rfl : acts = [] := List.eq_nil_of_length_eq_zero (by omega)
    cases t with
    | done => exact end_ hB hp hw
    | q k t => simp [PX.dep] at hf
    | one k t => simp [PX.dep] at hf
    | two k1 t1 k2 t2 => simp [PX.dep] at hf
  | succ fuel ih =>
    intro S W acts wq t ea ec st hf hB hp hw
    refine ⟨fun h0 => ?_, fun j hj => ?_⟩
    · by_cases ha : acts = []
      · subst ha
        obtain ⟨rfl, rfl⟩ := hp.none_
        cases t with
        | done => exact (end_ hB hp hw).2
        | q k t =>
          unfold okX at hB
          split at hB
          · cases hB
          · simp only [Bool.and_eq_true] at hB
            have := hB.1.1.1.1.1.1.2
            rw [h0] at this
            simp at this
        | one k t =>
          unfold okX at hB
          simp only [Bool.and_eq_true, beq_iff_eq] at hB
          have := hB.1.2
          rw [h0] at this
          cases this
        | two k1 t1 k2 t2 =>
          unfold okX at hB
          simp only [Bool.and_eq_true, beq_iff_eq] at hB
          have := hB.1.1.2
          rw [h0] at this
          cases this
      · obtain ⟨j, hj⟩ := hp.least ha
        rw [h0] at hj; cases hj
    · obtain ⟨hjun, oj, hoj, hall⟩ := mem_ready.1 hj
      simp only [hoj]
      have STEP : ∀ (t : PX) (W : Array Bool) (acts : List (Nat × Oper)) (wq : List Nat) (ec : Env), acts.length + t.dep ≤ fuel + 1 → okX ops lo t wq W = true → Pend P ops nt lo wq S W acts ea ec st → WalkX P ops nt R t wq ec st → (∃ x ∈ acts, x.1 = j) →
          gOp P ops lo nt j oj (anyQ P .any ops lo nt R fuel (S.setIfInBounds j true)) ea st := by
        intro t W acts wq ec hf hB hp hw ⟨x, hx, hxj⟩
        obtain ⟨a1, a2, a3, a4, a5⟩ := hp.at_ x hx
        rw [hxj] at a1 a2
        rw [hoj] at a1
        have e : oj = x.2 := Option.some.inj a1
        obtain ⟨pv, hl, hp'⟩ := hp.done hj hx hxj
        unfold gOp
        rw [a2]
        refine ⟨pv, e ▸ hl, ?_⟩
        rw [e]
        refine ih _ _ _ _ t _ _ _ ?_ hB hp' hw
        have hlt : (acts.filter fun y => !Nat.beq y.1 j).length < acts.length := by
          have := List.length_filter_lt_length_iff_exists (p := fun y : Nat × Oper => !Nat.beq y.1 j) (l := acts)
          exact this.2 ⟨x, hx, by simp [hxj]⟩
        omega
      have LOUD : ∀ (k : Nat) (t : PX) (W : Array Bool) (acts : List (Nat × Oper)) (wq : List Nat) (ec : Env), acts.length + (t.dep + 1) ≤ fuel + 1 → loudB ops lo k wq W = true → okX ops lo t (stayF ops k wq) (W.setIfInBounds k true) = true → Pend P ops nt lo wq S W acts ea ec st → LoudW P ops nt k (stayF ops k wq) (WalkX P ops nt R t (stayF ops k wq)) ec st → (¬ ∃ x ∈ acts, x.1 = j) → j = k →
          gOp P ops lo nt j oj (anyQ P .any ops lo nt R fuel (S.setIfInBounds j true)) ea st := by
        intro k t W acts wq ec hf hlb hB' hp hw hx hjk
        subst hjk
        obtain ⟨o, ho, hk, hlo, hsep⟩ := loudB_spec hlb
        rw [hoj] at ho; cases ho
        have hag := hp.lookAgree hj hoj (fun h => absurd h hx)
        obtain ⟨o, ho, hd, hw⟩ := hw
        rw [hoj] at ho; cases ho
        unfold gOp
        rw [hlo]
        refine ⟨hd, ?_⟩
        rw [wants_congr hag]
        rcases hw with ⟨hw1, hw2⟩ | ⟨hw1, hw2⟩
        · refine .inl ⟨hw1, ((OpGoes.widen (fun x => only_ev (fun t ht => (hag t ht).symm) x) hw2)).mono fun q s hq => ?_⟩
          refine ih _ _ acts _ t _ _ _ (by omega) hB' (hp.loud hoj hlo hk hj (fun x hx' => ?_)) hq.2
          obtain ⟨a1, a2, a3, a4, a5⟩ := hp.at_ x hx'
          refine hq.1.at x.1 (List.mem_filter.2 ⟨a5, ?_⟩) x.2 a1
          simp [ready_not_late hj (getD_false_of a3).1 (hp.late x hx')]
        · refine .inr ⟨hw1, ?_⟩
          refine ih _ _ acts _ t _ _ _ (by omega) hB' (hp.loud hoj hlo hk hj (fun x hx' => ?_)) hw2
          obtain ⟨a1, a2, a3, a4, a5⟩ := hp.at_ x hx'
          exact (hp.stay x hx').put (sepL_spec hsep _ (List.mem_filter.2 ⟨a5, by simp [ready_not_late hj (getD_false_of a3).1 (hp.late x hx')]⟩) _ a1)
      have ADV : ∀ (t : PX) (W : Array Bool) (acts : List (Nat × Oper)) (wq : List Nat) (ec : Env), acts.length + t.dep ≤ fuel + 1 → okX ops lo t wq W = true → Pend P ops nt lo wq S W acts ea ec st → WalkX P ops nt R t wq ec st →
          gOp P ops lo nt j oj (anyQ P .any ops lo nt R fuel (S.setIfInBounds j true)) ea st := by
        intro t
        induction t with
        | done =>
          intro W acts wq ec hf hB hp hw
          by_cases hx : ∃ x ∈ acts, x.1 = j
          · exact STEP .done W acts wq ec hf hB hp hw hx
          · have := hp.readyW hj hx
            rw [show Region.ready .any ops W = [] by simpa [okX] using hB] at this; cases this
        | q k t ihp =>
          intro W acts wq ec hf hB hp hw
          by_cases hx : ∃ x ∈ acts, x.1 = j
          · exact STEP (.q k t) W acts wq ec hf hB hp hw hx
          have hB0 := hB
          unfold okX at hB
          split at hB
          · cases hB
          · rename_i o ho
            simp only [Bool.and_eq_true, Bool.not_eq_true'] at hB
            obtain ⟨⟨⟨⟨⟨⟨⟨h1, h2⟩, h3⟩, h4⟩, h5⟩, h6⟩, h7⟩, h8⟩ := hB
            obtain ⟨hk, hbk⟩ := preB_spec h1
            obtain ⟨o', ho', pv, hl, hw⟩ := hw
            rw [ho] at ho'; cases ho'
            refine ihp _ ((k, o) :: acts) (k :: wq) _ (by simp [PX.dep] at hf ⊢; omega) h8 (hp.walked ho h3 hk (by simpa using h2) h4 hbk h5 (fun j hj => ?_) (fun j oj hoj hne hun hno => ?_) hl) hw
            · rw [List.all_eq_true] at h6
              have := h6 j ((lmem_eq _ _).1 hj)
              simpa using this
            · have hlt : j < ops.size := (Array.getElem?_eq_some_iff.1 hoj).1
              unfold allI at h7
              rw [List.all_eq_true] at h7
              have h9 := h7 j (List.mem_range.2 hlt)
              have hb : Nat.beq j k = false := by rw [Bool.eq_false_iff]; intro hh; exact hne (Nat.eq_of_beq_eq_true hh)
              simp only [hoj, hb, hun, hno, Bool.false_or] at h9
              exact h9
        | one k t ihp =>
          intro W acts wq ec hf hB hp hw
          by_cases hx : ∃ x ∈ acts, x.1 = j
          · exact STEP (.one k t) W acts wq ec hf hB hp hw hx
          have hjw := hp.readyW hj hx
          unfold okX at hB
          simp only [Bool.and_eq_true, beq_iff_eq] at hB
          rw [hB.1.2] at hjw
          exact LOUD k t W acts wq ec hf hB.1.1 hB.2 hp hw hx (by simpa using hjw)
        | two k1 t1 k2 t2 ih1 ih2 =>
          intro W acts wq ec hf hB hp hw
          by_cases hx : ∃ x ∈ acts, x.1 = j
          · exact STEP (.two k1 t1 k2 t2) W acts wq ec hf hB hp hw hx
          have hjw := hp.readyW hj hx
          unfold okX at hB
          simp only [Bool.and_eq_true, beq_iff_eq] at hB
          rw [hB.1.1.2] at hjw
          have hm1 := Nat.le_max_left t1.dep t2.dep
          have hm2 := Nat.le_max_right t1.dep t2.dep
          have hf : acts.length + (max t1.dep t2.dep + 1) ≤ fuel + 1 := hf
          rcases List.mem_cons.1 hjw with h | h
          · exact LOUD k1 t1 W acts wq ec (by omega) hB.1.1.1.1 hB.1.2 hp hw.1 hx h
          · exact LOUD k2 t2 W acts wq ec (by omega) hB.1.1.1.2 hB.2 hp hw.2 hx (by simpa using h)
      exact ADV t W acts wq ec hf hB hp hw
end
section
variable {P : Program} {f : FuncId} {fn : Func} {n0 : Nat} {Q : PV → St → Prop} {k : List Item} {env : Env} {st : St} {ops : Array Oper}
theorem Run.drawX {lo : List Nat} {t : PX} {id : Nat} (hm : P.follows .mixedOrders = true) (hB : okX ops lo t [] (Array.replicate ops.size false) = true) (hlen : Nat.ble t.dep ops.size = true)
    (h : WalkX P ops fn.ntmps (fun env' st' => Run P f fn n0 Q k env' st') t [] env st) : Run P f fn n0 Q (.code (.region id ops true) :: k) env st := by
  intro hn0 K σ w a b cs hR hsz hd hfn hk hE
  have hany := walkX_sound (P := P) (nt := fn.ntmps) ops.size _ _ [] [] t env env st (by simpa using Nat.le_of_ble_eq_true hlen) hB (Pend.start env _) h
  have hR1 : Rel K σ st { w with drawn := w.drawn + 1 } := ⟨hR.kin, hR.own, hR.sep, hR.gl, hR.fl⟩
  have hX1 : Ext K σ st w K σ st { w with drawn := w.drawn + 1 } := ⟨fun _ _ h => h, fun _ _ => rfl, Nat.le_refl _, rfl, rfl, rfl, Nat.le_refl _, fun i B h hr hl => .inl ⟨i, B, h, hr, hl, rfl⟩, fun _ _ _ => rfl, fun _ _ h => .inl h⟩
  have hwp : (Code.region id ops true).wp P (fun e a' w' => e = .normal ∧ ∃ env' st', Mid fn.ntmps K σ st w env' st' a' w' ∧ Run P f fn n0 Q k env' st') a w :=
    wp_region_any hm (anyQ_sound (K := K) (σ := σ) (st0 := st) (w := w) (fun env' st' a' w' hmid hr => ⟨rfl, env', st', hmid, hr⟩) _ _ _ _ _ _ ⟨K, σ, hR1, hX1, hE, hsz, hd⟩ hany)
  obtain ⟨e, a', w', ⟨rfl, env', st', ⟨K', σ', hrel, hext, henv, hsz', hdf'⟩, hrun⟩, harr⟩ := hwp b k cs
  obtain ⟨v, w2, fr, ⟨K2, σ2, st2, pv2, q2, e2, r2, v2⟩, hst, hrest⟩ := hrun (Nat.le_trans hn0 hext.len) K' σ' w' a' b cs hrel hsz' hdf' hfn hk henv
  exact ⟨v, w2, fr, ⟨K2, σ2, st2, pv2, q2, (hext.less hn0).trans e2, r2, v2⟩, Steps.trans harr hst, hrest⟩
end
/-- What comes behind a segment: nothing, or two segments of which both must do. -/
inductive FT where
  | stop
  | fork (m1 : List (Option (List Nat))) (l1 : List Oper) (e1 : FT) (m2 : List (Option (List Nat))) (l2 : List Oper) (e2 : FT)
section
variable (P : Program) (ops : Array Oper) (nt : Nat) (R : Env → St → Prop)
def endR : FT → Env → St → Prop
  | .stop => R
  | .fork m1 l1 e1 m2 l2 e2 => fun env st => WalkM P ops nt (endR e1) m1 l1 env st ∧ WalkM P ops nt (endR e2) m2 l2 env st
/-- A plan's segments. -/
def segX : PX → List Nat → Option (List (Option (List Nat)) × List Oper × FT)
  | .done, _ => some ([], [], .stop)
  | .q k t, wq => match ops[k]?, segX t (k :: wq) with
    | some o, some (m, l, e) => some (none :: m, o :: l, e)
    | _, _ => none
  | .one k t, wq => match ops[k]?, segX t (stayF ops k wq) with
    | some o, some (m, l, e) => some (some (stayF ops k wq) :: m, o :: l, e)
    | _, _ => none
  | .two k1 t1 k2 t2, wq => match ops[k1]?, segX t1 (stayF ops k1 wq), ops[k2]?, segX t2 (stayF ops k2 wq) with
    | some o1, some (m1, l1, e1), some o2, some (m2, l2, e2) => some ([], [], .fork (some (stayF ops k1 wq) :: m1) (o1 :: l1) e1 (some (stayF ops k2 wq) :: m2) (o2 :: l2) e2)
    | _, _, _, _ => none
end
theorem segX_sound {P : Program} {ops : Array Oper} {nt : Nat} {R : Env → St → Prop} : ∀ (t : PX) {wq : List Nat} {m : List (Option (List Nat))} {l : List Oper} {e : FT} {env : Env} {st : St}, segX ops t wq = some (m, l, e) → WalkM P ops nt (endR P ops nt R e) m l env st → WalkX P ops nt R t wq env st := by
  have loud : ∀ {k : Nat} {o : Oper} {pend : List Nat} {m : List (Option (List Nat))} {l : List Oper} {C C' : Env → St → Prop} {env : Env} {st : St}, ops[k]? = some o → (∀ env st, WalkM P ops nt C' m l env st → C env st) → WalkM P ops nt C' (some pend :: m) (o :: l) env st → LoudW P ops nt k pend C env st := by
    intro k o pend m l C C' env st ho hc h
    refine ⟨o, ho, h.1, ?_⟩
    rcases h.2 with ⟨h1, h2⟩ | ⟨h1, h2⟩
    · exact .inl ⟨h1, h2.mono fun q s hq => ⟨hq.1, hc _ _ hq.2⟩⟩
    · exact .inr ⟨h1, hc _ _ h2⟩
  intro t
  induction t with
  | done =>
    intro wq m l e env st hs h
    simp only [segX, Option.some.injEq, Prod.mk.injEq] at hs
    obtain ⟨rfl, rfl, rfl⟩ := hs
    exact h
  | q k t ih =>
    intro wq m l e env st hs h
    simp only [segX] at hs
    split at hs
    · rename_i o m' l' e' ho hsg
      simp only [Option.some.injEq, Prod.mk.injEq] at hs
      obtain ⟨rfl, rfl, rfl⟩ := hs
      obtain ⟨pv, h1, h2⟩ := h
      exact ⟨o, ho, pv, h1, ih hsg h2⟩
    · cases hs
  | one k t ih =>
    intro wq m l e env st hs h
    simp only [segX] at hs
    split at hs
    · rename_i o m' l' e' ho hsg
      simp only [Option.some.injEq, Prod.mk.injEq] at hs
      obtain ⟨rfl, rfl, rfl⟩ := hs
      exact loud ho (fun _ _ => ih hsg) h
    · cases hs
  | two k1 t1 k2 t2 ih1 ih2 =>
    intro wq m l e env st hs h
    simp only [segX] at hs
    split at hs
    · rename_i o1 m1 l1 e1 o2 m2 l2 e2 ho1 hs1 ho2 hs2
      simp only [Option.some.injEq, Prod.mk.injEq] at hs
      obtain ⟨rfl, rfl, rfl⟩ := hs
      exact ⟨loud ho1 (fun _ _ => ih1 hs1) h.1, loud ho2 (fun _ _ => ih2 hs2) h.2⟩
    · cases hs
end Go.Sy
end
section
/- The walk's rules. -/
set_option linter.unusedVariables false
set_option linter.unusedSimpArgs false
set_option linter.unusedSectionVars false
namespace Go.Sy
open Go Go.RowKit

/-! ### control -/
def ctl1 : List Item → Option (List Item)
  | .code .skip :: k => some k
  | .code (.label _) :: k => some k
  | .inBlock _ :: k => some k
  | .code (.seq x y) :: k => some (.code x :: .code y :: k)
  | .code (.block id c) :: k => some (.code c :: .inBlock id :: k)
  | .code (.exit id) :: k => exitTo id k
  | _ => none
def ctlR : Nat → List Item → Option (List Item)
  | 0, k => some k
  | n + 1, k => match ctl1 k with
    | none => some k
    | some k' => ctlR n k'
def ctl (k : List Item) : Option (List Item) := match ctl1 k with
  | none => none
  | some k' => ctlR 40 k'
def frc : List Nat → Option (List Nat)
  | [] => some []
  | a :: l => match frc l with
    | some r => some (a :: r)
    | none => none
theorem frc_spec : ∀ {l r : List Nat}, frc l = some r → l = r
  | [], r, h => by simp [frc] at h; exact h.symm
  | a :: l, r, h => by
    simp only [frc] at h
    split at h
    · rename_i r' hr; simp at h; subst h; rw [frc_spec hr]
    · cases h

theorem cs : (∀ (p : Prop) [Decidable p], (decide p = true) = p) ∧ (∀ (p : Prop) [Decidable p], (decide p = false) = ¬ p) ∧ (∀ (α : Type) [BEq α] [LawfulBEq α] (a b : α), ((a == b) = true) = (a = b)) ∧
    (∀ (α : Type) [BEq α] [LawfulBEq α] (a b : α), ((a == b) = false) = ¬ (a = b)) ∧ (∀ (α : Type) [BEq α] [LawfulBEq α] (a b : α), ((a != b) = true) = ¬ (a = b)) ∧ (∀ (α : Type) [BEq α] [LawfulBEq α] (a b : α), ((a != b) = false) = (a = b)) ∧
    (∀ b : Bool, ((!b) = true) = (b = false)) ∧ (∀ b : Bool, ((!b) = false) = (b = true)) ∧ (∀ b : Bool, (¬ (b = true)) = (b = false)) ∧ (∀ b : Bool, (¬ (b = false)) = (b = true)) ∧
    (∀ a b : Int, (¬ (a < b)) = (b ≤ a)) ∧ (∀ a b : Int, (¬ (a ≤ b)) = (b < a)) ∧ (∀ a b : Int, (a > b) = (b < a)) ∧ (∀ a b : Int, (a ≥ b) = (b ≤ a)) ∧ (∀ a b : Int, (a ≠ b) = ¬ (a = b)) ∧ (∀ p : Prop, (¬ ¬ p) = p) ∧ ((¬ True) = False) ∧ ((¬ False) = True) ∧ (∀ (α : Type) (a : α), (a = a) = True) ∧ ((true = false) = False) ∧ ((false = true) = False) ∧ ((!true) = false) ∧ ((!false) = true) ∧
    (∀ a b : Nat, ((a : Int) < (b : Int)) = (a < b)) ∧ (∀ a b : Nat, ((a : Int) ≤ (b : Int)) = (a ≤ b)) ∧ (∀ a b : Nat, ((a : Int) = (b : Int)) = (a = b)) ∧ (∀ a b : Nat, (¬ (a < b)) = (b ≤ a)) ∧ (∀ a b : Nat, (¬ (a ≤ b)) = (b < a)) :=
  ⟨by simp, by simp, fun _ _ _ a b => propext beq_iff_eq, fun _ _ _ a b => propext beq_eq_false_iff_ne, fun _ _ _ a b => propext bne_iff_ne, fun _ _ _ a b => propext bne_eq_false_iff_eq, by simp, by simp, by simp, by simp, by simp, by simp, by simp, by simp, by simp, by simp, by simp, by simp, by simp, by simp, by simp, by simp, by simp, by simp [Int.ofNat_lt], by simp, by simp [Int.ofNat_inj], by simp, by simp⟩

variable [Globs]
inductive Md where
  | seq
  | drw (lo : List Nat) (m : Nat)
  | prm (ms : List (Option (List Nat)))
  | prf (ms : List (Option (List Nat))) (e : FT)
def Md.nxt : Md → Md
  | .seq => .seq
  | .drw lo m => .drw lo (m + 1)
  | .prm (_ :: ms) => .prm ms
  | .prm [] => .prm []
  | .prf (_ :: ms) e => .prf ms e
  | .prf [] e => .prf [] e
def nx : Md → Option Md
  | .seq => some .seq
  | .drw lo m => some (.drw lo (m + 1))
  | .prm (_ :: ms) => some (.prm ms)
  | .prm [] => none
  | .prf (_ :: ms) e => some (.prf ms e)
  | .prf [] _ => none
omit [Globs] in
theorem nx_spec {d d' : Md} (h : nx d = some d') : d.nxt = d' := by
  rcases d with _ | _ | ms | ⟨ms, e⟩
  · simp [nx] at h; exact h
  · simp [nx] at h; exact h
  · cases ms with
    | nil => simp [nx] at h
    | cons a ms => simp [nx] at h; exact h
  · cases ms with
    | nil => simp [nx] at h
    | cons a ms => simp [nx] at h; exact h
def Md.env (d : Md) (ops : Array Oper) (o : Oper) (env : Env) : Operand → PV := match d with
  | .seq => env.ev
  | .drw lo m => bif lmem m lo then env.ev else (Env.only (o.looksAt ops) env).ev
  | .prm _ => (Env.only (o.looksAt ops) env).ev
  | .prf _ _ => (Env.only (o.looksAt ops) env).ev
/-- May it change the state? -/
def Md.loud : Md → Bool
  | .seq => true
  | .drw lo m => lmem m lo
  | .prm (some _ :: _) => true
  | .prm (none :: _) => false
  | .prm [] => false
  | .prf (some _ :: _) _ => true
  | .prf (none :: _) _ => false
  | .prf [] _ => false
def Md.ok (d : Md) (P : Program) (ops : Array Oper) (nt : Nat) (st st' : St) (env' : Env) : Prop := match d with
  | .seq => True
  | .drw lo m => lmem m lo = true ∨ st' = st
  | .prm (none :: _) => st' = st
  | .prm (some pend :: _) => StayL P ops st' nt pend env'
  | .prm [] => False
  | .prf (none :: _) _ => st' = st
  | .prf (some pend :: _) _ => StayL P ops st' nt pend env'
  | .prf [] _ => False

section
variable {P : Program} {f : FuncId} {fn : Func} {n0 : Nat} {Q : PV → St → Prop} {k k' : List Item} {env : Env} {st st' : St} {ops : Array Oper} {d d' : Md} {o : Oper} {rest : List Oper} {T : TT}
theorem Run.ctl1 (h : Go.Sy.ctl1 k = some k') (hr : Run P f fn n0 Q k' env st) : Run P f fn n0 Q k env st := by
  unfold Go.Sy.ctl1 at h
  split at h
  · cases h; exact Run.skip hr
  · cases h; exact Run.label hr
  · cases h; exact Run.inBlock hr
  · cases h; exact Run.seq hr
  · cases h; exact Run.block hr
  · exact Run.exit h hr
  · cases h
theorem Run.ctlR : ∀ (n : Nat) {k k' : List Item}, Go.Sy.ctlR n k = some k' → Run P f fn n0 Q k' env st → Run P f fn n0 Q k env st
  | 0, k, k', h, hr => by simp [Go.Sy.ctlR] at h; rw [h]; exact hr
  | n + 1, k, k', h, hr => by
    simp only [Go.Sy.ctlR] at h
    split at h
    · cases h; exact hr
    · rename_i k2 h2; exact Run.ctl1 h2 (Run.ctlR n h hr)
theorem Run.ctl (h : Go.Sy.ctl k = some k') (hr : Run P f fn n0 Q k' env st) : Run P f fn n0 Q k env st := by
  unfold Go.Sy.ctl at h
  split at h
  · cases h
  · rename_i k2 h2; exact Run.ctl1 h2 (Run.ctlR 40 h hr)

def Rg (P : Program) (f : FuncId) (fn : Func) (n0 : Nat) (Q : PV → St → Prop) (k : List Item) (ops : Array Oper) (d : Md) (l : List Oper) (env : Env) (st : St) : Prop := match d with
  | .seq => RunL P f fn n0 Q ops l k env st
  | .drw lo m => Walk P ops lo fn.ntmps (fun e s => Run P f fn n0 Q k e s) m l env st
  | .prm ms => WalkM P ops fn.ntmps (fun e s => Run P f fn n0 Q k e s) ms l env st
  | .prf ms e => WalkM P ops fn.ntmps (endR P ops fn.ntmps (fun e s => Run P f fn n0 Q k e s) e) ms l env st

theorem Rg.gen {e : Option Tmp} (hw : wants ops env o = some true) (hd : dstN fn.ntmps o.dst = some e) (hx : nx d = some d') (h : OpGoes P (d.env ops o env) st o fun pv st' => d.ok P ops fn.ntmps st st' (env.put e pv) ∧ Rg P f fn n0 Q k ops d' rest (env.put e pv) st')
    (hs : d.loud = false → ∃ pv, OpGoes P (d.env ops o env) st o (fun q s => q = pv ∧ s = st) ∧ Rg P f fn n0 Q k ops d' rest (env.put e pv) st) : Rg P f fn n0 Q k ops d (o :: rest) env st := by
  rw [← nx_spec hx] at h hs
  rcases d with _ | ⟨lo, m⟩ | ms | ⟨ms, e⟩
  · exact RunL.op hw hd (h.mono fun p s hr => hr.2)
  · cases hlo : lmem m lo with
    | true =>
      refine Walk.loud hlo hw hd ?_
      have : (Md.drw lo m).env ops o env = env.ev := by simp [Md.env, hlo]
      rw [this] at h
      exact h.mono fun p s hr => hr.2
    | false =>
      obtain ⟨pv, h1, h2⟩ := hs hlo
      have : (Md.drw lo m).env ops o env = (Env.only (o.looksAt ops) env).ev := by simp [Md.env, hlo]
      rw [this] at h1
      exact Walk.opE hlo hw hd ⟨pv, h1, h2⟩
  · obtain ⟨e', hd'⟩ := dstN_spec hd
    subst e'
    cases ms with
    | nil => simp [nx] at hx
    | cons a ms =>
      cases a with
      | none =>
        obtain ⟨pv, h1, h2⟩ := hs rfl
        exact ⟨pv, ⟨hd', .inl ⟨hw, h1⟩⟩, h2⟩
      | some pend => exact ⟨hd', .inl ⟨hw, h⟩⟩
  · obtain ⟨e', hd'⟩ := dstN_spec hd
    subst e'
    cases ms with
    | nil => simp [nx] at hx
    | cons a ms =>
      cases a with
      | none =>
        obtain ⟨pv, h1, h2⟩ := hs rfl
        exact ⟨pv, ⟨hd', .inl ⟨hw, h1⟩⟩, h2⟩
      | some pend => exact ⟨hd', .inl ⟨hw, h⟩⟩
theorem Rg.one {e : Option Tmp} {pv : PV} (hw : wants ops env o = some true) (hd : dstN fn.ntmps o.dst = some e) (hx : nx d = some d') (h : ∀ R : PV → St → Prop, R pv st' → OpGoes P (d.env ops o env) st o R) (hk : d.ok P ops fn.ntmps st st' (env.put e pv)) (hr : Rg P f fn n0 Q k ops d' rest (env.put e pv) st') : Rg P f fn n0 Q k ops d (o :: rest) env st := by
  refine Rg.gen hw hd hx (h _ ⟨hk, hr⟩) (fun hlo => ?_)
  have hs : st' = st := by
    rcases d with _ | ⟨lo, m⟩ | ms | ⟨ms, e⟩
    · cases hlo
    · rcases hk with hk | hk
      · rw [show lmem m lo = false from hlo] at hk; cases hk
      · exact hk
    · cases ms with
      | nil => simp [nx] at hx
      | cons a ms => cases a with
        | none => exact hk
        | some pend => cases hlo
    · cases ms with
      | nil => simp [nx] at hx
      | cons a ms => cases a with
        | none => exact hk
        | some pend => cases hlo
  subst hs
  exact ⟨pv, h _ ⟨rfl, rfl⟩, hr⟩
theorem Rg.any {e : Option Tmp} {pv : PV} (hw : wants ops env o = some true) (hd : dstN fn.ntmps o.dst = some e) (hx : nx d = some d') (h : ∀ R : PV → St → Prop, R pv st' → OpGoes P (d.env ops o env) st o R) (hk : d.ok P ops fn.ntmps st st' (env.put e pv)) (hr : Rg P f fn n0 Q k ops d' rest (env.put e pv) st') : Rg P f fn n0 Q k ops d (o :: rest) env st :=
  Rg.one hw hd hx h hk hr
/-- An operation. -/
theorem Rg.op (w : Bool) (hT : TOk P T) {e : Option Tmp} {c : Prop} {pv : PV} (hw : wants ops env o = some true) (hd : dstN fn.ntmps o.dst = some e) (hx : nx d = some d') (h : opX P T w (d.env ops o env) st o.op = some (c, pv, st')) (hc : c) (hk : d.ok P ops fn.ntmps st st' (env.put e pv))
    (hr : Rg P f fn n0 Q k ops d' rest (env.put e pv) st') : Rg P f fn n0 Q k ops d (o :: rest) env st := Rg.one hw hd hx (fun R hR => opX_spec hT h hc hR) hk hr
def Md.quiet : Md → Bool
  | .prm (some _ :: _) => false
  | .prm [] => false
  | .prf (some _ :: _) _ => false
  | .prf [] _ => false
  | _ => true
omit [Globs] in
theorem Md.ok_self [Globs] {nt : Nat} {env' : Env} (h : d.quiet = true) : d.ok P ops nt st st env' := by
  rcases d with _ | _ | ms | ⟨ms, e⟩
  · exact trivial
  · exact .inr rfl
  · cases ms with
    | nil => cases h
    | cons a ms => cases a with
      | none => rfl
      | some p => cases h
  · cases ms with
    | nil => cases h
    | cons a ms => cases a with
      | none => rfl
      | some p => cases h
/-- A call under a contract. -/
theorem Rg.call {g : FuncId} {cap asx : List PV} {pv : PV} {e : Option Tmp} {cp : Operand} {args : Array Operand} {ats : Array TypeId} (hp : Pure P g asx pv) (hw : wants ops env o = some true) (hd : dstN fn.ntmps o.dst = some e) (hx : nx d = some d') (ho : o.op = .call { callee := .value cp, args, argTypes := ats })
    (hc : funcOf (d.env ops o env cp) = some (g, cap)) (hcv : CvArgs roB st (args.toList.map (d.env ops o env) ++ cap) asx) (hr : Rg P f fn n0 Q k ops d' rest (env.put e pv) st) (hq : d.quiet = true := by exact rfl) : Rg P f fn n0 Q k ops d (o :: rest) env st :=
  Rg.one hw hd hx (fun R hR => G_call hp ho hc hcv hR) (Md.ok_self hq) hr
theorem Rg.lend {g : FuncId} {cap asx : List PV} {pv : PV} {e : Option Tmp} {cp : Operand} {args : Array Operand} {ats : Array TypeId} (hp : Pure P g asx pv) (hw : wants ops env o = some true) (hd : dstN fn.ntmps o.dst = some e) (hx : nx d = some d') (ho : o.op = .call { callee := .value cp, args, argTypes := ats })
    (hc : funcOf (d.env ops o env cp) = some (g, cap)) (hfl : flatB pv = true) (hcv : CvArgs allB st (args.toList.map (d.env ops o env) ++ cap) asx) (hr : Rg P f fn n0 Q k ops d' rest (env.put e pv) st) (hq : d.quiet = true := by exact rfl) : Rg P f fn n0 Q k ops d (o :: rest) env st :=
  Rg.one hw hd hx (fun R hR => G_lend hp ho hc hfl hcv hR) (Md.ok_self hq) hr
theorem Rg.skip {e : Option Tmp} (hw : wants ops env o = some false) (hd : dstN fn.ntmps o.dst = some e) (hx : nx d = some d') (h : Rg P f fn n0 Q k ops d' rest (env.put e (.atom undef)) st) : Rg P f fn n0 Q k ops d (o :: rest) env st := by
  rw [← nx_spec hx] at h
  rcases d with _ | _ | ms | ⟨ms, e⟩
  · exact RunL.skip hw hd h
  · exact Walk.skip' hw hd h
  · obtain ⟨e', hd'⟩ := dstN_spec hd
    subst e'
    cases ms with
    | nil => simp [nx] at hx
    | cons a ms => cases a with
      | none => exact ⟨_, ⟨hd', .inr ⟨hw, rfl⟩⟩, h⟩
      | some pend => exact ⟨hd', .inr ⟨hw, h⟩⟩
  · obtain ⟨e', hd'⟩ := dstN_spec hd
    subst e'
    cases ms with
    | nil => simp [nx] at hx
    | cons a ms => cases a with
      | none => exact ⟨_, ⟨hd', .inr ⟨hw, rfl⟩⟩, h⟩
      | some pend => exact ⟨hd', .inr ⟨hw, h⟩⟩
def Md.fin : Md → Bool
  | .prm [] => true
  | .prm _ => false
  | .prf [] .stop => true
  | .prf _ _ => false
  | _ => true
theorem Rg.nil (h : Run P f fn n0 Q k env st) (hf : d.fin = true := by exact rfl) : Rg P f fn n0 Q k ops d [] env st := by
  rcases d with _ | _ | ms | ⟨ms, e⟩
  · exact RunL.nil h
  · exact h
  · cases ms with
    | nil => exact h
    | cons a ms => cases hf
  · cases ms with
    | nil => cases e with
      | stop => exact h
      | fork => cases hf
    | cons a ms => cases hf
theorem Rg.guard {t : Nat} {b : Bool} (hg : guardOf ops env o = some (t, b)) (ht : b = true → Rg P f fn n0 Q k ops d (o :: rest) (env.put (some t) (.atom (.bool true))) st) (hf : b = false → Rg P f fn n0 Q k ops d (o :: rest) (env.put (some t) (.atom (.bool false))) st) :
    Rg P f fn n0 Q k ops d (o :: rest) env st := by
  have gen : ∀ (d : Md), (b = true → Rg P f fn n0 Q k ops d (o :: rest) (env.put (some t) (.atom (.bool true))) st) → (b = false → Rg P f fn n0 Q k ops d (o :: rest) (env.put (some t) (.atom (.bool false))) st) → Rg P f fn n0 Q k ops d (o :: rest) env st := by
    intro d ht hf
    have hp := guardOf_spec hg
    have ret : env.put (some t) (env t) = env := by
      funext x
      rw [put_at]
      split
      · rename_i h; rw [h]
      · rfl
    cases b
    · have := hf rfl; rw [← hp, ret] at this; exact this
    · have := ht rfl; rw [← hp, ret] at this; exact this
  rcases d with _ | _ | ms | ⟨ms, e⟩
  · exact RunL.guard hg ht hf
  · exact Walk.guard hg ht hf
  · exact gen _ ht hf
  · exact gen _ ht hf
/-- The next guard is a known one. -/
theorem Rg.lit (b : Bool) {t : Nat} (hg : guardOf ops env o = some (t, b)) (h : Rg P f fn n0 Q k ops d (o :: rest) env st) : Rg P f fn n0 Q k ops d (o :: rest) env st := h
theorem Run.regR {id : Nat} {l : List Oper} (h : Rg P f fn n0 Q k l.toArray .seq l env st) : Run P f fn n0 Q (.code (.region id l.toArray false) :: k) env st := Run.reg h
theorem Run.drwR {id : Nat} {l : List Oper} {lo : List Nat} (hm : P.follows .mixedOrders = true) (hB : fastG 0 (l.map (infoO l.toArray)) = true) (hl : frc (stores 0 l) = some lo)
    (h : Rg P f fn n0 Q k l.toArray (.drw lo 0) l env st) : Run P f fn n0 Q (.code (.region id l.toArray true) :: k) env st := Run.drwF hm hB (by rw [frc_spec hl]; exact h)
def permO (l : List Oper) : List Nat → Option (List Oper)
  | [] => some []
  | k :: π => match l[k]?, permO l π with
    | some o, some r => some (o :: r)
    | _, _ => none
theorem permO_spec {l : List Oper} : ∀ {π : List Nat} {r : List Oper}, permO l π = some r → lsP l.toArray π = r
  | [], r, h => by simp [permO] at h; subst h; rfl
  | k :: π, r, h => by
    unfold permO at h
    split at h
    · rename_i o r' ho hr
      simp at h
      subst h
      unfold lsP
      simp only [List.getElem?_toArray, ho]
      rw [permO_spec hr]
    · cases h
/-- A region that draws its order: lo: what may change the state; π: the order of the walk; ms: what may come behind each of lo. -/
theorem Run.drwP (lo π : List Nat) (ms : List (Option (List Nat))) {id : Nat} {l r : List Oper} (hm : P.follows .mixedOrders = true) (hB : (okP l.toArray lo π [] (Array.replicate l.toArray.size false) && Nat.ble π.length l.toArray.size && decide (msP l.toArray lo π [] = ms)) = true) (hr : permO l π = some r)
    (h : Rg P f fn n0 Q k l.toArray (.prm ms) r env st) : Run P f fn n0 Q (.code (.region id l.toArray true) :: k) env st := by
  simp only [Bool.and_eq_true, decide_eq_true_eq] at hB
  obtain ⟨⟨h1, h2⟩, h3⟩ := hB
  refine Run.drawM hm h1 h2 ?_
  rw [h3, permO_spec hr]
  exact h
/-- A region that draws its order, by a plan in which two that change the state may come in either order. -/
theorem Run.drwX (lo : List Nat) (t : PX) {id : Nat} {l l' : List Oper} {ms : List (Option (List Nat))} {e : FT} (hm : P.follows .mixedOrders = true) (hB : (okX l.toArray lo t [] (Array.replicate l.toArray.size false) && Nat.ble t.dep l.toArray.size) = true) (hs : segX l.toArray t [] = some (ms, l', e))
    (h : Rg P f fn n0 Q k l.toArray (.prf ms e) l' env st) : Run P f fn n0 Q (.code (.region id l.toArray true) :: k) env st := by
  simp only [Bool.and_eq_true] at hB
  exact Run.drawX hm hB.1 hB.2 (segX_sound t hs h)
/-- The one first, or the other. -/
theorem Rg.fork {m1 m2 : List (Option (List Nat))} {l1 l2 : List Oper} {e1 e2 : FT} (h1 : Rg P f fn n0 Q k ops (.prf m1 e1) l1 env st) (h2 : Rg P f fn n0 Q k ops (.prf m2 e2) l2 env st) : Rg P f fn n0 Q k ops (.prf [] (.fork m1 l1 e1 m2 l2 e2)) [] env st := ⟨h1, h2⟩
/-- An operation that may come behind: it leaves the same there. -/
theorem Stay.op {nt : Nat} (w : Bool) (hT : TOk P T) {e : Option Tmp} {c : Prop} {pv : PV} (hw : wants ops env o = some true) (hd : dstN nt o.dst = some e) (h : opX P T w (Env.only (o.looksAt ops) env).ev st o.op = some (c, pv, st)) (hc : c) (he : ∀ t, e = some t → env t = pv) : Stay P ops st nt o env := by
  obtain ⟨e', hd'⟩ := dstN_spec hd
  refine ⟨pv, ⟨hd', .inl ⟨hw, opX_spec hT h hc ⟨rfl, rfl⟩⟩⟩, ?_⟩
  rw [e']
  cases e with
  | none => rfl
  | some t =>
    funext x
    rw [put_at]
    split
    · rename_i hx; rw [hx]; exact (he t rfl).symm
    · rfl
theorem Stay.skip {nt : Nat} {e : Option Tmp} (hw : wants ops env o = some false) (hd : dstN nt o.dst = some e) (he : ∀ t, e = some t → env t = .atom undef) : Stay P ops st nt o env := by
  obtain ⟨e', hd'⟩ := dstN_spec hd
  refine ⟨_, ⟨hd', .inr ⟨hw, rfl⟩⟩, ?_⟩
  rw [e']
  cases e with
  | none => rfl
  | some t =>
    funext x
    rw [put_at]
    split
    · rename_i hx; rw [hx]; exact (he t rfl).symm
    · rfl
end
end Go.Sy
end
section
/- Calls that take, change and hand back own memory: a contract about few blocks, used among many. -/
set_option linter.unusedVariables false
set_option linter.unusedSimpArgs false
set_option linter.unusedSectionVars false
namespace Go.Sy
open Go Go.RowKit

mutual
def rnP (f : Nat → Nat) : PV → PV
  | .ptr i k off => .ptr (f i) k off
  | .slc i k n => .slc (f i) k n
  | .agg cs => .agg (rnPL f cs)
  | .tup cs => .tup (rnPL f cs)
  | .iface t p => .iface t (rnP f p)
  | .func g cs => .func g (rnPL f cs)
  | .any => .any
  | .atom v => .atom v
  | .fptr sz n el k off => .fptr sz n el k off
  | .fz sz n el => .fz sz n el
def rnPL (f : Nat → Nat) : List PV → List PV
  | [] => []
  | p :: l => rnP f p :: rnPL f l
end
theorem rnPL_eq (f : Nat → Nat) (l : List PV) : rnPL f l = l.map (rnP f) := by
  induction l with
  | nil => rfl
  | cons p l ih => simp [rnPL, ih]
theorem VR.fwd {K : KH} {σ : Nat → Loc} {N : Nat} {p : PV} {v : Value} (h : VR K σ N p v) : ∀ {σ' : Nat → Loc} {N' : Nat} {f : Nat → Nat}, (∀ i, i < N → f i < N' ∧ σ' (f i) = σ i) → VR K σ' N' (rnP f p) v := by
  induction h with
  | any v => intro σ' N' f hf; unfold rnP; exact .any v
  | atom v => intro σ' N' f hf; unfold rnP; exact .atom v
  | ptr hi => intro σ' N' f hf; unfold rnP; rw [← (hf _ hi).2]; exact .ptr (hf _ hi).1
  | fptr hb hk hs hl h1 h _ => intro σ' N' f hf; unfold rnP; exact .fptr hb hk hs hl h1 (fun k hk j p hp => (h k hk j p hp).zero _ _)
  | slc hi hr ht hn hm => intro σ' N' f hf; unfold rnP; rw [← (hf _ hi).2] at hr ht ⊢; exact .slc (hf _ hi).1 hr ht hn hm
  | slc0 A => intro σ' N' f hf; unfold rnP; exact .slc0 A
  | fz hb hn hc hm hs hl h1 h _ => intro σ' N' f hf; unfold rnP; exact .fz hb hn hc hm hs hl h1 (fun k hk j p hp => (h k hk j p hp).zero _ _)
  | fz0 A cap hm => intro σ' N' f hf; unfold rnP; exact .fz0 A cap hm
  | @agg N cs vs hl h ih =>
    intro σ' N' f hf; unfold rnP
    refine .agg (by rw [rnPL_eq]; simpa using hl) (fun j p hp => ?_)
    rw [rnPL_eq, List.getElem?_map, Option.map_eq_some_iff] at hp
    obtain ⟨q, hq, rfl⟩ := hp
    exact ih j q hq hf
  | @tup N cs vs hl h ih =>
    intro σ' N' f hf; unfold rnP
    refine .tup (by rw [rnPL_eq]; simpa using hl) (fun j p hp => ?_)
    rw [rnPL_eq, List.getElem?_map, Option.map_eq_some_iff] at hp
    obtain ⟨q, hq, rfl⟩ := hp
    exact ih j q hq hf
  | iface _ ih => intro σ' N' f hf; unfold rnP; exact .iface (ih hf)
  | @func N g cs vs hl h ih =>
    intro σ' N' f hf; unfold rnP
    refine .func (by rw [rnPL_eq]; simpa using hl) (fun j p hp => ?_)
    rw [rnPL_eq, List.getElem?_map, Option.map_eq_some_iff] at hp
    obtain ⟨q, hq, rfl⟩ := hp
    exact ih j q hq hf

def rnB (f : Nat → Nat) : Option Blk → Option Blk
  | none => none
  | some ⟨e, sz, n, el, ro, fu⟩ => some ⟨e, sz, n, fun k => rnPL f (el k), ro, fu⟩
theorem rnB_some {f : Nat → Nat} {b : Option Blk} {B' : Blk} (h : rnB f b = some B') : ∃ B, b = some B ∧ B'.e = B.e ∧ B'.sz = B.sz ∧ B'.n = B.n ∧ B'.ro = B.ro ∧ ∀ k, B'.el k = rnPL f (B.el k) := by
  cases b with
  | none => simp [rnB] at h
  | some B => cases B; simp [rnB] at h; subst h; exact ⟨_, rfl, rfl, rfl, rfl, rfl, fun _ => rfl⟩
theorem rnB_full {f : Nat → Nat} {b : Option Blk} {B' : Blk} (h : rnB f b = some B') : ∃ B, b = some B ∧ B'.n = B.n ∧ B'.full = B.full := by
  cases b with
  | none => simp [rnB] at h
  | some B => cases B; simp [rnB] at h; subst h; exact ⟨_, rfl, rfl, rfl⟩
/-- The caller's blocks behind a call. -/
def putAll (f : Nat → Nat) : List Nat → St → St → St
  | [], s0, st => st ++ s0.map (rnB f)
  | r :: rs, b :: s0, st => putAll f rs s0 (st.upd r (rnB f b))
  | _ :: _, [], st => st
def fwd (rs : List Nat) (N : Nat) (i : Nat) : Nat := bif Nat.blt i rs.length then lgetN rs i else N + (i - rs.length)

theorem putAll_len (f : Nat → Nat) : ∀ (rs : List Nat) (s0 st : St), rs.length ≤ s0.length → (putAll f rs s0 st).length = st.length + (s0.length - rs.length)
  | [], s0, st, _ => by simp [putAll]
  | r :: rs, [], st, h => by simp at h
  | r :: rs, b :: s0, st, h => by
    simp at h
    simp only [putAll, putAll_len f rs s0 _ h, St.length_upd, List.length_cons]
    omega
variable [Globs] in
theorem putAll_cases (f : Nat → Nat) : ∀ (rs : List Nat) (s0 st : St), rs.length ≤ s0.length → nodupB rs = true → ∀ {i : Nat} {B' : Blk}, (putAll f rs s0 st).get i = some B' →
    (∃ j, j < rs.length ∧ lgetN rs j = i ∧ rnB f (s0.get j) = some B') ∨ (i < st.length ∧ (∀ j, j < rs.length → lgetN rs j ≠ i) ∧ st.get i = some B') ∨ (st.length ≤ i ∧ rnB f (s0.get (rs.length + (i - st.length))) = some B')
  | [], s0, st, _, _, i, B', h => by
    simp only [putAll] at h
    rw [St.get_eq] at h
    rcases Nat.lt_or_ge i st.length with hi | hi
    · rw [List.getElem?_append_left hi, ← St.get_eq] at h
      exact .inr (.inl ⟨hi, fun j hj => by simp at hj, h⟩)
    · rw [List.getElem?_append_right hi, List.getElem?_map] at h
      refine .inr (.inr ⟨hi, ?_⟩)
      rw [St.get_eq]
      simp only [List.length_nil, Nat.zero_add]
      cases hh : s0[i - st.length]? with
      | none => rw [hh] at h; simp at h
      | some b => rw [hh] at h; simpa using h
  | r :: rs, [], st, h, _, i, B', _ => by simp at h
  | r :: rs, b :: s0, st, hl, hn, i, B', h => by
    simp only [List.length_cons, Nat.add_le_add_iff_right] at hl
    simp only [putAll] at h
    unfold nodupB at hn
    cases hm : lmem r rs with
    | true => simp [hm] at hn
    | false =>
      simp only [hm, cond_false] at hn
      have hnr : ∀ j, j < rs.length → lgetN rs j ≠ r := fun j hj he => by
        have hin : r ∈ rs := he ▸ lgetN_mem hj
        rw [(lmem_eq r rs).2 hin] at hm; cases hm
      rcases putAll_cases f rs s0 _ hl hn h with ⟨j, hj, he, hb⟩ | ⟨hi, hno, hb⟩ | ⟨hi, hb⟩
      · exact .inl ⟨j + 1, by simpa using hj, he, by simpa [St.get] using hb⟩
      · rw [St.length_upd] at hi
        rcases St.get_upd_cases hb with ⟨hir, hb2⟩ | ⟨hne, hb2⟩
        · exact .inl ⟨0, by simp, hir.symm, hb2⟩
        · refine .inr (.inl ⟨hi, fun j hj => ?_, hb2⟩)
          cases j with
          | zero => exact fun e => hne e.symm
          | succ j => simpa [lgetN] using hno j (by simpa using hj)
      · rw [St.length_upd] at hi hb
        refine .inr (.inr ⟨hi, ?_⟩)
        rw [show (r :: rs).length + (i - st.length) = (rs.length + (i - st.length)) + 1 by simp; omega]
        simpa [St.get] using hb

variable [Globs]
/-- Nothing in a state is frozen. -/
def NoRo (s : St) : Prop := ∀ i B, s.get i = some B → B.ro = false

theorem Spec.frame {P : Program} {g : FuncId} {asx as' : List PV} {st0 st : St} {R : PV → St → Prop} {rs : List Nat} (hs : Spec P g asx st0 R) (hro : ∀ pv s, R pv s → NoRo s) (hr0 : NoRo st0) (hlen : rs.length = st0.length) (hnd : nodupB rs = true) (hlt : ∀ i, i < rs.length → lgetN rs i < st.length)
    (hsub : ∀ i B', st0.get i = some B' → ∃ B, st.get (lgetN rs i) = some B ∧ B'.e = B.e ∧ B'.sz = B.sz ∧ B'.n = B.n ∧ B'.as B = true ∧ ∀ k, k < B.n → RnL (lgetN rs) st0.length (B.el k) (B'.el k)) (hargs : RnL (lgetN rs) st0.length as' asx) :
    Spec P g as' st (fun pv s => ∃ pv0 s0, R pv0 s0 ∧ pv = rnP (fwd rs st.length) pv0 ∧ s = putAll (fwd rs st.length) rs s0 st) := by
  refine ⟨hs.1, fun K σ w vs hR hsz hv => ?_⟩
  obtain ⟨hl, hat⟩ := hargs.spec
  have hinj : ∀ i j, i < st0.length → j < st0.length → lgetN rs i = lgetN rs j → i = j := fun i j hi hj he => nodupB_inj hnd (hlen ▸ hi) (hlen ▸ hj) he
  -- the callee's view
  have hR0 : Rel K (fun i => σ (lgetN rs i)) st0 w := by
    refine ⟨hR.kin, fun i B' hB' => ?_, fun i j B C hB hC h1 h2 he => ?_, hR.gl, fun i B' hB' hf hr2 => by
      obtain ⟨B, hB, e1, e2, e3, e4, e5⟩ := hsub i B' hB'
      rw [e3]; exact hR.fl _ B hB ((Blk.as_spec e4).2 hf) hr2⟩
    · obtain ⟨B, hB, e1, e2, e3, e4, e5⟩ := hsub i B' hB'
      have e4 := (Blk.as_spec e4).1
      rcases hR.own _ B hB with ⟨hf, h0⟩ | ⟨hr', cur, g1, g2, g3, g4, g5⟩
      · exact .inl ⟨hf, e3 ▸ h0⟩
      · refine .inr ⟨hr', cur, e1 ▸ g1, g2, e2 ▸ g3, ⟨by rw [e3, e2]; exact g4.1, g4.2.1, fun k hk => ?_⟩, by rw [e4]; exact g5⟩
        · rw [e3] at hk
          obtain ⟨a1, a2⟩ := g4.2.2 k hk
          obtain ⟨b1, b2⟩ := (e5 k hk).spec
          rw [e2]
          refine ⟨by rw [← b1]; exact a1, fun j q hq => ?_⟩
          have hlt : j < (B.el k).length := by rw [b1]; exact (List.getElem?_eq_some_iff.1 hq).1
          have hp := List.getElem?_eq_getElem hlt
          exact (b2 j _ q hp hq).spec (a2 j _ hp)
    · obtain ⟨B1, hB1, _⟩ := hsub i B hB
      obtain ⟨C1, hC1, _⟩ := hsub j C hC
      exact hinj i j (St.get_lt hB) (St.get_lt hC) (hR.sep _ _ B1 C1 hB1 hC1 h1 h2 he)
  refine (hs.2 K (fun i => σ (lgetN rs i)) w vs hR0 (by rw [hsz, hl]) (fun j q hq => ?_)).mono ?_
  · have hlt : j < as'.length := by rw [hl]; exact (List.getElem?_eq_some_iff.1 hq).1
    have hp := List.getElem?_eq_getElem hlt
    exact (hat j _ q hp hq).spec (hv j _ hp)
  rintro e w' ⟨v, rfl, K', σ0, s0, pv0, hq, hx, hR', hvr⟩
  have hx := (show ExtN st0.length K (fun i => σ (lgetN rs i)) st0 w K' σ0 s0 w' from hx)
  have hns := hro _ _ hq
  have hsl : rs.length ≤ s0.length := by rw [hlen]; exact hx.len
  -- the new places
  let σ1 : Nat → Loc := fun i => if i < st.length then σ i else σ0 (rs.length + (i - st.length))
  have hσold : ∀ i, i < st.length → σ1 i = σ i := fun i hi => if_pos hi
  have hf : ∀ i, i < s0.length → fwd rs st.length i < (putAll (fwd rs st.length) rs s0 st).length ∧ σ1 (fwd rs st.length i) = σ0 i := by
    intro i hi
    rw [putAll_len _ _ _ _ hsl]
    unfold fwd
    cases hb : Nat.blt i rs.length with
    | true =>
      have hb' : i < rs.length := by rwa [Nat.blt_eq] at hb
      have := hlt i hb'
      refine ⟨by simp only [cond_true]; omega, ?_⟩
      simp only [cond_true]
      rw [hσold _ this]
      exact (hx.sig i (by omega)).symm
    | false =>
      have hb' : ¬ i < rs.length := by intro hh; rw [← Nat.blt_eq] at hh; rw [hh] at hb; cases hb
      refine ⟨by simp only [cond_false]; omega, ?_⟩
      simp only [cond_false]
      show (if st.length + (i - rs.length) < st.length then σ (st.length + (i - rs.length)) else σ0 (rs.length + (st.length + (i - rs.length) - st.length))) = σ0 i
      rw [if_neg (by omega)]
      congr 1; omega
  -- an own block of the callee is one of the caller's, or new
  have own0 : ∀ j B, s0.get j = some B → (σ0 j).real = true → (∃ l B1, l < rs.length ∧ st.get (lgetN rs l) = some B1 ∧ B1.ro = false ∧ (σ (lgetN rs l)).real = true ∧ (σ (lgetN rs l)).blk = (σ0 j).blk) ∨ w.heap.size ≤ (σ0 j).blk := by
    intro j B hB hr
    rcases hx.live j B hB (hns j B hB) hr with ⟨l, B', hl', hro', hr', he⟩ | h
    · obtain ⟨B1, hB1, _, _, _, e4, _⟩ := hsub l B' hl'
      exact .inl ⟨l, B1, by rw [hlen]; exact St.get_lt hl', hB1, (Blk.as_spec e4).1 ▸ hro', hr', he⟩
    · exact .inr h
  -- a caller's block that is not lent stays
  have away : ∀ i B, st.get i = some B → (∀ j, j < rs.length → lgetN rs j ≠ i) → (σ i).real = true → ∀ j B', st0.get j = some B' → B'.ro = false → (σ (lgetN rs j)).real = true → (σ (lgetN rs j)).blk ≠ (σ i).blk := by
    intro i B hB hno hr j B' hB' _ hr' he
    obtain ⟨B1, hB1, _⟩ := hsub j B' hB'
    exact hno j (by rw [hlen]; exact St.get_lt hB') (hR.sep _ _ B1 B hB1 hB hr' hr he)
  have hkeep : ∀ i B, st.get i = some B → (∀ j, j < rs.length → lgetN rs j ≠ i) → (σ i).real = true → w'.heap[(σ i).blk]? = w.heap[(σ i).blk]? := fun i B hB hno hr =>
    hx.keep _ (hR.blt hB hr) (fun j B' hB' hro' hr' => away i B hB hno hr j B' hB' hro' hr')
  have hfar : ∀ i B, st.get i = some B → (∀ j, j < rs.length → lgetN rs j ≠ i) → (σ i).real = true → ∀ j B', s0.get j = some B' → (σ0 j).real = true → (σ0 j).blk ≠ (σ i).blk := by
    intro i B hB hno hr j B' hB' hr' he
    rcases own0 j B' hB' hr' with ⟨l, B1, hl', hB1, _, hr1, he1⟩ | h
    · exact hno l hl' (hR.sep _ _ B1 B hB1 hB hr1 hr (he1.trans he))
    · have := hR.blt hB hr; omega
  have hmono : ∀ b c, K b = some c → K' b = some c := hx.kle
  have hN1 : st.length ≤ (putAll (fwd rs st.length) rs s0 st).length := by rw [putAll_len _ _ _ _ hsl]; omega
  -- blocks of the callee, under the caller's numbers
  have callee : ∀ i j B', rnB (fwd rs st.length) (s0.get j) = some B' → σ1 i = σ0 j → ((σ1 i).real = false ∧ B'.n = 0) ∨ ((σ1 i).real = true ∧ ∃ cur, w'.heap[(σ1 i).blk]? = some (.cells cur B'.e (0, 0)) ∧ cur.size = (σ1 i).tot ∧ (σ1 i).sz = B'.sz ∧ Holds K' σ1 (putAll (fwd rs st.length) rs s0 st).length B'.sz B'.n B'.el cur (σ1 i).off ∧
      K' (σ1 i).blk = (if B'.ro then some cur else none)) := by
    intro i j B' hB' he
    obtain ⟨B, hB, e1, e2, e3, e4, e5⟩ := rnB_some hB'
    rw [he, e1, e2, e3, e4]
    rcases hR'.own j B hB with h | ⟨hr, cur, g1, g2, g3, g4, g5⟩
    · exact .inl h
    · refine .inr ⟨hr, cur, g1, g2, g3, ⟨g4.1, g4.2.1, fun k hk => ?_⟩, g5⟩
      obtain ⟨a1, a2⟩ := g4.2.2 k hk
      rw [e5 k, rnPL_eq]
      refine ⟨by simpa using a1, fun l p hp => ?_⟩
      rw [List.getElem?_map, Option.map_eq_some_iff] at hp
      obtain ⟨q, hq', rfl⟩ := hp
      exact (a2 l q hq').fwd (fun i hi => hf i hi)
  have hσim : ∀ j, j < rs.length → σ1 (lgetN rs j) = σ0 j := fun j hj => by rw [hσold _ (hlt j hj)]; exact (hx.sig j (by omega)).symm
  have hσnew : ∀ i, st.length ≤ i → σ1 i = σ0 (rs.length + (i - st.length)) := fun i hi => if_neg (by omega)
  refine ⟨v, rfl, K', σ1, putAll (fwd rs st.length) rs s0 st, rnP (fwd rs st.length) pv0, ⟨pv0, s0, hq, rfl, rfl⟩, ?_, ?_, hvr.fwd hf⟩
  · refine ⟨hmono, hσold, hN1, hx.os, hx.tape, hx.output, hx.size, fun i B' hB' hro' hr' => ?_, fun k hk hn => ?_, fun b c hb => ?_⟩
    · rcases putAll_cases _ _ _ _ hsl hnd hB' with ⟨j, hj, rfl, hb⟩ | ⟨hi, hno, hb⟩ | ⟨hi, hb⟩
      · obtain ⟨B, hB, _⟩ := rnB_some hb
        rw [hσim j hj] at hr' ⊢
        rcases own0 j B hB hr' with ⟨l, B1, hl', hB1, hro1, hr1, he1⟩ | h
        · exact .inl ⟨_, B1, hB1, hro1, hr1, he1⟩
        · exact .inr h
      · rw [hσold i hi] at hr' ⊢
        exact .inl ⟨i, B', hb, hro', hr', rfl⟩
      · obtain ⟨B, hB, _⟩ := rnB_some hb
        rw [hσnew i hi] at hr' ⊢
        rcases own0 _ B hB hr' with ⟨l, B1, hl', hB1, hro1, hr1, he1⟩ | h
        · exact .inl ⟨_, B1, hB1, hro1, hr1, he1⟩
        · exact .inr h
    · refine hx.keep k hk (fun j B' hB' hro' hr' he => ?_)
      obtain ⟨B1, hB1, _, _, _, e4, _⟩ := hsub j B' hB'
      exact hn _ B1 hB1 ((Blk.as_spec e4).1 ▸ hro') hr' he
    · rcases hx.knew b c hb with hb | ⟨j, B', hB', hro', hr', he⟩ | hb
      · exact .inl hb
      · obtain ⟨B1, hB1, _, _, _, e4, _⟩ := hsub j B' hB'
        exact .inr (.inl ⟨_, B1, hB1, (Blk.as_spec e4).1 ▸ hro', hr', he⟩)
      · exact .inr (.inr hb)
  · refine ⟨hR'.kin, fun i B' hB' => ?_, fun i j B C hB hC h1 h2 he => ?_, hR'.gl, fun i B' hB' hf2 hr2 => by
      rcases putAll_cases _ _ _ _ hsl hnd hB' with ⟨j, hj, rfl, hb⟩ | ⟨hi, hno, hb⟩ | ⟨hi, hb⟩
      · obtain ⟨B, hB, en, ef⟩ := rnB_full hb
        rw [hσim j hj] at hr2 ⊢
        rw [en]; exact hR'.fl j B hB (ef ▸ hf2) hr2
      · rw [hσold i hi] at hr2 ⊢; exact hR.fl i B' hb hf2 hr2
      · obtain ⟨B, hB, en, ef⟩ := rnB_full hb
        rw [hσnew i hi] at hr2 ⊢
        rw [en]; exact hR'.fl _ B hB (ef ▸ hf2) hr2⟩
    · rcases putAll_cases _ _ _ _ hsl hnd hB' with ⟨j, hj, rfl, hb⟩ | ⟨hi, hno, hb⟩ | ⟨hi, hb⟩
      · exact callee _ j B' hb (hσim j hj)
      · rw [hσold i hi]
        rcases hR.own i B' hb with h | ⟨hr, cur, g1, g2, g3, g4, g5⟩
        · exact .inl h
        · refine .inr ⟨hr, cur, (hkeep i B' hb hno hr).trans g1, g2, g3, g4.mono hmono hσold hN1, ?_⟩
          cases hro' : B'.ro with
          | true => rw [hro'] at g5; simp only [if_true] at g5 ⊢; exact hmono _ _ g5
          | false =>
            rw [hro'] at g5
            simp only [Bool.false_eq_true, if_false] at g5 ⊢
            cases hk : K' (σ i).blk with
            | none => rfl
            | some c =>
              rcases hx.knew _ _ hk with h | ⟨j, B1, hB1, hro1, hr1, he1⟩ | h
              · rw [g5] at h; cases h
              · exact absurd he1 (away i B' hb hno hr j B1 hB1 hro1 hr1)
              · have := hR.blt hb hr; omega
      · exact callee _ _ B' hb (hσnew i hi)
    · -- no two are one
      have idx : ∀ {i : Nat} {B' : Blk}, (putAll (fwd rs st.length) rs s0 st).get i = some B' → (i < st.length ∧ (∀ j, j < rs.length → lgetN rs j ≠ i) ∧ st.get i = some B') ∨ ∃ j B1, s0.get j = some B1 ∧ σ1 i = σ0 j ∧ i = fwd rs st.length j := by
        intro i B' hB'
        rcases putAll_cases _ _ _ _ hsl hnd hB' with ⟨j, hj, rfl, hb⟩ | h | ⟨hi, hb⟩
        · obtain ⟨B1, hB1, _⟩ := rnB_some hb
          refine .inr ⟨j, B1, hB1, hσim j hj, ?_⟩
          unfold fwd
          rw [show Nat.blt j rs.length = true by rw [Nat.blt_eq]; exact hj]; rfl
        · exact .inl h
        · obtain ⟨B1, hB1, _⟩ := rnB_some hb
          refine .inr ⟨_, B1, hB1, hσnew i hi, ?_⟩
          unfold fwd
          have : Nat.blt (rs.length + (i - st.length)) rs.length = false := by rw [Bool.eq_false_iff]; intro hh; rw [Nat.blt_eq] at hh; omega
          rw [this, cond_false]; omega
      rcases idx hB with ⟨hi, hni, hb⟩ | ⟨a, B1, hB1, ha, hia⟩ <;> rcases idx hC with ⟨hj, hnj, hc⟩ | ⟨b, C1, hC1, hb', hjb⟩
      · rw [hσold i hi] at h1 he
        rw [hσold j hj] at h2 he
        exact hR.sep i j B C hb hc h1 h2 he
      · rw [hσold i hi] at h1 he
        rw [hb'] at h2 he
        exact absurd he.symm (hfar i B hb hni h1 b C1 hC1 h2)
      · rw [hσold j hj] at h2 he
        rw [ha] at h1 he
        exact absurd he (hfar j C hc hnj h2 a B1 hB1 h1)
      · rw [ha] at h1 he
        rw [hb'] at h2 he
        rw [hia, hjb, hR'.sep a b B1 C1 hB1 hC1 h1 h2 he]
end Go.Sy
end
