/- Texts merged: Y24. -/
import Derived.Test.YtffckdfcmdmnoaaDoorM15
section
/- Results of several kinds; a block's content in weaker words. -/
set_option linter.unusedVariables false
set_option linter.unusedSimpArgs false
set_option linter.unusedSectionVars false
namespace Go.Sy
open Go Go.RowKit
variable [Globs]

/-! ### weaker words -/
def Wk (st : St) (p q : PV) : Prop := ∀ K σ w, Rel K σ st w → ∀ v, VR K σ st.length p v → VR K σ st.length q v
theorem Wk.refl {st : St} (p : PV) : Wk st p p := fun _ _ _ _ _ h => h
theorem Wk.cv {st : St} {p q : PV} (h : Cv roB st p q) : Wk st p q := fun _ _ _ hR _ hv => Cv.ro hR h hv
theorem Wk.nil {st : St} {i k : Nat} : Wk st (.atom (.slice none 0 0)) (.slc i k 0) := fun _ _ _ _ _ hv => by rw [hv.atom_inv]; exact .slc0 none
theorem Wk.any {st : St} (p : PV) : Wk st p .any := fun _ _ _ _ _ _ => .any _
def WkL (st : St) : List PV → List PV → Prop
  | [], [] => True
  | p :: l, q :: m => Wk st p q ∧ WkL st l m
  | _, _ => False
theorem WkL.spec {st : St} : ∀ {l m : List PV}, WkL st l m → l.length = m.length ∧ ∀ (t : Nat) q, m[t]? = some q → ∃ p, l[t]? = some p ∧ Wk st p q
  | [], [], _ => ⟨rfl, fun t q hp => by simp at hp⟩
  | p :: l, q :: m, h => by
    obtain ⟨h1, h2⟩ := WkL.spec h.2
    refine ⟨by simp [h1], fun t b hb => ?_⟩
    cases t with
    | zero => simp at hb; subst hb; exact ⟨p, by simp, h.1⟩
    | succ t => simp at hb; simpa using h2 t b hb
  | [], _ :: _, h => h.elim
  | _ :: _, [], h => h.elim
theorem WkL.refl {st : St} : ∀ (l : List PV), WkL st l l
  | [] => trivial
  | p :: l => ⟨.refl p, WkL.refl l⟩
theorem WkL.ofEq {st : St} {l m : List PV} (h : l = m) : WkL st l m := h ▸ WkL.refl l

/-- A block's content in weaker words; perhaps fewer elements of it. -/
theorem Rel.weak {st : St} {K : KH} {σ : Nat → Loc} {w : World} (hR : Rel K σ st w) {i : Nat} {B B' : Blk} (hB : st.get i = some B) (he : B'.e = B.e) (hs : B'.sz = B.sz) (hn : B'.n ≤ B.n) (hr : B'.ro = B.ro) (hel : ∀ k, k < B'.n → WkL st (B.el k) (B'.el k)) (hfu : B'.full = true → B.full = true ∧ B'.n = B.n) :
    Rel K σ (st.upd i (some B')) w ∧ Ext K σ st w K σ (st.upd i (some B')) w := by
  have old : ∀ {j C}, (st.upd i (some B')).get j = some C → (j = i ∧ C = B') ∨ (j ≠ i ∧ st.get j = some C) := by
    intro j C hC
    rcases St.get_upd_cases hC with ⟨rfl, hc⟩ | ⟨hji, hC⟩
    · cases hc; exact .inl ⟨rfl, rfl⟩
    · exact .inr ⟨hji, hC⟩
  have get : ∀ {j C}, (st.upd i (some B')).get j = some C → ∃ C', st.get j = some C' := by
    intro j C hC
    rcases old hC with ⟨rfl, _⟩ | ⟨_, hC⟩
    · exact ⟨B, hB⟩
    · exact ⟨C, hC⟩
  refine ⟨⟨hR.kin, fun j C hC => ?_, fun j l C D hC hD r1 r2 hb => ?_, hR.gl, fun j C hC hf hr2 => by
    rcases old hC with ⟨rfl, rfl⟩ | ⟨_, hC⟩
    · rw [(hfu hf).2]; exact hR.fl j B hB (hfu hf).1 hr2
    · exact hR.fl j C hC hf hr2⟩, ⟨fun _ _ h => h, fun _ _ => rfl, by rw [St.length_upd]; exact Nat.le_refl _, rfl, rfl, rfl, Nat.le_refl _, fun j C hC hr' hl => ?_, fun _ _ _ => rfl, fun b c hb => .inl hb⟩⟩
  · rw [St.length_upd]
    rcases old hC with ⟨rfl, rfl⟩ | ⟨hji, hC⟩
    · rcases hR.own j B hB with ⟨hf, h0⟩ | ⟨hr', cur, g1, g2, g3, g4, g5⟩
      · exact .inl ⟨hf, by omega⟩
      · refine .inr ⟨hr', cur, he ▸ g1, g2, hs ▸ g3, ⟨?_, g4.2.1, fun k hk => ?_⟩, by rw [hr]; exact g5⟩
        · rw [hs]; have := g4.1; have := Nat.mul_le_mul_right B.sz hn; omega
        · obtain ⟨h1, h2⟩ := (hel k hk).spec
          have h3 := g4.2.2 k (by omega)
          refine ⟨by rw [← h1, hs]; exact h3.1, fun t q hq => ?_⟩
          obtain ⟨p, hp, hw⟩ := h2 t q hq
          rw [hs]
          exact hw K σ w hR _ (h3.2 t p hp)
    · exact hR.own j C hC
  · obtain ⟨C', hC'⟩ := get hC
    obtain ⟨D', hD'⟩ := get hD
    exact hR.sep j l C' D' hC' hD' r1 r2 hb
  · rcases old hC with ⟨rfl, rfl⟩ | ⟨hji, hC⟩
    · exact .inl ⟨j, B, hB, hr ▸ hr', hl, rfl⟩
    · exact .inl ⟨j, C, hC, hr', hl, rfl⟩
section
variable {P : Program} {f : FuncId} {fn : Func} {n0 : Nat} {Q : PV → St → Prop} {k k' : List Item} {env : Env} {st st' : St} {ops : Array Oper} {d d' : Md} {o : Oper} {rest : List Oper} {T : TT}
theorem Run.weak {i : Nat} {B : Blk} (B' : Blk) (hB : st.get i = some B) (he : B'.e = B.e) (hs : B'.sz = B.sz) (hn : B'.n ≤ B.n) (hr : B'.ro = B.ro) (hel : ∀ k, k < B'.n → WkL st (B.el k) (B'.el k)) (h : Run P f fn n0 Q k env (st.upd i (some B'))) (hfu : B'.full = true → B.full = true ∧ B'.n = B.n := by exact fun h => nomatch h) : Run P f fn n0 Q k env st := by
  intro hn0 K σ w a b cs hR hsz hd hfn hk hE
  obtain ⟨hR', hX⟩ := hR.weak hB he hs hn hr hel hfu
  obtain ⟨v, w', fr, ⟨K2, σ2, st2, pv2, q2, e2, r2, v2⟩, r⟩ := h (by rw [St.length_upd]; exact hn0) K σ w a b cs hR' hsz hd hfn hk (fun t => (hE t).ext hX)
  exact ⟨v, w', fr, ⟨K2, σ2, st2, pv2, q2, (hX.less hn0).trans e2, r2, v2⟩, r⟩
/-- A variable in other words. -/
theorem Run.rw (d : Nat) {q : PV} (hq : env d = q) (h : Run P f fn n0 Q k (env.put (some d) q) st) : Run P f fn n0 Q k env st := by
  have : env.put (some d) q = env := by
    funext t
    rw [put_at]
    split
    · rename_i h; rw [h, hq]
    · rfl
  rwa [this] at h
/-- A row without elements, of which there is none yet. -/
theorem Run.noRow (e sz : Nat) (el : Nat → List PV) (h : Run P f fn n0 Q k env (st ++ [some ⟨e, sz, 0, el, false, false⟩])) : Run P f fn n0 Q k env st := by
  intro hn0 K σ w a b cs hR hsz hdf hfn hk hE
  obtain ⟨hR', hX⟩ := hR.push (Below.refl _ _) (L := ⟨0, 0, 0, 0, false, rfl⟩) (B := ⟨e, sz, 0, el, false, false⟩) rfl (fun h => by cases h) (fun _ => rfl)
  obtain ⟨v, w', fr, ⟨K2, σ2, st2, pv2, q2, e2, r2, v2⟩, r⟩ := h (by simp; omega) K _ w a b cs hR' hsz hdf hfn hk (fun t => (hE t).ext hX)
  exact ⟨v, w', fr, ⟨K2, σ2, st2, pv2, q2, (hX.less hn0).trans e2, r2, v2⟩, r⟩

/-! ### results of several kinds -/
/-- An operation with several results. -/
theorem Rg.many {Q' : PV → St → Prop} {e : Option Tmp} (hw : wants ops env o = some true) (hd : dstN fn.ntmps o.dst = some e) (hx : nx d = some d') (hl : d.loud = true) (h : ∀ R : PV → St → Prop, (∀ pv st', Q' pv st' → R pv st') → OpGoes P (d.env ops o env) st o R)
    (hk : ∀ pv st', Q' pv st' → d.ok P ops fn.ntmps st st' (env.put e pv)) (hr : ∀ pv st', Q' pv st' → Rg P f fn n0 Q k ops d' rest (env.put e pv) st') : Rg P f fn n0 Q k ops d (o :: rest) env st := by
  exact Rg.gen hw hd hx (h _ fun pv st' hq => ⟨hk pv st' hq, hr pv st' hq⟩) (fun hlo => by rw [hl] at hlo; cases hlo)
/-- A call about own memory with several results. -/
theorem Rg.owns {g : FuncId} {cap asx : List PV} {st0 : St} {R0 : PV → St → Prop} {e : Option Tmp} {cp : Operand} {args : Array Operand} {ats : Array TypeId} (hp : Spec P g asx st0 R0) (hro : ∀ pv s, R0 pv s → noRoB s = true) (rs : List Nat) (hw : wants ops env o = some true) (hd : dstN fn.ntmps o.dst = some e) (hx : nx d = some d')
    (ho : o.op = .call { callee := .value cp, args, argTypes := ats }) (hc : funcOf (d.env ops o env cp) = some (g, cap)) (hb : ownOk rs st.length st0 [] = true) (hsub : StL rs st0.length st rs st0) (hargs : RnL (lgetN rs) st0.length (args.toList.map (d.env ops o env) ++ cap) asx) (hl : d.loud = true) (hk : ∀ pv0 s0, R0 pv0 s0 → d.ok P ops fn.ntmps st (putAll (fwd rs st.length) rs s0 st) (env.put e (rnP (fwd rs st.length) pv0)))
    (hr : ∀ pv0 s0, R0 pv0 s0 → Rg P f fn n0 Q k ops d' rest (env.put e (rnP (fwd rs st.length) pv0)) (putAll (fwd rs st.length) rs s0 st)) : Rg P f fn n0 Q k ops d (o :: rest) env st := by
  unfold ownOk at hb
  obtain ⟨b2, b3, b4, b5⟩ : noRoB st0 = true ∧ Nat.beq rs.length st0.length = true ∧ nodupB rs = true ∧ allLt st.length rs = true := by
    cases h2 : noRoB st0 <;> cases h3 : Nat.beq rs.length st0.length <;> cases h4 : nodupB rs <;> simp [h2, h3, h4, noRoB] at hb
    exact ⟨rfl, rfl, rfl, hb⟩
  have hs := Spec.frame (as' := args.toList.map (d.env ops o env) ++ cap) (st := st) (rs := rs) hp (fun pv s h => noRoB_spec (hro pv s h)) (noRoB_spec b2) (Nat.eq_of_beq_eq_true b3) b4 (allLt_spec b5) hsub.spec hargs
  refine Rg.many (Q' := fun pv s => ∃ pv0 s0, R0 pv0 s0 ∧ pv = rnP (fwd rs st.length) pv0 ∧ s = putAll (fwd rs st.length) rs s0 st) hw hd hx hl (fun R hR => G_callSpec ho (funcOf_spec hc) hs (fun p s h => ?_)) (fun pv s h => ?_) (fun pv s h => ?_)
  · obtain ⟨pv0', s0', h, rfl, rfl⟩ := h
    exact hR _ _ ⟨_, _, h, rfl, rfl⟩
  · obtain ⟨pv0, s0, h, rfl, rfl⟩ := h
    exact hk pv0 s0 h
  · obtain ⟨pv0, s0, h, rfl, rfl⟩ := h
    exact hr pv0 s0 h
end

theorem srcP_slc {st : St} {i k n : Nat} {B : Blk} (hB : st.get i = some B) (hn : k + n ≤ B.n) : srcP st (.slc i k n) = some (B.sz, n, fun j => B.el (k + j)) := by
  simp only [srcP, hB]
  rw [Nat.ble_eq_true_of_le hn]
  rfl
section
variable {P : Program} {T : TT} {E : Operand → PV} {st : St} {o : Oper} {Q : PV → St → Prop}
/-- copy out of a row of one's own. -/
theorem G_copyO (hT : TOk P T) {t t2 e : TypeId} {ti te : TI} {x y : Operand} {i k n m j q : Nat} {B C : Blk} (c : Nat) (ho : o.op = .call { callee := .builtin .copy, args := #[x, y], argTypes := #[t, t2] }) (ht : T t = some ti) (hs : sliceD ti.d = some e) (he : T e = some te)
    (hx : E x = .slc i k n) (hB : st.get i = some B) (hck : (bif B.ro then false else Nat.beq B.sz te.size) = true) (hy : E y = .slc j q m) (hC : st.get j = some C) (hsz : C.sz = te.size) (hkn : k + n ≤ B.n) (hqm : q + m ≤ C.n)
    (hcd : c = min m n) (h : Q (.atom (.int .i64 c)) (st.upd i (some { B with el := cpEl k c (fun t => C.el (q + t)) B.el }))) : OpGoes P E st o Q :=
  G_copy hT c ho ht hs he hx hB hck hkn (by rw [hy, srcP_slc hC hqm, hsz]) hcd h
end
theorem Rn.slcK {r : Nat → Nat} {N i i' k k' n n' : Nat} (hi : r i' = i) (hlt : Nat.blt i' N = true) (hk : k = k') (hn : n = n') : Rn r N (.slc i k n) (.slc i' k' n') := by
  subst hk; exact Rn.slcN hi hlt hn
section
variable {P : Program} {T : TT} {E : Operand → PV} {st : St} {o : Oper} {Q : PV → St → Prop}
theorem G_ixFK (hT : TOk P T) {t e : TypeId} {te : TI} {x ix : Operand} {sz n : Nat} {el : Nat → List PV} {kd : IntKind} {i : Int} (k : Nat) (ho : o.op = .indexAddr t x ix) (ht : sliceT T t = some (e, te)) (hx : fzOf (E x) = some (sz, n, el)) (hsz : Nat.beq te.size sz = true) (hi : intOf' (E ix) = some (kd, i)) (hk : i = k) (hn : k < n)
    (h : Q (.fptr sz n el k 0) st) : OpGoes P E st o Q := by
  subst hk
  exact G_ixFN hT ho ht hx hsz hi hn h
/-- An operation that may come behind: it leaves the same there. -/
theorem Stay.gen {ops : Array Oper} {nt : Nat} {env : Env} {e : Option Tmp} {pv : PV} (hw : wants ops env o = some true) (hd : dstN nt o.dst = some e) (h : ∀ R : PV → St → Prop, R pv st → OpGoes P (Env.only (o.looksAt ops) env).ev st o R) (he : ∀ t, e = some t → env t = pv) : Stay P ops st nt o env := by
  obtain ⟨e', hd'⟩ := dstN_spec hd
  refine ⟨pv, ⟨hd', .inl ⟨hw, h _ ⟨rfl, rfl⟩⟩⟩, ?_⟩
  rw [e']
  cases e with
  | none => rfl
  | some t =>
    funext x
    rw [put_at]
    split
    · rename_i hx; rw [hx]; exact (he t rfl).symm
    · rfl
end
/-! ### is a slice nil? -/
def lenOf : PV → Option Nat
  | .fz _ n _ => some n
  | .slc _ _ n => some n
  | _ => none
theorem run_equal_slc_nil {P : Program} (w : World) {t e : TypeId} (hu : P.underlying t = some (.slice e)) (a : Option Addr) (l c : Nat) : (Op.equal t (.slice a l c) (.slice none 0 0)).run P w = .ok a.isNone w := by
  rw [Op.equal, show Op.maxDepth = 9999 + 1 from rfl]; generalize 9999 = d; cases a <;> cases l <;> cases c <;> simp [Op.equalIn, run_underlying hu]
theorem run_eqGuard_slc {P : Program} (op : BinOp) (t : TypeId) (x y : Operand) (a : Option Addr) (l c : Nat) (w : World) (hy : y = .const (.slice none 0 0)) : (eqGuard op t x y (.slice a l c) (.slice none 0 0)).run P w = .ok () w := by
  subst hy; cases op <;> simp [eqGuard]
theorem binOp_eql_slc (t : TypeId) (a : Option Addr) (l c : Nat) : binOp .eql t (.slice a l c) (.slice none 0 0) = (do pure (.bool (← Op.equal t (.slice a l c) (.slice none 0 0)))) := rfl
section
variable {P : Program} {T : TT} {E : Operand → PV} {st : St} {o : Oper}
theorem G_slcNil (hT : TOk P T) {t t2 e : TypeId} {ti : TI} {x : Operand} {n : Nat} (ho : o.op = .binOp .eql t x (.const (.slice none 0 0)) t2) (ht : T t = some ti) (hs : sliceD ti.d = some e) (hx : lenOf (E x) = some n) (hy : E (.const (.slice none 0 0)) = .atom (.slice none 0 0)) (R : PV → St → Prop)
    (h : ∀ pv st', (∃ b, pv = .atom (.bool b) ∧ st' = st ∧ (0 < n → b = false)) → R pv st') : OpGoes P E st o R := by
  intro K σ w ρ hR hE
  have vx := hE x
  have vy := hE (.const (.slice none 0 0))
  rw [hy] at vy
  have hu := (hT t ti ht).1
  rw [sliceD_spec hs] at hu
  have key : ∃ a l c, ρ x = .slice a l c ∧ (0 < n → a.isNone = false) := by
    unfold lenOf at hx
    split at hx
    · rename_i he
      cases hx
      rw [he] at vx
      generalize ρ x = u at vx
      cases vx with
      | fz => exact ⟨_, _, _, rfl, fun _ => rfl⟩
      | fz0 => exact ⟨_, _, _, rfl, fun h => absurd h (by omega)⟩
    · rename_i he
      cases hx
      rw [he] at vx
      generalize ρ x = u at vx
      cases vx with
      | slc => exact ⟨_, _, _, rfl, fun _ => rfl⟩
      | slc0 => exact ⟨_, _, _, rfl, fun h => absurd h (by omega)⟩
    · cases hx
  obtain ⟨a, l, c, hr, ha⟩ := key
  refine .inl ⟨.bool a.isNone, w, .inl ?_, K, σ, st, .atom (.bool a.isNone), h _ _ ⟨_, rfl, rfl, ha⟩, Ext.refl _ _ _ _, hR, .atom _⟩
  simp only [execOp, ho, hr, vy.atom_inv, Sem.run_bind, run_eqGuard_slc _ _ _ _ _ _ _ _ rfl, binOp_eql_slc, run_equal_slc_nil w hu, Result.andThen_ok, Sem.run_pure]
end
section
variable {P : Program} {f : FuncId} {fn : Func} {n0 : Nat} {Q : PV → St → Prop} {k k' : List Item} {env : Env} {st st' : St} {ops : Array Oper} {d d' : Md} {o : Oper} {rest : List Oper} {T : TT}
/-- cap of a row of one's own. -/
theorem Rg.cap (hT : TOk P T) {e : Option Tmp} {t te : TypeId} {ti : TI} {x : Operand} {i q n : Nat} {B : Blk} (hw : wants ops env o = some true) (hd : dstN fn.ntmps o.dst = some e) (hx : nx d = some d') (hl : d.loud = true) (hk : ∀ st' env', d.ok P ops fn.ntmps st st' env') (ho : o.op = .call { callee := .builtin .cap, args := #[x], argTypes := #[t] }) (ht : T t = some ti) (hs : sliceD ti.d = some te)
    (hxx : d.env ops o env x = .slc i q n) (hB : st.get i = some B) (hro : B.ro = false) (hsz : Nat.blt 0 B.sz = true) (hkn : q + n = B.n) (hpos : 0 < n)
    (hr : ∀ c, n ≤ c → c ≤ maxLen → Rg P f fn n0 Q k ops d' rest (env.put e (.atom (.int .i64 c))) (st.upd i (some { B with n := q + c, el := roomEl B.sz B.n B.el, full := true }))) : Rg P f fn n0 Q k ops d (o :: rest) env st :=
  Rg.many (Q' := fun pv s => ∃ c : Nat, n ≤ c ∧ c ≤ maxLen ∧ pv = .atom (.int .i64 c) ∧ s = st.upd i (some { B with n := q + c, el := roomEl B.sz B.n B.el, full := true })) hw hd hx hl
    (fun R hR => G_cap hT ho ht hs hxx hB hro hkn hpos hsz (fun c h1 h2 => hR _ _ ⟨c, h1, h2, rfl, rfl⟩)) (fun _ _ _ => hk _ _) (fun pv s h => by obtain ⟨c, h1, h2, rfl, rfl⟩ := h; exact hr c h1 h2)
end
/-- What is known of own memory behind a call, as content. -/
theorem Own.pure {P : Program} {g : FuncId} {asx : List PV} {pv0 pv : PV} {s0 : St} (h : Own P g asx [] pv0 s0) (hcv : Cv allB s0 pv0 pv) (hc : closedB pv = true) : Pure P g asx pv :=
  Pure.of_spec ⟨h.1, fun K σ w vs a b c => (h.2 K σ w vs a b c).mono fun e w' ⟨v, he, ho⟩ => ⟨v, he, ho.mono (fun p s hq => by rw [hq.1, hq.2]; exact hcv)⟩⟩ hc
end Go.Sy
end
