/- Texts merged: Y26. -/
import Derived.Test.YtlimecfjpfaljaaDoorM23
section
/- Rows that are as long as their room. -/
set_option linter.unusedVariables false
set_option linter.unusedSimpArgs false
set_option linter.unusedSectionVars false
namespace Go.Sy
open Go Go.RowKit
variable [Globs]
section
variable {P : Program} {T : TT} {E : Operand → PV} {st : St} {o : Oper} {Q : PV → St → Prop}
/-- A new block without room behind its last element. -/
theorem OpGoes.fresh1 {pv : PV} {B : Blk} (hro : B.ro = false) (h : ∀ K σ w (ρ : Operand → Value), Rel K σ st w → (∀ x, VR K σ st.length (E x) (ρ x)) →
      ∃ v cur w', (execOp ρ o).run P w = .ok (.value v) w' ∧ Below w.heap.size w w' ∧ w'.heap[w.heap.size]? = some (.cells cur B.e (0, 0)) ∧ Holds K σ st.length B.sz B.n B.el cur 0 ∧ cur.size = B.n * B.sz ∧
        ∀ σ', (∀ i, i < st.length → σ' i = σ i) → σ' st.length = ⟨w.heap.size, 0, cur.size, B.sz, true, Nat.zero_mod _⟩ → VR K σ' (st.length + 1) pv v)
    (hq : Q pv (st ++ [some { B with full := true }])) (hfu : B.full = false := by first | rfl | assumption) : OpGoes P E st o Q := by
  intro K σ w ρ hR hE
  obtain ⟨v, cur, w', hr, hb, hh, hold, hsz, hv⟩ := h K σ w ρ hR hE
  obtain ⟨h1, h2⟩ := hR.push hb (L := ⟨w.heap.size, 0, cur.size, B.sz, true, Nat.zero_mod _⟩) (B := B) hro (fun _ => ⟨Nat.le_refl _, cur, hh, rfl, rfl, hold⟩) (fun h => by cases h)
  have hn : sx σ st.length ⟨w.heap.size, 0, cur.size, B.sz, true, Nat.zero_mod _⟩ st.length = ⟨w.heap.size, 0, cur.size, B.sz, true, Nat.zero_mod _⟩ := sx_new _ _ _
  have hg : St.get (st ++ [some B]) st.length = some B := St.get_push_new _ _
  obtain ⟨s1, s2⟩ := h1.set (i := st.length) (B' := { B with full := true }) hg hro hro (by rw [hn]) (w' := w') rfl rfl rfl rfl (fun _ _ => rfl) (cur := cur) (by rw [hn]; exact hh) (by rw [hn]) (by rw [hn])
    (by rw [hn]; exact hold.mono (fun _ _ h => h) (fun i hi => sx_old hi) (by simp)) (fun _ => by rw [hn]; dsimp only; rw [Nat.zero_add, hsz])
  have hupd : St.upd (st ++ [some B]) st.length (some { B with full := true }) = st ++ [some { B with full := true }] := by rw [St.upd_eq]; simp
  rw [hupd] at s1 s2
  exact .inl ⟨v, w', .inl hr, K, _, _, pv, hq, h2.trans s2, s1, by simpa using hv _ (fun i hi => sx_old hi) (sx_new _ _ _)⟩
theorem G_buildF (hT : TOk P T) {t e : TypeId} {len : Nat} {parts : Array (Nat × Operand)} {ti te : TI} {cs : List PV} (ho : o.op = .buildSlice t len parts) (ht : T t = some ti) (hs : sliceD ti.d = some e) (he : T e = some te) (hsz : Nat.beq te.zero.cells.size te.size = true) (hpos : Nat.blt 0 te.size = true)
    (hok : cellsOk (zeroEls te.zero) = true) (hsmall : Nat.ble (len * te.size) 16777216 = true)
    (hf : fillP (fun i => some (i * te.size, te.size)) (zerosN (zeroEls te.zero) len) (parts.toList.map fun x => (x.1, E x.2)) = some cs) (h : Q (.slc st.length 0 len) (st ++ [some ⟨e, te.size, len, piece te.size cs, false, true⟩])) : OpGoes P E st o Q := by
  refine OpGoes.fresh1 (B := ⟨e, te.size, len, piece te.size cs, false, false⟩) rfl (fun K σ w ρ hR hE => ?_) h
  obtain ⟨cells', hr, hh, hsize, _⟩ := buildSlice_run hT ho ht hs he hsz hpos hok hsmall hf w hE
  rw [Nat.blt_eq] at hpos
  have hsmall := Nat.le_of_ble_eq_true hsmall
  refine ⟨_, cells', _, hr, (Below.refl _ _).alloc (Nat.le_refl _) _, heap_alloc_new w _, hh, hsize, fun σ' _ hs' => ?_⟩
  have hm : len ≤ maxLen := by
    have : len * 1 ≤ len * te.size := Nat.mul_le_mul_left _ hpos
    simp only [maxLen]; omega
  have := VR.slc (K := K) (σ := σ') (N := st.length + 1) (i := st.length) (k := 0) (n := len) (cap := len) (by omega) (by rw [hs']) (by rw [hs']; simp [hsize]) (Nat.le_refl _) hm
  simpa [hs'] using this
theorem srcP_get {K : KH} {σ : Nat → Loc} {w : World} (hR : Rel K σ st w) {p : PV} {u : Value} {sz m : Nat} {el : Nat → List PV} (hy : srcP st p = some (sz, m, el)) (vy : VR K σ st.length p u) : ∃ news, Src K σ st.length w u sz m el news := src_any hR hy vy
/-- append to a row that has no room: the row stays. -/
theorem G_appF (hT : TOk P T) {t e : TypeId} {ti te : TI} {x y : Operand} {i k0 n m : Nat} {B : Blk} {el : Nat → List PV} (ho : o.op = .call { callee := .builtin .append, args := #[x, y], argTypes := #[t, t] }) (ht : T t = some ti) (hs : sliceD ti.d = some e) (he : T e = some te)
    (hx : E x = .slc i k0 n) (hB : st.get i = some B) (hc : (bif B.full then bif Nat.beq B.sz te.size then bif Nat.beq te.zero.cells.size te.size then bif Nat.blt 0 te.size then Nat.blt 0 te.bytes else false else false else false else false) = true) (hy : srcP st (E y) = some (te.size, m, el)) (hkn : k0 + n = B.n) (hm : 0 < m)
    (hb : (n + m) * te.bytes ≤ 140737488355328) (h : Q (.slc st.length 0 (n + m)) (st ++ [some ⟨e, te.size, n + m, appEl n (fun j => B.el (k0 + j)) el, false, false⟩])) : OpGoes P E st o Q := by
  intro K σ w ρ hR hE
  cases h1 : B.full <;> simp only [h1, cond_true, cond_false, reduceCtorEq] at hc
  cases h3 : Nat.beq B.sz te.size <;> simp only [h3, cond_true, cond_false, reduceCtorEq] at hc
  cases h4 : Nat.beq te.zero.cells.size te.size <;> simp only [h4, cond_true, cond_false, reduceCtorEq] at hc
  cases h5 : Nat.blt 0 te.size <;> simp only [h5, cond_true, cond_false, reduceCtorEq] at hc
  rw [Nat.blt_eq] at hc h5
  have h3 := Nat.eq_of_beq_eq_true h3
  have h4 := Nat.eq_of_beq_eq_true h4
  have vx := hE x; have vy := hE y
  rw [hx] at vx
  obtain ⟨news, hsrc⟩ := srcP_get hR hy vy
  have hu' := (hT t ti ht).1
  rw [sliceD_spec hs] at hu'
  have hsrc := hsrc.srt hu'
  obtain ⟨olds, hold⟩ := src_slc hR hB (Nat.le_of_eq hkn) vx
  rw [h3] at hold
  obtain ⟨A, cap, hA, hlc, hml⟩ := vx.slice_len
  rw [hA] at vx hold
  have hcap : cap < n + m := by
    cases vx with
    | slc0 => omega
    | slc hi hreal hcap hnc _ =>
      have hf := hR.fl i B hB h1 hreal
      have hs2 := hR.szOf hB hreal
      rw [hs2, h3] at hf hcap
      have : (k0 + cap) * te.size = B.n * te.size := by omega
      have : k0 + cap = B.n := Nat.eq_of_mul_eq_mul_right h5 this
      omega
  obtain ⟨v, w', hr, hout⟩ := OpGoes.grown (P := P) (ty := o.type) (di := none) (Q := Q) hT ht hs he h4 hR hold hsrc hcap hc hb h
  exact .inl ⟨v, w', .inl (by simp [execOp, ho, resolve, invoke, builtin, hA, hr]), hout⟩
end
end Go.Sy
end
