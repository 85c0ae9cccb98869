/- Texts merged: Y22, Y23. -/
import Derived.Test.YtffckdfcmdmnoaaDoorM14
import Derived.Lib.AppendZerosOnto
import Derived.Lib.Overlaps
section
/- copy; the room behind a slice's last element. -/
set_option linter.unusedVariables false
set_option linter.unusedSimpArgs false
set_option linter.unusedSectionVars false
namespace Go.Sy
open Go Go.RowKit
section
variable [Globs]
variable {P : Program} {T : TT} {E : Operand → PV} {st : St} {o : Oper} {Q : PV → St → Prop}

theorem pre_slc {K : KH} {σ : Nat → Loc} {N i k m c : Nat} {u : Value} (h : VR K σ N (.slc i k m) u) (hc : c ≤ m) : ∃ A cap, u = .slice A m cap ∧ VR K σ N (.slc i k c) (.slice A c cap) := by
  cases h with
  | slc hi hr ht hn hm => exact ⟨_, _, rfl, .slc hi hr ht (by omega) hm⟩
  | slc0 A => obtain rfl : c = 0 := by omega
              exact ⟨_, _, rfl, .slc0 A⟩
theorem pre_fz {K : KH} {σ : Nat → Loc} {N sz m c : Nat} {el : Nat → List PV} {u : Value} (h : VR K σ N (.fz sz m el) u) (hc : c ≤ m) : ∃ A cap, u = .slice A m cap ∧ VR K σ N (.fz sz c el) (.slice A c cap) := by
  cases h with
  | fz hb hn hcap hm hs hl h1 h =>
    rcases Nat.eq_zero_or_pos c with rfl | h0
    · exact ⟨_, _, rfl, .fz0 _ _ hm⟩
    · have := Nat.mul_le_mul_right sz hc
      exact ⟨_, _, rfl, .fz hb h0 (by omega) hm (by omega) (fun k hk => hl k (by omega)) (fun k j hk hj => h1 k j (by omega) hj) (fun k hk => h k (by omega))⟩
  | fz0 A cap hm => obtain rfl : c = 0 := by omega
                    exact ⟨_, _, rfl, .fz0 _ _ hm⟩
/-- What stands in a row behind a copy of c elements to place k. -/
def cpEl (k c : Nat) (a b : Nat → List PV) : Nat → List PV := fun j => bif Nat.ble k j && Nat.blt j (k + c) then a (j - k) else b j
theorem cpEl_in {k c j : Nat} {a b : Nat → List PV} (h : k ≤ j ∧ j < k + c) : cpEl k c a b j = a (j - k) := by
  unfold cpEl
  have h1 : Nat.ble k j = true := by rw [Nat.ble_eq]; exact h.1
  have h2 : Nat.blt j (k + c) = true := by rw [Nat.blt_eq]; exact h.2
  rw [h1, h2]; rfl
theorem cpEl_out {k c j : Nat} {a b : Nat → List PV} (h : ¬(k ≤ j ∧ j < k + c)) : cpEl k c a b j = b j := by
  unfold cpEl
  cases h1 : Nat.ble k j with
  | false => rfl
  | true =>
    cases h2 : Nat.blt j (k + c) with
    | false => rfl
    | true => rw [Nat.blt_eq] at h2; exact absurd ⟨Nat.le_of_ble_eq_true h1, h2⟩ h
theorem firstCells_cap {P : Program} {A : Option Addr} {sz c m cap cap' c' : Nat} {w : World} : (Builtin.firstCells sz c (.slice A m cap)).run P w = (Builtin.firstCells sz c (.slice A c' cap')).run P w := by cases A <;> rfl
theorem src_pre {K : KH} {σ : Nat → Loc} {w : World} (hR : Rel K σ st w) {p : PV} {sz m c : Nat} {el : Nat → List PV} {u : Value} (hs : srcP st p = some (sz, m, el)) (hv : VR K σ st.length p u) (hc : c ≤ m) :
    ∃ A cap news, u = .slice A m cap ∧ Src K σ st.length w (.slice A c cap) sz c el news := by
  cases p <;> simp only [srcP, reduceCtorEq, Option.some.injEq, Prod.mk.injEq] at hs
  · split at hs
    · rename_i C hC
      rename_i i2 k2 n2 _
      cases hk : Nat.ble (k2 + n2) C.n <;> simp only [hk, cond_true, cond_false, reduceCtorEq, Option.some.injEq, Prod.mk.injEq] at hs
      obtain ⟨e1, rfl, rfl⟩ := hs
      obtain ⟨A, cap, rfl, h2⟩ := pre_slc hv hc
      have := Nat.le_of_ble_eq_true hk
      obtain ⟨news, hn⟩ := src_slc hR hC (by omega) h2
      rw [e1] at hn
      exact ⟨A, cap, news, rfl, hn⟩
    · cases hs
  · obtain ⟨e1, rfl, rfl⟩ := hs
    obtain ⟨A, cap, rfl, h2⟩ := pre_fz hv hc
    obtain ⟨news, hn⟩ := src_fz hR h2
    rw [e1] at hn
    exact ⟨A, cap, news, rfl, hn⟩
/-- copy into a row of one's own. -/
theorem G_copy (hT : TOk P T) {t t2 e : TypeId} {ti te : TI} {x y : Operand} {i k n m : Nat} {B : Blk} {el : Nat → List PV} (c : Nat) (ho : o.op = .call { callee := .builtin .copy, args := #[x, y], argTypes := #[t, t2] }) (ht : T t = some ti) (hs : sliceD ti.d = some e) (he : T e = some te)
    (hx : E x = .slc i k n) (hB : st.get i = some B) (hck : (bif B.ro then false else Nat.beq B.sz te.size) = true) (hkn : k + n ≤ B.n)
    (hy : srcP st (E y) = some (te.size, m, el)) (hcd : c = min m n) (h : Q (.atom (.int .i64 c)) (st.upd i (some { B with el := cpEl k c el B.el }))) : OpGoes P E st o Q := by
  intro K σ w ρ hR hE
  cases hro : B.ro <;> simp only [hro, cond_true, cond_false, reduceCtorEq] at hck
  have hBs := Nat.eq_of_beq_eq_true hck
  have vx := hE x; have vy := hE y
  rw [hx] at vx
  obtain ⟨A2, cap2, news, hu, hsrc⟩ := src_pre (c := c) hR hy vy (by omega)
  have hu' := (hT t ti ht).1
  rw [sliceD_spec hs] at hu'
  obtain ⟨A, cap, hv⟩ : ∃ A cap, ρ x = .slice A n cap := by
    obtain ⟨A, cap, h1, _⟩ := pre_slc vx (Nat.le_refl n)
    exact ⟨A, cap, h1⟩
  have hrun0 : (execOp ρ o).run P w = ((match A with | some a => (storeCells a news).run P w | none => .ok () w).andThen fun _ w' => .ok (Value.int .i64 c) w').andThen fun v w' => .ok (.value v) w' := by
    have hg := hsrc.get P w rfl
    rw [firstCells_cap (m := c) (c' := m) (cap' := cap2)] at hg
    have hmin : Nat.min m n = c := hcd.symm
    cases A with
    | none => simp [execOp, ho, resolve, invoke, builtin, Builtin.copy_, run_underlying hu', run_sizeOf hT he, hv, hu, Builtin.lenOf, hmin, hg, goInt, Result.andThen]
    | some a =>
      simp only [execOp, ho, resolve, invoke, builtin, Builtin.copy_, Sem.run_bind, Sem.run_pure, Result.andThen_ok, List.map_toArray, List.map_cons, List.map_nil, run_underlying hu', run_sizeOf hT he, hv, hu, Builtin.lenOf, hmin, hg, goInt]
      simp [run_underlying hu', run_sizeOf hT he, Builtin.lenOf, hmin, hg, goInt]
  have hnl := hsrc.len
  have same : c = 0 → Rel K σ (st.upd i (some { B with el := cpEl k c el B.el })) w ∧ Ext K σ st w K σ (st.upd i (some { B with el := cpEl k c el B.el })) w := fun h0 => hR.same hB rfl rfl rfl rfl (fun j _ => cpEl_out (by omega))
  by_cases h0 : c = 0
  · have hnil : news = [] := List.eq_nil_of_length_eq_zero (by rw [hnl, h0]; simp)
    subst hnil
    obtain ⟨r1, r2⟩ := same h0
    refine .inl ⟨.int .i64 c, w, .inl ?_, K, σ, _, _, h, r2, r1, .atom _⟩
    rw [hrun0]
    cases A <;> simp [storeCells, Result.andThen]
  · rw [hv] at vx
    cases vx with
    | slc0 => omega
    | slc hi hr hcap hnc hml =>
      rcases hR.own i B hB with ⟨hf, _⟩ | ⟨_, cur, g1, g2, g3, g4, g5⟩
      · rw [hr] at hf; cases hf
      rw [hBs] at g3 g4
      have hmul : (k + n) * te.size ≤ B.n * te.size := Nat.mul_le_mul_right _ hkn
      have hcn : c * te.size ≤ n * te.size := Nat.mul_le_mul_right _ (by omega)
      rw [Nat.add_mul] at hmul
      have hb := g4.1
      have hst := run_storeCells_at P (σ i).blk ((σ i).off + k * te.size) B.e news 0 cur w g1 (by rw [hnl]; omega) hsrc.one
      simp only [Nat.add_zero] at hst
      have hrun : (execOp ρ o).run P w = .ok (.value (.int .i64 c)) (w.setRow (σ i).blk (cur.toList.take ((σ i).off + k * te.size) ++ news ++ cur.toList.drop ((σ i).off + k * te.size + news.length)).toArray) := by
        rw [hrun0]
        simp only [g3, hst, Result.andThen_ok]
      generalize hcur : (cur.toList.take ((σ i).off + k * te.size) ++ news ++ cur.toList.drop ((σ i).off + k * te.size + news.length)).toArray = cur' at hrun
      have hsize : cur'.size = cur.size := by rw [← hcur]; simp only [List.size_toArray, List.length_append, List.length_take, List.length_drop, Array.length_toList]; omega
      have hrd : ∀ j, rd cur' j = if (σ i).off + k * te.size ≤ j ∧ j < (σ i).off + k * te.size + news.length then (news[j - ((σ i).off + k * te.size)]?).getD undef else rd cur j := by
        intro j; rw [← hcur]; exact rd_splice cur _ _ (by rw [hnl]; omega) j
      have holds : Holds K σ st.length te.size B.n (cpEl k c el B.el) cur' (σ i).off := by
        refine ⟨by rw [hsize]; exact hb, fun j hj => ?_, fun q hq => ?_⟩
        · rw [hrd]
          split
          · rename_i hh
            have hlt : j - ((σ i).off + k * te.size) < news.length := by omega
            rw [List.getElem?_eq_getElem hlt]
            exact hsrc.one _ (List.getElem_mem hlt)
          · rw [hsize] at hj; exact g4.2.1 j hj
        · by_cases hin : k ≤ q ∧ q < k + c
          · rw [cpEl_in hin]
            obtain ⟨a1, a2⟩ := hsrc.holds (q - k) (by omega)
            refine ⟨a1, fun j p hp => ?_⟩
            have hj : j < te.size := by rw [← a1]; exact (List.getElem?_eq_some_iff.1 hp).1
            have e1 : q * te.size = k * te.size + (q - k) * te.size := by rw [← Nat.add_mul]; congr 1; omega
            have e2 : (q - k + 1) * te.size ≤ c * te.size := Nat.mul_le_mul_right _ (by omega)
            rw [Nat.succ_mul] at e2
            rw [hrd, if_pos (by omega), show (σ i).off + q * te.size + j - ((σ i).off + k * te.size) = (q - k) * te.size + j by omega]
            have := a2 j p hp
            rwa [rd_list] at this
          · rw [cpEl_out hin]
            obtain ⟨a1, a2⟩ := g4.2.2 q hq
            refine ⟨a1, fun j p hp => ?_⟩
            have hj : j < te.size := by rw [← a1]; exact (List.getElem?_eq_some_iff.1 hp).1
            have e3 : ¬((σ i).off + k * te.size ≤ (σ i).off + q * te.size + j ∧ (σ i).off + q * te.size + j < (σ i).off + k * te.size + news.length) := by
              rw [hnl]
              rcases Nat.lt_or_ge q k with hlt | hge
              · have : (q + 1) * te.size ≤ k * te.size := Nat.mul_le_mul_right _ hlt
                rw [Nat.succ_mul] at this; omega
              · have : (k + c) * te.size ≤ q * te.size := Nat.mul_le_mul_right _ (by omega)
                rw [Nat.add_mul] at this; omega
            rw [hrd, if_neg e3]
            exact a2 j p hp
      obtain ⟨s1, s2⟩ := hR.set (B' := { B with el := cpEl k c el B.el }) hB hro hro hr (w' := w.setRow (σ i).blk cur') rfl rfl rfl (size_setRow _ _ _) (fun k' hk' => setRow_other w (σ i).blk k' _ hk')
        (setRow_heap w (σ i).blk cur _ B.e (0, 0) g1) (by rw [hsize, g2]) (by rw [hBs]; exact g3) (by show Holds K σ st.length B.sz B.n _ cur' _; rw [hBs]; exact holds) (fun hf => hR.fl i B hB hf hr)
      exact .inl ⟨_, _, .inl hrun, K, σ, _, _, h, s2, s1, .atom _⟩
/-- What a row has behind its last known element: as many elements as there is room. -/
def roomEl (sz n : Nat) (a : Nat → List PV) : Nat → List PV := fun j => bif Nat.blt j n then a j else List.replicate sz .any
/-- cap: from here on the row is as long as its room. -/
theorem G_cap (hT : TOk P T) {t e : TypeId} {ti : TI} {x : Operand} {i k n : Nat} {B : Blk} (ho : o.op = .call { callee := .builtin .cap, args := #[x], argTypes := #[t] }) (ht : T t = some ti) (hs : sliceD ti.d = some e)
    (hx : E x = .slc i k n) (hB : st.get i = some B) (hro : B.ro = false) (hkn : k + n = B.n) (hpos : 0 < n) (hsz : Nat.blt 0 B.sz = true)
    (h : ∀ c, n ≤ c → c ≤ maxLen → Q (.atom (.int .i64 c)) (st.upd i (some { B with n := k + c, el := roomEl B.sz B.n B.el, full := true }))) : OpGoes P E st o Q := by
  intro K σ w ρ hR hE
  have vx := hE x
  rw [hx] at vx
  have hu' := (hT t ti ht).1
  rw [sliceD_spec hs] at hu'
  rw [Nat.blt_eq] at hsz
  generalize hv : ρ x = v at vx
  cases vx with
  | slc0 => omega
  | slc hi hr hcap hnc hml =>
    rename_i cap
    rcases hR.own i B hB with ⟨hf, _⟩ | ⟨_, cur, g1, g2, g3, g4, g5⟩
    · rw [hr] at hf; cases hf
    have hrun : (execOp ρ o).run P w = .ok (.value (.int .i64 cap)) w := by
      simp [execOp, ho, resolve, invoke, builtin, Builtin.cap_, run_underlying hu', hv, goInt]
    have hb := g4.1
    rw [g3] at hcap
    have holds : Holds K σ st.length B.sz (k + cap) (roomEl B.sz B.n B.el) cur (σ i).off := by
      refine ⟨by rw [g2]; omega, g4.2.1, fun q hq => ?_⟩
      by_cases hlt : q < B.n
      · have : roomEl B.sz B.n B.el q = B.el q := by unfold roomEl; rw [show Nat.blt q B.n = true by rw [Nat.blt_eq]; exact hlt]; rfl
        rw [this]; exact g4.2.2 q hlt
      · have : roomEl B.sz B.n B.el q = List.replicate B.sz .any := by
          unfold roomEl
          have : Nat.blt q B.n = false := by rw [Bool.eq_false_iff]; intro hh; rw [Nat.blt_eq] at hh; omega
          rw [this]; rfl
        rw [this]
        refine ⟨by simp, fun j p hp => ?_⟩
        have := List.mem_of_getElem? hp
        rw [List.mem_replicate] at this
        rw [this.2]; exact .any _
    obtain ⟨s1, s2⟩ := hR.set (B' := { B with n := k + cap, el := roomEl B.sz B.n B.el, full := true }) hB hro hro hr (w' := w) rfl rfl rfl rfl (fun _ _ => rfl) g1 g2 g3 holds (fun _ => by show (σ i).off + (k + cap) * (σ i).sz = (σ i).tot; rw [g3]; exact hcap)
    exact .inl ⟨_, _, .inl hrun, K, σ, _, _, h cap hnc hml, s2, s1, .atom _⟩
/-- Slicing up to the room. -/
theorem G_sliceRoom (hT : TOk P T) {t e : TypeId} {ti te : TI} {x : Operand} {lo hi : Option Operand} {i0 k0 n : Nat} {B : Blk} {l h : Int} (ho : o.op = .slice t x lo hi none) (ht : T t = some ti) (hs : sliceD ti.d = some e) (he : T e = some te)
    (hx : E x = .slc i0 k0 n) (hB : st.get i0 = some B) (hsz : Nat.beq te.size B.sz = true) (hpos : Nat.blt 0 te.size = true) (hlo : bnd E lo 0 l) (hhi : bnd E hi n h) (hn : 0 < n) (h0 : 0 ≤ l) (h1 : l ≤ h) (h2 : k0 + h ≤ B.n)
    (hq : Q (.slc i0 (k0 + l.toNat) (h.toNat - l.toNat)) st) : OpGoes P E st o Q := by
  refine OpGoes.still (fun K σ w ρ hR hE => ?_) hq
  have vx := hE x
  rw [hx] at vx
  have hse := Nat.eq_of_beq_eq_true hsz
  rw [Nat.blt_eq] at hpos
  obtain ⟨A, c, hr, hc, hm⟩ := vx.slice_len
  have hroom : h ≤ c := by
    rw [hr] at vx
    cases vx with
    | slc0 => omega
    | slc hi' hreal hcap hnc hml =>
      rcases hR.own i0 B hB with ⟨hf, _⟩ | ⟨_, cur, g1, g2, g3, g4, g5⟩
      · rw [hreal] at hf; cases hf
      have hb := g4.1
      rw [g2, ← hcap, g3] at hb
      have : B.n * B.sz ≤ (k0 + c) * B.sz := by omega
      have : B.n ≤ k0 + c := Nat.le_of_mul_le_mul_right this (by omega)
      omega
  have hrun := run_cut (P := P) hT ht hs he w A n c hc (ev_bound hE hlo) (ev_bound hE hhi) h0 h1 hroom
  refine ⟨_, by simp only [execOp, ho, Sem.run_bind, hr, Option.map_none, hrun, Result.andThen_ok, Sem.run_pure]; rfl, ?_⟩
  rw [hr] at vx
  rw [hse]
  exact vx.slc_cut (hR.szOf hB) (by omega) (by omega)
/-- append of a make to a row that has no room for it. -/
theorem G_appZ (hT : TOk P T) {t tn e : TypeId} {ti tni te : TI} {x y : Operand} {kn ky : IntKind} {i k l : Nat} {z : Int} {B : Blk} (ho : o.op = .call { callee := .builtin .append, args := #[x, y], argTypes := #[t, tn] }) (ht : T t = some ti) (hs : sliceD ti.d = some e) (he : T e = some te)
    (htn : T tn = some tni) (hkn : tni.d = .int kn) (hx : E x = .slc i k l) (hB : st.get i = some B) (hck : (bif B.full then bif Nat.beq B.sz te.size then bif Nat.beq te.zero.cells.size te.size then Nat.blt 0 te.size else false else false else false) = true) (hkl : k + l ≤ B.n)
    (hy : E y = .atom (.int ky z)) (hz : 0 < z) (hg : (B.n : Int) < k + l + z) (hb0 : Nat.blt 0 te.bytes = true) (hb : (l + z) * te.bytes ≤ 140737488355328)
    (h : Q (.slc st.length 0 (l + z.toNat)) (st ++ [some ⟨e, te.size, l + z.toNat, appEl l (fun j => B.el (k + j)) (fun _ => zeroEls te.zero), false, false⟩])) : OpGoes P E st o Q := by
  intro K σ w ρ hR hE
  have vx := hE x
  rw [hx] at vx
  have vy := hE y
  rw [hy] at vy
  have hyv := vy.atom_inv
  rw [Nat.blt_eq] at hb0
  cases h1 : B.full <;> simp only [h1, cond_true, cond_false, reduceCtorEq] at hck
  cases h3 : Nat.beq B.sz te.size <;> simp only [h3, cond_true, cond_false, reduceCtorEq] at hck
  cases h4 : Nat.beq te.zero.cells.size te.size <;> simp only [h4, cond_true, cond_false, reduceCtorEq] at hck
  rw [Nat.blt_eq] at hck
  have h3 := Nat.eq_of_beq_eq_true h3
  have h4 := Nat.eq_of_beq_eq_true h4
  obtain ⟨olds, hold⟩ := src_slc hR hB hkl vx
  rw [h3] at hold
  obtain ⟨A, cap, hA, hlc, hml⟩ := vx.slice_len
  obtain ⟨k', rfl⟩ : ∃ k' : Nat, z = k' := ⟨z.toNat, by omega⟩
  rw [Int.toNat_natCast] at h
  rw [hA] at vx hold
  have hcap : cap < l + k' := by
    cases vx with
    | slc0 => omega
    | slc hi hreal hcap hnc _ =>
      have hf := hR.fl i B hB h1 hreal
      have hs2 := hR.szOf hB hreal
      rw [hs2, h3] at hf hcap
      have : (k + cap) * te.size = B.n * te.size := by omega
      have : k + cap = B.n := Nat.eq_of_mul_eq_mul_right (by omega) this
      omega
  have hu := (hT t ti ht).1
  rw [sliceD_spec hs] at hu
  have hun := (hT tn tni htn).1
  rw [hkn] at hun
  obtain ⟨_, inf, hi, hsi, hby, hzz, hzo⟩ := hT e te he
  have hbn : (l + k') * te.bytes ≤ 140737488355328 := by
    have e : (((l + k' : Nat) * te.bytes : Nat) : Int) = ((l : Int) + k') * te.bytes := by rw [Int.natCast_mul, Int.natCast_add]
    omega
  have hle : l + k' ≤ (l + k') * te.bytes := Nat.le_mul_of_pos_right _ hb0
  have hle2 : k' * te.bytes ≤ (l + k') * te.bytes := Nat.mul_le_mul_right _ (by omega)
  have hfirst := hold.get P w.drew rfl
  have hrun := Lib.run_append_grow_zeros (P := P) w t tn o.type e inf te.zero ky kn hu hun hi hzz A l cap olds (by rw [hsi]; exact hfirst) k' (by omega) (by omega) hcap (by omega) (by rw [hby]; omega) (by rw [hby]; exact growslice_fits hcap hbn)
  have hzn : SrtN K σ st.length te.size k' (fun _ => zeroEls te.zero) (Builtin.zeroCells te.zero.cells k').toList := by
    have hg0 : ∀ j, j < k' * te.size → rd (Builtin.zeroCells te.zero.cells k') j = rd te.zero.cells (j % te.size) := fun j hj => by
      have hm : j % te.size < te.zero.cells.size := by rw [h4]; exact Nat.mod_lt _ hck
      rw [← getBang _ _ hm]
      simp [Builtin.zeroCells, rd, h4, hj]
    refine ⟨by simp [Builtin.zeroCells, h4], fun v hv => ?_, fun q hq => ⟨by simp [zeroEls, h4], fun j p hp => ?_⟩⟩
    · have := mem_zeroCells (by simpa using hv)
      simp only [Array.all_eq_true_iff_forall_mem] at hzo
      exact hzo _ this
    · have hj : j < te.size := by
        have := (List.getElem?_eq_some_iff.1 hp).1
        simpa [zeroEls, h4] using this
      have e2 : (q + 1) * te.size ≤ k' * te.size := Nat.mul_le_mul_right _ hq
      rw [Nat.succ_mul] at e2
      rw [Array.toArray_toList, hg0 _ (by omega), Nat.mul_comm q, Nat.mul_add_mod, Nat.mod_eq_of_lt hj]
      simp [zeroEls] at hp
      obtain ⟨a, ha, rfl⟩ := hp
      simp [rd, ha]; exact .atom _
  obtain ⟨v, w', hr, hout⟩ := OpGoes.grownR (P := P) (t := t) (t2 := t) (di := none) (Q := Q) hT ht hs he h4 hR hold hzn (r := (Builtin.append_ #[t, tn] o.type #[.slice A l cap, .int ky k']).run P w) (by rw [hrun, Array.toArray_toList]) hcap hb0 hbn h
  exact .inl ⟨v, w', .inl (by simp [execOp, ho, resolve, invoke, builtin, hA, hyv, hr]), hout⟩
end
end Go.Sy
end
section
/- slices.overlaps of two rows of one's own. -/
set_option linter.unusedVariables false
set_option linter.unusedSimpArgs false
set_option linter.unusedSectionVars false
namespace Go.Sy
open Go Go.RowKit
section
variable [Globs]
variable {P : Program} {T : TT} {E : Operand → PV} {st : St} {o : Oper} {Q : PV → St → Prop}

theorem G_ovl (hT : TOk P T) {c x y : Operand} {ats : Array TypeId} {g : FuncId} {fn : Func} {t tr e : TypeId} {ti te : TI} {i k n j l m : Nat} {B C : Blk} (hf : P.funcs[g]? = some fn) (hname : (fn.name == "runtime.NumGoroutine") = false) (hb : fn.body.isNone = true) (hn : Extern.findNext fn = none) (he : Extern.find fn = some (Extern.SlicesOverlaps.overlaps #[t, t] #[tr]))
    (ho : o.op = .call { callee := .value c, args := #[x, y], argTypes := ats }) (hc : funcOf (E c) = some (g, [])) (ht : T t = some ti) (hs : sliceD ti.d = some e) (hte : T e = some te) (hx : E x = .slc i k n) (hy : E y = .slc j l m) (hij : Nat.beq i j = false) (hn0 : 0 < n) (hm0 : 0 < m)
    (hB : st.get i = some B) (hC : st.get j = some C) (hsz : Nat.blt 0 C.sz = true) (h : Q (.atom (.bool false)) st) : OpGoes P E st o Q := by
  refine OpGoes.still (fun K σ w ρ hR hE => ?_) h
  have vx := hE x; have vy := hE y
  rw [hx] at vx; rw [hy] at vy
  have vc := hE c
  rw [funcOf_spec hc] at vc
  have hu := (hT t ti ht).1
  rw [sliceD_spec hs] at hu
  rw [Nat.blt_eq] at hsz
  have hne : i ≠ j := fun e => by subst e; simp at hij
  have key : ∀ u v, VR K σ st.length (.slc i k n) u → VR K σ st.length (.slc j l m) v → (Extern.SlicesOverlaps.overlaps #[t, t] #[tr] #[u, v]).run P w = .ok (.bool false) w := by
    intro u v hu' hv'
    cases hu' with
    | slc0 A => omega
    | slc hi hr hcap hnc hml =>
      cases hv' with
      | slc0 A => omega
      | slc hj hr2 hcap2 hnc2 hml2 =>
        rename_i c1 c2
        rcases hR.own i B hB with ⟨hf, _⟩ | ⟨_, cur, g1, g2, g3, g4, g5⟩
        · rw [hr] at hf; cases hf
        rcases hR.own j C hC with ⟨hf, _⟩ | ⟨_, cur2, f1, f2, f3, f4, f5⟩
        · rw [hr2] at hf; cases hf
        have hpos : cur2.size ≠ 0 := by
          rw [f2, ← hcap2, f3]
          have : 1 * C.sz ≤ (l + c2) * C.sz := Nat.mul_le_mul_right _ (by omega)
          omega
        exact Lib.run_overlaps_apart w t tr e hu te.size (fun w' => run_sizeOf hT hte w') _ _ n c1 m c2 (fun e => hne (hR.sep i j B C hB hC hr hr2 e)) B.e C.e cur.size cur2.size (by simp [World.shape?, g1]) (by simp [World.shape?, f1]) hpos (by simp [World.frozen?, g1]) (by simp [World.frozen?, g1])
  generalize hg : ρ c = u at vc
  cases vc with
  | func hl h =>
    rename_i vs
    have hvs : vs = #[] := by apply Array.eq_empty_of_size_eq_zero; simpa using hl
    subst hvs
    refine ⟨.bool false, ?_, .atom _⟩
    simp [execOp, ho, resolve, hg, Deferred.ofValue, invoke, run_callFunc_extern hf hname hb hn he, key _ _ vx vy]
end
end Go.Sy
end
