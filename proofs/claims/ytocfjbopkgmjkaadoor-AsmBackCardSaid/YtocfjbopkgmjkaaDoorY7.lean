/- 'append'. -/
import Derived.Test.YtocfjbopkgmjkaaDoorY6
set_option linter.unusedVariables false
set_option linter.unusedSimpArgs false
set_option linter.unusedSectionVars false
namespace Go.Sy
open Go Go.RowKit
variable [Globs]

theorem VR.slc' {K : KH} {σ : Nat → Loc} {N i k n cap b o : Nat} (hi : i < N) (hr : (σ i).real = true) (ht : (σ i).off + (k + cap) * (σ i).sz = (σ i).tot) (hn : n ≤ cap) (hm : cap ≤ maxLen) (hb : (σ i).blk = b) (ho : (σ i).off + k * (σ i).sz = o) :
    VR K σ N (.slc i k n) (.slice (some ⟨b, o, none⟩) n cap) := by subst hb; subst ho; exact .slc hi hr ht hn hm
theorem cell?_heap {w w' : World} (h : w'.heap = w.heap) (a : Addr) : w'.cell? a = w.cell? a := by simp [World.cell?, h]

section
variable {P : Program} {T : TT} {E : Operand → PV} {st : St} {o : Oper} {Q : PV → St → Prop}

/-- Another id for (a part of) a block. -/
theorem Rel.rename {K : KH} {σ : Nat → Loc} {w : World} (hR : Rel K σ st w) {i : Nat} {B B' : Blk} (hB : st.get i = some B) (hro : B.ro = false) (hro' : B'.ro = false) (hr : (σ i).real = true) {k0 : Nat} (he : B'.e = B.e) (hsz : B'.sz = B.sz) (hn : k0 + B'.n ≤ B.n) (hel : ∀ k, k < B'.n → B'.el k = B.el (k0 + k)) :
    Rel K (sx σ st.length ⟨(σ i).blk, (σ i).off + k0 * (σ i).sz, (σ i).tot, (σ i).sz, true, Loc.al_add (σ i) k0⟩) (st.upd i none ++ [some B']) w ∧
    Ext K σ st w K (sx σ st.length ⟨(σ i).blk, (σ i).off + k0 * (σ i).sz, (σ i).tot, (σ i).sz, true, Loc.al_add (σ i) k0⟩) (st.upd i none ++ [some B']) w := by
  generalize hL : (⟨(σ i).blk, (σ i).off + k0 * (σ i).sz, (σ i).tot, (σ i).sz, true, Loc.al_add (σ i) k0⟩ : Loc) = L
  have hsig : ∀ j, j < st.length → sx σ st.length L j = σ j := fun j hj => sx_old hj
  have hlen : (st.upd i none ++ [some B']).length = st.length + 1 := by simp [St.length_upd]
  have cases' : ∀ {j C}, St.get (st.upd i none ++ [some B']) j = some C → (j ≠ i ∧ j < st.length ∧ st.get j = some C) ∨ (j = st.length ∧ C = B') := by
    intro j C hC
    rcases St.get_push_cases hC with hC | ⟨hj, hBC⟩
    · rcases St.get_upd_cases hC with ⟨_, hc⟩ | ⟨hji, hC⟩
      · cases hc
      · exact .inl ⟨hji, St.get_lt hC, hC⟩
    · rw [St.length_upd] at hj
      exact .inr ⟨hj, by cases hBC; rfl⟩
  rcases hR.own i B hB with ⟨hf, _⟩ | ⟨_, cur, g1, g2, g3, g4, g5⟩
  · rw [hr] at hf; cases hf
  refine ⟨⟨hR.kin, fun j C hC => ?_, fun j l C D hC hD h1 h2 hbe => ?_, hR.gl⟩, ⟨fun _ _ h => h, hsig, by rw [hlen]; omega, rfl, rfl, rfl, Nat.le_refl _, fun j C hC hr' hl => ?_, fun k hk _ => rfl, fun b cur h => .inl h⟩⟩
  · rw [hlen]
    rcases cases' hC with ⟨hji, hlt, hC⟩ | ⟨rfl, rfl⟩
    · rw [hsig j hlt]
      rcases hR.own j C hC with h | ⟨hr', c, f1, f2, f3, f4, f5⟩
      · exact .inl h
      · exact .inr ⟨hr', c, f1, f2, f3, f4.mono (fun _ _ h => h) hsig (by omega), f5⟩
    · rw [sx_new, ← hL]
      refine .inr ⟨rfl, cur, by rw [he]; exact g1, g2, by rw [hsz]; exact g3, ?_, by rw [hro']; rw [hro] at g5; exact g5⟩
      have hmul : (k0 + C.n) * B.sz ≤ B.n * B.sz := Nat.mul_le_mul_right _ hn
      rw [Nat.add_mul] at hmul
      have hb := g4.1
      rw [hL]
      refine ⟨by rw [hsz, ← hL]; show (σ i).off + k0 * (σ i).sz + _ ≤ _; rw [g3]; omega, fun k j hk hj => ?_, fun k hk => ?_⟩
      · rw [hsz] at hj ⊢
        have := g4.2.1 (k0 + k) j (by omega) hj
        rw [← hL]
        show (rd cur ((σ i).off + k0 * (σ i).sz + k * B.sz + j)).oneCell' = true
        rw [g3]
        rwa [Nat.add_mul, ← Nat.add_assoc] at this
      · obtain ⟨a1, a2⟩ := g4.2.2 (k0 + k) (by omega)
        rw [hel k hk, hsz]
        refine ⟨a1, fun j p hp => ?_⟩
        have := a2 j p hp
        have e1 : (σ i).off + (k0 + k) * B.sz + j = L.off + k * B.sz + j := by
          rw [← hL, Nat.add_mul]
          show _ = (σ i).off + k0 * (σ i).sz + k * B.sz + j
          rw [g3]; omega
        rw [e1] at this
        exact this.mono (fun _ _ h => h) hsig (by omega)
  · rcases cases' hC with ⟨hji, hlt, hC⟩ | ⟨rfl, rfl⟩ <;> rcases cases' hD with ⟨hli, hlt', hD⟩ | ⟨rfl, rfl⟩
    · rw [hsig j hlt] at h1 hbe
      rw [hsig l hlt'] at h2 hbe
      exact hR.sep j l C D hC hD h1 h2 hbe
    · rw [hsig j hlt, sx_new, ← hL] at hbe
      rw [hsig j hlt] at h1
      exact absurd (hR.sep j i _ B (by assumption) hB h1 hr hbe) hji
    · rw [hsig l hlt', sx_new, ← hL] at hbe
      rw [hsig l hlt'] at h2
      exact absurd (hR.sep i l B _ hB (by assumption) hr h2 hbe) (Ne.symm hli)
    · rfl
  · rcases cases' hC with ⟨hji, hlt, hC⟩ | ⟨rfl, rfl⟩
    · rw [hsig j hlt] at hl ⊢
      exact .inl ⟨j, C, hC, hr', hl, rfl⟩
    · rw [sx_new, ← hL]
      exact .inl ⟨i, B, hB, hro, hr, rfl⟩

/-- What a slice's elements are, for a reader. -/
structure Src (K : KH) (σ : Nat → Loc) (N : Nat) (w : World) (u : Value) (sz m : Nat) (el : Nat → List PV) (news : List Value) : Prop where
  form : ∃ B c, u = .slice B m c
  len : news.length = m * sz
  one : ∀ v ∈ news, v.oneCell' = true
  get : ∀ (P : Program) w', w'.heap = w.heap → (Builtin.firstCells sz m u).run P w' = .ok news.toArray w'
  holds : ∀ k, k < m → (el k).length = sz ∧ ∀ j p, (el k)[j]? = some p → VR K σ N p (rd news.toArray (k * sz + j))

theorem Src.empty (K : KH) (σ : Nat → Loc) (N : Nat) (w : World) (B : Option Addr) (c sz : Nat) (el : Nat → List PV) : Src K σ N w (.slice B 0 c) sz 0 el [] := by
  refine ⟨⟨B, c, rfl⟩, by simp, by simp, fun P w' _ => ?_, fun k hk => by omega⟩
  cases B with
  | none => simp [Builtin.firstCells]
  | some b => simp [Builtin.firstCells, loadCells, loadCellsFrom]

theorem Src.of_cells {K : KH} {σ : Nat → Loc} {N : Nat} {w : World} {b o m c sz : Nat} {e : TypeId} {fr : Nat × Nat} {cur : Array Value} {el : Nat → List PV} (hb : w.heap[b]? = some (.cells cur e fr)) (hs : o + m * sz ≤ cur.size)
    (h1 : ∀ k j, k < m → j < sz → (rd cur (o + k * sz + j)).oneCell' = true) (h : ∀ k, k < m → (el k).length = sz ∧ ∀ j p, (el k)[j]? = some p → VR K σ N p (rd cur (o + k * sz + j))) :
    Src K σ N w (.slice (some ⟨b, o, none⟩) m c) sz m el ((List.range (m * sz)).map fun t => rd cur (o + t)) := by
  refine ⟨⟨_, _, rfl⟩, by simp, fun v hv => ?_, fun P w' hw => ?_, fun k hk => ⟨(h k hk).1, fun j p hp => ?_⟩⟩
  · simp at hv
    obtain ⟨t, ht, rfl⟩ := hv
    have hz : 0 < sz := by rcases Nat.eq_zero_or_pos sz with h | h; (· subst h; simp at ht); exact h
    have := h1 (t / sz) (t % sz) (by rw [Nat.div_lt_iff_lt_mul hz]; exact ht) (Nat.mod_lt _ hz)
    rwa [Nat.add_assoc, Nat.mul_comm, Nat.div_add_mod] at this
  · refine run_firstCells_some (P := P) w' sz m ⟨b, o, none⟩ m c _ (by simp) (fun j v hv => ?_)
    rw [add_spot, cell?_heap hw, cell_of_row w b (o + j) cur e fr hb]
    have hj : j < m * sz := by
      have := (List.getElem?_eq_some_iff.1 hv).1
      simpa using this
    simp [hj] at hv
    subst hv
    simp [rd, show o + j < cur.size by omega]
  · have hj : j < sz := by rw [← (h k hk).1]; exact (List.getElem?_eq_some_iff.1 hp).1
    have : (k + 1) * sz ≤ m * sz := Nat.mul_le_mul_right _ hk
    rw [Nat.succ_mul] at this
    rw [rd_range _ _ _ (by omega), ← Nat.add_assoc]
    exact (h k hk).2 j p hp

/-- The elements of a slice, as the state shows them. -/
def srcP (st : St) : PV → Option (Nat × Nat × (Nat → List PV))
  | .fz sz n el => some (sz, n, el)
  | .slc i k n => match st.get i with
    | some B => bif Nat.ble (k + n) B.n then some (B.sz, n, fun j => B.el (k + j)) else none
    | none => none
  | _ => none

theorem src_fz {K : KH} {σ : Nat → Loc} {w : World} {sz n : Nat} {el : Nat → List PV} {u : Value} (hR : Rel K σ st w) (hv : VR K σ st.length (.fz sz n el) u) : ∃ news, Src K σ st.length w u sz n el news := by
  cases hv with
  | fz hb hn hc hm hs hl h1 h =>
    obtain ⟨e, he⟩ := hR.kin _ _ hb
    exact ⟨_, Src.of_cells he hs h1 (fun k hk => ⟨hl k hk, fun j p hp => (h k hk j p hp).zero _ _⟩)⟩
  | fz0 A cap hm => exact ⟨[], Src.empty ..⟩
theorem src_slc {K : KH} {σ : Nat → Loc} {w : World} {i k n : Nat} {B : Blk} {u : Value} (hR : Rel K σ st w) (hB : st.get i = some B) (hn : k + n ≤ B.n) (hv : VR K σ st.length (.slc i k n) u) : ∃ news, Src K σ st.length w u B.sz n (fun j => B.el (k + j)) news := by
  cases hv with
  | slc hi hr ht hc hm =>
    rcases hR.own i B hB with ⟨hf, _⟩ | ⟨_, cur, g1, g2, g3, g4, g5⟩
    · rw [hr] at hf; cases hf
    · have hmul : (k + n) * B.sz ≤ B.n * B.sz := Nat.mul_le_mul_right _ hn
      rw [Nat.add_mul] at hmul
      have hb := g4.1
      rw [g3]
      refine ⟨_, Src.of_cells g1 (by omega) (fun j l hj hl => ?_) (fun j hj => ⟨(g4.2.2 (k + j) (by omega)).1, fun l p hp => ?_⟩)⟩
      · have := g4.2.1 (k + j) l (by omega) hl
        rwa [Nat.add_mul, ← Nat.add_assoc] at this
      · have := (g4.2.2 (k + j) (by omega)).2 l p hp
        rwa [Nat.add_mul, ← Nat.add_assoc] at this
  | slc0 A => exact ⟨[], Src.empty ..⟩

/-- What is appended: the elements of a slice, or the bytes of a string. -/
structure Srt (P : Program) (t2 : TypeId) (K : KH) (σ : Nat → Loc) (N : Nat) (w : World) (u : Value) (sz m : Nat) (el : Nat → List PV) (news : List Value) : Prop where
  len2 : ∀ w', (Builtin.lenOf u).run P w' = .ok m w'
  nint : P.underlying t2 = some .string ∨ ∃ e, P.underlying t2 = some (.slice e)
  len : news.length = m * sz
  one : ∀ v ∈ news, v.oneCell' = true
  get : ∀ w', w'.heap = w.heap → (Builtin.firstCells sz m u).run P w' = .ok news.toArray w'
  holds : ∀ k, k < m → (el k).length = sz ∧ ∀ j p, (el k)[j]? = some p → VR K σ N p (rd news.toArray (k * sz + j))
theorem Src.srt {P : Program} {t e : TypeId} {K : KH} {σ : Nat → Loc} {N : Nat} {w : World} {u : Value} {sz m : Nat} {el : Nat → List PV} {news : List Value} (h : Src K σ N w u sz m el news) (hu : P.underlying t = some (.slice e)) : Srt P t K σ N w u sz m el news := by
  obtain ⟨B, c, rfl⟩ := h.form
  exact ⟨fun w' => by simp [Builtin.lenOf], .inr ⟨_, hu⟩, h.len, h.one, fun w' hw => h.get P w' hw, h.holds⟩

theorem run_append_fit (hT : TOk P T) {t e ty : TypeId} {ti te : TI} (ht : T t = some ti) (hs : sliceD ti.d = some e) (he : T e = some te) {w : World} {A : Option Addr} {n cap m : Nat} {u : Value} {K : KH} {σ : Nat → Loc} {N : Nat} {el : Nat → List PV} {news : List Value} {t2 : TypeId} (hsrc : Srt P t2 K σ N w u te.size m el news) (hfit : n + m ≤ cap) :
    (Builtin.append_ #[t, t2] ty #[.slice A n cap, u]).run P w = (match A with | some a => (storeCells (a.add (n * te.size)) news).run P w | none => .ok () w).andThen fun _ w' => .ok (.slice A (n + m) cap) w' := by
  have hu := (hT t ti ht).1
  rw [sliceD_spec hs] at hu
  have hg := hsrc.get w rfl
  have hl := hsrc.len2
  rcases hsrc.nint with hd | ⟨_, hd⟩ <;> (cases A <;> simp [Builtin.append_, run_underlying hu, run_underlying hd, run_sizeOf hT he, hl, hfit, hg])

theorem run_append_more (hT : TOk P T) {t e ty : TypeId} {ti te : TI} (ht : T t = some ti) (hs : sliceD ti.d = some e) (he : T e = some te) {w : World} {A : Option Addr} {n cap m : Nat} {u : Value} {K : KH} {σ : Nat → Loc} {N : Nat} {el el0 : Nat → List PV} {olds news : List Value}
    (hold : Src K σ N w (.slice A n cap) te.size n el0 olds) {t2 : TypeId} (hsrc : Srt P t2 K σ N w u te.size m el news) (hg : cap < n + m) (hb0 : 0 < te.bytes) (hb : (n + m) * te.bytes ≤ 140737488355328) :
    (Builtin.append_ #[t, t2] ty #[.slice A n cap, u]).run P w = .ok (.slice (some ⟨w.heap.size, 0, none⟩) (n + m) (grownCap w (n + m) cap e)) (w.drew.alloc (.cells (olds.toArray ++ news.toArray ++ Builtin.zeroCells te.zero.cells (grownCap w (n + m) cap e - (n + m))) e)) := by
  have hu := (hT t ti ht).1
  rw [sliceD_spec hs] at hu
  obtain ⟨_, inf, hi, hsi, hby, hz⟩ := hT e te he
  have hl := hsrc.len2
  have h1 := hold.get P w.drew rfl
  have h2 := hsrc.get w.drew rfl
  have hn : ¬ (n + m ≤ cap) := by omega
  have hle : n + m ≤ (n + m) * te.bytes := Nat.le_mul_of_pos_right _ hb0
  have h63 : ¬ (9223372036854775807 < ((n : Int) + (m : Int))) := by omega
  have h48 : ¬ (281474976710656 < Builtin.nextslicecap (n + m) cap * te.bytes) := by have := growslice_fits hg hb; omega
  rcases hsrc.nint with hd | ⟨_, hd⟩ <;> (simp [Builtin.append_, run_underlying hu, run_underlying hd, sizeOf, typeInfo, zeroValue, hi, hz, hsi, hby, hl, hn, h63, h48, Question.forced, h1, h2, newRow, grownCap]; congr 2; apply Array.ext'; simp [List.append_assoc])

def dropO (st : St) : Option Nat → St
  | some i => st.upd i none
  | none => st
/-- What stands in the new row. -/
def appEl (n : Nat) (a b : Nat → List PV) : Nat → List PV := fun j => bif Nat.blt j n then a j else b (j - n)

theorem OpGoes.grown (hT : TOk P T) {t e : TypeId} {ti te : TI} (ht : T t = some ti) (hs : sliceD ti.d = some e) (he : T e = some te) (hzs : te.zero.cells.size = te.size) {K : KH} {σ : Nat → Loc} {w : World} (hR : Rel K σ st w) {A : Option Addr} {n cap m : Nat} {u : Value} {el el0 : Nat → List PV} {olds news : List Value}
    (hold : Src K σ st.length w (.slice A n cap) te.size n el0 olds) {t2 : TypeId} (hsrc : Srt P t2 K σ st.length w u te.size m el news) (hg : cap < n + m) (hb0 : 0 < te.bytes) (hb : (n + m) * te.bytes ≤ 140737488355328) {di : Option Nat} {Q : PV → St → Prop}
    (hq : Q (.slc st.length 0 (n + m)) ((dropO st di) ++ [some ⟨e, te.size, n + m, appEl n el0 el, false⟩])) {ty : TypeId} :
    ∃ v w', (Builtin.append_ #[t, t2] ty #[.slice A n cap, u]).run P w = .ok v w' ∧ Out Q K σ st w v w' := by
  have hrun := run_append_more (P := P) (ty := ty) hT ht hs he hold hsrc hg hb0 hb
  have hle : n + m ≤ (n + m) * te.bytes := Nat.le_mul_of_pos_right _ hb0
  have hge := grownCap_ge w (n + m) cap e
  have hml : grownCap w (n + m) cap e ≤ maxLen := grownCap_le_maxLen w (n + m) cap e (by simp only [maxLen]; omega)
  obtain ⟨r0, x0⟩ : ∃ st0, (dropO st di) = st0 ∧ st0.length = st.length ∧ Rel K σ st0 w ∧ Ext K σ st w K σ st0 w := by
    cases di with
    | none => exact ⟨st, rfl, rfl, hR, Ext.refl _ _ _ _⟩
    | some i => exact ⟨_, rfl, St.length_upd _ _ _, (hR.drop i).1, (hR.drop i).2⟩
  obtain ⟨hst, hlen, hR0, hX0⟩ := x0
  rw [hst] at hq
  generalize hcells : olds.toArray ++ news.toArray ++ Builtin.zeroCells te.zero.cells (grownCap w (n + m) cap e - (n + m)) = cells at hrun
  have hl1 := hold.len
  have hl2 := hsrc.len
  have hcs : cells.size = grownCap w (n + m) cap e * te.size := by
    rw [← hcells]
    simp only [Array.size_append, List.size_toArray, size_zeroCells, hzs, hl1, hl2, ← Nat.add_mul]
    congr 1; omega
  have hrd1 : ∀ j, j < n * te.size → rd cells j = rd olds.toArray j := by
    intro j hj
    rw [← hcells]
    simp only [rd, Array.getD_eq_getD_getElem?]
    rw [Array.append_assoc, Array.getElem?_append_left (by simp [hl1, hj])]
  have hrd2 : ∀ j, j < m * te.size → rd cells (n * te.size + j) = rd news.toArray j := by
    intro j hj
    rw [← hcells]
    simp only [rd, Array.getD_eq_getD_getElem?]
    rw [Array.append_assoc, Array.getElem?_append_right (by simp [hl1]), Array.getElem?_append_left (by simp [hl1, hl2, hj])]
    simp [hl1]
  have hbelow : Below w.heap.size w (w.drew.alloc (.cells cells e)) := ((Below.refl w.heap.size w).drew).alloc (Nat.le_refl _) _
  have hholds : Holds K σ r0.length te.size (n + m) (appEl n el0 el) cells 0 := by
    have hmul : (n + m) * te.size ≤ grownCap w (n + m) cap e * te.size := Nat.mul_le_mul_right _ hge
    rw [hlen]
    have split : ∀ k, k < n + m → (k < n ∧ appEl n el0 el k = el0 k) ∨ (n ≤ k ∧ appEl n el0 el k = el (k - n)) := by
      intro k hk
      rcases Nat.lt_or_ge k n with h | h
      · exact .inl ⟨h, by rw [appEl, show Nat.blt k n = true by rw [Nat.blt_eq]; exact h]; rfl⟩
      · have : Nat.blt k n = false := by rw [Bool.eq_false_iff]; intro hh; rw [Nat.blt_eq] at hh; omega
        exact .inr ⟨h, by simp [appEl, this]⟩
    have old : ∀ k j, k < n → j < te.size → k * te.size + j < n * te.size := by
      intro k j hk hj
      have : (k + 1) * te.size ≤ n * te.size := Nat.mul_le_mul_right _ hk
      rw [Nat.succ_mul] at this; omega
    have new : ∀ k j, n ≤ k → k < n + m → j < te.size → (k - n) * te.size + j < m * te.size ∧ 0 + k * te.size + j = n * te.size + ((k - n) * te.size + j) := by
      intro k j hk hk' hj
      have : (k - n + 1) * te.size ≤ m * te.size := Nat.mul_le_mul_right _ (by omega)
      rw [Nat.succ_mul] at this
      refine ⟨by omega, ?_⟩
      have : k * te.size = n * te.size + (k - n) * te.size := by rw [← Nat.add_mul]; congr 1; omega
      omega
    refine ⟨by rw [hcs]; omega, fun k j hk hj => ?_, fun k hk => ?_⟩
    · rcases Nat.lt_or_ge k n with h | h
      · rw [show 0 + k * te.size + j = k * te.size + j by omega, hrd1 _ (old k j h hj)]
        have hlt : k * te.size + j < olds.length := by rw [hl1]; exact old k j h hj
        rw [rd_list, List.getElem?_eq_getElem hlt]
        exact hold.one _ (List.getElem_mem hlt)
      · obtain ⟨a1, a2⟩ := new k j h hk hj
        rw [a2, hrd2 _ a1]
        have hlt : (k - n) * te.size + j < news.length := by rw [hl2]; exact a1
        rw [rd_list, List.getElem?_eq_getElem hlt]
        exact hsrc.one _ (List.getElem_mem hlt)
    · rcases split k hk with ⟨h, hel⟩ | ⟨h, hel⟩
      · obtain ⟨a1, a2⟩ := hold.holds k h
        rw [hel]
        refine ⟨a1, fun j p hp => ?_⟩
        have hj : j < te.size := by rw [← a1]; exact (List.getElem?_eq_some_iff.1 hp).1
        rw [show 0 + k * te.size + j = k * te.size + j by omega, hrd1 _ (old k j h hj)]
        exact a2 j p hp
      · obtain ⟨a1, a2⟩ := hsrc.holds (k - n) (by omega)
        rw [hel]
        refine ⟨a1, fun j p hp => ?_⟩
        have hj : j < te.size := by rw [← a1]; exact (List.getElem?_eq_some_iff.1 hp).1
        obtain ⟨b1, b2⟩ := new k j h hk hj
        rw [b2, hrd2 _ b1]
        exact a2 j p hp
  obtain ⟨h1, h2⟩ := hR0.push hbelow (L := ⟨w.heap.size, 0, cells.size, te.size, true, Nat.zero_mod _⟩) (B := ⟨e, te.size, n + m, appEl n el0 el, false⟩) rfl (fun _ => ⟨Nat.le_refl _, cells, heap_alloc_new w.drew _, rfl, rfl, hholds⟩) (fun h => by cases h)
  refine ⟨_, _, hrun, K, _, _, _, hq, hX0.trans h2, h1, ?_⟩
  have hs' : sx σ r0.length ⟨w.heap.size, 0, cells.size, te.size, true, Nat.zero_mod _⟩ st.length = ⟨w.heap.size, 0, cells.size, te.size, true, Nat.zero_mod _⟩ := by rw [← hlen]; exact sx_new _ _ _
  have := VR.slc (K := K) (σ := sx σ r0.length ⟨w.heap.size, 0, cells.size, te.size, true, Nat.zero_mod _⟩) (N := (r0 ++ [some (⟨e, te.size, n + m, appEl n el0 el, false⟩ : Blk)]).length) (i := st.length) (k := 0) (n := n + m) (cap := grownCap w (n + m) cap e) (by simp [hlen]) (by rw [hs']) (by rw [hs']; simp [hcs]) hge hml
  simpa [hs'] using this

/-- Nothing is put behind nothing. -/
theorem Out.phantom {K : KH} {σ : Nat → Loc} {w : World} (hR : Rel K σ st w) {A : Option Addr} {B : Blk} (hro : B.ro = false) (hn : B.n = 0) {di : Option Nat} {Q : PV → St → Prop} (hq : Q (.slc st.length 0 0) ((dropO st di) ++ [some B])) :
    Out Q K σ st w (.slice A 0 0) w := by
  obtain ⟨r0, x0⟩ : ∃ st0, (dropO st di) = st0 ∧ st0.length = st.length ∧ Rel K σ st0 w ∧ Ext K σ st w K σ st0 w := by
    cases di with
    | none => exact ⟨st, rfl, rfl, hR, Ext.refl _ _ _ _⟩
    | some i => exact ⟨_, rfl, St.length_upd _ _ _, (hR.drop i).1, (hR.drop i).2⟩
  obtain ⟨hst, hlen, hR0, hX0⟩ := x0
  rw [hst] at hq
  obtain ⟨h1, h2⟩ := hR0.push (Below.refl _ _) (L := ⟨0, 0, 0, 0, false, rfl⟩) (B := B) hro (fun h => by cases h) (fun _ => hn)
  exact ⟨K, _, _, _, hq, hX0.trans h2, h1, .slc0 A⟩

theorem appEl_left {n j : Nat} {a b : Nat → List PV} (h : j < n) : appEl n a b j = a j := by rw [appEl, show Nat.blt j n = true by rw [Nat.blt_eq]; exact h]; rfl
theorem appEl_right {n j : Nat} {a b : Nat → List PV} (h : n ≤ j) : appEl n a b j = b (j - n) := by
  have : Nat.blt j n = false := by rw [Bool.eq_false_iff]; intro hh; rw [Nat.blt_eq] at hh; omega
  simp [appEl, this]

theorem append_nil (hT : TOk P T) {t e ty : TypeId} {ti te : TI} (ht : T t = some ti) (hs : sliceD ti.d = some e) (he : T e = some te) (hzs : te.zero.cells.size = te.size) {K : KH} {σ : Nat → Loc} {w : World} (hR : Rel K σ st w) {A : Option Addr} {m : Nat} {u : Value} {el el0 : Nat → List PV} {news : List Value}
    {t2 : TypeId} (hsrc : Srt P t2 K σ st.length w u te.size m el news) (hb0 : 0 < te.bytes) (hb : m * te.bytes ≤ 140737488355328) {di : Option Nat} {Q : PV → St → Prop}
    (hq : Q (.slc st.length 0 m) ((dropO st di) ++ [some ⟨e, te.size, m, appEl 0 el0 el, false⟩])) :
    ∃ v w', (Builtin.append_ #[t, t2] ty #[.slice A 0 0, u]).run P w = .ok v w' ∧ Out Q K σ st w v w' := by
  rcases Nat.eq_zero_or_pos m with rfl | hm
  · have hrun := run_append_fit (P := P) (ty := ty) (A := A) (n := 0) (cap := 0) hT ht hs he hsrc (by omega)
    have hnil : news = [] := List.eq_nil_of_length_eq_zero (by simpa using hsrc.len)
    subst hnil
    refine ⟨.slice A 0 0, w, ?_, Out.phantom hR rfl rfl hq⟩
    rw [hrun]
    cases A <;> simp [storeCells]
  · have := OpGoes.grown (P := P) (ty := ty) (A := A) (n := 0) (cap := 0) (m := m) (di := di) (Q := Q) hT ht hs he hzs hR (Src.empty K σ st.length w A 0 te.size el0) hsrc (by omega) hb0 (by simpa using hb) (by simpa using hq)
    simpa using this

theorem append_own (hT : TOk P T) {t e ty : TypeId} {ti te : TI} (ht : T t = some ti) (hs : sliceD ti.d = some e) (he : T e = some te) (hzs : te.zero.cells.size = te.size) {K : KH} {σ : Nat → Loc} {w : World} (hR : Rel K σ st w) {i k0 n m : Nat} {B : Blk} {s u : Value} {el : Nat → List PV} {news : List Value}
    (hB : st.get i = some B) (hro : B.ro = false) (hBe : B.e = e) (hBs : B.sz = te.size) (hkn : k0 + n ≤ B.n) (vs : VR K σ st.length (.slc i k0 n) s) {t2 : TypeId} (hsrc : Srt P t2 K σ st.length w u te.size m el news) (hb0 : 0 < te.bytes) (hb : (n + m) * te.bytes ≤ 140737488355328) {Q : PV → St → Prop}
    (hq : Q (.slc st.length 0 (n + m)) (st.upd i none ++ [some ⟨e, te.size, n + m, appEl n (fun j => B.el (k0 + j)) el, false⟩])) :
    ∃ v w', (Builtin.append_ #[t, t2] ty #[s, u]).run P w = .ok v w' ∧ Out Q K σ st w v w' := by
  obtain ⟨olds, hold⟩ := src_slc hR hB hkn vs
  rw [hBs] at hold
  cases vs with
  | slc0 A =>
    have := append_nil (P := P) (ty := ty) (A := A) (di := some i) (Q := Q) (el0 := fun j => B.el (k0 + j)) hT ht hs he hzs hR hsrc hb0 (by simpa using hb) (by simpa [dropO] using hq)
    exact this
  | slc hi hr hcap hnc hml =>
    rename_i cap
    rcases Nat.lt_or_ge cap (n + m) with hg | hfit
    · exact OpGoes.grown (P := P) (ty := ty) (di := some i) hT ht hs he hzs hR hold hsrc hg hb0 hb hq
    · have hrun := run_append_fit (P := P) (ty := ty) (A := some ⟨(σ i).blk, (σ i).off + k0 * (σ i).sz, none⟩) (n := n) (cap := cap) hT ht hs he hsrc hfit
      rcases hR.own i B hB with ⟨hf, _⟩ | ⟨_, cur, g1, g2, g3, g4, g5⟩
      · rw [hr] at hf; cases hf
      rw [hBs] at g3
      have hcm : (k0 + n + m) * te.size ≤ (k0 + cap) * te.size := Nat.mul_le_mul_right _ (by omega)
      rw [Nat.add_mul, Nat.add_mul] at hcm
      rw [g3] at hcap
      have hnl := hsrc.len
      have hst := run_storeCells_at P (σ i).blk ((σ i).off + k0 * te.size + n * te.size) B.e news 0 cur w g1 (by rw [hnl]; omega) hsrc.one
      simp only [Nat.add_zero] at hst
      have hrun := hrun.trans (show _ = Result.ok (Value.slice (some ⟨(σ i).blk, (σ i).off + k0 * te.size, none⟩) (n + m) cap) (w.setRow (σ i).blk (cur.toList.take ((σ i).off + k0 * te.size + n * te.size) ++ news ++ cur.toList.drop ((σ i).off + k0 * te.size + n * te.size + news.length)).toArray) by
        simp only [add_spot, g3, hst, Result.andThen_ok])
      generalize hcur : (cur.toList.take ((σ i).off + k0 * te.size + n * te.size) ++ news ++ cur.toList.drop ((σ i).off + k0 * te.size + n * te.size + news.length)).toArray = cur' at hrun
      have hsize : cur'.size = cur.size := by rw [← hcur]; simp only [List.size_toArray, List.length_append, List.length_take, List.length_drop, Array.length_toList]; omega
      have hrd : ∀ j, rd cur' j = if (σ i).off + k0 * te.size + n * te.size ≤ j ∧ j < (σ i).off + k0 * te.size + n * te.size + news.length then (news[j - ((σ i).off + k0 * te.size + n * te.size)]?).getD undef else rd cur j := by
        intro j; rw [← hcur]; exact rd_splice cur _ _ (by rw [hnl]; omega) j
      have holds : Holds K σ st.length te.size (k0 + (n + m)) (appEl (k0 + n) B.el el) cur' (σ i).off := by
        have old : ∀ k j, k < k0 + n → j < te.size → (σ i).off + k * te.size + j < (σ i).off + k0 * te.size + n * te.size := by
          intro k j hk hj
          have : (k + 1) * te.size ≤ (k0 + n) * te.size := Nat.mul_le_mul_right _ hk
          rw [Nat.succ_mul, Nat.add_mul] at this; omega
        have new : ∀ k j, k0 + n ≤ k → k < k0 + (n + m) → j < te.size → (k - (k0 + n)) * te.size + j < m * te.size ∧ (σ i).off + k * te.size + j = (σ i).off + k0 * te.size + n * te.size + ((k - (k0 + n)) * te.size + j) := by
          intro k j hk hk' hj
          have : (k - (k0 + n) + 1) * te.size ≤ m * te.size := Nat.mul_le_mul_right _ (by omega)
          rw [Nat.succ_mul] at this
          refine ⟨by omega, ?_⟩
          have : k * te.size = k0 * te.size + n * te.size + (k - (k0 + n)) * te.size := by rw [← Nat.add_mul, ← Nat.add_mul]; congr 1; omega
          omega
        have e3 : (k0 + (n + m)) * te.size = k0 * te.size + n * te.size + m * te.size := by rw [Nat.add_mul, Nat.add_mul]; omega
        refine ⟨by rw [hsize, e3]; omega, fun k j hk hj => ?_, fun k hk => ?_⟩
        · rw [hrd]
          rcases Nat.lt_or_ge k (k0 + n) with h | h
          · have := old k j h hj
            rw [if_neg (by omega)]
            have := g4.2.1 k j (by omega) (by rw [hBs]; exact hj)
            rwa [hBs] at this
          · obtain ⟨a1, a2⟩ := new k j h hk hj
            rw [if_pos (by omega), a2, Nat.add_sub_cancel_left]
            have hlt : (k - (k0 + n)) * te.size + j < news.length := by rw [hnl]; exact a1
            rw [List.getElem?_eq_getElem hlt]
            exact hsrc.one _ (List.getElem_mem hlt)
        · rcases Nat.lt_or_ge k (k0 + n) with h | h
          · rw [appEl_left h]
            obtain ⟨a1, a2⟩ := g4.2.2 k (by omega)
            rw [hBs] at a1 a2
            refine ⟨a1, fun j p hp => ?_⟩
            have hj : j < te.size := by rw [← a1]; exact (List.getElem?_eq_some_iff.1 hp).1
            have := old k j h hj
            rw [hrd, if_neg (by omega)]
            exact a2 j p hp
          · rw [appEl_right h]
            obtain ⟨a1, a2⟩ := hsrc.holds (k - (k0 + n)) (by omega)
            refine ⟨a1, fun j p hp => ?_⟩
            have hj : j < te.size := by rw [← a1]; exact (List.getElem?_eq_some_iff.1 hp).1
            obtain ⟨b1, b2⟩ := new k j h hk hj
            rw [hrd, if_pos (by omega), b2, Nat.add_sub_cancel_left]
            have := a2 j p hp
            rwa [rd_list] at this
      obtain ⟨s1, s2⟩ := hR.set (B' := ⟨B.e, te.size, k0 + (n + m), appEl (k0 + n) B.el el, false⟩) hB hro rfl hr (w' := w.setRow (σ i).blk cur') rfl rfl rfl (size_setRow _ _ _) (fun k' hk' => setRow_other w (σ i).blk k' _ hk')
        (setRow_heap w (σ i).blk cur _ B.e (0, 0) g1) (by rw [hsize, g2]) g3 holds
      have hilt : i < st.length := hi
      obtain ⟨r1, r2⟩ := s1.rename (i := i) (B := ⟨B.e, te.size, k0 + (n + m), appEl (k0 + n) B.el el, false⟩) (B' := ⟨e, te.size, n + m, appEl n (fun j => B.el (k0 + j)) el, false⟩) (k0 := k0) (St.get_upd_same _ hilt) rfl rfl hr (by rw [hBe]) rfl (Nat.le_refl _) (fun k hk => by
        show appEl n (fun j => B.el (k0 + j)) el k = appEl (k0 + n) B.el el (k0 + k)
        rcases Nat.lt_or_ge k n with h | h
        · rw [appEl_left h, appEl_left (by omega)]
        · rw [appEl_right h, appEl_right (by omega)]; congr 1; omega)
      have hupd : (st.upd i (some ⟨B.e, te.size, k0 + (n + m), appEl (k0 + n) B.el el, false⟩)).upd i none = st.upd i none := by simp [St.upd_eq]
      rw [hupd, St.length_upd] at r1 r2
      refine ⟨_, _, hrun, K, _, _, _, hq, s2.trans r2, r1, ?_⟩
      have hsx := sx_new σ st.length ⟨(σ i).blk, (σ i).off + k0 * (σ i).sz, (σ i).tot, (σ i).sz, true, Loc.al_add (σ i) k0⟩
      exact VR.slc' (by simp [St.length_upd]) (by rw [hsx]) (by
        rw [hsx]; show (σ i).off + k0 * (σ i).sz + (0 + cap) * (σ i).sz = (σ i).tot
        rw [g3, ← hcap, Nat.add_mul, Nat.add_mul]; omega) hfit hml (by rw [hsx]) (by rw [hsx]; show (σ i).off + k0 * (σ i).sz + 0 * (σ i).sz = _; rw [g3]; omega)

theorem G_append_own (hT : TOk P T) {t e : TypeId} {ti te : TI} {x y : Operand} {i k0 n m : Nat} {B : Blk} {el : Nat → List PV} (ho : o.op = .call { callee := .builtin .append, args := #[x, y], argTypes := #[t, t] }) (ht : T t = some ti) (hs : sliceD ti.d = some e) (he : T e = some te)
    (hx : E x = .slc i k0 n) (hB : st.get i = some B) (hc : (bif B.ro then false else bif Nat.beq B.e e then bif Nat.beq B.sz te.size then bif Nat.beq te.zero.cells.size te.size then Nat.blt 0 te.bytes else false else false else false) = true) (hkn : k0 + n ≤ B.n)
    (hy : srcP st (E y) = some (te.size, m, el)) (hb : (n + m) * te.bytes ≤ 140737488355328) (h : Q (.slc st.length 0 (n + m)) (st.upd i none ++ [some ⟨e, te.size, n + m, appEl n (fun j => B.el (k0 + j)) el, false⟩])) : OpGoes P E st o Q := by
  intro K σ w ρ hR hE
  cases h1 : B.ro <;> simp only [h1, cond_true, cond_false, reduceCtorEq] at hc
  cases h2 : Nat.beq B.e e <;> simp only [h2, cond_true, cond_false, reduceCtorEq] at hc
  cases h3 : Nat.beq B.sz te.size <;> simp only [h3, cond_true, cond_false, reduceCtorEq] at hc
  cases h4 : Nat.beq te.zero.cells.size te.size <;> simp only [h4, cond_true, cond_false, reduceCtorEq] at hc
  rw [Nat.blt_eq] at hc
  have vx := hE x; have vy := hE y
  rw [hx] at vx
  have hsrc : ∃ news, Src K σ st.length w (ρ y) te.size m el news := by
    generalize E y = p at hy vy
    cases p <;> simp only [srcP, reduceCtorEq, Option.some.injEq, Prod.mk.injEq] at hy
    · split at hy
      · rename_i C hC
        rename_i i2 k2 n2 _
        cases hk : Nat.ble (k2 + n2) C.n <;> simp only [hk, cond_true, cond_false, reduceCtorEq, Option.some.injEq, Prod.mk.injEq] at hy
        obtain ⟨e1, rfl, rfl⟩ := hy
        rw [← e1]
        exact src_slc hR hC (Nat.le_of_ble_eq_true hk) vy
      · cases hy
    · obtain ⟨e1, rfl, rfl⟩ := hy
      rw [← e1]
      exact src_fz hR vy
  obtain ⟨news, hsrc⟩ := hsrc
  have hu' := (hT t ti ht).1
  rw [sliceD_spec hs] at hu'
  have hsrc := hsrc.srt hu'
  obtain ⟨v, w', hr, hout⟩ := append_own (P := P) (ty := o.type) hT ht hs he (Nat.eq_of_beq_eq_true h4) hR hB h1 (Nat.eq_of_beq_eq_true h2) (Nat.eq_of_beq_eq_true h3) hkn vx hsrc hc hb h
  exact .inl ⟨v, w', .inl (by simp [execOp, ho, resolve, invoke, builtin, hr]), hout⟩

theorem G_append_nil (hT : TOk P T) {t e : TypeId} {ti te : TI} {x y : Operand} {m : Nat} {el : Nat → List PV} (ho : o.op = .call { callee := .builtin .append, args := #[x, y], argTypes := #[t, t] }) (ht : T t = some ti) (hs : sliceD ti.d = some e) (he : T e = some te)
    (hx : E x = .atom (.slice none 0 0)) (hc : (bif Nat.beq te.zero.cells.size te.size then Nat.blt 0 te.bytes else false) = true)
    (hy : srcP st (E y) = some (te.size, m, el)) (hb : m * te.bytes ≤ 140737488355328) (h : Q (.slc st.length 0 m) (st ++ [some ⟨e, te.size, m, el, false⟩])) : OpGoes P E st o Q := by
  intro K σ w ρ hR hE
  cases h4 : Nat.beq te.zero.cells.size te.size <;> simp only [h4, cond_true, cond_false, reduceCtorEq] at hc
  rw [Nat.blt_eq] at hc
  have vx := hE x; have vy := hE y
  rw [hx] at vx
  have hsrc : ∃ news, Src K σ st.length w (ρ y) te.size m el news := by
    generalize E y = p at hy vy
    cases p <;> simp only [srcP, reduceCtorEq, Option.some.injEq, Prod.mk.injEq] at hy
    · split at hy
      · rename_i C hC
        rename_i i2 k2 n2 _
        cases hk : Nat.ble (k2 + n2) C.n <;> simp only [hk, cond_true, cond_false, reduceCtorEq, Option.some.injEq, Prod.mk.injEq] at hy
        obtain ⟨e1, rfl, rfl⟩ := hy
        rw [← e1]
        exact src_slc hR hC (Nat.le_of_ble_eq_true hk) vy
      · cases hy
    · obtain ⟨e1, rfl, rfl⟩ := hy
      rw [← e1]
      exact src_fz hR vy
  obtain ⟨news, hsrc⟩ := hsrc
  have hu' := (hT t ti ht).1
  rw [sliceD_spec hs] at hu'
  have hsrc := hsrc.srt hu'
  have e0 : appEl 0 el el = el := by funext j; rw [appEl_right (Nat.zero_le _)]; rfl
  obtain ⟨v, w', hr, hout⟩ := append_nil (P := P) (ty := o.type) (A := none) (di := none) (el0 := el) (Q := Q) hT ht hs he (Nat.eq_of_beq_eq_true h4) hR hsrc hc hb (by rw [e0]; exact h)
  exact .inl ⟨v, w', .inl (by simp [execOp, ho, resolve, invoke, builtin, vx.atom_inv, hr]), hout⟩
end
end Go.Sy
