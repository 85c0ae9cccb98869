/- The operations that make and change memory. -/
import Derived.Test.YtocfjbopkgmjkaaDoorY4
set_option linter.unusedVariables false
set_option linter.unusedSimpArgs false
set_option linter.unusedSectionVars false
namespace Go.Sy
open Go Go.RowKit
variable [Globs]

def sx (σ : Nat → Loc) (n : Nat) (L : Loc) : Nat → Loc := fun i => if i = n then L else σ i
theorem sx_old {σ : Nat → Loc} {n : Nat} {L : Loc} {i : Nat} (h : i < n) : sx σ n L i = σ i := by simp [sx, Nat.ne_of_lt h]
theorem sx_new (σ : Nat → Loc) (n : Nat) (L : Loc) : sx σ n L n = L := by simp [sx]

theorem Rel.klt {K : KH} {σ : Nat → Loc} {st : St} {w : World} (hR : Rel K σ st w) {b : Nat} {cur : Array Value} (h : K b = some cur) : b < w.heap.size := by
  obtain ⟨e, he⟩ := hR.kin b cur h
  exact (Array.getElem?_eq_some_iff.1 he).1
theorem Rel.blt {K : KH} {σ : Nat → Loc} {st : St} {w : World} (hR : Rel K σ st w) {i : Nat} {B : Blk} (hB : st.get i = some B) (hr : (σ i).real = true) : (σ i).blk < w.heap.size := by
  rcases hR.own i B hB with ⟨hf, _⟩ | ⟨_, cur, he, _⟩
  · rw [hr] at hf; cases hf
  · exact (Array.getElem?_eq_some_iff.1 he).1

/-- A new block of the state's own. -/
theorem Rel.push {K : KH} {σ : Nat → Loc} {st : St} {w w' : World} (hR : Rel K σ st w) (hb : Below w.heap.size w w') {L : Loc} {B : Blk} (hro : B.ro = false)
    (hL : L.real = true → w.heap.size ≤ L.blk ∧ ∃ cur, w'.heap[L.blk]? = some (.cells cur B.e (0, 0)) ∧ cur.size = L.tot ∧ L.sz = B.sz ∧ Holds K σ st.length B.sz B.n B.el cur L.off) (hP : L.real = false → B.n = 0) :
    Rel K (sx σ st.length L) (st ++ [some B]) w' ∧ Ext K σ st w K (sx σ st.length L) (st ++ [some B]) w' := by
  have hsig : ∀ i, i < st.length → sx σ st.length L i = σ i := fun i hi => sx_old hi
  have hlen : st.length ≤ (st ++ [some B]).length := by simp
  have hblk : ∀ i C, st.get i = some C → (σ i).real = true → w'.heap[(σ i).blk]? = w.heap[(σ i).blk]? := fun i C hC hr => hb.block _ (hR.blt hC hr)
  refine ⟨⟨fun b cur hk => ?_, fun i C hC => ?_, fun i j C D hC hD h1 h2 he => ?_, hR.gl⟩, ⟨fun _ _ h => h, hsig, hlen, hb.os, hb.tape, hb.output, hb.size, fun i C hC hr hl => ?_, fun k hk _ => hb.block k hk, fun b cur h => .inl h⟩⟩
  · obtain ⟨e, he⟩ := hR.kin b cur hk
    exact ⟨e, (hb.block b (hR.klt hk)).trans he⟩
  · rcases St.get_push_cases hC with hC | ⟨rfl, hBC⟩
    · rw [hsig i (St.get_lt hC)]
      rcases hR.own i C hC with h | ⟨hr, cur, h1, h2, h3, h4, h5⟩
      · exact .inl h
      · exact .inr ⟨hr, cur, (hblk i C hC hr).trans h1, h2, h3, h4.mono (fun _ _ h => h) hsig hlen, h5⟩
    · cases hBC
      rw [sx_new]
      cases hr : L.real with
      | false => exact .inl ⟨rfl, hP hr⟩
      | true =>
        obtain ⟨hs, cur, h1, h2, h3, h4⟩ := hL hr
        refine .inr ⟨rfl, cur, h1, h2, h3, h4.mono (fun _ _ h => h) hsig hlen, ?_⟩
        rw [hro]
        cases hk : K L.blk with
        | none => rfl
        | some c => have := hR.klt hk; omega
  · rcases St.get_push_cases hC with hC | ⟨rfl, hBC⟩ <;> rcases St.get_push_cases hD with hD | ⟨rfl, hBD⟩
    · rw [hsig i (St.get_lt hC)] at h1 he
      rw [hsig j (St.get_lt hD)] at h2 he
      exact hR.sep i j C D hC hD h1 h2 he
    · rw [hsig i (St.get_lt hC)] at h1 he
      rw [sx_new] at h2 he
      have := hR.blt hC h1
      have := (hL h2).1
      omega
    · rw [hsig j (St.get_lt hD)] at h2 he
      rw [sx_new] at h1 he
      have := hR.blt hD h2
      have := (hL h1).1
      omega
    · rfl
  · rcases St.get_push_cases hC with hC | ⟨rfl, hBC⟩
    · rw [hsig i (St.get_lt hC)] at hl ⊢
      exact .inl ⟨i, C, hC, hr, hl, rfl⟩
    · rw [sx_new] at hl ⊢
      exact .inr (hL hl).1

/-- Another content of a block of the state's own. -/
theorem Rel.set {K : KH} {σ : Nat → Loc} {st : St} {w w' : World} (hR : Rel K σ st w) {i : Nat} {B B' : Blk} (hB : st.get i = some B) (hro : B.ro = false) (hro' : B'.ro = false) (hr : (σ i).real = true)
    (os : w'.os = w.os) (tape : w'.tape = w.tape) (output : w'.output = w.output) (size : w'.heap.size = w.heap.size) (hoth : ∀ k, k ≠ (σ i).blk → w'.heap[k]? = w.heap[k]?)
    {cur : Array Value} (h1 : w'.heap[(σ i).blk]? = some (.cells cur B'.e (0, 0))) (h2 : cur.size = (σ i).tot) (h3 : (σ i).sz = B'.sz) (h4 : Holds K σ st.length B'.sz B'.n B'.el cur (σ i).off) :
    Rel K σ (st.upd i (some B')) w' ∧ Ext K σ st w K σ (st.upd i (some B')) w' := by
  have hne : ∀ b c, K b = some c → b ≠ (σ i).blk := by
    intro b c hk hbb
    rcases hR.own i B hB with ⟨hf, _⟩ | ⟨_, _, _, _, _, _, h5⟩
    · rw [hr] at hf; cases hf
    · rw [hro] at h5; rw [hbb] at hk; rw [hk] at h5; cases h5
  refine ⟨⟨fun b c hk => ?_, fun j C hC => ?_, fun j l C D hC hD r1 r2 he => ?_, hR.gl⟩, ⟨fun _ _ h => h, fun _ _ => rfl, by rw [St.length_upd]; exact Nat.le_refl _, os, tape, output, by rw [size]; exact Nat.le_refl _, fun j C hC hr' hl => ?_, fun k hk hn => hoth k (fun e => hn i B hB hro hr e.symm), fun b c h => .inl h⟩⟩
  · obtain ⟨e, he⟩ := hR.kin b c hk
    exact ⟨e, (hoth b (hne b c hk)).trans he⟩
  · rw [St.length_upd]
    rcases St.get_upd_cases hC with ⟨rfl, hc⟩ | ⟨hji, hC⟩
    · cases hc
      refine .inr ⟨hr, cur, h1, h2, h3, h4, ?_⟩
      rw [hro']
      cases hk : K (σ j).blk with
      | none => rfl
      | some c => exact absurd rfl (hne _ _ hk)
    · rcases hR.own j C hC with h | ⟨hr', c, g1, g2, g3, g4, g5⟩
      · exact .inl h
      · refine .inr ⟨hr', c, ?_, g2, g3, g4, g5⟩
        rw [hoth _ (fun e => hji (hR.sep j i C B hC hB hr' hr e))]
        exact g1
  · have old : ∀ {j C}, (st.upd i (some B')).get j = some C → ∃ C', st.get j = some C' := by
      intro j C hC
      rcases St.get_upd_cases hC with ⟨rfl, hc⟩ | ⟨hji, hC⟩
      · exact ⟨B, hB⟩
      · exact ⟨C, hC⟩
    obtain ⟨C', hC'⟩ := old hC
    obtain ⟨D', hD'⟩ := old hD
    exact hR.sep j l C' D' hC' hD' r1 r2 he
  · rcases St.get_upd_cases hC with ⟨rfl, hc⟩ | ⟨hji, hC⟩
    · exact .inl ⟨j, B, hB, hro, hl, rfl⟩
    · exact .inl ⟨j, C, hC, hr', hl, rfl⟩

/-- A block is let go. -/
theorem Rel.drop {K : KH} {σ : Nat → Loc} {st : St} {w : World} (hR : Rel K σ st w) (i : Nat) : Rel K σ (st.upd i none) w ∧ Ext K σ st w K σ (st.upd i none) w := by
  have old : ∀ {j C}, (st.upd i none).get j = some C → st.get j = some C := by
    intro j C hC
    rcases St.get_upd_cases hC with ⟨rfl, hc⟩ | ⟨_, hC⟩
    · cases hc
    · exact hC
  refine ⟨⟨hR.kin, fun j C hC => ?_, fun j l C D hC hD => hR.sep j l C D (old hC) (old hD), hR.gl⟩, ⟨fun _ _ h => h, fun _ _ => rfl, by rw [St.length_upd]; exact Nat.le_refl _, rfl, rfl, rfl, Nat.le_refl _, fun j C hC hr hl => .inl ⟨j, C, old hC, hr, hl, rfl⟩, fun _ _ _ => rfl, fun _ _ h => .inl h⟩⟩
  rw [St.length_upd]
  exact hR.own j C (old hC)

/-! ### cells of values -/
def pvCells : PV → Option (List PV)
  | .any => none
  | .tup _ => none
  | .agg cs => some cs
  | .atom v => bif v.oneCell' then some [.atom v] else none
  | .ptr i k off => some [.ptr i k off]
  | .fptr sz n el k off => some [.fptr sz n el k off]
  | .slc i k n => some [.slc i k n]
  | .fz sz n el => some [.fz sz n el]
  | .iface t v => some [.iface t v]
  | .func f c => some [.func f c]
def cellOk : PV → Bool
  | .any | .tup _ | .agg _ => false
  | .atom v => v.oneCell'
  | _ => true
def cellsOk : List PV → Bool
  | [] => true
  | p :: l => bif cellOk p then cellsOk l else false
theorem cellsOk_mem {l : List PV} (h : cellsOk l = true) : ∀ p ∈ l, cellOk p = true := by
  induction l with
  | nil => simp
  | cons p l ih =>
    unfold cellsOk at h
    cases hc : cellOk p with
    | false => simp [hc] at h
    | true => simp [hc] at h; simp [hc]; exact ih h
theorem VR.one {K : KH} {σ : Nat → Loc} {N : Nat} {p : PV} {v : Value} (h : VR K σ N p v) (hc : cellOk p = true) : v.oneCell' = true := by
  cases h <;> simp_all [cellOk, Value.oneCell']

theorem cells_spec {K : KH} {σ : Nat → Loc} {N : Nat} {p : PV} {v : Value} {cs : List PV} (h : VR K σ N p v) (hc : pvCells p = some cs) (hok : cellsOk cs = true) :
    v.cells.size = cs.length ∧ (∀ j q, cs[j]? = some q → VR K σ N q (rd v.cells j)) ∧ ∀ u ∈ v.cells.toList, u.oneCell' = true := by
  have single : ∀ q, cs = [q] → VR K σ N q v → v.cells = #[v] → v.cells.size = cs.length ∧ (∀ j q, cs[j]? = some q → VR K σ N q (rd v.cells j)) ∧ ∀ u ∈ v.cells.toList, u.oneCell' = true := by
    intro q hq hv hcell
    subst hq
    rw [hcell]
    refine ⟨rfl, fun j r hr => ?_, fun u hu => ?_⟩
    · cases j with
      | zero => simp at hr; subst hr; exact hv
      | succ j => simp at hr
    · simp at hu; subst hu; exact hv.one (cellsOk_mem hok q (by simp))
  cases p with
  | any => simp [pvCells] at hc
  | tup _ => simp [pvCells] at hc
  | agg cs' =>
    simp [pvCells] at hc; subst hc
    obtain ⟨vs, rfl, hl, hr⟩ := h.agg_inv
    refine ⟨hl, hr, fun u hu => ?_⟩
    obtain ⟨j, hj⟩ := List.getElem?_of_mem hu
    have hj' : vs[j]? = some u := by simpa [Value.cells] using hj
    have hlt : j < cs'.length := by rw [← hl]; exact (Array.getElem?_eq_some_iff.1 hj').1
    have := hr j _ (List.getElem?_eq_getElem hlt)
    have hu' : rd vs j = u := by simp [rd, hj']
    rw [hu'] at this
    exact this.one (cellsOk_mem hok _ (List.getElem_mem hlt))
  | atom u =>
    have := h.atom_inv
    subst this
    cases ho : v.oneCell' with
    | false => simp [pvCells, ho] at hc
    | true =>
      simp [pvCells, ho] at hc; subst hc
      exact single _ rfl (.atom _) (by cases v <;> simp_all [Value.cells, Value.oneCell'])
  | _ =>
    simp [pvCells] at hc; subst hc
    exact single _ rfl h (by cases h <;> rfl)

def overlay : List PV → List PV → List PV
  | cs, [] => cs
  | [], _ :: _ => []
  | _ :: cs, n :: ns => n :: overlay cs ns
def setL : Nat → List PV → List PV → List PV
  | 0, cs, new => overlay cs new
  | k + 1, c :: cs, new => c :: setL k cs new
  | _ + 1, [], _ => []
theorem overlay_get : ∀ (cs new : List PV) (j : Nat), new.length ≤ cs.length → (overlay cs new)[j]? = if j < new.length then new[j]? else cs[j]?
  | cs, [], j, _ => by simp [overlay]
  | [], _ :: _, j, h => by simp at h
  | c :: cs, n :: ns, 0, _ => by simp [overlay]
  | c :: cs, n :: ns, j + 1, h => by simp at h; simp [overlay, overlay_get cs ns j h]
theorem overlay_len : ∀ (cs new : List PV), new.length ≤ cs.length → (overlay cs new).length = cs.length
  | cs, [], _ => by simp [overlay]
  | [], _ :: _, h => by simp at h
  | c :: cs, n :: ns, h => by simp at h; simp [overlay, overlay_len cs ns h]
theorem setL_len : ∀ (off : Nat) (cs new : List PV), off + new.length ≤ cs.length → (setL off cs new).length = cs.length
  | 0, cs, new, h => by simp [setL]; exact overlay_len cs new (by omega)
  | k + 1, [], new, h => by simp at h
  | k + 1, c :: cs, new, h => by simp at h; simp [setL, setL_len k cs new (by omega)]
theorem setL_get : ∀ (off : Nat) (cs new : List PV) (j : Nat), off + new.length ≤ cs.length → (setL off cs new)[j]? = if off ≤ j ∧ j < off + new.length then new[j - off]? else cs[j]?
  | 0, cs, new, j, h => by simp [setL]; exact overlay_get cs new j (by omega)
  | k + 1, [], new, j, h => by simp at h
  | k + 1, c :: cs, new, 0, h => by simp [setL]
  | k + 1, c :: cs, new, j + 1, h => by
    simp at h
    simp only [setL, List.getElem?_cons_succ, setL_get k cs new j (by omega), Nat.add_sub_add_right]
    congr 1
    apply propext; omega

theorem rd_splice (cur : Array Value) (o : Nat) (vs : List Value) (h : o + vs.length ≤ cur.size) (j : Nat) :
    rd (cur.toList.take o ++ vs ++ cur.toList.drop (o + vs.length)).toArray j = if o ≤ j ∧ j < o + vs.length then (vs[j - o]?).getD undef else rd cur j := by
  simp only [rd_list, rd, Array.getD_eq_getD_getElem?]
  have hl : (cur.toList.take o).length = o := by simp; omega
  rw [List.append_assoc, List.getElem?_toArray, List.getElem?_append, hl]
  by_cases h1 : j < o
  · rw [if_pos h1, if_neg (by omega), List.getElem?_take, if_pos h1]; simp
  · rw [if_neg h1, List.getElem?_append]
    by_cases h2 : j < o + vs.length
    · rw [if_pos (by omega), if_pos ⟨by omega, h2⟩]
    · rw [if_neg (by omega), if_neg (by omega), List.getElem?_drop]
      have : o + vs.length + (j - o - vs.length) = j := by omega
      rw [this]; simp

section
variable {P : Program} {T : TT} {E : Operand → PV} {st : St} {o : Oper} {Q : PV → St → Prop}

theorem OpGoes.fresh {pv : PV} {B : Blk} (hro : B.ro = false) (h : ∀ K σ w (ρ : Operand → Value), Rel K σ st w → (∀ x, VR K σ st.length (E x) (ρ x)) →
      ∃ v cur w', (execOp ρ o).run P w = .ok (.value v) w' ∧ Below w.heap.size w w' ∧ w'.heap[w.heap.size]? = some (.cells cur B.e (0, 0)) ∧ Holds K σ st.length B.sz B.n B.el cur 0 ∧
        ∀ σ', (∀ i, i < st.length → σ' i = σ i) → σ' st.length = ⟨w.heap.size, 0, cur.size, B.sz, true, Nat.zero_mod _⟩ → VR K σ' (st.length + 1) pv v)
    (hq : Q pv (st ++ [some B])) : OpGoes P E st o Q := by
  intro K σ w ρ hR hE
  obtain ⟨v, cur, w', hr, hb, hh, hold, hv⟩ := h K σ w ρ hR hE
  obtain ⟨h1, h2⟩ := hR.push hb (L := ⟨w.heap.size, 0, cur.size, B.sz, true, Nat.zero_mod _⟩) (B := B) hro (fun _ => ⟨Nat.le_refl _, cur, hh, rfl, rfl, hold⟩) (fun h => by cases h)
  exact .inl ⟨v, w', .inl hr, K, _, _, pv, hq, h2, h1, by simpa using hv _ (fun i hi => sx_old hi) (sx_new _ _ _)⟩

theorem G_alloc (hT : TOk P T) {elem : TypeId} {ti : TI} (ho : o.op = .alloc elem) (ht : T elem = some ti) (hok : cellsOk (ti.zero.cells.toList.map .atom) = true)
    (h : Q (.ptr st.length 0 0) (st ++ [some ⟨elem, ti.zero.cells.size, 1, fun _ => ti.zero.cells.toList.map .atom, false⟩])) : OpGoes P E st o Q := by
  refine OpGoes.fresh rfl (fun K σ w ρ hR hE => ?_) h
  refine ⟨.pointer (some ⟨w.heap.size, 0, none⟩), ti.zero.cells, w.alloc (.cells ti.zero.cells elem), ?_, (Below.refl _ _).alloc (Nat.le_refl _) _, heap_alloc_new w _, ⟨by simp, fun k j hk hj => ?_, fun k hk => ⟨by simp, fun j p hp => ?_⟩⟩, fun σ' _ hs => ?_⟩
  · simp [execOp, ho, Instr.alloc, run_zeroValue hT ht, newVar, newRow]
  · have h0 : k = 0 := by have : k < 1 := hk; omega
    subst h0
    simp only [Nat.zero_mul, Nat.zero_add]
    have := cellsOk_mem hok (.atom (rd ti.zero.cells j)) (by simp [rd, hj])
    exact this
  · have h0 : k = 0 := by have : k < 1 := hk; omega
    subst h0
    simp at hp
    obtain ⟨a, ha, rfl⟩ := hp
    simp [rd, ha]
    exact .atom _
  · have := VR.ptr (K := K) (σ := σ') (N := st.length + 1) (i := st.length) (k := 0) (off := 0) (by omega)
    simpa [hs] using this

theorem G_box {elem : TypeId} {x : Operand} {cs : List PV} (ho : o.op = .box elem x) (hc : pvCells (E x) = some cs) (hok : cellsOk cs = true)
    (h : Q (.ptr st.length 0 0) (st ++ [some ⟨elem, cs.length, 1, fun _ => cs, false⟩])) : OpGoes P E st o Q := by
  refine OpGoes.fresh rfl (fun K σ w ρ hR hE => ?_) h
  obtain ⟨h1, h2, h3⟩ := cells_spec (hE x) hc hok
  refine ⟨.pointer (some ⟨w.heap.size, 0, none⟩), (ρ x).cells, w.alloc (.cells (ρ x).cells elem), ?_, (Below.refl _ _).alloc (Nat.le_refl _) _, heap_alloc_new w _, ⟨by simp [h1], fun k j hk hj => ?_, fun k hk => ⟨rfl, fun j p hp => ?_⟩⟩, fun σ' _ hs => ?_⟩
  · simp [execOp, ho, Instr.box, newVar, newRow]
  · have h0 : k = 0 := by have : k < 1 := hk; omega
    subst h0
    have hj' : j < (ρ x).cells.size := by rw [h1]; exact hj
    have : rd (ρ x).cells (0 + 0 * cs.length + j) = (ρ x).cells[j] := by simp [rd, hj']
    rw [this]
    exact h3 _ (by simp)
  · have h0 : k = 0 := by have : k < 1 := hk; omega
    subst h0
    simpa using h2 j p hp
  · have := VR.ptr (K := K) (σ := σ') (N := st.length + 1) (i := st.length) (k := 0) (off := 0) (by omega)
    simpa [hs] using this

theorem G_store (hT : TOk P T) {t : TypeId} {ti : TI} {a x : Operand} {i k off : Nat} {B : Blk} {new : List PV} (ho : o.op = .store t a x) (ht : T t = some ti) (ha : E a = .ptr i k off) (hB : st.get i = some B) (hro : B.ro = false) (hk : k < B.n)
    (hc : pvCells (E x) = some new) (hok : cellsOk new = true) (hsz : Nat.beq new.length ti.size = true) (hfit : Nat.ble (off + new.length) B.sz = true)
    (h : Q (.atom undef) (st.upd i (some { B with el := fun k' => bif Nat.beq k' k then setL off (B.el k) new else B.el k' }))) : OpGoes P E st o Q := by
  intro K σ w ρ hR hE
  have hsz := Nat.eq_of_beq_eq_true hsz
  have hfit := Nat.le_of_ble_eq_true hfit
  obtain ⟨h1, h2, h3⟩ := cells_spec (hE x) hc hok
  have va := hE a
  rw [ha] at va
  rcases hR.own i B hB with ⟨_, hn⟩ | ⟨hr, cur, g1, g2, g3, g4, g5⟩
  · omega
  generalize hg : ρ a = g at va
  cases va with
  | ptr hi =>
    have hmul : (k + 1) * B.sz ≤ B.n * B.sz := Nat.mul_le_mul_right _ hk
    rw [Nat.succ_mul] at hmul
    have hbound := g4.1
    have hl : (ρ x).cells.toList.length = new.length := by simpa using h1
    have hfitc : (σ i).off + k * B.sz + off + new.length ≤ cur.size := by omega
    have hst := run_storeCells_at P (σ i).blk ((σ i).off + k * B.sz + off) B.e (ρ x).cells.toList 0 cur w g1 (by rw [hl]; omega) h3
    simp only [Nat.add_zero] at hst
    refine .inl ⟨undef, w.setRow (σ i).blk (cur.toList.take ((σ i).off + k * B.sz + off) ++ (ρ x).cells.toList ++ cur.toList.drop ((σ i).off + k * B.sz + off + (ρ x).cells.toList.length)).toArray, .inr ⟨?_, rfl⟩, ?_⟩
    · simp only [execOp, ho, hg, Instr.storeAt, Instr.sureAddr, Sem.run_bind, Sem.run_pure, Result.andThen_ok, storeVar, run_sizeOf hT ht, g3]
      rw [if_neg (by rw [h1, hsz]; simp)]
      simp only [hst, Result.andThen_ok]
    · have hel : (B.el k).length = B.sz := (g4.2.2 k hk).1
      have hrd : ∀ j, rd (cur.toList.take ((σ i).off + k * B.sz + off) ++ (ρ x).cells.toList ++ cur.toList.drop ((σ i).off + k * B.sz + off + (ρ x).cells.toList.length)).toArray j =
          if (σ i).off + k * B.sz + off ≤ j ∧ j < (σ i).off + k * B.sz + off + new.length then rd (ρ x).cells (j - ((σ i).off + k * B.sz + off)) else rd cur j := by
        intro j
        rw [rd_splice cur _ _ (by rw [hl]; exact hfitc), hl]
        simp [rd]
      have hother : ∀ k', k' < B.n → k' ≠ k → ∀ j, j < B.sz → ¬ ((σ i).off + k * B.sz + off ≤ (σ i).off + k' * B.sz + j ∧ (σ i).off + k' * B.sz + j < (σ i).off + k * B.sz + off + new.length) := by
        intro k' hk' hne j hj hh
        rcases Nat.lt_or_ge k' k with hlt | hge
        · have : (k' + 1) * B.sz ≤ k * B.sz := Nat.mul_le_mul_right _ hlt
          rw [Nat.succ_mul] at this; omega
        · have : (k + 1) * B.sz ≤ k' * B.sz := Nat.mul_le_mul_right _ (by omega)
          rw [Nat.succ_mul] at this; omega
      have hsize : (cur.toList.take ((σ i).off + k * B.sz + off) ++ (ρ x).cells.toList ++ cur.toList.drop ((σ i).off + k * B.sz + off + (ρ x).cells.toList.length)).toArray.size = cur.size := by simp only [List.size_toArray, List.length_append, List.length_take, List.length_drop, hl, Array.length_toList]; omega
      have holds : Holds K σ st.length B.sz B.n (fun k' => bif Nat.beq k' k then setL off (B.el k) new else B.el k') (cur.toList.take ((σ i).off + k * B.sz + off) ++ (ρ x).cells.toList ++ cur.toList.drop ((σ i).off + k * B.sz + off + (ρ x).cells.toList.length)).toArray (σ i).off := by
        refine ⟨by rw [hsize]; exact hbound, fun k' j hk' hj => ?_, fun k' hk' => ?_⟩
        · rw [hrd]
          split
          · rename_i hh
            have hlt : (σ i).off + k' * B.sz + j - ((σ i).off + k * B.sz + off) < (ρ x).cells.size := by rw [h1]; omega
            have : rd (ρ x).cells ((σ i).off + k' * B.sz + j - ((σ i).off + k * B.sz + off)) = (ρ x).cells[(σ i).off + k' * B.sz + j - ((σ i).off + k * B.sz + off)] := by simp [rd, hlt]
            rw [this]; exact h3 _ (by simp)
          · exact g4.2.1 k' j hk' hj
        · by_cases hkk : k' = k
          · subst hkk
            have e1 : Nat.beq k' k' = true := by simp
            simp only [e1, cond_true]
            refine ⟨by rw [setL_len _ _ _ (by omega)]; exact hel, fun j p hp => ?_⟩
            rw [setL_get _ _ _ _ (by omega)] at hp
            rw [hrd]
            by_cases hh : off ≤ j ∧ j < off + new.length
            · rw [if_pos hh] at hp
              rw [if_pos (by omega)]
              have := h2 _ p hp
              rwa [show (σ i).off + k' * B.sz + j - ((σ i).off + k' * B.sz + off) = j - off by omega]
            · rw [if_neg hh] at hp
              rw [if_neg (by omega)]
              exact (g4.2.2 k' hk').2 j p hp
          · have e1 : Nat.beq k' k = false := by rw [Bool.eq_false_iff]; intro hh; exact hkk (Nat.eq_of_beq_eq_true hh)
            simp only [e1, cond_false]
            refine ⟨(g4.2.2 k' hk').1, fun j p hp => ?_⟩
            have hj : j < B.sz := by
              rw [← (g4.2.2 k' hk').1]
              exact (List.getElem?_eq_some_iff.1 hp).1
            rw [hrd, if_neg (hother k' hk' hkk j hj)]
            exact (g4.2.2 k' hk').2 j p hp
      obtain ⟨r1, r2⟩ := hR.set (B' := { B with el := fun k' => bif Nat.beq k' k then setL off (B.el k) new else B.el k' }) hB hro hro hr (w' := w.setRow (σ i).blk (cur.toList.take ((σ i).off + k * B.sz + off) ++ (ρ x).cells.toList ++ cur.toList.drop ((σ i).off + k * B.sz + off + (ρ x).cells.toList.length)).toArray) rfl rfl rfl (size_setRow _ _ _) (fun k' hk' => setRow_other w (σ i).blk k' _ hk')
        (setRow_heap w (σ i).blk cur _ B.e (0, 0) g1) (by rw [hsize, g2]) g3 holds
      exact ⟨K, σ, _, .atom undef, h, r2, r1, .atom _⟩
end
end Go.Sy
