/- Texts merged: Y6, Y7. -/
import Derived.Test.YtffckdfcmdmnoaaDoorM3
import Derived.Laws.Tables
section
/- Literals, 'make', 'append'. -/
set_option linter.unusedVariables false
set_option linter.unusedSimpArgs false
set_option linter.unusedSectionVars false
namespace Go.Sy
open Go Go.RowKit
variable [Globs]

theorem rd_pos (a : Array Value) (i : Nat) (h : i < a.size) : rd a i = a[i] := by simp [rd, h]
theorem getBang (a : Array Value) (i : Nat) (h : i < a.size) : a[i]! = rd a i := by rw [getElem!_pos a i h, rd_pos a i h]
theorem rd_mem (a : Array Value) (i : Nat) (h : i < a.size) : rd a i ∈ a.toList := by rw [rd_pos a i h]; simp
theorem foldl_set (off : Nat) : ∀ (vs : List Value) (n : Nat) (cells : Array Value),
    ((vs.zipIdx n).foldl (fun cs (x : Value × Nat) => cs.setIfInBounds (off + x.2) x.1) cells).size = cells.size ∧
    ∀ j, rd ((vs.zipIdx n).foldl (fun cs (x : Value × Nat) => cs.setIfInBounds (off + x.2) x.1) cells) j =
      if off + n ≤ j ∧ j < off + n + vs.length ∧ j < cells.size then rd vs.toArray (j - off - n) else rd cells j
  | [], n, cells => by
    simp only [List.zipIdx_nil, List.foldl_nil, List.length_nil, Nat.add_zero]
    exact ⟨trivial, fun j => by rw [if_neg (by omega)]⟩
  | v :: vs, n, cells => by
    obtain ⟨h1, h2⟩ := foldl_set off vs (n + 1) (cells.setIfInBounds (off + n) v)
    simp only [List.zipIdx_cons, List.foldl_cons]
    refine ⟨by simpa using h1, fun j => ?_⟩
    rw [h2 j]
    simp only [Array.size_setIfInBounds, List.length_cons]
    by_cases hj : off + (n + 1) ≤ j ∧ j < off + (n + 1) + vs.length ∧ j < cells.size
    · rw [if_pos hj, if_pos (by omega)]
      simp only [rd_list]
      rw [show j - off - n = (j - off - (n + 1)) + 1 by omega, List.getElem?_cons_succ]
    · rw [if_neg hj]
      by_cases hn : j = off + n
      · subst hn
        by_cases hs : off + n < cells.size
        · rw [if_pos (by omega)]
          simp [rd, hs]
        · rw [if_neg (by omega)]
          simp [rd, hs]
      · rw [if_neg (by omega)]
        simp [rd, Array.getElem?_setIfInBounds, Ne.symm hn]

/-- Parts put into cells. -/
def fillP (place : Nat → Option (Nat × Nat)) : List PV → List (Nat × PV) → Option (List PV)
  | cs, [] => some cs
  | cs, (i, p) :: rest =>
    match place i with
    | none => none
    | some (off, size) => match pvCells p with
      | none => none
      | some new => bif cellsOk new && (Nat.beq new.length size && Nat.ble (off + new.length) cs.length) then fillP place (setL off cs new) rest else none

theorem fill_spec {K : KH} {σ : Nat → Loc} {N : Nat} {place place' : Nat → Option (Nat × Nat)} (hpl : ∀ i x, place i = some x → place' i = some x) : ∀ (parts : List (Nat × PV)) (rparts : List (Nat × Value)) (cs cs' : List PV) (cells : Array Value), fillP place cs parts = some cs' →
    parts.length = rparts.length → (∀ (j : Nat) i p, parts[j]? = some (i, p) → ∃ v, rparts[j]? = some (i, v) ∧ VR K σ N p v) → cells.size = cs.length → (∀ j p, cs[j]? = some p → VR K σ N p (rd cells j)) →
    ∃ cells', Instr.fill place' cells rparts = some cells' ∧ cells'.size = cs'.length ∧ cs'.length = cs.length ∧ (∀ j p, cs'[j]? = some p → VR K σ N p (rd cells' j)) ∧ ((∀ j, j < cells.size → (rd cells j).oneCell' = true) → ∀ j, j < cells'.size → (rd cells' j).oneCell' = true)
  | [], rparts, cs, cs', cells, h, hlen, _, hsz, hv => by
    simp [fillP] at h; subst h
    have : rparts = [] := List.eq_nil_of_length_eq_zero (by simpa using hlen.symm)
    subst this
    exact ⟨cells, rfl, hsz, rfl, hv, fun h => h⟩
  | (i, p) :: parts, rparts, cs, cs', cells, h, hlen, hp, hsz, hv => by
    obtain ⟨v, hv0, hpv⟩ := hp 0 i p rfl
    cases rparts with
    | nil => simp at hv0
    | cons r rparts =>
      simp at hv0; subst hv0
      unfold fillP at h
      split at h
      · cases h
      · rename_i off size hpla
        split at h
        · cases h
        · rename_i new hnew
          cases hc : (cellsOk new && (Nat.beq new.length size && Nat.ble (off + new.length) cs.length)) with
          | false => simp [hc] at h
          | true =>
            simp only [hc, cond_true] at h
            simp only [Bool.and_eq_true] at hc
            obtain ⟨hok, hs1, hs2⟩ := hc
            have hs1 := Nat.eq_of_beq_eq_true hs1
            have hs2 := Nat.le_of_ble_eq_true hs2
            obtain ⟨c1, c2, c3⟩ := cells_spec hpv hnew hok
            obtain ⟨f1, f2⟩ := foldl_set off v.cells.toList 0 cells
            have hfold : v.cells.zipIdx.foldl (fun cs (x : Value × Nat) => cs.setIfInBounds (off + x.2) x.1) cells = (v.cells.toList.zipIdx 0).foldl (fun cs (x : Value × Nat) => cs.setIfInBounds (off + x.2) x.1) cells := by
              rw [← Array.foldl_toList, Array.toList_zipIdx]
            have hlv : v.cells.toList.length = new.length := by simpa using c1
            generalize hcl : (v.cells.toList.zipIdx 0).foldl (fun cs (x : Value × Nat) => cs.setIfInBounds (off + x.2) x.1) cells = cells1 at f1 f2 hfold
            have hrd : ∀ j, rd cells1 j = if off ≤ j ∧ j < off + new.length then rd v.cells (j - off) else rd cells j := by
              intro j
              rw [f2 j, hlv]
              simp only [Nat.add_zero, Nat.sub_zero, Array.toArray_toList]
              by_cases hj : off ≤ j ∧ j < off + new.length
              · rw [if_pos hj, if_pos (by omega)]
              · rw [if_neg hj, if_neg (by omega)]
            obtain ⟨cells', g1, g2, g3, g4, g5⟩ := fill_spec hpl parts rparts (setL off cs new) cs' cells1 h (by simpa using hlen) (fun j i p hj => by simpa using hp (j + 1) i p (by simpa using hj)) (by rw [f1, setL_len _ _ _ hs2, hsz]) (fun j q hq => by
              rw [setL_get _ _ _ _ hs2] at hq
              rw [hrd]
              by_cases hj : off ≤ j ∧ j < off + new.length
              · rw [if_pos hj] at hq ⊢; exact c2 _ q hq
              · rw [if_neg hj] at hq ⊢; exact hv j q hq)
            refine ⟨cells', ?_, g2, by rw [g3, setL_len _ _ _ hs2], g4, fun ho => g5 (fun j hj => ?_)⟩
            · unfold Instr.fill
              rw [hpl _ _ hpla]
              simp only
              rw [if_neg (by simp only [ne_eq, Bool.or_eq_true, decide_eq_true_eq]; omega)]
              rw [← g1, ← hfold]
            · rw [hrd]
              split
              · have hlt : j - off < v.cells.size := by rw [c1]; omega
                have : rd v.cells (j - off) = v.cells[j - off] := by simp [rd, hlt]
                rw [this]; exact c3 _ (by simp)
              · exact ho j (by rw [← f1]; exact hj)

theorem evParts {K : KH} {σ : Nat → Loc} {N : Nat} {E : Operand → PV} {ρ : Operand → Value} (hE : ∀ x, VR K σ N (E x) (ρ x)) (parts : List (Nat × Operand)) :
    (parts.map fun x => (x.1, E x.2)).length = (parts.map fun x => (x.1, ρ x.2)).length ∧ ∀ (j : Nat) i p, (parts.map fun x => (x.1, E x.2))[j]? = some (i, p) → ∃ v, (parts.map fun x => (x.1, ρ x.2))[j]? = some (i, v) ∧ VR K σ N p v := by
  refine ⟨by simp, fun j i p hj => ?_⟩
  simp at hj ⊢
  obtain ⟨y, z, h1, h2, h3⟩ := hj
  exact ⟨ρ z, ⟨y, z, h1, h2, rfl⟩, h3 ▸ hE z⟩

def placesP (T : TT) : List Field → Option (List (Nat × Nat))
  | [] => some []
  | f :: fs => match T f.type, placesP T fs with
    | some ti, some r => some ((f.offset, ti.size) :: r)
    | _, _ => none
theorem placesP_spec {P : Program} {T : TT} (hT : TOk P T) : ∀ {fs : List Field} {r : List (Nat × Nat)}, placesP T fs = some r → fs.mapM (fun f => (P.info? f.type).map fun i => (f.offset, i.size)) = some r
  | [], r, h => by simp [placesP] at h; subst h; rfl
  | f :: fs, r, h => by
    simp only [placesP] at h
    split at h
    · rename_i ti r' hti hr
      simp at h; subst h
      obtain ⟨_, inf, hi, hs, _⟩ := hT _ _ hti
      simp [List.mapM_cons, hi, placesP_spec hT hr, hs]
    · cases h

def lpl (l : List (Nat × Nat)) (i : Nat) : Option (Nat × Nat) := lnth l i

section
variable {P : Program} {T : TT} {E : Operand → PV} {st : St} {o : Oper} {Q : PV → St → Prop}

theorem G_build (hT : TOk P T) {t : TypeId} {parts : Array (Nat × Operand)} {ti : TI} {fs : Array Field} {pl : List (Nat × Nat)} {cs : List PV} (ho : o.op = .build t parts) (ht : T t = some ti) (hs : structD ti.d = some fs) (hp : placesP T fs.toList = some pl)
    (hf : fillP (lpl pl) (ti.zero.cells.toList.map .atom) (parts.toList.map fun x => (x.1, E x.2)) = some cs) (h : Q (.agg cs) st) : OpGoes P E st o Q := by
  refine OpGoes.still (fun K σ w ρ hR hE => ?_) h
  obtain ⟨hu, inf, hi, _, _, hz, _⟩ := hT t ti ht
  rw [structD_spec hs] at hu
  obtain ⟨e1, e2⟩ := evParts hE parts.toList
  obtain ⟨cells', g1, g2, _, g4, _⟩ := fill_spec (place' := fun i => pl.toArray[i]?) (fun i x hx => by simpa [lpl, lnth_eq] using hx) _ _ _ _ ti.zero.cells hf e1 e2 (by simp) (fun j p hp => by
    simp at hp
    obtain ⟨a, ha, rfl⟩ := hp
    simp [rd, ha]; exact .atom _)
  refine ⟨.agg cells', ?_, .agg g2 g4⟩
  have hb : P.built t (parts.toList.map fun x => (x.1, ρ x.2)) = some cells' := by
    unfold Program.built
    rw [hi, hu]
    simp only [hz, placesP_spec hT hp, g1]
  have := run_build (P := P) w t (parts.map fun x => (x.1, ρ x.2)) cells' (by simpa using hb)
  simp only [execOp, ho, Sem.run_bind, this, Result.andThen_ok, Sem.run_pure]

def zeroEls (z : Value) : List PV := z.cells.toList.map .atom
def zerosN (z : List PV) : Nat → List PV
  | 0 => []
  | n + 1 => z ++ zerosN z n
theorem zerosN_len (z : List PV) : ∀ n, (zerosN z n).length = n * z.length
  | 0 => by simp [zerosN]
  | n + 1 => by simp [zerosN, zerosN_len z n, Nat.succ_mul]; omega
theorem zerosN_get (z : List PV) (hz : 0 < z.length) : ∀ n j, j < n * z.length → (zerosN z n)[j]? = z[j % z.length]?
  | 0, j, h => by simp at h
  | n + 1, j, h => by
    rw [Nat.succ_mul] at h
    simp only [zerosN]
    by_cases hj : j < z.length
    · rw [List.getElem?_append_left hj, Nat.mod_eq_of_lt hj]
    · rw [List.getElem?_append_right (by omega), zerosN_get z hz n _ (by omega)]
      congr 1
      conv => rhs; rw [show j = (j - z.length) + z.length by omega, Nat.add_mod_right]

/-- A list in pieces of sz. -/
def piece (sz : Nat) (cs : List PV) (k : Nat) : List PV := (ltake sz (ldrop (k * sz) cs)).getD []
theorem ltake_full {α : Type} : ∀ (n : Nat) (l : List α), n ≤ l.length → ltake n l = some (l.take n)
  | 0, l, _ => by simp [ltake]
  | n + 1, [], h => by simp at h
  | n + 1, a :: l, h => by simp at h; simp [ltake, ltake_full n l h]
theorem piece_spec {sz n : Nat} {cs : List PV} (hl : cs.length = n * sz) {k : Nat} (hk : k < n) : (piece sz cs k).length = sz ∧ ∀ j, j < sz → (piece sz cs k)[j]? = cs[k * sz + j]? := by
  have : (k + 1) * sz ≤ n * sz := Nat.mul_le_mul_right _ hk
  rw [Nat.succ_mul] at this
  unfold piece
  rw [ldrop_eq, ltake_full _ _ (by simp; omega)]
  simp only [Option.getD_some]
  refine ⟨by simp; omega, fun j hj => ?_⟩
  rw [List.getElem?_take, if_pos hj, List.getElem?_drop]

theorem buildSlice_run (hT : TOk P T) {t e : TypeId} {len : Nat} {parts : Array (Nat × Operand)} {ti te : TI} {cs : List PV} (ho : o.op = .buildSlice t len parts) (ht : T t = some ti) (hs : sliceD ti.d = some e) (he : T e = some te) (hsz : Nat.beq te.zero.cells.size te.size = true) (hpos : Nat.blt 0 te.size = true)
    (hok : cellsOk (zeroEls te.zero) = true) (hsmall : Nat.ble (len * te.size) 16777216 = true)
    (hf : fillP (fun i => some (i * te.size, te.size)) (zerosN (zeroEls te.zero) len) (parts.toList.map fun x => (x.1, E x.2)) = some cs) {K : KH} {σ : Nat → Loc} {N : Nat} (w : World) {ρ : Operand → Value} (hE : ∀ x, VR K σ N (E x) (ρ x)) :
    ∃ cells', (execOp ρ o).run P w = .ok (.value (.slice (some ⟨w.heap.size, 0, none⟩) len len)) (w.alloc (.cells cells' e)) ∧ Holds K σ N te.size len (piece te.size cs) cells' 0 ∧ cells'.size = len * te.size ∧ cs.length = len * te.size := by
  have hsz := Nat.eq_of_beq_eq_true hsz
  rw [Nat.blt_eq] at hpos
  have hsmall := Nat.le_of_ble_eq_true hsmall
  have hu := (hT t ti ht).1
  rw [sliceD_spec hs] at hu
  have hzl : (zeroEls te.zero).length = te.size := by simp [zeroEls, hsz]
  obtain ⟨e1, e2⟩ := evParts hE parts.toList
  let zc : Array Value := (Array.range (len * te.size)).map (te.zero.cells[· % te.zero.cells.size]!)
  have hzc : ∀ j, j < len * te.size → rd zc j = rd te.zero.cells (j % te.size) := by
    intro j hj
    have hm : j % te.size < te.zero.cells.size := by rw [hsz]; exact Nat.mod_lt _ hpos
    rw [← getBang _ _ hm]; simp [zc, rd, hj, hsz]
  obtain ⟨cells', g1, g2, g3, g4, g5⟩ := fill_spec (place' := fun i => some (i * te.size, te.size)) (fun i x hx => hx) _ _ _ _ zc hf e1 e2 (by simp [zc, zerosN_len, hzl]) (fun j p hp => by
    have hj : j < len * te.size := by
      have := (List.getElem?_eq_some_iff.1 hp).1
      rwa [zerosN_len, hzl] at this
    rw [zerosN_get _ (by rw [hzl]; exact hpos) _ _ (by rw [hzl]; exact hj), hzl] at hp
    rw [hzc j hj]
    simp [zeroEls] at hp
    obtain ⟨a, ha, rfl⟩ := hp
    simp [rd, ha]; exact .atom _)
  rw [zerosN_len, hzl] at g3
  have hsize : cells'.size = len * te.size := by rw [g2, g3]
  have hone : ∀ j, j < cells'.size → (rd cells' j).oneCell' = true := g5 (fun j hj => by
    have hj : j < len * te.size := by simpa [zc] using hj
    rw [hzc j hj]
    have hm : j % te.size < te.zero.cells.size := by rw [hsz]; exact Nat.mod_lt _ hpos
    exact cellsOk_mem hok (.atom (rd te.zero.cells (j % te.size))) (by simp [zeroEls, rd, hm]))
  refine ⟨cells', ?_, ⟨by simp [hsize], hone, fun k hk => ?_⟩, hsize, g3⟩
  · simp only [execOp, ho, Instr.buildSlice, Sem.run_bind, run_underlying hu, Result.andThen_ok, run_sizeOf hT he]
    rw [if_neg (by simp; omega)]
    by_cases h0 : len * te.size = 0
    · rw [if_pos h0]
      have hlen0 : len = 0 := by rcases Nat.mul_eq_zero.1 h0 with h | h <;> omega
      have hzc0 : zc = #[] := by simp [zc, h0]
      have : Instr.fill (fun i => some (i * te.size, te.size)) ((Array.range (len * te.size)).map ((#[] : Array Value)[· % (#[] : Array Value).size]!)) (parts.toList.map fun x => (x.1, ρ x.2)) = some cells' := by
        rw [← g1]; congr 1; simp [h0, zc]
      have hpe : (Array.map (fun x => (x.1, ρ x.2)) parts).toList = parts.toList.map fun x => (x.1, ρ x.2) := by simp
      simp only [Sem.run_pure, Result.andThen_ok, hpe, this, newRow, Sem.run_bind, run_newObj]
      rfl
    · rw [if_neg h0]
      have hpe : (Array.map (fun x => (x.1, ρ x.2)) parts).toList = parts.toList.map fun x => (x.1, ρ x.2) := by simp
      have hg1 : Instr.fill (fun i => some (i * te.size, te.size)) ((Array.range (len * te.size)).map (te.zero.cells[· % te.zero.cells.size]!)) (parts.toList.map fun x => (x.1, ρ x.2)) = some cells' := g1
      simp only [Sem.run_bind, run_zeroValue hT he, Result.andThen_ok, Sem.run_pure, hpe, hg1, newRow, run_newObj]
      rfl
  · have hk' : k < len := hk
    obtain ⟨p1, p2⟩ := piece_spec (sz := te.size) (n := len) (cs := cs) (by rw [g3]) hk'
    refine ⟨p1, fun j p hp => ?_⟩
    have hj : j < te.size := by rw [← p1]; exact (List.getElem?_eq_some_iff.1 hp).1
    rw [p2 j hj] at hp
    have := g4 _ p hp
    simpa using this
theorem G_buildSlice (hT : TOk P T) {t e : TypeId} {len : Nat} {parts : Array (Nat × Operand)} {ti te : TI} {cs : List PV} (ho : o.op = .buildSlice t len parts) (ht : T t = some ti) (hs : sliceD ti.d = some e) (he : T e = some te) (hsz : Nat.beq te.zero.cells.size te.size = true) (hpos : Nat.blt 0 te.size = true)
    (hok : cellsOk (zeroEls te.zero) = true) (hsmall : Nat.ble (len * te.size) 16777216 = true)
    (hf : fillP (fun i => some (i * te.size, te.size)) (zerosN (zeroEls te.zero) len) (parts.toList.map fun x => (x.1, E x.2)) = some cs) (h : Q (.slc st.length 0 len) (st ++ [some ⟨e, te.size, len, piece te.size cs, false, false⟩])) : OpGoes P E st o Q := by
  refine OpGoes.fresh rfl (fun K σ w ρ hR hE => ?_) h
  obtain ⟨cells', hr, hh, hsize, _⟩ := buildSlice_run hT ho ht hs he hsz hpos hok hsmall hf w hE
  rw [Nat.blt_eq] at hpos
  have hsmall := Nat.le_of_ble_eq_true hsmall
  refine ⟨_, cells', _, hr, (Below.refl _ _).alloc (Nat.le_refl _) _, heap_alloc_new w _, hh, fun σ' _ hs' => ?_⟩
  have hm : len ≤ maxLen := by
    have : len * 1 ≤ len * te.size := Nat.mul_le_mul_left _ hpos
    simp only [maxLen]; omega
  have := VR.slc (K := K) (σ := σ') (N := st.length + 1) (i := st.length) (k := 0) (n := len) (cap := len) (by omega) (by rw [hs']) (by rw [hs']; simp [hsize]) (Nat.le_refl _) hm
  simpa [hs'] using this

theorem G_make (hT : TOk P T) {t e : TypeId} {x y : Operand} {ti te : TI} {n : Nat} {kx ky : IntKind} {m c : Int} (ho : o.op = .makeSlice t x y) (ht : T t = some ti) (hs : sliceD ti.d = some e) (he : T e = some te) (hsz : Nat.beq te.zero.cells.size te.size = true) (hpos : Nat.blt 0 te.size = true)
    (hok : cellsOk (zeroEls te.zero) = true) (hx : E x = .atom (.int kx m)) (hy : E y = .atom (.int ky c)) (h0 : 0 ≤ m) (h1 : m ≤ c) (hb : (te.bytes : Int) * c ≤ 281474976710656) (h63 : c ≤ 9223372036854775807) (hm : m = n)
    (h : Q (.slc st.length 0 n) (st ++ [some ⟨e, te.size, n, fun _ => zeroEls te.zero, false, false⟩])) : OpGoes P E st o Q := by
  have hsz := Nat.eq_of_beq_eq_true hsz
  rw [Nat.blt_eq] at hpos
  obtain ⟨hu, _⟩ := hT t ti ht
  rw [sliceD_spec hs] at hu
  obtain ⟨_, inf, hi, hsi, hby, hz, _⟩ := hT e te he
  refine OpGoes.fresh rfl (fun K σ w ρ hR hE => ?_) h
  have vx := hE x; have vy := hE y
  rw [hx] at vx; rw [hy] at vy
  have hrun := run_make (P := P) w t e inf te.zero hu hi hz kx ky m c h0 h1 (by rw [hby]; exact hb) h63
  have hcs : (madeCells te.zero.cells (c.toNat * inf.size)).size = c.toNat * te.size := by rw [size_madeCells, hsi]
  have hmc : ∀ j, j < c.toNat * te.size → rd (madeCells te.zero.cells (c.toNat * inf.size)) j = rd te.zero.cells (j % te.size) := by
    intro j hj
    have hm : j % te.size < te.zero.cells.size := by rw [hsz]; exact Nat.mod_lt _ hpos
    rw [← getBang _ _ hm]; simp [madeCells, rd, hsi, hj, hsz]
  have hnc : n ≤ c.toNat := by omega
  have hmul : n * te.size ≤ c.toNat * te.size := Nat.mul_le_mul_right _ hnc
  refine ⟨_, _, _, by simp only [execOp, ho, vx.atom_inv, vy.atom_inv, Sem.run_bind, hrun, Result.andThen_ok]; rfl, (Below.refl _ _).alloc (Nat.le_refl _) _, heap_alloc_new w _, ⟨by rw [hcs]; show 0 + n * te.size ≤ _; omega, fun j hj => ?_, fun k hk => ⟨by simp [zeroEls, hsz], fun j p hp => ?_⟩⟩, fun σ' _ hs' => ?_⟩
  · rw [hcs] at hj
    rw [hmc _ hj]
    have hm : j % te.size < te.zero.cells.size := by rw [hsz]; exact Nat.mod_lt _ hpos
    exact cellsOk_mem hok (.atom (rd te.zero.cells (j % te.size))) (by simp only [zeroEls, List.mem_map]; exact ⟨_, rd_mem _ _ hm, rfl⟩)
  · have hk' : k < n := hk
    have hj : j < te.size := by
      have := (List.getElem?_eq_some_iff.1 hp).1
      simpa [zeroEls, hsz] using this
    have : (k + 1) * te.size ≤ n * te.size := Nat.mul_le_mul_right _ hk'
    rw [Nat.succ_mul] at this
    show VR _ _ _ _ (rd _ (0 + k * te.size + j))
    rw [hmc _ (by omega), show (0 + k * te.size + j) % te.size = j by rw [Nat.zero_add, Nat.mul_comm, Nat.mul_add_mod, Nat.mod_eq_of_lt hj]]
    simp [zeroEls] at hp
    obtain ⟨a, ha, rfl⟩ := hp
    simp [rd, ha]; exact .atom _
  · have hml : c.toNat ≤ maxLen := by simp only [maxLen]; omega
    have hmn : m.toNat = n := by omega
    have := VR.slc (K := K) (σ := σ') (N := st.length + 1) (i := st.length) (k := 0) (n := n) (cap := c.toNat) (by omega) (by rw [hs']) (by rw [hs', hcs]; simp) hnc hml
    simpa [hs', hmn] using this
end
end Go.Sy
end
section
/- 'append'. -/
set_option linter.unusedVariables false
set_option linter.unusedSimpArgs false
set_option linter.unusedSectionVars false
namespace Go.Sy
open Go Go.RowKit
variable [Globs]

theorem VR.slc' {K : KH} {σ : Nat → Loc} {N i k n cap b o : Nat} (hi : i < N) (hr : (σ i).real = true) (ht : (σ i).off + (k + cap) * (σ i).sz = (σ i).tot) (hn : n ≤ cap) (hm : cap ≤ maxLen) (hb : (σ i).blk = b) (ho : (σ i).off + k * (σ i).sz = o) :
    VR K σ N (.slc i k n) (.slice (some ⟨b, o, none⟩) n cap) := by subst hb; subst ho; exact .slc hi hr ht hn hm
theorem cell?_heap {w w' : World} (h : w'.heap = w.heap) (a : Addr) : w'.cell? a = w.cell? a := by simp [World.cell?, h]

section
variable {P : Program} {T : TT} {E : Operand → PV} {st : St} {o : Oper} {Q : PV → St → Prop}

/-- Another id for (a part of) a block. -/
theorem Rel.rename {K : KH} {σ : Nat → Loc} {w : World} (hR : Rel K σ st w) {i : Nat} {B B' : Blk} (hB : st.get i = some B) (hro : B.ro = false) (hro' : B'.ro = false) (hr : (σ i).real = true) {k0 : Nat} (he : B'.e = B.e) (hsz : B'.sz = B.sz) (hn : k0 + B'.n ≤ B.n) (hel : ∀ k, k < B'.n → B'.el k = B.el (k0 + k)) (hfu : B'.full = false := by first | rfl | assumption) :
    Rel K (sx σ st.length ⟨(σ i).blk, (σ i).off + k0 * (σ i).sz, (σ i).tot, (σ i).sz, true, Loc.al_add (σ i) k0⟩) (st.upd i none ++ [some B']) w ∧
    Ext K σ st w K (sx σ st.length ⟨(σ i).blk, (σ i).off + k0 * (σ i).sz, (σ i).tot, (σ i).sz, true, Loc.al_add (σ i) k0⟩) (st.upd i none ++ [some B']) w := by
  generalize hL : (⟨(σ i).blk, (σ i).off + k0 * (σ i).sz, (σ i).tot, (σ i).sz, true, Loc.al_add (σ i) k0⟩ : Loc) = L
  have hsig : ∀ j, j < st.length → sx σ st.length L j = σ j := fun j hj => sx_old hj
  have hlen : (st.upd i none ++ [some B']).length = st.length + 1 := by simp [St.length_upd]
  have cases' : ∀ {j C}, St.get (st.upd i none ++ [some B']) j = some C → (j ≠ i ∧ j < st.length ∧ st.get j = some C) ∨ (j = st.length ∧ C = B') := by
    intro j C hC
    rcases St.get_push_cases hC with hC | ⟨hj, hBC⟩
    · rcases St.get_upd_cases hC with ⟨_, hc⟩ | ⟨hji, hC⟩
      · cases hc
      · exact .inl ⟨hji, St.get_lt hC, hC⟩
    · rw [St.length_upd] at hj
      exact .inr ⟨hj, by cases hBC; rfl⟩
  rcases hR.own i B hB with ⟨hf, _⟩ | ⟨_, cur, g1, g2, g3, g4, g5⟩
  · rw [hr] at hf; cases hf
  refine ⟨⟨hR.kin, fun j C hC => ?_, fun j l C D hC hD h1 h2 hbe => ?_, hR.gl, fun j C hC hf hr2 => by
    rcases cases' hC with ⟨_, hlt, hC⟩ | ⟨_, rfl⟩
    · rw [hsig j hlt] at hr2 ⊢; exact hR.fl j C hC hf hr2
    · rw [hfu] at hf; cases hf⟩, ⟨fun _ _ h => h, hsig, by rw [hlen]; omega, rfl, rfl, rfl, Nat.le_refl _, fun j C hC hr' hl => ?_, fun k hk _ => rfl, fun b cur h => .inl h⟩⟩
  · rw [hlen]
    rcases cases' hC with ⟨hji, hlt, hC⟩ | ⟨rfl, rfl⟩
    · rw [hsig j hlt]
      rcases hR.own j C hC with h | ⟨hr', c, f1, f2, f3, f4, f5⟩
      · exact .inl h
      · exact .inr ⟨hr', c, f1, f2, f3, f4.mono (fun _ _ h => h) hsig (by omega), f5⟩
    · rw [sx_new, ← hL]
      refine .inr ⟨rfl, cur, by rw [he]; exact g1, g2, by rw [hsz]; exact g3, ?_, by rw [hro']; rw [hro] at g5; exact g5⟩
      have hmul : (k0 + C.n) * B.sz ≤ B.n * B.sz := Nat.mul_le_mul_right _ hn
      rw [Nat.add_mul] at hmul
      have hb := g4.1
      rw [hL]
      refine ⟨by rw [hsz, ← hL]; show (σ i).off + k0 * (σ i).sz + _ ≤ _; rw [g3]; omega, g4.2.1, fun k hk => ?_⟩
      · obtain ⟨a1, a2⟩ := g4.2.2 (k0 + k) (by omega)
        rw [hel k hk, hsz]
        refine ⟨a1, fun j p hp => ?_⟩
        have := a2 j p hp
        have e1 : (σ i).off + (k0 + k) * B.sz + j = L.off + k * B.sz + j := by
          rw [← hL, Nat.add_mul]
          show _ = (σ i).off + k0 * (σ i).sz + k * B.sz + j
          rw [g3]; omega
        rw [e1] at this
        exact this.mono (fun _ _ h => h) hsig (by omega)
  · rcases cases' hC with ⟨hji, hlt, hC⟩ | ⟨rfl, rfl⟩ <;> rcases cases' hD with ⟨hli, hlt', hD⟩ | ⟨rfl, rfl⟩
    · rw [hsig j hlt] at h1 hbe
      rw [hsig l hlt'] at h2 hbe
      exact hR.sep j l C D hC hD h1 h2 hbe
    · rw [hsig j hlt, sx_new, ← hL] at hbe
      rw [hsig j hlt] at h1
      exact absurd (hR.sep j i _ B (by assumption) hB h1 hr hbe) hji
    · rw [hsig l hlt', sx_new, ← hL] at hbe
      rw [hsig l hlt'] at h2
      exact absurd (hR.sep i l B _ hB (by assumption) hr h2 hbe) (Ne.symm hli)
    · rfl
  · rcases cases' hC with ⟨hji, hlt, hC⟩ | ⟨rfl, rfl⟩
    · rw [hsig j hlt] at hl ⊢
      exact .inl ⟨j, C, hC, hr', hl, rfl⟩
    · rw [sx_new, ← hL]
      exact .inl ⟨i, B, hB, hro, hr, rfl⟩

/-- What a slice's elements are, for a reader. -/
structure Src (K : KH) (σ : Nat → Loc) (N : Nat) (w : World) (u : Value) (sz m : Nat) (el : Nat → List PV) (news : List Value) : Prop where
  form : ∃ B c, u = .slice B m c
  len : news.length = m * sz
  one : ∀ v ∈ news, v.oneCell' = true
  get : ∀ (P : Program) w', w'.heap = w.heap → (Builtin.firstCells sz m u).run P w' = .ok news.toArray w'
  holds : ∀ k, k < m → (el k).length = sz ∧ ∀ j p, (el k)[j]? = some p → VR K σ N p (rd news.toArray (k * sz + j))

theorem Src.empty (K : KH) (σ : Nat → Loc) (N : Nat) (w : World) (B : Option Addr) (c sz : Nat) (el : Nat → List PV) : Src K σ N w (.slice B 0 c) sz 0 el [] := by
  refine ⟨⟨B, c, rfl⟩, by simp, by simp, fun P w' _ => ?_, fun k hk => by omega⟩
  cases B with
  | none => simp [Builtin.firstCells]
  | some b => simp [Builtin.firstCells, loadCells, loadCellsFrom]

theorem Src.of_cells {K : KH} {σ : Nat → Loc} {N : Nat} {w : World} {b o m c sz : Nat} {e : TypeId} {fr : Nat × Nat} {cur : Array Value} {el : Nat → List PV} (hb : w.heap[b]? = some (.cells cur e fr)) (hs : o + m * sz ≤ cur.size)
    (h1 : ∀ k j, k < m → j < sz → (rd cur (o + k * sz + j)).oneCell' = true) (h : ∀ k, k < m → (el k).length = sz ∧ ∀ j p, (el k)[j]? = some p → VR K σ N p (rd cur (o + k * sz + j))) :
    Src K σ N w (.slice (some ⟨b, o, none⟩) m c) sz m el ((List.range (m * sz)).map fun t => rd cur (o + t)) := by
  refine ⟨⟨_, _, rfl⟩, by simp, fun v hv => ?_, fun P w' hw => ?_, fun k hk => ⟨(h k hk).1, fun j p hp => ?_⟩⟩
  · simp at hv
    obtain ⟨t, ht, rfl⟩ := hv
    have hz : 0 < sz := by rcases Nat.eq_zero_or_pos sz with h | h; (· subst h; simp at ht); exact h
    have := h1 (t / sz) (t % sz) (by rw [Nat.div_lt_iff_lt_mul hz]; exact ht) (Nat.mod_lt _ hz)
    rwa [Nat.add_assoc, Nat.mul_comm, Nat.div_add_mod] at this
  · refine run_firstCells_some (P := P) w' sz m ⟨b, o, none⟩ m c _ (by simp) (fun j v hv => ?_)
    rw [add_spot, cell?_heap hw, cell_of_row w b (o + j) cur e fr hb]
    have hj : j < m * sz := by
      have := (List.getElem?_eq_some_iff.1 hv).1
      simpa using this
    simp [hj] at hv
    subst hv
    simp [rd, show o + j < cur.size by omega]
  · have hj : j < sz := by rw [← (h k hk).1]; exact (List.getElem?_eq_some_iff.1 hp).1
    have : (k + 1) * sz ≤ m * sz := Nat.mul_le_mul_right _ hk
    rw [Nat.succ_mul] at this
    rw [rd_range _ _ _ (by omega), ← Nat.add_assoc]
    exact (h k hk).2 j p hp

/-- The elements of a slice, as the state shows them. -/
def srcP (st : St) : PV → Option (Nat × Nat × (Nat → List PV))
  | .fz sz n el => some (sz, n, el)
  | .slc i k n => match st.get i with
    | some B => bif Nat.ble (k + n) B.n then some (B.sz, n, fun j => B.el (k + j)) else none
    | none => none
  | _ => none

theorem src_fz {K : KH} {σ : Nat → Loc} {w : World} {sz n : Nat} {el : Nat → List PV} {u : Value} (hR : Rel K σ st w) (hv : VR K σ st.length (.fz sz n el) u) : ∃ news, Src K σ st.length w u sz n el news := by
  cases hv with
  | fz hb hn hc hm hs hl h1 h =>
    obtain ⟨e, he⟩ := hR.kin _ _ hb
    exact ⟨_, Src.of_cells he hs h1 (fun k hk => ⟨hl k hk, fun j p hp => (h k hk j p hp).zero _ _⟩)⟩
  | fz0 A cap hm => exact ⟨[], Src.empty ..⟩
theorem src_slc {K : KH} {σ : Nat → Loc} {w : World} {i k n : Nat} {B : Blk} {u : Value} (hR : Rel K σ st w) (hB : st.get i = some B) (hn : k + n ≤ B.n) (hv : VR K σ st.length (.slc i k n) u) : ∃ news, Src K σ st.length w u B.sz n (fun j => B.el (k + j)) news := by
  cases hv with
  | slc hi hr ht hc hm =>
    rcases hR.own i B hB with ⟨hf, _⟩ | ⟨_, cur, g1, g2, g3, g4, g5⟩
    · rw [hr] at hf; cases hf
    · have hmul : (k + n) * B.sz ≤ B.n * B.sz := Nat.mul_le_mul_right _ hn
      rw [Nat.add_mul] at hmul
      have hb := g4.1
      rw [g3]
      refine ⟨_, Src.of_cells g1 (by omega) (fun j l hj hl => ?_) (fun j hj => ⟨(g4.2.2 (k + j) (by omega)).1, fun l p hp => ?_⟩)⟩
      · have := g4.one (k + j) l (by omega) hl
        rwa [Nat.add_mul, ← Nat.add_assoc] at this
      · have := (g4.2.2 (k + j) (by omega)).2 l p hp
        rwa [Nat.add_mul, ← Nat.add_assoc] at this
  | slc0 A => exact ⟨[], Src.empty ..⟩

/-- What is appended: the elements of a slice, or the bytes of a string. -/
structure Srt (P : Program) (t2 : TypeId) (K : KH) (σ : Nat → Loc) (N : Nat) (w : World) (u : Value) (sz m : Nat) (el : Nat → List PV) (news : List Value) : Prop where
  len2 : ∀ w', (Builtin.lenOf u).run P w' = .ok m w'
  nint : P.underlying t2 = some .string ∨ ∃ e, P.underlying t2 = some (.slice e)
  len : news.length = m * sz
  one : ∀ v ∈ news, v.oneCell' = true
  get : ∀ w', w'.heap = w.heap → (Builtin.firstCells sz m u).run P w' = .ok news.toArray w'
  holds : ∀ k, k < m → (el k).length = sz ∧ ∀ j p, (el k)[j]? = some p → VR K σ N p (rd news.toArray (k * sz + j))
theorem Src.srt {P : Program} {t e : TypeId} {K : KH} {σ : Nat → Loc} {N : Nat} {w : World} {u : Value} {sz m : Nat} {el : Nat → List PV} {news : List Value} (h : Src K σ N w u sz m el news) (hu : P.underlying t = some (.slice e)) : Srt P t K σ N w u sz m el news := by
  obtain ⟨B, c, rfl⟩ := h.form
  exact ⟨fun w' => by simp [Builtin.lenOf], .inr ⟨_, hu⟩, h.len, h.one, fun w' hw => h.get P w' hw, h.holds⟩

theorem run_append_fit (hT : TOk P T) {t e ty : TypeId} {ti te : TI} (ht : T t = some ti) (hs : sliceD ti.d = some e) (he : T e = some te) {w : World} {A : Option Addr} {n cap m : Nat} {u : Value} {K : KH} {σ : Nat → Loc} {N : Nat} {el : Nat → List PV} {news : List Value} {t2 : TypeId} (hsrc : Srt P t2 K σ N w u te.size m el news) (hfit : n + m ≤ cap) :
    (Builtin.append_ #[t, t2] ty #[.slice A n cap, u]).run P w = (match A with | some a => (storeCells (a.add (n * te.size)) news).run P w | none => .ok () w).andThen fun _ w' => .ok (.slice A (n + m) cap) w' := by
  have hu := (hT t ti ht).1
  rw [sliceD_spec hs] at hu
  have hg := hsrc.get w rfl
  have hl := hsrc.len2
  rcases hsrc.nint with hd | ⟨_, hd⟩ <;> (cases A <;> simp [Builtin.append_, run_underlying hu, run_underlying hd, run_sizeOf hT he, hl, hfit, hg])

theorem run_append_more (hT : TOk P T) {t e ty : TypeId} {ti te : TI} (ht : T t = some ti) (hs : sliceD ti.d = some e) (he : T e = some te) {w : World} {A : Option Addr} {n cap m : Nat} {u : Value} {K : KH} {σ : Nat → Loc} {N : Nat} {el el0 : Nat → List PV} {olds news : List Value}
    (hold : Src K σ N w (.slice A n cap) te.size n el0 olds) {t2 : TypeId} (hsrc : Srt P t2 K σ N w u te.size m el news) (hg : cap < n + m) (hb0 : 0 < te.bytes) (hb : (n + m) * te.bytes ≤ 140737488355328) :
    (Builtin.append_ #[t, t2] ty #[.slice A n cap, u]).run P w = .ok (.slice (some ⟨w.heap.size, 0, none⟩) (n + m) (grownCap w (n + m) cap e)) (w.drew.alloc (.cells (olds.toArray ++ news.toArray ++ Builtin.zeroCells te.zero.cells (grownCap w (n + m) cap e - (n + m))) e)) := by
  have hu := (hT t ti ht).1
  rw [sliceD_spec hs] at hu
  obtain ⟨_, inf, hi, hsi, hby, hz, _⟩ := hT e te he
  have hl := hsrc.len2
  have h1 := hold.get P w.drew rfl
  have h2 := hsrc.get w.drew rfl
  have hn : ¬ (n + m ≤ cap) := by omega
  have hle : n + m ≤ (n + m) * te.bytes := Nat.le_mul_of_pos_right _ hb0
  have h63 : ¬ (9223372036854775807 < ((n : Int) + (m : Int))) := by omega
  have h48 : ¬ (281474976710656 < Builtin.nextslicecap (n + m) cap * te.bytes) := by have := growslice_fits hg hb; omega
  rcases hsrc.nint with hd | ⟨_, hd⟩ <;> (simp [Builtin.append_, run_underlying hu, run_underlying hd, sizeOf, typeInfo, zeroValue, hi, hz, hsi, hby, hl, hn, h63, h48, Question.forced, h1, h2, newRow, grownCap]; congr 2; apply Array.ext'; simp [List.append_assoc])

theorem mem_zeroCells {zero : Array Value} {n : Nat} {v : Value} (h : v ∈ Builtin.zeroCells zero n) : v ∈ zero := by
  unfold Builtin.zeroCells at h
  simp only [Array.mem_map, Array.mem_range] at h
  obtain ⟨i, hi, rfl⟩ := h
  have h0 : 0 < zero.size := by
    rcases Nat.eq_zero_or_pos zero.size with h | h
    · rw [h] at hi; omega
    · exact h
  have hm : i % zero.size < zero.size := Nat.mod_lt _ h0
  rw [getElem!_pos zero _ hm]
  exact Array.getElem_mem hm
def dropO (st : St) : Option Nat → St
  | some i => st.upd i none
  | none => st
/-- What stands in the new row. -/
def appEl (n : Nat) (a b : Nat → List PV) : Nat → List PV := fun j => bif Nat.blt j n then a j else b (j - n)

/-- What is appended, alone. -/
structure SrtN (K : KH) (σ : Nat → Loc) (N : Nat) (sz m : Nat) (el : Nat → List PV) (news : List Value) : Prop where
  len : news.length = m * sz
  one : ∀ v ∈ news, v.oneCell' = true
  holds : ∀ k, k < m → (el k).length = sz ∧ ∀ j p, (el k)[j]? = some p → VR K σ N p (rd news.toArray (k * sz + j))
theorem Srt.toN {P : Program} {t : TypeId} {K : KH} {σ : Nat → Loc} {N : Nat} {w : World} {u : Value} {sz m : Nat} {el : Nat → List PV} {news : List Value} (h : Srt P t K σ N w u sz m el news) : SrtN K σ N sz m el news := ⟨h.len, h.one, h.holds⟩
theorem OpGoes.grownR (hT : TOk P T) {t e : TypeId} {ti te : TI} (ht : T t = some ti) (hs : sliceD ti.d = some e) (he : T e = some te) (hzs : te.zero.cells.size = te.size) {K : KH} {σ : Nat → Loc} {w : World} (hR : Rel K σ st w) {A : Option Addr} {n cap m : Nat} {el el0 : Nat → List PV} {olds news : List Value}
    (hold : Src K σ st.length w (.slice A n cap) te.size n el0 olds) {t2 : TypeId} (hsrc : SrtN K σ st.length te.size m el news) {r : Result Value} (hrun : r = .ok (.slice (some ⟨w.heap.size, 0, none⟩) (n + m) (grownCap w (n + m) cap e)) (w.drew.alloc (.cells (olds.toArray ++ news.toArray ++ Builtin.zeroCells te.zero.cells (grownCap w (n + m) cap e - (n + m))) e))) (hg : cap < n + m) (hb0 : 0 < te.bytes) (hb : (n + m) * te.bytes ≤ 140737488355328) {di : Option Nat} {Q : PV → St → Prop}
    (hq : Q (.slc st.length 0 (n + m)) ((dropO st di) ++ [some ⟨e, te.size, n + m, appEl n el0 el, false, false⟩])) :
    ∃ v w', r = .ok v w' ∧ Out Q K σ st w v w' := by
  have hle : n + m ≤ (n + m) * te.bytes := Nat.le_mul_of_pos_right _ hb0
  have hge := grownCap_ge w (n + m) cap e
  have hml : grownCap w (n + m) cap e ≤ maxLen := grownCap_le_maxLen w (n + m) cap e (by simp only [maxLen]; omega)
  obtain ⟨r0, x0⟩ : ∃ st0, (dropO st di) = st0 ∧ st0.length = st.length ∧ Rel K σ st0 w ∧ Ext K σ st w K σ st0 w := by
    cases di with
    | none => exact ⟨st, rfl, rfl, hR, Ext.refl _ _ _ _⟩
    | some i => exact ⟨_, rfl, St.length_upd _ _ _, (hR.drop i).1, (hR.drop i).2⟩
  obtain ⟨hst, hlen, hR0, hX0⟩ := x0
  rw [hst] at hq
  generalize hcells : olds.toArray ++ news.toArray ++ Builtin.zeroCells te.zero.cells (grownCap w (n + m) cap e - (n + m)) = cells at hrun
  have hl1 := hold.len
  have hl2 := hsrc.len
  have hcs : cells.size = grownCap w (n + m) cap e * te.size := by
    rw [← hcells]
    simp only [Array.size_append, List.size_toArray, size_zeroCells, hzs, hl1, hl2, ← Nat.add_mul]
    congr 1; omega
  have hrd1 : ∀ j, j < n * te.size → rd cells j = rd olds.toArray j := by
    intro j hj
    rw [← hcells]
    simp only [rd, Array.getD_eq_getD_getElem?]
    rw [Array.append_assoc, Array.getElem?_append_left (by simp [hl1, hj])]
  have hrd2 : ∀ j, j < m * te.size → rd cells (n * te.size + j) = rd news.toArray j := by
    intro j hj
    rw [← hcells]
    simp only [rd, Array.getD_eq_getD_getElem?]
    rw [Array.append_assoc, Array.getElem?_append_right (by simp [hl1]), Array.getElem?_append_left (by simp [hl1, hl2, hj])]
    simp [hl1]
  have hbelow : Below w.heap.size w (w.drew.alloc (.cells cells e)) := ((Below.refl w.heap.size w).drew).alloc (Nat.le_refl _) _
  have hholds : Holds K σ r0.length te.size (n + m) (appEl n el0 el) cells 0 := by
    have hmul : (n + m) * te.size ≤ grownCap w (n + m) cap e * te.size := Nat.mul_le_mul_right _ hge
    rw [hlen]
    have split : ∀ k, k < n + m → (k < n ∧ appEl n el0 el k = el0 k) ∨ (n ≤ k ∧ appEl n el0 el k = el (k - n)) := by
      intro k hk
      rcases Nat.lt_or_ge k n with h | h
      · exact .inl ⟨h, by rw [appEl, show Nat.blt k n = true by rw [Nat.blt_eq]; exact h]; rfl⟩
      · have : Nat.blt k n = false := by rw [Bool.eq_false_iff]; intro hh; rw [Nat.blt_eq] at hh; omega
        exact .inr ⟨h, by simp [appEl, this]⟩
    have old : ∀ k j, k < n → j < te.size → k * te.size + j < n * te.size := by
      intro k j hk hj
      have : (k + 1) * te.size ≤ n * te.size := Nat.mul_le_mul_right _ hk
      rw [Nat.succ_mul] at this; omega
    have new : ∀ k j, n ≤ k → k < n + m → j < te.size → (k - n) * te.size + j < m * te.size ∧ 0 + k * te.size + j = n * te.size + ((k - n) * te.size + j) := by
      intro k j hk hk' hj
      have : (k - n + 1) * te.size ≤ m * te.size := Nat.mul_le_mul_right _ (by omega)
      rw [Nat.succ_mul] at this
      refine ⟨by omega, ?_⟩
      have : k * te.size = n * te.size + (k - n) * te.size := by rw [← Nat.add_mul]; congr 1; omega
      omega
    refine ⟨by rw [hcs]; omega, fun j hj => ?_, fun k hk => ?_⟩
    · have hz1 := (hT e te he).2.choose_spec.2.2.2.2
      have hmem : rd cells j ∈ cells := by simp only [rd, Array.getD_eq_getD_getElem?, Array.getElem?_eq_getElem hj, Option.getD_some]; exact Array.getElem_mem hj
      rw [← hcells] at hmem
      simp only [Array.mem_append, List.mem_toArray] at hmem
      rcases hmem with (hm | hm) | hm
      · rw [← hcells]; exact hold.one _ hm
      · rw [← hcells]; exact hsrc.one _ hm
      · have := mem_zeroCells hm
        simp only [Array.all_eq_true_iff_forall_mem] at hz1
        rw [← hcells]
        exact hz1 _ this
    · rcases split k hk with ⟨h, hel⟩ | ⟨h, hel⟩
      · obtain ⟨a1, a2⟩ := hold.holds k h
        rw [hel]
        refine ⟨a1, fun j p hp => ?_⟩
        have hj : j < te.size := by rw [← a1]; exact (List.getElem?_eq_some_iff.1 hp).1
        rw [show 0 + k * te.size + j = k * te.size + j by omega, hrd1 _ (old k j h hj)]
        exact a2 j p hp
      · obtain ⟨a1, a2⟩ := hsrc.holds (k - n) (by omega)
        rw [hel]
        refine ⟨a1, fun j p hp => ?_⟩
        have hj : j < te.size := by rw [← a1]; exact (List.getElem?_eq_some_iff.1 hp).1
        obtain ⟨b1, b2⟩ := new k j h hk hj
        rw [b2, hrd2 _ b1]
        exact a2 j p hp
  obtain ⟨h1, h2⟩ := hR0.push hbelow (L := ⟨w.heap.size, 0, cells.size, te.size, true, Nat.zero_mod _⟩) (B := ⟨e, te.size, n + m, appEl n el0 el, false, false⟩) rfl (fun _ => ⟨Nat.le_refl _, cells, heap_alloc_new w.drew _, rfl, rfl, hholds⟩) (fun h => by cases h)
  refine ⟨_, _, hrun, K, _, _, _, hq, hX0.trans h2, h1, ?_⟩
  have hs' : sx σ r0.length ⟨w.heap.size, 0, cells.size, te.size, true, Nat.zero_mod _⟩ st.length = ⟨w.heap.size, 0, cells.size, te.size, true, Nat.zero_mod _⟩ := by rw [← hlen]; exact sx_new _ _ _
  have := VR.slc (K := K) (σ := sx σ r0.length ⟨w.heap.size, 0, cells.size, te.size, true, Nat.zero_mod _⟩) (N := (r0 ++ [some (⟨e, te.size, n + m, appEl n el0 el, false, false⟩ : Blk)]).length) (i := st.length) (k := 0) (n := n + m) (cap := grownCap w (n + m) cap e) (by simp [hlen]) (by rw [hs']) (by rw [hs']; simp [hcs]) hge hml
  simpa [hs'] using this

theorem OpGoes.grown (hT : TOk P T) {t e : TypeId} {ti te : TI} (ht : T t = some ti) (hs : sliceD ti.d = some e) (he : T e = some te) (hzs : te.zero.cells.size = te.size) {K : KH} {σ : Nat → Loc} {w : World} (hR : Rel K σ st w) {A : Option Addr} {n cap m : Nat} {u : Value} {el el0 : Nat → List PV} {olds news : List Value}
    (hold : Src K σ st.length w (.slice A n cap) te.size n el0 olds) {t2 : TypeId} (hsrc : Srt P t2 K σ st.length w u te.size m el news) (hg : cap < n + m) (hb0 : 0 < te.bytes) (hb : (n + m) * te.bytes ≤ 140737488355328) {di : Option Nat} {Q : PV → St → Prop}
    (hq : Q (.slc st.length 0 (n + m)) ((dropO st di) ++ [some ⟨e, te.size, n + m, appEl n el0 el, false, false⟩])) {ty : TypeId} :
    ∃ v w', (Builtin.append_ #[t, t2] ty #[.slice A n cap, u]).run P w = .ok v w' ∧ Out Q K σ st w v w' := OpGoes.grownR (t := t) (t2 := t2) hT ht hs he hzs hR hold hsrc.toN (run_append_more (P := P) (ty := ty) hT ht hs he hold hsrc hg hb0 hb) hg hb0 hb hq

/-- Nothing is put behind nothing. -/
theorem Out.phantom {K : KH} {σ : Nat → Loc} {w : World} (hR : Rel K σ st w) {A : Option Addr} {B : Blk} (hro : B.ro = false) (hn : B.n = 0) (hfu : B.full = false := by first | rfl | assumption) {di : Option Nat} {Q : PV → St → Prop} (hq : Q (.slc st.length 0 0) ((dropO st di) ++ [some B])) :
    Out Q K σ st w (.slice A 0 0) w := by
  obtain ⟨r0, x0⟩ : ∃ st0, (dropO st di) = st0 ∧ st0.length = st.length ∧ Rel K σ st0 w ∧ Ext K σ st w K σ st0 w := by
    cases di with
    | none => exact ⟨st, rfl, rfl, hR, Ext.refl _ _ _ _⟩
    | some i => exact ⟨_, rfl, St.length_upd _ _ _, (hR.drop i).1, (hR.drop i).2⟩
  obtain ⟨hst, hlen, hR0, hX0⟩ := x0
  rw [hst] at hq
  obtain ⟨h1, h2⟩ := hR0.push (Below.refl _ _) (L := ⟨0, 0, 0, 0, false, rfl⟩) (B := B) hro (fun h => by cases h) (fun _ => hn)
  exact ⟨K, _, _, _, hq, hX0.trans h2, h1, .slc0 A⟩

theorem appEl_left {n j : Nat} {a b : Nat → List PV} (h : j < n) : appEl n a b j = a j := by rw [appEl, show Nat.blt j n = true by rw [Nat.blt_eq]; exact h]; rfl
theorem appEl_right {n j : Nat} {a b : Nat → List PV} (h : n ≤ j) : appEl n a b j = b (j - n) := by
  have : Nat.blt j n = false := by rw [Bool.eq_false_iff]; intro hh; rw [Nat.blt_eq] at hh; omega
  simp [appEl, this]

theorem append_nil (hT : TOk P T) {t e ty : TypeId} {ti te : TI} (ht : T t = some ti) (hs : sliceD ti.d = some e) (he : T e = some te) (hzs : te.zero.cells.size = te.size) {K : KH} {σ : Nat → Loc} {w : World} (hR : Rel K σ st w) {A : Option Addr} {m : Nat} {u : Value} {el el0 : Nat → List PV} {news : List Value}
    {t2 : TypeId} (hsrc : Srt P t2 K σ st.length w u te.size m el news) (hb0 : 0 < te.bytes) (hb : m * te.bytes ≤ 140737488355328) {di : Option Nat} {Q : PV → St → Prop}
    (hq : Q (.slc st.length 0 m) ((dropO st di) ++ [some ⟨e, te.size, m, appEl 0 el0 el, false, false⟩])) :
    ∃ v w', (Builtin.append_ #[t, t2] ty #[.slice A 0 0, u]).run P w = .ok v w' ∧ Out Q K σ st w v w' := by
  rcases Nat.eq_zero_or_pos m with rfl | hm
  · have hrun := run_append_fit (P := P) (ty := ty) (A := A) (n := 0) (cap := 0) hT ht hs he hsrc (by omega)
    have hnil : news = [] := List.eq_nil_of_length_eq_zero (by simpa using hsrc.len)
    subst hnil
    refine ⟨.slice A 0 0, w, ?_, Out.phantom hR rfl rfl (hq := hq)⟩
    rw [hrun]
    cases A <;> simp [storeCells]
  · have := OpGoes.grown (P := P) (ty := ty) (A := A) (n := 0) (cap := 0) (m := m) (di := di) (Q := Q) hT ht hs he hzs hR (Src.empty K σ st.length w A 0 te.size el0) hsrc (by omega) hb0 (by simpa using hb) (by simpa using hq)
    simpa using this

theorem append_own (hT : TOk P T) {t e ty : TypeId} {ti te : TI} (ht : T t = some ti) (hs : sliceD ti.d = some e) (he : T e = some te) (hzs : te.zero.cells.size = te.size) {K : KH} {σ : Nat → Loc} {w : World} (hR : Rel K σ st w) {i k0 n m : Nat} {B : Blk} {s u : Value} {el : Nat → List PV} {news : List Value}
    (hB : st.get i = some B) (hro : B.ro = false) (hBe : B.e = e) (hBs : B.sz = te.size) (hkn : k0 + n ≤ B.n) (vs : VR K σ st.length (.slc i k0 n) s) {t2 : TypeId} (hsrc : Srt P t2 K σ st.length w u te.size m el news) (hb0 : 0 < te.bytes) (hb : (n + m) * te.bytes ≤ 140737488355328) {Q : PV → St → Prop}
    (hq : Q (.slc st.length 0 (n + m)) (st.upd i none ++ [some ⟨e, te.size, n + m, appEl n (fun j => B.el (k0 + j)) el, false, false⟩])) :
    ∃ v w', (Builtin.append_ #[t, t2] ty #[s, u]).run P w = .ok v w' ∧ Out Q K σ st w v w' := by
  obtain ⟨olds, hold⟩ := src_slc hR hB hkn vs
  rw [hBs] at hold
  cases vs with
  | slc0 A =>
    have := append_nil (P := P) (ty := ty) (A := A) (di := some i) (Q := Q) (el0 := fun j => B.el (k0 + j)) hT ht hs he hzs hR hsrc hb0 (by simpa using hb) (by simpa [dropO] using hq)
    exact this
  | slc hi hr hcap hnc hml =>
    rename_i cap
    rcases Nat.lt_or_ge cap (n + m) with hg | hfit
    · exact OpGoes.grown (P := P) (ty := ty) (di := some i) hT ht hs he hzs hR hold hsrc hg hb0 hb hq
    · have hrun := run_append_fit (P := P) (ty := ty) (A := some ⟨(σ i).blk, (σ i).off + k0 * (σ i).sz, none⟩) (n := n) (cap := cap) hT ht hs he hsrc hfit
      rcases hR.own i B hB with ⟨hf, _⟩ | ⟨_, cur, g1, g2, g3, g4, g5⟩
      · rw [hr] at hf; cases hf
      rw [hBs] at g3
      have hcm : (k0 + n + m) * te.size ≤ (k0 + cap) * te.size := Nat.mul_le_mul_right _ (by omega)
      rw [Nat.add_mul, Nat.add_mul] at hcm
      rw [g3] at hcap
      have hnl := hsrc.len
      have hst := run_storeCells_at P (σ i).blk ((σ i).off + k0 * te.size + n * te.size) B.e news 0 cur w g1 (by rw [hnl]; omega) hsrc.one
      simp only [Nat.add_zero] at hst
      have hrun := hrun.trans (show _ = Result.ok (Value.slice (some ⟨(σ i).blk, (σ i).off + k0 * te.size, none⟩) (n + m) cap) (w.setRow (σ i).blk (cur.toList.take ((σ i).off + k0 * te.size + n * te.size) ++ news ++ cur.toList.drop ((σ i).off + k0 * te.size + n * te.size + news.length)).toArray) by
        simp only [add_spot, g3, hst, Result.andThen_ok])
      generalize hcur : (cur.toList.take ((σ i).off + k0 * te.size + n * te.size) ++ news ++ cur.toList.drop ((σ i).off + k0 * te.size + n * te.size + news.length)).toArray = cur' at hrun
      have hsize : cur'.size = cur.size := by rw [← hcur]; simp only [List.size_toArray, List.length_append, List.length_take, List.length_drop, Array.length_toList]; omega
      have hrd : ∀ j, rd cur' j = if (σ i).off + k0 * te.size + n * te.size ≤ j ∧ j < (σ i).off + k0 * te.size + n * te.size + news.length then (news[j - ((σ i).off + k0 * te.size + n * te.size)]?).getD undef else rd cur j := by
        intro j; rw [← hcur]; exact rd_splice cur _ _ (by rw [hnl]; omega) j
      have holds : Holds K σ st.length te.size (k0 + (n + m)) (appEl (k0 + n) B.el el) cur' (σ i).off := by
        have old : ∀ k j, k < k0 + n → j < te.size → (σ i).off + k * te.size + j < (σ i).off + k0 * te.size + n * te.size := by
          intro k j hk hj
          have : (k + 1) * te.size ≤ (k0 + n) * te.size := Nat.mul_le_mul_right _ hk
          rw [Nat.succ_mul, Nat.add_mul] at this; omega
        have new : ∀ k j, k0 + n ≤ k → k < k0 + (n + m) → j < te.size → (k - (k0 + n)) * te.size + j < m * te.size ∧ (σ i).off + k * te.size + j = (σ i).off + k0 * te.size + n * te.size + ((k - (k0 + n)) * te.size + j) := by
          intro k j hk hk' hj
          have : (k - (k0 + n) + 1) * te.size ≤ m * te.size := Nat.mul_le_mul_right _ (by omega)
          rw [Nat.succ_mul] at this
          refine ⟨by omega, ?_⟩
          have : k * te.size = k0 * te.size + n * te.size + (k - (k0 + n)) * te.size := by rw [← Nat.add_mul, ← Nat.add_mul]; congr 1; omega
          omega
        have e3 : (k0 + (n + m)) * te.size = k0 * te.size + n * te.size + m * te.size := by rw [Nat.add_mul, Nat.add_mul]; omega
        refine ⟨by rw [hsize, e3]; omega, fun j hj => ?_, fun k hk => ?_⟩
        · rw [hrd]
          split
          · rename_i hh
            have hlt : j - ((σ i).off + k0 * te.size + n * te.size) < news.length := by omega
            rw [List.getElem?_eq_getElem hlt]
            exact hsrc.one _ (List.getElem_mem hlt)
          · rw [hsize] at hj; exact g4.2.1 j hj
        · rcases Nat.lt_or_ge k (k0 + n) with h | h
          · rw [appEl_left h]
            obtain ⟨a1, a2⟩ := g4.2.2 k (by omega)
            rw [hBs] at a1 a2
            refine ⟨a1, fun j p hp => ?_⟩
            have hj : j < te.size := by rw [← a1]; exact (List.getElem?_eq_some_iff.1 hp).1
            have := old k j h hj
            rw [hrd, if_neg (by omega)]
            exact a2 j p hp
          · rw [appEl_right h]
            obtain ⟨a1, a2⟩ := hsrc.holds (k - (k0 + n)) (by omega)
            refine ⟨a1, fun j p hp => ?_⟩
            have hj : j < te.size := by rw [← a1]; exact (List.getElem?_eq_some_iff.1 hp).1
            obtain ⟨b1, b2⟩ := new k j h hk hj
            rw [hrd, if_pos (by omega), b2, Nat.add_sub_cancel_left]
            have := a2 j p hp
            rwa [rd_list] at this
      obtain ⟨s1, s2⟩ := hR.set (B' := ⟨B.e, te.size, k0 + (n + m), appEl (k0 + n) B.el el, false, false⟩) hB hro rfl hr (w' := w.setRow (σ i).blk cur') rfl rfl rfl (size_setRow _ _ _) (fun k' hk' => setRow_other w (σ i).blk k' _ hk')
        (setRow_heap w (σ i).blk cur _ B.e (0, 0) g1) (by rw [hsize, g2]) g3 holds (fun h => nomatch h)
      have hilt : i < st.length := hi
      obtain ⟨r1, r2⟩ := s1.rename (i := i) (B := ⟨B.e, te.size, k0 + (n + m), appEl (k0 + n) B.el el, false, false⟩) (B' := ⟨e, te.size, n + m, appEl n (fun j => B.el (k0 + j)) el, false, false⟩) (k0 := k0) (St.get_upd_same _ hilt) rfl rfl hr (by rw [hBe]) rfl (Nat.le_refl _) (fun k hk => by
        show appEl n (fun j => B.el (k0 + j)) el k = appEl (k0 + n) B.el el (k0 + k)
        rcases Nat.lt_or_ge k n with h | h
        · rw [appEl_left h, appEl_left (by omega)]
        · rw [appEl_right h, appEl_right (by omega)]; congr 1; omega)
      have hupd : (st.upd i (some ⟨B.e, te.size, k0 + (n + m), appEl (k0 + n) B.el el, false, false⟩)).upd i none = st.upd i none := by simp [St.upd_eq]
      rw [hupd, St.length_upd] at r1 r2
      refine ⟨_, _, hrun, K, _, _, _, hq, s2.trans r2, r1, ?_⟩
      have hsx := sx_new σ st.length ⟨(σ i).blk, (σ i).off + k0 * (σ i).sz, (σ i).tot, (σ i).sz, true, Loc.al_add (σ i) k0⟩
      exact VR.slc' (by simp [St.length_upd]) (by rw [hsx]) (by
        rw [hsx]; show (σ i).off + k0 * (σ i).sz + (0 + cap) * (σ i).sz = (σ i).tot
        rw [g3, ← hcap, Nat.add_mul, Nat.add_mul]; omega) hfit hml (by rw [hsx]) (by rw [hsx]; show (σ i).off + k0 * (σ i).sz + 0 * (σ i).sz = _; rw [g3]; omega)

theorem G_append_own (hT : TOk P T) {t e : TypeId} {ti te : TI} {x y : Operand} {i k0 n m : Nat} {B : Blk} {el : Nat → List PV} (ho : o.op = .call { callee := .builtin .append, args := #[x, y], argTypes := #[t, t] }) (ht : T t = some ti) (hs : sliceD ti.d = some e) (he : T e = some te)
    (hx : E x = .slc i k0 n) (hB : st.get i = some B) (hc : (bif B.ro then false else bif Nat.beq B.e e then bif Nat.beq B.sz te.size then bif Nat.beq te.zero.cells.size te.size then Nat.blt 0 te.bytes else false else false else false) = true) (hkn : k0 + n ≤ B.n)
    (hy : srcP st (E y) = some (te.size, m, el)) (hb : (n + m) * te.bytes ≤ 140737488355328) (h : Q (.slc st.length 0 (n + m)) (st.upd i none ++ [some ⟨e, te.size, n + m, appEl n (fun j => B.el (k0 + j)) el, false, false⟩])) : OpGoes P E st o Q := by
  intro K σ w ρ hR hE
  cases h1 : B.ro <;> simp only [h1, cond_true, cond_false, reduceCtorEq] at hc
  cases h2 : Nat.beq B.e e <;> simp only [h2, cond_true, cond_false, reduceCtorEq] at hc
  cases h3 : Nat.beq B.sz te.size <;> simp only [h3, cond_true, cond_false, reduceCtorEq] at hc
  cases h4 : Nat.beq te.zero.cells.size te.size <;> simp only [h4, cond_true, cond_false, reduceCtorEq] at hc
  rw [Nat.blt_eq] at hc
  have vx := hE x; have vy := hE y
  rw [hx] at vx
  have hsrc : ∃ news, Src K σ st.length w (ρ y) te.size m el news := by
    generalize E y = p at hy vy
    cases p <;> simp only [srcP, reduceCtorEq, Option.some.injEq, Prod.mk.injEq] at hy
    · split at hy
      · rename_i C hC
        rename_i i2 k2 n2 _
        cases hk : Nat.ble (k2 + n2) C.n <;> simp only [hk, cond_true, cond_false, reduceCtorEq, Option.some.injEq, Prod.mk.injEq] at hy
        obtain ⟨e1, rfl, rfl⟩ := hy
        rw [← e1]
        exact src_slc hR hC (Nat.le_of_ble_eq_true hk) vy
      · cases hy
    · obtain ⟨e1, rfl, rfl⟩ := hy
      rw [← e1]
      exact src_fz hR vy
  obtain ⟨news, hsrc⟩ := hsrc
  have hu' := (hT t ti ht).1
  rw [sliceD_spec hs] at hu'
  have hsrc := hsrc.srt hu'
  obtain ⟨v, w', hr, hout⟩ := append_own (P := P) (ty := o.type) hT ht hs he (Nat.eq_of_beq_eq_true h4) hR hB h1 (Nat.eq_of_beq_eq_true h2) (Nat.eq_of_beq_eq_true h3) hkn vx hsrc hc hb h
  exact .inl ⟨v, w', .inl (by simp [execOp, ho, resolve, invoke, builtin, hr]), hout⟩

theorem G_append_nil (hT : TOk P T) {t e : TypeId} {ti te : TI} {x y : Operand} {m : Nat} {el : Nat → List PV} (ho : o.op = .call { callee := .builtin .append, args := #[x, y], argTypes := #[t, t] }) (ht : T t = some ti) (hs : sliceD ti.d = some e) (he : T e = some te)
    (hx : E x = .atom (.slice none 0 0)) (hc : (bif Nat.beq te.zero.cells.size te.size then Nat.blt 0 te.bytes else false) = true)
    (hy : srcP st (E y) = some (te.size, m, el)) (hb : m * te.bytes ≤ 140737488355328) (h : Q (.slc st.length 0 m) (st ++ [some ⟨e, te.size, m, el, false, false⟩])) : OpGoes P E st o Q := by
  intro K σ w ρ hR hE
  cases h4 : Nat.beq te.zero.cells.size te.size <;> simp only [h4, cond_true, cond_false, reduceCtorEq] at hc
  rw [Nat.blt_eq] at hc
  have vx := hE x; have vy := hE y
  rw [hx] at vx
  have hsrc : ∃ news, Src K σ st.length w (ρ y) te.size m el news := by
    generalize E y = p at hy vy
    cases p <;> simp only [srcP, reduceCtorEq, Option.some.injEq, Prod.mk.injEq] at hy
    · split at hy
      · rename_i C hC
        rename_i i2 k2 n2 _
        cases hk : Nat.ble (k2 + n2) C.n <;> simp only [hk, cond_true, cond_false, reduceCtorEq, Option.some.injEq, Prod.mk.injEq] at hy
        obtain ⟨e1, rfl, rfl⟩ := hy
        rw [← e1]
        exact src_slc hR hC (Nat.le_of_ble_eq_true hk) vy
      · cases hy
    · obtain ⟨e1, rfl, rfl⟩ := hy
      rw [← e1]
      exact src_fz hR vy
  obtain ⟨news, hsrc⟩ := hsrc
  have hu' := (hT t ti ht).1
  rw [sliceD_spec hs] at hu'
  have hsrc := hsrc.srt hu'
  have e0 : appEl 0 el el = el := by funext j; rw [appEl_right (Nat.zero_le _)]; rfl
  obtain ⟨v, w', hr, hout⟩ := append_nil (P := P) (ty := o.type) (A := none) (di := none) (el0 := el) (Q := Q) hT ht hs he (Nat.eq_of_beq_eq_true h4) hR hsrc hc hb (by rw [e0]; exact h)
  exact .inl ⟨v, w', .inl (by simp [execOp, ho, resolve, invoke, builtin, vx.atom_inv, hr]), hout⟩
end
end Go.Sy
end
