/- Literals, 'make', 'append'. -/
import Derived.Test.YtocfjbopkgmjkaaDoorY5
import Derived.Laws.Tables
set_option linter.unusedVariables false
set_option linter.unusedSimpArgs false
set_option linter.unusedSectionVars false
namespace Go.Sy
open Go Go.RowKit
variable [Globs]

theorem rd_pos (a : Array Value) (i : Nat) (h : i < a.size) : rd a i = a[i] := by simp [rd, h]
theorem getBang (a : Array Value) (i : Nat) (h : i < a.size) : a[i]! = rd a i := by rw [getElem!_pos a i h, rd_pos a i h]
theorem rd_mem (a : Array Value) (i : Nat) (h : i < a.size) : rd a i ∈ a.toList := by rw [rd_pos a i h]; simp
theorem foldl_set (off : Nat) : ∀ (vs : List Value) (n : Nat) (cells : Array Value),
    ((vs.zipIdx n).foldl (fun cs (x : Value × Nat) => cs.setIfInBounds (off + x.2) x.1) cells).size = cells.size ∧
    ∀ j, rd ((vs.zipIdx n).foldl (fun cs (x : Value × Nat) => cs.setIfInBounds (off + x.2) x.1) cells) j =
      if off + n ≤ j ∧ j < off + n + vs.length ∧ j < cells.size then rd vs.toArray (j - off - n) else rd cells j
  | [], n, cells => by
    simp only [List.zipIdx_nil, List.foldl_nil, List.length_nil, Nat.add_zero]
    exact ⟨trivial, fun j => by rw [if_neg (by omega)]⟩
  | v :: vs, n, cells => by
    obtain ⟨h1, h2⟩ := foldl_set off vs (n + 1) (cells.setIfInBounds (off + n) v)
    simp only [List.zipIdx_cons, List.foldl_cons]
    refine ⟨by simpa using h1, fun j => ?_⟩
    rw [h2 j]
    simp only [Array.size_setIfInBounds, List.length_cons]
    by_cases hj : off + (n + 1) ≤ j ∧ j < off + (n + 1) + vs.length ∧ j < cells.size
    · rw [if_pos hj, if_pos (by omega)]
      simp only [rd_list]
      rw [show j - off - n = (j - off - (n + 1)) + 1 by omega, List.getElem?_cons_succ]
    · rw [if_neg hj]
      by_cases hn : j = off + n
      · subst hn
        by_cases hs : off + n < cells.size
        · rw [if_pos (by omega)]
          simp [rd, hs]
        · rw [if_neg (by omega)]
          simp [rd, hs]
      · rw [if_neg (by omega)]
        simp [rd, Array.getElem?_setIfInBounds, Ne.symm hn]

/-- Parts put into cells. -/
def fillP (place : Nat → Option (Nat × Nat)) : List PV → List (Nat × PV) → Option (List PV)
  | cs, [] => some cs
  | cs, (i, p) :: rest =>
    match place i with
    | none => none
    | some (off, size) => match pvCells p with
      | none => none
      | some new => bif cellsOk new && (Nat.beq new.length size && Nat.ble (off + new.length) cs.length) then fillP place (setL off cs new) rest else none

theorem fill_spec {K : KH} {σ : Nat → Loc} {N : Nat} {place place' : Nat → Option (Nat × Nat)} (hpl : ∀ i x, place i = some x → place' i = some x) : ∀ (parts : List (Nat × PV)) (rparts : List (Nat × Value)) (cs cs' : List PV) (cells : Array Value), fillP place cs parts = some cs' →
    parts.length = rparts.length → (∀ (j : Nat) i p, parts[j]? = some (i, p) → ∃ v, rparts[j]? = some (i, v) ∧ VR K σ N p v) → cells.size = cs.length → (∀ j p, cs[j]? = some p → VR K σ N p (rd cells j)) →
    ∃ cells', Instr.fill place' cells rparts = some cells' ∧ cells'.size = cs'.length ∧ cs'.length = cs.length ∧ (∀ j p, cs'[j]? = some p → VR K σ N p (rd cells' j)) ∧ ((∀ j, j < cells.size → (rd cells j).oneCell' = true) → ∀ j, j < cells'.size → (rd cells' j).oneCell' = true)
  | [], rparts, cs, cs', cells, h, hlen, _, hsz, hv => by
    simp [fillP] at h; subst h
    have : rparts = [] := List.eq_nil_of_length_eq_zero (by simpa using hlen.symm)
    subst this
    exact ⟨cells, rfl, hsz, rfl, hv, fun h => h⟩
  | (i, p) :: parts, rparts, cs, cs', cells, h, hlen, hp, hsz, hv => by
    obtain ⟨v, hv0, hpv⟩ := hp 0 i p rfl
    cases rparts with
    | nil => simp at hv0
    | cons r rparts =>
      simp at hv0; subst hv0
      unfold fillP at h
      split at h
      · cases h
      · rename_i off size hpla
        split at h
        · cases h
        · rename_i new hnew
          cases hc : (cellsOk new && (Nat.beq new.length size && Nat.ble (off + new.length) cs.length)) with
          | false => simp [hc] at h
          | true =>
            simp only [hc, cond_true] at h
            simp only [Bool.and_eq_true] at hc
            obtain ⟨hok, hs1, hs2⟩ := hc
            have hs1 := Nat.eq_of_beq_eq_true hs1
            have hs2 := Nat.le_of_ble_eq_true hs2
            obtain ⟨c1, c2, c3⟩ := cells_spec hpv hnew hok
            obtain ⟨f1, f2⟩ := foldl_set off v.cells.toList 0 cells
            have hfold : v.cells.zipIdx.foldl (fun cs (x : Value × Nat) => cs.setIfInBounds (off + x.2) x.1) cells = (v.cells.toList.zipIdx 0).foldl (fun cs (x : Value × Nat) => cs.setIfInBounds (off + x.2) x.1) cells := by
              rw [← Array.foldl_toList, Array.toList_zipIdx]
            have hlv : v.cells.toList.length = new.length := by simpa using c1
            generalize hcl : (v.cells.toList.zipIdx 0).foldl (fun cs (x : Value × Nat) => cs.setIfInBounds (off + x.2) x.1) cells = cells1 at f1 f2 hfold
            have hrd : ∀ j, rd cells1 j = if off ≤ j ∧ j < off + new.length then rd v.cells (j - off) else rd cells j := by
              intro j
              rw [f2 j, hlv]
              simp only [Nat.add_zero, Nat.sub_zero, Array.toArray_toList]
              by_cases hj : off ≤ j ∧ j < off + new.length
              · rw [if_pos hj, if_pos (by omega)]
              · rw [if_neg hj, if_neg (by omega)]
            obtain ⟨cells', g1, g2, g3, g4, g5⟩ := fill_spec hpl parts rparts (setL off cs new) cs' cells1 h (by simpa using hlen) (fun j i p hj => by simpa using hp (j + 1) i p (by simpa using hj)) (by rw [f1, setL_len _ _ _ hs2, hsz]) (fun j q hq => by
              rw [setL_get _ _ _ _ hs2] at hq
              rw [hrd]
              by_cases hj : off ≤ j ∧ j < off + new.length
              · rw [if_pos hj] at hq ⊢; exact c2 _ q hq
              · rw [if_neg hj] at hq ⊢; exact hv j q hq)
            refine ⟨cells', ?_, g2, by rw [g3, setL_len _ _ _ hs2], g4, fun ho => g5 (fun j hj => ?_)⟩
            · unfold Instr.fill
              rw [hpl _ _ hpla]
              simp only
              rw [if_neg (by simp only [ne_eq, Bool.or_eq_true, decide_eq_true_eq]; omega)]
              rw [← g1, ← hfold]
            · rw [hrd]
              split
              · have hlt : j - off < v.cells.size := by rw [c1]; omega
                have : rd v.cells (j - off) = v.cells[j - off] := by simp [rd, hlt]
                rw [this]; exact c3 _ (by simp)
              · exact ho j (by rw [← f1]; exact hj)

theorem evParts {K : KH} {σ : Nat → Loc} {N : Nat} {E : Operand → PV} {ρ : Operand → Value} (hE : ∀ x, VR K σ N (E x) (ρ x)) (parts : List (Nat × Operand)) :
    (parts.map fun x => (x.1, E x.2)).length = (parts.map fun x => (x.1, ρ x.2)).length ∧ ∀ (j : Nat) i p, (parts.map fun x => (x.1, E x.2))[j]? = some (i, p) → ∃ v, (parts.map fun x => (x.1, ρ x.2))[j]? = some (i, v) ∧ VR K σ N p v := by
  refine ⟨by simp, fun j i p hj => ?_⟩
  simp at hj ⊢
  obtain ⟨y, z, h1, h2, h3⟩ := hj
  exact ⟨ρ z, ⟨y, z, h1, h2, rfl⟩, h3 ▸ hE z⟩

def placesP (T : TT) : List Field → Option (List (Nat × Nat))
  | [] => some []
  | f :: fs => match T f.type, placesP T fs with
    | some ti, some r => some ((f.offset, ti.size) :: r)
    | _, _ => none
theorem placesP_spec {P : Program} {T : TT} (hT : TOk P T) : ∀ {fs : List Field} {r : List (Nat × Nat)}, placesP T fs = some r → fs.mapM (fun f => (P.info? f.type).map fun i => (f.offset, i.size)) = some r
  | [], r, h => by simp [placesP] at h; subst h; rfl
  | f :: fs, r, h => by
    simp only [placesP] at h
    split at h
    · rename_i ti r' hti hr
      simp at h; subst h
      obtain ⟨_, inf, hi, hs, _⟩ := hT _ _ hti
      simp [List.mapM_cons, hi, placesP_spec hT hr, hs]
    · cases h

def lpl (l : List (Nat × Nat)) (i : Nat) : Option (Nat × Nat) := lnth l i

section
variable {P : Program} {T : TT} {E : Operand → PV} {st : St} {o : Oper} {Q : PV → St → Prop}

theorem G_build (hT : TOk P T) {t : TypeId} {parts : Array (Nat × Operand)} {ti : TI} {fs : Array Field} {pl : List (Nat × Nat)} {cs : List PV} (ho : o.op = .build t parts) (ht : T t = some ti) (hs : structD ti.d = some fs) (hp : placesP T fs.toList = some pl)
    (hf : fillP (lpl pl) (ti.zero.cells.toList.map .atom) (parts.toList.map fun x => (x.1, E x.2)) = some cs) (h : Q (.agg cs) st) : OpGoes P E st o Q := by
  refine OpGoes.still (fun K σ w ρ hR hE => ?_) h
  obtain ⟨hu, inf, hi, _, _, hz⟩ := hT t ti ht
  rw [structD_spec hs] at hu
  obtain ⟨e1, e2⟩ := evParts hE parts.toList
  obtain ⟨cells', g1, g2, _, g4, _⟩ := fill_spec (place' := fun i => pl.toArray[i]?) (fun i x hx => by simpa [lpl, lnth_eq] using hx) _ _ _ _ ti.zero.cells hf e1 e2 (by simp) (fun j p hp => by
    simp at hp
    obtain ⟨a, ha, rfl⟩ := hp
    simp [rd, ha]; exact .atom _)
  refine ⟨.agg cells', ?_, .agg g2 g4⟩
  have hb : P.built t (parts.toList.map fun x => (x.1, ρ x.2)) = some cells' := by
    unfold Program.built
    rw [hi, hu]
    simp only [hz, placesP_spec hT hp, g1]
  have := run_build (P := P) w t (parts.map fun x => (x.1, ρ x.2)) cells' (by simpa using hb)
  simp only [execOp, ho, Sem.run_bind, this, Result.andThen_ok, Sem.run_pure]

def zeroEls (z : Value) : List PV := z.cells.toList.map .atom
def zerosN (z : List PV) : Nat → List PV
  | 0 => []
  | n + 1 => z ++ zerosN z n
theorem zerosN_len (z : List PV) : ∀ n, (zerosN z n).length = n * z.length
  | 0 => by simp [zerosN]
  | n + 1 => by simp [zerosN, zerosN_len z n, Nat.succ_mul]; omega
theorem zerosN_get (z : List PV) (hz : 0 < z.length) : ∀ n j, j < n * z.length → (zerosN z n)[j]? = z[j % z.length]?
  | 0, j, h => by simp at h
  | n + 1, j, h => by
    rw [Nat.succ_mul] at h
    simp only [zerosN]
    by_cases hj : j < z.length
    · rw [List.getElem?_append_left hj, Nat.mod_eq_of_lt hj]
    · rw [List.getElem?_append_right (by omega), zerosN_get z hz n _ (by omega)]
      congr 1
      conv => rhs; rw [show j = (j - z.length) + z.length by omega, Nat.add_mod_right]

/-- A list in pieces of sz. -/
def piece (sz : Nat) (cs : List PV) (k : Nat) : List PV := (ltake sz (ldrop (k * sz) cs)).getD []
theorem ltake_full {α : Type} : ∀ (n : Nat) (l : List α), n ≤ l.length → ltake n l = some (l.take n)
  | 0, l, _ => by simp [ltake]
  | n + 1, [], h => by simp at h
  | n + 1, a :: l, h => by simp at h; simp [ltake, ltake_full n l h]
theorem piece_spec {sz n : Nat} {cs : List PV} (hl : cs.length = n * sz) {k : Nat} (hk : k < n) : (piece sz cs k).length = sz ∧ ∀ j, j < sz → (piece sz cs k)[j]? = cs[k * sz + j]? := by
  have : (k + 1) * sz ≤ n * sz := Nat.mul_le_mul_right _ hk
  rw [Nat.succ_mul] at this
  unfold piece
  rw [ldrop_eq, ltake_full _ _ (by simp; omega)]
  simp only [Option.getD_some]
  refine ⟨by simp; omega, fun j hj => ?_⟩
  rw [List.getElem?_take, if_pos hj, List.getElem?_drop]

theorem buildSlice_run (hT : TOk P T) {t e : TypeId} {len : Nat} {parts : Array (Nat × Operand)} {ti te : TI} {cs : List PV} (ho : o.op = .buildSlice t len parts) (ht : T t = some ti) (hs : sliceD ti.d = some e) (he : T e = some te) (hsz : Nat.beq te.zero.cells.size te.size = true) (hpos : Nat.blt 0 te.size = true)
    (hok : cellsOk (zeroEls te.zero) = true) (hsmall : Nat.ble (len * te.size) 16777216 = true)
    (hf : fillP (fun i => some (i * te.size, te.size)) (zerosN (zeroEls te.zero) len) (parts.toList.map fun x => (x.1, E x.2)) = some cs) {K : KH} {σ : Nat → Loc} {N : Nat} (w : World) {ρ : Operand → Value} (hE : ∀ x, VR K σ N (E x) (ρ x)) :
    ∃ cells', (execOp ρ o).run P w = .ok (.value (.slice (some ⟨w.heap.size, 0, none⟩) len len)) (w.alloc (.cells cells' e)) ∧ Holds K σ N te.size len (piece te.size cs) cells' 0 ∧ cells'.size = len * te.size ∧ cs.length = len * te.size := by
  have hsz := Nat.eq_of_beq_eq_true hsz
  rw [Nat.blt_eq] at hpos
  have hsmall := Nat.le_of_ble_eq_true hsmall
  have hu := (hT t ti ht).1
  rw [sliceD_spec hs] at hu
  have hzl : (zeroEls te.zero).length = te.size := by simp [zeroEls, hsz]
  obtain ⟨e1, e2⟩ := evParts hE parts.toList
  let zc : Array Value := (Array.range (len * te.size)).map (te.zero.cells[· % te.zero.cells.size]!)
  have hzc : ∀ j, j < len * te.size → rd zc j = rd te.zero.cells (j % te.size) := by
    intro j hj
    have hm : j % te.size < te.zero.cells.size := by rw [hsz]; exact Nat.mod_lt _ hpos
    rw [← getBang _ _ hm]; simp [zc, rd, hj, hsz]
  obtain ⟨cells', g1, g2, g3, g4, g5⟩ := fill_spec (place' := fun i => some (i * te.size, te.size)) (fun i x hx => hx) _ _ _ _ zc hf e1 e2 (by simp [zc, zerosN_len, hzl]) (fun j p hp => by
    have hj : j < len * te.size := by
      have := (List.getElem?_eq_some_iff.1 hp).1
      rwa [zerosN_len, hzl] at this
    rw [zerosN_get _ (by rw [hzl]; exact hpos) _ _ (by rw [hzl]; exact hj), hzl] at hp
    rw [hzc j hj]
    simp [zeroEls] at hp
    obtain ⟨a, ha, rfl⟩ := hp
    simp [rd, ha]; exact .atom _)
  rw [zerosN_len, hzl] at g3
  have hsize : cells'.size = len * te.size := by rw [g2, g3]
  have hone : ∀ j, j < cells'.size → (rd cells' j).oneCell' = true := g5 (fun j hj => by
    have hj : j < len * te.size := by simpa [zc] using hj
    rw [hzc j hj]
    have hm : j % te.size < te.zero.cells.size := by rw [hsz]; exact Nat.mod_lt _ hpos
    exact cellsOk_mem hok (.atom (rd te.zero.cells (j % te.size))) (by simp [zeroEls, rd, hm]))
  refine ⟨cells', ?_, ⟨by simp [hsize], fun k j hk hj => ?_, fun k hk => ?_⟩, hsize, g3⟩
  · simp only [execOp, ho, Instr.buildSlice, Sem.run_bind, run_underlying hu, Result.andThen_ok, run_sizeOf hT he]
    rw [if_neg (by simp; omega)]
    by_cases h0 : len * te.size = 0
    · rw [if_pos h0]
      have hlen0 : len = 0 := by rcases Nat.mul_eq_zero.1 h0 with h | h <;> omega
      have hzc0 : zc = #[] := by simp [zc, h0]
      have : Instr.fill (fun i => some (i * te.size, te.size)) ((Array.range (len * te.size)).map ((#[] : Array Value)[· % (#[] : Array Value).size]!)) (parts.toList.map fun x => (x.1, ρ x.2)) = some cells' := by
        rw [← g1]; congr 1; simp [h0, zc]
      have hpe : (Array.map (fun x => (x.1, ρ x.2)) parts).toList = parts.toList.map fun x => (x.1, ρ x.2) := by simp
      simp only [Sem.run_pure, Result.andThen_ok, hpe, this, newRow, Sem.run_bind, run_newObj]
      rfl
    · rw [if_neg h0]
      have hpe : (Array.map (fun x => (x.1, ρ x.2)) parts).toList = parts.toList.map fun x => (x.1, ρ x.2) := by simp
      have hg1 : Instr.fill (fun i => some (i * te.size, te.size)) ((Array.range (len * te.size)).map (te.zero.cells[· % te.zero.cells.size]!)) (parts.toList.map fun x => (x.1, ρ x.2)) = some cells' := g1
      simp only [Sem.run_bind, run_zeroValue hT he, Result.andThen_ok, Sem.run_pure, hpe, hg1, newRow, run_newObj]
      rfl
  · have hk' : k < len := hk
    have hj' : j < te.size := hj
    have : (k + 1) * te.size ≤ len * te.size := Nat.mul_le_mul_right _ hk'
    rw [Nat.succ_mul] at this
    exact hone _ (by rw [hsize]; show 0 + k * te.size + j < _; omega)
  · have hk' : k < len := hk
    obtain ⟨p1, p2⟩ := piece_spec (sz := te.size) (n := len) (cs := cs) (by rw [g3]) hk'
    refine ⟨p1, fun j p hp => ?_⟩
    have hj : j < te.size := by rw [← p1]; exact (List.getElem?_eq_some_iff.1 hp).1
    rw [p2 j hj] at hp
    have := g4 _ p hp
    simpa using this
theorem G_buildSlice (hT : TOk P T) {t e : TypeId} {len : Nat} {parts : Array (Nat × Operand)} {ti te : TI} {cs : List PV} (ho : o.op = .buildSlice t len parts) (ht : T t = some ti) (hs : sliceD ti.d = some e) (he : T e = some te) (hsz : Nat.beq te.zero.cells.size te.size = true) (hpos : Nat.blt 0 te.size = true)
    (hok : cellsOk (zeroEls te.zero) = true) (hsmall : Nat.ble (len * te.size) 16777216 = true)
    (hf : fillP (fun i => some (i * te.size, te.size)) (zerosN (zeroEls te.zero) len) (parts.toList.map fun x => (x.1, E x.2)) = some cs) (h : Q (.slc st.length 0 len) (st ++ [some ⟨e, te.size, len, piece te.size cs, false⟩])) : OpGoes P E st o Q := by
  refine OpGoes.fresh rfl (fun K σ w ρ hR hE => ?_) h
  obtain ⟨cells', hr, hh, hsize, _⟩ := buildSlice_run hT ho ht hs he hsz hpos hok hsmall hf w hE
  rw [Nat.blt_eq] at hpos
  have hsmall := Nat.le_of_ble_eq_true hsmall
  refine ⟨_, cells', _, hr, (Below.refl _ _).alloc (Nat.le_refl _) _, heap_alloc_new w _, hh, fun σ' _ hs' => ?_⟩
  have hm : len ≤ maxLen := by
    have : len * 1 ≤ len * te.size := Nat.mul_le_mul_left _ hpos
    simp only [maxLen]; omega
  have := VR.slc (K := K) (σ := σ') (N := st.length + 1) (i := st.length) (k := 0) (n := len) (cap := len) (by omega) (by rw [hs']) (by rw [hs']; simp [hsize]) (Nat.le_refl _) hm
  simpa [hs'] using this

theorem G_make (hT : TOk P T) {t e : TypeId} {x y : Operand} {ti te : TI} {n : Nat} {kx ky : IntKind} {m c : Int} (ho : o.op = .makeSlice t x y) (ht : T t = some ti) (hs : sliceD ti.d = some e) (he : T e = some te) (hsz : Nat.beq te.zero.cells.size te.size = true) (hpos : Nat.blt 0 te.size = true)
    (hok : cellsOk (zeroEls te.zero) = true) (hx : E x = .atom (.int kx m)) (hy : E y = .atom (.int ky c)) (h0 : 0 ≤ m) (h1 : m ≤ c) (hb : (te.bytes : Int) * c ≤ 281474976710656) (h63 : c ≤ 9223372036854775807) (hm : m = n)
    (h : Q (.slc st.length 0 n) (st ++ [some ⟨e, te.size, n, fun _ => zeroEls te.zero, false⟩])) : OpGoes P E st o Q := by
  have hsz := Nat.eq_of_beq_eq_true hsz
  rw [Nat.blt_eq] at hpos
  obtain ⟨hu, _⟩ := hT t ti ht
  rw [sliceD_spec hs] at hu
  obtain ⟨_, inf, hi, hsi, hby, hz⟩ := hT e te he
  refine OpGoes.fresh rfl (fun K σ w ρ hR hE => ?_) h
  have vx := hE x; have vy := hE y
  rw [hx] at vx; rw [hy] at vy
  have hrun := run_make (P := P) w t e inf te.zero hu hi hz kx ky m c h0 h1 (by rw [hby]; exact hb) h63
  have hcs : (madeCells te.zero.cells (c.toNat * inf.size)).size = c.toNat * te.size := by rw [size_madeCells, hsi]
  have hmc : ∀ j, j < c.toNat * te.size → rd (madeCells te.zero.cells (c.toNat * inf.size)) j = rd te.zero.cells (j % te.size) := by
    intro j hj
    have hm : j % te.size < te.zero.cells.size := by rw [hsz]; exact Nat.mod_lt _ hpos
    rw [← getBang _ _ hm]; simp [madeCells, rd, hsi, hj, hsz]
  have hnc : n ≤ c.toNat := by omega
  have hmul : n * te.size ≤ c.toNat * te.size := Nat.mul_le_mul_right _ hnc
  refine ⟨_, _, _, by simp only [execOp, ho, vx.atom_inv, vy.atom_inv, Sem.run_bind, hrun, Result.andThen_ok]; rfl, (Below.refl _ _).alloc (Nat.le_refl _) _, heap_alloc_new w _, ⟨by rw [hcs]; show 0 + n * te.size ≤ _; omega, fun k j hk hj => ?_, fun k hk => ⟨by simp [zeroEls, hsz], fun j p hp => ?_⟩⟩, fun σ' _ hs' => ?_⟩
  · have hk' : k < n := hk
    have hj' : j < te.size := hj
    have : (k + 1) * te.size ≤ n * te.size := Nat.mul_le_mul_right _ hk'
    rw [Nat.succ_mul] at this
    show (rd _ (0 + k * te.size + j)).oneCell' = true
    rw [hmc _ (by omega)]
    have hm : (0 + k * te.size + j) % te.size < te.zero.cells.size := by rw [hsz]; exact Nat.mod_lt _ hpos
    exact cellsOk_mem hok (.atom (rd te.zero.cells ((0 + k * te.size + j) % te.size))) (by simp only [zeroEls, List.mem_map]; exact ⟨_, rd_mem _ _ hm, rfl⟩)
  · have hk' : k < n := hk
    have hj : j < te.size := by
      have := (List.getElem?_eq_some_iff.1 hp).1
      simpa [zeroEls, hsz] using this
    have : (k + 1) * te.size ≤ n * te.size := Nat.mul_le_mul_right _ hk'
    rw [Nat.succ_mul] at this
    show VR _ _ _ _ (rd _ (0 + k * te.size + j))
    rw [hmc _ (by omega), show (0 + k * te.size + j) % te.size = j by rw [Nat.zero_add, Nat.mul_comm, Nat.mul_add_mod, Nat.mod_eq_of_lt hj]]
    simp [zeroEls] at hp
    obtain ⟨a, ha, rfl⟩ := hp
    simp [rd, ha]; exact .atom _
  · have hml : c.toNat ≤ maxLen := by simp only [maxLen]; omega
    have hmn : m.toNat = n := by omega
    have := VR.slc (K := K) (σ := σ') (N := st.length + 1) (i := st.length) (k := 0) (n := n) (cap := c.toNat) (by omega) (by rw [hs']) (by rw [hs', hcs]; simp) hnc hml
    simpa [hs', hmn] using this
end
end Go.Sy
