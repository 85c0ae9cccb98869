/- Texts merged: Y26, Y27. -/
import Derived.Test.YtffckdfcmdmnoaaDoorM22
section
/- Rows that are as long as their room. -/
set_option linter.unusedVariables false
set_option linter.unusedSimpArgs false
set_option linter.unusedSectionVars false
namespace Go.Sy
open Go Go.RowKit
variable [Globs]
section
variable {P : Program} {T : TT} {E : Operand → PV} {st : St} {o : Oper} {Q : PV → St → Prop}
end
end Go.Sy
end
section
/- Rows that are frozen as they are built; appends out of a row of one's own; what stays by a rule. -/
set_option linter.unusedVariables false
set_option linter.unusedSimpArgs false
set_option linter.unusedSectionVars false
namespace Go.Sy
open Go Go.RowKit
variable [Globs]
variable {P : Program} {T : TT} {E : Operand → PV} {st : St} {o : Oper} {Q : PV → St → Prop}

theorem G_buildZ (hT : TOk P T) {t e : TypeId} {len : Nat} {parts : Array (Nat × Operand)} {ti te : TI} {cs : List PV} (ho : o.op = .buildSlice t len parts) (ht : T t = some ti) (hs : sliceD ti.d = some e) (he : T e = some te) (hsz : Nat.beq te.zero.cells.size te.size = true) (hpos : Nat.blt 0 te.size = true)
    (hok : cellsOk (zeroEls te.zero) = true) (hsmall : Nat.ble (len * te.size) 16777216 = true)
    (hf : fillP (fun i => some (i * te.size, te.size)) (zerosN (zeroEls te.zero) len) (parts.toList.map fun x => (x.1, E x.2)) = some cs) (hlen : Nat.blt 0 len = true) (hcl : closedL cs = true) (h : Q (.fz te.size len (piece te.size cs)) st) : OpGoes P E st o Q := by
  intro K σ w ρ hR hE
  obtain ⟨cells', hr, hh, hsize, hcs⟩ := buildSlice_run hT ho ht hs he hsz hpos hok hsmall hf w hE
  rw [Nat.blt_eq] at hpos hlen
  have hsmall := Nat.le_of_ble_eq_true hsmall
  have hm : len ≤ maxLen := by
    have : len * 1 ≤ len * te.size := Nat.mul_le_mul_left _ hpos
    simp only [maxLen]; omega
  have hbel : Below w.heap.size w (w.alloc (.cells cells' e)) := (Below.refl _ _).alloc (Nat.le_refl _) _
  have hnew : (w.alloc (.cells cells' e)).heap[w.heap.size]? = some (.cells cells' e (0, 0)) := heap_alloc_new w _
  obtain ⟨K', hK'⟩ : ∃ K' : KH, K' = fun b => if b = w.heap.size then some cells' else K b := ⟨_, rfl⟩
  have hle : ∀ b cur, K b = some cur → K' b = some cur := fun b cur hb => by
    have := hR.klt hb
    rw [hK']; dsimp only; rw [if_neg (by omega)]; exact hb
  obtain ⟨r1, r2⟩ := hR.after (K' := K') hle (fun b cur hb => by
    rw [hK'] at hb
    dsimp only at hb
    by_cases e0 : b = w.heap.size
    · rw [if_pos e0] at hb
      cases hb
      rw [e0]
      exact ⟨(e, (0, 0)), hnew⟩
    · rw [if_neg e0] at hb
      obtain ⟨x, hx⟩ := hR.kin b cur hb
      exact ⟨x, by rw [hbel.block b (hR.klt hb)]; exact hx⟩) (fun b cur hb => by
    rw [hK'] at hb
    dsimp only at hb
    by_cases e0 : b = w.heap.size
    · exact .inr (by omega)
    · rw [if_neg e0] at hb; exact .inl hb) hbel
  refine .inl ⟨_, _, .inl hr, K', σ, st, _, h, r2, r1, ?_⟩
  refine VR.fz (b := w.heap.size) (o := 0) (cur := cells') (by rw [hK']; dsimp only; rw [if_pos rfl]) hlen (Nat.le_refl _) hm (by rw [hsize]; omega) (fun k hk => (hh.2.2 k hk).1) (fun k j hk hj => hh.2.1 _ ?_) (fun k hk j p hp => ?_)
  · have := hh.at hk hj; omega
  · have h1 := (hh.2.2 k hk).2 j p hp
    refine (VR.closed h1 ?_).mono hle (fun i hi => by omega) (Nat.le_refl _)
    obtain ⟨p1, p2⟩ := piece_spec (sz := te.size) (n := len) (cs := cs) (by rw [hcs]) hk
    have hj : j < te.size := by rw [← p1]; exact (List.getElem?_eq_some_iff.1 hp).1
    rw [p2 j hj] at hp
    exact closedL_mem hcl p (List.mem_of_getElem? hp)
/-- What stays, by a rule. -/
theorem Stay.g {ops : Array Oper} {env : Env} {nt : Nat} {e : Option Tmp} {pv : PV} (hw : wants ops env o = some true) (hd : dstN nt o.dst = some e) (h : ∀ R : PV → St → Prop, R pv st → OpGoes P (Env.only (o.looksAt ops) env).ev st o R) (he : ∀ t, e = some t → env t = pv) : Stay P ops st nt o env := by
  obtain ⟨e', hd'⟩ := dstN_spec hd
  refine ⟨pv, ⟨hd', .inl ⟨hw, h _ ⟨rfl, rfl⟩⟩⟩, ?_⟩
  rw [e']
  cases e with
  | none => rfl
  | some t =>
    funext x
    rw [put_at]
    split
    · rename_i hx; rw [hx]; exact (he t rfl).symm
    · rfl
end Go.Sy
end
