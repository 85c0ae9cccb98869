/- The operations that ask for something. -/
import Derived.Test.YtocfjbopkgmjkaaDoorY3
set_option linter.unusedVariables false
set_option linter.unusedSimpArgs false
set_option linter.unusedSectionVars false
namespace Go.Sy
open Go
variable [Globs]
section
variable {P : Program} {T : TT} {E : Operand → PV} {st : St} {o : Oper} {Q : PV → St → Prop}

def bnd (E : Operand → PV) : Option Operand → Int → Int → Prop
  | none, d, l => l = d
  | some y, _, l => ∃ kd, E y = .atom (.int kd l)
def bndV : Option Value → Int → Int → Prop
  | none, d, l => l = d
  | some y, _, l => ∃ kd, y = .int kd l
theorem toNat_lt {i : Int} {n : Nat} (h0 : 0 ≤ i) (h1 : i < n) : i.toNat < n := by omega

theorem G_index_fz (hT : TOk P T) {t e : TypeId} {ti te : TI} {x ix : Operand} {sz n : Nat} {el : Nat → List PV} {kd : IntKind} {i : Int} (ho : o.op = .indexAddr t x ix) (ht : T t = some ti) (hs : sliceD ti.d = some e) (he : T e = some te) (hsz : Nat.beq te.size sz = true)
    (hx : E x = .fz sz n el) (hi : E ix = .atom (.int kd i)) (h0 : 0 ≤ i) (h1 : i < n) (h : Q (.fptr sz n el i.toNat 0) st) : OpGoes P E st o Q := by
  refine OpGoes.still (fun K σ w ρ hR hE => ?_) h
  have vx := hE x; have vi := hE ix
  rw [hx] at vx; rw [hi] at vi
  have vi := vi.atom_inv
  have hu := (hT t ti ht).1
  rw [sliceD_spec hs] at hu
  have hse := Nat.eq_of_beq_eq_true hsz
  generalize hg : ρ x = g at vx
  cases vx with
  | fz hb hn hc hm hsl hl hone hcell =>
    refine ⟨_, ?_, VR.fptr hb (toNat_lt h0 h1) hsl hl hone hcell⟩
    simp [execOp, ho, hg, vi, Instr.indexAt, asIntOf, run_underlying hu, run_sizeOf hT he, h0, h1, add_spot, hse]
  | fz0 A cap hm => omega

theorem G_index_own (hT : TOk P T) {t e : TypeId} {ti te : TI} {x ix : Operand} {i0 k0 n : Nat} {B : Blk} {kd : IntKind} {i : Int} (ho : o.op = .indexAddr t x ix) (ht : T t = some ti) (hs : sliceD ti.d = some e) (he : T e = some te)
    (hx : E x = .slc i0 k0 n) (hB : st.get i0 = some B) (hsz : Nat.beq te.size B.sz = true) (hi : E ix = .atom (.int kd i)) (h0 : 0 ≤ i) (h1 : i < n) (h : Q (.ptr i0 (k0 + i.toNat) 0) st) : OpGoes P E st o Q := by
  refine OpGoes.still (fun K σ w ρ hR hE => ?_) h
  have vx := hE x; have vi := hE ix
  rw [hx] at vx; rw [hi] at vi
  have vi := vi.atom_inv
  have hu := (hT t ti ht).1
  rw [sliceD_spec hs] at hu
  have hse := Nat.eq_of_beq_eq_true hsz
  generalize hg : ρ x = g at vx
  cases vx with
  | slc hi' hr' ht' hn hm =>
    have h3 : (σ i0).sz = B.sz := by
      rcases hR.own i0 B hB with ⟨hf, _⟩ | ⟨_, cur, _, _, h3, _⟩
      · rw [hr'] at hf; cases hf
      · exact h3
    refine ⟨_, ?_, VR.ptr hi'⟩
    simp [execOp, ho, hg, vi, Instr.indexAt, asIntOf, run_underlying hu, run_sizeOf hT he, h0, h1, add_spot, hse, h3, Nat.add_mul, Nat.add_assoc]
  | slc0 A => omega

theorem G_index_arr (hT : TOk P T) {t e : TypeId} {len : Nat} {ti te : TI} {x ix : Operand} {i0 k0 off : Nat} {kd : IntKind} {i : Int} (ho : o.op = .indexAddr t x ix) (ht : T t = some ti) (hs : ti.d = .array len e) (he : T e = some te)
    (hx : E x = .ptr i0 k0 off) (hi : E ix = .atom (.int kd i)) (h0 : 0 ≤ i) (h1 : i < len) (h : Q (.ptr i0 k0 (off + i.toNat * te.size)) st) : OpGoes P E st o Q := by
  refine OpGoes.still (fun K σ w ρ hR hE => ?_) h
  have vx := hE x; have vi := hE ix
  rw [hx] at vx; rw [hi] at vi
  have vi := vi.atom_inv
  have hu := (hT t ti ht).1
  rw [hs] at hu
  generalize hg : ρ x = g at vx
  cases vx with
  | ptr hi' =>
    refine ⟨_, ?_, VR.ptr hi'⟩
    simp [execOp, ho, hg, vi, Instr.indexAt, asIntOf, run_underlying hu, run_sizeOf hT he, Instr.sureAddr, h0, h1, add_spot, Nat.add_assoc]

def byteAt (s : ByteArray) (i : Int) : Int := ((s.data.getD i.toNat 0).toNat : Int)
theorem G_index_str (hT : TOk P T) {t : TypeId} {ti : TI} {x ix : Operand} {s : ByteArray} {kd : IntKind} {i : Int} (ho : o.op = .index t x ix) (ht : T t = some ti) (hs : isStrD ti.d = true)
    (hx : E x = .atom (.string s)) (hi : E ix = .atom (.int kd i)) (h0 : 0 ≤ i) (h1 : i < s.size) (h : Q (.atom (.int .u8 (byteAt s i))) st) : OpGoes P E st o Q := by
  refine OpGoes.still (fun K σ w ρ hR hE => ?_) h
  have vx := hE x; have vi := hE ix
  rw [hx] at vx; rw [hi] at vi
  have hu := (hT t ti ht).1
  have : ti.d = .string := by cases hd : ti.d <;> simp [hd, isStrD] at hs; rfl
  rw [this] at hu
  have hlt : i.toNat < s.size := by omega
  have hlt' : i.toNat < s.data.size := hlt
  have hb : s[i.toNat]? = some s[i.toNat] := by simp [hlt]
  refine ⟨_, ?_, .atom _⟩
  simp [execOp, ho, vx.atom_inv, vi.atom_inv, Instr.index, asIntOf, run_underlying hu, h0, hb]
  have e2 : (s.data[i.toNat]?).getD 0 = s.data[i.toNat] := by rw [Array.getElem?_eq_getElem hlt']; rfl
  simp only [byteAt, Array.getD_eq_getD_getElem?, e2]
  rfl

theorem isStrD_spec {d : TypeDesc} (hs : isStrD d = true) : d = .string := by cases hd : d <;> simp [hd, isStrD] at hs; rfl

/-- A cut of a string. -/
theorem G_slice_str (hT : TOk P T) {t : TypeId} {ti : TI} {x : Operand} {lo hi : Option Operand} {s : ByteArray} {l h : Int} (ho : o.op = .slice t x lo hi none) (ht : T t = some ti) (hs : isStrD ti.d = true) (hx : E x = .atom (.string s))
    (hlo : bnd E lo 0 l) (hhi : bnd E hi s.size h) (h0 : 0 ≤ l) (h1 : l ≤ h) (h2 : h ≤ s.size)
    (hq : Q (.atom (.string (s.extract l.toNat h.toNat))) st) : OpGoes P E st o Q := by
  refine OpGoes.still (fun K σ w ρ hR hE => ?_) hq
  have vx := hE x
  rw [hx] at vx
  have hu := (hT t ti ht).1
  rw [isStrD_spec hs] at hu
  have eh : (h.toNat : Int) = h := Int.toNat_of_nonneg (by omega)
  have eh0 : 0 ≤ h := by omega
  refine ⟨_, ?_, .atom _⟩
  cases lo with
  | none =>
    simp only [bnd, bndV] at hlo
    subst hlo
    cases hi with
    | none =>
      simp only [bnd, bndV] at hhi
      subst hhi
      simp [execOp, ho, vx.atom_inv, Instr.sliceAt, Instr.slice, run_underlying hu, Instr.sliceBounds]
    | some y =>
      obtain ⟨kd, hy⟩ := hhi
      have vy := hE y
      rw [hy] at vy
      simp [execOp, ho, vx.atom_inv, vy.atom_inv, Instr.sliceAt, Instr.slice, run_underlying hu, Instr.sliceBounds, run_sliceBound, h2, eh0]
  | some z =>
    obtain ⟨kz, hz⟩ := hlo
    have vz := hE z
    rw [hz] at vz
    cases hi with
    | none =>
      simp only [bnd, bndV] at hhi
      subst hhi
      simp [execOp, ho, vx.atom_inv, vz.atom_inv, Instr.sliceAt, Instr.slice, run_underlying hu, Instr.sliceBounds, run_sliceBound, h1, h0]
    | some y =>
      obtain ⟨kd, hy⟩ := hhi
      have vy := hE y
      rw [hy] at vy
      simp [execOp, ho, vx.atom_inv, vy.atom_inv, vz.atom_inv, Instr.sliceAt, Instr.slice, run_underlying hu, Instr.sliceBounds, run_sliceBound, h2, eh0, h0, eh, h1]

/-- A cut of a slice: the bounds. -/
theorem run_cut (hT : TOk P T) {t e : TypeId} {ti te : TI} (ht : T t = some ti) (hs : sliceD ti.d = some e) (he : T e = some te) (w : World) (A : Option Addr) (n c : Nat) (hc : n ≤ c) {lo hi : Option Value} {l h : Int}
    (hlo : bndV lo 0 l) (hhi : bndV hi n h) (h0 : 0 ≤ l) (h1 : l ≤ h) (h2 : h ≤ n) :
    (Instr.sliceAt t (.slice A n c) lo hi none).run P w = .ok (.slice (if c = l.toNat then A else A.map (·.add (l.toNat * te.size))) (h.toNat - l.toNat) (c - l.toNat)) w := by
  have hu := (hT t ti ht).1
  rw [sliceD_spec hs] at hu
  have eh : (h.toNat : Int) = h := Int.toNat_of_nonneg (by omega)
  have eh0 : 0 ≤ h := by omega
  have hh : h ≤ c := by omega
  cases lo with
  | none =>
    simp only [bnd, bndV] at hlo
    subst hlo
    cases hi with
    | none =>
      simp only [bnd, bndV] at hhi
      subst hhi
      simp [Instr.sliceAt, Instr.slice, run_underlying hu, Instr.sliceBounds, run_sizeOf hT he]
    | some y =>
      obtain ⟨kd, rfl⟩ := hhi
      simp [Instr.sliceAt, Instr.slice, run_underlying hu, Instr.sliceBounds, run_sliceBound, hh, eh0, run_sizeOf hT he]
  | some z =>
    obtain ⟨kz, rfl⟩ := hlo
    cases hi with
    | none =>
      simp only [bnd, bndV] at hhi
      subst hhi
      simp [Instr.sliceAt, Instr.slice, run_underlying hu, Instr.sliceBounds, run_sliceBound, h1, h0, run_sizeOf hT he]
    | some y =>
      obtain ⟨kd, rfl⟩ := hhi
      simp [Instr.sliceAt, Instr.slice, run_underlying hu, Instr.sliceBounds, run_sliceBound, hh, eh0, h0, eh, h1, run_sizeOf hT he]

theorem ev_bound {K : KH} {σ : Nat → Loc} {N : Nat} {ρ : Operand → Value} (hE : ∀ x, VR K σ N (E x) (ρ x)) {lo : Option Operand} {l d : Int} (hlo : bnd E lo d l) : bndV (lo.map ρ) d l := by
  cases lo with
  | none => exact hlo
  | some y =>
    obtain ⟨kd, hy⟩ := hlo
    have vy := hE y
    rw [hy] at vy
    exact ⟨kd, vy.atom_inv⟩

theorem VR.fz_cut {K : KH} {σ : Nat → Loc} {N sz n : Nat} {el : Nat → List PV} {A : Option Addr} {c : Nat} (hv : VR K σ N (.fz sz n el) (.slice A n c)) {l h : Nat} (h1 : l ≤ h) (h2 : h ≤ n) :
    VR K σ N (.fz sz (h - l) fun k => el (l + k)) (.slice (if c = l then A else A.map (·.add (l * sz))) (h - l) (c - l)) := by
  obtain ⟨A', c', he, hc', hm⟩ := hv.fz_len
  cases he
  by_cases hz : h - l = 0
  · rw [hz]
    exact .fz0 _ _ (by omega)
  · have hcl : c ≠ l := by omega
    cases hv with
    | fz hb hn hc hm hsl hl hone hcell =>
      rename_i b o cur
      rw [if_neg hcl]
      simp only [Option.map_some, add_spot]
      have hmul : l * sz + (h - l) * sz ≤ n * sz := by rw [← Nat.add_mul]; exact Nat.mul_le_mul_right _ (by omega)
      refine .fz hb (by omega) (by omega) (by omega) (by omega) (fun k hk => hl _ (by omega)) (fun k j hk hj => ?_) (fun k hk j p hp => ?_)
      · have := hone (l + k) j (by omega) hj
        rwa [Nat.add_mul, ← Nat.add_assoc] at this
      have := hcell (l + k) (by omega) j p hp
      rwa [Nat.add_mul, ← Nat.add_assoc] at this
    | fz0 A cap hm => omega

theorem G_slice_fz (hT : TOk P T) {t e : TypeId} {ti te : TI} {x : Operand} {lo hi : Option Operand} {sz n : Nat} {el : Nat → List PV} {l h : Int} (ho : o.op = .slice t x lo hi none) (ht : T t = some ti) (hs : sliceD ti.d = some e) (he : T e = some te) (hsz : Nat.beq te.size sz = true)
    (hx : E x = .fz sz n el) (hlo : bnd E lo 0 l) (hhi : bnd E hi n h) (h0 : 0 ≤ l) (h1 : l ≤ h) (h2 : h ≤ n)
    (hq : Q (.fz sz (h.toNat - l.toNat) fun k => el (l.toNat + k)) st) : OpGoes P E st o Q := by
  refine OpGoes.still (fun K σ w ρ hR hE => ?_) hq
  have vx := hE x
  rw [hx] at vx
  have hse := Nat.eq_of_beq_eq_true hsz
  obtain ⟨A, c, hr, hc, hm⟩ := vx.fz_len
  have hrun := run_cut (P := P) hT ht hs he w A n c hc (ev_bound hE hlo) (ev_bound hE hhi) h0 h1 h2
  refine ⟨_, by simp only [execOp, ho, Sem.run_bind, hr, Option.map_none, hrun, Result.andThen_ok, Sem.run_pure]; rfl, ?_⟩
  rw [hr] at vx
  rw [hse]
  exact vx.fz_cut (by omega) (by omega)

theorem VR.slc_cut {K : KH} {σ : Nat → Loc} {N i k n : Nat} {A : Option Addr} {c s : Nat} (hs : (σ i).real = true → (σ i).sz = s) (hv : VR K σ N (.slc i k n) (.slice A n c)) {l h : Nat} (h1 : l ≤ h) (h2 : h ≤ n) :
    VR K σ N (.slc i (k + l) (h - l)) (.slice (if c = l then A else A.map (·.add (l * s))) (h - l) (c - l)) := by
  cases hv with
  | slc hi hr ht hn hm =>
    by_cases hcl : c = l
    · have : h - l = 0 := by omega
      rw [if_pos hcl, this, hcl, Nat.sub_self]
      exact .slc0 _
    · rw [if_neg hcl, ← hs hr]
      simp only [Option.map_some, add_spot]
      have := VR.slc (K := K) (N := N) (σ := σ) (i := i) (k := k + l) (n := h - l) (cap := c - l) hi hr (by rw [← ht]; congr 2; omega) (by omega) (by omega)
      rwa [Nat.add_mul, ← Nat.add_assoc] at this
  | slc0 A =>
    have e1 : l = 0 := by omega
    have e2 : h = 0 := by omega
    subst e1; subst e2
    exact .slc0 _
theorem Rel.szOf {K : KH} {σ : Nat → Loc} {w : World} (hR : Rel K σ st w) {i : Nat} {B : Blk} (hB : st.get i = some B) (hr : (σ i).real = true) : (σ i).sz = B.sz := by
  rcases hR.own i B hB with ⟨hf, _⟩ | ⟨_, cur, _, _, h3, _⟩
  · rw [hr] at hf; cases hf
  · exact h3
theorem G_slice_own (hT : TOk P T) {t e : TypeId} {ti te : TI} {x : Operand} {lo hi : Option Operand} {i0 k0 n : Nat} {B : Blk} {l h : Int} (ho : o.op = .slice t x lo hi none) (ht : T t = some ti) (hs : sliceD ti.d = some e) (he : T e = some te)
    (hx : E x = .slc i0 k0 n) (hB : st.get i0 = some B) (hsz : Nat.beq te.size B.sz = true) (hlo : bnd E lo 0 l) (hhi : bnd E hi n h) (h0 : 0 ≤ l) (h1 : l ≤ h) (h2 : h ≤ n)
    (hq : Q (.slc i0 (k0 + l.toNat) (h.toNat - l.toNat)) st) : OpGoes P E st o Q := by
  refine OpGoes.still (fun K σ w ρ hR hE => ?_) hq
  have vx := hE x
  rw [hx] at vx
  have hse := Nat.eq_of_beq_eq_true hsz
  obtain ⟨A, c, hr, hc, hm⟩ := vx.slice_len
  have hrun := run_cut (P := P) hT ht hs he w A n c hc (ev_bound hE hlo) (ev_bound hE hhi) h0 h1 h2
  refine ⟨_, by simp only [execOp, ho, Sem.run_bind, hr, Option.map_none, hrun, Result.andThen_ok, Sem.run_pure]; rfl, ?_⟩
  rw [hr] at vx
  rw [hse]
  exact vx.slc_cut (hR.szOf hB) (by omega) (by omega)
theorem G_slice_nil (hT : TOk P T) {t e : TypeId} {ti te : TI} {x : Operand} {lo hi : Option Operand} (ho : o.op = .slice t x lo hi none) (ht : T t = some ti) (hs : sliceD ti.d = some e) (he : T e = some te)
    (hx : E x = .atom (.slice none 0 0)) (hlo : bnd E lo 0 0) (hhi : bnd E hi 0 0)
    (hq : Q (.atom (.slice none 0 0)) st) : OpGoes P E st o Q := by
  refine OpGoes.still (fun K σ w ρ hR hE => ?_) hq
  have vx := hE x
  rw [hx] at vx
  have hrun := run_cut (P := P) hT ht hs he w none 0 0 (Nat.le_refl _) (ev_bound hE hlo) (ev_bound hE hhi) (Int.le_refl _) (Int.le_refl _) (Int.le_refl _)
  exact ⟨.slice none 0 0, by simp only [execOp, ho, Sem.run_bind, vx.atom_inv, Option.map_none, hrun, Result.andThen_ok, Sem.run_pure]; rfl, .atom _⟩

theorem G_concat {t t2 : TypeId} {x y : Operand} {a b : ByteArray} (ho : o.op = .binOp .add t x y t2) (hx : E x = .atom (.string a)) (hy : E y = .atom (.string b)) (hb : a.size + b.size ≤ 9223372036854775807) (h : Q (.atom (.string (a ++ b))) st) : OpGoes P E st o Q := by
  refine OpGoes.still (fun K σ w ρ hR hE => ?_) h
  have vx := hE x; have vy := hE y
  rw [hx] at vx; rw [hy] at vy
  have : ¬ (((a.size + b.size : Nat) : Int) > IntKind.i64.max) := by simp only [IntKind.max, IntKind.signed, IntKind.bits]; simp; omega
  refine ⟨.string (a ++ b), ?_, .atom _⟩
  simp only [execOp, ho, vx.atom_inv, vy.atom_inv, Sem.run_bind, run_eqGuard_str, Result.andThen_ok, binOp, Op.stringOp]
  rw [if_neg this]; rfl

theorem G_quo {t t2 : TypeId} {x y : Operand} {k : IntKind} {a b : Int} (ho : o.op = .binOp .quo t x y t2) (hx : E x = .atom (.int k a)) (hy : E y = .atom (.int k b)) (hb : b ≠ 0) (h : Q (.atom (.int k (k.wrap (a.tdiv b)))) st) : OpGoes P E st o Q := by
  refine OpGoes.still (fun K σ w ρ hR hE => ?_) h
  have vx := hE x; have vy := hE y
  rw [hx] at vx; rw [hy] at vy
  exact ⟨_, by simp [execOp, ho, vx.atom_inv, vy.atom_inv, eqGuard, binOp, Op.intDiv, hb], .atom _⟩
theorem G_rem {t t2 : TypeId} {x y : Operand} {k : IntKind} {a b : Int} (ho : o.op = .binOp .rem t x y t2) (hx : E x = .atom (.int k a)) (hy : E y = .atom (.int k b)) (hb : b ≠ 0) (h : Q (.atom (.int k (a.tmod b))) st) : OpGoes P E st o Q := by
  refine OpGoes.still (fun K σ w ρ hR hE => ?_) h
  have vx := hE x; have vy := hE y
  rw [hx] at vx; rw [hy] at vy
  exact ⟨_, by simp [execOp, ho, vx.atom_inv, vy.atom_inv, eqGuard, binOp, Op.intDiv, hb], .atom _⟩
theorem G_shl {t t2 : TypeId} {x y : Operand} {k k' : IntKind} {a b : Int} (ho : o.op = .binOp .shl t x y t2) (hx : E x = .atom (.int k a)) (hy : E y = .atom (.int k' b)) (hb : 0 ≤ b) (h : Q (.atom (.int k (k.wrap (a * 2 ^ (min b.toNat k.bits))))) st) : OpGoes P E st o Q := by
  refine OpGoes.still (fun K σ w ρ hR hE => ?_) h
  have vx := hE x; have vy := hE y
  rw [hx] at vx; rw [hy] at vy
  have : ¬ b < 0 := by omega
  exact ⟨_, by simp [execOp, ho, vx.atom_inv, vy.atom_inv, eqGuard, binOp, Op.shift, this], .atom _⟩
theorem G_shr {t t2 : TypeId} {x y : Operand} {k k' : IntKind} {a b : Int} (ho : o.op = .binOp .shr t x y t2) (hx : E x = .atom (.int k a)) (hy : E y = .atom (.int k' b)) (hb : 0 ≤ b) (h : Q (.atom (.int k (a.fdiv (2 ^ (min b.toNat k.bits))))) st) : OpGoes P E st o Q := by
  refine OpGoes.still (fun K σ w ρ hR hE => ?_) h
  have vx := hE x; have vy := hE y
  rw [hx] at vx; rw [hy] at vy
  have : ¬ b < 0 := by omega
  exact ⟨_, by simp [execOp, ho, vx.atom_inv, vy.atom_inv, eqGuard, binOp, Op.shift, this], .atom _⟩

theorem run_min_list (w : World) : ∀ (l : List Int) (x : Int), ((l.map (Value.int .i64)).foldlM Builtin.min2 (.int .i64 x)).run P w = .ok (.int .i64 (lmin x l)) w
  | [], x => by simp [lmin]
  | y :: l, x => by simp [lmin, Builtin.min2, run_min_list w l]
theorem run_max_list (w : World) : ∀ (l : List Int) (x : Int), ((l.map (Value.int .i64)).foldlM Builtin.max2 (.int .i64 x)).run P w = .ok (.int .i64 (lmax x l)) w
  | [], x => by simp [lmax]
  | y :: l, x => by simp [lmax, Builtin.max2, run_max_list w l]
theorem G_min {args : Array Operand} {ts : Array TypeId} {x : Int} {l : List Int} (ho : o.op = .call { callee := .builtin .min, args := args, argTypes := ts }) (hl : ints (args.toList.map E) = some (x :: l)) (h : Q (.atom (.int .i64 (lmin x l))) st) : OpGoes P E st o Q := by
  refine OpGoes.still (fun K σ w ρ hR hE => ?_) h
  have := ints_spec hE hl
  have e : (args.map ρ).toList = (x :: l).map (Value.int .i64) := by simpa using this
  refine ⟨_, ?_, .atom _⟩
  simp only [execOp, ho, resolve, invoke, builtin, Builtin.min_, Sem.run_bind, Sem.run_pure, Result.andThen_ok, e, List.map_cons, run_min_list]
theorem G_max {args : Array Operand} {ts : Array TypeId} {x : Int} {l : List Int} (ho : o.op = .call { callee := .builtin .max, args := args, argTypes := ts }) (hl : ints (args.toList.map E) = some (x :: l)) (h : Q (.atom (.int .i64 (lmax x l))) st) : OpGoes P E st o Q := by
  refine OpGoes.still (fun K σ w ρ hR hE => ?_) h
  have := ints_spec hE hl
  have e : (args.map ρ).toList = (x :: l).map (Value.int .i64) := by simpa using this
  refine ⟨_, ?_, .atom _⟩
  simp only [execOp, ho, resolve, invoke, builtin, Builtin.max_, Sem.run_bind, Sem.run_pure, Result.andThen_ok, e, List.map_cons, run_max_list]

/-- Loading from an owned block at a place that is not written out. -/
theorem G_load_own (hT : TOk P T) {t : TypeId} {x : Operand} {i k off : Nat} {B : Blk} {cs : List PV} {pv : PV} (ho : o.op = .load t x) (hx : E x = .ptr i k off) (hB : st.get i = some B) (hk : k < B.n) (hc : B.el k = cs) (hv : readT T t cs off = some pv) (h : Q pv st) : OpGoes P E st o Q := by
  refine G_load hT ho ?_ h
  unfold xLoad
  rw [hx, ]
  simp only [hB]
  rw [show Nat.blt k B.n = true by rw [Nat.blt_eq]; exact hk, hc]
  exact hv

/-! a struct of whole numbers, compared -/
def flatFields (P : Program) : Nat → List Field → Bool
  | _, [] => true
  | j, f :: fs => f.name != "_" && Nat.beq f.offset j && (match P.underlying f.type with | some (.int .i64) => true | _ => false) && flatFields P (j + 1) fs
def flatStruct (P : Program) (t : TypeId) (n : Nat) : Bool :=
  (match P.underlying t with | some (.struct fs) => flatFields P 0 fs.toList && Nat.beq fs.size n | _ => false) && !(P.stoodInHeld t) && !(P.eqGuardType P.depth t)

theorem run_eqFields_flat (d : Nat) (w : World) (xs ys : List Int) : ∀ (fs : List Field) (j : Nat), flatFields P j fs = true → xs.length = j + fs.length → ys.length = j + fs.length →
    (Op.eqFields (d + 1) (xs.map (Value.int .i64)).toArray (ys.map (Value.int .i64)).toArray fs).run P w = .ok (xs.drop j == ys.drop j) w
  | [], j, _, h1, h2 => by
    rw [List.drop_eq_nil_of_le (by simp at h1; omega), List.drop_eq_nil_of_le (by simp at h2; omega)]
    simp [Op.eqFields]
  | f :: fs, j, hf, h1, h2 => by
    simp only [flatFields, Bool.and_eq_true] at hf
    obtain ⟨⟨⟨hn, hj⟩, ht⟩, hr⟩ := hf
    have hj := Nat.eq_of_beq_eq_true hj
    have hn : f.name ≠ "_" := by simpa using hn
    have hu : P.underlying f.type = some (.int .i64) := by
      split at ht
      · assumption
      · cases ht
    simp only [List.length_cons] at h1 h2
    have l1 : j < xs.length := by omega
    have l2 : j < ys.length := by omega
    have hagg : ∀ w, (isAgg f.type).run P w = .ok false w := by intro w; unfold isAgg; rw [Sem.run_bind, run_underlying hu w]; rfl
    have p1 : (part f.type (xs.map (Value.int .i64)).toArray f.offset).run P w = .ok (.int .i64 xs[j]) w := by
      simp [part, hagg, hj, l1]
    have p2 : (part f.type (ys.map (Value.int .i64)).toArray f.offset).run P w = .ok (.int .i64 ys[j]) w := by
      simp [part, hagg, hj, l2]
    have ih := run_eqFields_flat d w xs ys fs (j + 1) hr (by omega) (by omega)
    rw [Op.eqFields, if_pos hn]
    simp only [Sem.run_bind, p1, p2, Result.andThen_ok, run_equalIn_int w d _ _ _ _ _ hu, Sem.run_ite, ih, Sem.run_pure]
    have hd : (xs.drop j == ys.drop j) = ((xs[j] == ys[j]) && (xs.drop (j + 1) == ys.drop (j + 1))) := by
      rw [List.drop_eq_getElem_cons l1, List.drop_eq_getElem_cons l2]; rfl
    rw [hd]
    cases hxy : (xs[j] == ys[j]) <;> simp

theorem aggInts {K : KH} {σ : Nat → Loc} {N : Nat} : ∀ {cs : List PV} {l : List Int}, ints cs = some l → ∀ {vs : Array Value}, vs.size = cs.length → (∀ j p, cs[j]? = some p → VR K σ N p (rd vs j)) → vs = (l.map (Value.int .i64)).toArray := by
  have key : ∀ {cs : List PV} {l : List Int}, ints cs = some l → cs.length = l.length ∧ ∀ (j : Nat) (n : Int), l[j]? = some n → cs[j]? = some (PV.atom (.int .i64 n)) := by
    intro cs
    induction cs with
    | nil => intro l h; simp [ints] at h; subst h; simp
    | cons p cs ih =>
      intro l h
      cases p with
      | atom v =>
        cases v with
        | int k n =>
          cases k <;> simp only [ints] at h <;> try cases h
          split at h
          · rename_i r hr
            simp at h; subst h
            obtain ⟨h1, h2⟩ := ih hr
            refine ⟨by simp [h1], fun j m hj => ?_⟩
            cases j with
            | zero => simp at hj; subst hj; rfl
            | succ j => simp at hj ⊢; exact h2 j m hj
          · cases h
        | _ => simp [ints] at h
      | _ => simp [ints] at h
  intro cs l h vs hl hc
  obtain ⟨h1, h2⟩ := key h
  apply Array.ext
  · simp [hl, h1]
  · intro j hj1 hj2
    simp at hj2
    have h3 := h2 j l[j] (by simp [hj2])
    have h4 := (hc j _ h3).atom_inv
    simp [rd, hj1] at h4
    simp [h4]

theorem G_eqStruct (hT : TOk P T) {op : BinOp} {t t2 : TypeId} {x y : Operand} {cs ds : List PV} {xs ys : List Int} {r : Bool} (ho : o.op = .binOp op t x y t2) (hf : flatStruct P t xs.length = true) (hx : E x = .agg cs) (hy : E y = .agg ds) (h1 : ints cs = some xs) (h2 : ints ds = some ys) (hl : ys.length = xs.length)
    (hop : (match op with | .eql => some (xs == ys) | .neq => some (!(xs == ys)) | _ => none) = some r) (h : Q (.atom (.bool r)) st) : OpGoes P E st o Q := by
  refine OpGoes.still (fun K σ w ρ hR hE => ?_) h
  have vx := hE x; have vy := hE y
  rw [hx] at vx; rw [hy] at vy
  obtain ⟨as, ha, hal, hac⟩ := vx.agg_inv
  obtain ⟨bs, hb, hbl, hbc⟩ := vy.agg_inv
  have ea := aggInts h1 hal hac
  have eb := aggInts h2 hbl hbc
  simp only [flatStruct, Bool.and_eq_true, Bool.not_eq_true'] at hf
  obtain ⟨⟨hu, hst⟩, hg⟩ := hf
  split at hu
  · rename_i fs hfs
    simp only [Bool.and_eq_true] at hu
    obtain ⟨hff, hn⟩ := hu
    have hn := Nat.eq_of_beq_eq_true hn
    have hfo : P.fieldsOf t = fs := by simp [Program.fieldsOf, hfs]
    have heq : (Op.equal t (.agg as) (.agg bs)).run P w = .ok (xs == ys) w := by
      rw [Op.equal, show Op.maxDepth = 9998 + 1 + 1 from rfl, run_equalIn_struct w _ t as bs (by rw [hfo]; exact hfs) hst, hfo, ea, eb]
      have := run_eqFields_flat (P := P) 9998 w xs ys fs.toList 0 hff (by simp [hn]) (by simp [hn, hl])
      simpa using this
    have hgd : (eqGuard op t x y (.agg as) (.agg bs)).run P w = .ok () w := by
      unfold eqGuard
      cases op <;> simp [hg]
    refine ⟨.bool r, ?_, .atom _⟩
    simp only [execOp, ho, ha, hb, Sem.run_bind, hgd, Result.andThen_ok]
    cases op <;> simp only [Option.some.injEq, reduceCtorEq] at hop <;> subst hop <;> simp [binOp, heq]
  · cases hu

theorem run_equal_ifaceNil (w : World) {t : TypeId} {ms : Array (String × TypeId)} (hu : P.underlying t = some (.interface ms)) (t' : TypeId) (v : Value) : (Op.equal t (.iface t' v) .nilIface).run P w = .ok false w := by
  rw [Op.equal, show Op.maxDepth = 9999 + 1 from rfl]; generalize 9999 = d; simp [Op.equalIn, run_underlying hu]
theorem run_equal_nilNil (w : World) {t : TypeId} {ms : Array (String × TypeId)} (hu : P.underlying t = some (.interface ms)) : (Op.equal t .nilIface .nilIface).run P w = .ok true w := by
  rw [Op.equal, show Op.maxDepth = 9999 + 1 from rfl]; generalize 9999 = d; simp [Op.equalIn, run_underlying hu]
theorem binOp_eql_iface (t t' : TypeId) (v : Value) : binOp .eql t (.iface t' v) .nilIface = (do pure (.bool (← Op.equal t (.iface t' v) .nilIface))) := rfl
theorem binOp_neq_iface (t t' : TypeId) (v : Value) : binOp .neq t (.iface t' v) .nilIface = (do pure (.bool (!(← Op.equal t (.iface t' v) .nilIface)))) := rfl
theorem binOp_eql_nil (t : TypeId) : binOp .eql t .nilIface .nilIface = (do pure (.bool (← Op.equal t .nilIface .nilIface))) := rfl
theorem binOp_neq_nil (t : TypeId) : binOp .neq t .nilIface .nilIface = (do pure (.bool (!(← Op.equal t .nilIface .nilIface)))) := rfl
def isIfaceD : TypeDesc → Bool
  | .interface _ => true
  | _ => false
def xIface : PV → Option Bool
  | .iface _ _ => some false
  | .atom .nilIface => some true
  | _ => none
def xNilOp : BinOp → Bool → Option Bool
  | .eql, b => some b
  | .neq, b => some (!b)
  | _, _ => none
theorem G_ifaceNil (hT : TOk P T) {op : BinOp} {t t2 : TypeId} {x : Operand} {ti : TI} {r b : Bool} (ho : o.op = .binOp op t x (.const .nilIface) t2) (ht : T t = some ti) (hd : isIfaceD ti.d = true)
    (hx : xIface (E x) = some b) (hE' : E (.const .nilIface) = .atom .nilIface) (hop : xNilOp op b = some r) (h : Q (.atom (.bool r)) st) : OpGoes P E st o Q := by
  refine OpGoes.still (fun K σ w ρ hR hE => ?_) h
  have vx := hE x; have vy := hE (.const .nilIface)
  rw [hE'] at vy
  have vy := vy.atom_inv
  have hu := (hT t ti ht).1
  obtain ⟨ms, hms⟩ : ∃ ms, ti.d = .interface ms := by cases hh : ti.d <;> simp [hh, isIfaceD] at hd; exact ⟨_, rfl⟩
  rw [hms] at hu
  refine ⟨.bool r, ?_, .atom _⟩
  have hgd : ∀ v, (eqGuard op t x (.const .nilIface) v .nilIface).run P w = .ok () w := by
    intro v
    unfold eqGuard
    cases op <;> cases v <;> simp
  generalize hp : E x = p at hx vx
  cases p with
  | iface t' q =>
    simp only [xIface, Option.some.injEq] at hx
    subst hx
    generalize hg : ρ x = g at vx
    cases vx with
    | iface hv =>
      simp only [execOp, ho, hg, vy, Sem.run_bind, hgd, Result.andThen_ok]
      cases op <;> simp only [xNilOp, Option.some.injEq, reduceCtorEq] at hop <;> subst hop
      · simp only [binOp_eql_iface, Sem.run_bind, run_equal_ifaceNil w hu, Result.andThen_ok, Sem.run_pure]
      · simp only [binOp_neq_iface, Sem.run_bind, run_equal_ifaceNil w hu, Result.andThen_ok, Sem.run_pure]
  | atom v =>
    cases v <;> simp only [xIface, reduceCtorEq, Option.some.injEq] at hx
    subst hx
    simp only [execOp, ho, vx.atom_inv, vy, Sem.run_bind, hgd, Result.andThen_ok]
    cases op <;> simp only [xNilOp, Option.some.injEq, reduceCtorEq] at hop <;> subst hop
    · simp only [binOp_eql_nil, Sem.run_bind, run_equal_nilNil w hu, Result.andThen_ok, Sem.run_pure]
    · simp only [binOp_neq_nil, Sem.run_bind, run_equal_nilNil w hu, Result.andThen_ok, Sem.run_pure]
  | _ => simp [xIface] at hx
end
end Go.Sy
