/- The operations that leave the memory as it is. -/
import Derived.Test.YtocfjbopkgmjkaaDoorY2
set_option linter.unusedVariables false
set_option linter.unusedSimpArgs false
set_option linter.unusedSectionVars false
namespace Go.Sy
open Go
variable [Globs]

def lnth {α : Type} : List α → Nat → Option α
  | [], _ => none
  | a :: _, 0 => some a
  | _ :: l, n + 1 => lnth l n
theorem lnth_eq {α : Type} (l : List α) (n : Nat) : lnth l n = l[n]? := by
  induction l generalizing n with
  | nil => simp [lnth]
  | cons a l ih => cases n <;> simp [lnth, ih]
def ldrop {α : Type} : Nat → List α → List α
  | 0, l => l
  | _ + 1, [] => []
  | n + 1, _ :: l => ldrop n l
theorem ldrop_eq {α : Type} (n : Nat) (l : List α) : ldrop n l = l.drop n := by
  induction n generalizing l with
  | zero => simp [ldrop]
  | succ n ih => cases l <;> simp [ldrop, ih]
/-- The first n, if there are so many. -/
def ltake {α : Type} : Nat → List α → Option (List α)
  | 0, _ => some []
  | _ + 1, [] => none
  | n + 1, a :: l => match ltake n l with
    | some r => some (a :: r)
    | none => none
theorem ltake_spec {α : Type} : ∀ {n : Nat} {l r : List α}, ltake n l = some r → r.length = n ∧ r = l.take n
  | 0, l, r, h => by simp [ltake] at h; subst h; simp
  | n + 1, [], r, h => by simp [ltake] at h
  | n + 1, a :: l, r, h => by
    simp only [ltake] at h
    split at h
    · rename_i r' hr
      have := ltake_spec hr
      simp at h; subst h
      simp [this.1]; exact this.2
    · cases h

def isAggD : TypeDesc → Bool
  | .struct _ | .array _ _ => true
  | _ => false
def strict : PV → Option PV
  | .any => none
  | .atom v => some (.atom v)
  | .ptr i k off => some (.ptr i k off)
  | .fptr sz n el k off => some (.fptr sz n el k off)
  | .slc i k n => some (.slc i k n)
  | .fz sz n el => some (.fz sz n el)
  | .agg cs => some (.agg cs)
  | .tup vs => some (.tup vs)
  | .iface t v => some (.iface t v)
  | .func f c => some (.func f c)
theorem strict_spec {p q : PV} (h : strict p = some q) : p = q := by cases p <;> simp [strict] at h <;> exact h

/-- A variable of type t among cells, from 'off' on. -/
def readT (T : TT) (t : TypeId) (cs : List PV) (off : Nat) : Option PV :=
  match T t with
  | none => none
  | some ti => bif isAggD ti.d then (match ltake ti.size (ldrop off cs) with | some r => some (.agg r) | none => none) else (match lnth cs off with | some p => strict p | none => none)

theorem run_isAgg {P : Program} {T : TT} (hT : TOk P T) {t : TypeId} {ti : TI} (h : T t = some ti) (w : World) : (isAgg t).run P w = .ok (isAggD ti.d) w := by
  obtain ⟨hd, _⟩ := hT t ti h
  unfold isAgg
  rw [Sem.run_bind, run_underlying hd w]
  cases ti.d <;> simp [isAggD]
theorem run_sizeOf {P : Program} {T : TT} (hT : TOk P T) {t : TypeId} {ti : TI} (h : T t = some ti) (w : World) : (sizeOf t).run P w = .ok ti.size w := by
  obtain ⟨_, inf, hi, hs, _⟩ := hT t ti h
  simp [sizeOf, typeInfo, hi, hs]
theorem run_zeroValue {P : Program} {T : TT} (hT : TOk P T) {t : TypeId} {ti : TI} (h : T t = some ti) (w : World) : (zeroValue t).run P w = .ok ti.zero w := by
  obtain ⟨_, inf, hi, _, _, hz⟩ := hT t ti h
  simp [zeroValue, typeInfo, hi, hz]

theorem rd_list (l : List Value) (j : Nat) : rd l.toArray j = (l[j]?).getD undef := by simp [rd]
theorem rd_range (g : Nat → Value) (n j : Nat) (h : j < n) : rd ((List.range n).map g).toArray j = g j := by simp [rd_list, List.getElem?_range h]

section
variable {P : Program} {T : TT} {K : KH} {σ : Nat → Loc} {N : Nat}

/-- Reading a variable at an address where the cells stand. -/
theorem run_loadVar_cells (hT : TOk P T) {t : TypeId} {cs : List PV} {off : Nat} {pv : PV} (h : readT T t cs off = some pv) (w : World) (b o : Nat) (cur : Array Value) {e : TypeId} {fr : Nat × Nat} (hb : w.heap[b]? = some (.cells cur e fr))
    (hs : o + cs.length ≤ cur.size) (hc : ∀ j p, cs[j]? = some p → VR K σ N p (rd cur (o + j))) :
    ∃ v, (loadVar t ⟨b, o + off, none⟩).run P w = .ok v w ∧ VR K σ N pv v := by
  unfold readT at h
  cases hti : T t with
  | none => simp [hti] at h
  | some ti =>
    simp only [hti] at h
    have hcell : ∀ j, j < cs.length → w.cell? ⟨b, o + j, none⟩ = some (rd cur (o + j)) := by
      intro j hj
      rw [cell_of_row w b (o + j) cur e fr hb]
      have : o + j < cur.size := by omega
      simp [rd, this]
    cases ha : isAggD ti.d with
    | true =>
      simp only [ha, cond_true] at h
      split at h
      · rename_i r hr
        simp at h; subst h
        obtain ⟨hl, hr⟩ := ltake_spec hr
        rw [ldrop_eq] at hr
        have hlen : off + ti.size ≤ cs.length ∨ ti.size = 0 := by
          have : r.length = min ti.size (cs.length - off) := by rw [hr]; simp
          omega
        refine ⟨.agg ((List.range ti.size).map fun j => rd cur (o + off + j)).toArray, ?_, .agg (by simp [hl]) ?_⟩
        · have hld := run_loadCells (P := P) w ⟨b, o + off, none⟩ ti.size (fun j => rd cur (o + off + j)) (fun j hj => by
            have e1 : (⟨b, o + off, none⟩ : Addr).add j = ⟨b, o + (off + j), none⟩ := by unfold Addr.add; split <;> simp_all [Nat.add_assoc]
            rw [e1, hcell (off + j) (by omega)]
            congr 2; omega)
          simp [loadVar, Sem.run_bind, run_isAgg hT hti, ha, run_sizeOf hT hti, hld]
        · intro j p hp
          have hj : j < ti.size := by
            rcases Nat.lt_or_ge j r.length with h' | h'
            · omega
            · rw [List.getElem?_eq_none h'] at hp; cases hp
          rw [rd_range _ _ _ hj]
          rw [hr, List.getElem?_take, if_pos hj, List.getElem?_drop] at hp
          have := hc (off + j) p hp
          rwa [← Nat.add_assoc] at this
      · cases h
    | false =>
      simp only [ha, cond_false] at h
      split at h
      · rename_i p hp
        rw [lnth_eq] at hp
        have := strict_spec h
        subst this
        have hlt : off < cs.length := (List.getElem?_eq_some_iff.1 hp).1
        refine ⟨rd cur (o + off), ?_, hc off p hp⟩
        simp [loadVar, Sem.run_bind, run_isAgg hT hti, ha, hcell off hlt]
      · cases h

theorem run_part (hT : TOk P T) {t : TypeId} {cs : List PV} {off : Nat} {pv : PV} (h : readT T t cs off = some pv) (w : World) {vs : Array Value} (hl : vs.size = cs.length) (hc : ∀ j p, cs[j]? = some p → VR K σ N p (rd vs j)) :
    ∃ v, (part t vs off).run P w = .ok v w ∧ VR K σ N pv v := by
  unfold readT at h
  cases hti : T t with
  | none => simp [hti] at h
  | some ti =>
    simp only [hti] at h
    cases ha : isAggD ti.d with
    | true =>
      simp only [ha, cond_true] at h
      split at h
      · rename_i r hr
        simp at h; subst h
        obtain ⟨hl', hr⟩ := ltake_spec hr
        rw [ldrop_eq] at hr
        have hlen : off + ti.size ≤ cs.length ∨ ti.size = 0 := by
          have : r.length = min ti.size (cs.length - off) := by rw [hr]; simp
          omega
        refine ⟨.agg (vs.extract off (off + ti.size)), ?_, .agg (by simp; omega) ?_⟩
        · simp [part, Sem.run_bind, run_isAgg hT hti, ha, run_sizeOf hT hti]
        · intro j p hp
          have hj : j < ti.size := by
            rcases Nat.lt_or_ge j r.length with h' | h'
            · omega
            · rw [List.getElem?_eq_none h'] at hp; cases hp
          rw [hr, List.getElem?_take, if_pos hj, List.getElem?_drop] at hp
          have h2 := hc (off + j) p hp
          have : rd (vs.extract off (off + ti.size)) j = rd vs (off + j) := by
            simp only [rd, Array.getD_eq_getD_getElem?, Array.getElem?_extract]
            rw [if_pos (by omega)]
          rwa [this]
      · cases h
    | false =>
      simp only [ha, cond_false] at h
      split at h
      · rename_i p hp
        rw [lnth_eq] at hp
        have := strict_spec h
        subst this
        have hlt : off < vs.size := by rw [hl]; exact (List.getElem?_eq_some_iff.1 hp).1
        refine ⟨rd vs off, ?_, hc off p hp⟩
        simp [part, Sem.run_bind, run_isAgg hT hti, ha, rd, hlt]
      · cases h
end

/-! ### the operations -/
def ikeq : IntKind → IntKind → Bool
  | .i8, .i8 | .i16, .i16 | .i32, .i32 | .i64, .i64 | .u8, .u8 | .u16, .u16 | .u32, .u32 | .u64, .u64 => true
  | _, _ => false
theorem ikeq_spec {a b : IntKind} (h : ikeq a b = true) : a = b := by cases a <;> cases b <;> simp [ikeq] at h <;> rfl

def binInt (op : BinOp) (k : IntKind) (x y : Int) : Option PV :=
  match op with
  | .add => some (.atom (.int k (k.wrap (x + y))))
  | .sub => some (.atom (.int k (k.wrap (x - y))))
  | .mul => some (.atom (.int k (k.wrap (x * y))))
  | .and => some (.atom (.int k (k.wrap (BitVec.ofInt k.bits x &&& BitVec.ofInt k.bits y).toNat)))
  | .or => some (.atom (.int k (k.wrap (BitVec.ofInt k.bits x ||| BitVec.ofInt k.bits y).toNat)))
  | .xor => some (.atom (.int k (k.wrap (BitVec.ofInt k.bits x ^^^ BitVec.ofInt k.bits y).toNat)))
  | .andNot => some (.atom (.int k (k.wrap (BitVec.ofInt k.bits x &&& ~~~BitVec.ofInt k.bits y).toNat)))
  | .eql => some (.atom (.bool (x == y)))
  | .neq => some (.atom (.bool (x != y)))
  | .lss => some (.atom (.bool (x < y)))
  | .leq => some (.atom (.bool (x ≤ y)))
  | .gtr => some (.atom (.bool (x > y)))
  | .geq => some (.atom (.bool (x ≥ y)))
  | _ => none
def binStr (op : BinOp) (x y : ByteArray) : Option PV :=
  match op with
  | .eql => some (.atom (.bool (x.toList == y.toList)))
  | .neq => some (.atom (.bool !(x.toList == y.toList)))
  | .lss => some (.atom (.bool (Op.bytesLess x.toList y.toList)))
  | _ => none
def binBool (op : BinOp) (x y : Bool) : Option PV :=
  match op with
  | .eql => some (.atom (.bool (x == y)))
  | .neq => some (.atom (.bool (!(x == y))))
  | _ => none
def isBoolD : TypeDesc → Bool
  | .bool => true
  | _ => false
def xBin (T : TT) (op : BinOp) (t : TypeId) (x y : PV) : Option PV :=
  match x, y with
  | .atom (.int k a), .atom (.int k' b) => bif ikeq k k' then binInt op k a b else none
  | .atom (.string a), .atom (.string b) => binStr op a b
  | .atom (.bool a), .atom (.bool b) => (match T t with | some ti => bif isBoolD ti.d then binBool op a b else none | none => none)
  | _, _ => none

section
variable {P : Program} {T : TT} {E : Operand → PV} {st : St} {o : Oper} {Q : PV → St → Prop}

theorem isBoolD_spec {d : TypeDesc} (h : isBoolD d = true) : d = .bool := by cases d <;> simp [isBoolD] at h <;> rfl

theorem run_eqGuard_int (op : BinOp) (t : TypeId) (x y : Operand) (k k' : IntKind) (a b : Int) (w : World) : (eqGuard op t x y (.int k a) (.int k' b)).run P w = .ok () w := by
  cases op <;> simp [eqGuard]
theorem run_eqGuard_str (op : BinOp) (t : TypeId) (x y : Operand) (a b : ByteArray) (w : World) : (eqGuard op t x y (.string a) (.string b)).run P w = .ok () w := by
  cases op <;> simp [eqGuard]
theorem run_eqGuard_bool (op : BinOp) (t : TypeId) (x y : Operand) (a b : Bool) (w : World) : (eqGuard op t x y (.bool a) (.bool b)).run P w = .ok () w := by
  cases op <;> simp [eqGuard]

theorem G_bin (hT : TOk P T) {op : BinOp} {t t2 : TypeId} {x y : Operand} {pv : PV} (ho : o.op = .binOp op t x y t2) (hv : xBin T op t (E x) (E y) = some pv) (h : Q pv st) : OpGoes P E st o Q := by
  refine OpGoes.still (fun K σ w ρ hR hE => ?_) h
  have hx := hE x
  have hy := hE y
  unfold xBin at hv
  split at hv
  · rename_i k a k' b e1 e2
    rw [e1] at hx; rw [e2] at hy
    have hx := hx.atom_inv; have hy := hy.atom_inv
    cases hk : ikeq k k' with
    | false => simp [hk] at hv
    | true =>
      have := ikeq_spec hk; subst this
      simp only [hk, cond_true] at hv
      simp only [execOp, ho, hx, hy, Sem.run_bind, run_eqGuard_int, Result.andThen_ok]
      cases op <;> simp [binInt] at hv <;> subst hv <;> refine ⟨_, ?_, .atom _⟩ <;> simp [binOp, Op.intArith, Op.intBits, Op.intCmp]
  · rename_i a b e1 e2
    rw [e1] at hx; rw [e2] at hy
    have hx := hx.atom_inv; have hy := hy.atom_inv
    simp only [execOp, ho, hx, hy, Sem.run_bind, run_eqGuard_str, Result.andThen_ok]
    cases op <;> simp only [binStr, Option.some.injEq, reduceCtorEq] at hv <;> subst hv <;> refine ⟨_, ?_, .atom _⟩ <;> simp [binOp, Op.stringOp]
  · rename_i a b e1 e2
    rw [e1] at hx; rw [e2] at hy
    have hx := hx.atom_inv; have hy := hy.atom_inv
    split at hv
    · rename_i ti hti
      cases hb : isBoolD ti.d with
      | false => simp [hb] at hv
      | true =>
        simp only [hb, cond_true] at hv
        have hu := (hT t ti hti).1
        rw [isBoolD_spec hb] at hu
        simp only [execOp, ho, hx, hy, Sem.run_bind, run_eqGuard_bool, Result.andThen_ok]
        cases op <;> simp only [binBool, Option.some.injEq, reduceCtorEq] at hv <;> subst hv <;> refine ⟨_, ?_, .atom _⟩ <;> simp [binOp, run_equal_bool _ _ _ _ hu]
    · cases hv
  · cases hv

theorem G_move {x : Operand} {pv : PV} (ho : o.op = .move x) (hv : strict (E x) = some pv) (h : Q pv st) : OpGoes P E st o Q :=
  OpGoes.still (fun K σ w ρ hR hE => ⟨ρ x, by simp [execOp, ho], strict_spec hv ▸ hE x⟩) h
theorem G_assign {x : Operand} {pv : PV} (ho : o.op = .assign x) (hv : strict (E x) = some pv) (h : Q pv st) : OpGoes P E st o Q :=
  OpGoes.still (fun K σ w ρ hR hE => ⟨ρ x, by simp [execOp, ho], strict_spec hv ▸ hE x⟩) h
theorem G_pick {c x y : Operand} {b : Bool} {pv : PV} (ho : o.op = .pick c x y) (hc : E c = .atom (.bool b)) (hv : strict (bif b then E x else E y) = some pv) (h : Q pv st) : OpGoes P E st o Q :=
  OpGoes.still (fun K σ w ρ hR hE => by
    have h1 := hE c
    rw [hc] at h1
    have h1 := h1.atom_inv
    have h2 := strict_spec hv
    refine ⟨if b then ρ x else ρ y, by simp [execOp, ho, h1, asBool], ?_⟩
    cases b
    · subst h2; exact hE y
    · subst h2; exact hE x) h

def xUn (op : UnOp) (x : PV) : Option PV :=
  match op, x with
  | .neg, .atom (.int k n) => some (.atom (.int k (k.wrap (0 - n))))
  | .not, .atom (.bool b) => some (.atom (.bool !b))
  | _, _ => none
theorem G_un {op : UnOp} {t : TypeId} {x : Operand} {pv : PV} (ho : o.op = .unOp op t x) (hv : xUn op (E x) = some pv) (h : Q pv st) : OpGoes P E st o Q := by
  refine OpGoes.still (fun K σ w ρ hR hE => ?_) h
  have hx := hE x
  unfold xUn at hv
  split at hv
  · rename_i k n e1
    rw [e1] at hx; have hx := hx.atom_inv
    simp at hv; subst hv
    exact ⟨_, by simp [execOp, ho, hx, Op.unary, Op.intArith], .atom _⟩
  · rename_i b e1
    rw [e1] at hx; have hx := hx.atom_inv
    simp at hv; subst hv
    exact ⟨_, by simp [execOp, ho, hx, Op.unary], .atom _⟩
  · cases hv

def intD : TypeDesc → Option IntKind
  | .int k => some k
  | _ => none
def isStrD : TypeDesc → Bool
  | .string => true
  | _ => false
theorem intD_spec {d : TypeDesc} {k : IntKind} (h : intD d = some k) : d = .int k := by cases d <;> simp [intD] at h; subst h; rfl
def xConv (T : TT) (src dst : TypeId) (x : PV) : Option PV :=
  match T src, T dst with
  | some a, some b =>
    match x with
    | .atom (.int _ n) => (match intD a.d, intD b.d with | some _, some k => some (.atom (.int k (k.wrap n))) | _, _ => none)
    | _ => none
  | _, _ => none
theorem G_conv (hT : TOk P T) {src dst : TypeId} {x : Operand} {pv : PV} (ho : o.op = .convert src dst x) (hv : xConv T src dst (E x) = some pv) (h : Q pv st) : OpGoes P E st o Q := by
  refine OpGoes.still (fun K σ w ρ hR hE => ?_) h
  have hx := hE x
  unfold xConv at hv
  split at hv
  · rename_i a b ha hb
    split at hv
    · rename_i k n e1
      rw [e1] at hx; have hx := hx.atom_inv
      split at hv
      · rename_i k1 k2 h1 h2
        simp at hv; subst hv
        have u1 := (hT src a ha).1
        have u2 := (hT dst b hb).1
        rw [intD_spec h1] at u1
        rw [intD_spec h2] at u2
        exact ⟨_, by simp [execOp, ho, hx, convert, run_underlying u1, run_underlying u2, Conv.intToInt], .atom _⟩
      · cases hv
    · cases hv
  · cases hv

def afld (a : Array Field) (i : Nat) : Option Field := lnth a.toList i
theorem afld_spec {a : Array Field} {i : Nat} {fl : Field} (h : afld a i = some fl) : a[i]? = some fl := by rw [afld, lnth_eq] at h; simpa using h
def structD : TypeDesc → Option (Array Field)
  | .struct fs => some fs
  | _ => none
theorem structD_spec {d : TypeDesc} {fs : Array Field} (h : structD d = some fs) : d = .struct fs := by cases d <;> simp [structD] at h; subst h; rfl

/-- The place of a field, if it has cells. -/
def fldOf (T : TT) (t : TypeId) (f : Nat) : Option (Nat × TypeId) :=
  match T t with
  | none => none
  | some ti => match structD ti.d with
    | none => none
    | some fs => match afld fs f with
      | none => none
      | some fl => match T fl.type with
        | none => none
        | some fi => bif Nat.beq fi.size 0 then none else some (fl.offset, fl.type)
theorem fldOf_spec (hT : TOk P T) {t : TypeId} {f : Nat} {off : Nat} {ft : TypeId} (h : fldOf T t f = some (off, ft)) :
    ∃ fs fl fi, P.underlying t = some (.struct fs) ∧ fs[f]? = some fl ∧ fl.offset = off ∧ fl.type = ft ∧ T ft = some fi ∧ fi.size ≠ 0 := by
  unfold fldOf at h
  split at h
  · cases h
  · rename_i ti hti
    split at h
    · cases h
    · rename_i fs hfs
      split at h
      · cases h
      · rename_i fl hfl
        split at h
        · cases h
        · rename_i fi hfi
          cases hz : Nat.beq fi.size 0 with
          | true => simp [hz] at h
          | false =>
            simp [hz] at h
            have hu := (hT t ti hti).1
            rw [structD_spec hfs] at hu
            exact ⟨fs, fl, fi, hu, afld_spec hfl, h.1, h.2, h.2 ▸ hfi, by intro hh; rw [hh] at hz; simp at hz⟩

def xField (T : TT) (t : TypeId) (f : Nat) (x : PV) : Option PV :=
  match fldOf T t f with
  | none => none
  | some (off, ft) => match x with
    | .agg cs => readT T ft cs off
    | _ => none
theorem VR.agg_inv {K : KH} {σ : Nat → Loc} {N : Nat} {cs : List PV} {v : Value} (h : VR K σ N (.agg cs) v) : ∃ vs, v = .agg vs ∧ vs.size = cs.length ∧ ∀ j p, cs[j]? = some p → VR K σ N p (rd vs j) := by
  cases h with
  | agg hl h => exact ⟨_, rfl, hl, h⟩
theorem VR.tup_inv {K : KH} {σ : Nat → Loc} {N : Nat} {cs : List PV} {v : Value} (h : VR K σ N (.tup cs) v) : ∃ vs, v = .tuple vs ∧ vs.size = cs.length ∧ ∀ j p, cs[j]? = some p → VR K σ N p (rd vs j) := by
  cases h with
  | tup hl h => exact ⟨_, rfl, hl, h⟩
theorem G_field (hT : TOk P T) {t : TypeId} {x : Operand} {f : Nat} {pv : PV} (ho : o.op = .field t x f) (hv : xField T t f (E x) = some pv) (h : Q pv st) : OpGoes P E st o Q := by
  refine OpGoes.still (fun K σ w ρ hR hE => ?_) h
  have hx := hE x
  unfold xField at hv
  split at hv
  · cases hv
  · rename_i off ft hf
    split at hv
    · rename_i cs e1
      rw [e1] at hx
      obtain ⟨vs, hvs, hl, hc⟩ := hx.agg_inv
      obtain ⟨fs, fl, fi, hu, hfl, ho1, ho2, _⟩ := fldOf_spec hT hf
      subst ho1; subst ho2
      obtain ⟨v, hr, hv'⟩ := run_part (P := P) hT hv w hl hc
      exact ⟨v, by simp [execOp, ho, hvs, Instr.field, run_underlying hu, hfl, asAgg, hr], hv'⟩
    · cases hv

def xFieldAddr (T : TT) (t : TypeId) (f : Nat) (x : PV) : Option PV :=
  match fldOf T t f with
  | none => none
  | some (off, ft) => match x with
    | .ptr i k o => some (.ptr i k (o + off))
    | .fptr sz n el k o => some (.fptr sz n el k (o + off))
    | _ => none
theorem add_spot (b o j : Nat) : (⟨b, o, none⟩ : Addr).add j = ⟨b, o + j, none⟩ := by unfold Addr.add; split <;> simp_all
theorem run_fieldPlace (hT : TOk P T) {fl : Field} {fi : TI} (hf : T fl.type = some fi) (hz : fi.size ≠ 0) (b o : Nat) (w : World) : (fieldPlace ⟨b, o, none⟩ fl).run P w = .ok ⟨b, o + fl.offset, none⟩ w := by
  simp [fieldPlace, run_sizeOf hT hf, hz, add_spot]
theorem G_fieldAddr (hT : TOk P T) {t : TypeId} {x : Operand} {f : Nat} {pv : PV} (ho : o.op = .fieldAddr t x f) (hv : xFieldAddr T t f (E x) = some pv) (h : Q pv st) : OpGoes P E st o Q := by
  refine OpGoes.still (fun K σ w ρ hR hE => ?_) h
  have hx := hE x
  unfold xFieldAddr at hv
  split at hv
  · cases hv
  · rename_i off ft hf
    obtain ⟨fs, fl, fi, hu, hfl, ho1, ho2, hfi, hz⟩ := fldOf_spec hT hf
    subst ho1; subst ho2
    split at hv
    · rename_i i k o' e1
      simp at hv; subst hv
      rw [e1] at hx
      generalize hg : ρ x = g at hx
      cases hx with
      | ptr hi =>
        refine ⟨_, by simp [execOp, ho, hg, Instr.fieldAt, run_underlying hu, hfl, Instr.sureAddr, run_fieldPlace hT hfi hz]; rfl, ?_⟩
        have := VR.ptr (K := K) (σ := σ) (N := st.length) (i := i) (k := k) (off := o' + fl.offset) hi
        rwa [← Nat.add_assoc] at this
    · rename_i sz n el k o' e1
      simp at hv; subst hv
      rw [e1] at hx
      generalize hg : ρ x = g at hx
      cases hx with
      | fptr hb hk hs hl hone hc =>
        refine ⟨_, by simp [execOp, ho, hg, Instr.fieldAt, run_underlying hu, hfl, Instr.sureAddr, run_fieldPlace hT hfi hz]; rfl, ?_⟩
        have := VR.fptr (K := K) (σ := σ) (N := st.length) (off := o' + fl.offset) hb hk hs hl hone hc
        rwa [← Nat.add_assoc] at this
    · cases hv

def xLoad (T : TT) (st : St) (t : TypeId) (x : PV) : Option PV :=
  match x with
  | .ptr i k off => (match st.get i with | some B => bif Nat.blt k B.n then readT T t (B.el k) off else none | none => none)
  | .fptr _ _ el k off => readT T t (el k) off
  | _ => none
theorem Rel.cells {K : KH} {σ : Nat → Loc} {w : World} (hR : Rel K σ st w) {i : Nat} {B : Blk} (hB : st.get i = some B) {k : Nat} (hk : k < B.n) :
    ∃ cur, w.heap[(σ i).blk]? = some (.cells cur B.e (0, 0)) ∧ (σ i).sz = B.sz ∧ (B.el k).length = B.sz ∧ (σ i).off + k * B.sz + (B.el k).length ≤ cur.size ∧ ∀ j p, (B.el k)[j]? = some p → VR K σ st.length p (rd cur ((σ i).off + k * B.sz + j)) := by
  rcases hR.own i B hB with ⟨_, h0⟩ | ⟨hreal, cur, h1, h2, h3, h4, h5⟩
  · omega
  have h6 := h4.2.2 k hk
  refine ⟨cur, h1, h3, h6.1, ?_, h6.2⟩
  have : (k + 1) * B.sz ≤ B.n * B.sz := Nat.mul_le_mul_right _ hk
  rw [Nat.succ_mul] at this
  have := h4.1
  omega
theorem G_load (hT : TOk P T) {t : TypeId} {x : Operand} {pv : PV} (ho : o.op = .load t x) (hv : xLoad T st t (E x) = some pv) (h : Q pv st) : OpGoes P E st o Q := by
  refine OpGoes.still (fun K σ w ρ hR hE => ?_) h
  have hx := hE x
  unfold xLoad at hv
  split at hv
  · rename_i i k off e1
    rw [e1] at hx
    split at hv
    · rename_i B hB
      cases hk : Nat.blt k B.n with
      | false => simp [hk] at hv
      | true =>
        simp only [hk, cond_true] at hv
        rw [Nat.blt_eq] at hk
        obtain ⟨cur, h1, h3, h6, h7, h8⟩ := hR.cells hB hk
        obtain ⟨v, hr, hv'⟩ := run_loadVar_cells (K := K) (σ := σ) (N := st.length) hT hv w (σ i).blk ((σ i).off + k * B.sz) cur h1 h7 h8
        generalize hg : ρ x = g at hx
        cases hx with
        | ptr hi => exact ⟨v, by simp [execOp, ho, hg, Instr.loadAt, Instr.sureAddr, h3, hr], hv'⟩
    · cases hv
  · rename_i sz n el k off e1
    rw [e1] at hx
    generalize hg : ρ x = g at hx
    cases hx with
    | fptr hb hk hs hl hone hc =>
      rename_i b o' cur
      obtain ⟨e, he⟩ := hR.kin _ _ hb
      have : (k + 1) * sz ≤ n * sz := Nat.mul_le_mul_right _ hk
      rw [Nat.succ_mul] at this
      obtain ⟨v, hr, hv'⟩ := run_loadVar_cells (K := K) (σ := σ) (N := 0) hT hv w b (o' + k * sz) cur he (by rw [hl k hk]; omega) (hc k hk)
      exact ⟨v, by simp [execOp, ho, hg, Instr.loadAt, Instr.sureAddr, hr], hv'.zero _ _⟩
  · cases hv

def xExtract (x : PV) (i : Nat) : Option PV :=
  match x with
  | .tup vs => (match lnth vs i with | some p => strict p | none => none)
  | .atom (.tuple vs) => (match vs[i]? with | some v => some (.atom v) | none => none)
  | _ => none
theorem G_extract {x : Operand} {i : Nat} {pv : PV} (ho : o.op = .extract x i) (hv : xExtract (E x) i = some pv) (h : Q pv st) : OpGoes P E st o Q := by
  refine OpGoes.still (fun K σ w ρ hR hE => ?_) h
  have hx := hE x
  unfold xExtract at hv
  split at hv
  · rename_i cs e1
    rw [e1] at hx
    obtain ⟨vs, hvs, hl, hc⟩ := hx.tup_inv
    split at hv
    · rename_i p hp
      rw [lnth_eq] at hp
      have h1 := hc i p hp
      rw [strict_spec hv] at h1
      have hlt : i < vs.size := by rw [hl]; exact (List.getElem?_eq_some_iff.1 hp).1
      exact ⟨rd vs i, by simp [execOp, ho, hvs, Instr.extract, rd, hlt], h1⟩
    · cases hv
  · rename_i vs e1
    rw [e1] at hx
    have hx := hx.atom_inv
    split at hv
    · rename_i v hv'
      simp at hv; subst hv
      exact ⟨v, by simp [execOp, ho, hx, Instr.extract, hv'], .atom _⟩
    · cases hv
  · cases hv

def xNil (x : PV) : Option PV :=
  match x with
  | .ptr i k off => some (.ptr i k off)
  | .fptr sz n el k off => some (.fptr sz n el k off)
  | .func f c => some (.func f c)
  | _ => none
theorem G_nilCheck {x : Operand} {pv : PV} (ho : o.op = .nilCheck x) (hv : xNil (E x) = some pv) (h : Q pv st) : OpGoes P E st o Q := by
  refine OpGoes.still (fun K σ w ρ hR hE => ?_) h
  have hx := hE x
  unfold xNil at hv
  split at hv <;> (try cases hv; done)
  all_goals
    rename_i e1
    simp at hv; subst hv
    rw [e1] at hx
    generalize hg : ρ x = g at hx
    cases hx
    refine ⟨_, by simp [execOp, ho, hg]; rfl, ?_⟩
    constructor <;> assumption

theorem G_makeFunc {g : FuncId} {cap : Array Operand} (ho : o.op = .makeFunc (.func g) #[] cap) (h : Q (.func g (cap.toList.map E)) st) : OpGoes P E st o Q := by
  refine OpGoes.still (fun K σ w ρ hR hE => ?_) h
  refine ⟨_, by simp [execOp, ho, Instr.makeFunc]; rfl, .func (by simp) (fun j p hp => ?_)⟩
  simp at hp
  obtain ⟨x, hx, rfl⟩ := hp
  have : rd (cap.map ρ) j = ρ x := by simp [rd, hx]
  rw [this]; exact hE x

theorem G_makeIface (hT : TOk P T) {t : TypeId} {x : Operand} {pv : PV} {ti : TI} (ho : o.op = .makeInterface t x) (ht : T t = some ti) (hd : (match ti.d with | .interface _ => true | _ => false) = false) (hv : strict (E x) = some pv) (h : Q (.iface t pv) st) : OpGoes P E st o Q := by
  refine OpGoes.still (fun K σ w ρ hR hE => ?_) h
  have hu := (hT t ti ht).1
  refine ⟨.iface t (ρ x), ?_, .iface (strict_spec hv ▸ hE x)⟩
  simp only [execOp, ho, Instr.makeInterface, Sem.run_bind, run_underlying hu, Result.andThen_ok]
  cases hh : ti.d <;> simp [hh] at hd ⊢

/-! len, min, max -/
def xLen (x : PV) : Option PV :=
  match x with
  | .slc _ _ n => some (.atom (.int .i64 n))
  | .fz _ n _ => some (.atom (.int .i64 n))
  | .atom (.slice _ n _) => some (.atom (.int .i64 n))
  | _ => none
theorem VR.slice_len {K : KH} {σ : Nat → Loc} {N i k n : Nat} {v : Value} (h : VR K σ N (.slc i k n) v) : ∃ A c, v = .slice A n c ∧ n ≤ c ∧ c ≤ maxLen := by
  cases h with
  | slc hi hr ht hn hm => exact ⟨_, _, rfl, hn, hm⟩
  | slc0 A => exact ⟨_, _, rfl, Nat.le_refl _, by simp [maxLen]⟩
theorem VR.fz_len {K : KH} {σ : Nat → Loc} {N sz n : Nat} {el : Nat → List PV} {v : Value} (h : VR K σ N (.fz sz n el) v) : ∃ A c, v = .slice A n c ∧ n ≤ c ∧ c ≤ maxLen := by
  cases h with
  | fz hb hn hc hm => exact ⟨_, _, rfl, hc, hm⟩
  | fz0 A c hm => exact ⟨_, _, rfl, Nat.zero_le _, hm⟩
def sliceD : TypeDesc → Option TypeId
  | .slice e => some e
  | _ => none
theorem sliceD_spec {d : TypeDesc} {e : TypeId} (h : sliceD d = some e) : d = .slice e := by cases d <;> simp [sliceD] at h; subst h; rfl
theorem G_len (hT : TOk P T) {t : TypeId} {x : Operand} {pv : PV} {ti : TI} {e : TypeId} (ho : o.op = .call { callee := .builtin .len, args := #[x], argTypes := #[t] }) (ht : T t = some ti) (hs : sliceD ti.d = some e) (hv : xLen (E x) = some pv) (h : Q pv st) : OpGoes P E st o Q := by
  refine OpGoes.still (fun K σ w ρ hR hE => ?_) h
  have hx := hE x
  have hu := (hT t ti ht).1
  rw [sliceD_spec hs] at hu
  have key : ∀ A (n : Nat) c, ρ x = .slice A n c → ∃ v, (execOp ρ o).run P w = .ok (.value v) w ∧ VR K σ st.length (.atom (.int .i64 n)) v := by
    intro A n c hh
    exact ⟨_, by simp [execOp, ho, hh, resolve, invoke, builtin, Builtin.len_, run_underlying hu]; rfl, .atom _⟩
  unfold xLen at hv
  split at hv <;> (try cases hv; done)
  all_goals
    rename_i e1
    simp at hv; subst hv
    rw [e1] at hx
  · obtain ⟨A, c, hh, _⟩ := hx.slice_len; exact key _ _ _ hh
  · obtain ⟨A, c, hh, _⟩ := hx.fz_len; exact key _ _ _ hh
  · exact key _ _ _ hx.atom_inv
theorem G_lenStr (hT : TOk P T) {t : TypeId} {x : Operand} {s : ByteArray} {ti : TI} (ho : o.op = .call { callee := .builtin .len, args := #[x], argTypes := #[t] }) (ht : T t = some ti) (hs : isStrD ti.d = true) (hv : E x = .atom (.string s)) (h : Q (.atom (.int .i64 s.size)) st) : OpGoes P E st o Q := by
  refine OpGoes.still (fun K σ w ρ hR hE => ?_) h
  have hx := hE x
  rw [hv] at hx
  have hu := (hT t ti ht).1
  have : ti.d = .string := by cases hd : ti.d <;> simp [hd, isStrD] at hs; rfl
  rw [this] at hu
  exact ⟨_, by simp [execOp, ho, hx.atom_inv, resolve, invoke, builtin, Builtin.len_, run_underlying hu]; rfl, .atom _⟩

def ints : List PV → Option (List Int)
  | [] => some []
  | .atom (.int .i64 n) :: l => (match ints l with | some r => some (n :: r) | none => none)
  | _ => none
def lmin : Int → List Int → Int
  | x, [] => x
  | x, y :: l => lmin (if y < x then y else x) l
theorem ints_spec {K : KH} {σ : Nat → Loc} {N : Nat} {ρ : Operand → Value} (hE : ∀ x, VR K σ N (E x) (ρ x)) : ∀ {xs : List Operand} {l : List Int}, ints (xs.map E) = some l → xs.map ρ = l.map (Value.int .i64)
  | [], l, h => by simp [ints] at h; subst h; rfl
  | x :: xs, l, h => by
    have hx := hE x
    simp only [List.map_cons] at h ⊢
    generalize E x = p at h hx
    cases p with
    | atom v =>
      cases v with
      | int k n =>
        cases k <;> simp only [ints] at h <;> try cases h
        split at h
        · rename_i r hr
          simp at h; subst h
          rw [hx.atom_inv, ints_spec hE hr]; rfl
        · cases h
      | _ => simp [ints] at h
    | _ => simp [ints] at h
def lmax : Int → List Int → Int
  | x, [] => x
  | x, y :: l => lmax (if y > x then y else x) l
end
end Go.Sy
