/- All plain operations by one rule; what stands between them by another. -/
import Derived.Test.YtocfjbopkgmjkaaDoorY14
set_option linter.unusedVariables false
set_option linter.unusedSimpArgs false
set_option linter.unusedSectionVars false
namespace Go.Sy
open Go Go.RowKit
variable [Globs]

/-! ### a state written out -/
def nlB : Option Blk → Option (Option Blk)
  | some ⟨e, sz, n, el, ro⟩ => some (some ⟨e, sz, n, el, ro⟩)
  | none => some none
def nl : St → Option St
  | [] => some []
  | b :: r => match nlB b, nl r with
    | some b', some r' => some (b' :: r')
    | _, _ => none
omit [Globs] in
theorem nl_spec : ∀ {st l : St}, nl st = some l → st = l
  | [], l, h => by simp [nl] at h; exact h.symm
  | b :: r, l, h => by
    simp only [nl] at h
    split at h
    · rename_i b' r' hb hr
      simp only [Option.some.injEq] at h
      subst h
      rw [nl_spec hr]
      congr 1
      cases b with
      | none => simp [nlB] at hb; exact hb
      | some B => cases B; simp [nlB] at hb; exact hb
    · cases h

/-- A natural number, if a whole number is one by its form. -/
def natI : Int → Option Nat
  | .ofNat n => some n
  | .negSucc _ => none
omit [Globs] in
theorem natI_spec {i : Int} {n : Nat} (h : natI i = some n) : i = (n : Int) := by
  cases i <;> simp [natI] at h; subst h; rfl

omit [Globs] in
theorem o3 {α β γ : Type _} {a a' : α} {b b' : β} {c c' : γ} (h : some (a, b, c) = some (a', b', c')) : a' = a ∧ b' = b ∧ c' = c := by
  injection h with h; injection h with h1 h2; injection h2 with h2 h3; exact ⟨h1.symm, h2.symm, h3.symm⟩
abbrev OX := Option (Prop × PV × St)
def oq (p : Option PV) (st : St) : OX := match p with
  | some v => some (True, v, st)
  | none => none
def on (c : Prop) (v : PV) (st : St) : OX := match nl st with
  | some s => some (c, v, s)
  | none => none
omit [Globs] in
theorem oq_spec {p : Option PV} {st : St} {c : Prop} {pv : PV} {st' : St} (h : oq p st = some (c, pv, st')) : p = some pv ∧ st' = st := by
  cases p with
  | none => cases h
  | some v => obtain ⟨_, rfl, rfl⟩ := o3 h; exact ⟨rfl, rfl⟩
omit [Globs] in
theorem on_spec {c c' : Prop} {v pv : PV} {st st' : St} (h : on c v st = some (c', pv, st')) : c' = c ∧ pv = v ∧ st' = st := by
  unfold on at h
  split at h
  · rename_i s hs
    obtain ⟨rfl, rfl, rfl⟩ := o3 h
    exact ⟨rfl, rfl, (nl_spec hs).symm⟩
  · cases h

section
variable (P : Program) (T : TT) (w : Bool) (E : Operand → PV) (st : St)
/-- Two values by an operator. 'w': numbers may wrap. -/
def oxBin (op : BinOp) (t : TypeId) (x y : Operand) : OX :=
  match E x, E y with
  | .atom (.int k a), .atom (.int k' b) => (match op with
    | .add => bif ikeq k .i64 then bif ikeq k' .i64 then bif w then some (True, .atom (.int .i64 (IntKind.i64.wrap (a + b))), st) else some (-9223372036854775808 ≤ a + b ∧ a + b ≤ 9223372036854775807, .atom (.int .i64 (a + b)), st) else none else oq (xBin T op t (E x) (E y)) st
    | .sub => bif ikeq k .i64 then bif ikeq k' .i64 then bif w then some (True, .atom (.int .i64 (IntKind.i64.wrap (a - b))), st) else some (-9223372036854775808 ≤ a - b ∧ a - b ≤ 9223372036854775807, .atom (.int .i64 (a - b)), st) else none else oq (xBin T op t (E x) (E y)) st
    | .quo => bif ikeq k k' then some (b ≠ 0, .atom (.int k (k.wrap (a.tdiv b))), st) else none
    | .rem => bif ikeq k k' then some (b ≠ 0, .atom (.int k (a.tmod b)), st) else none
    | .shl => some (0 ≤ b, .atom (.int k (k.wrap (a * 2 ^ (min b.toNat k.bits)))), st)
    | .shr => some (0 ≤ b, .atom (.int k (a.fdiv (2 ^ (min b.toNat k.bits)))), st)
    | _ => oq (xBin T op t (E x) (E y)) st)
  | .atom (.string a), .atom (.string b) => (match op with
    | .add => some (a.size + b.size ≤ 9223372036854775807, .atom (.string (a ++ b)), st)
    | _ => oq (xBin T op t (E x) (E y)) st)
  | .agg cs, .agg ds => (match ints cs, ints ds with
    | some xs, some ys => bif Nat.beq ys.length xs.length then bif Nat.beq xs.length (sizeT T t) then (match eqRes op (xs == ys) with
      | some r => some (eqSok P T t = true, .atom (.bool r), st)
      | none => none) else none else none
    | _, _ => none)
  | _, _ => (match y with
    | .const .nilIface => (match T t, xIface (E x), E (.const .nilIface) with
      | some ti, some b, .atom .nilIface => bif isIfaceD ti.d then oq ((xNilOp op b).map fun r => .atom (.bool r)) st else none
      | _, _, _ => none)
    | _ => oq (xBin T op t (E x) (E y)) st)
def oxLoad (t : TypeId) (x : Operand) : OX :=
  match E x with
  | .ptr i k off => (match st.get i with
    | some ⟨_, _, n, el, _⟩ => (match readT T t (el k) off with
      | some pv => some (k < n, pv, st)
      | none => none)
    | none => none)
  | .fptr _ _ el k off => oq (readT T t (el k) off) st
  | _ => none
def oxStore (t : TypeId) (a x : Operand) : OX :=
  match T t, E a, boxOf (E x) with
  | some ti, .ptr i k off, some new => (match st.get i with
    | some ⟨e, sz, n, el, ro⟩ => bif ro then none else bif Nat.beq new.length ti.size then bif Nat.ble (off + new.length) sz then
        (bif w then on (k < n) (.atom undef) (st.upd i (some ⟨e, sz, n, fun k' => bif Nat.beq k' k then setL off (el k) new else el k', false⟩))
         else bif Nat.beq k 0 then bif Nat.beq n 1 then on True (.atom undef) (st.upd i (some ⟨e, sz, 1, fun _ => setL off (el 0) new, false⟩)) else none else none) else none else none
    | none => none)
  | _, _, _ => none
def oxIx (t : TypeId) (x ix : Operand) : OX :=
  match intOf' (E ix) with
  | none => none
  | some (_, i) => match natI i with
    | none => none
    | some m => match E x with
      | .fz sz n el => (match sliceT T t with
        | some (_, te) => bif Nat.beq te.size sz then some (m < n, .fptr sz n el m 0, st) else none
        | none => none)
      | .slc i0 k0 n => (match sliceT T t, st.get i0 with
        | some (_, te), some B => bif Nat.beq te.size B.sz then some (m < n, .ptr i0 (k0 + m) 0, st) else none
        | _, _ => none)
      | .ptr i0 k0 off => (match T t with
        | some ti => (match ti.d with
          | .array len e => (match T e with
            | some te => some (m < len, .ptr i0 k0 (off + m * te.size), st)
            | none => none)
          | _ => none)
        | none => none)
      | _ => none
def oxApp (t : TypeId) (x y : Operand) : OX :=
  match sliceT T t, srcP st (E y) with
  | some (e, te), some (sz, m, el) => bif Nat.beq sz te.size then bif Nat.beq te.zero.cells.size te.size then bif Nat.blt 0 te.bytes then (match E x with
    | .slc i k0 n => (match st.get i with
      | some ⟨be, bsz, bn, bel, bro⟩ => bif bro then none else bif Nat.beq be e then bif Nat.beq bsz te.size then
        on (k0 + n ≤ bn ∧ (n + m) * te.bytes ≤ 140737488355328) (.slc st.length 0 (n + m)) (st.upd i none ++ [some ⟨e, te.size, n + m, appEl n (fun j => bel (k0 + j)) el, false⟩]) else none else none
      | none => none)
    | p => bif isNilS p then on (m * te.bytes ≤ 140737488355328) (.slc st.length 0 m) (st ++ [some ⟨e, te.size, m, el, false⟩]) else none) else none else none else none
  | _, _ => none
def bndI : Option Operand → Int → Option Int
  | none, d => some d
  | some y, _ => match intOf' (E y) with
    | some (_, n) => some n
    | none => none
def oxCut (t : TypeId) (x : Operand) (lo hi : Option Operand) : OX :=
  match E x with
  | .atom (.string s) => (match bndI E lo 0, bndI E hi s.size with
    | some l, some h => bif strT T t then some (0 ≤ l ∧ l ≤ h ∧ h ≤ s.size, .atom (.string (s.extract l.toNat h.toNat)), st) else none
    | _, _ => none)
  | .fz sz n el => (match bndI E lo 0, bndI E hi n, sliceT T t with
    | some l, some h, some (_, te) => bif Nat.beq te.size sz then some (0 ≤ l ∧ l ≤ h ∧ h ≤ n, .fz sz (h.toNat - l.toNat) fun k => el (l.toNat + k), st) else none
    | _, _, _ => none)
  | .slc i0 k0 n => (match bndI E lo 0, bndI E hi n, sliceT T t, st.get i0 with
    | some l, some h, some (_, te), some B => bif Nat.beq te.size B.sz then some (0 ≤ l ∧ l ≤ h ∧ h ≤ n, .slc i0 (k0 + l.toNat) (h.toNat - l.toNat), st) else none
    | _, _, _, _ => none)
  | _ => none
def oxLen (t : TypeId) (x : Operand) : OX :=
  match E x with
  | .atom (.string s) => bif strT T t then some (True, .atom (.int .i64 s.size), st) else none
  | p => (match sliceT T t with
    | some _ => oq (xLen p) st
    | none => none)
def oxConv (s d : TypeId) (x : Operand) : OX := oq (xConv T s d (E x)) st
def opX (o : Op) : OX :=
  match o with
  | .fieldAddr t x f => oq (xFieldAddr T t f (E x)) st
  | .load t x => oxLoad T E st t x
  | .move x => oq (strict (E x)) st
  | .assign x => oq (strict (E x)) st
  | .extract x i => oq (xExtract (E x) i) st
  | .pick c x y => (match boolOf (E c) with
    | some b => oq (strict (bif b then E x else E y)) st
    | none => none)
  | .binOp op t x y _ => oxBin P T w E st op t x y
  | .unOp op _ x => oq (xUn op (E x)) st
  | .convert s d x => oxConv T E st s d x
  | .field t x f => oq (xField T t f (E x)) st
  | .nilCheck x => oq (xNil (E x)) st
  | .indexAddr t x ix => oxIx T E st t x ix
  | .index t x ix => (match E x, intOf' (E ix) with
    | .atom (.string s), some (_, i) => bif strT T t then some (0 ≤ i ∧ i < s.size, .atom (.int .u8 (byteAt s i)), st) else none
    | _, _ => none)
  | .box elem x => (match boxOf (E x) with
    | some cs => on True (.ptr st.length 0 0) (st ++ [some ⟨elem, cs.length, 1, fun _ => cs, false⟩])
    | none => none)
  | .alloc elem => (match allocT T elem with
    | some (sz, z) => on True (.ptr st.length 0 0) (st ++ [some ⟨elem, sz, 1, fun _ => z, false⟩])
    | none => none)
  | .build t parts => (match buildT T t with
    | some (pl, z) => oq ((fillP (lpl pl) (z.cells.toList.map .atom) (parts.toList.map fun x => (x.1, E x.2))).map .agg) st
    | none => none)
  | .buildSlice t len parts => (match sliceT T t with
    | some (e, te) => bif Nat.beq te.zero.cells.size te.size then bif Nat.blt 0 te.size then bif cellsOk (zeroEls te.zero) then bif Nat.ble (len * te.size) 16777216 then
        (match fillP (fun i => some (i * te.size, te.size)) (zerosN (zeroEls te.zero) len) (parts.toList.map fun x => (x.1, E x.2)) with
        | some cs => bif w then (bif closedL cs then some (True, .fz te.size len (piece te.size cs), st) else none) else on True (.slc st.length 0 len) (st ++ [some ⟨e, te.size, len, piece te.size cs, false⟩])
        | none => none) else none else none else none else none
    | none => none)
  | .store t a x => oxStore T w E st t a x
  | .makeFunc (.func g) ⟨[]⟩ cap => some (True, .func g (cap.toList.map E), st)
  | .slice t x lo hi none => oxCut T E st t x lo hi
  | .call { callee := .builtin .len, args := ⟨[x]⟩, argTypes := ⟨[t]⟩ } => oxLen T E st t x
  | .call { callee := .builtin .append, args := ⟨[x, y]⟩, argTypes := ⟨[t, t']⟩ } => bif Nat.beq t t' then oxApp T E st t x y else none
  | .call { callee := .builtin .min, args := args, argTypes := _ } => (match ints (args.toList.map E) with
    | some (x :: l) => some (True, .atom (.int .i64 (lmin x l)), st)
    | _ => none)
  | .call { callee := .builtin .max, args := args, argTypes := _ } => (match ints (args.toList.map E) with
    | some (x :: l) => some (True, .atom (.int .i64 (lmax x l)), st)
    | _ => none)
  | _ => none
end

section
variable {P : Program} {T : TT} {w : Bool} {E : Operand → PV} {st st' : St} {o : Oper} {c : Prop} {pv : PV} {Q : PV → St → Prop}
theorem bndI_spec {lo : Option Operand} {d l : Int} (h : bndI E lo d = some l) : bnd E lo d l := by
  cases lo with
  | none => simp [bndI] at h; exact h.symm
  | some y =>
    simp only [bndI] at h
    split at h
    · rename_i kd n h1
      simp at h; subst h
      exact ⟨kd, intOf'_spec h1⟩
    · cases h
omit [Globs] in
theorem bifN {α : Type} {b : Bool} {x : Option α} {y : α} (h : (bif b then x else none) = some y) : b = true ∧ x = some y := by
  cases b <;> simp at h; exact ⟨rfl, h⟩
theorem oxBin_spec (hT : TOk P T) {op : BinOp} {t t2 : TypeId} {x y : Operand} (ho : o.op = .binOp op t x y t2) (h : oxBin P T w E st op t x y = some (c, pv, st')) (hc : c) (hq : Q pv st') : OpGoes P E st o Q := by
  have gen : ∀ {c : Prop} {pv : PV} {st' : St}, oq (xBin T op t (E x) (E y)) st = some (c, pv, st') → Q pv st' → OpGoes P E st o Q := by
    intro c pv st' h hq
    obtain ⟨h1, rfl⟩ := oq_spec h
    exact G_bin hT ho h1 hq
  unfold oxBin at h
  split at h
  · rename_i k a k' b hx hy
    have ex : intOf' (E x) = some (k, a) := by rw [hx]; rfl
    have ey : intOf' (E y) = some (k', b) := by rw [hy]; rfl
    split at h
    · cases h1 : ikeq k .i64 with
      | true =>
        simp only [h1, cond_true] at h
        obtain ⟨h2, h⟩ := bifN h
        have := ikeq_spec h1; subst this
        have := ikeq_spec h2; subst this
        cases w with
        | true => obtain ⟨rfl, rfl, rfl⟩ := o3 h; exact G_bin hT ho (by rw [hx, hy]; rfl) hq
        | false => obtain ⟨rfl, rfl, rfl⟩ := o3 h; exact G_add64 hT ho ex ey hc.1 hc.2 hq
      | false => simp only [h1, cond_false] at h; exact gen h hq
    · cases h1 : ikeq k .i64 with
      | true =>
        simp only [h1, cond_true] at h
        obtain ⟨h2, h⟩ := bifN h
        have := ikeq_spec h1; subst this
        have := ikeq_spec h2; subst this
        cases w with
        | true => obtain ⟨rfl, rfl, rfl⟩ := o3 h; exact G_bin hT ho (by rw [hx, hy]; rfl) hq
        | false => obtain ⟨rfl, rfl, rfl⟩ := o3 h; exact G_sub64 hT ho ex ey hc.1 hc.2 hq
      | false => simp only [h1, cond_false] at h; exact gen h hq
    · obtain ⟨h1, h5⟩ := bifN h
      obtain rfl := ikeq_spec h1
      obtain ⟨rfl, rfl, rfl⟩ := o3 h5
      exact G_quo ho hx hy hc hq
    · obtain ⟨h1, h5⟩ := bifN h
      obtain rfl := ikeq_spec h1
      obtain ⟨rfl, rfl, rfl⟩ := o3 h5
      exact G_rem ho hx hy hc hq
    · obtain ⟨rfl, rfl, rfl⟩ := o3 h
      exact G_shl ho hx hy hc hq
    · obtain ⟨rfl, rfl, rfl⟩ := o3 h
      exact G_shr ho hx hy hc hq
    · exact gen h hq
  · rename_i a b hx hy
    split at h
    · obtain ⟨rfl, rfl, rfl⟩ := o3 h
      exact G_concat ho hx hy hc hq
    · exact gen h hq
  · rename_i cs ds hx hy
    split at h
    · rename_i xs ys h1 h2
      obtain ⟨g1, h⟩ := bifN h
      obtain ⟨g2, h⟩ := bifN h
      split at h
      · rename_i r hr
        obtain ⟨rfl, rfl, rfl⟩ := o3 h
        exact G_eqS hT ho (by rw [hx]; rfl) (by rw [hy]; rfl) h1 h2 g1 g2 hc hr hq
      · cases h
    · cases h
  · split at h
    · split at h
      · rename_i ti b hti hb hE
        obtain ⟨g1, h⟩ := bifN h
        obtain ⟨h1, rfl⟩ := oq_spec h
        simp only [Option.map_eq_some_iff] at h1
        obtain ⟨r, hr, rfl⟩ := h1
        exact G_ifaceNil hT ho hti g1 hb hE hr hq
      · cases h
    · exact gen h hq
theorem oxLoad_spec (hT : TOk P T) {t : TypeId} {x : Operand} (ho : o.op = .load t x) (h : oxLoad T E st t x = some (c, pv, st')) (hc : c) (hq : Q pv st') : OpGoes P E st o Q := by
  unfold oxLoad at h
  split at h
  · rename_i i k off hx
    split at h
    · rename_i hB
      split at h
      · rename_i pv' hv
        obtain ⟨rfl, rfl, rfl⟩ := o3 h
        exact G_load_own hT ho hx hB hc rfl hv hq
      · cases h
    · cases h
  · rename_i sz n el k off hx
    obtain ⟨h1, rfl⟩ := oq_spec h
    exact G_load hT ho (by unfold xLoad; rw [hx]; exact h1) hq
  · cases h
theorem oxStore_spec (hT : TOk P T) {t : TypeId} {a x : Operand} (ho : o.op = .store t a x) (h : oxStore T w E st t a x = some (c, pv, st')) (hc : c) (hq : Q pv st') : OpGoes P E st o Q := by
  unfold oxStore at h
  split at h
  · rename_i ti i k off new hti ha hx
    split at h
    · rename_i e sz n el ro hB
      cases ro with
      | true => simp at h
      | false =>
        simp only [cond_false] at h
        obtain ⟨g1, h⟩ := bifN h
        obtain ⟨g2, h⟩ := bifN h
        have ea : ptrOf (E a) = some (i, k, off) := by rw [ha]; rfl
        cases w with
        | true =>
          simp only [cond_true] at h
          obtain ⟨rfl, rfl, rfl⟩ := on_spec h
          exact G_st hT ho hti ea hB hx (by rw [g1, g2]; rfl) hc hq
        | false =>
          simp only [cond_false] at h
          obtain ⟨g3, h5⟩ := bifN h
          obtain ⟨g4, h6⟩ := bifN h5
          have := Nat.eq_of_beq_eq_true g3; subst this
          obtain ⟨rfl, rfl, rfl⟩ := on_spec h6
          exact G_st1 hT ho hti ea hB hx (by rw [g1, g2, g4]; rfl) hq
    · cases h
  · cases h
theorem oxIx_spec (hT : TOk P T) {t : TypeId} {x ix : Operand} (ho : o.op = .indexAddr t x ix) (h : oxIx T E st t x ix = some (c, pv, st')) (hc : c) (hq : Q pv st') : OpGoes P E st o Q := by
  unfold oxIx at h
  split at h
  · cases h
  · rename_i kd i hi
    split at h
    · cases h
    · rename_i m hm
      have := natI_spec hm; subst this
      split at h
      · rename_i sz n el hx
        split at h
        · rename_i e te hte
          obtain ⟨g1, h⟩ := bifN h
          obtain ⟨rfl, rfl, rfl⟩ := o3 h
          exact G_ixFN hT ho hte (by rw [hx]; rfl) g1 hi hc hq
        · cases h
      · rename_i i0 k0 n hx
        split at h
        · rename_i e te B hte hB
          obtain ⟨g1, h⟩ := bifN h
          obtain ⟨rfl, rfl, rfl⟩ := o3 h
          exact G_ixON hT ho hte (by rw [hx]; rfl) hB g1 hi hc hq
        · cases h
      · rename_i i0 k0 off hx
        split at h
        · rename_i ti hti
          split at h
          · rename_i len e hd
            split at h
            · rename_i te hte
              obtain ⟨rfl, rfl, rfl⟩ := o3 h
              exact G_index_arr hT ho hti hd hte hx (intOf'_spec hi) (by omega) (by omega) (by simpa using hq)
            · cases h
          · cases h
        · cases h
      · cases h
theorem oxApp_spec (hT : TOk P T) {t : TypeId} {x y : Operand} (ho : o.op = .call { callee := .builtin .append, args := #[x, y], argTypes := #[t, t] }) (h : oxApp T E st t x y = some (c, pv, st')) (hc : c) (hq : Q pv st') : OpGoes P E st o Q := by
  unfold oxApp at h
  split at h
  · rename_i e te sz m el hte hy
    obtain ⟨g1, h0⟩ := bifN h
    have := Nat.eq_of_beq_eq_true g1; subst this
    clear h
    obtain ⟨g2, h⟩ := bifN h0
    obtain ⟨g3, h⟩ := bifN h
    split at h
    · rename_i i k0 n hx
      split at h
      · rename_i be bsz bn bel bro hB
        cases bro with
        | true => simp at h
        | false =>
          simp only [cond_false] at h
          obtain ⟨g4, h⟩ := bifN h
          obtain ⟨g5, h⟩ := bifN h
          obtain ⟨rfl, rfl, rfl⟩ := on_spec h
          exact G_appO hT ho hte (by rw [hx]; rfl) hB (by rw [g4, g5, g2, g3]; rfl) hy hc.1 hc.2 hq
      · cases h
    · rename_i p hx
      obtain ⟨g4, h⟩ := bifN h
      obtain ⟨rfl, rfl, rfl⟩ := on_spec h
      exact G_appN hT ho hte g4 (by rw [g2, g3]; rfl) hy hc hq
  · cases h
theorem oxCut_spec (hT : TOk P T) {t : TypeId} {x : Operand} {lo hi : Option Operand} (ho : o.op = .slice t x lo hi none) (h : oxCut T E st t x lo hi = some (c, pv, st')) (hc : c) (hq : Q pv st') : OpGoes P E st o Q := by
  unfold oxCut at h
  split at h
  · rename_i s hx
    split at h
    · rename_i l r hl hr
      obtain ⟨g1, h⟩ := bifN h
      obtain ⟨rfl, rfl, rfl⟩ := o3 h
      exact G_cutS hT ho g1 (by rw [hx]; rfl) (bndI_spec hl) (bndI_spec hr) hc.1 hc.2.1 hc.2.2 hq
    · cases h
  · rename_i sz n el hx
    split at h
    · rename_i l r e te hl hr hte
      obtain ⟨g1, h⟩ := bifN h
      obtain ⟨rfl, rfl, rfl⟩ := o3 h
      obtain ⟨ti, a, b, d⟩ := sliceT_spec hte
      exact G_slice_fz hT ho a b d g1 hx (bndI_spec hl) (bndI_spec hr) hc.1 hc.2.1 hc.2.2 hq
    · cases h
  · rename_i i0 k0 n hx
    split at h
    · rename_i l r e te B hl hr hte hB
      obtain ⟨g1, h⟩ := bifN h
      obtain ⟨rfl, rfl, rfl⟩ := o3 h
      obtain ⟨ti, a, b, d⟩ := sliceT_spec hte
      exact G_slice_own hT ho a b d hx hB g1 (bndI_spec hl) (bndI_spec hr) hc.1 hc.2.1 hc.2.2 hq
    · cases h
  · cases h
theorem oxLen_spec (hT : TOk P T) {t : TypeId} {x : Operand} (ho : o.op = .call { callee := .builtin .len, args := #[x], argTypes := #[t] }) (h : oxLen T E st t x = some (c, pv, st')) (hc : c) (hq : Q pv st') : OpGoes P E st o Q := by
  unfold oxLen at h
  split at h
  · rename_i s hx
    obtain ⟨g1, h⟩ := bifN h
    obtain ⟨rfl, rfl, rfl⟩ := o3 h
    exact G_lenT hT ho g1 (by rw [hx]; rfl) hq
  · split at h
    · rename_i e hte
      obtain ⟨h1, rfl⟩ := oq_spec h
      obtain ⟨e, te⟩ := e
      exact G_lenS hT ho hte h1 hq
    · cases h
theorem opX_spec (hT : TOk P T) (h : opX P T w E st o.op = some (c, pv, st')) (hc : c) (hq : Q pv st') : OpGoes P E st o Q := by
  generalize ho : o.op = op at h
  unfold opX at h
  split at h
  · obtain ⟨h1, rfl⟩ := oq_spec h; exact G_fieldAddr hT ho h1 hq
  · exact oxLoad_spec hT ho h hc hq
  · obtain ⟨h1, rfl⟩ := oq_spec h; exact G_move ho h1 hq
  · obtain ⟨h1, rfl⟩ := oq_spec h; exact G_assign ho h1 hq
  · obtain ⟨h1, rfl⟩ := oq_spec h; exact G_extract ho h1 hq
  · split at h
    · rename_i b hb
      obtain ⟨h1, rfl⟩ := oq_spec h; exact G_pick' ho hb h1 hq
    · cases h
  · exact oxBin_spec hT ho h hc hq
  · obtain ⟨h1, rfl⟩ := oq_spec h; exact G_un ho h1 hq
  · obtain ⟨h1, rfl⟩ := oq_spec h; exact G_conv hT ho h1 hq
  · obtain ⟨h1, rfl⟩ := oq_spec h; exact G_field hT ho h1 hq
  · obtain ⟨h1, rfl⟩ := oq_spec h; exact G_nilCheck ho h1 hq
  · exact oxIx_spec hT ho h hc hq
  · split at h
    · rename_i s kd i hx hi
      obtain ⟨g1, h⟩ := bifN h
      obtain ⟨rfl, rfl, rfl⟩ := o3 h
      exact G_ixS hT ho g1 (by rw [hx]; rfl) hi hc.1 hc.2 hq
    · cases h
  · split at h
    · rename_i cs hcs
      obtain ⟨rfl, rfl, rfl⟩ := on_spec h
      exact G_box' ho hcs hq
    · cases h
  · split at h
    · rename_i sz z hz
      obtain ⟨rfl, rfl, rfl⟩ := on_spec h
      exact G_alloc' hT ho hz hq
    · cases h
  · split at h
    · rename_i pl z hz
      obtain ⟨h1, rfl⟩ := oq_spec h
      simp only [Option.map_eq_some_iff] at h1
      obtain ⟨r, hr, rfl⟩ := h1
      exact G_lit hT ho hz hr hq
    · cases h
  · split at h
    · rename_i e te hte
      obtain ⟨g1, h⟩ := bifN h
      obtain ⟨g2, h⟩ := bifN h
      obtain ⟨g3, h⟩ := bifN h
      obtain ⟨g4, h⟩ := bifN h
      split at h
      · rename_i cs hcs
        cases w with
        | true =>
          simp only [cond_true] at h
          obtain ⟨g5, h⟩ := bifN h
          obtain ⟨rfl, rfl, rfl⟩ := o3 h
          exact G_litF hT ho hte (by rw [g1, g2, g3, g4]; rfl) hcs g5 hq
        | false =>
          simp only [cond_false] at h
          obtain ⟨rfl, rfl, rfl⟩ := on_spec h
          exact G_litS hT ho hte (by rw [g1, g2, g3, g4]; rfl) hcs hq
      · cases h
    · cases h
  · exact oxStore_spec hT ho h hc hq
  · obtain ⟨rfl, rfl, rfl⟩ := o3 h
    exact G_makeFunc ho hq
  · exact oxCut_spec hT ho h hc hq
  · exact oxLen_spec hT ho h hc hq
  · obtain ⟨g1, h0⟩ := bifN h
    have := Nat.eq_of_beq_eq_true g1; subst this
    clear h
    have h := h0
    exact oxApp_spec hT ho h hc hq
  · split at h
    · rename_i x l hl
      obtain ⟨rfl, rfl, rfl⟩ := o3 h
      exact G_min ho hl hq
    · cases h
  · split at h
    · rename_i x l hl
      obtain ⟨rfl, rfl, rfl⟩ := o3 h
      exact G_max ho hl hq
    · cases h
  · cases h
end
end Go.Sy
