/- Texts merged: Y12. -/
import Derived.Test.YtlimecfjpfaljaaDoorM9
import Derived.Laws.BytesString
section
/- Contracts of the library, taken over. -/
set_option linter.unusedVariables false
set_option linter.unusedSimpArgs false
set_option linter.unusedSectionVars false
namespace Go.Sy
open Go Go.RowKit
variable [Globs]
abbrev KIn (K : KH) (w : World) : Prop := ∀ b cur, K b = some cur → InHeap w b cur

theorem KIn.below {K : KH} {w w' : World} (h : KIn K w) (hb : Below w.heap.size w w') : KIn K w' := by
  intro b cur hc
  obtain ⟨e, he⟩ := h b cur hc
  exact ⟨e, (hb.block b (Array.getElem?_eq_some_iff.1 he).1).trans he⟩
theorem atoms_inv {K : KH} {l : List Value} {vs : Array Value} (hsz : vs.size = (l.map PV.atom).length) (h : ∀ j p, (l.map PV.atom)[j]? = some p → VR K σ0 0 p (rd vs j)) : vs = l.toArray := by
  apply Array.ext
  · simpa using hsz
  · intro j h1 h2
    simp at h2
    have := (h j (.atom l[j]) (by simp [h2])).atom_inv
    simp [rd, h1] at this
    simp [this]

/-- A contract about plain values. -/
theorem Pure.ofCalls {P : Program} {f : FuncId} (l : List Value) {pv : PV} (hen : Enters P f)
    (h : ∀ (K : KH) (w : World), Globs.G K → KIn K w → Calls P f l.toArray w fun e w' => ∃ v, e = .returned v ∧ VR K σ0 0 pv v ∧ Below w.heap.size w w') : Pure P f (l.map .atom) pv := by
  refine ⟨hen, fun K w vs hg hk hsz hv => ?_⟩
  rw [atoms_inv hsz hv]
  refine (h K w hg hk).mono ?_
  rintro e w' ⟨v, he, hv, hb⟩
  exact ⟨v, K, he, hv, fun _ _ h => h, KIn.below hk hb, fun _ _ h => .inl h, hb⟩

/-- A row of cells that the call has made. -/
theorem Pure.ofRow {P : Program} {f : FuncId} (l : List Value) {sz n : Nat} {el : Nat → List PV} (hen : Enters P f)
    (h : ∀ (K : KH) (w : World), Globs.G K → KIn K w → Calls P f l.toArray w fun e w' => ∃ b cur te, e = .returned (.slice (some ⟨b, 0, none⟩) n n) ∧ w.heap.size ≤ b ∧ w'.heap[b]? = some (.cells cur te (0, 0)) ∧ n ≤ maxLen ∧ n * sz ≤ cur.size ∧
      (∀ k, k < n → (el k).length = sz) ∧ (∀ k j, k < n → j < sz → (rd cur (k * sz + j)).oneCell' = true) ∧ (∀ k, k < n → ∀ (j : Nat) p, (el k)[j]? = some p → VR K σ0 0 p (rd cur (k * sz + j))) ∧ Below w.heap.size w w') : Pure P f (l.map .atom) (.fz sz n el) := by
  refine ⟨hen, fun K w vs hg hk hsz hv => ?_⟩
  rw [atoms_inv hsz hv]
  refine (h K w hg hk).mono ?_
  rintro e w' ⟨b, cur, te, he, hb0, hblk, hm, hs, hl, h1, hc, hb⟩
  have hlt : ∀ {b cur}, K b = some cur → b < w.heap.size := by
    intro b cur hh
    obtain ⟨e, he⟩ := hk b cur hh
    exact (Array.getElem?_eq_some_iff.1 he).1
  have hle : ∀ b' c, K b' = some c → (if b' = b then some cur else K b') = some c := by
    intro b' c hh
    have := hlt hh
    rw [if_neg (by omega)]; exact hh
  refine ⟨_, fun b' => if b' = b then some cur else K b', he, ?_, hle, fun b' c hh => ?_, fun b' c hh => ?_, hb⟩
  · rcases Nat.eq_zero_or_pos n with rfl | hpos
    · exact .fz0 _ _ hm
    · refine .fz (o := 0) (cur := cur) (b := b) (by simp) hpos (Nat.le_refl _) hm (by simpa using hs) hl (fun k j hk hj => by simpa using h1 k j hk hj) (fun k hk j p hp => ?_)
      have := (hc k hk j p hp).mono (σ' := σ0) (N' := 0) hle (fun _ _ => rfl) (Nat.le_refl _)
      simpa using this
  · have hh : (if b' = b then some cur else K b') = some c := hh
    by_cases e1 : b' = b
    · rw [if_pos e1] at hh; cases hh; rw [e1]; exact ⟨(te, (0, 0)), hblk⟩
    · rw [if_neg e1] at hh; exact KIn.below hk hb b' c hh
  · have hh : (if b' = b then some cur else K b') = some c := hh
    by_cases e1 : b' = b
    · exact .inr (e1 ▸ hb0)
    · rw [if_neg e1] at hh; exact .inl hh

def str (s : ByteArray) : PV := .atom (.string s)
def i64 (n : Int) : PV := .atom (.int .i64 n)
def bl (b : Bool) : PV := .atom (.bool b)
def eStr (s : ByteArray) : List PV := [str s]
def eInt (n : Int) : List PV := [i64 n]
instance : Inhabited ByteArray := ⟨ByteArray.empty⟩
theorem Pure.ofStrs {P : Program} {f : FuncId} (l : List Value) (xs : List ByteArray) (te : TypeId) (hen : Enters P f) (hm : xs.length ≤ maxLen)
    (h : ∀ (K : KH) (w : World), Globs.G K → KIn K w → Calls P f l.toArray w fun e w' => e = .returned (.slice (some ⟨w.heap.size, 0, none⟩) xs.length xs.length) ∧ w' = w.alloc (.cells (xs.map Value.string).toArray te)) : Pure P f (l.map .atom) (sl 1 eStr xs) :=
  Pure.ofRow l hen fun K w hg hk => (h K w hg hk).mono fun e w' ⟨he, hw⟩ => by
    subst hw
    have get : ∀ k, k < xs.length → rd (xs.map Value.string).toArray (k * 1 + 0) = .string (xs.getD k default) := by
      intro k hk
      simp [rd, hk]
    refine ⟨_, _, te, he, Nat.le_refl _, heap_alloc_new w _, hm, by simp, fun k hk => rfl, fun k j hk hj => ?_, fun k hk j p hp => ?_, (Below.refl _ _).alloc (Nat.le_refl _) _⟩
    · have : j = 0 := by omega
      subst this
      rw [get k hk]; rfl
    · have hj : j < 1 := (List.getElem?_eq_some_iff.1 hp).1
      have : j = 0 := by omega
      subst this
      rw [get k hk]
      simp [rows, eStr, str] at hp
      subst hp
      exact .atom _

section
variable {P : Program} {T : TT} {E : Operand → PV} {st : St} {o : Oper} {Q : PV → St → Prop}
/-- The index a natural number. -/
theorem G_ixFN (hT : TOk P T) {t e : TypeId} {te : TI} {x ix : Operand} {sz n : Nat} {el : Nat → List PV} {kd : IntKind} {i : Nat} (ho : o.op = .indexAddr t x ix) (ht : sliceT T t = some (e, te)) (hx : fzOf (E x) = some (sz, n, el)) (hsz : Nat.beq te.size sz = true)
    (hi : intOf' (E ix) = some (kd, (i : Int))) (h1 : i < n) (h : Q (.fptr sz n el i 0) st) : OpGoes P E st o Q := G_ixF hT ho ht hx hsz hi (by omega) (by omega) (by simpa using h)
theorem G_ixON (hT : TOk P T) {t e : TypeId} {te : TI} {x ix : Operand} {i0 k0 n : Nat} {B : Blk} {kd : IntKind} {i : Nat} (ho : o.op = .indexAddr t x ix) (ht : sliceT T t = some (e, te)) (hx : slcOf (E x) = some (i0, k0, n)) (hB : st.get i0 = some B) (hsz : Nat.beq te.size B.sz = true)
    (hi : intOf' (E ix) = some (kd, (i : Int))) (h1 : i < n) (h : Q (.ptr i0 (k0 + i) 0) st) : OpGoes P E st o Q := G_ixO hT ho ht hx hB hsz hi (by omega) (by omega) (by simpa using h)
theorem G_loadO (hT : TOk P T) {t : TypeId} {x : Operand} {i k off : Nat} {B : Blk} {cs : List PV} {pv : PV} (ho : o.op = .load t x) (hx : ptrOf (E x) = some (i, k, off)) (hB : st.get i = some B) (hk : k < B.n) (hc : B.el k = cs) (hv : readT T t cs off = some pv) (h : Q pv st) : OpGoes P E st o Q :=
  G_load_own hT ho (ptrOf_spec hx) hB hk hc hv h
theorem G_quo' {t t2 : TypeId} {x y : Operand} {k : IntKind} {a b : Int} (ho : o.op = .binOp .quo t x y t2) (hx : intOf' (E x) = some (k, a)) (hy : intOf' (E y) = some (k, b)) (hb : b ≠ 0) (h : Q (.atom (.int k (k.wrap (a.tdiv b)))) st) : OpGoes P E st o Q := G_quo ho (intOf'_spec hx) (intOf'_spec hy) hb h
theorem G_rem' {t t2 : TypeId} {x y : Operand} {k : IntKind} {a b : Int} (ho : o.op = .binOp .rem t x y t2) (hx : intOf' (E x) = some (k, a)) (hy : intOf' (E y) = some (k, b)) (hb : b ≠ 0) (h : Q (.atom (.int k (a.tmod b))) st) : OpGoes P E st o Q := G_rem ho (intOf'_spec hx) (intOf'_spec hy) hb h
end
omit [Globs] in
theorem Rn.slcN {r : Nat → Nat} {N i i' k n n' : Nat} (hi : r i' = i) (hlt : Nat.blt i' N = true) (hn : n = n') : Rn r N (.slc i k n) (.slc i' k n') := by
  subst hn; rw [Nat.blt_eq] at hlt; exact .slc hi hlt
omit [Globs] in
theorem Rn.ptrN {r : Nat → Nat} {N i i' k off : Nat} (hi : r i' = i) (hlt : Nat.blt i' N = true) : Rn r N (.ptr i k off) (.ptr i' k off) := by
  rw [Nat.blt_eq] at hlt; exact .ptr hi hlt

def eByte (n : Int) : List PV := [.atom (.int .u8 n)]
def ofBytes (ns : List Int) : ByteArray := ⟨(ns.map fun n => UInt8.ofNat n.toNat).toArray⟩
omit [Globs] in
theorem foldl_push (ns : List Int) : ∀ (a : ByteArray), ns.foldl (fun r n => r.push (UInt8.ofNat n.toNat)) a = a ++ ofBytes ns := by
  induction ns with
  | nil => intro a; apply ByteArray.ext; simp [ofBytes]
  | cons n ns ih =>
    intro a
    rw [List.foldl_cons, ih]
    apply ByteArray.ext
    simp [ofBytes]
section
variable {P : Program} {T : TT} {E : Operand → PV} {st : St} {o : Oper} {Q : PV → St → Prop}
theorem src_any {K : KH} {σ : Nat → Loc} {w : World} {p : PV} {u : Value} {sz m : Nat} {el : Nat → List PV} (hR : Rel K σ st w) (hy : srcP st p = some (sz, m, el)) (vy : VR K σ st.length p u) : ∃ news, Src K σ st.length w u sz m el news := by
  cases p <;> simp only [srcP, reduceCtorEq, Option.some.injEq, Prod.mk.injEq] at hy
  · split at hy
    · rename_i C hC
      rename_i i2 k2 n2 _
      cases hk : Nat.ble (k2 + n2) C.n <;> simp only [hk, cond_true, cond_false, reduceCtorEq, Option.some.injEq, Prod.mk.injEq] at hy
      obtain ⟨e1, rfl, rfl⟩ := hy
      rw [← e1]
      exact src_slc hR hC (Nat.le_of_ble_eq_true hk) vy
    · cases hy
  · obtain ⟨e1, rfl, rfl⟩ := hy
    rw [← e1]
    exact src_fz hR vy
def isByteT (T : TT) (t : TypeId) : Bool := match T t with
  | some ti => (match ti.d with | .int .u8 => true | _ => false)
  | none => false
/-- string(b) -/
theorem G_bytesStr (hT : TOk P T) {src dst e : TypeId} {te : TI} {x : Operand} {m : Nat} {el : Nat → List PV} (ns : List Int) (ho : o.op = .convert src dst x) (ht : sliceT T src = some (e, te)) (hb : isByteT T e = true) (hd : strT T dst = true) (hx : srcP st (E x) = some (1, m, el)) (hm : m = ns.length) (hel : ∀ k, k < ns.length → el k = rows eByte ns k)
    (h : Q (.atom (.string (ofBytes ns))) st) : OpGoes P E st o Q := by
  refine OpGoes.still (fun K σ w ρ hR hE => ?_) h
  obtain ⟨ti, a, b, c⟩ := sliceT_spec ht
  obtain ⟨td, d1, d2⟩ := strT_spec hd
  have hu := (hT src ti a).1
  rw [sliceD_spec b] at hu
  have hud := (hT dst td d1).1
  rw [isStrD_spec d2] at hud
  have hue : P.underlying e = some (.int .u8) := by
    have := (hT e te c).1
    unfold isByteT at hb
    rw [c] at hb
    simp only at hb
    split at hb
    · rename_i hh; rw [hh] at this; exact this
    · cases hb
  obtain ⟨news, hs⟩ := src_any hR hx (hE x)
  obtain ⟨B, cap, hv⟩ := hs.form
  have hnews : news = ns.map (Value.int .u8) := by
    apply List.ext_getElem
    · rw [hs.len, List.length_map, hm]; omega
    · intro j h1 h2
      have hj : j < ns.length := by simpa using h2
      have hh := (hs.holds j (by omega)).2 0 (.atom (.int .u8 (ns.getD j default))) (by rw [hel j hj]; rfl)
      have := hh.atom_inv
      simp only [Nat.mul_one, Nat.add_zero, rd_list, List.getElem?_eq_getElem h1, Option.getD_some] at this
      rw [this]
      simp [hj]
  refine ⟨.string (ofBytes ns), ?_, .atom _⟩
  have hconv : (convert src dst (.slice B m cap)).run P w = .ok (.string (ofBytes ns)) w := by
    rw [run_convert_bytes_string w src dst e B m cap hu hue hud]
    cases B with
    | none =>
      have hg := hs.get P w rfl
      rw [hv] at hg
      have : news = [] := by simpa [Builtin.firstCells] using hg
      have : ns = [] := by rw [this] at hnews; simpa using hnews.symm
      subst this
      simp [Conv.bytesToString, ofBytes]
      rfl
    | some ad =>
      have hg := hs.get P w rfl
      rw [hv] at hg
      have hl : (loadCells ad m).run P w = .ok (ns.map (Value.int .u8)).toArray w := by
        simpa [Builtin.firstCells, hnews] using hg
      rw [run_bytesToString w ad m cap ns hl, foldl_push]
      congr 2
  simp only [execOp, ho, hv, Sem.run_bind, hconv, Result.andThen_ok, Sem.run_pure]
theorem G_ixS (hT : TOk P T) {t : TypeId} {x ix : Operand} {s : ByteArray} {kd : IntKind} {i : Int} (ho : o.op = .index t x ix) (ht : strT T t = true) (hx : strOf' (E x) = some s) (hi : intOf' (E ix) = some (kd, i)) (h0 : 0 ≤ i) (h1 : i < s.size) (h : Q (.atom (.int .u8 (byteAt s i))) st) : OpGoes P E st o Q := by
  obtain ⟨ti, a, b⟩ := strT_spec ht
  exact G_index_str hT ho a b (strOf'_spec hx) (intOf'_spec hi) h0 h1 h
theorem G_cutS (hT : TOk P T) {t : TypeId} {x : Operand} {lo hi : Option Operand} {s : ByteArray} {l h : Int} (ho : o.op = .slice t x lo hi none) (ht : strT T t = true) (hx : strOf' (E x) = some s) (hlo : bnd E lo 0 l) (hhi : bnd E hi s.size h) (h0 : 0 ≤ l) (h1 : l ≤ h) (h2 : h ≤ s.size)
    (hq : Q (.atom (.string (s.extract l.toNat h.toNat))) st) : OpGoes P E st o Q := by
  obtain ⟨ti, a, b⟩ := strT_spec ht
  exact G_slice_str hT ho a b (strOf'_spec hx) hlo hhi h0 h1 h2 hq
omit [Globs] in
theorem byteAt_lt (s : ByteArray) (i : Int) : 0 ≤ byteAt s i ∧ byteAt s i < 256 := by
  unfold byteAt
  have := (s.data.getD i.toNat 0).toNat_lt
  omega
end
end Go.Sy
end
