/- What comes in reads as symbolic values; what stands at the end of a row. -/
import Derived.Test.YtocfjbopkgmjkaaDoorY12
import Derived.ChangeArms
import Derived.ChangeOld
import Derived.DataReads
import Derived.WideShapes
import Derived.ChangeShapes
import Derived.OpenShut
import Derived.RowKit
import Derived.Carry
set_option linter.unusedVariables false
set_option linter.unusedSimpArgs false
set_option linter.unusedSectionVars false
namespace Go.Sy
open Go Go.RowKit
variable [Globs]

/-- All rows of cells of a world: what is kept where nothing is written below. -/
def KW (W : World) : KH := fun b => match W.heap[b]? with
  | some (.cells cur _ _) => some cur
  | _ => none
theorem KW.in (W : World) : KIn (KW W) W := by
  intro b cur h
  unfold KW at h
  split at h
  · rename_i c e fr hh
    cases h
    exact ⟨(e, fr), hh⟩
  · cases h
/-- Cells that read as symbolic values. -/
def Cl (W : World) (ps : List PV) (cs : List Value) : Prop :=
  cs.length = ps.length ∧ (∀ v ∈ cs, v.oneCell' = true) ∧ ∀ (j : Nat) p, ps[j]? = some p → VR (KW W) σ0 0 p (rd cs.toArray j)
theorem Cl.one {W : World} {p : PV} {v : Value} (h1 : v.oneCell' = true) (h : VR (KW W) σ0 0 p v) : Cl W [p] [v] := by
  refine ⟨rfl, by simpa using h1, fun j q hq => ?_⟩
  cases j with
  | zero => simp at hq; subst hq; simpa [rd] using h
  | succ j => simp at hq
theorem Cl.app {W : World} {ps qs : List PV} {cs ds : List Value} (h : Cl W ps cs) (g : Cl W qs ds) : Cl W (ps ++ qs) (cs ++ ds) := by
  refine ⟨by simp [h.1, g.1], fun v hv => ?_, fun j p hp => ?_⟩
  · rcases List.mem_append.1 hv with hv | hv
    · exact h.2.1 v hv
    · exact g.2.1 v hv
  · rcases Nat.lt_or_ge j ps.length with hj | hj
    · rw [List.getElem?_append_left hj] at hp
      have := h.2.2 j p hp
      simp only [rd_list] at this ⊢
      rwa [List.getElem?_append_left (by rw [h.1]; exact hj)]
    · rw [List.getElem?_append_right hj] at hp
      have := g.2.2 _ p hp
      simp only [rd_list] at this ⊢
      rwa [List.getElem?_append_right (by rw [h.1]; exact hj), h.1]
/-- What can be read as data of type t is a value of a model. -/
def Opens {α : Type} (P : Program) (t : TypeId) (enc : α → List PV) (wf : α → Prop) : Prop :=
  ∀ (H : Type) (en : TypeId × Value → H) (W : World) (sp : Nat → Bool) (held : Bool) (fuel : Nat) (cs : List Value) (x : DataW H × List MemPlace), DataW.trod en P W 0 sp held fuel t cs = some x → ∃ a, Cl W (enc a) cs ∧ wf a
def OpensF {α : Type} (P : Program) (l : List Field) (off sz : Nat) (enc : α → List PV) (wf : α → Prop) : Prop :=
  ∀ (H : Type) (en : TypeId × Value → H) (W : World) (sp : Nat → Bool) (held : Bool) (fuel : Nat) (cs : List Value), cs.length = off + sz →
    (∀ f, f ∈ l → ∃ x, DataW.trod en P W 0 sp held fuel f.type ((cs.drop f.offset).take (P.cellsOf f.type)) = some x) → ∃ a, Cl W (enc a) (cs.drop off) ∧ wf a
section
variable {α β : Type} {P : Program} {t e : TypeId}
theorem opens_int {k : IntKind} (ht : P.underlying t = some (.int k)) : Opens P t (fun n : Int => [PV.atom (.int k n)]) (fun n => (Lit.int k n).wf = true) := by
  intro H en W sp held fuel cs x h
  obtain ⟨n, rfl, _, hw⟩ := DataW.trod_int ht h
  exact ⟨n, .one rfl (.atom _), hw⟩
theorem opens_bool (ht : P.underlying t = some .bool) : Opens P t (fun b : Bool => [PV.atom (.bool b)]) (fun _ => True) := by
  intro H en W sp held fuel cs x h
  obtain ⟨b, rfl, _⟩ := DataW.trod_bool ht h
  exact ⟨b, .one rfl (.atom _), trivial⟩
theorem opens_string (ht : P.underlying t = some .string) : Opens P t (fun s : ByteArray => [PV.atom (.string s)]) (fun s => s.size ≤ maxLen) := by
  intro H en W sp held fuel cs x h
  obtain ⟨s, rfl, _, hs⟩ := DataW.trod_string ht h
  exact ⟨s, .one rfl (.atom _), hs⟩
omit [Globs] in
theorem choose_list {A : Type} {n : Nat} {Q : Nat → A → Prop} (h : ∀ i, i < n → ∃ a, Q i a) : ∃ l : List A, l.length = n ∧ ∀ i a, l[i]? = some a → Q i a := by
  induction n with
  | zero => exact ⟨[], rfl, fun i a hi => by simp at hi⟩
  | succ n ih =>
    obtain ⟨l, hl, hq⟩ := ih (fun i hi => h i (by omega))
    obtain ⟨a, ha⟩ := h n (by omega)
    refine ⟨l ++ [a], by simp [hl], fun i b hb => ?_⟩
    rcases Nat.lt_trichotomy i n with hi | hi | hi
    · rw [List.getElem?_append_left (by omega)] at hb
      exact hq i b hb
    · subst hi
      rw [List.getElem?_append_right (by omega), hl, Nat.sub_self] at hb
      simp at hb
      subst hb
      exact ha
    · rw [List.getElem?_eq_none (by simp; omega)] at hb
      cases hb
omit [Globs] in
theorem cells_at {w : World} {a : Addr} {n : Nat} {cs : List Value} (h : w.cells? 0 a n = some cs) : cs.length = n ∧ ∀ i u, cs[i]? = some u → w.cell? (a.add i) = some u := by
  unfold World.cells? at h
  split at h
  · have hl := mapM_some_length h
    refine ⟨by simpa using hl, fun i u hu => ?_⟩
    have hi : i < n := by
      have := (List.getElem?_eq_some_iff.1 hu).1
      simp at hl
      omega
    have := mapM_some_get h i i (by simp [hi])
    rw [this]
    exact hu
  · cases h
theorem opens_slice [Inhabited α] {enc : α → List PV} {wf : α → Prop} {sz : Nat} (ht : P.underlying t = some (.slice e)) (hc : P.cellsOf e = sz) (hpos : 0 < sz) (hlen : ∀ a, (enc a).length = sz) (h : Opens P e enc wf) :
    Opens P t (fun xs : List α => [sl sz enc xs]) (fun xs => xs.length ≤ maxLen ∧ ∀ a ∈ xs, wf a) := by
  intro H en W sp held fuel cs x hx
  rcases DataW.trod_slice ht hx with ⟨rfl, _⟩ | ⟨a, len, cap, elems, rest, n, _, rfl, _, _, hlc, hcm, hel, hat, _⟩
  · exact ⟨[], .one rfl (.fz0 _ _ (by decide)), by simp, fun a ha => by simp at ha⟩
  · have each : ∀ i, i < len → ∃ y, (∃ c, c.length = sz ∧ Cl W (enc y) c ∧ ∀ j u, c[j]? = some u → W.cell? (a.add (i * sz + j)) = some u) ∧ wf y := by
      intro i hi
      have h1 := hat i hi
      rw [hc, List.getElem?_eq_getElem (by omega), Option.bind_eq_some_iff] at h1
      obtain ⟨c, hcells, htr⟩ := h1
      obtain ⟨hl, hcell⟩ := cells_at hcells
      obtain ⟨y, hk, hw⟩ := h H en W sp held n c _ htr
      refine ⟨y, ⟨c, hl, hk, fun j u hu => ?_⟩, hw⟩
      have := hcell j u hu
      have e1 : (a.add (i * sz)).add j = a.add (i * sz + j) := by
        unfold Addr.add
        split <;> split <;> split <;> simp_all <;> omega
      rw [← e1]
      exact this
    obtain ⟨l, hl, hq⟩ := choose_list each
    refine ⟨l, .one rfl ?_, by omega, fun y hy => ?_⟩
    · rcases Nat.eq_zero_or_pos len with h0 | hlp
      · subst h0
        obtain rfl : l = [] := List.eq_nil_of_length_eq_zero hl
        exact .fz0 _ _ hcm
      · -- the block
        have hcell : ∀ k j, k < len → j < sz → ∃ y c, l[k]? = some y ∧ c.length = sz ∧ Cl W (enc y) c ∧ W.cell? (a.add (k * sz + j)) = some (rd c.toArray j) := by
          intro k j hk hj
          have hy := List.getElem?_eq_getElem (l := l) (i := k) (by omega)
          obtain ⟨⟨c, hcl, hcc, hcu⟩, _⟩ := hq k _ hy
          refine ⟨_, c, hy, hcl, hcc, ?_⟩
          rw [hcu j _ (List.getElem?_eq_getElem (by omega)), rd_list, List.getElem?_eq_getElem (by omega)]
          rfl
        have hadd : a.spot = none → ∀ k, a.add k = ⟨a.block, a.off + k, none⟩ := by
          intro hs k
          obtain ⟨b, o, s⟩ := a
          simp at hs
          subst hs
          exact add_spot b o k
        obtain ⟨y0, c0, _, _, _, hz⟩ := hcell 0 0 hlp hpos
        have hblk : ∃ cur e fr, W.heap[a.block]? = some (.cells cur e fr) ∧ a.spot = none := by
          unfold World.cell? at hz
          have hb : (a.add (0 * sz + 0)).block = a.block := by unfold Addr.add; split <;> simp
          rw [hb] at hz
          split at hz
          · rename_i c e fr hh
            refine ⟨c, e, fr, hh, ?_⟩
            cases hs : a.spot with
            | none => rfl
            | some s =>
              have : (a.add (0 * sz + 0)).spot.isSome = true := by unfold Addr.add; split <;> simp_all
              rw [if_pos this] at hz
              cases hz
          · cases hz
        obtain ⟨cur, te, fr, hheap, hspot⟩ := hblk
        have hrd : ∀ k j, k < len → j < sz → ∃ y c, l[k]? = some y ∧ Cl W (enc y) c ∧ c.length = sz ∧ a.off + (k * sz + j) < cur.size ∧ rd cur (a.off + k * sz + j) = rd c.toArray j := by
          intro k j hk hj
          obtain ⟨y, c, h1, h2, h3, h4⟩ := hcell k j hk hj
          refine ⟨y, c, h1, h3, h2, ?_⟩
          rw [hadd hspot] at h4
          simp only [World.cell?, hheap] at h4
          simp only [Option.isSome_none, Bool.false_eq_true, if_false] at h4
          obtain ⟨hlt, he⟩ := Array.getElem?_eq_some_iff.1 h4
          refine ⟨hlt, ?_⟩
          unfold rd at he ⊢
          rw [Nat.add_assoc, Array.getD_eq_getD_getElem?, h4]
          rfl
        have ha : some a = some (⟨a.block, a.off, none⟩ : Addr) := by
          obtain ⟨b, o, s⟩ := a
          simp at hspot
          subst hspot
          rfl
        rw [ha]
        unfold sl
        rw [hl]
        refine .fz (cur := cur) (by simp [KW, hheap]) hlp hlc hcm ?_ (fun k hk => hlen _) (fun k j hk hj => ?_) (fun k hk j p hp => ?_)
        · obtain ⟨_, _, _, _, _, hlt, _⟩ := hrd (len - 1) (sz - 1) (by omega) (by omega)
          have e1 : (len - 1 + 1) * sz = len * sz := by rw [show len - 1 + 1 = len by omega]
          rw [Nat.succ_mul] at e1
          omega
        · obtain ⟨y, c, _, hcl, hcs, _, he⟩ := hrd k j hk hj
          rw [he, rd_list, List.getElem?_eq_getElem (by omega)]
          exact hcl.2.1 _ (List.getElem_mem _)
        · have hj : j < sz := by
            have := (List.getElem?_eq_some_iff.1 hp).1
            unfold rows at this
            rw [hlen] at this
            exact this
          obtain ⟨y, c, hy, hcl, hcs, _, he⟩ := hrd k j hk hj
          rw [he]
          refine hcl.2.2 j p ?_
          unfold rows at hp
          rwa [List.getD_eq_getElem?_getD, hy] at hp
    · obtain ⟨i, hi⟩ := List.getElem?_of_mem hy
      exact (hq i y hi).2
theorem OpensF.one {f : Field} {off sz : Nat} {enc : α → List PV} {wf : α → Prop} (ho : f.offset = off) (hc : P.cellsOf f.type = sz) (h : Opens P f.type enc wf) : OpensF P [f] off sz enc wf := by
  intro H en W sp held fuel cs hl hall
  obtain ⟨x, hx⟩ := hall f (List.mem_singleton.2 rfl)
  rw [ho, hc, List.take_of_length_le (by rw [List.length_drop]; omega)] at hx
  exact h H en W sp held fuel _ x hx
theorem OpensF.cons {f : Field} {r : List Field} {off sz sz2 : Nat} {enc1 : α → List PV} {enc2 : β → List PV} {wf1 : α → Prop} {wf2 : β → Prop} (ho : f.offset = off) (hc : P.cellsOf f.type = sz) (h : Opens P f.type enc1 wf1) (hr : OpensF P r (off + sz) sz2 enc2 wf2) :
    OpensF P (f :: r) off (sz + sz2) (fun p : α × β => enc1 p.1 ++ enc2 p.2) (fun p => wf1 p.1 ∧ wf2 p.2) := by
  intro H en W sp held fuel cs hl hall
  obtain ⟨x, hx⟩ := hall f (List.mem_cons_self ..)
  rw [ho, hc] at hx
  obtain ⟨a, hk, hw⟩ := h H en W sp held fuel _ x hx
  obtain ⟨b, hk2, hw2⟩ := hr H en W sp held fuel cs (by rw [hl]; omega) (fun g hg => hall g (List.mem_cons_of_mem _ hg))
  refine ⟨(a, b), ?_, hw, hw2⟩
  have := hk.app hk2
  rwa [← List.drop_drop, List.take_append_drop] at this
theorem opens_struct {fs : Array Field} {sz : Nat} {enc : α → List PV} {wf : α → Prop} (ht : P.underlying t = some (.struct fs)) (hc : P.cellsOf t = sz) (h : OpensF P fs.toList 0 sz enc wf) : Opens P t enc wf := by
  intro H en W sp held fuel cs x hx
  obtain ⟨xs, n, _, _, hl, hxl, hat⟩ := DataW.trod_struct ht hx
  have := h H en W sp held n cs (by rw [hl, hc]; omega) (fun f hf => by
    obtain ⟨i, hi, he⟩ := List.getElem_of_mem hf
    have hi' : i < fs.size := by simpa using hi
    refine ⟨xs[i], ?_⟩
    rw [hat i f (by rw [Array.getElem?_eq_getElem hi']; simpa using he)]
    exact List.getElem?_eq_getElem (by omega))
  simpa using this
theorem Opens.to {enc : α → List PV} {enc2 : β → List PV} {wf : α → Prop} {wf2 : β → Prop} (h : Opens P t enc wf) (f : α → β) (he : ∀ a, enc2 (f a) = enc a) (hw : ∀ a, wf a → wf2 (f a)) : Opens P t enc2 wf2 := by
  intro H en W sp held fuel cs x hx
  obtain ⟨a, hk, ha⟩ := h H en W sp held fuel cs x hx
  exact ⟨f a, by rw [he]; exact hk, hw a ha⟩
omit [Globs] in
theorem wf_i64 {n : Int} (h : (Lit.int .i64 n).wf = true) : -9223372036854775808 ≤ n ∧ n ≤ 9223372036854775807 := by
  simp [Lit.wf, IntKind.has, IntKind.min, IntKind.max, IntKind.signed, IntKind.bits] at h
  omega
/-- A struct that came in. -/
theorem open_agg {H : Type} {en : TypeId × Value → H} {W : World} {sp : Nat → Bool} {held : Bool} {r : Reach} {b0 : Nat} {fs : Array Field} {enc : α → List PV} {wf : α → Prop} {v : Value} {d : DataW H} {ps : List MemPlace} (h : Opens P t enc wf) (ht : P.underlying t = some (.struct fs))
    (hval : Value.okWide P W r b0 t v) (hd : DataW.Trod en P W 0 sp held t v d ps) : ∃ a, VR (KW W) σ0 0 (.agg (enc a)) v ∧ wf a := by
  unfold Value.okWide at hval
  rw [ht] at hval
  obtain ⟨cs, rfl, _, _⟩ := hval
  obtain ⟨fuel, hf⟩ := hd
  obtain ⟨a, hc, hw⟩ := h H en W sp held fuel _ _ hf
  refine ⟨a, .agg ?_ (fun j p hp => ?_), hw⟩
  · have := hc.1
    simpa [Value.cells] using this
  · have := hc.2.2 j p hp
    simpa [Value.cells] using this
theorem open_slice {H : Type} {en : TypeId × Value → H} {W : World} {sp : Nat → Bool} {held : Bool} {r : Reach} {b0 : Nat} {p : α → PV} {wf : α → Prop} {v : Value} {d : DataW H} {ps : List MemPlace} (h : Opens P t (fun a => [p a]) wf) (ht : P.underlying t = some (.slice e))
    (hval : Value.okWide P W r b0 t v) (hd : DataW.Trod en P W 0 sp held t v d ps) : ∃ a, VR (KW W) σ0 0 (p a) v ∧ wf a := by
  obtain ⟨A, n, c, rfl⟩ := Go.WideShapes.okWide_slice ht hval
  obtain ⟨fuel, hf⟩ := hd
  obtain ⟨a, hc, hw⟩ := h H en W sp held fuel _ _ hf
  exact ⟨a, by simpa [rd, Value.cells] using hc.2.2 0 (p a) rfl, hw⟩
end
section
omit [Globs]
theorem keep_all {H : Type} {en : TypeId × Value → H} {P : Program} (hl : laidOutB P = true) {W W' : World} (hb : Below W.heap.size W W') : ∀ {ts : List TypeId} {vs : List Value} {ds : List (DataW H)} {ps : List MemPlace},
    (∀ t ∈ ts, P.readableRec t = true ∧ t < P.types.size) → DataW.TrodAll en P W 0 (fun _ => true) true ts vs ds ps → DataW.TrodAll en P W' 0 (fun b => decide (b < W.heap.size)) true ts vs ds ps
  | [], [], [], _, _, h => h
  | t :: ts, v :: vs, d :: ds, _, ht, h => by
    have hlt := DataW.TrodAll.lt h
    obtain ⟨p, q, h1, h2, rfl⟩ := h
    exact ⟨p, q, Below.trod hl (ht t (by simp)).1 (ht t (by simp)).2 h1 hb (fun x hx => hlt x (by simp [hx])), keep_all hl hb (fun u hu => ht u (by simp [hu])) h2, rfl⟩
end
/-- What is known of cells that stand under a name. -/
theorem KW.of_var {P : Program} {W : World} {n : String} {g : Nat} {cur : Array Value} (hg : P.globalNamed n = some g) (h : W.var? P n = some cur) : KW W g = some cur := by
  unfold World.var? at h
  rw [hg] at h
  simp only [Option.bind_some] at h
  unfold KW
  split at h
  · rename_i c e fr hh
    cases h
    simp [hh]
  · cases h
def aggOf : PV → Option (List PV)
  | .agg cs => some cs
  | _ => none
theorem aggOf_spec {p : PV} {cs : List PV} (h : aggOf p = some cs) : p = .agg cs := by
  cases p <;> simp [aggOf] at h
  subst h; rfl
/-! structs of whole numbers, and of such structs, held against each other -/
def deepF (T : TT) (chk : TypeId → Nat → Bool) : Nat → List Field → Nat → Bool
  | j, [], n => Nat.beq j n
  | j, f :: fs, n => match T f.type with
    | some ti => f.name != "_" && Nat.beq f.offset j && chk f.type ti.size && Nat.ble (j + ti.size) n && deepF T chk (j + ti.size) fs n
    | none => false
def deepB (P : Program) (T : TT) : Nat → TypeId → Nat → Bool
  | 0, t, n => match T t with
    | some ti => (match ti.d with | .int .i64 => true | _ => false) && Nat.beq n 1
    | none => false
  | d + 1, t, n => match T t with
    | some ti => (match ti.d with
      | .int .i64 => Nat.beq n 1
      | .struct fs => !(P.stoodInHeld t) && Nat.beq ti.size n && deepF T (deepB P T d) 0 fs.toList n
      | _ => false)
    | none => false
section
theorem ints_part {P : Program} {T : TT} (hT : TOk P T) {t : TypeId} {ti : TI} (ht : T t = some ti) (w : World) (X : List Int) (off : Nat) :
    (ti.d = .int .i64 → ∀ h : off < X.length, (part t (X.map (Value.int .i64)).toArray off).run P w = .ok (.int .i64 X[off]) w) ∧
    (∀ fs, ti.d = .struct fs → (part t (X.map (Value.int .i64)).toArray off).run P w = .ok (.agg (((X.drop off).take ti.size).map (Value.int .i64)).toArray) w) := by
  constructor
  · intro hd h
    simp [part, Sem.run_bind, run_isAgg hT ht, hd, isAggD, h]
  · intro fs hd
    simp only [part, Sem.run_bind, run_isAgg hT ht, hd, isAggD, run_sizeOf hT ht, Result.andThen_ok, if_true, Sem.run_pure]
    congr 2
    apply Array.toList_inj.1
    simp [Array.toList_extract, List.extract_eq_take_drop, List.map_take, List.map_drop]
theorem take1 {X Y : List Int} {o : Nat} (h1 : o < X.length) (h2 : o < Y.length) : ((X.drop o).take 1 == (Y.drop o).take 1) = (X[o] == Y[o]) := by
  rw [List.drop_eq_getElem_cons h1, List.drop_eq_getElem_cons h2]
  show (X[o] :: List.take 0 (X.drop (o + 1)) == Y[o] :: List.take 0 (Y.drop (o + 1))) = _
  rw [List.take_zero, List.take_zero]
  simp
theorem drop_split {X Y : List Int} {j s n : Nat} (hX : X.length = n) (hY : Y.length = n) (h : j + s ≤ n) :
    (X.drop j == Y.drop j) = ((X.drop j).take s == (Y.drop j).take s && (X.drop (j + s) == Y.drop (j + s))) := by
  have e1 : X.drop j = (X.drop j).take s ++ X.drop (j + s) := by rw [← List.drop_drop, List.take_append_drop]
  have e2 : Y.drop j = (Y.drop j).take s ++ Y.drop (j + s) := by rw [← List.drop_drop, List.take_append_drop]
  have hl : ((X.drop j).take s).length = ((Y.drop j).take s).length := by simp [hX, hY]
  rw [Bool.eq_iff_iff]
  simp only [beq_iff_eq, Bool.and_eq_true]
  constructor
  · intro h
    rw [h]
    refine ⟨rfl, ?_⟩
    rw [← List.drop_drop, ← List.drop_drop, h]
  · rintro ⟨h1, h2⟩
    rw [e1, e2, h1, h2]
theorem run_eqF_deep {P : Program} {T : TT} (w : World) (d : Nat) (chk : TypeId → Nat → Bool)
    (hchk : ∀ t n, chk t n = true → ∀ (X Y : List Int) (off : Nat), off + n ≤ X.length → off + n ≤ Y.length →
      ∃ a b, (part t (X.map (Value.int .i64)).toArray off).run P w = .ok a w ∧ (part t (Y.map (Value.int .i64)).toArray off).run P w = .ok b w ∧
        ∀ e, d < e → (Op.equalIn e t a b).run P w = .ok ((X.drop off).take n == (Y.drop off).take n) w) :
    ∀ (fs : List Field) (j n : Nat), deepF T chk j fs n = true → ∀ (X Y : List Int), X.length = n → Y.length = n → ∀ e, d < e →
    (Op.eqFields e (X.map (Value.int .i64)).toArray (Y.map (Value.int .i64)).toArray fs).run P w = .ok (X.drop j == Y.drop j) w
  | [], j, n, h, X, Y, hX, hY, e, he => by
    unfold deepF at h
    have h := Nat.eq_of_beq_eq_true h
    rw [List.drop_eq_nil_of_le (by omega), List.drop_eq_nil_of_le (by omega)]
    simp [Op.eqFields]
  | f :: fs, j, n, h, X, Y, hX, hY, e, he => by
    unfold deepF at h
    split at h
    · rename_i ti hti
      simp only [Bool.and_eq_true] at h
      obtain ⟨⟨⟨⟨hn, hj⟩, hb⟩, hle⟩, hr⟩ := h
      have hj := Nat.eq_of_beq_eq_true hj
      have hle := Nat.le_of_ble_eq_true hle
      have hn : f.name ≠ "_" := by simpa using hn
      obtain ⟨a, b, p1, p2, p3⟩ := hchk f.type ti.size hb X Y j (by omega) (by omega)
      have ih := run_eqF_deep w d chk hchk fs (j + ti.size) n hr X Y hX hY e he
      rw [Op.eqFields, if_pos hn, hj]
      simp only [Sem.run_bind, p1, p2, p3 e he, Result.andThen_ok, Sem.run_ite, ih, Sem.run_pure]
      rw [drop_split hX hY hle]
      cases ((X.drop j).take ti.size == (Y.drop j).take ti.size) <;> simp
    · cases h
theorem run_eq_deep {P : Program} {T : TT} (hT : TOk P T) (w : World) : ∀ (d : Nat) (t : TypeId) (n : Nat), deepB P T d t n = true → ∀ (X Y : List Int) (off : Nat), off + n ≤ X.length → off + n ≤ Y.length →
    ∃ a b, (part t (X.map (Value.int .i64)).toArray off).run P w = .ok a w ∧ (part t (Y.map (Value.int .i64)).toArray off).run P w = .ok b w ∧
      ∀ e, d < e → (Op.equalIn e t a b).run P w = .ok ((X.drop off).take n == (Y.drop off).take n) w
  | 0, t, n, h, X, Y, off, hX, hY => by
    unfold deepB at h
    split at h
    · rename_i ti hti
      simp only [Bool.and_eq_true] at h
      obtain ⟨h1, h2⟩ := h
      have h2 := Nat.eq_of_beq_eq_true h2
      subst h2
      have hd : ti.d = .int .i64 := by split at h1; assumption; cases h1
      have l1 : off < X.length := by omega
      have l2 : off < Y.length := by omega
      refine ⟨_, _, (ints_part hT hti w X off).1 hd l1, (ints_part hT hti w Y off).1 hd l2, fun e he => ?_⟩
      obtain ⟨e, rfl⟩ : ∃ k, e = k + 1 := ⟨e - 1, by omega⟩
      rw [run_equalIn_int w e _ _ _ _ _ (by rw [(hT _ _ hti).1, hd])]
      rw [take1 l1 l2]
    · cases h
  | d + 1, t, n, h, X, Y, off, hX, hY => by
    unfold deepB at h
    split at h
    · rename_i ti hti
      split at h
      · rename_i hd
        have h2 := Nat.eq_of_beq_eq_true h
        subst h2
        have l1 : off < X.length := by omega
        have l2 : off < Y.length := by omega
        refine ⟨_, _, (ints_part hT hti w X off).1 hd l1, (ints_part hT hti w Y off).1 hd l2, fun e he => ?_⟩
        obtain ⟨e, rfl⟩ : ∃ k, e = k + 1 := ⟨e - 1, by omega⟩
        rw [run_equalIn_int w e _ _ _ _ _ (by rw [(hT _ _ hti).1, hd])]
        rw [take1 l1 l2]
      · rename_i fs hd
        simp only [Bool.and_eq_true, Bool.not_eq_true'] at h
        obtain ⟨⟨hst, hsz⟩, hfs⟩ := h
        have hsz := Nat.eq_of_beq_eq_true hsz
        refine ⟨_, _, (ints_part hT hti w X off).2 fs hd, (ints_part hT hti w Y off).2 fs hd, fun e he => ?_⟩
        obtain ⟨e, rfl⟩ : ∃ k, e = k + 1 := ⟨e - 1, by omega⟩
        have hu : P.underlying t = some (.struct fs) := by rw [(hT _ _ hti).1, hd]
        have hfo : P.fieldsOf t = fs := by simp [Program.fieldsOf, hu]
        rw [run_equalIn_struct w e t _ _ (by rw [hfo]; exact hu) hst, hfo, hsz]
        have := run_eqF_deep w d (deepB P T d) (fun t n h => run_eq_deep hT w d t n h) fs.toList 0 n hfs ((X.drop off).take n) ((Y.drop off).take n) (by simp; omega) (by simp; omega) e (by omega)
        simpa using this
      · cases h
    · cases h
end
section
variable {P : Program} {T : TT} {E : Operand → PV} {st : St} {o : Oper} {Q : PV → St → Prop}
def sizeT (T : TT) (t : TypeId) : Nat := match T t with | some ti => ti.size | none => 0
def eqSok (P : Program) (T : TT) (t : TypeId) : Bool := (match T t with | some ti => isAggD ti.d | none => false) && deepB P T 4 t (sizeT T t) && !(P.eqGuardType P.depth t)
def eqRes : BinOp → Bool → Option Bool
  | .eql, b => some b
  | .neq, b => some (!b)
  | _, _ => none
theorem G_eqS (hT : TOk P T) {op : BinOp} {t t2 : TypeId} {x y : Operand} {cs ds : List PV} {xs ys : List Int} {r : Bool} (ho : o.op = .binOp op t x y t2) (hx : aggOf (E x) = some cs) (hy : aggOf (E y) = some ds) (h1 : ints cs = some xs) (h2 : ints ds = some ys) (hl : Nat.beq ys.length xs.length = true) (hn : Nat.beq xs.length (sizeT T t) = true)
    (hf : eqSok P T t = true) (hop : eqRes op (xs == ys) = some r) (h : Q (.atom (.bool r)) st) : OpGoes P E st o Q := by
  have hl := Nat.eq_of_beq_eq_true hl
  have hn := Nat.eq_of_beq_eq_true hn
  refine OpGoes.still (fun K σ w ρ hR hE => ?_) h
  have vx := hE x; have vy := hE y
  rw [aggOf_spec hx] at vx; rw [aggOf_spec hy] at vy
  obtain ⟨as, ha, hal, hac⟩ := vx.agg_inv
  obtain ⟨bs, hb, hbl, hbc⟩ := vy.agg_inv
  have ea := aggInts h1 hal hac
  have eb := aggInts h2 hbl hbc
  simp only [eqSok, Bool.and_eq_true, Bool.not_eq_true', ← hn] at hf
  obtain ⟨⟨hag, hd⟩, hg⟩ := hf
  obtain ⟨a, b, p1, p2, p3⟩ := run_eq_deep hT w 4 t xs.length hd xs ys 0 (by omega) (by omega)
  have hst : ∃ ti fs, T t = some ti ∧ ti.d = .struct fs := by
    unfold deepB at hd
    split at hd
    · rename_i ti hti
      rw [hti] at hag
      split at hd
      · rename_i e; simp [e, isAggD] at hag
      · rename_i fs e; exact ⟨ti, fs, hti, e⟩
      · cases hd
    · cases hd
  obtain ⟨ti, fs, hti, hfs⟩ := hst
  have hsz : ti.size = xs.length := by
    unfold deepB at hd
    rw [hti] at hd
    simp only [hfs, Bool.and_eq_true] at hd
    exact Nat.eq_of_beq_eq_true hd.1.2
  have e1 := (ints_part hT hti w xs 0).2 fs hfs
  have e2 := (ints_part hT hti w ys 0).2 fs hfs
  rw [e1] at p1
  rw [e2] at p2
  rw [hsz, List.drop_zero, List.take_of_length_le (Nat.le_refl _)] at p1
  rw [hsz, List.drop_zero, List.take_of_length_le (by omega)] at p2
  cases p1
  cases p2
  have heq : (Op.equal t (.agg as) (.agg bs)).run P w = .ok (xs == ys) w := by
    rw [Op.equal, ea, eb, p3 _ (by decide)]
    simp [List.take_of_length_le, hl]
  have hgd : (eqGuard op t x y (.agg as) (.agg bs)).run P w = .ok () w := by
    unfold eqGuard
    cases op <;> simp [hg]
  refine ⟨.bool r, ?_, .atom _⟩
  simp only [execOp, ho, ha, hb, Sem.run_bind, hgd, Result.andThen_ok]
  cases op <;> simp only [eqRes, Option.some.injEq, reduceCtorEq] at hop <;> subst hop <;> simp [binOp, heq]
end
end Go.Sy
