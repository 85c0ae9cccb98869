/- Texts merged: Y13, Y14, Y15. -/
import Derived.Test.YtffckdfcmdmnoaaDoorM10
import Derived.ChangeArms
import Derived.ChangeOld
import Derived.DataReads
import Derived.WideShapes
import Derived.ChangeShapes
import Derived.OpenShut
import Derived.RowKit
import Derived.Carry
section
/- What comes in reads as symbolic values; what stands at the end of a row. -/
set_option linter.unusedVariables false
set_option linter.unusedSimpArgs false
set_option linter.unusedSectionVars false
namespace Go.Sy
open Go Go.RowKit
variable [Globs]

/-- All rows of cells of a world: what is kept where nothing is written below. -/
def KW (W : World) : KH := fun b => match W.heap[b]? with
  | some (.cells cur _ _) => some cur
  | _ => none
theorem KW.in (W : World) : KIn (KW W) W := by
  intro b cur h
  unfold KW at h
  split at h
  · rename_i c e fr hh
    cases h
    exact ⟨(e, fr), hh⟩
  · cases h
/-- Cells that read as symbolic values. -/
def Cl (W : World) (ps : List PV) (cs : List Value) : Prop :=
  cs.length = ps.length ∧ (∀ v ∈ cs, v.oneCell' = true) ∧ ∀ (j : Nat) p, ps[j]? = some p → VR (KW W) σ0 0 p (rd cs.toArray j)
theorem Cl.one {W : World} {p : PV} {v : Value} (h1 : v.oneCell' = true) (h : VR (KW W) σ0 0 p v) : Cl W [p] [v] := by
  refine ⟨rfl, by simpa using h1, fun j q hq => ?_⟩
  cases j with
  | zero => simp at hq; subst hq; simpa [rd] using h
  | succ j => simp at hq
theorem Cl.app {W : World} {ps qs : List PV} {cs ds : List Value} (h : Cl W ps cs) (g : Cl W qs ds) : Cl W (ps ++ qs) (cs ++ ds) := by
  refine ⟨by simp [h.1, g.1], fun v hv => ?_, fun j p hp => ?_⟩
  · rcases List.mem_append.1 hv with hv | hv
    · exact h.2.1 v hv
    · exact g.2.1 v hv
  · rcases Nat.lt_or_ge j ps.length with hj | hj
    · rw [List.getElem?_append_left hj] at hp
      have := h.2.2 j p hp
      simp only [rd_list] at this ⊢
      rwa [List.getElem?_append_left (by rw [h.1]; exact hj)]
    · rw [List.getElem?_append_right hj] at hp
      have := g.2.2 _ p hp
      simp only [rd_list] at this ⊢
      rwa [List.getElem?_append_right (by rw [h.1]; exact hj), h.1]
/-- What can be read as data of type t is a value of a model. -/
def Opens {α : Type} (P : Program) (t : TypeId) (enc : α → List PV) (wf : α → Prop) : Prop :=
  ∀ (H : Type) (en : TypeId × Value → H) (W : World) (sp : Nat → Bool) (held : Bool) (fuel : Nat) (cs : List Value) (x : DataW H × List MemPlace), DataW.trod en P W 0 sp held fuel t cs = some x → ∃ a, Cl W (enc a) cs ∧ wf a
def OpensF {α : Type} (P : Program) (l : List Field) (off sz : Nat) (enc : α → List PV) (wf : α → Prop) : Prop :=
  ∀ (H : Type) (en : TypeId × Value → H) (W : World) (sp : Nat → Bool) (held : Bool) (fuel : Nat) (cs : List Value), cs.length = off + sz →
    (∀ f, f ∈ l → ∃ x, DataW.trod en P W 0 sp held fuel f.type ((cs.drop f.offset).take (P.cellsOf f.type)) = some x) → ∃ a, Cl W (enc a) (cs.drop off) ∧ wf a
section
variable {α β : Type} {P : Program} {t e : TypeId}
theorem opens_int {k : IntKind} (ht : P.underlying t = some (.int k)) : Opens P t (fun n : Int => [PV.atom (.int k n)]) (fun n => (Lit.int k n).wf = true) := by
  intro H en W sp held fuel cs x h
  obtain ⟨n, rfl, _, hw⟩ := DataW.trod_int ht h
  exact ⟨n, .one rfl (.atom _), hw⟩
theorem opens_bool (ht : P.underlying t = some .bool) : Opens P t (fun b : Bool => [PV.atom (.bool b)]) (fun _ => True) := by
  intro H en W sp held fuel cs x h
  obtain ⟨b, rfl, _⟩ := DataW.trod_bool ht h
  exact ⟨b, .one rfl (.atom _), trivial⟩
omit [Globs] in
theorem choose_list {A : Type} {n : Nat} {Q : Nat → A → Prop} (h : ∀ i, i < n → ∃ a, Q i a) : ∃ l : List A, l.length = n ∧ ∀ i a, l[i]? = some a → Q i a := by
  induction n with
  | zero => exact ⟨[], rfl, fun i a hi => by simp at hi⟩
  | succ n ih =>
    obtain ⟨l, hl, hq⟩ := ih (fun i hi => h i (by omega))
    obtain ⟨a, ha⟩ := h n (by omega)
    refine ⟨l ++ [a], by simp [hl], fun i b hb => ?_⟩
    rcases Nat.lt_trichotomy i n with hi | hi | hi
    · rw [List.getElem?_append_left (by omega)] at hb
      exact hq i b hb
    · subst hi
      rw [List.getElem?_append_right (by omega), hl, Nat.sub_self] at hb
      simp at hb
      subst hb
      exact ha
    · rw [List.getElem?_eq_none (by simp; omega)] at hb
      cases hb
omit [Globs] in
theorem cells_at {w : World} {a : Addr} {n : Nat} {cs : List Value} (h : w.cells? 0 a n = some cs) : cs.length = n ∧ ∀ i u, cs[i]? = some u → w.cell? (a.add i) = some u := by
  unfold World.cells? at h
  split at h
  · have hl := mapM_some_length h
    refine ⟨by simpa using hl, fun i u hu => ?_⟩
    have hi : i < n := by
      have := (List.getElem?_eq_some_iff.1 hu).1
      simp at hl
      omega
    have := mapM_some_get h i i (by simp [hi])
    rw [this]
    exact hu
  · cases h
theorem opens_slice [Inhabited α] {enc : α → List PV} {wf : α → Prop} {sz : Nat} (ht : P.underlying t = some (.slice e)) (hc : P.cellsOf e = sz) (hpos : 0 < sz) (hlen : ∀ a, (enc a).length = sz) (h : Opens P e enc wf) :
    Opens P t (fun xs : List α => [sl sz enc xs]) (fun xs => xs.length ≤ maxLen ∧ ∀ a ∈ xs, wf a) := by
  intro H en W sp held fuel cs x hx
  rcases DataW.trod_slice ht hx with ⟨rfl, _⟩ | ⟨a, len, cap, elems, rest, n, _, rfl, _, _, hlc, hcm, hel, hat, _⟩
  · exact ⟨[], .one rfl (.fz0 _ _ (by decide)), by simp, fun a ha => by simp at ha⟩
  · have each : ∀ i, i < len → ∃ y, (∃ c, c.length = sz ∧ Cl W (enc y) c ∧ ∀ j u, c[j]? = some u → W.cell? (a.add (i * sz + j)) = some u) ∧ wf y := by
      intro i hi
      have h1 := hat i hi
      rw [hc, List.getElem?_eq_getElem (by omega), Option.bind_eq_some_iff] at h1
      obtain ⟨c, hcells, htr⟩ := h1
      obtain ⟨hl, hcell⟩ := cells_at hcells
      obtain ⟨y, hk, hw⟩ := h H en W sp held n c _ htr
      refine ⟨y, ⟨c, hl, hk, fun j u hu => ?_⟩, hw⟩
      have := hcell j u hu
      have e1 : (a.add (i * sz)).add j = a.add (i * sz + j) := by
        unfold Addr.add
        split <;> split <;> split <;> simp_all <;> omega
      rw [← e1]
      exact this
    obtain ⟨l, hl, hq⟩ := choose_list each
    refine ⟨l, .one rfl ?_, by omega, fun y hy => ?_⟩
    · rcases Nat.eq_zero_or_pos len with h0 | hlp
      · subst h0
        obtain rfl : l = [] := List.eq_nil_of_length_eq_zero hl
        exact .fz0 _ _ hcm
      · -- the block
        have hcell : ∀ k j, k < len → j < sz → ∃ y c, l[k]? = some y ∧ c.length = sz ∧ Cl W (enc y) c ∧ W.cell? (a.add (k * sz + j)) = some (rd c.toArray j) := by
          intro k j hk hj
          have hy := List.getElem?_eq_getElem (l := l) (i := k) (by omega)
          obtain ⟨⟨c, hcl, hcc, hcu⟩, _⟩ := hq k _ hy
          refine ⟨_, c, hy, hcl, hcc, ?_⟩
          rw [hcu j _ (List.getElem?_eq_getElem (by omega)), rd_list, List.getElem?_eq_getElem (by omega)]
          rfl
        have hadd : a.spot = none → ∀ k, a.add k = ⟨a.block, a.off + k, none⟩ := by
          intro hs k
          obtain ⟨b, o, s⟩ := a
          simp at hs
          subst hs
          exact add_spot b o k
        obtain ⟨y0, c0, _, _, _, hz⟩ := hcell 0 0 hlp hpos
        have hblk : ∃ cur e fr, W.heap[a.block]? = some (.cells cur e fr) ∧ a.spot = none := by
          unfold World.cell? at hz
          have hb : (a.add (0 * sz + 0)).block = a.block := by unfold Addr.add; split <;> simp
          rw [hb] at hz
          split at hz
          · rename_i c e fr hh
            refine ⟨c, e, fr, hh, ?_⟩
            cases hs : a.spot with
            | none => rfl
            | some s =>
              have : (a.add (0 * sz + 0)).spot.isSome = true := by unfold Addr.add; split <;> simp_all
              rw [if_pos this] at hz
              cases hz
          · cases hz
        obtain ⟨cur, te, fr, hheap, hspot⟩ := hblk
        have hrd : ∀ k j, k < len → j < sz → ∃ y c, l[k]? = some y ∧ Cl W (enc y) c ∧ c.length = sz ∧ a.off + (k * sz + j) < cur.size ∧ rd cur (a.off + k * sz + j) = rd c.toArray j := by
          intro k j hk hj
          obtain ⟨y, c, h1, h2, h3, h4⟩ := hcell k j hk hj
          refine ⟨y, c, h1, h3, h2, ?_⟩
          rw [hadd hspot] at h4
          simp only [World.cell?, hheap] at h4
          simp only [Option.isSome_none, Bool.false_eq_true, if_false] at h4
          obtain ⟨hlt, he⟩ := Array.getElem?_eq_some_iff.1 h4
          refine ⟨hlt, ?_⟩
          unfold rd at he ⊢
          rw [Nat.add_assoc, Array.getD_eq_getD_getElem?, h4]
          rfl
        have ha : some a = some (⟨a.block, a.off, none⟩ : Addr) := by
          obtain ⟨b, o, s⟩ := a
          simp at hspot
          subst hspot
          rfl
        rw [ha]
        unfold sl
        rw [hl]
        refine .fz (cur := cur) (by simp [KW, hheap]) hlp hlc hcm ?_ (fun k hk => hlen _) (fun k j hk hj => ?_) (fun k hk j p hp => ?_)
        · obtain ⟨_, _, _, _, _, hlt, _⟩ := hrd (len - 1) (sz - 1) (by omega) (by omega)
          have e1 : (len - 1 + 1) * sz = len * sz := by rw [show len - 1 + 1 = len by omega]
          rw [Nat.succ_mul] at e1
          omega
        · obtain ⟨y, c, _, hcl, hcs, _, he⟩ := hrd k j hk hj
          rw [he, rd_list, List.getElem?_eq_getElem (by omega)]
          exact hcl.2.1 _ (List.getElem_mem _)
        · have hj : j < sz := by
            have := (List.getElem?_eq_some_iff.1 hp).1
            unfold rows at this
            rw [hlen] at this
            exact this
          obtain ⟨y, c, hy, hcl, hcs, _, he⟩ := hrd k j hk hj
          rw [he]
          refine hcl.2.2 j p ?_
          unfold rows at hp
          rwa [List.getD_eq_getElem?_getD, hy] at hp
    · obtain ⟨i, hi⟩ := List.getElem?_of_mem hy
      exact (hq i y hi).2
theorem OpensF.one {f : Field} {off sz : Nat} {enc : α → List PV} {wf : α → Prop} (ho : f.offset = off) (hc : P.cellsOf f.type = sz) (h : Opens P f.type enc wf) : OpensF P [f] off sz enc wf := by
  intro H en W sp held fuel cs hl hall
  obtain ⟨x, hx⟩ := hall f (List.mem_singleton.2 rfl)
  rw [ho, hc, List.take_of_length_le (by rw [List.length_drop]; omega)] at hx
  exact h H en W sp held fuel _ x hx
theorem OpensF.cons {f : Field} {r : List Field} {off sz sz2 : Nat} {enc1 : α → List PV} {enc2 : β → List PV} {wf1 : α → Prop} {wf2 : β → Prop} (ho : f.offset = off) (hc : P.cellsOf f.type = sz) (h : Opens P f.type enc1 wf1) (hr : OpensF P r (off + sz) sz2 enc2 wf2) :
    OpensF P (f :: r) off (sz + sz2) (fun p : α × β => enc1 p.1 ++ enc2 p.2) (fun p => wf1 p.1 ∧ wf2 p.2) := by
  intro H en W sp held fuel cs hl hall
  obtain ⟨x, hx⟩ := hall f (List.mem_cons_self ..)
  rw [ho, hc] at hx
  obtain ⟨a, hk, hw⟩ := h H en W sp held fuel _ x hx
  obtain ⟨b, hk2, hw2⟩ := hr H en W sp held fuel cs (by rw [hl]; omega) (fun g hg => hall g (List.mem_cons_of_mem _ hg))
  refine ⟨(a, b), ?_, hw, hw2⟩
  have := hk.app hk2
  rwa [← List.drop_drop, List.take_append_drop] at this
theorem opens_struct {fs : Array Field} {sz : Nat} {enc : α → List PV} {wf : α → Prop} (ht : P.underlying t = some (.struct fs)) (hc : P.cellsOf t = sz) (h : OpensF P fs.toList 0 sz enc wf) : Opens P t enc wf := by
  intro H en W sp held fuel cs x hx
  obtain ⟨xs, n, _, _, hl, hxl, hat⟩ := DataW.trod_struct ht hx
  have := h H en W sp held n cs (by rw [hl, hc]; omega) (fun f hf => by
    obtain ⟨i, hi, he⟩ := List.getElem_of_mem hf
    have hi' : i < fs.size := by simpa using hi
    refine ⟨xs[i], ?_⟩
    rw [hat i f (by rw [Array.getElem?_eq_getElem hi']; simpa using he)]
    exact List.getElem?_eq_getElem (by omega))
  simpa using this
theorem Opens.to {enc : α → List PV} {enc2 : β → List PV} {wf : α → Prop} {wf2 : β → Prop} (h : Opens P t enc wf) (f : α → β) (he : ∀ a, enc2 (f a) = enc a) (hw : ∀ a, wf a → wf2 (f a)) : Opens P t enc2 wf2 := by
  intro H en W sp held fuel cs x hx
  obtain ⟨a, hk, ha⟩ := h H en W sp held fuel cs x hx
  exact ⟨f a, by rw [he]; exact hk, hw a ha⟩
omit [Globs] in
theorem wf_i64 {n : Int} (h : (Lit.int .i64 n).wf = true) : -9223372036854775808 ≤ n ∧ n ≤ 9223372036854775807 := by
  simp [Lit.wf, IntKind.has, IntKind.min, IntKind.max, IntKind.signed, IntKind.bits] at h
  omega
/-- A struct that came in. -/
theorem open_agg {H : Type} {en : TypeId × Value → H} {W : World} {sp : Nat → Bool} {held : Bool} {r : Reach} {b0 : Nat} {fs : Array Field} {enc : α → List PV} {wf : α → Prop} {v : Value} {d : DataW H} {ps : List MemPlace} (h : Opens P t enc wf) (ht : P.underlying t = some (.struct fs))
    (hval : Value.okWide P W r b0 t v) (hd : DataW.Trod en P W 0 sp held t v d ps) : ∃ a, VR (KW W) σ0 0 (.agg (enc a)) v ∧ wf a := by
  unfold Value.okWide at hval
  rw [ht] at hval
  obtain ⟨cs, rfl, _, _⟩ := hval
  obtain ⟨fuel, hf⟩ := hd
  obtain ⟨a, hc, hw⟩ := h H en W sp held fuel _ _ hf
  refine ⟨a, .agg ?_ (fun j p hp => ?_), hw⟩
  · have := hc.1
    simpa [Value.cells] using this
  · have := hc.2.2 j p hp
    simpa [Value.cells] using this
end
section
omit [Globs]
theorem keep_all {H : Type} {en : TypeId × Value → H} {P : Program} (hl : laidOutB P = true) {W W' : World} (hb : Below W.heap.size W W') : ∀ {ts : List TypeId} {vs : List Value} {ds : List (DataW H)} {ps : List MemPlace},
    (∀ t ∈ ts, P.readableRec t = true ∧ t < P.types.size) → DataW.TrodAll en P W 0 (fun _ => true) true ts vs ds ps → DataW.TrodAll en P W' 0 (fun b => decide (b < W.heap.size)) true ts vs ds ps
  | [], [], [], _, _, h => h
  | t :: ts, v :: vs, d :: ds, _, ht, h => by
    have hlt := DataW.TrodAll.lt h
    obtain ⟨p, q, h1, h2, rfl⟩ := h
    exact ⟨p, q, Below.trod hl (ht t (by simp)).1 (ht t (by simp)).2 h1 hb (fun x hx => hlt x (by simp [hx])), keep_all hl hb (fun u hu => ht u (by simp [hu])) h2, rfl⟩
end
/-- What is known of cells that stand under a name. -/
theorem KW.of_var {P : Program} {W : World} {n : String} {g : Nat} {cur : Array Value} (hg : P.globalNamed n = some g) (h : W.var? P n = some cur) : KW W g = some cur := by
  unfold World.var? at h
  rw [hg] at h
  simp only [Option.bind_some] at h
  unfold KW
  split at h
  · rename_i c e fr hh
    cases h
    simp [hh]
  · cases h
def aggOf : PV → Option (List PV)
  | .agg cs => some cs
  | _ => none
theorem aggOf_spec {p : PV} {cs : List PV} (h : aggOf p = some cs) : p = .agg cs := by
  cases p <;> simp [aggOf] at h
  subst h; rfl
/-! structs of whole numbers, and of such structs, held against each other -/
def deepF (T : TT) (chk : TypeId → Nat → Bool) : Nat → List Field → Nat → Bool
  | j, [], n => Nat.beq j n
  | j, f :: fs, n => match T f.type with
    | some ti => f.name != "_" && Nat.beq f.offset j && chk f.type ti.size && Nat.ble (j + ti.size) n && deepF T chk (j + ti.size) fs n
    | none => false
def deepB (P : Program) (T : TT) : Nat → TypeId → Nat → Bool
  | 0, t, n => match T t with
    | some ti => (match ti.d with | .int .i64 => true | _ => false) && Nat.beq n 1
    | none => false
  | d + 1, t, n => match T t with
    | some ti => (match ti.d with
      | .int .i64 => Nat.beq n 1
      | .struct fs => !(P.stoodInHeld t) && Nat.beq ti.size n && deepF T (deepB P T d) 0 fs.toList n
      | _ => false)
    | none => false
section
theorem ints_part {P : Program} {T : TT} (hT : TOk P T) {t : TypeId} {ti : TI} (ht : T t = some ti) (w : World) (X : List Int) (off : Nat) :
    (ti.d = .int .i64 → ∀ h : off < X.length, (part t (X.map (Value.int .i64)).toArray off).run P w = .ok (.int .i64 X[off]) w) ∧
    (∀ fs, ti.d = .struct fs → (part t (X.map (Value.int .i64)).toArray off).run P w = .ok (.agg (((X.drop off).take ti.size).map (Value.int .i64)).toArray) w) := by
  constructor
  · intro hd h
    simp [part, Sem.run_bind, run_isAgg hT ht, hd, isAggD, h]
  · intro fs hd
    simp only [part, Sem.run_bind, run_isAgg hT ht, hd, isAggD, run_sizeOf hT ht, Result.andThen_ok, if_true, Sem.run_pure]
    congr 2
    apply Array.toList_inj.1
    simp [Array.toList_extract, List.extract_eq_take_drop, List.map_take, List.map_drop]
theorem take1 {X Y : List Int} {o : Nat} (h1 : o < X.length) (h2 : o < Y.length) : ((X.drop o).take 1 == (Y.drop o).take 1) = (X[o] == Y[o]) := by
  rw [List.drop_eq_getElem_cons h1, List.drop_eq_getElem_cons h2]
  show (X[o] :: List.take 0 (X.drop (o + 1)) == Y[o] :: List.take 0 (Y.drop (o + 1))) = _
  rw [List.take_zero, List.take_zero]
  simp
theorem drop_split {X Y : List Int} {j s n : Nat} (hX : X.length = n) (hY : Y.length = n) (h : j + s ≤ n) :
    (X.drop j == Y.drop j) = ((X.drop j).take s == (Y.drop j).take s && (X.drop (j + s) == Y.drop (j + s))) := by
  have e1 : X.drop j = (X.drop j).take s ++ X.drop (j + s) := by rw [← List.drop_drop, List.take_append_drop]
  have e2 : Y.drop j = (Y.drop j).take s ++ Y.drop (j + s) := by rw [← List.drop_drop, List.take_append_drop]
  have hl : ((X.drop j).take s).length = ((Y.drop j).take s).length := by simp [hX, hY]
  rw [Bool.eq_iff_iff]
  simp only [beq_iff_eq, Bool.and_eq_true]
  constructor
  · intro h
    rw [h]
    refine ⟨rfl, ?_⟩
    rw [← List.drop_drop, ← List.drop_drop, h]
  · rintro ⟨h1, h2⟩
    rw [e1, e2, h1, h2]
theorem run_eqF_deep {P : Program} {T : TT} (w : World) (d : Nat) (chk : TypeId → Nat → Bool)
    (hchk : ∀ t n, chk t n = true → ∀ (X Y : List Int) (off : Nat), off + n ≤ X.length → off + n ≤ Y.length →
      ∃ a b, (part t (X.map (Value.int .i64)).toArray off).run P w = .ok a w ∧ (part t (Y.map (Value.int .i64)).toArray off).run P w = .ok b w ∧
        ∀ e, d < e → (Op.equalIn e t a b).run P w = .ok ((X.drop off).take n == (Y.drop off).take n) w) :
    ∀ (fs : List Field) (j n : Nat), deepF T chk j fs n = true → ∀ (X Y : List Int), X.length = n → Y.length = n → ∀ e, d < e →
    (Op.eqFields e (X.map (Value.int .i64)).toArray (Y.map (Value.int .i64)).toArray fs).run P w = .ok (X.drop j == Y.drop j) w
  | [], j, n, h, X, Y, hX, hY, e, he => by
    unfold deepF at h
    have h := Nat.eq_of_beq_eq_true h
    rw [List.drop_eq_nil_of_le (by omega), List.drop_eq_nil_of_le (by omega)]
    simp [Op.eqFields]
  | f :: fs, j, n, h, X, Y, hX, hY, e, he => by
    unfold deepF at h
    split at h
    · rename_i ti hti
      simp only [Bool.and_eq_true] at h
      obtain ⟨⟨⟨⟨hn, hj⟩, hb⟩, hle⟩, hr⟩ := h
      have hj := Nat.eq_of_beq_eq_true hj
      have hle := Nat.le_of_ble_eq_true hle
      have hn : f.name ≠ "_" := by simpa using hn
      obtain ⟨a, b, p1, p2, p3⟩ := hchk f.type ti.size hb X Y j (by omega) (by omega)
      have ih := run_eqF_deep w d chk hchk fs (j + ti.size) n hr X Y hX hY e he
      rw [Op.eqFields, if_pos hn, hj]
      simp only [Sem.run_bind, p1, p2, p3 e he, Result.andThen_ok, Sem.run_ite, ih, Sem.run_pure]
      rw [drop_split hX hY hle]
      cases ((X.drop j).take ti.size == (Y.drop j).take ti.size) <;> simp
    · cases h
theorem run_eq_deep {P : Program} {T : TT} (hT : TOk P T) (w : World) : ∀ (d : Nat) (t : TypeId) (n : Nat), deepB P T d t n = true → ∀ (X Y : List Int) (off : Nat), off + n ≤ X.length → off + n ≤ Y.length →
    ∃ a b, (part t (X.map (Value.int .i64)).toArray off).run P w = .ok a w ∧ (part t (Y.map (Value.int .i64)).toArray off).run P w = .ok b w ∧
      ∀ e, d < e → (Op.equalIn e t a b).run P w = .ok ((X.drop off).take n == (Y.drop off).take n) w
  | 0, t, n, h, X, Y, off, hX, hY => by
    unfold deepB at h
    split at h
    · rename_i ti hti
      simp only [Bool.and_eq_true] at h
      obtain ⟨h1, h2⟩ := h
      have h2 := Nat.eq_of_beq_eq_true h2
      subst h2
      have hd : ti.d = .int .i64 := by split at h1; assumption; cases h1
      have l1 : off < X.length := by omega
      have l2 : off < Y.length := by omega
      refine ⟨_, _, (ints_part hT hti w X off).1 hd l1, (ints_part hT hti w Y off).1 hd l2, fun e he => ?_⟩
      obtain ⟨e, rfl⟩ : ∃ k, e = k + 1 := ⟨e - 1, by omega⟩
      rw [run_equalIn_int w e _ _ _ _ _ (by rw [(hT _ _ hti).1, hd])]
      rw [take1 l1 l2]
    · cases h
  | d + 1, t, n, h, X, Y, off, hX, hY => by
    unfold deepB at h
    split at h
    · rename_i ti hti
      split at h
      · rename_i hd
        have h2 := Nat.eq_of_beq_eq_true h
        subst h2
        have l1 : off < X.length := by omega
        have l2 : off < Y.length := by omega
        refine ⟨_, _, (ints_part hT hti w X off).1 hd l1, (ints_part hT hti w Y off).1 hd l2, fun e he => ?_⟩
        obtain ⟨e, rfl⟩ : ∃ k, e = k + 1 := ⟨e - 1, by omega⟩
        rw [run_equalIn_int w e _ _ _ _ _ (by rw [(hT _ _ hti).1, hd])]
        rw [take1 l1 l2]
      · rename_i fs hd
        simp only [Bool.and_eq_true, Bool.not_eq_true'] at h
        obtain ⟨⟨hst, hsz⟩, hfs⟩ := h
        have hsz := Nat.eq_of_beq_eq_true hsz
        refine ⟨_, _, (ints_part hT hti w X off).2 fs hd, (ints_part hT hti w Y off).2 fs hd, fun e he => ?_⟩
        obtain ⟨e, rfl⟩ : ∃ k, e = k + 1 := ⟨e - 1, by omega⟩
        have hu : P.underlying t = some (.struct fs) := by rw [(hT _ _ hti).1, hd]
        have hfo : P.fieldsOf t = fs := by simp [Program.fieldsOf, hu]
        rw [run_equalIn_struct w e t _ _ (by rw [hfo]; exact hu) hst, hfo, hsz]
        have := run_eqF_deep w d (deepB P T d) (fun t n h => run_eq_deep hT w d t n h) fs.toList 0 n hfs ((X.drop off).take n) ((Y.drop off).take n) (by simp; omega) (by simp; omega) e (by omega)
        simpa using this
      · cases h
    · cases h
end
section
variable {P : Program} {T : TT} {E : Operand → PV} {st : St} {o : Oper} {Q : PV → St → Prop}
def sizeT (T : TT) (t : TypeId) : Nat := match T t with | some ti => ti.size | none => 0
def eqSok (P : Program) (T : TT) (t : TypeId) : Bool := (match T t with | some ti => isAggD ti.d | none => false) && deepB P T 4 t (sizeT T t) && !(P.eqGuardType P.depth t)
def eqRes : BinOp → Bool → Option Bool
  | .eql, b => some b
  | .neq, b => some (!b)
  | _, _ => none
theorem G_eqS (hT : TOk P T) {op : BinOp} {t t2 : TypeId} {x y : Operand} {cs ds : List PV} {xs ys : List Int} {r : Bool} (ho : o.op = .binOp op t x y t2) (hx : aggOf (E x) = some cs) (hy : aggOf (E y) = some ds) (h1 : ints cs = some xs) (h2 : ints ds = some ys) (hl : Nat.beq ys.length xs.length = true) (hn : Nat.beq xs.length (sizeT T t) = true)
    (hf : eqSok P T t = true) (hop : eqRes op (xs == ys) = some r) (h : Q (.atom (.bool r)) st) : OpGoes P E st o Q := by
  have hl := Nat.eq_of_beq_eq_true hl
  have hn := Nat.eq_of_beq_eq_true hn
  refine OpGoes.still (fun K σ w ρ hR hE => ?_) h
  have vx := hE x; have vy := hE y
  rw [aggOf_spec hx] at vx; rw [aggOf_spec hy] at vy
  obtain ⟨asx, ha, hal, hac⟩ := vx.agg_inv
  obtain ⟨bs, hb, hbl, hbc⟩ := vy.agg_inv
  have ea := aggInts h1 hal hac
  have eb := aggInts h2 hbl hbc
  simp only [eqSok, Bool.and_eq_true, Bool.not_eq_true', ← hn] at hf
  obtain ⟨⟨hag, hd⟩, hg⟩ := hf
  obtain ⟨a, b, p1, p2, p3⟩ := run_eq_deep hT w 4 t xs.length hd xs ys 0 (by omega) (by omega)
  have hst : ∃ ti fs, T t = some ti ∧ ti.d = .struct fs := by
    unfold deepB at hd
    split at hd
    · rename_i ti hti
      rw [hti] at hag
      split at hd
      · rename_i e; simp [e, isAggD] at hag
      · rename_i fs e; exact ⟨ti, fs, hti, e⟩
      · cases hd
    · cases hd
  obtain ⟨ti, fs, hti, hfs⟩ := hst
  have hsz : ti.size = xs.length := by
    unfold deepB at hd
    rw [hti] at hd
    simp only [hfs, Bool.and_eq_true] at hd
    exact Nat.eq_of_beq_eq_true hd.1.2
  have e1 := (ints_part hT hti w xs 0).2 fs hfs
  have e2 := (ints_part hT hti w ys 0).2 fs hfs
  rw [e1] at p1
  rw [e2] at p2
  rw [hsz, List.drop_zero, List.take_of_length_le (Nat.le_refl _)] at p1
  rw [hsz, List.drop_zero, List.take_of_length_le (by omega)] at p2
  cases p1
  cases p2
  have heq : (Op.equal t (.agg asx) (.agg bs)).run P w = .ok (xs == ys) w := by
    rw [Op.equal, ea, eb, p3 _ (by decide)]
    simp [List.take_of_length_le, hl]
  have hgd : (eqGuard op t x y (.agg asx) (.agg bs)).run P w = .ok () w := by
    unfold eqGuard
    cases op <;> simp [hg]
  refine ⟨.bool r, ?_, .atom _⟩
  simp only [execOp, ho, ha, hb, Sem.run_bind, hgd, Result.andThen_ok]
  cases op <;> simp only [eqRes, Option.some.injEq, reduceCtorEq] at hop <;> subst hop <;> simp [binOp, heq]
end
end Go.Sy
end
section
/- Regions that draw their order: a quicker look. -/
set_option linter.unusedVariables false
set_option linter.unusedSimpArgs false
set_option linter.unusedSectionVars false
namespace Go.Sy
open Go Go.RowKit
variable [Globs]

structure DI where
  dst : Option Nat
  looks : List Nat
  ons : List Nat
  loud : Bool
def loudO (o : Oper) : Bool := match o.op with
  | .store _ _ _ => true
  | .call { callee := .builtin .append, .. } => true
  | .alloc _ => true
  | .box _ _ => true
  | _ => false
def onsOf : List Edge → List Nat
  | [] => []
  | e :: l => bif Region.binds .any e then e.on :: onsOf l else onsOf l
def infoO (ops : Array Oper) (o : Oper) : DI := ⟨o.dst, o.looksAt ops, onsOf o.after.toList, loudO o⟩
def apartI (x y : DI) : Bool :=
  (match x.dst with
    | some d => (bif lmem d y.looks then false else match y.dst with | some e => bif Nat.beq d e then false else true | none => true)
    | none => true) && (match y.dst with
    | some d => bif lmem d x.looks then false else true
    | none => true)
def ltAll (k : Nat) : List Nat → Bool
  | [] => true
  | a :: l => bif Nat.blt a k then ltAll k l else false
def geAny (k : Nat) : List Nat → Bool
  | [] => false
  | a :: l => bif Nat.ble k a then true else geAny k l
def laterB (x : DI) (k : Nat) : List DI → Bool
  | [] => true
  | y :: r => (bif x.loud then geAny k y.ons else bif lmem k y.ons then true else bif y.loud then false else apartI x y) && laterB x k r
def fastG : Nat → List DI → Bool
  | _, [] => true
  | k, x :: r => ltAll k x.ons && laterB x k r && fastG (k + 1) r

theorem ltAll_spec {k : Nat} : ∀ {l : List Nat}, ltAll k l = true → ∀ a ∈ l, a < k
  | [], _, a, ha => by simp at ha
  | b :: l, h, a, ha => by
    unfold ltAll at h
    cases hb : Nat.blt b k with
    | false => simp [hb] at h
    | true =>
      simp only [hb, cond_true] at h
      rcases List.mem_cons.1 ha with rfl | ha
      · simpa [Nat.blt_eq] using hb
      · exact ltAll_spec h a ha
theorem geAny_spec {k : Nat} : ∀ {l : List Nat}, geAny k l = true → ∃ a ∈ l, k ≤ a
  | [], h => by cases h
  | b :: l, h => by
    unfold geAny at h
    cases hb : Nat.ble k b with
    | true => exact ⟨b, by simp, Nat.le_of_ble_eq_true hb⟩
    | false =>
      simp only [hb, cond_false] at h
      obtain ⟨a, ha, hk⟩ := geAny_spec h
      exact ⟨a, by simp [ha], hk⟩
theorem onsOf_mem {l : List Edge} {a : Nat} : a ∈ onsOf l ↔ ∃ e ∈ l, Region.binds .any e = true ∧ e.on = a := by
  induction l with
  | nil => simp [onsOf]
  | cons e l ih =>
    unfold onsOf
    cases hb : Region.binds .any e with
    | true => simp [ih, hb]; constructor <;> (rintro (h | h); exact .inl h.symm; exact .inr h)
    | false => simp [ih, hb]
theorem laterB_spec {x : DI} {k : Nat} : ∀ {r : List DI}, laterB x k r = true → ∀ y ∈ r, (if x.loud then geAny k y.ons = true else (lmem k y.ons = true ∨ (y.loud = false ∧ apartI x y = true)))
  | [], _, y, hy => by simp at hy
  | z :: r, h, y, hy => by
    unfold laterB at h
    simp only [Bool.and_eq_true] at h
    rcases List.mem_cons.1 hy with rfl | hy
    · have h1 := h.1
      cases hx : x.loud with
      | true => simpa [hx] using h1
      | false =>
        simp only [hx, cond_false] at h1
        cases hk : lmem k y.ons with
        | true => simp
        | false =>
          simp only [hk, cond_false] at h1
          cases hy : y.loud with
          | true => simp [hy] at h1
          | false => simpa [hy] using h1
    · exact laterB_spec h.2 y hy
theorem apartI_spec {ops : Array Oper} {x y : Oper} (h : apartI (infoO ops x) (infoO ops y) = true) : x.apart ops y = true := by
  unfold apartI infoO at h
  unfold Oper.apart
  simp only [Bool.and_eq_true] at h ⊢
  obtain ⟨h1, h2⟩ := h
  constructor
  · cases hx : x.dst with
    | none => rfl
    | some d =>
      simp only [hx] at h1 ⊢
      cases hm : lmem d (y.looksAt ops) with
      | true => simp [hm] at h1
      | false =>
        simp only [hm, cond_false] at h1
        have hn : d ∉ y.looksAt ops := fun hd => by rw [(lmem_eq _ _).2 hd] at hm; cases hm
        simp only [Bool.and_eq_true, Bool.not_eq_true', bne_iff_ne, ne_eq]
        refine ⟨by simpa using hn, ?_⟩
        cases hy : y.dst with
        | none => simp
        | some e =>
          simp only [hy] at h1
          cases hb : Nat.beq d e with
          | true => simp [hb] at h1
          | false =>
            intro he
            cases he
            simp at hb
  · cases hy : y.dst with
    | none => rfl
    | some d =>
      simp only [hy] at h2 ⊢
      cases hm : lmem d (x.looksAt ops) with
      | true => simp [hm] at h2
      | false =>
        have hn : d ∉ x.looksAt ops := fun hd => by rw [(lmem_eq _ _).2 hd] at hm; cases hm
        simpa using hn
theorem stores_mem : ∀ (l : List Oper) (j k : Nat), lmem k (stores j l) = true ↔ ∃ i o, l[i]? = some o ∧ loudO o = true ∧ k = j + i
  | [], j, k => by simp [stores, lmem]
  | o :: l, j, k => by
    have ih := stores_mem l (j + 1) k
    have e : stores j (o :: l) = if loudO o then j :: stores (j + 1) l else stores (j + 1) l := by
      unfold loudO
      conv => lhs; unfold stores
      split <;> simp_all
    rw [e]
    cases hl : loudO o with
    | true =>
      simp only [if_true]
      unfold lmem
      constructor
      · intro h
        cases hk : Nat.beq k j with
        | true => exact ⟨0, o, rfl, hl, by rw [Nat.eq_of_beq_eq_true hk]; rfl⟩
        | false =>
          simp only [hk, cond_false] at h
          obtain ⟨i, p, hp, hq, hr⟩ := ih.1 h
          exact ⟨i + 1, p, by simpa using hp, hq, by omega⟩
      · rintro ⟨i, p, hp, hq, hr⟩
        cases i with
        | zero => have : k = j := by omega
                  subst this; simp
        | succ i =>
          rw [ih.2 ⟨i, p, by simpa using hp, hq, by omega⟩]
          cases Nat.beq k j <;> rfl
    | false =>
      simp only [Bool.false_eq_true, if_false]
      rw [ih]
      constructor
      · rintro ⟨i, p, hp, hq, hr⟩
        exact ⟨i + 1, p, by simpa using hp, hq, by omega⟩
      · rintro ⟨i, p, hp, hq, hr⟩
        cases i with
        | zero => simp at hp; subst hp; rw [hl] at hq; cases hq
        | succ i => exact ⟨i, p, by simpa using hp, hq, by omega⟩
theorem loud_at {l : List Oper} {k : Nat} {o : Oper} (h : l[k]? = some o) : lmem k (stores 0 l) = loudO o := by
  cases hl : loudO o with
  | true => exact (stores_mem l 0 k).2 ⟨k, o, h, hl, by omega⟩
  | false =>
    rw [Bool.eq_false_iff]
    intro hm
    obtain ⟨i, p, hp, hq, hr⟩ := (stores_mem l 0 k).1 hm
    have : i = k := by omega
    subst this
    rw [h] at hp
    cases hp
    rw [hl] at hq
    cases hq
theorem filter_one {n k : Nat} {p : Nat → Bool} (hk : k < n) (h : ∀ i, i < n → (p i = true ↔ i = k)) : (List.range n).filter p = [k] := by
  have e : (List.range n).filter p = (List.range n).filter (· == k) := by
    apply List.filter_congr
    intro i hi
    rw [Bool.eq_iff_iff, h i (List.mem_range.1 hi)]
    simp
  rw [e, List.filter_beq, List.Nodup.count List.nodup_range, if_pos (List.mem_range.2 hk)]
  rfl
theorem fastG_lex (l : List Oper) : ∀ (m k : Nat) (listed : Array Bool), m + k = l.length → listed.size = l.length → (∀ i, i < l.length → listed[i]? = some (decide (i < k))) →
    fastG k ((l.drop k).map (infoO l.toArray)) = true → lexG .any l.toArray (stores 0 l) m k listed = true := by
  intro m
  induction m with
  | zero =>
    intro k listed hk hsz hl _
    unfold lexG
    have : Region.ready .any l.toArray listed = [] := by
      unfold Region.ready
      rw [List.filter_eq_nil_iff]
      intro i hi
      have hi : i < l.length := by simpa using hi
      have h1 := hl i hi
      rw [Array.getD_eq_getD_getElem?, h1]
      simp [show i < k by omega]
    rw [this]
    rfl
  | succ m ih =>
    intro k listed hk hsz hl hf
    have hkl : k < l.length := by omega
    rw [List.drop_eq_getElem_cons hkl, List.map_cons] at hf
    unfold fastG at hf
    simp only [Bool.and_eq_true] at hf
    obtain ⟨⟨h1, h2⟩, h3⟩ := hf
    have h1 := ltAll_spec h1
    have h2 := laterB_spec h2
    have hok : l[k]? = some l[k] := List.getElem?_eq_getElem hkl
    have gT : ∀ i, i < l.length → listed.getD i true = decide (i < k) := fun i hi => by rw [Array.getD_eq_getD_getElem?, hl i hi]; rfl
    have gF : ∀ i, listed.getD i false = true ↔ i < k ∧ i < l.length := by
      intro i
      rcases Nat.lt_or_ge i l.length with hi | hi
      · rw [Array.getD_eq_getD_getElem?, hl i hi]; simp [hi]
      · rw [Array.getD_eq_getD_getElem?, Array.getElem?_eq_none (by omega)]
        simp
        omega
    have hready : ∀ i o, l[i]? = some o → i < l.length → ((!listed.getD i true && ((l.toArray[i]?).map (·.after.all fun e => !Region.binds .any e || listed.getD e.on false)).getD false) = true ↔ k ≤ i ∧ ∀ a ∈ onsOf o.after.toList, a < k ∧ a < l.length) := by
      intro i o ho hi
      rw [gT i hi]
      simp only [List.getElem?_toArray, ho, Option.map_some, Option.getD_some, Bool.and_eq_true, Bool.not_eq_true', decide_eq_false_iff_not, Nat.not_lt]
      refine and_congr Iff.rfl ?_
      rw [← Array.all_toList, List.all_eq_true]
      constructor
      · intro h a ha
        obtain ⟨e, he, hb, rfl⟩ := onsOf_mem.1 ha
        have := h e he
        simp only [hb, Bool.not_true, Bool.false_or] at this
        exact (gF _).1 this
      · intro h e he
        cases hb : Region.binds .any e with
        | false => rfl
        | true =>
          simp only [Bool.not_true, Bool.false_or]
          exact (gF _).2 (h e.on (onsOf_mem.2 ⟨e, he, hb, rfl⟩))
    unfold lexG
    rw [Bool.and_eq_true]
    constructor
    · rw [loud_at hok]
      have hmem : k ∈ Region.ready .any l.toArray listed := by
        unfold Region.ready
        rw [List.mem_filter]
        refine ⟨by simpa using hkl, (hready k _ hok hkl).2 ⟨Nat.le_refl _, fun a ha => ?_⟩⟩
        have := h1 a ha
        omega
      have later : ∀ j o, l[j]? = some o → k < j → infoO l.toArray o ∈ (l.drop (k + 1)).map (infoO l.toArray) := by
        intro j o ho hj
        refine List.mem_map.2 ⟨o, ?_, rfl⟩
        refine List.mem_iff_getElem?.2 ⟨j - (k + 1), ?_⟩
        rw [List.getElem?_drop, show k + 1 + (j - (k + 1)) = j by omega]
        exact ho
      cases hlo : loudO l[k] with
      | true =>
        simp only [cond_true, beq_iff_eq]
        unfold Region.ready
        rw [show l.toArray.size = l.length by simp]
        refine filter_one hkl (fun i hi => ?_)
        have hio : l[i]? = some l[i] := List.getElem?_eq_getElem hi
        rw [hready i _ hio hi]
        constructor
        · rintro ⟨hki, ha⟩
          rcases Nat.lt_or_ge k i with hlt | hge
          · have := h2 _ (later i _ hio hlt)
            rw [show (infoO l.toArray l[k]).loud = true from hlo, if_pos rfl] at this
            obtain ⟨a, ham, hak⟩ := geAny_spec this
            have := (ha a ham).1
            omega
          · omega
        · rintro rfl
          refine ⟨Nat.le_refl _, fun a ha => ?_⟩
          have := h1 a ha
          omega
      | false =>
        simp only [cond_false, Bool.and_eq_true]
        refine ⟨by simpa using hmem, ?_⟩
        unfold freeG
        simp only [List.getElem?_toArray, hok, List.all_eq_true, List.mem_range]
        intro j hj
        have hj : j < l.length := by simpa using hj
        have hjo : l[j]? = some l[j] := List.getElem?_eq_getElem hj
        rw [gT j hj]
        simp only [hjo, Bool.or_eq_true, beq_iff_eq, decide_eq_true_eq, Bool.and_eq_true, Bool.not_eq_true']
        rcases Nat.lt_trichotomy j k with h | h | h
        · exact .inl (.inr h)
        · exact .inl (.inl h)
        · refine .inr ?_
          have := h2 _ (later j _ hjo h)
          rw [show (infoO l.toArray l[k]).loud = false from hlo, if_neg (by simp)] at this
          rcases this with this | ⟨ha, hb⟩
          · left
            obtain ⟨e, he, hb, hon⟩ := onsOf_mem.1 ((lmem_eq _ _).1 this)
            rw [← Array.any_toList, List.any_eq_true]
            exact ⟨e, he, by simp [hb, hon]⟩
          · right
            exact ⟨apartI_spec hb, by rw [loud_at hjo]; exact ha⟩
    · refine ih (k + 1) _ (by omega) (by simpa using hsz) (fun i hi => ?_) h3
      rw [Array.getElem?_setIfInBounds]
      by_cases hik : k = i
      · subst hik
        rw [if_pos rfl, if_pos (by omega)]
        simp
      · rw [if_neg hik, hl i hi]
        congr 1
        rw [decide_eq_decide]
        omega
section
variable {P : Program} {f : FuncId} {fn : Func} {n0 : Nat} {Q : PV → St → Prop} {k : List Item} {env : Env} {st : St}
theorem Run.drwF {id : Nat} {l : List Oper} (hm : P.follows .mixedOrders = true) (hB : fastG 0 (l.map (infoO l.toArray)) = true)
    (h : Walk P l.toArray (stores 0 l) fn.ntmps (fun env' st' => Run P f fn n0 Q k env' st') 0 l env st) : Run P f fn n0 Q (.code (.region id l.toArray true) :: k) env st := by
  refine Run.drw hm ?_ h
  have := fastG_lex l l.length 0 (Array.replicate l.length false) (by omega) (by simp) (fun i hi => by simp [hi]) (by simpa using hB)
  simpa using this
end
end Go.Sy
namespace Go.Sy
open Go
section
variable [Globs]
variable {P : Program} {f : FuncId} {fn : Func} {n0 : Nat} {Q : PV → St → Prop} {k : List Item} {env : Env} {st : St} {ops : Array Oper} {rest : List Oper} {lo : List Nat} {nt m : Nat} {R : Env → St → Prop}
theorem Walk.lit (b : Bool) {o : Oper} {d : Nat} (hg : guardOf ops env o = some (d, b)) (h : Walk P ops lo nt R m (o :: rest) env st) : Walk P ops lo nt R m (o :: rest) env st := h
theorem RunL.lit (b : Bool) {o : Oper} {d : Nat} (hg : guardOf ops env o = some (d, b)) (h : RunL P f fn n0 Q ops (o :: rest) k env st) : RunL P f fn n0 Q ops (o :: rest) k env st := h
end
end Go.Sy
end
section
/- All plain operations by one rule; what stands between them by another. -/
set_option linter.unusedVariables false
set_option linter.unusedSimpArgs false
set_option linter.unusedSectionVars false
namespace Go.Sy
open Go Go.RowKit
variable [Globs]

/-! ### a state written out -/
def nlB : Option Blk → Option (Option Blk)
  | some ⟨e, sz, n, el, ro, fu⟩ => some (some ⟨e, sz, n, el, ro, fu⟩)
  | none => some none
def nl : St → Option St
  | [] => some []
  | b :: r => match nlB b, nl r with
    | some b', some r' => some (b' :: r')
    | _, _ => none
omit [Globs] in
theorem nl_spec : ∀ {st l : St}, nl st = some l → st = l
  | [], l, h => by simp [nl] at h; exact h.symm
  | b :: r, l, h => by
    simp only [nl] at h
    split at h
    · rename_i b' r' hb hr
      simp only [Option.some.injEq] at h
      subst h
      rw [nl_spec hr]
      congr 1
      cases b with
      | none => simp [nlB] at hb; exact hb
      | some B => cases B; simp [nlB] at hb; exact hb
    · cases h

/-- A natural number, if a whole number is one by its form. -/
def natI : Int → Option Nat
  | .ofNat n => some n
  | .negSucc _ => none
omit [Globs] in
theorem natI_spec {i : Int} {n : Nat} (h : natI i = some n) : i = (n : Int) := by
  cases i <;> simp [natI] at h; subst h; rfl

omit [Globs] in
theorem o3 {α β γ : Type _} {a a' : α} {b b' : β} {c c' : γ} (h : some (a, b, c) = some (a', b', c')) : a' = a ∧ b' = b ∧ c' = c := by
  injection h with h; injection h with h1 h2; injection h2 with h2 h3; exact ⟨h1.symm, h2.symm, h3.symm⟩
abbrev OX := Option (Prop × PV × St)
def oq (p : Option PV) (st : St) : OX := match p with
  | some v => some (True, v, st)
  | none => none
def on (c : Prop) (v : PV) (st : St) : OX := match nl st with
  | some s => some (c, v, s)
  | none => none
omit [Globs] in
theorem oq_spec {p : Option PV} {st : St} {c : Prop} {pv : PV} {st' : St} (h : oq p st = some (c, pv, st')) : p = some pv ∧ st' = st := by
  cases p with
  | none => cases h
  | some v => obtain ⟨_, rfl, rfl⟩ := o3 h; exact ⟨rfl, rfl⟩
omit [Globs] in
theorem on_spec {c c' : Prop} {v pv : PV} {st st' : St} (h : on c v st = some (c', pv, st')) : c' = c ∧ pv = v ∧ st' = st := by
  unfold on at h
  split at h
  · rename_i s hs
    obtain ⟨rfl, rfl, rfl⟩ := o3 h
    exact ⟨rfl, rfl, (nl_spec hs).symm⟩
  · cases h

section
variable (P : Program) (T : TT) (w : Bool) (E : Operand → PV) (st : St)
/-- Two values by an operator. 'w': numbers may wrap. -/
def oxBin (op : BinOp) (t : TypeId) (x y : Operand) : OX :=
  match E x, E y with
  | .atom (.int k a), .atom (.int k' b) => (match op with
    | .add => bif ikeq k .i64 then bif ikeq k' .i64 then bif w then some (True, .atom (.int .i64 (IntKind.i64.wrap (a + b))), st) else some (-9223372036854775808 ≤ a + b ∧ a + b ≤ 9223372036854775807, .atom (.int .i64 (a + b)), st) else none else oq (xBin T op t (E x) (E y)) st
    | .sub => bif ikeq k .i64 then bif ikeq k' .i64 then bif w then some (True, .atom (.int .i64 (IntKind.i64.wrap (a - b))), st) else some (-9223372036854775808 ≤ a - b ∧ a - b ≤ 9223372036854775807, .atom (.int .i64 (a - b)), st) else none else oq (xBin T op t (E x) (E y)) st
    | .quo => bif ikeq k k' then some (b ≠ 0, .atom (.int k (k.wrap (a.tdiv b))), st) else none
    | .rem => bif ikeq k k' then some (b ≠ 0, .atom (.int k (a.tmod b)), st) else none
    | .shl => some (0 ≤ b, .atom (.int k (k.wrap (a * 2 ^ (min b.toNat k.bits)))), st)
    | .shr => some (0 ≤ b, .atom (.int k (a.fdiv (2 ^ (min b.toNat k.bits)))), st)
    | _ => oq (xBin T op t (E x) (E y)) st)
  | .atom (.string a), .atom (.string b) => (match op with
    | .add => some (a.size + b.size ≤ 9223372036854775807, .atom (.string (a ++ b)), st)
    | _ => oq (xBin T op t (E x) (E y)) st)
  | .agg cs, .agg ds => (match ints cs, ints ds with
    | some xs, some ys => bif Nat.beq ys.length xs.length then bif Nat.beq xs.length (sizeT T t) then (match eqRes op (xs == ys) with
      | some r => some (eqSok P T t = true, .atom (.bool r), st)
      | none => none) else none else none
    | _, _ => none)
  | _, _ => (match y with
    | .const .nilIface => (match T t, xIface (E x), E (.const .nilIface) with
      | some ti, some b, .atom .nilIface => bif isIfaceD ti.d then oq ((xNilOp op b).map fun r => .atom (.bool r)) st else none
      | _, _, _ => none)
    | _ => oq (xBin T op t (E x) (E y)) st)
def oxLoad (t : TypeId) (x : Operand) : OX :=
  match E x with
  | .ptr i k off => (match st.get i with
    | some ⟨_, _, n, el, _, _⟩ => (match readT T t (el k) off with
      | some pv => some (k < n, pv, st)
      | none => none)
    | none => none)
  | .fptr _ _ el k off => oq (readT T t (el k) off) st
  | _ => none
def oxStore (t : TypeId) (a x : Operand) : OX :=
  match T t, E a, boxOf (E x) with
  | some ti, .ptr i k off, some new => (match st.get i with
    | some ⟨e, sz, n, el, ro, fu⟩ => bif ro then none else bif Nat.beq new.length ti.size then bif Nat.ble (off + new.length) sz then
        (bif w then on (k < n) (.atom undef) (st.upd i (some ⟨e, sz, n, fun k' => bif Nat.beq k' k then setL off (el k) new else el k', false, fu⟩))
         else bif Nat.beq k 0 then bif Nat.beq n 1 then on True (.atom undef) (st.upd i (some ⟨e, sz, 1, fun _ => setL off (el 0) new, false, false⟩)) else none else none) else none else none
    | none => none)
  | _, _, _ => none
def oxIx (t : TypeId) (x ix : Operand) : OX :=
  match intOf' (E ix) with
  | none => none
  | some (_, i) => match natI i with
    | none => none
    | some m => match E x with
      | .fz sz n el => (match sliceT T t with
        | some (_, te) => bif Nat.beq te.size sz then some (m < n, .fptr sz n el m 0, st) else none
        | none => none)
      | .slc i0 k0 n => (match sliceT T t, st.get i0 with
        | some (_, te), some B => bif Nat.beq te.size B.sz then some (m < n, .ptr i0 (k0 + m) 0, st) else none
        | _, _ => none)
      | .ptr i0 k0 off => (match T t with
        | some ti => (match ti.d with
          | .array len e => (match T e with
            | some te => some (m < len, .ptr i0 k0 (off + m * te.size), st)
            | none => none)
          | _ => none)
        | none => none)
      | _ => none
def oxApp (t : TypeId) (x y : Operand) : OX :=
  match sliceT T t, srcP st (E y) with
  | some (e, te), some (sz, m, el) => bif Nat.beq sz te.size then bif Nat.beq te.zero.cells.size te.size then bif Nat.blt 0 te.bytes then (match E x with
    | .slc i k0 n => (match st.get i with
      | some ⟨be, bsz, bn, bel, bro, bfu⟩ => bif bro then none else bif Nat.beq be e then bif Nat.beq bsz te.size then
        on (k0 + n ≤ bn ∧ (n + m) * te.bytes ≤ 140737488355328) (.slc st.length 0 (n + m)) (st.upd i none ++ [some ⟨e, te.size, n + m, appEl n (fun j => bel (k0 + j)) el, false, false⟩]) else none else none
      | none => none)
    | p => bif isNilS p then on (m * te.bytes ≤ 140737488355328) (.slc st.length 0 m) (st ++ [some ⟨e, te.size, m, el, false, false⟩]) else none) else none else none else none
  | _, _ => none
def bndI : Option Operand → Int → Option Int
  | none, d => some d
  | some y, _ => match intOf' (E y) with
    | some (_, n) => some n
    | none => none
def oxCut (t : TypeId) (x : Operand) (lo hi : Option Operand) : OX :=
  match E x with
  | .atom (.string s) => (match bndI E lo 0, bndI E hi s.size with
    | some l, some h => bif strT T t then some (0 ≤ l ∧ l ≤ h ∧ h ≤ s.size, .atom (.string (s.extract l.toNat h.toNat)), st) else none
    | _, _ => none)
  | .fz sz n el => (match bndI E lo 0, bndI E hi n, sliceT T t with
    | some l, some h, some (_, te) => bif Nat.beq te.size sz then some (0 ≤ l ∧ l ≤ h ∧ h ≤ n, .fz sz (h.toNat - l.toNat) fun k => el (l.toNat + k), st) else none
    | _, _, _ => none)
  | .slc i0 k0 n => (match bndI E lo 0, bndI E hi n, sliceT T t, st.get i0 with
    | some l, some h, some (_, te), some B => bif Nat.beq te.size B.sz then some (0 ≤ l ∧ l ≤ h ∧ h ≤ n, .slc i0 (k0 + l.toNat) (h.toNat - l.toNat), st) else none
    | _, _, _, _ => none)
  | _ => none
def oxLen (t : TypeId) (x : Operand) : OX :=
  match E x with
  | .atom (.string s) => bif strT T t then some (True, .atom (.int .i64 s.size), st) else none
  | p => (match sliceT T t with
    | some _ => oq (xLen p) st
    | none => none)
def oxConv (s d : TypeId) (x : Operand) : OX := oq (xConv T s d (E x)) st
def opX (o : Op) : OX :=
  match o with
  | .fieldAddr t x f => oq (xFieldAddr T t f (E x)) st
  | .load t x => oxLoad T E st t x
  | .move x => oq (strict (E x)) st
  | .assign x => oq (strict (E x)) st
  | .extract x i => oq (xExtract (E x) i) st
  | .pick c x y => (match boolOf (E c) with
    | some b => oq (strict (bif b then E x else E y)) st
    | none => none)
  | .binOp op t x y _ => oxBin P T w E st op t x y
  | .unOp op _ x => oq (xUn op (E x)) st
  | .convert s d x => oxConv T E st s d x
  | .field t x f => oq (xField T t f (E x)) st
  | .nilCheck x => oq (xNil (E x)) st
  | .indexAddr t x ix => oxIx T E st t x ix
  | .index t x ix => (match E x, intOf' (E ix) with
    | .atom (.string s), some (_, i) => bif strT T t then some (0 ≤ i ∧ i < s.size, .atom (.int .u8 (byteAt s i)), st) else none
    | _, _ => none)
  | .box elem x => (match boxOf (E x) with
    | some cs => on True (.ptr st.length 0 0) (st ++ [some ⟨elem, cs.length, 1, fun _ => cs, false, false⟩])
    | none => none)
  | .alloc elem => (match allocT T elem with
    | some (sz, z) => on True (.ptr st.length 0 0) (st ++ [some ⟨elem, sz, 1, fun _ => z, false, false⟩])
    | none => none)
  | .build t parts => (match buildT T t with
    | some (pl, z) => oq ((fillP (lpl pl) (z.cells.toList.map .atom) (parts.toList.map fun x => (x.1, E x.2))).map .agg) st
    | none => none)
  | .buildSlice t len parts => (match sliceT T t with
    | some (e, te) => bif Nat.beq te.zero.cells.size te.size then bif Nat.blt 0 te.size then bif cellsOk (zeroEls te.zero) then bif Nat.ble (len * te.size) 16777216 then
        (match fillP (fun i => some (i * te.size, te.size)) (zerosN (zeroEls te.zero) len) (parts.toList.map fun x => (x.1, E x.2)) with
        | some cs => bif w then (bif closedL cs then some (True, .fz te.size len (piece te.size cs), st) else none) else on True (.slc st.length 0 len) (st ++ [some ⟨e, te.size, len, piece te.size cs, false, false⟩])
        | none => none) else none else none else none else none
    | none => none)
  | .store t a x => oxStore T w E st t a x
  | .makeFunc (.func g) ⟨[]⟩ cap => some (True, .func g (cap.toList.map E), st)
  | .slice t x lo hi none => oxCut T E st t x lo hi
  | .call { callee := .builtin .len, args := ⟨[x]⟩, argTypes := ⟨[t]⟩ } => oxLen T E st t x
  | .call { callee := .builtin .append, args := ⟨[x, y]⟩, argTypes := ⟨[t, t']⟩ } => bif Nat.beq t t' then oxApp T E st t x y else none
  | .call { callee := .builtin .min, args := args, argTypes := _ } => (match ints (args.toList.map E) with
    | some (x :: l) => some (True, .atom (.int .i64 (lmin x l)), st)
    | _ => none)
  | .call { callee := .builtin .max, args := args, argTypes := _ } => (match ints (args.toList.map E) with
    | some (x :: l) => some (True, .atom (.int .i64 (lmax x l)), st)
    | _ => none)
  | _ => none
end

section
variable {P : Program} {T : TT} {w : Bool} {E : Operand → PV} {st st' : St} {o : Oper} {c : Prop} {pv : PV} {Q : PV → St → Prop}
theorem bndI_spec {lo : Option Operand} {d l : Int} (h : bndI E lo d = some l) : bnd E lo d l := by
  cases lo with
  | none => simp [bndI] at h; exact h.symm
  | some y =>
    simp only [bndI] at h
    split at h
    · rename_i kd n h1
      simp at h; subst h
      exact ⟨kd, intOf'_spec h1⟩
    · cases h
omit [Globs] in
theorem bifN {α : Type} {b : Bool} {x : Option α} {y : α} (h : (bif b then x else none) = some y) : b = true ∧ x = some y := by
  cases b <;> simp at h; exact ⟨rfl, h⟩
theorem oxBin_spec (hT : TOk P T) {op : BinOp} {t t2 : TypeId} {x y : Operand} (ho : o.op = .binOp op t x y t2) (h : oxBin P T w E st op t x y = some (c, pv, st')) (hc : c) (hq : Q pv st') : OpGoes P E st o Q := by
  have gen : ∀ {c : Prop} {pv : PV} {st' : St}, oq (xBin T op t (E x) (E y)) st = some (c, pv, st') → Q pv st' → OpGoes P E st o Q := by
    intro c pv st' h hq
    obtain ⟨h1, rfl⟩ := oq_spec h
    exact G_bin hT ho h1 hq
  unfold oxBin at h
  split at h
  · rename_i k a k' b hx hy
    have ex : intOf' (E x) = some (k, a) := by rw [hx]; rfl
    have ey : intOf' (E y) = some (k', b) := by rw [hy]; rfl
    split at h
    · cases h1 : ikeq k .i64 with
      | true =>
        simp only [h1, cond_true] at h
        obtain ⟨h2, h⟩ := bifN h
        have := ikeq_spec h1; subst this
        have := ikeq_spec h2; subst this
        cases w with
        | true => obtain ⟨rfl, rfl, rfl⟩ := o3 h; exact G_bin hT ho (by rw [hx, hy]; rfl) hq
        | false => obtain ⟨rfl, rfl, rfl⟩ := o3 h; exact G_add64 hT ho ex ey hc.1 hc.2 hq
      | false => simp only [h1, cond_false] at h; exact gen h hq
    · cases h1 : ikeq k .i64 with
      | true =>
        simp only [h1, cond_true] at h
        obtain ⟨h2, h⟩ := bifN h
        have := ikeq_spec h1; subst this
        have := ikeq_spec h2; subst this
        cases w with
        | true => obtain ⟨rfl, rfl, rfl⟩ := o3 h; exact G_bin hT ho (by rw [hx, hy]; rfl) hq
        | false => obtain ⟨rfl, rfl, rfl⟩ := o3 h; exact G_sub64 hT ho ex ey hc.1 hc.2 hq
      | false => simp only [h1, cond_false] at h; exact gen h hq
    · obtain ⟨h1, h5⟩ := bifN h
      obtain rfl := ikeq_spec h1
      obtain ⟨rfl, rfl, rfl⟩ := o3 h5
      exact G_quo ho hx hy hc hq
    · obtain ⟨h1, h5⟩ := bifN h
      obtain rfl := ikeq_spec h1
      obtain ⟨rfl, rfl, rfl⟩ := o3 h5
      exact G_rem ho hx hy hc hq
    · obtain ⟨rfl, rfl, rfl⟩ := o3 h
      exact G_shl ho hx hy hc hq
    · obtain ⟨rfl, rfl, rfl⟩ := o3 h
      exact G_shr ho hx hy hc hq
    · exact gen h hq
  · rename_i a b hx hy
    split at h
    · obtain ⟨rfl, rfl, rfl⟩ := o3 h
      exact G_concat ho hx hy hc hq
    · exact gen h hq
  · rename_i cs ds hx hy
    split at h
    · rename_i xs ys h1 h2
      obtain ⟨g1, h⟩ := bifN h
      obtain ⟨g2, h⟩ := bifN h
      split at h
      · rename_i r hr
        obtain ⟨rfl, rfl, rfl⟩ := o3 h
        exact G_eqS hT ho (by rw [hx]; rfl) (by rw [hy]; rfl) h1 h2 g1 g2 hc hr hq
      · cases h
    · cases h
  · split at h
    · split at h
      · rename_i ti b hti hb hE
        obtain ⟨g1, h⟩ := bifN h
        obtain ⟨h1, rfl⟩ := oq_spec h
        simp only [Option.map_eq_some_iff] at h1
        obtain ⟨r, hr, rfl⟩ := h1
        exact G_ifaceNil hT ho hti g1 hb hE hr hq
      · cases h
    · exact gen h hq
theorem oxLoad_spec (hT : TOk P T) {t : TypeId} {x : Operand} (ho : o.op = .load t x) (h : oxLoad T E st t x = some (c, pv, st')) (hc : c) (hq : Q pv st') : OpGoes P E st o Q := by
  unfold oxLoad at h
  split at h
  · rename_i i k off hx
    split at h
    · rename_i hB
      split at h
      · rename_i pv' hv
        obtain ⟨rfl, rfl, rfl⟩ := o3 h
        exact G_load_own hT ho hx hB hc rfl hv hq
      · cases h
    · cases h
  · rename_i sz n el k off hx
    obtain ⟨h1, rfl⟩ := oq_spec h
    exact G_load hT ho (by unfold xLoad; rw [hx]; exact h1) hq
  · cases h
theorem oxStore_spec (hT : TOk P T) {t : TypeId} {a x : Operand} (ho : o.op = .store t a x) (h : oxStore T w E st t a x = some (c, pv, st')) (hc : c) (hq : Q pv st') : OpGoes P E st o Q := by
  unfold oxStore at h
  split at h
  · rename_i ti i k off new hti ha hx
    split at h
    · rename_i e sz n el ro fu hB
      cases ro with
      | true => simp at h
      | false =>
        simp only [cond_false] at h
        obtain ⟨g1, h⟩ := bifN h
        obtain ⟨g2, h⟩ := bifN h
        have ea : ptrOf (E a) = some (i, k, off) := by rw [ha]; rfl
        cases w with
        | true =>
          simp only [cond_true] at h
          obtain ⟨rfl, rfl, rfl⟩ := on_spec h
          exact G_st hT ho hti ea hB hx (by rw [g1, g2]; rfl) hc hq
        | false =>
          simp only [cond_false] at h
          obtain ⟨g3, h5⟩ := bifN h
          obtain ⟨g4, h6⟩ := bifN h5
          have := Nat.eq_of_beq_eq_true g3; subst this
          obtain ⟨rfl, rfl, rfl⟩ := on_spec h6
          exact G_st1 hT ho hti ea hB hx (by rw [g1, g2, g4]; rfl) hq
    · cases h
  · cases h
theorem oxIx_spec (hT : TOk P T) {t : TypeId} {x ix : Operand} (ho : o.op = .indexAddr t x ix) (h : oxIx T E st t x ix = some (c, pv, st')) (hc : c) (hq : Q pv st') : OpGoes P E st o Q := by
  unfold oxIx at h
  split at h
  · cases h
  · rename_i kd i hi
    split at h
    · cases h
    · rename_i m hm
      have := natI_spec hm; subst this
      split at h
      · rename_i sz n el hx
        split at h
        · rename_i e te hte
          obtain ⟨g1, h⟩ := bifN h
          obtain ⟨rfl, rfl, rfl⟩ := o3 h
          exact G_ixFN hT ho hte (by rw [hx]; rfl) g1 hi hc hq
        · cases h
      · rename_i i0 k0 n hx
        split at h
        · rename_i e te B hte hB
          obtain ⟨g1, h⟩ := bifN h
          obtain ⟨rfl, rfl, rfl⟩ := o3 h
          exact G_ixON hT ho hte (by rw [hx]; rfl) hB g1 hi hc hq
        · cases h
      · rename_i i0 k0 off hx
        split at h
        · rename_i ti hti
          split at h
          · rename_i len e hd
            split at h
            · rename_i te hte
              obtain ⟨rfl, rfl, rfl⟩ := o3 h
              exact G_index_arr hT ho hti hd hte hx (intOf'_spec hi) (by omega) (by omega) (by simpa using hq)
            · cases h
          · cases h
        · cases h
      · cases h
theorem oxApp_spec (hT : TOk P T) {t : TypeId} {x y : Operand} (ho : o.op = .call { callee := .builtin .append, args := #[x, y], argTypes := #[t, t] }) (h : oxApp T E st t x y = some (c, pv, st')) (hc : c) (hq : Q pv st') : OpGoes P E st o Q := by
  unfold oxApp at h
  split at h
  · rename_i e te sz m el hte hy
    obtain ⟨g1, h0⟩ := bifN h
    have := Nat.eq_of_beq_eq_true g1; subst this
    clear h
    obtain ⟨g2, h⟩ := bifN h0
    obtain ⟨g3, h⟩ := bifN h
    split at h
    · rename_i i k0 n hx
      split at h
      · rename_i be bsz bn bel bro bfu hB
        cases bro with
        | true => simp at h
        | false =>
          simp only [cond_false] at h
          obtain ⟨g4, h⟩ := bifN h
          obtain ⟨g5, h⟩ := bifN h
          obtain ⟨rfl, rfl, rfl⟩ := on_spec h
          exact G_appO hT ho hte (by rw [hx]; rfl) hB (by rw [g4, g5, g2, g3]; rfl) hy hc.1 hc.2 hq
      · cases h
    · rename_i p hx
      obtain ⟨g4, h⟩ := bifN h
      obtain ⟨rfl, rfl, rfl⟩ := on_spec h
      exact G_appN hT ho hte g4 (by rw [g2, g3]; rfl) hy hc hq
  · cases h
theorem oxCut_spec (hT : TOk P T) {t : TypeId} {x : Operand} {lo hi : Option Operand} (ho : o.op = .slice t x lo hi none) (h : oxCut T E st t x lo hi = some (c, pv, st')) (hc : c) (hq : Q pv st') : OpGoes P E st o Q := by
  unfold oxCut at h
  split at h
  · rename_i s hx
    split at h
    · rename_i l r hl hr
      obtain ⟨g1, h⟩ := bifN h
      obtain ⟨rfl, rfl, rfl⟩ := o3 h
      exact G_cutS hT ho g1 (by rw [hx]; rfl) (bndI_spec hl) (bndI_spec hr) hc.1 hc.2.1 hc.2.2 hq
    · cases h
  · rename_i sz n el hx
    split at h
    · rename_i l r e te hl hr hte
      obtain ⟨g1, h⟩ := bifN h
      obtain ⟨rfl, rfl, rfl⟩ := o3 h
      obtain ⟨ti, a, b, d⟩ := sliceT_spec hte
      exact G_slice_fz hT ho a b d g1 hx (bndI_spec hl) (bndI_spec hr) hc.1 hc.2.1 hc.2.2 hq
    · cases h
  · rename_i i0 k0 n hx
    split at h
    · rename_i l r e te B hl hr hte hB
      obtain ⟨g1, h⟩ := bifN h
      obtain ⟨rfl, rfl, rfl⟩ := o3 h
      obtain ⟨ti, a, b, d⟩ := sliceT_spec hte
      exact G_slice_own hT ho a b d hx hB g1 (bndI_spec hl) (bndI_spec hr) hc.1 hc.2.1 hc.2.2 hq
    · cases h
  · cases h
theorem oxLen_spec (hT : TOk P T) {t : TypeId} {x : Operand} (ho : o.op = .call { callee := .builtin .len, args := #[x], argTypes := #[t] }) (h : oxLen T E st t x = some (c, pv, st')) (hc : c) (hq : Q pv st') : OpGoes P E st o Q := by
  unfold oxLen at h
  split at h
  · rename_i s hx
    obtain ⟨g1, h⟩ := bifN h
    obtain ⟨rfl, rfl, rfl⟩ := o3 h
    exact G_lenT hT ho g1 (by rw [hx]; rfl) hq
  · split at h
    · rename_i e hte
      obtain ⟨h1, rfl⟩ := oq_spec h
      obtain ⟨e, te⟩ := e
      exact G_lenS hT ho hte h1 hq
    · cases h
theorem opX_spec (hT : TOk P T) (h : opX P T w E st o.op = some (c, pv, st')) (hc : c) (hq : Q pv st') : OpGoes P E st o Q := by
  generalize ho : o.op = op at h
  unfold opX at h
  split at h
  · obtain ⟨h1, rfl⟩ := oq_spec h; exact G_fieldAddr hT ho h1 hq
  · exact oxLoad_spec hT ho h hc hq
  · obtain ⟨h1, rfl⟩ := oq_spec h; exact G_move ho h1 hq
  · obtain ⟨h1, rfl⟩ := oq_spec h; exact G_assign ho h1 hq
  · obtain ⟨h1, rfl⟩ := oq_spec h; exact G_extract ho h1 hq
  · split at h
    · rename_i b hb
      obtain ⟨h1, rfl⟩ := oq_spec h; exact G_pick' ho hb h1 hq
    · cases h
  · exact oxBin_spec hT ho h hc hq
  · obtain ⟨h1, rfl⟩ := oq_spec h; exact G_un ho h1 hq
  · obtain ⟨h1, rfl⟩ := oq_spec h; exact G_conv hT ho h1 hq
  · obtain ⟨h1, rfl⟩ := oq_spec h; exact G_field hT ho h1 hq
  · obtain ⟨h1, rfl⟩ := oq_spec h; exact G_nilCheck ho h1 hq
  · exact oxIx_spec hT ho h hc hq
  · split at h
    · rename_i s kd i hx hi
      obtain ⟨g1, h⟩ := bifN h
      obtain ⟨rfl, rfl, rfl⟩ := o3 h
      exact G_ixS hT ho g1 (by rw [hx]; rfl) hi hc.1 hc.2 hq
    · cases h
  · split at h
    · rename_i cs hcs
      obtain ⟨rfl, rfl, rfl⟩ := on_spec h
      exact G_box' ho hcs hq
    · cases h
  · split at h
    · rename_i sz z hz
      obtain ⟨rfl, rfl, rfl⟩ := on_spec h
      exact G_alloc' hT ho hz hq
    · cases h
  · split at h
    · rename_i pl z hz
      obtain ⟨h1, rfl⟩ := oq_spec h
      simp only [Option.map_eq_some_iff] at h1
      obtain ⟨r, hr, rfl⟩ := h1
      exact G_lit hT ho hz hr hq
    · cases h
  · split at h
    · rename_i e te hte
      obtain ⟨g1, h⟩ := bifN h
      obtain ⟨g2, h⟩ := bifN h
      obtain ⟨g3, h⟩ := bifN h
      obtain ⟨g4, h⟩ := bifN h
      split at h
      · rename_i cs hcs
        cases w with
        | true =>
          simp only [cond_true] at h
          obtain ⟨g5, h⟩ := bifN h
          obtain ⟨rfl, rfl, rfl⟩ := o3 h
          exact G_litF hT ho hte (by rw [g1, g2, g3, g4]; rfl) hcs g5 hq
        | false =>
          simp only [cond_false] at h
          obtain ⟨rfl, rfl, rfl⟩ := on_spec h
          exact G_litS hT ho hte (by rw [g1, g2, g3, g4]; rfl) hcs hq
      · cases h
    · cases h
  · exact oxStore_spec hT ho h hc hq
  · obtain ⟨rfl, rfl, rfl⟩ := o3 h
    exact G_makeFunc ho hq
  · exact oxCut_spec hT ho h hc hq
  · exact oxLen_spec hT ho h hc hq
  · obtain ⟨g1, h0⟩ := bifN h
    have := Nat.eq_of_beq_eq_true g1; subst this
    clear h
    have h := h0
    exact oxApp_spec hT ho h hc hq
  · split at h
    · rename_i x l hl
      obtain ⟨rfl, rfl, rfl⟩ := o3 h
      exact G_min ho hl hq
    · cases h
  · split at h
    · rename_i x l hl
      obtain ⟨rfl, rfl, rfl⟩ := o3 h
      exact G_max ho hl hq
    · cases h
  · cases h
end
end Go.Sy
end
