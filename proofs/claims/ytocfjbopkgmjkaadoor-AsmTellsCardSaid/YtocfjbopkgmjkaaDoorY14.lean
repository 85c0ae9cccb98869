/- Regions that draw their order: a quicker look. -/
import Derived.Test.YtocfjbopkgmjkaaDoorY13
set_option linter.unusedVariables false
set_option linter.unusedSimpArgs false
set_option linter.unusedSectionVars false
namespace Go.Sy
open Go Go.RowKit
variable [Globs]

structure DI where
  dst : Option Nat
  looks : List Nat
  ons : List Nat
  loud : Bool
def loudO (o : Oper) : Bool := match o.op with
  | .store _ _ _ => true
  | .call { callee := .builtin .append, .. } => true
  | .alloc _ => true
  | .box _ _ => true
  | _ => false
def onsOf : List Edge → List Nat
  | [] => []
  | e :: l => bif Region.binds .any e then e.on :: onsOf l else onsOf l
def infoO (ops : Array Oper) (o : Oper) : DI := ⟨o.dst, o.looksAt ops, onsOf o.after.toList, loudO o⟩
def apartI (x y : DI) : Bool :=
  (match x.dst with
    | some d => (bif lmem d y.looks then false else match y.dst with | some e => bif Nat.beq d e then false else true | none => true)
    | none => true) && (match y.dst with
    | some d => bif lmem d x.looks then false else true
    | none => true)
def ltAll (k : Nat) : List Nat → Bool
  | [] => true
  | a :: l => bif Nat.blt a k then ltAll k l else false
def geAny (k : Nat) : List Nat → Bool
  | [] => false
  | a :: l => bif Nat.ble k a then true else geAny k l
def laterB (x : DI) (k : Nat) : List DI → Bool
  | [] => true
  | y :: r => (bif x.loud then geAny k y.ons else bif lmem k y.ons then true else bif y.loud then false else apartI x y) && laterB x k r
def fastG : Nat → List DI → Bool
  | _, [] => true
  | k, x :: r => ltAll k x.ons && laterB x k r && fastG (k + 1) r

theorem ltAll_spec {k : Nat} : ∀ {l : List Nat}, ltAll k l = true → ∀ a ∈ l, a < k
  | [], _, a, ha => by simp at ha
  | b :: l, h, a, ha => by
    unfold ltAll at h
    cases hb : Nat.blt b k with
    | false => simp [hb] at h
    | true =>
      simp only [hb, cond_true] at h
      rcases List.mem_cons.1 ha with rfl | ha
      · simpa [Nat.blt_eq] using hb
      · exact ltAll_spec h a ha
theorem geAny_spec {k : Nat} : ∀ {l : List Nat}, geAny k l = true → ∃ a ∈ l, k ≤ a
  | [], h => by cases h
  | b :: l, h => by
    unfold geAny at h
    cases hb : Nat.ble k b with
    | true => exact ⟨b, by simp, Nat.le_of_ble_eq_true hb⟩
    | false =>
      simp only [hb, cond_false] at h
      obtain ⟨a, ha, hk⟩ := geAny_spec h
      exact ⟨a, by simp [ha], hk⟩
theorem onsOf_mem {l : List Edge} {a : Nat} : a ∈ onsOf l ↔ ∃ e ∈ l, Region.binds .any e = true ∧ e.on = a := by
  induction l with
  | nil => simp [onsOf]
  | cons e l ih =>
    unfold onsOf
    cases hb : Region.binds .any e with
    | true => simp [ih, hb]; constructor <;> (rintro (h | h); exact .inl h.symm; exact .inr h)
    | false => simp [ih, hb]
theorem laterB_spec {x : DI} {k : Nat} : ∀ {r : List DI}, laterB x k r = true → ∀ y ∈ r, (if x.loud then geAny k y.ons = true else (lmem k y.ons = true ∨ (y.loud = false ∧ apartI x y = true)))
  | [], _, y, hy => by simp at hy
  | z :: r, h, y, hy => by
    unfold laterB at h
    simp only [Bool.and_eq_true] at h
    rcases List.mem_cons.1 hy with rfl | hy
    · have h1 := h.1
      cases hx : x.loud with
      | true => simpa [hx] using h1
      | false =>
        simp only [hx, cond_false] at h1
        cases hk : lmem k y.ons with
        | true => simp
        | false =>
          simp only [hk, cond_false] at h1
          cases hy : y.loud with
          | true => simp [hy] at h1
          | false => simpa [hy] using h1
    · exact laterB_spec h.2 y hy
theorem apartI_spec {ops : Array Oper} {x y : Oper} (h : apartI (infoO ops x) (infoO ops y) = true) : x.apart ops y = true := by
  unfold apartI infoO at h
  unfold Oper.apart
  simp only [Bool.and_eq_true] at h ⊢
  obtain ⟨h1, h2⟩ := h
  constructor
  · cases hx : x.dst with
    | none => rfl
    | some d =>
      simp only [hx] at h1 ⊢
      cases hm : lmem d (y.looksAt ops) with
      | true => simp [hm] at h1
      | false =>
        simp only [hm, cond_false] at h1
        have hn : d ∉ y.looksAt ops := fun hd => by rw [(lmem_eq _ _).2 hd] at hm; cases hm
        simp only [Bool.and_eq_true, Bool.not_eq_true', bne_iff_ne, ne_eq]
        refine ⟨by simpa using hn, ?_⟩
        cases hy : y.dst with
        | none => simp
        | some e =>
          simp only [hy] at h1
          cases hb : Nat.beq d e with
          | true => simp [hb] at h1
          | false =>
            intro he
            cases he
            simp at hb
  · cases hy : y.dst with
    | none => rfl
    | some d =>
      simp only [hy] at h2 ⊢
      cases hm : lmem d (x.looksAt ops) with
      | true => simp [hm] at h2
      | false =>
        have hn : d ∉ x.looksAt ops := fun hd => by rw [(lmem_eq _ _).2 hd] at hm; cases hm
        simpa using hn
theorem stores_mem : ∀ (l : List Oper) (j k : Nat), lmem k (stores j l) = true ↔ ∃ i o, l[i]? = some o ∧ loudO o = true ∧ k = j + i
  | [], j, k => by simp [stores, lmem]
  | o :: l, j, k => by
    have ih := stores_mem l (j + 1) k
    have e : stores j (o :: l) = if loudO o then j :: stores (j + 1) l else stores (j + 1) l := by
      unfold loudO
      conv => lhs; unfold stores
      split <;> simp_all
    rw [e]
    cases hl : loudO o with
    | true =>
      simp only [if_true]
      unfold lmem
      constructor
      · intro h
        cases hk : Nat.beq k j with
        | true => exact ⟨0, o, rfl, hl, by rw [Nat.eq_of_beq_eq_true hk]; rfl⟩
        | false =>
          simp only [hk, cond_false] at h
          obtain ⟨i, p, hp, hq, hr⟩ := ih.1 h
          exact ⟨i + 1, p, by simpa using hp, hq, by omega⟩
      · rintro ⟨i, p, hp, hq, hr⟩
        cases i with
        | zero => have : k = j := by omega
                  subst this; simp
        | succ i =>
          rw [ih.2 ⟨i, p, by simpa using hp, hq, by omega⟩]
          cases Nat.beq k j <;> rfl
    | false =>
      simp only [Bool.false_eq_true, if_false]
      rw [ih]
      constructor
      · rintro ⟨i, p, hp, hq, hr⟩
        exact ⟨i + 1, p, by simpa using hp, hq, by omega⟩
      · rintro ⟨i, p, hp, hq, hr⟩
        cases i with
        | zero => simp at hp; subst hp; rw [hl] at hq; cases hq
        | succ i => exact ⟨i, p, by simpa using hp, hq, by omega⟩
theorem loud_at {l : List Oper} {k : Nat} {o : Oper} (h : l[k]? = some o) : lmem k (stores 0 l) = loudO o := by
  cases hl : loudO o with
  | true => exact (stores_mem l 0 k).2 ⟨k, o, h, hl, by omega⟩
  | false =>
    rw [Bool.eq_false_iff]
    intro hm
    obtain ⟨i, p, hp, hq, hr⟩ := (stores_mem l 0 k).1 hm
    have : i = k := by omega
    subst this
    rw [h] at hp
    cases hp
    rw [hl] at hq
    cases hq
theorem filter_one {n k : Nat} {p : Nat → Bool} (hk : k < n) (h : ∀ i, i < n → (p i = true ↔ i = k)) : (List.range n).filter p = [k] := by
  have e : (List.range n).filter p = (List.range n).filter (· == k) := by
    apply List.filter_congr
    intro i hi
    rw [Bool.eq_iff_iff, h i (List.mem_range.1 hi)]
    simp
  rw [e, List.filter_beq, List.Nodup.count List.nodup_range, if_pos (List.mem_range.2 hk)]
  rfl
theorem fastG_lex (l : List Oper) : ∀ (m k : Nat) (listed : Array Bool), m + k = l.length → listed.size = l.length → (∀ i, i < l.length → listed[i]? = some (decide (i < k))) →
    fastG k ((l.drop k).map (infoO l.toArray)) = true → lexG .any l.toArray (stores 0 l) m k listed = true := by
  intro m
  induction m with
  | zero =>
    intro k listed hk hsz hl _
    unfold lexG
    have : Region.ready .any l.toArray listed = [] := by
      unfold Region.ready
      rw [List.filter_eq_nil_iff]
      intro i hi
      have hi : i < l.length := by simpa using hi
      have h1 := hl i hi
      rw [Array.getD_eq_getD_getElem?, h1]
      simp [show i < k by omega]
    rw [this]
    rfl
  | succ m ih =>
    intro k listed hk hsz hl hf
    have hkl : k < l.length := by omega
    rw [List.drop_eq_getElem_cons hkl, List.map_cons] at hf
    unfold fastG at hf
    simp only [Bool.and_eq_true] at hf
    obtain ⟨⟨h1, h2⟩, h3⟩ := hf
    have h1 := ltAll_spec h1
    have h2 := laterB_spec h2
    have hok : l[k]? = some l[k] := List.getElem?_eq_getElem hkl
    have gT : ∀ i, i < l.length → listed.getD i true = decide (i < k) := fun i hi => by rw [Array.getD_eq_getD_getElem?, hl i hi]; rfl
    have gF : ∀ i, listed.getD i false = true ↔ i < k ∧ i < l.length := by
      intro i
      rcases Nat.lt_or_ge i l.length with hi | hi
      · rw [Array.getD_eq_getD_getElem?, hl i hi]; simp [hi]
      · rw [Array.getD_eq_getD_getElem?, Array.getElem?_eq_none (by omega)]
        simp
        omega
    have hready : ∀ i o, l[i]? = some o → i < l.length → ((!listed.getD i true && ((l.toArray[i]?).map (·.after.all fun e => !Region.binds .any e || listed.getD e.on false)).getD false) = true ↔ k ≤ i ∧ ∀ a ∈ onsOf o.after.toList, a < k ∧ a < l.length) := by
      intro i o ho hi
      rw [gT i hi]
      simp only [List.getElem?_toArray, ho, Option.map_some, Option.getD_some, Bool.and_eq_true, Bool.not_eq_true', decide_eq_false_iff_not, Nat.not_lt]
      refine and_congr Iff.rfl ?_
      rw [← Array.all_toList, List.all_eq_true]
      constructor
      · intro h a ha
        obtain ⟨e, he, hb, rfl⟩ := onsOf_mem.1 ha
        have := h e he
        simp only [hb, Bool.not_true, Bool.false_or] at this
        exact (gF _).1 this
      · intro h e he
        cases hb : Region.binds .any e with
        | false => rfl
        | true =>
          simp only [Bool.not_true, Bool.false_or]
          exact (gF _).2 (h e.on (onsOf_mem.2 ⟨e, he, hb, rfl⟩))
    unfold lexG
    rw [Bool.and_eq_true]
    constructor
    · rw [loud_at hok]
      have hmem : k ∈ Region.ready .any l.toArray listed := by
        unfold Region.ready
        rw [List.mem_filter]
        refine ⟨by simpa using hkl, (hready k _ hok hkl).2 ⟨Nat.le_refl _, fun a ha => ?_⟩⟩
        have := h1 a ha
        omega
      have later : ∀ j o, l[j]? = some o → k < j → infoO l.toArray o ∈ (l.drop (k + 1)).map (infoO l.toArray) := by
        intro j o ho hj
        refine List.mem_map.2 ⟨o, ?_, rfl⟩
        refine List.mem_iff_getElem?.2 ⟨j - (k + 1), ?_⟩
        rw [List.getElem?_drop, show k + 1 + (j - (k + 1)) = j by omega]
        exact ho
      cases hlo : loudO l[k] with
      | true =>
        simp only [cond_true, beq_iff_eq]
        unfold Region.ready
        rw [show l.toArray.size = l.length by simp]
        refine filter_one hkl (fun i hi => ?_)
        have hio : l[i]? = some l[i] := List.getElem?_eq_getElem hi
        rw [hready i _ hio hi]
        constructor
        · rintro ⟨hki, ha⟩
          rcases Nat.lt_or_ge k i with hlt | hge
          · have := h2 _ (later i _ hio hlt)
            rw [show (infoO l.toArray l[k]).loud = true from hlo, if_pos rfl] at this
            obtain ⟨a, ham, hak⟩ := geAny_spec this
            have := (ha a ham).1
            omega
          · omega
        · rintro rfl
          refine ⟨Nat.le_refl _, fun a ha => ?_⟩
          have := h1 a ha
          omega
      | false =>
        simp only [cond_false, Bool.and_eq_true]
        refine ⟨by simpa using hmem, ?_⟩
        unfold freeG
        simp only [List.getElem?_toArray, hok, List.all_eq_true, List.mem_range]
        intro j hj
        have hj : j < l.length := by simpa using hj
        have hjo : l[j]? = some l[j] := List.getElem?_eq_getElem hj
        rw [gT j hj]
        simp only [hjo, Bool.or_eq_true, beq_iff_eq, decide_eq_true_eq, Bool.and_eq_true, Bool.not_eq_true']
        rcases Nat.lt_trichotomy j k with h | h | h
        · exact .inl (.inr h)
        · exact .inl (.inl h)
        · refine .inr ?_
          have := h2 _ (later j _ hjo h)
          rw [show (infoO l.toArray l[k]).loud = false from hlo, if_neg (by simp)] at this
          rcases this with this | ⟨ha, hb⟩
          · left
            obtain ⟨e, he, hb, hon⟩ := onsOf_mem.1 ((lmem_eq _ _).1 this)
            rw [← Array.any_toList, List.any_eq_true]
            exact ⟨e, he, by simp [hb, hon]⟩
          · right
            exact ⟨apartI_spec hb, by rw [loud_at hjo]; exact ha⟩
    · refine ih (k + 1) _ (by omega) (by simpa using hsz) (fun i hi => ?_) h3
      rw [Array.getElem?_setIfInBounds]
      by_cases hik : k = i
      · subst hik
        rw [if_pos rfl, if_pos (by omega)]
        simp
      · rw [if_neg hik, hl i hi]
        congr 1
        rw [decide_eq_decide]
        omega
section
variable {P : Program} {f : FuncId} {fn : Func} {n0 : Nat} {Q : PV → St → Prop} {k : List Item} {env : Env} {st : St}
theorem Run.drwF {id : Nat} {l : List Oper} (hm : P.follows .mixedOrders = true) (hB : fastG 0 (l.map (infoO l.toArray)) = true)
    (h : Walk P l.toArray (stores 0 l) fn.ntmps (fun env' st' => Run P f fn n0 Q k env' st') 0 l env st) : Run P f fn n0 Q (.code (.region id l.toArray true) :: k) env st := by
  refine Run.drw hm ?_ h
  have := fastG_lex l l.length 0 (Array.replicate l.length false) (by omega) (by simp) (fun i hi => by simp [hi]) (by simpa using hB)
  simpa using this
end
end Go.Sy
namespace Go.Sy
open Go
section
variable [Globs]
variable {P : Program} {f : FuncId} {fn : Func} {n0 : Nat} {Q : PV → St → Prop} {k : List Item} {env : Env} {st : St} {ops : Array Oper} {rest : List Oper} {lo : List Nat} {nt m : Nat} {R : Env → St → Prop}
theorem Run.nst {l : St} (h : st = l) (hr : Run P f fn n0 Q k env l) : Run P f fn n0 Q k env st := h ▸ hr
theorem RunL.nst {l : St} (h : st = l) (hr : RunL P f fn n0 Q ops rest k env l) : RunL P f fn n0 Q ops rest k env st := h ▸ hr
theorem Walk.nst {l : St} (h : st = l) (hr : Walk P ops lo nt R m rest env l) : Walk P ops lo nt R m rest env st := h ▸ hr
theorem Walk.lit (b : Bool) {o : Oper} {d : Nat} (hg : guardOf ops env o = some (d, b)) (h : Walk P ops lo nt R m (o :: rest) env st) : Walk P ops lo nt R m (o :: rest) env st := h
theorem RunL.lit (b : Bool) {o : Oper} {d : Nat} (hg : guardOf ops env o = some (d, b)) (h : RunL P f fn n0 Q ops (o :: rest) k env st) : RunL P f fn n0 Q ops (o :: rest) k env st := h
end
end Go.Sy
