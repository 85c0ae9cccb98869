/- Texts merged: Y25, Y29, Y16, Y17. -/
import Derived.Test.YtffckdfcmdmnoaaDoorM11
section
/- Regions that draw their order, listed in an order of one's own: what leaves the state alone may come before what changes it, or behind. -/
set_option linter.unusedVariables false
set_option linter.unusedSimpArgs false
set_option linter.unusedSectionVars false
namespace Go.Sy
open Go Go.RowKit
variable [Globs]
section
variable {P : Program} {ops : Array Oper} {nt : Nat} {st : St}

/-- In this state the operation leaves behind what stands there already. -/
def Stay (P : Program) (ops : Array Oper) (st : St) (nt : Nat) (o : Oper) (env : Env) : Prop := ∃ pv, Leaves P ops st nt o pv env ∧ env.put o.dst pv = env
def StayL (P : Program) (ops : Array Oper) (st : St) (nt : Nat) : List Nat → Env → Prop
  | [], _ => True
  | i :: l, env => (match ops[i]? with | some o => Stay P ops st nt o env | none => True) ∧ StayL P ops st nt l env
theorem StayL.at {env : Env} : ∀ {l : List Nat}, StayL P ops st nt l env → ∀ i ∈ l, ∀ o, ops[i]? = some o → Stay P ops st nt o env
  | [], _, i, hi => by cases hi
  | j :: l, h, i, hi => by
    rcases List.mem_cons.1 hi with rfl | hi
    · intro o ho
      have := h.1
      rw [ho] at this
      exact this
    · exact h.2.at i hi
/-- none: it leaves the state alone; some: it may change it, and these may come behind it, too. -/
def WalkM (P : Program) (ops : Array Oper) (nt : Nat) (R : Env → St → Prop) : List (Option (List Nat)) → List Oper → Env → St → Prop
  | [], [], env, st => R env st
  | none :: ms, o :: l, env, st => ∃ pv, Leaves P ops st nt o pv env ∧ WalkM P ops nt R ms l (env.put o.dst pv) st
  | some pend :: ms, o :: l, env, st => dstOk nt o.dst = true ∧ ((wants ops env o = some true ∧ OpGoes P (Env.only (o.looksAt ops) env).ev st o fun q st' => StayL P ops st' nt pend (env.put o.dst q) ∧ WalkM P ops nt R ms l (env.put o.dst q) st') ∨
      (wants ops env o = some false ∧ WalkM P ops nt R ms l (env.put o.dst (.atom undef)) st))
  | _, _, _, _ => False
end
def anyL (f : Nat → Bool) : List Nat → Bool
  | [] => false
  | a :: l => bif f a then true else anyL f l
theorem anyL_spec {f : Nat → Bool} : ∀ {l : List Nat}, anyL f l = true ↔ ∃ a ∈ l, f a = true
  | [] => by simp [anyL]
  | a :: l => by
    unfold anyL
    cases h : f a with
    | true => simp [h]
    | false => simp [h, anyL_spec (l := l)]
def onsP : List Edge → List Nat
  | [] => []
  | e :: l => bif Region.binds .any e then e.on :: onsP l else onsP l
theorem onsP_mem {l : List Edge} {a : Nat} : a ∈ onsP l ↔ ∃ e ∈ l, Region.binds .any e = true ∧ e.on = a := by
  induction l with
  | nil => simp [onsP]
  | cons e l ih =>
    unfold onsP
    cases hb : Region.binds .any e with
    | true => simp [ih, hb]; constructor <;> (rintro (h | h); exact .inl h.symm; exact .inr h)
    | false => simp [ih, hb]
/-- The places behind i, by themselves or by way of others. -/
def lateP (i : Nat) : Nat → List Oper → List Nat → List Nat
  | _, [], acc => acc
  | j, o :: l, acc => lateP i (j + 1) l (bif anyL (fun a => Nat.beq a i || lmem a acc) (onsP o.after.toList) then j :: acc else acc)
theorem lateP_mono {i : Nat} : ∀ (l : List Oper) (j : Nat) (acc : List Nat) (x : Nat), x ∈ acc → x ∈ lateP i j l acc
  | [], _, _, _, h => h
  | o :: l, j, acc, x, hx => by
    unfold lateP
    apply lateP_mono l
    cases anyL (fun a => Nat.beq a i || lmem a acc) (onsP o.after.toList) with
    | true => simp [hx]
    | false => exact hx
theorem lateP_spec {i : Nat} : ∀ (l : List Oper) (j : Nat) (acc : List Nat) (k : Nat), k ∈ lateP i j l acc → k ∈ acc ∨ ∃ t o, l[t]? = some o ∧ k = j + t ∧ ∃ e ∈ o.after, Region.binds .any e = true ∧ (e.on = i ∨ e.on ∈ lateP i j l acc)
  | [], j, acc, k, h => .inl h
  | o :: l, j, acc, k, h => by
    unfold lateP at h ⊢
    rcases lateP_spec l (j + 1) _ k h with h1 | ⟨t, o', h1, h2, h3⟩
    · cases hb : anyL (fun a => Nat.beq a i || lmem a acc) (onsP o.after.toList) with
      | false => rw [hb] at h1; exact .inl h1
      | true =>
        rw [hb] at h1
        simp only [cond_true, List.mem_cons] at h1
        rcases h1 with rfl | h1
        · refine .inr ⟨0, o, rfl, rfl, ?_⟩
          obtain ⟨a, ha, hor⟩ := anyL_spec.1 hb
          obtain ⟨e, he, hbd, hon⟩ := onsP_mem.1 ha
          simp only [Bool.or_eq_true] at hor
          refine ⟨e, Array.mem_toList_iff.1 he, hbd, ?_⟩
          rcases hor with hor | hor
          · exact .inl (hon.trans (Nat.eq_of_beq_eq_true hor))
          · exact .inr (lateP_mono _ _ _ _ (List.mem_cons_of_mem _ (hon ▸ (lmem_eq _ _).1 hor)))
        · exact .inl h1
    · exact .inr ⟨t + 1, o', by simpa using h1, by omega, h3⟩
abbrev late (ops : Array Oper) (i : Nat) : List Nat := lateP i 0 ops.toList []
theorem late_spec {ops : Array Oper} {i k : Nat} (h : lmem k (late ops i) = true) : ∃ o, ops[k]? = some o ∧ ∃ e ∈ o.after, Region.binds .any e = true ∧ (e.on = i ∨ lmem e.on (late ops i) = true) := by
  rcases lateP_spec _ _ _ _ ((lmem_eq _ _).1 h) with h | ⟨t, o, h1, h2, e, he, hb, hor⟩
  · cases h
  · rw [Nat.zero_add] at h2
    subst h2
    rw [Array.getElem?_toList] at h1
    exact ⟨o, h1, e, he, hb, hor.imp id fun h => (lmem_eq _ _).2 h⟩

def sepP (ops : Array Oper) (o i : Oper) : Bool := match o.dst with
  | some d => !(lmem d (i.looksAt ops)) && i.dst != some d
  | none => true
theorem sepP_spec {ops : Array Oper} {o i : Oper} (h : sepP ops o i = true) : (∀ d, o.dst = some d → d ∉ i.looksAt ops) ∧ ∀ d, o.dst = some d → i.dst ≠ some d := by
  unfold sepP at h
  refine ⟨fun d hd hm => ?_, fun d hd he => ?_⟩ <;> rw [hd] at h <;> simp only [Bool.and_eq_true, Bool.not_eq_true', bne_iff_ne, ne_eq] at h
  · rw [(lmem_eq _ _).2 hm] at h; simp at h
  · exact h.2 he
def selfP (ops : Array Oper) (o : Oper) : Bool := match o.dst with
  | some d => !(lmem d (o.looksAt ops))
  | none => true
def lookP (ops : Array Oper) (o i : Oper) : Bool := match o.dst with
  | some d => !(lmem d (i.looksAt ops))
  | none => true
theorem lookP_spec {ops : Array Oper} {o i : Oper} (h : lookP ops o i = true) : ∀ d, o.dst = some d → d ∉ i.looksAt ops := by
  unfold lookP at h
  intro d hd hm
  rw [hd] at h; simp [(lmem_eq _ _).2 hm] at h
def allI (n : Nat) (f : Nat → Bool) : Bool := (List.range n).all f
def sepL (ops : Array Oper) (o : Oper) : List Nat → Bool
  | [] => true
  | i :: l => (match ops[i]? with | some oi => sepP ops o oi | none => false) && sepL ops o l
theorem sepL_spec {ops : Array Oper} {o : Oper} : ∀ {l : List Nat}, sepL ops o l = true → ∀ i ∈ l, ∀ oi, ops[i]? = some oi → sepP ops o oi = true
  | [], _, i, hi => by cases hi
  | j :: l, h, i, hi => fun oi ho => by
    unfold sepL at h
    simp only [Bool.and_eq_true] at h
    rcases List.mem_cons.1 hi with rfl | hi
    · rw [ho] at h; exact h.1
    · exact sepL_spec h.2 i hi oi ho
def stayF (ops : Array Oper) (k : Nat) (wq : List Nat) : List Nat := wq.filter fun i => !lmem k (late ops i)
/-- The listing fits. -/
def okP (ops : Array Oper) (lo : List Nat) : List Nat → List Nat → Array Bool → Bool
  | [], _, W => (Region.ready .any ops W).isEmpty
  | k :: π, wq, W => match ops[k]? with
    | none => false
    | some o => Nat.blt k W.size && (Region.ready .any ops W).contains k && o.after.all (fun e => !Region.binds .any e || Nat.blt e.on k) &&
      bif lmem k lo then Region.ready .any ops W == [k] && sepL ops o (stayF ops k wq) && okP ops lo π (stayF ops k wq) (W.setIfInBounds k true)
      else sepL ops o wq && selfP ops o && (late ops k).all (fun j => !W.getD j false) && allI ops.size (fun j => Nat.beq j k || W.getD j true || lmem j (late ops k) || (match ops[j]? with | some oj => lookP ops o oj | none => true)) && okP ops lo π (k :: wq) (W.setIfInBounds k true)
def msP (ops : Array Oper) (lo : List Nat) : List Nat → List Nat → List (Option (List Nat))
  | [], _ => []
  | k :: π, wq => bif lmem k lo then some (stayF ops k wq) :: msP ops lo π (stayF ops k wq) else none :: msP ops lo π (k :: wq)
def lsP (ops : Array Oper) : List Nat → List Oper
  | [] => []
  | k :: π => match ops[k]? with
    | some o => o :: lsP ops π
    | none => []

section
variable {P : Program} {ops : Array Oper} {nt : Nat} {st : St}
theorem only_congr {l : List Nat} {a b : Env} (h : ∀ t ∈ l, a t = b t) : Env.only l a = Env.only l b := by
  funext t
  unfold Env.only
  cases hm : lmem t l with
  | true => exact h t ((lmem_eq _ _).1 hm)
  | false => rfl
theorem wants_congr {o : Oper} {a b : Env} (h : ∀ t ∈ o.looksAt ops, a t = b t) : wants ops a o = wants ops b o := by
  unfold wants
  cases hg : o.guard with
  | none => rfl
  | some jw =>
    obtain ⟨j, want⟩ := jw
    simp only
    cases hd : (ops[j]?).bind (·.dst) with
    | none => rfl
    | some e =>
      simp only
      rw [h e (by unfold Oper.looksAt; simp [hg, hd])]
theorem Leaves.congr {o : Oper} {pv : PV} {a b : Env} (h : ∀ t ∈ o.looksAt ops, a t = b t) (hl : Leaves P ops st nt o pv a) : Leaves P ops st nt o pv b := by
  unfold Leaves at *
  rw [← wants_congr h, ← only_congr h]; exact hl
theorem put_at (env : Env) (d t : Nat) (p : PV) : env.put (some d) p t = if t = d then p else env t := by
  show (bif Nat.beq t d then p else env t) = _
  by_cases h : t = d
  · subst h; simp
  · have : Nat.beq t d = false := by rw [Bool.eq_false_iff]; intro hh; exact h (Nat.eq_of_beq_eq_true hh)
    rw [this, if_neg h]; rfl
theorem put_ne {env : Env} {o : Option Nat} {t : Nat} {p : PV} (h : o ≠ some t) : env.put o p t = env t := by
  cases o with
  | none => rfl
  | some d => rw [put_at, if_neg (fun e => h (by rw [e]))]
theorem OpGoes.widen {E E' : Operand → PV} {o : Oper} {R : PV → St → Prop} (h : ∀ x, E x = .any ∨ E x = E' x) (hh : OpGoes P E st o R) : OpGoes P E' st o R := by
  intro K σ w ρ hR hE
  refine hh K σ w ρ hR (fun x => ?_)
  rcases h x with h | h
  · rw [h]; exact .any _
  · rw [h]; exact hE x
theorem only_ev {l : List Nat} {a b : Env} (h : ∀ t ∈ l, a t = b t) (x : Operand) : (Env.only l a).ev x = .any ∨ (Env.only l a).ev x = b.ev x := by
  cases x with
  | tmp t =>
    show Env.only l a t = .any ∨ Env.only l a t = b t
    unfold Env.only
    cases hm : lmem t l with
    | true => exact .inr (h t ((lmem_eq _ _).1 hm))
    | false => exact .inl rfl
  | const v => exact .inr rfl
  | global g => exact .inr rfl
  | func f => exact .inr rfl
theorem Stay.put {o x : Oper} {env : Env} {pv : PV} (h : Stay P ops st nt x env) (hs : sepP ops o x = true) : Stay P ops st nt x (env.put o.dst pv) := by
  obtain ⟨h1, h2⟩ := sepP_spec hs
  obtain ⟨p, hl, he⟩ := h
  refine ⟨p, hl.put h1, ?_⟩
  rw [← Env.put_comm env p pv (fun d hd => fun ho => h2 d ho hd), he]

/-- What has been walked, but not done yet. -/
structure Pend (P : Program) (ops : Array Oper) (nt : Nat) (lo wq : List Nat) (S W : Array Bool) (acts : List (Nat × Oper)) (ea ec : Env) (st : St) : Prop where
  at_ : ∀ x ∈ acts, ops[x.1]? = some x.2 ∧ lmem x.1 lo = false ∧ S.getD x.1 true = false ∧ W.getD x.1 false = true ∧ x.1 ∈ wq
  wd : ∀ j, W.getD j false = true → S.getD j false = true ∨ ∃ o, (j, o) ∈ acts
  sub : ∀ j, S.getD j false = true → W.getD j false = true
  size : S.size = W.size
  stay : ∀ x ∈ acts, Stay P ops st nt x.2 ec
  late : ∀ x ∈ acts, ∀ j, lmem j (Sy.late ops x.1) = true → S.getD j false = false
  apart : ∀ x ∈ acts, ∀ j oj, ops[j]? = some oj → j ≠ x.1 → S.getD j true = false → lmem j (Sy.late ops x.1) = false → ∀ d, x.2.dst = some d → d ∉ oj.looksAt ops
  self : ∀ x ∈ acts, selfP ops x.2 = true
  deps : ∀ x ∈ acts, ∀ e ∈ x.2.after, Region.binds .any e = true → W.getD e.on false = true ∧ e.on < x.1
  agree : ∀ t, (∀ x ∈ acts, x.2.dst ≠ some t) → ea t = ec t

theorem getD_false_of {S : Array Bool} {j : Nat} (h : S.getD j true = false) : S.getD j false = false ∧ j < S.size := by
  rcases Nat.lt_or_ge j S.size with h' | h'
  · simp [h'] at h ⊢; exact h
  · simp [Array.getElem?_eq_none h'] at h
theorem getD_true_of {S : Array Bool} {j : Nat} (hj : j < S.size) (h : S.getD j false = false) : S.getD j true = false := by simp [hj] at h ⊢; exact h
theorem ready_not_late {S : Array Bool} {i j : Nat} (hj : j ∈ Region.ready .any ops S) (hi : S.getD i false = false) (hl : ∀ j, lmem j (Sy.late ops i) = true → S.getD j false = false) : lmem j (Sy.late ops i) = false := by
  cases h : lmem j (Sy.late ops i) with
  | false => rfl
  | true =>
    obtain ⟨o, ho, e, he, hb, hor⟩ := late_spec h
    obtain ⟨_, o', ho', hall⟩ := mem_ready.1 hj
    rw [ho] at ho'; cases ho'
    have h1 := hall e he hb
    rcases hor with hor | hor
    · rw [hor, hi] at h1; cases h1
    · rw [hl _ hor] at h1; cases h1
variable {lo wq : List Nat} {S W : Array Bool} {acts : List (Nat × Oper)} {ea ec : Env}
theorem Pend.lookAgree (h : Pend P ops nt lo wq S W acts ea ec st) {j : Nat} {o : Oper} (hj : j ∈ Region.ready .any ops S) (ho : ops[j]? = some o) (hs : (∃ x ∈ acts, x.1 = j) → selfP ops o = true) : ∀ t ∈ o.looksAt ops, ea t = ec t := by
  intro t ht
  refine h.agree t (fun x hx hd => ?_)
  obtain ⟨a1, a2, a3, a4, a5⟩ := h.at_ x hx
  by_cases hxj : x.1 = j
  · have h1 := hs ⟨x, hx, hxj⟩
    rw [hxj, ho] at a1
    have e : o = x.2 := Option.some.inj a1
    unfold selfP at h1
    rw [e, hd] at h1
    rw [e] at ht
    simp [(lmem_eq _ _).2 ht] at h1
  · have hl := ready_not_late hj (getD_false_of a3).1 (h.late x hx)
    exact h.apart x hx j o ho (fun e => hxj e.symm) (mem_ready.1 hj).1 hl t hd ht
theorem Pend.done (h : Pend P ops nt lo wq S W acts ea ec st) {j : Nat} (hj : j ∈ Region.ready .any ops S) {x : Nat × Oper} (hx : x ∈ acts) (hxj : x.1 = j) :
    ∃ pv, Leaves P ops st nt x.2 pv ea ∧ Pend P ops nt lo wq (S.setIfInBounds j true) W (acts.filter fun y => !Nat.beq y.1 j) (ea.put x.2.dst pv) ec st := by
  obtain ⟨a1, a2, a3, a4, a5⟩ := h.at_ x hx
  obtain ⟨pv, hl, he⟩ := h.stay x hx
  have hjs := (getD_false_of (mem_ready.1 hj).1).2
  have ho : ops[j]? = some x.2 := hxj ▸ a1
  have hag := h.lookAgree hj ho (fun _ => h.self x hx)
  have hmem : ∀ y, y ∈ acts.filter (fun y => !Nat.beq y.1 j) → y ∈ acts ∧ y.1 ≠ j := by
    intro y hy
    rw [List.mem_filter] at hy
    refine ⟨hy.1, fun e => ?_⟩
    have := hy.2
    rw [e] at this; simp at this
  refine ⟨pv, hl.congr (fun t ht => (hag t ht).symm), ?_, ?_, ?_, ?_, ?_, ?_, ?_, ?_, ?_, ?_⟩
  · intro y hy
    obtain ⟨hy, hne⟩ := hmem y hy
    obtain ⟨b1, b2, b3, b4, b5⟩ := h.at_ y hy
    exact ⟨b1, b2, by rw [getD_set_ne true (Ne.symm hne)]; exact b3, b4, b5⟩
  · intro i hi
    by_cases hij : i = j
    · subst hij; left; simp [hjs]
    · rcases h.wd i hi with h1 | ⟨o, h1⟩
      · left; rw [getD_set_ne false (fun e => hij e.symm)]; exact h1
      · right; exact ⟨o, List.mem_filter.2 ⟨h1, by
          cases hb : Nat.beq i j with
          | true => exact absurd (Nat.eq_of_beq_eq_true hb) hij
          | false => rfl⟩⟩
  · intro i hi
    by_cases hij : i = j
    · subst hij; rw [← hxj]; exact a4
    · rw [getD_set_ne false (fun e => hij e.symm)] at hi; exact h.sub i hi
  · simp [h.size]
  · intro y hy; exact h.stay y (hmem y hy).1
  · intro y hy i hi
    obtain ⟨hy, hne⟩ := hmem y hy
    have hlj : lmem j (Sy.late ops y.1) = false := ready_not_late hj (getD_false_of (h.at_ y hy).2.2.1).1 (h.late y hy)
    rw [getD_set_ne false (fun e => by rw [e, hi] at hlj; cases hlj)]
    exact h.late y hy i hi
  · intro y hy i oi hoi hne hun hno
    refine h.apart y (hmem y hy).1 i oi hoi hne ?_ hno
    by_cases hij : j = i
    · subst hij; exact (mem_ready.1 hj).1
    · rw [getD_set_ne true hij] at hun; exact hun
  · intro y hy; exact h.self y (hmem y hy).1
  · intro y hy; exact h.deps y (hmem y hy).1
  · intro t ht
    by_cases hd : x.2.dst = some t
    · rw [← he, hd, put_at, put_at, if_pos rfl, if_pos rfl]
    · rw [put_ne hd]
      refine h.agree t (fun y hy hyd => ?_)
      by_cases hyj : y.1 = j
      · have b1 := (h.at_ y hy).1
        rw [hyj, ho] at b1
        exact hd (by rw [Option.some.inj b1]; exact hyd)
      · refine ht y (List.mem_filter.2 ⟨hy, ?_⟩) hyd
        cases hb : Nat.beq y.1 j with
        | true => exact absurd (Nat.eq_of_beq_eq_true hb) hyj
        | false => rfl
theorem Pend.least (h : Pend P ops nt lo wq S W acts ea ec st) (hne : acts ≠ []) : ∃ j, j ∈ Region.ready .any ops S := by
  have hmin : ∀ (n : Nat) (x : Nat × Oper), x ∈ acts → x.1 ≤ n → ∃ y ∈ acts, ∀ z ∈ acts, y.1 ≤ z.1 := by
    intro n
    induction n with
    | zero => intro x hx hn; exact ⟨x, hx, fun z _ => by omega⟩
    | succ n ih =>
      intro x hx hn
      by_cases hm : ∀ z ∈ acts, x.1 ≤ z.1
      · exact ⟨x, hx, hm⟩
      · obtain ⟨z, hz⟩ := Classical.not_forall.1 hm
        rw [Classical.not_imp] at hz
        exact ih z hz.1 (by omega)
  obtain ⟨x, hx⟩ := List.exists_mem_of_ne_nil acts hne
  obtain ⟨y, hy, hle⟩ := hmin x.1 x hx (Nat.le_refl _)
  obtain ⟨a1, a2, a3, a4, a5⟩ := h.at_ y hy
  refine ⟨y.1, mem_ready.2 ⟨a3, y.2, a1, fun e he hb => ?_⟩⟩
  obtain ⟨h1, h2⟩ := h.deps y hy e he hb
  rcases h.wd _ h1 with h3 | ⟨o, h3⟩
  · exact h3
  · have := hle _ h3; simp only at this; omega
theorem Pend.readyW (h : Pend P ops nt lo wq S W acts ea ec st) {j : Nat} (hj : j ∈ Region.ready .any ops S) (hno : ¬∃ x ∈ acts, x.1 = j) : j ∈ Region.ready .any ops W := by
  obtain ⟨h0, o, ho, hall⟩ := mem_ready.1 hj
  obtain ⟨h1, h2⟩ := getD_false_of h0
  refine mem_ready.2 ⟨getD_true_of (h.size ▸ h2) ?_, o, ho, fun e he hb => h.sub _ (hall e he hb)⟩
  cases hw : W.getD j false with
  | false => rfl
  | true =>
    rcases h.wd j hw with h3 | ⟨o', h3⟩
    · rw [h1] at h3; cases h3
    · exact absurd ⟨_, h3, rfl⟩ hno
theorem Pend.none_ (h : Pend P ops nt lo wq S W [] ea ec st) : S = W ∧ ea = ec := by
  constructor
  · apply Array.ext h.size
    intro i h1 h2
    have e1 := h.sub i
    have e2 := h.wd i
    simp [h1, h2] at e1 e2
    cases hs : S[i] <;> cases hw : W[i] <;> simp_all
  · funext t; exact h.agree t (fun x hx => by cases hx)
/-- What leaves the state alone is walked. -/
theorem Pend.walked (h : Pend P ops nt lo wq S W acts ea ec st) {k : Nat} {o : Oper} {pv : PV} (ho : ops[k]? = some o) (hlo : lmem k lo = false) (hk : k < W.size) (hr : k ∈ Region.ready .any ops W) (hsep : sepL ops o wq = true) (hb : ∀ e ∈ o.after, Region.binds .any e = true → e.on < k) (hself : selfP ops o = true)
    (hlate : ∀ j, lmem j (Sy.late ops k) = true → W.getD j false = false) (hap : ∀ j oj, ops[j]? = some oj → j ≠ k → W.getD j true = false → lmem j (Sy.late ops k) = false → lookP ops o oj = true) (hl : Leaves P ops st nt o pv ec) :
    Pend P ops nt lo (k :: wq) S (W.setIfInBounds k true) ((k, o) :: acts) ea (ec.put o.dst pv) st := by
  have hwk := (mem_ready.1 hr).1
  have hsk : S.getD k true = false := getD_true_of (h.size ▸ hk) (by
    cases hs : S.getD k false with
    | false => rfl
    | true => have := h.sub k hs; rw [(getD_false_of hwk).1] at this; cases this)
  refine ⟨?_, ?_, ?_, ?_, ?_, ?_, ?_, ?_, ?_, ?_⟩
  · intro x hx
    rcases List.mem_cons.1 hx with rfl | hx
    · exact ⟨ho, hlo, hsk, by simp [hk], by simp⟩
    · obtain ⟨a1, a2, a3, a4, a5⟩ := h.at_ x hx
      exact ⟨a1, a2, a3, getD_set_true a4, by simp [a5]⟩
  · intro j hj
    by_cases hjk : j = k
    · subst hjk; right; exact ⟨o, by simp⟩
    · rw [getD_set_ne false (fun e => hjk e.symm)] at hj
      rcases h.wd j hj with h1 | ⟨o', h1⟩
      · exact .inl h1
      · exact .inr ⟨o', by simp [h1]⟩
  · intro j hj; exact getD_set_true (h.sub j hj)
  · simp [h.size]
  · intro x hx
    rcases List.mem_cons.1 hx with rfl | hx
    · have hd : ∀ t, o.dst = some t → t ∉ o.looksAt ops := fun t ht hm => by
        unfold selfP at hself
        rw [ht] at hself
        simp [(lmem_eq _ _).2 hm] at hself
      refine ⟨pv, hl.put hd, ?_⟩
      cases o.dst with
      | none => rfl
      | some d =>
        funext t
        rw [put_at, put_at]
        split <;> rfl
    · obtain ⟨a1, a2, a3, a4, a5⟩ := h.at_ x hx
      exact (h.stay x hx).put (sepL_spec hsep _ a5 _ a1)
  · intro x hx
    rcases List.mem_cons.1 hx with rfl | hx
    · intro j hj
      cases hs : S.getD j false with
      | false => rfl
      | true => have := h.sub j hs; rw [hlate j hj] at this; cases this
    · exact h.late x hx
  · intro x hx j oj hoj hne hun hno
    rcases List.mem_cons.1 hx with rfl | hx
    · cases hw : W.getD j false with
      | false => exact lookP_spec (hap j oj hoj hne (getD_true_of (h.size ▸ (getD_false_of hun).2) hw) hno)
      | true =>
        rcases h.wd j hw with h1 | ⟨o', h1⟩
        · rw [(getD_false_of hun).1] at h1; cases h1
        · have h2 := (h.at_ _ h1).1
          simp only at h2
          rw [hoj] at h2
          cases h2
          exact (sepP_spec (sepL_spec hsep _ (h.at_ _ h1).2.2.2.2 _ hoj)).1
    · exact h.apart x hx j oj hoj hne hun hno
  · intro x hx
    rcases List.mem_cons.1 hx with rfl | hx
    · exact hself
    · exact h.self x hx
  · intro x hx e he hbd
    rcases List.mem_cons.1 hx with rfl | hx
    · obtain ⟨_, o', ho', hall⟩ := mem_ready.1 hr
      rw [ho] at ho'; cases ho'
      exact ⟨getD_set_true (hall e he hbd), hb e he hbd⟩
    · obtain ⟨h1, h2⟩ := h.deps x hx e he hbd
      exact ⟨getD_set_true h1, h2⟩
  · intro t ht
    rw [put_ne (ht (k, o) (by simp))]
    exact h.agree t (fun x hx => ht x (by simp [hx]))
/-- What changes the state is done. -/
theorem Pend.loud (h : Pend P ops nt lo wq S W acts ea ec st) {k : Nat} {o : Oper} {q : PV} {st' : St} (ho : ops[k]? = some o) (hlo : lmem k lo = true) (hk : k < W.size) (hr : k ∈ Region.ready .any ops S) (hst : ∀ x ∈ acts, Stay P ops st' nt x.2 (ec.put o.dst q)) :
    Pend P ops nt lo (stayF ops k wq) (S.setIfInBounds k true) (W.setIfInBounds k true) acts (ea.put o.dst q) (ec.put o.dst q) st' := by
  have hnl : ∀ x ∈ acts, lmem k (Sy.late ops x.1) = false := fun x hx => ready_not_late hr (getD_false_of (h.at_ x hx).2.2.1).1 (h.late x hx)
  have hne : ∀ x ∈ acts, x.1 ≠ k := fun x hx e => by
    have := (h.at_ x hx).2.1
    rw [e, hlo] at this; cases this
  refine ⟨?_, ?_, ?_, ?_, hst, ?_, ?_, h.self, ?_, ?_⟩
  · intro x hx
    obtain ⟨a1, a2, a3, a4, a5⟩ := h.at_ x hx
    exact ⟨a1, a2, by rw [getD_set_ne true (Ne.symm (hne x hx))]; exact a3, getD_set_true a4, List.mem_filter.2 ⟨a5, by simp [hnl x hx]⟩⟩
  · intro j hj
    by_cases hjk : j = k
    · subst hjk; left; simp [h.size, hk]
    · rw [getD_set_ne false (fun e => hjk e.symm)] at hj
      rcases h.wd j hj with h1 | ⟨o', h1⟩
      · left; exact getD_set_true h1
      · exact .inr ⟨o', h1⟩
  · intro j hj
    by_cases hjk : j = k
    · subst hjk; simp [hk]
    · rw [getD_set_ne false (fun e => hjk e.symm)] at hj; exact getD_set_true (h.sub j hj)
  · simp [h.size]
  · intro x hx j hj
    rw [getD_set_ne false (fun e => by have := hnl x hx; rw [e, hj] at this; cases this)]
    exact h.late x hx j hj
  · intro x hx j oj hoj hne' hun hno
    refine h.apart x hx j oj hoj hne' ?_ hno
    by_cases hjk : k = j
    · subst hjk; exact (mem_ready.1 hr).1
    · rw [getD_set_ne true hjk] at hun; exact hun
  · intro x hx e he hb
    obtain ⟨h1, h2⟩ := h.deps x hx e he hb
    exact ⟨getD_set_true h1, h2⟩
  · intro t ht
    by_cases hd : o.dst = some t
    · rw [hd, put_at, put_at, if_pos rfl, if_pos rfl]
    · rw [put_ne hd, put_ne hd]; exact h.agree t ht
theorem okP_cons {k : Nat} {π : List Nat} (h : okP ops lo (k :: π) wq W = true) : ∃ o, ops[k]? = some o ∧ k < W.size ∧ k ∈ Region.ready .any ops W ∧ (∀ e ∈ o.after, Region.binds .any e = true → e.on < k) ∧
    ((lmem k lo = true ∧ Region.ready .any ops W = [k] ∧ sepL ops o (stayF ops k wq) = true ∧ okP ops lo π (stayF ops k wq) (W.setIfInBounds k true) = true) ∨
     (lmem k lo = false ∧ sepL ops o wq = true ∧ selfP ops o = true ∧ (∀ j, lmem j (late ops k) = true → W.getD j false = false) ∧ (∀ j oj, ops[j]? = some oj → j ≠ k → W.getD j true = false → lmem j (late ops k) = false → lookP ops o oj = true) ∧ okP ops lo π (k :: wq) (W.setIfInBounds k true) = true)) := by
  unfold okP at h
  split at h
  · cases h
  · rename_i o ho
    simp only [Bool.and_eq_true] at h
    obtain ⟨⟨⟨h1, h2⟩, h4⟩, h5⟩ := h
    rw [Nat.blt_eq] at h1
    refine ⟨o, ho, h1, by simpa using h2, fun e he hb => ?_, ?_⟩
    · have := (Array.all_eq_true_iff_forall_mem.1 h4) e he
      simpa [hb, Nat.blt_eq] using this
    · cases hlo : lmem k lo with
      | true =>
        simp only [hlo, cond_true, Bool.and_eq_true, beq_iff_eq] at h5
        exact .inl ⟨rfl, h5.1.1, h5.1.2, h5.2⟩
      | false =>
        simp only [hlo, cond_false, Bool.and_eq_true] at h5
        obtain ⟨⟨⟨⟨g0, g1⟩, g2⟩, g3⟩, g4⟩ := h5
        refine .inr ⟨rfl, g0, g1, fun j hj => ?_, fun j oj hoj hne hun hno => ?_, g4⟩
        · rw [List.all_eq_true] at g2
          have := g2 j ((lmem_eq _ _).1 hj)
          simpa using this
        · have hlt : j < ops.size := (Array.getElem?_eq_some_iff.1 hoj).1
          unfold allI at g3
          rw [List.all_eq_true] at g3
          have h6 := g3 j (List.mem_range.2 hlt)
          have hb : Nat.beq j k = false := by rw [Bool.eq_false_iff]; intro hh; exact hne (Nat.eq_of_beq_eq_true hh)
          simp only [hoj, hb, hun, hno, Bool.false_or] at h6
          exact h6
theorem walkM_sound {R : Env → St → Prop} : ∀ (fuel : Nat) (S W : Array Bool) (acts : List (Nat × Oper)) (wq π : List Nat) (ea ec : Env) (st : St), acts.length + π.length ≤ fuel → okP ops lo π wq W = true → Pend P ops nt lo wq S W acts ea ec st →
    WalkM P ops nt R (msP ops lo π wq) (lsP ops π) ec st → anyQ P .any ops lo nt R fuel S ea st := by
  have end_ : ∀ {S W : Array Bool} {wq : List Nat} {ea ec : Env} {st : St}, okP ops lo [] wq W = true → Pend P ops nt lo wq S W [] ea ec st → WalkM P ops nt R (msP ops lo [] wq) (lsP ops []) ec st → Region.ready .any ops S = [] ∧ R ea st := by
    intro S W wq ea ec st hB hp hw
    obtain ⟨rfl, rfl⟩ := hp.none_
    exact ⟨by simpa [okP] using hB, hw⟩
  intro fuel
  induction fuel with
  | zero =>
    intro S W acts wq π ea ec st hf hB hp hw
    obtain rfl : acts = [] := List.eq_nil_of_length_eq_zero (by omega)
    obtain rfl : π = [] := List.eq_nil_of_length_eq_zero (by omega)
    exact end_ hB hp hw
  | succ fuel ih =>
    intro S W acts wq π ea ec st hf hB hp hw
    refine ⟨fun h0 => ?_, fun j hj => ?_⟩
    · by_cases ha : acts = []
      · subst ha
        cases π with
        | nil => exact (end_ hB hp hw).2
        | cons k π =>
          obtain ⟨o, _, _, hr, _⟩ := okP_cons hB
          obtain ⟨rfl, rfl⟩ := hp.none_
          rw [h0] at hr; cases hr
      · obtain ⟨j, hj⟩ := hp.least ha
        rw [h0] at hj; cases hj
    · obtain ⟨hjun, oj, hoj, hall⟩ := mem_ready.1 hj
      simp only [hoj]
      -- what has been walked
      have STEP : ∀ (π : List Nat) (W : Array Bool) (acts : List (Nat × Oper)) (wq : List Nat) (ec : Env), acts.length + π.length ≤ fuel + 1 → okP ops lo π wq W = true → Pend P ops nt lo wq S W acts ea ec st → WalkM P ops nt R (msP ops lo π wq) (lsP ops π) ec st → (∃ x ∈ acts, x.1 = j) →
          gOp P ops lo nt j oj (anyQ P .any ops lo nt R fuel (S.setIfInBounds j true)) ea st := by
        intro π W acts wq ec hf hB hp hw ⟨x, hx, hxj⟩
        obtain ⟨a1, a2, a3, a4, a5⟩ := hp.at_ x hx
        rw [hxj] at a1 a2
        rw [hoj] at a1
        have e : oj = x.2 := Option.some.inj a1
        obtain ⟨pv, hl, hp'⟩ := hp.done hj hx hxj
        unfold gOp
        rw [a2]
        refine ⟨pv, e ▸ hl, ?_⟩
        rw [e]
        refine ih _ _ _ _ π _ _ _ ?_ hB hp' hw
        have hlt : (acts.filter fun y => !Nat.beq y.1 j).length < acts.length := by
          have := List.length_filter_lt_length_iff_exists (p := fun y : Nat × Oper => !Nat.beq y.1 j) (l := acts)
          exact this.2 ⟨x, hx, by simp [hxj]⟩
        omega
      have ADV : ∀ (π : List Nat) (W : Array Bool) (acts : List (Nat × Oper)) (wq : List Nat) (ec : Env), acts.length + π.length ≤ fuel + 1 → okP ops lo π wq W = true → Pend P ops nt lo wq S W acts ea ec st → WalkM P ops nt R (msP ops lo π wq) (lsP ops π) ec st →
          gOp P ops lo nt j oj (anyQ P .any ops lo nt R fuel (S.setIfInBounds j true)) ea st := by
       intro π
       induction π with
       | nil =>
        intro W acts wq ec hf hB hp hw
        by_cases hx : ∃ x ∈ acts, x.1 = j
        · exact STEP [] W acts wq ec hf hB hp hw hx
        · have := hp.readyW hj hx
          rw [show Region.ready .any ops W = [] by simpa [okP] using hB] at this; cases this
       | cons k π ihp =>
        intro W acts wq ec hf hB hp hw
        by_cases hx : ∃ x ∈ acts, x.1 = j
        · exact STEP (k :: π) W acts wq ec hf hB hp hw hx
        have hjw := hp.readyW hj hx
        obtain ⟨o, ho, hk, hr, hbk, hor⟩ := okP_cons hB
        rcases hor with ⟨hlo, h1, hsep, hB'⟩ | ⟨hlo, hsep, hself, hlate, hap, hB'⟩
        · -- it changes the state: it is the one that comes
          rw [h1] at hjw
          simp at hjw
          subst hjw
          rw [hoj] at ho; cases ho
          have hag := hp.lookAgree hj hoj (fun h => absurd h hx)
          simp only [msP, lsP, hlo, hoj, cond_true] at hw
          obtain ⟨hd, hw⟩ := hw
          unfold gOp
          rw [hlo]
          refine ⟨hd, ?_⟩
          rw [wants_congr hag]
          rcases hw with ⟨hw1, hw2⟩ | ⟨hw1, hw2⟩
          · refine .inl ⟨hw1, ((OpGoes.widen (fun x => only_ev (fun t ht => (hag t ht).symm) x) hw2)).mono fun q s hq => ?_⟩
            refine ih _ _ acts _ π _ _ _ (by simp at hf; omega) hB' (hp.loud hoj hlo hk hj (fun x hx' => ?_)) hq.2
            obtain ⟨a1, a2, a3, a4, a5⟩ := hp.at_ x hx'
            refine hq.1.at x.1 (List.mem_filter.2 ⟨a5, ?_⟩) x.2 a1
            simp [ready_not_late hj (getD_false_of a3).1 (hp.late x hx')]
          · refine .inr ⟨hw1, ?_⟩
            refine ih _ _ acts _ π _ _ _ (by simp at hf; omega) hB' (hp.loud hoj hlo hk hj (fun x hx' => ?_)) hw2
            obtain ⟨a1, a2, a3, a4, a5⟩ := hp.at_ x hx'
            exact (hp.stay x hx').put (sepL_spec hsep _ (List.mem_filter.2 ⟨a5, by simp [ready_not_late hj (getD_false_of a3).1 (hp.late x hx')]⟩) _ a1)
        · simp only [msP, lsP, hlo, ho, cond_false] at hw
          obtain ⟨pv, hl, hw⟩ := hw
          exact ihp _ ((k, o) :: acts) (k :: wq) _ (by simp at hf ⊢; omega) hB' (hp.walked ho hlo hk hr hsep hbk hself hlate hap hl) hw
      exact ADV π W acts wq ec hf hB hp hw
theorem Pend.start (env : Env) (n : Nat) : Pend P ops nt lo [] (Array.replicate n false) (Array.replicate n false) [] env env st :=
  ⟨fun x hx => (nomatch hx), fun j hj => .inl hj, fun j hj => hj, rfl, fun x hx => (nomatch hx), fun x hx => (nomatch hx), fun x hx => (nomatch hx), fun x hx => (nomatch hx), fun x hx => (nomatch hx), fun t _ => rfl⟩
end
section
variable {P : Program} {f : FuncId} {fn : Func} {n0 : Nat} {Q : PV → St → Prop} {k : List Item} {env : Env} {st : St} {ops : Array Oper}
theorem Run.drawM {lo π : List Nat} {id : Nat} (hm : P.follows .mixedOrders = true) (hB : okP ops lo π [] (Array.replicate ops.size false) = true) (hlen : Nat.ble π.length ops.size = true)
    (h : WalkM P ops fn.ntmps (fun env' st' => Run P f fn n0 Q k env' st') (msP ops lo π []) (lsP ops π) env st) : Run P f fn n0 Q (.code (.region id ops true) :: k) env st := by
  intro hn0 K σ w a b cs hR hsz hd hfn hk hE
  have hany := walkM_sound (P := P) (nt := fn.ntmps) ops.size _ _ [] [] π env env st (by simpa using Nat.le_of_ble_eq_true hlen) hB (Pend.start env _) h
  have hR1 : Rel K σ st { w with drawn := w.drawn + 1 } := ⟨hR.kin, hR.own, hR.sep, hR.gl, hR.fl⟩
  have hX1 : Ext K σ st w K σ st { w with drawn := w.drawn + 1 } := ⟨fun _ _ h => h, fun _ _ => rfl, Nat.le_refl _, rfl, rfl, rfl, Nat.le_refl _, fun i B h hr hl => .inl ⟨i, B, h, hr, hl, rfl⟩, fun _ _ _ => rfl, fun _ _ h => .inl h⟩
  have hwp : (Code.region id ops true).wp P (fun e a' w' => e = .normal ∧ ∃ env' st', Mid fn.ntmps K σ st w env' st' a' w' ∧ Run P f fn n0 Q k env' st') a w :=
    wp_region_any hm (anyQ_sound (K := K) (σ := σ) (st0 := st) (w := w) (fun env' st' a' w' hmid hr => ⟨rfl, env', st', hmid, hr⟩) _ _ _ _ _ _ ⟨K, σ, hR1, hX1, hE, hsz, hd⟩ hany)
  obtain ⟨e, a', w', ⟨rfl, env', st', ⟨K', σ', hrel, hext, henv, hsz', hdf'⟩, hrun⟩, harr⟩ := hwp b k cs
  obtain ⟨v, w2, fr, ⟨K2, σ2, st2, pv2, q2, e2, r2, v2⟩, hst, hrest⟩ := hrun (Nat.le_trans hn0 hext.len) K' σ' w' a' b cs hrel hsz' hdf' hfn hk henv
  exact ⟨v, w2, fr, ⟨K2, σ2, st2, pv2, q2, (hext.less hn0).trans e2, r2, v2⟩, Steps.trans harr hst, hrest⟩
end
end Go.Sy
end
section
/- Regions that draw their order: two operations that change the state, the one or the other first. -/
set_option linter.unusedVariables false
set_option linter.unusedSimpArgs false
set_option linter.unusedSectionVars false
namespace Go.Sy
open Go Go.RowKit
variable [Globs]
/-- A plan: what leaves the state alone; what changes it; two of these, the one or the other first. -/
inductive PX where
  | done
  | q (k : Nat) (t : PX)
  | one (k : Nat) (t : PX)
  | two (k1 : Nat) (t1 : PX) (k2 : Nat) (t2 : PX)
section
variable (ops : Array Oper) (lo : List Nat)
end
section
variable (P : Program) (ops : Array Oper) (nt : Nat) (R : Env → St → Prop)
end
section
variable {P : Program} {ops : Array Oper} {nt : Nat} {st : St} {lo wq : List Nat} {S W : Array Bool} {acts : List (Nat × Oper)} {ea ec : Env}
end
section
variable {P : Program} {f : FuncId} {fn : Func} {n0 : Nat} {Q : PV → St → Prop} {k : List Item} {env : Env} {st : St} {ops : Array Oper}
end
/-- What comes behind a segment: nothing, or two segments of which both must do. -/
inductive FT where
  | stop
  | fork (m1 : List (Option (List Nat))) (l1 : List Oper) (e1 : FT) (m2 : List (Option (List Nat))) (l2 : List Oper) (e2 : FT)
section
variable (P : Program) (ops : Array Oper) (nt : Nat) (R : Env → St → Prop)
def endR : FT → Env → St → Prop
  | .stop => R
  | .fork m1 l1 e1 m2 l2 e2 => fun env st => WalkM P ops nt (endR e1) m1 l1 env st ∧ WalkM P ops nt (endR e2) m2 l2 env st
end
end Go.Sy
end
section
/- The walk's rules. -/
set_option linter.unusedVariables false
set_option linter.unusedSimpArgs false
set_option linter.unusedSectionVars false
namespace Go.Sy
open Go Go.RowKit

/-! ### control -/
def ctl1 : List Item → Option (List Item)
  | .code .skip :: k => some k
  | .code (.label _) :: k => some k
  | .inBlock _ :: k => some k
  | .code (.seq x y) :: k => some (.code x :: .code y :: k)
  | .code (.block id c) :: k => some (.code c :: .inBlock id :: k)
  | .code (.exit id) :: k => exitTo id k
  | _ => none
def ctlR : Nat → List Item → Option (List Item)
  | 0, k => some k
  | n + 1, k => match ctl1 k with
    | none => some k
    | some k' => ctlR n k'
def ctl (k : List Item) : Option (List Item) := match ctl1 k with
  | none => none
  | some k' => ctlR 40 k'
def frc : List Nat → Option (List Nat)
  | [] => some []
  | a :: l => match frc l with
    | some r => some (a :: r)
    | none => none
theorem frc_spec : ∀ {l r : List Nat}, frc l = some r → l = r
  | [], r, h => by simp [frc] at h; exact h.symm
  | a :: l, r, h => by
    simp only [frc] at h
    split at h
    · rename_i r' hr; simp at h; subst h; rw [frc_spec hr]
    · cases h

theorem cs : (∀ (p : Prop) [Decidable p], (decide p = true) = p) ∧ (∀ (p : Prop) [Decidable p], (decide p = false) = ¬ p) ∧ (∀ (α : Type) [BEq α] [LawfulBEq α] (a b : α), ((a == b) = true) = (a = b)) ∧
    (∀ (α : Type) [BEq α] [LawfulBEq α] (a b : α), ((a == b) = false) = ¬ (a = b)) ∧ (∀ (α : Type) [BEq α] [LawfulBEq α] (a b : α), ((a != b) = true) = ¬ (a = b)) ∧ (∀ (α : Type) [BEq α] [LawfulBEq α] (a b : α), ((a != b) = false) = (a = b)) ∧
    (∀ b : Bool, ((!b) = true) = (b = false)) ∧ (∀ b : Bool, ((!b) = false) = (b = true)) ∧ (∀ b : Bool, (¬ (b = true)) = (b = false)) ∧ (∀ b : Bool, (¬ (b = false)) = (b = true)) ∧
    (∀ a b : Int, (¬ (a < b)) = (b ≤ a)) ∧ (∀ a b : Int, (¬ (a ≤ b)) = (b < a)) ∧ (∀ a b : Int, (a > b) = (b < a)) ∧ (∀ a b : Int, (a ≥ b) = (b ≤ a)) ∧ (∀ a b : Int, (a ≠ b) = ¬ (a = b)) ∧ (∀ p : Prop, (¬ ¬ p) = p) ∧ ((¬ True) = False) ∧ ((¬ False) = True) ∧ (∀ (α : Type) (a : α), (a = a) = True) ∧ ((true = false) = False) ∧ ((false = true) = False) ∧ ((!true) = false) ∧ ((!false) = true) ∧
    (∀ a b : Nat, ((a : Int) < (b : Int)) = (a < b)) ∧ (∀ a b : Nat, ((a : Int) ≤ (b : Int)) = (a ≤ b)) ∧ (∀ a b : Nat, ((a : Int) = (b : Int)) = (a = b)) ∧ (∀ a b : Nat, (¬ (a < b)) = (b ≤ a)) ∧ (∀ a b : Nat, (¬ (a ≤ b)) = (b < a)) :=
  ⟨by simp, by simp, fun _ _ _ a b => propext beq_iff_eq, fun _ _ _ a b => propext beq_eq_false_iff_ne, fun _ _ _ a b => propext bne_iff_ne, fun _ _ _ a b => propext bne_eq_false_iff_eq, by simp, by simp, by simp, by simp, by simp, by simp, by simp, by simp, by simp, by simp, by simp, by simp, by simp, by simp, by simp, by simp, by simp, by simp [Int.ofNat_lt], by simp, by simp [Int.ofNat_inj], by simp, by simp⟩

variable [Globs]
inductive Md where
  | seq
  | drw (lo : List Nat) (m : Nat)
  | prm (ms : List (Option (List Nat)))
  | prf (ms : List (Option (List Nat))) (e : FT)
def Md.nxt : Md → Md
  | .seq => .seq
  | .drw lo m => .drw lo (m + 1)
  | .prm (_ :: ms) => .prm ms
  | .prm [] => .prm []
  | .prf (_ :: ms) e => .prf ms e
  | .prf [] e => .prf [] e
def nx : Md → Option Md
  | .seq => some .seq
  | .drw lo m => some (.drw lo (m + 1))
  | .prm (_ :: ms) => some (.prm ms)
  | .prm [] => none
  | .prf (_ :: ms) e => some (.prf ms e)
  | .prf [] _ => none
omit [Globs] in
theorem nx_spec {d d' : Md} (h : nx d = some d') : d.nxt = d' := by
  rcases d with _ | _ | ms | ⟨ms, e⟩
  · simp [nx] at h; exact h
  · simp [nx] at h; exact h
  · cases ms with
    | nil => simp [nx] at h
    | cons a ms => simp [nx] at h; exact h
  · cases ms with
    | nil => simp [nx] at h
    | cons a ms => simp [nx] at h; exact h
def Md.env (d : Md) (ops : Array Oper) (o : Oper) (env : Env) : Operand → PV := match d with
  | .seq => env.ev
  | .drw lo m => bif lmem m lo then env.ev else (Env.only (o.looksAt ops) env).ev
  | .prm _ => (Env.only (o.looksAt ops) env).ev
  | .prf _ _ => (Env.only (o.looksAt ops) env).ev
/-- May it change the state? -/
def Md.loud : Md → Bool
  | .seq => true
  | .drw lo m => lmem m lo
  | .prm (some _ :: _) => true
  | .prm (none :: _) => false
  | .prm [] => false
  | .prf (some _ :: _) _ => true
  | .prf (none :: _) _ => false
  | .prf [] _ => false
def Md.ok (d : Md) (P : Program) (ops : Array Oper) (nt : Nat) (st st' : St) (env' : Env) : Prop := match d with
  | .seq => True
  | .drw lo m => lmem m lo = true ∨ st' = st
  | .prm (none :: _) => st' = st
  | .prm (some pend :: _) => StayL P ops st' nt pend env'
  | .prm [] => False
  | .prf (none :: _) _ => st' = st
  | .prf (some pend :: _) _ => StayL P ops st' nt pend env'
  | .prf [] _ => False

section
variable {P : Program} {f : FuncId} {fn : Func} {n0 : Nat} {Q : PV → St → Prop} {k k' : List Item} {env : Env} {st st' : St} {ops : Array Oper} {d d' : Md} {o : Oper} {rest : List Oper} {T : TT}
theorem Run.ctl1 (h : Go.Sy.ctl1 k = some k') (hr : Run P f fn n0 Q k' env st) : Run P f fn n0 Q k env st := by
  unfold Go.Sy.ctl1 at h
  split at h
  · cases h; exact Run.skip hr
  · cases h; exact Run.label hr
  · cases h; exact Run.inBlock hr
  · cases h; exact Run.seq hr
  · cases h; exact Run.block hr
  · exact Run.exit h hr
  · cases h
theorem Run.ctlR : ∀ (n : Nat) {k k' : List Item}, Go.Sy.ctlR n k = some k' → Run P f fn n0 Q k' env st → Run P f fn n0 Q k env st
  | 0, k, k', h, hr => by simp [Go.Sy.ctlR] at h; rw [h]; exact hr
  | n + 1, k, k', h, hr => by
    simp only [Go.Sy.ctlR] at h
    split at h
    · cases h; exact hr
    · rename_i k2 h2; exact Run.ctl1 h2 (Run.ctlR n h hr)
theorem Run.ctl (h : Go.Sy.ctl k = some k') (hr : Run P f fn n0 Q k' env st) : Run P f fn n0 Q k env st := by
  unfold Go.Sy.ctl at h
  split at h
  · cases h
  · rename_i k2 h2; exact Run.ctl1 h2 (Run.ctlR 40 h hr)

def Rg (P : Program) (f : FuncId) (fn : Func) (n0 : Nat) (Q : PV → St → Prop) (k : List Item) (ops : Array Oper) (d : Md) (l : List Oper) (env : Env) (st : St) : Prop := match d with
  | .seq => RunL P f fn n0 Q ops l k env st
  | .drw lo m => Walk P ops lo fn.ntmps (fun e s => Run P f fn n0 Q k e s) m l env st
  | .prm ms => WalkM P ops fn.ntmps (fun e s => Run P f fn n0 Q k e s) ms l env st
  | .prf ms e => WalkM P ops fn.ntmps (endR P ops fn.ntmps (fun e s => Run P f fn n0 Q k e s) e) ms l env st

theorem Rg.gen {e : Option Tmp} (hw : wants ops env o = some true) (hd : dstN fn.ntmps o.dst = some e) (hx : nx d = some d') (h : OpGoes P (d.env ops o env) st o fun pv st' => d.ok P ops fn.ntmps st st' (env.put e pv) ∧ Rg P f fn n0 Q k ops d' rest (env.put e pv) st')
    (hs : d.loud = false → ∃ pv, OpGoes P (d.env ops o env) st o (fun q s => q = pv ∧ s = st) ∧ Rg P f fn n0 Q k ops d' rest (env.put e pv) st) : Rg P f fn n0 Q k ops d (o :: rest) env st := by
  rw [← nx_spec hx] at h hs
  rcases d with _ | ⟨lo, m⟩ | ms | ⟨ms, e⟩
  · exact RunL.op hw hd (h.mono fun p s hr => hr.2)
  · cases hlo : lmem m lo with
    | true =>
      refine Walk.loud hlo hw hd ?_
      have : (Md.drw lo m).env ops o env = env.ev := by simp [Md.env, hlo]
      rw [this] at h
      exact h.mono fun p s hr => hr.2
    | false =>
      obtain ⟨pv, h1, h2⟩ := hs hlo
      have : (Md.drw lo m).env ops o env = (Env.only (o.looksAt ops) env).ev := by simp [Md.env, hlo]
      rw [this] at h1
      exact Walk.opE hlo hw hd ⟨pv, h1, h2⟩
  · obtain ⟨e', hd'⟩ := dstN_spec hd
    subst e'
    cases ms with
    | nil => simp [nx] at hx
    | cons a ms =>
      cases a with
      | none =>
        obtain ⟨pv, h1, h2⟩ := hs rfl
        exact ⟨pv, ⟨hd', .inl ⟨hw, h1⟩⟩, h2⟩
      | some pend => exact ⟨hd', .inl ⟨hw, h⟩⟩
  · obtain ⟨e', hd'⟩ := dstN_spec hd
    subst e'
    cases ms with
    | nil => simp [nx] at hx
    | cons a ms =>
      cases a with
      | none =>
        obtain ⟨pv, h1, h2⟩ := hs rfl
        exact ⟨pv, ⟨hd', .inl ⟨hw, h1⟩⟩, h2⟩
      | some pend => exact ⟨hd', .inl ⟨hw, h⟩⟩
theorem Rg.one {e : Option Tmp} {pv : PV} (hw : wants ops env o = some true) (hd : dstN fn.ntmps o.dst = some e) (hx : nx d = some d') (h : ∀ R : PV → St → Prop, R pv st' → OpGoes P (d.env ops o env) st o R) (hk : d.ok P ops fn.ntmps st st' (env.put e pv)) (hr : Rg P f fn n0 Q k ops d' rest (env.put e pv) st') : Rg P f fn n0 Q k ops d (o :: rest) env st := by
  refine Rg.gen hw hd hx (h _ ⟨hk, hr⟩) (fun hlo => ?_)
  have hs : st' = st := by
    rcases d with _ | ⟨lo, m⟩ | ms | ⟨ms, e⟩
    · cases hlo
    · rcases hk with hk | hk
      · rw [show lmem m lo = false from hlo] at hk; cases hk
      · exact hk
    · cases ms with
      | nil => simp [nx] at hx
      | cons a ms => cases a with
        | none => exact hk
        | some pend => cases hlo
    · cases ms with
      | nil => simp [nx] at hx
      | cons a ms => cases a with
        | none => exact hk
        | some pend => cases hlo
  subst hs
  exact ⟨pv, h _ ⟨rfl, rfl⟩, hr⟩
theorem Rg.any {e : Option Tmp} {pv : PV} (hw : wants ops env o = some true) (hd : dstN fn.ntmps o.dst = some e) (hx : nx d = some d') (h : ∀ R : PV → St → Prop, R pv st' → OpGoes P (d.env ops o env) st o R) (hk : d.ok P ops fn.ntmps st st' (env.put e pv)) (hr : Rg P f fn n0 Q k ops d' rest (env.put e pv) st') : Rg P f fn n0 Q k ops d (o :: rest) env st :=
  Rg.one hw hd hx h hk hr
/-- An operation. -/
theorem Rg.op (w : Bool) (hT : TOk P T) {e : Option Tmp} {c : Prop} {pv : PV} (hw : wants ops env o = some true) (hd : dstN fn.ntmps o.dst = some e) (hx : nx d = some d') (h : opX P T w (d.env ops o env) st o.op = some (c, pv, st')) (hc : c) (hk : d.ok P ops fn.ntmps st st' (env.put e pv))
    (hr : Rg P f fn n0 Q k ops d' rest (env.put e pv) st') : Rg P f fn n0 Q k ops d (o :: rest) env st := Rg.one hw hd hx (fun R hR => opX_spec hT h hc hR) hk hr
def Md.quiet : Md → Bool
  | .prm (some _ :: _) => false
  | .prm [] => false
  | .prf (some _ :: _) _ => false
  | .prf [] _ => false
  | _ => true
omit [Globs] in
theorem Md.ok_self [Globs] {nt : Nat} {env' : Env} (h : d.quiet = true) : d.ok P ops nt st st env' := by
  rcases d with _ | _ | ms | ⟨ms, e⟩
  · exact trivial
  · exact .inr rfl
  · cases ms with
    | nil => cases h
    | cons a ms => cases a with
      | none => rfl
      | some p => cases h
  · cases ms with
    | nil => cases h
    | cons a ms => cases a with
      | none => rfl
      | some p => cases h
/-- A call under a contract. -/
theorem Rg.call {g : FuncId} {cap asx : List PV} {pv : PV} {e : Option Tmp} {cp : Operand} {args : Array Operand} {ats : Array TypeId} (hp : Pure P g asx pv) (hw : wants ops env o = some true) (hd : dstN fn.ntmps o.dst = some e) (hx : nx d = some d') (ho : o.op = .call { callee := .value cp, args, argTypes := ats })
    (hc : funcOf (d.env ops o env cp) = some (g, cap)) (hcv : CvArgs roB st (args.toList.map (d.env ops o env) ++ cap) asx) (hr : Rg P f fn n0 Q k ops d' rest (env.put e pv) st) (hq : d.quiet = true := by exact rfl) : Rg P f fn n0 Q k ops d (o :: rest) env st :=
  Rg.one hw hd hx (fun R hR => G_call hp ho hc hcv hR) (Md.ok_self hq) hr
theorem Rg.lend {g : FuncId} {cap asx : List PV} {pv : PV} {e : Option Tmp} {cp : Operand} {args : Array Operand} {ats : Array TypeId} (hp : Pure P g asx pv) (hw : wants ops env o = some true) (hd : dstN fn.ntmps o.dst = some e) (hx : nx d = some d') (ho : o.op = .call { callee := .value cp, args, argTypes := ats })
    (hc : funcOf (d.env ops o env cp) = some (g, cap)) (hfl : flatB pv = true) (hcv : CvArgs allB st (args.toList.map (d.env ops o env) ++ cap) asx) (hr : Rg P f fn n0 Q k ops d' rest (env.put e pv) st) (hq : d.quiet = true := by exact rfl) : Rg P f fn n0 Q k ops d (o :: rest) env st :=
  Rg.one hw hd hx (fun R hR => G_lend hp ho hc hfl hcv hR) (Md.ok_self hq) hr
theorem Rg.skip {e : Option Tmp} (hw : wants ops env o = some false) (hd : dstN fn.ntmps o.dst = some e) (hx : nx d = some d') (h : Rg P f fn n0 Q k ops d' rest (env.put e (.atom undef)) st) : Rg P f fn n0 Q k ops d (o :: rest) env st := by
  rw [← nx_spec hx] at h
  rcases d with _ | _ | ms | ⟨ms, e⟩
  · exact RunL.skip hw hd h
  · exact Walk.skip' hw hd h
  · obtain ⟨e', hd'⟩ := dstN_spec hd
    subst e'
    cases ms with
    | nil => simp [nx] at hx
    | cons a ms => cases a with
      | none => exact ⟨_, ⟨hd', .inr ⟨hw, rfl⟩⟩, h⟩
      | some pend => exact ⟨hd', .inr ⟨hw, h⟩⟩
  · obtain ⟨e', hd'⟩ := dstN_spec hd
    subst e'
    cases ms with
    | nil => simp [nx] at hx
    | cons a ms => cases a with
      | none => exact ⟨_, ⟨hd', .inr ⟨hw, rfl⟩⟩, h⟩
      | some pend => exact ⟨hd', .inr ⟨hw, h⟩⟩
def Md.fin : Md → Bool
  | .prm [] => true
  | .prm _ => false
  | .prf [] .stop => true
  | .prf _ _ => false
  | _ => true
theorem Rg.nil (h : Run P f fn n0 Q k env st) (hf : d.fin = true := by exact rfl) : Rg P f fn n0 Q k ops d [] env st := by
  rcases d with _ | _ | ms | ⟨ms, e⟩
  · exact RunL.nil h
  · exact h
  · cases ms with
    | nil => exact h
    | cons a ms => cases hf
  · cases ms with
    | nil => cases e with
      | stop => exact h
      | fork => cases hf
    | cons a ms => cases hf
theorem Rg.guard {t : Nat} {b : Bool} (hg : guardOf ops env o = some (t, b)) (ht : b = true → Rg P f fn n0 Q k ops d (o :: rest) (env.put (some t) (.atom (.bool true))) st) (hf : b = false → Rg P f fn n0 Q k ops d (o :: rest) (env.put (some t) (.atom (.bool false))) st) :
    Rg P f fn n0 Q k ops d (o :: rest) env st := by
  have gen : ∀ (d : Md), (b = true → Rg P f fn n0 Q k ops d (o :: rest) (env.put (some t) (.atom (.bool true))) st) → (b = false → Rg P f fn n0 Q k ops d (o :: rest) (env.put (some t) (.atom (.bool false))) st) → Rg P f fn n0 Q k ops d (o :: rest) env st := by
    intro d ht hf
    have hp := guardOf_spec hg
    have ret : env.put (some t) (env t) = env := by
      funext x
      rw [put_at]
      split
      · rename_i h; rw [h]
      · rfl
    cases b
    · have := hf rfl; rw [← hp, ret] at this; exact this
    · have := ht rfl; rw [← hp, ret] at this; exact this
  rcases d with _ | _ | ms | ⟨ms, e⟩
  · exact RunL.guard hg ht hf
  · exact Walk.guard hg ht hf
  · exact gen _ ht hf
  · exact gen _ ht hf
/-- The next guard is a known one. -/
theorem Rg.lit (b : Bool) {t : Nat} (hg : guardOf ops env o = some (t, b)) (h : Rg P f fn n0 Q k ops d (o :: rest) env st) : Rg P f fn n0 Q k ops d (o :: rest) env st := h
theorem Run.regR {id : Nat} {l : List Oper} (h : Rg P f fn n0 Q k l.toArray .seq l env st) : Run P f fn n0 Q (.code (.region id l.toArray false) :: k) env st := Run.reg h
theorem Run.drwR {id : Nat} {l : List Oper} {lo : List Nat} (hm : P.follows .mixedOrders = true) (hB : fastG 0 (l.map (infoO l.toArray)) = true) (hl : frc (stores 0 l) = some lo)
    (h : Rg P f fn n0 Q k l.toArray (.drw lo 0) l env st) : Run P f fn n0 Q (.code (.region id l.toArray true) :: k) env st := Run.drwF hm hB (by rw [frc_spec hl]; exact h)
def permO (l : List Oper) : List Nat → Option (List Oper)
  | [] => some []
  | k :: π => match l[k]?, permO l π with
    | some o, some r => some (o :: r)
    | _, _ => none
theorem permO_spec {l : List Oper} : ∀ {π : List Nat} {r : List Oper}, permO l π = some r → lsP l.toArray π = r
  | [], r, h => by simp [permO] at h; subst h; rfl
  | k :: π, r, h => by
    unfold permO at h
    split at h
    · rename_i o r' ho hr
      simp at h
      subst h
      unfold lsP
      simp only [List.getElem?_toArray, ho]
      rw [permO_spec hr]
    · cases h
/-- A region that draws its order: lo: what may change the state; π: the order of the walk; ms: what may come behind each of lo. -/
theorem Run.drwP (lo π : List Nat) (ms : List (Option (List Nat))) {id : Nat} {l r : List Oper} (hm : P.follows .mixedOrders = true) (hB : (okP l.toArray lo π [] (Array.replicate l.toArray.size false) && Nat.ble π.length l.toArray.size && decide (msP l.toArray lo π [] = ms)) = true) (hr : permO l π = some r)
    (h : Rg P f fn n0 Q k l.toArray (.prm ms) r env st) : Run P f fn n0 Q (.code (.region id l.toArray true) :: k) env st := by
  simp only [Bool.and_eq_true, decide_eq_true_eq] at hB
  obtain ⟨⟨h1, h2⟩, h3⟩ := hB
  refine Run.drawM hm h1 h2 ?_
  rw [h3, permO_spec hr]
  exact h
/-- The one first, or the other. -/
theorem Rg.fork {m1 m2 : List (Option (List Nat))} {l1 l2 : List Oper} {e1 e2 : FT} (h1 : Rg P f fn n0 Q k ops (.prf m1 e1) l1 env st) (h2 : Rg P f fn n0 Q k ops (.prf m2 e2) l2 env st) : Rg P f fn n0 Q k ops (.prf [] (.fork m1 l1 e1 m2 l2 e2)) [] env st := ⟨h1, h2⟩
/-- An operation that may come behind: it leaves the same there. -/
theorem Stay.op {nt : Nat} (w : Bool) (hT : TOk P T) {e : Option Tmp} {c : Prop} {pv : PV} (hw : wants ops env o = some true) (hd : dstN nt o.dst = some e) (h : opX P T w (Env.only (o.looksAt ops) env).ev st o.op = some (c, pv, st)) (hc : c) (he : ∀ t, e = some t → env t = pv) : Stay P ops st nt o env := by
  obtain ⟨e', hd'⟩ := dstN_spec hd
  refine ⟨pv, ⟨hd', .inl ⟨hw, opX_spec hT h hc ⟨rfl, rfl⟩⟩⟩, ?_⟩
  rw [e']
  cases e with
  | none => rfl
  | some t =>
    funext x
    rw [put_at]
    split
    · rename_i hx; rw [hx]; exact (he t rfl).symm
    · rfl
theorem Stay.skip {nt : Nat} {e : Option Tmp} (hw : wants ops env o = some false) (hd : dstN nt o.dst = some e) (he : ∀ t, e = some t → env t = .atom undef) : Stay P ops st nt o env := by
  obtain ⟨e', hd'⟩ := dstN_spec hd
  refine ⟨_, ⟨hd', .inr ⟨hw, rfl⟩⟩, ?_⟩
  rw [e']
  cases e with
  | none => rfl
  | some t =>
    funext x
    rw [put_at]
    split
    · rename_i hx; rw [hx]; exact (he t rfl).symm
    · rfl
end
end Go.Sy
end
section
/- Calls that take, change and hand back own memory: a contract about few blocks, used among many. -/
set_option linter.unusedVariables false
set_option linter.unusedSimpArgs false
set_option linter.unusedSectionVars false
namespace Go.Sy
open Go Go.RowKit

mutual
def rnP (f : Nat → Nat) : PV → PV
  | .ptr i k off => .ptr (f i) k off
  | .slc i k n => .slc (f i) k n
  | .agg cs => .agg (rnPL f cs)
  | .tup cs => .tup (rnPL f cs)
  | .iface t p => .iface t (rnP f p)
  | .func g cs => .func g (rnPL f cs)
  | .any => .any
  | .atom v => .atom v
  | .fptr sz n el k off => .fptr sz n el k off
  | .fz sz n el => .fz sz n el
def rnPL (f : Nat → Nat) : List PV → List PV
  | [] => []
  | p :: l => rnP f p :: rnPL f l
end
theorem rnPL_eq (f : Nat → Nat) (l : List PV) : rnPL f l = l.map (rnP f) := by
  induction l with
  | nil => rfl
  | cons p l ih => simp [rnPL, ih]
theorem VR.fwd {K : KH} {σ : Nat → Loc} {N : Nat} {p : PV} {v : Value} (h : VR K σ N p v) : ∀ {σ' : Nat → Loc} {N' : Nat} {f : Nat → Nat}, (∀ i, i < N → f i < N' ∧ σ' (f i) = σ i) → VR K σ' N' (rnP f p) v := by
  induction h with
  | any v => intro σ' N' f hf; unfold rnP; exact .any v
  | atom v => intro σ' N' f hf; unfold rnP; exact .atom v
  | ptr hi => intro σ' N' f hf; unfold rnP; rw [← (hf _ hi).2]; exact .ptr (hf _ hi).1
  | fptr hb hk hs hl h1 h _ => intro σ' N' f hf; unfold rnP; exact .fptr hb hk hs hl h1 (fun k hk j p hp => (h k hk j p hp).zero _ _)
  | slc hi hr ht hn hm => intro σ' N' f hf; unfold rnP; rw [← (hf _ hi).2] at hr ht ⊢; exact .slc (hf _ hi).1 hr ht hn hm
  | slc0 A => intro σ' N' f hf; unfold rnP; exact .slc0 A
  | fz hb hn hc hm hs hl h1 h _ => intro σ' N' f hf; unfold rnP; exact .fz hb hn hc hm hs hl h1 (fun k hk j p hp => (h k hk j p hp).zero _ _)
  | fz0 A cap hm => intro σ' N' f hf; unfold rnP; exact .fz0 A cap hm
  | @agg N cs vs hl h ih =>
    intro σ' N' f hf; unfold rnP
    refine .agg (by rw [rnPL_eq]; simpa using hl) (fun j p hp => ?_)
    rw [rnPL_eq, List.getElem?_map, Option.map_eq_some_iff] at hp
    obtain ⟨q, hq, rfl⟩ := hp
    exact ih j q hq hf
  | @tup N cs vs hl h ih =>
    intro σ' N' f hf; unfold rnP
    refine .tup (by rw [rnPL_eq]; simpa using hl) (fun j p hp => ?_)
    rw [rnPL_eq, List.getElem?_map, Option.map_eq_some_iff] at hp
    obtain ⟨q, hq, rfl⟩ := hp
    exact ih j q hq hf
  | iface _ ih => intro σ' N' f hf; unfold rnP; exact .iface (ih hf)
  | @func N g cs vs hl h ih =>
    intro σ' N' f hf; unfold rnP
    refine .func (by rw [rnPL_eq]; simpa using hl) (fun j p hp => ?_)
    rw [rnPL_eq, List.getElem?_map, Option.map_eq_some_iff] at hp
    obtain ⟨q, hq, rfl⟩ := hp
    exact ih j q hq hf

def rnB (f : Nat → Nat) : Option Blk → Option Blk
  | none => none
  | some ⟨e, sz, n, el, ro, fu⟩ => some ⟨e, sz, n, fun k => rnPL f (el k), ro, fu⟩
theorem rnB_some {f : Nat → Nat} {b : Option Blk} {B' : Blk} (h : rnB f b = some B') : ∃ B, b = some B ∧ B'.e = B.e ∧ B'.sz = B.sz ∧ B'.n = B.n ∧ B'.ro = B.ro ∧ ∀ k, B'.el k = rnPL f (B.el k) := by
  cases b with
  | none => simp [rnB] at h
  | some B => cases B; simp [rnB] at h; subst h; exact ⟨_, rfl, rfl, rfl, rfl, rfl, fun _ => rfl⟩
theorem rnB_full {f : Nat → Nat} {b : Option Blk} {B' : Blk} (h : rnB f b = some B') : ∃ B, b = some B ∧ B'.n = B.n ∧ B'.full = B.full := by
  cases b with
  | none => simp [rnB] at h
  | some B => cases B; simp [rnB] at h; subst h; exact ⟨_, rfl, rfl, rfl⟩
/-- The caller's blocks behind a call. -/
def putAll (f : Nat → Nat) : List Nat → St → St → St
  | [], s0, st => st ++ s0.map (rnB f)
  | r :: rs, b :: s0, st => putAll f rs s0 (st.upd r (rnB f b))
  | _ :: _, [], st => st
def fwd (rs : List Nat) (N : Nat) (i : Nat) : Nat := bif Nat.blt i rs.length then lgetN rs i else N + (i - rs.length)

theorem putAll_len (f : Nat → Nat) : ∀ (rs : List Nat) (s0 st : St), rs.length ≤ s0.length → (putAll f rs s0 st).length = st.length + (s0.length - rs.length)
  | [], s0, st, _ => by simp [putAll]
  | r :: rs, [], st, h => by simp at h
  | r :: rs, b :: s0, st, h => by
    simp at h
    simp only [putAll, putAll_len f rs s0 _ h, St.length_upd, List.length_cons]
    omega
variable [Globs] in
theorem putAll_cases (f : Nat → Nat) : ∀ (rs : List Nat) (s0 st : St), rs.length ≤ s0.length → nodupB rs = true → ∀ {i : Nat} {B' : Blk}, (putAll f rs s0 st).get i = some B' →
    (∃ j, j < rs.length ∧ lgetN rs j = i ∧ rnB f (s0.get j) = some B') ∨ (i < st.length ∧ (∀ j, j < rs.length → lgetN rs j ≠ i) ∧ st.get i = some B') ∨ (st.length ≤ i ∧ rnB f (s0.get (rs.length + (i - st.length))) = some B')
  | [], s0, st, _, _, i, B', h => by
    simp only [putAll] at h
    rw [St.get_eq] at h
    rcases Nat.lt_or_ge i st.length with hi | hi
    · rw [List.getElem?_append_left hi, ← St.get_eq] at h
      exact .inr (.inl ⟨hi, fun j hj => by simp at hj, h⟩)
    · rw [List.getElem?_append_right hi, List.getElem?_map] at h
      refine .inr (.inr ⟨hi, ?_⟩)
      rw [St.get_eq]
      simp only [List.length_nil, Nat.zero_add]
      cases hh : s0[i - st.length]? with
      | none => rw [hh] at h; simp at h
      | some b => rw [hh] at h; simpa using h
  | r :: rs, [], st, h, _, i, B', _ => by simp at h
  | r :: rs, b :: s0, st, hl, hn, i, B', h => by
    simp only [List.length_cons, Nat.add_le_add_iff_right] at hl
    simp only [putAll] at h
    unfold nodupB at hn
    cases hm : lmem r rs with
    | true => simp [hm] at hn
    | false =>
      simp only [hm, cond_false] at hn
      have hnr : ∀ j, j < rs.length → lgetN rs j ≠ r := fun j hj he => by
        have hin : r ∈ rs := he ▸ lgetN_mem hj
        rw [(lmem_eq r rs).2 hin] at hm; cases hm
      rcases putAll_cases f rs s0 _ hl hn h with ⟨j, hj, he, hb⟩ | ⟨hi, hno, hb⟩ | ⟨hi, hb⟩
      · exact .inl ⟨j + 1, by simpa using hj, he, by simpa [St.get] using hb⟩
      · rw [St.length_upd] at hi
        rcases St.get_upd_cases hb with ⟨hir, hb2⟩ | ⟨hne, hb2⟩
        · exact .inl ⟨0, by simp, hir.symm, hb2⟩
        · refine .inr (.inl ⟨hi, fun j hj => ?_, hb2⟩)
          cases j with
          | zero => exact fun e => hne e.symm
          | succ j => simpa [lgetN] using hno j (by simpa using hj)
      · rw [St.length_upd] at hi hb
        refine .inr (.inr ⟨hi, ?_⟩)
        rw [show (r :: rs).length + (i - st.length) = (rs.length + (i - st.length)) + 1 by simp; omega]
        simpa [St.get] using hb

variable [Globs]
/-- Nothing in a state is frozen. -/
def NoRo (s : St) : Prop := ∀ i B, s.get i = some B → B.ro = false

theorem Spec.frame {P : Program} {g : FuncId} {asx as' : List PV} {st0 st : St} {R : PV → St → Prop} {rs : List Nat} (hs : Spec P g asx st0 R) (hro : ∀ pv s, R pv s → NoRo s) (hr0 : NoRo st0) (hlen : rs.length = st0.length) (hnd : nodupB rs = true) (hlt : ∀ i, i < rs.length → lgetN rs i < st.length)
    (hsub : ∀ i B', st0.get i = some B' → ∃ B, st.get (lgetN rs i) = some B ∧ B'.e = B.e ∧ B'.sz = B.sz ∧ B'.n = B.n ∧ B'.as B = true ∧ ∀ k, k < B.n → RnL (lgetN rs) st0.length (B.el k) (B'.el k)) (hargs : RnL (lgetN rs) st0.length as' asx) :
    Spec P g as' st (fun pv s => ∃ pv0 s0, R pv0 s0 ∧ pv = rnP (fwd rs st.length) pv0 ∧ s = putAll (fwd rs st.length) rs s0 st) := by
  refine ⟨hs.1, fun K σ w vs hR hsz hv => ?_⟩
  obtain ⟨hl, hat⟩ := hargs.spec
  have hinj : ∀ i j, i < st0.length → j < st0.length → lgetN rs i = lgetN rs j → i = j := fun i j hi hj he => nodupB_inj hnd (hlen ▸ hi) (hlen ▸ hj) he
  -- the callee's view
  have hR0 : Rel K (fun i => σ (lgetN rs i)) st0 w := by
    refine ⟨hR.kin, fun i B' hB' => ?_, fun i j B C hB hC h1 h2 he => ?_, hR.gl, fun i B' hB' hf hr2 => by
      obtain ⟨B, hB, e1, e2, e3, e4, e5⟩ := hsub i B' hB'
      rw [e3]; exact hR.fl _ B hB ((Blk.as_spec e4).2 hf) hr2⟩
    · obtain ⟨B, hB, e1, e2, e3, e4, e5⟩ := hsub i B' hB'
      have e4 := (Blk.as_spec e4).1
      rcases hR.own _ B hB with ⟨hf, h0⟩ | ⟨hr', cur, g1, g2, g3, g4, g5⟩
      · exact .inl ⟨hf, e3 ▸ h0⟩
      · refine .inr ⟨hr', cur, e1 ▸ g1, g2, e2 ▸ g3, ⟨by rw [e3, e2]; exact g4.1, g4.2.1, fun k hk => ?_⟩, by rw [e4]; exact g5⟩
        · rw [e3] at hk
          obtain ⟨a1, a2⟩ := g4.2.2 k hk
          obtain ⟨b1, b2⟩ := (e5 k hk).spec
          rw [e2]
          refine ⟨by rw [← b1]; exact a1, fun j q hq => ?_⟩
          have hlt : j < (B.el k).length := by rw [b1]; exact (List.getElem?_eq_some_iff.1 hq).1
          have hp := List.getElem?_eq_getElem hlt
          exact (b2 j _ q hp hq).spec (a2 j _ hp)
    · obtain ⟨B1, hB1, _⟩ := hsub i B hB
      obtain ⟨C1, hC1, _⟩ := hsub j C hC
      exact hinj i j (St.get_lt hB) (St.get_lt hC) (hR.sep _ _ B1 C1 hB1 hC1 h1 h2 he)
  refine (hs.2 K (fun i => σ (lgetN rs i)) w vs hR0 (by rw [hsz, hl]) (fun j q hq => ?_)).mono ?_
  · have hlt : j < as'.length := by rw [hl]; exact (List.getElem?_eq_some_iff.1 hq).1
    have hp := List.getElem?_eq_getElem hlt
    exact (hat j _ q hp hq).spec (hv j _ hp)
  rintro e w' ⟨v, rfl, K', σ0, s0, pv0, hq, hx, hR', hvr⟩
  have hx := (show ExtN st0.length K (fun i => σ (lgetN rs i)) st0 w K' σ0 s0 w' from hx)
  have hns := hro _ _ hq
  have hsl : rs.length ≤ s0.length := by rw [hlen]; exact hx.len
  -- the new places
  let σ1 : Nat → Loc := fun i => if i < st.length then σ i else σ0 (rs.length + (i - st.length))
  have hσold : ∀ i, i < st.length → σ1 i = σ i := fun i hi => if_pos hi
  have hf : ∀ i, i < s0.length → fwd rs st.length i < (putAll (fwd rs st.length) rs s0 st).length ∧ σ1 (fwd rs st.length i) = σ0 i := by
    intro i hi
    rw [putAll_len _ _ _ _ hsl]
    unfold fwd
    cases hb : Nat.blt i rs.length with
    | true =>
      have hb' : i < rs.length := by rwa [Nat.blt_eq] at hb
      have := hlt i hb'
      refine ⟨by simp only [cond_true]; omega, ?_⟩
      simp only [cond_true]
      rw [hσold _ this]
      exact (hx.sig i (by omega)).symm
    | false =>
      have hb' : ¬ i < rs.length := by intro hh; rw [← Nat.blt_eq] at hh; rw [hh] at hb; cases hb
      refine ⟨by simp only [cond_false]; omega, ?_⟩
      simp only [cond_false]
      show (if st.length + (i - rs.length) < st.length then σ (st.length + (i - rs.length)) else σ0 (rs.length + (st.length + (i - rs.length) - st.length))) = σ0 i
      rw [if_neg (by omega)]
      congr 1; omega
  -- an own block of the callee is one of the caller's, or new
  have own0 : ∀ j B, s0.get j = some B → (σ0 j).real = true → (∃ l B1, l < rs.length ∧ st.get (lgetN rs l) = some B1 ∧ B1.ro = false ∧ (σ (lgetN rs l)).real = true ∧ (σ (lgetN rs l)).blk = (σ0 j).blk) ∨ w.heap.size ≤ (σ0 j).blk := by
    intro j B hB hr
    rcases hx.live j B hB (hns j B hB) hr with ⟨l, B', hl', hro', hr', he⟩ | h
    · obtain ⟨B1, hB1, _, _, _, e4, _⟩ := hsub l B' hl'
      exact .inl ⟨l, B1, by rw [hlen]; exact St.get_lt hl', hB1, (Blk.as_spec e4).1 ▸ hro', hr', he⟩
    · exact .inr h
  -- a caller's block that is not lent stays
  have away : ∀ i B, st.get i = some B → (∀ j, j < rs.length → lgetN rs j ≠ i) → (σ i).real = true → ∀ j B', st0.get j = some B' → B'.ro = false → (σ (lgetN rs j)).real = true → (σ (lgetN rs j)).blk ≠ (σ i).blk := by
    intro i B hB hno hr j B' hB' _ hr' he
    obtain ⟨B1, hB1, _⟩ := hsub j B' hB'
    exact hno j (by rw [hlen]; exact St.get_lt hB') (hR.sep _ _ B1 B hB1 hB hr' hr he)
  have hkeep : ∀ i B, st.get i = some B → (∀ j, j < rs.length → lgetN rs j ≠ i) → (σ i).real = true → w'.heap[(σ i).blk]? = w.heap[(σ i).blk]? := fun i B hB hno hr =>
    hx.keep _ (hR.blt hB hr) (fun j B' hB' hro' hr' => away i B hB hno hr j B' hB' hro' hr')
  have hfar : ∀ i B, st.get i = some B → (∀ j, j < rs.length → lgetN rs j ≠ i) → (σ i).real = true → ∀ j B', s0.get j = some B' → (σ0 j).real = true → (σ0 j).blk ≠ (σ i).blk := by
    intro i B hB hno hr j B' hB' hr' he
    rcases own0 j B' hB' hr' with ⟨l, B1, hl', hB1, _, hr1, he1⟩ | h
    · exact hno l hl' (hR.sep _ _ B1 B hB1 hB hr1 hr (he1.trans he))
    · have := hR.blt hB hr; omega
  have hmono : ∀ b c, K b = some c → K' b = some c := hx.kle
  have hN1 : st.length ≤ (putAll (fwd rs st.length) rs s0 st).length := by rw [putAll_len _ _ _ _ hsl]; omega
  -- blocks of the callee, under the caller's numbers
  have callee : ∀ i j B', rnB (fwd rs st.length) (s0.get j) = some B' → σ1 i = σ0 j → ((σ1 i).real = false ∧ B'.n = 0) ∨ ((σ1 i).real = true ∧ ∃ cur, w'.heap[(σ1 i).blk]? = some (.cells cur B'.e (0, 0)) ∧ cur.size = (σ1 i).tot ∧ (σ1 i).sz = B'.sz ∧ Holds K' σ1 (putAll (fwd rs st.length) rs s0 st).length B'.sz B'.n B'.el cur (σ1 i).off ∧
      K' (σ1 i).blk = (if B'.ro then some cur else none)) := by
    intro i j B' hB' he
    obtain ⟨B, hB, e1, e2, e3, e4, e5⟩ := rnB_some hB'
    rw [he, e1, e2, e3, e4]
    rcases hR'.own j B hB with h | ⟨hr, cur, g1, g2, g3, g4, g5⟩
    · exact .inl h
    · refine .inr ⟨hr, cur, g1, g2, g3, ⟨g4.1, g4.2.1, fun k hk => ?_⟩, g5⟩
      obtain ⟨a1, a2⟩ := g4.2.2 k hk
      rw [e5 k, rnPL_eq]
      refine ⟨by simpa using a1, fun l p hp => ?_⟩
      rw [List.getElem?_map, Option.map_eq_some_iff] at hp
      obtain ⟨q, hq', rfl⟩ := hp
      exact (a2 l q hq').fwd (fun i hi => hf i hi)
  have hσim : ∀ j, j < rs.length → σ1 (lgetN rs j) = σ0 j := fun j hj => by rw [hσold _ (hlt j hj)]; exact (hx.sig j (by omega)).symm
  have hσnew : ∀ i, st.length ≤ i → σ1 i = σ0 (rs.length + (i - st.length)) := fun i hi => if_neg (by omega)
  refine ⟨v, rfl, K', σ1, putAll (fwd rs st.length) rs s0 st, rnP (fwd rs st.length) pv0, ⟨pv0, s0, hq, rfl, rfl⟩, ?_, ?_, hvr.fwd hf⟩
  · refine ⟨hmono, hσold, hN1, hx.os, hx.tape, hx.output, hx.size, fun i B' hB' hro' hr' => ?_, fun k hk hn => ?_, fun b c hb => ?_⟩
    · rcases putAll_cases _ _ _ _ hsl hnd hB' with ⟨j, hj, rfl, hb⟩ | ⟨hi, hno, hb⟩ | ⟨hi, hb⟩
      · obtain ⟨B, hB, _⟩ := rnB_some hb
        rw [hσim j hj] at hr' ⊢
        rcases own0 j B hB hr' with ⟨l, B1, hl', hB1, hro1, hr1, he1⟩ | h
        · exact .inl ⟨_, B1, hB1, hro1, hr1, he1⟩
        · exact .inr h
      · rw [hσold i hi] at hr' ⊢
        exact .inl ⟨i, B', hb, hro', hr', rfl⟩
      · obtain ⟨B, hB, _⟩ := rnB_some hb
        rw [hσnew i hi] at hr' ⊢
        rcases own0 _ B hB hr' with ⟨l, B1, hl', hB1, hro1, hr1, he1⟩ | h
        · exact .inl ⟨_, B1, hB1, hro1, hr1, he1⟩
        · exact .inr h
    · refine hx.keep k hk (fun j B' hB' hro' hr' he => ?_)
      obtain ⟨B1, hB1, _, _, _, e4, _⟩ := hsub j B' hB'
      exact hn _ B1 hB1 ((Blk.as_spec e4).1 ▸ hro') hr' he
    · rcases hx.knew b c hb with hb | ⟨j, B', hB', hro', hr', he⟩ | hb
      · exact .inl hb
      · obtain ⟨B1, hB1, _, _, _, e4, _⟩ := hsub j B' hB'
        exact .inr (.inl ⟨_, B1, hB1, (Blk.as_spec e4).1 ▸ hro', hr', he⟩)
      · exact .inr (.inr hb)
  · refine ⟨hR'.kin, fun i B' hB' => ?_, fun i j B C hB hC h1 h2 he => ?_, hR'.gl, fun i B' hB' hf2 hr2 => by
      rcases putAll_cases _ _ _ _ hsl hnd hB' with ⟨j, hj, rfl, hb⟩ | ⟨hi, hno, hb⟩ | ⟨hi, hb⟩
      · obtain ⟨B, hB, en, ef⟩ := rnB_full hb
        rw [hσim j hj] at hr2 ⊢
        rw [en]; exact hR'.fl j B hB (ef ▸ hf2) hr2
      · rw [hσold i hi] at hr2 ⊢; exact hR.fl i B' hb hf2 hr2
      · obtain ⟨B, hB, en, ef⟩ := rnB_full hb
        rw [hσnew i hi] at hr2 ⊢
        rw [en]; exact hR'.fl _ B hB (ef ▸ hf2) hr2⟩
    · rcases putAll_cases _ _ _ _ hsl hnd hB' with ⟨j, hj, rfl, hb⟩ | ⟨hi, hno, hb⟩ | ⟨hi, hb⟩
      · exact callee _ j B' hb (hσim j hj)
      · rw [hσold i hi]
        rcases hR.own i B' hb with h | ⟨hr, cur, g1, g2, g3, g4, g5⟩
        · exact .inl h
        · refine .inr ⟨hr, cur, (hkeep i B' hb hno hr).trans g1, g2, g3, g4.mono hmono hσold hN1, ?_⟩
          cases hro' : B'.ro with
          | true => rw [hro'] at g5; simp only [if_true] at g5 ⊢; exact hmono _ _ g5
          | false =>
            rw [hro'] at g5
            simp only [Bool.false_eq_true, if_false] at g5 ⊢
            cases hk : K' (σ i).blk with
            | none => rfl
            | some c =>
              rcases hx.knew _ _ hk with h | ⟨j, B1, hB1, hro1, hr1, he1⟩ | h
              · rw [g5] at h; cases h
              · exact absurd he1 (away i B' hb hno hr j B1 hB1 hro1 hr1)
              · have := hR.blt hb hr; omega
      · exact callee _ _ B' hb (hσnew i hi)
    · -- no two are one
      have idx : ∀ {i : Nat} {B' : Blk}, (putAll (fwd rs st.length) rs s0 st).get i = some B' → (i < st.length ∧ (∀ j, j < rs.length → lgetN rs j ≠ i) ∧ st.get i = some B') ∨ ∃ j B1, s0.get j = some B1 ∧ σ1 i = σ0 j ∧ i = fwd rs st.length j := by
        intro i B' hB'
        rcases putAll_cases _ _ _ _ hsl hnd hB' with ⟨j, hj, rfl, hb⟩ | h | ⟨hi, hb⟩
        · obtain ⟨B1, hB1, _⟩ := rnB_some hb
          refine .inr ⟨j, B1, hB1, hσim j hj, ?_⟩
          unfold fwd
          rw [show Nat.blt j rs.length = true by rw [Nat.blt_eq]; exact hj]; rfl
        · exact .inl h
        · obtain ⟨B1, hB1, _⟩ := rnB_some hb
          refine .inr ⟨_, B1, hB1, hσnew i hi, ?_⟩
          unfold fwd
          have : Nat.blt (rs.length + (i - st.length)) rs.length = false := by rw [Bool.eq_false_iff]; intro hh; rw [Nat.blt_eq] at hh; omega
          rw [this, cond_false]; omega
      rcases idx hB with ⟨hi, hni, hb⟩ | ⟨a, B1, hB1, ha, hia⟩ <;> rcases idx hC with ⟨hj, hnj, hc⟩ | ⟨b, C1, hC1, hb', hjb⟩
      · rw [hσold i hi] at h1 he
        rw [hσold j hj] at h2 he
        exact hR.sep i j B C hb hc h1 h2 he
      · rw [hσold i hi] at h1 he
        rw [hb'] at h2 he
        exact absurd he.symm (hfar i B hb hni h1 b C1 hC1 h2)
      · rw [hσold j hj] at h2 he
        rw [ha] at h1 he
        exact absurd he (hfar j C hc hnj h2 a B1 hB1 h1)
      · rw [ha] at h1 he
        rw [hb'] at h2 he
        rw [hia, hjb, hR'.sep a b B1 C1 hB1 hC1 h1 h2 he]
end Go.Sy
end
