/- Texts merged: Y8. -/
import Derived.Test.YtffckdfcmdmnoaaDoorM4
section
/- Calls, returns, loops. -/
set_option linter.unusedVariables false
set_option linter.unusedSimpArgs false
set_option linter.unusedSectionVars false
namespace Go.Sy
open Go Go.RowKit
variable [Globs]

/-! ### what speaks of no own block -/
mutual
def closedB : PV → Bool
  | .any | .atom _ | .fptr _ _ _ _ _ | .fz _ _ _ => true
  | .ptr _ _ _ | .slc _ _ _ => false
  | .agg cs => closedL cs
  | .tup cs => closedL cs
  | .iface _ p => closedB p
  | .func _ cs => closedL cs
def closedL : List PV → Bool
  | [] => true
  | p :: l => bif closedB p then closedL l else false
end
theorem closedL_mem {l : List PV} (h : closedL l = true) : ∀ p ∈ l, closedB p = true := by
  induction l with
  | nil => simp
  | cons p l ih =>
    unfold closedL at h
    cases hc : closedB p with
    | false => simp [hc] at h
    | true => simp [hc] at h; simp [hc]; exact ih h
theorem VR.closed {K : KH} {σ : Nat → Loc} {N : Nat} {p : PV} {v : Value} (h : VR K σ N p v) : closedB p = true → VR K σ 0 p v := by
  induction h with
  | any v => intro _; exact .any v
  | atom v => intro _; exact .atom v
  | ptr hi => intro hc; simp [closedB] at hc
  | fptr hb hk hs hl h1 h _ => intro _; exact .fptr hb hk hs hl h1 h
  | slc hi hr ht hn hm => intro hc; simp [closedB] at hc
  | slc0 A => intro hc; simp [closedB] at hc
  | fz hb hn hc' hm hs hl h1 h _ => intro _; exact .fz hb hn hc' hm hs hl h1 h
  | fz0 A cap hm => intro _; exact .fz0 A cap hm
  | agg hl _ ih => intro hc; unfold closedB at hc; exact .agg hl (fun j p hp => ih j p hp (closedL_mem hc p (List.mem_of_getElem? hp)))
  | tup hl _ ih => intro hc; unfold closedB at hc; exact .tup hl (fun j p hp => ih j p hp (closedL_mem hc p (List.mem_of_getElem? hp)))
  | iface _ ih => intro hc; unfold closedB at hc; exact .iface (ih hc)
  | func hl _ ih => intro hc; unfold closedB at hc; exact .func hl (fun j p hp => ih j p hp (closedL_mem hc p (List.mem_of_getElem? hp)))

/-! ### other words for a value -/
inductive Cv (ok : Blk → Bool) (st : St) : PV → PV → Prop
  | refl (p : PV) : Cv ok st p p
  | any (p : PV) : Cv ok st p .any
  | slc {i k n : Nat} {B : Blk} {el : Nat → List PV} (hB : st.get i = some B) (hok : ok B = true) (hn : k + n ≤ B.n) (hl : ∀ j, j < n → (B.el (k + j)).length = (el j).length) (hc : ∀ j, j < n → closedL (el j) = true)
      (h : ∀ j, j < n → ∀ (t : Nat) (p q : PV), (B.el (k + j))[t]? = some p → (el j)[t]? = some q → Cv ok st p q) : Cv ok st (.slc i k n) (.fz B.sz n el)
  | fz {sz n : Nat} {el el' : Nat → List PV} (hl : ∀ j, j < n → (el j).length = (el' j).length) (hc : ∀ j, j < n → closedL (el' j) = true)
      (h : ∀ j, j < n → ∀ (t : Nat) (p q : PV), (el j)[t]? = some p → (el' j)[t]? = some q → Cv ok st p q) : Cv ok st (.fz sz n el) (.fz sz n el')
  | fz0 {sz sz' : Nat} {el el' : Nat → List PV} : Cv ok st (.fz sz 0 el) (.fz sz' 0 el')
  | slc0 {i k sz : Nat} {el' : Nat → List PV} (hi : i < st.length) : Cv ok st (.slc i k 0) (.fz sz 0 el')
  | nil {sz : Nat} {el : Nat → List PV} : Cv ok st (.atom (.slice none 0 0)) (.fz sz 0 el)
  | agg {cs ds : List PV} (hl : cs.length = ds.length) (h : ∀ (t : Nat) (p q : PV), cs[t]? = some p → ds[t]? = some q → Cv ok st p q) : Cv ok st (.agg cs) (.agg ds)
  | tup {cs ds : List PV} (hl : cs.length = ds.length) (h : ∀ (t : Nat) (p q : PV), cs[t]? = some p → ds[t]? = some q → Cv ok st p q) : Cv ok st (.tup cs) (.tup ds)
  | func {f : FuncId} {cs ds : List PV} (hl : cs.length = ds.length) (h : ∀ (t : Nat) (p q : PV), cs[t]? = some p → ds[t]? = some q → Cv ok st p q) : Cv ok st (.func f cs) (.func f ds)
  | ptr {i k off : Nat} {B : Blk} {el : Nat → List PV} (hB : st.get i = some B) (hok : ok B = true) (hk : k < B.n) (hl : ∀ j, j < B.n → (B.el j).length = (el j).length) (hc : ∀ j, j < B.n → closedL (el j) = true)
      (h : ∀ j, j < B.n → ∀ (t : Nat) (p q : PV), (B.el j)[t]? = some p → (el j)[t]? = some q → Cv ok st p q) : Cv ok st (.ptr i k off) (.fptr B.sz B.n el k off)

def CvL (ok : Blk → Bool) (st : St) : List PV → List PV → Prop
  | [], [] => True
  | p :: l, q :: m => Cv ok st p q ∧ CvL ok st l m
  | _, _ => False
theorem CvL.spec {ok : Blk → Bool} {st : St} : ∀ {l m : List PV}, CvL ok st l m → l.length = m.length ∧ ∀ (t : Nat) p q, l[t]? = some p → m[t]? = some q → Cv ok st p q
  | [], [], _ => ⟨rfl, fun t p q hp => by simp at hp⟩
  | p :: l, q :: m, h => by
    obtain ⟨h1, h2⟩ := CvL.spec h.2
    refine ⟨by simp [h1], fun t a b ha hb => ?_⟩
    cases t with
    | zero => simp at ha hb; subst ha; subst hb; exact h.1
    | succ t => simp at ha hb; exact h2 t a b ha hb
  | [], _ :: _, h => h.elim
  | _ :: _, [], h => h.elim
theorem CvL.refl {ok : Blk → Bool} {st : St} : ∀ (l : List PV), CvL ok st l l
  | [] => trivial
  | p :: l => ⟨.refl p, CvL.refl l⟩
theorem Cv.agg' {ok : Blk → Bool} {st : St} {cs ds : List PV} (h : CvL ok st cs ds) : Cv ok st (.agg cs) (.agg ds) := .agg h.spec.1 h.spec.2
theorem Cv.tup' {ok : Blk → Bool} {st : St} {cs ds : List PV} (h : CvL ok st cs ds) : Cv ok st (.tup cs) (.tup ds) := .tup h.spec.1 h.spec.2
theorem Cv.func' {ok : Blk → Bool} {st : St} {f : FuncId} {cs ds : List PV} (h : CvL ok st cs ds) : Cv ok st (.func f cs) (.func f ds) := .func h.spec.1 h.spec.2
/-- A pointer to a block of one element of one's own. -/
theorem Cv.box {ok : Blk → Bool} {st : St} {i off : Nat} {B : Blk} {sz : Nat} {cs : List PV} (hB : st.get i = some B) (hok : ok B = true) (hn : Nat.beq B.n 1 = true) (hsz : Nat.beq B.sz sz = true) (hc : closedL cs = true) (h : CvL ok st (B.el 0) cs) : Cv ok st (.ptr i 0 off) (.fptr sz 1 (fun _ => cs) 0 off) := by
  have h1 := Nat.eq_of_beq_eq_true hn
  have h2 := Nat.eq_of_beq_eq_true hsz
  subst h2
  rw [← h1]
  exact .ptr hB hok (by omega) (fun j hj => by obtain rfl : j = 0 := by omega
                                               exact h.spec.1) (fun j _ => hc) (fun j hj => by obtain rfl : j = 0 := by omega
                                                                                               exact h.spec.2)
theorem Cv.slc' {ok : Blk → Bool} {st : St} {i k n : Nat} {B : Blk} {sz : Nat} {el : Nat → List PV} (hB : st.get i = some B) (hok : ok B = true) (hsz : Nat.beq B.sz sz = true) (hn : k + n ≤ B.n) (hc : ∀ j, j < n → closedL (el j) = true) (h : ∀ j, j < n → CvL ok st (B.el (k + j)) (el j)) : Cv ok st (.slc i k n) (.fz sz n el) := by
  have := Nat.eq_of_beq_eq_true hsz
  subst this
  exact .slc hB hok hn (fun j hj => (h j hj).spec.1) hc (fun j hj => (h j hj).spec.2)
theorem Cv.fz' {ok : Blk → Bool} {st : St} {sz n : Nat} {el el' : Nat → List PV} (hc : ∀ j, j < n → closedL (el' j) = true) (h : ∀ j, j < n → CvL ok st (el j) (el' j)) : Cv ok st (.fz sz n el) (.fz sz n el') :=
  .fz (fun j hj => (h j hj).spec.1) hc (fun j hj => (h j hj).spec.2)
/-- The same elements, said otherwise. -/
theorem Cv.fzEq {ok : Blk → Bool} {st : St} {sz n n' : Nat} {el el' : Nat → List PV} (hn : n = n') (hc : ∀ j, j < n → closedL (el' j) = true) (h : ∀ j, j < n → el j = el' j) : Cv ok st (.fz sz n el) (.fz sz n' el') := by
  subst hn
  exact .fz' hc (fun j hj => h j hj ▸ CvL.refl _)
theorem Cv.slcEq {ok : Blk → Bool} {st : St} {i k n n' : Nat} {B : Blk} {sz : Nat} {el : Nat → List PV} (hB : st.get i = some B) (hok : ok B = true) (hsz : Nat.beq B.sz sz = true) (hn : k + n ≤ B.n) (hnn : n = n') (hc : ∀ j, j < n → closedL (el j) = true) (h : ∀ j, j < n → B.el (k + j) = el j) : Cv ok st (.slc i k n) (.fz sz n' el) := by
  subst hnn
  exact .slc' hB hok hsz hn hc (fun j hj => h j hj ▸ CvL.refl _)

open Classical in
/-- What stays, if the own blocks that 'ok' names are left alone from now on. -/
noncomputable def Kall (ok : Blk → Bool) (K : KH) (σ : Nat → Loc) (st : St) (w : World) : KH := fun b =>
  match K b with
  | some c => some c
  | none => if ∃ i B, st.get i = some B ∧ ok B = true ∧ (σ i).real = true ∧ (σ i).blk = b then (match w.heap[b]? with | some (.cells cur _ _) => some cur | _ => none) else none

theorem Kall.le {ok : Blk → Bool} {K : KH} {σ : Nat → Loc} {st : St} {w : World} {b : Nat} {cur : Array Value} (h : K b = some cur) : Kall ok K σ st w b = some cur := by simp [Kall, h]
theorem Kall.new {ok : Blk → Bool} {K : KH} {σ : Nat → Loc} {st : St} {w : World} (hR : Rel K σ st w) {b : Nat} {cur : Array Value} (h : Kall ok K σ st w b = some cur) : K b = some cur ∨ (∃ i B, st.get i = some B ∧ ok B = true ∧ (σ i).real = true ∧ (σ i).blk = b ∧ w.heap[b]? = some (.cells cur B.e (0, 0))) := by
  unfold Kall at h
  cases hk : K b with
  | some c => simp [hk] at h; subst h; exact .inl rfl
  | none =>
    simp only [hk] at h
    split at h
    · rename_i hex
      obtain ⟨i, B, hB, hok, hr, hb⟩ := hex
      rcases hR.own i B hB with ⟨hf, _⟩ | ⟨_, cur', g1, _⟩
      · rw [hr] at hf; cases hf
      · rw [hb] at g1
        simp only [g1, Option.some.injEq] at h
        subst h
        exact .inr ⟨i, B, hB, hok, hr, hb, g1⟩
    · cases h
theorem Kall.in {ok : Blk → Bool} {K : KH} {σ : Nat → Loc} {st : St} {w : World} (hR : Rel K σ st w) : ∀ b cur, Kall ok K σ st w b = some cur → InHeap w b cur := by
  intro b cur h
  rcases Kall.new hR h with h | ⟨i, B, _, _, _, _, g⟩
  · exact hR.kin b cur h
  · exact ⟨(B.e, (0, 0)), g⟩
theorem Kall.own {ok : Blk → Bool} {K : KH} {σ : Nat → Loc} {st : St} {w : World} {i : Nat} {B : Blk} {cur : Array Value} (hB : st.get i = some B) (hok : ok B = true) (hr : (σ i).real = true) (hK : K (σ i).blk = none ∨ K (σ i).blk = some cur) (hw : w.heap[(σ i).blk]? = some (.cells cur B.e (0, 0))) : Kall ok K σ st w (σ i).blk = some cur := by
  unfold Kall
  rcases hK with hK | hK
  · simp only [hK]
    rw [if_pos ⟨i, B, hB, hok, hr, rfl⟩, hw]
  · simp [hK]

theorem Cv.spec {ok : Blk → Bool} {K : KH} {σ : Nat → Loc} {st : St} {w : World} (hR : Rel K σ st w) {p q : PV} (h : Cv ok st p q) : ∀ {v : Value}, VR K σ st.length p v → VR (Kall ok K σ st w) σ st.length q v := by
  have up : ∀ {N : Nat} {p : PV} {v : Value}, VR K σ N p v → VR (Kall ok K σ st w) σ N p v := fun h => h.mono (fun _ _ => Kall.le) (fun _ _ => rfl) (Nat.le_refl _)
  induction h with
  | refl p => intro v hv; exact up hv
  | any p => intro v hv; exact .any v
  | @slc i k n B el hB hok hn hl hc h ih =>
    intro v hv
    cases hv with
    | slc0 A => exact .fz0 _ _ (by simp [maxLen])
    | slc hi hr ht hnc hm =>
      rename_i cap
      rcases Nat.eq_zero_or_pos n with rfl | hpos
      · exact .fz0 _ _ hm
      rcases hR.own i B hB with ⟨hf, _⟩ | ⟨_, cur, g1, g2, g3, g4, g5⟩
      · rw [hr] at hf; cases hf
      have hK : Kall ok K σ st w (σ i).blk = some cur := Kall.own hB hok hr (by rw [g5]; split; (· exact .inr rfl); exact .inl rfl) g1
      have hmul : (k + n) * B.sz ≤ B.n * B.sz := Nat.mul_le_mul_right _ hn
      rw [Nat.add_mul] at hmul
      have hb := g4.1
      rw [g3]
      refine .fz hK hpos hnc hm (by omega) (fun j hj => ?_) (fun j l hj hl' => ?_) (fun j hj t q hq => ?_)
      · rw [← hl j hj]; exact (g4.2.2 (k + j) (by omega)).1
      · have := g4.one (k + j) l (by omega) hl'
        rwa [Nat.add_mul, ← Nat.add_assoc] at this
      · have hlt : t < (B.el (k + j)).length := by rw [hl j hj]; exact (List.getElem?_eq_some_iff.1 hq).1
        have hp := List.getElem?_eq_getElem hlt
        have h1 := (g4.2.2 (k + j) (by omega)).2 t _ hp
        have h2 := ih j hj t _ q hp hq h1
        rw [Nat.add_mul, ← Nat.add_assoc] at h2
        exact h2.closed (closedL_mem (hc j hj) q (List.mem_of_getElem? hq))
  | @fz sz n el el' hl hc h ih =>
    intro v hv
    cases hv with
    | fz hb hn hcap hm hs hl' h1 hcell =>
      refine .fz (Kall.le hb) hn hcap hm hs (fun j hj => by rw [← hl j hj]; exact hl' j hj) h1 (fun j hj t q hq => ?_)
      have hlt : t < (el j).length := by rw [hl j hj]; exact (List.getElem?_eq_some_iff.1 hq).1
      have hp := List.getElem?_eq_getElem hlt
      exact (ih j hj t _ q hp hq ((hcell j hj t _ hp).zero σ _)).closed (closedL_mem (hc j hj) q (List.mem_of_getElem? hq))
    | fz0 A cap hm => exact .fz0 _ _ hm
  | fz0 =>
    intro v hv
    obtain ⟨A, c, rfl, _, hm⟩ := hv.fz_len
    exact .fz0 _ _ hm
  | slc0 hi =>
    intro v hv
    obtain ⟨A, c, rfl, _, hm⟩ := hv.slice_len
    exact .fz0 _ _ hm
  | nil =>
    intro v hv
    rw [hv.atom_inv]
    exact .fz0 _ _ (by simp [maxLen])
  | @agg cs ds hl h ih =>
    intro v hv
    obtain ⟨vs, rfl, hs, hc⟩ := hv.agg_inv
    refine .agg (by rw [hs, hl]) (fun t q hq => ?_)
    have hlt : t < cs.length := by rw [hl]; exact (List.getElem?_eq_some_iff.1 hq).1
    have hp := List.getElem?_eq_getElem hlt
    exact ih t _ q hp hq (hc t _ hp)
  | @tup cs ds hl h ih =>
    intro v hv
    obtain ⟨vs, rfl, hs, hc⟩ := hv.tup_inv
    refine .tup (by rw [hs, hl]) (fun t q hq => ?_)
    have hlt : t < cs.length := by rw [hl]; exact (List.getElem?_eq_some_iff.1 hq).1
    have hp := List.getElem?_eq_getElem hlt
    exact ih t _ q hp hq (hc t _ hp)
  | @func f cs ds hl h ih =>
    intro v hv
    cases hv with
    | func hs hc =>
      refine .func (by rw [hs, hl]) (fun t q hq => ?_)
      have hlt : t < cs.length := by rw [hl]; exact (List.getElem?_eq_some_iff.1 hq).1
      have hp := List.getElem?_eq_getElem hlt
      exact ih t _ q hp hq (hc t _ hp)
  | @ptr i k off B el hB hok hk hl hc h ih =>
    intro v hv
    cases hv with
    | ptr hi =>
      rcases hR.own i B hB with ⟨_, hf⟩ | ⟨hr, cur, g1, g2, g3, g4, g5⟩
      · omega
      have hK : Kall ok K σ st w (σ i).blk = some cur := Kall.own hB hok hr (by rw [g5]; split; (· exact .inr rfl); exact .inl rfl) g1
      have hb := g4.1
      rw [g3]
      refine .fptr hK hk (by omega) (fun j hj => ?_) (fun j l hj hl' => ?_) (fun j hj t q hq => ?_)
      · rw [← hl j hj]; exact (g4.2.2 j hj).1
      · exact g4.one j l hj hl'
      · have hlt : t < (B.el j).length := by rw [hl j hj]; exact (List.getElem?_eq_some_iff.1 hq).1
        have hp := List.getElem?_eq_getElem hlt
        exact (ih j hj t _ q hp hq ((g4.2.2 j hj).2 t _ hp)).closed (closedL_mem (hc j hj) q (List.mem_of_getElem? hq))

def allB : Blk → Bool := fun _ => true
def roB : Blk → Bool := fun B => B.ro
theorem Kall.ro {K : KH} {σ : Nat → Loc} {st : St} {w : World} (hR : Rel K σ st w) : ∀ b cur, Kall roB K σ st w b = some cur → K b = some cur := by
  intro b cur h
  rcases Kall.new hR h with h | ⟨i, B, hB, hok, hr, hb, g⟩
  · exact h
  · rcases hR.own i B hB with ⟨hf, _⟩ | ⟨_, cur', g1, _, _, _, g5⟩
    · rw [hr] at hf; cases hf
    · rw [hb] at g1 g5
      have : cur' = cur := by rw [g] at g1; cases g1; rfl
      subst this
      unfold roB at hok
      rw [g5, hok]; rfl
theorem Cv.ro {K : KH} {σ : Nat → Loc} {st : St} {w : World} (hR : Rel K σ st w) {p q : PV} (h : Cv roB st p q) {v : Value} (hv : VR K σ st.length p v) : VR K σ st.length q v :=
  (h.spec hR hv).mono (Kall.ro hR) (fun _ _ => rfl) (Nat.le_refl _)

/-! ### calls that neither take nor hand back memory of one's own -/
def σ0 : Nat → Loc := fun _ => ⟨0, 0, 0, 0, false, rfl⟩
def Pure (P : Program) (f : FuncId) (args : List PV) (pv : PV) : Prop :=
  Enters P f ∧ ∀ (K : KH) (w : World) (vs : Array Value), Globs.G K → (∀ b cur, K b = some cur → InHeap w b cur) → vs.size = args.length → (∀ j p, args[j]? = some p → VR K σ0 0 p (rd vs j)) →
    Calls P f vs w fun e w' => ∃ v K', e = .returned v ∧ VR K' σ0 0 pv v ∧ (∀ b cur, K b = some cur → K' b = some cur) ∧ (∀ b cur, K' b = some cur → InHeap w' b cur) ∧
      (∀ b cur, K' b = some cur → K b = some cur ∨ w.heap.size ≤ b) ∧ Below w.heap.size w w'

theorem Rel.nil {K : KH} {σ : Nat → Loc} {w : World} (hg : Globs.G K) (hk : ∀ b cur, K b = some cur → InHeap w b cur) : Rel K σ [] w := ⟨hk, fun i B h => by simp [St.get] at h, fun i j B B' h => by simp [St.get] at h, hg, fun i B h => by simp [St.get] at h⟩

theorem Pure.of_spec {P : Program} {f : FuncId} {args : List PV} {pv : PV} (h : Spec P f args [] fun v st' => Cv allB st' v pv) (hc : closedB pv = true) : Pure P f args pv := by
  refine ⟨h.1, fun K w vs hg hk hsz hv => (h.2 K σ0 w vs (Rel.nil hg hk) hsz hv).mono fun e w' ⟨v, he, K', σ', st', p, hq, hx, hR, hvr⟩ => ?_⟩
  have hv' := hq.spec hR hvr
  refine ⟨v, Kall allB K' σ' st' w', he, (hv'.closed hc).zero _ _, fun b cur hb => Kall.le (hx.kle _ _ hb), Kall.in hR, fun b cur hb => ?_, ⟨hx.os, hx.tape, hx.output, hx.size, fun k hk => hx.keep k hk (fun j B hB => by simp [St.get] at hB)⟩⟩
  rcases Kall.new hR hb with hb | ⟨i, B, hB, _, hr, hbb, hg⟩
  · rcases hx.knew b cur hb with hb | ⟨j, B, hB, _⟩ | hb
    · exact .inl hb
    · simp [St.get] at hB
    · exact .inr hb
  · cases hro : B.ro with
    | false =>
      rcases hx.live i B hB hro hr with ⟨j, B', hj, _⟩ | hs
      · simp [St.get] at hj
      · exact .inr (hbb ▸ hs)
    | true =>
      rcases hR.own i B hB with ⟨hf, _⟩ | ⟨_, cur', g1, _, _, _, g5⟩
      · rw [hr] at hf; cases hf
      · rw [hro, hbb] at g5
        simp only [if_true] at g5
        rcases hx.knew b cur' g5 with hb' | ⟨j, B', hj, _⟩ | hb'
        · rw [hbb] at g1
          have : cur' = cur := by rw [hg] at g1; cases g1; rfl
          subst this; exact .inl hb'
        · simp [St.get] at hj
        · exact .inr hb'

def CvArgs (ok : Blk → Bool) (st : St) (l m : List PV) : Prop := CvL ok st l m ∧ closedL m = true

section
variable {P : Program} {E : Operand → PV} {st : St} {o : Oper} {Q : PV → St → Prop}

theorem run_callFunc {f : FuncId} (h : Enters P f) (args : Array Value) (w : World) : (callFunc f args).run P w = .ok (.enter f args) w := by
  obtain ⟨fn, hf, hn, hb⟩ := h
  unfold callFunc
  simp only [Sem.run_bind, run_program, Result.andThen_ok, hf, hn, hb, Bool.false_eq_true, if_false]
  rfl

theorem run_call {c : Operand} {args : Array Operand} {ats : Array TypeId} {g : FuncId} {cap : List PV} {K : KH} {σ : Nat → Loc} {N : Nat} {ρ : Operand → Value} (ho : o.op = .call { callee := .value c, args, argTypes := ats }) (hen : Enters P g) (hc : E c = .func g cap) (hE : ∀ x, VR K σ N (E x) (ρ x)) (w : World) :
    ∃ vs, (execOp ρ o).run P w = .ok (.enter g vs) w ∧ vs.size = (args.toList.map E ++ cap).length ∧ ∀ j p, (args.toList.map E ++ cap)[j]? = some p → VR K σ N p (rd vs j) := by
  have vc := hE c
  rw [hc] at vc
  generalize hg : ρ c = u at vc
  cases vc with
  | func hl h =>
    rename_i vs
    refine ⟨args.map ρ ++ vs, ?_, by simp [hl], fun j p hp => ?_⟩
    · simp [execOp, ho, resolve, hg, Deferred.ofValue, invoke, run_callFunc hen]
    · rcases Nat.lt_or_ge j args.size with hj | hj
      · rw [List.getElem?_append_left (by simpa using hj)] at hp
        simp [hj] at hp
        subst hp
        have : rd (args.map ρ ++ vs) j = ρ args[j] := by simp [rd, Array.getElem?_append, hj]
        rw [this]; exact hE _
      · rw [List.getElem?_append_right (by simpa using hj)] at hp
        simp at hp
        have : rd (args.map ρ ++ vs) j = rd vs (j - args.size) := by simp [rd, Array.getElem?_append, Nat.not_lt.2 hj]
        rw [this]; exact h _ _ hp

theorem Rel.after {K K' : KH} {σ : Nat → Loc} {w w' : World} (hR : Rel K σ st w) (hle : ∀ b cur, K b = some cur → K' b = some cur) (hin : ∀ b cur, K' b = some cur → InHeap w' b cur) (hnew : ∀ b cur, K' b = some cur → K b = some cur ∨ w.heap.size ≤ b) (hb : Below w.heap.size w w') :
    Rel K' σ st w' ∧ Ext K σ st w K' σ st w' := by
  refine ⟨⟨hin, fun i B hB => ?_, hR.sep, Globs.mono hle hR.gl, hR.fl⟩, ⟨hle, fun _ _ => rfl, Nat.le_refl _, hb.os, hb.tape, hb.output, hb.size, fun i B hB hr hl => .inl ⟨i, B, hB, hr, hl, rfl⟩, fun k hk _ => hb.block k hk, fun b cur h => (hnew b cur h).imp id .inr⟩⟩
  rcases hR.own i B hB with h | ⟨hr, cur, g1, g2, g3, g4, g5⟩
  · exact .inl h
  · have hlt := hR.blt hB hr
    refine .inr ⟨hr, cur, (hb.block _ hlt).trans g1, g2, g3, g4.mono hle (fun _ _ => rfl) (Nat.le_refl _), ?_⟩
    cases hro : B.ro with
    | true => rw [hro] at g5; simp only [if_true] at g5 ⊢; exact hle _ _ g5
    | false =>
      rw [hro] at g5
      simp only [Bool.false_eq_true, if_false] at g5 ⊢
      cases hk : K' (σ i).blk with
      | none => rfl
      | some c =>
        rcases hnew _ _ hk with h | h
        · rw [g5] at h; cases h
        · omega

theorem G_callPure {c : Operand} {args : Array Operand} {ats : Array TypeId} {g : FuncId} {cap asx : List PV} {pv : PV} (ho : o.op = .call { callee := .value c, args, argTypes := ats }) (hc : E c = .func g cap) (hp : Pure P g asx pv)
    (hcv : CvArgs roB st (args.toList.map E ++ cap) asx) (h : Q pv st) : OpGoes P E st o Q := by
  intro K σ w ρ hR hE
  obtain ⟨vs, hr, hsz, hvs⟩ := run_call ho hp.1 hc hE w
  obtain ⟨hl, hcl⟩ := hcv
  obtain ⟨hlen, hcv⟩ := hl.spec
  refine .inr ⟨g, vs, hr, (hp.2 K w vs hR.gl hR.kin (by rw [hsz, hlen]) (fun j q hq => ?_)).mono ?_⟩
  · have hlt : j < (args.toList.map E ++ cap).length := by rw [hlen]; exact (List.getElem?_eq_some_iff.1 hq).1
    have hp' := List.getElem?_eq_getElem hlt
    exact ((Cv.ro hR (hcv j _ q hp' hq) (hvs j _ hp')).closed (closedL_mem hcl q (List.mem_of_getElem? hq))).zero _ _
  · rintro e w' ⟨v, K', he, hv, h1, h2, h3, h4⟩
    obtain ⟨a1, a2⟩ := hR.after h1 h2 h3 h4
    exact ⟨v, he, K', σ, st, pv, h, a2, a1, hv.zero _ _⟩

mutual
def flatB : PV → Bool
  | .any | .atom _ => true
  | .agg cs => flatL cs
  | .tup cs => flatL cs
  | .iface _ p => flatB p
  | _ => false
def flatL : List PV → Bool
  | [] => true
  | p :: l => bif flatB p then flatL l else false
end
theorem flatL_mem {l : List PV} (h : flatL l = true) : ∀ p ∈ l, flatB p = true := by
  induction l with
  | nil => simp
  | cons p l ih =>
    unfold flatL at h
    cases hc : flatB p with
    | false => simp [hc] at h
    | true => simp [hc] at h; simp [hc]; exact ih h
theorem VR.flat {K K' : KH} {σ : Nat → Loc} {N : Nat} {p : PV} {v : Value} (h : VR K σ N p v) : flatB p = true → VR K' σ 0 p v := by
  induction h with
  | any v => intro _; exact .any v
  | atom v => intro _; exact .atom v
  | agg hl _ ih => intro hc; unfold flatB at hc; exact .agg hl (fun j p hp => ih j p hp (flatL_mem hc p (List.mem_of_getElem? hp)))
  | tup hl _ ih => intro hc; unfold flatB at hc; exact .tup hl (fun j p hp => ih j p hp (flatL_mem hc p (List.mem_of_getElem? hp)))
  | iface _ ih => intro hc; unfold flatB at hc; exact .iface (ih hc)
  | _ => intro hc; simp [flatB] at hc

/-- One's own memory is lent for the time of the call. -/
theorem G_callLend {c : Operand} {args : Array Operand} {ats : Array TypeId} {g : FuncId} {cap asx : List PV} {pv : PV} (ho : o.op = .call { callee := .value c, args, argTypes := ats }) (hc : E c = .func g cap) (hp : Pure P g asx pv) (hfl : flatB pv = true)
    (hcv : CvArgs allB st (args.toList.map E ++ cap) asx) (h : Q pv st) : OpGoes P E st o Q := by
  intro K σ w ρ hR hE
  obtain ⟨vs, hr, hsz, hvs⟩ := run_call ho hp.1 hc hE w
  obtain ⟨hl, hcl⟩ := hcv
  obtain ⟨hlen, hcv⟩ := hl.spec
  refine .inr ⟨g, vs, hr, (hp.2 (Kall allB K σ st w) w vs (Globs.mono (fun _ _ => Kall.le) hR.gl) (Kall.in hR) (by rw [hsz, hlen]) (fun j q hq => ?_)).mono ?_⟩
  · have hlt : j < (args.toList.map E ++ cap).length := by rw [hlen]; exact (List.getElem?_eq_some_iff.1 hq).1
    have hp' := List.getElem?_eq_getElem hlt
    exact (((hcv j _ q hp' hq).spec hR (hvs j _ hp')).closed (closedL_mem hcl q (List.mem_of_getElem? hq))).zero _ _
  · rintro e w' ⟨v, K', he, hv, h1, h2, h3, h4⟩
    obtain ⟨a1, a2⟩ := hR.after (K' := K) (w' := w') (fun _ _ h => h) (fun b cur hb => h2 b cur (h1 b cur (Kall.le hb))) (fun b cur h => .inl h) h4
    exact ⟨v, he, K, σ, st, pv, h, a2, a1, (hv.flat hfl).zero _ _⟩

/-- A call under a contract that speaks of the whole state. -/
theorem G_callSpec {c : Operand} {args : Array Operand} {ats : Array TypeId} {g : FuncId} {cap : List PV} {Q' : PV → St → Prop} (ho : o.op = .call { callee := .value c, args, argTypes := ats }) (hc : E c = .func g cap) (hs : Spec P g (args.toList.map E ++ cap) st Q') (h : ∀ pv st', Q' pv st' → Q pv st') : OpGoes P E st o Q := by
  intro K σ w ρ hR hE
  obtain ⟨vs, hr, hsz, hvs⟩ := run_call ho hs.1 hc hE w
  exact .inr ⟨g, vs, hr, (hs.2 K σ w vs hR hsz hvs).mono fun e w' ⟨v, he, hout⟩ => ⟨v, he, hout.mono h⟩⟩
end

/-! ### returns -/
def resP (T : TT) (st : St) (env : Env) : List ResultVar → Option (List PV)
  | [] => some []
  | .tmp t :: l => match resP T st env l with
    | some r => some (env t :: r)
    | none => none
  | .cell a t :: l => match xLoad T st t (env a), resP T st env l with
    | some p, some r => some (p :: r)
    | _, _ => none
def mkRes : List PV → PV
  | [p] => p
  | l => .tup l

section
variable {P : Program} {T : TT} {f : FuncId} {fn : Func} {n0 : Nat} {Q : PV → St → Prop} {k : List Item} {env : Env} {st : St}

theorem run_xLoad (hT : TOk P T) {K : KH} {σ : Nat → Loc} {w : World} (hR : Rel K σ st w) {t : TypeId} {p pv : PV} {u : Value} (hv : xLoad T st t p = some pv) (hp : VR K σ st.length p u) : ∃ v a, u = .pointer (some a) ∧ (loadVar t a).run P w = .ok v w ∧ VR K σ st.length pv v := by
  unfold xLoad at hv
  split at hv
  · rename_i i k off
    split at hv
    · rename_i B hB
      cases hk : Nat.blt k B.n with
      | false => simp [hk] at hv
      | true =>
        simp only [hk, cond_true] at hv
        rw [Nat.blt_eq] at hk
        obtain ⟨cur, h1, h3, h6, h7, h8⟩ := hR.cells hB hk
        obtain ⟨v, hr, hv'⟩ := run_loadVar_cells (K := K) (σ := σ) (N := st.length) hT hv w (σ i).blk ((σ i).off + k * B.sz) cur h1 h7 h8
        cases hp with
        | ptr hi => exact ⟨v, _, rfl, by rw [h3]; exact hr, hv'⟩
    · cases hv
  · rename_i sz n el k off
    cases hp with
    | fptr hb hk hs hl hone hc =>
      rename_i b o' cur
      obtain ⟨e, he⟩ := hR.kin _ _ hb
      have : (k + 1) * sz ≤ n * sz := Nat.mul_le_mul_right _ hk
      rw [Nat.succ_mul] at this
      obtain ⟨v, hr, hv'⟩ := run_loadVar_cells (K := K) (σ := σ) (N := 0) hT hv w b (o' + k * sz) cur he (by rw [hl k hk]; omega) (hc k hk)
      exact ⟨v, _, rfl, hr, hv'.zero _ _⟩
  · cases hv

def resF (a : Act) : ResultVar → Sem Value
  | .tmp t => pure (a.tmps.getD t undef)
  | .cell b t => do loadVar t (← asAddr (a.tmps.getD b undef))
theorem run_resP (hT : TOk P T) {K : KH} {σ : Nat → Loc} {w : World} (hR : Rel K σ st w) {a : Act} (hE : EnvRel K σ st.length env a) : ∀ {l : List ResultVar} {ps : List PV}, resP T st env l = some ps →
    ∃ vs : List Value, (l.mapM (resF a)).run P w = .ok vs w ∧ vs.length = ps.length ∧ ∀ (j : Nat) p, ps[j]? = some p → VR K σ st.length p (rd vs.toArray j)
  | [], ps, h => by simp [resP] at h; subst h; exact ⟨[], by simp, rfl, fun j p hp => by simp at hp⟩
  | .tmp t :: l, ps, h => by
    simp only [resP] at h
    split at h
    · rename_i r hr
      simp at h; subst h
      obtain ⟨vs, h1, h2, h3⟩ := run_resP hT hR hE hr
      refine ⟨rd a.tmps t :: vs, ?_, by simp [h2], fun j p hp => ?_⟩
      · have e : (resF a (.tmp t)).run P w = .ok (rd a.tmps t) w := rfl
        rw [List.mapM_cons, Sem.run_bind, e, Result.andThen_ok, Sem.run_bind, h1, Result.andThen_ok]; rfl
      · cases j with
        | zero => simp at hp; subst hp; simpa [rd] using hE t
        | succ j => simp at hp; have := h3 j p hp; simpa [rd] using this
    · cases h
  | .cell b t :: l, ps, h => by
    simp only [resP] at h
    split at h
    · rename_i p r hp hr
      simp at h; subst h
      obtain ⟨vs, h1, h2, h3⟩ := run_resP hT hR hE hr
      obtain ⟨v, ad, hu, hl, hv⟩ := run_xLoad (P := P) hT hR hp (hE b)
      have hu' : a.tmps.getD b undef = .pointer (some ad) := hu
      refine ⟨v :: vs, ?_, by simp [h2], fun j q hq => ?_⟩
      · have e : (resF a (.cell b t)).run P w = .ok v w := by
          unfold resF
          rw [Sem.run_bind, hu']
          exact hl
        rw [List.mapM_cons, Sem.run_bind, e, Result.andThen_ok, Sem.run_bind, h1, Result.andThen_ok]; rfl
      · cases j with
        | zero => simp at hq; subst hq; simpa [rd] using hv
        | succ j => simp at hq; have := h3 j q hq; simpa [rd] using this
    · cases h

theorem results_eq (fn : Func) (a : Act) : results fn a.tmps = (do let vs ← fn.results.mapM (resF a); pure (if h : vs.size = 1 then vs[0] else .tuple vs)) := by
  unfold results
  congr 2

theorem run_results (hT : TOk P T) {K : KH} {σ : Nat → Loc} {w : World} (hR : Rel K σ st w) {a : Act} (hE : EnvRel K σ st.length env a) {ps : List PV} (h : resP T st env fn.results.toList = some ps) : ∃ v, (results fn a.tmps).run P w = .ok v w ∧ VR K σ st.length (mkRes ps) v := by
  obtain ⟨vs, h1, h2, h3⟩ := run_resP (P := P) hT hR hE h
  have hm : (fn.results.mapM (resF a)).run P w = .ok vs.toArray w := by
    have e : fn.results = fn.results.toList.toArray := by simp
    rw [e, List.mapM_toArray, Sem.run_map, h1]; rfl
  rw [results_eq, Sem.run_bind, hm]
  simp only [Result.andThen_ok, Sem.run_pure]
  match vs, ps, h2 with
  | [v], [p], _ =>
    refine ⟨v, by simp, ?_⟩
    have := h3 0 p rfl
    simpa [rd, mkRes] using this
  | [], [], _ => exact ⟨.tuple #[], by simp, .tup rfl (fun j p hp => by simp at hp)⟩
  | a :: b :: vs, c :: d :: ps, hl =>
    exact ⟨.tuple (a :: b :: vs).toArray, by simp, .tup (by simpa using hl) h3⟩

theorem Run.ret (hT : TOk P T) (hf : P.funcs[f]? = some fn) {ps : List PV} (h : resP T st env fn.results.toList = some ps) (hq : Q (mkRes ps) st) : Run P f fn n0 Q (.code .ret :: k) env st := by
  intro hn0 K σ w a b cs hR hsz hd hfn hk hE
  obtain ⟨v, hr, hv⟩ := run_results (P := P) (fn := fn) hT hR hE h
  refine ⟨v, w, { b.at a (.code .ret :: k) with mode := .returning }, ⟨K, σ, st, _, hq, (Ext.refl _ _ _ _).less hn0, hR, hv⟩, .one step_ret, hfn, rfl, hd, hk, fn, ?_, hr⟩
  show P.funcs[b.fn]? = some fn
  rw [hfn]; exact hf
theorem Run.fall (hT : TOk P T) (hf : P.funcs[f]? = some fn) {ps : List PV} (h : resP T st env fn.results.toList = some ps) (hq : Q (mkRes ps) st) : Run P f fn n0 Q [] env st := by
  intro hn0 K σ w a b cs hR hsz hd hfn hk hE
  obtain ⟨v, hr, hv⟩ := run_results (P := P) (fn := fn) hT hR hE h
  refine ⟨v, w, { b.at a [] with mode := .returning }, ⟨K, σ, st, _, hq, (Ext.refl _ _ _ _).less hn0, hR, hv⟩, .one step_end, hfn, rfl, hd, hk, fn, ?_, hr⟩
  show P.funcs[b.fn]? = some fn
  rw [hfn]; exact hf

/-! ### another word for the state -/
theorem Run.weaken {env' : Env} (hw : ∀ t, env' t = .any ∨ env' t = env t) (h : Run P f fn n0 Q k env' st) : Run P f fn n0 Q k env st := by
  intro hn0 K σ w a b cs hR hsz hd hfn hk hE
  refine h hn0 K σ w a b cs hR hsz hd hfn hk (fun t => ?_)
  rcases hw t with e | e
  · rw [e]; exact .any _
  · rw [e]; exact hE t
def envL : List (Nat × PV) → Env
  | [], _ => .any
  | (d, p) :: l, t => bif Nat.beq t d then p else envL l t
def envEq (env : Env) : List (Nat × PV) → Prop
  | [] => True
  | (d, p) :: l => env d = p ∧ envEq env l
theorem Run.to {l : List (Nat × PV)} (he : envEq env l) (h : Run P f fn n0 Q k (envL l) st) : Run P f fn n0 Q k env st := by
  refine Run.weaken (fun t => ?_) h
  clear h
  induction l with
  | nil => exact .inl rfl
  | cons x l ih =>
    obtain ⟨d, p⟩ := x
    obtain ⟨h1, h2⟩ := he
    show (bif Nat.beq t d then p else envL l t) = .any ∨ (bif Nat.beq t d then p else envL l t) = env t
    cases hb : Nat.beq t d with
    | true => have := Nat.eq_of_beq_eq_true hb; subst this; exact .inr h1.symm
    | false => exact ih h2

theorem Run.conv {d : Nat} {q : PV} (hc : Cv roB st (env d) q) (h : Run P f fn n0 Q k (env.put (some d) q) st) : Run P f fn n0 Q k env st := by
  intro hn0 K σ w a b cs hR hsz hd hfn hk hE
  refine h hn0 K σ w a b cs hR hsz hd hfn hk (fun t => ?_)
  show VR K σ _ (bif Nat.beq t d then q else env t) _
  cases hb : Nat.beq t d with
  | true => have := Nat.eq_of_beq_eq_true hb; subst this; exact Cv.ro hR hc (hE t)
  | false => exact hE t

theorem Rel.freeze {K : KH} {σ : Nat → Loc} {w : World} (hR : Rel K σ st w) {i : Nat} {B : Blk} (hB : st.get i = some B) (hro : B.ro = false) :
    ∃ K', Rel K' σ (st.upd i (some { B with ro := true })) w ∧ Ext K σ st w K' σ (st.upd i (some { B with ro := true })) w := by
  have old : ∀ {j C}, (st.upd i (some { B with ro := true })).get j = some C → (j = i ∧ C = { B with ro := true }) ∨ (j ≠ i ∧ st.get j = some C) := by
    intro j C hC
    rcases St.get_upd_cases hC with ⟨rfl, hc⟩ | ⟨hji, hC⟩
    · cases hc; exact .inl ⟨rfl, rfl⟩
    · exact .inr ⟨hji, hC⟩
  have get : ∀ {j C}, (st.upd i (some { B with ro := true })).get j = some C → ∃ C', st.get j = some C' := by
    intro j C hC
    rcases old hC with ⟨rfl, _⟩ | ⟨_, hC⟩
    · exact ⟨B, hB⟩
    · exact ⟨C, hC⟩
  have fl : ∀ j C, (st.upd i (some { B with ro := true })).get j = some C → C.full = true → (σ j).real = true → (σ j).off + C.n * (σ j).sz = (σ j).tot := fun j C hC hf hr => by
    rcases old hC with ⟨rfl, rfl⟩ | ⟨_, hC⟩
    · exact hR.fl j B hB hf hr
    · exact hR.fl j C hC hf hr
  rcases hR.own i B hB with ⟨hf, hn⟩ | ⟨hr, cur, g1, g2, g3, g4, g5⟩
  · refine ⟨K, ⟨hR.kin, fun j C hC => ?_, fun j l C D hC hD r1 r2 he => ?_, hR.gl, fl⟩, ⟨fun _ _ h => h, fun _ _ => rfl, by rw [St.length_upd]; exact Nat.le_refl _, rfl, rfl, rfl, Nat.le_refl _, fun j C hC hr' hl => ?_, fun _ _ _ => rfl, fun b c hb => .inl hb⟩⟩
    · rw [St.length_upd]
      rcases old hC with ⟨rfl, rfl⟩ | ⟨hji, hC⟩
      · exact .inl ⟨hf, hn⟩
      · exact hR.own j C hC
    · obtain ⟨C', hC'⟩ := get hC
      obtain ⟨D', hD'⟩ := get hD
      exact hR.sep j l C' D' hC' hD' r1 r2 he
    · rcases old hC with ⟨rfl, rfl⟩ | ⟨hji, hC⟩
      · cases hr'
      · exact .inl ⟨j, C, hC, hr', hl, rfl⟩
  refine ⟨fun b => if b = (σ i).blk then some cur else K b, ?_⟩
  have hKn : K (σ i).blk = none := by rw [hro] at g5; exact g5
  have hle : ∀ b c, K b = some c → (if b = (σ i).blk then some cur else K b) = some c := by
    intro b c hb
    rw [if_neg (fun e => by rw [e, hKn] at hb; cases hb)]
    exact hb
  refine ⟨⟨fun b c hb => ?_, fun j C hC => ?_, fun j l C D hC hD r1 r2 he => ?_, Globs.mono hle hR.gl, fl⟩, ⟨hle, fun _ _ => rfl, by rw [St.length_upd]; exact Nat.le_refl _, rfl, rfl, rfl, Nat.le_refl _, fun j C hC hr' hl => ?_, fun _ _ _ => rfl, fun b c hb => ?_⟩⟩
  · by_cases e : b = (σ i).blk
    · rw [if_pos e] at hb; cases hb; rw [e]; exact ⟨(B.e, (0, 0)), g1⟩
    · rw [if_neg e] at hb; exact hR.kin b c hb
  · rw [St.length_upd]
    rcases old hC with ⟨rfl, rfl⟩ | ⟨hji, hC⟩
    · exact .inr ⟨hr, cur, g1, g2, g3, g4.mono hle (fun _ _ => rfl) (Nat.le_refl _), by simp⟩
    · rcases hR.own j C hC with h | ⟨hr', c, f1, f2, f3, f4, f5⟩
      · exact .inl h
      · refine .inr ⟨hr', c, f1, f2, f3, f4.mono hle (fun _ _ => rfl) (Nat.le_refl _), ?_⟩
        rw [if_neg (fun e => hji (hR.sep j i C B hC hB hr' hr e))]
        exact f5
  · obtain ⟨C', hC'⟩ := get hC
    obtain ⟨D', hD'⟩ := get hD
    exact hR.sep j l C' D' hC' hD' r1 r2 he
  · rcases old hC with ⟨rfl, rfl⟩ | ⟨hji, hC⟩
    · cases hr'
    · exact .inl ⟨j, C, hC, hr', hl, rfl⟩
  · by_cases e : b = (σ i).blk
    · exact .inr (.inl ⟨i, B, hB, hro, hr, e.symm⟩)
    · rw [if_neg e] at hb; exact .inl hb

theorem Run.freeze {i : Nat} {B : Blk} (hB : st.get i = some B) (hro : B.ro = false) (h : Run P f fn n0 Q k env (st.upd i (some { B with ro := true }))) : Run P f fn n0 Q k env st := by
  intro hn0 K σ w a b cs hR hsz hd hfn hk hE
  obtain ⟨K', hR', hX⟩ := hR.freeze hB hro
  obtain ⟨v, w', fr, ⟨K2, σ2, st2, pv2, q2, e2, r2, v2⟩, r⟩ := h (by rw [St.length_upd]; exact hn0) K' σ w a b cs hR' hsz hd hfn hk (fun t => (hE t).ext hX)
  exact ⟨v, w', fr, ⟨K2, σ2, st2, pv2, q2, (hX.less hn0).trans e2, r2, v2⟩, r⟩

/-- A block's content, said otherwise. -/
theorem Rel.same {K : KH} {σ : Nat → Loc} {w : World} (hR : Rel K σ st w) {i : Nat} {B B' : Blk} (hB : st.get i = some B) (he : B'.e = B.e) (hs : B'.sz = B.sz) (hn : B'.n = B.n) (hr : B'.ro = B.ro) (hel : ∀ k, k < B.n → B'.el k = B.el k) (hfu : B'.full = true → B.full = true := by first | exact id | exact fun h => nomatch h) :
    Rel K σ (st.upd i (some B')) w ∧ Ext K σ st w K σ (st.upd i (some B')) w := by
  have old : ∀ {j C}, (st.upd i (some B')).get j = some C → (j = i ∧ C = B') ∨ (j ≠ i ∧ st.get j = some C) := by
    intro j C hC
    rcases St.get_upd_cases hC with ⟨rfl, hc⟩ | ⟨hji, hC⟩
    · cases hc; exact .inl ⟨rfl, rfl⟩
    · exact .inr ⟨hji, hC⟩
  have get : ∀ {j C}, (st.upd i (some B')).get j = some C → ∃ C', st.get j = some C' := by
    intro j C hC
    rcases old hC with ⟨rfl, _⟩ | ⟨_, hC⟩
    · exact ⟨B, hB⟩
    · exact ⟨C, hC⟩
  refine ⟨⟨hR.kin, fun j C hC => ?_, fun j l C D hC hD r1 r2 hb => ?_, hR.gl, fun j C hC hf hr2 => by
    rcases old hC with ⟨rfl, rfl⟩ | ⟨_, hC⟩
    · rw [hn]; exact hR.fl j B hB (hfu hf) hr2
    · exact hR.fl j C hC hf hr2⟩, ⟨fun _ _ h => h, fun _ _ => rfl, by rw [St.length_upd]; exact Nat.le_refl _, rfl, rfl, rfl, Nat.le_refl _, fun j C hC hr' hl => ?_, fun _ _ _ => rfl, fun b c hb => .inl hb⟩⟩
  · rw [St.length_upd]
    rcases old hC with ⟨rfl, rfl⟩ | ⟨hji, hC⟩
    · rcases hR.own j B hB with ⟨hf, h0⟩ | ⟨hr', cur, g1, g2, g3, g4, g5⟩
      · exact .inl ⟨hf, hn ▸ h0⟩
      · refine .inr ⟨hr', cur, he ▸ g1, g2, hs ▸ g3, ⟨by rw [hn, hs]; exact g4.1, g4.2.1, fun k hk => ?_⟩, by rw [hr]; exact g5⟩
        · rw [hn] at hk; rw [hel k hk, hs]; exact g4.2.2 k hk
    · exact hR.own j C hC
  · obtain ⟨C', hC'⟩ := get hC
    obtain ⟨D', hD'⟩ := get hD
    exact hR.sep j l C' D' hC' hD' r1 r2 hb
  · rcases old hC with ⟨rfl, rfl⟩ | ⟨hji, hC⟩
    · exact .inl ⟨j, B, hB, hr ▸ hr', hl, rfl⟩
    · exact .inl ⟨j, C, hC, hr', hl, rfl⟩
theorem Run.same {i : Nat} {B : Blk} (B' : Blk) (hB : st.get i = some B) (he : B'.e = B.e) (hs : B'.sz = B.sz) (hn : B'.n = B.n) (hr : B'.ro = B.ro) (hel : ∀ k, k < B.n → B'.el k = B.el k) (h : Run P f fn n0 Q k env (st.upd i (some B'))) (hfu : B'.full = true → B.full = true := by first | exact id | exact fun h => nomatch h) : Run P f fn n0 Q k env st := by
  intro hn0 K σ w a b cs hR hsz hd hfn hk hE
  obtain ⟨hR', hX⟩ := hR.same hB he hs hn hr hel hfu
  obtain ⟨v, w', fr, ⟨K2, σ2, st2, pv2, q2, e2, r2, v2⟩, r⟩ := h (by rw [St.length_upd]; exact hn0) K σ w a b cs hR' hsz hd hfn hk (fun t => (hE t).ext hX)
  exact ⟨v, w', fr, ⟨K2, σ2, st2, pv2, q2, (hX.less hn0).trans e2, r2, v2⟩, r⟩

/-! ### other numbers for the blocks -/
/-- 'p' (old numbers) is 'q' (new numbers); the new number i is the old number r i. -/
inductive Rn (r : Nat → Nat) (N : Nat) : PV → PV → Prop
  | cl {p : PV} (h : closedB p = true) : Rn r N p p
  | any (p : PV) : Rn r N p .any
  | ptr {i i' k off : Nat} (hi : r i' = i) (hlt : i' < N) : Rn r N (.ptr i k off) (.ptr i' k off)
  | slc {i i' k n : Nat} (hi : r i' = i) (hlt : i' < N) : Rn r N (.slc i k n) (.slc i' k n)
  | agg {cs ds : List PV} (hl : cs.length = ds.length) (h : ∀ (t : Nat) (p q : PV), cs[t]? = some p → ds[t]? = some q → Rn r N p q) : Rn r N (.agg cs) (.agg ds)
  | func {f : FuncId} {cs ds : List PV} (hl : cs.length = ds.length) (h : ∀ (t : Nat) (p q : PV), cs[t]? = some p → ds[t]? = some q → Rn r N p q) : Rn r N (.func f cs) (.func f ds)
def RnL (r : Nat → Nat) (N : Nat) : List PV → List PV → Prop
  | [], [] => True
  | p :: l, q :: m => Rn r N p q ∧ RnL r N l m
  | _, _ => False
theorem RnL.spec {r : Nat → Nat} {N : Nat} : ∀ {l m : List PV}, RnL r N l m → l.length = m.length ∧ ∀ (t : Nat) p q, l[t]? = some p → m[t]? = some q → Rn r N p q
  | [], [], _ => ⟨rfl, fun t p q hp => by simp at hp⟩
  | p :: l, q :: m, h => by
    obtain ⟨h1, h2⟩ := RnL.spec h.2
    refine ⟨by simp [h1], fun t a b ha hb => ?_⟩
    cases t with
    | zero => simp at ha hb; subst ha; subst hb; exact h.1
    | succ t => simp at ha hb; exact h2 t a b ha hb
  | [], _ :: _, h => h.elim
  | _ :: _, [], h => h.elim
theorem Rn.spec {r : Nat → Nat} {K : KH} {σ : Nat → Loc} {N N' : Nat} {p q : PV} (h : Rn r N' p q) : ∀ {v : Value}, VR K σ N p v → VR K (fun i => σ (r i)) N' q v := by
  induction h with
  | cl hc => intro v hv; exact (hv.closed hc).zero _ _
  | any p => intro v hv; exact .any v
  | ptr hi hlt => intro v hv; cases hv with | ptr _ => rw [← hi]; exact VR.ptr (σ := fun i => σ (r i)) hlt
  | slc hi hlt =>
    intro v hv
    cases hv with
    | slc _ hr ht hn hm => rw [← hi] at hr ht ⊢; exact VR.slc (σ := fun i => σ (r i)) hlt hr ht hn hm
    | slc0 A => exact .slc0 A
  | @agg cs ds hl h ih =>
    intro v hv
    obtain ⟨vs, rfl, hs, hc⟩ := hv.agg_inv
    refine .agg (by rw [hs, hl]) (fun t q hq => ?_)
    have hlt : t < cs.length := by rw [hl]; exact (List.getElem?_eq_some_iff.1 hq).1
    have hp := List.getElem?_eq_getElem hlt
    exact ih t _ q hp hq (hc t _ hp)
  | @func f cs ds hl h ih =>
    intro v hv
    cases hv with
    | func hs hc =>
      refine .func (by rw [hs, hl]) (fun t q hq => ?_)
      have hlt : t < cs.length := by rw [hl]; exact (List.getElem?_eq_some_iff.1 hq).1
      have hp := List.getElem?_eq_getElem hlt
      exact ih t _ q hp hq (hc t _ hp)

/-- The blocks under new numbers, and other words for what they hold. -/
structure StRn (r : Nat → Nat) (st st' : St) : Prop where
  inj : ∀ i j, i < st'.length → j < st'.length → r i = r j → i = j
  blk : ∀ i B', st'.get i = some B' → ∃ B, st.get (r i) = some B ∧ B'.e = B.e ∧ B'.sz = B.sz ∧ B'.n = B.n ∧ B'.as B = true ∧ ∀ k, k < B.n → RnL r st'.length (B.el k) (B'.el k)

theorem Run.renum (r : Nat → Nat) (st' : St) (l : List (Nat × PV)) (hid : ∀ i, i < n0 → r i = i) (hn : n0 ≤ st'.length) (hs : StRn r st st') (he : ∀ x ∈ l, Rn r st'.length (env x.1) x.2) (h : Run P f fn n0 Q k (envL l) st') : Run P f fn n0 Q k env st := by
  intro hn0 K σ w a b cs hR hsz hd hfn hk hE
  have hR' : Rel K (fun i => σ (r i)) st' w := by
    refine ⟨hR.kin, fun i B' hB' => ?_, fun i j B C hB hC h1 h2 he => ?_, hR.gl, fun i B' hB' hf hr2 => by
      obtain ⟨B, hB, e1, e2, e3, e4, e5⟩ := hs.blk i B' hB'
      show (σ (r i)).off + B'.n * (σ (r i)).sz = (σ (r i)).tot
      rw [e3]; exact hR.fl _ B hB ((Blk.as_spec e4).2 hf) hr2⟩
    · obtain ⟨B, hB, e1, e2, e3, e4, e5⟩ := hs.blk i B' hB'
      have e4 := (Blk.as_spec e4).1
      rcases hR.own _ B hB with ⟨hf, h0⟩ | ⟨hr', cur, g1, g2, g3, g4, g5⟩
      · exact .inl ⟨hf, e3 ▸ h0⟩
      · refine .inr ⟨hr', cur, e1 ▸ g1, g2, e2 ▸ g3, ⟨by rw [e3, e2]; exact g4.1, g4.2.1, fun k hk => ?_⟩, by rw [e4]; exact g5⟩
        · rw [e3] at hk
          obtain ⟨a1, a2⟩ := g4.2.2 k hk
          obtain ⟨b1, b2⟩ := (e5 k hk).spec
          rw [e2]
          refine ⟨by rw [← b1]; exact a1, fun j q hq => ?_⟩
          have hlt : j < (B.el k).length := by rw [b1]; exact (List.getElem?_eq_some_iff.1 hq).1
          have hp := List.getElem?_eq_getElem hlt
          exact (b2 j _ q hp hq).spec (a2 j _ hp)
    · obtain ⟨B1, hB1, _⟩ := hs.blk i B hB
      obtain ⟨C1, hC1, _⟩ := hs.blk j C hC
      exact hs.inj i j (St.get_lt hB) (St.get_lt hC) (hR.sep _ _ B1 C1 hB1 hC1 h1 h2 he)
  have hE' : EnvRel K (fun i => σ (r i)) st'.length (envL l) a := by
    intro t
    clear h
    induction l with
    | nil => exact .any _
    | cons x l ih =>
      obtain ⟨d, p⟩ := x
      show VR K _ _ (bif Nat.beq t d then p else envL l t) _
      cases hb : Nat.beq t d with
      | true =>
        have := Nat.eq_of_beq_eq_true hb
        subst this
        exact (he (t, p) (by simp)).spec (hE t)
      | false => exact ih (fun y hy => he y (by simp [hy]))
  obtain ⟨v, w', fr, ⟨K2, σ2, st2, pv2, q2, e2, r2, v2⟩, rest⟩ := h hn K _ w a b cs hR' hsz hd hfn hk hE'
  refine ⟨v, w', fr, ⟨K2, σ2, st2, pv2, q2, ⟨e2.kle, fun i hi => by rw [e2.sig i hi, hid i hi], e2.len, e2.os, e2.tape, e2.output, e2.size, fun i B hB hr hl => ?_, fun k hk hn => ?_, fun b c hb => ?_⟩, r2, v2⟩, rest⟩
  · rcases e2.live i B hB hr hl with ⟨j, C, hC, hr', hl', he'⟩ | hs'
    · obtain ⟨C1, hC1, _, _, _, e4, _⟩ := hs.blk j C hC
      exact .inl ⟨r j, C1, hC1, (Blk.as_spec e4).1 ▸ hr', hl', he'⟩
    · exact .inr hs'
  · refine e2.keep k hk (fun j B hB hr hl => ?_)
    obtain ⟨C1, hC1, _, _, _, e4, _⟩ := hs.blk j B hB
    exact hn _ C1 hC1 ((Blk.as_spec e4).1 ▸ hr) hl
  · rcases e2.knew b c hb with hb | ⟨j, C, hC, hr', hl', he'⟩ | hs'
    · exact .inl hb
    · obtain ⟨C1, hC1, _, _, _, e4, _⟩ := hs.blk j C hC
      exact .inr (.inl ⟨r j, C1, hC1, (Blk.as_spec e4).1 ▸ hr', hl', he'⟩)
    · exact .inr (.inr hs')

/-- A loop: what holds at its head, and a number that falls. -/
theorem Run.loopInd {ι : Type} {c : Code} (I : ι → Env × St) (Inv : ι → Prop) (μ : ι → Nat) (step : ∀ i, Inv i → (∀ j, Inv j → μ j < μ i → Run P f fn n0 Q (.inLoop c :: k) (I j).1 (I j).2) → Run P f fn n0 Q (.code c :: .inLoop c :: k) (I i).1 (I i).2) (i : ι) (hi : Inv i) :
    Run P f fn n0 Q (.inLoop c :: k) (I i).1 (I i).2 := by
  have key : ∀ n i, μ i = n → Inv i → Run P f fn n0 Q (.inLoop c :: k) (I i).1 (I i).2 := by
    intro n
    induction n using Nat.strongRecOn with
    | _ n ih =>
      intro i hn hi
      exact Run.inLoop (step i hi (fun j hj hlt => ih (μ j) (hn ▸ hlt) j rfl hj))
  exact key _ i rfl hi
theorem Run.loopOf {c : Code} (h : Run P f fn n0 Q (.inLoop c :: k) env st) : Run P f fn n0 Q (.code (.loop c) :: k) env st := by
  intro hn0 K σ w a b cs hR hsz hd hfn hk hE
  obtain ⟨v, w', fr, ho, hst, hrest⟩ := h hn0 K σ w a b cs hR hsz hd hfn hk hE
  refine ⟨v, w', fr, ho, ?_, hrest⟩
  obtain ⟨n, hn⟩ := hst
  cases n with
  | zero =>
    have hmode := hrest.2.1
    simp only [runN, Stepped.next.injEq] at hn
    have : fr.mode = .run := by
      have := congrArg (fun m => (m.gs.getD 0 default).frame.mode) hn
      simpa [lone, Frame.at] using this.symm
    rw [this] at hmode; cases hmode
  | succ n =>
    refine .head step_loop ⟨n, ?_⟩
    simpa [runN, step_inLoop] using hn
end
end Go.Sy
end
