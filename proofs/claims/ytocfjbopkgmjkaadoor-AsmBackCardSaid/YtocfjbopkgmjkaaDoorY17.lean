/- Calls that take, change and hand back own memory: a contract about few blocks, used among many. -/
import Derived.Test.YtocfjbopkgmjkaaDoorY16
set_option linter.unusedVariables false
set_option linter.unusedSimpArgs false
set_option linter.unusedSectionVars false
namespace Go.Sy
open Go Go.RowKit

mutual
def rnP (f : Nat → Nat) : PV → PV
  | .ptr i k off => .ptr (f i) k off
  | .slc i k n => .slc (f i) k n
  | .agg cs => .agg (rnPL f cs)
  | .tup cs => .tup (rnPL f cs)
  | .iface t p => .iface t (rnP f p)
  | .func g cs => .func g (rnPL f cs)
  | .any => .any
  | .atom v => .atom v
  | .fptr sz n el k off => .fptr sz n el k off
  | .fz sz n el => .fz sz n el
def rnPL (f : Nat → Nat) : List PV → List PV
  | [] => []
  | p :: l => rnP f p :: rnPL f l
end
theorem rnPL_eq (f : Nat → Nat) (l : List PV) : rnPL f l = l.map (rnP f) := by
  induction l with
  | nil => rfl
  | cons p l ih => simp [rnPL, ih]
theorem VR.fwd {K : KH} {σ : Nat → Loc} {N : Nat} {p : PV} {v : Value} (h : VR K σ N p v) : ∀ {σ' : Nat → Loc} {N' : Nat} {f : Nat → Nat}, (∀ i, i < N → f i < N' ∧ σ' (f i) = σ i) → VR K σ' N' (rnP f p) v := by
  induction h with
  | any v => intro σ' N' f hf; unfold rnP; exact .any v
  | atom v => intro σ' N' f hf; unfold rnP; exact .atom v
  | ptr hi => intro σ' N' f hf; unfold rnP; rw [← (hf _ hi).2]; exact .ptr (hf _ hi).1
  | fptr hb hk hs hl h1 h _ => intro σ' N' f hf; unfold rnP; exact .fptr hb hk hs hl h1 (fun k hk j p hp => (h k hk j p hp).zero _ _)
  | slc hi hr ht hn hm => intro σ' N' f hf; unfold rnP; rw [← (hf _ hi).2] at hr ht ⊢; exact .slc (hf _ hi).1 hr ht hn hm
  | slc0 A => intro σ' N' f hf; unfold rnP; exact .slc0 A
  | fz hb hn hc hm hs hl h1 h _ => intro σ' N' f hf; unfold rnP; exact .fz hb hn hc hm hs hl h1 (fun k hk j p hp => (h k hk j p hp).zero _ _)
  | fz0 A cap hm => intro σ' N' f hf; unfold rnP; exact .fz0 A cap hm
  | @agg N cs vs hl h ih =>
    intro σ' N' f hf; unfold rnP
    refine .agg (by rw [rnPL_eq]; simpa using hl) (fun j p hp => ?_)
    rw [rnPL_eq, List.getElem?_map, Option.map_eq_some_iff] at hp
    obtain ⟨q, hq, rfl⟩ := hp
    exact ih j q hq hf
  | @tup N cs vs hl h ih =>
    intro σ' N' f hf; unfold rnP
    refine .tup (by rw [rnPL_eq]; simpa using hl) (fun j p hp => ?_)
    rw [rnPL_eq, List.getElem?_map, Option.map_eq_some_iff] at hp
    obtain ⟨q, hq, rfl⟩ := hp
    exact ih j q hq hf
  | iface _ ih => intro σ' N' f hf; unfold rnP; exact .iface (ih hf)
  | @func N g cs vs hl h ih =>
    intro σ' N' f hf; unfold rnP
    refine .func (by rw [rnPL_eq]; simpa using hl) (fun j p hp => ?_)
    rw [rnPL_eq, List.getElem?_map, Option.map_eq_some_iff] at hp
    obtain ⟨q, hq, rfl⟩ := hp
    exact ih j q hq hf

def rnB (f : Nat → Nat) : Option Blk → Option Blk
  | none => none
  | some ⟨e, sz, n, el, ro⟩ => some ⟨e, sz, n, fun k => rnPL f (el k), ro⟩
theorem rnB_some {f : Nat → Nat} {b : Option Blk} {B' : Blk} (h : rnB f b = some B') : ∃ B, b = some B ∧ B'.e = B.e ∧ B'.sz = B.sz ∧ B'.n = B.n ∧ B'.ro = B.ro ∧ ∀ k, B'.el k = rnPL f (B.el k) := by
  cases b with
  | none => simp [rnB] at h
  | some B => cases B; simp [rnB] at h; subst h; exact ⟨_, rfl, rfl, rfl, rfl, rfl, fun _ => rfl⟩
/-- The caller's blocks behind a call. -/
def putAll (f : Nat → Nat) : List Nat → St → St → St
  | [], s0, st => st ++ s0.map (rnB f)
  | r :: rs, b :: s0, st => putAll f rs s0 (st.upd r (rnB f b))
  | _ :: _, [], st => st
def fwd (rs : List Nat) (N : Nat) (i : Nat) : Nat := bif Nat.blt i rs.length then lgetN rs i else N + (i - rs.length)

theorem putAll_len (f : Nat → Nat) : ∀ (rs : List Nat) (s0 st : St), rs.length ≤ s0.length → (putAll f rs s0 st).length = st.length + (s0.length - rs.length)
  | [], s0, st, _ => by simp [putAll]
  | r :: rs, [], st, h => by simp at h
  | r :: rs, b :: s0, st, h => by
    simp at h
    simp only [putAll, putAll_len f rs s0 _ h, St.length_upd, List.length_cons]
    omega
variable [Globs] in
theorem putAll_cases (f : Nat → Nat) : ∀ (rs : List Nat) (s0 st : St), rs.length ≤ s0.length → nodupB rs = true → ∀ {i : Nat} {B' : Blk}, (putAll f rs s0 st).get i = some B' →
    (∃ j, j < rs.length ∧ lgetN rs j = i ∧ rnB f (s0.get j) = some B') ∨ (i < st.length ∧ (∀ j, j < rs.length → lgetN rs j ≠ i) ∧ st.get i = some B') ∨ (st.length ≤ i ∧ rnB f (s0.get (rs.length + (i - st.length))) = some B')
  | [], s0, st, _, _, i, B', h => by
    simp only [putAll] at h
    rw [St.get_eq] at h
    rcases Nat.lt_or_ge i st.length with hi | hi
    · rw [List.getElem?_append_left hi, ← St.get_eq] at h
      exact .inr (.inl ⟨hi, fun j hj => by simp at hj, h⟩)
    · rw [List.getElem?_append_right hi, List.getElem?_map] at h
      refine .inr (.inr ⟨hi, ?_⟩)
      rw [St.get_eq]
      simp only [List.length_nil, Nat.zero_add]
      cases hh : s0[i - st.length]? with
      | none => rw [hh] at h; simp at h
      | some b => rw [hh] at h; simpa using h
  | r :: rs, [], st, h, _, i, B', _ => by simp at h
  | r :: rs, b :: s0, st, hl, hn, i, B', h => by
    simp only [List.length_cons, Nat.add_le_add_iff_right] at hl
    simp only [putAll] at h
    unfold nodupB at hn
    cases hm : lmem r rs with
    | true => simp [hm] at hn
    | false =>
      simp only [hm, cond_false] at hn
      have hnr : ∀ j, j < rs.length → lgetN rs j ≠ r := fun j hj he => by
        have hin : r ∈ rs := he ▸ lgetN_mem hj
        rw [(lmem_eq r rs).2 hin] at hm; cases hm
      rcases putAll_cases f rs s0 _ hl hn h with ⟨j, hj, he, hb⟩ | ⟨hi, hno, hb⟩ | ⟨hi, hb⟩
      · exact .inl ⟨j + 1, by simpa using hj, he, by simpa [St.get] using hb⟩
      · rw [St.length_upd] at hi
        rcases St.get_upd_cases hb with ⟨hir, hb2⟩ | ⟨hne, hb2⟩
        · exact .inl ⟨0, by simp, hir.symm, hb2⟩
        · refine .inr (.inl ⟨hi, fun j hj => ?_, hb2⟩)
          cases j with
          | zero => exact fun e => hne e.symm
          | succ j => simpa [lgetN] using hno j (by simpa using hj)
      · rw [St.length_upd] at hi hb
        refine .inr (.inr ⟨hi, ?_⟩)
        rw [show (r :: rs).length + (i - st.length) = (rs.length + (i - st.length)) + 1 by simp; omega]
        simpa [St.get] using hb

variable [Globs]
/-- Nothing in a state is frozen. -/
def NoRo (s : St) : Prop := ∀ i B, s.get i = some B → B.ro = false

theorem Spec.frame {P : Program} {g : FuncId} {as as' : List PV} {st0 st : St} {R : PV → St → Prop} {rs : List Nat} (hs : Spec P g as st0 R) (hro : ∀ pv s, R pv s → NoRo s) (hr0 : NoRo st0) (hlen : rs.length = st0.length) (hnd : nodupB rs = true) (hlt : ∀ i, i < rs.length → lgetN rs i < st.length)
    (hsub : ∀ i B', st0.get i = some B' → ∃ B, st.get (lgetN rs i) = some B ∧ B'.e = B.e ∧ B'.sz = B.sz ∧ B'.n = B.n ∧ B'.ro = B.ro ∧ ∀ k, k < B.n → RnL (lgetN rs) st0.length (B.el k) (B'.el k)) (hargs : RnL (lgetN rs) st0.length as' as) :
    Spec P g as' st (fun pv s => ∃ pv0 s0, R pv0 s0 ∧ pv = rnP (fwd rs st.length) pv0 ∧ s = putAll (fwd rs st.length) rs s0 st) := by
  refine ⟨hs.1, fun K σ w vs hR hsz hv => ?_⟩
  obtain ⟨hl, hat⟩ := hargs.spec
  have hinj : ∀ i j, i < st0.length → j < st0.length → lgetN rs i = lgetN rs j → i = j := fun i j hi hj he => nodupB_inj hnd (hlen ▸ hi) (hlen ▸ hj) he
  -- the callee's view
  have hR0 : Rel K (fun i => σ (lgetN rs i)) st0 w := by
    refine ⟨hR.kin, fun i B' hB' => ?_, fun i j B C hB hC h1 h2 he => ?_, hR.gl⟩
    · obtain ⟨B, hB, e1, e2, e3, e4, e5⟩ := hsub i B' hB'
      rcases hR.own _ B hB with ⟨hf, h0⟩ | ⟨hr', cur, g1, g2, g3, g4, g5⟩
      · exact .inl ⟨hf, e3 ▸ h0⟩
      · refine .inr ⟨hr', cur, e1 ▸ g1, g2, e2 ▸ g3, ⟨by rw [e3, e2]; exact g4.1, fun k l hk hl => ?_, fun k hk => ?_⟩, by rw [e4]; exact g5⟩
        · rw [e3] at hk; rw [e2] at hl ⊢; exact g4.2.1 k l hk hl
        · rw [e3] at hk
          obtain ⟨a1, a2⟩ := g4.2.2 k hk
          obtain ⟨b1, b2⟩ := (e5 k hk).spec
          rw [e2]
          refine ⟨by rw [← b1]; exact a1, fun j q hq => ?_⟩
          have hlt : j < (B.el k).length := by rw [b1]; exact (List.getElem?_eq_some_iff.1 hq).1
          have hp := List.getElem?_eq_getElem hlt
          exact (b2 j _ q hp hq).spec (a2 j _ hp)
    · obtain ⟨B1, hB1, _⟩ := hsub i B hB
      obtain ⟨C1, hC1, _⟩ := hsub j C hC
      exact hinj i j (St.get_lt hB) (St.get_lt hC) (hR.sep _ _ B1 C1 hB1 hC1 h1 h2 he)
  refine (hs.2 K (fun i => σ (lgetN rs i)) w vs hR0 (by rw [hsz, hl]) (fun j q hq => ?_)).mono ?_
  · have hlt : j < as'.length := by rw [hl]; exact (List.getElem?_eq_some_iff.1 hq).1
    have hp := List.getElem?_eq_getElem hlt
    exact (hat j _ q hp hq).spec (hv j _ hp)
  rintro e w' ⟨v, rfl, K', σ0, s0, pv0, hq, hx, hR', hvr⟩
  have hx := (show ExtN st0.length K (fun i => σ (lgetN rs i)) st0 w K' σ0 s0 w' from hx)
  have hns := hro _ _ hq
  have hsl : rs.length ≤ s0.length := by rw [hlen]; exact hx.len
  -- the new places
  let σ1 : Nat → Loc := fun i => if i < st.length then σ i else σ0 (rs.length + (i - st.length))
  have hσold : ∀ i, i < st.length → σ1 i = σ i := fun i hi => if_pos hi
  have hf : ∀ i, i < s0.length → fwd rs st.length i < (putAll (fwd rs st.length) rs s0 st).length ∧ σ1 (fwd rs st.length i) = σ0 i := by
    intro i hi
    rw [putAll_len _ _ _ _ hsl]
    unfold fwd
    cases hb : Nat.blt i rs.length with
    | true =>
      have hb' : i < rs.length := by rwa [Nat.blt_eq] at hb
      have := hlt i hb'
      refine ⟨by simp only [cond_true]; omega, ?_⟩
      simp only [cond_true]
      rw [hσold _ this]
      exact (hx.sig i (by omega)).symm
    | false =>
      have hb' : ¬ i < rs.length := by intro hh; rw [← Nat.blt_eq] at hh; rw [hh] at hb; cases hb
      refine ⟨by simp only [cond_false]; omega, ?_⟩
      simp only [cond_false]
      show (if st.length + (i - rs.length) < st.length then σ (st.length + (i - rs.length)) else σ0 (rs.length + (st.length + (i - rs.length) - st.length))) = σ0 i
      rw [if_neg (by omega)]
      congr 1; omega
  -- an own block of the callee is one of the caller's, or new
  have own0 : ∀ j B, s0.get j = some B → (σ0 j).real = true → (∃ l B1, l < rs.length ∧ st.get (lgetN rs l) = some B1 ∧ B1.ro = false ∧ (σ (lgetN rs l)).real = true ∧ (σ (lgetN rs l)).blk = (σ0 j).blk) ∨ w.heap.size ≤ (σ0 j).blk := by
    intro j B hB hr
    rcases hx.live j B hB (hns j B hB) hr with ⟨l, B', hl', hro', hr', he⟩ | h
    · obtain ⟨B1, hB1, _, _, _, e4, _⟩ := hsub l B' hl'
      exact .inl ⟨l, B1, by rw [hlen]; exact St.get_lt hl', hB1, e4 ▸ hro', hr', he⟩
    · exact .inr h
  -- a caller's block that is not lent stays
  have away : ∀ i B, st.get i = some B → (∀ j, j < rs.length → lgetN rs j ≠ i) → (σ i).real = true → ∀ j B', st0.get j = some B' → B'.ro = false → (σ (lgetN rs j)).real = true → (σ (lgetN rs j)).blk ≠ (σ i).blk := by
    intro i B hB hno hr j B' hB' _ hr' he
    obtain ⟨B1, hB1, _⟩ := hsub j B' hB'
    exact hno j (by rw [hlen]; exact St.get_lt hB') (hR.sep _ _ B1 B hB1 hB hr' hr he)
  have hkeep : ∀ i B, st.get i = some B → (∀ j, j < rs.length → lgetN rs j ≠ i) → (σ i).real = true → w'.heap[(σ i).blk]? = w.heap[(σ i).blk]? := fun i B hB hno hr =>
    hx.keep _ (hR.blt hB hr) (fun j B' hB' hro' hr' => away i B hB hno hr j B' hB' hro' hr')
  have hfar : ∀ i B, st.get i = some B → (∀ j, j < rs.length → lgetN rs j ≠ i) → (σ i).real = true → ∀ j B', s0.get j = some B' → (σ0 j).real = true → (σ0 j).blk ≠ (σ i).blk := by
    intro i B hB hno hr j B' hB' hr' he
    rcases own0 j B' hB' hr' with ⟨l, B1, hl', hB1, _, hr1, he1⟩ | h
    · exact hno l hl' (hR.sep _ _ B1 B hB1 hB hr1 hr (he1.trans he))
    · have := hR.blt hB hr; omega
  have hmono : ∀ b c, K b = some c → K' b = some c := hx.kle
  have hN1 : st.length ≤ (putAll (fwd rs st.length) rs s0 st).length := by rw [putAll_len _ _ _ _ hsl]; omega
  -- blocks of the callee, under the caller's numbers
  have callee : ∀ i j B', rnB (fwd rs st.length) (s0.get j) = some B' → σ1 i = σ0 j → ((σ1 i).real = false ∧ B'.n = 0) ∨ ((σ1 i).real = true ∧ ∃ cur, w'.heap[(σ1 i).blk]? = some (.cells cur B'.e (0, 0)) ∧ cur.size = (σ1 i).tot ∧ (σ1 i).sz = B'.sz ∧ Holds K' σ1 (putAll (fwd rs st.length) rs s0 st).length B'.sz B'.n B'.el cur (σ1 i).off ∧
      K' (σ1 i).blk = (if B'.ro then some cur else none)) := by
    intro i j B' hB' he
    obtain ⟨B, hB, e1, e2, e3, e4, e5⟩ := rnB_some hB'
    rw [he, e1, e2, e3, e4]
    rcases hR'.own j B hB with h | ⟨hr, cur, g1, g2, g3, g4, g5⟩
    · exact .inl h
    · refine .inr ⟨hr, cur, g1, g2, g3, ⟨g4.1, g4.2.1, fun k hk => ?_⟩, g5⟩
      obtain ⟨a1, a2⟩ := g4.2.2 k hk
      rw [e5 k, rnPL_eq]
      refine ⟨by simpa using a1, fun l p hp => ?_⟩
      rw [List.getElem?_map, Option.map_eq_some_iff] at hp
      obtain ⟨q, hq', rfl⟩ := hp
      exact (a2 l q hq').fwd (fun i hi => hf i hi)
  have hσim : ∀ j, j < rs.length → σ1 (lgetN rs j) = σ0 j := fun j hj => by rw [hσold _ (hlt j hj)]; exact (hx.sig j (by omega)).symm
  have hσnew : ∀ i, st.length ≤ i → σ1 i = σ0 (rs.length + (i - st.length)) := fun i hi => if_neg (by omega)
  refine ⟨v, rfl, K', σ1, putAll (fwd rs st.length) rs s0 st, rnP (fwd rs st.length) pv0, ⟨pv0, s0, hq, rfl, rfl⟩, ?_, ?_, hvr.fwd hf⟩
  · refine ⟨hmono, hσold, hN1, hx.os, hx.tape, hx.output, hx.size, fun i B' hB' hro' hr' => ?_, fun k hk hn => ?_, fun b c hb => ?_⟩
    · rcases putAll_cases _ _ _ _ hsl hnd hB' with ⟨j, hj, rfl, hb⟩ | ⟨hi, hno, hb⟩ | ⟨hi, hb⟩
      · obtain ⟨B, hB, _⟩ := rnB_some hb
        rw [hσim j hj] at hr' ⊢
        rcases own0 j B hB hr' with ⟨l, B1, hl', hB1, hro1, hr1, he1⟩ | h
        · exact .inl ⟨_, B1, hB1, hro1, hr1, he1⟩
        · exact .inr h
      · rw [hσold i hi] at hr' ⊢
        exact .inl ⟨i, B', hb, hro', hr', rfl⟩
      · obtain ⟨B, hB, _⟩ := rnB_some hb
        rw [hσnew i hi] at hr' ⊢
        rcases own0 _ B hB hr' with ⟨l, B1, hl', hB1, hro1, hr1, he1⟩ | h
        · exact .inl ⟨_, B1, hB1, hro1, hr1, he1⟩
        · exact .inr h
    · refine hx.keep k hk (fun j B' hB' hro' hr' he => ?_)
      obtain ⟨B1, hB1, _, _, _, e4, _⟩ := hsub j B' hB'
      exact hn _ B1 hB1 (e4 ▸ hro') hr' he
    · rcases hx.knew b c hb with hb | ⟨j, B', hB', hro', hr', he⟩ | hb
      · exact .inl hb
      · obtain ⟨B1, hB1, _, _, _, e4, _⟩ := hsub j B' hB'
        exact .inr (.inl ⟨_, B1, hB1, e4 ▸ hro', hr', he⟩)
      · exact .inr (.inr hb)
  · refine ⟨hR'.kin, fun i B' hB' => ?_, fun i j B C hB hC h1 h2 he => ?_, hR'.gl⟩
    · rcases putAll_cases _ _ _ _ hsl hnd hB' with ⟨j, hj, rfl, hb⟩ | ⟨hi, hno, hb⟩ | ⟨hi, hb⟩
      · exact callee _ j B' hb (hσim j hj)
      · rw [hσold i hi]
        rcases hR.own i B' hb with h | ⟨hr, cur, g1, g2, g3, g4, g5⟩
        · exact .inl h
        · refine .inr ⟨hr, cur, (hkeep i B' hb hno hr).trans g1, g2, g3, g4.mono hmono hσold hN1, ?_⟩
          cases hro' : B'.ro with
          | true => rw [hro'] at g5; simp only [if_true] at g5 ⊢; exact hmono _ _ g5
          | false =>
            rw [hro'] at g5
            simp only [Bool.false_eq_true, if_false] at g5 ⊢
            cases hk : K' (σ i).blk with
            | none => rfl
            | some c =>
              rcases hx.knew _ _ hk with h | ⟨j, B1, hB1, hro1, hr1, he1⟩ | h
              · rw [g5] at h; cases h
              · exact absurd he1 (away i B' hb hno hr j B1 hB1 hro1 hr1)
              · have := hR.blt hb hr; omega
      · exact callee _ _ B' hb (hσnew i hi)
    · -- no two are one
      have idx : ∀ {i : Nat} {B' : Blk}, (putAll (fwd rs st.length) rs s0 st).get i = some B' → (i < st.length ∧ (∀ j, j < rs.length → lgetN rs j ≠ i) ∧ st.get i = some B') ∨ ∃ j B1, s0.get j = some B1 ∧ σ1 i = σ0 j ∧ i = fwd rs st.length j := by
        intro i B' hB'
        rcases putAll_cases _ _ _ _ hsl hnd hB' with ⟨j, hj, rfl, hb⟩ | h | ⟨hi, hb⟩
        · obtain ⟨B1, hB1, _⟩ := rnB_some hb
          refine .inr ⟨j, B1, hB1, hσim j hj, ?_⟩
          unfold fwd
          rw [show Nat.blt j rs.length = true by rw [Nat.blt_eq]; exact hj]; rfl
        · exact .inl h
        · obtain ⟨B1, hB1, _⟩ := rnB_some hb
          refine .inr ⟨_, B1, hB1, hσnew i hi, ?_⟩
          unfold fwd
          have : Nat.blt (rs.length + (i - st.length)) rs.length = false := by rw [Bool.eq_false_iff]; intro hh; rw [Nat.blt_eq] at hh; omega
          rw [this, cond_false]; omega
      rcases idx hB with ⟨hi, hni, hb⟩ | ⟨a, B1, hB1, ha, hia⟩ <;> rcases idx hC with ⟨hj, hnj, hc⟩ | ⟨b, C1, hC1, hb', hjb⟩
      · rw [hσold i hi] at h1 he
        rw [hσold j hj] at h2 he
        exact hR.sep i j B C hb hc h1 h2 he
      · rw [hσold i hi] at h1 he
        rw [hb'] at h2 he
        exact absurd he.symm (hfar i B hb hni h1 b C1 hC1 h2)
      · rw [hσold j hj] at h2 he
        rw [ha] at h1 he
        exact absurd he (hfar j C hc hnj h2 a B1 hB1 h1)
      · rw [ha] at h1 he
        rw [hb'] at h2 he
        rw [hia, hjb, hR'.sep a b B1 C1 hB1 hC1 h1 h2 he]
end Go.Sy
