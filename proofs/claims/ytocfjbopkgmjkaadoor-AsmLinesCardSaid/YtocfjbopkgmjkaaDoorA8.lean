/- Walks: what the document reads: numbers. -/
import Derived.Test.YtocfjbopkgmjkaaDoorA7
set_option linter.unusedVariables false
set_option linter.unusedSimpArgs false
set_option linter.unusedSectionVars false
set_option pp.maxSteps 3000
set_option maxHeartbeats 400000
namespace Go.Proofs.YtocfjbopkgmjkaaDoor.W
open Go Go.Sy

def stepU (u : Nat) (c : UInt8) : Nat := if 48 ≤ c.toNat ∧ c.toNat ≤ 57 then (u * 10 + (c.toNat - 48)) % 18446744073709551616 else u
def foldU (l : List UInt8) : Nat := l.foldl stepU 0
def readInt (l : List UInt8) : Int :=
  let n := IntKind.i64.wrap (foldU (l.take 21))
  if l.head? = some 45 then IntKind.i64.wrap (0 - n) else n
theorem foldU_lt (l : List UInt8) : foldU l < 18446744073709551616 := by
  have : ∀ (l : List UInt8) (a : Nat), a < 18446744073709551616 → l.foldl stepU a < 18446744073709551616 := by
    intro l
    induction l with
    | nil => intro a h; exact h
    | cons c l ih =>
      intro a h
      refine ih _ ?_
      unfold stepU
      split
      · exact Nat.mod_lt _ (by decide)
      · exact h
  exact this l 0 (by decide)
theorem foldU_take (l : List UInt8) (i : Nat) (h : i < l.length) : foldU (l.take (i + 1)) = stepU (foldU (l.take i)) (l[i]) := by
  unfold foldU
  rw [List.take_add_one, List.getElem?_eq_getElem h, Option.toList_some, List.foldl_append]
  rfl
theorem foldU_digs (l : List UInt8) : ∀ a, (∀ c ∈ l, Lib.IsDig c) → Lib.dval a l < 18446744073709551616 → l.foldl stepU a = Lib.dval a l := by
  induction l with
  | nil => intro a _ _; rfl
  | cons c l ih =>
    intro a hd hv
    have hc := hd c (by simp)
    have e : Lib.dval a (c :: l) = Lib.dval (a * 10 + (c.toNat - 48)) l := rfl
    have hge := Lib.dval_ge l (a * 10 + (c.toNat - 48))
    rw [e] at hv ⊢
    rw [List.foldl_cons]
    have : stepU a c = a * 10 + (c.toNat - 48) := by
      unfold stepU
      unfold Lib.IsDig at hc
      rw [if_pos hc, Nat.mod_eq_of_lt (by omega)]
    rw [this]
    exact ih _ (fun x hx => hd x (by simp [hx])) hv
theorem readInt_itoa (n : Int) (h : R64 n) : readInt (Lib.itoa n) = n := by
  obtain ⟨h0, h1⟩ := h
  have hl := Lib.itoa_length_le n h0 h1
  have ht : (Lib.itoa n).take 21 = Lib.itoa n := List.take_of_length_le hl
  unfold readInt
  rw [ht]
  have hd : ∀ u : Nat, u < 18446744073709551616 → foldU (Lib.decDigits u) = u := by
    intro u hu
    have := foldU_digs (Lib.decDigits u) 0 (Lib.decDigits_all u) (by rw [Lib.decDigits_val]; exact hu)
    rw [Lib.decDigits_val] at this
    exact this
  by_cases hn : n < 0
  · have e : Lib.itoa n = 45 :: Lib.decDigits n.natAbs := by simp [Lib.itoa, hn]
    rw [e]
    have f : foldU (45 :: Lib.decDigits n.natAbs) = n.natAbs := by
      have : foldU (45 :: Lib.decDigits n.natAbs) = foldU (Lib.decDigits n.natAbs) := by
        unfold foldU; rw [List.foldl_cons]; rfl
      rw [this, hd _ (by omega)]
    simp only [List.head?_cons, if_true, f]
    simp only [IntKind.wrap, IntKind.signed, IntKind.bits]
    simp
    omega
  · have e : Lib.itoa n = Lib.decDigits n.toNat := by simp [Lib.itoa, hn]
    rw [e]
    have hne : (Lib.decDigits n.toNat).head? ≠ some 45 := by
      intro hh
      have := Lib.decDigits_all n.toNat 45 (List.mem_of_head? hh)
      unfold Lib.IsDig at this
      revert this; decide
    rw [if_neg hne, hd _ (by omega)]
    rw [wrap64 (by omega) (by omega)]; omega
theorem readInt_rng (l : List UInt8) : R64 (readInt l) := by
  have : ∀ n : Int, R64 (IntKind.i64.wrap n) := by
    intro n
    unfold R64
    simp only [IntKind.wrap, IntKind.signed, IntKind.bits]
    simp
    omega
  unfold readInt
  simp only
  split <;> exact this _
theorem numOf_read (l : List UInt8) : Lib.numOf l = if Lib.itoa (readInt l) = l then some (readInt l) else none := by
  by_cases h : Lib.itoa (readInt l) = l
  · rw [if_pos h]
    exact (Lib.numOf_iff _ _).2 ⟨readInt_rng l, h⟩
  · rw [if_neg h]
    cases hn : Lib.numOf l with
    | none => rfl
    | some n =>
      obtain ⟨hr, he⟩ := (Lib.numOf_iff _ _).1 hn
      rw [← he, readInt_itoa n hr] at h
      exact absurd rfl h
theorem byteAt_get (s : ByteArray) (i : Nat) (h : i < s.data.toList.length) : byteAt s (i : Int) = ((s.data.toList[i]).toNat : Int) := by
  have h' : i < s.data.size := by simpa using h
  simp [byteAt, Array.getElem?_eq_getElem h']
theorem wrapI_rng (n : Int) : R64 (IntKind.i64.wrap n) := by
  unfold R64
  simp only [IntKind.wrap, IntKind.signed, IntKind.bits]
  simp
  omega
theorem head_byte (s : ByteArray) (c : UInt8) : s.data.toList.head? = some c ↔ 0 < s.size ∧ byteAt s 0 = (c.toNat : Int) := by
  have hlen : s.data.toList.length = s.size := Array.length_toList
  cases hl : s.data.toList with
  | nil =>
    rw [hl] at hlen
    simp at hlen
    simp [← hlen]
  | cons a l =>
    have h0 : 0 < s.data.toList.length := by simp [hl]
    have := byteAt_get s 0 h0
    have e0 : byteAt s ((0 : Nat) : Int) = byteAt s 0 := rfl
    simp only [hl, List.getElem_cons_zero] at this
    rw [← e0, this]
    simp only [List.head?_cons, Option.some.injEq]
    constructor
    · rintro rfl
      exact ⟨by omega, rfl⟩
    · rintro ⟨_, h⟩
      apply UInt8.toNat.inj
      omega
theorem bs_toL_eq (l : List UInt8) (s : ByteArray) : (bs l).toList = s.toList ↔ bs l = s := by
  rw [ByteArray.toList_eq, ByteArray.toList_eq]
  constructor
  · intro h
    rw [bs_toList] at h
    rw [h]; exact bs_inv s
  · intro h; rw [h]
theorem stepU_dig (u : Nat) (c : UInt8) (h0 : (48 : Int) ≤ (c.toNat : Int)) (h1 : (c.toNat : Int) ≤ 57) :
    IntKind.u64.wrap (IntKind.u64.wrap ((u : Int) * 10) + IntKind.u64.wrap (IntKind.u8.wrap ((c.toNat : Int) - 48))) = ((stepU u c : Nat) : Int) := by
  unfold stepU
  rw [if_pos (by omega)]
  simp only [IntKind.wrap, IntKind.signed, IntKind.bits]
  simp
  omega
theorem stepU_not (u : Nat) (c : UInt8) (h : (c.toNat : Int) < 48 ∨ (57 : Int) < (c.toNat : Int)) : stepU u c = u := by
  unfold stepU
  rw [if_neg (by omega)]
theorem int_ (s : ByteArray) (hs : s.size ≤ 281474976710656) : Pure Tryd.prog 41 [str s] (numP s) := by
  have hlen : s.data.toList.length = s.size := Array.length_toList
  obtain ⟨pv, hpv⟩ : ∃ pv, pv = numP s := ⟨_, rfl⟩
  have hcl : closedB pv = true := by rw [hpv]; unfold numP; split <;> rfl
  rw [← hpv]
  have hF0 : foldU (s.data.toList.take 0) = 0 := by rw [List.take_zero]; rfl
  have hFs : ∀ i (h : i < s.data.toList.length), foldU (s.data.toList.take (i + 1)) = stepU (foldU (s.data.toList.take i)) (s.data.toList[i]) := fun i h => foldU_take _ i h
  have hFl : ∀ i, foldU (s.data.toList.take i) < 18446744073709551616 := fun i => foldU_lt _
  have hrd : readInt s.data.toList = (let n := IntKind.i64.wrap (foldU (s.data.toList.take 21)); if s.data.toList.head? = some 45 then IntKind.i64.wrap (0 - n) else n) := rfl
  have htk : ∀ i, s.size ≤ i → foldU (s.data.toList.take i) = foldU (s.data.toList.take s.size) := by
    intro i hi
    rw [List.take_of_length_le (by omega), List.take_of_length_le (by omega)]
  generalize hF : (fun i => foldU (s.data.toList.take i)) = F at *
  have hFi : ∀ i, foldU (s.data.toList.take i) = F i := fun i => by rw [← hF]
  simp only [hFi] at hF0 hFs hFl hrd htk
  generalize hv : readInt s.data.toList = v at *
  refine Pure.of_spec (Spec.of_run (fn := Tryd.f41) Tryd.func41 rfl rfl (by kernel_rfl) ?_) (by first | assumption | rfl | (split <;> rfl) | (split <;> split <;> rfl))
  repeat' (first | refine Run.ctl rfl ?_ | (refine Rg.op false tok rfl rfl rfl rfl ?_ ?_ ?_; (first | exact True.intro | omega | (simp; done) | (simp; omega) | decide +kernel); (first | exact trivial | exact .inl rfl | exact .inr rfl)) | (refine Rg.op true tok rfl rfl rfl rfl ?_ ?_ ?_; (first | exact True.intro | omega | (simp; done) | (simp; omega) | decide +kernel); (first | exact trivial | exact .inl rfl | exact .inr rfl)) | refine Rg.nil ?_ | refine Rg.skip rfl rfl rfl ?_ | refine Run.regR ?_ | refine Run.drwR mixed (by kernel_rfl) rfl ?_ | refine Run.condT rfl ?_ | refine Run.condF rfl ?_ | (refine Run.condB rfl (fun hc => ?_) (fun hc => ?_) <;> ((try simp only [cs] at hc))) | ((fail_if_success (refine Rg.lit true rfl ?_)); (fail_if_success (refine Rg.lit false rfl ?_)); refine Rg.guard rfl (fun hc => ?_) (fun hc => ?_) <;> ((try simp only [cs] at hc))))
  refine Run.loopAt (ι := Nat) (fun i => ([(0, str s), (4, .atom (.int .u64 (F i : Int))), (5, i64 i)], [])) (fun i => i ≤ s.size ∧ i ≤ 21) (fun i => 21 - i) 0 ⟨rfl, by rw [hF0]; rfl, rfl, trivial⟩ rfl ⟨by omega, by omega⟩ ?_
  rintro i ⟨hi, h21⟩ back
  repeat' (first | refine Run.ctl rfl ?_ | (refine Rg.op false tok rfl rfl rfl rfl ?_ ?_ ?_; (first | exact True.intro | omega | (simp; done) | (simp; omega) | decide +kernel); (first | exact trivial | exact .inl rfl | exact .inr rfl)) | (refine Rg.op true tok rfl rfl rfl rfl ?_ ?_ ?_; (first | exact True.intro | omega | (simp; done) | (simp; omega) | decide +kernel); (first | exact trivial | exact .inl rfl | exact .inr rfl)) | refine Rg.nil ?_ | refine Rg.skip rfl rfl rfl ?_ | refine Run.regR ?_ | refine Run.drwR mixed (by kernel_rfl) rfl ?_ | refine Run.condT rfl ?_ | refine Run.condF rfl ?_ | (refine Run.condB rfl (fun hc => ?_) (fun hc => ?_) <;> ((try simp only [cs] at hc))) | ((fail_if_success (refine Rg.lit true rfl ?_)); (fail_if_success (refine Rg.lit false rfl ?_)); refine Rg.guard rfl (fun hc => ?_) (fun hc => ?_) <;> ((try simp only [cs] at hc))))
  · have hlt : i < s.data.toList.length := by omega
    have hb := byteAt_get s i hlt
    have e := stepU_dig (F i) (s.data.toList[i]) (by omega) (by omega)
    rw [← hFs i hlt, ← hb] at e
    exact back (i + 1) _ _ ⟨by omega, by omega⟩ (by omega) ⟨rfl, congrArg (fun z => PV.atom (.int .u64 z)) e, rfl, trivial⟩ rfl
  · have hlt : i < s.data.toList.length := by omega
    have hb := byteAt_get s i hlt
    have e := stepU_not (F i) (s.data.toList[i]) (by omega)
    rw [← hFs i hlt] at e
    exact back (i + 1) _ _ ⟨by omega, by omega⟩ (by omega) ⟨rfl, congrArg (fun z : Nat => PV.atom (.int .u64 (z : Int))) e.symm, rfl, trivial⟩ rfl
  · have hlt : i < s.data.toList.length := by omega
    have hb := byteAt_get s i hlt
    have e := stepU_not (F i) (s.data.toList[i]) (by omega)
    rw [← hFs i hlt] at e
    exact back (i + 1) _ _ ⟨by omega, by omega⟩ (by omega) ⟨rfl, congrArg (fun z : Nat => PV.atom (.int .u64 (z : Int))) e.symm, rfl, trivial⟩ rfl
  all_goals
    have hF21 : F 21 = F i := by
      by_cases h : 21 ≤ i
      · rw [show i = 21 by omega]
      · rw [htk 21 (by omega), show i = s.size by omega]
    rw [hF21] at hrd
    have r1 := wrapI_rng (F i)
    have r2 := wrapI_rng (0 - IntKind.i64.wrap (F i))
    have hhd : s.data.toList.head? = some 45 ↔ 0 < s.size ∧ byteAt s 0 = 45 := head_byte s 45
    have hxneg : 0 < s.size ∧ byteAt s 0 = 45 → IntKind.i64.wrap (0 - IntKind.i64.wrap (F i)) = v := fun h => by rw [hrd, if_pos (hhd.2 h)]
    have hxpos : ¬ (0 < s.size ∧ byteAt s 0 = 45) → IntKind.i64.wrap (F i) = v := fun h => by rw [hrd, if_neg (fun h' => h (hhd.1 h'))]
    have hend : ∀ x, x = v → (bs (Lib.itoa x) = s → pv = .tup [i64 x, bl true]) ∧ (¬ bs (Lib.itoa x) = s → pv = .tup [i64 0, bl false]) := by
      rintro x rfl
      rw [hpv]
      unfold numP
      rw [numOf_read, hv]
      constructor
      · intro h
        rw [if_pos (by rw [← h, bs_toList])]
      · intro h
        rw [if_neg (fun h' => h (by rw [h']; exact bs_inv s))]
    repeat' (first | refine Run.ctl rfl ?_ | (refine Rg.op false tok rfl rfl rfl rfl ?_ ?_ ?_; (first | exact True.intro | omega | (simp; done) | (simp; omega) | decide +kernel); (first | exact trivial | exact .inl rfl | exact .inr rfl)) | refine Rg.call (decimal_ _ r1) rfl rfl rfl rfl rfl ⟨⟨.refl _, trivial⟩, rfl⟩ ?_ | refine Rg.call (decimal_ _ r2) rfl rfl rfl rfl rfl ⟨⟨.refl _, trivial⟩, rfl⟩ ?_ | (refine Rg.op true tok rfl rfl rfl rfl ?_ ?_ ?_; (first | exact True.intro | omega | (simp; done) | (simp; omega) | decide +kernel); (first | exact trivial | exact .inl rfl | exact .inr rfl)) | refine Rg.nil ?_ | refine Rg.skip rfl rfl rfl ?_ | refine Run.regR ?_ | refine Run.drwR mixed (by kernel_rfl) rfl ?_ | refine Run.condT rfl ?_ | refine Run.condF rfl ?_ | (refine Run.condB rfl (fun hc => ?_) (fun hc => ?_) <;> ((try simp only [cs] at hc))) | ((fail_if_success (refine Rg.lit true rfl ?_)); (fail_if_success (refine Rg.lit false rfl ?_)); refine Rg.guard rfl (fun hc => ?_) (fun hc => ?_) <;> ((try simp only [cs] at hc))))
    all_goals
      rw [bs_toL_eq] at hc
      (first | refine Run.ret tok Tryd.func41 rfl ?_ | refine Run.fall tok Tryd.func41 rfl ?_)
      first
        | (rw [(hend _ (hxneg ⟨by omega, by assumption⟩)).1 hc]; exact .refl _)
        | (rw [(hend _ (hxneg ⟨by omega, by assumption⟩)).2 hc]; exact .refl _)
        | (rw [(hend _ (hxpos (by omega))).1 hc]; exact .refl _)
        | (rw [(hend _ (hxpos (by omega))).2 hc]; exact .refl _)
end Go.Proofs.YtocfjbopkgmjkaaDoor.W
