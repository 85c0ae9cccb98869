/- Walks: what the document reads: codes. -/
import Derived.Test.YtocfjbopkgmjkaaDoorC4
set_option linter.unusedVariables false
set_option linter.unusedSimpArgs false
set_option linter.unusedSectionVars false
set_option pp.maxSteps 3000
set_option maxHeartbeats 1000000
namespace Go.Proofs.YtocfjbopkgmjkaaDoor.W
open Go Go.Sy

/-- What the document makes of a line, ahead of writing it again. -/
def lineC (s : List UInt8) : Instr :=
  match Lib.cut s [32] with
  | (name, rest, sm) => ⟨opFind name, if sm then (Lib.numOf rest).getD 0 else 0⟩
theorem lineC_ok (s : List UInt8) : (lineC s).ok := by
  unfold lineC
  rcases Lib.cut s [32] with ⟨name, rest, sm⟩
  simp only
  refine ⟨by have := opFind_rng name; unfold R64; simp only; omega, ?_⟩
  show R64 (if sm = true then _ else _)
  split
  · cases h : Lib.numOf rest with
    | none => exact R64_0
    | some n => exact ((Lib.numOf_iff _ _).1 h).1
  · exact R64_0
theorem lineC_eq (s : List UInt8) : lineIn s = if s = [] ∨ lineOf (lineC s) ≠ s then none else some (lineC s) := by
  by_cases h : s = [] ∨ lineOf (lineC s) ≠ s
  · rw [if_pos h]
    cases hi : lineIn s with
    | none => rfl
    | some i =>
      obtain ⟨h1, h2, h3⟩ := (lineIn_iff s i).1 hi
      have : lineC s = i := by
        unfold lineIn at hi
        unfold lineC
        rcases hc : Lib.cut s [32] with ⟨name, rest, sm⟩
        rw [hc] at hi
        simp only at hi ⊢
        split at hi
        · cases hi
        · split at hi
          · simp only [Option.map_eq_some_iff] at hi
            obtain ⟨n, hn, rfl⟩ := hi
            simp_all
          · cases hi
            simp_all
      rcases h with h | h
      · exact absurd h h3
      · rw [this] at h; exact absurd h2 h
  · rw [if_neg h]
    have h1 : s ≠ [] := fun e => h (.inl e)
    have h2 : lineOf (lineC s) = s := by
      by_cases e : lineOf (lineC s) = s
      · exact e
      · exact absurd (.inr e) h
    exact (lineIn_iff s _).2 ⟨lineC_ok s, h2, h1⟩

/-- How far a text has no blank. -/
theorem cut_scan (l : List UInt8) (k : Nat) (hk : k ≤ l.length) (hno : (32 : UInt8) ∉ l.take k) (he : k = l.length ∨ l[k]? = some 32) :
    Lib.cut l [32] = (l.take k, l.drop (k + 1), decide (k < l.length)) := by
  rcases he with rfl | he
  · rw [List.take_length] at hno ⊢
    rw [cut_not hno, List.drop_of_length_le (by omega)]
    simp
  · have hlt : k < l.length := (List.getElem?_eq_some_iff.1 he).1
    have hl : l = l.take k ++ 32 :: l.drop (k + 1) := by
      have h1 : l[k] = 32 := by rw [List.getElem?_eq_getElem hlt] at he; exact Option.some.inj he
      rw [← h1, ← List.drop_eq_getElem_cons hlt, List.take_append_drop]
    have : Lib.cut l [32] = Lib.cut (l.take k ++ 32 :: l.drop (k + 1)) [32] := by rw [← hl]
    rw [this, cut_at _ hno]
    simp [hlt]
theorem numP_fst (s : ByteArray) : ∃ b, numP s = .tup [i64 ((Lib.numOf s.data.toList).getD 0), bl b] := by
  unfold numP
  cases Lib.numOf s.data.toList with
  | none => exact ⟨_, rfl⟩
  | some n => exact ⟨_, rfl⟩
theorem findP_fst (s : List UInt8) : ∃ b, findP s = .tup [i64 (opFind s), bl b] := by
  unfold findP
  by_cases h : opFind s = 0
  · rw [if_pos h, h]; exact ⟨_, rfl⟩
  · rw [if_neg h]; exact ⟨_, rfl⟩
theorem take_snoc_no {l : List UInt8} {k : Nat} {c : UInt8} (hk : k < l.length) (h : c ∉ l.take k) (hc : l[k]? ≠ some c) : c ∉ l.take (k + 1) := by
  rw [List.take_add_one, List.getElem?_eq_getElem hk]
  rw [List.getElem?_eq_getElem hk] at hc
  intro hm
  rcases List.mem_append.1 hm with hm | hm
  · exact h hm
  · simp at hm; exact hc (by rw [hm])
theorem toL_nil (s : ByteArray) : s.toList = (ByteArray.mk #[]).toList ↔ s.data.toList = [] := by rw [ByteArray.toList_eq, ByteArray.toList_eq]
theorem bs_toL_iff (l : List UInt8) (s : ByteArray) : (bs l).toList = s.toList ↔ l = s.data.toList := by rw [bs_toL, ByteArray.toList_eq]
theorem rcodeParse_ (s0 : ByteArray) (hs : s0.size ≤ 100000) : Pure Tryd.prog 29 [str s0] (readP 2 eInstr (codeIn s0.data.toList)) := by
  have hl0 : s0.data.toList.length = s0.size := Array.length_toList
  obtain ⟨pv, hpv⟩ : ∃ pv, pv = readP 2 eInstr (codeIn s0.data.toList) := ⟨_, rfl⟩
  have hcl : closedB pv = true := by rw [hpv]; exact readP_closed _ _ _
  rw [← hpv]
  refine Pure.of_spec (Spec.of_run (fn := Tryd.f29) Tryd.func29 rfl rfl (by kernel_rfl) ?_) (by first | assumption | rfl | (split <;> rfl) | (split <;> split <;> rfl))
  repeat' (first | refine Run.ctl rfl ?_ | (refine Rg.op false tok rfl rfl rfl rfl ?_ ?_ ?_; (first | exact True.intro | omega | (simp; done) | (simp; omega) | decide +kernel); (first | exact trivial | exact .inl rfl | exact .inr rfl)) | (refine Rg.op true tok rfl rfl rfl rfl ?_ ?_ ?_; (first | exact True.intro | omega | (simp; done) | (simp; omega) | decide +kernel); (first | exact trivial | exact .inl rfl | exact .inr rfl)) | refine Rg.nil ?_ | refine Rg.skip rfl rfl rfl ?_ | refine Run.regR ?_ | refine Run.drwR mixed (by kernel_rfl) rfl ?_ | refine Run.condT rfl ?_ | refine Run.condF rfl ?_ | (refine Run.condB rfl (fun hc => ?_) (fun hc => ?_) <;> ((try simp only [cs] at hc))) | ((fail_if_success (refine Rg.lit true rfl ?_)); (fail_if_success (refine Rg.lit false rfl ?_)); refine Rg.guard rfl (fun hc => ?_) (fun hc => ?_) <;> ((try simp only [cs] at hc))))
  refine Run.nilRow 4 47 2 (rows eInstr []) rfl ?_
  refine Run.loopN (ι := Nat × Nat × List Instr) (fun x => ([(0, str s0), (4, .slc 0 0 x.2.2.length), (5, i64 x.2.1), (6, i64 x.1)], [some ⟨47, 2, x.2.2.length, rows eInstr x.2.2, false⟩]))
    (fun x => x.2.1 ≤ x.1 ∧ x.1 ≤ s0.size ∧ x.2.2.length ≤ x.1 ∧ (10 : UInt8) ∉ (s0.data.toList.take x.1).drop x.2.1 ∧ codeIn s0.data.toList = (codeIn (s0.data.toList.drop x.2.1)).map (x.2.2 ++ ·)) (fun x => s0.size - x.1) (0, 0, []) ⟨rfl, rfl, rfl, rfl, trivial⟩ rfl ⟨by show 0 ≤ 0; omega, by show 0 ≤ _; omega, by show 0 ≤ 0; omega, by simp, by simp⟩ ?_
  rintro ⟨i, fr, out⟩ ⟨h1, h2, h3, h4, h5⟩ back backR
  simp only at h1 h2 h3 h4 h5
  repeat' (first | refine Run.ctl rfl ?_ | (refine Rg.op false tok rfl rfl rfl rfl ?_ ?_ ?_; (first | exact True.intro | omega | (simp; done) | (simp; omega) | decide +kernel); (first | exact trivial | exact .inl rfl | exact .inr rfl)) | (refine Rg.op true tok rfl rfl rfl rfl ?_ ?_ ?_; (first | exact True.intro | omega | (simp; done) | (simp; omega) | decide +kernel); (first | exact trivial | exact .inl rfl | exact .inr rfl)) | refine Rg.nil ?_ | refine Rg.skip rfl rfl rfl ?_ | refine Run.regR ?_ | refine Run.drwR mixed (by kernel_rfl) rfl ?_ | refine Run.condT rfl ?_ | refine Run.condF rfl ?_ | (refine Run.condB rfl (fun hc => ?_) (fun hc => ?_) <;> ((try simp only [cs] at hc))) | ((fail_if_success (refine Rg.lit true rfl ?_)); (fail_if_success (refine Rg.lit false rfl ?_)); refine Rg.guard rfl (fun hc => ?_) (fun hc => ?_) <;> ((try simp only [cs] at hc))))
  · -- a sign of a line
    have hlt : i < s0.size := by omega
    have hc10 : s0.data.toList[i]? ≠ some 10 := fun e => by rw [← byte_is s0 10 i hlt] at e; exact hc e
    exact back (i + 1, fr, out) _ _ ⟨by show fr ≤ i + 1; omega, by show i + 1 ≤ _; omega, by show out.length ≤ i + 1; omega, piece_more h1 (by omega) h4 hc10, h5⟩ (by show s0.size - (i + 1) < s0.size - i; omega) ⟨rfl, rfl, rfl, rfl, trivial⟩ rfl
  · -- a line's end
    have hlt : i < s0.size := by omega
    have hc10 : s0.data.toList[i]? = some 10 := (byte_is s0 10 i hlt).1 hc
    obtain ⟨l, hl⟩ : ∃ l, l = (s0.data.toList.take i).drop fr := ⟨_, rfl⟩
    have hll : l.length ≤ 100000 := by rw [hl, List.length_drop, List.length_take]; omega
    have hext : s0.extract (fr : Int).toNat (i : Int).toNat = bs l := by rw [Int.toNat_natCast, Int.toNat_natCast, extract_bs, ← hl]
    have hsz : (bs l).size = l.length := bs_size l
    have hdrop : s0.data.toList.drop fr = l ++ 10 :: s0.data.toList.drop (i + 1) := by
      rw [hl]
      have e1 : s0.data.toList[i]'(by omega) = 10 := by
        have := hc10; rw [List.getElem?_eq_getElem (by omega)] at this; exact Option.some.inj this
      have e2 : s0.data.toList = s0.data.toList.take i ++ 10 :: s0.data.toList.drop (i + 1) := by
        rw [← e1, ← List.drop_eq_getElem_cons, List.take_append_drop]
      conv => lhs; rw [e2]
      rw [List.drop_append_of_le_length (by rw [List.length_take]; omega)]
    have hrl : codeIn (l ++ 10 :: s0.data.toList.drop (i + 1)) = (lineIn l).bind fun x => (codeIn (s0.data.toList.drop (i + 1))).map (x :: ·) := readG_lineB lineIn (by rw [hl]; exact h4)
    rw [hdrop, hrl] at h5
    rw [hext]
    refine Run.loopN (ι := Nat) (fun k => ([(0, str s0), (4, .slc 0 0 out.length), (5, i64 (i + 1 : Nat)), (6, i64 i), (7, str (bs l)), (8, i64 k)], [some ⟨47, 2, out.length, rows eInstr out, false⟩]))
      (fun k => k ≤ l.length ∧ (32 : UInt8) ∉ l.take k) (fun k => l.length - k) 0 ⟨rfl, rfl, rfl, rfl, rfl, rfl, trivial⟩ rfl ⟨by omega, by simp⟩ ?_
    rintro k ⟨hk, hno⟩ back2 backR2
    have stop : (k = l.length ∨ l[k]? = some 32) → Lib.cut l [32] = (l.take k, l.drop (k + 1), decide (k < l.length)) := cut_scan l k hk hno
    obtain ⟨fb, hfb⟩ := findP_fst (l.take k)
    have hfi := rfind_ (l.take k)
    rw [hfb] at hfi
    obtain ⟨nb, hnb⟩ := numP_fst (bs (l.drop (k + 1)))
    have hni := int_ (bs (l.drop (k + 1))) (by rw [bs_size, List.length_drop]; omega)
    rw [hnb, bs_toList] at hni
    have hx1 : (bs l).extract (Int.toNat 0) (k : Int).toNat = bs (l.take k) := by rw [extract_bs, bs_toList, Int.toNat_natCast]; rfl
    have hx2 : (bs l).extract ((k : Int) + 1).toNat ((bs l).size : Int).toNat = bs (l.drop (k + 1)) := by
      rw [extract_bs, bs_toList, bs_size, Int.toNat_natCast, List.take_length, show ((k : Int) + 1).toNat = k + 1 by omega]
    have hlC := lineC_eq l
    have hline := rline_ (lineC l) (lineC_ok l)
    have hcc : (k = l.length ∨ l[k]? = some 32) → lineC l = ⟨opFind (l.take k), if k < l.length then (Lib.numOf (l.drop (k + 1))).getD 0 else 0⟩ := fun h => by
      unfold lineC
      rw [stop h]
      simp only [decide_eq_true_eq]
    rw [← hx1] at hfi
    rw [← hx2] at hni
    repeat' (first | refine Run.ctl rfl ?_ | (refine Rg.op false tok rfl rfl rfl rfl ?_ ?_ ?_; (first | exact True.intro | omega | (rw [bs_size] at *; omega) | (simp only [bs_size]; omega) | (simp; done) | (simp; omega) | decide +kernel); (first | exact trivial | exact .inl rfl | exact .inr rfl)) | (refine Rg.op true tok rfl rfl rfl rfl ?_ ?_ ?_; (first | exact True.intro | omega | (rw [bs_size] at *; omega) | (simp only [bs_size]; omega) | (simp; done) | (simp; omega) | decide +kernel); (first | exact trivial | exact .inl rfl | exact .inr rfl)) | refine Rg.nil ?_ | refine Rg.skip rfl rfl rfl ?_ | refine Run.regR ?_ | refine Run.drwR mixed (by kernel_rfl) rfl ?_ | refine Run.condT rfl ?_ | refine Run.condF rfl ?_ | (refine Run.condB rfl (fun hc => ?_) (fun hc => ?_) <;> ((try simp only [cs] at hc))) | ((fail_if_success (refine Rg.lit true rfl ?_)); (fail_if_success (refine Rg.lit false rfl ?_)); refine Rg.guard rfl (fun hc => ?_) (fun hc => ?_) <;> ((try simp only [cs] at hc))))
    · have hk1 : k < l.length := by rw [bs_size] at *; omega
      have hc32 : l[k]? ≠ some 32 := fun e => by
        have := byte_is (bs l) 32 k (by rw [bs_size]; exact hk1)
        rw [bs_toList] at this
        exact hc (this.2 e)
      exact back2 (k + 1) _ _ ⟨by omega, take_snoc_no hk1 hno hc32⟩ (by omega) ⟨rfl, rfl, rfl, rfl, rfl, rfl, trivial⟩ rfl
    · have hk1 : k < l.length := by rw [bs_size] at *; omega
      have h32 : l[k]? = some 32 := by
        have := byte_is (bs l) 32 k (by rw [bs_size]; exact hk1)
        rw [bs_toList] at this
        exact this.1 hc
      have hC := hcc (.inr h32)
      rw [if_pos hk1] at hC
      rw [hC] at hline hlC
      by_cases hgood : l = [] ∨ lineOf (⟨opFind (l.take k), (Lib.numOf (l.drop (k + 1))).getD 0⟩ : Instr) ≠ l
      · rw [if_pos hgood] at hlC
        rw [hlC, Option.bind_none, Option.map_none] at h5
        by_cases hl0 : l = []
        · have hz : (bs l).toList = (ByteArray.mk #[]).toList := by rw [hl0]; rfl
          repeat' (first | refine Run.ctl rfl ?_ | (refine Rg.op false tok rfl rfl rfl rfl ?_ ?_ ?_; (first | exact True.intro | omega | (rw [bs_size] at *; omega) | (simp only [bs_size]; omega) | (simp; done) | (simp; omega) | decide +kernel); (first | exact trivial | exact .inl rfl | exact .inr rfl)) | refine Rg.call (hfi) rfl rfl rfl rfl rfl ⟨⟨.refl _, trivial⟩, rfl⟩ ?_ | refine Rg.call (hni) rfl rfl rfl rfl rfl ⟨⟨.refl _, trivial⟩, rfl⟩ ?_ | refine Rg.call (hline) rfl rfl rfl rfl rfl ⟨⟨.refl _, trivial⟩, rfl⟩ ?_ | (refine Rg.op true tok rfl rfl rfl rfl ?_ ?_ ?_; (first | exact True.intro | omega | (rw [bs_size] at *; omega) | (simp only [bs_size]; omega) | (simp; done) | (simp; omega) | decide +kernel); (first | exact trivial | exact .inl rfl | exact .inr rfl)) | refine Rg.nil ?_ | refine Rg.skip rfl rfl rfl ?_ | refine Run.regR ?_ | refine Run.drwR mixed (by kernel_rfl) rfl ?_ | refine Run.condT rfl ?_ | refine Run.condF rfl ?_ | (refine Run.condB rfl (fun hc => ?_) (fun hc => ?_) <;> ((try simp only [cs] at hc); (first | ((exfalso; omega); done) | ((exact absurd hz hc); done) | skip))) | ((fail_if_success (refine Rg.lit true rfl ?_)); (fail_if_success (refine Rg.lit false rfl ?_)); refine Rg.guard rfl (fun hc => ?_) (fun hc => ?_) <;> ((try simp only [cs] at hc); (first | ((exfalso; omega); done) | ((exact absurd hz hc); done) | skip))))
          all_goals ((first | refine Run.ret tok Tryd.func29 rfl ?_ | refine Run.fall tok Tryd.func29 rfl ?_); rw [hpv, h5]; exact .tup' ⟨.rowNil, .refl _, trivial⟩)
        · have hz := toL_ne l hl0
          have hq : ¬ (bs (lineOf (⟨opFind (l.take k), (Lib.numOf (l.drop (k + 1))).getD 0⟩ : Instr))).toList = (bs l).toList := fun e => by
            rw [bs_toL, bs_toL] at e
            rcases hgood with h | h
            · exact hl0 h
            · exact h e
          repeat' (first | refine Run.ctl rfl ?_ | (refine Rg.op false tok rfl rfl rfl rfl ?_ ?_ ?_; (first | exact True.intro | omega | (rw [bs_size] at *; omega) | (simp only [bs_size]; omega) | (simp; done) | (simp; omega) | decide +kernel); (first | exact trivial | exact .inl rfl | exact .inr rfl)) | refine Rg.call (hfi) rfl rfl rfl rfl rfl ⟨⟨.refl _, trivial⟩, rfl⟩ ?_ | refine Rg.call (hni) rfl rfl rfl rfl rfl ⟨⟨.refl _, trivial⟩, rfl⟩ ?_ | refine Rg.call (hline) rfl rfl rfl rfl rfl ⟨⟨.refl _, trivial⟩, rfl⟩ ?_ | (refine Rg.op true tok rfl rfl rfl rfl ?_ ?_ ?_; (first | exact True.intro | omega | (rw [bs_size] at *; omega) | (simp only [bs_size]; omega) | (simp; done) | (simp; omega) | decide +kernel); (first | exact trivial | exact .inl rfl | exact .inr rfl)) | refine Rg.nil ?_ | refine Rg.skip rfl rfl rfl ?_ | refine Run.regR ?_ | refine Run.drwR mixed (by kernel_rfl) rfl ?_ | refine Run.condT rfl ?_ | refine Run.condF rfl ?_ | (refine Run.condB rfl (fun hc => ?_) (fun hc => ?_) <;> ((try simp only [cs] at hc); (first | ((exfalso; omega); done) | ((exact absurd hc hz); done) | ((exact absurd hc hq); done) | skip))) | ((fail_if_success (refine Rg.lit true rfl ?_)); (fail_if_success (refine Rg.lit false rfl ?_)); refine Rg.guard rfl (fun hc => ?_) (fun hc => ?_) <;> ((try simp only [cs] at hc); (first | ((exfalso; omega); done) | ((exact absurd hc hz); done) | ((exact absurd hc hq); done) | skip))))
          all_goals ((first | refine Run.ret tok Tryd.func29 rfl ?_ | refine Run.fall tok Tryd.func29 rfl ?_); rw [hpv, h5]; exact .tup' ⟨.rowNil, .refl _, trivial⟩)
      · rw [if_neg hgood] at hlC
        rw [hlC, Option.bind_some, Option.map_map] at h5
        have hne : l ≠ [] := fun e => hgood (.inl e)
        have hz := toL_ne l hne
        have hEq : lineOf (⟨opFind (l.take k), (Lib.numOf (l.drop (k + 1))).getD 0⟩ : Instr) = l := Classical.byContradiction fun e => hgood (.inr e)
        rw [hEq] at hline
        repeat' (first | refine Run.ctl rfl ?_ | (refine Rg.op false tok rfl rfl rfl rfl ?_ ?_ ?_; (first | exact True.intro | omega | (rw [bs_size] at *; omega) | (simp only [bs_size]; omega) | (simp; omega) | (simp; done) | (simp; omega) | decide +kernel); (first | exact trivial | exact .inl rfl | exact .inr rfl)) | refine Rg.call (hfi) rfl rfl rfl rfl rfl ⟨⟨.refl _, trivial⟩, rfl⟩ ?_ | refine Rg.call (hni) rfl rfl rfl rfl rfl ⟨⟨.refl _, trivial⟩, rfl⟩ ?_ | refine Rg.call (hline) rfl rfl rfl rfl rfl ⟨⟨.refl _, trivial⟩, rfl⟩ ?_ | (refine Rg.op true tok rfl rfl rfl rfl ?_ ?_ ?_; (first | exact True.intro | omega | (rw [bs_size] at *; omega) | (simp only [bs_size]; omega) | (simp; omega) | (simp; done) | (simp; omega) | decide +kernel); (first | exact trivial | exact .inl rfl | exact .inr rfl)) | refine Rg.nil ?_ | refine Rg.skip rfl rfl rfl ?_ | refine Run.regR ?_ | refine Run.drwR mixed (by kernel_rfl) rfl ?_ | refine Run.condT rfl ?_ | refine Run.condF rfl ?_ | (refine Run.condB rfl (fun hc => ?_) (fun hc => ?_) <;> ((try simp only [cs] at hc); (first | ((exfalso; omega); done) | ((exact absurd hc hz); done) | ((exact absurd rfl hc); done) | skip))) | ((fail_if_success (refine Rg.lit true rfl ?_)); (fail_if_success (refine Rg.lit false rfl ?_)); refine Rg.guard rfl (fun hc => ?_) (fun hc => ?_) <;> ((try simp only [cs] at hc); (first | ((exfalso; omega); done) | ((exact absurd hc hz); done) | ((exact absurd rfl hc); done) | skip))))
        refine backR [3] (i + 1, i + 1, out ++ [(⟨opFind (l.take k), (Lib.numOf (l.drop (k + 1))).getD 0⟩ : Instr)]) _ _ ⟨by show i + 1 ≤ i + 1; omega, by show i + 1 ≤ _; omega, by show (out ++ [(⟨opFind (l.take k), (Lib.numOf (l.drop (k + 1))).getD 0⟩ : Instr)]).length ≤ i + 1; simp; omega, by simp, ?_⟩ (by show s0.size - (i + 1) < s0.size - i; omega) rfl ⟨⟨_, rfl, rfl, rfl, by simp, rfl, fun t ht => .ofEq (rows_app (a := fun j => rows eInstr out (0 + j)) (b := fun j => piece 2 (eInstr (⟨opFind (l.take k), (Lib.numOf (l.drop (k + 1))).getD 0⟩ : Instr)) (0 + j)) eInstr out [(⟨opFind (l.take k), (Lib.numOf (l.drop (k + 1))).getD 0⟩ : Instr)] rfl (fun t _ => by rw [Nat.zero_add]) (rows_one eInstr (⟨opFind (l.take k), (Lib.numOf (l.drop (k + 1))).getD 0⟩ : Instr) rfl) t ht) rfl⟩, trivial⟩ ⟨.cl rfl, .slcN rfl rfl (by simp), .cl rfl, .cl rfl, trivial⟩
        rw [h5]
        show _ = Option.map _ (codeIn (s0.data.toList.drop (i + 1)))
        congr 1
        funext l
        simp
    · have hk1 : k = l.length := by rw [bs_size] at *; omega
      have hC := hcc (.inl hk1)
      rw [if_neg (by omega)] at hC
      rw [hC] at hline hlC
      by_cases hgood : l = [] ∨ lineOf (⟨opFind (l.take k), 0⟩ : Instr) ≠ l
      · rw [if_pos hgood] at hlC
        rw [hlC, Option.bind_none, Option.map_none] at h5
        by_cases hl0 : l = []
        · have hz : (bs l).toList = (ByteArray.mk #[]).toList := by rw [hl0]; rfl
          repeat' (first | refine Run.ctl rfl ?_ | (refine Rg.op false tok rfl rfl rfl rfl ?_ ?_ ?_; (first | exact True.intro | omega | (rw [bs_size] at *; omega) | (simp only [bs_size]; omega) | (simp; done) | (simp; omega) | decide +kernel); (first | exact trivial | exact .inl rfl | exact .inr rfl)) | refine Rg.call (hfi) rfl rfl rfl rfl rfl ⟨⟨.refl _, trivial⟩, rfl⟩ ?_ | refine Rg.call (hni) rfl rfl rfl rfl rfl ⟨⟨.refl _, trivial⟩, rfl⟩ ?_ | refine Rg.call (hline) rfl rfl rfl rfl rfl ⟨⟨.refl _, trivial⟩, rfl⟩ ?_ | (refine Rg.op true tok rfl rfl rfl rfl ?_ ?_ ?_; (first | exact True.intro | omega | (rw [bs_size] at *; omega) | (simp only [bs_size]; omega) | (simp; done) | (simp; omega) | decide +kernel); (first | exact trivial | exact .inl rfl | exact .inr rfl)) | refine Rg.nil ?_ | refine Rg.skip rfl rfl rfl ?_ | refine Run.regR ?_ | refine Run.drwR mixed (by kernel_rfl) rfl ?_ | refine Run.condT rfl ?_ | refine Run.condF rfl ?_ | (refine Run.condB rfl (fun hc => ?_) (fun hc => ?_) <;> ((try simp only [cs] at hc); (first | ((exfalso; omega); done) | ((exact absurd hz hc); done) | skip))) | ((fail_if_success (refine Rg.lit true rfl ?_)); (fail_if_success (refine Rg.lit false rfl ?_)); refine Rg.guard rfl (fun hc => ?_) (fun hc => ?_) <;> ((try simp only [cs] at hc); (first | ((exfalso; omega); done) | ((exact absurd hz hc); done) | skip))))
          all_goals ((first | refine Run.ret tok Tryd.func29 rfl ?_ | refine Run.fall tok Tryd.func29 rfl ?_); rw [hpv, h5]; exact .tup' ⟨.rowNil, .refl _, trivial⟩)
        · have hz := toL_ne l hl0
          have hq : ¬ (bs (lineOf (⟨opFind (l.take k), 0⟩ : Instr))).toList = (bs l).toList := fun e => by
            rw [bs_toL, bs_toL] at e
            rcases hgood with h | h
            · exact hl0 h
            · exact h e
          repeat' (first | refine Run.ctl rfl ?_ | (refine Rg.op false tok rfl rfl rfl rfl ?_ ?_ ?_; (first | exact True.intro | omega | (rw [bs_size] at *; omega) | (simp only [bs_size]; omega) | (simp; done) | (simp; omega) | decide +kernel); (first | exact trivial | exact .inl rfl | exact .inr rfl)) | refine Rg.call (hfi) rfl rfl rfl rfl rfl ⟨⟨.refl _, trivial⟩, rfl⟩ ?_ | refine Rg.call (hni) rfl rfl rfl rfl rfl ⟨⟨.refl _, trivial⟩, rfl⟩ ?_ | refine Rg.call (hline) rfl rfl rfl rfl rfl ⟨⟨.refl _, trivial⟩, rfl⟩ ?_ | (refine Rg.op true tok rfl rfl rfl rfl ?_ ?_ ?_; (first | exact True.intro | omega | (rw [bs_size] at *; omega) | (simp only [bs_size]; omega) | (simp; done) | (simp; omega) | decide +kernel); (first | exact trivial | exact .inl rfl | exact .inr rfl)) | refine Rg.nil ?_ | refine Rg.skip rfl rfl rfl ?_ | refine Run.regR ?_ | refine Run.drwR mixed (by kernel_rfl) rfl ?_ | refine Run.condT rfl ?_ | refine Run.condF rfl ?_ | (refine Run.condB rfl (fun hc => ?_) (fun hc => ?_) <;> ((try simp only [cs] at hc); (first | ((exfalso; omega); done) | ((exact absurd hc hz); done) | ((exact absurd hc hq); done) | skip))) | ((fail_if_success (refine Rg.lit true rfl ?_)); (fail_if_success (refine Rg.lit false rfl ?_)); refine Rg.guard rfl (fun hc => ?_) (fun hc => ?_) <;> ((try simp only [cs] at hc); (first | ((exfalso; omega); done) | ((exact absurd hc hz); done) | ((exact absurd hc hq); done) | skip))))
          all_goals ((first | refine Run.ret tok Tryd.func29 rfl ?_ | refine Run.fall tok Tryd.func29 rfl ?_); rw [hpv, h5]; exact .tup' ⟨.rowNil, .refl _, trivial⟩)
      · rw [if_neg hgood] at hlC
        rw [hlC, Option.bind_some, Option.map_map] at h5
        have hne : l ≠ [] := fun e => hgood (.inl e)
        have hz := toL_ne l hne
        have hEq : lineOf (⟨opFind (l.take k), 0⟩ : Instr) = l := Classical.byContradiction fun e => hgood (.inr e)
        rw [hEq] at hline
        repeat' (first | refine Run.ctl rfl ?_ | (refine Rg.op false tok rfl rfl rfl rfl ?_ ?_ ?_; (first | exact True.intro | omega | (rw [bs_size] at *; omega) | (simp only [bs_size]; omega) | (simp; omega) | (simp; done) | (simp; omega) | decide +kernel); (first | exact trivial | exact .inl rfl | exact .inr rfl)) | refine Rg.call (hfi) rfl rfl rfl rfl rfl ⟨⟨.refl _, trivial⟩, rfl⟩ ?_ | refine Rg.call (hni) rfl rfl rfl rfl rfl ⟨⟨.refl _, trivial⟩, rfl⟩ ?_ | refine Rg.call (hline) rfl rfl rfl rfl rfl ⟨⟨.refl _, trivial⟩, rfl⟩ ?_ | (refine Rg.op true tok rfl rfl rfl rfl ?_ ?_ ?_; (first | exact True.intro | omega | (rw [bs_size] at *; omega) | (simp only [bs_size]; omega) | (simp; omega) | (simp; done) | (simp; omega) | decide +kernel); (first | exact trivial | exact .inl rfl | exact .inr rfl)) | refine Rg.nil ?_ | refine Rg.skip rfl rfl rfl ?_ | refine Run.regR ?_ | refine Run.drwR mixed (by kernel_rfl) rfl ?_ | refine Run.condT rfl ?_ | refine Run.condF rfl ?_ | (refine Run.condB rfl (fun hc => ?_) (fun hc => ?_) <;> ((try simp only [cs] at hc); (first | ((exfalso; omega); done) | ((exact absurd hc hz); done) | ((exact absurd rfl hc); done) | skip))) | ((fail_if_success (refine Rg.lit true rfl ?_)); (fail_if_success (refine Rg.lit false rfl ?_)); refine Rg.guard rfl (fun hc => ?_) (fun hc => ?_) <;> ((try simp only [cs] at hc); (first | ((exfalso; omega); done) | ((exact absurd hc hz); done) | ((exact absurd rfl hc); done) | skip))))
        refine backR [3] (i + 1, i + 1, out ++ [(⟨opFind (l.take k), 0⟩ : Instr)]) _ _ ⟨by show i + 1 ≤ i + 1; omega, by show i + 1 ≤ _; omega, by show (out ++ [(⟨opFind (l.take k), 0⟩ : Instr)]).length ≤ i + 1; simp; omega, by simp, ?_⟩ (by show s0.size - (i + 1) < s0.size - i; omega) rfl ⟨⟨_, rfl, rfl, rfl, by simp, rfl, fun t ht => .ofEq (rows_app (a := fun j => rows eInstr out (0 + j)) (b := fun j => piece 2 (eInstr (⟨opFind (l.take k), 0⟩ : Instr)) (0 + j)) eInstr out [(⟨opFind (l.take k), 0⟩ : Instr)] rfl (fun t _ => by rw [Nat.zero_add]) (rows_one eInstr (⟨opFind (l.take k), 0⟩ : Instr) rfl) t ht) rfl⟩, trivial⟩ ⟨.cl rfl, .slcN rfl rfl (by simp), .cl rfl, .cl rfl, trivial⟩
        rw [h5]
        show _ = Option.map _ (codeIn (s0.data.toList.drop (i + 1)))
        congr 1
        funext l
        simp
  · have hd : s0.data.toList.drop fr ≠ [] := fun e => by
      have := congrArg List.length e
      simp at this
      omega
    have e : s0.data.toList.take i = s0.data.toList := List.take_of_length_le (by omega)
    rw [e] at h4
    rw [show codeIn (s0.data.toList.drop fr) = none from readG_open lineIn h4 hd] at h5
    (first | refine Run.ret tok Tryd.func29 rfl ?_ | refine Run.fall tok Tryd.func29 rfl ?_)
    rw [hpv, h5]
    exact .tup' ⟨.rowNil, .refl _, trivial⟩
  · have hd : s0.data.toList.drop fr = [] := List.drop_of_length_le (by omega)
    rw [hd, show codeIn [] = some [] from readG_nil lineIn] at h5
    (first | refine Run.ret tok Tryd.func29 rfl ?_ | refine Run.fall tok Tryd.func29 rfl ?_)
    rw [hpv, h5]
    show Cv _ _ _ (readP 2 eInstr (some (out ++ [])))
    rw [List.append_nil]
    exact .tup' ⟨.row rfl rfl rfl (by simp) rfl (fun _ => rfl) (fun j hj => by rw [Nat.zero_add]), .refl _, trivial⟩
end Go.Proofs.YtocfjbopkgmjkaaDoor.W
