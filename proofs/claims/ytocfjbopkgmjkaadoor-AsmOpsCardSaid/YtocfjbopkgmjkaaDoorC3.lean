/- Walks: codes' texts. -/
import Derived.Test.YtocfjbopkgmjkaaDoorC2
set_option linter.unusedVariables false
set_option linter.unusedSimpArgs false
set_option linter.unusedSectionVars false
set_option pp.maxSteps 3000
set_option maxHeartbeats 1000000
namespace Go.Proofs.YtocfjbopkgmjkaaDoor.W
open Go Go.Sy

/-- What is read: items, or a refusal. -/
def readP {α : Type} [Inhabited α] (sz : Nat) (enc : α → List PV) : Option (List α) → PV
  | some l => .tup [sl sz enc l, i64 0]
  | none => .tup [sl sz enc ([] : List α), i64 2]
theorem readP_closed {α : Type} [Inhabited α] (sz : Nat) (enc : α → List PV) (o : Option (List α)) : closedB (readP sz enc o) = true := by cases o <;> rfl
theorem codeParse_ (s0 : ByteArray) (hs : s0.size ≤ 100000) : Pure Tryd.prog 28 [str s0] (readP 2 eInstr (codeIn s0.data.toList)) := by
  have hl0 : s0.data.toList.length = s0.size := Array.length_toList
  obtain ⟨pv, hpv⟩ : ∃ pv, pv = readP 2 eInstr (codeIn s0.data.toList) := ⟨_, rfl⟩
  have hcl : closedB pv = true := by rw [hpv]; exact readP_closed _ _ _
  rw [← hpv]
  refine Pure.of_spec (Spec.of_run (fn := Tryd.f28) Tryd.func28 rfl rfl (by kernel_rfl) ?_) (by first | assumption | rfl | (split <;> rfl) | (split <;> split <;> rfl))
  repeat' (first | refine Run.ctl rfl ?_ | (refine Rg.op false tok rfl rfl rfl rfl ?_ ?_ ?_; (first | exact True.intro | omega | (simp; done) | (simp; omega) | decide +kernel); (first | exact trivial | exact .inl rfl | exact .inr rfl)) | (refine Rg.op true tok rfl rfl rfl rfl ?_ ?_ ?_; (first | exact True.intro | omega | (simp; done) | (simp; omega) | decide +kernel); (first | exact trivial | exact .inl rfl | exact .inr rfl)) | refine Rg.nil ?_ | refine Rg.skip rfl rfl rfl ?_ | refine Run.regR ?_ | refine Run.drwR mixed (by kernel_rfl) rfl ?_ | refine Run.condT rfl ?_ | refine Run.condF rfl ?_ | (refine Run.condB rfl (fun hc => ?_) (fun hc => ?_) <;> ((try simp only [cs] at hc))) | ((fail_if_success (refine Rg.lit true rfl ?_)); (fail_if_success (refine Rg.lit false rfl ?_)); refine Rg.guard rfl (fun hc => ?_) (fun hc => ?_) <;> ((try simp only [cs] at hc))))
  refine Run.nilRow 2 47 2 (rows eInstr []) rfl ?_
  refine Run.loopRow (ι := List UInt8 × List Instr) (fun x => ([(0, str (bs x.1)), (2, .slc 0 0 x.2.length)], [some ⟨47, 2, x.2.length, rows eInstr x.2, false⟩]))
    (fun x => x.1.length ≤ s0.size ∧ x.2.length + x.1.length ≤ s0.size ∧ codeIn s0.data.toList = (codeIn x.1).map (x.2 ++ ·)) (fun x => x.1.length) (s0.data.toList, []) [3] rfl rfl rfl ⟨by rw [bs_inv]; rfl, rfl, trivial⟩ rfl ⟨by show s0.data.toList.length ≤ _; omega, by show 0 + s0.data.toList.length ≤ _; omega, by simp⟩ ?_
  rintro ⟨s, out⟩ ⟨h1, h2, h3⟩ back backR
  simp only at h1 h2 h3
  rcases split10 s with h10 | ⟨a, b, rfl, h10⟩
  · have hcut := cut_ (bs s) (bs [10]) (by rw [bs_size]; omega)
    rw [bs_toList, bs_toList, cut_not h10] at hcut
    have hin := inline_ (bs s) (by rw [bs_size]; omega)
    by_cases h0 : s = []
    · subst h0
      have hz : (bs []).toList = (ByteArray.mk #[]).toList := rfl
      repeat' (first | refine Run.ctl rfl ?_ | (refine Rg.op false tok rfl rfl rfl rfl ?_ ?_ ?_; (first | exact True.intro | omega | (simp; done) | (simp; omega) | decide +kernel); (first | exact trivial | exact .inl rfl | exact .inr rfl)) | (refine Rg.op true tok rfl rfl rfl rfl ?_ ?_ ?_; (first | exact True.intro | omega | (simp; done) | (simp; omega) | decide +kernel); (first | exact trivial | exact .inl rfl | exact .inr rfl)) | refine Rg.nil ?_ | refine Rg.skip rfl rfl rfl ?_ | refine Run.regR ?_ | refine Run.drwR mixed (by kernel_rfl) rfl ?_ | refine Run.condT rfl ?_ | refine Run.condF rfl ?_ | (refine Run.condB rfl (fun hc => ?_) (fun hc => ?_) <;> ((try simp only [cs] at hc); (first | ((exact absurd hz hc); done) | skip))) | ((fail_if_success (refine Rg.lit true rfl ?_)); (fail_if_success (refine Rg.lit false rfl ?_)); refine Rg.guard rfl (fun hc => ?_) (fun hc => ?_) <;> ((try simp only [cs] at hc); (first | ((exact absurd hz hc); done) | skip))))
      (first | refine Run.ret tok Tryd.func28 rfl ?_ | refine Run.fall tok Tryd.func28 rfl ?_)
      rw [hpv, h3]
      show Cv _ _ _ (readP 2 eInstr (some (out ++ [])))
      rw [List.append_nil]
      exact .tup' ⟨.row rfl rfl rfl (by simp) rfl (fun _ => rfl) (fun j hj => by rw [Nat.zero_add]), .refl _, trivial⟩
    · have hz := toL_ne s h0
      have hro : codeIn s = none := readG_open lineIn h10 h0
      rw [hro] at h3
      repeat' (first | refine Run.ctl rfl ?_ | (refine Rg.op false tok rfl rfl rfl rfl ?_ ?_ ?_; (first | exact True.intro | omega | (simp; done) | (simp; omega) | decide +kernel); (first | exact trivial | exact .inl rfl | exact .inr rfl)) | refine Rg.call (hcut) rfl rfl rfl rfl rfl ⟨⟨.refl _, .refl _, trivial⟩, rfl⟩ ?_ | refine Rg.call (hin) rfl rfl rfl rfl rfl ⟨⟨.refl _, trivial⟩, rfl⟩ ?_ | (refine Rg.op true tok rfl rfl rfl rfl ?_ ?_ ?_; (first | exact True.intro | omega | (simp; done) | (simp; omega) | decide +kernel); (first | exact trivial | exact .inl rfl | exact .inr rfl)) | refine Rg.nil ?_ | refine Rg.skip rfl rfl rfl ?_ | refine Run.regR ?_ | refine Run.drwR mixed (by kernel_rfl) rfl ?_ | refine Run.condT rfl ?_ | refine Run.condF rfl ?_ | (refine Run.condB rfl (fun hc => ?_) (fun hc => ?_) <;> ((try simp only [cs] at hc); (first | ((exact absurd hc hz); done) | skip))) | ((fail_if_success (refine Rg.lit true rfl ?_)); (fail_if_success (refine Rg.lit false rfl ?_)); refine Rg.guard rfl (fun hc => ?_) (fun hc => ?_) <;> ((try simp only [cs] at hc); (first | ((exact absurd hc hz); done) | skip))))
      all_goals ((first | refine Run.ret tok Tryd.func28 rfl ?_ | refine Run.fall tok Tryd.func28 rfl ?_); rw [hpv, h3]; exact .tup' ⟨.rowNil, .refl _, trivial⟩)
  · have hcut := cut_ (bs (a ++ 10 :: b)) (bs [10]) (by rw [bs_size]; omega)
    rw [bs_toList, bs_toList, cut_at b h10] at hcut
    have hlen : a.length + 1 + b.length ≤ s0.size := by simp at h1; omega
    have hin := inline_ (bs a) (by rw [bs_size]; omega)
    rw [bs_toList] at hin
    have hz := toL_ne (a ++ 10 :: b) (by simp)
    have hrl : codeIn (a ++ 10 :: b) = (lineIn a).bind fun x => (codeIn b).map (x :: ·) := readG_lineB lineIn h10
    rw [hrl, lineRes_eq] at h3
    rcases hr : lineRes a with ⟨x, ok⟩
    rw [hr] at hin h3
    cases ok with
    | false =>
      simp only [Bool.false_eq_true, if_false, Option.map_none, Option.bind_none] at h3
      repeat' (first | refine Run.ctl rfl ?_ | (refine Rg.op false tok rfl rfl rfl rfl ?_ ?_ ?_; (first | exact True.intro | omega | (simp; done) | (simp; omega) | decide +kernel); (first | exact trivial | exact .inl rfl | exact .inr rfl)) | refine Rg.call (hcut) rfl rfl rfl rfl rfl ⟨⟨.refl _, .refl _, trivial⟩, rfl⟩ ?_ | refine Rg.call (hin) rfl rfl rfl rfl rfl ⟨⟨.refl _, trivial⟩, rfl⟩ ?_ | (refine Rg.op true tok rfl rfl rfl rfl ?_ ?_ ?_; (first | exact True.intro | omega | (simp; done) | (simp; omega) | decide +kernel); (first | exact trivial | exact .inl rfl | exact .inr rfl)) | refine Rg.nil ?_ | refine Rg.skip rfl rfl rfl ?_ | refine Run.regR ?_ | refine Run.drwR mixed (by kernel_rfl) rfl ?_ | refine Run.condT rfl ?_ | refine Run.condF rfl ?_ | (refine Run.condB rfl (fun hc => ?_) (fun hc => ?_) <;> ((try simp only [cs] at hc); (first | ((exact absurd hc hz); done) | skip))) | ((fail_if_success (refine Rg.lit true rfl ?_)); (fail_if_success (refine Rg.lit false rfl ?_)); refine Rg.guard rfl (fun hc => ?_) (fun hc => ?_) <;> ((try simp only [cs] at hc); (first | ((exact absurd hc hz); done) | skip))))
      (first | refine Run.ret tok Tryd.func28 rfl ?_ | refine Run.fall tok Tryd.func28 rfl ?_)
      rw [hpv, h3]
      exact .tup' ⟨.rowNil, .refl _, trivial⟩
    | true =>
      simp only [if_true, Option.bind_some, Option.map_map] at h3
      repeat' (first | refine Run.ctl rfl ?_ | (refine Rg.op false tok rfl rfl rfl rfl ?_ ?_ ?_; (first | exact True.intro | omega | (simp at h2; simp; omega) | (simp; done) | (simp; omega) | decide +kernel); (first | exact trivial | exact .inl rfl | exact .inr rfl)) | refine Rg.call (hcut) rfl rfl rfl rfl rfl ⟨⟨.refl _, .refl _, trivial⟩, rfl⟩ ?_ | refine Rg.call (hin) rfl rfl rfl rfl rfl ⟨⟨.refl _, trivial⟩, rfl⟩ ?_ | (refine Rg.op true tok rfl rfl rfl rfl ?_ ?_ ?_; (first | exact True.intro | omega | (simp at h2; simp; omega) | (simp; done) | (simp; omega) | decide +kernel); (first | exact trivial | exact .inl rfl | exact .inr rfl)) | refine Rg.nil ?_ | refine Rg.skip rfl rfl rfl ?_ | refine Run.regR ?_ | refine Run.drwR mixed (by kernel_rfl) rfl ?_ | refine Run.condT rfl ?_ | refine Run.condF rfl ?_ | (refine Run.condB rfl (fun hc => ?_) (fun hc => ?_) <;> ((try simp only [cs] at hc); (first | ((exact absurd hc hz); done) | skip))) | ((fail_if_success (refine Rg.lit true rfl ?_)); (fail_if_success (refine Rg.lit false rfl ?_)); refine Rg.guard rfl (fun hc => ?_) (fun hc => ?_) <;> ((try simp only [cs] at hc); (first | ((exact absurd hc hz); done) | skip))))
      refine backR (b, out ++ [x]) _ _ ⟨by simp; omega, by simp at h2 ⊢; omega, ?_⟩ (by simp; omega) rfl ⟨⟨_, rfl, rfl, rfl, by simp, rfl, fun k hk => .ofEq ?_ rfl⟩, trivial⟩ ⟨.cl rfl, .slcN rfl rfl (by simp), trivial⟩
      · rw [h3]
        congr 1
        funext l
        simp
      · exact rows_app (a := fun j => rows eInstr out (0 + j)) (b := fun j => piece 2 [i64 x.op, i64 x.a] (0 + j)) eInstr out [x] rfl (fun k _ => by rw [Nat.zero_add]) (rows_one eInstr x rfl) k hk
theorem lined_snoc (l : List Instr) (i : Nat) (h : i < l.length) : lined lineOf (l.take (i + 1)) = lined lineOf (l.take i) ++ (lineOf (l.getD i default) ++ [10]) := by
  rw [List.take_add_one, List.getElem?_eq_getElem h, lined_app]
  simp [lined, List.getD_eq_getElem?_getD, h]
theorem lined_len (l : List Instr) (h : ∀ x ∈ l, x.ok) : (lined lineOf l).length ≤ 31 * l.length := by
  induction l with
  | nil => simp [lined]
  | cons x l ih =>
    have := ih (fun y hy => h y (by simp [hy]))
    have := lineOf_len x (h x (by simp))
    rw [lined_cons]
    simp
    omega
theorem lined_ge (l : List Instr) : l.length ≤ (lined lineOf l).length := by
  induction l with
  | nil => simp
  | cons x l ih => rw [lined_cons]; simp; omega
theorem getD_mem {α : Type} [Inhabited α] {l : List α} {i : Nat} (h : i < l.length) : l.getD i default ∈ l := by
  rw [List.getD_eq_getElem?_getD, List.getElem?_eq_getElem h]; exact List.getElem_mem h
theorem codeText_ (l : List Instr) (hok : ∀ x ∈ l, x.ok) (hl : l.length ≤ 10000) : Pure Tryd.prog 30 [sl 2 eInstr l] (str (bs (codeText l))) := by
  refine Pure.of_spec (Spec.of_run (fn := Tryd.f30) Tryd.func30 rfl rfl (by kernel_rfl) ?_) (by first | assumption | rfl | (split <;> rfl) | (split <;> split <;> rfl))
  repeat' (first | refine Run.ctl rfl ?_ | (refine Rg.op false tok rfl rfl rfl rfl ?_ ?_ ?_; (first | exact True.intro | omega | (simp; done) | (simp; omega) | decide +kernel); (first | exact trivial | exact .inl rfl | exact .inr rfl)) | (refine Rg.op true tok rfl rfl rfl rfl ?_ ?_ ?_; (first | exact True.intro | omega | (simp; done) | (simp; omega) | decide +kernel); (first | exact trivial | exact .inl rfl | exact .inr rfl)) | refine Rg.nil ?_ | refine Rg.skip rfl rfl rfl ?_ | refine Run.regR ?_ | refine Run.drwR mixed (by kernel_rfl) rfl ?_ | refine Run.condT rfl ?_ | refine Run.condF rfl ?_ | (refine Run.condB rfl (fun hc => ?_) (fun hc => ?_) <;> ((try simp only [cs] at hc))) | ((fail_if_success (refine Rg.lit true rfl ?_)); (fail_if_success (refine Rg.lit false rfl ?_)); refine Rg.guard rfl (fun hc => ?_) (fun hc => ?_) <;> ((try simp only [cs] at hc))))
  refine Run.loopN (ι := Nat) (fun i => ([(0, sl 2 eInstr l), (3, .ptr 0 0 0), (7, sl 2 eInstr l), (8, i64 l.length), (9, i64 i)], match i with
      | 0 => [bldr0]
      | i + 1 => [bldr (.ptr 0 0 0) (.slc 1 0 (lined lineOf (l.take (i + 1))).length), bytesB (lined lineOf (l.take (i + 1))) (lined lineOf (l.take (i + 1))).length]))
    (fun i => i ≤ l.length ∧ ∀ x ∈ l.take i, lineOf x ≠ []) (fun i => l.length - i) 0 ⟨rfl, rfl, rfl, rfl, rfl, trivial⟩ rfl ⟨by omega, by simp⟩ ?_
  rintro i ⟨hi, hne⟩ back backR
  have hstep : i < l.length → lineOf (l.getD i default) ≠ [] → ∀ x ∈ l.take (i + 1), lineOf x ≠ [] := fun h1 h2 x hx => by
    rw [List.take_add_one, List.getElem?_eq_getElem h1] at hx
    rcases List.mem_append.1 hx with hx | hx
    · exact hne x hx
    · simp at hx
      rw [List.getD_eq_getElem?_getD, List.getElem?_eq_getElem h1] at h2
      rw [hx]; exact h2
  have hend : i = l.length → codeText l = lined lineOf l := fun h => by
    unfold codeText textG
    rw [if_neg]
    rw [h, List.take_length] at hne
    simpa using hne
  have hbad : i < l.length → lineOf (l.getD i default) = [] → codeText l = [] := fun h1 h2 => by
    unfold codeText textG
    rw [if_pos]
    simp only [List.any_eq_true]
    exact ⟨_, getD_mem h1, by rw [h2]; rfl⟩
  by_cases hlt : i < l.length
  · have hx := hok _ (getD_mem hlt)
    have hline := line_ _ hx
    have hll := lineOf_len _ hx
    have hsn := lined_snoc l i hlt
    have htl : (lined lineOf (l.take i)).length ≤ 31 * l.length := by
      have := lined_len (l.take i) (fun x hx => hok x (List.mem_of_mem_take hx))
      rw [List.length_take] at this; omega
    by_cases h0 : lineOf (l.getD i default) = []
    · have hz : (bs (lineOf (l.getD i default))).toList = (ByteArray.mk #[]).toList := by rw [h0]; rfl
      rw [hbad hlt h0]
      rcases i with _ | i
      all_goals
        repeat' (first | refine Run.ctl rfl ?_ | (refine Rg.op false tok rfl rfl rfl rfl ?_ ?_ ?_; (first | exact True.intro | omega | (simp; done) | (simp; omega) | decide +kernel); (first | exact trivial | exact .inl rfl | exact .inr rfl)) | refine Rg.call (hline) rfl rfl rfl rfl rfl ⟨⟨.refl _, trivial⟩, rfl⟩ ?_ | (refine Rg.op true tok rfl rfl rfl rfl ?_ ?_ ?_; (first | exact True.intro | omega | (simp; done) | (simp; omega) | decide +kernel); (first | exact trivial | exact .inl rfl | exact .inr rfl)) | refine Rg.nil ?_ | refine Rg.skip rfl rfl rfl ?_ | refine Run.regR ?_ | refine Run.drwR mixed (by kernel_rfl) rfl ?_ | refine Run.condT rfl ?_ | refine Run.condF rfl ?_ | (refine Run.condB rfl (fun hc => ?_) (fun hc => ?_) <;> ((try simp only [cs] at hc); (first | ((exfalso; omega); done) | ((exact absurd hz hc); done) | skip))) | ((fail_if_success (refine Rg.lit true rfl ?_)); (fail_if_success (refine Rg.lit false rfl ?_)); refine Rg.guard rfl (fun hc => ?_) (fun hc => ?_) <;> ((try simp only [cs] at hc); (first | ((exfalso; omega); done) | ((exact absurd hz hc); done) | skip))))
        (first | refine Run.ret tok Tryd.func30 rfl ?_ | refine Run.fall tok Tryd.func30 rfl ?_)
        exact .refl _
    · have hz := toL_ne _ h0
      rcases i with _ | i
      · repeat' (first | refine Run.ctl rfl ?_ | (refine Rg.op false tok rfl rfl rfl rfl ?_ ?_ ?_; (first | exact True.intro | omega | (simp only [ByteArray.size_append, mk_bs, bs_size, List.length_cons, List.length_nil]; omega) | (simp; done) | (simp; omega) | decide +kernel); (first | exact trivial | exact .inl rfl | exact .inr rfl)) | refine Rg.call (hline) rfl rfl rfl rfl rfl ⟨⟨.refl _, trivial⟩, rfl⟩ ?_ | refine Rg.own (wstr_f _ (by simp only [ByteArray.size_append, mk_bs, bs_size, List.length_cons, List.length_nil]; omega)) [0] rfl rfl rfl rfl rfl rfl ⟨⟨_, rfl, rfl, rfl, rfl, rfl, fun k hk => ⟨.cl rfl, .cl rfl, trivial⟩⟩, trivial⟩ ⟨.ptrN rfl rfl, .cl rfl, trivial⟩ rfl rfl trivial ?_ | (refine Rg.op true tok rfl rfl rfl rfl ?_ ?_ ?_; (first | exact True.intro | omega | (simp only [ByteArray.size_append, mk_bs, bs_size, List.length_cons, List.length_nil]; omega) | (simp; done) | (simp; omega) | decide +kernel); (first | exact trivial | exact .inl rfl | exact .inr rfl)) | refine Rg.nil ?_ | refine Rg.skip rfl rfl rfl ?_ | refine Run.regR ?_ | refine Run.drwR mixed (by kernel_rfl) rfl ?_ | refine Run.condT rfl ?_ | refine Run.condF rfl ?_ | (refine Run.condB rfl (fun hc => ?_) (fun hc => ?_) <;> ((try simp only [cs] at hc); (first | ((exfalso; omega); done) | ((exact absurd hc hz); done) | skip))) | ((fail_if_success (refine Rg.lit true rfl ?_)); (fail_if_success (refine Rg.lit false rfl ?_)); refine Rg.guard rfl (fun hc => ?_) (fun hc => ?_) <;> ((try simp only [cs] at hc); (first | ((exfalso; omega); done) | ((exact absurd hc hz); done) | skip))))
        have e : bs (lineOf (l.getD 0 default)) ++ ByteArray.mk #[10] = bs (lined lineOf (l.take 1)) := by
          have h := lined_snoc l 0 hlt
          rw [show (1 : Nat) = 0 + 1 from rfl, h]; exact bs_app _ _
        have en : (lined lineOf (l.take 1)).length = (bs (lineOf (l.getD 0 default)) ++ ByteArray.mk #[10]).size := by rw [e, bs_size]
        refine backR [0, 2] 1 _ _ ⟨hlt, hstep hlt h0⟩ (by show l.length - 1 < l.length - 0; omega) rfl ⟨⟨_, rfl, rfl, rfl, rfl, rfl, fun k hk => ⟨.ptrN rfl rfl, .slcN rfl rfl en.symm, trivial⟩⟩, ⟨_, rfl, rfl, rfl, en, rfl, fun k hk => .ofEq (by show rows eU8 _ k = rows eU8 _ k; rw [e, bs_toList]) rfl⟩, trivial⟩ ⟨.cl rfl, .ptrN rfl rfl, .cl rfl, .cl rfl, .cl rfl, trivial⟩
      · repeat' (first | refine Run.ctl rfl ?_ | (refine Rg.op false tok rfl rfl rfl rfl ?_ ?_ ?_; (first | exact True.intro | omega | (simp only [ByteArray.size_append, mk_bs, bs_size, List.length_cons, List.length_nil]; omega) | (simp; done) | (simp; omega) | decide +kernel); (first | exact trivial | exact .inl rfl | exact .inr rfl)) | refine Rg.call (hline) rfl rfl rfl rfl rfl ⟨⟨.refl _, trivial⟩, rfl⟩ ?_ | refine Rg.own (wstr_u (lined lineOf (l.take (i + 1))) _ _ rfl (by simp only [ByteArray.size_append, mk_bs, bs_size, List.length_cons, List.length_nil]; omega)) [0, 1] rfl rfl rfl rfl rfl rfl ⟨⟨_, rfl, rfl, rfl, rfl, rfl, fun k hk => ⟨.ptrN rfl rfl, .slcN rfl rfl rfl, trivial⟩⟩, ⟨_, rfl, rfl, rfl, rfl, rfl, fun k hk => ⟨.cl rfl, trivial⟩⟩, trivial⟩ ⟨.ptrN rfl rfl, .cl rfl, trivial⟩ rfl rfl trivial ?_ | (refine Rg.op true tok rfl rfl rfl rfl ?_ ?_ ?_; (first | exact True.intro | omega | (simp only [ByteArray.size_append, mk_bs, bs_size, List.length_cons, List.length_nil]; omega) | (simp; done) | (simp; omega) | decide +kernel); (first | exact trivial | exact .inl rfl | exact .inr rfl)) | refine Rg.nil ?_ | refine Rg.skip rfl rfl rfl ?_ | refine Run.regR ?_ | refine Run.drwR mixed (by kernel_rfl) rfl ?_ | refine Run.condT rfl ?_ | refine Run.condF rfl ?_ | (refine Run.condB rfl (fun hc => ?_) (fun hc => ?_) <;> ((try simp only [cs] at hc); (first | ((exfalso; omega); done) | ((exact absurd hc hz); done) | skip))) | ((fail_if_success (refine Rg.lit true rfl ?_)); (fail_if_success (refine Rg.lit false rfl ?_)); refine Rg.guard rfl (fun hc => ?_) (fun hc => ?_) <;> ((try simp only [cs] at hc); (first | ((exfalso; omega); done) | ((exact absurd hc hz); done) | skip))))
        have e : bs (lineOf (l.getD (i + 1) default)) ++ ByteArray.mk #[10] = bs (lineOf (l.getD (i + 1) default) ++ [10]) := bs_app _ _
        have en : (lined lineOf (l.take (i + 1 + 1))).length = (lined lineOf (l.take (i + 1))).length + (bs (lineOf (l.getD (i + 1) default)) ++ ByteArray.mk #[10]).size := by rw [e, bs_size, hsn, List.length_append]
        refine backR [0, 3] (i + 1 + 1) _ _ ⟨hlt, hstep hlt h0⟩ (by show l.length - (i + 1 + 1) < l.length - (i + 1); omega) rfl ⟨⟨_, rfl, rfl, rfl, rfl, rfl, fun k hk => ⟨.ptrN rfl rfl, .slcN rfl rfl en.symm, trivial⟩⟩, ⟨_, rfl, rfl, rfl, en, rfl, fun k hk => .ofEq (by show rows eU8 _ k = rows eU8 _ k; rw [e, bs_toList, hsn]) rfl⟩, trivial⟩ ⟨.cl rfl, .ptrN rfl rfl, .cl rfl, .cl rfl, .cl rfl, trivial⟩
  · have hil : i = l.length := by omega
    rw [hend hil]
    rcases i with _ | i
    · have : l = [] := List.eq_nil_of_length_eq_zero hil.symm
      subst this
      repeat' (first | refine Run.ctl rfl ?_ | (refine Rg.op false tok rfl rfl rfl rfl ?_ ?_ ?_; (first | exact True.intro | omega | (simp; done) | (simp; omega) | decide +kernel); (first | exact trivial | exact .inl rfl | exact .inr rfl)) | refine Rg.own bstr_0 [0] rfl rfl rfl rfl rfl rfl ⟨⟨_, rfl, rfl, rfl, rfl, rfl, fun k hk => ⟨.cl rfl, .cl rfl, trivial⟩⟩, trivial⟩ ⟨.ptrN rfl rfl, trivial⟩ rfl rfl trivial ?_ | (refine Rg.op true tok rfl rfl rfl rfl ?_ ?_ ?_; (first | exact True.intro | omega | (simp; done) | (simp; omega) | decide +kernel); (first | exact trivial | exact .inl rfl | exact .inr rfl)) | refine Rg.nil ?_ | refine Rg.skip rfl rfl rfl ?_ | refine Run.regR ?_ | refine Run.drwR mixed (by kernel_rfl) rfl ?_ | refine Run.condT rfl ?_ | refine Run.condF rfl ?_ | (refine Run.condB rfl (fun hc => ?_) (fun hc => ?_) <;> ((try simp only [cs] at hc); (first | ((exfalso; omega); done) | skip))) | ((fail_if_success (refine Rg.lit true rfl ?_)); (fail_if_success (refine Rg.lit false rfl ?_)); refine Rg.guard rfl (fun hc => ?_) (fun hc => ?_) <;> ((try simp only [cs] at hc); (first | ((exfalso; omega); done) | skip))))
      (first | refine Run.ret tok Tryd.func30 rfl ?_ | refine Run.fall tok Tryd.func30 rfl ?_)
      exact .refl _
    · have hpos : 0 < (lined lineOf (l.take (i + 1))).length := by rw [lined_snoc l i (by omega)]; simp; omega
      have htl : (lined lineOf (l.take (i + 1))).length ≤ 31 * l.length := by
        have := lined_len (l.take (i + 1)) (fun x hx => hok x (List.mem_of_mem_take hx))
        rw [List.length_take] at this; omega
      have hb := bstr_ (lined lineOf (l.take (i + 1))) _ rfl hpos (by omega)
      have ht : l.take (i + 1) = l := by rw [hil, List.take_length]
      repeat' (first | refine Run.ctl rfl ?_ | (refine Rg.op false tok rfl rfl rfl rfl ?_ ?_ ?_; (first | exact True.intro | omega | (simp; done) | (simp; omega) | decide +kernel); (first | exact trivial | exact .inl rfl | exact .inr rfl)) | refine Rg.own hb [0, 1] rfl rfl rfl rfl rfl rfl ⟨⟨_, rfl, rfl, rfl, rfl, rfl, fun k hk => ⟨.ptrN rfl rfl, .slcN rfl rfl rfl, trivial⟩⟩, ⟨_, rfl, rfl, rfl, rfl, rfl, fun k hk => ⟨.cl rfl, trivial⟩⟩, trivial⟩ ⟨.ptrN rfl rfl, trivial⟩ rfl rfl trivial ?_ | (refine Rg.op true tok rfl rfl rfl rfl ?_ ?_ ?_; (first | exact True.intro | omega | (simp; done) | (simp; omega) | decide +kernel); (first | exact trivial | exact .inl rfl | exact .inr rfl)) | refine Rg.nil ?_ | refine Rg.skip rfl rfl rfl ?_ | refine Run.regR ?_ | refine Run.drwR mixed (by kernel_rfl) rfl ?_ | refine Run.condT rfl ?_ | refine Run.condF rfl ?_ | (refine Run.condB rfl (fun hc => ?_) (fun hc => ?_) <;> ((try simp only [cs] at hc); (first | ((exfalso; omega); done) | skip))) | ((fail_if_success (refine Rg.lit true rfl ?_)); (fail_if_success (refine Rg.lit false rfl ?_)); refine Rg.guard rfl (fun hc => ?_) (fun hc => ?_) <;> ((try simp only [cs] at hc); (first | ((exfalso; omega); done) | skip))))
      (first | refine Run.ret tok Tryd.func30 rfl ?_ | refine Run.fall tok Tryd.func30 rfl ?_)
      rw [ht]
      exact .refl _
end Go.Proofs.YtocfjbopkgmjkaaDoor.W
