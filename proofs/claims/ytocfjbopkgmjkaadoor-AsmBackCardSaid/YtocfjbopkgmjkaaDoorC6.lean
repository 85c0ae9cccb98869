/- Walks: the laws of codes' texts (chapter 5). -/
import Derived.Test.YtocfjbopkgmjkaaDoorC5
set_option linter.unusedVariables false
set_option linter.unusedSimpArgs false
set_option linter.unusedSectionVars false
set_option pp.maxSteps 3000
set_option maxHeartbeats 1000000
namespace Go.Proofs.YtocfjbopkgmjkaaDoor.W
open Go Go.Sy

/- "push -5\nadd\n", "push 05\n" -/
def t51 : List UInt8 := [112, 117, 115, 104, 32, 45, 53, 10, 97, 100, 100, 10]
def t52 : List UInt8 := [112, 117, 115, 104, 32, 48, 53, 10]
theorem parse_51 : Pure Tryd.prog 28 [str (bs t51)] (.tup [sl 2 eInstr [⟨1, -5⟩, ⟨9, 0⟩], i64 0]) := by
  have h := codeParse_ (bs t51) (by rw [bs_size]; decide)
  rwa [bs_toList, show codeIn t51 = some [⟨1, -5⟩, ⟨9, 0⟩] by decide +kernel] at h
theorem parse_52 : Pure Tryd.prog 28 [str (bs t52)] (.tup [sl 2 eInstr ([] : List Instr), i64 2]) := by
  have h := codeParse_ (bs t52) (by rw [bs_size]; decide)
  rwa [bs_toList, show codeIn t52 = none by decide +kernel] at h
theorem parse_50 : Pure Tryd.prog 28 [str (bs [])] (.tup [sl 2 eInstr ([] : List Instr), i64 0]) := by
  have h := codeParse_ (bs []) (by rw [bs_size]; decide)
  rwa [bs_toList, show codeIn [] = some [] by decide +kernel] at h
theorem text_51 : Pure Tryd.prog 30 [sl 2 eInstr [⟨1, -5⟩, ⟨9, 0⟩]] (str (bs t51)) := by
  have h := codeText_ [⟨1, -5⟩, ⟨9, 0⟩] (by intro x hx; simp at hx; rcases hx with rfl | rfl <;> (unfold Instr.ok R64; decide)) (by decide)
  rwa [show codeText [⟨1, -5⟩, ⟨9, 0⟩] = t51 by decide +kernel] at h
theorem code_51 : Pure Tryd.prog 32 [sl 2 eInstr [⟨1, -5⟩, ⟨9, 0⟩], sl 2 eInstr [⟨1, -5⟩, ⟨9, 0⟩]] (bl true) := codeEq_ _ _ (by decide)
theorem line_51 : Pure Tryd.prog 33 [pInstr ⟨25, 0⟩] (str (bs [101, 110, 100])) := by
  have h := line_ ⟨25, 0⟩ (by unfold Instr.ok R64; decide)
  rwa [show lineOf ⟨25, 0⟩ = [101, 110, 100] by decide +kernel] at h
theorem line_52 : Pure Tryd.prog 33 [pInstr ⟨25, 1⟩] (str (bs [])) := by
  have h := line_ ⟨25, 1⟩ (by unfold Instr.ok R64; decide)
  rwa [show lineOf ⟨25, 1⟩ = [] by decide +kernel] at h
theorem awake5_ : Pure Tryd.prog 27 [] (bl true) := by
  refine Pure.of_spec (Spec.of_run (fn := Tryd.f27) Tryd.func27 rfl rfl (by kernel_rfl) ?_) (by first | assumption | rfl | (split <;> rfl) | (split <;> split <;> rfl))
  repeat' (first | refine Rg.any rfl rfl rfl (fun _ hq => G_litF tok rfl rfl rfl rfl rfl hq) (by first | exact trivial | exact .inl rfl | exact .inr rfl) ?_ | refine Run.ctl rfl ?_ | (refine Rg.op false tok rfl rfl rfl rfl ?_ ?_ ?_; (first | exact True.intro | omega | (simp; done) | (simp; omega) | decide +kernel); (first | exact trivial | exact .inl rfl | exact .inr rfl)) | refine Rg.call (parse_51) rfl rfl rfl rfl rfl ⟨⟨.refl _, trivial⟩, rfl⟩ ?_ | refine Rg.call (parse_52) rfl rfl rfl rfl rfl ⟨⟨.refl _, trivial⟩, rfl⟩ ?_ | refine Rg.call (parse_50) rfl rfl rfl rfl rfl ⟨⟨.refl _, trivial⟩, rfl⟩ ?_ | refine Rg.call (text_51) rfl rfl rfl rfl rfl ⟨⟨.refl _, trivial⟩, rfl⟩ ?_ | refine Rg.call (line_51) rfl rfl rfl rfl rfl ⟨⟨.refl _, trivial⟩, rfl⟩ ?_ | refine Rg.call (line_52) rfl rfl rfl rfl rfl ⟨⟨.refl _, trivial⟩, rfl⟩ ?_ | refine Rg.call code_51 rfl rfl rfl rfl rfl ⟨⟨.refl _, .rowF rfl (fun _ => rfl) (fun j hj => by rcases j with _ | _ | j <;> first | rfl | (exfalso; simp at hj; omega)), trivial⟩, rfl⟩ ?_ | (refine Rg.op true tok rfl rfl rfl rfl ?_ ?_ ?_; (first | exact True.intro | omega | (simp; done) | (simp; omega) | decide +kernel); (first | exact trivial | exact .inl rfl | exact .inr rfl)) | refine Rg.nil ?_ | refine Rg.skip rfl rfl rfl ?_ | refine Run.regR ?_ | refine Run.drwR mixed (by kernel_rfl) rfl ?_ | refine Run.condT rfl ?_ | refine Run.condF rfl ?_ | (refine Run.condB rfl (fun hc => ?_) (fun hc => ?_) <;> ((try simp only [cs] at hc); (first | ((exact absurd rfl hc); done) | skip))) | ((fail_if_success (refine Rg.lit true rfl ?_)); (fail_if_success (refine Rg.lit false rfl ?_)); refine Rg.guard rfl (fun hc => ?_) (fun hc => ?_) <;> ((try simp only [cs] at hc); (first | ((exact absurd rfl hc); done) | skip))))
  (first | refine Run.ret tok Tryd.func27 rfl ?_ | refine Run.fall tok Tryd.func27 rfl ?_)
  exact .ofBool (beq_iff_eq.2 rfl)
theorem asmTells_ (c : List Instr) (s : ByteArray) (i : Instr) (hc0 : ∀ x ∈ c, x.ok) (hi : i.ok) : Pure Tryd.prog 8 [sl 2 eInstr c, str s, pInstr i] (bl true) := by
  by_cases hb : c.length ≤ 100 ∧ s.size ≤ 1000
  · obtain ⟨h1, h2⟩ := hb
    have p1 := codeParse_ s (by omega)
    have p2 := rcodeParse_ s (by omega)
    have t1 := codeText_ c hc0 (by omega)
    have t2 := rcodeText_ c hc0 (by omega)
    have l1 := line_ i hi
    have l2 := rline_ i hi
    cases hp : codeIn s.data.toList with
    | none =>
      rw [hp] at p1 p2
      unfold readP at p1 p2
      have hq := codeEq_ [] [] (by decide)
      rw [decide_eq_true rfl] at hq
      refine Pure.of_spec (Spec.of_run (fn := Tryd.f8) Tryd.func8 rfl rfl (by kernel_rfl) ?_) (by first | assumption | rfl | (split <;> rfl) | (split <;> split <;> rfl))
      repeat' (first | refine Run.ctl rfl ?_ | (refine Rg.op false tok rfl rfl rfl rfl ?_ ?_ ?_; (first | exact True.intro | omega | (simp; done) | (simp; omega) | decide +kernel); (first | exact trivial | exact .inl rfl | exact .inr rfl)) | refine Rg.call (p1) rfl rfl rfl rfl rfl ⟨⟨.refl _, trivial⟩, rfl⟩ ?_ | refine Rg.call (p2) rfl rfl rfl rfl rfl ⟨⟨.refl _, trivial⟩, rfl⟩ ?_ | refine Rg.call (t1) rfl rfl rfl rfl rfl ⟨⟨.refl _, trivial⟩, rfl⟩ ?_ | refine Rg.call (t2) rfl rfl rfl rfl rfl ⟨⟨.refl _, trivial⟩, rfl⟩ ?_ | refine Rg.call (hq) rfl rfl rfl rfl rfl ⟨⟨.refl _, .refl _, trivial⟩, rfl⟩ ?_ | refine Rg.call (l1) rfl rfl rfl rfl rfl ⟨⟨.refl _, trivial⟩, rfl⟩ ?_ | refine Rg.call (l2) rfl rfl rfl rfl rfl ⟨⟨.refl _, trivial⟩, rfl⟩ ?_ | refine Rg.call (awake5_) rfl rfl rfl rfl rfl ⟨trivial, rfl⟩ ?_ | (refine Rg.op true tok rfl rfl rfl rfl ?_ ?_ ?_; (first | exact True.intro | omega | (simp; done) | (simp; omega) | decide +kernel); (first | exact trivial | exact .inl rfl | exact .inr rfl)) | refine Rg.nil ?_ | refine Rg.skip rfl rfl rfl ?_ | refine Run.regR ?_ | refine Run.drwR mixed (by kernel_rfl) rfl ?_ | refine Run.condT rfl ?_ | refine Run.condF rfl ?_ | (refine Run.condB rfl (fun hc => ?_) (fun hc => ?_) <;> ((try simp only [cs] at hc); (first | ((exfalso; omega); done) | ((exact absurd rfl hc); done) | skip))) | ((fail_if_success (refine Rg.lit true rfl ?_)); (fail_if_success (refine Rg.lit false rfl ?_)); refine Rg.guard rfl (fun hc => ?_) (fun hc => ?_) <;> ((try simp only [cs] at hc); (first | ((exfalso; omega); done) | ((exact absurd rfl hc); done) | skip))))
      (first | refine Run.ret tok Tryd.func8 rfl ?_ | refine Run.fall tok Tryd.func8 rfl ?_)
      exact .refl _
    | some xs =>
      rw [hp] at p1 p2
      unfold readP at p1 p2
      have hxl : xs.length ≤ 100000 := by
        obtain ⟨_, e⟩ := (codeIn_iff _ _).1 hp
        have hg := lined_ge xs
        rw [e] at hg
        have hd : s.data.toList.length = s.size := Array.length_toList
        omega
      have hq := codeEq_ xs xs hxl
      rw [decide_eq_true rfl] at hq
      refine Pure.of_spec (Spec.of_run (fn := Tryd.f8) Tryd.func8 rfl rfl (by kernel_rfl) ?_) (by first | assumption | rfl | (split <;> rfl) | (split <;> split <;> rfl))
      repeat' (first | refine Run.ctl rfl ?_ | (refine Rg.op false tok rfl rfl rfl rfl ?_ ?_ ?_; (first | exact True.intro | omega | (simp; done) | (simp; omega) | decide +kernel); (first | exact trivial | exact .inl rfl | exact .inr rfl)) | refine Rg.call (p1) rfl rfl rfl rfl rfl ⟨⟨.refl _, trivial⟩, rfl⟩ ?_ | refine Rg.call (p2) rfl rfl rfl rfl rfl ⟨⟨.refl _, trivial⟩, rfl⟩ ?_ | refine Rg.call (t1) rfl rfl rfl rfl rfl ⟨⟨.refl _, trivial⟩, rfl⟩ ?_ | refine Rg.call (t2) rfl rfl rfl rfl rfl ⟨⟨.refl _, trivial⟩, rfl⟩ ?_ | refine Rg.call (hq) rfl rfl rfl rfl rfl ⟨⟨.refl _, .refl _, trivial⟩, rfl⟩ ?_ | refine Rg.call (l1) rfl rfl rfl rfl rfl ⟨⟨.refl _, trivial⟩, rfl⟩ ?_ | refine Rg.call (l2) rfl rfl rfl rfl rfl ⟨⟨.refl _, trivial⟩, rfl⟩ ?_ | refine Rg.call (awake5_) rfl rfl rfl rfl rfl ⟨trivial, rfl⟩ ?_ | (refine Rg.op true tok rfl rfl rfl rfl ?_ ?_ ?_; (first | exact True.intro | omega | (simp; done) | (simp; omega) | decide +kernel); (first | exact trivial | exact .inl rfl | exact .inr rfl)) | refine Rg.nil ?_ | refine Rg.skip rfl rfl rfl ?_ | refine Run.regR ?_ | refine Run.drwR mixed (by kernel_rfl) rfl ?_ | refine Run.condT rfl ?_ | refine Run.condF rfl ?_ | (refine Run.condB rfl (fun hc => ?_) (fun hc => ?_) <;> ((try simp only [cs] at hc); (first | ((exfalso; omega); done) | ((exact absurd rfl hc); done) | skip))) | ((fail_if_success (refine Rg.lit true rfl ?_)); (fail_if_success (refine Rg.lit false rfl ?_)); refine Rg.guard rfl (fun hc => ?_) (fun hc => ?_) <;> ((try simp only [cs] at hc); (first | ((exfalso; omega); done) | ((exact absurd rfl hc); done) | skip))))
      (first | refine Run.ret tok Tryd.func8 rfl ?_ | refine Run.fall tok Tryd.func8 rfl ?_)
      exact .refl _
  · refine Pure.of_spec (Spec.of_run (fn := Tryd.f8) Tryd.func8 rfl rfl (by kernel_rfl) ?_) (by first | assumption | rfl | (split <;> rfl) | (split <;> split <;> rfl))
    repeat' (first | refine Run.ctl rfl ?_ | (refine Rg.op false tok rfl rfl rfl rfl ?_ ?_ ?_; (first | exact True.intro | omega | (simp; done) | (simp; omega) | decide +kernel); (first | exact trivial | exact .inl rfl | exact .inr rfl)) | refine Rg.call (awake5_) rfl rfl rfl rfl rfl ⟨trivial, rfl⟩ ?_ | (refine Rg.op true tok rfl rfl rfl rfl ?_ ?_ ?_; (first | exact True.intro | omega | (simp; done) | (simp; omega) | decide +kernel); (first | exact trivial | exact .inl rfl | exact .inr rfl)) | refine Rg.nil ?_ | refine Rg.skip rfl rfl rfl ?_ | refine Run.regR ?_ | refine Run.drwR mixed (by kernel_rfl) rfl ?_ | refine Run.condT rfl ?_ | refine Run.condF rfl ?_ | (refine Run.condB rfl (fun hc => ?_) (fun hc => ?_) <;> ((try simp only [cs] at hc); (first | ((exfalso; omega); done) | skip))) | ((fail_if_success (refine Rg.lit true rfl ?_)); (fail_if_success (refine Rg.lit false rfl ?_)); refine Rg.guard rfl (fun hc => ?_) (fun hc => ?_) <;> ((try simp only [cs] at hc); (first | ((exfalso; omega); done) | skip))))
    all_goals ((first | refine Run.ret tok Tryd.func8 rfl ?_ | refine Run.fall tok Tryd.func8 rfl ?_); exact .refl _)
theorem round_ (k n : Int) (hk : R64 k) (h0 : 0 < n) (h1 : n ≤ 1000000) : Pure Tryd.prog 35 [i64 k, i64 n] (i64 (k % n)) := by
  have e1 : k.tmod n = k % n ∨ k.tmod n = k % n - n := by
    rw [Int.tmod_eq_emod]
    split
    · left; omega
    · right; omega
  have e2 := Int.emod_nonneg k (show n ≠ 0 by omega)
  have e3 := Int.emod_lt_of_pos k h0
  have e4 : (k.tmod n + n).tmod n = k % n := by
    rw [Int.tmod_eq_emod_of_nonneg (by rcases e1 with e | e <;> omega)]
    rcases e1 with e | e
    · rw [e, Int.add_emod_right, Int.emod_emod_of_dvd _ (Int.dvd_refl n)]
    · rw [e, show k % n - n + n = k % n by omega, Int.emod_emod_of_dvd _ (Int.dvd_refl n)]
  refine Pure.of_spec (Spec.of_run (fn := Tryd.f35) Tryd.func35 rfl rfl (by kernel_rfl) ?_) (by first | assumption | rfl | (split <;> rfl) | (split <;> split <;> rfl))
  repeat' (first | refine Run.ctl rfl ?_ | (refine Rg.op false tok rfl rfl rfl rfl ?_ ?_ ?_; (first | exact True.intro | omega | (rcases e1 with e | e <;> omega) | (simp; done) | (simp; omega) | decide +kernel); (first | exact trivial | exact .inl rfl | exact .inr rfl)) | (refine Rg.op true tok rfl rfl rfl rfl ?_ ?_ ?_; (first | exact True.intro | omega | (rcases e1 with e | e <;> omega) | (simp; done) | (simp; omega) | decide +kernel); (first | exact trivial | exact .inl rfl | exact .inr rfl)) | refine Rg.nil ?_ | refine Rg.skip rfl rfl rfl ?_ | refine Run.regR ?_ | refine Run.drwR mixed (by kernel_rfl) rfl ?_ | refine Run.condT rfl ?_ | refine Run.condF rfl ?_ | (refine Run.condB rfl (fun hc => ?_) (fun hc => ?_) <;> ((try simp only [cs] at hc))) | ((fail_if_success (refine Rg.lit true rfl ?_)); (fail_if_success (refine Rg.lit false rfl ?_)); refine Rg.guard rfl (fun hc => ?_) (fun hc => ?_) <;> ((try simp only [cs] at hc))))
  (first | refine Run.ret tok Tryd.func35 rfl ?_ | refine Run.fall tok Tryd.func35 rfl ?_)
  exact .ofInt e4
theorem codeText_ne {c : List Instr} (h : codeText c ≠ []) : (∀ x ∈ c, lineOf x ≠ []) ∧ codeText c = lined lineOf c := by
  unfold codeText textG at h ⊢
  split at h
  · exact absurd rfl h
  · rename_i hh
    rw [if_neg hh]
    exact ⟨by simpa using hh, rfl⟩
theorem codeText_of {c : List Instr} (h : ∀ x ∈ c, lineOf x ≠ []) : codeText c = lined lineOf c := by
  unfold codeText textG
  rw [if_neg]
  simpa using h
theorem asmBack_ (c : List Instr) (at_ : Int) (sign : Int) (hc0 : ∀ x ∈ c, x.ok) (ha : R64 at_) (hs0 : 0 ≤ sign) (hs1 : sign < 256) : Pure Tryd.prog 9 [sl 2 eInstr c, i64 at_, .atom (.int .u8 sign)] (bl true) := by
  by_cases hb : 0 < c.length ∧ c.length ≤ 60
  · obtain ⟨h1, h2⟩ := hb
    have t1 := codeText_ c hc0 (by omega)
    by_cases h0 : codeText c = []
    · rw [h0] at t1
      have hz : (bs []).toList = (ByteArray.mk #[]).toList := rfl
      refine Pure.of_spec (Spec.of_run (fn := Tryd.f9) Tryd.func9 rfl rfl (by kernel_rfl) ?_) (by first | assumption | rfl | (split <;> rfl) | (split <;> split <;> rfl))
      repeat' (first | refine Run.ctl rfl ?_ | (refine Rg.op false tok rfl rfl rfl rfl ?_ ?_ ?_; (first | exact True.intro | omega | (simp; done) | (simp; omega) | decide +kernel); (first | exact trivial | exact .inl rfl | exact .inr rfl)) | refine Rg.call (t1) rfl rfl rfl rfl rfl ⟨⟨.refl _, trivial⟩, rfl⟩ ?_ | refine Rg.call (awake5_) rfl rfl rfl rfl rfl ⟨trivial, rfl⟩ ?_ | (refine Rg.op true tok rfl rfl rfl rfl ?_ ?_ ?_; (first | exact True.intro | omega | (simp; done) | (simp; omega) | decide +kernel); (first | exact trivial | exact .inl rfl | exact .inr rfl)) | refine Rg.nil ?_ | refine Rg.skip rfl rfl rfl ?_ | refine Run.regR ?_ | refine Run.drwR mixed (by kernel_rfl) rfl ?_ | refine Run.condT rfl ?_ | refine Run.condF rfl ?_ | (refine Run.condB rfl (fun hc => ?_) (fun hc => ?_) <;> ((try simp only [cs] at hc); (first | ((exfalso; omega); done) | ((exact absurd hz hc); done) | skip))) | ((fail_if_success (refine Rg.lit true rfl ?_)); (fail_if_success (refine Rg.lit false rfl ?_)); refine Rg.guard rfl (fun hc => ?_) (fun hc => ?_) <;> ((try simp only [cs] at hc); (first | ((exfalso; omega); done) | ((exact absurd hz hc); done) | skip))))
      (first | refine Run.ret tok Tryd.func9 rfl ?_ | refine Run.fall tok Tryd.func9 rfl ?_)
      exact .refl _
    · obtain ⟨hne, htx⟩ := codeText_ne h0
      have hz := toL_ne _ h0
      rw [htx] at t1 hz
      have hll := lined_len c hc0
      have p1 := codeParse_ (bs (lined lineOf c)) (by rw [bs_size]; omega)
      rw [bs_toList, (codeIn_iff c _).2 ⟨fun x hx => ⟨hc0 x hx, hne x hx⟩, rfl⟩] at p1
      unfold readP at p1
      refine Pure.of_spec (Spec.of_run (fn := Tryd.f9) Tryd.func9 rfl rfl (by kernel_rfl) ?_) (by first | assumption | rfl | (split <;> rfl) | (split <;> split <;> rfl))
      repeat' (first | refine Run.ctl rfl ?_ | (refine Rg.op false tok rfl rfl rfl rfl ?_ ?_ ?_; (first | exact True.intro | omega | (simp; done) | (simp; omega) | decide +kernel); (first | exact trivial | exact .inl rfl | exact .inr rfl)) | refine Rg.call (t1) rfl rfl rfl rfl rfl ⟨⟨.refl _, trivial⟩, rfl⟩ ?_ | refine Rg.call (p1) rfl rfl rfl rfl rfl ⟨⟨.refl _, trivial⟩, rfl⟩ ?_ | (refine Rg.op true tok rfl rfl rfl rfl ?_ ?_ ?_; (first | exact True.intro | omega | (simp; done) | (simp; omega) | decide +kernel); (first | exact trivial | exact .inl rfl | exact .inr rfl)) | refine Rg.nil ?_ | refine Rg.skip rfl rfl rfl ?_ | refine Run.regR ?_ | refine Run.drwR mixed (by kernel_rfl) rfl ?_ | refine Run.condT rfl ?_ | refine Run.condF rfl ?_ | (refine Run.condB rfl (fun hc => ?_) (fun hc => ?_) <;> ((try simp only [cs] at hc); (first | ((exfalso; omega); done) | ((exact absurd hc hz); done) | skip))) | ((fail_if_success (refine Rg.lit true rfl ?_)); (fail_if_success (refine Rg.lit false rfl ?_)); refine Rg.guard rfl (fun hc => ?_) (fun hc => ?_) <;> ((try simp only [cs] at hc); (first | ((exfalso; omega); done) | ((exact absurd hc hz); done) | skip))))
      refine Run.loopAt (ι := Nat) (fun i => ([(0, sl 2 eInstr c), (1, i64 at_), (2, .atom (.int .u8 sign)), (7, str (bs (lined lineOf c))), (8, sl 2 eInstr c), (9, i64 0), (10, str (bs (lined lineOf (c.take i)))), (11, i64 i)], [])) (fun i => i ≤ c.length) (fun i => c.length - i) 0 ⟨rfl, rfl, rfl, rfl, rfl, rfl, rfl, rfl, trivial⟩ rfl (by omega) ?_
      rintro i hi back
      by_cases hlt : i < c.length
      · have hx := hc0 _ (getD_mem hlt)
        have hline := line_ _ hx
        have hlx := lineOf_len _ hx
        have hsn := lined_snoc c i hlt
        have htl : (lined lineOf (c.take i)).length ≤ 31 * c.length := by
          have := lined_len (c.take i) (fun x hx => hc0 x (List.mem_of_mem_take hx))
          rw [List.length_take] at this; omega
        repeat' (first | refine Run.ctl rfl ?_ | (refine Rg.op false tok rfl rfl rfl rfl ?_ ?_ ?_; (first | exact True.intro | omega | (simp only [ByteArray.size_append, mk_bs, bs_size, List.length_cons, List.length_nil]; omega) | (simp; done) | (simp; omega) | decide +kernel); (first | exact trivial | exact .inl rfl | exact .inr rfl)) | refine Rg.call (hline) rfl rfl rfl rfl rfl ⟨⟨.refl _, trivial⟩, rfl⟩ ?_ | (refine Rg.op true tok rfl rfl rfl rfl ?_ ?_ ?_; (first | exact True.intro | omega | (simp only [ByteArray.size_append, mk_bs, bs_size, List.length_cons, List.length_nil]; omega) | (simp; done) | (simp; omega) | decide +kernel); (first | exact trivial | exact .inl rfl | exact .inr rfl)) | refine Rg.nil ?_ | refine Rg.skip rfl rfl rfl ?_ | refine Run.regR ?_ | refine Run.drwR mixed (by kernel_rfl) rfl ?_ | refine Run.condT rfl ?_ | refine Run.condF rfl ?_ | (refine Run.condB rfl (fun hc => ?_) (fun hc => ?_) <;> ((try simp only [cs] at hc); (first | ((exfalso; omega); done) | skip))) | ((fail_if_success (refine Rg.lit true rfl ?_)); (fail_if_success (refine Rg.lit false rfl ?_)); refine Rg.guard rfl (fun hc => ?_) (fun hc => ?_) <;> ((try simp only [cs] at hc); (first | ((exfalso; omega); done) | skip))))
        refine back (i + 1) _ _ hlt (by omega) ⟨rfl, rfl, rfl, rfl, rfl, rfl, ?_, rfl, trivial⟩ rfl
        show PV.atom (.string (bs (lined lineOf (c.take i)) ++ bs (lineOf (c.getD i default)) ++ ByteArray.mk #[10])) = str (bs _)
        rw [hsn, mk_bs, bs_app, bs_app, List.append_assoc]
        rfl
      · have hil : i = c.length := by omega
        subst hil
        rw [List.take_length]
        have hr := round_ at_ ((bs (lined lineOf c)).size + 1) ha (by omega) (by rw [bs_size]; omega)
        have hk0 := Int.emod_nonneg at_ (show (((bs (lined lineOf c)).size : Nat) : Int) + 1 ≠ 0 by omega)
        have hk1 := Int.emod_lt_of_pos at_ (show 0 < (((bs (lined lineOf c)).size : Nat) : Int) + 1 by omega)
        have hsz : (bs (lined lineOf c)).size ≤ 1860 := by rw [bs_size]; omega
        generalize at_ % (((bs (lined lineOf c)).size : Nat) + 1 : Int) = k at hr hk0 hk1
        obtain ⟨t, ht⟩ : ∃ t, t = (bs (lined lineOf c)).extract (Int.toNat 0) k.toNat ++ ofBytes [sign] ++ (bs (lined lineOf c)).extract k.toNat (((bs (lined lineOf c)).size : Nat) : Int).toNat := ⟨_, rfl⟩
        have htl : t.size ≤ 10000 := by
          rw [ht, ByteArray.size_append, ByteArray.size_append, ByteArray.size_extract, ByteArray.size_extract]
          have : (ofBytes [sign]).size = 1 := rfl
          omega
        have p2 := codeParse_ t (by omega)
        have hcc := codeEq_ c c (by omega)
        rw [decide_eq_true rfl] at hcc
        have tdl : t.data.toList.length = t.size := Array.length_toList
        cases hp : codeIn t.data.toList with
        | none =>
          rw [hp, ht] at p2
          unfold readP at p2
          repeat' (first | refine Rg.any rfl rfl rfl (fun _ hq => G_litF tok rfl rfl rfl rfl rfl hq) (by first | exact trivial | exact .inl rfl | exact .inr rfl) ?_ | refine Rg.any rfl rfl rfl (fun _ hq => G_bytesStr tok [sign] rfl rfl rfl rfl rfl rfl (rows_one eByte _ rfl) hq) (by first | exact trivial | exact .inl rfl | exact .inr rfl) ?_ | refine Run.ctl rfl ?_ | (refine Rg.op false tok rfl rfl rfl rfl ?_ ?_ ?_; (first | exact True.intro | omega | (have : (ofBytes [sign]).size = 1 := rfl; simp only [ByteArray.size_append, ByteArray.size_extract]; omega) | (simp; done) | (simp; omega) | decide +kernel); (first | exact trivial | exact .inl rfl | exact .inr rfl)) | refine Rg.call (hr) rfl rfl rfl rfl rfl ⟨⟨.refl _, .refl _, trivial⟩, rfl⟩ ?_ | refine Rg.call (p2) rfl rfl rfl rfl rfl ⟨⟨.refl _, trivial⟩, rfl⟩ ?_ | refine Rg.call (hcc) rfl rfl rfl rfl rfl ⟨⟨.refl _, .refl _, trivial⟩, rfl⟩ ?_ | refine Rg.call (awake5_) rfl rfl rfl rfl rfl ⟨trivial, rfl⟩ ?_ | (refine Rg.op true tok rfl rfl rfl rfl ?_ ?_ ?_; (first | exact True.intro | omega | (have : (ofBytes [sign]).size = 1 := rfl; simp only [ByteArray.size_append, ByteArray.size_extract]; omega) | (simp; done) | (simp; omega) | decide +kernel); (first | exact trivial | exact .inl rfl | exact .inr rfl)) | refine Rg.nil ?_ | refine Rg.skip rfl rfl rfl ?_ | refine Run.regR ?_ | refine Run.drwR mixed (by kernel_rfl) rfl ?_ | refine Run.condT rfl ?_ | refine Run.condF rfl ?_ | (refine Run.condB rfl (fun hc => ?_) (fun hc => ?_) <;> ((try simp only [cs] at hc); (first | ((exfalso; omega); done) | ((exact absurd rfl hc); done) | skip))) | ((fail_if_success (refine Rg.lit true rfl ?_)); (fail_if_success (refine Rg.lit false rfl ?_)); refine Rg.guard rfl (fun hc => ?_) (fun hc => ?_) <;> ((try simp only [cs] at hc); (first | ((exfalso; omega); done) | ((exact absurd rfl hc); done) | skip))))
          (first | refine Run.ret tok Tryd.func9 rfl ?_ | refine Run.fall tok Tryd.func9 rfl ?_)
          exact .refl _
        | some ys =>
          obtain ⟨y1, y2⟩ := (codeIn_iff _ _).1 hp
          have hyl := lined_ge ys
          rw [y2] at hyl
          have t2 := codeText_ ys (fun x hx => (y1 x hx).1) (by omega)
          have hty : bs (codeText ys) = t := by rw [codeText_of (fun x hx => (y1 x hx).2), y2]; exact bs_inv t
          rw [hty, ht] at t2
          rw [hp, ht] at p2
          unfold readP at p2
          repeat' (first | refine Rg.any rfl rfl rfl (fun _ hq => G_litF tok rfl rfl rfl rfl rfl hq) (by first | exact trivial | exact .inl rfl | exact .inr rfl) ?_ | refine Rg.any rfl rfl rfl (fun _ hq => G_bytesStr tok [sign] rfl rfl rfl rfl rfl rfl (rows_one eByte _ rfl) hq) (by first | exact trivial | exact .inl rfl | exact .inr rfl) ?_ | refine Run.ctl rfl ?_ | (refine Rg.op false tok rfl rfl rfl rfl ?_ ?_ ?_; (first | exact True.intro | omega | (have : (ofBytes [sign]).size = 1 := rfl; simp only [ByteArray.size_append, ByteArray.size_extract]; omega) | (simp; done) | (simp; omega) | decide +kernel); (first | exact trivial | exact .inl rfl | exact .inr rfl)) | refine Rg.call (hr) rfl rfl rfl rfl rfl ⟨⟨.refl _, .refl _, trivial⟩, rfl⟩ ?_ | refine Rg.call (p2) rfl rfl rfl rfl rfl ⟨⟨.refl _, trivial⟩, rfl⟩ ?_ | refine Rg.call (hcc) rfl rfl rfl rfl rfl ⟨⟨.refl _, .refl _, trivial⟩, rfl⟩ ?_ | refine Rg.call (t2) rfl rfl rfl rfl rfl ⟨⟨.refl _, trivial⟩, rfl⟩ ?_ | refine Rg.call (awake5_) rfl rfl rfl rfl rfl ⟨trivial, rfl⟩ ?_ | (refine Rg.op true tok rfl rfl rfl rfl ?_ ?_ ?_; (first | exact True.intro | omega | (have : (ofBytes [sign]).size = 1 := rfl; simp only [ByteArray.size_append, ByteArray.size_extract]; omega) | (simp; done) | (simp; omega) | decide +kernel); (first | exact trivial | exact .inl rfl | exact .inr rfl)) | refine Rg.nil ?_ | refine Rg.skip rfl rfl rfl ?_ | refine Run.regR ?_ | refine Run.drwR mixed (by kernel_rfl) rfl ?_ | refine Run.condT rfl ?_ | refine Run.condF rfl ?_ | (refine Run.condB rfl (fun hc => ?_) (fun hc => ?_) <;> ((try simp only [cs] at hc); (first | ((exfalso; omega); done) | ((exact absurd rfl hc); done) | skip))) | ((fail_if_success (refine Rg.lit true rfl ?_)); (fail_if_success (refine Rg.lit false rfl ?_)); refine Rg.guard rfl (fun hc => ?_) (fun hc => ?_) <;> ((try simp only [cs] at hc); (first | ((exfalso; omega); done) | ((exact absurd rfl hc); done) | skip))))
          (first | refine Run.ret tok Tryd.func9 rfl ?_ | refine Run.fall tok Tryd.func9 rfl ?_)
          exact .refl _
  · refine Pure.of_spec (Spec.of_run (fn := Tryd.f9) Tryd.func9 rfl rfl (by kernel_rfl) ?_) (by first | assumption | rfl | (split <;> rfl) | (split <;> split <;> rfl))
    repeat' (first | refine Run.ctl rfl ?_ | (refine Rg.op false tok rfl rfl rfl rfl ?_ ?_ ?_; (first | exact True.intro | omega | (simp; done) | (simp; omega) | decide +kernel); (first | exact trivial | exact .inl rfl | exact .inr rfl)) | refine Rg.call (awake5_) rfl rfl rfl rfl rfl ⟨trivial, rfl⟩ ?_ | (refine Rg.op true tok rfl rfl rfl rfl ?_ ?_ ?_; (first | exact True.intro | omega | (simp; done) | (simp; omega) | decide +kernel); (first | exact trivial | exact .inl rfl | exact .inr rfl)) | refine Rg.nil ?_ | refine Rg.skip rfl rfl rfl ?_ | refine Run.regR ?_ | refine Run.drwR mixed (by kernel_rfl) rfl ?_ | refine Run.condT rfl ?_ | refine Run.condF rfl ?_ | (refine Run.condB rfl (fun hc => ?_) (fun hc => ?_) <;> ((try simp only [cs] at hc); (first | ((exfalso; omega); done) | skip))) | ((fail_if_success (refine Rg.lit true rfl ?_)); (fail_if_success (refine Rg.lit false rfl ?_)); refine Rg.guard rfl (fun hc => ?_) (fun hc => ?_) <;> ((try simp only [cs] at hc); (first | ((exfalso; omega); done) | skip))))
    all_goals ((first | refine Run.ret tok Tryd.func9 rfl ?_ | refine Run.fall tok Tryd.func9 rfl ?_); exact .refl _)
theorem lineOf_shape (i : Instr) (h : lineOf i ≠ []) : lineOf i = if operand i.op = 0 then opName i.op else opName i.op ++ [32] ++ Lib.itoa i.a := by
  unfold lineOf at h ⊢
  by_cases ho : operand i.op = 0
  · rw [if_neg (by simp [ho])] at h
    rw [if_neg (by simp [ho]), if_pos ho]
    by_cases ha : i.a ≠ 0
    · rw [if_pos ha] at h; exact absurd rfl h
    · rw [if_neg ha]
  · rw [if_pos ho, if_neg ho]
theorem app2 {α : Type} [Inhabited α] (enc : α → List PV) (a b : List α) (z : Nat → List PV) {n : Nat} (hn : n = a.length) (j : Nat) (hj : j < (a ++ b).length) : appEl n (fun j => appEl 0 z (rows enc a) (0 + j)) (rows enc b) (0 + j) = rows enc (a ++ b) j := by
  rw [Nat.zero_add]
  refine rows_app enc a b hn (fun k _ => ?_) (fun k _ => rfl) j (by rw [hn]; simpa using hj)
  rw [appEl_right (Nat.zero_le _)]
  simp
theorem codeText_bad {c : List Instr} (h : ∃ x ∈ c, lineOf x = []) : codeText c = [] := by
  obtain ⟨x, hx, hx0⟩ := h
  unfold codeText textG
  rw [if_pos]
  simp only [List.any_eq_true]
  exact ⟨x, hx, by rw [hx0]; rfl⟩
theorem asmLines_ (a b : List Instr) (ha : ∀ x ∈ a, x.ok) (hb : ∀ x ∈ b, x.ok) : Pure Tryd.prog 10 [sl 2 eInstr a, sl 2 eInstr b] (bl true) := by
  by_cases hl : a.length ≤ 40 ∧ b.length ≤ 40
  · obtain ⟨h1, h2⟩ := hl
    have ta := codeText_ a ha (by omega)
    have tb := codeText_ b hb (by omega)
    have tz := codeText_ (a ++ b) (fun x hx => by rcases List.mem_append.1 hx with h | h; exact ha x h; exact hb x h) (by simp; omega)
    have hz : (bs []).toList = (ByteArray.mk #[]).toList := rfl
    by_cases hba : ∃ x ∈ a, lineOf x = []
    · obtain ⟨x, hx, hx0⟩ := hba
      have hpos := List.length_pos_of_mem hx
      rw [codeText_bad ⟨x, List.mem_append_left b hx, hx0⟩] at tz
      rw [codeText_bad ⟨x, hx, hx0⟩] at ta
      refine Pure.of_spec (Spec.of_run (fn := Tryd.f10) Tryd.func10 rfl rfl (by kernel_rfl) ?_) (by first | assumption | rfl | (split <;> rfl) | (split <;> split <;> rfl))
      repeat' (first | refine Run.ctl rfl ?_ | (refine Rg.op false tok rfl rfl rfl rfl ?_ ?_ ?_; (first | exact True.intro | omega | (simp; done) | (simp; omega) | decide +kernel); (first | exact trivial | exact .inl rfl | exact .inr rfl)) | refine Rg.call (ta) rfl rfl rfl rfl rfl ⟨⟨.refl _, trivial⟩, rfl⟩ ?_ | refine Rg.call (tb) rfl rfl rfl rfl rfl ⟨⟨.refl _, trivial⟩, rfl⟩ ?_ | refine Rg.lend tz rfl rfl rfl rfl rfl rfl ⟨⟨.row rfl rfl rfl (by simp) (by simp) (fun _ => rfl) (fun j hj => app2 eInstr a b _ (by simp) j hj), trivial⟩, rfl⟩ ?_ | refine Rg.call (awake5_) rfl rfl rfl rfl rfl ⟨trivial, rfl⟩ ?_ | (refine Rg.op true tok rfl rfl rfl rfl ?_ ?_ ?_; (first | exact True.intro | omega | (simp; done) | (simp; omega) | decide +kernel); (first | exact trivial | exact .inl rfl | exact .inr rfl)) | refine Rg.nil ?_ | refine Rg.skip rfl rfl rfl ?_ | refine Run.regR ?_ | refine Run.drwR mixed (by kernel_rfl) rfl ?_ | refine Run.condT rfl ?_ | refine Run.condF rfl ?_ | (refine Run.condB rfl (fun hc => ?_) (fun hc => ?_) <;> ((try simp only [cs] at hc); (first | ((exfalso; omega); done) | ((exact absurd hz hc); done) | skip))) | ((fail_if_success (refine Rg.lit true rfl ?_)); (fail_if_success (refine Rg.lit false rfl ?_)); refine Rg.guard rfl (fun hc => ?_) (fun hc => ?_) <;> ((try simp only [cs] at hc); (first | ((exfalso; omega); done) | ((exact absurd hz hc); done) | skip))))
      all_goals ((first | refine Run.ret tok Tryd.func10 rfl ?_ | refine Run.fall tok Tryd.func10 rfl ?_); exact .refl _)
    · by_cases hbb : ∃ x ∈ b, lineOf x = []
      · obtain ⟨x, hx, hx0⟩ := hbb
        have hpos := List.length_pos_of_mem hx
        rw [codeText_bad ⟨x, List.mem_append_right a hx, hx0⟩] at tz
        rw [codeText_bad ⟨x, hx, hx0⟩] at tb
        refine Pure.of_spec (Spec.of_run (fn := Tryd.f10) Tryd.func10 rfl rfl (by kernel_rfl) ?_) (by first | assumption | rfl | (split <;> rfl) | (split <;> split <;> rfl))
        repeat' (first | refine Run.ctl rfl ?_ | (refine Rg.op false tok rfl rfl rfl rfl ?_ ?_ ?_; (first | exact True.intro | omega | (simp; done) | (simp; omega) | decide +kernel); (first | exact trivial | exact .inl rfl | exact .inr rfl)) | refine Rg.call (ta) rfl rfl rfl rfl rfl ⟨⟨.refl _, trivial⟩, rfl⟩ ?_ | refine Rg.call (tb) rfl rfl rfl rfl rfl ⟨⟨.refl _, trivial⟩, rfl⟩ ?_ | refine Rg.lend tz rfl rfl rfl rfl rfl rfl ⟨⟨.row rfl rfl rfl (by simp) (by simp) (fun _ => rfl) (fun j hj => app2 eInstr a b _ (by simp) j hj), trivial⟩, rfl⟩ ?_ | refine Rg.call (awake5_) rfl rfl rfl rfl rfl ⟨trivial, rfl⟩ ?_ | (refine Rg.op true tok rfl rfl rfl rfl ?_ ?_ ?_; (first | exact True.intro | omega | (simp; done) | (simp; omega) | decide +kernel); (first | exact trivial | exact .inl rfl | exact .inr rfl)) | refine Rg.nil ?_ | refine Rg.skip rfl rfl rfl ?_ | refine Run.regR ?_ | refine Run.drwR mixed (by kernel_rfl) rfl ?_ | refine Run.condT rfl ?_ | refine Run.condF rfl ?_ | (refine Run.condB rfl (fun hc => ?_) (fun hc => ?_) <;> ((try simp only [cs] at hc); (first | ((exfalso; omega); done) | ((exact absurd hz hc); done) | skip))) | ((fail_if_success (refine Rg.lit true rfl ?_)); (fail_if_success (refine Rg.lit false rfl ?_)); refine Rg.guard rfl (fun hc => ?_) (fun hc => ?_) <;> ((try simp only [cs] at hc); (first | ((exfalso; omega); done) | ((exact absurd hz hc); done) | skip))))
        all_goals ((first | refine Run.ret tok Tryd.func10 rfl ?_ | refine Run.fall tok Tryd.func10 rfl ?_); exact .refl _)
      · have ga : ∀ x ∈ a, lineOf x ≠ [] := fun x hx h => hba ⟨x, hx, h⟩
        have gb : ∀ x ∈ b, lineOf x ≠ [] := fun x hx h => hbb ⟨x, hx, h⟩
        rw [codeText_of ga] at ta
        rw [codeText_of gb] at tb
        rw [codeText_of (fun x hx => by rcases List.mem_append.1 hx with h | h; exact ga x h; exact gb x h)] at tz
        have hll := lined_len a ha
        have hlb := lined_len b hb
        have za : 0 < a.length → ¬ (bs (lined lineOf a)).toList = (ByteArray.mk #[]).toList := fun h => toL_ne _ (fun e => by have := lined_ge a; rw [e] at this; simp at this; rw [this] at h; simp at h)
        have zb : 0 < b.length → ¬ (bs (lined lineOf b)).toList = (ByteArray.mk #[]).toList := fun h => toL_ne _ (fun e => by have := lined_ge b; rw [e] at this; simp at this; rw [this] at h; simp at h)
        have hzz : bs (lined lineOf (a ++ b)) = bs (lined lineOf a) ++ bs (lined lineOf b) := by rw [bs_app, lined_app]
        refine Pure.of_spec (Spec.of_run (fn := Tryd.f10) Tryd.func10 rfl rfl (by kernel_rfl) ?_) (by first | assumption | rfl | (split <;> rfl) | (split <;> split <;> rfl))
        repeat' (first | refine Run.ctl rfl ?_ | (refine Rg.op false tok rfl rfl rfl rfl ?_ ?_ ?_; (first | exact True.intro | omega | (simp; done) | (simp; omega) | decide +kernel); (first | exact trivial | exact .inl rfl | exact .inr rfl)) | refine Rg.call (ta) rfl rfl rfl rfl rfl ⟨⟨.refl _, trivial⟩, rfl⟩ ?_ | refine Rg.call (tb) rfl rfl rfl rfl rfl ⟨⟨.refl _, trivial⟩, rfl⟩ ?_ | refine Rg.lend tz rfl rfl rfl rfl rfl rfl ⟨⟨.row rfl rfl rfl (by simp) (by simp) (fun _ => rfl) (fun j hj => app2 eInstr a b _ (by simp) j hj), trivial⟩, rfl⟩ ?_ | refine Rg.call (awake5_) rfl rfl rfl rfl rfl ⟨trivial, rfl⟩ ?_ | (refine Rg.op true tok rfl rfl rfl rfl ?_ ?_ ?_; (first | exact True.intro | omega | (simp; done) | (simp; omega) | decide +kernel); (first | exact trivial | exact .inl rfl | exact .inr rfl)) | refine Rg.nil ?_ | refine Rg.skip rfl rfl rfl ?_ | refine Run.regR ?_ | refine Run.drwR mixed (by kernel_rfl) rfl ?_ | refine Run.condT rfl ?_ | refine Run.condF rfl ?_ | (refine Run.condB rfl (fun hc => ?_) (fun hc => ?_) <;> ((try simp only [cs] at hc); (first | ((exfalso; omega); done) | ((refine absurd ?_ (za ?_); assumption; omega); done) | ((refine absurd ?_ (zb ?_); assumption; omega); done) | skip))) | ((fail_if_success (refine Rg.lit true rfl ?_)); (fail_if_success (refine Rg.lit false rfl ?_)); refine Rg.guard rfl (fun hc => ?_) (fun hc => ?_) <;> ((try simp only [cs] at hc); (first | ((exfalso; omega); done) | ((refine absurd ?_ (za ?_); assumption; omega); done) | ((refine absurd ?_ (zb ?_); assumption; omega); done) | skip))))
        all_goals
          refine Run.toE [(0, sl 2 eInstr a), (5, str (bs (lined lineOf a))), (6, str (bs (lined lineOf b))), (7, str (bs (lined lineOf (a ++ b)))), (9, i64 (0 : Nat))] ⟨.cl rfl, .cl rfl, .cl rfl, .cl rfl, .cl rfl, trivial⟩ ?_
          refine Run.loopN (ι := Nat) (fun i => ([(0, sl 2 eInstr a), (5, str (bs (lined lineOf a))), (6, str (bs (lined lineOf b))), (7, str (bs (lined lineOf (a ++ b)))), (9, i64 i)], [])) (fun i => i ≤ a.length) (fun i => a.length - i) 0 ⟨rfl, rfl, rfl, rfl, rfl, trivial⟩ rfl (by omega) ?_
        all_goals
          rintro i hi back backR
          by_cases hlt : i < a.length
          · have hx := ha _ (getD_mem hlt)
            have hline := line_ _ hx
            have hsh := lineOf_shape _ (ga _ (getD_mem hlt))
            have hop := roperand_ (a.getD i default).op
            have hnm := rname_op (a.getD i default).op
            have hdc := decimal_ (a.getD i default).a hx.2
            have hN := opName_len (a.getD i default).op
            have hA := Lib.itoa_length_le (a.getD i default).a hx.2.1 hx.2.2
            by_cases ho : operand (a.getD i default).op = 0
            · rw [ho] at hop
              rw [if_pos ho] at hsh
              rw [hsh] at hline
              repeat' (first | refine Run.ctl rfl ?_ | (refine Rg.op false tok rfl rfl rfl rfl ?_ ?_ ?_; (first | exact True.intro | omega | (simp only [ByteArray.size_append, mk_bs, bs_size, List.length_cons, List.length_nil]; omega) | (simp; done) | (simp; omega) | decide +kernel); (first | exact trivial | exact .inl rfl | exact .inr rfl)) | refine Rg.call (hline) rfl rfl rfl rfl rfl ⟨⟨.refl _, trivial⟩, rfl⟩ ?_ | refine Rg.call (hop) rfl rfl rfl rfl rfl ⟨⟨.refl _, trivial⟩, rfl⟩ ?_ | refine Rg.call (hnm) rfl rfl rfl rfl rfl ⟨⟨.refl _, trivial⟩, rfl⟩ ?_ | refine Rg.call (hdc) rfl rfl rfl rfl rfl ⟨⟨.refl _, trivial⟩, rfl⟩ ?_ | (refine Rg.op true tok rfl rfl rfl rfl ?_ ?_ ?_; (first | exact True.intro | omega | (simp only [ByteArray.size_append, mk_bs, bs_size, List.length_cons, List.length_nil]; omega) | (simp; done) | (simp; omega) | decide +kernel); (first | exact trivial | exact .inl rfl | exact .inr rfl)) | refine Rg.nil ?_ | refine Rg.skip rfl rfl rfl ?_ | refine Run.regR ?_ | refine Run.drwR mixed (by kernel_rfl) rfl ?_ | refine Run.condT rfl ?_ | refine Run.condF rfl ?_ | (refine Run.condB rfl (fun hc => ?_) (fun hc => ?_) <;> ((try simp only [cs] at hc); (first | ((exfalso; omega); done) | ((exact absurd rfl hc); done) | ((exfalso; simp at hc); done) | skip))) | ((fail_if_success (refine Rg.lit true rfl ?_)); (fail_if_success (refine Rg.lit false rfl ?_)); refine Rg.guard rfl (fun hc => ?_) (fun hc => ?_) <;> ((try simp only [cs] at hc); (first | ((exfalso; omega); done) | ((exact absurd rfl hc); done) | ((exfalso; simp at hc); done) | skip))))
              all_goals exact back (i + 1) _ _ hlt (by omega) ⟨rfl, rfl, rfl, rfl, rfl, trivial⟩ rfl
            · have hop' : ((operand (a.getD i default).op == 0) = false) := beq_eq_false_iff_ne.2 ho
              rw [if_neg ho] at hsh
              rw [hsh] at hline
              have hq : ¬ (bs (opName (a.getD i default).op ++ [32] ++ Lib.itoa (a.getD i default).a)).toList = (bs (opName (a.getD i default).op)).toList := fun e => by
                rw [bs_toL, bs_toL] at e
                have := congrArg List.length e
                simp at this <;> omega
              have hq2 : (bs (opName (a.getD i default).op ++ [32] ++ Lib.itoa (a.getD i default).a)).toList = (bs (opName (a.getD i default).op) ++ ByteArray.mk #[32] ++ bs (Lib.itoa (a.getD i default).a)).toList := by rw [mk_bs, bs_app, bs_app]
              repeat' (first | refine Run.ctl rfl ?_ | (refine Rg.op false tok rfl rfl rfl rfl ?_ ?_ ?_; (first | exact True.intro | omega | (simp only [ByteArray.size_append, mk_bs, bs_size, List.length_cons, List.length_nil]; omega) | (simp; done) | (simp; omega) | decide +kernel); (first | exact trivial | exact .inl rfl | exact .inr rfl)) | refine Rg.call (hline) rfl rfl rfl rfl rfl ⟨⟨.refl _, trivial⟩, rfl⟩ ?_ | refine Rg.call (hop) rfl rfl rfl rfl rfl ⟨⟨.refl _, trivial⟩, rfl⟩ ?_ | refine Rg.call (hnm) rfl rfl rfl rfl rfl ⟨⟨.refl _, trivial⟩, rfl⟩ ?_ | refine Rg.call (hdc) rfl rfl rfl rfl rfl ⟨⟨.refl _, trivial⟩, rfl⟩ ?_ | (refine Rg.op true tok rfl rfl rfl rfl ?_ ?_ ?_; (first | exact True.intro | omega | (simp only [ByteArray.size_append, mk_bs, bs_size, List.length_cons, List.length_nil]; omega) | (simp; done) | (simp; omega) | decide +kernel); (first | exact trivial | exact .inl rfl | exact .inr rfl)) | refine Rg.nil ?_ | refine Rg.skip rfl rfl rfl ?_ | refine Run.regR ?_ | refine Run.drwR mixed (by kernel_rfl) rfl ?_ | refine Run.condT rfl ?_ | refine Run.condF rfl ?_ | (refine Run.condB rfl (fun hc => ?_) (fun hc => ?_) <;> ((try simp only [cs] at hc); (first | ((exfalso; omega); done) | ((exact absurd hc hq); done) | ((exact absurd hq2 hc); done) | ((refine absurd ?_ hc; rw [beq_eq_false_iff_ne.2 hq, hop']); done) | skip))) | ((fail_if_success (refine Rg.lit true rfl ?_)); (fail_if_success (refine Rg.lit false rfl ?_)); refine Rg.guard rfl (fun hc => ?_) (fun hc => ?_) <;> ((try simp only [cs] at hc); (first | ((exfalso; omega); done) | ((exact absurd hc hq); done) | ((exact absurd hq2 hc); done) | ((refine absurd ?_ hc; rw [beq_eq_false_iff_ne.2 hq, hop']); done) | skip))))
              all_goals exact back (i + 1) _ _ hlt (by omega) ⟨rfl, rfl, rfl, rfl, rfl, trivial⟩ rfl
          · repeat' (first | refine Run.ctl rfl ?_ | (refine Rg.op false tok rfl rfl rfl rfl ?_ ?_ ?_; (first | exact True.intro | omega | (simp only [bs_size]; omega) | (simp; done) | (simp; omega) | decide +kernel); (first | exact trivial | exact .inl rfl | exact .inr rfl)) | refine Rg.call (awake5_) rfl rfl rfl rfl rfl ⟨trivial, rfl⟩ ?_ | (refine Rg.op true tok rfl rfl rfl rfl ?_ ?_ ?_; (first | exact True.intro | omega | (simp only [bs_size]; omega) | (simp; done) | (simp; omega) | decide +kernel); (first | exact trivial | exact .inl rfl | exact .inr rfl)) | refine Rg.nil ?_ | refine Rg.skip rfl rfl rfl ?_ | refine Run.regR ?_ | refine Run.drwR mixed (by kernel_rfl) rfl ?_ | refine Run.condT rfl ?_ | refine Run.condF rfl ?_ | (refine Run.condB rfl (fun hc => ?_) (fun hc => ?_) <;> ((try simp only [cs] at hc); (first | ((exfalso; omega); done) | ((exact absurd (congrArg ByteArray.toList hzz) hc); done) | skip))) | ((fail_if_success (refine Rg.lit true rfl ?_)); (fail_if_success (refine Rg.lit false rfl ?_)); refine Rg.guard rfl (fun hc => ?_) (fun hc => ?_) <;> ((try simp only [cs] at hc); (first | ((exfalso; omega); done) | ((exact absurd (congrArg ByteArray.toList hzz) hc); done) | skip))))
            (first | refine Run.ret tok Tryd.func10 rfl ?_ | refine Run.fall tok Tryd.func10 rfl ?_)
            exact .refl _
  · refine Pure.of_spec (Spec.of_run (fn := Tryd.f10) Tryd.func10 rfl rfl (by kernel_rfl) ?_) (by first | assumption | rfl | (split <;> rfl) | (split <;> split <;> rfl))
    repeat' (first | refine Run.ctl rfl ?_ | (refine Rg.op false tok rfl rfl rfl rfl ?_ ?_ ?_; (first | exact True.intro | omega | (simp; done) | (simp; omega) | decide +kernel); (first | exact trivial | exact .inl rfl | exact .inr rfl)) | refine Rg.call (awake5_) rfl rfl rfl rfl rfl ⟨trivial, rfl⟩ ?_ | (refine Rg.op true tok rfl rfl rfl rfl ?_ ?_ ?_; (first | exact True.intro | omega | (simp; done) | (simp; omega) | decide +kernel); (first | exact trivial | exact .inl rfl | exact .inr rfl)) | refine Rg.nil ?_ | refine Rg.skip rfl rfl rfl ?_ | refine Run.regR ?_ | refine Run.drwR mixed (by kernel_rfl) rfl ?_ | refine Run.condT rfl ?_ | refine Run.condF rfl ?_ | (refine Run.condB rfl (fun hc => ?_) (fun hc => ?_) <;> ((try simp only [cs] at hc); (first | ((exfalso; omega); done) | skip))) | ((fail_if_success (refine Rg.lit true rfl ?_)); (fail_if_success (refine Rg.lit false rfl ?_)); refine Rg.guard rfl (fun hc => ?_) (fun hc => ?_) <;> ((try simp only [cs] at hc); (first | ((exfalso; omega); done) | skip))))
    all_goals ((first | refine Run.ret tok Tryd.func10 rfl ?_ | refine Run.fall tok Tryd.func10 rfl ?_); exact .refl _)
theorem codeIn_one {l : List UInt8} (h : (10 : UInt8) ∉ l) : codeIn (l ++ [10]) = (lineIn l).map fun x => [x] := by
  unfold codeIn
  rw [readG_lineB _ h, readG_nil]
  cases lineIn l <;> rfl
theorem lineOf_inv {i : Instr} {a b : List UInt8} (h : lineOf i = a ++ 32 :: b) (ha : (32 : UInt8) ∉ a) : operand i.op ≠ 0 ∧ opName i.op = a ∧ Lib.itoa i.a = b := by
  unfold lineOf at h
  by_cases ho : operand i.op = 0
  · rw [if_neg (by simp [ho])] at h
    exfalso
    split at h
    · simp at h
    · exact opName_no i.op 32 (by decide) (by rw [h]; simp)
  · rw [if_pos ho, List.append_assoc] at h
    have h2 := congrArg (Lib.cut · [32]) h
    rw [show opName i.op ++ ([32] ++ Lib.itoa i.a) = opName i.op ++ 32 :: Lib.itoa i.a by simp] at h2
    simp only [cut_at _ (opName_no i.op 32 (by decide)), cut_at _ ha] at h2
    exact ⟨ho, by simpa using congrArg (·.1) h2, by simpa using congrArg (·.2.1) h2⟩
theorem lineOf_bare {i : Instr} {a : List UInt8} (h : lineOf i = a) (ha : (32 : UInt8) ∉ a) (h0 : a ≠ []) : operand i.op = 0 ∧ opName i.op = a := by
  unfold lineOf at h
  by_cases ho : operand i.op = 0
  · rw [if_neg (by simp [ho])] at h
    split at h
    · exact absurd h.symm h0
    · exact ⟨ho, h⟩
  · rw [if_pos ho] at h
    exact absurd (by rw [← h]; simp) ha
theorem opName_inj {a b : Int} (ha : opValid a = true) (hb : opValid b = true) (h : opName a = opName b) : a = b := by rw [← opFind_name a ha, ← opFind_name b hb, h]
theorem lineIn_none {l : List UInt8} (h : ∀ i : Instr, i.ok → lineOf i = l → l ≠ [] → False) : lineIn l = none := by
  cases hl : lineIn l with
  | none => rfl
  | some i => obtain ⟨h1, h2, h3⟩ := (lineIn_iff l i).1 hl; exact (h i h1 h2 h3).elim
theorem opName_valid {a : Int} (h : opName a ≠ []) : opValid a = true := by
  cases hv : opValid a with
  | true => rfl
  | false => exact absurd (opName_bad hv) h
/-- what the reader says of a word alone and of a word with a number. -/
theorem read_word (op n : Int) (h : R64 op) (hn : R64 n) : codeIn (opName op ++ [10]) = (if opValid op = true ∧ operand op = 0 then some [⟨op, 0⟩] else none)
    ∧ codeIn (opName op ++ [32] ++ Lib.itoa n ++ [10]) = (if opValid op = true ∧ operand op ≠ 0 then some [⟨op, n⟩] else none) := by
  have hI : (10 : UInt8) ∉ Lib.itoa n := itoa_no (by decide)
  rw [codeIn_one (opName_no op 10 (by decide)), codeIn_one (l := opName op ++ [32] ++ Lib.itoa n) (by simp [opName_no op 10 (by decide), hI])]
  cases hv : opValid op with
  | false =>
    rw [opName_bad hv]
    refine ⟨by rw [lineIn_none (fun i _ _ h => h rfl)]; rfl, ?_⟩
    rw [lineIn_none (fun i _ h _ => by
      obtain ⟨h1, h2, _⟩ := lineOf_inv (a := []) (b := Lib.itoa n) (by simpa using h) (by simp)
      exact opName_ne (operand_valid h1) h2)]
    rfl
  | true =>
    have hnn := opName_ne hv
    by_cases ho : operand op = 0
    · rw [if_pos ⟨rfl, ho⟩, if_neg (by simp [ho])]
      refine ⟨?_, ?_⟩
      · rw [(lineIn_iff _ ⟨op, 0⟩).2 ⟨⟨h, R64_0⟩, by simp [lineOf, ho], hnn⟩]; rfl
      · rw [lineIn_none (fun i _ h _ => by
          obtain ⟨h1, h2, _⟩ := lineOf_inv (a := opName op) (b := Lib.itoa n) (by simpa using h) (opName_no op 32 (by decide))
          exact h1 (by rw [opName_inj (operand_valid h1) hv h2]; exact ho))]
        rfl
    · rw [if_neg (by simp [ho]), if_pos ⟨rfl, ho⟩]
      refine ⟨?_, ?_⟩
      · rw [lineIn_none (fun i _ h _ => by
          obtain ⟨h1, h2⟩ := lineOf_bare h (opName_no op 32 (by decide)) hnn
          exact ho (by rw [← opName_inj (opName_valid (by rw [h2]; exact hnn)) hv h2]; exact h1))]
        rfl
      · rw [(lineIn_iff _ ⟨op, n⟩).2 ⟨⟨h, hn⟩, by simp [lineOf, ho], by simp⟩]; rfl
end Go.Proofs.YtocfjbopkgmjkaaDoor.W
