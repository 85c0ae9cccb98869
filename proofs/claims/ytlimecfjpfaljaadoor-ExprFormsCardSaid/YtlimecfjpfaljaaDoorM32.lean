/- Texts merged: E4. -/
import Derived.Test.YtlimecfjpfaljaaDoorM30
import Derived.Test.YtlimecfjpfaljaaDoorM31
section
/- Walks: the law of sums (chapter 13). -/
set_option linter.unusedVariables false
set_option linter.unusedSimpArgs false
set_option linter.unusedSectionVars false
set_option pp.maxSteps 40000
set_option maxHeartbeats 8000000
namespace Go.Proofs.YtlimecfjpfaljaaDoor.W
open Go Go.Sy

theorem world13 : worldOk pg13 wd13 = true := by decide +kernel
theorem why13 {x : List Instr} (hl : x.length ≤ 64) : exWhy pg13 x = exFrom pg13 x 0 := by
  unfold exWhy
  rw [flow13, if_neg (by decide), if_neg (by omega)]
theorem value13 {x : List Instr} {v : Int} (hl : x.length ≤ 64) (h : exFrom pg13 x 0 = 0) (hv : x.foldl (exStep wd13) [] = [v]) : exValue pg13 wd13 x = (v, 0) := by
  unfold exValue exOf
  rw [why13 hl, h, if_neg (by decide), world13, if_neg (by decide), hv]
  rfl
theorem value13_bad {x : List Instr} {e : Int} (h : exWhy pg13 x = e) (he : e ≠ 0) : exValue pg13 wd13 x = (0, e) := by
  unfold exValue
  rw [h, if_pos he]
def rowIn (l : List Instr) : Option Blk := some ⟨58, 2, l.length, rows eInstr l, false, false⟩
def sumX (deep : Bool) (l : List Int) : List Instr := if deep then sumCode true l l.length ++ adds (l.length - 1) else sumCode false l l.length
theorem sumX_len (deep : Bool) {l : List Int} (h : l.length ≤ 30) (h0 : 0 < l.length) : (sumX deep l).length ≤ 100 := by
  unfold sumX
  have h1 := sumCode_len true l l.length
  have h2 := sumCode_len false l l.length
  cases deep <;> simp [adds] <;> omega
theorem sumCode_a (deep : Bool) (l : List Int) (hok : ∀ x ∈ l, R64 x) : ∀ i, i ≤ l.length → ∀ c ∈ sumCode deep l i, R64 c.a
  | 0, _, c, hc => by cases hc
  | i + 1, h, c, hc => by
    unfold sumCode at hc
    rcases List.mem_append.1 hc with hc | hc
    · exact sumCode_a deep l hok i (by omega) c hc
    · rcases List.mem_cons.1 hc with rfl | hc
      · exact hok _ (mem_getD (by omega))
      · split at hc
        · rw [List.mem_singleton] at hc; rw [hc]; show R64 0; unfold R64; omega
        · cases hc
theorem sumX_a (deep : Bool) (l : List Int) (hok : ∀ x ∈ l, R64 x) : ∀ c ∈ sumX deep l, R64 c.a := by
  intro c hc
  unfold sumX at hc
  cases deep with
  | false => exact sumCode_a false l hok _ (Nat.le_refl _) c hc
  | true =>
    rcases List.mem_append.1 hc with hc | hc
    · exact sumCode_a true l hok _ (Nat.le_refl _) c hc
    · rw [(List.mem_replicate.1 hc).2]; show R64 0; unfold R64; omega
theorem sumX_value (deep : Bool) (l : List Int) (hok : ∀ x ∈ l, R64 x) (h0 : 0 < l.length) (h30 : l.length ≤ 30) : exValue pg13 wd13 (sumX deep l) = if deep = true ∧ 8 < l.length then (0, 5) else (sumTo l l.length, 0) := by
  have h64 : (sumX deep l).length ≤ 64 := by
    unfold sumX
    have h1 := sumCode_len true l l.length
    have h2 := sumCode_len false l l.length
    have h3 : (sumCode true l l.length).length = l.length := by
      have : ∀ i, (sumCode true l i).length = i := by
        intro i
        induction i with
        | zero => rfl
        | succ i ih =>
          unfold sumCode
          rw [if_neg (by rintro ⟨e, _⟩; cases e), List.length_append, ih]
          rfl
      exact this _
    cases deep <;> simp [adds] <;> omega
  cases deep with
  | false =>
    rw [if_neg (by rintro ⟨e, _⟩; cases e)]
    refine value13 h64 ?_ ?_
    · have := flat_from pg13 l l.length [] (Nat.le_refl _)
      rw [List.append_nil, if_neg (by omega)] at this
      exact this.trans rfl
    · have := flat_of wd13 l hok l.length (Nat.le_refl _)
      rw [if_neg (by omega)] at this
      exact this
  | true =>
    by_cases h8 : 8 < l.length
    · rw [if_pos ⟨rfl, h8⟩]
      refine value13_bad ?_ (by decide)
      rw [why13 h64]
      exact deep_bad pg13 l l.length (adds (l.length - 1)) (Nat.le_refl _) h8
    · rw [if_neg (fun e => h8 e.2)]
      refine value13 h64 ?_ (deep_sum wd13 l hok h0)
      have h1 := deep_from pg13 l l.length (adds (l.length - 1)) (Nat.le_refl _) (by omega)
      have h2 := adds_from pg13 (l.length - 1) l.length [] (by omega) (by omega)
      rw [List.append_nil] at h2
      refine h1.trans (h2.trans ?_)
      rw [show (l.length : Int) - ((l.length - 1 : Nat) : Int) = 1 by omega]
      rfl
theorem rows_snoc2 {α : Type} [Inhabited α] (enc : α → List PV) (l : List α) (x y : α) {b c : Nat → List PV} (hb : b 0 = enc x) (hc : c 0 = enc y) {k : Nat} (hk : k < l.length + 1 + 1) : appEl (l.length + 1) (fun j => appEl l.length (fun j => rows enc l (0 + j)) b (0 + j)) c k = rows enc (l ++ [x] ++ [y]) k :=
  rows_snoc enc (l ++ [x]) y (by simp) (fun k hk2 => by
    rw [Nat.zero_add]
    exact rows_snoc enc l x rfl (fun k _ => by rw [Nat.zero_add]) hb (by simpa using hk2)) hc hk
theorem exprSums_ (l : List Int) (deep : Bool) (hok : ∀ x ∈ l, R64 x) : Pure Tryd.prog 8 [sl 1 eInt l, bl deep] (bl true) := by
  by_cases hg : l.length < 1 ∨ 30 < l.length
  · refine Pure.of_spec (Spec.of_run (fn := Tryd.f8) Tryd.func8 rfl rfl (by kernel_rfl) ?_) (by first | assumption | rfl | (split <;> rfl) | (split <;> split <;> rfl))
    repeat' (first | refine Run.ctl rfl ?_ | (refine Rg.op false tok rfl rfl rfl rfl ?_ ?_ ?_; (first | exact ⟨⟩ | omega | focus (simp <;> omega) | decide +kernel); (first | exact trivial | exact rfl | exact .inl rfl | exact .inr rfl)) | refine Rg.call (awake13_) rfl rfl rfl rfl rfl ⟨trivial, rfl⟩ ?_ | (refine Rg.op true tok rfl rfl rfl rfl ?_ ?_ ?_; (first | exact ⟨⟩ | omega | focus (simp <;> omega) | decide +kernel); (first | exact trivial | exact rfl | exact .inl rfl | exact .inr rfl)) | refine Rg.nil ?_ | refine Rg.skip rfl rfl rfl ?_ | refine Run.regR ?_ | refine Run.condT rfl ?_ | refine Run.condF rfl ?_ | ((first | refine Run.condB rfl (fun hc => ?_) (fun hc => ?_) | ((fail_if_success (refine Rg.lit true rfl ?_)); (fail_if_success (refine Rg.lit false rfl ?_)); refine Rg.guard rfl (fun hc => ?_) (fun hc => ?_))) <;> ((try simp only [cs] at hc); (first | ((exfalso; omega); done) | skip))))
    all_goals ((first | refine Run.ret tok Tryd.func8 rfl ?_ | refine Run.fall tok Tryd.func8 rfl ?_); exact .refl _)
  have hs := start_ pg13 flow13
  rw [start13] at hs
  have hv := value_ pg13 wd13 (sumX deep l) (by have := sumX_len deep (l := l) (by omega) (by omega); omega) (sumX_a deep l hok) (by decide) (by decide)
  rw [sumX_value deep l hok (by omega) (by omega)] at hv
  refine Pure.of_spec (Spec.of_run (fn := Tryd.f8) Tryd.func8 rfl rfl (by kernel_rfl) ?_) (by first | assumption | rfl | (split <;> rfl) | (split <;> split <;> rfl))
  repeat' (first | refine Run.ctl rfl ?_ | (refine Rg.op false tok rfl rfl rfl rfl ?_ ?_ ?_; (first | exact ⟨⟩ | omega | focus (simp <;> omega) | decide +kernel); (first | exact trivial | exact rfl | exact .inl rfl | exact .inr rfl)) | refine Rg.call (one13_) rfl rfl rfl rfl rfl ⟨trivial, rfl⟩ ?_ | refine Rg.call (hs) rfl rfl rfl rfl rfl ⟨⟨.refl _, trivial⟩, rfl⟩ ?_ | (refine Rg.op true tok rfl rfl rfl rfl ?_ ?_ ?_; (first | exact ⟨⟩ | omega | focus (simp <;> omega) | decide +kernel); (first | exact trivial | exact rfl | exact .inl rfl | exact .inr rfl)) | refine Rg.nil ?_ | refine Rg.skip rfl rfl rfl ?_ | refine Run.regR ?_ | refine Run.condT rfl ?_ | refine Run.condF rfl ?_ | ((first | refine Run.condB rfl (fun hc => ?_) (fun hc => ?_) | ((fail_if_success (refine Rg.lit true rfl ?_)); (fail_if_success (refine Rg.lit false rfl ?_)); refine Rg.guard rfl (fun hc => ?_) (fun hc => ?_))) <;> ((try simp only [cs] at hc); (first | ((exfalso; omega); done) | skip))))
  refine Run.nilRow 8 58 2 (rows eInstr []) rfl ?_
  refine Run.renumL [0, 1, 2] [pbox pg13, wdbox wd13, rowIn []] [(0, sl 1 eInt l), (1, bl deep), (5, .ptr 0 0 0), (6, .ptr 1 0 0), (7, i64 0), (8, .slc 2 0 ([] : List Instr).length), (9, i64 0), (10, i64 (0 : Nat))] rfl rfl rfl rfl ⟨⟨_, rfl, rfl, rfl, rfl, rfl, fun k hk => .ofEq rfl rfl⟩, ⟨_, rfl, rfl, rfl, rfl, rfl, fun k hk => .ofEq rfl rfl⟩, ⟨_, rfl, rfl, rfl, rfl, rfl, fun k hk => .ofEq rfl rfl⟩, trivial⟩ ⟨.cl rfl, .cl rfl, .ptrN rfl rfl, .ptrN rfl rfl, .cl rfl, .slcN rfl rfl rfl, .cl rfl, .cl rfl, trivial⟩ ?_
  have e00 : (0 : Int) = sumTo l 0 := by unfold sumTo; simp; exact (wrap_r (by unfold R64; omega)).symm
  refine Run.loopN (ι := Nat) (fun i => ([(0, sl 1 eInt l), (1, bl deep), (5, .ptr 0 0 0), (6, .ptr 1 0 0), (7, i64 0), (8, .slc 2 0 (sumCode deep l i).length), (9, i64 (sumTo l i)), (10, i64 i)], [pbox pg13, wdbox wd13, rowIn (sumCode deep l i)])) (fun i => i ≤ l.length) (fun i => l.length - i) 0 ⟨rfl, rfl, rfl, rfl, rfl, rfl, by rw [← e00]; rfl, rfl, trivial⟩ rfl (by omega) ?_
  rintro i hi back backR
  dsimp only
  have hln := sumCode_len deep l i
  by_cases hlt : i < l.length
  · have hst := sumTo_succ l i hlt
    have hgd : l.getD i 0 = l.getD i default := rfl
    rw [hgd] at hst
    by_cases hd : deep = false ∧ 0 < i
    · obtain ⟨rfl, hi0⟩ := hd
      have hsc : sumCode false l (i + 1) = (sumCode false l i ++ [⟨1, l.getD i default⟩]) ++ [⟨9, 0⟩] := by
        rw [sumCode, if_pos ⟨rfl, hi0⟩]
        simp
      repeat' (first | refine Run.ctl rfl ?_ | (refine Rg.op false tok rfl rfl rfl rfl ?_ ?_ ?_; (first | exact ⟨⟩ | omega | focus (simp <;> omega) | decide +kernel); (first | exact trivial | exact rfl | exact .inl rfl | exact .inr rfl)) | (refine Rg.op true tok rfl rfl rfl rfl ?_ ?_ ?_; (first | exact ⟨⟩ | omega | focus (simp <;> omega) | decide +kernel); (first | exact trivial | exact rfl | exact .inl rfl | exact .inr rfl)) | refine Rg.nil ?_ | refine Rg.skip rfl rfl rfl ?_ | refine Run.regR ?_ | refine Run.condT rfl ?_ | refine Run.condF rfl ?_ | ((first | refine Run.condB rfl (fun hc => ?_) (fun hc => ?_) | ((fail_if_success (refine Rg.lit true rfl ?_)); (fail_if_success (refine Rg.lit false rfl ?_)); refine Rg.guard rfl (fun hc => ?_) (fun hc => ?_))) <;> ((try simp only [cs] at hc); (first | ((exfalso; omega); done) | skip))))
      refine backR [0, 1, 6] (i + 1) _ _ (by omega) (by omega) rfl ⟨⟨_, rfl, rfl, rfl, rfl, rfl, fun k hk => .ofEq rfl rfl⟩, ⟨_, rfl, rfl, rfl, rfl, rfl, fun k hk => .ofEq rfl rfl⟩, ⟨_, rfl, rfl, rfl, by rw [hsc]; simp, rfl, fun k hk => .ofEq (by
        dsimp only at hk ⊢
        rw [hsc]
        exact rows_snoc2 eInstr (sumCode false l i) (⟨1, l.getD i default⟩ : Instr) (⟨9, 0⟩ : Instr) rfl rfl hk) rfl⟩, trivial⟩ ⟨.cl rfl, .cl rfl, .ptrN rfl rfl, .ptrN rfl rfl, .cl rfl, .slcN rfl rfl (by rw [hsc]; simp), ?_, .cl rfl, trivial⟩
      dsimp only
      rw [hst]
      exact .cl rfl
    · have hsc : sumCode deep l (i + 1) = sumCode deep l i ++ [⟨1, l.getD i default⟩] := by
        rw [sumCode, if_neg hd]
        rfl
      have hd2 : deep = true ∨ (deep = false ∧ i = 0) := by
        cases deep with
        | true => exact .inl rfl
        | false => exact .inr ⟨rfl, by have : ¬ 0 < i := fun h => hd ⟨rfl, h⟩
                                       omega⟩
      rcases hd2 with rfl | ⟨rfl, rfl⟩
      all_goals (
        repeat' (first | refine Run.ctl rfl ?_ | (refine Rg.op false tok rfl rfl rfl rfl ?_ ?_ ?_; (first | exact ⟨⟩ | omega | focus (simp <;> omega) | decide +kernel); (first | exact trivial | exact rfl | exact .inl rfl | exact .inr rfl)) | (refine Rg.op true tok rfl rfl rfl rfl ?_ ?_ ?_; (first | exact ⟨⟩ | omega | focus (simp <;> omega) | decide +kernel); (first | exact trivial | exact rfl | exact .inl rfl | exact .inr rfl)) | refine Rg.nil ?_ | refine Rg.skip rfl rfl rfl ?_ | refine Run.regR ?_ | refine Run.condT rfl ?_ | refine Run.condF rfl ?_ | ((first | refine Run.condB rfl (fun hc => ?_) (fun hc => ?_) | ((fail_if_success (refine Rg.lit true rfl ?_)); (fail_if_success (refine Rg.lit false rfl ?_)); refine Rg.guard rfl (fun hc => ?_) (fun hc => ?_))) <;> ((try simp only [cs] at hc); (first | ((exfalso; omega); done) | skip))))
        refine backR [0, 1, 4] (_ + 1) _ _ (by omega) (by omega) rfl ⟨⟨_, rfl, rfl, rfl, rfl, rfl, fun k hk => .ofEq rfl rfl⟩, ⟨_, rfl, rfl, rfl, rfl, rfl, fun k hk => .ofEq rfl rfl⟩, ⟨_, rfl, rfl, rfl, by rw [hsc]; simp, rfl, fun k hk => .ofEq (by
          dsimp only at hk ⊢
          rw [hsc]
          exact rows_snoc eInstr _ _ rfl (fun k _ => by rw [Nat.zero_add]) rfl hk) rfl⟩, trivial⟩ ⟨.cl rfl, .cl rfl, .ptrN rfl rfl, .ptrN rfl rfl, .cl rfl, .slcN rfl rfl (by rw [hsc]; simp), ?_, .cl rfl, trivial⟩
        dsimp only
        rw [hst]
        exact .cl rfl)
  obtain rfl : i = l.length := by omega
  clear back backR hlt
  have hadd0 : sumCode deep l l.length ++ adds 0 = sumCode deep l l.length := by simp [adds]
  repeat' (first | refine Run.ctl rfl ?_ | (refine Rg.op false tok rfl rfl rfl rfl ?_ ?_ ?_; (first | exact ⟨⟩ | omega | focus (simp <;> omega) | decide +kernel); (first | exact trivial | exact rfl | exact .inl rfl | exact .inr rfl)) | (refine Rg.op true tok rfl rfl rfl rfl ?_ ?_ ?_; (first | exact ⟨⟩ | omega | focus (simp <;> omega) | decide +kernel); (first | exact trivial | exact rfl | exact .inl rfl | exact .inr rfl)) | refine Rg.nil ?_ | refine Rg.skip rfl rfl rfl ?_ | refine Run.regR ?_ | refine Run.condT rfl ?_ | refine Run.condF rfl ?_ | ((first | refine Run.condB rfl (fun hc => ?_) (fun hc => ?_) | ((fail_if_success (refine Rg.lit true rfl ?_)); (fail_if_success (refine Rg.lit false rfl ?_)); refine Rg.guard rfl (fun hc => ?_) (fun hc => ?_))) <;> ((try simp only [cs] at hc); (first | ((exfalso; omega); done) | skip))))
  refine Run.loopN (ι := Nat) (fun k => ([(0, sl 1 eInt l), (1, bl deep), (5, .ptr 0 0 0), (6, .ptr 1 0 0), (7, i64 0), (8, .slc 2 0 (sumCode deep l l.length ++ adds k).length), (9, i64 (sumTo l l.length)), (11, i64 ((k + 1 : Nat) : Int))], [pbox pg13, wdbox wd13, rowIn (sumCode deep l l.length ++ adds k)])) (fun k => k + 1 ≤ l.length ∧ (deep = false → k = 0)) (fun k => l.length - k) 0 ⟨rfl, rfl, rfl, rfl, rfl, by rw [hadd0]; rfl, rfl, rfl, trivial⟩ (by rw [hadd0]) ⟨by omega, fun _ => rfl⟩ ?_
  rintro k ⟨hk, hkd⟩ back backR
  dsimp only
  cases deep with
  | false =>
    obtain rfl := hkd rfl
    have hX : sumCode false l l.length ++ adds 0 = sumX false l := by simp [sumX, adds]
    rw [hX]
    have hc8 : ¬(false = true ∧ 8 < l.length) := by rintro ⟨e, _⟩; cases e
    rw [if_neg hc8] at hv
    repeat' (first | refine Run.ctl rfl ?_ | (refine Rg.op false tok rfl rfl rfl rfl ?_ ?_ ?_; (first | exact ⟨⟩ | omega | focus (simp <;> omega) | decide +kernel); (first | exact trivial | exact rfl | exact .inl rfl | exact .inr rfl)) | refine Rg.call (awake13_) rfl rfl rfl rfl rfl ⟨trivial, rfl⟩ ?_ | refine Rg.lend (hv) rfl rfl rfl rfl rfl rfl ⟨⟨.refl _, .refl _, .row rfl rfl rfl (by dsimp only; omega) rfl (fun _ => rfl) (fun j hj => by rw [Nat.zero_add]), trivial⟩, rfl⟩ ?_ | (refine Rg.op true tok rfl rfl rfl rfl ?_ ?_ ?_; (first | exact ⟨⟩ | omega | focus (simp <;> omega) | decide +kernel); (first | exact trivial | exact rfl | exact .inl rfl | exact .inr rfl)) | refine Rg.nil ?_ | refine Rg.skip rfl rfl rfl ?_ | refine Run.regR ?_ | refine Run.condT rfl ?_ | refine Run.condF rfl ?_ | ((first | refine Run.condB rfl (fun hc => ?_) (fun hc => ?_) | ((fail_if_success (refine Rg.lit true rfl ?_)); (fail_if_success (refine Rg.lit false rfl ?_)); refine Rg.guard rfl (fun hc => ?_) (fun hc => ?_))) <;> ((try simp only [cs] at hc); (first | ((exfalso; omega); done) | ((cases hc); done) | skip))))
    all_goals ((first | refine Run.ret tok Tryd.func8 rfl ?_ | refine Run.fall tok Tryd.func8 rfl ?_); exact .refl _)
  | true =>
    have hln2 : (sumCode true l l.length ++ adds k).length ≤ 100 := by
      have := sumCode_len true l l.length
      rw [List.length_append]
      simp only [adds, List.length_replicate]
      omega
    by_cases hlt : k + 1 < l.length
    · have hsc : sumCode true l l.length ++ adds (k + 1) = (sumCode true l l.length ++ adds k) ++ [⟨9, 0⟩] := by simp [adds, List.replicate_succ']
      generalize sumCode true l l.length ++ adds k = Y at hln2 hsc ⊢
      repeat' (first | refine Run.ctl rfl ?_ | (refine Rg.op false tok rfl rfl rfl rfl ?_ ?_ ?_; (first | exact ⟨⟩ | omega | focus (simp <;> omega) | decide +kernel); (first | exact trivial | exact rfl | exact .inl rfl | exact .inr rfl)) | (refine Rg.op true tok rfl rfl rfl rfl ?_ ?_ ?_; (first | exact ⟨⟩ | omega | focus (simp <;> omega) | decide +kernel); (first | exact trivial | exact rfl | exact .inl rfl | exact .inr rfl)) | refine Rg.nil ?_ | refine Rg.skip rfl rfl rfl ?_ | refine Run.regR ?_ | refine Run.condT rfl ?_ | refine Run.condF rfl ?_ | ((first | refine Run.condB rfl (fun hc => ?_) (fun hc => ?_) | ((fail_if_success (refine Rg.lit true rfl ?_)); (fail_if_success (refine Rg.lit false rfl ?_)); refine Rg.guard rfl (fun hc => ?_) (fun hc => ?_))) <;> ((try simp only [cs] at hc); (first | ((exfalso; omega); done) | skip))))
      exact backR [0, 1, 4] (k + 1) _ _ ⟨by omega, fun e => (nomatch e)⟩ (by omega) rfl ⟨⟨_, rfl, rfl, rfl, rfl, rfl, fun k hk => .ofEq rfl rfl⟩, ⟨_, rfl, rfl, rfl, rfl, rfl, fun k hk => .ofEq rfl rfl⟩, ⟨_, rfl, rfl, rfl, by rw [hsc, List.length_append]; rfl, rfl, fun k hk => .ofEq (by
          dsimp only at hk ⊢
          rw [hsc]
          exact rows_snoc eInstr _ _ rfl (fun k _ => by rw [Nat.zero_add]) rfl hk) rfl⟩, trivial⟩ ⟨.cl rfl, .cl rfl, .ptrN rfl rfl, .ptrN rfl rfl, .cl rfl, .slcN rfl rfl (by rw [hsc, List.length_append]; rfl), .cl rfl, .cl rfl, trivial⟩
    · obtain rfl : k = l.length - 1 := by omega
      have hX : sumCode true l l.length ++ adds (l.length - 1) = sumX true l := by simp [sumX]
      rw [hX]
      by_cases h8 : 8 < l.length
      · rw [if_pos ⟨rfl, h8⟩] at hv
        repeat' (first | refine Run.ctl rfl ?_ | (refine Rg.op false tok rfl rfl rfl rfl ?_ ?_ ?_; (first | exact ⟨⟩ | omega | focus (simp <;> omega) | decide +kernel); (first | exact trivial | exact rfl | exact .inl rfl | exact .inr rfl)) | refine Rg.call (awake13_) rfl rfl rfl rfl rfl ⟨trivial, rfl⟩ ?_ | refine Rg.lend (hv) rfl rfl rfl rfl rfl rfl ⟨⟨.refl _, .refl _, .row rfl rfl rfl (by dsimp only; omega) rfl (fun _ => rfl) (fun j hj => by rw [Nat.zero_add]), trivial⟩, rfl⟩ ?_ | (refine Rg.op true tok rfl rfl rfl rfl ?_ ?_ ?_; (first | exact ⟨⟩ | omega | focus (simp <;> omega) | decide +kernel); (first | exact trivial | exact rfl | exact .inl rfl | exact .inr rfl)) | refine Rg.nil ?_ | refine Rg.skip rfl rfl rfl ?_ | refine Run.regR ?_ | refine Run.condT rfl ?_ | refine Run.condF rfl ?_ | ((first | refine Run.condB rfl (fun hc => ?_) (fun hc => ?_) | ((fail_if_success (refine Rg.lit true rfl ?_)); (fail_if_success (refine Rg.lit false rfl ?_)); refine Rg.guard rfl (fun hc => ?_) (fun hc => ?_))) <;> ((try simp only [cs] at hc); (first | ((exfalso; omega); done) | ((cases hc); done) | skip))))
        all_goals ((first | refine Run.ret tok Tryd.func8 rfl ?_ | refine Run.fall tok Tryd.func8 rfl ?_); exact .refl _)
      · rw [if_neg (fun e => h8 e.2)] at hv
        repeat' (first | refine Run.ctl rfl ?_ | (refine Rg.op false tok rfl rfl rfl rfl ?_ ?_ ?_; (first | exact ⟨⟩ | omega | focus (simp <;> omega) | decide +kernel); (first | exact trivial | exact rfl | exact .inl rfl | exact .inr rfl)) | refine Rg.call (awake13_) rfl rfl rfl rfl rfl ⟨trivial, rfl⟩ ?_ | refine Rg.lend (hv) rfl rfl rfl rfl rfl rfl ⟨⟨.refl _, .refl _, .row rfl rfl rfl (by dsimp only; omega) rfl (fun _ => rfl) (fun j hj => by rw [Nat.zero_add]), trivial⟩, rfl⟩ ?_ | (refine Rg.op true tok rfl rfl rfl rfl ?_ ?_ ?_; (first | exact ⟨⟩ | omega | focus (simp <;> omega) | decide +kernel); (first | exact trivial | exact rfl | exact .inl rfl | exact .inr rfl)) | refine Rg.nil ?_ | refine Rg.skip rfl rfl rfl ?_ | refine Run.regR ?_ | refine Run.condT rfl ?_ | refine Run.condF rfl ?_ | ((first | refine Run.condB rfl (fun hc => ?_) (fun hc => ?_) | ((fail_if_success (refine Rg.lit true rfl ?_)); (fail_if_success (refine Rg.lit false rfl ?_)); refine Rg.guard rfl (fun hc => ?_) (fun hc => ?_))) <;> ((try simp only [cs] at hc); (first | ((exfalso; omega); done) | ((cases hc); done) | skip))))
        all_goals ((first | refine Run.ret tok Tryd.func8 rfl ?_ | refine Run.fall tok Tryd.func8 rfl ?_); exact .refl _)
end Go.Proofs.YtlimecfjpfaljaaDoor.W
end
