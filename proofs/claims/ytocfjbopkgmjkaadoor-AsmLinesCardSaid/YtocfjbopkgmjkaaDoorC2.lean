/- Walks: instructions' names, lines. -/
import Derived.Test.YtocfjbopkgmjkaaDoorP3
import Derived.Test.YtocfjbopkgmjkaaDoorC1
set_option linter.unusedVariables false
set_option linter.unusedSimpArgs false
set_option linter.unusedSectionVars false
set_option pp.maxSteps 3000
set_option maxHeartbeats 1000000
namespace Go.Proofs.YtocfjbopkgmjkaaDoor.W
open Go Go.Sy

theorem operand_ (op : Int) : Pure Tryd.prog 53 [i64 op] (i64 (operand op)) := by
  refine Pure.of_spec (Spec.of_run (fn := Tryd.f53) Tryd.func53 rfl rfl (by kernel_rfl) ?_) (by first | assumption | rfl | (split <;> rfl) | (split <;> split <;> rfl))
  repeat' (first | refine Run.ctl rfl ?_ | (refine Rg.op false tok rfl rfl rfl rfl ?_ ?_ ?_; (first | exact True.intro | omega | (simp; done) | (simp; omega) | decide +kernel); (first | exact trivial | exact .inl rfl | exact .inr rfl)) | (refine Rg.op true tok rfl rfl rfl rfl ?_ ?_ ?_; (first | exact True.intro | omega | (simp; done) | (simp; omega) | decide +kernel); (first | exact trivial | exact .inl rfl | exact .inr rfl)) | refine Rg.nil ?_ | refine Rg.skip rfl rfl rfl ?_ | refine Run.regR ?_ | refine Run.drwR mixed (by kernel_rfl) rfl ?_ | refine Run.condT rfl ?_ | refine Run.condF rfl ?_ | (refine Run.condB rfl (fun hc => ?_) (fun hc => ?_) <;> ((try simp only [cs] at hc))) | ((fail_if_success (refine Rg.lit true rfl ?_)); (fail_if_success (refine Rg.lit false rfl ?_)); refine Rg.guard rfl (fun hc => ?_) (fun hc => ?_) <;> ((try simp only [cs] at hc))))
  all_goals ((first | refine Run.ret tok Tryd.func53 rfl ?_ | refine Run.fall tok Tryd.func53 rfl ?_); refine .ofInt ?_; unfold operand; simp_all)
theorem valid_ (op : Int) : Pure Tryd.prog 65 [i64 op] (bl (opValid op)) := by
  refine Pure.of_spec (Spec.of_run (fn := Tryd.f65) Tryd.func65 rfl rfl (by kernel_rfl) ?_) (by first | assumption | rfl | (split <;> rfl) | (split <;> split <;> rfl))
  repeat' (first | refine Run.ctl rfl ?_ | (refine Rg.op false tok rfl rfl rfl rfl ?_ ?_ ?_; (first | exact True.intro | omega | (simp; done) | (simp; omega) | decide +kernel); (first | exact trivial | exact .inl rfl | exact .inr rfl)) | (refine Rg.op true tok rfl rfl rfl rfl ?_ ?_ ?_; (first | exact True.intro | omega | (simp; done) | (simp; omega) | decide +kernel); (first | exact trivial | exact .inl rfl | exact .inr rfl)) | refine Rg.nil ?_ | refine Rg.skip rfl rfl rfl ?_ | refine Run.regR ?_ | refine Run.drwR mixed (by kernel_rfl) rfl ?_ | refine Run.condT rfl ?_ | refine Run.condF rfl ?_ | (refine Run.condB rfl (fun hc => ?_) (fun hc => ?_) <;> ((try simp only [cs] at hc))) | ((fail_if_success (refine Rg.lit true rfl ?_)); (fail_if_success (refine Rg.lit false rfl ?_)); refine Rg.guard rfl (fun hc => ?_) (fun hc => ?_) <;> ((try simp only [cs] at hc))))
  all_goals ((first | refine Run.ret tok Tryd.func65 rfl ?_ | refine Run.fall tok Tryd.func65 rfl ?_); refine .ofBool ?_; unfold opValid; simp_all <;> omega)
/- "push pop copy .. end" -/
def opsT : List UInt8 := [112, 117, 115, 104, 32, 112, 111, 112, 32, 99, 111, 112, 121, 32, 115, 119, 97, 112, 32, 108, 111, 97, 100, 32, 115, 116, 111, 114, 101, 32, 97, 114, 103, 32, 115, 101, 108, 102, 32, 97, 100, 100, 32, 115, 117, 98, 32, 109, 117, 108, 32, 100, 105, 118, 32, 109, 111, 100, 32, 110, 101, 103, 32, 101, 113, 32, 108, 101, 115, 115, 32, 97, 110, 100, 32, 111, 114, 32, 110, 111, 116, 32, 106, 117, 109, 112, 32, 122, 101, 114, 111, 32, 115, 101, 110, 100, 32, 97, 114, 109, 32, 99, 97, 108, 109, 32, 101, 110, 100]
theorem fields_ops : Pure Tryd.prog 66 [str (bs opsT)] (sl 1 eStr (opNames.map bs)) := by
  have h := fields_ opsT (by decide) (by decide) (by decide +kernel)
  rwa [show Lib.fields opsT = opNames by decide +kernel] at h
theorem name_op (op : Int) : Pure Tryd.prog 54 [i64 op] (str (bs (opName op))) := by
  have hv := valid_ op
  by_cases h : 1 ≤ op ∧ op ≤ 25
  · have e : opValid op = true := by simp [opValid, h]
    rw [e] at hv
    obtain ⟨h1, h2⟩ := h
    refine Pure.of_spec (Spec.of_run (fn := Tryd.f54) Tryd.func54 rfl rfl (by kernel_rfl) ?_) (by first | assumption | rfl | (split <;> rfl) | (split <;> split <;> rfl))
    repeat' (first | refine Rg.any rfl rfl rfl (fun _ hq => G_ixF tok rfl rfl rfl rfl rfl (by omega) (by simp [opNames]; omega) hq) (by first | exact trivial | exact .inl rfl | exact .inr rfl) ?_ | refine Run.ctl rfl ?_ | (refine Rg.op false tok rfl rfl rfl rfl ?_ ?_ ?_; (first | exact True.intro | omega | (simp; done) | (simp; omega) | decide +kernel); (first | exact trivial | exact .inl rfl | exact .inr rfl)) | refine Rg.call (hv) rfl rfl rfl rfl rfl ⟨⟨.refl _, trivial⟩, rfl⟩ ?_ | refine Rg.call (fields_ops) rfl rfl rfl rfl rfl ⟨⟨.refl _, trivial⟩, rfl⟩ ?_ | (refine Rg.op true tok rfl rfl rfl rfl ?_ ?_ ?_; (first | exact True.intro | omega | (simp; done) | (simp; omega) | decide +kernel); (first | exact trivial | exact .inl rfl | exact .inr rfl)) | refine Rg.nil ?_ | refine Rg.skip rfl rfl rfl ?_ | refine Run.regR ?_ | refine Run.drwR mixed (by kernel_rfl) rfl ?_ | refine Run.condT rfl ?_ | refine Run.condF rfl ?_ | (refine Run.condB rfl (fun hc => ?_) (fun hc => ?_) <;> ((try simp only [cs] at hc))) | ((fail_if_success (refine Rg.lit true rfl ?_)); (fail_if_success (refine Rg.lit false rfl ?_)); refine Rg.guard rfl (fun hc => ?_) (fun hc => ?_) <;> ((try simp only [cs] at hc))))
    (first | refine Run.ret tok Tryd.func54 rfl ?_ | refine Run.fall tok Tryd.func54 rfl ?_)
    refine .ofStr ?_
    unfold opName
    rw [if_pos e]
    rw [List.getD_eq_getElem?_getD, List.getElem?_map, List.getD_eq_getElem?_getD]
    have hl : (op - 1).toNat < opNames.length := by simp [opNames]; omega
    rw [List.getElem?_eq_getElem hl]
    rfl
  · have e : opValid op = false := by simp [opValid]; omega
    rw [e] at hv
    refine Pure.of_spec (Spec.of_run (fn := Tryd.f54) Tryd.func54 rfl rfl (by kernel_rfl) ?_) (by first | assumption | rfl | (split <;> rfl) | (split <;> split <;> rfl))
    repeat' (first | refine Run.ctl rfl ?_ | (refine Rg.op false tok rfl rfl rfl rfl ?_ ?_ ?_; (first | exact True.intro | omega | (simp; done) | (simp; omega) | decide +kernel); (first | exact trivial | exact .inl rfl | exact .inr rfl)) | refine Rg.call (hv) rfl rfl rfl rfl rfl ⟨⟨.refl _, trivial⟩, rfl⟩ ?_ | (refine Rg.op true tok rfl rfl rfl rfl ?_ ?_ ?_; (first | exact True.intro | omega | (simp; done) | (simp; omega) | decide +kernel); (first | exact trivial | exact .inl rfl | exact .inr rfl)) | refine Rg.nil ?_ | refine Rg.skip rfl rfl rfl ?_ | refine Run.regR ?_ | refine Run.drwR mixed (by kernel_rfl) rfl ?_ | refine Run.condT rfl ?_ | refine Run.condF rfl ?_ | (refine Run.condB rfl (fun hc => ?_) (fun hc => ?_) <;> ((try simp only [cs] at hc))) | ((fail_if_success (refine Rg.lit true rfl ?_)); (fail_if_success (refine Rg.lit false rfl ?_)); refine Rg.guard rfl (fun hc => ?_) (fun hc => ?_) <;> ((try simp only [cs] at hc))))
    (first | refine Run.ret tok Tryd.func54 rfl ?_ | refine Run.fall tok Tryd.func54 rfl ?_)
    refine .ofStr ?_
    unfold opName
    rw [if_neg (by rw [e]; simp)]
    rfl
theorem findIn_drop (s : List UInt8) (l : List (List UInt8)) (i : Nat) (h : i < l.length) : findIn s (l.drop i) i = if l.getD i [] = s then (i : Int) else findIn s (l.drop (i + 1)) (i + 1) := by
  rw [List.drop_eq_getElem_cons h]
  simp [findIn, h]
theorem index_ (l : List (List UInt8)) (s : List UInt8) (hl : l.length ≤ 1000) : Pure Tryd.prog 75 [sl 1 eStr (l.map bs), str (bs s)] (i64 (findIn s l 0)) := by
  refine Pure.of_spec (Spec.of_run (fn := Tryd.f75) Tryd.func75 rfl rfl (by kernel_rfl) ?_) (by first | assumption | rfl | (split <;> rfl) | (split <;> split <;> rfl))
  repeat' (first | refine Run.ctl rfl ?_ | (refine Rg.op false tok rfl rfl rfl rfl ?_ ?_ ?_; (first | exact True.intro | omega | (simp; done) | (simp; omega) | decide +kernel); (first | exact trivial | exact .inl rfl | exact .inr rfl)) | (refine Rg.op true tok rfl rfl rfl rfl ?_ ?_ ?_; (first | exact True.intro | omega | (simp; done) | (simp; omega) | decide +kernel); (first | exact trivial | exact .inl rfl | exact .inr rfl)) | refine Rg.nil ?_ | refine Rg.skip rfl rfl rfl ?_ | refine Run.regR ?_ | refine Run.drwR mixed (by kernel_rfl) rfl ?_ | refine Run.condT rfl ?_ | refine Run.condF rfl ?_ | (refine Run.condB rfl (fun hc => ?_) (fun hc => ?_) <;> ((try simp only [cs] at hc))) | ((fail_if_success (refine Rg.lit true rfl ?_)); (fail_if_success (refine Rg.lit false rfl ?_)); refine Rg.guard rfl (fun hc => ?_) (fun hc => ?_) <;> ((try simp only [cs] at hc))))
  refine Run.loopAt (ι := Nat) (fun i => ([(0, sl 1 eStr (l.map bs)), (1, str (bs s)), (6, sl 1 eStr (l.map bs)), (7, i64 l.length), (8, i64 i)], [])) (fun i => i ≤ l.length ∧ findIn s (l.drop i) i = findIn s l 0) (fun i => l.length - i) 0 ⟨rfl, rfl, rfl, (by show PV.atom (.int .i64 ((l.map bs).length : Nat)) = _; rw [List.length_map]; rfl), rfl, trivial⟩ rfl ⟨by omega, rfl⟩ ?_
  rintro i ⟨hi, hf⟩ back
  have hg : i < l.length → (l.map bs).getD i default = bs (l.getD i []) := fun h => by
    rw [List.getD_eq_getElem?_getD, List.getElem?_map, List.getD_eq_getElem?_getD, List.getElem?_eq_getElem h]; rfl
  repeat' (first | refine Run.ctl rfl ?_ | (refine Rg.op false tok rfl rfl rfl rfl ?_ ?_ ?_; (first | exact True.intro | omega | (rw [List.length_map]; omega) | (simp; done) | (simp; omega) | decide +kernel); (first | exact trivial | exact .inl rfl | exact .inr rfl)) | (refine Rg.op true tok rfl rfl rfl rfl ?_ ?_ ?_; (first | exact True.intro | omega | (rw [List.length_map]; omega) | (simp; done) | (simp; omega) | decide +kernel); (first | exact trivial | exact .inl rfl | exact .inr rfl)) | refine Rg.nil ?_ | refine Rg.skip rfl rfl rfl ?_ | refine Run.regR ?_ | refine Run.drwR mixed (by kernel_rfl) rfl ?_ | refine Run.condT rfl ?_ | refine Run.condF rfl ?_ | (refine Run.condB rfl (fun hc => ?_) (fun hc => ?_) <;> ((try simp only [cs] at hc))) | ((fail_if_success (refine Rg.lit true rfl ?_)); (fail_if_success (refine Rg.lit false rfl ?_)); refine Rg.guard rfl (fun hc => ?_) (fun hc => ?_) <;> ((try simp only [cs] at hc))))
  · have h1 : i < l.length := by omega
    rw [hg h1, bs_toL, bs_toL] at hc
    rw [findIn_drop s l i h1, if_pos hc.symm] at hf
    (first | refine Run.ret tok Tryd.func75 rfl ?_ | refine Run.fall tok Tryd.func75 rfl ?_)
    exact .ofInt hf
  · have h1 : i < l.length := by omega
    rw [hg h1, bs_toL, bs_toL] at hc
    rw [findIn_drop s l i h1, if_neg (fun e => hc e.symm)] at hf
    exact back (i + 1) _ _ ⟨by omega, hf⟩ (by omega) ⟨rfl, rfl, rfl, rfl, rfl, trivial⟩ rfl
  · have : i = l.length := by omega
    subst this
    rw [List.drop_length] at hf
    (first | refine Run.ret tok Tryd.func75 rfl ?_ | refine Run.fall tok Tryd.func75 rfl ?_)
    exact .ofInt hf
def findP (s : List UInt8) : PV := if opFind s = 0 then .tup [i64 0, bl false] else .tup [i64 (opFind s), bl true]
theorem find_ (s : List UInt8) : Pure Tryd.prog 63 [str (bs s)] (findP s) := by
  have hi := index_ opNames s (by decide)
  have hr := opFind_rng s
  unfold findP
  unfold opFind at *
  generalize findIn s opNames 0 = j at *
  by_cases h : j + 1 = 0
  · rw [if_pos h]
    obtain rfl : j = -1 := by omega
    refine Pure.of_spec (Spec.of_run (fn := Tryd.f63) Tryd.func63 rfl rfl (by kernel_rfl) ?_) (by first | assumption | rfl | (split <;> rfl) | (split <;> split <;> rfl))
    repeat' (first | refine Run.ctl rfl ?_ | (refine Rg.op false tok rfl rfl rfl rfl ?_ ?_ ?_; (first | exact True.intro | omega | (simp; done) | (simp; omega) | decide +kernel); (first | exact trivial | exact .inl rfl | exact .inr rfl)) | refine Rg.call (fields_ops) rfl rfl rfl rfl rfl ⟨⟨.refl _, trivial⟩, rfl⟩ ?_ | refine Rg.call (hi) rfl rfl rfl rfl rfl ⟨⟨.refl _, .refl _, trivial⟩, rfl⟩ ?_ | (refine Rg.op true tok rfl rfl rfl rfl ?_ ?_ ?_; (first | exact True.intro | omega | (simp; done) | (simp; omega) | decide +kernel); (first | exact trivial | exact .inl rfl | exact .inr rfl)) | refine Rg.nil ?_ | refine Rg.skip rfl rfl rfl ?_ | refine Run.regR ?_ | refine Run.drwR mixed (by kernel_rfl) rfl ?_ | refine Run.condT rfl ?_ | refine Run.condF rfl ?_ | (refine Run.condB rfl (fun hc => ?_) (fun hc => ?_) <;> ((try simp only [cs] at hc))) | ((fail_if_success (refine Rg.lit true rfl ?_)); (fail_if_success (refine Rg.lit false rfl ?_)); refine Rg.guard rfl (fun hc => ?_) (fun hc => ?_) <;> ((try simp only [cs] at hc))))
    (first | refine Run.ret tok Tryd.func63 rfl ?_ | refine Run.fall tok Tryd.func63 rfl ?_)
    exact .refl _
  · rw [if_neg h]
    refine Pure.of_spec (Spec.of_run (fn := Tryd.f63) Tryd.func63 rfl rfl (by kernel_rfl) ?_) (by first | assumption | rfl | (split <;> rfl) | (split <;> split <;> rfl))
    repeat' (first | refine Run.ctl rfl ?_ | (refine Rg.op false tok rfl rfl rfl rfl ?_ ?_ ?_; (first | exact True.intro | omega | (simp; done) | (simp; omega) | decide +kernel); (first | exact trivial | exact .inl rfl | exact .inr rfl)) | refine Rg.call (fields_ops) rfl rfl rfl rfl rfl ⟨⟨.refl _, trivial⟩, rfl⟩ ?_ | refine Rg.call (hi) rfl rfl rfl rfl rfl ⟨⟨.refl _, .refl _, trivial⟩, rfl⟩ ?_ | (refine Rg.op true tok rfl rfl rfl rfl ?_ ?_ ?_; (first | exact True.intro | omega | (simp; done) | (simp; omega) | decide +kernel); (first | exact trivial | exact .inl rfl | exact .inr rfl)) | refine Rg.nil ?_ | refine Rg.skip rfl rfl rfl ?_ | refine Run.regR ?_ | refine Run.drwR mixed (by kernel_rfl) rfl ?_ | refine Run.condT rfl ?_ | refine Run.condF rfl ?_ | (refine Run.condB rfl (fun hc => ?_) (fun hc => ?_) <;> ((try simp only [cs] at hc))) | ((fail_if_success (refine Rg.lit true rfl ?_)); (fail_if_success (refine Rg.lit false rfl ?_)); refine Rg.guard rfl (fun hc => ?_) (fun hc => ?_) <;> ((try simp only [cs] at hc))))
    (first | refine Run.ret tok Tryd.func63 rfl ?_ | refine Run.fall tok Tryd.func63 rfl ?_)
    exact .tup' ⟨.refl _, .ofBool (by simp; omega), trivial⟩
theorem line_ (i : Instr) (h : i.ok) : Pure Tryd.prog 33 [pInstr i] (str (bs (lineOf i))) := by
  have hN := opName_len i.op
  have hA := Lib.itoa_length_le i.a h.2.1 h.2.2
  refine Pure.of_spec (Spec.of_run (fn := Tryd.f33) Tryd.func33 rfl rfl (by kernel_rfl) ?_) (by first | assumption | rfl | (split <;> rfl) | (split <;> split <;> rfl))
  repeat' (first | refine Run.ctl rfl ?_ | (refine Rg.op false tok rfl rfl rfl rfl ?_ ?_ ?_; (first | exact True.intro | omega | (simp only [ByteArray.size_append, mk_bs, bs_size, List.length_cons, List.length_nil]; omega) | (simp; done) | (simp; omega) | decide +kernel); (first | exact trivial | exact .inl rfl | exact .inr rfl)) | refine Rg.call (operand_ i.op) rfl rfl rfl rfl rfl ⟨⟨.refl _, trivial⟩, rfl⟩ ?_ | refine Rg.call (name_op i.op) rfl rfl rfl rfl rfl ⟨⟨.refl _, trivial⟩, rfl⟩ ?_ | refine Rg.call (itoa_ i.a h.2.1 h.2.2) rfl rfl rfl rfl rfl ⟨⟨.refl _, trivial⟩, rfl⟩ ?_ | (refine Rg.op true tok rfl rfl rfl rfl ?_ ?_ ?_; (first | exact True.intro | omega | (simp only [ByteArray.size_append, mk_bs, bs_size, List.length_cons, List.length_nil]; omega) | (simp; done) | (simp; omega) | decide +kernel); (first | exact trivial | exact .inl rfl | exact .inr rfl)) | refine Rg.nil ?_ | refine Rg.skip rfl rfl rfl ?_ | refine Run.regR ?_ | refine Run.drwR mixed (by kernel_rfl) rfl ?_ | refine Run.condT rfl ?_ | refine Run.condF rfl ?_ | (refine Run.condB rfl (fun hc => ?_) (fun hc => ?_) <;> ((try simp only [cs] at hc))) | ((fail_if_success (refine Rg.lit true rfl ?_)); (fail_if_success (refine Rg.lit false rfl ?_)); refine Rg.guard rfl (fun hc => ?_) (fun hc => ?_) <;> ((try simp only [cs] at hc))))
  all_goals ((first | refine Run.ret tok Tryd.func33 rfl ?_ | refine Run.fall tok Tryd.func33 rfl ?_); refine .ofStr ?_; unfold lineOf)
  all_goals (try simp only [mk_bs, bs_app])
  all_goals refine congrArg bs ?_
  all_goals simp_all
def lineRes (s : List UInt8) : Instr × Bool :=
  match Lib.cut s [32] with
  | (name, rest, sm) => if opFind name = 0 ∨ sm ≠ decide (operand (opFind name) ≠ 0) then (⟨0, 0⟩, false) else if sm then (match Lib.numOf rest with | some n => (⟨opFind name, n⟩, true) | none => (⟨opFind name, 0⟩, false)) else (⟨opFind name, 0⟩, true)
theorem lineRes_eq (s : List UInt8) : lineIn s = if (lineRes s).2 then some (lineRes s).1 else none := by
  unfold lineIn lineRes
  rcases Lib.cut s [32] with ⟨name, rest, sm⟩
  simp only
  split
  · rfl
  · split
    · cases Lib.numOf rest <;> rfl
    · rfl
theorem inline_ (s : ByteArray) (hs : s.size ≤ 100000) : Pure Tryd.prog 49 [str s] (.tup [pInstr (lineRes s.data.toList).1, bl (lineRes s.data.toList).2]) := by
  have hcut := cut_ s (bs [32]) (by omega)
  have hl : s.data.toList.length = s.size := Array.length_toList
  obtain ⟨res, hres⟩ : ∃ res, res = lineRes s.data.toList := ⟨_, rfl⟩
  rw [← hres]
  unfold lineRes at hres
  have hlen := cut_len s.data.toList 32
  rw [bs_toList] at hcut
  rcases hc : Lib.cut s.data.toList [32] with ⟨name, rest, sm⟩
  rw [hc] at hcut hres hlen
  simp only at hcut hres hlen
  have hf := find_ name
  have ho := operand_ (opFind name)
  have hn := number_ (bs rest) (by rw [bs_size]; omega)
  unfold findP at hf
  unfold numP at hn
  rw [bs_toList] at hn
  by_cases h0 : opFind name = 0
  · rw [if_pos h0] at hf
    rw [if_pos (.inl h0)] at hres
    subst hres
    refine Pure.of_spec (Spec.of_run (fn := Tryd.f49) Tryd.func49 rfl rfl (by kernel_rfl) ?_) (by first | assumption | rfl | (split <;> rfl) | (split <;> split <;> rfl))
    repeat' (first | refine Run.ctl rfl ?_ | (refine Rg.op false tok rfl rfl rfl rfl ?_ ?_ ?_; (first | exact True.intro | omega | (simp; done) | (simp; omega) | decide +kernel); (first | exact trivial | exact .inl rfl | exact .inr rfl)) | refine Rg.call (hcut) rfl rfl rfl rfl rfl ⟨⟨.refl _, .refl _, trivial⟩, rfl⟩ ?_ | refine Rg.call (hf) rfl rfl rfl rfl rfl ⟨⟨.refl _, trivial⟩, rfl⟩ ?_ | (refine Rg.op true tok rfl rfl rfl rfl ?_ ?_ ?_; (first | exact True.intro | omega | (simp; done) | (simp; omega) | decide +kernel); (first | exact trivial | exact .inl rfl | exact .inr rfl)) | refine Rg.nil ?_ | refine Rg.skip rfl rfl rfl ?_ | refine Run.regR ?_ | refine Run.drwR mixed (by kernel_rfl) rfl ?_ | refine Run.condT rfl ?_ | refine Run.condF rfl ?_ | (refine Run.condB rfl (fun hc => ?_) (fun hc => ?_) <;> ((try simp only [cs] at hc))) | ((fail_if_success (refine Rg.lit true rfl ?_)); (fail_if_success (refine Rg.lit false rfl ?_)); refine Rg.guard rfl (fun hc => ?_) (fun hc => ?_) <;> ((try simp only [cs] at hc))))
    (first | refine Run.ret tok Tryd.func49 rfl ?_ | refine Run.fall tok Tryd.func49 rfl ?_)
    exact .refl _
  · rw [if_neg h0] at hf
    by_cases h1 : operand (opFind name) = 0
    · rw [h1] at ho
      cases sm with
      | true =>
        rw [if_pos (.inr (by simp [h1]))] at hres
        subst hres
        refine Pure.of_spec (Spec.of_run (fn := Tryd.f49) Tryd.func49 rfl rfl (by kernel_rfl) ?_) (by first | assumption | rfl | (split <;> rfl) | (split <;> split <;> rfl))
        repeat' (first | refine Run.ctl rfl ?_ | (refine Rg.op false tok rfl rfl rfl rfl ?_ ?_ ?_; (first | exact True.intro | omega | (simp; done) | (simp; omega) | decide +kernel); (first | exact trivial | exact .inl rfl | exact .inr rfl)) | refine Rg.call (hcut) rfl rfl rfl rfl rfl ⟨⟨.refl _, .refl _, trivial⟩, rfl⟩ ?_ | refine Rg.call (hf) rfl rfl rfl rfl rfl ⟨⟨.refl _, trivial⟩, rfl⟩ ?_ | refine Rg.call (ho) rfl rfl rfl rfl rfl ⟨⟨.refl _, trivial⟩, rfl⟩ ?_ | (refine Rg.op true tok rfl rfl rfl rfl ?_ ?_ ?_; (first | exact True.intro | omega | (simp; done) | (simp; omega) | decide +kernel); (first | exact trivial | exact .inl rfl | exact .inr rfl)) | refine Rg.nil ?_ | refine Rg.skip rfl rfl rfl ?_ | refine Run.regR ?_ | refine Run.drwR mixed (by kernel_rfl) rfl ?_ | refine Run.condT rfl ?_ | refine Run.condF rfl ?_ | (refine Run.condB rfl (fun hc => ?_) (fun hc => ?_) <;> ((try simp only [cs] at hc))) | ((fail_if_success (refine Rg.lit true rfl ?_)); (fail_if_success (refine Rg.lit false rfl ?_)); refine Rg.guard rfl (fun hc => ?_) (fun hc => ?_) <;> ((try simp only [cs] at hc))))
        (first | refine Run.ret tok Tryd.func49 rfl ?_ | refine Run.fall tok Tryd.func49 rfl ?_)
        exact .refl _
      | false =>
        rw [if_neg (by simp [h1, h0])] at hres
        simp only [Bool.false_eq_true, if_false] at hres
        subst hres
        refine Pure.of_spec (Spec.of_run (fn := Tryd.f49) Tryd.func49 rfl rfl (by kernel_rfl) ?_) (by first | assumption | rfl | (split <;> rfl) | (split <;> split <;> rfl))
        repeat' (first | refine Run.ctl rfl ?_ | (refine Rg.op false tok rfl rfl rfl rfl ?_ ?_ ?_; (first | exact True.intro | omega | (simp; done) | (simp; omega) | decide +kernel); (first | exact trivial | exact .inl rfl | exact .inr rfl)) | refine Rg.call (hcut) rfl rfl rfl rfl rfl ⟨⟨.refl _, .refl _, trivial⟩, rfl⟩ ?_ | refine Rg.call (hf) rfl rfl rfl rfl rfl ⟨⟨.refl _, trivial⟩, rfl⟩ ?_ | refine Rg.call (ho) rfl rfl rfl rfl rfl ⟨⟨.refl _, trivial⟩, rfl⟩ ?_ | (refine Rg.op true tok rfl rfl rfl rfl ?_ ?_ ?_; (first | exact True.intro | omega | (simp; done) | (simp; omega) | decide +kernel); (first | exact trivial | exact .inl rfl | exact .inr rfl)) | refine Rg.nil ?_ | refine Rg.skip rfl rfl rfl ?_ | refine Run.regR ?_ | refine Run.drwR mixed (by kernel_rfl) rfl ?_ | refine Run.condT rfl ?_ | refine Run.condF rfl ?_ | (refine Run.condB rfl (fun hc => ?_) (fun hc => ?_) <;> ((try simp only [cs] at hc))) | ((fail_if_success (refine Rg.lit true rfl ?_)); (fail_if_success (refine Rg.lit false rfl ?_)); refine Rg.guard rfl (fun hc => ?_) (fun hc => ?_) <;> ((try simp only [cs] at hc))))
        (first | refine Run.ret tok Tryd.func49 rfl ?_ | refine Run.fall tok Tryd.func49 rfl ?_)
        exact .refl _
    · have hq : ((operand (opFind name) != 0) = true) := by simp [h1]
      cases sm with
      | false =>
        rw [if_pos (.inr (by simp [h1]))] at hres
        subst hres
        refine Pure.of_spec (Spec.of_run (fn := Tryd.f49) Tryd.func49 rfl rfl (by kernel_rfl) ?_) (by first | assumption | rfl | (split <;> rfl) | (split <;> split <;> rfl))
        repeat' (first | refine Run.ctl rfl ?_ | (refine Rg.op false tok rfl rfl rfl rfl ?_ ?_ ?_; (first | exact True.intro | omega | (simp; done) | (simp; omega) | decide +kernel); (first | exact trivial | exact .inl rfl | exact .inr rfl)) | refine Rg.call (hcut) rfl rfl rfl rfl rfl ⟨⟨.refl _, .refl _, trivial⟩, rfl⟩ ?_ | refine Rg.call (hf) rfl rfl rfl rfl rfl ⟨⟨.refl _, trivial⟩, rfl⟩ ?_ | refine Rg.call (ho) rfl rfl rfl rfl rfl ⟨⟨.refl _, trivial⟩, rfl⟩ ?_ | (refine Rg.op true tok rfl rfl rfl rfl ?_ ?_ ?_; (first | exact True.intro | omega | (simp; done) | (simp; omega) | decide +kernel); (first | exact trivial | exact .inl rfl | exact .inr rfl)) | refine Rg.nil ?_ | refine Rg.skip rfl rfl rfl ?_ | refine Run.regR ?_ | refine Run.drwR mixed (by kernel_rfl) rfl ?_ | refine Run.condT rfl ?_ | refine Run.condF rfl ?_ | (refine Run.condB rfl (fun hc => ?_) (fun hc => ?_) <;> ((try simp only [cs] at hc); (first | ((exact absurd hc h1); done) | ((simp [hq] at hc); done) | skip))) | ((fail_if_success (refine Rg.lit true rfl ?_)); (fail_if_success (refine Rg.lit false rfl ?_)); refine Rg.guard rfl (fun hc => ?_) (fun hc => ?_) <;> ((try simp only [cs] at hc); (first | ((exact absurd hc h1); done) | ((simp [hq] at hc); done) | skip))))
        (first | refine Run.ret tok Tryd.func49 rfl ?_ | refine Run.fall tok Tryd.func49 rfl ?_)
        exact .refl _
      | true =>
        rw [if_neg (by simp [h1, h0])] at hres
        simp only [if_true] at hres
        cases hnum : Lib.numOf rest with
        | none =>
          rw [hnum] at hn hres
          simp only at hn hres
          subst hres
          refine Pure.of_spec (Spec.of_run (fn := Tryd.f49) Tryd.func49 rfl rfl (by kernel_rfl) ?_) (by first | assumption | rfl | (split <;> rfl) | (split <;> split <;> rfl))
          repeat' (first | refine Run.ctl rfl ?_ | (refine Rg.op false tok rfl rfl rfl rfl ?_ ?_ ?_; (first | exact True.intro | omega | (simp; done) | (simp; omega) | decide +kernel); (first | exact trivial | exact .inl rfl | exact .inr rfl)) | refine Rg.call (hcut) rfl rfl rfl rfl rfl ⟨⟨.refl _, .refl _, trivial⟩, rfl⟩ ?_ | refine Rg.call (hf) rfl rfl rfl rfl rfl ⟨⟨.refl _, trivial⟩, rfl⟩ ?_ | refine Rg.call (ho) rfl rfl rfl rfl rfl ⟨⟨.refl _, trivial⟩, rfl⟩ ?_ | refine Rg.call (hn) rfl rfl rfl rfl rfl ⟨⟨.refl _, trivial⟩, rfl⟩ ?_ | (refine Rg.op true tok rfl rfl rfl rfl ?_ ?_ ?_; (first | exact True.intro | omega | (simp; done) | (simp; omega) | decide +kernel); (first | exact trivial | exact .inl rfl | exact .inr rfl)) | refine Rg.nil ?_ | refine Rg.skip rfl rfl rfl ?_ | refine Run.regR ?_ | refine Run.drwR mixed (by kernel_rfl) rfl ?_ | refine Run.condT rfl ?_ | refine Run.condF rfl ?_ | (refine Run.condB rfl (fun hc => ?_) (fun hc => ?_) <;> ((try simp only [cs] at hc); (first | ((exact absurd hc h1); done) | ((simp [hq] at hc); done) | skip))) | ((fail_if_success (refine Rg.lit true rfl ?_)); (fail_if_success (refine Rg.lit false rfl ?_)); refine Rg.guard rfl (fun hc => ?_) (fun hc => ?_) <;> ((try simp only [cs] at hc); (first | ((exact absurd hc h1); done) | ((simp [hq] at hc); done) | skip))))
          (first | refine Run.ret tok Tryd.func49 rfl ?_ | refine Run.fall tok Tryd.func49 rfl ?_)
          exact .refl _
        | some n =>
          rw [hnum] at hn hres
          simp only at hn hres
          subst hres
          refine Pure.of_spec (Spec.of_run (fn := Tryd.f49) Tryd.func49 rfl rfl (by kernel_rfl) ?_) (by first | assumption | rfl | (split <;> rfl) | (split <;> split <;> rfl))
          repeat' (first | refine Run.ctl rfl ?_ | (refine Rg.op false tok rfl rfl rfl rfl ?_ ?_ ?_; (first | exact True.intro | omega | (simp; done) | (simp; omega) | decide +kernel); (first | exact trivial | exact .inl rfl | exact .inr rfl)) | refine Rg.call (hcut) rfl rfl rfl rfl rfl ⟨⟨.refl _, .refl _, trivial⟩, rfl⟩ ?_ | refine Rg.call (hf) rfl rfl rfl rfl rfl ⟨⟨.refl _, trivial⟩, rfl⟩ ?_ | refine Rg.call (ho) rfl rfl rfl rfl rfl ⟨⟨.refl _, trivial⟩, rfl⟩ ?_ | refine Rg.call (hn) rfl rfl rfl rfl rfl ⟨⟨.refl _, trivial⟩, rfl⟩ ?_ | (refine Rg.op true tok rfl rfl rfl rfl ?_ ?_ ?_; (first | exact True.intro | omega | (simp; done) | (simp; omega) | decide +kernel); (first | exact trivial | exact .inl rfl | exact .inr rfl)) | refine Rg.nil ?_ | refine Rg.skip rfl rfl rfl ?_ | refine Run.regR ?_ | refine Run.drwR mixed (by kernel_rfl) rfl ?_ | refine Run.condT rfl ?_ | refine Run.condF rfl ?_ | (refine Run.condB rfl (fun hc => ?_) (fun hc => ?_) <;> ((try simp only [cs] at hc); (first | ((exact absurd hc h1); done) | ((simp [hq] at hc); done) | skip))) | ((fail_if_success (refine Rg.lit true rfl ?_)); (fail_if_success (refine Rg.lit false rfl ?_)); refine Rg.guard rfl (fun hc => ?_) (fun hc => ?_) <;> ((try simp only [cs] at hc); (first | ((exact absurd hc h1); done) | ((simp [hq] at hc); done) | skip))))
          (first | refine Run.ret tok Tryd.func49 rfl ?_ | refine Run.fall tok Tryd.func49 rfl ?_)
          exact .refl _
end Go.Proofs.YtocfjbopkgmjkaaDoor.W
