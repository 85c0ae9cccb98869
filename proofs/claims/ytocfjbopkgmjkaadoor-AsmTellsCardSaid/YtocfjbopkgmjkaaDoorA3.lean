/- Walks: what is read. -/
import Derived.Test.YtocfjbopkgmjkaaDoorA2
set_option linter.unusedVariables false
set_option linter.unusedSimpArgs false
set_option linter.unusedSectionVars false
set_option pp.maxSteps 3000
namespace Go.Proofs.YtocfjbopkgmjkaaDoor.W
open Go Go.Sy

/-- The numbers that texts are, if all are. -/
def numsOf : List ByteArray → Option (List Int)
  | [] => some []
  | s :: l => match Lib.numOf s.data.toList, numsOf l with
    | some n, some r => some (n :: r)
    | _, _ => none
theorem numsOf_take {l : List ByteArray} {i : Nat} {ns : List Int} (hi : i < l.length) (h : numsOf (l.take i) = some ns) :
    numsOf (l.take (i + 1)) = (Lib.numOf (l.getD i default).data.toList).map fun n => ns ++ [n] := by
  induction l generalizing i ns with
  | nil => simp at hi
  | cons s l ih =>
    cases i with
    | zero =>
      simp [numsOf] at h
      subst h
      simp only [List.take_succ_cons, List.take_zero, List.getD_cons_zero]
      simp only [numsOf]
      cases Lib.numOf s.data.toList <;> simp
    | succ i =>
      simp only [List.take_succ_cons, numsOf] at h
      rw [List.take_succ_cons, List.getD_cons_succ]
      simp only [numsOf]
      cases h1 : Lib.numOf s.data.toList with
      | none => simp [h1] at h
      | some n =>
        cases h2 : numsOf (l.take i) with
        | none => simp [h1, h2] at h
        | some r =>
          simp [h1, h2] at h
          subst h
          rw [ih (by simpa using hi) h2]
          cases Lib.numOf (l.getD i default).data.toList <;> simp
theorem numsOf_fail {l : List ByteArray} {i : Nat} (hi : i < l.length) (h : Lib.numOf (l.getD i default).data.toList = none) : numsOf l = none := by
  induction l generalizing i with
  | nil => simp at hi
  | cons s l ih =>
    cases i with
    | zero => simp at h; simp [numsOf, h]
    | succ i =>
      rw [List.getD_cons_succ] at h
      simp only [numsOf, ih (by simpa using hi) h]
      cases Lib.numOf s.data.toList <;> rfl
theorem numsOf_len {l : List ByteArray} {ns : List Int} (h : numsOf l = some ns) : ns.length = l.length := by
  induction l generalizing ns with
  | nil => simp [numsOf] at h; subst h; rfl
  | cons s l ih =>
    simp only [numsOf] at h
    split at h
    · rename_i n r h1 h2
      simp at h; subst h
      simp [ih h2]
    · cases h
def dots (s : ByteArray) : List ByteArray := splitL s (bs [46])
def parseID (s : ByteArray) : Option ID := match numsOf (dots s) with
  | some [a, b, c] => some ⟨a, b, c⟩
  | _ => none
def parseP (s : ByteArray) : PV := match parseID s with
  | some x => .tup [pID x, i64 0]
  | none => .tup [pID ⟨0, 0, 0⟩, i64 2]
theorem splitL_len (s : ByteArray) (sep : ByteArray) (h : 1 ≤ sep.size) : (splitL s sep).length = Lib.countB s sep + 1 := Lib.splitB_all sep h 0 _ s rfl
theorem splitL_sizes (sep : ByteArray) (k : Nat) : ∀ (s : ByteArray) (x : ByteArray), x ∈ Lib.splitB sep 0 k s → x.size ≤ s.size := by
  induction k with
  | zero => intro s x hx; simp [Lib.splitB] at hx; subst hx; exact Nat.le_refl _
  | succ k ih =>
    intro s x hx
    unfold Lib.splitB at hx
    split at hx
    · simp at hx; subst hx; exact Nat.le_refl _
    · rcases List.mem_cons.1 hx with rfl | hx
      · rw [ByteArray.size_extract]; omega
      · have := ih _ x hx
        rw [ByteArray.size_extract] at this
        omega
theorem parse_ (s : ByteArray) (hs : s.size ≤ 1000) : Pure Tryd.prog 13 [str s] (parseP s) := by
  have h1 : 1 ≤ (bs [46]).size := by simp [bs_size]
  have hc0 := Lib.countB_le (bs [46]) h1 _ s (Nat.le_refl _)
  have hlen : (dots s).length ≤ 1001 := by unfold dots; rw [splitL_len s _ h1]; omega
  have hsp := split_ s (bs [46]) (by omega) h1 (splitL_len s _ h1) (by simp only [maxLen]; omega)
  have hsz : ∀ x ∈ dots s, x.size ≤ 1000 := fun x hx => Nat.le_trans (splitL_sizes _ _ s x hx) hs
  change Pure _ _ _ (sl 1 eStr (dots s)) at hsp
  have hp : parseP s = (match numsOf (dots s) with | some [a, b, c] => .tup [pID ⟨a, b, c⟩, i64 0] | _ => .tup [pID ⟨0, 0, 0⟩, i64 2]) := by
    unfold parseP parseID
    repeat' split
    all_goals simp_all
  rw [hp]
  generalize dots s = l at *
  refine Pure.of_spec (Spec.of_run (fn := Tryd.f13) Tryd.func13 rfl rfl (by kernel_rfl) ?_) (by first | assumption | rfl | (split <;> rfl) | (split <;> split <;> rfl))
  repeat' (first | refine Run.ctl rfl ?_ | (refine Rg.op false tok rfl rfl rfl rfl ?_ ?_ ?_; (first | exact True.intro | omega | (simp; done) | (simp; omega) | decide +kernel); (first | exact trivial | exact .inl rfl | exact .inr rfl)) | refine Rg.call (hsp) rfl rfl rfl rfl rfl ⟨⟨.refl _, .refl _, trivial⟩, rfl⟩ ?_ | (refine Rg.op true tok rfl rfl rfl rfl ?_ ?_ ?_; (first | exact True.intro | omega | (simp; done) | (simp; omega) | decide +kernel); (first | exact trivial | exact .inl rfl | exact .inr rfl)) | refine Rg.nil ?_ | refine Rg.skip rfl rfl rfl ?_ | refine Run.regR ?_ | refine Run.drwR mixed (by kernel_rfl) rfl ?_ | refine Run.condT rfl ?_ | refine Run.condF rfl ?_ | (refine Run.condB rfl (fun hc => ?_) (fun hc => ?_) <;> ((try simp only [cs] at hc))) | ((fail_if_success (refine Rg.lit true rfl ?_)); (fail_if_success (refine Rg.lit false rfl ?_)); refine Rg.guard rfl (fun hc => ?_) (fun hc => ?_) <;> ((try simp only [cs] at hc))))
  · have : numsOf l = none ∨ ∃ ns, numsOf l = some ns ∧ ns.length ≠ 3 := by
      cases h : numsOf l with
      | none => exact .inl rfl
      | some ns => exact .inr ⟨ns, rfl, by rw [numsOf_len h]; omega⟩
    have e : (match numsOf l with | some [a, b, c] => PV.tup [pID ⟨a, b, c⟩, i64 0] | _ => .tup [pID ⟨0, 0, 0⟩, i64 2]) = .tup [pID ⟨0, 0, 0⟩, i64 2] := by
      rcases this with h | ⟨ns, h, h3⟩
      · rw [h]
      · rw [h]
        match ns, h3 with
        | [], _ => rfl
        | [_], _ => rfl
        | [_, _], _ => rfl
        | _ :: _ :: _ :: _ :: _, _ => rfl
    rw [e]
    (first | refine Run.ret tok Tryd.func13 rfl ?_ | refine Run.fall tok Tryd.func13 rfl ?_)
    exact .refl _
  · have hl3 : l.length = 3 := by omega
    refine Run.nilRow 5 3 1 (rows eInt []) rfl ?_
    refine Run.loopRow (ι := Nat × List Int) (fun x => ([(2, .ptr 0 0 0), (3, i64 0), (16, sl 1 eStr l), (17, i64 l.length), (18, i64 x.1), (5, .slc 1 0 x.2.length)], [some ⟨23, 3, 1, fun _ => eID ⟨0, 0, 0⟩, false⟩, some ⟨3, 1, x.2.length, rows eInt x.2, false⟩]))
      (fun x => x.1 ≤ l.length ∧ numsOf (l.take x.1) = some x.2) (fun x => l.length - x.1) (0, []) [0, 3] rfl rfl rfl ⟨rfl, rfl, rfl, rfl, rfl, rfl, trivial⟩ rfl ⟨by omega, rfl⟩ ?_
    rintro ⟨i, ns⟩ ⟨hi, hns⟩ back backR
    have hnl : ns.length = i := by rw [numsOf_len hns]; simp; omega
    have hi' : i ≤ l.length := hi
    repeat' (first | refine Run.ctl rfl ?_ | (refine Rg.op false tok rfl rfl rfl rfl ?_ ?_ ?_; (first | exact True.intro | omega | (simp; done) | (simp; omega) | decide +kernel); (first | exact trivial | exact .inl rfl | exact .inr rfl)) | (refine Rg.op true tok rfl rfl rfl rfl ?_ ?_ ?_; (first | exact True.intro | omega | (simp; done) | (simp; omega) | decide +kernel); (first | exact trivial | exact .inl rfl | exact .inr rfl)) | refine Rg.nil ?_ | refine Rg.skip rfl rfl rfl ?_ | refine Run.regR ?_ | refine Run.drwR mixed (by kernel_rfl) rfl ?_ | refine Run.condT rfl ?_ | refine Run.condF rfl ?_ | (refine Run.condB rfl (fun hc => ?_) (fun hc => ?_) <;> ((try simp only [cs] at hc))) | ((fail_if_success (refine Rg.lit true rfl ?_)); (fail_if_success (refine Rg.lit false rfl ?_)); refine Rg.guard rfl (fun hc => ?_) (fun hc => ?_) <;> ((try simp only [cs] at hc))))
    · have hlt : i < l.length := by omega
      have hx := number_ (l.getD i default) (by
        have := hsz (l.getD i default) (by rw [List.getD_eq_getElem?_getD, List.getElem?_eq_getElem hlt]; exact List.getElem_mem hlt)
        omega)
      have hstep := numsOf_take hlt hns
      unfold numP at hx
      cases hn : Lib.numOf (l.getD i default).data.toList with
      | none =>
        rw [hn] at hx
        rw [numsOf_fail hlt hn]
        repeat' (first | refine Run.ctl rfl ?_ | (refine Rg.op false tok rfl rfl rfl rfl ?_ ?_ ?_; (first | exact True.intro | omega | (simp; done) | (simp; omega) | decide +kernel); (first | exact trivial | exact .inl rfl | exact .inr rfl)) | refine Rg.call (hx) rfl rfl rfl rfl rfl ⟨⟨.refl _, trivial⟩, rfl⟩ ?_ | (refine Rg.op true tok rfl rfl rfl rfl ?_ ?_ ?_; (first | exact True.intro | omega | (simp; done) | (simp; omega) | decide +kernel); (first | exact trivial | exact .inl rfl | exact .inr rfl)) | refine Rg.nil ?_ | refine Rg.skip rfl rfl rfl ?_ | refine Run.regR ?_ | refine Run.drwR mixed (by kernel_rfl) rfl ?_ | refine Run.condT rfl ?_ | refine Run.condF rfl ?_ | (refine Run.condB rfl (fun hc => ?_) (fun hc => ?_) <;> ((try simp only [cs] at hc))) | ((fail_if_success (refine Rg.lit true rfl ?_)); (fail_if_success (refine Rg.lit false rfl ?_)); refine Rg.guard rfl (fun hc => ?_) (fun hc => ?_) <;> ((try simp only [cs] at hc))))
        (first | refine Run.ret tok Tryd.func13 rfl ?_ | refine Run.fall tok Tryd.func13 rfl ?_)
        exact .refl _
      | some n =>
        rw [hn] at hx hstep
        repeat' (first | refine Run.ctl rfl ?_ | (refine Rg.op false tok rfl rfl rfl rfl ?_ ?_ ?_; (first | exact True.intro | omega | (simp; done) | (simp; omega) | decide +kernel); (first | exact trivial | exact .inl rfl | exact .inr rfl)) | refine Rg.call (hx) rfl rfl rfl rfl rfl ⟨⟨.refl _, trivial⟩, rfl⟩ ?_ | (refine Rg.op true tok rfl rfl rfl rfl ?_ ?_ ?_; (first | exact True.intro | omega | (simp; done) | (simp; omega) | decide +kernel); (first | exact trivial | exact .inl rfl | exact .inr rfl)) | refine Rg.nil ?_ | refine Rg.skip rfl rfl rfl ?_ | refine Run.regR ?_ | refine Run.drwR mixed (by kernel_rfl) rfl ?_ | refine Run.condT rfl ?_ | refine Run.condF rfl ?_ | (refine Run.condB rfl (fun hc => ?_) (fun hc => ?_) <;> ((try simp only [cs] at hc))) | ((fail_if_success (refine Rg.lit true rfl ?_)); (fail_if_success (refine Rg.lit false rfl ?_)); refine Rg.guard rfl (fun hc => ?_) (fun hc => ?_) <;> ((try simp only [cs] at hc))))
        refine backR (i + 1, ns ++ [n]) _ _ ⟨hlt, hstep⟩ (by show l.length - (i + 1) < l.length - i; omega) rfl ⟨⟨_, rfl, rfl, rfl, rfl, rfl, fun k hk => .ofEq rfl rfl⟩, ⟨_, rfl, rfl, rfl, by simp, rfl, fun k hk => .ofEq ?_ rfl⟩, trivial⟩ ⟨.ptrN rfl rfl, .cl rfl, .cl rfl, .cl rfl, .cl rfl, .slcN rfl rfl (by simp), trivial⟩
        exact rows_app (a := fun j => rows eInt ns (0 + j)) (b := fun j => piece 1 [i64 n] (0 + j)) eInt ns [n] rfl (fun k _ => by rw [Nat.zero_add]) (rows_one eInt n rfl) k hk
    · have : i = l.length := by omega
      subst this
      rw [List.take_length] at hns
      have hl3' : ns.length = 3 := by rw [hnl]; exact hl3
      simp only at hns
      rw [hns]
      match ns, hl3' with
      | [a, b, c], _ =>
        repeat' (first | refine Run.ctl rfl ?_ | (refine Rg.op false tok rfl rfl rfl rfl ?_ ?_ ?_; (first | exact True.intro | omega | (simp; done) | (simp; omega) | decide +kernel); (first | exact trivial | exact .inl rfl | exact .inr rfl)) | (refine Rg.op true tok rfl rfl rfl rfl ?_ ?_ ?_; (first | exact True.intro | omega | (simp; done) | (simp; omega) | decide +kernel); (first | exact trivial | exact .inl rfl | exact .inr rfl)) | refine Rg.nil ?_ | refine Rg.skip rfl rfl rfl ?_ | refine Run.regR ?_ | refine Run.drwR mixed (by kernel_rfl) rfl ?_ | refine Run.condT rfl ?_ | refine Run.condF rfl ?_ | (refine Run.condB rfl (fun hc => ?_) (fun hc => ?_) <;> ((try simp only [cs] at hc))) | ((fail_if_success (refine Rg.lit true rfl ?_)); (fail_if_success (refine Rg.lit false rfl ?_)); refine Rg.guard rfl (fun hc => ?_) (fun hc => ?_) <;> ((try simp only [cs] at hc))))
        (first | refine Run.ret tok Tryd.func13 rfl ?_ | refine Run.fall tok Tryd.func13 rfl ?_)
        exact .refl _
end Go.Proofs.YtocfjbopkgmjkaaDoor.W
