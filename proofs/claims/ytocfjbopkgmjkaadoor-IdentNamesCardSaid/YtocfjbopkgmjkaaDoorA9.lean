/- Walks: what the document reads: names of messages. -/
import Derived.Test.YtocfjbopkgmjkaaDoorP1
set_option linter.unusedVariables false
set_option linter.unusedSimpArgs false
set_option linter.unusedSectionVars false
set_option pp.maxSteps 3000
set_option maxHeartbeats 400000
namespace Go.Proofs.YtocfjbopkgmjkaaDoor.W
open Go Go.Sy

def ridP (l : List UInt8) : PV := match idOf l with
  | some x => .tup [pID x, bl true]
  | none => .tup [pID ⟨0, 0, 0⟩, bl false]
theorem rparse_ (s : ByteArray) (hs : s.size ≤ 1000) : Pure Tryd.prog 14 [str s] (ridP s.data.toList) := by
  have hlen : s.data.toList.length = s.size := Array.length_toList
  generalize hL : s.data.toList = L at *
  obtain ⟨pv, hpv⟩ : ∃ pv, pv = ridP L := ⟨_, rfl⟩
  have hcl : closedB pv = true := by rw [hpv]; unfold ridP; split <;> rfl
  rw [← hpv]
  have hnone : numL (splitC 46 L) = none → pv = .tup [pID ⟨0, 0, 0⟩, bl false] := by
    intro h
    rw [hpv]
    unfold ridP idOf
    rw [h]
  have hsome : ∀ ns, numL (splitC 46 L) = some ns → pv = match ns with | [a, b, c] => .tup [pID ⟨a, b, c⟩, bl true] | _ => .tup [pID ⟨0, 0, 0⟩, bl false] := by
    intro ns h
    rw [hpv]
    unfold ridP idOf
    rw [h]
    match ns with
    | [] => rfl
    | [_] => rfl
    | [_, _] => rfl
    | [_, _, _] => rfl
    | _ :: _ :: _ :: _ :: _ => rfl
  have hbyte : ∀ i, i < s.size → (byteAt s (i : Int) = 46 ↔ L[i]? = some 46) := fun i hi => by rw [← hL]; exact byte_is s 46 i hi
  have hex : ∀ i j, s.extract i j = bs ((L.take j).drop i) := fun i j => by rw [← hL]; exact extract_bs s i j
  refine Pure.of_spec (Spec.of_run (fn := Tryd.f14) Tryd.func14 rfl rfl (by kernel_rfl) ?_) (by first | assumption | rfl | (split <;> rfl) | (split <;> split <;> rfl))
  repeat' (first | refine Run.ctl rfl ?_ | (refine Rg.op false tok rfl rfl rfl rfl ?_ ?_ ?_; (first | exact True.intro | omega | (simp; done) | (simp; omega) | decide +kernel); (first | exact trivial | exact .inl rfl | exact .inr rfl)) | (refine Rg.op true tok rfl rfl rfl rfl ?_ ?_ ?_; (first | exact True.intro | omega | (simp; done) | (simp; omega) | decide +kernel); (first | exact trivial | exact .inl rfl | exact .inr rfl)) | refine Rg.nil ?_ | refine Rg.skip rfl rfl rfl ?_ | refine Run.regR ?_ | refine Run.drwR mixed (by kernel_rfl) rfl ?_ | refine Run.condT rfl ?_ | refine Run.condF rfl ?_ | (refine Run.condB rfl (fun hc => ?_) (fun hc => ?_) <;> ((try simp only [cs] at hc))) | ((fail_if_success (refine Rg.lit true rfl ?_)); (fail_if_success (refine Rg.lit false rfl ?_)); refine Rg.guard rfl (fun hc => ?_) (fun hc => ?_) <;> ((try simp only [cs] at hc))))
  refine Run.nilRow 4 3 1 (rows eInt []) rfl ?_
  refine Run.loopRow (ι := Nat × Nat × List Int) (fun x => ([(0, str s), (2, .ptr 0 0 0), (4, .slc 1 0 x.2.2.length), (5, i64 x.2.1), (6, i64 x.1)], [some ⟨23, 3, 1, fun _ => eID ⟨0, 0, 0⟩, false⟩, some ⟨3, 1, x.2.2.length, rows eInt x.2.2, false⟩]))
    (fun x => x.1 ≤ s.size + 1 ∧ x.2.1 ≤ x.1 ∧ x.2.2.length ≤ x.1 ∧ ((x.1 ≤ s.size ∧ 46 ∉ (L.take x.1).drop x.2.1 ∧ ∃ done, numL done = some x.2.2 ∧ splitC 46 L = done ++ splitC 46 (L.drop x.2.1)) ∨ (x.1 = s.size + 1 ∧ numL (splitC 46 L) = some x.2.2)))
    (fun x => s.size + 1 - x.1) (0, 0, []) [0, 3] rfl rfl rfl ⟨rfl, rfl, rfl, rfl, rfl, trivial⟩ rfl ⟨by omega, Nat.le_refl _, by simp, .inl ⟨by omega, by simp, [], rfl, by simp⟩⟩ ?_
  rintro ⟨i, fr, ns⟩ ⟨hi, hfi, hnl, hinv⟩ back backR
  simp only at hi hfi hinv hnl
  have hget : i ≤ s.size → 46 ∉ (L.take i).drop fr ∧ ∃ done, numL done = some ns ∧ splitC 46 L = done ++ splitC 46 (L.drop fr) := by
    intro hi
    rcases hinv with h | ⟨h, _⟩
    · exact h.2
    · omega
  repeat' (first | refine Run.ctl rfl ?_ | (refine Rg.op false tok rfl rfl rfl rfl ?_ ?_ ?_; (first | exact True.intro | omega | (simp; done) | (simp; omega) | decide +kernel); (first | exact trivial | exact .inl rfl | exact .inr rfl)) | (refine Rg.op true tok rfl rfl rfl rfl ?_ ?_ ?_; (first | exact True.intro | omega | (simp; done) | (simp; omega) | decide +kernel); (first | exact trivial | exact .inl rfl | exact .inr rfl)) | refine Rg.nil ?_ | refine Rg.skip rfl rfl rfl ?_ | refine Run.regR ?_ | refine Run.drwR mixed (by kernel_rfl) rfl ?_ | refine Run.condT rfl ?_ | refine Run.condF rfl ?_ | (refine Run.condB rfl (fun hc => ?_) (fun hc => ?_) <;> ((try simp only [cs] at hc))) | ((fail_if_success (refine Rg.lit true rfl ?_)); (fail_if_success (refine Rg.lit false rfl ?_)); refine Rg.guard rfl (fun hc => ?_) (fun hc => ?_) <;> ((try simp only [cs] at hc))))
  · obtain ⟨hno, done, hd, hsp⟩ := hget (by omega)
    have hpe := piece_end hfi (by omega) hno (.inl (by omega))
    rw [hpe, List.append_cons] at hsp
    have hx := int_ (s.extract fr i) (by rw [ByteArray.size_extract]; omega)
    have hnum := numL_snoc done ((L.take i).drop fr)
    rw [hd] at hnum
    unfold numP at hx
    rw [show (s.extract fr i).data.toList = (L.take i).drop fr by rw [hex, bs_toList]] at hx
    cases hn : Lib.numOf ((L.take i).drop fr) with
    | none =>
      rw [hn] at hx hnum
      rw [hnone (by rw [hsp]; exact numL_app_none hnum)]
      repeat' (first | refine Run.ctl rfl ?_ | (refine Rg.op false tok rfl rfl rfl rfl ?_ ?_ ?_; (first | exact True.intro | omega | (simp; done) | (simp; omega) | decide +kernel); (first | exact trivial | exact .inl rfl | exact .inr rfl)) | refine Rg.call (hx) rfl rfl rfl rfl rfl ⟨⟨.refl _, trivial⟩, rfl⟩ ?_ | (refine Rg.op true tok rfl rfl rfl rfl ?_ ?_ ?_; (first | exact True.intro | omega | (simp; done) | (simp; omega) | decide +kernel); (first | exact trivial | exact .inl rfl | exact .inr rfl)) | refine Rg.nil ?_ | refine Rg.skip rfl rfl rfl ?_ | refine Run.regR ?_ | refine Run.drwR mixed (by kernel_rfl) rfl ?_ | refine Run.condT rfl ?_ | refine Run.condF rfl ?_ | (refine Run.condB rfl (fun hc => ?_) (fun hc => ?_) <;> ((try simp only [cs] at hc))) | ((fail_if_success (refine Rg.lit true rfl ?_)); (fail_if_success (refine Rg.lit false rfl ?_)); refine Rg.guard rfl (fun hc => ?_) (fun hc => ?_) <;> ((try simp only [cs] at hc))))
      refine Run.ret tok Tryd.func14 rfl ?_
      exact .refl _
    | some m =>
      rw [hn] at hx hnum
      repeat' (first | refine Run.ctl rfl ?_ | (refine Rg.op false tok rfl rfl rfl rfl ?_ ?_ ?_; (first | exact True.intro | omega | (simp; done) | (simp; omega) | decide +kernel); (first | exact trivial | exact .inl rfl | exact .inr rfl)) | refine Rg.call (hx) rfl rfl rfl rfl rfl ⟨⟨.refl _, trivial⟩, rfl⟩ ?_ | (refine Rg.op true tok rfl rfl rfl rfl ?_ ?_ ?_; (first | exact True.intro | omega | (simp; done) | (simp; omega) | decide +kernel); (first | exact trivial | exact .inl rfl | exact .inr rfl)) | refine Rg.nil ?_ | refine Rg.skip rfl rfl rfl ?_ | refine Run.regR ?_ | refine Run.drwR mixed (by kernel_rfl) rfl ?_ | refine Run.condT rfl ?_ | refine Run.condF rfl ?_ | (refine Run.condB rfl (fun hc => ?_) (fun hc => ?_) <;> ((try simp only [cs] at hc))) | ((fail_if_success (refine Rg.lit true rfl ?_)); (fail_if_success (refine Rg.lit false rfl ?_)); refine Rg.guard rfl (fun hc => ?_) (fun hc => ?_) <;> ((try simp only [cs] at hc))))
      refine backR (i + 1, i + 1, ns ++ [m]) _ _ ⟨by simp only; omega, Nat.le_refl _, by simp; omega, ?_⟩ (by show s.size + 1 - (i + 1) < s.size + 1 - i; omega) rfl ⟨⟨_, rfl, rfl, rfl, rfl, rfl, fun k hk => .ofEq rfl rfl⟩, ⟨_, rfl, rfl, rfl, by simp, rfl, fun k hk => .ofEq ?_ rfl⟩, trivial⟩ ⟨.cl rfl, .ptrN rfl rfl, .slcN rfl rfl (by simp), .cl rfl, .cl rfl, trivial⟩
      · simp only
        by_cases hil : i = L.length
        · rw [if_pos hil, List.append_nil] at hsp
          exact .inr ⟨by omega, by rw [hsp, hnum]⟩
        · rw [if_neg hil] at hsp
          exact .inl ⟨by omega, by rw [List.drop_eq_nil_of_le (by simp; omega)]; simp, _, hnum, hsp⟩
      · exact rows_app (a := fun j => rows eInt ns (0 + j)) (b := fun j => piece 1 [i64 m] (0 + j)) eInt ns [m] rfl (fun k _ => by rw [Nat.zero_add]) (rows_one eInt m rfl) k hk
  · obtain ⟨hno, done, hd, hsp⟩ := hget (by omega)
    have hpe := piece_end hfi (by omega) hno (.inr ((hbyte i (by omega)).1 hc))
    rw [hpe, List.append_cons] at hsp
    have hx := int_ (s.extract fr i) (by rw [ByteArray.size_extract]; omega)
    have hnum := numL_snoc done ((L.take i).drop fr)
    rw [hd] at hnum
    unfold numP at hx
    rw [show (s.extract fr i).data.toList = (L.take i).drop fr by rw [hex, bs_toList]] at hx
    cases hn : Lib.numOf ((L.take i).drop fr) with
    | none =>
      rw [hn] at hx hnum
      rw [hnone (by rw [hsp]; exact numL_app_none hnum)]
      repeat' (first | refine Run.ctl rfl ?_ | (refine Rg.op false tok rfl rfl rfl rfl ?_ ?_ ?_; (first | exact True.intro | omega | (simp; done) | (simp; omega) | decide +kernel); (first | exact trivial | exact .inl rfl | exact .inr rfl)) | refine Rg.call (hx) rfl rfl rfl rfl rfl ⟨⟨.refl _, trivial⟩, rfl⟩ ?_ | (refine Rg.op true tok rfl rfl rfl rfl ?_ ?_ ?_; (first | exact True.intro | omega | (simp; done) | (simp; omega) | decide +kernel); (first | exact trivial | exact .inl rfl | exact .inr rfl)) | refine Rg.nil ?_ | refine Rg.skip rfl rfl rfl ?_ | refine Run.regR ?_ | refine Run.drwR mixed (by kernel_rfl) rfl ?_ | refine Run.condT rfl ?_ | refine Run.condF rfl ?_ | (refine Run.condB rfl (fun hc => ?_) (fun hc => ?_) <;> ((try simp only [cs] at hc))) | ((fail_if_success (refine Rg.lit true rfl ?_)); (fail_if_success (refine Rg.lit false rfl ?_)); refine Rg.guard rfl (fun hc => ?_) (fun hc => ?_) <;> ((try simp only [cs] at hc))))
      refine Run.ret tok Tryd.func14 rfl ?_
      exact .refl _
    | some m =>
      rw [hn] at hx hnum
      repeat' (first | refine Run.ctl rfl ?_ | (refine Rg.op false tok rfl rfl rfl rfl ?_ ?_ ?_; (first | exact True.intro | omega | (simp; done) | (simp; omega) | decide +kernel); (first | exact trivial | exact .inl rfl | exact .inr rfl)) | refine Rg.call (hx) rfl rfl rfl rfl rfl ⟨⟨.refl _, trivial⟩, rfl⟩ ?_ | (refine Rg.op true tok rfl rfl rfl rfl ?_ ?_ ?_; (first | exact True.intro | omega | (simp; done) | (simp; omega) | decide +kernel); (first | exact trivial | exact .inl rfl | exact .inr rfl)) | refine Rg.nil ?_ | refine Rg.skip rfl rfl rfl ?_ | refine Run.regR ?_ | refine Run.drwR mixed (by kernel_rfl) rfl ?_ | refine Run.condT rfl ?_ | refine Run.condF rfl ?_ | (refine Run.condB rfl (fun hc => ?_) (fun hc => ?_) <;> ((try simp only [cs] at hc))) | ((fail_if_success (refine Rg.lit true rfl ?_)); (fail_if_success (refine Rg.lit false rfl ?_)); refine Rg.guard rfl (fun hc => ?_) (fun hc => ?_) <;> ((try simp only [cs] at hc))))
      refine backR (i + 1, i + 1, ns ++ [m]) _ _ ⟨by simp only; omega, Nat.le_refl _, by simp; omega, ?_⟩ (by show s.size + 1 - (i + 1) < s.size + 1 - i; omega) rfl ⟨⟨_, rfl, rfl, rfl, rfl, rfl, fun k hk => .ofEq rfl rfl⟩, ⟨_, rfl, rfl, rfl, by simp, rfl, fun k hk => .ofEq ?_ rfl⟩, trivial⟩ ⟨.cl rfl, .ptrN rfl rfl, .slcN rfl rfl (by simp), .cl rfl, .cl rfl, trivial⟩
      · simp only
        by_cases hil : i = L.length
        · rw [if_pos hil, List.append_nil] at hsp
          exact .inr ⟨by omega, by rw [hsp, hnum]⟩
        · rw [if_neg hil] at hsp
          exact .inl ⟨by omega, by rw [List.drop_eq_nil_of_le (by simp; omega)]; simp, _, hnum, hsp⟩
      · exact rows_app (a := fun j => rows eInt ns (0 + j)) (b := fun j => piece 1 [i64 m] (0 + j)) eInt ns [m] rfl (fun k _ => by rw [Nat.zero_add]) (rows_one eInt m rfl) k hk
  · obtain ⟨hno, done, hd, hsp⟩ := hget (by omega)
    exact back (i + 1, fr, ns) _ _ ⟨by simp only; omega, by simp only; omega, by simp only; omega, .inl ⟨by simp only; omega, piece_more hfi (by omega) hno (fun h => hc ((hbyte i (by omega)).2 h)), done, hd, hsp⟩⟩ (by show s.size + 1 - (i + 1) < s.size + 1 - i; omega) ⟨rfl, rfl, rfl, rfl, rfl, trivial⟩ rfl
  · have hns : numL (splitC 46 L) = some ns := by
      rcases hinv with ⟨h, _⟩ | ⟨_, h⟩
      · omega
      · exact h
    rw [hsome ns hns]
    have e : (match ns with | [a, b, c] => PV.tup [pID ⟨a, b, c⟩, bl true] | _ => .tup [pID ⟨0, 0, 0⟩, bl false]) = .tup [pID ⟨0, 0, 0⟩, bl false] := by
      match ns, hc with
      | [], _ => rfl
      | [_], _ => rfl
      | [_, _], _ => rfl
      | [_, _, _], h => exact absurd rfl h
      | _ :: _ :: _ :: _ :: _, _ => rfl
    rw [e]
    refine Run.ret tok Tryd.func14 rfl ?_
    exact .refl _
  · have hns : numL (splitC 46 L) = some ns := by
      rcases hinv with ⟨h, _⟩ | ⟨_, h⟩
      · omega
      · exact h
    rw [hsome ns hns]
    have hl3 : ns.length = 3 := by omega
    match ns, hl3 with
    | [a, b, c], _ =>
      repeat' (first | refine Run.ctl rfl ?_ | (refine Rg.op false tok rfl rfl rfl rfl ?_ ?_ ?_; (first | exact True.intro | omega | (simp; done) | (simp; omega) | decide +kernel); (first | exact trivial | exact .inl rfl | exact .inr rfl)) | (refine Rg.op true tok rfl rfl rfl rfl ?_ ?_ ?_; (first | exact True.intro | omega | (simp; done) | (simp; omega) | decide +kernel); (first | exact trivial | exact .inl rfl | exact .inr rfl)) | refine Rg.nil ?_ | refine Rg.skip rfl rfl rfl ?_ | refine Run.regR ?_ | refine Run.drwR mixed (by kernel_rfl) rfl ?_ | refine Run.condT rfl ?_ | refine Run.condF rfl ?_ | (refine Run.condB rfl (fun hc => ?_) (fun hc => ?_) <;> ((try simp only [cs] at hc))) | ((fail_if_success (refine Rg.lit true rfl ?_)); (fail_if_success (refine Rg.lit false rfl ?_)); refine Rg.guard rfl (fun hc => ?_) (fun hc => ?_) <;> ((try simp only [cs] at hc))))
      refine Run.ret tok Tryd.func14 rfl ?_
      exact .refl _
end Go.Proofs.YtocfjbopkgmjkaaDoor.W
