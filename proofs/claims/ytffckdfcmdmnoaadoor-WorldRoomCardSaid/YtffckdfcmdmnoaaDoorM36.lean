/- Texts merged: F6. -/
import Derived.Test.YtffckdfcmdmnoaaDoorM34
import Derived.Test.YtffckdfcmdmnoaaDoorM35
section
/- Walks: the law of mailboxes' room (chapter 9). BEGUN. -/
set_option linter.unusedVariables false
set_option linter.unusedSimpArgs false
set_option linter.unusedSectionVars false
set_option pp.maxSteps 40000
set_option maxHeartbeats 4000000
namespace Go.Proofs.YtffckdfcmdmnoaaDoor.W
open Go Go.Sy

theorem set2 {f g : Nat → List PV} (h0 : f 0 = g 0) (h1 : f 1 = g 1) : ∀ k, k < 2 → f k = g k
  | 0, _ => h0
  | 1, _ => h1
  | k + 2, h => absurd h (by omega)
/-- The world of two, when so many more have been sent. -/
def W1 (n m i : Nat) : Wd := { wdTwo n m with actors := [⟨[4], false, 0, i, (((n + 1) / 2 - min ((n + 1) / 2) m : Nat) : Int)⟩, ⟨[], false, 0, 0, ((n / 2 - min (n / 2) m : Nat) : Int)⟩] }
theorem more_len {n m : Nat} (hn : n < 17) (hm : m < 17) (more : Int) (i : Nat) : (wdMore n m more i).mail.length = min ((n + 1) / 2) m + min (n / 2) m + gotMore n m i := by
  show (bootMail n m ++ _).length = _
  rw [List.length_append, (boot_to n hn m hm).2, List.length_map, List.length_range]
theorem more_short {n m : Nat} (hn : n < 17) (hm : m < 17) (more : Int) (i : Nat) (hi : i ≤ 1000) : WdShort (wdMore n m more i) := by
  refine ⟨?_, fun x hx => ?_, by show 2 ≤ 100000; decide, fun l hl => ?_⟩
  · rw [more_len hn hm]
    unfold gotMore
    omega
  · rcases List.mem_append.1 hx with hx | hx
    · obtain ⟨j, _, rfl⟩ := List.mem_map.1 hx
      show 1 ≤ 100000; decide
    · obtain ⟨j, _, rfl⟩ := List.mem_map.1 hx
      show 1 ≤ 100000; decide
  · simp only [wdMore, List.mem_cons, List.not_mem_nil, or_false] at hl
    rcases hl with rfl | rfl
    · show 1 ≤ 100000; decide
    · show 0 ≤ 100000; decide
theorem more_room {n m : Nat} (hn : n < 17) (hm : m < 17) (more : Int) (i q : Nat) (hi : i ≤ 1000) {z : Nat} (hz : z ≤ 1000) : Room z (wdMore n m more i) := by
  have h := more_short hn hm more i hi
  refine ⟨?_, h.2.1, fun l hl => ?_⟩
  · rw [more_len hn hm]
    unfold gotMore
    omega
  · simp only [wdMore, List.mem_cons, List.not_mem_nil, or_false] at hl
    rcases hl with rfl | rfl <;> (dsimp only; omega)
theorem worldRoom_ (n most more : Int) (_ : R64 n) (_ : R64 most) (_ : R64 more) : Pure Tryd.prog 6 [i64 n, i64 most, i64 more] (bl true) := by
  by_cases hg : n < 0 ∨ 16 < n ∨ most < 0 ∨ 16 < most ∨ more < 0 ∨ 20 < more
  · refine Pure.of_spec (Spec.of_run (fn := Tryd.f6) Tryd.func6 rfl rfl (by kernel_rfl) ?_) (by first | assumption | rfl | (split <;> rfl) | (split <;> split <;> rfl))
    repeat' (first | refine Run.ctl rfl ?_ | (refine Rg.op false tok rfl rfl rfl rfl ?_ ?_ ?_; (first | exact ⟨⟩ | omega | focus (simp <;> omega) | decide +kernel); (first | exact trivial | exact rfl | exact .inl rfl | exact .inr rfl)) | refine Rg.call (awake9_) rfl rfl rfl rfl rfl ⟨trivial, rfl⟩ ?_ | (refine Rg.op true tok rfl rfl rfl rfl ?_ ?_ ?_; (first | exact ⟨⟩ | omega | focus (simp <;> omega) | decide +kernel); (first | exact trivial | exact rfl | exact .inl rfl | exact .inr rfl)) | refine Rg.nil ?_ | refine Rg.skip rfl rfl rfl ?_ | refine Run.regR ?_ | refine Run.condT rfl ?_ | refine Run.condF rfl ?_ | ((first | refine Run.condB rfl (fun hc => ?_) (fun hc => ?_) | ((fail_if_success (refine Rg.lit true rfl ?_)); (fail_if_success (refine Rg.lit false rfl ?_)); refine Rg.guard rfl (fun hc => ?_) (fun hc => ?_))) <;> ((try simp only [cs] at hc); (first | ((exfalso; omega); done) | skip))))
    all_goals ((first | refine Run.ret tok Tryd.func6 rfl ?_ | refine Run.fall tok Tryd.func6 rfl ?_); exact .refl _)
  obtain ⟨n, rfl⟩ : ∃ k : Nat, n = k := ⟨n.toNat, by omega⟩
  obtain ⟨m, rfl⟩ : ∃ k : Nat, most = k := ⟨most.toNat, by omega⟩
  obtain ⟨q, rfl⟩ : ∃ k : Nat, more = k := ⟨more.toNat, by omega⟩
  have hn : n < 17 := by omega
  have hm : m < 17 := by omega
  have hp := pgTwo_ n m (by omega)
  have hso := startO_ (pgTwo n m) (flow_two n hn m hm)
  rw [start_two n hn m hm] at hso
  have hbl := (boot_to n hn m hm).2
  have hml : (wdTwo n m).mail.length = min ((n + 1) / 2) m + min (n / 2) m := hbl
  have ha2 : (wdTwo n m).actors.length = 2 := rfl
  have ho0 : ((wdTwo n m).actors.getD (0 + 0) default).over = (((n + 1) / 2 - min ((n + 1) / 2) m : Nat) : Int) := rfl
  have ho1 : ((wdTwo n m).actors.getD (0 + 1) default).over = ((n / 2 - min (n / 2) m : Nat) : Int) := rfl
  have hq2 : ∀ k : Nat, k ≤ 17 → IntKind.wrap .i64 ((k : Int).tdiv 2) = ((k / 2 : Nat) : Int) := fun k hk => wrap_id (n := ((k / 2 : Nat) : Int)) (by unfold R64; omega)
  have ha : lmin (IntKind.wrap .i64 (((n : Int) + 1).tdiv 2)) [(m : Int)] = ((min ((n + 1) / 2) m : Nat) : Int) := by
    have h := hq2 (n + 1) (by omega)
    rw [show (((n + 1 : Nat) : Int)) = (n : Int) + 1 from rfl] at h
    rw [h]
    simp only [lmin]
    omega
  have hb : lmin (IntKind.wrap .i64 ((n : Int).tdiv 2)) [(m : Int)] = ((min (n / 2) m : Nat) : Int) := by
    rw [hq2 n (by omega)]
    simp only [lmin]
    omega
  have hq3 := hq2 n (by omega)
  have hq4 : IntKind.wrap .i64 (((n : Int) + 1).tdiv 2) = (((n + 1) / 2 : Nat) : Int) := hq2 (n + 1) (by omega)
  refine Pure.of_spec (Spec.of_run (fn := Tryd.f6) Tryd.func6 rfl rfl (by kernel_rfl) ?_) (by first | assumption | rfl | (split <;> rfl) | (split <;> split <;> rfl))
  repeat' (first | refine Run.ctl rfl ?_ | (refine Rg.op false tok rfl rfl rfl rfl ?_ ?_ ?_; (first | exact ⟨⟩ | omega | focus (simp <;> omega) | decide +kernel); (first | exact trivial | exact rfl | exact .inl rfl | exact .inr rfl)) | refine Rg.call (hp) rfl rfl rfl rfl rfl ⟨⟨.refl _, .refl _, trivial⟩, rfl⟩ ?_ | (refine Rg.op true tok rfl rfl rfl rfl ?_ ?_ ?_; (first | exact ⟨⟩ | omega | focus (simp <;> omega) | decide +kernel); (first | exact trivial | exact rfl | exact .inl rfl | exact .inr rfl)) | refine Rg.nil ?_ | refine Rg.skip rfl rfl rfl ?_ | refine Run.regR ?_ | refine Run.condT rfl ?_ | refine Run.condF rfl ?_ | ((first | refine Run.condB rfl (fun hc => ?_) (fun hc => ?_) | ((fail_if_success (refine Rg.lit true rfl ?_)); (fail_if_success (refine Rg.lit false rfl ?_)); refine Rg.guard rfl (fun hc => ?_) (fun hc => ?_))) <;> ((try simp only [cs] at hc); (first | ((exfalso; omega); done) | skip))))
  refine Rg.own hso [] rfl rfl rfl rfl rfl rfl trivial ⟨.cl rfl, trivial⟩ rfl rfl trivial ?_
  repeat' (first | refine Run.ctl rfl ?_ | (refine Rg.op false tok rfl rfl rfl rfl ?_ ?_ ?_; (first | exact ⟨⟩ | omega | focus (simp <;> omega) | decide +kernel); (first | exact trivial | exact rfl | exact .inl rfl | exact .inr rfl)) | (refine Rg.op true tok rfl rfl rfl rfl ?_ ?_ ?_; (first | exact ⟨⟩ | omega | focus (simp <;> omega) | decide +kernel); (first | exact trivial | exact rfl | exact .inl rfl | exact .inr rfl)) | refine Rg.nil ?_ | refine Rg.skip rfl rfl rfl ?_ | refine Run.regR ?_ | refine Run.condT rfl ?_ | refine Run.condF rfl ?_ | ((first | refine Run.condB rfl (fun hc => ?_) (fun hc => ?_) | ((fail_if_success (refine Rg.lit true rfl ?_)); (fail_if_success (refine Rg.lit false rfl ?_)); refine Rg.guard rfl (fun hc => ?_) (fun hc => ?_))) <;> ((try simp only [cs] at hc); (first | ((exfalso; omega); done) | skip))))
  refine Run.nilRow 12 47 3 (rows eNt []) rfl ?_
  refine Run.renumL [0, 4, 3, 5] [pbox (pgTwo n m), wbox 2 (wdTwo n m), rowL (wdTwo n m).actors, some ⟨47, 3, 0, rows eNt ((notesMore q).take 0), false, false⟩] [(0, i64 n), (1, i64 m), (2, i64 q), (7, .ptr 0 0 0), (8, .ptr 1 0 0), (10, i64 (lmin (IntKind.wrap .i64 (((n : Int) + 1).tdiv 2)) [(m : Int)])), (11, i64 (lmin (IntKind.wrap .i64 ((n : Int).tdiv 2)) [(m : Int)])), (12, .slc 3 0 0), (13, i64 (0 : Nat))] rfl rfl rfl rfl ⟨⟨_, rfl, rfl, rfl, rfl, rfl, fun k hk => .ofEq rfl rfl⟩, ⟨_, rfl, rfl, rfl, rfl, rfl, fun k hk => ⟨.slcN rfl rfl rfl, .cl rfl, .cl rfl, .cl rfl, .cl rfl, .cl rfl, trivial⟩⟩, ⟨_, rfl, rfl, rfl, rfl, rfl, fun k hk => .ofEq rfl rfl⟩, ⟨_, rfl, rfl, rfl, rfl, rfl, fun k hk => absurd hk (Nat.not_lt_zero k)⟩, trivial⟩ ⟨.cl rfl, .cl rfl, .cl rfl, .ptrN rfl rfl, .ptrN rfl rfl, .cl rfl, .cl rfl, .slcN rfl rfl rfl, .cl rfl, trivial⟩ ?_
  have hnq : (notesMore q).length = q := by simp [notesMore]
  refine Run.loopN (ι := Nat) (fun i => ([(0, i64 n), (1, i64 m), (2, i64 q), (7, .ptr 0 0 0), (8, .ptr 1 0 0), (10, i64 (lmin (IntKind.wrap .i64 (((n : Int) + 1).tdiv 2)) [(m : Int)])), (11, i64 (lmin (IntKind.wrap .i64 ((n : Int).tdiv 2)) [(m : Int)])), (12, .slc 3 0 i), (13, i64 i)], [pbox (pgTwo n m), wbox 2 (wdTwo n m), rowL (wdTwo n m).actors, some ⟨47, 3, i, rows eNt ((notesMore q).take i), false, false⟩])) (fun i => i ≤ q) (fun i => q - i) 0 ⟨rfl, rfl, rfl, rfl, rfl, rfl, rfl, rfl, rfl, trivial⟩ rfl (by omega) ?_
  rintro i hi back backR
  dsimp only
  by_cases hlt : i < q
  · repeat' (first | refine Rg.any rfl rfl rfl (fun _ hq => G_buildZ tok rfl rfl rfl rfl rfl rfl rfl rfl rfl rfl rfl hq) (by first | exact trivial | exact rfl | exact .inl rfl | exact .inr rfl | focus ((repeat (first | exact trivial | (refine ⟨Stay.op false tok rfl rfl rfl ?_ (fun t ht => by cases ht; rfl), ?_⟩; (first | exact ⟨⟩ | omega | focus (simp <;> omega) | decide +kernel)) | (refine ⟨Stay.op true tok rfl rfl rfl ?_ (fun t ht => by cases ht; rfl), ?_⟩; (first | exact ⟨⟩ | omega | focus (simp <;> omega) | decide +kernel)) | refine ⟨Stay.skip rfl rfl (fun t ht => by cases ht; rfl), ?_⟩)); done)) ?_ | refine Run.ctl rfl ?_ | (refine Rg.op false tok rfl rfl rfl rfl ?_ ?_ ?_; (first | exact ⟨⟩ | omega | focus (simp <;> omega) | decide +kernel); (first | exact trivial | exact rfl | exact .inl rfl | exact .inr rfl)) | (refine Rg.op true tok rfl rfl rfl rfl ?_ ?_ ?_; (first | exact ⟨⟩ | omega | focus (simp <;> omega) | decide +kernel); (first | exact trivial | exact rfl | exact .inl rfl | exact .inr rfl)) | refine Rg.nil ?_ | refine Rg.skip rfl rfl rfl ?_ | refine Run.regR ?_ | refine Run.condT rfl ?_ | refine Run.condF rfl ?_ | ((first | refine Run.condB rfl (fun hc => ?_) (fun hc => ?_) | ((fail_if_success (refine Rg.lit true rfl ?_)); (fail_if_success (refine Rg.lit false rfl ?_)); refine Rg.guard rfl (fun hc => ?_) (fun hc => ?_))) <;> ((try simp only [cs] at hc); (first | ((exfalso; omega); done) | skip))))
    refine Run.weak (i := 4) ⟨47, 3, i + 1, rows eNt ((notesMore q).take (i + 1)), false, false⟩ rfl rfl rfl (Nat.le_refl _) rfl (fun k hk => by
      dsimp only
      refine WkL_more eNt (notesMore q) (by rw [hnq]; exact hlt) (fun _ => rfl) ?_ k hk
      rw [show (notesMore q).getD i default = noteMore i by simp [notesMore, hlt]]
      refine (show WkL _ [_, _, _] [_, _, _] from ⟨.refl _, .refl _, .cv ?_, trivial⟩)
      (repeat (first | exact trivial | exact .refl _ | exact .rowNil | refine Cv.slcL rfl rfl rfl rfl rfl (fun _ => rfl) ?_ | refine Cv.fzL rfl (fun _ => rfl) ?_ | refine Cv.agg' ?_ | refine ⟨?_, ?_⟩))) ?_
    exact backR [0, 1, 2, 4] (i + 1) _ _ (by omega) (by omega) rfl ⟨⟨_, rfl, rfl, rfl, rfl, rfl, fun k hk => .ofEq rfl rfl⟩, ⟨_, rfl, rfl, rfl, rfl, rfl, fun k hk => ⟨.slcN rfl rfl rfl, .cl rfl, .cl rfl, .cl rfl, .cl rfl, .cl rfl, trivial⟩⟩, ⟨_, rfl, rfl, rfl, rfl, rfl, fun k hk => .ofEq rfl rfl⟩, ⟨_, rfl, rfl, rfl, rfl, rfl, fun k hk => .ofEq rfl rfl⟩, trivial⟩ ⟨.cl rfl, .cl rfl, .cl rfl, .ptrN rfl rfl, .ptrN rfl rfl, .cl rfl, .cl rfl, .slcN rfl rfl rfl, .cl rfl, trivial⟩
  · obtain rfl : i = q := by omega
    have htk : (notesMore i).take i = notesMore i := List.take_of_length_le (by rw [hnq]; exact Nat.le_refl _)
    rw [htk]
    have hi20 : i ≤ 20 := by omega
    have hsd := send_ (pgTwo n m) (wdMore n m i 0) 0 (notesMore i) (more_short hn hm i 0 (by omega)) (more_room hn hm i 0 i (by omega) (by rw [hnq]; omega)) (fun x hx => by
      obtain ⟨j, _, rfl⟩ := List.mem_map.1 hx
      show 1 ≤ 100000
      decide) (fun _ _ => by
      show -9223372036854775808 ≤ (i : Int) - _ ∧ (i : Int) ≤ _
      rw [hnq]; omega)
    have e1 : sendIn (pgTwo n m) (wdMore n m i 0) 0 (notesMore i) = wdMore n m i i := by
      unfold sendIn
      rw [if_pos ⟨by decide, by show (0 : Int) < 2; decide⟩]
      exact more_all hn hm i
    rw [e1, wdMore_0] at hsd
    have hck := worldCheck_ (pgTwo n m) (wdMore n m i i) (more_short hn hm i i (by omega)).1 (more_short hn hm i i (by omega)).2.2.1
    rw [more_ok hn hm i hi20] at hck
    rw [show ({ wdTwo n m with actors := [⟨[4], false, 0, (i : Int), (((n + 1) / 2 - min ((n + 1) / 2) m : Nat) : Int)⟩, ⟨[], false, 0, 0, ((n / 2 - min (n / 2) m : Nat) : Int)⟩] } : Wd) = W1 n m i from rfl] at hsd
    repeat' ((fail_if_success (refine Run.atReg 16 rfl ?_)); first | refine Run.ctl rfl ?_ | (refine Rg.op false tok rfl rfl rfl rfl ?_ ?_ ?_; (first | exact ⟨⟩ | omega | focus (simp <;> omega) | decide +kernel); (first | exact trivial | exact rfl | exact .inl rfl | exact .inr rfl)) | (refine Rg.op true tok rfl rfl rfl rfl ?_ ?_ ?_; (first | exact ⟨⟩ | omega | focus (simp <;> omega) | decide +kernel); (first | exact trivial | exact rfl | exact .inl rfl | exact .inr rfl)) | refine Rg.nil ?_ | refine Rg.skip rfl rfl rfl ?_ | refine Run.regR ?_ | refine Run.condT rfl ?_ | refine Run.condF rfl ?_ | ((first | refine Run.condB rfl (fun hc => ?_) (fun hc => ?_) | ((fail_if_success (refine Rg.lit true rfl ?_)); (fail_if_success (refine Rg.lit false rfl ?_)); refine Rg.guard rfl (fun hc => ?_) (fun hc => ?_))) <;> ((try simp only [cs] at hc); (first | ((exfalso; omega); done) | skip))))
    refine Run.renumL [0, 1, 2, 3] [pbox (pgTwo n m), wbox 2 (W1 n m i), rowL (W1 n m i).actors, some ⟨47, 3, i, rows eNt (notesMore i), false, false⟩] [(0, i64 n), (1, i64 m), (2, i64 i), (7, .ptr 0 0 0), (8, .ptr 1 0 0), (10, i64 (lmin (IntKind.wrap .i64 (((n : Int) + 1).tdiv 2)) [(m : Int)])), (11, i64 (lmin (IntKind.wrap .i64 ((n : Int).tdiv 2)) [(m : Int)])), (12, .slc 3 0 i)] rfl rfl rfl rfl ⟨⟨_, rfl, rfl, rfl, rfl, rfl, fun k hk => .ofEq rfl rfl⟩, ⟨_, rfl, rfl, rfl, rfl, rfl, fun k hk => ⟨.slcN rfl rfl rfl, .cl rfl, .cl rfl, .cl rfl, .cl rfl, .cl rfl, trivial⟩⟩, ⟨_, rfl, rfl, rfl, rfl, rfl, fun k hk => .ofEq (set2 (by rfl) (by rfl) k hk) rfl⟩, ⟨_, rfl, rfl, rfl, rfl, rfl, fun k hk => .ofEq rfl rfl⟩, trivial⟩ ⟨.cl rfl, .cl rfl, .cl rfl, .ptrN rfl rfl, .ptrN rfl rfl, .cl rfl, .cl rfl, .slcN rfl rfl rfl, trivial⟩ ?_
    refine Run.freeze (i := 2) rfl rfl ?_
    refine Run.freeze (i := 3) rfl rfl ?_
    refine Run.weak (i := 1) ⟨34, 6, 1, fun _ => eWd (W1 n m i), false, false⟩ rfl rfl rfl (Nat.le_refl _) rfl (fun k hk => ⟨.cv (.row rfl rfl rfl (by dsimp only; omega) rfl (fun _ => rfl) (fun j hj => by rw [Nat.zero_add])), .refl _, .refl _, .refl _, .refl _, .refl _, trivial⟩) ?_
    refine Run.weakE [(0, i64 n), (1, i64 m), (2, i64 i), (7, .ptr 0 0 0), (8, .ptr 1 0 0), (10, i64 (min ((n + 1) / 2) m : Nat)), (11, i64 (min (n / 2) m : Nat)), (12, sl 3 eNt (notesMore i))] (by simp only [List.mem_cons, List.not_mem_nil, or_false]; rintro x (rfl | rfl | rfl | rfl | rfl | rfl | rfl | rfl) <;> first | exact .refl _ | exact .cv (.ofInt ha) | exact .cv (.ofInt hb) | exact .cv (.row rfl rfl rfl (by dsimp only; omega) hnq.symm (fun _ => rfl) (fun j hj => by dsimp only; rw [Nat.zero_add]))) ?_
    have hv2 : (wdMore n m i i).actors.length = 2 := rfl
    have hw2 : (W1 n m i).actors.length = 2 := rfl
    have hvl := more_len hn hm (i : Int) i
    have hgm : gotMore n m i = min (min (n / 2) m + i) m - min (n / 2) m := rfl
    have hgi : gotMore n m i ≤ i := by unfold gotMore; omega
    have ho2 : ((wdMore n m i i).actors.getD (nat_lit 0) default).over = (((n + 1) / 2 - min ((n + 1) / 2) m : Nat) : Int) := rfl
    have ho2' : ((wdMore n m i i).actors.getD 0 default).over = (((n + 1) / 2 - min ((n + 1) / 2) m : Nat) : Int) := rfl
    have ho3 : ((wdMore n m i i).actors.getD (nat_lit 1) default).over = ((n / 2 - min (n / 2) m + (i - gotMore n m i) : Nat) : Int) := rfl
    have ho3' : ((wdMore n m i i).actors.getD 1 default).over = ((n / 2 - min (n / 2) m + (i - gotMore n m i) : Nat) : Int) := rfl
    have ho4 : ((W1 n m i).actors.getD (nat_lit 0) default).over = (((n + 1) / 2 - min ((n + 1) / 2) m : Nat) : Int) := rfl
    have ho4' : ((W1 n m i).actors.getD 0 default).over = (((n + 1) / 2 - min ((n + 1) / 2) m : Nat) : Int) := rfl
    have ho5 : ((W1 n m i).actors.getD (nat_lit 1) default).over = ((n / 2 - min (n / 2) m : Nat) : Int) := rfl
    have ho5' : ((W1 n m i).actors.getD 1 default).over = ((n / 2 - min (n / 2) m : Nat) : Int) := rfl
    have hcc : lmin (((min (n / 2) m : Nat) : Int) + (i : Int)) [(m : Int)] = ((min (min (n / 2) m + i) m : Nat) : Int) := by
      simp only [lmin]
      omega
    repeat' ((fail_if_success (refine Run.atReg 18 rfl ?_)); first | refine Run.ctl rfl ?_ | (refine Rg.op false tok rfl rfl rfl rfl ?_ ?_ ?_; (first | exact ⟨⟩ | omega | focus (simp <;> omega) | decide +kernel); (first | exact trivial | exact rfl | exact .inl rfl | exact .inr rfl)) | refine Rg.call (hsd) rfl rfl rfl rfl rfl ⟨⟨.refl _, .refl _, .refl _, .refl _, trivial⟩, rfl⟩ ?_ | (refine Rg.op true tok rfl rfl rfl rfl ?_ ?_ ?_; (first | exact ⟨⟩ | omega | focus (simp <;> omega) | decide +kernel); (first | exact trivial | exact rfl | exact .inl rfl | exact .inr rfl)) | refine Rg.nil ?_ | refine Rg.skip rfl rfl rfl ?_ | refine Run.regR ?_ | refine Run.condT rfl ?_ | refine Run.condF rfl ?_ | ((first | refine Run.condB rfl (fun hc => ?_) (fun hc => ?_) | ((fail_if_success (refine Rg.lit true rfl ?_)); (fail_if_success (refine Rg.lit false rfl ?_)); refine Rg.guard rfl (fun hc => ?_) (fun hc => ?_))) <;> ((try simp only [cs] at hc); (first | ((exfalso; omega); done) | skip))))
    refine Run.renumL [0, 1, 4] [pbox (pgTwo n m), some ⟨34, 6, 1, fun _ => eWd (W1 n m i), false, false⟩, some ⟨34, 6, 1, fun _ => eWd (wdMore n m i i), false, false⟩] [(0, i64 n), (1, i64 m), (2, i64 i), (7, .ptr 0 0 0), (8, .ptr 1 0 0), (10, i64 (min ((n + 1) / 2) m : Nat)), (11, i64 (min (n / 2) m : Nat)), (14, .ptr 2 0 0), (15, i64 (lmin (((min (n / 2) m : Nat) : Int) + (i : Int)) [(m : Int)]))] rfl rfl rfl rfl ⟨⟨_, rfl, rfl, rfl, rfl, rfl, fun k hk => .ofEq rfl rfl⟩, ⟨_, rfl, rfl, rfl, rfl, rfl, fun k hk => .ofEq rfl rfl⟩, ⟨_, rfl, rfl, rfl, rfl, rfl, fun k hk => .ofEq rfl rfl⟩, trivial⟩ ⟨.cl rfl, .cl rfl, .cl rfl, .ptrN rfl rfl, .ptrN rfl rfl, .cl rfl, .cl rfl, .ptrN rfl rfl, .cl rfl, trivial⟩ ?_
    refine Run.weakE [(0, i64 n), (1, i64 m), (2, i64 i), (7, .ptr 0 0 0), (8, .ptr 1 0 0), (10, i64 (min ((n + 1) / 2) m : Nat)), (11, i64 (min (n / 2) m : Nat)), (14, .ptr 2 0 0), (15, i64 (min (min (n / 2) m + i) m : Nat))] (by simp only [List.mem_cons, List.not_mem_nil, or_false]; rintro x (rfl | rfl | rfl | rfl | rfl | rfl | rfl | rfl | rfl) <;> first | exact .refl _ | exact .cv (.ofInt hcc)) ?_
    repeat' (first | refine Run.ctl rfl ?_ | (refine Rg.op false tok rfl rfl rfl rfl ?_ ?_ ?_; (first | exact ⟨⟩ | omega | focus (simp <;> omega) | decide +kernel); (first | exact trivial | exact rfl | exact .inl rfl | exact .inr rfl | focus ((repeat (first | exact trivial | (refine ⟨Stay.op false tok rfl rfl rfl ?_ (fun t ht => by cases ht; rfl), ?_⟩; (first | exact ⟨⟩ | omega | focus (simp <;> omega) | decide +kernel)) | (refine ⟨Stay.op true tok rfl rfl rfl ?_ (fun t ht => by cases ht; rfl), ?_⟩; (first | exact ⟨⟩ | omega | focus (simp <;> omega) | decide +kernel)) | refine ⟨Stay.skip rfl rfl (fun t ht => by cases ht; rfl), ?_⟩)); done))) | (refine Rg.op true tok rfl rfl rfl rfl ?_ ?_ ?_; (first | exact ⟨⟩ | omega | focus (simp <;> omega) | decide +kernel); (first | exact trivial | exact rfl | exact .inl rfl | exact .inr rfl | focus ((repeat (first | exact trivial | (refine ⟨Stay.op false tok rfl rfl rfl ?_ (fun t ht => by cases ht; rfl), ?_⟩; (first | exact ⟨⟩ | omega | focus (simp <;> omega) | decide +kernel)) | (refine ⟨Stay.op true tok rfl rfl rfl ?_ (fun t ht => by cases ht; rfl), ?_⟩; (first | exact ⟨⟩ | omega | focus (simp <;> omega) | decide +kernel)) | refine ⟨Stay.skip rfl rfl (fun t ht => by cases ht; rfl), ?_⟩)); done))) | refine Rg.nil ?_ | refine Rg.skip rfl rfl rfl ?_ | refine Run.regR ?_ | refine Run.drwR mixed (by kernel_rfl) rfl ?_ | refine Run.condT rfl ?_ | refine Run.condF rfl ?_ | ((first | refine Run.condB rfl (fun hc => ?_) (fun hc => ?_) | ((fail_if_success (refine Rg.lit true rfl ?_)); (fail_if_success (refine Rg.lit false rfl ?_)); refine Rg.guard rfl (fun hc => ?_) (fun hc => ?_))) <;> ((try simp only [cs] at hc); (first | ((exfalso; omega); done) | skip))))
    refine Run.loopN (ι := Nat) (fun j => ([(0, i64 n), (1, i64 m), (2, i64 i), (7, .ptr 0 0 0), (8, .ptr 1 0 0), (10, i64 (min ((n + 1) / 2) m : Nat)), (11, i64 (min (n / 2) m : Nat)), (14, .ptr 2 0 0), (15, i64 (min (min (n / 2) m + i) m : Nat)), (16, i64 j)], [pbox (pgTwo n m), some ⟨34, 6, 1, fun _ => eWd (W1 n m i), false, false⟩, some ⟨34, 6, 1, fun _ => eWd (wdMore n m i i), false, false⟩])) (fun j => j ≤ gotMore n m i) (fun j => gotMore n m i - j) 0 ⟨rfl, rfl, rfl, rfl, rfl, rfl, rfl, rfl, rfl, rfl, trivial⟩ rfl (by omega) ?_
    rintro j hj back backR
    dsimp only
    by_cases hjl : j < gotMore n m i
    · have hk1 : (((min ((n + 1) / 2) m : Nat) : Int) + ((min (n / 2) m : Nat) : Int) + (j : Int)) = ((min ((n + 1) / 2) m + min (n / 2) m + j : Nat) : Int) := rfl
      have hmj : (wdMore n m i i).mail.getD (min ((n + 1) / 2) m + min (n / 2) m + j) default = moreMsg j := by
        show (bootMail n m ++ _).getD _ default = _
        rw [List.getD_eq_getElem?_getD, List.getElem?_append_right (by rw [(boot_to n hn m hm).2]; omega), (boot_to n hn m hm).2]
        simp [hjl]
      have hlt2 : min ((n + 1) / 2) m + min (n / 2) m + j < (wdMore n m i i).mail.length := by omega
      repeat' (first | refine Rg.any rfl rfl rfl (fun _ hq => G_ixFK tok (min ((n + 1) / 2) m + min (n / 2) m + j) rfl rfl rfl rfl rfl hk1 hlt2 hq) (by first | exact trivial | exact rfl | exact .inl rfl | exact .inr rfl | focus ((repeat (first | exact trivial | (refine ⟨Stay.op false tok rfl rfl rfl ?_ (fun t ht => by cases ht; rfl), ?_⟩; (first | exact ⟨⟩ | omega | focus (simp <;> omega) | decide +kernel)) | (refine ⟨Stay.op true tok rfl rfl rfl ?_ (fun t ht => by cases ht; rfl), ?_⟩; (first | exact ⟨⟩ | omega | focus (simp <;> omega) | decide +kernel)) | refine ⟨Stay.skip rfl rfl (fun t ht => by cases ht; rfl), ?_⟩)); done)) ?_ | refine Run.ctl rfl ?_ | (refine Rg.op false tok rfl rfl rfl rfl ?_ ?_ ?_; (first | exact ⟨⟩ | omega | focus (simp <;> omega) | decide +kernel); (first | exact trivial | exact rfl | exact .inl rfl | exact .inr rfl)) | (refine Rg.op true tok rfl rfl rfl rfl ?_ ?_ ?_; (first | exact ⟨⟩ | omega | focus (simp <;> omega) | decide +kernel); (first | exact trivial | exact rfl | exact .inl rfl | exact .inr rfl)) | refine Rg.nil ?_ | refine Rg.skip rfl rfl rfl ?_ | refine Run.regR ?_ | refine Run.condT rfl ?_ | refine Run.condF rfl ?_ | ((first | refine Run.condB rfl (fun hc => ?_) (fun hc => ?_) | ((fail_if_success (refine Rg.lit true rfl ?_)); (fail_if_success (refine Rg.lit false rfl ?_)); refine Rg.guard rfl (fun hc => ?_) (fun hc => ?_))) <;> ((try simp only [cs] at hc); (first | ((exfalso; omega); done) | ((simp only [hmj] at hc; simp [moreMsg] at hc); done) | skip))))
      exact back (j + 1) _ _ (by omega) (by omega) ⟨rfl, rfl, rfl, rfl, rfl, rfl, rfl, rfl, rfl, rfl, trivial⟩ rfl
    · obtain rfl : j = gotMore n m i := by omega
      repeat' (first | refine Run.ctl rfl ?_ | (refine Rg.op false tok rfl rfl rfl rfl ?_ ?_ ?_; (first | exact ⟨⟩ | omega | focus (simp <;> omega) | decide +kernel); (first | exact trivial | exact rfl | exact .inl rfl | exact .inr rfl)) | refine Rg.call (hck) rfl rfl rfl rfl rfl ⟨⟨.refl _, .refl _, trivial⟩, rfl⟩ ?_ | refine Rg.call (awake9_) rfl rfl rfl rfl rfl ⟨trivial, rfl⟩ ?_ | (refine Rg.op true tok rfl rfl rfl rfl ?_ ?_ ?_; (first | exact ⟨⟩ | omega | focus (simp <;> omega) | decide +kernel); (first | exact trivial | exact rfl | exact .inl rfl | exact .inr rfl)) | refine Rg.nil ?_ | refine Rg.skip rfl rfl rfl ?_ | refine Run.regR ?_ | refine Run.condT rfl ?_ | refine Run.condF rfl ?_ | ((first | refine Run.condB rfl (fun hc => ?_) (fun hc => ?_) | ((fail_if_success (refine Rg.lit true rfl ?_)); (fail_if_success (refine Rg.lit false rfl ?_)); refine Rg.guard rfl (fun hc => ?_) (fun hc => ?_))) <;> ((try simp only [cs] at hc); (first | ((exfalso; omega); done) | skip))))
      (first | refine Run.ret tok Tryd.func6 rfl ?_ | refine Run.fall tok Tryd.func6 rfl ?_)
      exact .refl _
end Go.Proofs.YtffckdfcmdmnoaaDoor.W
end
