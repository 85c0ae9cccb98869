/- Texts merged: F1. -/
import Derived.Test.YtffckdfcmdmnoaaDoorM25
import Derived.Test.YtffckdfcmdmnoaaDoorM26
import Derived.Test.YtffckdfcmdmnoaaDoorM27
section
/- Walks: worlds' copies, and rows of numbers said (chapter 9). -/
set_option linter.unusedVariables false
set_option linter.unusedSimpArgs false
set_option linter.unusedSectionVars false
set_option pp.maxSteps 40000
set_option maxHeartbeats 4000000
namespace Go.Proofs.YtffckdfcmdmnoaaDoor.W
open Go Go.Sy

theorem copyLocal_ (l : Lcl) (hl : l.regs.length ≤ 100000) : Pure Tryd.prog 22 [pLcl l] (pLcl l) := by
  refine Pure.of_spec (Spec.of_run (fn := Tryd.f22) Tryd.func22 rfl rfl (by kernel_rfl) ?_) (by first | assumption | rfl | (split <;> rfl) | (split <;> split <;> rfl))
  repeat' (first | refine Run.ctl rfl ?_ | (refine Rg.op false tok rfl rfl rfl rfl ?_ ?_ ?_; (first | exact ⟨⟩ | omega | focus (simp <;> omega) | decide +kernel); (first | exact trivial | exact rfl | exact .inl rfl | exact .inr rfl)) | refine Rg.call (clone_ l.regs hl) rfl rfl rfl rfl rfl ⟨⟨.refl _, trivial⟩, rfl⟩ ?_ | (refine Rg.op true tok rfl rfl rfl rfl ?_ ?_ ?_; (first | exact ⟨⟩ | omega | focus (simp <;> omega) | decide +kernel); (first | exact trivial | exact rfl | exact .inl rfl | exact .inr rfl)) | refine Rg.nil ?_ | refine Rg.skip rfl rfl rfl ?_ | refine Run.regR ?_ | refine Run.condT rfl ?_ | refine Run.condF rfl ?_ | ((first | refine Run.condB rfl (fun hc => ?_) (fun hc => ?_) | ((fail_if_success (refine Rg.lit true rfl ?_)); (fail_if_success (refine Rg.lit false rfl ?_)); refine Rg.guard rfl (fun hc => ?_) (fun hc => ?_))) <;> ((try simp only [cs] at hc))))
  (first | refine Run.ret tok Tryd.func22 rfl ?_ | refine Run.fall tok Tryd.func22 rfl ?_)
  exact .refl _
theorem mailCopyP_ (l : List Msg) (hl : l.length ≤ 100000) (ha : ∀ m ∈ l, m.note.args.length ≤ 100000) : Pure Tryd.prog 21 [sl 6 eMsg l] (sl 6 eMsg l) :=
  (mailCopy_ l hl ha).pure (.row rfl rfl rfl (by simp) rfl (fun _ => rfl) (fun j hj => by rw [Nat.zero_add])) rfl
def WdShort (w : Wd) : Prop := w.mail.length ≤ 100000 ∧ (∀ m ∈ w.mail, m.note.args.length ≤ 100000) ∧ w.actors.length ≤ 100000 ∧ ∀ l ∈ w.actors, l.regs.length ≤ 100000
theorem worldCopyO_ (w : Wd) (hw : WdShort w) : Own Tryd.prog 11 [pWd w] [] (.agg (eWdR 1 w)) [wbox 1 w, rowL w.actors] := by
  obtain ⟨h1, h2, h3, h4⟩ := hw
  have hmc := mailCopyP_ w.mail h1 h2
  refine Spec.of_run (fn := Tryd.f11) Tryd.func11 rfl rfl (by kernel_rfl) ?_
  repeat' (first | (refine Run.drwP [6, 7] [0, 1, 2, 3, 4, 5, 6, 7] [none, none, none, none, none, none, some [5, 4, 3, 2, 1, 0], some []] mixed (by kernel_rfl) rfl ?_) | refine Run.ctl rfl ?_ | (refine Rg.op false tok rfl rfl rfl rfl ?_ ?_ ?_; (first | exact ⟨⟩ | omega | focus (simp <;> omega) | decide +kernel); (first | exact trivial | exact rfl | exact .inl rfl | exact .inr rfl | focus ((repeat (first | exact trivial | (refine ⟨Stay.op false tok rfl rfl rfl ?_ (fun t ht => by cases ht; rfl), ?_⟩; (first | exact ⟨⟩ | omega | focus (simp <;> omega) | decide +kernel)) | (refine ⟨Stay.op true tok rfl rfl rfl ?_ (fun t ht => by cases ht; rfl), ?_⟩; (first | exact ⟨⟩ | omega | focus (simp <;> omega) | decide +kernel)) | refine ⟨Stay.skip rfl rfl (fun t ht => by cases ht; rfl), ?_⟩ | (refine ⟨Stay.g rfl rfl (fun _ hq => G_call hmc rfl rfl ⟨⟨.refl _, trivial⟩, rfl⟩ hq) (fun t ht => by cases ht; rfl), ?_⟩))); done))) | refine Rg.call (hmc) rfl rfl rfl rfl rfl ⟨⟨.refl _, trivial⟩, rfl⟩ ?_ | (refine Rg.op true tok rfl rfl rfl rfl ?_ ?_ ?_; (first | exact ⟨⟩ | omega | focus (simp <;> omega) | decide +kernel); (first | exact trivial | exact rfl | exact .inl rfl | exact .inr rfl | focus ((repeat (first | exact trivial | (refine ⟨Stay.op false tok rfl rfl rfl ?_ (fun t ht => by cases ht; rfl), ?_⟩; (first | exact ⟨⟩ | omega | focus (simp <;> omega) | decide +kernel)) | (refine ⟨Stay.op true tok rfl rfl rfl ?_ (fun t ht => by cases ht; rfl), ?_⟩; (first | exact ⟨⟩ | omega | focus (simp <;> omega) | decide +kernel)) | refine ⟨Stay.skip rfl rfl (fun t ht => by cases ht; rfl), ?_⟩ | (refine ⟨Stay.g rfl rfl (fun _ hq => G_call hmc rfl rfl ⟨⟨.refl _, trivial⟩, rfl⟩ hq) (fun t ht => by cases ht; rfl), ?_⟩))); done))) | refine Rg.nil ?_ | refine Rg.fork ?_ ?_ | refine Rg.skip rfl rfl rfl ?_ | refine Run.regR ?_ | refine Run.drwR mixed (by kernel_rfl) rfl ?_ | refine Run.condT rfl ?_ | refine Run.condF rfl ?_ | ((first | refine Run.condB rfl (fun hc => ?_) (fun hc => ?_) | ((fail_if_success (refine Rg.lit true rfl ?_)); (fail_if_success (refine Rg.lit false rfl ?_)); refine Rg.guard rfl (fun hc => ?_) (fun hc => ?_))) <;> ((try simp only [cs] at hc); (first | ((exfalso; omega); done) | skip))))
  refine Run.noRow 41 5 (rows eLcl []) ?_
  refine Run.weak (i := 2) ⟨34, 6, 1, fun _ => [.slc 3 0 0, sl 6 eMsg w.mail, i64 w.used.drop, i64 w.used.dup, i64 w.used.time, i64 w.used.crash], false, false⟩ rfl rfl rfl (Nat.le_refl _) rfl (fun k hk => ⟨.nil, .refl _, .refl _, .refl _, .refl _, .refl _, trivial⟩) ?_
  refine Run.renumL [1, 2, 3] [some ⟨34, 6, 1, fun _ => [.atom (.slice none 0 0), .atom (.slice none 0 0), i64 0, i64 0, i64 0, i64 0], false, false⟩, some ⟨34, 6, 1, fun _ => [.slc 2 0 0, sl 6 eMsg w.mail, i64 w.used.drop, i64 w.used.dup, i64 w.used.time, i64 w.used.crash], false, false⟩, some ⟨41, 5, 0, rows eLcl (w.actors.take 0), false, false⟩] [(2, .ptr 0 0 0), (3, .ptr 1 0 0), (13, sl 5 eLcl w.actors), (14, i64 w.actors.length), (15, i64 (0 : Nat))] rfl rfl rfl rfl ⟨⟨_, rfl, rfl, rfl, rfl, rfl, fun k hk => .ofEq rfl rfl⟩, ⟨_, rfl, rfl, rfl, rfl, rfl, fun k hk => ⟨.slcN rfl rfl rfl, .cl rfl, .cl rfl, .cl rfl, .cl rfl, .cl rfl, trivial⟩⟩, ⟨_, rfl, rfl, rfl, rfl, rfl, fun k hk => absurd hk (Nat.not_lt_zero k)⟩, trivial⟩ ⟨.ptrN rfl rfl, .ptrN rfl rfl, .cl rfl, .cl rfl, .cl rfl, trivial⟩ ?_
  refine Run.loopN (ι := Nat) (fun i => ([(2, .ptr 0 0 0), (3, .ptr 1 0 0), (13, sl 5 eLcl w.actors), (14, i64 w.actors.length), (15, i64 i)], [some ⟨34, 6, 1, fun _ => [.atom (.slice none 0 0), .atom (.slice none 0 0), i64 0, i64 0, i64 0, i64 0], false, false⟩, some ⟨34, 6, 1, fun _ => [.slc 2 0 i, sl 6 eMsg w.mail, i64 w.used.drop, i64 w.used.dup, i64 w.used.time, i64 w.used.crash], false, false⟩, some ⟨41, 5, i, rows eLcl (w.actors.take i), false, false⟩])) (fun i => i ≤ w.actors.length) (fun i => w.actors.length - i) 0 ⟨rfl, rfl, rfl, rfl, rfl, trivial⟩ rfl (by omega) ?_
  rintro i hi back backR
  dsimp only
  by_cases hlt : i < w.actors.length
  · have hcl := copyLocal_ (w.actors.getD i default) (h4 _ (mem_getD hlt))
    repeat' (first | (refine Run.drwP [4, 5, 7] [0, 1, 2, 3, 4, 5, 6, 7] [none, none, none, none, some [1, 0], some [], none, some []] mixed (by kernel_rfl) rfl ?_) | refine Run.ctl rfl ?_ | (refine Rg.op false tok rfl rfl rfl rfl ?_ ?_ ?_; (first | exact ⟨⟩ | omega | focus (simp <;> omega) | decide +kernel); (first | exact trivial | exact rfl | exact .inl rfl | exact .inr rfl | focus ((repeat (first | exact trivial | (refine ⟨Stay.op false tok rfl rfl rfl ?_ (fun t ht => by cases ht; rfl), ?_⟩; (first | exact ⟨⟩ | omega | focus (simp <;> omega) | decide +kernel)) | (refine ⟨Stay.op true tok rfl rfl rfl ?_ (fun t ht => by cases ht; rfl), ?_⟩; (first | exact ⟨⟩ | omega | focus (simp <;> omega) | decide +kernel)) | refine ⟨Stay.skip rfl rfl (fun t ht => by cases ht; rfl), ?_⟩ | (refine ⟨Stay.g rfl rfl (fun _ hq => G_call hcl rfl rfl ⟨⟨.refl _, trivial⟩, rfl⟩ hq) (fun t ht => by cases ht; rfl), ?_⟩))); done))) | refine Rg.call (hcl) rfl rfl rfl rfl rfl ⟨⟨.refl _, trivial⟩, rfl⟩ ?_ | (refine Rg.op true tok rfl rfl rfl rfl ?_ ?_ ?_; (first | exact ⟨⟩ | omega | focus (simp <;> omega) | decide +kernel); (first | exact trivial | exact rfl | exact .inl rfl | exact .inr rfl | focus ((repeat (first | exact trivial | (refine ⟨Stay.op false tok rfl rfl rfl ?_ (fun t ht => by cases ht; rfl), ?_⟩; (first | exact ⟨⟩ | omega | focus (simp <;> omega) | decide +kernel)) | (refine ⟨Stay.op true tok rfl rfl rfl ?_ (fun t ht => by cases ht; rfl), ?_⟩; (first | exact ⟨⟩ | omega | focus (simp <;> omega) | decide +kernel)) | refine ⟨Stay.skip rfl rfl (fun t ht => by cases ht; rfl), ?_⟩ | (refine ⟨Stay.g rfl rfl (fun _ hq => G_call hcl rfl rfl ⟨⟨.refl _, trivial⟩, rfl⟩ hq) (fun t ht => by cases ht; rfl), ?_⟩))); done))) | refine Rg.nil ?_ | refine Rg.fork ?_ ?_ | refine Rg.skip rfl rfl rfl ?_ | refine Run.regR ?_ | refine Run.drwR mixed (by kernel_rfl) rfl ?_ | refine Run.condT rfl ?_ | refine Run.condF rfl ?_ | ((first | refine Run.condB rfl (fun hc => ?_) (fun hc => ?_) | ((fail_if_success (refine Rg.lit true rfl ?_)); (fail_if_success (refine Rg.lit false rfl ?_)); refine Rg.guard rfl (fun hc => ?_) (fun hc => ?_))) <;> ((try simp only [cs] at hc); (first | ((exfalso; omega); done) | skip))))
    exact backR [0, 1, 5] (i + 1) _ _ hlt (by omega) rfl ⟨⟨_, rfl, rfl, rfl, rfl, rfl, fun k hk => .ofEq rfl rfl⟩, ⟨_, rfl, rfl, rfl, rfl, rfl, fun k hk => ⟨.slcN rfl rfl rfl, .cl rfl, .cl rfl, .cl rfl, .cl rfl, .cl rfl, trivial⟩⟩, ⟨_, rfl, rfl, rfl, rfl, rfl, fun k hk => .ofEq (by dsimp only; exact rows_tk eLcl w.actors hlt (fun _ => rfl) rfl k hk) rfl⟩, trivial⟩ ⟨.ptrN rfl rfl, .ptrN rfl rfl, .cl rfl, .cl rfl, .cl rfl, trivial⟩
  · obtain rfl : i = w.actors.length := by omega
    repeat' (first | refine Run.ctl rfl ?_ | (refine Rg.op false tok rfl rfl rfl rfl ?_ ?_ ?_; (first | exact ⟨⟩ | omega | focus (simp <;> omega) | decide +kernel); (first | exact trivial | exact rfl | exact .inl rfl | exact .inr rfl | focus ((repeat (first | exact trivial | (refine ⟨Stay.op false tok rfl rfl rfl ?_ (fun t ht => by cases ht; rfl), ?_⟩; (first | exact ⟨⟩ | omega | focus (simp <;> omega) | decide +kernel)) | (refine ⟨Stay.op true tok rfl rfl rfl ?_ (fun t ht => by cases ht; rfl), ?_⟩; (first | exact ⟨⟩ | omega | focus (simp <;> omega) | decide +kernel)) | refine ⟨Stay.skip rfl rfl (fun t ht => by cases ht; rfl), ?_⟩)); done))) | (refine Rg.op true tok rfl rfl rfl rfl ?_ ?_ ?_; (first | exact ⟨⟩ | omega | focus (simp <;> omega) | decide +kernel); (first | exact trivial | exact rfl | exact .inl rfl | exact .inr rfl | focus ((repeat (first | exact trivial | (refine ⟨Stay.op false tok rfl rfl rfl ?_ (fun t ht => by cases ht; rfl), ?_⟩; (first | exact ⟨⟩ | omega | focus (simp <;> omega) | decide +kernel)) | (refine ⟨Stay.op true tok rfl rfl rfl ?_ (fun t ht => by cases ht; rfl), ?_⟩; (first | exact ⟨⟩ | omega | focus (simp <;> omega) | decide +kernel)) | refine ⟨Stay.skip rfl rfl (fun t ht => by cases ht; rfl), ?_⟩)); done))) | refine Rg.nil ?_ | refine Rg.fork ?_ ?_ | refine Rg.skip rfl rfl rfl ?_ | refine Run.regR ?_ | refine Run.drwR mixed (by kernel_rfl) rfl ?_ | refine Run.condT rfl ?_ | refine Run.condF rfl ?_ | ((first | refine Run.condB rfl (fun hc => ?_) (fun hc => ?_) | ((fail_if_success (refine Rg.lit true rfl ?_)); (fail_if_success (refine Rg.lit false rfl ?_)); refine Rg.guard rfl (fun hc => ?_) (fun hc => ?_))) <;> ((try simp only [cs] at hc); (first | ((exfalso; omega); done) | skip))))
    refine Run.renumL [0, 2] [wbox 1 w, rowL w.actors] [(2, .ptr 0 0 0)] rfl rfl rfl rfl ⟨⟨_, rfl, rfl, rfl, rfl, rfl, fun k hk => ⟨.slcN rfl rfl rfl, .cl rfl, .cl rfl, .cl rfl, .cl rfl, .cl rfl, trivial⟩⟩, ⟨_, rfl, rfl, rfl, rfl, rfl, fun k hk => .ofEq (by dsimp only; rw [List.take_length]) rfl⟩, trivial⟩ ⟨.ptrN rfl rfl, trivial⟩ ?_
    (first | refine Run.ret tok Tryd.func11 rfl ?_ | refine Run.fall tok Tryd.func11 rfl ?_)
    exact ⟨rfl, rfl⟩
theorem worldCopy_ (w : Wd) (hw : WdShort w) : Pure Tryd.prog 11 [pWd w] (pWd w) :=
  (worldCopyO_ w hw).pure (.agg' ⟨.row rfl rfl rfl (by simp) rfl (fun _ => rfl) (fun j hj => by rw [Nat.zero_add]), .refl _, .refl _, .refl _, .refl _, .refl _, trivial⟩) rfl
def numsText (l : List Int) : List UInt8 := Lib.join (l.map Lib.itoa) [32]
theorem numbers_ (l : List Int) (hl : l.length ≤ 1000) (hok : ∀ n ∈ l, R64 n) : Pure Tryd.prog 27 [sl 1 eInt l] (str (bs (numsText l))) := by
  refine Pure.of_spec (Spec.of_run (fn := Tryd.f27) Tryd.func27 rfl rfl (by kernel_rfl) ?_) (by first | assumption | rfl | (split <;> rfl) | (split <;> split <;> rfl))
  repeat' (first | refine Run.ctl rfl ?_ | (refine Rg.op false tok rfl rfl rfl rfl ?_ ?_ ?_; (first | exact ⟨⟩ | omega | focus (simp <;> omega) | decide +kernel); (first | exact trivial | exact rfl | exact .inl rfl | exact .inr rfl)) | (refine Rg.op true tok rfl rfl rfl rfl ?_ ?_ ?_; (first | exact ⟨⟩ | omega | focus (simp <;> omega) | decide +kernel); (first | exact trivial | exact rfl | exact .inl rfl | exact .inr rfl)) | refine Rg.nil ?_ | refine Rg.skip rfl rfl rfl ?_ | refine Run.regR ?_ | refine Run.condT rfl ?_ | refine Run.condF rfl ?_ | ((first | refine Run.condB rfl (fun hc => ?_) (fun hc => ?_) | ((fail_if_success (refine Rg.lit true rfl ?_)); (fail_if_success (refine Rg.lit false rfl ?_)); refine Rg.guard rfl (fun hc => ?_) (fun hc => ?_))) <;> ((try simp only [cs] at hc); (first | ((exfalso; omega); done) | skip))))
  refine Run.nilRow 3 9 1 (rows eStr []) rfl ?_
  refine Run.loopN (ι := Nat) (fun j => ([(3, .slc 0 0 ((l.take j).map fun i => bs (Lib.itoa i)).length), (6, sl 1 eInt l), (7, i64 l.length), (8, i64 j)], [rowS ((l.take j).map fun i => bs (Lib.itoa i))])) (fun j => j ≤ l.length) (fun j => l.length - j) 0 ⟨rfl, rfl, rfl, rfl, trivial⟩ rfl (by omega) ?_
  rintro j hj back backR
  dsimp only
  by_cases hlt : j < l.length
  · have hia := hok _ (mem_getD hlt)
    have htk : ((l.take (j + 1)).map fun i => bs (Lib.itoa i)) = ((l.take j).map fun i => bs (Lib.itoa i)) ++ [bs (Lib.itoa (l.getD j default))] := by
      rw [List.take_add_one, List.getElem?_eq_getElem hlt, List.map_append]
      simp [hlt]
    have hit := itoa_ (l.getD j default) hia.1 hia.2
    repeat' (first | refine Run.ctl rfl ?_ | (refine Rg.op false tok rfl rfl rfl rfl ?_ ?_ ?_; (first | exact ⟨⟩ | omega | focus (simp <;> omega) | decide +kernel); (first | exact trivial | exact rfl | exact .inl rfl | exact .inr rfl)) | refine Rg.call (hit) rfl rfl rfl rfl rfl ⟨⟨.refl _, trivial⟩, rfl⟩ ?_ | (refine Rg.op true tok rfl rfl rfl rfl ?_ ?_ ?_; (first | exact ⟨⟩ | omega | focus (simp <;> omega) | decide +kernel); (first | exact trivial | exact rfl | exact .inl rfl | exact .inr rfl)) | refine Rg.nil ?_ | refine Rg.skip rfl rfl rfl ?_ | refine Run.regR ?_ | refine Run.condT rfl ?_ | refine Run.condF rfl ?_ | ((first | refine Run.condB rfl (fun hc => ?_) (fun hc => ?_) | ((fail_if_success (refine Rg.lit true rfl ?_)); (fail_if_success (refine Rg.lit false rfl ?_)); refine Rg.guard rfl (fun hc => ?_) (fun hc => ?_))) <;> ((try simp only [cs] at hc); (first | ((exfalso; omega); done) | skip))))
    exact backR [2] (j + 1) _ _ hlt (by omega) rfl ⟨⟨_, rfl, rfl, rfl, by first | (simp [List.length_take]; done) | (simp [List.length_take]; omega), rfl, fun k hk => .ofEq (by
      dsimp only at hk ⊢
      rw [htk]
      exact rows_snocE eStr _ _ (by first | (simp [List.length_take]; done) | (simp [List.length_take]; omega)) (fun k _ => by rw [Nat.zero_add]) rfl (by simpa [List.length_take] using hk)) rfl⟩, trivial⟩ ⟨.slcN rfl rfl (by first | (simp [List.length_take]; done) | (simp [List.length_take]; omega)), .cl rfl, .cl rfl, .cl rfl, trivial⟩
  · obtain rfl : j = l.length := by omega
    rw [List.take_length]
    have hmm : ((l.map fun i => bs (Lib.itoa i)).map (·.data.toList)) = l.map Lib.itoa := by
      rw [List.map_map]
      refine List.map_congr_left fun i _ => ?_
      exact bs_toList _
    have hlen : (Lib.join (l.map Lib.itoa) [32]).length ≤ 100000 := by
      cases l with
      | nil => simp [Lib.join_nil]
      | cons i x =>
        rw [List.map_cons, Lib.join_cons, List.length_append]
        have h1 := Lib.itoa_length_le i (hok i (by simp)).1 (hok i (by simp)).2
        have h2 := join_len [32] 21 (x.map Lib.itoa) (fun y hy => by
          obtain ⟨q, hq, rfl⟩ := List.mem_map.1 hy
          exact Lib.itoa_length_le q (hok q (by simp [hq])).1 (hok q (by simp [hq])).2)
        simp only [List.length_map, List.length_cons, List.length_nil] at h2 hl
        omega
    have hjn := join_ (l.map fun i => bs (Lib.itoa i)) (bs [32]) (by rw [List.length_map]; omega) (by rw [hmm, bs_toList]; omega)
    rw [hmm, bs_toList] at hjn
    repeat' (first | refine Run.ctl rfl ?_ | (refine Rg.op false tok rfl rfl rfl rfl ?_ ?_ ?_; (first | exact ⟨⟩ | omega | focus (simp <;> omega) | decide +kernel); (first | exact trivial | exact rfl | exact .inl rfl | exact .inr rfl)) | refine Rg.lend (hjn) rfl rfl rfl rfl rfl rfl ⟨⟨.row rfl rfl rfl (by dsimp only; omega) rfl (fun _ => rfl) (fun j hj => by rw [Nat.zero_add]), .refl _, trivial⟩, rfl⟩ ?_ | (refine Rg.op true tok rfl rfl rfl rfl ?_ ?_ ?_; (first | exact ⟨⟩ | omega | focus (simp <;> omega) | decide +kernel); (first | exact trivial | exact rfl | exact .inl rfl | exact .inr rfl)) | refine Rg.nil ?_ | refine Rg.skip rfl rfl rfl ?_ | refine Run.regR ?_ | refine Run.condT rfl ?_ | refine Run.condF rfl ?_ | ((first | refine Run.condB rfl (fun hc => ?_) (fun hc => ?_) | ((fail_if_success (refine Rg.lit true rfl ?_)); (fail_if_success (refine Rg.lit false rfl ?_)); refine Rg.guard rfl (fun hc => ?_) (fun hc => ?_))) <;> ((try simp only [cs] at hc); (first | ((exfalso; omega); done) | skip))))
    (first | refine Run.ret tok Tryd.func27 rfl ?_ | refine Run.fall tok Tryd.func27 rfl ?_)
    exact .refl _
end Go.Proofs.YtffckdfcmdmnoaaDoor.W
end
