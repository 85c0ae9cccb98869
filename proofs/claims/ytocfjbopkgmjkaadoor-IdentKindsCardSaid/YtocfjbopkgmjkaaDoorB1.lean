/- Walks: what the document fixes of names (chapter 7). -/
import Derived.Test.YtocfjbopkgmjkaaDoorA10
set_option linter.unusedVariables false
set_option linter.unusedSimpArgs false
set_option linter.unusedSectionVars false
set_option pp.maxSteps 3000
set_option maxHeartbeats 400000
namespace Go.Proofs.YtocfjbopkgmjkaaDoor.W
open Go Go.Sy

theorem okZ : (⟨0, 0, 0⟩ : ID).ok := ⟨R64_zero, R64_zero, R64_zero⟩
theorem okW : (⟨-1, 2, 0⟩ : ID).ok := by unfold ID.ok R64; decide
theorem okE (k w : Int) (x : ID) (hk : R64 k) (hx : x.ok) (hw : R64 w) : (⟨k, x, w⟩ : Ev).ok := ⟨hk, hx, hw⟩
/- "-1.2.0" -/
def tW : List UInt8 := [45, 49, 46, 50, 46, 48]
theorem textW : textID ⟨-1, 2, 0⟩ = tW := by decide +kernel
theorem idW : idOf tW = some ⟨-1, 2, 0⟩ := (idOf_iff _ _).2 ⟨okW, textW⟩
theorem idN : idOf [45, 49, 46, 50] = none := by
  unfold idOf
  rw [show splitC 46 [45, 49, 46, 50] = [[45, 49], [50]] by decide]
  cases h : numL [[45, 49], [50]] with
  | none => rfl
  | some ns =>
    have := congrArg List.length ((numL_iff _ _).1 h).2
    simp at this
    match ns, this with
    | [_, _], _ => rfl
theorem text_w : Pure Tryd.prog 19 [pID ⟨-1, 2, 0⟩] (str (bs tW)) := by
  have := text_ _ okW
  rwa [textW] at this
theorem parse_w : Pure Tryd.prog 13 [str (bs tW)] (.tup [pID ⟨-1, 2, 0⟩, i64 0]) := by
  have := parse_ (bs tW) (by rw [bs_size]; decide)
  unfold parseP at this
  rwa [parseID_of, bs_toList, idW] at this
theorem parse_n : Pure Tryd.prog 13 [str (bs [45, 49, 46, 50])] (.tup [pID ⟨0, 0, 0⟩, i64 2]) := by
  have := parse_ (bs [45, 49, 46, 50]) (by rw [bs_size]; decide)
  unfold parseP at this
  rwa [parseID_of, bs_toList, idN] at this
theorem event_w : Pure Tryd.prog 15 [str (bs ([100, 101, 108, 105, 118, 101, 114, 32] ++ tW))] (.tup [pEv ⟨1, ⟨-1, 2, 0⟩, 0⟩, i64 0]) := by
  have := event_ (bs ([100, 101, 108, 105, 118, 101, 114, 32] ++ tW)) (by rw [bs_size]; decide)
  rwa [bs_toList, (evOf_iff _ ⟨1, ⟨-1, 2, 0⟩, 0⟩).2 ⟨okE _ _ _ (by unfold R64; decide) okW R64_zero, by rw [nameEv_msg _ 1 rfl (by decide) (by decide) rfl, textW]; decide, by decide⟩] at this
theorem event_n : Pure Tryd.prog 15 [str (bs [100, 101, 108, 105, 118, 101, 114, 32, 49])] (.tup [pEv ⟨0, ⟨0, 0, 0⟩, 0⟩, i64 2]) := by
  have := event_ (bs [100, 101, 108, 105, 118, 101, 114, 32, 49]) (by rw [bs_size]; decide)
  have e : evOf [100, 101, 108, 105, 118, 101, 114, 32, 49] = none := by
    rw [evOf_hit (k := 1) (by decide) (by decide) ⟨[49], by decide⟩]
    unfold evAt
    rw [if_pos (by decide)]
    have e2 : idOf [49] = none := by
      unfold idOf
      rw [show splitC 46 [49] = [[49]] by decide]
      cases h : numL [[49]] with
      | none => rfl
      | some ns =>
        have := congrArg List.length ((numL_iff _ _).1 h).2
        simp at this
        match ns, this with
        | [_], _ => rfl
    rw [show ([100, 101, 108, 105, 118, 101, 114, 32, 49] : List UInt8).drop (wd 1).length = [49] by decide, e2]
    rfl
  rwa [bs_toList, e] at this
theorem name_w : Pure Tryd.prog 23 [pEv ⟨5, ⟨0, 0, 0⟩, 3⟩] (str (bs [99, 114, 97, 115, 104, 32, 51])) := by
  have := name_ ⟨5, ⟨0, 0, 0⟩, 3⟩ (okE _ _ _ (by unfold R64; decide) okZ (by unfold R64; decide))
  rwa [show nameEv ⟨5, ⟨0, 0, 0⟩, 3⟩ = [99, 114, 97, 115, 104, 32, 51] by decide +kernel] at this
theorem less_1 : Pure Tryd.prog 17 [pID ⟨-1, 2, 0⟩, pID ⟨0, 0, 0⟩] (bl true) := less_ ⟨-1, 2, 0⟩ ⟨0, 0, 0⟩
theorem less_2 : Pure Tryd.prog 17 [pID ⟨-1, 2, 0⟩, pID ⟨-1, 2, 0⟩] (bl false) := less_ ⟨-1, 2, 0⟩ ⟨-1, 2, 0⟩
theorem before_1 : Pure Tryd.prog 21 [pEv ⟨1, ⟨0, 0, 0⟩, 0⟩, pEv ⟨2, ⟨0, 0, 0⟩, 0⟩] (bl true) := before_ ⟨1, ⟨0, 0, 0⟩, 0⟩ ⟨2, ⟨0, 0, 0⟩, 0⟩
theorem fault_1 : Pure Tryd.prog 25 [pEv ⟨5, ⟨0, 0, 0⟩, 0⟩] (bl true) := fault_ ⟨5, ⟨0, 0, 0⟩, 0⟩
theorem fault_2 : Pure Tryd.prog 25 [pEv ⟨1, ⟨0, 0, 0⟩, 0⟩] (bl false) := fault_ ⟨1, ⟨0, 0, 0⟩, 0⟩
theorem awake7_ : Pure Tryd.prog 12 [] (bl true) := by
  refine Pure.of_spec (Spec.of_run (fn := Tryd.f12) Tryd.func12 rfl rfl (by kernel_rfl) ?_) (by first | assumption | rfl | (split <;> rfl) | (split <;> split <;> rfl))
  repeat' (first | (exact absurd rfl hc) | refine Run.ctl rfl ?_ | (refine Rg.op false tok rfl rfl rfl rfl ?_ ?_ ?_; (first | exact True.intro | omega | (simp; done) | (simp; omega) | decide +kernel); (first | exact trivial | exact .inl rfl | exact .inr rfl)) | refine Rg.call (text_w) rfl rfl rfl rfl rfl ⟨⟨.refl _, trivial⟩, rfl⟩ ?_ | refine Rg.call (parse_w) rfl rfl rfl rfl rfl ⟨⟨.refl _, trivial⟩, rfl⟩ ?_ | refine Rg.call (parse_n) rfl rfl rfl rfl rfl ⟨⟨.refl _, trivial⟩, rfl⟩ ?_ | refine Rg.call (event_w) rfl rfl rfl rfl rfl ⟨⟨.refl _, trivial⟩, rfl⟩ ?_ | refine Rg.call (event_n) rfl rfl rfl rfl rfl ⟨⟨.refl _, trivial⟩, rfl⟩ ?_ | refine Rg.call (name_w) rfl rfl rfl rfl rfl ⟨⟨.refl _, trivial⟩, rfl⟩ ?_ | refine Rg.call (less_1) rfl rfl rfl rfl rfl ⟨⟨.refl _, .refl _, trivial⟩, rfl⟩ ?_ | refine Rg.call (less_2) rfl rfl rfl rfl rfl ⟨⟨.refl _, .refl _, trivial⟩, rfl⟩ ?_ | refine Rg.call (before_1) rfl rfl rfl rfl rfl ⟨⟨.refl _, .refl _, trivial⟩, rfl⟩ ?_ | refine Rg.call (fault_1) rfl rfl rfl rfl rfl ⟨⟨.refl _, trivial⟩, rfl⟩ ?_ | refine Rg.call (fault_2) rfl rfl rfl rfl rfl ⟨⟨.refl _, trivial⟩, rfl⟩ ?_ | (refine Rg.op true tok rfl rfl rfl rfl ?_ ?_ ?_; (first | exact True.intro | omega | (simp; done) | (simp; omega) | decide +kernel); (first | exact trivial | exact .inl rfl | exact .inr rfl)) | refine Rg.nil ?_ | refine Rg.skip rfl rfl rfl ?_ | refine Run.regR ?_ | refine Run.drwR mixed (by kernel_rfl) rfl ?_ | refine Run.condT rfl ?_ | refine Run.condF rfl ?_ | (refine Run.condB rfl (fun hc => ?_) (fun hc => ?_) <;> ((try simp only [cs] at hc))) | ((fail_if_success (refine Rg.lit true rfl ?_)); (fail_if_success (refine Rg.lit false rfl ?_)); refine Rg.guard rfl (fun hc => ?_) (fun hc => ?_) <;> ((try simp only [cs] at hc))))
  refine Run.ret tok Tryd.func12 rfl ?_
  exact .refl _
end Go.Proofs.YtocfjbopkgmjkaaDoor.W
