/- The law WatchTells of the given program, proved: for every input that the row speaks of the call returns true, and what came in reads as it did. The tied card: the listed variables are laid by the program's text (the tie is given). -/
import Derived.Test.YtlimecfjpfaljaaM1
import Derived.Test.YtlimecfjpfaljaaM16
import Derived.Test.YtlimecfjpfaljaaM33
import Derived.Test.YtlimecfjpfaljaaM34
import Derived.Test.YtlimecfjpfaljaaRows
import Derived.SevenTiedAt
import Derived.Lay
set_option linter.unusedVariables false
set_option maxRecDepth 100000
namespace Go.Proofs.Ytlimecfjpfaljaa.watchTells
open Go.ChangeShapes Go.WideShapes Go.ChangeAt Go.RowKit Go.Sy
open Go.ChangeMaps (open_string shut_string)
theorem globals {W : World} (h : True) (hsh : W.ShapedOpen Try.prog) : Go.Proofs.Ytlimecfjpfaljaa.W.GK (KW W) := by
  exact ⟨⟩
set_option maxRecDepth 100000 in
theorem lifted (os : Os) (started : os.Started) (H : Type) (enc : TypeId × Value → H) :
    ReturnsInHanded {} Try.checked os 3 .any (fun w args => (Rows.watchTellsSpec.pre enc Try.prog Try.f3 Rows.watchTellsRow.domain false w args ∧ (fun _ _ => True) w args) ∧ sizedMet enc Try.prog Try.f3 (OpenSpec.ofChange Rows.watchTellsSpec) false w args) (Rows.watchTellsSpec.post enc Try.prog Try.f3 false true false false) := by
  refine returns_all (C := Try.checked) (X := (fun _ _ => True)) (fun _ _ _ _ h => h) own_knob started (by kernel_rfl) Try.func3
    (ChangeSpec.witness_shaped (enc := enc) (C := Try.checked) (os := os) (X := (fun _ _ => True)) false (World.laidAll Try.prog os Rows.watchTellsRow.laid) #[.agg #[.slice none 0 0, .slice none 0 0, .slice none 0 0, .int .i64 0], .agg #[.slice none 0 0, .slice none 0 0, .int .i64 0, .int .i64 0, .int .i64 0, .int .i64 0], .slice none 0 0] 8 (World.laidAll_os _ _ _) (World.shaped_of_ZipB (by kernel_rfl) (by kernel_rfl)) (by kernel_rfl) (by kernel_rfl) (by kernel_rfl) trivial) ?_
  intro W base args ds gs before hval0 hW hsz0 hL hsh
  have hsz : (DataW.weightsEach Try.prog (Try.f3.params.toList ++ Rows.watchTellsSpec.plain.varTypes Try.prog) (ds ++ gs)).all (· ≤ reachBytes) = true := hsz0
  have hval : ∀ (j : Nat) t v, Try.f3.params[j]? = some t → args[j]? = some v → Value.okWide Try.prog W .any base t v := hval0
  have hW' := hW
  obtain ⟨p, q, hA0, hV, rfl, hfz, hnd⟩ := hW
  have hA : DataW.TrodAll enc Try.prog W 0 (fun _ => true) true Try.f3.params.toList args.toList ds p := hA0
  rw [Try.params3] at hA hval hsz
  have hrd : ∀ t ∈ [26, 32, 33], Try.prog.readableRec t = true ∧ t < Try.prog.types.size := by
    intro t ht
    have hb : ([26, 32, 33].all fun t => Try.prog.readableRec t && decide (t < Try.prog.types.size)) = true := by kernel_rfl
    have := List.all_eq_true.1 hb t ht
    simpa using this
  have hkeep : ∀ W', Below W.heap.size W W' → DataW.TrodAll enc Try.prog W' 0 (fun b => decide (b < W.heap.size)) true Try.f3.params.toList args.toList ds p := fun W' hb => by
    rw [Try.params3]
    exact keep_all laid_out hb hrd hA
  obtain ⟨v0, vs0, d0, ds0, p0, q0, hargs, rfl, rfl, h0, r0⟩ := trodAll_cons hA
  obtain ⟨v1, vs1, d1, ds1, p1, q1, rfl, rfl, rfl, h1, r1⟩ := trodAll_cons r0
  obtain ⟨v2, vs2, d2, ds2, p2, q2, rfl, rfl, rfl, h2, r2⟩ := trodAll_cons r1
  obtain ⟨rfl, rfl, rfl⟩ := trodAll_nil r2
  obtain rfl : args = #[v0, v1, v2] := by cases args; simp_all
  obtain ⟨rfl, rfl⟩ := trodVars_none hV
  obtain ⟨a0, x0, w0⟩ := open_agg (Go.Proofs.Ytlimecfjpfaljaa.W.opens_Pg) Try.underlying26 (hval 0 26 v0 rfl rfl) h0
  obtain ⟨a1, x1, w1⟩ := open_agg (Go.Proofs.Ytlimecfjpfaljaa.W.opens_Wd) Try.underlying32 (hval 1 32 v1 rfl rfl) h1
  obtain ⟨a2, x2, w2⟩ := open_slice (Go.Proofs.Ytlimecfjpfaljaa.W.opens_Ws) Try.underlying33 (hval 2 33 v2 rfl rfl) h2
  have hG : Go.Proofs.Ytlimecfjpfaljaa.W.GK (KW W) := globals hL hsh
  have hp := Go.Proofs.Ytlimecfjpfaljaa.W.watchTells_ a0 a1 a2 w0 w1 w2
  refine (hp.2 (KW W) W #[v0, v1, v2] hG (KW.in W) rfl (fun j r hr => ?_)).mono ?_
  · rcases j with _ | _ | _ | j
    · simp at hr; subst hr; exact x0
    · simp at hr; subst hr; exact x1
    · simp at hr; subst hr; exact x2
    · simp at hr
  · rintro e W' ⟨v, K', rfl, hv, _, _, _, bel⟩
    obtain rfl := hv.atom_inv
    exact ⟨_, rfl, _, _, _, [], _, [], hW', trodAll_mk1 (shut_bool Try.underlying4 _), hkeep W' bel, rfl, bel.frame _, fun h => by cases h⟩
theorem row_holds : Rows.WatchTellsSaid :=
  OpenClaim.holds_of_wide 3 Try.f3 rfl rfl rfl rfl rfl rfl rfl ⟨rfl, rfl, rfl, rfl, rfl⟩ rfl rfl rfl rfl rfl (by kernel_rfl) Try.func3 (by kernel_rfl)
    (of_decide_eq_true (by kernel_rfl)) (by unfold Func.isWrapper; first | (rw [if_pos (by decide +kernel)]; kernel_rfl) | (rw [if_neg (by decide +kernel)]; exact ⟨rfl, rfl⟩))
    (fun os started H enc _ => by have h := lifted os started H enc; simp only [and_true] at h; exact h)
theorem proved : Rows.WatchTellsSaid := row_holds
#print axioms proved
end Go.Proofs.Ytlimecfjpfaljaa.watchTells
namespace Go.Proofs.Ytlimecfjpfaljaa
/-- The statement, under a short name, for the claim. -/
theorem watchTells_holds : Rows.WatchTellsSaid := watchTells.proved
end Go.Proofs.Ytlimecfjpfaljaa
