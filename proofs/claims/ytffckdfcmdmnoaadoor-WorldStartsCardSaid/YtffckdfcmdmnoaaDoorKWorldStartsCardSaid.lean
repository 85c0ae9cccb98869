/- The law WorldStarts of the given program, proved: for every input that the row speaks of the call returns true, and what came in reads as it did. The tied card: the listed variables are laid by the program's text (the tie is given). -/
import Derived.Test.YtffckdfcmdmnoaaDoorM1
import Derived.Test.YtffckdfcmdmnoaaDoorM20
import Derived.Test.YtffckdfcmdmnoaaDoorM37
import Derived.Test.YtffckdfcmdmnoaaDoorM38
import Derived.Test.YtffckdfcmdmnoaaDoorCards
import Derived.Test.YtffckdfcmdmnoaaDoorTie
import Derived.SevenTiedAt
import Derived.Lay
set_option linter.unusedVariables false
set_option maxRecDepth 100000
namespace Go.Proofs.YtffckdfcmdmnoaaDoor.worldStarts
open Go.ChangeShapes Go.WideShapes Go.ChangeAt Go.RowKit Go.Sy
open Go.ChangeMaps (open_string shut_string)
theorem globals {W : World} (h : laidMetH Tryd.prog Rows.worldStartsRow.laid W) (hsh : W.ShapedOpen Tryd.prog) : Go.Proofs.YtffckdfcmdmnoaaDoor.W.GK (KW W) := by
  rw [MakeChecks.laidMetH_plain _ _ _ (by kernel_rfl)] at h
  have e2 : (Rows.laid_internal_strconv_uint64pow10 : DataW Unit) = Lib.tabData .u64 Lib.pow10Tab := by kernel_rfl
  have t2 : laidMet Tryd.prog (Rows.worldStartsRow.laid.drop 2) W := laidMet.tail (laidMet.tail (h))
  have f2 : laidMet Tryd.prog (("internal/strconv.uint64pow10", Lib.tabData .u64 Lib.pow10Tab) :: Rows.worldStartsRow.laid.drop 3) W := by rw [← e2]; exact t2
  have T2 := Lib.tabIs_of_head (g := 0) (t := 143) (e := 132) (n := 20) (by kernel_rfl) (by kernel_rfl) Tryd.underlying143 Tryd.underlying132 (by kernel_rfl) (by kernel_rfl) f2
  have TM := Go.Proofs.YtffckdfcmdmnoaaDoor.W.int_of_shape (t := 3) (k := .i64) (zero := #[.int .i64 0]) 1 hsh (of_decide_eq_true (by kernel_rfl)) (by kernel_rfl) rfl (by kernel_rfl) (by kernel_rfl) (by kernel_rfl)
  exact ⟨TM, KW.of_var (by kernel_rfl) T2⟩
set_option maxRecDepth 100000 in
theorem lifted (os : Os) (started : os.Started) (H : Type) (enc : TypeId × Value → H) :
    ReturnsInHanded {} Tryd.checked os 3 .any (fun w args => (Rows.worldStartsSpec.pre enc Tryd.prog Tryd.f3 Rows.worldStartsRow.domain false w args ∧ (fun w _ => laidMetH Tryd.prog Rows.worldStartsRow.laid w) w args) ∧ sizedMet enc Tryd.prog Tryd.f3 (OpenSpec.ofChange Rows.worldStartsSpec) false w args) (Rows.worldStartsSpec.post enc Tryd.prog Tryd.f3 false true false false) := by
  refine returns_all (C := Tryd.checked) (X := (fun w _ => laidMetH Tryd.prog Rows.worldStartsRow.laid w)) (fun _ _ _ hh h => h.of_heap hh) own_knob started (by kernel_rfl) Tryd.func3
    (ChangeSpec.witness_shaped (enc := enc) (C := Tryd.checked) (os := os) (X := (fun w _ => laidMetH Tryd.prog Rows.worldStartsRow.laid w)) false (World.laidAll Tryd.prog os Rows.worldStartsRow.laid) #[.agg #[.slice none 0 0, .slice none 0 0, .slice none 0 0, .int .i64 0]] 8 (World.laidAll_os _ _ _) (World.shaped_of_ZipB (by kernel_rfl) (by kernel_rfl)) (by kernel_rfl) (by kernel_rfl) (by kernel_rfl) (by rw [MakeChecks.laidMetH_plain _ _ _ (by kernel_rfl)]; exact laidMet_laidAll _ (by kernel_rfl) (by kernel_rfl))) ?_
  intro W base args ds gs before hval0 hW hsz0 hL hsh
  have hsz : (DataW.weightsEach Tryd.prog (Tryd.f3.params.toList ++ Rows.worldStartsSpec.plain.varTypes Tryd.prog) (ds ++ gs)).all (· ≤ reachBytes) = true := hsz0
  have hval : ∀ (j : Nat) t v, Tryd.f3.params[j]? = some t → args[j]? = some v → Value.okWide Tryd.prog W .any base t v := hval0
  have hW' := hW
  obtain ⟨p, q, hA0, hV, rfl, hfz, hnd⟩ := hW
  have hA : DataW.TrodAll enc Tryd.prog W 0 (fun _ => true) true Tryd.f3.params.toList args.toList ds p := hA0
  rw [Tryd.params3] at hA hval hsz
  have hrd : ∀ t ∈ [26], Tryd.prog.readableRec t = true ∧ t < Tryd.prog.types.size := by
    intro t ht
    have hb : ([26].all fun t => Tryd.prog.readableRec t && decide (t < Tryd.prog.types.size)) = true := by kernel_rfl
    have := List.all_eq_true.1 hb t ht
    simpa using this
  have hkeep : ∀ W', Below W.heap.size W W' → DataW.TrodAll enc Tryd.prog W' 0 (fun b => decide (b < W.heap.size)) true Tryd.f3.params.toList args.toList ds p := fun W' hb => by
    rw [Tryd.params3]
    exact keep_all laid_out hb hrd hA
  obtain ⟨v0, vs0, d0, ds0, p0, q0, hargs, rfl, rfl, h0, r0⟩ := trodAll_cons hA
  obtain ⟨rfl, rfl, rfl⟩ := trodAll_nil r0
  obtain rfl : args = #[v0] := by cases args; simp_all
  obtain ⟨rfl, rfl⟩ := trodVars_none hV
  obtain ⟨a0, x0, w0⟩ := open_agg (Go.Proofs.YtffckdfcmdmnoaaDoor.W.opens_Pg) Tryd.underlying26 (hval 0 26 v0 rfl rfl) h0
  have hG : Go.Proofs.YtffckdfcmdmnoaaDoor.W.GK (KW W) := globals hL hsh
  have hp := Go.Proofs.YtffckdfcmdmnoaaDoor.W.worldStarts_ a0 w0
  refine (hp.2 (KW W) W #[v0] hG (KW.in W) rfl (fun j r hr => ?_)).mono ?_
  · rcases j with _ | j
    · simp at hr; subst hr; exact x0
    · simp at hr
  · rintro e W' ⟨v, K', rfl, hv, _, _, _, bel⟩
    obtain rfl := hv.atom_inv
    exact ⟨_, rfl, _, _, _, [], _, [], hW', trodAll_mk1 (shut_bool Tryd.underlying4 _), hkeep W' bel, rfl, bel.frame _, fun h => by cases h⟩
theorem row_holds : Rows.WorldStartsSaid :=
  OpenClaim.holds_of_wide 3 Tryd.f3 rfl rfl rfl rfl rfl rfl rfl ⟨rfl, rfl, rfl, rfl, rfl⟩ rfl rfl rfl rfl rfl (by kernel_rfl) Tryd.func3 (by kernel_rfl)
    (of_decide_eq_true (by kernel_rfl)) (by unfold Func.isWrapper; first | (rw [if_pos (by decide +kernel)]; kernel_rfl) | (rw [if_neg (by decide +kernel)]; exact ⟨rfl, rfl⟩))
    (fun os started H enc _ => lifted os started H enc)
theorem proved : Rows.WorldStartsCardSaid :=
  Claim7.holds_tied_plain_at .later [] [.data, .data, .data] true (true, "35b95601aeadb38fd3c9eb0e5d77625f303634582aeb86bd284af8801486b8f5") false
    row_holds (fun _ h => by cases h) (by kernel_rfl) (fun _ h => by cases h) worldStarts_row_tie rfl ⟨rfl, rfl⟩ (by kernel_rfl) rfl
    (fun f fn hf hfn => by
      obtain rfl : f = 3 := Option.some.inj ((show Tryd.prog.funcNamed "gavotte/gavottelaw9.WorldStarts" = some 3 by kernel_rfl).symm.trans hf) |>.symm
      obtain rfl : fn = Tryd.f3 := (Option.some.inj (Tryd.func3.symm.trans hfn)).symm
      exact ⟨by kernel_rfl, fun j t ht => by
        rw [Tryd.params3] at ht
        have hm : t ∈ [26] := by simpa using Array.mem_of_getElem? ht
        have hall : ([26].all fun u => !Tryd.prog.wantsStandIn u) = true := by kernel_rfl
        exact (show Tryd.prog.wantsStandIn t = false by simpa using List.all_eq_true.1 hall t hm)⟩)
    (by kernel_rfl)
#print axioms proved
end Go.Proofs.YtffckdfcmdmnoaaDoor.worldStarts
namespace Go.Proofs.YtffckdfcmdmnoaaDoor
/-- The statement, under a short name, for the claim. -/
theorem worldStarts_holds : Rows.WorldStartsCardSaid := worldStarts.proved
end Go.Proofs.YtffckdfcmdmnoaaDoor
