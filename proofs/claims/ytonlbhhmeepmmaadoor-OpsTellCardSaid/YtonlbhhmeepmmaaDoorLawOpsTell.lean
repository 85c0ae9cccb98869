/- The law OpsTell of the given program, proved: for every input that the row speaks of the call returns true, and what came in reads as it did. The tied card: the listed variables are laid by the program's text (the tie is given). -/
import Derived.Test.YtonlbhhmeepmmaaDoorWrap
import Derived.Test.YtonlbhhmeepmmaaDoorPureOps
import Derived.Test.YtonlbhhmeepmmaaDoorCards
import Derived.Test.YtonlbhhmeepmmaaDoorTie
import Derived.SevenTiedAt
set_option linter.unusedVariables false
namespace Go.Proofs.YtonlbhhmeepmmaaDoor.opsTell
open Go.ChangeShapes Go.WideShapes Go.ChangeAt Go.RowKit
open Go.ChangeMaps (open_string shut_string)
theorem door_met (os : Os) (args : Array Value) : laidMetH Tryd.prog Rows.opsTellRow.laid ((World.doorLaid Tryd.prog 33 os).forCall (fun _ _ => 0) ⟨#[], args, []⟩).memory :=
  laidMetH_of_parts3 (fuel := 8) (laidMet_of_run' 8 (by kernel_rfl) (by kernel_rfl)) (by kernel_rfl) (by kernel_rfl)
theorem globals {W : World} (h : laidMetH Tryd.prog Rows.opsTellRow.laid W) (hsh : W.ShapedOpen Tryd.prog) : P.GW W := by
  rw [MakeChecks.laidMetH_plain _ _ _ (by kernel_rfl)] at h
  have e1 : (Rows.laid_strings_asciiSpace : DataW Unit) = Lib.tabData .u8 Lib.asciiSpaceTab := by kernel_rfl
  have t1 : laidMet Tryd.prog (Rows.opsTellRow.laid.drop 1) W := laidMet.tail (h)
  have f1 : laidMet Tryd.prog (("strings.asciiSpace", Lib.tabData .u8 Lib.asciiSpaceTab) :: Rows.opsTellRow.laid.drop 2) W := by rw [← e1]; exact t1
  have T1 := Lib.tabIs_of_head (g := 0) (t := 35) (e := 5) (n := 256) (by kernel_rfl) (by kernel_rfl) Tryd.underlying35 Tryd.underlying5 (by kernel_rfl) (by kernel_rfl) f1
  exact ⟨T1⟩
set_option maxRecDepth 100000 in
theorem lifted (os : Os) (started : os.Started) (H : Type) (enc : TypeId × Value → H) :
    ReturnsInHanded {} Tryd.checked os 3 .any (fun w args => (Rows.opsTellSpec.pre enc Tryd.prog Tryd.f3 Rows.opsTellRow.domain false w args ∧ (fun w _ => laidMetH Tryd.prog Rows.opsTellRow.laid w) w args) ∧ sizedMet enc Tryd.prog Tryd.f3 (OpenSpec.ofChange Rows.opsTellSpec) false w args) (Rows.opsTellSpec.post enc Tryd.prog Tryd.f3 false true false false) := by
  refine returns_all (C := Tryd.checked) (X := (fun w _ => laidMetH Tryd.prog Rows.opsTellRow.laid w)) (fun _ _ _ hh h => h.of_heap hh) own_knob started (by kernel_rfl) Tryd.func3
    (ChangeSpec.witness_shaped (enc := enc) (C := Tryd.checked) (os := os) (X := (fun w _ => laidMetH Tryd.prog Rows.opsTellRow.laid w)) false (World.doorLaid Tryd.prog 33 os) #[.int .i64 0, .string ByteArray.empty] 8 rfl (World.shaped_of_RefB (by kernel_rfl) (by kernel_rfl)) (by kernel_rfl) (by kernel_rfl) (by kernel_rfl) (door_met os _)) ?_
  intro W base args ds gs before hval0 hW hsz0 hL hsh
  have hsz : (DataW.weightsEach Tryd.prog (Tryd.f3.params.toList ++ Rows.opsTellSpec.plain.varTypes Tryd.prog) (ds ++ gs)).all (· ≤ reachBytes) = true := hsz0
  have hval : ∀ (j : Nat) t v, Tryd.f3.params[j]? = some t → args[j]? = some v → Value.okWide Tryd.prog W .any base t v := hval0
  have hW' := hW
  obtain ⟨p, q, hA0, hV, rfl, hfz, hnd⟩ := hW
  have hA : DataW.TrodAll enc Tryd.prog W 0 (fun _ => true) true Tryd.f3.params.toList args.toList ds p := hA0
  rw [Tryd.params3] at hA hval hsz
  obtain ⟨v0, vs0, d0, ds0, p0, q0, hargs, rfl, rfl, h0, r0⟩ := trodAll_cons hA
  obtain ⟨v1, vs1, d1, ds1, p1, q1, rfl, rfl, rfl, h1, r1⟩ := trodAll_cons r0
  obtain ⟨rfl, rfl, rfl⟩ := trodAll_nil r1
  obtain rfl : args = #[v0, v1] := by cases args; simp_all
  obtain ⟨rfl, rfl⟩ := trodVars_none hV
  obtain ⟨a0, rfl, rfl, rfl, w0⟩ := open_int Tryd.underlying3 (hval 0 3 v0 rfl rfl) h0
  obtain ⟨a1, rfl, rfl, rfl, y1⟩ := open_string Tryd.underlying9 (hval 1 9 v1 rfl rfl) h1
  have w1 : a1.size ≤ 140737488351232 := by
    have z := sized_string hsz (j := 1) (t := 9) rfl rfl
    rw [Array.length_toList] at z
    exact z
  have hG : P.GW W := globals hL hsh
  clear hA0 hval0 hsz0 hsz
  obtain ⟨k, hp⟩ := P.OpsTell a0 a1
  refine (P.gavottelaw1_OpsTell.calls k a0 a1 true W ⟨hG⟩ hp).mono ?_
  rintro e W' ⟨rfl, bel⟩
  exact ⟨_, rfl, _, _, _, [], _, [], hW', trodAll_mk1 (shut_bool Tryd.underlying4 _), (trodAll_cons_mk (shut_int Tryd.underlying3 w0) (trodAll_cons_mk (shut_string Tryd.underlying9 y1) trodAll_mk0)), rfl, bel.frame _, fun h => by cases h⟩
theorem row_holds : Rows.OpsTellSaid :=
  OpenClaim.holds_of_wide 3 Tryd.f3 rfl rfl rfl rfl rfl rfl rfl ⟨rfl, rfl, rfl, rfl, rfl⟩ rfl rfl rfl rfl rfl (by kernel_rfl) Tryd.func3 (by kernel_rfl)
    (of_decide_eq_true (by kernel_rfl)) (by unfold Func.isWrapper; first | (rw [if_pos (by decide +kernel)]; kernel_rfl) | (rw [if_neg (by decide +kernel)]; exact ⟨rfl, rfl⟩))
    (fun os started H enc _ => lifted os started H enc)
theorem proved : Rows.OpsTellCardSaid :=
  Claim7.holds_tied_plain_at .later [] [.listed, .data] true (true, "3e2d9ed18818c0abd2dc6637d59905ded169a428ff5574d96a842d68ee2e16d3") false
    row_holds (fun _ h => by cases h) (by kernel_rfl) (fun _ h => by cases h) opsTell_row_tie rfl ⟨rfl, rfl⟩ (by kernel_rfl) rfl
    (fun f fn hf hfn => by
      obtain rfl : f = 3 := Option.some.inj ((show Tryd.prog.funcNamed "gavotte/gavottelaw1.OpsTell" = some 3 by kernel_rfl).symm.trans hf) |>.symm
      obtain rfl : fn = Tryd.f3 := (Option.some.inj (Tryd.func3.symm.trans hfn)).symm
      exact ⟨by kernel_rfl, fun j t ht => by
        rw [Tryd.params3] at ht
        have hm : t ∈ [3, 9] := by simpa using Array.mem_of_getElem? ht
        have hall : ([3, 9].all fun u => !Tryd.prog.wantsStandIn u) = true := by kernel_rfl
        exact (show Tryd.prog.wantsStandIn t = false by simpa using List.all_eq_true.1 hall t hm)⟩)
    (by kernel_rfl)
#print axioms proved
end Go.Proofs.YtonlbhhmeepmmaaDoor.opsTell
namespace Go.Proofs.YtonlbhhmeepmmaaDoor
/-- The statement, under a short name, for the claim. -/
theorem opsTell_holds : Rows.OpsTellCardSaid := opsTell.proved
end Go.Proofs.YtonlbhhmeepmmaaDoor
