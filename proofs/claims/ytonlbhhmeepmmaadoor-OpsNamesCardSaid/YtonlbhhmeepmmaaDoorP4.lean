-- WRITTEN BY xprint.py (a session's program over the print's text).
import Derived.Test.YtonlbhhmeepmmaaDoorP0
import Derived.Test.YtonlbhhmeepmmaaDoorP1
import Derived.Test.YtonlbhhmeepmmaaDoorP2
namespace Go.Proofs.YtonlbhhmeepmmaaDoor.P
open Go.RowKit Go.Proofs.YtonlbhhmeepmmaaDoorW.PrintWords Go.Proofs.YtonlbhhmeepmmaaDoorW.PrintLast Go.Proofs.YtonlbhhmeepmmaaDoorW.PrintMore
attribute [local go_sem] max2_int min2_int max_two min_two max_three min_three max_four min_four   -- for this text's walks alone
set_option linter.unusedVariables false
set_option linter.unusedSimpArgs false

/-! ### gavottelaw1_OpsBalance: function 5 -/
mutual
def gavottelaw1_OpsBalance.j0 : Nat → Int → Bool → Option (Bool)
  | 0, _, _ => none
  | k + 1, x0, x22 => if x22 = true then ((ops_Pops.f k x0).bind fun t180 => (if t180 = 2 then ((ops_Puts.f k x0).bind fun t181 => (if t181 = 1 then ((ops_Operand.f k x0).bind fun t182 => (if t182 = 0 then ((gavottelaw1_awake.f k).bind fun t183 => (some t183)) else (some false))) else (some false))) else (some false))) else (if x0 = 14 then (gavottelaw1_OpsBalance.j1 k x0 true) else (gavottelaw1_OpsBalance.j1 k x0 (x0 == 19)))
def gavottelaw1_OpsBalance.j1 : Nat → Int → Bool → Option (Bool)
  | 0, _, _ => none
  | k + 1, x0, x53 => if x53 = true then ((ops_Pops.f k x0).bind fun t184 => (if t184 = 1 then ((ops_Puts.f k x0).bind fun t185 => (if t185 = 1 then ((ops_Operand.f k x0).bind fun t186 => (if t186 = 0 then ((gavottelaw1_awake.f k).bind fun t187 => (some t187)) else (some false))) else (some false))) else (some false))) else (if x0 = 5 then (gavottelaw1_OpsBalance.j2 k x0 true) else (gavottelaw1_OpsBalance.j2 k x0 (x0 == 6)))
def gavottelaw1_OpsBalance.j2 : Nat → Int → Bool → Option (Bool)
  | 0, _, _ => none
  | k + 1, x0, x76 => if x76 = true then ((ops_Operand.f k x0).bind fun t188 => (if t188 = 2 then ((ops_Pops.f k x0).bind fun t189 => ((ops_Puts.f k x0).bind fun t190 => (if (wrap64 (t189 + t190)) = 1 then ((gavottelaw1_awake.f k).bind fun t191 => (some t191)) else (some false)))) else (some false))) else (if x0 = 20 then (gavottelaw1_OpsBalance.j3 k x0 true) else (gavottelaw1_OpsBalance.j3 k x0 (x0 == 21)))
def gavottelaw1_OpsBalance.j3 : Nat → Int → Bool → Option (Bool)
  | 0, _, _ => none
  | k + 1, x0, x97 => if x97 = true then ((ops_Operand.f k x0).bind fun t192 => (if t192 = 4 then ((ops_Puts.f k x0).bind fun t193 => (if t193 = 0 then ((ops_Pops.f k x0).bind fun t194 => (if t194 = (wrap64 (x0 - 20)) then ((gavottelaw1_awake.f k).bind fun t195 => (some t195)) else (some false))) else (some false))) else (some false))) else ((ops_Pops.f k x0).bind fun t196 => (if t196 ≤ 2 then ((ops_Puts.f k x0).bind fun t197 => (if t197 ≤ 2 then (if (wrap64 (t197 - t196)) ≤ 1 then ((gavottelaw1_awake.f k).bind fun t198 => (some t198)) else (some false)) else (some false))) else (some false)))
end
def gavottelaw1_OpsBalance.f (k : Nat) (a0 : Int) : Option (Bool) := (ops_Valid.f a0).bind fun t175 => (if t175 = true then (if a0 ≥ 9 then (if a0 ≤ 13 then (gavottelaw1_OpsBalance.j0 k a0 true) else (if a0 ≥ 15 then (gavottelaw1_OpsBalance.j0 k a0 (decide (a0 ≤ 18))) else (gavottelaw1_OpsBalance.j0 k a0 false))) else (if a0 ≥ 15 then (gavottelaw1_OpsBalance.j0 k a0 (decide (a0 ≤ 18))) else (gavottelaw1_OpsBalance.j0 k a0 false))) else ((ops_Pops.f k a0).bind fun t176 => (if t176 = 0 then ((ops_Puts.f k a0).bind fun t177 => (if t177 = 0 then ((ops_Operand.f k a0).bind fun t178 => (if t178 = 0 then ((gavottelaw1_awake.f k).bind fun t179 => (some t179)) else (some false))) else (some false))) else (some false))))
theorem gavottelaw1_OpsBalance.mono_l : ∀ k, (∀ y0 y1, LeO (gavottelaw1_OpsBalance.j0 k y0 y1) (gavottelaw1_OpsBalance.j0 (k + 1) y0 y1)) ∧ (∀ y0 y1, LeO (gavottelaw1_OpsBalance.j1 k y0 y1) (gavottelaw1_OpsBalance.j1 (k + 1) y0 y1)) ∧ (∀ y0 y1, LeO (gavottelaw1_OpsBalance.j2 k y0 y1) (gavottelaw1_OpsBalance.j2 (k + 1) y0 y1)) ∧ (∀ y0 y1, LeO (gavottelaw1_OpsBalance.j3 k y0 y1) (gavottelaw1_OpsBalance.j3 (k + 1) y0 y1))
  | 0 => ⟨fun _ _ r h => by simp [gavottelaw1_OpsBalance.j0] at h, fun _ _ r h => by simp [gavottelaw1_OpsBalance.j1] at h, fun _ _ r h => by simp [gavottelaw1_OpsBalance.j2] at h, fun _ _ r h => by simp [gavottelaw1_OpsBalance.j3] at h⟩
  | k + 1 => by
    obtain ⟨ih0, ih1, ih2, ih3⟩ := gavottelaw1_OpsBalance.mono_l k
    refine ⟨?_, ?_, ?_, ?_⟩
    · intro y0 y1
      unfold gavottelaw1_OpsBalance.j0
      repeat' first
      | (with_reducible exact ih0 _ _)
      | (with_reducible exact ih1 _ _)
      | (with_reducible exact ih2 _ _)
      | (with_reducible exact ih3 _ _)
      | (with_reducible exact gavottelaw1_awake.mono _)
      | (with_reducible exact ops_Operand.mono _ _)
      | (with_reducible exact ops_Pops.mono _ _)
      | (with_reducible exact ops_Puts.mono _ _)
      | (with_reducible exact LeO.refl _)
      | (with_reducible exact LeO.none _)
      | (with_reducible refine LeO.ite ?_ ?_)
      | (with_reducible refine LeO.bind ?_ (fun _ => ?_))
      | exact ih0 _ _
      | exact ih1 _ _
      | exact ih2 _ _
      | exact ih3 _ _
      | exact gavottelaw1_awake.mono _
      | exact ops_Operand.mono _ _
      | exact ops_Pops.mono _ _
      | exact ops_Puts.mono _ _
      | exact LeO.none _
      | refine LeO.ite ?_ ?_
      | refine LeO.bind ?_ (fun _ => ?_)
    · intro y0 y1
      unfold gavottelaw1_OpsBalance.j1
      repeat' first
      | (with_reducible exact ih0 _ _)
      | (with_reducible exact ih1 _ _)
      | (with_reducible exact ih2 _ _)
      | (with_reducible exact ih3 _ _)
      | (with_reducible exact gavottelaw1_awake.mono _)
      | (with_reducible exact ops_Operand.mono _ _)
      | (with_reducible exact ops_Pops.mono _ _)
      | (with_reducible exact ops_Puts.mono _ _)
      | (with_reducible exact LeO.refl _)
      | (with_reducible exact LeO.none _)
      | (with_reducible refine LeO.ite ?_ ?_)
      | (with_reducible refine LeO.bind ?_ (fun _ => ?_))
      | exact ih0 _ _
      | exact ih1 _ _
      | exact ih2 _ _
      | exact ih3 _ _
      | exact gavottelaw1_awake.mono _
      | exact ops_Operand.mono _ _
      | exact ops_Pops.mono _ _
      | exact ops_Puts.mono _ _
      | exact LeO.none _
      | refine LeO.ite ?_ ?_
      | refine LeO.bind ?_ (fun _ => ?_)
    · intro y0 y1
      unfold gavottelaw1_OpsBalance.j2
      repeat' first
      | (with_reducible exact ih0 _ _)
      | (with_reducible exact ih1 _ _)
      | (with_reducible exact ih2 _ _)
      | (with_reducible exact ih3 _ _)
      | (with_reducible exact gavottelaw1_awake.mono _)
      | (with_reducible exact ops_Operand.mono _ _)
      | (with_reducible exact ops_Pops.mono _ _)
      | (with_reducible exact ops_Puts.mono _ _)
      | (with_reducible exact LeO.refl _)
      | (with_reducible exact LeO.none _)
      | (with_reducible refine LeO.ite ?_ ?_)
      | (with_reducible refine LeO.bind ?_ (fun _ => ?_))
      | exact ih0 _ _
      | exact ih1 _ _
      | exact ih2 _ _
      | exact ih3 _ _
      | exact gavottelaw1_awake.mono _
      | exact ops_Operand.mono _ _
      | exact ops_Pops.mono _ _
      | exact ops_Puts.mono _ _
      | exact LeO.none _
      | refine LeO.ite ?_ ?_
      | refine LeO.bind ?_ (fun _ => ?_)
    · intro y0 y1
      unfold gavottelaw1_OpsBalance.j3
      repeat' first
      | (with_reducible exact ih0 _ _)
      | (with_reducible exact ih1 _ _)
      | (with_reducible exact ih2 _ _)
      | (with_reducible exact ih3 _ _)
      | (with_reducible exact gavottelaw1_awake.mono _)
      | (with_reducible exact ops_Operand.mono _ _)
      | (with_reducible exact ops_Pops.mono _ _)
      | (with_reducible exact ops_Puts.mono _ _)
      | (with_reducible exact LeO.refl _)
      | (with_reducible exact LeO.none _)
      | (with_reducible refine LeO.ite ?_ ?_)
      | (with_reducible refine LeO.bind ?_ (fun _ => ?_))
      | exact ih0 _ _
      | exact ih1 _ _
      | exact ih2 _ _
      | exact ih3 _ _
      | exact gavottelaw1_awake.mono _
      | exact ops_Operand.mono _ _
      | exact ops_Pops.mono _ _
      | exact ops_Puts.mono _ _
      | exact LeO.none _
      | refine LeO.ite ?_ ?_
      | refine LeO.bind ?_ (fun _ => ?_)
theorem gavottelaw1_OpsBalance.mono : ∀ a0 k, LeO (gavottelaw1_OpsBalance.f k a0) (gavottelaw1_OpsBalance.f (k + 1) a0) := by
  intro a0 k
  obtain ⟨ih0, ih1, ih2, ih3⟩ := gavottelaw1_OpsBalance.mono_l k
  unfold gavottelaw1_OpsBalance.f
  repeat' first
      | (with_reducible exact ih0 _ _)
      | (with_reducible exact ih1 _ _)
      | (with_reducible exact ih2 _ _)
      | (with_reducible exact ih3 _ _)
      | (with_reducible exact gavottelaw1_awake.mono _)
      | (with_reducible exact ops_Operand.mono _ _)
      | (with_reducible exact ops_Pops.mono _ _)
      | (with_reducible exact ops_Puts.mono _ _)
      | (with_reducible exact LeO.refl _)
      | (with_reducible exact LeO.none _)
      | (with_reducible refine LeO.ite ?_ ?_)
      | (with_reducible refine LeO.bind ?_ (fun _ => ?_))
      | exact ih0 _ _
      | exact ih1 _ _
      | exact ih2 _ _
      | exact ih3 _ _
      | exact gavottelaw1_awake.mono _
      | exact ops_Operand.mono _ _
      | exact ops_Pops.mono _ _
      | exact ops_Puts.mono _ _
      | exact LeO.none _
      | refine LeO.ite ?_ ?_
      | refine LeO.bind ?_ (fun _ => ?_)
set_option maxHeartbeats 8000000 in
set_option maxRecDepth 100000 in
theorem gavottelaw1_OpsBalance.calls (k : Nat) (a0 : Int) (r : Bool) (w : World) (HG_ : Aside0 (GW w)) (h : gavottelaw1_OpsBalance.f k a0 = some r) :
    Calls Tryd.prog 5 #[.int .i64 a0] w fun e w' => e = .returned (.bool r) ∧ Below w.heap.size w w' := by
  have HB := Aside0.mk (Below.refl w.heap.size w)
  have H : ((ops_Valid.f a0).bind fun t175 => (if t175 = true then (if a0 ≥ 9 then (if a0 ≤ 13 then (gavottelaw1_OpsBalance.j0 k a0 true) else (if a0 ≥ 15 then (gavottelaw1_OpsBalance.j0 k a0 (decide (a0 ≤ 18))) else (gavottelaw1_OpsBalance.j0 k a0 false))) else (if a0 ≥ 15 then (gavottelaw1_OpsBalance.j0 k a0 (decide (a0 ≤ 18))) else (gavottelaw1_OpsBalance.j0 k a0 false))) else ((ops_Pops.f k a0).bind fun t176 => (if t176 = 0 then ((ops_Puts.f k a0).bind fun t177 => (if t177 = 0 then ((ops_Operand.f k a0).bind fun t178 => (if t178 = 0 then ((gavottelaw1_awake.f k).bind fun t179 => (some t179)) else (some false))) else (some false))) else (some false))))) = some r := h
  clear h
  replace H := Option.bind_eq_some_iff.mp H
  obtain ⟨t175, A20, H⟩ := H
  replace H : (if t175 = true then (if a0 ≥ 9 then (if a0 ≤ 13 then (gavottelaw1_OpsBalance.j0 k a0 true) else (if a0 ≥ 15 then (gavottelaw1_OpsBalance.j0 k a0 (decide (a0 ≤ 18))) else (gavottelaw1_OpsBalance.j0 k a0 false))) else (if a0 ≥ 15 then (gavottelaw1_OpsBalance.j0 k a0 (decide (a0 ≤ 18))) else (gavottelaw1_OpsBalance.j0 k a0 false))) else ((ops_Pops.f k a0).bind fun t176 => (if t176 = 0 then ((ops_Puts.f k a0).bind fun t177 => (if t177 = 0 then ((ops_Operand.f k a0).bind fun t178 => (if t178 = 0 then ((gavottelaw1_awake.f k).bind fun t179 => (some t179)) else (some false))) else (some false))) else (some false)))) = some r := H
  have A2 := Aside0.mk A20
  clear A20
  by_cases c3 : t175 = true
  · subst c3
    have H1 : (if a0 ≥ 9 then (if a0 ≤ 13 then (gavottelaw1_OpsBalance.j0 k a0 true) else (if a0 ≥ 15 then (gavottelaw1_OpsBalance.j0 k a0 (decide (a0 ≤ 18))) else (gavottelaw1_OpsBalance.j0 k a0 false))) else (if a0 ≥ 15 then (gavottelaw1_OpsBalance.j0 k a0 (decide (a0 ≤ 18))) else (gavottelaw1_OpsBalance.j0 k a0 false))) = some r := by rw [if_pos rfl] at H; exact H
    clear H
    have H := H1
    clear H1
    have HC4 := Aside0.mk H
    clear H
    go_enter Tryd.func5, Tryd.ntmps5
    go_upto_region 3 with (first | ((with_reducible refine gate_callee (f := 9) rfl ?_); refine goesL_ (some 4) rfl rfl Tryd.func9 (by kernel_rfl) rfl #[.int .i64 a0] rfl (by (try simp only [List.map_toArray, List.map_cons, List.map_nil]); first | done | rfl | (simp only [List.length_drop, List.length_take]; rfl)) ?_; (with_reducible refine (ops_Valid.calls a0 true _ A2.out).mono ?_); rintro e w' ⟨rfl, ⟨nd, rfl⟩⟩; refine ⟨_, rfl, ?_⟩))
    (try simp only [Act.put, List.setIfInBounds_toArray, List.set_cons_zero, List.set_cons_succ])
    go_cut [22] (fun v22 wc => ∃ (kq : Nat) (x22_3 : Bool), v22 = .bool x22_3 ∧ Aside0 (gavottelaw1_OpsBalance.j0 kq a0 x22_3 = some r) ∧ Aside0 (kq ≤ k) ∧ Aside0 (Below w.heap.size w wc))
    case first =>
      have H := HC4.out
      clear HC4
      by_cases c5 : a0 ≥ 9
      · rw [if_pos c5] at H
        have c5b0 : decide (9 ≤ a0) = true := decide_eq_true c5
        clear c5
        (first | rw [c5b0] | (simp only [i64_w, i32_w]; rw [c5b0]) | skip)
        by_cases c6 : a0 ≤ 13
        · rw [if_pos c6] at H
          have c6b0 : decide (a0 ≤ 13) = true := decide_eq_true c6
          clear c6
          have H' := Aside0.mk H
          clear H
          go_wp2
          go_meet
          case rel => exact ⟨_, (true), (by first | rfl | (simp; done) | (simp [*]; done) | (simp [xk_bne_nil]; done) | (simp [xk_bne_nil, *]; done)), H', ⟨by first | omega | exact Nat.le_refl _⟩, ⟨by repeat (first | (with_reducible first | exact HB.out | apply below_alloc | apply pw_below_drewN | apply below_drew1) | exact HB.out)⟩⟩
        · rw [if_neg c6] at H
          have c6b0 : decide (a0 ≤ 13) = false := decide_eq_false c6
          clear c6
          by_cases c7 : a0 ≥ 15
          · rw [if_pos c7] at H
            have c7b0 : decide (15 ≤ a0) = true := decide_eq_true c7
            clear c7
            have H' := Aside0.mk H
            clear H
            go_wp2
            go_meet
            case rel => exact ⟨_, (decide (a0 ≤ 18)), (by first | rfl | (simp; done) | (simp [*]; done) | (simp [xk_bne_nil]; done) | (simp [xk_bne_nil, *]; done)), H', ⟨by first | omega | exact Nat.le_refl _⟩, ⟨by repeat (first | (with_reducible first | exact HB.out | apply below_alloc | apply pw_below_drewN | apply below_drew1) | exact HB.out)⟩⟩
          · rw [if_neg c7] at H
            have c7b0 : decide (15 ≤ a0) = false := decide_eq_false c7
            clear c7
            have H' := Aside0.mk H
            clear H
            go_wp2
            go_meet
            case rel => exact ⟨_, (false), (by first | rfl | (simp; done) | (simp [*]; done) | (simp [xk_bne_nil]; done) | (simp [xk_bne_nil, *]; done)), H', ⟨by first | omega | exact Nat.le_refl _⟩, ⟨by repeat (first | (with_reducible first | exact HB.out | apply below_alloc | apply pw_below_drewN | apply below_drew1) | exact HB.out)⟩⟩
      · rw [if_neg c5] at H
        have c5b0 : decide (9 ≤ a0) = false := decide_eq_false c5
        clear c5
        (first | rw [c5b0] | (simp only [i64_w, i32_w]; rw [c5b0]) | skip)
        by_cases c8 : a0 ≥ 15
        · rw [if_pos c8] at H
          have c8b0 : decide (15 ≤ a0) = true := decide_eq_true c8
          clear c8
          have H' := Aside0.mk H
          clear H
          go_wp2
          go_meet
          case rel => exact ⟨_, (decide (a0 ≤ 18)), (by first | rfl | (simp; done) | (simp [*]; done) | (simp [xk_bne_nil]; done) | (simp [xk_bne_nil, *]; done)), H', ⟨by first | omega | exact Nat.le_refl _⟩, ⟨by repeat (first | (with_reducible first | exact HB.out | apply below_alloc | apply pw_below_drewN | apply below_drew1) | exact HB.out)⟩⟩
        · rw [if_neg c8] at H
          have c8b0 : decide (15 ≤ a0) = false := decide_eq_false c8
          clear c8
          have H' := Aside0.mk H
          clear H
          go_wp2
          go_meet
          case rel => exact ⟨_, (false), (by first | rfl | (simp; done) | (simp [*]; done) | (simp [xk_bne_nil]; done) | (simp [xk_bne_nil, *]; done)), H', ⟨by first | omega | exact Nat.le_refl _⟩, ⟨by repeat (first | (with_reducible first | exact HB.out | apply below_alloc | apply pw_below_drewN | apply below_drew1) | exact HB.out)⟩⟩
    case rest =>
      clear HC4
      try clear p2
      try clear c3
      try clear c5
      try clear c5b0
      try clear c6
      try clear c6b0
      try clear c7
      try clear c7b0
      try clear c8
      try clear c8b0
      obtain ⟨kq, x22_3, rfl, HA, HJ3, HB⟩ := hcut
      cases kq with
      | zero => exact absurd HA.out (by simp [gavottelaw1_OpsBalance.j0])
      | succ kj3 =>
        have H := HA.out
        clear HA
        simp only [gavottelaw1_OpsBalance.j0] at H
        by_cases c9 : x22_3 = true
        · subst c9
          have H1 : ((ops_Pops.f kj3 a0).bind fun t180 => (if t180 = 2 then ((ops_Puts.f kj3 a0).bind fun t181 => (if t181 = 1 then ((ops_Operand.f kj3 a0).bind fun t182 => (if t182 = 0 then ((gavottelaw1_awake.f kj3).bind fun t183 => (some t183)) else (some false))) else (some false))) else (some false))) = some r := by rw [if_pos rfl] at H; exact H
          clear H
          have H := H1
          clear H1
          replace H := Option.bind_eq_some_iff.mp H
          obtain ⟨t180, A100, H⟩ := H
          replace H : (if t180 = 2 then ((ops_Puts.f kj3 a0).bind fun t181 => (if t181 = 1 then ((ops_Operand.f kj3 a0).bind fun t182 => (if t182 = 0 then ((gavottelaw1_awake.f kj3).bind fun t183 => (some t183)) else (some false))) else (some false))) else (some false)) = some r := H
          have A10 := Aside0.mk A100
          clear A100
          by_cases c11 : t180 = 2
          · rw [if_pos c11] at H
            have c11b0 : (t180 == 2) = true := beq_iff_eq.mpr c11
            have c11b1 : (t180 != 2) = false := bne_eq_false_iff_eq.mpr c11
            clear c11
            replace H := Option.bind_eq_some_iff.mp H
            obtain ⟨t181, A120, H⟩ := H
            replace H : (if t181 = 1 then ((ops_Operand.f kj3 a0).bind fun t182 => (if t182 = 0 then ((gavottelaw1_awake.f kj3).bind fun t183 => (some t183)) else (some false))) else (some false)) = some r := H
            have A12 := Aside0.mk A120
            clear A120
            by_cases c13 : t181 = 1
            · rw [if_pos c13] at H
              have c13b0 : (t181 == 1) = true := beq_iff_eq.mpr c13
              have c13b1 : (t181 != 1) = false := bne_eq_false_iff_eq.mpr c13
              clear c13
              replace H := Option.bind_eq_some_iff.mp H
              obtain ⟨t182, A140, H⟩ := H
              replace H : (if t182 = 0 then ((gavottelaw1_awake.f kj3).bind fun t183 => (some t183)) else (some false)) = some r := H
              have A14 := Aside0.mk A140
              clear A140
              by_cases c15 : t182 = 0
              · rw [if_pos c15] at H
                have c15b0 : (t182 == 0) = true := beq_iff_eq.mpr c15
                have c15b1 : (t182 != 0) = false := bne_eq_false_iff_eq.mpr c15
                clear c15
                replace H := Option.bind_eq_some_iff.mp H
                obtain ⟨t183, A160, H⟩ := H
                replace H : (some t183) = some r := H
                have A16 := Aside0.mk A160
                clear A160
                obtain rfl := Option.some.inj H
                go_wp2_with (first | ((with_reducible refine gate_callee (f := 13) rfl ?_); refine goesL_ (some 38) rfl rfl Tryd.func13 (by kernel_rfl) rfl #[.int .i64 a0] rfl (by (try simp only [List.map_toArray, List.map_cons, List.map_nil]); first | done | rfl | (simp only [List.length_drop, List.length_take]; rfl)) ?_; (with_reducible refine (ops_Pops.calls kj3 a0 t180 _ A10.out).mono ?_); rintro e w' ⟨rfl, ⟨nd, rfl⟩⟩; refine ⟨_, rfl, ?_⟩) | (go_at_call 15; (with_reducible refine (ops_Puts.calls kj3 a0 t181 _ A12.out).mono ?_); rintro e w' ⟨rfl, ⟨nd, rfl⟩⟩) | (go_at_call 17; (with_reducible refine (ops_Operand.calls kj3 a0 t182 _ A14.out).mono ?_); rintro e w' ⟨rfl, ⟨nd, rfl⟩⟩) | (go_at_call 6; (with_reducible refine (gavottelaw1_awake.calls kj3  t183 _ (by exact ⟨GW.below HG_.out (by repeat (first | (with_reducible first | exact HB.out | apply below_alloc | apply pw_below_drewN | apply below_drew1) | exact HB.out))⟩)  A16.out).mono ?_); rintro e w17 ⟨rfl, hb⟩; have n0_ := Aside0.mk (below_step (by repeat (first | (with_reducible first | exact HB.out | apply below_alloc | apply pw_below_drewN | apply below_drew1) | exact HB.out)) hb); clear HB; have HB := n0_; clear n0_; (try clear hb); (try clear hb2); (try clear hk); (try clear hi)))
                go_ret
                exact ⟨by first | rfl | (simp [errW_none, errW_some] <;> rfl) | (simp [*, errW_none, errW_some] <;> rfl), by repeat (first | (with_reducible first | exact HB.out | apply below_alloc | apply pw_below_drewN | apply below_drew1) | exact HB.out)⟩
              · rw [if_neg c15] at H
                have c15b0 : (t182 == 0) = false := beq_eq_false_iff_ne.mpr c15
                have c15b1 : (t182 != 0) = true := bne_iff_ne.mpr c15
                obtain rfl := Option.some.inj H
                go_wp2_with (first | ((with_reducible refine gate_callee (f := 13) rfl ?_); refine goesL_ (some 38) rfl rfl Tryd.func13 (by kernel_rfl) rfl #[.int .i64 a0] rfl (by (try simp only [List.map_toArray, List.map_cons, List.map_nil]); first | done | rfl | (simp only [List.length_drop, List.length_take]; rfl)) ?_; (with_reducible refine (ops_Pops.calls kj3 a0 t180 _ A10.out).mono ?_); rintro e w' ⟨rfl, ⟨nd, rfl⟩⟩; refine ⟨_, rfl, ?_⟩) | (go_at_call 15; (with_reducible refine (ops_Puts.calls kj3 a0 t181 _ A12.out).mono ?_); rintro e w' ⟨rfl, ⟨nd, rfl⟩⟩) | (go_at_call 17; (with_reducible refine (ops_Operand.calls kj3 a0 t182 _ A14.out).mono ?_); rintro e w' ⟨rfl, ⟨nd, rfl⟩⟩))
                go_ret
                exact ⟨by first | rfl | (simp [errW_none, errW_some] <;> rfl) | (simp [*, errW_none, errW_some] <;> rfl), by repeat (first | (with_reducible first | exact HB.out | apply below_alloc | apply pw_below_drewN | apply below_drew1) | exact HB.out)⟩
            · rw [if_neg c13] at H
              have c13b0 : (t181 == 1) = false := beq_eq_false_iff_ne.mpr c13
              have c13b1 : (t181 != 1) = true := bne_iff_ne.mpr c13
              obtain rfl := Option.some.inj H
              go_wp2_with (first | ((with_reducible refine gate_callee (f := 13) rfl ?_); refine goesL_ (some 38) rfl rfl Tryd.func13 (by kernel_rfl) rfl #[.int .i64 a0] rfl (by (try simp only [List.map_toArray, List.map_cons, List.map_nil]); first | done | rfl | (simp only [List.length_drop, List.length_take]; rfl)) ?_; (with_reducible refine (ops_Pops.calls kj3 a0 t180 _ A10.out).mono ?_); rintro e w' ⟨rfl, ⟨nd, rfl⟩⟩; refine ⟨_, rfl, ?_⟩) | (go_at_call 15; (with_reducible refine (ops_Puts.calls kj3 a0 t181 _ A12.out).mono ?_); rintro e w' ⟨rfl, ⟨nd, rfl⟩⟩))
              go_ret
              exact ⟨by first | rfl | (simp [errW_none, errW_some] <;> rfl) | (simp [*, errW_none, errW_some] <;> rfl), by repeat (first | (with_reducible first | exact HB.out | apply below_alloc | apply pw_below_drewN | apply below_drew1) | exact HB.out)⟩
          · rw [if_neg c11] at H
            have c11b0 : (t180 == 2) = false := beq_eq_false_iff_ne.mpr c11
            have c11b1 : (t180 != 2) = true := bne_iff_ne.mpr c11
            obtain rfl := Option.some.inj H
            go_wp2_with (first | ((with_reducible refine gate_callee (f := 13) rfl ?_); refine goesL_ (some 38) rfl rfl Tryd.func13 (by kernel_rfl) rfl #[.int .i64 a0] rfl (by (try simp only [List.map_toArray, List.map_cons, List.map_nil]); first | done | rfl | (simp only [List.length_drop, List.length_take]; rfl)) ?_; (with_reducible refine (ops_Pops.calls kj3 a0 t180 _ A10.out).mono ?_); rintro e w' ⟨rfl, ⟨nd, rfl⟩⟩; refine ⟨_, rfl, ?_⟩))
            go_ret
            exact ⟨by first | rfl | (simp [errW_none, errW_some] <;> rfl) | (simp [*, errW_none, errW_some] <;> rfl), by repeat (first | (with_reducible first | exact HB.out | apply below_alloc | apply pw_below_drewN | apply below_drew1) | exact HB.out)⟩
        · replace c9 := Bool.eq_false_iff.mpr c9
          subst c9
          have H1 : (if a0 = 14 then (gavottelaw1_OpsBalance.j1 kj3 a0 true) else (gavottelaw1_OpsBalance.j1 kj3 a0 (a0 == 19))) = some r := by rw [if_neg (show ¬ (false = true) by decide)] at H; exact H
          clear H
          have H := H1
          clear H1
          have HC18 := Aside0.mk H
          clear H
          go_upto_region 5 with (fail)
          go_cut [53] (fun v53 wc => ∃ (kq : Nat) (x53_17 : Bool), v53 = .bool x53_17 ∧ Aside0 (gavottelaw1_OpsBalance.j1 kq a0 x53_17 = some r) ∧ Aside0 (kq ≤ kj3) ∧ Aside0 (Below w.heap.size w wc))
          case first =>
            have H := HC18.out
            clear HC18
            by_cases c19 : a0 = 14
            · rw [if_pos c19] at H
              have c19b0 : (a0 == 14) = true := beq_iff_eq.mpr c19
              have c19b1 : (a0 != 14) = false := bne_eq_false_iff_eq.mpr c19
              clear c19
              (first | rw [c19b0] | (simp only [i64_w, i32_w]; rw [c19b0]) | skip)
              have H' := Aside0.mk H
              clear H
              go_wp2
              go_meet
              case rel => exact ⟨_, (true), (by first | rfl | (simp; done) | (simp [*]; done) | (simp [xk_bne_nil]; done) | (simp [xk_bne_nil, *]; done)), H', ⟨by have := HJ3.out; first | omega | exact Nat.le_refl _⟩, ⟨by repeat (first | (with_reducible first | exact HB.out | apply below_alloc | apply pw_below_drewN | apply below_drew1) | exact HB.out)⟩⟩
            · rw [if_neg c19] at H
              have c19b0 : (a0 == 14) = false := beq_eq_false_iff_ne.mpr c19
              have c19b1 : (a0 != 14) = true := bne_iff_ne.mpr c19
              (first | rw [c19b0] | (simp only [i64_w, i32_w]; rw [c19b0]) | skip)
              have H' := Aside0.mk H
              clear H
              go_wp2
              go_meet
              case rel => exact ⟨_, ((a0 == 19)), (by first | rfl | (simp; done) | (simp [*]; done) | (simp [xk_bne_nil]; done) | (simp [xk_bne_nil, *]; done)), H', ⟨by have := HJ3.out; first | omega | exact Nat.le_refl _⟩, ⟨by repeat (first | (with_reducible first | exact HB.out | apply below_alloc | apply pw_below_drewN | apply below_drew1) | exact HB.out)⟩⟩
          case rest =>
            clear HC18
            try clear c1
            try clear p2
            try clear c3
            try clear c5
            try clear c5b0
            try clear c6
            try clear c6b0
            try clear c7
            try clear c7b0
            try clear c8
            try clear c8b0
            try clear c9
            try clear c11
            try clear c11b0
            try clear c11b1
            try clear c13
            try clear c13b0
            try clear c13b1
            try clear c15
            try clear c15b0
            try clear c15b1
            try clear c19
            try clear c19b0
            try clear c19b1
            try clear p2
            obtain ⟨kq, x53_17, rfl, HA, HJ17, HB⟩ := hcut
            cases kq with
            | zero => exact absurd HA.out (by simp [gavottelaw1_OpsBalance.j1])
            | succ kj17 =>
              have H := HA.out
              clear HA
              simp only [gavottelaw1_OpsBalance.j1] at H
              by_cases c20 : x53_17 = true
              · subst c20
                have H1 : ((ops_Pops.f kj17 a0).bind fun t184 => (if t184 = 1 then ((ops_Puts.f kj17 a0).bind fun t185 => (if t185 = 1 then ((ops_Operand.f kj17 a0).bind fun t186 => (if t186 = 0 then ((gavottelaw1_awake.f kj17).bind fun t187 => (some t187)) else (some false))) else (some false))) else (some false))) = some r := by rw [if_pos rfl] at H; exact H
                clear H
                have H := H1
                clear H1
                replace H := Option.bind_eq_some_iff.mp H
                obtain ⟨t184, A210, H⟩ := H
                replace H : (if t184 = 1 then ((ops_Puts.f kj17 a0).bind fun t185 => (if t185 = 1 then ((ops_Operand.f kj17 a0).bind fun t186 => (if t186 = 0 then ((gavottelaw1_awake.f kj17).bind fun t187 => (some t187)) else (some false))) else (some false))) else (some false)) = some r := H
                have A21 := Aside0.mk A210
                clear A210
                by_cases c22 : t184 = 1
                · rw [if_pos c22] at H
                  have c22b0 : (t184 == 1) = true := beq_iff_eq.mpr c22
                  have c22b1 : (t184 != 1) = false := bne_eq_false_iff_eq.mpr c22
                  clear c22
                  replace H := Option.bind_eq_some_iff.mp H
                  obtain ⟨t185, A230, H⟩ := H
                  replace H : (if t185 = 1 then ((ops_Operand.f kj17 a0).bind fun t186 => (if t186 = 0 then ((gavottelaw1_awake.f kj17).bind fun t187 => (some t187)) else (some false))) else (some false)) = some r := H
                  have A23 := Aside0.mk A230
                  clear A230
                  by_cases c24 : t185 = 1
                  · rw [if_pos c24] at H
                    have c24b0 : (t185 == 1) = true := beq_iff_eq.mpr c24
                    have c24b1 : (t185 != 1) = false := bne_eq_false_iff_eq.mpr c24
                    clear c24
                    replace H := Option.bind_eq_some_iff.mp H
                    obtain ⟨t186, A250, H⟩ := H
                    replace H : (if t186 = 0 then ((gavottelaw1_awake.f kj17).bind fun t187 => (some t187)) else (some false)) = some r := H
                    have A25 := Aside0.mk A250
                    clear A250
                    by_cases c26 : t186 = 0
                    · rw [if_pos c26] at H
                      have c26b0 : (t186 == 0) = true := beq_iff_eq.mpr c26
                      have c26b1 : (t186 != 0) = false := bne_eq_false_iff_eq.mpr c26
                      clear c26
                      replace H := Option.bind_eq_some_iff.mp H
                      obtain ⟨t187, A270, H⟩ := H
                      replace H : (some t187) = some r := H
                      have A27 := Aside0.mk A270
                      clear A270
                      obtain rfl := Option.some.inj H
                      go_wp2_with (first | ((with_reducible refine gate_callee (f := 13) rfl ?_); refine goesL_ (some 61) rfl rfl Tryd.func13 (by kernel_rfl) rfl #[.int .i64 a0] rfl (by (try simp only [List.map_toArray, List.map_cons, List.map_nil]); first | done | rfl | (simp only [List.length_drop, List.length_take]; rfl)) ?_; (with_reducible refine (ops_Pops.calls kj17 a0 t184 _ A21.out).mono ?_); rintro e w' ⟨rfl, ⟨nd, rfl⟩⟩; refine ⟨_, rfl, ?_⟩) | (go_at_call 15; (with_reducible refine (ops_Puts.calls kj17 a0 t185 _ A23.out).mono ?_); rintro e w' ⟨rfl, ⟨nd, rfl⟩⟩) | (go_at_call 17; (with_reducible refine (ops_Operand.calls kj17 a0 t186 _ A25.out).mono ?_); rintro e w' ⟨rfl, ⟨nd, rfl⟩⟩) | (go_at_call 6; (with_reducible refine (gavottelaw1_awake.calls kj17  t187 _ (by exact ⟨GW.below HG_.out (by repeat (first | (with_reducible first | exact HB.out | apply below_alloc | apply pw_below_drewN | apply below_drew1) | exact HB.out))⟩)  A27.out).mono ?_); rintro e w28 ⟨rfl, hb⟩; have n0_ := Aside0.mk (below_step (by repeat (first | (with_reducible first | exact HB.out | apply below_alloc | apply pw_below_drewN | apply below_drew1) | exact HB.out)) hb); clear HB; have HB := n0_; clear n0_; (try clear hb); (try clear hb2); (try clear hk); (try clear hi)))
                      go_ret
                      exact ⟨by first | rfl | (simp [errW_none, errW_some] <;> rfl) | (simp [*, errW_none, errW_some] <;> rfl), by repeat (first | (with_reducible first | exact HB.out | apply below_alloc | apply pw_below_drewN | apply below_drew1) | exact HB.out)⟩
                    · rw [if_neg c26] at H
                      have c26b0 : (t186 == 0) = false := beq_eq_false_iff_ne.mpr c26
                      have c26b1 : (t186 != 0) = true := bne_iff_ne.mpr c26
                      obtain rfl := Option.some.inj H
                      go_wp2_with (first | ((with_reducible refine gate_callee (f := 13) rfl ?_); refine goesL_ (some 61) rfl rfl Tryd.func13 (by kernel_rfl) rfl #[.int .i64 a0] rfl (by (try simp only [List.map_toArray, List.map_cons, List.map_nil]); first | done | rfl | (simp only [List.length_drop, List.length_take]; rfl)) ?_; (with_reducible refine (ops_Pops.calls kj17 a0 t184 _ A21.out).mono ?_); rintro e w' ⟨rfl, ⟨nd, rfl⟩⟩; refine ⟨_, rfl, ?_⟩) | (go_at_call 15; (with_reducible refine (ops_Puts.calls kj17 a0 t185 _ A23.out).mono ?_); rintro e w' ⟨rfl, ⟨nd, rfl⟩⟩) | (go_at_call 17; (with_reducible refine (ops_Operand.calls kj17 a0 t186 _ A25.out).mono ?_); rintro e w' ⟨rfl, ⟨nd, rfl⟩⟩))
                      go_ret
                      exact ⟨by first | rfl | (simp [errW_none, errW_some] <;> rfl) | (simp [*, errW_none, errW_some] <;> rfl), by repeat (first | (with_reducible first | exact HB.out | apply below_alloc | apply pw_below_drewN | apply below_drew1) | exact HB.out)⟩
                  · rw [if_neg c24] at H
                    have c24b0 : (t185 == 1) = false := beq_eq_false_iff_ne.mpr c24
                    have c24b1 : (t185 != 1) = true := bne_iff_ne.mpr c24
                    obtain rfl := Option.some.inj H
                    go_wp2_with (first | ((with_reducible refine gate_callee (f := 13) rfl ?_); refine goesL_ (some 61) rfl rfl Tryd.func13 (by kernel_rfl) rfl #[.int .i64 a0] rfl (by (try simp only [List.map_toArray, List.map_cons, List.map_nil]); first | done | rfl | (simp only [List.length_drop, List.length_take]; rfl)) ?_; (with_reducible refine (ops_Pops.calls kj17 a0 t184 _ A21.out).mono ?_); rintro e w' ⟨rfl, ⟨nd, rfl⟩⟩; refine ⟨_, rfl, ?_⟩) | (go_at_call 15; (with_reducible refine (ops_Puts.calls kj17 a0 t185 _ A23.out).mono ?_); rintro e w' ⟨rfl, ⟨nd, rfl⟩⟩))
                    go_ret
                    exact ⟨by first | rfl | (simp [errW_none, errW_some] <;> rfl) | (simp [*, errW_none, errW_some] <;> rfl), by repeat (first | (with_reducible first | exact HB.out | apply below_alloc | apply pw_below_drewN | apply below_drew1) | exact HB.out)⟩
                · rw [if_neg c22] at H
                  have c22b0 : (t184 == 1) = false := beq_eq_false_iff_ne.mpr c22
                  have c22b1 : (t184 != 1) = true := bne_iff_ne.mpr c22
                  obtain rfl := Option.some.inj H
                  go_wp2_with (first | ((with_reducible refine gate_callee (f := 13) rfl ?_); refine goesL_ (some 61) rfl rfl Tryd.func13 (by kernel_rfl) rfl #[.int .i64 a0] rfl (by (try simp only [List.map_toArray, List.map_cons, List.map_nil]); first | done | rfl | (simp only [List.length_drop, List.length_take]; rfl)) ?_; (with_reducible refine (ops_Pops.calls kj17 a0 t184 _ A21.out).mono ?_); rintro e w' ⟨rfl, ⟨nd, rfl⟩⟩; refine ⟨_, rfl, ?_⟩))
                  go_ret
                  exact ⟨by first | rfl | (simp [errW_none, errW_some] <;> rfl) | (simp [*, errW_none, errW_some] <;> rfl), by repeat (first | (with_reducible first | exact HB.out | apply below_alloc | apply pw_below_drewN | apply below_drew1) | exact HB.out)⟩
              · replace c20 := Bool.eq_false_iff.mpr c20
                subst c20
                have H1 : (if a0 = 5 then (gavottelaw1_OpsBalance.j2 kj17 a0 true) else (gavottelaw1_OpsBalance.j2 kj17 a0 (a0 == 6))) = some r := by rw [if_neg (show ¬ (false = true) by decide)] at H; exact H
                clear H
                have H := H1
                clear H1
                have HC29 := Aside0.mk H
                clear H
                go_upto_region 7 with (fail)
                go_cut [76] (fun v76 wc => ∃ (kq : Nat) (x76_28 : Bool), v76 = .bool x76_28 ∧ Aside0 (gavottelaw1_OpsBalance.j2 kq a0 x76_28 = some r) ∧ Aside0 (kq ≤ kj17) ∧ Aside0 (Below w.heap.size w wc))
                case first =>
                  have H := HC29.out
                  clear HC29
                  by_cases c30 : a0 = 5
                  · rw [if_pos c30] at H
                    have c30b0 : (a0 == 5) = true := beq_iff_eq.mpr c30
                    have c30b1 : (a0 != 5) = false := bne_eq_false_iff_eq.mpr c30
                    clear c30
                    (first | rw [c30b0] | (simp only [i64_w, i32_w]; rw [c30b0]) | skip)
                    have H' := Aside0.mk H
                    clear H
                    go_wp2
                    go_meet
                    case rel => exact ⟨_, (true), (by first | rfl | (simp; done) | (simp [*]; done) | (simp [xk_bne_nil]; done) | (simp [xk_bne_nil, *]; done)), H', ⟨by have := HJ3.out; have := HJ17.out; first | omega | exact Nat.le_refl _⟩, ⟨by repeat (first | (with_reducible first | exact HB.out | apply below_alloc | apply pw_below_drewN | apply below_drew1) | exact HB.out)⟩⟩
                  · rw [if_neg c30] at H
                    have c30b0 : (a0 == 5) = false := beq_eq_false_iff_ne.mpr c30
                    have c30b1 : (a0 != 5) = true := bne_iff_ne.mpr c30
                    (first | rw [c30b0] | (simp only [i64_w, i32_w]; rw [c30b0]) | skip)
                    have H' := Aside0.mk H
                    clear H
                    go_wp2
                    go_meet
                    case rel => exact ⟨_, ((a0 == 6)), (by first | rfl | (simp; done) | (simp [*]; done) | (simp [xk_bne_nil]; done) | (simp [xk_bne_nil, *]; done)), H', ⟨by have := HJ3.out; have := HJ17.out; first | omega | exact Nat.le_refl _⟩, ⟨by repeat (first | (with_reducible first | exact HB.out | apply below_alloc | apply pw_below_drewN | apply below_drew1) | exact HB.out)⟩⟩
                case rest =>
                  clear HC29
                  try clear c1
                  try clear c2
                  try clear p2
                  try clear c3
                  try clear c5
                  try clear c5b0
                  try clear c6
                  try clear c6b0
                  try clear c7
                  try clear c7b0
                  try clear c8
                  try clear c8b0
                  try clear c9
                  try clear c11
                  try clear c11b0
                  try clear c11b1
                  try clear c13
                  try clear c13b0
                  try clear c13b1
                  try clear c15
                  try clear c15b0
                  try clear c15b1
                  try clear c19
                  try clear c19b0
                  try clear c19b1
                  try clear c20
                  try clear c22
                  try clear c22b0
                  try clear c22b1
                  try clear c24
                  try clear c24b0
                  try clear c24b1
                  try clear c26
                  try clear c26b0
                  try clear c26b1
                  try clear c30
                  try clear c30b0
                  try clear c30b1
                  try clear p2
                  obtain ⟨kq, x76_28, rfl, HA, HJ28, HB⟩ := hcut
                  cases kq with
                  | zero => exact absurd HA.out (by simp [gavottelaw1_OpsBalance.j2])
                  | succ kj28 =>
                    have H := HA.out
                    clear HA
                    simp only [gavottelaw1_OpsBalance.j2] at H
                    by_cases c31 : x76_28 = true
                    · subst c31
                      have H1 : ((ops_Operand.f kj28 a0).bind fun t188 => (if t188 = 2 then ((ops_Pops.f kj28 a0).bind fun t189 => ((ops_Puts.f kj28 a0).bind fun t190 => (if (wrap64 (t189 + t190)) = 1 then ((gavottelaw1_awake.f kj28).bind fun t191 => (some t191)) else (some false)))) else (some false))) = some r := by rw [if_pos rfl] at H; exact H
                      clear H
                      have H := H1
                      clear H1
                      replace H := Option.bind_eq_some_iff.mp H
                      obtain ⟨t188, A320, H⟩ := H
                      replace H : (if t188 = 2 then ((ops_Pops.f kj28 a0).bind fun t189 => ((ops_Puts.f kj28 a0).bind fun t190 => (if (wrap64 (t189 + t190)) = 1 then ((gavottelaw1_awake.f kj28).bind fun t191 => (some t191)) else (some false)))) else (some false)) = some r := H
                      have A32 := Aside0.mk A320
                      clear A320
                      by_cases c33 : t188 = 2
                      · rw [if_pos c33] at H
                        have c33b0 : (t188 == 2) = true := beq_iff_eq.mpr c33
                        have c33b1 : (t188 != 2) = false := bne_eq_false_iff_eq.mpr c33
                        clear c33
                        replace H := Option.bind_eq_some_iff.mp H
                        obtain ⟨t189, A340, H⟩ := H
                        replace H : ((ops_Puts.f kj28 a0).bind fun t190 => (if (wrap64 (t189 + t190)) = 1 then ((gavottelaw1_awake.f kj28).bind fun t191 => (some t191)) else (some false))) = some r := H
                        have A34 := Aside0.mk A340
                        clear A340
                        replace H := Option.bind_eq_some_iff.mp H
                        obtain ⟨t190, A350, H⟩ := H
                        replace H : (if (wrap64 (t189 + t190)) = 1 then ((gavottelaw1_awake.f kj28).bind fun t191 => (some t191)) else (some false)) = some r := H
                        have A35 := Aside0.mk A350
                        clear A350
                        by_cases c36 : (wrap64 (t189 + t190)) = 1
                        · rw [if_pos c36] at H
                          have c36b0 : ((wrap64 (t189 + t190)) == 1) = true := beq_iff_eq.mpr c36
                          have c36b1 : ((wrap64 (t189 + t190)) != 1) = false := bne_eq_false_iff_eq.mpr c36
                          clear c36
                          replace H := Option.bind_eq_some_iff.mp H
                          obtain ⟨t191, A370, H⟩ := H
                          replace H : (some t191) = some r := H
                          have A37 := Aside0.mk A370
                          clear A370
                          obtain rfl := Option.some.inj H
                          go_wp2_with (first | ((with_reducible refine gate_callee (f := 17) rfl ?_); refine goesL_ (some 84) rfl rfl Tryd.func17 (by kernel_rfl) rfl #[.int .i64 a0] rfl (by (try simp only [List.map_toArray, List.map_cons, List.map_nil]); first | done | rfl | (simp only [List.length_drop, List.length_take]; rfl)) ?_; (with_reducible refine (ops_Operand.calls kj28 a0 t188 _ A32.out).mono ?_); rintro e w' ⟨rfl, ⟨nd, rfl⟩⟩; refine ⟨_, rfl, ?_⟩) | (go_at_call 13; (with_reducible refine (ops_Pops.calls kj28 a0 t189 _ A34.out).mono ?_); rintro e w' ⟨rfl, ⟨nd, rfl⟩⟩) | (go_at_call 15; (with_reducible refine (ops_Puts.calls kj28 a0 t190 _ A35.out).mono ?_); rintro e w' ⟨rfl, ⟨nd, rfl⟩⟩) | (go_at_call 6; (with_reducible refine (gavottelaw1_awake.calls kj28  t191 _ (by exact ⟨GW.below HG_.out (by repeat (first | (with_reducible first | exact HB.out | apply below_alloc | apply pw_below_drewN | apply below_drew1) | exact HB.out))⟩)  A37.out).mono ?_); rintro e w38 ⟨rfl, hb⟩; have n0_ := Aside0.mk (below_step (by repeat (first | (with_reducible first | exact HB.out | apply below_alloc | apply pw_below_drewN | apply below_drew1) | exact HB.out)) hb); clear HB; have HB := n0_; clear n0_; (try clear hb); (try clear hb2); (try clear hk); (try clear hi)))
                          go_ret
                          exact ⟨by first | rfl | (simp [errW_none, errW_some] <;> rfl) | (simp [*, errW_none, errW_some] <;> rfl), by repeat (first | (with_reducible first | exact HB.out | apply below_alloc | apply pw_below_drewN | apply below_drew1) | exact HB.out)⟩
                        · rw [if_neg c36] at H
                          have c36b0 : ((wrap64 (t189 + t190)) == 1) = false := beq_eq_false_iff_ne.mpr c36
                          have c36b1 : ((wrap64 (t189 + t190)) != 1) = true := bne_iff_ne.mpr c36
                          obtain rfl := Option.some.inj H
                          go_wp2_with (first | ((with_reducible refine gate_callee (f := 17) rfl ?_); refine goesL_ (some 84) rfl rfl Tryd.func17 (by kernel_rfl) rfl #[.int .i64 a0] rfl (by (try simp only [List.map_toArray, List.map_cons, List.map_nil]); first | done | rfl | (simp only [List.length_drop, List.length_take]; rfl)) ?_; (with_reducible refine (ops_Operand.calls kj28 a0 t188 _ A32.out).mono ?_); rintro e w' ⟨rfl, ⟨nd, rfl⟩⟩; refine ⟨_, rfl, ?_⟩) | (go_at_call 13; (with_reducible refine (ops_Pops.calls kj28 a0 t189 _ A34.out).mono ?_); rintro e w' ⟨rfl, ⟨nd, rfl⟩⟩) | (go_at_call 15; (with_reducible refine (ops_Puts.calls kj28 a0 t190 _ A35.out).mono ?_); rintro e w' ⟨rfl, ⟨nd, rfl⟩⟩))
                          go_ret
                          exact ⟨by first | rfl | (simp [errW_none, errW_some] <;> rfl) | (simp [*, errW_none, errW_some] <;> rfl), by repeat (first | (with_reducible first | exact HB.out | apply below_alloc | apply pw_below_drewN | apply below_drew1) | exact HB.out)⟩
                      · rw [if_neg c33] at H
                        have c33b0 : (t188 == 2) = false := beq_eq_false_iff_ne.mpr c33
                        have c33b1 : (t188 != 2) = true := bne_iff_ne.mpr c33
                        obtain rfl := Option.some.inj H
                        go_wp2_with (first | ((with_reducible refine gate_callee (f := 17) rfl ?_); refine goesL_ (some 84) rfl rfl Tryd.func17 (by kernel_rfl) rfl #[.int .i64 a0] rfl (by (try simp only [List.map_toArray, List.map_cons, List.map_nil]); first | done | rfl | (simp only [List.length_drop, List.length_take]; rfl)) ?_; (with_reducible refine (ops_Operand.calls kj28 a0 t188 _ A32.out).mono ?_); rintro e w' ⟨rfl, ⟨nd, rfl⟩⟩; refine ⟨_, rfl, ?_⟩))
                        go_ret
                        exact ⟨by first | rfl | (simp [errW_none, errW_some] <;> rfl) | (simp [*, errW_none, errW_some] <;> rfl), by repeat (first | (with_reducible first | exact HB.out | apply below_alloc | apply pw_below_drewN | apply below_drew1) | exact HB.out)⟩
                    · replace c31 := Bool.eq_false_iff.mpr c31
                      subst c31
                      have H1 : (if a0 = 20 then (gavottelaw1_OpsBalance.j3 kj28 a0 true) else (gavottelaw1_OpsBalance.j3 kj28 a0 (a0 == 21))) = some r := by rw [if_neg (show ¬ (false = true) by decide)] at H; exact H
                      clear H
                      have H := H1
                      clear H1
                      have HC39 := Aside0.mk H
                      clear H
                      go_upto_region 9 with (fail)
                      go_cut [97] (fun v97 wc => ∃ (kq : Nat) (x97_38 : Bool), v97 = .bool x97_38 ∧ Aside0 (gavottelaw1_OpsBalance.j3 kq a0 x97_38 = some r) ∧ Aside0 (kq ≤ kj28) ∧ Aside0 (Below w.heap.size w wc))
                      case first =>
                        have H := HC39.out
                        clear HC39
                        by_cases c40 : a0 = 20
                        · rw [if_pos c40] at H
                          have c40b0 : (a0 == 20) = true := beq_iff_eq.mpr c40
                          have c40b1 : (a0 != 20) = false := bne_eq_false_iff_eq.mpr c40
                          clear c40
                          (first | rw [c40b0] | (simp only [i64_w, i32_w]; rw [c40b0]) | skip)
                          have H' := Aside0.mk H
                          clear H
                          go_wp2
                          go_meet
                          case rel => exact ⟨_, (true), (by first | rfl | (simp; done) | (simp [*]; done) | (simp [xk_bne_nil]; done) | (simp [xk_bne_nil, *]; done)), H', ⟨by have := HJ3.out; have := HJ17.out; have := HJ28.out; first | omega | exact Nat.le_refl _⟩, ⟨by repeat (first | (with_reducible first | exact HB.out | apply below_alloc | apply pw_below_drewN | apply below_drew1) | exact HB.out)⟩⟩
                        · rw [if_neg c40] at H
                          have c40b0 : (a0 == 20) = false := beq_eq_false_iff_ne.mpr c40
                          have c40b1 : (a0 != 20) = true := bne_iff_ne.mpr c40
                          (first | rw [c40b0] | (simp only [i64_w, i32_w]; rw [c40b0]) | skip)
                          have H' := Aside0.mk H
                          clear H
                          go_wp2
                          go_meet
                          case rel => exact ⟨_, ((a0 == 21)), (by first | rfl | (simp; done) | (simp [*]; done) | (simp [xk_bne_nil]; done) | (simp [xk_bne_nil, *]; done)), H', ⟨by have := HJ3.out; have := HJ17.out; have := HJ28.out; first | omega | exact Nat.le_refl _⟩, ⟨by repeat (first | (with_reducible first | exact HB.out | apply below_alloc | apply pw_below_drewN | apply below_drew1) | exact HB.out)⟩⟩
                      case rest =>
                        clear HC39
                        try clear c1
                        try clear c2
                        try clear p2
                        try clear c3
                        try clear c4
                        try clear c5
                        try clear c5b0
                        try clear c6
                        try clear c6b0
                        try clear p6
                        try clear c7
                        try clear c7b0
                        try clear c8
                        try clear c8b0
                        try clear c9
                        try clear c11
                        try clear c11b0
                        try clear c11b1
                        try clear c13
                        try clear c13b0
                        try clear c13b1
                        try clear c15
                        try clear c15b0
                        try clear c15b1
                        try clear c17
                        try clear c19
                        try clear c19b0
                        try clear c19b1
                        try clear c20
                        try clear c22
                        try clear c22b0
                        try clear c22b1
                        try clear c24
                        try clear c24b0
                        try clear c24b1
                        try clear c26
                        try clear c26b0
                        try clear c26b1
                        try clear c30
                        try clear c30b0
                        try clear c30b1
                        try clear c31
                        try clear c33
                        try clear c33b0
                        try clear c33b1
                        try clear c36
                        try clear c36b0
                        try clear c36b1
                        try clear c40
                        try clear c40b0
                        try clear c40b1
                        try clear p2
                        obtain ⟨kq, x97_38, rfl, HA, HJ38, HB⟩ := hcut
                        cases kq with
                        | zero => exact absurd HA.out (by simp [gavottelaw1_OpsBalance.j3])
                        | succ kj38 =>
                          have H := HA.out
                          clear HA
                          simp only [gavottelaw1_OpsBalance.j3] at H
                          by_cases c41 : x97_38 = true
                          · subst c41
                            have H1 : ((ops_Operand.f kj38 a0).bind fun t192 => (if t192 = 4 then ((ops_Puts.f kj38 a0).bind fun t193 => (if t193 = 0 then ((ops_Pops.f kj38 a0).bind fun t194 => (if t194 = (wrap64 (a0 - 20)) then ((gavottelaw1_awake.f kj38).bind fun t195 => (some t195)) else (some false))) else (some false))) else (some false))) = some r := by rw [if_pos rfl] at H; exact H
                            clear H
                            have H := H1
                            clear H1
                            replace H := Option.bind_eq_some_iff.mp H
                            obtain ⟨t192, A420, H⟩ := H
                            replace H : (if t192 = 4 then ((ops_Puts.f kj38 a0).bind fun t193 => (if t193 = 0 then ((ops_Pops.f kj38 a0).bind fun t194 => (if t194 = (wrap64 (a0 - 20)) then ((gavottelaw1_awake.f kj38).bind fun t195 => (some t195)) else (some false))) else (some false))) else (some false)) = some r := H
                            have A42 := Aside0.mk A420
                            clear A420
                            by_cases c43 : t192 = 4
                            · rw [if_pos c43] at H
                              have c43b0 : (t192 == 4) = true := beq_iff_eq.mpr c43
                              have c43b1 : (t192 != 4) = false := bne_eq_false_iff_eq.mpr c43
                              clear c43
                              replace H := Option.bind_eq_some_iff.mp H
                              obtain ⟨t193, A440, H⟩ := H
                              replace H : (if t193 = 0 then ((ops_Pops.f kj38 a0).bind fun t194 => (if t194 = (wrap64 (a0 - 20)) then ((gavottelaw1_awake.f kj38).bind fun t195 => (some t195)) else (some false))) else (some false)) = some r := H
                              have A44 := Aside0.mk A440
                              clear A440
                              by_cases c45 : t193 = 0
                              · rw [if_pos c45] at H
                                have c45b0 : (t193 == 0) = true := beq_iff_eq.mpr c45
                                have c45b1 : (t193 != 0) = false := bne_eq_false_iff_eq.mpr c45
                                clear c45
                                replace H := Option.bind_eq_some_iff.mp H
                                obtain ⟨t194, A460, H⟩ := H
                                replace H : (if t194 = (wrap64 (a0 - 20)) then ((gavottelaw1_awake.f kj38).bind fun t195 => (some t195)) else (some false)) = some r := H
                                have A46 := Aside0.mk A460
                                clear A460
                                by_cases c47 : t194 = (wrap64 (a0 - 20))
                                · rw [if_pos c47] at H
                                  have c47b0 : (t194 == (wrap64 (a0 - 20))) = true := beq_iff_eq.mpr c47
                                  have c47b1 : (t194 != (wrap64 (a0 - 20))) = false := bne_eq_false_iff_eq.mpr c47
                                  clear c47
                                  replace H := Option.bind_eq_some_iff.mp H
                                  obtain ⟨t195, A480, H⟩ := H
                                  replace H : (some t195) = some r := H
                                  have A48 := Aside0.mk A480
                                  clear A480
                                  obtain rfl := Option.some.inj H
                                  go_wp2_with (first | ((with_reducible refine gate_callee (f := 17) rfl ?_); refine goesL_ (some 105) rfl rfl Tryd.func17 (by kernel_rfl) rfl #[.int .i64 a0] rfl (by (try simp only [List.map_toArray, List.map_cons, List.map_nil]); first | done | rfl | (simp only [List.length_drop, List.length_take]; rfl)) ?_; (with_reducible refine (ops_Operand.calls kj38 a0 t192 _ A42.out).mono ?_); rintro e w' ⟨rfl, ⟨nd, rfl⟩⟩; refine ⟨_, rfl, ?_⟩) | (go_at_call 15; (with_reducible refine (ops_Puts.calls kj38 a0 t193 _ A44.out).mono ?_); rintro e w' ⟨rfl, ⟨nd, rfl⟩⟩) | (go_at_call 13; (with_reducible refine (ops_Pops.calls kj38 a0 t194 _ A46.out).mono ?_); rintro e w' ⟨rfl, ⟨nd, rfl⟩⟩) | (go_at_call 6; (with_reducible refine (gavottelaw1_awake.calls kj38  t195 _ (by exact ⟨GW.below HG_.out (by repeat (first | (with_reducible first | exact HB.out | apply below_alloc | apply pw_below_drewN | apply below_drew1) | exact HB.out))⟩)  A48.out).mono ?_); rintro e w49 ⟨rfl, hb⟩; have n0_ := Aside0.mk (below_step (by repeat (first | (with_reducible first | exact HB.out | apply below_alloc | apply pw_below_drewN | apply below_drew1) | exact HB.out)) hb); clear HB; have HB := n0_; clear n0_; (try clear hb); (try clear hb2); (try clear hk); (try clear hi)))
                                  go_ret
                                  exact ⟨by first | rfl | (simp [errW_none, errW_some] <;> rfl) | (simp [*, errW_none, errW_some] <;> rfl), by repeat (first | (with_reducible first | exact HB.out | apply below_alloc | apply pw_below_drewN | apply below_drew1) | exact HB.out)⟩
                                · rw [if_neg c47] at H
                                  have c47b0 : (t194 == (wrap64 (a0 - 20))) = false := beq_eq_false_iff_ne.mpr c47
                                  have c47b1 : (t194 != (wrap64 (a0 - 20))) = true := bne_iff_ne.mpr c47
                                  obtain rfl := Option.some.inj H
                                  go_wp2_with (first | ((with_reducible refine gate_callee (f := 17) rfl ?_); refine goesL_ (some 105) rfl rfl Tryd.func17 (by kernel_rfl) rfl #[.int .i64 a0] rfl (by (try simp only [List.map_toArray, List.map_cons, List.map_nil]); first | done | rfl | (simp only [List.length_drop, List.length_take]; rfl)) ?_; (with_reducible refine (ops_Operand.calls kj38 a0 t192 _ A42.out).mono ?_); rintro e w' ⟨rfl, ⟨nd, rfl⟩⟩; refine ⟨_, rfl, ?_⟩) | (go_at_call 15; (with_reducible refine (ops_Puts.calls kj38 a0 t193 _ A44.out).mono ?_); rintro e w' ⟨rfl, ⟨nd, rfl⟩⟩) | (go_at_call 13; (with_reducible refine (ops_Pops.calls kj38 a0 t194 _ A46.out).mono ?_); rintro e w' ⟨rfl, ⟨nd, rfl⟩⟩))
                                  go_ret
                                  exact ⟨by first | rfl | (simp [errW_none, errW_some] <;> rfl) | (simp [*, errW_none, errW_some] <;> rfl), by repeat (first | (with_reducible first | exact HB.out | apply below_alloc | apply pw_below_drewN | apply below_drew1) | exact HB.out)⟩
                              · rw [if_neg c45] at H
                                have c45b0 : (t193 == 0) = false := beq_eq_false_iff_ne.mpr c45
                                have c45b1 : (t193 != 0) = true := bne_iff_ne.mpr c45
                                obtain rfl := Option.some.inj H
                                go_wp2_with (first | ((with_reducible refine gate_callee (f := 17) rfl ?_); refine goesL_ (some 105) rfl rfl Tryd.func17 (by kernel_rfl) rfl #[.int .i64 a0] rfl (by (try simp only [List.map_toArray, List.map_cons, List.map_nil]); first | done | rfl | (simp only [List.length_drop, List.length_take]; rfl)) ?_; (with_reducible refine (ops_Operand.calls kj38 a0 t192 _ A42.out).mono ?_); rintro e w' ⟨rfl, ⟨nd, rfl⟩⟩; refine ⟨_, rfl, ?_⟩) | (go_at_call 15; (with_reducible refine (ops_Puts.calls kj38 a0 t193 _ A44.out).mono ?_); rintro e w' ⟨rfl, ⟨nd, rfl⟩⟩))
                                go_ret
                                exact ⟨by first | rfl | (simp [errW_none, errW_some] <;> rfl) | (simp [*, errW_none, errW_some] <;> rfl), by repeat (first | (with_reducible first | exact HB.out | apply below_alloc | apply pw_below_drewN | apply below_drew1) | exact HB.out)⟩
                            · rw [if_neg c43] at H
                              have c43b0 : (t192 == 4) = false := beq_eq_false_iff_ne.mpr c43
                              have c43b1 : (t192 != 4) = true := bne_iff_ne.mpr c43
                              obtain rfl := Option.some.inj H
                              go_wp2_with (first | ((with_reducible refine gate_callee (f := 17) rfl ?_); refine goesL_ (some 105) rfl rfl Tryd.func17 (by kernel_rfl) rfl #[.int .i64 a0] rfl (by (try simp only [List.map_toArray, List.map_cons, List.map_nil]); first | done | rfl | (simp only [List.length_drop, List.length_take]; rfl)) ?_; (with_reducible refine (ops_Operand.calls kj38 a0 t192 _ A42.out).mono ?_); rintro e w' ⟨rfl, ⟨nd, rfl⟩⟩; refine ⟨_, rfl, ?_⟩))
                              go_ret
                              exact ⟨by first | rfl | (simp [errW_none, errW_some] <;> rfl) | (simp [*, errW_none, errW_some] <;> rfl), by repeat (first | (with_reducible first | exact HB.out | apply below_alloc | apply pw_below_drewN | apply below_drew1) | exact HB.out)⟩
                          · replace c41 := Bool.eq_false_iff.mpr c41
                            subst c41
                            have H1 : ((ops_Pops.f kj38 a0).bind fun t196 => (if t196 ≤ 2 then ((ops_Puts.f kj38 a0).bind fun t197 => (if t197 ≤ 2 then (if (wrap64 (t197 - t196)) ≤ 1 then ((gavottelaw1_awake.f kj38).bind fun t198 => (some t198)) else (some false)) else (some false))) else (some false))) = some r := by rw [if_neg (show ¬ (false = true) by decide)] at H; exact H
                            clear H
                            have H := H1
                            clear H1
                            replace H := Option.bind_eq_some_iff.mp H
                            obtain ⟨t196, A500, H⟩ := H
                            replace H : (if t196 ≤ 2 then ((ops_Puts.f kj38 a0).bind fun t197 => (if t197 ≤ 2 then (if (wrap64 (t197 - t196)) ≤ 1 then ((gavottelaw1_awake.f kj38).bind fun t198 => (some t198)) else (some false)) else (some false))) else (some false)) = some r := H
                            have A50 := Aside0.mk A500
                            clear A500
                            by_cases c51 : t196 ≤ 2
                            · rw [if_pos c51] at H
                              have c51b0 : decide (t196 ≤ 2) = true := decide_eq_true c51
                              clear c51
                              replace H := Option.bind_eq_some_iff.mp H
                              obtain ⟨t197, A520, H⟩ := H
                              replace H : (if t197 ≤ 2 then (if (wrap64 (t197 - t196)) ≤ 1 then ((gavottelaw1_awake.f kj38).bind fun t198 => (some t198)) else (some false)) else (some false)) = some r := H
                              have A52 := Aside0.mk A520
                              clear A520
                              by_cases c53 : t197 ≤ 2
                              · rw [if_pos c53] at H
                                have c53b0 : decide (t197 ≤ 2) = true := decide_eq_true c53
                                clear c53
                                by_cases c54 : (wrap64 (t197 - t196)) ≤ 1
                                · rw [if_pos c54] at H
                                  have c54b0 : decide ((wrap64 (t197 - t196)) ≤ 1) = true := decide_eq_true c54
                                  clear c54
                                  replace H := Option.bind_eq_some_iff.mp H
                                  obtain ⟨t198, A550, H⟩ := H
                                  replace H : (some t198) = some r := H
                                  have A55 := Aside0.mk A550
                                  clear A550
                                  obtain rfl := Option.some.inj H
                                  go_wp2_with (first | ((with_reducible refine gate_callee (f := 13) rfl ?_); refine goesL_ (some 123) rfl rfl Tryd.func13 (by kernel_rfl) rfl #[.int .i64 a0] rfl (by (try simp only [List.map_toArray, List.map_cons, List.map_nil]); first | done | rfl | (simp only [List.length_drop, List.length_take]; rfl)) ?_; (with_reducible refine (ops_Pops.calls kj38 a0 t196 _ A50.out).mono ?_); rintro e w' ⟨rfl, ⟨nd, rfl⟩⟩; refine ⟨_, rfl, ?_⟩) | (go_at_call 15; (with_reducible refine (ops_Puts.calls kj38 a0 t197 _ A52.out).mono ?_); rintro e w' ⟨rfl, ⟨nd, rfl⟩⟩) | (go_at_call 15; (with_reducible refine (ops_Puts.calls kj38 a0 t197 _ A52.out).mono ?_); rintro e w' ⟨rfl, ⟨nd, rfl⟩⟩) | (go_at_call 13; (with_reducible refine (ops_Pops.calls kj38 a0 t196 _ A50.out).mono ?_); rintro e w' ⟨rfl, ⟨nd, rfl⟩⟩) | (go_at_call 6; (with_reducible refine (gavottelaw1_awake.calls kj38  t198 _ (by exact ⟨GW.below HG_.out (by repeat (first | (with_reducible first | exact HB.out | apply below_alloc | apply pw_below_drewN | apply below_drew1) | exact HB.out))⟩)  A55.out).mono ?_); rintro e w56 ⟨rfl, hb⟩; have n0_ := Aside0.mk (below_step (by repeat (first | (with_reducible first | exact HB.out | apply below_alloc | apply pw_below_drewN | apply below_drew1) | exact HB.out)) hb); clear HB; have HB := n0_; clear n0_; (try clear hb); (try clear hb2); (try clear hk); (try clear hi)))
                                  go_ret
                                  exact ⟨by first | rfl | (simp [errW_none, errW_some] <;> rfl) | (simp [*, errW_none, errW_some] <;> rfl), by repeat (first | (with_reducible first | exact HB.out | apply below_alloc | apply pw_below_drewN | apply below_drew1) | exact HB.out)⟩
                                · rw [if_neg c54] at H
                                  have c54b0 : decide ((wrap64 (t197 - t196)) ≤ 1) = false := decide_eq_false c54
                                  clear c54
                                  obtain rfl := Option.some.inj H
                                  go_wp2_with (first | ((with_reducible refine gate_callee (f := 13) rfl ?_); refine goesL_ (some 123) rfl rfl Tryd.func13 (by kernel_rfl) rfl #[.int .i64 a0] rfl (by (try simp only [List.map_toArray, List.map_cons, List.map_nil]); first | done | rfl | (simp only [List.length_drop, List.length_take]; rfl)) ?_; (with_reducible refine (ops_Pops.calls kj38 a0 t196 _ A50.out).mono ?_); rintro e w' ⟨rfl, ⟨nd, rfl⟩⟩; refine ⟨_, rfl, ?_⟩) | (go_at_call 15; (with_reducible refine (ops_Puts.calls kj38 a0 t197 _ A52.out).mono ?_); rintro e w' ⟨rfl, ⟨nd, rfl⟩⟩) | (go_at_call 15; (with_reducible refine (ops_Puts.calls kj38 a0 t197 _ A52.out).mono ?_); rintro e w' ⟨rfl, ⟨nd, rfl⟩⟩) | (go_at_call 13; (with_reducible refine (ops_Pops.calls kj38 a0 t196 _ A50.out).mono ?_); rintro e w' ⟨rfl, ⟨nd, rfl⟩⟩))
                                  go_ret
                                  exact ⟨by first | rfl | (simp [errW_none, errW_some] <;> rfl) | (simp [*, errW_none, errW_some] <;> rfl), by repeat (first | (with_reducible first | exact HB.out | apply below_alloc | apply pw_below_drewN | apply below_drew1) | exact HB.out)⟩
                              · rw [if_neg c53] at H
                                have c53b0 : decide (t197 ≤ 2) = false := decide_eq_false c53
                                clear c53
                                obtain rfl := Option.some.inj H
                                go_wp2_with (first | ((with_reducible refine gate_callee (f := 13) rfl ?_); refine goesL_ (some 123) rfl rfl Tryd.func13 (by kernel_rfl) rfl #[.int .i64 a0] rfl (by (try simp only [List.map_toArray, List.map_cons, List.map_nil]); first | done | rfl | (simp only [List.length_drop, List.length_take]; rfl)) ?_; (with_reducible refine (ops_Pops.calls kj38 a0 t196 _ A50.out).mono ?_); rintro e w' ⟨rfl, ⟨nd, rfl⟩⟩; refine ⟨_, rfl, ?_⟩) | (go_at_call 15; (with_reducible refine (ops_Puts.calls kj38 a0 t197 _ A52.out).mono ?_); rintro e w' ⟨rfl, ⟨nd, rfl⟩⟩))
                                go_ret
                                exact ⟨by first | rfl | (simp [errW_none, errW_some] <;> rfl) | (simp [*, errW_none, errW_some] <;> rfl), by repeat (first | (with_reducible first | exact HB.out | apply below_alloc | apply pw_below_drewN | apply below_drew1) | exact HB.out)⟩
                            · rw [if_neg c51] at H
                              have c51b0 : decide (t196 ≤ 2) = false := decide_eq_false c51
                              clear c51
                              obtain rfl := Option.some.inj H
                              go_wp2_with (first | ((with_reducible refine gate_callee (f := 13) rfl ?_); refine goesL_ (some 123) rfl rfl Tryd.func13 (by kernel_rfl) rfl #[.int .i64 a0] rfl (by (try simp only [List.map_toArray, List.map_cons, List.map_nil]); first | done | rfl | (simp only [List.length_drop, List.length_take]; rfl)) ?_; (with_reducible refine (ops_Pops.calls kj38 a0 t196 _ A50.out).mono ?_); rintro e w' ⟨rfl, ⟨nd, rfl⟩⟩; refine ⟨_, rfl, ?_⟩))
                              go_ret
                              exact ⟨by first | rfl | (simp [errW_none, errW_some] <;> rfl) | (simp [*, errW_none, errW_some] <;> rfl), by repeat (first | (with_reducible first | exact HB.out | apply below_alloc | apply pw_below_drewN | apply below_drew1) | exact HB.out)⟩
  · replace c3 := Bool.eq_false_iff.mpr c3
    subst c3
    have H1 : ((ops_Pops.f k a0).bind fun t176 => (if t176 = 0 then ((ops_Puts.f k a0).bind fun t177 => (if t177 = 0 then ((ops_Operand.f k a0).bind fun t178 => (if t178 = 0 then ((gavottelaw1_awake.f k).bind fun t179 => (some t179)) else (some false))) else (some false))) else (some false))) = some r := by rw [if_neg (show ¬ (false = true) by decide)] at H; exact H
    clear H
    have H := H1
    clear H1
    replace H := Option.bind_eq_some_iff.mp H
    obtain ⟨t176, A570, H⟩ := H
    replace H : (if t176 = 0 then ((ops_Puts.f k a0).bind fun t177 => (if t177 = 0 then ((ops_Operand.f k a0).bind fun t178 => (if t178 = 0 then ((gavottelaw1_awake.f k).bind fun t179 => (some t179)) else (some false))) else (some false))) else (some false)) = some r := H
    have A57 := Aside0.mk A570
    clear A570
    by_cases c58 : t176 = 0
    · rw [if_pos c58] at H
      have c58b0 : (t176 == 0) = true := beq_iff_eq.mpr c58
      have c58b1 : (t176 != 0) = false := bne_eq_false_iff_eq.mpr c58
      clear c58
      replace H := Option.bind_eq_some_iff.mp H
      obtain ⟨t177, A590, H⟩ := H
      replace H : (if t177 = 0 then ((ops_Operand.f k a0).bind fun t178 => (if t178 = 0 then ((gavottelaw1_awake.f k).bind fun t179 => (some t179)) else (some false))) else (some false)) = some r := H
      have A59 := Aside0.mk A590
      clear A590
      by_cases c60 : t177 = 0
      · rw [if_pos c60] at H
        have c60b0 : (t177 == 0) = true := beq_iff_eq.mpr c60
        have c60b1 : (t177 != 0) = false := bne_eq_false_iff_eq.mpr c60
        clear c60
        replace H := Option.bind_eq_some_iff.mp H
        obtain ⟨t178, A610, H⟩ := H
        replace H : (if t178 = 0 then ((gavottelaw1_awake.f k).bind fun t179 => (some t179)) else (some false)) = some r := H
        have A61 := Aside0.mk A610
        clear A610
        by_cases c62 : t178 = 0
        · rw [if_pos c62] at H
          have c62b0 : (t178 == 0) = true := beq_iff_eq.mpr c62
          have c62b1 : (t178 != 0) = false := bne_eq_false_iff_eq.mpr c62
          clear c62
          replace H := Option.bind_eq_some_iff.mp H
          obtain ⟨t179, A630, H⟩ := H
          replace H : (some t179) = some r := H
          have A63 := Aside0.mk A630
          clear A630
          obtain rfl := Option.some.inj H
          go_enter Tryd.func5, Tryd.ntmps5
          go_wp2_with (first | ((with_reducible refine gate_callee (f := 9) rfl ?_); refine goesL_ (some 4) rfl rfl Tryd.func9 (by kernel_rfl) rfl #[.int .i64 a0] rfl (by (try simp only [List.map_toArray, List.map_cons, List.map_nil]); first | done | rfl | (simp only [List.length_drop, List.length_take]; rfl)) ?_; (with_reducible refine (ops_Valid.calls a0 false _ A2.out).mono ?_); rintro e w' ⟨rfl, ⟨nd, rfl⟩⟩; refine ⟨_, rfl, ?_⟩) | ((with_reducible refine gate_callee (f := 13) rfl ?_); refine goesL_ (some 7) rfl rfl Tryd.func13 (by kernel_rfl) rfl #[.int .i64 a0] rfl (by (try simp only [List.map_toArray, List.map_cons, List.map_nil]); first | done | rfl | (simp only [List.length_drop, List.length_take]; rfl)) ?_; (with_reducible refine (ops_Pops.calls k a0 t176 _ A57.out).mono ?_); rintro e w' ⟨rfl, ⟨nd, rfl⟩⟩; refine ⟨_, rfl, ?_⟩) | (go_at_call 15; (with_reducible refine (ops_Puts.calls k a0 t177 _ A59.out).mono ?_); rintro e w' ⟨rfl, ⟨nd, rfl⟩⟩) | (go_at_call 17; (with_reducible refine (ops_Operand.calls k a0 t178 _ A61.out).mono ?_); rintro e w' ⟨rfl, ⟨nd, rfl⟩⟩) | (go_at_call 6; (with_reducible refine (gavottelaw1_awake.calls k  t179 _ (by exact ⟨GW.below HG_.out (by repeat (first | (with_reducible first | exact HB.out | apply below_alloc | apply pw_below_drewN | apply below_drew1) | exact HB.out))⟩)  A63.out).mono ?_); rintro e w64 ⟨rfl, hb⟩; have n0_ := Aside0.mk (below_step (by repeat (first | (with_reducible first | exact HB.out | apply below_alloc | apply pw_below_drewN | apply below_drew1) | exact HB.out)) hb); clear HB; have HB := n0_; clear n0_; (try clear hb); (try clear hb2); (try clear hk); (try clear hi)))
          go_ret
          exact ⟨by first | rfl | (simp [errW_none, errW_some] <;> rfl) | (simp [*, errW_none, errW_some] <;> rfl), by repeat (first | (with_reducible first | exact HB.out | apply below_alloc | apply pw_below_drewN | apply below_drew1) | exact HB.out)⟩
        · rw [if_neg c62] at H
          have c62b0 : (t178 == 0) = false := beq_eq_false_iff_ne.mpr c62
          have c62b1 : (t178 != 0) = true := bne_iff_ne.mpr c62
          obtain rfl := Option.some.inj H
          go_enter Tryd.func5, Tryd.ntmps5
          go_wp2_with (first | ((with_reducible refine gate_callee (f := 9) rfl ?_); refine goesL_ (some 4) rfl rfl Tryd.func9 (by kernel_rfl) rfl #[.int .i64 a0] rfl (by (try simp only [List.map_toArray, List.map_cons, List.map_nil]); first | done | rfl | (simp only [List.length_drop, List.length_take]; rfl)) ?_; (with_reducible refine (ops_Valid.calls a0 false _ A2.out).mono ?_); rintro e w' ⟨rfl, ⟨nd, rfl⟩⟩; refine ⟨_, rfl, ?_⟩) | ((with_reducible refine gate_callee (f := 13) rfl ?_); refine goesL_ (some 7) rfl rfl Tryd.func13 (by kernel_rfl) rfl #[.int .i64 a0] rfl (by (try simp only [List.map_toArray, List.map_cons, List.map_nil]); first | done | rfl | (simp only [List.length_drop, List.length_take]; rfl)) ?_; (with_reducible refine (ops_Pops.calls k a0 t176 _ A57.out).mono ?_); rintro e w' ⟨rfl, ⟨nd, rfl⟩⟩; refine ⟨_, rfl, ?_⟩) | (go_at_call 15; (with_reducible refine (ops_Puts.calls k a0 t177 _ A59.out).mono ?_); rintro e w' ⟨rfl, ⟨nd, rfl⟩⟩) | (go_at_call 17; (with_reducible refine (ops_Operand.calls k a0 t178 _ A61.out).mono ?_); rintro e w' ⟨rfl, ⟨nd, rfl⟩⟩))
          go_ret
          exact ⟨by first | rfl | (simp [errW_none, errW_some] <;> rfl) | (simp [*, errW_none, errW_some] <;> rfl), by repeat (first | (with_reducible first | exact HB.out | apply below_alloc | apply pw_below_drewN | apply below_drew1) | exact HB.out)⟩
      · rw [if_neg c60] at H
        have c60b0 : (t177 == 0) = false := beq_eq_false_iff_ne.mpr c60
        have c60b1 : (t177 != 0) = true := bne_iff_ne.mpr c60
        obtain rfl := Option.some.inj H
        go_enter Tryd.func5, Tryd.ntmps5
        go_wp2_with (first | ((with_reducible refine gate_callee (f := 9) rfl ?_); refine goesL_ (some 4) rfl rfl Tryd.func9 (by kernel_rfl) rfl #[.int .i64 a0] rfl (by (try simp only [List.map_toArray, List.map_cons, List.map_nil]); first | done | rfl | (simp only [List.length_drop, List.length_take]; rfl)) ?_; (with_reducible refine (ops_Valid.calls a0 false _ A2.out).mono ?_); rintro e w' ⟨rfl, ⟨nd, rfl⟩⟩; refine ⟨_, rfl, ?_⟩) | ((with_reducible refine gate_callee (f := 13) rfl ?_); refine goesL_ (some 7) rfl rfl Tryd.func13 (by kernel_rfl) rfl #[.int .i64 a0] rfl (by (try simp only [List.map_toArray, List.map_cons, List.map_nil]); first | done | rfl | (simp only [List.length_drop, List.length_take]; rfl)) ?_; (with_reducible refine (ops_Pops.calls k a0 t176 _ A57.out).mono ?_); rintro e w' ⟨rfl, ⟨nd, rfl⟩⟩; refine ⟨_, rfl, ?_⟩) | (go_at_call 15; (with_reducible refine (ops_Puts.calls k a0 t177 _ A59.out).mono ?_); rintro e w' ⟨rfl, ⟨nd, rfl⟩⟩))
        go_ret
        exact ⟨by first | rfl | (simp [errW_none, errW_some] <;> rfl) | (simp [*, errW_none, errW_some] <;> rfl), by repeat (first | (with_reducible first | exact HB.out | apply below_alloc | apply pw_below_drewN | apply below_drew1) | exact HB.out)⟩
    · rw [if_neg c58] at H
      have c58b0 : (t176 == 0) = false := beq_eq_false_iff_ne.mpr c58
      have c58b1 : (t176 != 0) = true := bne_iff_ne.mpr c58
      obtain rfl := Option.some.inj H
      go_enter Tryd.func5, Tryd.ntmps5
      go_wp2_with (first | ((with_reducible refine gate_callee (f := 9) rfl ?_); refine goesL_ (some 4) rfl rfl Tryd.func9 (by kernel_rfl) rfl #[.int .i64 a0] rfl (by (try simp only [List.map_toArray, List.map_cons, List.map_nil]); first | done | rfl | (simp only [List.length_drop, List.length_take]; rfl)) ?_; (with_reducible refine (ops_Valid.calls a0 false _ A2.out).mono ?_); rintro e w' ⟨rfl, ⟨nd, rfl⟩⟩; refine ⟨_, rfl, ?_⟩) | ((with_reducible refine gate_callee (f := 13) rfl ?_); refine goesL_ (some 7) rfl rfl Tryd.func13 (by kernel_rfl) rfl #[.int .i64 a0] rfl (by (try simp only [List.map_toArray, List.map_cons, List.map_nil]); first | done | rfl | (simp only [List.length_drop, List.length_take]; rfl)) ?_; (with_reducible refine (ops_Pops.calls k a0 t176 _ A57.out).mono ?_); rintro e w' ⟨rfl, ⟨nd, rfl⟩⟩; refine ⟨_, rfl, ?_⟩))
      go_ret
      exact ⟨by first | rfl | (simp [errW_none, errW_some] <;> rfl) | (simp [*, errW_none, errW_some] <;> rfl), by repeat (first | (with_reducible first | exact HB.out | apply below_alloc | apply pw_below_drewN | apply below_drew1) | exact HB.out)⟩

end Go.Proofs.YtonlbhhmeepmmaaDoor.P
