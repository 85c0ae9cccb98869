-- WRITTEN BY xprint.py (a session's program over the print's text).
import Derived.Test.YtonlbhhmeepmmaaDoorP0
namespace Go.Proofs.YtonlbhhmeepmmaaDoor.P
open Go.RowKit Go.Proofs.YtonlbhhmeepmmaaDoorW.PrintWords Go.Proofs.YtonlbhhmeepmmaaDoorW.PrintLast Go.Proofs.YtonlbhhmeepmmaaDoorW.PrintMore
attribute [local go_sem] max2_int min2_int max_two min_two max_three min_three max_four min_four   -- for this text's walks alone
set_option linter.unusedVariables false
set_option linter.unusedSimpArgs false

/-! ### slices_Index_string_string: function 19 -/
def slices_Index_string_string.l0 : Nat → List ByteArray → ByteArray → Int → Int → Option (Int)
  | 0, _, _, _, _ => none
  | k + 1, x0, x1, x7, x8 => if x8 < x7 then (if 0 ≤ x8 then (if x8 < (x0.length : Int) then (if x1.toList = (rdOf ByteArray.empty x0 x8).toList then (some x8) else (slices_Index_string_string.l0 k x0 x1 x7 (wrap64 (x8 + 1)))) else (none)) else (none)) else (some (-1))
def slices_Index_string_string.f (k : Nat) (l0 : List ByteArray) (a1 : ByteArray) : Option (Int) := slices_Index_string_string.l0 k l0 a1 (l0.length : Int) 0
theorem slices_Index_string_string.mono_l : ∀ k, (∀ y0 y1 y2 y3, LeO (slices_Index_string_string.l0 k y0 y1 y2 y3) (slices_Index_string_string.l0 (k + 1) y0 y1 y2 y3))
  | 0 => fun _ _ _ _ r h => by simp [slices_Index_string_string.l0] at h
  | k + 1 => by
    have ih0 := slices_Index_string_string.mono_l k
    · intro y0 y1 y2 y3
      unfold slices_Index_string_string.l0
      repeat' first
      | (with_reducible exact ih0 _ _ _ _)
      | (with_reducible exact LeO.refl _)
      | (with_reducible exact LeO.none _)
      | (with_reducible refine LeO.ite ?_ ?_)
      | (with_reducible refine LeO.bind ?_ (fun _ => ?_))
      | exact ih0 _ _ _ _
      | exact LeO.none _
      | refine LeO.ite ?_ ?_
      | refine LeO.bind ?_ (fun _ => ?_)
theorem slices_Index_string_string.mono : ∀ a0 a1 k, LeO (slices_Index_string_string.f k a0 a1) (slices_Index_string_string.f (k + 1) a0 a1) := by
  intro a0 a1 k
  have ih0 := slices_Index_string_string.mono_l k
  unfold slices_Index_string_string.f
  repeat' first
      | (with_reducible exact ih0 _ _ _ _)
      | (with_reducible exact LeO.refl _)
      | (with_reducible exact LeO.none _)
      | (with_reducible refine LeO.ite ?_ ?_)
      | (with_reducible refine LeO.bind ?_ (fun _ => ?_))
      | exact ih0 _ _ _ _
      | exact LeO.none _
      | refine LeO.ite ?_ ?_
      | refine LeO.bind ?_ (fun _ => ?_)
set_option maxHeartbeats 8000000 in
set_option maxRecDepth 100000 in
theorem slices_Index_string_string.calls (k : Nat) (A0 : Option Addr) (c0 : Nat) (l0 : List ByteArray) (a1 : ByteArray) (r : Int) (w : World) (hr0 : Kd.C Kd.string w A0 l0.length l0) (hc0 : l0.length ≤ c0) (h : slices_Index_string_string.f k l0 a1 = some r) :
    Calls Tryd.prog 19 #[.slice A0 l0.length c0, .string a1] w fun e w' => e = .returned (.int .i64 r) ∧ Drawn0 w w' := by
  have HR0 := Aside0.mk hr0
  have HC0 := Aside0.mk hc0
  clear hr0 hc0
  have H : (slices_Index_string_string.l0 k l0 a1 (l0.length : Int) 0) = some r := h
  clear h
  have H' := Aside0.mk H
  clear H
  go_enter Tryd.func19, Tryd.ntmps19
  go_wp2
  go_loopg [8] k (fun kq v8 w' => ∃ (x8_1 : Int), v8 = .int .i64 x8_1 ∧ Aside0 (slices_Index_string_string.l0 kq l0 a1 (l0.length : Int) x8_1 = some r) ∧ Aside0 (kq ≤ k) ∧ Drawn0 w w')
  case atStart => exact ⟨(0), (by first | rfl | (simp; done) | (simp [*]; done) | (simp [xk_bne_nil]; done) | (simp [xk_bne_nil, *]; done)), H', ⟨Nat.le_refl _⟩, by repeat (first | exact Drawn0.refl _ | apply Drawn0.step)⟩
  case round =>
    clear H'
    try clear c1
    try clear p2
    obtain ⟨x8_1, rfl, HA, HK1, ⟨m1, rfl⟩⟩ := hrel
    cases gk with
    | zero => exact absurd HA.out (by simp [slices_Index_string_string.l0])
    | succ k1 =>
      have H := HA.out
      clear HA
      simp only [slices_Index_string_string.l0] at H
      by_cases c3 : x8_1 < (l0.length : Int)
      · rw [if_pos c3] at H
        have c3b0 : decide (x8_1 < (l0.length : Int)) = true := decide_eq_true c3
        clear c3
        by_cases c4 : 0 ≤ x8_1
        · rw [if_pos c4] at H
          have c4b0 : decide (0 ≤ x8_1) = true := decide_eq_true c4
          clear c4
          by_cases c5 : x8_1 < (l0.length : Int)
          · rw [if_pos c5] at H
            have c5b0 : decide (x8_1 < (l0.length : Int)) = true := decide_eq_true c5
            clear c5
            by_cases c6 : a1.toList = (rdOf ByteArray.empty l0 x8_1).toList
            · rw [if_pos c6] at H
              have c6b0 : (a1.toList == (rdOf ByteArray.empty l0 x8_1).toList) = true := beq_iff_eq.mpr c6
              have c6b1 : (a1.toList != (rdOf ByteArray.empty l0 x8_1).toList) = false := bne_eq_false_iff_eq.mpr c6
              clear c6
              obtain rfl := Option.some.inj H
              have p101 : 0 ≤ (x8_1 : Int) := of_decide_eq_true (by first | (with_reducible assumption) | assumption)
              have q101 : x8_1 < (l0.length : Int) := of_decide_eq_true (by first | (with_reducible assumption) | assumption)
              obtain ⟨ad101, e101, hx101_0⟩ := Kd.at_string HR0.out x8_1 p101 q101
              cases e101
              replace p101 := eq_true p101
              replace q101 := eq_true q101
              go_wp2
              go_ret
              exact ⟨by first | rfl | (simp; done) | (simp [*]; done) | (simp [xk_bne_nil]; done) | (simp [xk_bne_nil, *]; done), by repeat (first | exact Drawn0.refl _ | apply Drawn0.step)⟩
            · rw [if_neg c6] at H
              have c6b0 : (a1.toList == (rdOf ByteArray.empty l0 x8_1).toList) = false := beq_eq_false_iff_ne.mpr c6
              have c6b1 : (a1.toList != (rdOf ByteArray.empty l0 x8_1).toList) = true := bne_iff_ne.mpr c6
              have H' := Aside0.mk H
              clear H
              have p101 : 0 ≤ (x8_1 : Int) := of_decide_eq_true (by first | (with_reducible assumption) | assumption)
              have q101 : x8_1 < (l0.length : Int) := of_decide_eq_true (by first | (with_reducible assumption) | assumption)
              obtain ⟨ad101, e101, hx101_0⟩ := Kd.at_string HR0.out x8_1 p101 q101
              cases e101
              replace p101 := eq_true p101
              replace q101 := eq_true q101
              go_wp2
              go_roundg k1
              case measure => have := HK1.out; omega
              case rel => exact ⟨(wrap64 (x8_1 + 1)), (by first | rfl | (simp; done) | (simp [*]; done) | (simp [xk_bne_nil]; done) | (simp [xk_bne_nil, *]; done)), H', ⟨by have := HK1.out; omega⟩, by repeat (first | exact Drawn0.refl _ | apply Drawn0.step)⟩
          · rw [if_neg c5] at H
            exact absurd H (by simp)
        · rw [if_neg c4] at H
          exact absurd H (by simp)
      · rw [if_neg c3] at H
        have c3b0 : decide (x8_1 < (l0.length : Int)) = false := decide_eq_false c3
        clear c3
        obtain rfl := Option.some.inj H
        go_wp2
        go_ret
        exact ⟨by first | rfl | (simp; done) | (simp [*]; done) | (simp [xk_bne_nil]; done) | (simp [xk_bne_nil, *]; done), by repeat (first | exact Drawn0.refl _ | apply Drawn0.step)⟩

/-! ### strings_Fields: function 20 -/
def strings_Fields.f (a0 : ByteArray) : Option (List ByteArray) := if a0.size < 4294967281 then (if (a0.data.toList.all fun b => decide (b.toNat < 128)) = true then (some ((Lib.fields a0.data.toList).map fun l => (⟨l.toArray⟩ : ByteArray))) else none) else none
theorem strings_Fields.calls (a0 : ByteArray) (r : List ByteArray) (w : World) (HG_ : Aside0 (GW w)) (h : strings_Fields.f a0 = some r) :
    Calls Tryd.prog 20 #[.string a0] w fun e w' => ∃ v0_ : Value, e = .returned (v0_) ∧ Kd.R Kd.string 9 w' w.heap.size (fun _ => True) v0_ r ∧ Below w.heap.size w w' := by
  unfold strings_Fields.f at h
  split at h
  · rename_i h1
    split at h
    · rename_i h2
      obtain rfl := Option.some.inj h
      refine (Tryd.strings_Fields a0 w h1 (fun j b hb => ?_) HG_.out.space).mono ?_
      · have := List.all_eq_true.1 h2 b (List.mem_of_getElem? hb)
        simpa using this
      · rintro e w' ⟨rfl, rfl⟩
        refine ⟨_, rfl, ?_, below_alloc (Below.refl _ _) _⟩
        have := Kd.R_strs_new w w.heap.size 9 ((Lib.fields a0.data.toList).map fun l => (⟨l.toArray⟩ : ByteArray)) (Nat.le_refl _) (by
          rw [List.length_map]
          have := Lib.fields_length_le a0.data.toList
          have e : a0.data.toList.length = a0.size := Array.length_toList
          omega)
        rw [List.length_map, List.map_map] at this
        exact this
    · exact absurd h (by simp)
  · exact absurd h (by simp)
/-! ### ops_Find: function 7 -/
def ops_Find.f (k : Nat) (a0 : ByteArray) : Option (Int × Bool) := (strings_Fields.f (⟨#[112, 117, 115, 104, 32, 112, 111, 112, 32, 99, 111, 112, 121, 32, 115, 119, 97, 112, 32, 108, 111, 97, 100, 32, 115, 116, 111, 114, 101, 32, 97, 114, 103, 32, 115, 101, 108, 102, 32, 97, 100, 100, 32, 115, 117, 98, 32, 109, 117, 108, 32, 100, 105, 118, 32, 109, 111, 100, 32, 110, 101, 103, 32, 101, 113, 32, 108, 101, 115, 115, 32, 97, 110, 100, 32, 111, 114, 32, 110, 111, 116, 32, 106, 117, 109, 112, 32, 122, 101, 114, 111, 32, 115, 101, 110, 100, 32, 97, 114, 109, 32, 99, 97, 108, 109, 32, 101, 110, 100]⟩ : ByteArray)).bind fun t102 => ((slices_Index_string_string.f k t102 a0).bind fun t105 => (some (wrap64 (t105 + 1), decide (t105 ≥ 0))))
theorem ops_Find.mono : ∀ a0 k, LeO (ops_Find.f k a0) (ops_Find.f (k + 1) a0) := by
  intro a0 k
  unfold ops_Find.f
  repeat' first
      | (with_reducible exact slices_Index_string_string.mono _ _ _)
      | (with_reducible exact LeO.refl _)
      | (with_reducible exact LeO.none _)
      | (with_reducible refine LeO.ite ?_ ?_)
      | (with_reducible refine LeO.bind ?_ (fun _ => ?_))
      | exact slices_Index_string_string.mono _ _ _
      | exact LeO.none _
      | refine LeO.ite ?_ ?_
      | refine LeO.bind ?_ (fun _ => ?_)
set_option maxHeartbeats 8000000 in
set_option maxRecDepth 100000 in
theorem ops_Find.calls (k : Nat) (a0 : ByteArray) (r1 : Int) (r2 : Bool) (w : World) (HG_ : Aside0 (GW w)) (h : ops_Find.f k a0 = some (r1, r2)) :
    Calls Tryd.prog 7 #[.string a0] w fun e w' => e = .returned (.tuple #[.int .i64 r1, .bool r2]) ∧ Below w.heap.size w w' := by
  have HB := Aside0.mk (Below.refl w.heap.size w)
  have H : ((strings_Fields.f (⟨#[112, 117, 115, 104, 32, 112, 111, 112, 32, 99, 111, 112, 121, 32, 115, 119, 97, 112, 32, 108, 111, 97, 100, 32, 115, 116, 111, 114, 101, 32, 97, 114, 103, 32, 115, 101, 108, 102, 32, 97, 100, 100, 32, 115, 117, 98, 32, 109, 117, 108, 32, 100, 105, 118, 32, 109, 111, 100, 32, 110, 101, 103, 32, 101, 113, 32, 108, 101, 115, 115, 32, 97, 110, 100, 32, 111, 114, 32, 110, 111, 116, 32, 106, 117, 109, 112, 32, 122, 101, 114, 111, 32, 115, 101, 110, 100, 32, 97, 114, 109, 32, 99, 97, 108, 109, 32, 101, 110, 100]⟩ : ByteArray)).bind fun t102 => ((slices_Index_string_string.f k t102 a0).bind fun t105 => (some (wrap64 (t105 + 1), decide (t105 ≥ 0))))) = some (r1, r2) := h
  clear h
  replace H := Option.bind_eq_some_iff.mp H
  obtain ⟨t102, A20, H⟩ := H
  replace H : ((slices_Index_string_string.f k t102 a0).bind fun t105 => (some (wrap64 (t105 + 1), decide (t105 ≥ 0)))) = some (r1, r2) := H
  have A2 := Aside0.mk A20
  clear A20
  replace H := Option.bind_eq_some_iff.mp H
  obtain ⟨t105, A30, H⟩ := H
  replace H : (some (wrap64 (t105 + 1), decide (t105 ≥ 0))) = some (r1, r2) := H
  have A3 := Aside0.mk A30
  clear A30
  simp only [Option.some.injEq, Prod.mk.injEq] at H
  obtain ⟨rfl, rfl⟩ := H
  go_enter Tryd.func7, Tryd.ntmps7
  go_wp2_with (first | ((with_reducible refine gate_callee (f := 20) rfl ?_); refine goesL_ (some 5) rfl rfl Tryd.func20 (by kernel_rfl) rfl #[.string (⟨#[112, 117, 115, 104, 32, 112, 111, 112, 32, 99, 111, 112, 121, 32, 115, 119, 97, 112, 32, 108, 111, 97, 100, 32, 115, 116, 111, 114, 101, 32, 97, 114, 103, 32, 115, 101, 108, 102, 32, 97, 100, 100, 32, 115, 117, 98, 32, 109, 117, 108, 32, 100, 105, 118, 32, 109, 111, 100, 32, 110, 101, 103, 32, 101, 113, 32, 108, 101, 115, 115, 32, 97, 110, 100, 32, 111, 114, 32, 110, 111, 116, 32, 106, 117, 109, 112, 32, 122, 101, 114, 111, 32, 115, 101, 110, 100, 32, 97, 114, 109, 32, 99, 97, 108, 109, 32, 101, 110, 100]⟩ : ByteArray)] rfl (by (try simp only [List.map_toArray, List.map_cons, List.map_nil]); first | done | rfl | (simp only [List.length_drop, List.length_take]; rfl)) ?_; (with_reducible refine (strings_Fields.calls (⟨#[112, 117, 115, 104, 32, 112, 111, 112, 32, 99, 111, 112, 121, 32, 115, 119, 97, 112, 32, 108, 111, 97, 100, 32, 115, 116, 111, 114, 101, 32, 97, 114, 103, 32, 115, 101, 108, 102, 32, 97, 100, 100, 32, 115, 117, 98, 32, 109, 117, 108, 32, 100, 105, 118, 32, 109, 111, 100, 32, 110, 101, 103, 32, 101, 113, 32, 108, 101, 115, 115, 32, 97, 110, 100, 32, 111, 114, 32, 110, 111, 116, 32, 106, 117, 109, 112, 32, 122, 101, 114, 111, 32, 115, 101, 110, 100, 32, 97, 114, 109, 32, 99, 97, 108, 109, 32, 101, 110, 100]⟩ : ByteArray) t102 _ (by exact ⟨GW.below HG_.out (by repeat (first | (with_reducible first | exact HB.out | apply below_alloc | apply pw_below_drewN | apply below_drew1) | exact HB.out))⟩)  A2.out).mono ?_); rintro e w4 ⟨v103, rfl, ho0, hb⟩; refine ⟨_, rfl, ?_⟩; have n0_ := Aside0.mk (Kd.R_lower ho0 (below_size (by repeat (first | (with_reducible first | exact HB.out | apply below_alloc | apply pw_below_drewN | apply below_drew1) | exact HB.out)))); have n1_ := Aside0.mk (below_step (by repeat (first | (with_reducible first | exact HB.out | apply below_alloc | apply pw_below_drewN | apply below_drew1) | exact HB.out)) hb); clear HB; have HO104 := n0_; have HB := n1_; clear n0_ n1_; (try clear hb); (try clear hb2); (try clear hk); (try clear hi); (try clear ho0); obtain ⟨Ao5, co5, eo5⟩ := Kd.R_slice HO104.out; subst eo5) | ((with_reducible refine gate_callee (f := 19) rfl ?_); refine goesL_ (some 7) rfl rfl Tryd.func19 (by kernel_rfl) rfl #[.slice Ao5 t102.length co5, .string a0] rfl (by (try simp only [List.map_toArray, List.map_cons, List.map_nil]); first | done | rfl | (simp only [List.length_drop, List.length_take]; rfl)) ?_; (with_reducible refine (slices_Index_string_string.calls k _ _ t102 a0 t105 _ ?side1 ?side2 A3.out).mono ?_); (case side1 => repeat (first | exact (Kd.R_reads' HO104.out).2.2 | (with_reducible refine Kd.C_alloc ?_ _) | (with_reducible refine Kd.C_drewN ?_ _) | (with_reducible refine Kd.C_drew ?_))); (case side2 => exact (Kd.R_reads' HO104.out).2.1); rintro e w' ⟨rfl, ⟨nd, rfl⟩⟩; refine ⟨_, rfl, ?_⟩))
  go_ret2
  exact ⟨by first | rfl | (simp [errW_none, errW_some] <;> rfl) | (simp [*, errW_none, errW_some] <;> rfl), by repeat (first | (with_reducible first | exact HB.out | apply below_alloc | apply pw_below_drewN | apply below_drew1) | exact HB.out)⟩

/-! ### ops_Valid: function 9 -/
def ops_Valid.f (a0 : Int) : Option (Bool) := if a0 ≥ 1 then (some (decide (a0 ≤ 25))) else (some false)
set_option maxHeartbeats 8000000 in
set_option maxRecDepth 100000 in
theorem ops_Valid.calls (a0 : Int) (r : Bool) (w : World) (h : ops_Valid.f a0 = some r) :
    Calls Tryd.prog 9 #[.int .i64 a0] w fun e w' => e = .returned (.bool r) ∧ Drawn0 w w' := by
  have H : (if a0 ≥ 1 then (some (decide (a0 ≤ 25))) else (some false)) = some r := h
  clear h
  by_cases c2 : a0 ≥ 1
  · rw [if_pos c2] at H
    have c2b0 : decide (1 ≤ a0) = true := decide_eq_true c2
    clear c2
    obtain rfl := Option.some.inj H
    go_enter Tryd.func9, Tryd.ntmps9
    go_wp2
    go_ret
    exact ⟨by first | rfl | (simp; done) | (simp [*]; done) | (simp [xk_bne_nil]; done) | (simp [xk_bne_nil, *]; done), by repeat (first | exact Drawn0.refl _ | apply Drawn0.step)⟩
  · rw [if_neg c2] at H
    have c2b0 : decide (1 ≤ a0) = false := decide_eq_false c2
    clear c2
    obtain rfl := Option.some.inj H
    go_enter Tryd.func9, Tryd.ntmps9
    go_wp2
    go_ret
    exact ⟨by first | rfl | (simp; done) | (simp [*]; done) | (simp [xk_bne_nil]; done) | (simp [xk_bne_nil, *]; done), by repeat (first | exact Drawn0.refl _ | apply Drawn0.step)⟩

/-! ### ops_Name: function 11 -/
def ops_Name.f (a0 : Int) : Option (ByteArray) := (ops_Valid.f a0).bind fun t106 => (if t106 = true then ((strings_Fields.f (⟨#[112, 117, 115, 104, 32, 112, 111, 112, 32, 99, 111, 112, 121, 32, 115, 119, 97, 112, 32, 108, 111, 97, 100, 32, 115, 116, 111, 114, 101, 32, 97, 114, 103, 32, 115, 101, 108, 102, 32, 97, 100, 100, 32, 115, 117, 98, 32, 109, 117, 108, 32, 100, 105, 118, 32, 109, 111, 100, 32, 110, 101, 103, 32, 101, 113, 32, 108, 101, 115, 115, 32, 97, 110, 100, 32, 111, 114, 32, 110, 111, 116, 32, 106, 117, 109, 112, 32, 122, 101, 114, 111, 32, 115, 101, 110, 100, 32, 97, 114, 109, 32, 99, 97, 108, 109, 32, 101, 110, 100]⟩ : ByteArray)).bind fun t107 => (if 0 ≤ (wrap64 (a0 - 1)) then (if (wrap64 (a0 - 1)) < (t107.length : Int) then (some (rdOf ByteArray.empty t107 (wrap64 (a0 - 1)))) else (none)) else (none))) else (some (⟨#[]⟩ : ByteArray)))
set_option maxHeartbeats 8000000 in
set_option maxRecDepth 100000 in
theorem ops_Name.calls (a0 : Int) (r : ByteArray) (w : World) (HG_ : Aside0 (GW w)) (h : ops_Name.f a0 = some r) :
    Calls Tryd.prog 11 #[.int .i64 a0] w fun e w' => e = .returned (.string r) ∧ Below w.heap.size w w' := by
  have HB := Aside0.mk (Below.refl w.heap.size w)
  have H : ((ops_Valid.f a0).bind fun t106 => (if t106 = true then ((strings_Fields.f (⟨#[112, 117, 115, 104, 32, 112, 111, 112, 32, 99, 111, 112, 121, 32, 115, 119, 97, 112, 32, 108, 111, 97, 100, 32, 115, 116, 111, 114, 101, 32, 97, 114, 103, 32, 115, 101, 108, 102, 32, 97, 100, 100, 32, 115, 117, 98, 32, 109, 117, 108, 32, 100, 105, 118, 32, 109, 111, 100, 32, 110, 101, 103, 32, 101, 113, 32, 108, 101, 115, 115, 32, 97, 110, 100, 32, 111, 114, 32, 110, 111, 116, 32, 106, 117, 109, 112, 32, 122, 101, 114, 111, 32, 115, 101, 110, 100, 32, 97, 114, 109, 32, 99, 97, 108, 109, 32, 101, 110, 100]⟩ : ByteArray)).bind fun t107 => (if 0 ≤ (wrap64 (a0 - 1)) then (if (wrap64 (a0 - 1)) < (t107.length : Int) then (some (rdOf ByteArray.empty t107 (wrap64 (a0 - 1)))) else (none)) else (none))) else (some (⟨#[]⟩ : ByteArray)))) = some r := h
  clear h
  replace H := Option.bind_eq_some_iff.mp H
  obtain ⟨t106, A20, H⟩ := H
  replace H : (if t106 = true then ((strings_Fields.f (⟨#[112, 117, 115, 104, 32, 112, 111, 112, 32, 99, 111, 112, 121, 32, 115, 119, 97, 112, 32, 108, 111, 97, 100, 32, 115, 116, 111, 114, 101, 32, 97, 114, 103, 32, 115, 101, 108, 102, 32, 97, 100, 100, 32, 115, 117, 98, 32, 109, 117, 108, 32, 100, 105, 118, 32, 109, 111, 100, 32, 110, 101, 103, 32, 101, 113, 32, 108, 101, 115, 115, 32, 97, 110, 100, 32, 111, 114, 32, 110, 111, 116, 32, 106, 117, 109, 112, 32, 122, 101, 114, 111, 32, 115, 101, 110, 100, 32, 97, 114, 109, 32, 99, 97, 108, 109, 32, 101, 110, 100]⟩ : ByteArray)).bind fun t107 => (if 0 ≤ (wrap64 (a0 - 1)) then (if (wrap64 (a0 - 1)) < (t107.length : Int) then (some (rdOf ByteArray.empty t107 (wrap64 (a0 - 1)))) else (none)) else (none))) else (some (⟨#[]⟩ : ByteArray))) = some r := H
  have A2 := Aside0.mk A20
  clear A20
  by_cases c3 : t106 = true
  · subst c3
    have H1 : ((strings_Fields.f (⟨#[112, 117, 115, 104, 32, 112, 111, 112, 32, 99, 111, 112, 121, 32, 115, 119, 97, 112, 32, 108, 111, 97, 100, 32, 115, 116, 111, 114, 101, 32, 97, 114, 103, 32, 115, 101, 108, 102, 32, 97, 100, 100, 32, 115, 117, 98, 32, 109, 117, 108, 32, 100, 105, 118, 32, 109, 111, 100, 32, 110, 101, 103, 32, 101, 113, 32, 108, 101, 115, 115, 32, 97, 110, 100, 32, 111, 114, 32, 110, 111, 116, 32, 106, 117, 109, 112, 32, 122, 101, 114, 111, 32, 115, 101, 110, 100, 32, 97, 114, 109, 32, 99, 97, 108, 109, 32, 101, 110, 100]⟩ : ByteArray)).bind fun t107 => (if 0 ≤ (wrap64 (a0 - 1)) then (if (wrap64 (a0 - 1)) < (t107.length : Int) then (some (rdOf ByteArray.empty t107 (wrap64 (a0 - 1)))) else (none)) else (none))) = some r := by rw [if_pos rfl] at H; exact H
    clear H
    have H := H1
    clear H1
    replace H := Option.bind_eq_some_iff.mp H
    obtain ⟨t107, A40, H⟩ := H
    replace H : (if 0 ≤ (wrap64 (a0 - 1)) then (if (wrap64 (a0 - 1)) < (t107.length : Int) then (some (rdOf ByteArray.empty t107 (wrap64 (a0 - 1)))) else (none)) else (none)) = some r := H
    have A4 := Aside0.mk A40
    clear A40
    obtain ⟨ji5, hji5⟩ : ∃ j_ : Int, (wrap64 (a0 - 1)) = j_ := ⟨_, rfl⟩
    replace H : (if 0 ≤ (ji5) then (if (ji5) < (t107.length : Int) then (some (rdOf ByteArray.empty t107 (ji5))) else (none)) else (none)) = some r := by first | (rw [hji5] at H; exact H) | (simp only [hji5] at H ⊢; exact H)
    (try rw [hji5] at A2)
    (try rw [hji5] at A4)
    have hji5w : (IntKind.i64.wrap (a0 - 1)) = ji5 := (i64_w _).trans hji5
    by_cases c6 : 0 ≤ (ji5)
    · rw [if_pos c6] at H
      have c6b0 : decide (0 ≤ (ji5)) = true := decide_eq_true c6
      clear c6
      by_cases c7 : (ji5) < (t107.length : Int)
      · rw [if_pos c7] at H
        have c7b0 : decide ((ji5) < (t107.length : Int)) = true := decide_eq_true c7
        clear c7
        obtain rfl := Option.some.inj H
        go_enter Tryd.func11, Tryd.ntmps11
        go_wp2_with (first | ((with_reducible refine gate_callee (f := 9) rfl ?_); refine goesL_ (some 4) rfl rfl Tryd.func9 (by kernel_rfl) rfl #[.int .i64 a0] rfl (by (try simp only [List.map_toArray, List.map_cons, List.map_nil]); first | done | rfl | (simp only [List.length_drop, List.length_take]; rfl)) ?_; (with_reducible refine (ops_Valid.calls a0 true _ A2.out).mono ?_); rintro e w' ⟨rfl, ⟨nd, rfl⟩⟩; refine ⟨_, rfl, ?_⟩) | ((with_reducible refine gate_callee (f := 20) rfl ?_); refine goesL_ (some 6) rfl rfl Tryd.func20 (by kernel_rfl) rfl #[.string (⟨#[112, 117, 115, 104, 32, 112, 111, 112, 32, 99, 111, 112, 121, 32, 115, 119, 97, 112, 32, 108, 111, 97, 100, 32, 115, 116, 111, 114, 101, 32, 97, 114, 103, 32, 115, 101, 108, 102, 32, 97, 100, 100, 32, 115, 117, 98, 32, 109, 117, 108, 32, 100, 105, 118, 32, 109, 111, 100, 32, 110, 101, 103, 32, 101, 113, 32, 108, 101, 115, 115, 32, 97, 110, 100, 32, 111, 114, 32, 110, 111, 116, 32, 106, 117, 109, 112, 32, 122, 101, 114, 111, 32, 115, 101, 110, 100, 32, 97, 114, 109, 32, 99, 97, 108, 109, 32, 101, 110, 100]⟩ : ByteArray)] rfl (by (try simp only [List.map_toArray, List.map_cons, List.map_nil]); first | done | rfl | (simp only [List.length_drop, List.length_take]; rfl)) ?_; (with_reducible refine (strings_Fields.calls (⟨#[112, 117, 115, 104, 32, 112, 111, 112, 32, 99, 111, 112, 121, 32, 115, 119, 97, 112, 32, 108, 111, 97, 100, 32, 115, 116, 111, 114, 101, 32, 97, 114, 103, 32, 115, 101, 108, 102, 32, 97, 100, 100, 32, 115, 117, 98, 32, 109, 117, 108, 32, 100, 105, 118, 32, 109, 111, 100, 32, 110, 101, 103, 32, 101, 113, 32, 108, 101, 115, 115, 32, 97, 110, 100, 32, 111, 114, 32, 110, 111, 116, 32, 106, 117, 109, 112, 32, 122, 101, 114, 111, 32, 115, 101, 110, 100, 32, 97, 114, 109, 32, 99, 97, 108, 109, 32, 101, 110, 100]⟩ : ByteArray) t107 _ (by exact ⟨GW.below HG_.out (by repeat (first | (with_reducible first | exact HB.out | apply below_alloc | apply pw_below_drewN | apply below_drew1) | exact HB.out))⟩)  A4.out).mono ?_); rintro e w8 ⟨v108, rfl, ho0, hb⟩; refine ⟨_, rfl, ?_⟩; have n0_ := Aside0.mk (Kd.R_lower ho0 (below_size (by repeat (first | (with_reducible first | exact HB.out | apply below_alloc | apply pw_below_drewN | apply below_drew1) | exact HB.out)))); have n1_ := Aside0.mk (below_step (by repeat (first | (with_reducible first | exact HB.out | apply below_alloc | apply pw_below_drewN | apply below_drew1) | exact HB.out)) hb); clear HB; have HO109 := n0_; have HB := n1_; clear n0_ n1_; (try clear hb); (try clear hb2); (try clear hk); (try clear hi); (try clear ho0); obtain ⟨Ao9, co9, eo9⟩ := Kd.R_slice HO109.out; subst eo9; have p110 : 0 ≤ ((ji5) : Int) := of_decide_eq_true (by first | (with_reducible assumption) | assumption); have q110 : (ji5) < (t107.length : Int) := of_decide_eq_true (by first | (with_reducible assumption) | assumption); obtain ⟨ad110, e110, hx110_0⟩ := Kd.at_string (Kd.R_reads' HO109.out).2.2 (ji5) p110 q110; cases e110; replace p110 := eq_true p110; replace q110 := eq_true q110))
        go_ret
        exact ⟨by first | rfl | (simp [errW_none, errW_some] <;> rfl) | (simp only [← hji5]; first | rfl | (simp [errW_none, errW_some] <;> rfl)) | (simp [*, errW_none, errW_some] <;> rfl), by repeat (first | (with_reducible first | exact HB.out | apply below_alloc | apply pw_below_drewN | apply below_drew1) | exact HB.out)⟩
      · rw [if_neg c7] at H
        exact absurd H (by simp)
    · rw [if_neg c6] at H
      exact absurd H (by simp)
  · replace c3 := Bool.eq_false_iff.mpr c3
    subst c3
    have H1 : (some (⟨#[]⟩ : ByteArray)) = some r := by rw [if_neg (show ¬ (false = true) by decide)] at H; exact H
    clear H
    have H := H1
    clear H1
    obtain rfl := Option.some.inj H
    go_enter Tryd.func11, Tryd.ntmps11
    go_wp2_with (first | ((with_reducible refine gate_callee (f := 9) rfl ?_); refine goesL_ (some 4) rfl rfl Tryd.func9 (by kernel_rfl) rfl #[.int .i64 a0] rfl (by (try simp only [List.map_toArray, List.map_cons, List.map_nil]); first | done | rfl | (simp only [List.length_drop, List.length_take]; rfl)) ?_; (with_reducible refine (ops_Valid.calls a0 false _ A2.out).mono ?_); rintro e w' ⟨rfl, ⟨nd, rfl⟩⟩; refine ⟨_, rfl, ?_⟩))
    go_ret
    exact ⟨by first | rfl | (simp [errW_none, errW_some] <;> rfl) | (simp [*, errW_none, errW_some] <;> rfl), by repeat (first | (with_reducible first | exact HB.out | apply below_alloc | apply pw_below_drewN | apply below_drew1) | exact HB.out)⟩

/-! ### ops_Pops: function 13 -/
def ops_Pops.j0 : Nat → Int → Bool → Option (Int)
  | 0, _, _ => none
  | k + 1, x0, x3 => if x3 = true then (some 2) else (if x0 = 2 then (some 1) else (if x0 = 3 then (some 1) else (if x0 = 6 then (some 1) else (if x0 = 14 then (some 1) else (if x0 = 19 then (some 1) else (if x0 = 21 then (some 1) else (if x0 = 22 then (some 1) else (some 0))))))))
def ops_Pops.f (k : Nat) (a0 : Int) : Option (Int) := if a0 = 4 then (ops_Pops.j0 k a0 (a0 == 4)) else (if a0 ≥ 9 then (if a0 ≤ 13 then (ops_Pops.j0 k a0 (decide (a0 ≤ 13))) else (if a0 ≥ 15 then (ops_Pops.j0 k a0 (decide (a0 ≤ 18))) else (ops_Pops.j0 k a0 false))) else (if a0 ≥ 15 then (ops_Pops.j0 k a0 (decide (a0 ≤ 18))) else (ops_Pops.j0 k a0 false)))
theorem ops_Pops.mono_l : ∀ k, (∀ y0 y1, LeO (ops_Pops.j0 k y0 y1) (ops_Pops.j0 (k + 1) y0 y1))
  | 0 => fun _ _ r h => by simp [ops_Pops.j0] at h
  | k + 1 => by
    have ih0 := ops_Pops.mono_l k
    · intro y0 y1
      unfold ops_Pops.j0
      repeat' first
      | (with_reducible exact ih0 _ _)
      | (with_reducible exact LeO.refl _)
      | (with_reducible exact LeO.none _)
      | (with_reducible refine LeO.ite ?_ ?_)
      | (with_reducible refine LeO.bind ?_ (fun _ => ?_))
      | exact ih0 _ _
      | exact LeO.none _
      | refine LeO.ite ?_ ?_
      | refine LeO.bind ?_ (fun _ => ?_)
theorem ops_Pops.mono : ∀ a0 k, LeO (ops_Pops.f k a0) (ops_Pops.f (k + 1) a0) := by
  intro a0 k
  have ih0 := ops_Pops.mono_l k
  unfold ops_Pops.f
  repeat' first
      | (with_reducible exact ih0 _ _)
      | (with_reducible exact LeO.refl _)
      | (with_reducible exact LeO.none _)
      | (with_reducible refine LeO.ite ?_ ?_)
      | (with_reducible refine LeO.bind ?_ (fun _ => ?_))
      | exact ih0 _ _
      | exact LeO.none _
      | refine LeO.ite ?_ ?_
      | refine LeO.bind ?_ (fun _ => ?_)
set_option maxHeartbeats 8000000 in
set_option maxRecDepth 100000 in
theorem ops_Pops.calls (k : Nat) (a0 : Int) (r : Int) (w : World) (h : ops_Pops.f k a0 = some r) :
    Calls Tryd.prog 13 #[.int .i64 a0] w fun e w' => e = .returned (.int .i64 r) ∧ Drawn0 w w' := by
  have H : (if a0 = 4 then (ops_Pops.j0 k a0 (a0 == 4)) else (if a0 ≥ 9 then (if a0 ≤ 13 then (ops_Pops.j0 k a0 (decide (a0 ≤ 13))) else (if a0 ≥ 15 then (ops_Pops.j0 k a0 (decide (a0 ≤ 18))) else (ops_Pops.j0 k a0 false))) else (if a0 ≥ 15 then (ops_Pops.j0 k a0 (decide (a0 ≤ 18))) else (ops_Pops.j0 k a0 false)))) = some r := h
  clear h
  have HC2 := Aside0.mk H
  clear H
  go_enter Tryd.func13, Tryd.ntmps13
  go_upto_if 3 with (fail)
  go_cut [3] (fun v3 wc => ∃ (kq : Nat) (x3_1 : Bool), v3 = .bool x3_1 ∧ Aside0 (ops_Pops.j0 kq a0 x3_1 = some r) ∧ Aside0 (kq ≤ k) ∧ Drawn0 w wc)
  case first =>
    have H := HC2.out
    clear HC2
    by_cases c3 : a0 = 4
    · rw [if_pos c3] at H
      have c3b0 : (a0 == 4) = true := beq_iff_eq.mpr c3
      have c3b1 : (a0 != 4) = false := bne_eq_false_iff_eq.mpr c3
      clear c3
      (first | rw [c3b0] | (simp only [i64_w, i32_w]; rw [c3b0]) | skip)
      have H' := Aside0.mk H
      clear H
      go_wp2
      go_meet
      case rel => exact ⟨_, ((a0 == 4)), (by first | rfl | (simp; done) | (simp [*]; done) | (simp [xk_bne_nil]; done) | (simp [xk_bne_nil, *]; done)), H', ⟨by first | omega | exact Nat.le_refl _⟩, by repeat (first | exact Drawn0.refl _ | apply Drawn0.step)⟩
    · rw [if_neg c3] at H
      have c3b0 : (a0 == 4) = false := beq_eq_false_iff_ne.mpr c3
      have c3b1 : (a0 != 4) = true := bne_iff_ne.mpr c3
      (first | rw [c3b0] | (simp only [i64_w, i32_w]; rw [c3b0]) | skip)
      by_cases c4 : a0 ≥ 9
      · rw [if_pos c4] at H
        have c4b0 : decide (9 ≤ a0) = true := decide_eq_true c4
        clear c4
        by_cases c5 : a0 ≤ 13
        · rw [if_pos c5] at H
          have c5b0 : decide (a0 ≤ 13) = true := decide_eq_true c5
          clear c5
          have H' := Aside0.mk H
          clear H
          go_wp2
          go_meet
          case rel => exact ⟨_, (decide (a0 ≤ 13)), (by first | rfl | (simp; done) | (simp [*]; done) | (simp [xk_bne_nil]; done) | (simp [xk_bne_nil, *]; done)), H', ⟨by first | omega | exact Nat.le_refl _⟩, by repeat (first | exact Drawn0.refl _ | apply Drawn0.step)⟩
        · rw [if_neg c5] at H
          have c5b0 : decide (a0 ≤ 13) = false := decide_eq_false c5
          clear c5
          by_cases c6 : a0 ≥ 15
          · rw [if_pos c6] at H
            have c6b0 : decide (15 ≤ a0) = true := decide_eq_true c6
            clear c6
            have H' := Aside0.mk H
            clear H
            go_wp2
            go_meet
            case rel => exact ⟨_, (decide (a0 ≤ 18)), (by first | rfl | (simp; done) | (simp [*]; done) | (simp [xk_bne_nil]; done) | (simp [xk_bne_nil, *]; done)), H', ⟨by first | omega | exact Nat.le_refl _⟩, by repeat (first | exact Drawn0.refl _ | apply Drawn0.step)⟩
          · rw [if_neg c6] at H
            have c6b0 : decide (15 ≤ a0) = false := decide_eq_false c6
            clear c6
            have H' := Aside0.mk H
            clear H
            go_wp2
            go_meet
            case rel => exact ⟨_, (false), (by first | rfl | (simp; done) | (simp [*]; done) | (simp [xk_bne_nil]; done) | (simp [xk_bne_nil, *]; done)), H', ⟨by first | omega | exact Nat.le_refl _⟩, by repeat (first | exact Drawn0.refl _ | apply Drawn0.step)⟩
      · rw [if_neg c4] at H
        have c4b0 : decide (9 ≤ a0) = false := decide_eq_false c4
        clear c4
        by_cases c7 : a0 ≥ 15
        · rw [if_pos c7] at H
          have c7b0 : decide (15 ≤ a0) = true := decide_eq_true c7
          clear c7
          have H' := Aside0.mk H
          clear H
          go_wp2
          go_meet
          case rel => exact ⟨_, (decide (a0 ≤ 18)), (by first | rfl | (simp; done) | (simp [*]; done) | (simp [xk_bne_nil]; done) | (simp [xk_bne_nil, *]; done)), H', ⟨by first | omega | exact Nat.le_refl _⟩, by repeat (first | exact Drawn0.refl _ | apply Drawn0.step)⟩
        · rw [if_neg c7] at H
          have c7b0 : decide (15 ≤ a0) = false := decide_eq_false c7
          clear c7
          have H' := Aside0.mk H
          clear H
          go_wp2
          go_meet
          case rel => exact ⟨_, (false), (by first | rfl | (simp; done) | (simp [*]; done) | (simp [xk_bne_nil]; done) | (simp [xk_bne_nil, *]; done)), H', ⟨by first | omega | exact Nat.le_refl _⟩, by repeat (first | exact Drawn0.refl _ | apply Drawn0.step)⟩
  case rest =>
    clear HC2
    try clear c1
    try clear p2
    try clear c3
    try clear c3b0
    try clear c3b1
    try clear c4
    try clear c4b0
    try clear c5
    try clear c5b0
    try clear c6
    try clear c6b0
    try clear c7
    try clear c7b0
    obtain ⟨kq, x3_1, rfl, HA, HJ1, ⟨mc1, rfl⟩⟩ := hcut
    cases kq with
    | zero => exact absurd HA.out (by simp [ops_Pops.j0])
    | succ kj1 =>
      have H := HA.out
      clear HA
      simp only [ops_Pops.j0] at H
      by_cases c8 : x3_1 = true
      · subst c8
        have H1 : (some 2) = some r := by rw [if_pos rfl] at H; exact H
        clear H
        have H := H1
        clear H1
        obtain rfl := Option.some.inj H
        go_wp2
        go_ret
        exact ⟨by first | rfl | (simp; done) | (simp [*]; done) | (simp [xk_bne_nil]; done) | (simp [xk_bne_nil, *]; done), by repeat (first | exact Drawn0.refl _ | apply Drawn0.step)⟩
      · replace c8 := Bool.eq_false_iff.mpr c8
        subst c8
        have H1 : (if a0 = 2 then (some 1) else (if a0 = 3 then (some 1) else (if a0 = 6 then (some 1) else (if a0 = 14 then (some 1) else (if a0 = 19 then (some 1) else (if a0 = 21 then (some 1) else (if a0 = 22 then (some 1) else (some 0)))))))) = some r := by rw [if_neg (show ¬ (false = true) by decide)] at H; exact H
        clear H
        have H := H1
        clear H1
        by_cases c9 : a0 = 2
        · rw [if_pos c9] at H
          have c9b0 : (a0 == 2) = true := beq_iff_eq.mpr c9
          have c9b1 : (a0 != 2) = false := bne_eq_false_iff_eq.mpr c9
          clear c9
          obtain rfl := Option.some.inj H
          go_wp2
          go_ret
          exact ⟨by first | rfl | (simp; done) | (simp [*]; done) | (simp [xk_bne_nil]; done) | (simp [xk_bne_nil, *]; done), by repeat (first | exact Drawn0.refl _ | apply Drawn0.step)⟩
        · rw [if_neg c9] at H
          have c9b0 : (a0 == 2) = false := beq_eq_false_iff_ne.mpr c9
          have c9b1 : (a0 != 2) = true := bne_iff_ne.mpr c9
          by_cases c10 : a0 = 3
          · rw [if_pos c10] at H
            have c10b0 : (a0 == 3) = true := beq_iff_eq.mpr c10
            have c10b1 : (a0 != 3) = false := bne_eq_false_iff_eq.mpr c10
            clear c10
            obtain rfl := Option.some.inj H
            go_wp2
            go_ret
            exact ⟨by first | rfl | (simp; done) | (simp [*]; done) | (simp [xk_bne_nil]; done) | (simp [xk_bne_nil, *]; done), by repeat (first | exact Drawn0.refl _ | apply Drawn0.step)⟩
          · rw [if_neg c10] at H
            have c10b0 : (a0 == 3) = false := beq_eq_false_iff_ne.mpr c10
            have c10b1 : (a0 != 3) = true := bne_iff_ne.mpr c10
            by_cases c11 : a0 = 6
            · rw [if_pos c11] at H
              have c11b0 : (a0 == 6) = true := beq_iff_eq.mpr c11
              have c11b1 : (a0 != 6) = false := bne_eq_false_iff_eq.mpr c11
              clear c11
              obtain rfl := Option.some.inj H
              go_wp2
              go_ret
              exact ⟨by first | rfl | (simp; done) | (simp [*]; done) | (simp [xk_bne_nil]; done) | (simp [xk_bne_nil, *]; done), by repeat (first | exact Drawn0.refl _ | apply Drawn0.step)⟩
            · rw [if_neg c11] at H
              have c11b0 : (a0 == 6) = false := beq_eq_false_iff_ne.mpr c11
              have c11b1 : (a0 != 6) = true := bne_iff_ne.mpr c11
              by_cases c12 : a0 = 14
              · rw [if_pos c12] at H
                have c12b0 : (a0 == 14) = true := beq_iff_eq.mpr c12
                have c12b1 : (a0 != 14) = false := bne_eq_false_iff_eq.mpr c12
                clear c12
                obtain rfl := Option.some.inj H
                go_wp2
                go_ret
                exact ⟨by first | rfl | (simp; done) | (simp [*]; done) | (simp [xk_bne_nil]; done) | (simp [xk_bne_nil, *]; done), by repeat (first | exact Drawn0.refl _ | apply Drawn0.step)⟩
              · rw [if_neg c12] at H
                have c12b0 : (a0 == 14) = false := beq_eq_false_iff_ne.mpr c12
                have c12b1 : (a0 != 14) = true := bne_iff_ne.mpr c12
                by_cases c13 : a0 = 19
                · rw [if_pos c13] at H
                  have c13b0 : (a0 == 19) = true := beq_iff_eq.mpr c13
                  have c13b1 : (a0 != 19) = false := bne_eq_false_iff_eq.mpr c13
                  clear c13
                  obtain rfl := Option.some.inj H
                  go_wp2
                  go_ret
                  exact ⟨by first | rfl | (simp; done) | (simp [*]; done) | (simp [xk_bne_nil]; done) | (simp [xk_bne_nil, *]; done), by repeat (first | exact Drawn0.refl _ | apply Drawn0.step)⟩
                · rw [if_neg c13] at H
                  have c13b0 : (a0 == 19) = false := beq_eq_false_iff_ne.mpr c13
                  have c13b1 : (a0 != 19) = true := bne_iff_ne.mpr c13
                  by_cases c14 : a0 = 21
                  · rw [if_pos c14] at H
                    have c14b0 : (a0 == 21) = true := beq_iff_eq.mpr c14
                    have c14b1 : (a0 != 21) = false := bne_eq_false_iff_eq.mpr c14
                    clear c14
                    obtain rfl := Option.some.inj H
                    go_wp2
                    go_ret
                    exact ⟨by first | rfl | (simp; done) | (simp [*]; done) | (simp [xk_bne_nil]; done) | (simp [xk_bne_nil, *]; done), by repeat (first | exact Drawn0.refl _ | apply Drawn0.step)⟩
                  · rw [if_neg c14] at H
                    have c14b0 : (a0 == 21) = false := beq_eq_false_iff_ne.mpr c14
                    have c14b1 : (a0 != 21) = true := bne_iff_ne.mpr c14
                    by_cases c15 : a0 = 22
                    · rw [if_pos c15] at H
                      have c15b0 : (a0 == 22) = true := beq_iff_eq.mpr c15
                      have c15b1 : (a0 != 22) = false := bne_eq_false_iff_eq.mpr c15
                      clear c15
                      obtain rfl := Option.some.inj H
                      go_wp2
                      go_ret
                      exact ⟨by first | rfl | (simp; done) | (simp [*]; done) | (simp [xk_bne_nil]; done) | (simp [xk_bne_nil, *]; done), by repeat (first | exact Drawn0.refl _ | apply Drawn0.step)⟩
                    · rw [if_neg c15] at H
                      have c15b0 : (a0 == 22) = false := beq_eq_false_iff_ne.mpr c15
                      have c15b1 : (a0 != 22) = true := bne_iff_ne.mpr c15
                      obtain rfl := Option.some.inj H
                      go_wp2
                      go_ret
                      exact ⟨by first | rfl | (simp; done) | (simp [*]; done) | (simp [xk_bne_nil]; done) | (simp [xk_bne_nil, *]; done), by repeat (first | exact Drawn0.refl _ | apply Drawn0.step)⟩

/-! ### ops_Puts: function 15 -/
def ops_Puts.j0 : Nat → Int → Bool → Option (Int)
  | 0, _, _ => none
  | k + 1, x0, x3 => if x3 = true then (some 2) else (if x0 = 1 then (some 1) else (if x0 = 5 then (some 1) else (if x0 = 7 then (some 1) else (if x0 = 8 then (some 1) else (if x0 ≥ 9 then (if x0 ≤ 19 then (some 1) else (some 0)) else (some 0))))))
def ops_Puts.f (k : Nat) (a0 : Int) : Option (Int) := if a0 = 3 then (ops_Puts.j0 k a0 (a0 == 3)) else (ops_Puts.j0 k a0 (a0 == 4))
theorem ops_Puts.mono_l : ∀ k, (∀ y0 y1, LeO (ops_Puts.j0 k y0 y1) (ops_Puts.j0 (k + 1) y0 y1))
  | 0 => fun _ _ r h => by simp [ops_Puts.j0] at h
  | k + 1 => by
    have ih0 := ops_Puts.mono_l k
    · intro y0 y1
      unfold ops_Puts.j0
      repeat' first
      | (with_reducible exact ih0 _ _)
      | (with_reducible exact LeO.refl _)
      | (with_reducible exact LeO.none _)
      | (with_reducible refine LeO.ite ?_ ?_)
      | (with_reducible refine LeO.bind ?_ (fun _ => ?_))
      | exact ih0 _ _
      | exact LeO.none _
      | refine LeO.ite ?_ ?_
      | refine LeO.bind ?_ (fun _ => ?_)
theorem ops_Puts.mono : ∀ a0 k, LeO (ops_Puts.f k a0) (ops_Puts.f (k + 1) a0) := by
  intro a0 k
  have ih0 := ops_Puts.mono_l k
  unfold ops_Puts.f
  repeat' first
      | (with_reducible exact ih0 _ _)
      | (with_reducible exact LeO.refl _)
      | (with_reducible exact LeO.none _)
      | (with_reducible refine LeO.ite ?_ ?_)
      | (with_reducible refine LeO.bind ?_ (fun _ => ?_))
      | exact ih0 _ _
      | exact LeO.none _
      | refine LeO.ite ?_ ?_
      | refine LeO.bind ?_ (fun _ => ?_)
set_option maxHeartbeats 8000000 in
set_option maxRecDepth 100000 in
theorem ops_Puts.calls (k : Nat) (a0 : Int) (r : Int) (w : World) (h : ops_Puts.f k a0 = some r) :
    Calls Tryd.prog 15 #[.int .i64 a0] w fun e w' => e = .returned (.int .i64 r) ∧ Drawn0 w w' := by
  have H : (if a0 = 3 then (ops_Puts.j0 k a0 (a0 == 3)) else (ops_Puts.j0 k a0 (a0 == 4))) = some r := h
  clear h
  have HC2 := Aside0.mk H
  clear H
  go_enter Tryd.func15, Tryd.ntmps15
  go_upto_if 3 with (fail)
  go_cut [3] (fun v3 wc => ∃ (kq : Nat) (x3_1 : Bool), v3 = .bool x3_1 ∧ Aside0 (ops_Puts.j0 kq a0 x3_1 = some r) ∧ Aside0 (kq ≤ k) ∧ Drawn0 w wc)
  case first =>
    have H := HC2.out
    clear HC2
    by_cases c3 : a0 = 3
    · rw [if_pos c3] at H
      have c3b0 : (a0 == 3) = true := beq_iff_eq.mpr c3
      have c3b1 : (a0 != 3) = false := bne_eq_false_iff_eq.mpr c3
      clear c3
      (first | rw [c3b0] | (simp only [i64_w, i32_w]; rw [c3b0]) | skip)
      have H' := Aside0.mk H
      clear H
      go_wp2
      go_meet
      case rel => exact ⟨_, ((a0 == 3)), (by first | rfl | (simp; done) | (simp [*]; done) | (simp [xk_bne_nil]; done) | (simp [xk_bne_nil, *]; done)), H', ⟨by first | omega | exact Nat.le_refl _⟩, by repeat (first | exact Drawn0.refl _ | apply Drawn0.step)⟩
    · rw [if_neg c3] at H
      have c3b0 : (a0 == 3) = false := beq_eq_false_iff_ne.mpr c3
      have c3b1 : (a0 != 3) = true := bne_iff_ne.mpr c3
      (first | rw [c3b0] | (simp only [i64_w, i32_w]; rw [c3b0]) | skip)
      have H' := Aside0.mk H
      clear H
      go_wp2
      go_meet
      case rel => exact ⟨_, ((a0 == 4)), (by first | rfl | (simp; done) | (simp [*]; done) | (simp [xk_bne_nil]; done) | (simp [xk_bne_nil, *]; done)), H', ⟨by first | omega | exact Nat.le_refl _⟩, by repeat (first | exact Drawn0.refl _ | apply Drawn0.step)⟩
  case rest =>
    clear HC2
    try clear c1
    try clear p2
    try clear c3
    try clear c3b0
    try clear c3b1
    obtain ⟨kq, x3_1, rfl, HA, HJ1, ⟨mc1, rfl⟩⟩ := hcut
    cases kq with
    | zero => exact absurd HA.out (by simp [ops_Puts.j0])
    | succ kj1 =>
      have H := HA.out
      clear HA
      simp only [ops_Puts.j0] at H
      by_cases c4 : x3_1 = true
      · subst c4
        have H1 : (some 2) = some r := by rw [if_pos rfl] at H; exact H
        clear H
        have H := H1
        clear H1
        obtain rfl := Option.some.inj H
        go_wp2
        go_ret
        exact ⟨by first | rfl | (simp; done) | (simp [*]; done) | (simp [xk_bne_nil]; done) | (simp [xk_bne_nil, *]; done), by repeat (first | exact Drawn0.refl _ | apply Drawn0.step)⟩
      · replace c4 := Bool.eq_false_iff.mpr c4
        subst c4
        have H1 : (if a0 = 1 then (some 1) else (if a0 = 5 then (some 1) else (if a0 = 7 then (some 1) else (if a0 = 8 then (some 1) else (if a0 ≥ 9 then (if a0 ≤ 19 then (some 1) else (some 0)) else (some 0)))))) = some r := by rw [if_neg (show ¬ (false = true) by decide)] at H; exact H
        clear H
        have H := H1
        clear H1
        by_cases c5 : a0 = 1
        · rw [if_pos c5] at H
          have c5b0 : (a0 == 1) = true := beq_iff_eq.mpr c5
          have c5b1 : (a0 != 1) = false := bne_eq_false_iff_eq.mpr c5
          clear c5
          obtain rfl := Option.some.inj H
          go_wp2
          go_ret
          exact ⟨by first | rfl | (simp; done) | (simp [*]; done) | (simp [xk_bne_nil]; done) | (simp [xk_bne_nil, *]; done), by repeat (first | exact Drawn0.refl _ | apply Drawn0.step)⟩
        · rw [if_neg c5] at H
          have c5b0 : (a0 == 1) = false := beq_eq_false_iff_ne.mpr c5
          have c5b1 : (a0 != 1) = true := bne_iff_ne.mpr c5
          by_cases c6 : a0 = 5
          · rw [if_pos c6] at H
            have c6b0 : (a0 == 5) = true := beq_iff_eq.mpr c6
            have c6b1 : (a0 != 5) = false := bne_eq_false_iff_eq.mpr c6
            clear c6
            obtain rfl := Option.some.inj H
            go_wp2
            go_ret
            exact ⟨by first | rfl | (simp; done) | (simp [*]; done) | (simp [xk_bne_nil]; done) | (simp [xk_bne_nil, *]; done), by repeat (first | exact Drawn0.refl _ | apply Drawn0.step)⟩
          · rw [if_neg c6] at H
            have c6b0 : (a0 == 5) = false := beq_eq_false_iff_ne.mpr c6
            have c6b1 : (a0 != 5) = true := bne_iff_ne.mpr c6
            by_cases c7 : a0 = 7
            · rw [if_pos c7] at H
              have c7b0 : (a0 == 7) = true := beq_iff_eq.mpr c7
              have c7b1 : (a0 != 7) = false := bne_eq_false_iff_eq.mpr c7
              clear c7
              obtain rfl := Option.some.inj H
              go_wp2
              go_ret
              exact ⟨by first | rfl | (simp; done) | (simp [*]; done) | (simp [xk_bne_nil]; done) | (simp [xk_bne_nil, *]; done), by repeat (first | exact Drawn0.refl _ | apply Drawn0.step)⟩
            · rw [if_neg c7] at H
              have c7b0 : (a0 == 7) = false := beq_eq_false_iff_ne.mpr c7
              have c7b1 : (a0 != 7) = true := bne_iff_ne.mpr c7
              by_cases c8 : a0 = 8
              · rw [if_pos c8] at H
                have c8b0 : (a0 == 8) = true := beq_iff_eq.mpr c8
                have c8b1 : (a0 != 8) = false := bne_eq_false_iff_eq.mpr c8
                clear c8
                obtain rfl := Option.some.inj H
                go_wp2
                go_ret
                exact ⟨by first | rfl | (simp; done) | (simp [*]; done) | (simp [xk_bne_nil]; done) | (simp [xk_bne_nil, *]; done), by repeat (first | exact Drawn0.refl _ | apply Drawn0.step)⟩
              · rw [if_neg c8] at H
                have c8b0 : (a0 == 8) = false := beq_eq_false_iff_ne.mpr c8
                have c8b1 : (a0 != 8) = true := bne_iff_ne.mpr c8
                by_cases c9 : a0 ≥ 9
                · rw [if_pos c9] at H
                  have c9b0 : decide (9 ≤ a0) = true := decide_eq_true c9
                  clear c9
                  by_cases c10 : a0 ≤ 19
                  · rw [if_pos c10] at H
                    have c10b0 : decide (a0 ≤ 19) = true := decide_eq_true c10
                    clear c10
                    obtain rfl := Option.some.inj H
                    go_wp2
                    go_ret
                    exact ⟨by first | rfl | (simp; done) | (simp [*]; done) | (simp [xk_bne_nil]; done) | (simp [xk_bne_nil, *]; done), by repeat (first | exact Drawn0.refl _ | apply Drawn0.step)⟩
                  · rw [if_neg c10] at H
                    have c10b0 : decide (a0 ≤ 19) = false := decide_eq_false c10
                    clear c10
                    obtain rfl := Option.some.inj H
                    go_wp2
                    go_ret
                    exact ⟨by first | rfl | (simp; done) | (simp [*]; done) | (simp [xk_bne_nil]; done) | (simp [xk_bne_nil, *]; done), by repeat (first | exact Drawn0.refl _ | apply Drawn0.step)⟩
                · rw [if_neg c9] at H
                  have c9b0 : decide (9 ≤ a0) = false := decide_eq_false c9
                  clear c9
                  obtain rfl := Option.some.inj H
                  go_wp2
                  go_ret
                  exact ⟨by first | rfl | (simp; done) | (simp [*]; done) | (simp [xk_bne_nil]; done) | (simp [xk_bne_nil, *]; done), by repeat (first | exact Drawn0.refl _ | apply Drawn0.step)⟩

end Go.Proofs.YtonlbhhmeepmmaaDoor.P
