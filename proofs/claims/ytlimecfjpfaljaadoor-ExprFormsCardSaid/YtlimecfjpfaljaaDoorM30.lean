/- Texts merged: P10, E1, E2. -/
import Derived.Test.YtlimecfjpfaljaaDoorM21
import Derived.Test.YtlimecfjpfaljaaDoorM19
import Derived.Test.YtlimecfjpfaljaaDoorM26
import Derived.Test.YtlimecfjpfaljaaDoorM29
section
/- Plain: an expression's text (chapter 13). -/
set_option linter.unusedVariables false
set_option linter.unusedSimpArgs false
set_option linter.unusedSectionVars false
namespace Go.Proofs.YtlimecfjpfaljaaDoor.W
open Go Go.Sy

/- "reg down over waiting armed sent mail" -/
def askNames : List (List UInt8) := [[114, 101, 103], [100, 111, 119, 110], [111, 118, 101, 114], [119, 97, 105, 116, 105, 110, 103], [97, 114, 109, 101, 100], [115, 101, 110, 116], [109, 97, 105, 108]]
def exHead (op : Int) : List UInt8 := if asksW op then askNames.getD (op - 31).toNat [] else opName op
def exWord (i : Instr) : List UInt8 := exHead i.op ++ (if someW i.op then 32 :: Lib.itoa i.a else [])
def exOkT (i : Instr) : Bool := asksW i.op || reckonsW i.op
def exText (x : List Instr) : List UInt8 := if x.all exOkT then Lib.join (x.map exWord) [32] else []
theorem itoa_mem2 {n : Int} {c : UInt8} (h : c ∈ Lib.itoa n) : c = 45 ∨ Lib.IsDig c := by
  unfold Lib.itoa at h
  split at h
  · rcases List.mem_cons.1 h with h | h
    · exact .inl h
    · exact .inr (Lib.decDigits_all _ c h)
  · exact .inr (Lib.decDigits_all _ c h)
theorem itoa_no32 (n : Int) : (32 : UInt8) ∉ Lib.itoa n := by
  intro hm
  rcases itoa_mem2 hm with h | hd
  · cases h
  · unfold Lib.IsDig at hd
    have : (32 : UInt8).toNat = 32 := rfl
    omega
theorem exHead_ok {op : Int} (h : (asksW op || reckonsW op) = true) : exHead op ≠ [] ∧ (32 : UInt8) ∉ exHead op ∧ (exHead op).length ≤ 10 := by
  have hop : (1 ≤ op ∧ op ≤ 4) ∨ (9 ≤ op ∧ op ≤ 19) ∨ (31 ≤ op ∧ op ≤ 37) := by
    simp only [asksW, reckonsW, Bool.or_eq_true, decide_eq_true_eq] at h
    omega
  obtain ⟨k, rfl⟩ : ∃ k : Nat, op = k := ⟨op.toNat, by omega⟩
  have hk : k < 38 := by omega
  have hall : ∀ k : Nat, k < 38 → ((1 ≤ k ∧ k ≤ 4) ∨ (9 ≤ k ∧ k ≤ 19) ∨ (31 ≤ k ∧ k ≤ 37)) → exHead (k : Int) ≠ [] ∧ (32 : UInt8) ∉ exHead (k : Int) ∧ (exHead (k : Int)).length ≤ 10 := by decide +kernel
  exact hall k hk (by omega)
theorem exWord_ok {i : Instr} (h : exOkT i = true) : exWord i ≠ [] ∧ (exWord i).count 32 = (if someW i.op then 1 else 0) := by
  obtain ⟨h1, h2, _⟩ := exHead_ok h
  unfold exWord
  refine ⟨by simp [h1], ?_⟩
  rw [List.count_append, List.count_eq_zero_of_not_mem h2]
  split
  · rw [List.count_cons, List.count_eq_zero_of_not_mem (itoa_no32 _)]; rfl
  · rfl
theorem exWord_len {i : Instr} (h : exOkT i = true) (ha : R64 i.a) : (exWord i).length ≤ 32 := by
  obtain ⟨_, _, h3⟩ := exHead_ok h
  unfold exWord
  have := Lib.itoa_length_le i.a ha.1 ha.2
  rw [List.length_append]
  split
  · rw [List.length_cons]; omega
  · simp; omega
theorem joinTail_cons (sep x : List UInt8) (r : List (List UInt8)) : Lib.joinTail sep (x :: r) = sep ++ x ++ Lib.joinTail sep r := by simp [Lib.joinTail]
theorem joinTail_app (sep : List UInt8) (a b : List (List UInt8)) : Lib.joinTail sep (a ++ b) = Lib.joinTail sep a ++ Lib.joinTail sep b := by simp [Lib.joinTail]
theorem join_app (sep : List UInt8) {a b : List (List UInt8)} (ha : a ≠ []) (hb : b ≠ []) : Lib.join (a ++ b) sep = Lib.join a sep ++ sep ++ Lib.join b sep := by
  cases a with
  | nil => exact absurd rfl ha
  | cons x a =>
    cases b with
    | nil => exact absurd rfl hb
    | cons y b =>
      rw [List.cons_append, Lib.join_cons, Lib.join_cons, Lib.join_cons, joinTail_app, joinTail_cons]
      simp [List.append_assoc]
theorem join_len (sep : List UInt8) (n : Nat) : ∀ (l : List (List UInt8)), (∀ x ∈ l, x.length ≤ n) → (Lib.joinTail sep l).length ≤ l.length * (n + sep.length)
  | [], _ => by simp [Lib.joinTail]
  | x :: l, h => by
    have := join_len sep n l (fun y hy => h y (by simp [hy]))
    have h1 := h x (by simp)
    rw [joinTail_cons]
    simp only [List.length_append, List.length_cons, Nat.add_mul]
    omega
theorem exText_len {x : List Instr} (hx : x.length ≤ 1000) (ha : ∀ i ∈ x, R64 i.a) (h : x.all exOkT = true) : (Lib.join (x.map exWord) [32]).length ≤ 100000 := by
  cases x with
  | nil => simp [Lib.join_nil]
  | cons i x =>
    rw [List.all_eq_true] at h
    rw [List.map_cons, Lib.join_cons, List.length_append]
    have h1 := exWord_len (h i (by simp)) (ha i (by simp))
    have h2 := join_len [32] 32 (x.map exWord) (fun y hy => by
      obtain ⟨j, hj, rfl⟩ := List.mem_map.1 hy
      exact exWord_len (h j (by simp [hj])) (ha j (by simp [hj])))
    simp only [List.length_map, List.length_cons, List.length_nil] at h2 hx
    omega
/-- How many words an expression's text has. -/
def exWords (x : List Instr) : Nat := x.length + x.countP (fun i => someW i.op)
theorem joinTail_count : ∀ (x : List Instr), x.all exOkT = true → (Lib.joinTail [32] (x.map exWord)).count 32 = exWords x
  | [], _ => rfl
  | i :: x, h => by
    rw [List.all_cons, Bool.and_eq_true] at h
    rw [List.map_cons, joinTail_cons, List.count_append, List.count_append, (exWord_ok h.1).2, joinTail_count x h.2]
    unfold exWords
    rw [List.countP_cons]
    simp only [List.count_cons, List.count_nil, List.length_cons]
    cases someW i.op <;> simp <;> omega
theorem exText_count {x : List Instr} (hx : x ≠ []) (h : x.all exOkT = true) : (exText x).count 32 + 1 = exWords x := by
  cases x with
  | nil => exact absurd rfl hx
  | cons i x =>
    have h0 := h
    rw [List.all_cons, Bool.and_eq_true] at h
    unfold exText
    rw [if_pos h0, List.map_cons, Lib.join_cons, List.count_append, (exWord_ok h.1).2, joinTail_count x h.2]
    unfold exWords
    rw [List.countP_cons]
    simp only [List.length_cons]
    cases someW i.op <;> simp <;> omega
theorem exText_nil {x : List Instr} (hx : x ≠ []) : exText x = [] ↔ x.all exOkT = false := by
  cases x with
  | nil => exact absurd rfl hx
  | cons i x =>
    unfold exText
    by_cases h : (i :: x).all exOkT = true
    · rw [if_pos h]
      have h1 := h
      rw [List.all_cons, Bool.and_eq_true] at h1
      rw [List.map_cons, Lib.join_cons]
      constructor
      · intro e
        exact absurd (List.append_eq_nil_iff.1 e).1 (exWord_ok h1.1).1
      · intro e
        rw [h] at e; cases e
    · rw [if_neg h]
      exact ⟨fun _ => by simpa using h, fun _ => rfl⟩
theorem exText_app {x y : List Instr} (hx : x ≠ []) (hy : y ≠ []) : exText (x ++ y) = if exText x = [] ∨ exText y = [] then [] else exText x ++ [32] ++ exText y := by
  by_cases h1 : x.all exOkT = true
  · by_cases h2 : y.all exOkT = true
    · have e1 : exText x ≠ [] := fun e => by rw [(exText_nil hx).1 e] at h1; cases h1
      have e2 : exText y ≠ [] := fun e => by rw [(exText_nil hy).1 e] at h2; cases h2
      rw [if_neg (by rintro (e | e); exact e1 e; exact e2 e)]
      unfold exText
      rw [if_pos h1, if_pos h2, if_pos (by rw [List.all_append, h1, h2]; rfl), List.map_append, join_app [32] (by simpa using hx) (by simpa using hy)]
    · have h2 : y.all exOkT = false := by simpa using h2
      rw [if_pos (.inr ((exText_nil hy).2 h2))]
      exact (exText_nil (by simp [hx])).2 (by rw [List.all_append, h2, Bool.and_false])
  · have h1 : x.all exOkT = false := by simpa using h1
    rw [if_pos (.inl ((exText_nil hx).2 h1))]
    exact (exText_nil (by simp [hx])).2 (by rw [List.all_append, h1, Bool.false_and])
end Go.Proofs.YtlimecfjpfaljaaDoor.W
end
section
/- Walks: texts of expressions (chapter 13). -/
set_option linter.unusedVariables false
set_option linter.unusedSimpArgs false
set_option linter.unusedSectionVars false
set_option pp.maxSteps 40000
set_option maxHeartbeats 4000000
namespace Go.Proofs.YtlimecfjpfaljaaDoor.W
open Go Go.Sy

theorem join_ (xs : List ByteArray) (sep : ByteArray) (hN : xs.length ≤ 100000) (hlen : (Lib.join (xs.map (·.data.toList)) sep.data.toList).length ≤ 140737488355328) : Pure Tryd.prog 50 [sl 1 eStr xs, str sep] (str (bs (Lib.join (xs.map (·.data.toList)) sep.data.toList))) := by
  refine ⟨⟨_, Tryd.func50, by kernel_rfl, by kernel_rfl⟩, fun K w vs hg hk hsz hv => ?_⟩
  have h1 : rd vs 1 = .string sep := (hv 1 (str sep) rfl).atom_inv
  have h0 := hv 0 _ rfl
  have hvs : vs = #[rd vs 0, .string sep] := by
    rw [← h1]
    have hs : vs.size = 2 := hsz
    apply Array.ext
    · simp [hs]
    · intro i hi1 hi2
      rcases i with _ | _ | i
      · simp [rd, hs]
      · simp [rd, hs]
      · simp at hi2; omega
  rw [hvs]
  generalize rd vs 0 = v at h0
  clear hvs hv hsz h1
  unfold sl at h0
  generalize hn : xs.length = n at h0
  generalize he : rows eStr xs = el at h0
  cases h0 with
  | @fz _ _ _ _ b o cap cur hb hn0 hc hm hs hl h1 h =>
    have hin := hk _ _ hb
    obtain ⟨e, hw⟩ := hin
    have hbw : b < w.heap.size := by
      rcases Nat.lt_or_ge b w.heap.size with h' | h'
      · exact h'
      · rw [Array.getElem?_eq_none h'] at hw; cases hw
    subst hn
    refine (Tryd.strings_Join b o cap xs sep w (fun j x hj => ?_) hbw (by omega) hc hlen).mono fun e' w' ⟨he', hb'⟩ => ⟨_, K, he', .atom _, fun _ _ h => h, KIn.below hk hb', fun _ _ h => .inl h, hb'⟩
    have hjl : j < xs.length := (List.getElem?_eq_some_iff.1 hj).1
    have hx := h j hjl 0 (str x) (by rw [← he]; simp [rows, hj, eStr])
    have hx2 := hx.atom_inv
    simp only [Nat.mul_one, Nat.add_zero] at hx2
    have hcs : o + j < cur.size := by omega
    simp only [World.cell?, hw]
    simp only [rd, Array.getD_eq_getD_getElem?, Array.getElem?_eq_getElem hcs, Option.getD_some] at hx2
    simp [Array.getElem?_eq_getElem hcs, hx2]
  | fz0 A cap hm =>
    have hxs : xs = [] := List.eq_nil_of_length_eq_zero hn
    subst hxs
    refine (Tryd.strings_Join_none A cap sep w).mono fun e' w' ⟨he', hw'⟩ => ⟨_, K, he', .atom _, fun _ _ h => h, by rw [hw']; exact hk, fun _ _ h => .inl h, by rw [hw']; exact RowKit.Below.refl _ _⟩
/- "push pop copy .. end" -/
def opsT : List UInt8 := [112, 117, 115, 104, 32, 112, 111, 112, 32, 99, 111, 112, 121, 32, 115, 119, 97, 112, 32, 108, 111, 97, 100, 32, 115, 116, 111, 114, 101, 32, 97, 114, 103, 32, 115, 101, 108, 102, 32, 97, 100, 100, 32, 115, 117, 98, 32, 109, 117, 108, 32, 100, 105, 118, 32, 109, 111, 100, 32, 110, 101, 103, 32, 101, 113, 32, 108, 101, 115, 115, 32, 97, 110, 100, 32, 111, 114, 32, 110, 111, 116, 32, 106, 117, 109, 112, 32, 122, 101, 114, 111, 32, 115, 101, 110, 100, 32, 97, 114, 109, 32, 99, 97, 108, 109, 32, 101, 110, 100]
theorem fields_ops : Pure Tryd.prog 45 [str (bs opsT)] (sl 1 eStr (opNames.map bs)) := by
  have h := fields_ opsT (by decide) (by decide) (by decide +kernel)
  rwa [show Lib.fields opsT = opNames by decide +kernel] at h
theorem name_op (op : Int) : Pure Tryd.prog 47 [i64 op] (str (bs (opName op))) := by
  have hv := opsValid_ op
  by_cases h : 1 ≤ op ∧ op ≤ 25
  · have e : opValid op = true := by simp [opValid, h]
    rw [e] at hv
    obtain ⟨h1, h2⟩ := h
    refine Pure.of_spec (Spec.of_run (fn := Tryd.f47) Tryd.func47 rfl rfl (by kernel_rfl) ?_) (by first | assumption | rfl | (split <;> rfl) | (split <;> split <;> rfl))
    repeat' (first | refine Rg.any rfl rfl rfl (fun _ hq => G_ixF tok rfl rfl rfl rfl rfl (by omega) (by simp [opNames]; omega) hq) (by first | exact trivial | exact rfl | exact .inl rfl | exact .inr rfl | focus ((repeat (first | exact trivial | (refine ⟨Stay.op false tok rfl rfl rfl ?_ (fun t ht => by cases ht; rfl), ?_⟩; (first | exact ⟨⟩ | omega | focus (simp <;> omega) | decide +kernel)) | (refine ⟨Stay.op true tok rfl rfl rfl ?_ (fun t ht => by cases ht; rfl), ?_⟩; (first | exact ⟨⟩ | omega | focus (simp <;> omega) | decide +kernel)) | refine ⟨Stay.skip rfl rfl (fun t ht => by cases ht; rfl), ?_⟩)); done)) ?_ | refine Run.ctl rfl ?_ | (refine Rg.op false tok rfl rfl rfl rfl ?_ ?_ ?_; (first | exact ⟨⟩ | omega | focus (simp <;> omega) | decide +kernel); (first | exact trivial | exact rfl | exact .inl rfl | exact .inr rfl | focus ((repeat (first | exact trivial | (refine ⟨Stay.op false tok rfl rfl rfl ?_ (fun t ht => by cases ht; rfl), ?_⟩; (first | exact ⟨⟩ | omega | focus (simp <;> omega) | decide +kernel)) | (refine ⟨Stay.op true tok rfl rfl rfl ?_ (fun t ht => by cases ht; rfl), ?_⟩; (first | exact ⟨⟩ | omega | focus (simp <;> omega) | decide +kernel)) | refine ⟨Stay.skip rfl rfl (fun t ht => by cases ht; rfl), ?_⟩)); done))) | refine Rg.call (hv) rfl rfl rfl rfl rfl ⟨⟨.refl _, trivial⟩, rfl⟩ ?_ | refine Rg.call (fields_ops) rfl rfl rfl rfl rfl ⟨⟨.refl _, trivial⟩, rfl⟩ ?_ | (refine Rg.op true tok rfl rfl rfl rfl ?_ ?_ ?_; (first | exact ⟨⟩ | omega | focus (simp <;> omega) | decide +kernel); (first | exact trivial | exact rfl | exact .inl rfl | exact .inr rfl | focus ((repeat (first | exact trivial | (refine ⟨Stay.op false tok rfl rfl rfl ?_ (fun t ht => by cases ht; rfl), ?_⟩; (first | exact ⟨⟩ | omega | focus (simp <;> omega) | decide +kernel)) | (refine ⟨Stay.op true tok rfl rfl rfl ?_ (fun t ht => by cases ht; rfl), ?_⟩; (first | exact ⟨⟩ | omega | focus (simp <;> omega) | decide +kernel)) | refine ⟨Stay.skip rfl rfl (fun t ht => by cases ht; rfl), ?_⟩)); done))) | refine Rg.nil ?_ | refine Rg.skip rfl rfl rfl ?_ | refine Run.regR ?_ | refine Run.drwR mixed (by kernel_rfl) rfl ?_ | refine Run.condT rfl ?_ | refine Run.condF rfl ?_ | ((first | refine Run.condB rfl (fun hc => ?_) (fun hc => ?_) | ((fail_if_success (refine Rg.lit true rfl ?_)); (fail_if_success (refine Rg.lit false rfl ?_)); refine Rg.guard rfl (fun hc => ?_) (fun hc => ?_))) <;> ((try simp only [cs] at hc))))
    (first | refine Run.ret tok Tryd.func47 rfl ?_ | refine Run.fall tok Tryd.func47 rfl ?_)
    refine .ofStr ?_
    unfold opName
    rw [if_pos e]
    rw [List.getD_eq_getElem?_getD, List.getElem?_map, List.getD_eq_getElem?_getD]
    have hl : (op - 1).toNat < opNames.length := by simp [opNames]; omega
    rw [List.getElem?_eq_getElem hl]
    rfl
  · have e : opValid op = false := by simp [opValid]; omega
    rw [e] at hv
    refine Pure.of_spec (Spec.of_run (fn := Tryd.f47) Tryd.func47 rfl rfl (by kernel_rfl) ?_) (by first | assumption | rfl | (split <;> rfl) | (split <;> split <;> rfl))
    repeat' (first | refine Run.ctl rfl ?_ | (refine Rg.op false tok rfl rfl rfl rfl ?_ ?_ ?_; (first | exact ⟨⟩ | omega | focus (simp <;> omega) | decide +kernel); (first | exact trivial | exact rfl | exact .inl rfl | exact .inr rfl | focus ((repeat (first | exact trivial | (refine ⟨Stay.op false tok rfl rfl rfl ?_ (fun t ht => by cases ht; rfl), ?_⟩; (first | exact ⟨⟩ | omega | focus (simp <;> omega) | decide +kernel)) | (refine ⟨Stay.op true tok rfl rfl rfl ?_ (fun t ht => by cases ht; rfl), ?_⟩; (first | exact ⟨⟩ | omega | focus (simp <;> omega) | decide +kernel)) | refine ⟨Stay.skip rfl rfl (fun t ht => by cases ht; rfl), ?_⟩)); done))) | refine Rg.call (hv) rfl rfl rfl rfl rfl ⟨⟨.refl _, trivial⟩, rfl⟩ ?_ | (refine Rg.op true tok rfl rfl rfl rfl ?_ ?_ ?_; (first | exact ⟨⟩ | omega | focus (simp <;> omega) | decide +kernel); (first | exact trivial | exact rfl | exact .inl rfl | exact .inr rfl | focus ((repeat (first | exact trivial | (refine ⟨Stay.op false tok rfl rfl rfl ?_ (fun t ht => by cases ht; rfl), ?_⟩; (first | exact ⟨⟩ | omega | focus (simp <;> omega) | decide +kernel)) | (refine ⟨Stay.op true tok rfl rfl rfl ?_ (fun t ht => by cases ht; rfl), ?_⟩; (first | exact ⟨⟩ | omega | focus (simp <;> omega) | decide +kernel)) | refine ⟨Stay.skip rfl rfl (fun t ht => by cases ht; rfl), ?_⟩)); done))) | refine Rg.nil ?_ | refine Rg.skip rfl rfl rfl ?_ | refine Run.regR ?_ | refine Run.drwR mixed (by kernel_rfl) rfl ?_ | refine Run.condT rfl ?_ | refine Run.condF rfl ?_ | ((first | refine Run.condB rfl (fun hc => ?_) (fun hc => ?_) | ((fail_if_success (refine Rg.lit true rfl ?_)); (fail_if_success (refine Rg.lit false rfl ?_)); refine Rg.guard rfl (fun hc => ?_) (fun hc => ?_))) <;> ((try simp only [cs] at hc))))
    (first | refine Run.ret tok Tryd.func47 rfl ?_ | refine Run.fall tok Tryd.func47 rfl ?_)
    refine .ofStr ?_
    unfold opName
    rw [if_neg (by rw [e]; simp)]
    rfl
def askT : List UInt8 := [114, 101, 103, 32, 100, 111, 119, 110, 32, 111, 118, 101, 114, 32, 119, 97, 105, 116, 105, 110, 103, 32, 97, 114, 109, 101, 100, 32, 115, 101, 110, 116, 32, 109, 97, 105, 108]
theorem fields_ask : Pure Tryd.prog 45 [str (bs askT)] (sl 1 eStr (askNames.map bs)) := by
  have h := fields_ askT (by decide) (by decide) (by decide +kernel)
  rwa [show Lib.fields askT = askNames by decide +kernel] at h
def rowS (l : List ByteArray) : Option Blk := some ⟨9, 1, l.length, rows eStr l, false, false⟩
theorem rows_snocE {α : Type} [Inhabited α] (enc : α → List PV) (l : List α) (x : α) {a b : Nat → List PV} {n : Nat} (hn : n = l.length) (ha : ∀ k, k < l.length → a k = rows enc l k) (hb : b 0 = enc x) {k : Nat} (hk : k < n + 1) : appEl n a b k = rows enc (l ++ [x]) k :=
  rows_app enc l [x] hn ha (fun q hq => by obtain rfl : q = 0 := by simpa using hq
                                           exact hb) k (by subst hn; exact hk)
theorem sz32 : (ByteArray.mk #[32]).size = 1 := rfl
theorem askName_at {op : Int} (h : 31 ≤ op ∧ op ≤ 37) : (askNames.map bs).getD (op - 31).toNat default = bs (exHead op) := by
  have h1 : asksW op = true := by simp [asksW]; omega
  have hl : (op - 31).toNat < askNames.length := by simp [askNames]; omega
  unfold exHead
  rw [if_pos h1, List.getD_eq_getElem?_getD, List.getElem?_map, List.getD_eq_getElem?_getD, List.getElem?_eq_getElem hl]
  rfl
theorem opHead {op : Int} (h : asksW op = false) : exHead op = opName op := by unfold exHead; rw [h]; rfl
theorem exWord_some {op a : Int} (h : someW op = true) : bs (exHead op) ++ ((ByteArray.mk #[32]) ++ bs (Lib.itoa a)) = bs (exWord ⟨op, a⟩) := by
  unfold exWord
  dsimp only
  rw [if_pos h]
  rw [show (ByteArray.mk #[32]) = bs [32] from rfl, bs_app, bs_app]
  rfl
theorem exWord_none {op a : Int} (h : someW op = false) : bs (exHead op) = bs (exWord ⟨op, a⟩) := by
  unfold exWord
  dsimp only
  rw [if_neg (by rw [h]; decide), List.append_nil]
theorem exText_ (x : List Instr) (hx : x.length ≤ 1000) (hok : ∀ i ∈ x, R64 i.a) : Pure Tryd.prog 25 [sl 2 eInstr x] (str (bs (exText x))) := by
  unfold exText
  refine Pure.of_spec (Spec.of_run (fn := Tryd.f25) Tryd.func25 rfl rfl (by kernel_rfl) ?_) (by first | assumption | rfl | (split <;> rfl) | (split <;> split <;> rfl))
  repeat' (first | refine Run.ctl rfl ?_ | (refine Rg.op false tok rfl rfl rfl rfl ?_ ?_ ?_; (first | exact ⟨⟩ | omega | focus (simp <;> omega) | decide +kernel); (first | exact trivial | exact rfl | exact .inl rfl | exact .inr rfl)) | (refine Rg.op true tok rfl rfl rfl rfl ?_ ?_ ?_; (first | exact ⟨⟩ | omega | focus (simp <;> omega) | decide +kernel); (first | exact trivial | exact rfl | exact .inl rfl | exact .inr rfl)) | refine Rg.nil ?_ | refine Rg.skip rfl rfl rfl ?_ | refine Run.regR ?_ | refine Run.condT rfl ?_ | refine Run.condF rfl ?_ | ((first | refine Run.condB rfl (fun hc => ?_) (fun hc => ?_) | ((fail_if_success (refine Rg.lit true rfl ?_)); (fail_if_success (refine Rg.lit false rfl ?_)); refine Rg.guard rfl (fun hc => ?_) (fun hc => ?_))) <;> ((try simp only [cs] at hc); (first | ((exfalso; omega); done) | skip))))
  refine Run.nilRow 3 9 1 (rows eStr []) rfl ?_
  refine Run.loopN (ι := Nat) (fun j => ([(3, .slc 0 0 ((x.take j).map fun i => bs (exWord i)).length), (7, sl 2 eInstr x), (8, i64 x.length), (9, i64 j)], [rowS ((x.take j).map fun i => bs (exWord i))])) (fun j => j ≤ x.length ∧ (x.take j).all exOkT = true) (fun j => x.length - j) 0 ⟨rfl, rfl, rfl, rfl, trivial⟩ rfl ⟨by omega, by simp⟩ ?_
  rintro j ⟨hj, hal⟩ back backR
  dsimp only
  by_cases hlt : j < x.length
  · have hmem := mem_getD hlt
    have hia := hok _ hmem
    have htk0 : x.take (j + 1) = x.take j ++ [x.getD j default] := by
      rw [List.take_add_one, List.getElem?_eq_getElem hlt]
      simp [hlt]
    generalize hi : x.getD j default = i at hia htk0 hmem
    obtain ⟨op, a⟩ := i
    have htk : ((x.take (j + 1)).map fun i => bs (exWord i)) = ((x.take j).map fun i => bs (exWord i)) ++ [bs (exWord ⟨op, a⟩)] := by rw [htk0, List.map_append]; rfl
    have hal2 : exOkT ⟨op, a⟩ = true → (x.take (j + 1)).all exOkT = true := fun h => by rw [htk0, List.all_append, hal]; simp [h]
    have has := asks_ op
    have hre := reckons_ op
    have hso := some_ op
    have hnm := name_op op
    have hit := itoa_ a hia.1 hia.2
    have hil := Lib.itoa_length_le a hia.1 hia.2
    have hol : (opName op).length ≤ 10 := by
      unfold opName
      split
      · rename_i hv
        have hr : 1 ≤ op ∧ op ≤ 25 := by simpa [opValid] using hv
        obtain ⟨k, rfl⟩ : ∃ k : Nat, op = k := ⟨op.toNat, by omega⟩
        have hall : ∀ k : Nat, k < 26 → (opNames.getD ((k : Int) - 1).toNat []).length ≤ 10 := by decide +kernel
        exact hall k (by omega)
      · simp
    clear htk0
    by_cases hA : asksW op = true
    · have hop : 31 ≤ op ∧ op ≤ 37 := by simpa [asksW] using hA
      have hal2 := hal2 (by simp [exOkT, hA])
      have hnn := askName_at hop
      rw [hA] at has
      have hsz : ((askNames.map bs).getD (op - 31).toNat default).size ≤ 10 := by
        rw [hnn, bs_size]
        exact (exHead_ok (by rw [hA]; rfl)).2.2
      cases hS : someW op with
      | true =>
        rw [hS] at hso
        repeat' (first | (rw [hi]) | (refine Run.drwP [] [0, 1, 2, 3, 4, 5, 6] [none, none, none, none, none, none, none] mixed (by kernel_rfl) rfl ?_) | refine Rg.any rfl rfl rfl (fun _ hq => G_ixF (n := (askNames.map bs).length) (el := rows eStr (askNames.map bs)) tok rfl rfl rfl rfl rfl (by dsimp only; omega) (by simp [askNames]; omega) hq) (by first | exact trivial | exact rfl | exact .inl rfl | exact .inr rfl | focus ((repeat (first | exact trivial | (refine ⟨Stay.op false tok rfl rfl rfl ?_ (fun t ht => by cases ht; rfl), ?_⟩; (first | exact ⟨⟩ | omega | focus (simp <;> omega) | decide +kernel)) | (refine ⟨Stay.op true tok rfl rfl rfl ?_ (fun t ht => by cases ht; rfl), ?_⟩; (first | exact ⟨⟩ | omega | focus (simp <;> omega) | decide +kernel)) | refine ⟨Stay.skip rfl rfl (fun t ht => by cases ht; rfl), ?_⟩)); done)) ?_ | refine Rg.any rfl rfl rfl (fun _ hq => G_concat' rfl rfl rfl (by (try dsimp only); simp only [ByteArray.size_append, bs_size, sz32]; omega) hq) (by first | exact trivial | exact rfl | exact .inl rfl | exact .inr rfl | focus ((repeat (first | exact trivial | (refine ⟨Stay.op false tok rfl rfl rfl ?_ (fun t ht => by cases ht; rfl), ?_⟩; (first | exact ⟨⟩ | omega | focus (simp <;> omega) | decide +kernel)) | (refine ⟨Stay.op true tok rfl rfl rfl ?_ (fun t ht => by cases ht; rfl), ?_⟩; (first | exact ⟨⟩ | omega | focus (simp <;> omega) | decide +kernel)) | refine ⟨Stay.skip rfl rfl (fun t ht => by cases ht; rfl), ?_⟩)); done)) ?_ | refine Run.ctl rfl ?_ | (refine Rg.op false tok rfl rfl rfl rfl ?_ ?_ ?_; (first | exact ⟨⟩ | omega | focus (simp <;> omega) | decide +kernel); (first | exact trivial | exact rfl | exact .inl rfl | exact .inr rfl | focus ((repeat (first | exact trivial | (refine ⟨Stay.op false tok rfl rfl rfl ?_ (fun t ht => by cases ht; rfl), ?_⟩; (first | exact ⟨⟩ | omega | focus (simp <;> omega) | decide +kernel)) | (refine ⟨Stay.op true tok rfl rfl rfl ?_ (fun t ht => by cases ht; rfl), ?_⟩; (first | exact ⟨⟩ | omega | focus (simp <;> omega) | decide +kernel)) | refine ⟨Stay.skip rfl rfl (fun t ht => by cases ht; rfl), ?_⟩)); done))) | refine Rg.call (has) rfl rfl rfl rfl rfl ⟨⟨.refl _, trivial⟩, rfl⟩ ?_ | refine Rg.call (hre) rfl rfl rfl rfl rfl ⟨⟨.refl _, trivial⟩, rfl⟩ ?_ | refine Rg.call (hso) rfl rfl rfl rfl rfl ⟨⟨.refl _, trivial⟩, rfl⟩ ?_ | refine Rg.call (hit) rfl rfl rfl rfl rfl ⟨⟨.refl _, trivial⟩, rfl⟩ ?_ | refine Rg.call (fields_ask) rfl rfl rfl rfl rfl ⟨⟨.refl _, trivial⟩, rfl⟩ ?_ | (refine Rg.op true tok rfl rfl rfl rfl ?_ ?_ ?_; (first | exact ⟨⟩ | omega | focus (simp <;> omega) | decide +kernel); (first | exact trivial | exact rfl | exact .inl rfl | exact .inr rfl | focus ((repeat (first | exact trivial | (refine ⟨Stay.op false tok rfl rfl rfl ?_ (fun t ht => by cases ht; rfl), ?_⟩; (first | exact ⟨⟩ | omega | focus (simp <;> omega) | decide +kernel)) | (refine ⟨Stay.op true tok rfl rfl rfl ?_ (fun t ht => by cases ht; rfl), ?_⟩; (first | exact ⟨⟩ | omega | focus (simp <;> omega) | decide +kernel)) | refine ⟨Stay.skip rfl rfl (fun t ht => by cases ht; rfl), ?_⟩)); done))) | refine Rg.nil ?_ | refine Rg.skip rfl rfl rfl ?_ | refine Run.regR ?_ | refine Run.drwR mixed (by kernel_rfl) rfl ?_ | refine Run.condT rfl ?_ | refine Run.condF rfl ?_ | ((first | refine Run.condB rfl (fun hc => ?_) (fun hc => ?_) | ((fail_if_success (refine Rg.lit true rfl ?_)); (fail_if_success (refine Rg.lit false rfl ?_)); refine Rg.guard rfl (fun hc => ?_) (fun hc => ?_))) <;> ((try simp only [cs] at hc); (first | ((exfalso; omega); done) | ((exact absurd rfl hc); done) | ((cases hc); done) | skip))))
        exact backR [3] (j + 1) _ _ ⟨hlt, hal2⟩ (by omega) rfl ⟨⟨_, rfl, rfl, rfl, by first | (simp [List.length_take]; done) | (simp [List.length_take]; omega), rfl, fun k hk => .ofEq (by
          dsimp only at hk ⊢
          rw [htk]
          exact rows_snocE eStr _ _ (by first | (simp [List.length_take]; done) | (simp [List.length_take]; omega)) (fun k _ => by rw [Nat.zero_add]) (by show [PV.atom (Value.string _)] = [PV.atom (Value.string _)]; rw [hnn, exWord_some hS]) (by simpa [List.length_take] using hk)) rfl⟩, trivial⟩ ⟨.slcN rfl rfl (by first | (simp [List.length_take]; done) | (simp [List.length_take]; omega)), .cl rfl, .cl rfl, .cl rfl, trivial⟩
      | false =>
        rw [hS] at hso
        repeat' (first | (rw [hi]) | (refine Run.drwP [] [0, 1, 2, 3, 4, 5, 6] [none, none, none, none, none, none, none] mixed (by kernel_rfl) rfl ?_) | refine Rg.any rfl rfl rfl (fun _ hq => G_ixF (n := (askNames.map bs).length) (el := rows eStr (askNames.map bs)) tok rfl rfl rfl rfl rfl (by dsimp only; omega) (by simp [askNames]; omega) hq) (by first | exact trivial | exact rfl | exact .inl rfl | exact .inr rfl | focus ((repeat (first | exact trivial | (refine ⟨Stay.op false tok rfl rfl rfl ?_ (fun t ht => by cases ht; rfl), ?_⟩; (first | exact ⟨⟩ | omega | focus (simp <;> omega) | decide +kernel)) | (refine ⟨Stay.op true tok rfl rfl rfl ?_ (fun t ht => by cases ht; rfl), ?_⟩; (first | exact ⟨⟩ | omega | focus (simp <;> omega) | decide +kernel)) | refine ⟨Stay.skip rfl rfl (fun t ht => by cases ht; rfl), ?_⟩)); done)) ?_ | refine Rg.any rfl rfl rfl (fun _ hq => G_concat' rfl rfl rfl (by (try dsimp only); simp only [ByteArray.size_append, bs_size, sz32]; omega) hq) (by first | exact trivial | exact rfl | exact .inl rfl | exact .inr rfl | focus ((repeat (first | exact trivial | (refine ⟨Stay.op false tok rfl rfl rfl ?_ (fun t ht => by cases ht; rfl), ?_⟩; (first | exact ⟨⟩ | omega | focus (simp <;> omega) | decide +kernel)) | (refine ⟨Stay.op true tok rfl rfl rfl ?_ (fun t ht => by cases ht; rfl), ?_⟩; (first | exact ⟨⟩ | omega | focus (simp <;> omega) | decide +kernel)) | refine ⟨Stay.skip rfl rfl (fun t ht => by cases ht; rfl), ?_⟩)); done)) ?_ | refine Run.ctl rfl ?_ | (refine Rg.op false tok rfl rfl rfl rfl ?_ ?_ ?_; (first | exact ⟨⟩ | omega | focus (simp <;> omega) | decide +kernel); (first | exact trivial | exact rfl | exact .inl rfl | exact .inr rfl | focus ((repeat (first | exact trivial | (refine ⟨Stay.op false tok rfl rfl rfl ?_ (fun t ht => by cases ht; rfl), ?_⟩; (first | exact ⟨⟩ | omega | focus (simp <;> omega) | decide +kernel)) | (refine ⟨Stay.op true tok rfl rfl rfl ?_ (fun t ht => by cases ht; rfl), ?_⟩; (first | exact ⟨⟩ | omega | focus (simp <;> omega) | decide +kernel)) | refine ⟨Stay.skip rfl rfl (fun t ht => by cases ht; rfl), ?_⟩)); done))) | refine Rg.call (has) rfl rfl rfl rfl rfl ⟨⟨.refl _, trivial⟩, rfl⟩ ?_ | refine Rg.call (hre) rfl rfl rfl rfl rfl ⟨⟨.refl _, trivial⟩, rfl⟩ ?_ | refine Rg.call (hso) rfl rfl rfl rfl rfl ⟨⟨.refl _, trivial⟩, rfl⟩ ?_ | refine Rg.call (hit) rfl rfl rfl rfl rfl ⟨⟨.refl _, trivial⟩, rfl⟩ ?_ | refine Rg.call (fields_ask) rfl rfl rfl rfl rfl ⟨⟨.refl _, trivial⟩, rfl⟩ ?_ | (refine Rg.op true tok rfl rfl rfl rfl ?_ ?_ ?_; (first | exact ⟨⟩ | omega | focus (simp <;> omega) | decide +kernel); (first | exact trivial | exact rfl | exact .inl rfl | exact .inr rfl | focus ((repeat (first | exact trivial | (refine ⟨Stay.op false tok rfl rfl rfl ?_ (fun t ht => by cases ht; rfl), ?_⟩; (first | exact ⟨⟩ | omega | focus (simp <;> omega) | decide +kernel)) | (refine ⟨Stay.op true tok rfl rfl rfl ?_ (fun t ht => by cases ht; rfl), ?_⟩; (first | exact ⟨⟩ | omega | focus (simp <;> omega) | decide +kernel)) | refine ⟨Stay.skip rfl rfl (fun t ht => by cases ht; rfl), ?_⟩)); done))) | refine Rg.nil ?_ | refine Rg.skip rfl rfl rfl ?_ | refine Run.regR ?_ | refine Run.drwR mixed (by kernel_rfl) rfl ?_ | refine Run.condT rfl ?_ | refine Run.condF rfl ?_ | ((first | refine Run.condB rfl (fun hc => ?_) (fun hc => ?_) | ((fail_if_success (refine Rg.lit true rfl ?_)); (fail_if_success (refine Rg.lit false rfl ?_)); refine Rg.guard rfl (fun hc => ?_) (fun hc => ?_))) <;> ((try simp only [cs] at hc); (first | ((exfalso; omega); done) | ((exact absurd rfl hc); done) | ((cases hc); done) | skip))))
        exact backR [3] (j + 1) _ _ ⟨hlt, hal2⟩ (by omega) rfl ⟨⟨_, rfl, rfl, rfl, by first | (simp [List.length_take]; done) | (simp [List.length_take]; omega), rfl, fun k hk => .ofEq (by
          dsimp only at hk ⊢
          rw [htk]
          exact rows_snocE eStr _ _ (by first | (simp [List.length_take]; done) | (simp [List.length_take]; omega)) (fun k _ => by rw [Nat.zero_add]) (by show [PV.atom (Value.string _)] = [PV.atom (Value.string _)]; rw [hnn, exWord_none hS]) (by simpa [List.length_take] using hk)) rfl⟩, trivial⟩ ⟨.slcN rfl rfl (by first | (simp [List.length_take]; done) | (simp [List.length_take]; omega)), .cl rfl, .cl rfl, .cl rfl, trivial⟩
    · have hA : asksW op = false := by simpa using hA
      have hnA : ¬(31 ≤ op ∧ op ≤ 37) := by simpa [asksW] using hA
      rw [hA] at has
      by_cases hR : reckonsW op = true
      · have hal2 := hal2 (by simp [exOkT, hR])
        rw [hR] at hre
        cases hS : someW op with
        | true =>
          rw [hS] at hso
          repeat' (first | (rw [hi]) | (refine Run.drwP [] [0, 1, 2, 3, 4, 5, 6] [none, none, none, none, none, none, none] mixed (by kernel_rfl) rfl ?_) | refine Rg.any rfl rfl rfl (fun _ hq => G_concat' rfl rfl rfl (by (try dsimp only); simp only [ByteArray.size_append, bs_size, sz32]; omega) hq) (by first | exact trivial | exact rfl | exact .inl rfl | exact .inr rfl | focus ((repeat (first | exact trivial | (refine ⟨Stay.op false tok rfl rfl rfl ?_ (fun t ht => by cases ht; rfl), ?_⟩; (first | exact ⟨⟩ | omega | focus (simp <;> omega) | decide +kernel)) | (refine ⟨Stay.op true tok rfl rfl rfl ?_ (fun t ht => by cases ht; rfl), ?_⟩; (first | exact ⟨⟩ | omega | focus (simp <;> omega) | decide +kernel)) | refine ⟨Stay.skip rfl rfl (fun t ht => by cases ht; rfl), ?_⟩)); done)) ?_ | refine Run.ctl rfl ?_ | (refine Rg.op false tok rfl rfl rfl rfl ?_ ?_ ?_; (first | exact ⟨⟩ | omega | focus (simp <;> omega) | decide +kernel); (first | exact trivial | exact rfl | exact .inl rfl | exact .inr rfl | focus ((repeat (first | exact trivial | (refine ⟨Stay.op false tok rfl rfl rfl ?_ (fun t ht => by cases ht; rfl), ?_⟩; (first | exact ⟨⟩ | omega | focus (simp <;> omega) | decide +kernel)) | (refine ⟨Stay.op true tok rfl rfl rfl ?_ (fun t ht => by cases ht; rfl), ?_⟩; (first | exact ⟨⟩ | omega | focus (simp <;> omega) | decide +kernel)) | refine ⟨Stay.skip rfl rfl (fun t ht => by cases ht; rfl), ?_⟩)); done))) | refine Rg.call (has) rfl rfl rfl rfl rfl ⟨⟨.refl _, trivial⟩, rfl⟩ ?_ | refine Rg.call (hre) rfl rfl rfl rfl rfl ⟨⟨.refl _, trivial⟩, rfl⟩ ?_ | refine Rg.call (hso) rfl rfl rfl rfl rfl ⟨⟨.refl _, trivial⟩, rfl⟩ ?_ | refine Rg.call (hit) rfl rfl rfl rfl rfl ⟨⟨.refl _, trivial⟩, rfl⟩ ?_ | refine Rg.call (hnm) rfl rfl rfl rfl rfl ⟨⟨.refl _, trivial⟩, rfl⟩ ?_ | (refine Rg.op true tok rfl rfl rfl rfl ?_ ?_ ?_; (first | exact ⟨⟩ | omega | focus (simp <;> omega) | decide +kernel); (first | exact trivial | exact rfl | exact .inl rfl | exact .inr rfl | focus ((repeat (first | exact trivial | (refine ⟨Stay.op false tok rfl rfl rfl ?_ (fun t ht => by cases ht; rfl), ?_⟩; (first | exact ⟨⟩ | omega | focus (simp <;> omega) | decide +kernel)) | (refine ⟨Stay.op true tok rfl rfl rfl ?_ (fun t ht => by cases ht; rfl), ?_⟩; (first | exact ⟨⟩ | omega | focus (simp <;> omega) | decide +kernel)) | refine ⟨Stay.skip rfl rfl (fun t ht => by cases ht; rfl), ?_⟩)); done))) | refine Rg.nil ?_ | refine Rg.skip rfl rfl rfl ?_ | refine Run.regR ?_ | refine Run.drwR mixed (by kernel_rfl) rfl ?_ | refine Run.condT rfl ?_ | refine Run.condF rfl ?_ | ((first | refine Run.condB rfl (fun hc => ?_) (fun hc => ?_) | ((fail_if_success (refine Rg.lit true rfl ?_)); (fail_if_success (refine Rg.lit false rfl ?_)); refine Rg.guard rfl (fun hc => ?_) (fun hc => ?_))) <;> ((try simp only [cs] at hc); (first | ((exfalso; omega); done) | ((exact absurd rfl hc); done) | ((cases hc); done) | skip))))
          exact backR [3] (j + 1) _ _ ⟨hlt, hal2⟩ (by omega) rfl ⟨⟨_, rfl, rfl, rfl, by first | (simp [List.length_take]; done) | (simp [List.length_take]; omega), rfl, fun k hk => .ofEq (by
            dsimp only at hk ⊢
            rw [htk]
            exact rows_snocE eStr _ _ (by first | (simp [List.length_take]; done) | (simp [List.length_take]; omega)) (fun k _ => by rw [Nat.zero_add]) (by show [PV.atom (Value.string _)] = [PV.atom (Value.string _)]; rw [← opHead hA, exWord_some hS]) (by simpa [List.length_take] using hk)) rfl⟩, trivial⟩ ⟨.slcN rfl rfl (by first | (simp [List.length_take]; done) | (simp [List.length_take]; omega)), .cl rfl, .cl rfl, .cl rfl, trivial⟩
        | false =>
          rw [hS] at hso
          repeat' (first | (rw [hi]) | (refine Run.drwP [] [0, 1, 2, 3, 4, 5, 6] [none, none, none, none, none, none, none] mixed (by kernel_rfl) rfl ?_) | refine Rg.any rfl rfl rfl (fun _ hq => G_concat' rfl rfl rfl (by (try dsimp only); simp only [ByteArray.size_append, bs_size, sz32]; omega) hq) (by first | exact trivial | exact rfl | exact .inl rfl | exact .inr rfl | focus ((repeat (first | exact trivial | (refine ⟨Stay.op false tok rfl rfl rfl ?_ (fun t ht => by cases ht; rfl), ?_⟩; (first | exact ⟨⟩ | omega | focus (simp <;> omega) | decide +kernel)) | (refine ⟨Stay.op true tok rfl rfl rfl ?_ (fun t ht => by cases ht; rfl), ?_⟩; (first | exact ⟨⟩ | omega | focus (simp <;> omega) | decide +kernel)) | refine ⟨Stay.skip rfl rfl (fun t ht => by cases ht; rfl), ?_⟩)); done)) ?_ | refine Run.ctl rfl ?_ | (refine Rg.op false tok rfl rfl rfl rfl ?_ ?_ ?_; (first | exact ⟨⟩ | omega | focus (simp <;> omega) | decide +kernel); (first | exact trivial | exact rfl | exact .inl rfl | exact .inr rfl | focus ((repeat (first | exact trivial | (refine ⟨Stay.op false tok rfl rfl rfl ?_ (fun t ht => by cases ht; rfl), ?_⟩; (first | exact ⟨⟩ | omega | focus (simp <;> omega) | decide +kernel)) | (refine ⟨Stay.op true tok rfl rfl rfl ?_ (fun t ht => by cases ht; rfl), ?_⟩; (first | exact ⟨⟩ | omega | focus (simp <;> omega) | decide +kernel)) | refine ⟨Stay.skip rfl rfl (fun t ht => by cases ht; rfl), ?_⟩)); done))) | refine Rg.call (has) rfl rfl rfl rfl rfl ⟨⟨.refl _, trivial⟩, rfl⟩ ?_ | refine Rg.call (hre) rfl rfl rfl rfl rfl ⟨⟨.refl _, trivial⟩, rfl⟩ ?_ | refine Rg.call (hso) rfl rfl rfl rfl rfl ⟨⟨.refl _, trivial⟩, rfl⟩ ?_ | refine Rg.call (hit) rfl rfl rfl rfl rfl ⟨⟨.refl _, trivial⟩, rfl⟩ ?_ | refine Rg.call (hnm) rfl rfl rfl rfl rfl ⟨⟨.refl _, trivial⟩, rfl⟩ ?_ | (refine Rg.op true tok rfl rfl rfl rfl ?_ ?_ ?_; (first | exact ⟨⟩ | omega | focus (simp <;> omega) | decide +kernel); (first | exact trivial | exact rfl | exact .inl rfl | exact .inr rfl | focus ((repeat (first | exact trivial | (refine ⟨Stay.op false tok rfl rfl rfl ?_ (fun t ht => by cases ht; rfl), ?_⟩; (first | exact ⟨⟩ | omega | focus (simp <;> omega) | decide +kernel)) | (refine ⟨Stay.op true tok rfl rfl rfl ?_ (fun t ht => by cases ht; rfl), ?_⟩; (first | exact ⟨⟩ | omega | focus (simp <;> omega) | decide +kernel)) | refine ⟨Stay.skip rfl rfl (fun t ht => by cases ht; rfl), ?_⟩)); done))) | refine Rg.nil ?_ | refine Rg.skip rfl rfl rfl ?_ | refine Run.regR ?_ | refine Run.drwR mixed (by kernel_rfl) rfl ?_ | refine Run.condT rfl ?_ | refine Run.condF rfl ?_ | ((first | refine Run.condB rfl (fun hc => ?_) (fun hc => ?_) | ((fail_if_success (refine Rg.lit true rfl ?_)); (fail_if_success (refine Rg.lit false rfl ?_)); refine Rg.guard rfl (fun hc => ?_) (fun hc => ?_))) <;> ((try simp only [cs] at hc); (first | ((exfalso; omega); done) | ((exact absurd rfl hc); done) | ((cases hc); done) | skip))))
          exact backR [3] (j + 1) _ _ ⟨hlt, hal2⟩ (by omega) rfl ⟨⟨_, rfl, rfl, rfl, by first | (simp [List.length_take]; done) | (simp [List.length_take]; omega), rfl, fun k hk => .ofEq (by
            dsimp only at hk ⊢
            rw [htk]
            exact rows_snocE eStr _ _ (by first | (simp [List.length_take]; done) | (simp [List.length_take]; omega)) (fun k _ => by rw [Nat.zero_add]) (by show [PV.atom (Value.string _)] = [PV.atom (Value.string _)]; rw [← opHead hA, exWord_none hS]) (by simpa [List.length_take] using hk)) rfl⟩, trivial⟩ ⟨.slcN rfl rfl (by first | (simp [List.length_take]; done) | (simp [List.length_take]; omega)), .cl rfl, .cl rfl, .cl rfl, trivial⟩
      · have hR : reckonsW op = false := by simpa using hR
        rw [hR] at hre
        rw [if_neg (by
          rw [List.all_eq_true]
          intro h
          have := h _ hmem
          simp [exOkT, hA, hR] at this)]
        repeat' (first | (rw [hi]) | (refine Run.drwP [] [0, 1, 2, 3, 4, 5, 6] [none, none, none, none, none, none, none] mixed (by kernel_rfl) rfl ?_) | refine Rg.any rfl rfl rfl (fun _ hq => G_concat' rfl rfl rfl (by (try dsimp only); simp only [ByteArray.size_append, bs_size, sz32]; omega) hq) (by first | exact trivial | exact rfl | exact .inl rfl | exact .inr rfl | focus ((repeat (first | exact trivial | (refine ⟨Stay.op false tok rfl rfl rfl ?_ (fun t ht => by cases ht; rfl), ?_⟩; (first | exact ⟨⟩ | omega | focus (simp <;> omega) | decide +kernel)) | (refine ⟨Stay.op true tok rfl rfl rfl ?_ (fun t ht => by cases ht; rfl), ?_⟩; (first | exact ⟨⟩ | omega | focus (simp <;> omega) | decide +kernel)) | refine ⟨Stay.skip rfl rfl (fun t ht => by cases ht; rfl), ?_⟩)); done)) ?_ | refine Run.ctl rfl ?_ | (refine Rg.op false tok rfl rfl rfl rfl ?_ ?_ ?_; (first | exact ⟨⟩ | omega | focus (simp <;> omega) | decide +kernel); (first | exact trivial | exact rfl | exact .inl rfl | exact .inr rfl | focus ((repeat (first | exact trivial | (refine ⟨Stay.op false tok rfl rfl rfl ?_ (fun t ht => by cases ht; rfl), ?_⟩; (first | exact ⟨⟩ | omega | focus (simp <;> omega) | decide +kernel)) | (refine ⟨Stay.op true tok rfl rfl rfl ?_ (fun t ht => by cases ht; rfl), ?_⟩; (first | exact ⟨⟩ | omega | focus (simp <;> omega) | decide +kernel)) | refine ⟨Stay.skip rfl rfl (fun t ht => by cases ht; rfl), ?_⟩)); done))) | refine Rg.call (has) rfl rfl rfl rfl rfl ⟨⟨.refl _, trivial⟩, rfl⟩ ?_ | refine Rg.call (hre) rfl rfl rfl rfl rfl ⟨⟨.refl _, trivial⟩, rfl⟩ ?_ | refine Rg.call (hso) rfl rfl rfl rfl rfl ⟨⟨.refl _, trivial⟩, rfl⟩ ?_ | refine Rg.call (hit) rfl rfl rfl rfl rfl ⟨⟨.refl _, trivial⟩, rfl⟩ ?_ | refine Rg.call (hnm) rfl rfl rfl rfl rfl ⟨⟨.refl _, trivial⟩, rfl⟩ ?_ | (refine Rg.op true tok rfl rfl rfl rfl ?_ ?_ ?_; (first | exact ⟨⟩ | omega | focus (simp <;> omega) | decide +kernel); (first | exact trivial | exact rfl | exact .inl rfl | exact .inr rfl | focus ((repeat (first | exact trivial | (refine ⟨Stay.op false tok rfl rfl rfl ?_ (fun t ht => by cases ht; rfl), ?_⟩; (first | exact ⟨⟩ | omega | focus (simp <;> omega) | decide +kernel)) | (refine ⟨Stay.op true tok rfl rfl rfl ?_ (fun t ht => by cases ht; rfl), ?_⟩; (first | exact ⟨⟩ | omega | focus (simp <;> omega) | decide +kernel)) | refine ⟨Stay.skip rfl rfl (fun t ht => by cases ht; rfl), ?_⟩)); done))) | refine Rg.nil ?_ | refine Rg.skip rfl rfl rfl ?_ | refine Run.regR ?_ | refine Run.drwR mixed (by kernel_rfl) rfl ?_ | refine Run.condT rfl ?_ | refine Run.condF rfl ?_ | ((first | refine Run.condB rfl (fun hc => ?_) (fun hc => ?_) | ((fail_if_success (refine Rg.lit true rfl ?_)); (fail_if_success (refine Rg.lit false rfl ?_)); refine Rg.guard rfl (fun hc => ?_) (fun hc => ?_))) <;> ((try simp only [cs] at hc); (first | ((exfalso; omega); done) | ((exact absurd rfl hc); done) | ((cases hc); done) | skip))))
        (first | refine Run.ret tok Tryd.func25 rfl ?_ | refine Run.fall tok Tryd.func25 rfl ?_)
        exact .refl _
  · obtain rfl : j = x.length := by omega
    rw [List.take_length] at hal
    rw [if_pos hal, List.take_length]
    have hmm : ((x.map fun i => bs (exWord i)).map (·.data.toList)) = x.map exWord := by
      rw [List.map_map]
      refine List.map_congr_left fun i _ => ?_
      exact bs_toList _
    have hjn := join_ (x.map fun i => bs (exWord i)) (bs [32]) (by rw [List.length_map]; omega) (by rw [hmm, bs_toList]; have := exText_len hx hok hal; omega)
    rw [hmm, bs_toList] at hjn
    repeat' (first | refine Run.ctl rfl ?_ | (refine Rg.op false tok rfl rfl rfl rfl ?_ ?_ ?_; (first | exact ⟨⟩ | omega | focus (simp <;> omega) | decide +kernel); (first | exact trivial | exact rfl | exact .inl rfl | exact .inr rfl)) | refine Rg.lend (hjn) rfl rfl rfl rfl rfl rfl ⟨⟨.row rfl rfl rfl (by dsimp only; omega) rfl (fun _ => rfl) (fun j hj => by rw [Nat.zero_add]), .refl _, trivial⟩, rfl⟩ ?_ | (refine Rg.op true tok rfl rfl rfl rfl ?_ ?_ ?_; (first | exact ⟨⟩ | omega | focus (simp <;> omega) | decide +kernel); (first | exact trivial | exact rfl | exact .inl rfl | exact .inr rfl)) | refine Rg.nil ?_ | refine Rg.skip rfl rfl rfl ?_ | refine Run.regR ?_ | refine Run.condT rfl ?_ | refine Run.condF rfl ?_ | ((first | refine Run.condB rfl (fun hc => ?_) (fun hc => ?_) | ((fail_if_success (refine Rg.lit true rfl ?_)); (fail_if_success (refine Rg.lit false rfl ?_)); refine Rg.guard rfl (fun hc => ?_) (fun hc => ?_))) <;> ((try simp only [cs] at hc); (first | ((exfalso; omega); done) | skip))))
    (first | refine Run.ret tok Tryd.func25 rfl ?_ | refine Run.fall tok Tryd.func25 rfl ?_)
    exact .refl _
end Go.Proofs.YtlimecfjpfaljaaDoor.W
end
section
/- Walks: what the document fixes of expressions (chapter 13). -/
set_option linter.unusedVariables false
set_option linter.unusedSimpArgs false
set_option linter.unusedSectionVars false
set_option pp.maxSteps 40000
set_option maxHeartbeats 8000000
namespace Go.Proofs.YtlimecfjpfaljaaDoor.W
open Go Go.Sy

def pg13 : Pg := ⟨[⟨0, []⟩], [⟨[3, -4], 1, -1, false⟩, ⟨[7], 1, 0, true⟩], [⟨1, 0, []⟩, ⟨1, 0, []⟩], 5⟩
theorem one13_ : Pure Tryd.prog 22 [] (pPg pg13) := by
  refine Pure.of_spec (Spec.of_run (fn := Tryd.f22) Tryd.func22 rfl rfl (by kernel_rfl) ?_) (by first | assumption | rfl | (split <;> rfl) | (split <;> split <;> rfl))
  repeat' (first | refine Run.ctl rfl ?_ | (refine Rg.op false tok rfl rfl rfl rfl ?_ ?_ ?_; (first | exact ⟨⟩ | omega | focus (simp <;> omega) | decide +kernel); (first | exact trivial | exact rfl | exact .inl rfl | exact .inr rfl)) | (refine Rg.op true tok rfl rfl rfl rfl ?_ ?_ ?_; (first | exact ⟨⟩ | omega | focus (simp <;> omega) | decide +kernel); (first | exact trivial | exact rfl | exact .inl rfl | exact .inr rfl)) | refine Rg.nil ?_ | refine Rg.skip rfl rfl rfl ?_ | refine Run.regR ?_ | refine Run.condT rfl ?_ | refine Run.condF rfl ?_ | ((first | refine Run.condB rfl (fun hc => ?_) (fun hc => ?_) | ((fail_if_success (refine Rg.lit true rfl ?_)); (fail_if_success (refine Rg.lit false rfl ?_)); refine Rg.guard rfl (fun hc => ?_) (fun hc => ?_))) <;> ((try simp only [cs] at hc))))
  (first | refine Run.ret tok Tryd.func22 rfl ?_ | refine Run.fall tok Tryd.func22 rfl ?_)
  (repeat (first | exact trivial | exact .refl _ | exact .rowNil | refine Cv.slcL rfl rfl rfl rfl rfl (fun _ => rfl) ?_ | refine Cv.fzL rfl (fun _ => rfl) ?_ | refine Cv.agg' ?_ | refine ⟨?_, ?_⟩))
def wd13 : Wd := ⟨[⟨[3, -4], false, 0, 0, 0⟩, ⟨[7], true, 0, 0, 1⟩], [⟨⟨-1, 0, 0⟩, ⟨1, 0, []⟩⟩], bg0⟩
theorem flow13 : flowWhy pg13 = 0 := by kernel_rfl
theorem start13 : startOf pg13 = wd13 := by decide +kernel
theorem okI_of {x : List Instr} (h : (x.all fun i => decide (-9223372036854775808 ≤ i.a ∧ i.a ≤ 9223372036854775807)) = true) : ∀ i ∈ x, R64 i.a := by
  intro i hi
  have := List.all_eq_true.1 h i hi
  simp only [decide_eq_true_eq] at this
  exact this
def x13 : List Instr := [⟨31, 1⟩, ⟨31, 16⟩, ⟨9, 0⟩, ⟨33, 1⟩, ⟨10, 0⟩, ⟨37, 0⟩, ⟨11, 0⟩]
theorem awake13_ : Pure Tryd.prog 21 [] (bl true) := by
  have hs := start_ pg13 flow13
  rw [start13] at hs
  have h1 := value_ pg13 wd13 x13 (by decide) (okI_of (by decide +kernel)) (by decide) (by decide)
  rw [show exValue pg13 wd13 x13 = (2, 0) by decide +kernel] at h1
  have h2 := value_ pg13 wd13 [] (by decide) (okI_of (by decide +kernel)) (by decide) (by decide)
  rw [show exValue pg13 wd13 [] = (0, 5) by decide +kernel] at h2
  have h3 := value_ pg13 wd0 x13 (by decide) (okI_of (by decide +kernel)) (by decide) (by decide)
  rw [show exValue pg13 wd0 x13 = (0, 1) by decide +kernel] at h3
  have h4 := value_ pg13 wd13 [⟨1, 1⟩, ⟨1, 0⟩, ⟨12, 0⟩] (by decide) (okI_of (by decide +kernel)) (by decide) (by decide)
  rw [show exValue pg13 wd13 [⟨1, 1⟩, ⟨1, 0⟩, ⟨12, 0⟩] = (0, 0) by decide +kernel] at h4
  have h5 := exText_ x13 (by decide) (okI_of (by decide +kernel))
  rw [show exText x13 = [114, 101, 103, 32, 49, 32, 114, 101, 103, 32, 49, 54, 32, 97, 100, 100, 32, 111, 118, 101, 114, 32, 49, 32, 115, 117, 98, 32, 109, 97, 105, 108, 32, 109, 117, 108] by decide +kernel] at h5
  have h6 := exCheck_ pg13 [⟨32, 2⟩] (by decide) (okI_of (by decide +kernel))
  rw [show exWhy pg13 [⟨32, 2⟩] = 7 by decide +kernel] at h6
  have h7 := exCheck_ pg13 [⟨31, 8⟩] (by decide) (okI_of (by decide +kernel))
  rw [show exWhy pg13 [⟨31, 8⟩] = 6 by decide +kernel] at h7
  have h8 := exCheck_ pg13 [⟨5, 0⟩] (by decide) (okI_of (by decide +kernel))
  rw [show exWhy pg13 [⟨5, 0⟩] = 1 by decide +kernel] at h8
  refine Pure.of_spec (Spec.of_run (fn := Tryd.f21) Tryd.func21 rfl rfl (by kernel_rfl) ?_) (by first | assumption | rfl | (split <;> rfl) | (split <;> split <;> rfl))
  repeat' (first | refine Run.ctl rfl ?_ | (refine Rg.op false tok rfl rfl rfl rfl ?_ ?_ ?_; (first | exact ⟨⟩ | omega | focus (simp <;> omega) | decide +kernel); (first | exact trivial | exact rfl | exact .inl rfl | exact .inr rfl)) | refine Rg.call (one13_) rfl rfl rfl rfl rfl ⟨trivial, rfl⟩ ?_ | refine Rg.call (hs) rfl rfl rfl rfl rfl ⟨⟨.refl _, trivial⟩, rfl⟩ ?_ | (refine Rg.lend (h1) rfl rfl rfl rfl rfl rfl ⟨⟨.refl _, .refl _, ?_, trivial⟩, rfl⟩ ?_; focus ((repeat (first | exact trivial | exact .refl _ | exact .rowNil | refine Cv.slcL rfl rfl rfl rfl rfl (fun _ => rfl) ?_ | refine Cv.fzL rfl (fun _ => rfl) ?_ | refine Cv.agg' ?_ | refine ⟨?_, ?_⟩)); done)) | (refine Rg.lend (h2) rfl rfl rfl rfl rfl rfl ⟨⟨.refl _, .refl _, ?_, trivial⟩, rfl⟩ ?_; focus ((repeat (first | exact trivial | exact .refl _ | exact .rowNil | refine Cv.slcL rfl rfl rfl rfl rfl (fun _ => rfl) ?_ | refine Cv.fzL rfl (fun _ => rfl) ?_ | refine Cv.agg' ?_ | refine ⟨?_, ?_⟩)); done)) | (refine Rg.lend (h3) rfl rfl rfl rfl rfl rfl ⟨⟨.refl _, .agg' ⟨.rowNil, .rowNil, .refl _, .refl _, .refl _, .refl _, trivial⟩, ?_, trivial⟩, rfl⟩ ?_; focus ((repeat (first | exact trivial | exact .refl _ | exact .rowNil | refine Cv.slcL rfl rfl rfl rfl rfl (fun _ => rfl) ?_ | refine Cv.fzL rfl (fun _ => rfl) ?_ | refine Cv.agg' ?_ | refine ⟨?_, ?_⟩)); done)) | (refine Rg.lend (h4) rfl rfl rfl rfl rfl rfl ⟨⟨.refl _, .refl _, ?_, trivial⟩, rfl⟩ ?_; focus ((repeat (first | exact trivial | exact .refl _ | exact .rowNil | refine Cv.slcL rfl rfl rfl rfl rfl (fun _ => rfl) ?_ | refine Cv.fzL rfl (fun _ => rfl) ?_ | refine Cv.agg' ?_ | refine ⟨?_, ?_⟩)); done)) | (refine Rg.lend (h5) rfl rfl rfl rfl rfl rfl ⟨⟨?_, trivial⟩, rfl⟩ ?_; focus ((repeat (first | exact trivial | exact .refl _ | exact .rowNil | refine Cv.slcL rfl rfl rfl rfl rfl (fun _ => rfl) ?_ | refine Cv.fzL rfl (fun _ => rfl) ?_ | refine Cv.agg' ?_ | refine ⟨?_, ?_⟩)); done)) | (refine Rg.lend (h6) rfl rfl rfl rfl rfl rfl ⟨⟨.refl _, ?_, trivial⟩, rfl⟩ ?_; focus ((repeat (first | exact trivial | exact .refl _ | exact .rowNil | refine Cv.slcL rfl rfl rfl rfl rfl (fun _ => rfl) ?_ | refine Cv.fzL rfl (fun _ => rfl) ?_ | refine Cv.agg' ?_ | refine ⟨?_, ?_⟩)); done)) | (refine Rg.lend (h7) rfl rfl rfl rfl rfl rfl ⟨⟨.refl _, ?_, trivial⟩, rfl⟩ ?_; focus ((repeat (first | exact trivial | exact .refl _ | exact .rowNil | refine Cv.slcL rfl rfl rfl rfl rfl (fun _ => rfl) ?_ | refine Cv.fzL rfl (fun _ => rfl) ?_ | refine Cv.agg' ?_ | refine ⟨?_, ?_⟩)); done)) | (refine Rg.lend (h8) rfl rfl rfl rfl rfl rfl ⟨⟨.refl _, ?_, trivial⟩, rfl⟩ ?_; focus ((repeat (first | exact trivial | exact .refl _ | exact .rowNil | refine Cv.slcL rfl rfl rfl rfl rfl (fun _ => rfl) ?_ | refine Cv.fzL rfl (fun _ => rfl) ?_ | refine Cv.agg' ?_ | refine ⟨?_, ?_⟩)); done)) | (refine Rg.op true tok rfl rfl rfl rfl ?_ ?_ ?_; (first | exact ⟨⟩ | omega | focus (simp <;> omega) | decide +kernel); (first | exact trivial | exact rfl | exact .inl rfl | exact .inr rfl)) | refine Rg.nil ?_ | refine Rg.skip rfl rfl rfl ?_ | refine Run.regR ?_ | refine Run.condT rfl ?_ | refine Run.condF rfl ?_ | ((first | refine Run.condB rfl (fun hc => ?_) (fun hc => ?_) | ((fail_if_success (refine Rg.lit true rfl ?_)); (fail_if_success (refine Rg.lit false rfl ?_)); refine Rg.guard rfl (fun hc => ?_) (fun hc => ?_))) <;> ((try simp only [cs] at hc); (first | ((exact absurd rfl hc); done) | skip))))
  all_goals first | exact .ofBool rfl | ((first | refine Run.ret tok Tryd.func21 rfl ?_ | refine Run.fall tok Tryd.func21 rfl ?_); exact .ofBool rfl)
end Go.Proofs.YtlimecfjpfaljaaDoor.W
end
