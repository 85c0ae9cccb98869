import Derived.Test.YtonlbhhmeepmmaaDoorShelf
import Derived.Test.YtonlbhhmeepmmaaDoorWMore
import Derived.Test.YtonlbhhmeepmmaaDoorWApart
set_option linter.unusedVariables false
set_option linter.unusedSimpArgs false
namespace Go.Proofs.YtonlbhhmeepmmaaDoor.P
open Go.RowKit Go.Proofs.YtonlbhhmeepmmaaDoorW.PrintWords Go.Proofs.YtonlbhhmeepmmaaDoorW.PrintLast Go.Proofs.YtonlbhhmeepmmaaDoorW.PrintMore

theorem xk_bne_nil (l : List UInt8) : (l != []) = !l.isEmpty := by cases l <;> rfl
/-- What the package-level variables that are read hold. -/
structure GW (w : World) : Prop where
  space : Lib.TabIs Tryd.prog w "strings.asciiSpace" .u8 Lib.asciiSpaceTab
theorem tabIs_below {n : String} {g : Nat} {k : IntKind} {zs : List Int} {w w' : World} {b : Nat} (hb0 : w.heap.size ≤ b) (hg : Tryd.prog.globalNamed n = some g) (h : Lib.TabIs Tryd.prog w n k zs) (hb : Below b w w') : Lib.TabIs Tryd.prog w' n k zs := by
  unfold Lib.TabIs World.var? at h ⊢
  rw [hg] at h ⊢
  simp only [Option.bind_some] at h ⊢
  have hlt : g < w.heap.size := by
    rcases Nat.lt_or_ge g w.heap.size with h' | h'
    · exact h'
    · rw [Array.getElem?_eq_none h'] at h; cases h
  rw [hb.block g (by omega)]
  exact h
theorem GW.below {w w' : World} (h : GW w) (hb : Below w.heap.size w w') : GW w' :=
  ⟨tabIs_below (g := 0) (Nat.le_refl _) (by kernel_rfl) h.space hb⟩
end Go.Proofs.YtonlbhhmeepmmaaDoor.P
namespace Go.Proofs.YtonlbhhmeepmmaaDoorW.PrintWords
open Go.RowKit
namespace Kd
/-- A new block of a row's cells. -/
theorem R_block {α : Type} (d : Kd α) (W : World) (base e : Nat) {xs : List α} {inner : List Value} {ok okp : Nat → Prop}
    (hrep : Reps (d.M W base okp) d.sz xs inner) (hok : ∀ k, okp k → ok k) (hfresh : ok W.heap.size) (hbase : base ≤ W.heap.size) (hm : xs.length ≤ 9223372036854775807) :
    d.R e (W.alloc (.cells inner.toArray e)) base ok (.slice (some ⟨W.heap.size, 0, none⟩) xs.length xs.length) xs := by
  refine ⟨fun k hk => ?_, inner, ?_, ?_⟩
  · have : W.heap.size = k := by simpa [Value.ownBlock] using hk
    subst this
    exact hfresh
  · have h2 := World.ownsRow_lit (base := base) (e := e) (size := d.sz) W inner.toArray xs.length hbase (by simpa [maxLen] using hm) (by simpa using hrep.1)
    simpa using h2
  · refine hrep.imp_ (fun p c hp => d.M_mono (fun k hk => ⟨hok k hk.1, fun he => ?_⟩) (M_below (d.M_bound hp) (below_alloc (Below.refl _ _) _)))
    have h3 : k = W.heap.size := by simpa [Value.ownBlock] using he
    have := hk.2.2.1
    omega
theorem xk_reps_scalar {α : Type} (enc : α → Value) (xs : List α) : Reps (fun x cs => cs = [enc x]) 1 xs (xs.map enc) := by
  refine ⟨by simp, fun j p hj => ?_⟩
  obtain ⟨hjl, hp⟩ := List.getElem?_eq_some_iff.1 hj
  apply List.ext_getElem?
  intro i
  rw [List.getElem?_take, List.getElem?_drop]
  rcases i with _ | i
  · simp [List.getElem?_eq_getElem hjl, hp]
  · simp
theorem R_strs_new (W : World) (base e : Nat) (xs : List ByteArray) (hbase : base ≤ W.heap.size) (hm : xs.length ≤ 9223372036854775807) :
    Kd.string.R e (W.alloc (.cells (xs.map Value.string).toArray e)) base (fun _ => True) (.slice (some ⟨W.heap.size, 0, none⟩) xs.length xs.length) xs :=
  R_block Kd.string W base e (okp := fun _ => True) (xk_reps_scalar Value.string xs) (fun _ h => h) trivial hbase hm
theorem R_ints_new (k : IntKind) (W : World) (base e : Nat) (xs : List Int) (hbase : base ≤ W.heap.size) (hm : xs.length ≤ 9223372036854775807) :
    (Kd.int k).R e (W.alloc (.cells (xs.map (Value.int k)).toArray e)) base (fun _ => True) (.slice (some ⟨W.heap.size, 0, none⟩) xs.length xs.length) xs :=
  R_block (Kd.int k) W base e (okp := fun _ => True) (xk_reps_scalar (Value.int k) xs) (fun _ h => h) trivial hbase hm
end Kd
end Go.Proofs.YtonlbhhmeepmmaaDoorW.PrintWords
namespace Go.Lib
theorem cntF_le : ∀ (b : Bool) (l : List UInt8), cntF b l ≤ l.length
  | _, [] => by simp [cntF]
  | ws, b :: l => by
    have := cntF_le (isSp b) l
    simp only [cntF, List.length_cons]
    split <;> omega
theorem fields_length_le (s : List UInt8) : (fields s).length ≤ s.length := by
  have h1 := fieldsGo_length s []
  have h2 := cntF_le ([] : List UInt8).isEmpty s
  simp only [List.isEmpty_nil, if_true] at h1 h2
  unfold fields
  omega
end Go.Lib
