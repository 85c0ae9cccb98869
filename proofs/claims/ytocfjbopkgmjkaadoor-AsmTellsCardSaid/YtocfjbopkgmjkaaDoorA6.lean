/- Walks: the document's numerals. -/
import Derived.Test.YtocfjbopkgmjkaaDoorA5
set_option linter.unusedVariables false
set_option linter.unusedSimpArgs false
set_option linter.unusedSectionVars false
set_option pp.maxSteps 3000
namespace Go.Proofs.YtocfjbopkgmjkaaDoor.W
open Go Go.Sy

theorem wrapu (n : Int) (h0 : 0 ≤ n) (h1 : n < 18446744073709551616) : IntKind.u64.wrap n = n := wrap_in (by simp [IntKind.min, IntKind.signed]; exact h0) (by simp [IntKind.max, IntKind.signed, IntKind.bits]; omega)
theorem wrapu_neg (n : Int) (h0 : n < 0) (h1 : -9223372036854775808 ≤ n) : IntKind.u64.wrap n = n + 18446744073709551616 := by
  simp only [IntKind.wrap, IntKind.signed, IntKind.bits]; simp; omega
theorem wrapu_back (n : Int) (h0 : n < 0) (h1 : -9223372036854775808 ≤ n) : IntKind.u64.wrap (0 - (n + 18446744073709551616)) = (n.natAbs : Int) := by
  simp only [IntKind.wrap, IntKind.signed, IntKind.bits]; simp; omega
/-- What stands behind the digits of u that are still to be written. -/
def decInv (u0 u : Nat) (d : List UInt8) : Prop := (d = [] ∧ u = u0) ∨ (d ≠ [] ∧ (if u = 0 then [] else Lib.decDigits u) ++ d = Lib.decDigits u0)
theorem decDigits_step (u : Nat) : (if u / 10 = 0 then [] else Lib.decDigits (u / 10)) ++ [UInt8.ofNat (48 + u % 10)] = Lib.decDigits u := by
  conv => rhs; rw [Lib.decDigits]
  by_cases h : u < 10
  · rw [dif_pos h, if_pos (by omega), Nat.mod_eq_of_lt h]; rfl
  · rw [dif_neg h, if_neg (by omega)]
theorem decInv_step {u0 u : Nat} {d : List UInt8} (h : decInv u0 u d) (hc : 0 < u ∨ d = []) : decInv u0 (u / 10) (UInt8.ofNat (48 + u % 10) :: d) := by
  refine .inr ⟨by simp, ?_⟩
  have := decDigits_step u
  rcases h with ⟨rfl, rfl⟩ | ⟨hd, h⟩
  · exact this
  · have hu : u ≠ 0 := by rcases hc with h | h; omega; exact absurd h hd
    rw [if_neg hu] at h
    rw [← h, ← this]
    simp
section
variable {P : Program} {T : TT} {E : Operand → PV} {st : St} {o : Oper} {Q : PV → St → Prop}
theorem G_rem10 {t t2 : TypeId} {x y : Operand} {u : Nat} (ho : o.op = .binOp .rem t x y t2) (hx : intOf' (E x) = some (.u64, (u : Int))) (hy : intOf' (E y) = some (.u64, 10)) (h : Q (.atom (.int .u64 ((u % 10 : Nat) : Int))) st) : OpGoes P E st o Q :=
  G_rem' ho hx hy (by decide) (by rw [show (u : Int).tmod 10 = ((u % 10 : Nat) : Int) by rw [Int.tmod_eq_emod_of_nonneg (by omega)]; omega]; exact h)
theorem G_quo10 {t t2 : TypeId} {x y : Operand} {u : Nat} (ho : o.op = .binOp .quo t x y t2) (hx : intOf' (E x) = some (.u64, (u : Int))) (hy : intOf' (E y) = some (.u64, 10)) (hu : u < 18446744073709551616) (h : Q (.atom (.int .u64 ((u / 10 : Nat) : Int))) st) : OpGoes P E st o Q :=
  G_quo' ho hx hy (by decide) (by rw [show (u : Int).tdiv 10 = ((u / 10 : Nat) : Int) by rw [Int.tdiv_eq_ediv_of_nonneg (by omega)]; omega, wrapu _ (by omega) (by omega)]; exact h)
end
theorem digit_eq (u : Nat) : ofBytes [IntKind.u8.wrap (IntKind.u64.wrap (48 + ((u % 10 : Nat) : Int)))] = bs [UInt8.ofNat (48 + u % 10)] := by
  rw [wrapu _ (by omega) (by omega), wrap_in (by simp [IntKind.min, IntKind.signed]; omega) (by simp [IntKind.max, IntKind.signed, IntKind.bits]; omega)]
  simp only [ofBytes, List.map_cons, List.map_nil, bs]
  congr 3
theorem decDigits_len10 (u : Nat) : (if u / 10 = 0 then 0 else (Lib.decDigits (u / 10)).length) + 1 = (Lib.decDigits u).length := by
  rw [← decDigits_step u, List.length_append]
  split <;> simp
theorem decInv_len {u0 u : Nat} {d : List UInt8} (h : decInv u0 u d) (h0 : u0 < 18446744073709551616) : d.length ≤ 20 ∧ (0 < u → d.length ≤ 19) := by
  have hl := Lib.nDigits_le20 u0 h0
  rw [← Lib.decDigits_length] at hl
  rcases h with ⟨rfl, _⟩ | ⟨hd, h⟩
  · simp
  · rw [← h, List.length_append] at hl
    refine ⟨by omega, fun hu => ?_⟩
    rw [if_neg (by omega)] at hl
    have := Lib.decDigits_ne u
    have : 0 < (Lib.decDigits u).length := List.length_pos_iff.2 this
    omega
theorem decimal_ (n : Int) (h : R64 n) : Pure Tryd.prog 37 [i64 n] (str (bs (Lib.itoa n))) := by
  obtain ⟨h0, h1⟩ := h
  refine Pure.of_spec (Spec.of_run (fn := Tryd.f37) Tryd.func37 rfl rfl (by kernel_rfl) ?_) (by first | assumption | rfl | (split <;> rfl) | (split <;> split <;> rfl))
  repeat' (first | refine Run.ctl rfl ?_ | (refine Rg.op false tok rfl rfl rfl rfl ?_ ?_ ?_; (first | exact True.intro | omega | (simp; done) | (simp; omega) | decide +kernel); (first | exact trivial | exact .inl rfl | exact .inr rfl)) | (refine Rg.op true tok rfl rfl rfl rfl ?_ ?_ ?_; (first | exact True.intro | omega | (simp; done) | (simp; omega) | decide +kernel); (first | exact trivial | exact .inl rfl | exact .inr rfl)) | refine Rg.nil ?_ | refine Rg.skip rfl rfl rfl ?_ | refine Run.regR ?_ | refine Run.drwR mixed (by kernel_rfl) rfl ?_ | refine Run.condT rfl ?_ | refine Run.condF rfl ?_ | (refine Run.condB rfl (fun hc => ?_) (fun hc => ?_) <;> ((try simp only [cs] at hc))) | ((fail_if_success (refine Rg.lit true rfl ?_)); (fail_if_success (refine Rg.lit false rfl ?_)); refine Rg.guard rfl (fun hc => ?_) (fun hc => ?_) <;> ((try simp only [cs] at hc))))
  · have hn : n < 0 := hc
    have e : IntKind.u64.wrap (0 - IntKind.u64.wrap n) = (n.natAbs : Int) := by rw [wrapu_neg n hc h0, wrapu_back n hc h0]
    refine Run.loopRow (ι := Nat × List UInt8) (fun x => ([(3, .atom (.int .u64 x.1)), (4, str (bs [45])), (5, str (bs x.2))], [])) (fun x => decInv n.natAbs x.1 x.2 ∧ x.1 < 18446744073709551616 ∧ x.2.length ≤ 21) (fun x => x.1 + (if x.2 = [] then 1 else 0)) (n.natAbs, []) [] rfl rfl rfl ⟨by rw [← e]; rfl, rfl, rfl, trivial⟩ rfl ⟨.inl ⟨rfl, rfl⟩, by omega, by simp⟩ ?_
    rintro ⟨u, d⟩ ⟨hinv, hu, hlen⟩ back backR
    simp only at hinv hu hlen
    have step : (0 < u ∨ d = []) → decInv n.natAbs (u / 10) (UInt8.ofNat (48 + u % 10) :: d) := decInv_step hinv
    have hd := decInv_len hinv (by omega)
    repeat' (first | refine Rg.any rfl rfl rfl (fun _ hq => G_rem10 rfl rfl rfl hq) (by first | exact trivial | exact .inl rfl | exact .inr rfl) ?_ | refine Rg.any rfl rfl rfl (fun _ hq => G_quo10 rfl rfl rfl hu hq) (by first | exact trivial | exact .inl rfl | exact .inr rfl) ?_ | refine Rg.any rfl rfl rfl (fun _ hq => G_bytesStr tok [IntKind.u8.wrap (IntKind.u64.wrap (48 + ((u % 10 : Nat) : Int)))] rfl rfl rfl rfl rfl rfl (rows_one eByte _ rfl) hq) (by first | exact trivial | exact .inl rfl | exact .inr rfl) ?_ | refine Rg.any rfl rfl rfl (fun _ hq => G_concat' rfl rfl rfl (by simp only [digit_eq, ByteArray.size_append, mk_bs, bs_size, List.length_cons, List.length_nil]; omega) hq) (by first | exact trivial | exact .inl rfl | exact .inr rfl) ?_ | refine Run.ctl rfl ?_ | (refine Rg.op false tok rfl rfl rfl rfl ?_ ?_ ?_; (first | exact True.intro | omega | (simp; done) | (simp; omega) | decide +kernel); (first | exact trivial | exact .inl rfl | exact .inr rfl)) | (refine Rg.op true tok rfl rfl rfl rfl ?_ ?_ ?_; (first | exact True.intro | omega | (simp; done) | (simp; omega) | decide +kernel); (first | exact trivial | exact .inl rfl | exact .inr rfl)) | refine Rg.nil ?_ | refine Rg.skip rfl rfl rfl ?_ | refine Run.regR ?_ | refine Run.drwR mixed (by kernel_rfl) rfl ?_ | refine Run.condT rfl ?_ | refine Run.condF rfl ?_ | (refine Run.condB rfl (fun hc => ?_) (fun hc => ?_) <;> ((try simp only [cs] at hc))) | ((fail_if_success (refine Rg.lit true rfl ?_)); (fail_if_success (refine Rg.lit false rfl ?_)); refine Rg.guard rfl (fun hc => ?_) (fun hc => ?_) <;> ((try simp only [cs] at hc))))
    · exact backR (u / 10, UInt8.ofNat (48 + u % 10) :: d) _ _ ⟨step (.inl (by omega)), by simp only; omega, by simp only [List.length_cons]; omega⟩ (by show u / 10 + (if (_ :: d) = [] then 1 else 0) < u + (if d = [] then 1 else 0); rw [if_neg (by simp)]; omega) rfl trivial ⟨.cl rfl, .cl rfl, (by show Rn _ _ (PV.atom (.string (ofBytes [_] ++ bs d))) (str (bs (_ :: d))); rw [digit_eq, bs_app]; exact .cl rfl), trivial⟩
    · have hdn : d = [] := by
        have : (bs d).toList = (bs []).toList := hc
        rw [bs_toL, bs_toL] at this; exact this
      exact backR (u / 10, UInt8.ofNat (48 + u % 10) :: d) _ _ ⟨step (.inr hdn), by simp only; omega, by simp only [List.length_cons]; omega⟩ (by show u / 10 + (if (_ :: d) = [] then 1 else 0) < u + (if d = [] then 1 else 0); rw [if_neg (by simp), if_pos hdn]; omega) rfl trivial ⟨.cl rfl, .cl rfl, (by show Rn _ _ (PV.atom (.string (ofBytes [_] ++ bs d))) (str (bs (_ :: d))); rw [digit_eq, bs_app]; exact .cl rfl), trivial⟩
    · have hdn : d ≠ [] := by
        intro h
        subst h
        exact hc rfl
      have hu0 : u = 0 := by omega
      have hdd : d = Lib.decDigits n.natAbs := by
        rcases hinv with ⟨h, _⟩ | ⟨_, h⟩
        · exact absurd h hdn
        · rw [if_pos hu0] at h; exact h
      (first | refine Run.ret tok Tryd.func37 rfl ?_ | refine Run.fall tok Tryd.func37 rfl ?_)
      refine .ofStr ?_
      show bs [45] ++ bs d = bs (Lib.itoa n)
      rw [bs_app, hdd]
      simp [Lib.itoa, hn]
  · have hn : ¬ n < 0 := by omega
    have e : IntKind.u64.wrap n = (n.natAbs : Int) := by rw [wrapu _ hc (by omega)]; omega
    refine Run.loopRow (ι := Nat × List UInt8) (fun x => ([(3, .atom (.int .u64 x.1)), (4, str (bs [])), (5, str (bs x.2))], [])) (fun x => decInv n.natAbs x.1 x.2 ∧ x.1 < 18446744073709551616 ∧ x.2.length ≤ 21) (fun x => x.1 + (if x.2 = [] then 1 else 0)) (n.natAbs, []) [] rfl rfl rfl ⟨by rw [← e]; rfl, rfl, rfl, trivial⟩ rfl ⟨.inl ⟨rfl, rfl⟩, by omega, by simp⟩ ?_
    rintro ⟨u, d⟩ ⟨hinv, hu, hlen⟩ back backR
    simp only at hinv hu hlen
    have step : (0 < u ∨ d = []) → decInv n.natAbs (u / 10) (UInt8.ofNat (48 + u % 10) :: d) := decInv_step hinv
    have hd := decInv_len hinv (by omega)
    repeat' (first | refine Rg.any rfl rfl rfl (fun _ hq => G_rem10 rfl rfl rfl hq) (by first | exact trivial | exact .inl rfl | exact .inr rfl) ?_ | refine Rg.any rfl rfl rfl (fun _ hq => G_quo10 rfl rfl rfl hu hq) (by first | exact trivial | exact .inl rfl | exact .inr rfl) ?_ | refine Rg.any rfl rfl rfl (fun _ hq => G_bytesStr tok [IntKind.u8.wrap (IntKind.u64.wrap (48 + ((u % 10 : Nat) : Int)))] rfl rfl rfl rfl rfl rfl (rows_one eByte _ rfl) hq) (by first | exact trivial | exact .inl rfl | exact .inr rfl) ?_ | refine Rg.any rfl rfl rfl (fun _ hq => G_concat' rfl rfl rfl (by simp only [digit_eq, ByteArray.size_append, mk_bs, bs_size, List.length_cons, List.length_nil]; omega) hq) (by first | exact trivial | exact .inl rfl | exact .inr rfl) ?_ | refine Run.ctl rfl ?_ | (refine Rg.op false tok rfl rfl rfl rfl ?_ ?_ ?_; (first | exact True.intro | omega | (simp; done) | (simp; omega) | decide +kernel); (first | exact trivial | exact .inl rfl | exact .inr rfl)) | (refine Rg.op true tok rfl rfl rfl rfl ?_ ?_ ?_; (first | exact True.intro | omega | (simp; done) | (simp; omega) | decide +kernel); (first | exact trivial | exact .inl rfl | exact .inr rfl)) | refine Rg.nil ?_ | refine Rg.skip rfl rfl rfl ?_ | refine Run.regR ?_ | refine Run.drwR mixed (by kernel_rfl) rfl ?_ | refine Run.condT rfl ?_ | refine Run.condF rfl ?_ | (refine Run.condB rfl (fun hc => ?_) (fun hc => ?_) <;> ((try simp only [cs] at hc))) | ((fail_if_success (refine Rg.lit true rfl ?_)); (fail_if_success (refine Rg.lit false rfl ?_)); refine Rg.guard rfl (fun hc => ?_) (fun hc => ?_) <;> ((try simp only [cs] at hc))))
    · exact backR (u / 10, UInt8.ofNat (48 + u % 10) :: d) _ _ ⟨step (.inl (by omega)), by simp only; omega, by simp only [List.length_cons]; omega⟩ (by show u / 10 + (if (_ :: d) = [] then 1 else 0) < u + (if d = [] then 1 else 0); rw [if_neg (by simp)]; omega) rfl trivial ⟨.cl rfl, .cl rfl, (by show Rn _ _ (PV.atom (.string (ofBytes [_] ++ bs d))) (str (bs (_ :: d))); rw [digit_eq, bs_app]; exact .cl rfl), trivial⟩
    · have hdn : d = [] := by
        have : (bs d).toList = (bs []).toList := hc
        rw [bs_toL, bs_toL] at this; exact this
      exact backR (u / 10, UInt8.ofNat (48 + u % 10) :: d) _ _ ⟨step (.inr hdn), by simp only; omega, by simp only [List.length_cons]; omega⟩ (by show u / 10 + (if (_ :: d) = [] then 1 else 0) < u + (if d = [] then 1 else 0); rw [if_neg (by simp), if_pos hdn]; omega) rfl trivial ⟨.cl rfl, .cl rfl, (by show Rn _ _ (PV.atom (.string (ofBytes [_] ++ bs d))) (str (bs (_ :: d))); rw [digit_eq, bs_app]; exact .cl rfl), trivial⟩
    · have hdn : d ≠ [] := by
        intro h
        subst h
        exact hc rfl
      have hu0 : u = 0 := by omega
      have hdd : d = Lib.decDigits n.natAbs := by
        rcases hinv with ⟨h, _⟩ | ⟨_, h⟩
        · exact absurd h hdn
        · rw [if_pos hu0] at h; exact h
      (first | refine Run.ret tok Tryd.func37 rfl ?_ | refine Run.fall tok Tryd.func37 rfl ?_)
      refine .ofStr ?_
      show bs [] ++ bs d = bs (Lib.itoa n)
      rw [bs_app, hdd]
      simp [Lib.itoa, hn, show n.natAbs = n.toNat by omega]
end Go.Proofs.YtocfjbopkgmjkaaDoor.W
