/- Walks: what was written is read as it was; orders (chapter 7). -/
import Derived.Test.YtocfjbopkgmjkaaDoorB1
set_option linter.unusedVariables false
set_option linter.unusedSimpArgs false
set_option linter.unusedSectionVars false
set_option pp.maxSteps 3000
set_option maxHeartbeats 1000000
namespace Go.Proofs.YtocfjbopkgmjkaaDoor.W
open Go Go.Sy

theorem cc {b : Bool} (h : b = true) (g : b = false) : False := by rw [h] at g; cases g
theorem textEq (a b : ID) (ha : a.ok) (hb : b.ok) : ((bs (textID a)).toList == (bs (textID b)).toList) = ([a.from_, a.n, a.copy] == [b.from_, b.n, b.copy]) := by
  rw [bs_beq, Bool.eq_iff_iff, beq_iff_eq, beq_iff_eq]
  constructor
  · intro h
    rw [textID_inj ha hb h]
  · intro h
    simp only [List.cons.injEq, and_true] at h
    obtain ⟨h1, h2, h3⟩ := h
    cases a; cases b
    simp_all
theorem ev_ext {x y : Ev} (h : [x.kind, x.id.from_, x.id.n, x.id.copy, x.who] = [y.kind, y.id.from_, y.id.n, y.id.copy, y.who]) : x = y := by
  simp only [List.cons.injEq, and_true] at h
  obtain ⟨h1, h2, h3, h4, h5⟩ := h
  rcases x with ⟨k, ⟨a, b, c⟩, w⟩
  rcases y with ⟨k', ⟨a', b', c'⟩, w'⟩
  simp_all
theorem nameEq (x y : Ev) (hx : x.ok) (hy : y.ok) (hn : nameEv x ≠ []) : ((bs (nameEv x)).toList == (bs (nameEv y)).toList) = ([x.kind, x.id.from_, x.id.n, x.id.copy, x.who] == [y.kind, y.id.from_, y.id.n, y.id.copy, y.who]) := by
  rw [bs_beq, Bool.eq_iff_iff, beq_iff_eq, beq_iff_eq]
  constructor
  · intro h
    rw [nameEv_inj hx hy hn h]
  · intro h
    rw [ev_ext h]
theorem nameEv_len (x : Ev) (hx : x.ok) : (nameEv x).length ≤ 100 := by
  obtain ⟨_, hid, hw⟩ := hx
  have h1 := textID_len x.id hid
  have h2 := Lib.itoa_length_le x.who hw.1 hw.2
  have h3 := kindName_len x.kind
  rw [kindName_bs, bs_size] at h3
  unfold nameEv
  split
  · simp; omega
  · split
    · simp; omega
    · simp
theorem identBack_ (a b : ID) (x y : Ev) (ha : a.ok) (hb : b.ok) (hx : x.ok) (hy : y.ok) : Pure Tryd.prog 4 [pID a, pID b, pEv x, pEv y] (bl true) := by
  have h1 := parse_ (bs (textID a)) (by rw [bs_size]; have := textID_len a ha; omega)
  unfold parseP at h1
  rw [parseID_of, bs_toList, (idOf_iff _ _).2 ⟨ha, rfl⟩] at h1
  have h2 := event_ (bs (nameEv x)) (by rw [bs_size]; have := nameEv_len x hx; omega)
  unfold evP at h2
  rw [bs_toList] at h2
  have hAB := textEq a b ha hb
  by_cases hn : nameEv x = []
  · have he : evOf (nameEv x) = none := by
      cases h : evOf (nameEv x) with
      | none => rfl
      | some e => exact absurd hn ((evOf_iff _ _).1 h).2.2
    rw [he] at h2
    have hz : (bs (nameEv x)).toList = (ByteArray.mk #[]).toList := by rw [hn]; rfl
    refine Pure.of_spec (Spec.of_run (fn := Tryd.f4) Tryd.func4 rfl rfl (by kernel_rfl) ?_) (by first | assumption | rfl | (split <;> rfl) | (split <;> split <;> rfl))
    repeat' (first | refine Run.ctl rfl ?_ | (refine Rg.op false tok rfl rfl rfl rfl ?_ ?_ ?_; (first | exact True.intro | omega | (simp; done) | (simp; omega) | decide +kernel); (first | exact trivial | exact .inl rfl | exact .inr rfl)) | refine Rg.call (text_ a ha) rfl rfl rfl rfl rfl ⟨⟨.refl _, trivial⟩, rfl⟩ ?_ | refine Rg.call (text_ b hb) rfl rfl rfl rfl rfl ⟨⟨.refl _, trivial⟩, rfl⟩ ?_ | refine Rg.call (h1) rfl rfl rfl rfl rfl ⟨⟨.refl _, trivial⟩, rfl⟩ ?_ | refine Rg.call (name_ x hx) rfl rfl rfl rfl rfl ⟨⟨.refl _, trivial⟩, rfl⟩ ?_ | refine Rg.call (name_ y hy) rfl rfl rfl rfl rfl ⟨⟨.refl _, trivial⟩, rfl⟩ ?_ | refine Rg.call (h2) rfl rfl rfl rfl rfl ⟨⟨.refl _, trivial⟩, rfl⟩ ?_ | refine Rg.call (awake7_) rfl rfl rfl rfl rfl ⟨trivial, rfl⟩ ?_ | (refine Rg.op true tok rfl rfl rfl rfl ?_ ?_ ?_; (first | exact True.intro | omega | (simp; done) | (simp; omega) | decide +kernel); (first | exact trivial | exact .inl rfl | exact .inr rfl)) | refine Rg.nil ?_ | refine Rg.skip rfl rfl rfl ?_ | refine Run.regR ?_ | refine Run.drwR mixed (by kernel_rfl) rfl ?_ | refine Run.condT rfl ?_ | refine Run.condF rfl ?_ | (refine Run.condB rfl (fun hc => ?_) (fun hc => ?_) <;> ((try simp only [cs] at hc); (first | (exact absurd hAB hc) | (exact absurd hz hc) | skip))) | ((fail_if_success (refine Rg.lit true rfl ?_)); (fail_if_success (refine Rg.lit false rfl ?_)); refine Rg.guard rfl (fun hc => ?_) (fun hc => ?_) <;> ((try simp only [cs] at hc); (first | (exact absurd hAB hc) | (exact absurd hz hc) | skip))))
    all_goals (refine Run.ret tok Tryd.func4 rfl ?_; exact .refl _)
  · rw [(evOf_iff _ _).2 ⟨hx, rfl, hn⟩] at h2
    have hz : ¬ (bs (nameEv x)).toList = (ByteArray.mk #[]).toList := fun h => hn (by have := (toL_nil _).1 h; rwa [bs_toList] at this)
    have hNM := nameEq x y hx hy hn
    refine Pure.of_spec (Spec.of_run (fn := Tryd.f4) Tryd.func4 rfl rfl (by kernel_rfl) ?_) (by first | assumption | rfl | (split <;> rfl) | (split <;> split <;> rfl))
    repeat' (first | refine Run.ctl rfl ?_ | (refine Rg.op false tok rfl rfl rfl rfl ?_ ?_ ?_; (first | exact True.intro | omega | (simp; done) | (simp; omega) | decide +kernel); (first | exact trivial | exact .inl rfl | exact .inr rfl)) | refine Rg.call (text_ a ha) rfl rfl rfl rfl rfl ⟨⟨.refl _, trivial⟩, rfl⟩ ?_ | refine Rg.call (text_ b hb) rfl rfl rfl rfl rfl ⟨⟨.refl _, trivial⟩, rfl⟩ ?_ | refine Rg.call (h1) rfl rfl rfl rfl rfl ⟨⟨.refl _, trivial⟩, rfl⟩ ?_ | refine Rg.call (name_ x hx) rfl rfl rfl rfl rfl ⟨⟨.refl _, trivial⟩, rfl⟩ ?_ | refine Rg.call (name_ y hy) rfl rfl rfl rfl rfl ⟨⟨.refl _, trivial⟩, rfl⟩ ?_ | refine Rg.call (h2) rfl rfl rfl rfl rfl ⟨⟨.refl _, trivial⟩, rfl⟩ ?_ | refine Rg.call (awake7_) rfl rfl rfl rfl rfl ⟨trivial, rfl⟩ ?_ | (refine Rg.op true tok rfl rfl rfl rfl ?_ ?_ ?_; (first | exact True.intro | omega | (simp; done) | (simp; omega) | decide +kernel); (first | exact trivial | exact .inl rfl | exact .inr rfl)) | refine Rg.nil ?_ | refine Rg.skip rfl rfl rfl ?_ | refine Run.regR ?_ | refine Run.drwR mixed (by kernel_rfl) rfl ?_ | refine Run.condT rfl ?_ | refine Run.condF rfl ?_ | (refine Run.condB rfl (fun hc => ?_) (fun hc => ?_) <;> ((try simp only [cs] at hc); (first | (exact absurd hAB hc) | (exact absurd hNM hc) | (exact absurd hc hz) | skip))) | ((fail_if_success (refine Rg.lit true rfl ?_)); (fail_if_success (refine Rg.lit false rfl ?_)); refine Rg.guard rfl (fun hc => ?_) (fun hc => ?_) <;> ((try simp only [cs] at hc); (first | (exact absurd hAB hc) | (exact absurd hNM hc) | (exact absurd hc hz) | skip))))
    all_goals (refine Run.ret tok Tryd.func4 rfl ?_; exact .refl _)
end Go.Proofs.YtocfjbopkgmjkaaDoor.W
