/- Walks: names of events read. -/
import Derived.Test.YtocfjbopkgmjkaaDoorP2
set_option linter.unusedVariables false
set_option linter.unusedSimpArgs false
set_option linter.unusedSectionVars false
set_option pp.maxSteps 3000
set_option maxHeartbeats 400000
namespace Go.Proofs.YtocfjbopkgmjkaaDoor.W
open Go Go.Sy

def evP (o : Option Ev) : PV := match o with
  | some e => .tup [pEv e, i64 0]
  | none => .tup [pEv ⟨0, ⟨0, 0, 0⟩, 0⟩, i64 2]
def revP (o : Option Ev) : PV := match o with
  | some e => .tup [pEv e, bl true]
  | none => .tup [pEv ⟨0, ⟨0, 0, 0⟩, 0⟩, bl false]
theorem kN_bs (k : Nat) : kindNames.getD k default = bs (kN k) := by simp [kN, bs_inv]
theorem bs_dec (a b : List UInt8) : decide (bs a = bs b) = decide (a = b) := decide_eq_decide.2 ⟨bs_inj, fun h => by rw [h]⟩
theorem toL_nil (s : ByteArray) : s.toList = (ByteArray.mk #[]).toList ↔ s.data.toList = [] := by rw [ByteArray.toList_eq, ByteArray.toList_eq]
theorem bs_toL_iff (l : List UInt8) (s : ByteArray) : (bs l).toList = s.toList ↔ l = s.data.toList := by rw [bs_toL, ByteArray.toList_eq]
theorem event_ (s : ByteArray) (hs : s.size ≤ 1000) : Pure Tryd.prog 15 [str s] (evP (evOf s.data.toList)) := by
  have hlen : s.data.toList.length = s.size := Array.length_toList
  obtain ⟨pv, hpv⟩ : ∃ pv, pv = evP (evOf s.data.toList) := ⟨_, rfl⟩
  have hcl : closedB pv = true := by rw [hpv]; unfold evP; split <;> rfl
  rw [← hpv]
  rw [← eventL_eq] at hpv
  obtain ⟨nm, rest, fnd, hcc⟩ : ∃ a b c, Lib.cut s.data.toList [32] = (a, b, c) := ⟨_, _, _, rfl⟩
  have hcut := cut_ s (bs [32]) (by omega)
  rw [bs_toList, hcc] at hcut
  have hrl : rest.length ≤ 1000 := by
    by_cases h : (32 : UInt8) ∈ s.data.toList
    · obtain ⟨a, b, e, ha⟩ := List.eq_append_cons_of_mem h
      rw [e, cut_at b ha] at hcc
      rw [e] at hlen
      simp only [Prod.mk.injEq] at hcc
      simp at hlen
      rw [← hcc.2.1]
      omega
    · rw [cut_not h] at hcc
      simp only [Prod.mk.injEq] at hcc
      rw [← hcc.2.1]
      simp
  have hp := parse_ (bs rest) (by rw [bs_size]; exact hrl)
  have hn := number_ (bs rest) (by rw [bs_size]; omega)
  have h0 := ev0_ok s.data.toList
  have hev : ev0 s.data.toList = if isMsg (kindOf nm 6 : Nat) then ⟨(kindOf nm 6 : Nat), (idOf rest).getD ⟨0, 0, 0⟩, 0⟩ else if isAct (kindOf nm 6 : Nat) then ⟨(kindOf nm 6 : Nat), ⟨0, 0, 0⟩, (Lib.numOf rest).getD 0⟩ else ⟨(kindOf nm 6 : Nat), ⟨0, 0, 0⟩, 0⟩ := by
    unfold ev0
    rw [hcc]
  have hpP : ∃ e, parseP (bs rest) = .tup [pID ((idOf rest).getD ⟨0, 0, 0⟩), i64 e] := by
    unfold parseP
    rw [parseID_of, bs_toList]
    cases idOf rest <;> exact ⟨_, rfl⟩
  have hnP : ∃ e, numP (bs rest) = .tup [i64 ((Lib.numOf rest).getD 0), bl e] := by
    unfold numP
    rw [bs_toList]
    cases Lib.numOf rest <;> exact ⟨_, rfl⟩
  obtain ⟨eP, hpP⟩ := hpP
  obtain ⟨eN, hnP⟩ := hnP
  rw [hpP] at hp
  rw [hnP] at hn
  refine Pure.of_spec (Spec.of_run (fn := Tryd.f15) Tryd.func15 rfl rfl (by kernel_rfl) ?_) (by first | assumption | rfl | (split <;> rfl) | (split <;> split <;> rfl))
  repeat' (first | refine Run.ctl rfl ?_ | (refine Rg.op false tok rfl rfl rfl rfl ?_ ?_ ?_; (first | exact True.intro | omega | (simp; done) | (simp; omega) | decide +kernel); (first | exact trivial | exact .inl rfl | exact .inr rfl)) | refine Rg.call (hcut) rfl rfl rfl rfl rfl ⟨⟨.refl _, .refl _, trivial⟩, rfl⟩ ?_ | refine Rg.call (split_names) rfl rfl rfl rfl rfl ⟨⟨.refl _, .refl _, trivial⟩, rfl⟩ ?_ | (refine Rg.op true tok rfl rfl rfl rfl ?_ ?_ ?_; (first | exact True.intro | omega | (simp; done) | (simp; omega) | decide +kernel); (first | exact trivial | exact .inl rfl | exact .inr rfl)) | refine Rg.nil ?_ | refine Rg.skip rfl rfl rfl ?_ | refine Run.regR ?_ | refine Run.drwR mixed (by kernel_rfl) rfl ?_ | refine Run.condT rfl ?_ | refine Run.condF rfl ?_ | (refine Run.condB rfl (fun hc => ?_) (fun hc => ?_) <;> ((try simp only [cs] at hc))) | ((fail_if_success (refine Rg.lit true rfl ?_)); (fail_if_success (refine Rg.lit false rfl ?_)); refine Rg.guard rfl (fun hc => ?_) (fun hc => ?_) <;> ((try simp only [cs] at hc))))
  refine Run.loopRow (ι := Nat) (fun i => ([(0, str s), (2, .ptr 0 0 0), (4, str (bs nm)), (5, str (bs rest)), (15, sl 1 eStr kindNames), (16, i64 kindNames.length), (17, i64 i)], [some ⟨25, 5, 1, fun _ => eEv ⟨kindOf nm i, ⟨0, 0, 0⟩, 0⟩, false⟩]))
    (fun i => i ≤ 6) (fun i => 6 - i) 0 [0] rfl rfl rfl ⟨rfl, rfl, rfl, rfl, rfl, rfl, rfl, trivial⟩ rfl (by omega) ?_
  rintro i hi back backR
  repeat' (first | refine Run.ctl rfl ?_ | (refine Rg.op false tok rfl rfl rfl rfl ?_ ?_ ?_; (first | exact True.intro | omega | (simp; done) | (simp; omega) | decide +kernel); (first | exact trivial | exact .inl rfl | exact .inr rfl)) | (refine Rg.op true tok rfl rfl rfl rfl ?_ ?_ ?_; (first | exact True.intro | omega | (simp; done) | (simp; omega) | decide +kernel); (first | exact trivial | exact .inl rfl | exact .inr rfl)) | refine Rg.nil ?_ | refine Rg.skip rfl rfl rfl ?_ | refine Run.regR ?_ | refine Run.drwR mixed (by kernel_rfl) rfl ?_ | refine Run.condT rfl ?_ | refine Run.condF rfl ?_ | (refine Run.condB rfl (fun hc => ?_) (fun hc => ?_) <;> ((try simp only [cs] at hc))) | ((fail_if_success (refine Rg.lit true rfl ?_)); (fail_if_success (refine Rg.lit false rfl ?_)); refine Rg.guard rfl (fun hc => ?_) (fun hc => ?_) <;> ((try simp only [cs] at hc))))
  · have e : kindOf nm (i + 1) = i := by
      unfold kindOf
      rw [if_pos]
      rw [ByteArray.toList_eq, bs_toL] at hc
      exact hc
    exact backR (i + 1) _ _ (by simp [kindNames] at *; omega) (by simp [kindNames] at *; omega) rfl ⟨⟨_, rfl, rfl, rfl, rfl, rfl, fun k hk => .ofEq (congrArg (fun z : Nat => eEv ⟨(z : Int), ⟨0, 0, 0⟩, 0⟩) e.symm) rfl⟩, trivial⟩ ⟨.cl rfl, .ptrN rfl rfl, .cl rfl, .cl rfl, .cl rfl, .cl rfl, .cl rfl, trivial⟩
  · have e : kindOf nm (i + 1) = kindOf nm i := by
      conv => lhs; unfold kindOf
      rw [if_neg]
      rw [ByteArray.toList_eq, bs_toL] at hc
      exact hc
    exact backR (i + 1) _ _ (by simp [kindNames] at *; omega) (by simp [kindNames] at *; omega) rfl ⟨⟨_, rfl, rfl, rfl, rfl, rfl, fun k hk => .ofEq (congrArg (fun z : Nat => eEv ⟨(z : Int), ⟨0, 0, 0⟩, 0⟩) e.symm) rfl⟩, trivial⟩ ⟨.cl rfl, .ptrN rfl rfl, .cl rfl, .cl rfl, .cl rfl, .cl rfl, .cl rfl, trivial⟩
  · obtain rfl : i = 6 := by simp [kindNames] at hc; omega
    have hk6 := R64_small (kindOf nm 6) (by have := kindOf_le nm 6; omega)
    have hz : (⟨0, 0, 0⟩ : ID).ok := ⟨R64_zero, R64_zero, R64_zero⟩
    have hid : ((idOf rest).getD ⟨0, 0, 0⟩).ok := by
      cases h : idOf rest with
      | none => exact hz
      | some x => exact ((idOf_iff _ _).1 h).1
    have hnm : R64 ((Lib.numOf rest).getD 0) := by
      cases h : Lib.numOf rest with
      | none => exact R64_zero
      | some x => exact ((Lib.numOf_iff _ _).1 h).1
    have hbad : (s.data.toList = [] ∨ nameEv (ev0 s.data.toList) ≠ s.data.toList) → pv = .tup [pEv ⟨0, ⟨0, 0, 0⟩, 0⟩, i64 2] := by
      intro h
      rw [hpv, eventL, if_pos h]
      rfl
    have hgood : ¬ (s.data.toList = [] ∨ nameEv (ev0 s.data.toList) ≠ s.data.toList) → pv = .tup [pEv (ev0 s.data.toList), i64 0] := by
      intro h
      rw [hpv, eventL, if_neg h]
      rfl
    have E1 : isMsg (kindOf nm 6 : Nat) = true → ev0 s.data.toList = ⟨(kindOf nm 6 : Nat), (idOf rest).getD ⟨0, 0, 0⟩, 0⟩ := fun h => by rw [hev, if_pos h]
    have E2 : isMsg (kindOf nm 6 : Nat) = false → isAct (kindOf nm 6 : Nat) = true → ev0 s.data.toList = ⟨(kindOf nm 6 : Nat), ⟨0, 0, 0⟩, (Lib.numOf rest).getD 0⟩ := fun h g => by rw [hev, if_neg (by rw [h]; simp), if_pos g]
    have E3 : isMsg (kindOf nm 6 : Nat) = false → isAct (kindOf nm 6 : Nat) = false → ev0 s.data.toList = ⟨(kindOf nm 6 : Nat), ⟨0, 0, 0⟩, 0⟩ := fun h g => by rw [hev, if_neg (by rw [h]; simp), if_neg (by rw [g]; simp)]
    repeat' (first | refine Run.ctl rfl ?_ | (refine Rg.op false tok rfl rfl rfl rfl ?_ ?_ ?_; (first | exact True.intro | omega | (simp; done) | (simp; omega) | decide +kernel); (first | exact trivial | exact .inl rfl | exact .inr rfl)) | refine Rg.call (ofMessage_ _) rfl rfl rfl rfl rfl ⟨⟨.refl _, trivial⟩, rfl⟩ ?_ | refine Rg.call (ofActor_ _) rfl rfl rfl rfl rfl ⟨⟨.refl _, trivial⟩, rfl⟩ ?_ | refine Rg.call (hp) rfl rfl rfl rfl rfl ⟨⟨.refl _, trivial⟩, rfl⟩ ?_ | refine Rg.call (hn) rfl rfl rfl rfl rfl ⟨⟨.refl _, trivial⟩, rfl⟩ ?_ | refine Rg.call (name_ ⟨(kindOf nm 6 : Nat), (idOf rest).getD ⟨0, 0, 0⟩, 0⟩ ⟨hk6, hid, R64_zero⟩) rfl rfl rfl rfl rfl ⟨⟨.refl _, trivial⟩, rfl⟩ ?_ | refine Rg.call (name_ ⟨(kindOf nm 6 : Nat), ⟨0, 0, 0⟩, (Lib.numOf rest).getD 0⟩ ⟨hk6, hz, hnm⟩) rfl rfl rfl rfl rfl ⟨⟨.refl _, trivial⟩, rfl⟩ ?_ | refine Rg.call (name_ ⟨(kindOf nm 6 : Nat), ⟨0, 0, 0⟩, 0⟩ ⟨hk6, hz, R64_zero⟩) rfl rfl rfl rfl rfl ⟨⟨.refl _, trivial⟩, rfl⟩ ?_ | (refine Rg.op true tok rfl rfl rfl rfl ?_ ?_ ?_; (first | exact True.intro | omega | (simp; done) | (simp; omega) | decide +kernel); (first | exact trivial | exact .inl rfl | exact .inr rfl)) | refine Rg.nil ?_ | refine Rg.skip rfl rfl rfl ?_ | refine Run.regR ?_ | refine Run.drwR mixed (by kernel_rfl) rfl ?_ | refine Run.condT rfl ?_ | refine Run.condF rfl ?_ | (refine Run.condB rfl (fun hc => ?_) (fun hc => ?_) <;> ((try simp only [cs] at hc))) | ((fail_if_success (refine Rg.lit true rfl ?_)); (fail_if_success (refine Rg.lit false rfl ?_)); refine Rg.guard rfl (fun hc => ?_) (fun hc => ?_) <;> ((try simp only [cs] at hc))))
    all_goals (simp only [toL_nil, bs_toL_iff] at *)
    all_goals (refine Run.ret tok Tryd.func15 rfl ?_)
    all_goals first
      | (rw [hbad (.inl (by assumption))]; exact .refl _)
      | (rw [hbad (.inr (by rw [E1 (by assumption)]; assumption))]; exact .refl _)
      | (rw [hbad (.inr (by rw [E2 (by assumption) (by assumption)]; assumption))]; exact .refl _)
      | (rw [hbad (.inr (by rw [E3 (by assumption) (by assumption)]; assumption))]; exact .refl _)
      | (rw [hgood (by rw [E1 (by assumption)]; (intro h; rcases h with h | h); exact absurd h (by assumption); exact h (by assumption)), E1 (by assumption)]; exact .refl _)
      | (rw [hgood (by rw [E2 (by assumption) (by assumption)]; (intro h; rcases h with h | h); exact absurd h (by assumption); exact h (by assumption)), E2 (by assumption) (by assumption)]; exact .refl _)
      | (rw [hgood (by rw [E3 (by assumption) (by assumption)]; (intro h; rcases h with h | h); exact absurd h (by assumption); exact h (by assumption)), E3 (by assumption) (by assumption)]; exact .refl _)
theorem pre_iff (s : ByteArray) (w : List UInt8) : (s.extract 0 (bs w).size).toList = (bs w).toList ↔ w <+: s.data.toList := by
  rw [ByteArray.toList_eq, ByteArray.toList_eq, extract_bs, bs_toList, bs_toList, bs_size, List.drop_zero, List.prefix_iff_eq_take]
  exact eq_comm
theorem pre_short {s : ByteArray} {w : List UInt8} (h : w <+: s.data.toList) : (bs w).size ≤ s.size := by
  have := h.length_le
  rw [Array.length_toList] at this
  rw [bs_size]
  exact this
theorem rest_eq (s : ByteArray) (w : List UInt8) : (s.extract (bs w).size s.size).data.toList = s.data.toList.drop w.length := by
  rw [extract_bs, bs_toList, bs_size, List.take_of_length_le (by rw [Array.length_toList]; exact Nat.le_refl _)]
theorem revent_ (s : ByteArray) (hs : s.size ≤ 1000) : Pure Tryd.prog 16 [str s] (revP (evOf s.data.toList)) := by
  have hlen : s.data.toList.length = s.size := Array.length_toList
  obtain ⟨pv, hpv⟩ : ∃ pv, pv = revP (evOf s.data.toList) := ⟨_, rfl⟩
  have hcl : closedB pv = true := by rw [hpv]; unfold revP; split <;> rfl
  rw [← hpv]
  refine Pure.of_spec (Spec.of_run (fn := Tryd.f16) Tryd.func16 rfl rfl (by kernel_rfl) ?_) (by first | assumption | rfl | (split <;> rfl) | (split <;> split <;> rfl))
  repeat' (first | refine Run.ctl rfl ?_ | (refine Rg.op false tok rfl rfl rfl rfl ?_ ?_ ?_; (first | exact True.intro | omega | (simp; done) | (simp; omega) | decide +kernel); (first | exact trivial | exact .inl rfl | exact .inr rfl)) | (refine Rg.op true tok rfl rfl rfl rfl ?_ ?_ ?_; (first | exact True.intro | omega | (simp; done) | (simp; omega) | decide +kernel); (first | exact trivial | exact .inl rfl | exact .inr rfl)) | refine Rg.nil ?_ | refine Rg.skip rfl rfl rfl ?_ | refine Run.regR ?_ | refine Run.drwR mixed (by kernel_rfl) rfl ?_ | refine Run.condT rfl ?_ | refine Run.condF rfl ?_ | (refine Run.condB rfl (fun hc => ?_) (fun hc => ?_) <;> ((try simp only [cs] at hc))) | ((fail_if_success (refine Rg.lit true rfl ?_)); (fail_if_success (refine Rg.lit false rfl ?_)); refine Rg.guard rfl (fun hc => ?_) (fun hc => ?_) <;> ((try simp only [cs] at hc))))
  refine Run.loopRow (ι := Nat) (fun k => ([(0, str s), (2, .ptr 0 0 0), (4, i64 k)], [some ⟨25, 5, 1, fun _ => eEv ⟨0, ⟨0, 0, 0⟩, 0⟩, false⟩]))
    (fun k => (1 ≤ k ∧ k ≤ 6) ∧ ∀ j, 1 ≤ j → j < k → ¬ wd j <+: s.data.toList) (fun i => 6 - i) 1 [0] rfl rfl rfl ⟨rfl, rfl, rfl, trivial⟩ rfl ⟨by omega, by intro j h1 h2; omega⟩ ?_
  rintro k ⟨⟨h1, h6⟩, hno⟩ back backR
  have hw : kindNames.getD k default ++ ByteArray.mk #[32] = bs (wd k) := by
    rw [kN_bs]
    exact bs_app _ _
  have hkl : (wd k).length ≤ 8 := by
    have := kindName_len (k : Int)
    have e : (kindNames.getD (k : Int).toNat default) = bs (kN k) := kN_bs k
    rw [e, bs_size] at this
    simp [wd]
    omega
  have hpre : (s.extract (Int.toNat 0) (((kindNames.getD k default ++ ByteArray.mk #[32]).size : Nat) : Int).toNat).toList = (kindNames.getD k default ++ ByteArray.mk #[32]).toList ↔ wd k <+: s.data.toList := by
    rw [hw]
    exact pre_iff s (wd k)
  have hshort : wd k <+: s.data.toList → (kindNames.getD k default ++ ByteArray.mk #[32]).size ≤ s.size := by
    rw [hw]
    exact pre_short
  have hrest : (s.extract (kindNames.getD k default ++ ByteArray.mk #[32]).size s.size).data.toList = s.data.toList.drop (wd k).length := by
    rw [hw]
    exact rest_eq s (wd k)
  have hx := rparse_ (s.extract (kindNames.getD k default ++ ByteArray.mk #[32]).size s.size) (by rw [ByteArray.size_extract]; omega)
  have hy := int_ (s.extract (kindNames.getD k default ++ ByteArray.mk #[32]).size s.size) (by rw [ByteArray.size_extract]; omega)
  rw [hrest] at hx
  unfold ridP at hx
  unfold numP at hy
  rw [hrest] at hy
  repeat' (first | refine Rg.any rfl rfl rfl (fun _ hq => G_ixFN tok rfl rfl rfl rfl rfl (by simp [kindNames]; omega) hq) (by first | exact trivial | exact .inl rfl | exact .inr rfl) ?_ | refine Rg.any rfl rfl rfl (fun _ hq => G_concat' rfl rfl rfl (by have e := kN_bs k; simp only [e, ByteArray.size_append, mk_bs, bs_size, List.length_cons, List.length_nil]; simp [wd] at hkl; omega) hq) (by first | exact trivial | exact .inl rfl | exact .inr rfl) ?_ | refine Run.ctl rfl ?_ | (refine Rg.op false tok rfl rfl rfl rfl ?_ ?_ ?_; (first | exact True.intro | omega | (simp; done) | (simp; omega) | decide +kernel); (first | exact trivial | exact .inl rfl | exact .inr rfl)) | refine Rg.call (kinds_) rfl rfl rfl rfl rfl ⟨trivial, rfl⟩ ?_ | (refine Rg.op true tok rfl rfl rfl rfl ?_ ?_ ?_; (first | exact True.intro | omega | (simp; done) | (simp; omega) | decide +kernel); (first | exact trivial | exact .inl rfl | exact .inr rfl)) | refine Rg.nil ?_ | refine Rg.skip rfl rfl rfl ?_ | refine Run.regR ?_ | refine Run.drwR mixed (by kernel_rfl) rfl ?_ | refine Run.condT rfl ?_ | refine Run.condF rfl ?_ | (refine Run.condB rfl (fun hc => ?_) (fun hc => ?_) <;> ((try simp only [cs] at hc))) | ((fail_if_success (refine Rg.lit true rfl ?_)); (fail_if_success (refine Rg.lit false rfl ?_)); refine Rg.guard rfl (fun hc => ?_) (fun hc => ?_) <;> ((try simp only [cs] at hc))))
  · exact back (k + 1) _ _ ⟨⟨by omega, by omega⟩, fun j g1 g2 hp => by
      by_cases e : j = k
      · subst e; have := hshort hp; omega
      · exact hno j g1 (by omega) hp⟩ (by show 6 - (k + 1) < 6 - k; omega) ⟨rfl, rfl, rfl, trivial⟩ rfl
  · exact back (k + 1) _ _ ⟨⟨by omega, by omega⟩, fun j g1 g2 hp => by
      by_cases e : j = k
      · subst e; exact hc (hpre.2 hp)
      · exact hno j g1 (by omega) hp⟩ (by show 6 - (k + 1) < 6 - k; omega) ⟨rfl, rfl, rfl, trivial⟩ rfl
  · rename_i hp _ _
    have hit := evOf_hit h1 (by omega) (hpre.1 (by assumption))
    rw [hit] at hpv
    unfold evAt at hpv
    rw [if_pos (by omega)] at hpv
    cases hi : idOf (s.data.toList.drop (wd k).length) with
    | none =>
      rw [hi] at hx hpv
      repeat' (first | refine Run.ctl rfl ?_ | (refine Rg.op false tok rfl rfl rfl rfl ?_ ?_ ?_; (first | exact True.intro | omega | (simp; done) | (simp; omega) | decide +kernel); (first | exact trivial | exact .inl rfl | exact .inr rfl)) | refine Rg.call (hx) rfl rfl rfl rfl rfl ⟨⟨.refl _, trivial⟩, rfl⟩ ?_ | (refine Rg.op true tok rfl rfl rfl rfl ?_ ?_ ?_; (first | exact True.intro | omega | (simp; done) | (simp; omega) | decide +kernel); (first | exact trivial | exact .inl rfl | exact .inr rfl)) | refine Rg.nil ?_ | refine Rg.skip rfl rfl rfl ?_ | refine Run.regR ?_ | refine Run.drwR mixed (by kernel_rfl) rfl ?_ | refine Run.condT rfl ?_ | refine Run.condF rfl ?_ | (refine Run.condB rfl (fun hc => ?_) (fun hc => ?_) <;> ((try simp only [cs] at hc))) | ((fail_if_success (refine Rg.lit true rfl ?_)); (fail_if_success (refine Rg.lit false rfl ?_)); refine Rg.guard rfl (fun hc => ?_) (fun hc => ?_) <;> ((try simp only [cs] at hc))))
      refine Run.ret tok Tryd.func16 rfl ?_
      rw [hpv]
      exact .refl _
    | some x =>
      rw [hi] at hx hpv
      repeat' (first | refine Run.ctl rfl ?_ | (refine Rg.op false tok rfl rfl rfl rfl ?_ ?_ ?_; (first | exact True.intro | omega | (simp; done) | (simp; omega) | decide +kernel); (first | exact trivial | exact .inl rfl | exact .inr rfl)) | refine Rg.call (hx) rfl rfl rfl rfl rfl ⟨⟨.refl _, trivial⟩, rfl⟩ ?_ | (refine Rg.op true tok rfl rfl rfl rfl ?_ ?_ ?_; (first | exact True.intro | omega | (simp; done) | (simp; omega) | decide +kernel); (first | exact trivial | exact .inl rfl | exact .inr rfl)) | refine Rg.nil ?_ | refine Rg.skip rfl rfl rfl ?_ | refine Run.regR ?_ | refine Run.drwR mixed (by kernel_rfl) rfl ?_ | refine Run.condT rfl ?_ | refine Run.condF rfl ?_ | (refine Run.condB rfl (fun hc => ?_) (fun hc => ?_) <;> ((try simp only [cs] at hc))) | ((fail_if_success (refine Rg.lit true rfl ?_)); (fail_if_success (refine Rg.lit false rfl ?_)); refine Rg.guard rfl (fun hc => ?_) (fun hc => ?_) <;> ((try simp only [cs] at hc))))
      refine Run.ret tok Tryd.func16 rfl ?_
      rw [hpv]
      exact .refl _
  · have hit := evOf_hit h1 (by omega) (hpre.1 (by assumption))
    rw [hit] at hpv
    unfold evAt at hpv
    rw [if_neg (by omega)] at hpv
    cases hi : Lib.numOf (s.data.toList.drop (wd k).length) with
    | none =>
      rw [hi] at hy hpv
      repeat' (first | refine Run.ctl rfl ?_ | (refine Rg.op false tok rfl rfl rfl rfl ?_ ?_ ?_; (first | exact True.intro | omega | (simp; done) | (simp; omega) | decide +kernel); (first | exact trivial | exact .inl rfl | exact .inr rfl)) | refine Rg.call (hy) rfl rfl rfl rfl rfl ⟨⟨.refl _, trivial⟩, rfl⟩ ?_ | (refine Rg.op true tok rfl rfl rfl rfl ?_ ?_ ?_; (first | exact True.intro | omega | (simp; done) | (simp; omega) | decide +kernel); (first | exact trivial | exact .inl rfl | exact .inr rfl)) | refine Rg.nil ?_ | refine Rg.skip rfl rfl rfl ?_ | refine Run.regR ?_ | refine Run.drwR mixed (by kernel_rfl) rfl ?_ | refine Run.condT rfl ?_ | refine Run.condF rfl ?_ | (refine Run.condB rfl (fun hc => ?_) (fun hc => ?_) <;> ((try simp only [cs] at hc))) | ((fail_if_success (refine Rg.lit true rfl ?_)); (fail_if_success (refine Rg.lit false rfl ?_)); refine Rg.guard rfl (fun hc => ?_) (fun hc => ?_) <;> ((try simp only [cs] at hc))))
      refine Run.ret tok Tryd.func16 rfl ?_
      rw [hpv]
      exact .refl _
    | some x =>
      rw [hi] at hy hpv
      repeat' (first | refine Run.ctl rfl ?_ | (refine Rg.op false tok rfl rfl rfl rfl ?_ ?_ ?_; (first | exact True.intro | omega | (simp; done) | (simp; omega) | decide +kernel); (first | exact trivial | exact .inl rfl | exact .inr rfl)) | refine Rg.call (hy) rfl rfl rfl rfl rfl ⟨⟨.refl _, trivial⟩, rfl⟩ ?_ | (refine Rg.op true tok rfl rfl rfl rfl ?_ ?_ ?_; (first | exact True.intro | omega | (simp; done) | (simp; omega) | decide +kernel); (first | exact trivial | exact .inl rfl | exact .inr rfl)) | refine Rg.nil ?_ | refine Rg.skip rfl rfl rfl ?_ | refine Run.regR ?_ | refine Run.drwR mixed (by kernel_rfl) rfl ?_ | refine Run.condT rfl ?_ | refine Run.condF rfl ?_ | (refine Run.condB rfl (fun hc => ?_) (fun hc => ?_) <;> ((try simp only [cs] at hc))) | ((fail_if_success (refine Rg.lit true rfl ?_)); (fail_if_success (refine Rg.lit false rfl ?_)); refine Rg.guard rfl (fun hc => ?_) (fun hc => ?_) <;> ((try simp only [cs] at hc))))
      refine Run.ret tok Tryd.func16 rfl ?_
      rw [hpv]
      exact .refl _
  · rw [evOf_miss (fun j g1 g2 => hno j g1 (by omega))] at hpv
    refine Run.ret tok Tryd.func16 rfl ?_
    rw [hpv]
    exact .refl _
end Go.Proofs.YtocfjbopkgmjkaaDoor.W
