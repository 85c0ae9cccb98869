/- Texts merged: D10, D11, D12, P8. -/
import Derived.Test.YtlimecfjpfaljaaM20
import Derived.Test.YtlimecfjpfaljaaM18
section
/- Walks: messages sent (chapter 9). -/
set_option linter.unusedVariables false
set_option linter.unusedSimpArgs false
set_option linter.unusedSectionVars false
set_option pp.maxSteps 3000
set_option maxHeartbeats 1000000
namespace Go.Proofs.Ytlimecfjpfaljaa.W
open Go Go.Sy

def eWdO (w : Wd) : List PV := [.slc 1 0 w.actors.length, sl 6 eMsg w.mail, i64 w.used.drop, i64 w.used.dup, i64 w.used.time, i64 w.used.crash]
def rowL (l : List Lcl) : Option Blk := some ⟨66, 5, l.length, rows eLcl l, false, false⟩
/-- A world of one's own: its box, and the row of its actors. -/
def wdSt (w : Wd) : St := [some ⟨32, 6, 1, fun _ => eWdO w, false, false⟩, rowL w.actors]
theorem rows_set {α : Type} [Inhabited α] (enc : α → List PV) (l : List α) {k : Nat} (a : α) (hk : k < l.length) (j : Nat) : rows enc (l.set k a) j = bif Nat.beq j (0 + k) then enc a else rows enc l j := by
  rw [Nat.zero_add]
  unfold rows
  by_cases h : j = k
  · subst h; simp [hk]
  · have : Nat.beq j k = false := by rw [Bool.eq_false_iff]; intro hh; exact h (Nat.eq_of_beq_eq_true hh)
    rw [this]
    simp only [cond_false]
    congr 1
    simp [List.getElem?_set, Ne.symm h]
theorem wrap_id {n : Int} (h : R64 n) : IntKind.wrap .i64 n = n := by
  unfold R64 at h
  unfold IntKind.wrap
  simp [IntKind.signed, IntKind.bits]
  omega
theorem post_ (p : Pg) (w : Wd) (m : Msg) (k : Nat) (hk : m.note.to_ = k) (hp : k < p.actors.length) (hw : k < w.actors.length) (hl : w.mail.length ≤ 100000) (ha : ∀ x ∈ w.mail, x.note.args.length ≤ 100000) (hm : m.note.args.length ≤ 100000) (ho : -9223372036854775808 ≤ (w.actors.getD k default).over ∧ (w.actors.getD k default).over < 9223372036854775807) :
    Own Try.prog 49 [pPg p, .ptr 0 0 0, pMsg m] (wdSt w) (.tup []) (wdSt (postIn p w m)) := by
  have hto := mailTo_ w.mail m.note.to_ hl
  have hput := put_ w.mail m hl ha hm
  obtain ⟨id, to_, hd, args⟩ := m
  dsimp only at hk
  subst hk
  unfold postIn
  dsimp only [Int.toNat_natCast] at hto hput ⊢
  by_cases hr : (toMail w.mail k : Int) < (p.actors.getD k default).cap
  · rw [if_pos hr]
    unfold putP at hput
    cases hpm : putMail w.mail ⟨id, k, hd, args⟩ with
    | some l =>
      rw [hpm] at hput
      dsimp only at hput ⊢
      refine Spec.of_run (fn := Try.f49) Try.func49 rfl rfl (by kernel_rfl) ?_
      repeat' (first | (refine Run.drwP [] [0, 1, 2, 3, 4, 5, 6, 7, 8, 9, 10, 11, 12] [none, none, none, none, none, none, none, none, none, none, none, none, none] mixed (by kernel_rfl) rfl ?_) | (refine Run.drwP [] [0, 1, 2, 3, 4, 5, 6, 7, 8, 9, 10] [none, none, none, none, none, none, none, none, none, none, none] mixed (by kernel_rfl) rfl ?_) | refine Run.ctl rfl ?_ | (refine Rg.op false tok rfl rfl rfl rfl ?_ ?_ ?_; (first | exact True.intro | omega | exact Nat.succ_pos _ | focus (simp; done) | focus (simp; omega) | decide +kernel); (first | exact trivial | exact rfl | exact .inl rfl | exact .inr rfl | focus ((repeat (first | exact trivial | (refine ⟨Stay.op false tok rfl rfl rfl ?_ (fun t ht => by cases ht; rfl), ?_⟩; (first | exact True.intro | omega | exact Nat.succ_pos _ | focus (simp; done) | focus (simp; omega) | decide +kernel)) | (refine ⟨Stay.op true tok rfl rfl rfl ?_ (fun t ht => by cases ht; rfl), ?_⟩; (first | exact True.intro | omega | exact Nat.succ_pos _ | focus (simp; done) | focus (simp; omega) | decide +kernel)) | refine ⟨Stay.skip rfl rfl (fun t ht => by cases ht; rfl), ?_⟩)); done))) | refine Rg.call (hto) rfl rfl rfl rfl rfl ⟨⟨.refl _, .refl _, trivial⟩, rfl⟩ ?_ | refine Rg.call (hput) rfl rfl rfl rfl rfl ⟨⟨.refl _, .refl _, trivial⟩, rfl⟩ ?_ | (refine Rg.op true tok rfl rfl rfl rfl ?_ ?_ ?_; (first | exact True.intro | omega | exact Nat.succ_pos _ | focus (simp; done) | focus (simp; omega) | decide +kernel); (first | exact trivial | exact rfl | exact .inl rfl | exact .inr rfl | focus ((repeat (first | exact trivial | (refine ⟨Stay.op false tok rfl rfl rfl ?_ (fun t ht => by cases ht; rfl), ?_⟩; (first | exact True.intro | omega | exact Nat.succ_pos _ | focus (simp; done) | focus (simp; omega) | decide +kernel)) | (refine ⟨Stay.op true tok rfl rfl rfl ?_ (fun t ht => by cases ht; rfl), ?_⟩; (first | exact True.intro | omega | exact Nat.succ_pos _ | focus (simp; done) | focus (simp; omega) | decide +kernel)) | refine ⟨Stay.skip rfl rfl (fun t ht => by cases ht; rfl), ?_⟩)); done))) | refine Rg.nil ?_ | refine Rg.skip rfl rfl rfl ?_ | refine Run.regR ?_ | refine Run.drwR mixed (by kernel_rfl) rfl ?_ | refine Run.condT rfl ?_ | refine Run.condF rfl ?_ | (refine Run.condB rfl (fun hc => ?_) (fun hc => ?_) <;> ((try simp only [cs] at hc); (first | ((exfalso; omega); done) | skip))) | ((fail_if_success (refine Rg.lit true rfl ?_)); (fail_if_success (refine Rg.lit false rfl ?_)); refine Rg.guard rfl (fun hc => ?_) (fun hc => ?_) <;> ((try simp only [cs] at hc); (first | ((exfalso; omega); done) | skip))))
      refine Run.renumL [0, 1] (wdSt { w with mail := l }) [] rfl rfl rfl rfl ⟨⟨_, rfl, rfl, rfl, rfl, rfl, fun k hk => ⟨.slcN rfl rfl rfl, .cl rfl, .cl rfl, .cl rfl, .cl rfl, .cl rfl, trivial⟩⟩, ⟨_, rfl, rfl, rfl, rfl, rfl, fun k hk => .ofEq rfl rfl⟩, trivial⟩ trivial ?_
      (first | refine Run.ret tok Try.func49 rfl ?_ | refine Run.fall tok Try.func49 rfl ?_)
      exact ⟨rfl, rfl⟩
    | none =>
      rw [hpm] at hput
      dsimp only at hput ⊢
      refine Spec.of_run (fn := Try.f49) Try.func49 rfl rfl (by kernel_rfl) ?_
      repeat' (first | (refine Run.drwP [] [0, 1, 2, 3, 4, 5, 6, 7, 8, 9, 10, 11, 12] [none, none, none, none, none, none, none, none, none, none, none, none, none] mixed (by kernel_rfl) rfl ?_) | (refine Run.drwP [] [0, 1, 2, 3, 4, 5, 6, 7, 8, 9, 10] [none, none, none, none, none, none, none, none, none, none, none] mixed (by kernel_rfl) rfl ?_) | refine Run.ctl rfl ?_ | (refine Rg.op false tok rfl rfl rfl rfl ?_ ?_ ?_; (first | exact True.intro | omega | exact Nat.succ_pos _ | focus (simp; done) | focus (simp; omega) | decide +kernel); (first | exact trivial | exact rfl | exact .inl rfl | exact .inr rfl | focus ((repeat (first | exact trivial | (refine ⟨Stay.op false tok rfl rfl rfl ?_ (fun t ht => by cases ht; rfl), ?_⟩; (first | exact True.intro | omega | exact Nat.succ_pos _ | focus (simp; done) | focus (simp; omega) | decide +kernel)) | (refine ⟨Stay.op true tok rfl rfl rfl ?_ (fun t ht => by cases ht; rfl), ?_⟩; (first | exact True.intro | omega | exact Nat.succ_pos _ | focus (simp; done) | focus (simp; omega) | decide +kernel)) | refine ⟨Stay.skip rfl rfl (fun t ht => by cases ht; rfl), ?_⟩)); done))) | refine Rg.call (hto) rfl rfl rfl rfl rfl ⟨⟨.refl _, .refl _, trivial⟩, rfl⟩ ?_ | refine Rg.call (hput) rfl rfl rfl rfl rfl ⟨⟨.refl _, .refl _, trivial⟩, rfl⟩ ?_ | (refine Rg.op true tok rfl rfl rfl rfl ?_ ?_ ?_; (first | exact True.intro | omega | exact Nat.succ_pos _ | focus (simp; done) | focus (simp; omega) | decide +kernel); (first | exact trivial | exact rfl | exact .inl rfl | exact .inr rfl | focus ((repeat (first | exact trivial | (refine ⟨Stay.op false tok rfl rfl rfl ?_ (fun t ht => by cases ht; rfl), ?_⟩; (first | exact True.intro | omega | exact Nat.succ_pos _ | focus (simp; done) | focus (simp; omega) | decide +kernel)) | (refine ⟨Stay.op true tok rfl rfl rfl ?_ (fun t ht => by cases ht; rfl), ?_⟩; (first | exact True.intro | omega | exact Nat.succ_pos _ | focus (simp; done) | focus (simp; omega) | decide +kernel)) | refine ⟨Stay.skip rfl rfl (fun t ht => by cases ht; rfl), ?_⟩)); done))) | refine Rg.nil ?_ | refine Rg.skip rfl rfl rfl ?_ | refine Run.regR ?_ | refine Run.drwR mixed (by kernel_rfl) rfl ?_ | refine Run.condT rfl ?_ | refine Run.condF rfl ?_ | (refine Run.condB rfl (fun hc => ?_) (fun hc => ?_) <;> ((try simp only [cs] at hc); (first | ((exfalso; omega); done) | skip))) | ((fail_if_success (refine Rg.lit true rfl ?_)); (fail_if_success (refine Rg.lit false rfl ?_)); refine Rg.guard rfl (fun hc => ?_) (fun hc => ?_) <;> ((try simp only [cs] at hc); (first | ((exfalso; omega); done) | skip))))
      refine Run.renumL [0, 1] (wdSt { w with actors := w.actors.set k (addOver (w.actors.getD k default)) }) [] rfl rfl rfl rfl ⟨⟨_, rfl, rfl, rfl, rfl, rfl, fun k hk => ⟨.slcN rfl rfl (by simp), .cl rfl, .cl rfl, .cl rfl, .cl rfl, .cl rfl, trivial⟩⟩, ⟨_, rfl, rfl, rfl, by simp, rfl, fun j hj => .ofEq (by dsimp only; rw [rows_set eLcl _ _ hw j, Nat.zero_add, wrap_id (by unfold R64; omega)]; rfl) rfl⟩, trivial⟩ trivial ?_
      (first | refine Run.ret tok Try.func49 rfl ?_ | refine Run.fall tok Try.func49 rfl ?_)
      exact ⟨rfl, rfl⟩
  · rw [if_neg hr]
    refine Spec.of_run (fn := Try.f49) Try.func49 rfl rfl (by kernel_rfl) ?_
    repeat' (first | (refine Run.drwP [] [0, 1, 2, 3, 4, 5, 6, 7, 8, 9, 10, 11, 12] [none, none, none, none, none, none, none, none, none, none, none, none, none] mixed (by kernel_rfl) rfl ?_) | refine Run.ctl rfl ?_ | (refine Rg.op false tok rfl rfl rfl rfl ?_ ?_ ?_; (first | exact True.intro | omega | exact Nat.succ_pos _ | focus (simp; done) | focus (simp; omega) | decide +kernel); (first | exact trivial | exact rfl | exact .inl rfl | exact .inr rfl | focus ((repeat (first | exact trivial | (refine ⟨Stay.op false tok rfl rfl rfl ?_ (fun t ht => by cases ht; rfl), ?_⟩; (first | exact True.intro | omega | exact Nat.succ_pos _ | focus (simp; done) | focus (simp; omega) | decide +kernel)) | (refine ⟨Stay.op true tok rfl rfl rfl ?_ (fun t ht => by cases ht; rfl), ?_⟩; (first | exact True.intro | omega | exact Nat.succ_pos _ | focus (simp; done) | focus (simp; omega) | decide +kernel)) | refine ⟨Stay.skip rfl rfl (fun t ht => by cases ht; rfl), ?_⟩)); done))) | refine Rg.call (hto) rfl rfl rfl rfl rfl ⟨⟨.refl _, .refl _, trivial⟩, rfl⟩ ?_ | (refine Rg.op true tok rfl rfl rfl rfl ?_ ?_ ?_; (first | exact True.intro | omega | exact Nat.succ_pos _ | focus (simp; done) | focus (simp; omega) | decide +kernel); (first | exact trivial | exact rfl | exact .inl rfl | exact .inr rfl | focus ((repeat (first | exact trivial | (refine ⟨Stay.op false tok rfl rfl rfl ?_ (fun t ht => by cases ht; rfl), ?_⟩; (first | exact True.intro | omega | exact Nat.succ_pos _ | focus (simp; done) | focus (simp; omega) | decide +kernel)) | (refine ⟨Stay.op true tok rfl rfl rfl ?_ (fun t ht => by cases ht; rfl), ?_⟩; (first | exact True.intro | omega | exact Nat.succ_pos _ | focus (simp; done) | focus (simp; omega) | decide +kernel)) | refine ⟨Stay.skip rfl rfl (fun t ht => by cases ht; rfl), ?_⟩)); done))) | refine Rg.nil ?_ | refine Rg.skip rfl rfl rfl ?_ | refine Run.regR ?_ | refine Run.drwR mixed (by kernel_rfl) rfl ?_ | refine Run.condT rfl ?_ | refine Run.condF rfl ?_ | (refine Run.condB rfl (fun hc => ?_) (fun hc => ?_) <;> ((try simp only [cs] at hc); (first | ((exfalso; omega); done) | skip))) | ((fail_if_success (refine Rg.lit true rfl ?_)); (fail_if_success (refine Rg.lit false rfl ?_)); refine Rg.guard rfl (fun hc => ?_) (fun hc => ?_) <;> ((try simp only [cs] at hc); (first | ((exfalso; omega); done) | skip))))
    refine Run.renumL [0, 1] (wdSt { w with actors := w.actors.set k (addOver (w.actors.getD k default)) }) [] rfl rfl rfl rfl ⟨⟨_, rfl, rfl, rfl, rfl, rfl, fun k hk => ⟨.slcN rfl rfl (by simp), .cl rfl, .cl rfl, .cl rfl, .cl rfl, .cl rfl, trivial⟩⟩, ⟨_, rfl, rfl, rfl, by simp, rfl, fun j hj => .ofEq (by dsimp only; rw [rows_set eLcl _ _ hw j, Nat.zero_add, wrap_id (by unfold R64; omega)]; rfl) rfl⟩, trivial⟩ trivial ?_
    (first | refine Run.ret tok Try.func49 rfl ?_ | refine Run.fall tok Try.func49 rfl ?_)
    exact ⟨rfl, rfl⟩
end Go.Proofs.Ytlimecfjpfaljaa.W
end
section
/- Walks: notes given, and a program's start (chapter 9). -/
set_option linter.unusedVariables false
set_option linter.unusedSimpArgs false
set_option linter.unusedSectionVars false
set_option pp.maxSteps 3000
set_option maxHeartbeats 1000000
namespace Go.Proofs.Ytlimecfjpfaljaa.W
open Go Go.Sy

/-- There is room for so many more messages. -/
structure Room (n : Nat) (w : Wd) : Prop where
  mail : w.mail.length + n ≤ 100000
  args : ∀ x ∈ w.mail, x.note.args.length ≤ 100000
  over : ∀ l ∈ w.actors, -9223372036854775808 ≤ l.over ∧ l.over + n ≤ 9223372036854775807
theorem mem_putAt {m x : Msg} : ∀ {l : List Msg}, x ∈ putAt m l → x = m ∨ x ∈ l
  | [], h => by simp [putAt] at h; exact .inl h
  | y :: l, h => by
    unfold putAt at h
    split at h
    · rcases List.mem_cons.1 h with rfl | h
      · exact .inr (by simp)
      · rcases mem_putAt h with h | h
        · exact .inl h
        · exact .inr (by simp [h])
    · rcases List.mem_cons.1 h with rfl | h
      · exact .inl rfl
      · exact .inr h
theorem putAt_len (m : Msg) : ∀ (l : List Msg), (putAt m l).length = l.length + 1
  | [] => rfl
  | y :: l => by unfold putAt; split <;> simp [putAt_len m l]
theorem postIn_actors (p : Pg) (w : Wd) (m : Msg) : (postIn p w m).actors.length = w.actors.length := by
  unfold postIn
  dsimp only
  split
  · split <;> simp
  · simp
theorem Room.post {n : Nat} {p : Pg} {w : Wd} {m : Msg} (h : Room (n + 1) w) (hm : m.note.args.length ≤ 100000) (hk : m.note.to_.toNat < w.actors.length) : Room n (postIn p w m) := by
  have hmiss : Room n { w with actors := w.actors.set m.note.to_.toNat (addOver (w.actors.getD m.note.to_.toNat default)) } := by
    refine ⟨by have := h.mail; dsimp only; omega, h.args, fun l hl => ?_⟩
    dsimp only at hl
    rcases List.mem_or_eq_of_mem_set hl with hl | hl
    · have := h.over l hl; omega
    · subst hl
      have := h.over _ (mem_getD hk)
      show -9223372036854775808 ≤ (_ : Int) + 1 ∧ (_ : Int) + 1 + n ≤ _
      omega
  unfold postIn
  dsimp only
  split
  · unfold putMail
    split
    · rename_i l hl
      split at hl
      · cases hl
      · cases hl
        refine ⟨by have := h.mail; dsimp only; rw [putAt_len]; omega, fun x hx => ?_, fun l hl => by have := h.over l hl; omega⟩
        rcases mem_putAt hx with rfl | hx
        · exact hm
        · exact h.args x hx
    · exact hmiss
  · exact hmiss
/-- One note is given. -/
def giveOne (p : Pg) (from_ first : Int) (n : Nt) (w : Wd) : Wd := if 0 ≤ n.to_ ∧ n.to_ < p.actors.length ∧ n.to_ < w.actors.length then postIn p w ⟨⟨from_, first, 0⟩, n⟩ else w
theorem giveFrom_at (p : Pg) (from_ first : Int) {l : List Nt} {i : Nat} (hi : i < l.length) (w : Wd) : giveFrom p from_ (first + i) (l.drop i) w = giveFrom p from_ (first + (i + 1 : Nat)) (l.drop (i + 1)) (giveOne p from_ (first + i) (l.getD i default) w) := by
  rw [List.drop_eq_getElem_cons hi]
  have : l.getD i default = l[i] := by simp [hi]
  rw [this]
  show giveFrom p from_ (first + i + 1) _ (giveOne p from_ (first + i) l[i] w) = _
  congr 1
  omega
theorem giveOne_actors (p : Pg) (a b : Int) (n : Nt) (w : Wd) : (giveOne p a b n w).actors.length = w.actors.length := by
  unfold giveOne
  split
  · exact postIn_actors ..
  · rfl
def pbox (p : Pg) : Option Blk := some ⟨26, 4, 1, fun _ => ePg p, false, false⟩
theorem lmin2 (a b : Int) : lmin a [b] ≤ a ∧ lmin a [b] ≤ b ∧ (lmin a [b] = a ∨ lmin a [b] = b) := by
  simp only [lmin]
  omega
theorem give_ (p : Pg) (w : Wd) (from_ : Int) (notes : List Nt) (hf : from_ < w.actors.length) (hr : Room notes.length w) (hn : ∀ n ∈ notes, n.args.length ≤ 100000) (hs : 0 ≤ from_ → -9223372036854775808 ≤ (w.actors.getD from_.toNat default).sent - notes.length ∧ (w.actors.getD from_.toNat default).sent ≤ 9223372036854775807) :
    Own Try.prog 29 [pPg p, .ptr 0 0 0, i64 from_, sl 3 eNt notes] (wdSt w) (.tup []) (wdSt (giveIn p w from_ notes)) := by
  unfold giveIn
  have hnl : notes.length ≤ 100000 := by have := hr.mail; omega
  by_cases h0 : 0 ≤ from_
  · obtain ⟨k, rfl⟩ : ∃ k : Nat, from_ = k := ⟨from_.toNat, by omega⟩
    rw [if_pos h0]
    rw [Int.toNat_natCast] at hs ⊢
    have hs := hs h0
    have e1 : IntKind.wrap .i64 ((w.actors.getD k default).sent - notes.length) = (w.actors.getD k default).sent - notes.length := wrap_id (by unfold R64; omega)
    generalize hz : (w.actors.getD k default).sent - notes.length = first at e1 ⊢
    have hfirst : -9223372036854775808 ≤ first ∧ first + notes.length ≤ 9223372036854775807 := by omega
    refine Spec.of_run (fn := Try.f29) Try.func29 rfl rfl (by kernel_rfl) ?_
    repeat' (first | refine Run.ctl rfl ?_ | (refine Rg.op false tok rfl rfl rfl rfl ?_ ?_ ?_; (first | exact True.intro | omega | exact Nat.succ_pos _ | focus (simp; done) | focus (simp; omega) | decide +kernel); (first | exact trivial | exact rfl | exact .inl rfl | exact .inr rfl | focus ((repeat (first | exact trivial | (refine ⟨Stay.op false tok rfl rfl rfl ?_ (fun t ht => by cases ht; rfl), ?_⟩; (first | exact True.intro | omega | exact Nat.succ_pos _ | focus (simp; done) | focus (simp; omega) | decide +kernel)) | (refine ⟨Stay.op true tok rfl rfl rfl ?_ (fun t ht => by cases ht; rfl), ?_⟩; (first | exact True.intro | omega | exact Nat.succ_pos _ | focus (simp; done) | focus (simp; omega) | decide +kernel)) | refine ⟨Stay.skip rfl rfl (fun t ht => by cases ht; rfl), ?_⟩)); done))) | (refine Rg.op true tok rfl rfl rfl rfl ?_ ?_ ?_; (first | exact True.intro | omega | exact Nat.succ_pos _ | focus (simp; done) | focus (simp; omega) | decide +kernel); (first | exact trivial | exact rfl | exact .inl rfl | exact .inr rfl | focus ((repeat (first | exact trivial | (refine ⟨Stay.op false tok rfl rfl rfl ?_ (fun t ht => by cases ht; rfl), ?_⟩; (first | exact True.intro | omega | exact Nat.succ_pos _ | focus (simp; done) | focus (simp; omega) | decide +kernel)) | (refine ⟨Stay.op true tok rfl rfl rfl ?_ (fun t ht => by cases ht; rfl), ?_⟩; (first | exact True.intro | omega | exact Nat.succ_pos _ | focus (simp; done) | focus (simp; omega) | decide +kernel)) | refine ⟨Stay.skip rfl rfl (fun t ht => by cases ht; rfl), ?_⟩)); done))) | refine Rg.nil ?_ | refine Rg.skip rfl rfl rfl ?_ | refine Run.regR ?_ | refine Run.drwR mixed (by kernel_rfl) rfl ?_ | refine Run.condT rfl ?_ | refine Run.condF rfl ?_ | (refine Run.condB rfl (fun hc => ?_) (fun hc => ?_) <;> ((try simp only [cs] at hc); (first | ((exfalso; omega); done) | skip))) | ((fail_if_success (refine Rg.lit true rfl ?_)); (fail_if_success (refine Rg.lit false rfl ?_)); refine Rg.guard rfl (fun hc => ?_) (fun hc => ?_) <;> ((try simp only [cs] at hc); (first | ((exfalso; omega); done) | skip))))
    refine Run.loopN (ι := Nat × Wd) (fun x => ([(1, .ptr 0 0 0), (2, i64 (k : Nat)), (4, .ptr 2 0 0), (8, i64 first), (24, sl 3 eNt notes), (25, i64 notes.length), (26, i64 x.1)], wdSt x.2 ++ [pbox p])) (fun x => x.1 ≤ notes.length ∧ giveFrom p (k : Nat) (first + x.1) (notes.drop x.1) x.2 = giveFrom p (k : Nat) first notes w ∧ Room (notes.length - x.1) x.2 ∧ x.2.actors.length = w.actors.length) (fun x => notes.length - x.1) (0, w) ⟨rfl, rfl, rfl, (by show PV.atom (Value.int .i64 (IntKind.wrap .i64 ((w.actors.getD (0 + k) default).sent - notes.length))) = i64 first; rw [Nat.zero_add, hz, e1]; rfl), rfl, rfl, rfl, trivial⟩ rfl ⟨by omega, by simp, hr, rfl⟩ ?_
    rintro ⟨i, wi⟩ ⟨hi, hg, hri, hla⟩ back backR
    dsimp only at hi hg hri hla
    by_cases hlt : i < notes.length
    · rw [giveFrom_at p _ _ hlt] at hg
      have hm := hn _ (mem_getD hlt)
      have hri' : Room (notes.length - (i + 1) + 1) wi := by rw [show notes.length - (i + 1) + 1 = notes.length - i by omega]; exact hri
      have hrw : Room (notes.length - (i + 1)) wi := ⟨by have := hri'.mail; omega, hri'.args, fun l hl => by have := hri'.over l hl; omega⟩
      have hlm := lmin2 p.actors.length wi.actors.length
      generalize hnn : notes.getD i default = n at hg hm
      by_cases hin : 0 ≤ n.to_ ∧ n.to_ < p.actors.length ∧ n.to_ < wi.actors.length
      · obtain ⟨h1, h2, h3⟩ := hin
        have hpost := post_ p wi ⟨⟨(k : Nat), first + i, 0⟩, n⟩ n.to_.toNat (by dsimp only; omega) (by omega) (by omega) (by have := hri'.mail; omega) hri'.args hm (by have := hri'.over _ (mem_getD (l := wi.actors) (i := n.to_.toNat) (by omega)); omega)
        have hw1 : giveOne p (k : Nat) (first + i) n wi = postIn p wi ⟨⟨(k : Nat), first + i, 0⟩, n⟩ := by unfold giveOne; rw [if_pos ⟨h1, h2, h3⟩]
        have hr1 := Room.post (p := p) (m := ⟨⟨(k : Nat), first + i, 0⟩, n⟩) hri' hm (by dsimp only; omega)
        have hl1 := postIn_actors p wi ⟨⟨(k : Nat), first + i, 0⟩, n⟩
        rw [hw1] at hg
        generalize postIn p wi ⟨⟨(k : Nat), first + i, 0⟩, n⟩ = w1 at hpost hg hr1 hl1
        subst hnn
        repeat' (first | refine Run.ctl rfl ?_ | (refine Rg.op false tok rfl rfl rfl rfl ?_ ?_ ?_; (first | exact True.intro | omega | exact Nat.succ_pos _ | focus (simp; done) | focus (simp; omega) | decide +kernel); (first | exact trivial | exact rfl | exact .inl rfl | exact .inr rfl | focus ((repeat (first | exact trivial | (refine ⟨Stay.op false tok rfl rfl rfl ?_ (fun t ht => by cases ht; rfl), ?_⟩; (first | exact True.intro | omega | exact Nat.succ_pos _ | focus (simp; done) | focus (simp; omega) | decide +kernel)) | (refine ⟨Stay.op true tok rfl rfl rfl ?_ (fun t ht => by cases ht; rfl), ?_⟩; (first | exact True.intro | omega | exact Nat.succ_pos _ | focus (simp; done) | focus (simp; omega) | decide +kernel)) | refine ⟨Stay.skip rfl rfl (fun t ht => by cases ht; rfl), ?_⟩)); done))) | (refine Rg.op true tok rfl rfl rfl rfl ?_ ?_ ?_; (first | exact True.intro | omega | exact Nat.succ_pos _ | focus (simp; done) | focus (simp; omega) | decide +kernel); (first | exact trivial | exact rfl | exact .inl rfl | exact .inr rfl | focus ((repeat (first | exact trivial | (refine ⟨Stay.op false tok rfl rfl rfl ?_ (fun t ht => by cases ht; rfl), ?_⟩; (first | exact True.intro | omega | exact Nat.succ_pos _ | focus (simp; done) | focus (simp; omega) | decide +kernel)) | (refine ⟨Stay.op true tok rfl rfl rfl ?_ (fun t ht => by cases ht; rfl), ?_⟩; (first | exact True.intro | omega | exact Nat.succ_pos _ | focus (simp; done) | focus (simp; omega) | decide +kernel)) | refine ⟨Stay.skip rfl rfl (fun t ht => by cases ht; rfl), ?_⟩)); done))) | refine Rg.nil ?_ | refine Rg.skip rfl rfl rfl ?_ | refine Run.regR ?_ | refine Run.drwR mixed (by kernel_rfl) rfl ?_ | refine Run.condT rfl ?_ | refine Run.condF rfl ?_ | (refine Run.condB rfl (fun hc => ?_) (fun hc => ?_) <;> ((try simp only [cs] at hc); (first | ((exfalso; omega); done) | skip))) | ((fail_if_success (refine Rg.lit true rfl ?_)); (fail_if_success (refine Rg.lit false rfl ?_)); refine Rg.guard rfl (fun hc => ?_) (fun hc => ?_) <;> ((try simp only [cs] at hc); (first | ((exfalso; omega); done) | skip))))
        refine Rg.own hpost [0, 1] rfl rfl rfl rfl rfl rfl ⟨⟨_, rfl, rfl, rfl, rfl, rfl, fun k hk => ⟨.slcN rfl rfl rfl, .cl rfl, .cl rfl, .cl rfl, .cl rfl, .cl rfl, trivial⟩⟩, ⟨_, rfl, rfl, rfl, rfl, rfl, fun k hk => .ofEq rfl rfl⟩, trivial⟩ ⟨.cl rfl, .ptrN rfl rfl, .cl rfl, trivial⟩ rfl rfl trivial ?_
        repeat' (first | refine Run.ctl rfl ?_ | (refine Rg.op false tok rfl rfl rfl rfl ?_ ?_ ?_; (first | exact True.intro | omega | exact Nat.succ_pos _ | focus (simp; done) | focus (simp; omega) | decide +kernel); (first | exact trivial | exact rfl | exact .inl rfl | exact .inr rfl | focus ((repeat (first | exact trivial | (refine ⟨Stay.op false tok rfl rfl rfl ?_ (fun t ht => by cases ht; rfl), ?_⟩; (first | exact True.intro | omega | exact Nat.succ_pos _ | focus (simp; done) | focus (simp; omega) | decide +kernel)) | (refine ⟨Stay.op true tok rfl rfl rfl ?_ (fun t ht => by cases ht; rfl), ?_⟩; (first | exact True.intro | omega | exact Nat.succ_pos _ | focus (simp; done) | focus (simp; omega) | decide +kernel)) | refine ⟨Stay.skip rfl rfl (fun t ht => by cases ht; rfl), ?_⟩)); done))) | (refine Rg.op true tok rfl rfl rfl rfl ?_ ?_ ?_; (first | exact True.intro | omega | exact Nat.succ_pos _ | focus (simp; done) | focus (simp; omega) | decide +kernel); (first | exact trivial | exact rfl | exact .inl rfl | exact .inr rfl | focus ((repeat (first | exact trivial | (refine ⟨Stay.op false tok rfl rfl rfl ?_ (fun t ht => by cases ht; rfl), ?_⟩; (first | exact True.intro | omega | exact Nat.succ_pos _ | focus (simp; done) | focus (simp; omega) | decide +kernel)) | (refine ⟨Stay.op true tok rfl rfl rfl ?_ (fun t ht => by cases ht; rfl), ?_⟩; (first | exact True.intro | omega | exact Nat.succ_pos _ | focus (simp; done) | focus (simp; omega) | decide +kernel)) | refine ⟨Stay.skip rfl rfl (fun t ht => by cases ht; rfl), ?_⟩)); done))) | refine Rg.nil ?_ | refine Rg.skip rfl rfl rfl ?_ | refine Run.regR ?_ | refine Run.drwR mixed (by kernel_rfl) rfl ?_ | refine Run.condT rfl ?_ | refine Run.condF rfl ?_ | (refine Run.condB rfl (fun hc => ?_) (fun hc => ?_) <;> ((try simp only [cs] at hc); (first | ((exfalso; omega); done) | skip))) | ((fail_if_success (refine Rg.lit true rfl ?_)); (fail_if_success (refine Rg.lit false rfl ?_)); refine Rg.guard rfl (fun hc => ?_) (fun hc => ?_) <;> ((try simp only [cs] at hc); (first | ((exfalso; omega); done) | skip))))
        exact backR [0, 1, 2] (i + 1, w1) _ _ ⟨hlt, hg, hr1, by dsimp only; omega⟩ (by dsimp only; omega) rfl ⟨⟨_, rfl, rfl, rfl, rfl, rfl, fun k hk => ⟨.slcN rfl rfl rfl, .cl rfl, .cl rfl, .cl rfl, .cl rfl, .cl rfl, trivial⟩⟩, ⟨_, rfl, rfl, rfl, rfl, rfl, fun k hk => .ofEq rfl rfl⟩, ⟨_, rfl, rfl, rfl, rfl, rfl, fun k hk => .ofEq rfl rfl⟩, trivial⟩ ⟨.ptrN rfl rfl, .cl rfl, .ptrN rfl rfl, .cl rfl, .cl rfl, .cl rfl, .cl rfl, trivial⟩
      · have hw1 : giveOne p (k : Nat) (first + i) n wi = wi := by unfold giveOne; rw [if_neg hin]
        rw [hw1] at hg
        subst hnn
        repeat' (first | refine Run.ctl rfl ?_ | (refine Rg.op false tok rfl rfl rfl rfl ?_ ?_ ?_; (first | exact True.intro | omega | exact Nat.succ_pos _ | focus (simp; done) | focus (simp; omega) | decide +kernel); (first | exact trivial | exact rfl | exact .inl rfl | exact .inr rfl | focus ((repeat (first | exact trivial | (refine ⟨Stay.op false tok rfl rfl rfl ?_ (fun t ht => by cases ht; rfl), ?_⟩; (first | exact True.intro | omega | exact Nat.succ_pos _ | focus (simp; done) | focus (simp; omega) | decide +kernel)) | (refine ⟨Stay.op true tok rfl rfl rfl ?_ (fun t ht => by cases ht; rfl), ?_⟩; (first | exact True.intro | omega | exact Nat.succ_pos _ | focus (simp; done) | focus (simp; omega) | decide +kernel)) | refine ⟨Stay.skip rfl rfl (fun t ht => by cases ht; rfl), ?_⟩)); done))) | (refine Rg.op true tok rfl rfl rfl rfl ?_ ?_ ?_; (first | exact True.intro | omega | exact Nat.succ_pos _ | focus (simp; done) | focus (simp; omega) | decide +kernel); (first | exact trivial | exact rfl | exact .inl rfl | exact .inr rfl | focus ((repeat (first | exact trivial | (refine ⟨Stay.op false tok rfl rfl rfl ?_ (fun t ht => by cases ht; rfl), ?_⟩; (first | exact True.intro | omega | exact Nat.succ_pos _ | focus (simp; done) | focus (simp; omega) | decide +kernel)) | (refine ⟨Stay.op true tok rfl rfl rfl ?_ (fun t ht => by cases ht; rfl), ?_⟩; (first | exact True.intro | omega | exact Nat.succ_pos _ | focus (simp; done) | focus (simp; omega) | decide +kernel)) | refine ⟨Stay.skip rfl rfl (fun t ht => by cases ht; rfl), ?_⟩)); done))) | refine Rg.nil ?_ | refine Rg.skip rfl rfl rfl ?_ | refine Run.regR ?_ | refine Run.drwR mixed (by kernel_rfl) rfl ?_ | refine Run.condT rfl ?_ | refine Run.condF rfl ?_ | (refine Run.condB rfl (fun hc => ?_) (fun hc => ?_) <;> ((try simp only [cs] at hc); (first | ((exfalso; omega); done) | skip))) | ((fail_if_success (refine Rg.lit true rfl ?_)); (fail_if_success (refine Rg.lit false rfl ?_)); refine Rg.guard rfl (fun hc => ?_) (fun hc => ?_) <;> ((try simp only [cs] at hc); (first | ((exfalso; omega); done) | skip))))
        all_goals exact backR [0, 1, 2] (i + 1, wi) _ _ ⟨hlt, hg, hrw, hla⟩ (by dsimp only; omega) rfl ⟨⟨_, rfl, rfl, rfl, rfl, rfl, fun k hk => ⟨.slcN rfl rfl rfl, .cl rfl, .cl rfl, .cl rfl, .cl rfl, .cl rfl, trivial⟩⟩, ⟨_, rfl, rfl, rfl, rfl, rfl, fun k hk => .ofEq rfl rfl⟩, ⟨_, rfl, rfl, rfl, rfl, rfl, fun k hk => .ofEq rfl rfl⟩, trivial⟩ ⟨.ptrN rfl rfl, .cl rfl, .ptrN rfl rfl, .cl rfl, .cl rfl, .cl rfl, .cl rfl, trivial⟩
    · obtain rfl : i = notes.length := by omega
      rw [List.drop_length] at hg
      rw [← hg]
      repeat' (first | refine Run.ctl rfl ?_ | (refine Rg.op false tok rfl rfl rfl rfl ?_ ?_ ?_; (first | exact True.intro | omega | exact Nat.succ_pos _ | focus (simp; done) | focus (simp; omega) | decide +kernel); (first | exact trivial | exact rfl | exact .inl rfl | exact .inr rfl | focus ((repeat (first | exact trivial | (refine ⟨Stay.op false tok rfl rfl rfl ?_ (fun t ht => by cases ht; rfl), ?_⟩; (first | exact True.intro | omega | exact Nat.succ_pos _ | focus (simp; done) | focus (simp; omega) | decide +kernel)) | (refine ⟨Stay.op true tok rfl rfl rfl ?_ (fun t ht => by cases ht; rfl), ?_⟩; (first | exact True.intro | omega | exact Nat.succ_pos _ | focus (simp; done) | focus (simp; omega) | decide +kernel)) | refine ⟨Stay.skip rfl rfl (fun t ht => by cases ht; rfl), ?_⟩)); done))) | (refine Rg.op true tok rfl rfl rfl rfl ?_ ?_ ?_; (first | exact True.intro | omega | exact Nat.succ_pos _ | focus (simp; done) | focus (simp; omega) | decide +kernel); (first | exact trivial | exact rfl | exact .inl rfl | exact .inr rfl | focus ((repeat (first | exact trivial | (refine ⟨Stay.op false tok rfl rfl rfl ?_ (fun t ht => by cases ht; rfl), ?_⟩; (first | exact True.intro | omega | exact Nat.succ_pos _ | focus (simp; done) | focus (simp; omega) | decide +kernel)) | (refine ⟨Stay.op true tok rfl rfl rfl ?_ (fun t ht => by cases ht; rfl), ?_⟩; (first | exact True.intro | omega | exact Nat.succ_pos _ | focus (simp; done) | focus (simp; omega) | decide +kernel)) | refine ⟨Stay.skip rfl rfl (fun t ht => by cases ht; rfl), ?_⟩)); done))) | refine Rg.nil ?_ | refine Rg.skip rfl rfl rfl ?_ | refine Run.regR ?_ | refine Run.drwR mixed (by kernel_rfl) rfl ?_ | refine Run.condT rfl ?_ | refine Run.condF rfl ?_ | (refine Run.condB rfl (fun hc => ?_) (fun hc => ?_) <;> ((try simp only [cs] at hc); (first | ((exfalso; omega); done) | skip))) | ((fail_if_success (refine Rg.lit true rfl ?_)); (fail_if_success (refine Rg.lit false rfl ?_)); refine Rg.guard rfl (fun hc => ?_) (fun hc => ?_) <;> ((try simp only [cs] at hc); (first | ((exfalso; omega); done) | skip))))
      refine Run.renumL [0, 1] (wdSt wi) [] rfl rfl rfl rfl ⟨⟨_, rfl, rfl, rfl, rfl, rfl, fun k hk => ⟨.slcN rfl rfl rfl, .cl rfl, .cl rfl, .cl rfl, .cl rfl, .cl rfl, trivial⟩⟩, ⟨_, rfl, rfl, rfl, rfl, rfl, fun k hk => .ofEq rfl rfl⟩, trivial⟩ trivial ?_
      (first | refine Run.ret tok Try.func29 rfl ?_ | refine Run.fall tok Try.func29 rfl ?_)
      exact ⟨rfl, rfl⟩
  · rw [if_neg h0]
    obtain ⟨first, hz⟩ : ∃ z : Int, z = 0 := ⟨0, rfl⟩
    have hfirst : -9223372036854775808 ≤ first ∧ first + notes.length ≤ 9223372036854775807 := by omega
    rw [← hz]
    refine Spec.of_run (fn := Try.f29) Try.func29 rfl rfl (by kernel_rfl) ?_
    repeat' (first | refine Run.ctl rfl ?_ | (refine Rg.op false tok rfl rfl rfl rfl ?_ ?_ ?_; (first | exact True.intro | omega | exact Nat.succ_pos _ | focus (simp; done) | focus (simp; omega) | decide +kernel); (first | exact trivial | exact rfl | exact .inl rfl | exact .inr rfl | focus ((repeat (first | exact trivial | (refine ⟨Stay.op false tok rfl rfl rfl ?_ (fun t ht => by cases ht; rfl), ?_⟩; (first | exact True.intro | omega | exact Nat.succ_pos _ | focus (simp; done) | focus (simp; omega) | decide +kernel)) | (refine ⟨Stay.op true tok rfl rfl rfl ?_ (fun t ht => by cases ht; rfl), ?_⟩; (first | exact True.intro | omega | exact Nat.succ_pos _ | focus (simp; done) | focus (simp; omega) | decide +kernel)) | refine ⟨Stay.skip rfl rfl (fun t ht => by cases ht; rfl), ?_⟩)); done))) | (refine Rg.op true tok rfl rfl rfl rfl ?_ ?_ ?_; (first | exact True.intro | omega | exact Nat.succ_pos _ | focus (simp; done) | focus (simp; omega) | decide +kernel); (first | exact trivial | exact rfl | exact .inl rfl | exact .inr rfl | focus ((repeat (first | exact trivial | (refine ⟨Stay.op false tok rfl rfl rfl ?_ (fun t ht => by cases ht; rfl), ?_⟩; (first | exact True.intro | omega | exact Nat.succ_pos _ | focus (simp; done) | focus (simp; omega) | decide +kernel)) | (refine ⟨Stay.op true tok rfl rfl rfl ?_ (fun t ht => by cases ht; rfl), ?_⟩; (first | exact True.intro | omega | exact Nat.succ_pos _ | focus (simp; done) | focus (simp; omega) | decide +kernel)) | refine ⟨Stay.skip rfl rfl (fun t ht => by cases ht; rfl), ?_⟩)); done))) | refine Rg.nil ?_ | refine Rg.skip rfl rfl rfl ?_ | refine Run.regR ?_ | refine Run.drwR mixed (by kernel_rfl) rfl ?_ | refine Run.condT rfl ?_ | refine Run.condF rfl ?_ | (refine Run.condB rfl (fun hc => ?_) (fun hc => ?_) <;> ((try simp only [cs] at hc); (first | ((exfalso; omega); done) | skip))) | ((fail_if_success (refine Rg.lit true rfl ?_)); (fail_if_success (refine Rg.lit false rfl ?_)); refine Rg.guard rfl (fun hc => ?_) (fun hc => ?_) <;> ((try simp only [cs] at hc); (first | ((exfalso; omega); done) | skip))))
    refine Run.loopN (ι := Nat × Wd) (fun x => ([(1, .ptr 0 0 0), (2, i64 from_), (4, .ptr 2 0 0), (8, i64 first), (24, sl 3 eNt notes), (25, i64 notes.length), (26, i64 x.1)], wdSt x.2 ++ [pbox p])) (fun x => x.1 ≤ notes.length ∧ giveFrom p from_ (first + x.1) (notes.drop x.1) x.2 = giveFrom p from_ first notes w ∧ Room (notes.length - x.1) x.2 ∧ x.2.actors.length = w.actors.length) (fun x => notes.length - x.1) (0, w) ⟨rfl, rfl, rfl, (by rw [hz]; rfl), rfl, rfl, rfl, trivial⟩ rfl ⟨by omega, by simp, hr, rfl⟩ ?_
    rintro ⟨i, wi⟩ ⟨hi, hg, hri, hla⟩ back backR
    dsimp only at hi hg hri hla
    by_cases hlt : i < notes.length
    · rw [giveFrom_at p _ _ hlt] at hg
      have hm := hn _ (mem_getD hlt)
      have hri' : Room (notes.length - (i + 1) + 1) wi := by rw [show notes.length - (i + 1) + 1 = notes.length - i by omega]; exact hri
      have hrw : Room (notes.length - (i + 1)) wi := ⟨by have := hri'.mail; omega, hri'.args, fun l hl => by have := hri'.over l hl; omega⟩
      have hlm := lmin2 p.actors.length wi.actors.length
      generalize hnn : notes.getD i default = n at hg hm
      by_cases hin : 0 ≤ n.to_ ∧ n.to_ < p.actors.length ∧ n.to_ < wi.actors.length
      · obtain ⟨h1, h2, h3⟩ := hin
        have hpost := post_ p wi ⟨⟨from_, first + i, 0⟩, n⟩ n.to_.toNat (by dsimp only; omega) (by omega) (by omega) (by have := hri'.mail; omega) hri'.args hm (by have := hri'.over _ (mem_getD (l := wi.actors) (i := n.to_.toNat) (by omega)); omega)
        have hw1 : giveOne p from_ (first + i) n wi = postIn p wi ⟨⟨from_, first + i, 0⟩, n⟩ := by unfold giveOne; rw [if_pos ⟨h1, h2, h3⟩]
        have hr1 := Room.post (p := p) (m := ⟨⟨from_, first + i, 0⟩, n⟩) hri' hm (by dsimp only; omega)
        have hl1 := postIn_actors p wi ⟨⟨from_, first + i, 0⟩, n⟩
        rw [hw1] at hg
        generalize postIn p wi ⟨⟨from_, first + i, 0⟩, n⟩ = w1 at hpost hg hr1 hl1
        subst hnn
        repeat' (first | refine Run.ctl rfl ?_ | (refine Rg.op false tok rfl rfl rfl rfl ?_ ?_ ?_; (first | exact True.intro | omega | exact Nat.succ_pos _ | focus (simp; done) | focus (simp; omega) | decide +kernel); (first | exact trivial | exact rfl | exact .inl rfl | exact .inr rfl | focus ((repeat (first | exact trivial | (refine ⟨Stay.op false tok rfl rfl rfl ?_ (fun t ht => by cases ht; rfl), ?_⟩; (first | exact True.intro | omega | exact Nat.succ_pos _ | focus (simp; done) | focus (simp; omega) | decide +kernel)) | (refine ⟨Stay.op true tok rfl rfl rfl ?_ (fun t ht => by cases ht; rfl), ?_⟩; (first | exact True.intro | omega | exact Nat.succ_pos _ | focus (simp; done) | focus (simp; omega) | decide +kernel)) | refine ⟨Stay.skip rfl rfl (fun t ht => by cases ht; rfl), ?_⟩)); done))) | (refine Rg.op true tok rfl rfl rfl rfl ?_ ?_ ?_; (first | exact True.intro | omega | exact Nat.succ_pos _ | focus (simp; done) | focus (simp; omega) | decide +kernel); (first | exact trivial | exact rfl | exact .inl rfl | exact .inr rfl | focus ((repeat (first | exact trivial | (refine ⟨Stay.op false tok rfl rfl rfl ?_ (fun t ht => by cases ht; rfl), ?_⟩; (first | exact True.intro | omega | exact Nat.succ_pos _ | focus (simp; done) | focus (simp; omega) | decide +kernel)) | (refine ⟨Stay.op true tok rfl rfl rfl ?_ (fun t ht => by cases ht; rfl), ?_⟩; (first | exact True.intro | omega | exact Nat.succ_pos _ | focus (simp; done) | focus (simp; omega) | decide +kernel)) | refine ⟨Stay.skip rfl rfl (fun t ht => by cases ht; rfl), ?_⟩)); done))) | refine Rg.nil ?_ | refine Rg.skip rfl rfl rfl ?_ | refine Run.regR ?_ | refine Run.drwR mixed (by kernel_rfl) rfl ?_ | refine Run.condT rfl ?_ | refine Run.condF rfl ?_ | (refine Run.condB rfl (fun hc => ?_) (fun hc => ?_) <;> ((try simp only [cs] at hc); (first | ((exfalso; omega); done) | skip))) | ((fail_if_success (refine Rg.lit true rfl ?_)); (fail_if_success (refine Rg.lit false rfl ?_)); refine Rg.guard rfl (fun hc => ?_) (fun hc => ?_) <;> ((try simp only [cs] at hc); (first | ((exfalso; omega); done) | skip))))
        refine Rg.own hpost [0, 1] rfl rfl rfl rfl rfl rfl ⟨⟨_, rfl, rfl, rfl, rfl, rfl, fun k hk => ⟨.slcN rfl rfl rfl, .cl rfl, .cl rfl, .cl rfl, .cl rfl, .cl rfl, trivial⟩⟩, ⟨_, rfl, rfl, rfl, rfl, rfl, fun k hk => .ofEq rfl rfl⟩, trivial⟩ ⟨.cl rfl, .ptrN rfl rfl, .cl rfl, trivial⟩ rfl rfl trivial ?_
        repeat' (first | refine Run.ctl rfl ?_ | (refine Rg.op false tok rfl rfl rfl rfl ?_ ?_ ?_; (first | exact True.intro | omega | exact Nat.succ_pos _ | focus (simp; done) | focus (simp; omega) | decide +kernel); (first | exact trivial | exact rfl | exact .inl rfl | exact .inr rfl | focus ((repeat (first | exact trivial | (refine ⟨Stay.op false tok rfl rfl rfl ?_ (fun t ht => by cases ht; rfl), ?_⟩; (first | exact True.intro | omega | exact Nat.succ_pos _ | focus (simp; done) | focus (simp; omega) | decide +kernel)) | (refine ⟨Stay.op true tok rfl rfl rfl ?_ (fun t ht => by cases ht; rfl), ?_⟩; (first | exact True.intro | omega | exact Nat.succ_pos _ | focus (simp; done) | focus (simp; omega) | decide +kernel)) | refine ⟨Stay.skip rfl rfl (fun t ht => by cases ht; rfl), ?_⟩)); done))) | (refine Rg.op true tok rfl rfl rfl rfl ?_ ?_ ?_; (first | exact True.intro | omega | exact Nat.succ_pos _ | focus (simp; done) | focus (simp; omega) | decide +kernel); (first | exact trivial | exact rfl | exact .inl rfl | exact .inr rfl | focus ((repeat (first | exact trivial | (refine ⟨Stay.op false tok rfl rfl rfl ?_ (fun t ht => by cases ht; rfl), ?_⟩; (first | exact True.intro | omega | exact Nat.succ_pos _ | focus (simp; done) | focus (simp; omega) | decide +kernel)) | (refine ⟨Stay.op true tok rfl rfl rfl ?_ (fun t ht => by cases ht; rfl), ?_⟩; (first | exact True.intro | omega | exact Nat.succ_pos _ | focus (simp; done) | focus (simp; omega) | decide +kernel)) | refine ⟨Stay.skip rfl rfl (fun t ht => by cases ht; rfl), ?_⟩)); done))) | refine Rg.nil ?_ | refine Rg.skip rfl rfl rfl ?_ | refine Run.regR ?_ | refine Run.drwR mixed (by kernel_rfl) rfl ?_ | refine Run.condT rfl ?_ | refine Run.condF rfl ?_ | (refine Run.condB rfl (fun hc => ?_) (fun hc => ?_) <;> ((try simp only [cs] at hc); (first | ((exfalso; omega); done) | skip))) | ((fail_if_success (refine Rg.lit true rfl ?_)); (fail_if_success (refine Rg.lit false rfl ?_)); refine Rg.guard rfl (fun hc => ?_) (fun hc => ?_) <;> ((try simp only [cs] at hc); (first | ((exfalso; omega); done) | skip))))
        exact backR [0, 1, 2] (i + 1, w1) _ _ ⟨hlt, hg, hr1, by dsimp only; omega⟩ (by dsimp only; omega) rfl ⟨⟨_, rfl, rfl, rfl, rfl, rfl, fun k hk => ⟨.slcN rfl rfl rfl, .cl rfl, .cl rfl, .cl rfl, .cl rfl, .cl rfl, trivial⟩⟩, ⟨_, rfl, rfl, rfl, rfl, rfl, fun k hk => .ofEq rfl rfl⟩, ⟨_, rfl, rfl, rfl, rfl, rfl, fun k hk => .ofEq rfl rfl⟩, trivial⟩ ⟨.ptrN rfl rfl, .cl rfl, .ptrN rfl rfl, .cl rfl, .cl rfl, .cl rfl, .cl rfl, trivial⟩
      · have hw1 : giveOne p from_ (first + i) n wi = wi := by unfold giveOne; rw [if_neg hin]
        rw [hw1] at hg
        subst hnn
        repeat' (first | refine Run.ctl rfl ?_ | (refine Rg.op false tok rfl rfl rfl rfl ?_ ?_ ?_; (first | exact True.intro | omega | exact Nat.succ_pos _ | focus (simp; done) | focus (simp; omega) | decide +kernel); (first | exact trivial | exact rfl | exact .inl rfl | exact .inr rfl | focus ((repeat (first | exact trivial | (refine ⟨Stay.op false tok rfl rfl rfl ?_ (fun t ht => by cases ht; rfl), ?_⟩; (first | exact True.intro | omega | exact Nat.succ_pos _ | focus (simp; done) | focus (simp; omega) | decide +kernel)) | (refine ⟨Stay.op true tok rfl rfl rfl ?_ (fun t ht => by cases ht; rfl), ?_⟩; (first | exact True.intro | omega | exact Nat.succ_pos _ | focus (simp; done) | focus (simp; omega) | decide +kernel)) | refine ⟨Stay.skip rfl rfl (fun t ht => by cases ht; rfl), ?_⟩)); done))) | (refine Rg.op true tok rfl rfl rfl rfl ?_ ?_ ?_; (first | exact True.intro | omega | exact Nat.succ_pos _ | focus (simp; done) | focus (simp; omega) | decide +kernel); (first | exact trivial | exact rfl | exact .inl rfl | exact .inr rfl | focus ((repeat (first | exact trivial | (refine ⟨Stay.op false tok rfl rfl rfl ?_ (fun t ht => by cases ht; rfl), ?_⟩; (first | exact True.intro | omega | exact Nat.succ_pos _ | focus (simp; done) | focus (simp; omega) | decide +kernel)) | (refine ⟨Stay.op true tok rfl rfl rfl ?_ (fun t ht => by cases ht; rfl), ?_⟩; (first | exact True.intro | omega | exact Nat.succ_pos _ | focus (simp; done) | focus (simp; omega) | decide +kernel)) | refine ⟨Stay.skip rfl rfl (fun t ht => by cases ht; rfl), ?_⟩)); done))) | refine Rg.nil ?_ | refine Rg.skip rfl rfl rfl ?_ | refine Run.regR ?_ | refine Run.drwR mixed (by kernel_rfl) rfl ?_ | refine Run.condT rfl ?_ | refine Run.condF rfl ?_ | (refine Run.condB rfl (fun hc => ?_) (fun hc => ?_) <;> ((try simp only [cs] at hc); (first | ((exfalso; omega); done) | skip))) | ((fail_if_success (refine Rg.lit true rfl ?_)); (fail_if_success (refine Rg.lit false rfl ?_)); refine Rg.guard rfl (fun hc => ?_) (fun hc => ?_) <;> ((try simp only [cs] at hc); (first | ((exfalso; omega); done) | skip))))
        all_goals exact backR [0, 1, 2] (i + 1, wi) _ _ ⟨hlt, hg, hrw, hla⟩ (by dsimp only; omega) rfl ⟨⟨_, rfl, rfl, rfl, rfl, rfl, fun k hk => ⟨.slcN rfl rfl rfl, .cl rfl, .cl rfl, .cl rfl, .cl rfl, .cl rfl, trivial⟩⟩, ⟨_, rfl, rfl, rfl, rfl, rfl, fun k hk => .ofEq rfl rfl⟩, ⟨_, rfl, rfl, rfl, rfl, rfl, fun k hk => .ofEq rfl rfl⟩, trivial⟩ ⟨.ptrN rfl rfl, .cl rfl, .ptrN rfl rfl, .cl rfl, .cl rfl, .cl rfl, .cl rfl, trivial⟩
    · obtain rfl : i = notes.length := by omega
      rw [List.drop_length] at hg
      rw [← hg]
      repeat' (first | refine Run.ctl rfl ?_ | (refine Rg.op false tok rfl rfl rfl rfl ?_ ?_ ?_; (first | exact True.intro | omega | exact Nat.succ_pos _ | focus (simp; done) | focus (simp; omega) | decide +kernel); (first | exact trivial | exact rfl | exact .inl rfl | exact .inr rfl | focus ((repeat (first | exact trivial | (refine ⟨Stay.op false tok rfl rfl rfl ?_ (fun t ht => by cases ht; rfl), ?_⟩; (first | exact True.intro | omega | exact Nat.succ_pos _ | focus (simp; done) | focus (simp; omega) | decide +kernel)) | (refine ⟨Stay.op true tok rfl rfl rfl ?_ (fun t ht => by cases ht; rfl), ?_⟩; (first | exact True.intro | omega | exact Nat.succ_pos _ | focus (simp; done) | focus (simp; omega) | decide +kernel)) | refine ⟨Stay.skip rfl rfl (fun t ht => by cases ht; rfl), ?_⟩)); done))) | (refine Rg.op true tok rfl rfl rfl rfl ?_ ?_ ?_; (first | exact True.intro | omega | exact Nat.succ_pos _ | focus (simp; done) | focus (simp; omega) | decide +kernel); (first | exact trivial | exact rfl | exact .inl rfl | exact .inr rfl | focus ((repeat (first | exact trivial | (refine ⟨Stay.op false tok rfl rfl rfl ?_ (fun t ht => by cases ht; rfl), ?_⟩; (first | exact True.intro | omega | exact Nat.succ_pos _ | focus (simp; done) | focus (simp; omega) | decide +kernel)) | (refine ⟨Stay.op true tok rfl rfl rfl ?_ (fun t ht => by cases ht; rfl), ?_⟩; (first | exact True.intro | omega | exact Nat.succ_pos _ | focus (simp; done) | focus (simp; omega) | decide +kernel)) | refine ⟨Stay.skip rfl rfl (fun t ht => by cases ht; rfl), ?_⟩)); done))) | refine Rg.nil ?_ | refine Rg.skip rfl rfl rfl ?_ | refine Run.regR ?_ | refine Run.drwR mixed (by kernel_rfl) rfl ?_ | refine Run.condT rfl ?_ | refine Run.condF rfl ?_ | (refine Run.condB rfl (fun hc => ?_) (fun hc => ?_) <;> ((try simp only [cs] at hc); (first | ((exfalso; omega); done) | skip))) | ((fail_if_success (refine Rg.lit true rfl ?_)); (fail_if_success (refine Rg.lit false rfl ?_)); refine Rg.guard rfl (fun hc => ?_) (fun hc => ?_) <;> ((try simp only [cs] at hc); (first | ((exfalso; omega); done) | skip))))
      refine Run.renumL [0, 1] (wdSt wi) [] rfl rfl rfl rfl ⟨⟨_, rfl, rfl, rfl, rfl, rfl, fun k hk => ⟨.slcN rfl rfl rfl, .cl rfl, .cl rfl, .cl rfl, .cl rfl, .cl rfl, trivial⟩⟩, ⟨_, rfl, rfl, rfl, rfl, rfl, fun k hk => .ofEq rfl rfl⟩, trivial⟩ trivial ?_
      (first | refine Run.ret tok Try.func29 rfl ?_ | refine Run.fall tok Try.func29 rfl ?_)
      exact ⟨rfl, rfl⟩
end Go.Proofs.Ytlimecfjpfaljaa.W
end
section
/- Walks: slices.Repeat of one number. -/
set_option linter.unusedVariables false
set_option linter.unusedSimpArgs false
set_option linter.unusedSectionVars false
set_option pp.maxSteps 3000
set_option maxHeartbeats 1000000
namespace Go.Proofs.Ytlimecfjpfaljaa.W
open Go Go.Sy

abbrev u64 (n : Int) : PV := .atom (.int .u64 n)
theorem mul64_ (k : Nat) (hk : k < 101) : Pure Try.prog 94 [u64 1, u64 k] (.tup [u64 0, u64 k]) := by
  refine Pure.of_spec (Spec.of_run (fn := Try.f94) Try.func94 rfl rfl (by kernel_rfl) ?_) (by first | assumption | rfl | (split <;> rfl) | (split <;> split <;> rfl))
  repeat' (first | refine Run.ctl rfl ?_ | (refine Rg.op false tok rfl rfl rfl rfl ?_ ?_ ?_; (first | exact True.intro | omega | exact Nat.succ_pos _ | focus (simp; done) | focus (simp; omega) | decide +kernel); (first | exact trivial | exact rfl | exact .inl rfl | exact .inr rfl | focus ((repeat (first | exact trivial | (refine ⟨Stay.op false tok rfl rfl rfl ?_ (fun t ht => by cases ht; rfl), ?_⟩; (first | exact True.intro | omega | exact Nat.succ_pos _ | focus (simp; done) | focus (simp; omega) | decide +kernel)) | (refine ⟨Stay.op true tok rfl rfl rfl ?_ (fun t ht => by cases ht; rfl), ?_⟩; (first | exact True.intro | omega | exact Nat.succ_pos _ | focus (simp; done) | focus (simp; omega) | decide +kernel)) | refine ⟨Stay.skip rfl rfl (fun t ht => by cases ht; rfl), ?_⟩)); done))) | (refine Rg.op true tok rfl rfl rfl rfl ?_ ?_ ?_; (first | exact True.intro | omega | exact Nat.succ_pos _ | focus (simp; done) | focus (simp; omega) | decide +kernel); (first | exact trivial | exact rfl | exact .inl rfl | exact .inr rfl | focus ((repeat (first | exact trivial | (refine ⟨Stay.op false tok rfl rfl rfl ?_ (fun t ht => by cases ht; rfl), ?_⟩; (first | exact True.intro | omega | exact Nat.succ_pos _ | focus (simp; done) | focus (simp; omega) | decide +kernel)) | (refine ⟨Stay.op true tok rfl rfl rfl ?_ (fun t ht => by cases ht; rfl), ?_⟩; (first | exact True.intro | omega | exact Nat.succ_pos _ | focus (simp; done) | focus (simp; omega) | decide +kernel)) | refine ⟨Stay.skip rfl rfl (fun t ht => by cases ht; rfl), ?_⟩)); done))) | refine Rg.nil ?_ | refine Rg.skip rfl rfl rfl ?_ | refine Run.regR ?_ | refine Run.drwR mixed (by kernel_rfl) rfl ?_ | refine Run.condT rfl ?_ | refine Run.condF rfl ?_ | (refine Run.condB rfl (fun hc => ?_) (fun hc => ?_) <;> ((try simp only [cs] at hc))) | ((fail_if_success (refine Rg.lit true rfl ?_)); (fail_if_success (refine Rg.lit false rfl ?_)); refine Rg.guard rfl (fun hc => ?_) (fun hc => ?_) <;> ((try simp only [cs] at hc))))
  (first | refine Run.ret tok Try.func94 rfl ?_ | refine Run.fall tok Try.func94 rfl ?_)
  exact .tup' ⟨.ofInt (by revert k; decide +kernel), .ofInt (by revert k; decide +kernel), trivial⟩
theorem mul_ (k : Nat) (hk : k < 101) : Pure Try.prog 75 [u64 1, u64 k] (.tup [u64 0, u64 k]) := by
  refine Pure.of_spec (Spec.of_run (fn := Try.f75) Try.func75 rfl rfl (by kernel_rfl) ?_) (by first | assumption | rfl | (split <;> rfl) | (split <;> split <;> rfl))
  repeat' (first | refine Run.ctl rfl ?_ | (refine Rg.op false tok rfl rfl rfl rfl ?_ ?_ ?_; (first | exact True.intro | omega | exact Nat.succ_pos _ | focus (simp; done) | focus (simp; omega) | decide +kernel); (first | exact trivial | exact rfl | exact .inl rfl | exact .inr rfl | focus ((repeat (first | exact trivial | (refine ⟨Stay.op false tok rfl rfl rfl ?_ (fun t ht => by cases ht; rfl), ?_⟩; (first | exact True.intro | omega | exact Nat.succ_pos _ | focus (simp; done) | focus (simp; omega) | decide +kernel)) | (refine ⟨Stay.op true tok rfl rfl rfl ?_ (fun t ht => by cases ht; rfl), ?_⟩; (first | exact True.intro | omega | exact Nat.succ_pos _ | focus (simp; done) | focus (simp; omega) | decide +kernel)) | refine ⟨Stay.skip rfl rfl (fun t ht => by cases ht; rfl), ?_⟩)); done))) | refine Rg.call (mul64_ k hk) rfl rfl rfl rfl rfl ⟨⟨.refl _, .refl _, trivial⟩, rfl⟩ ?_ | (refine Rg.op true tok rfl rfl rfl rfl ?_ ?_ ?_; (first | exact True.intro | omega | exact Nat.succ_pos _ | focus (simp; done) | focus (simp; omega) | decide +kernel); (first | exact trivial | exact rfl | exact .inl rfl | exact .inr rfl | focus ((repeat (first | exact trivial | (refine ⟨Stay.op false tok rfl rfl rfl ?_ (fun t ht => by cases ht; rfl), ?_⟩; (first | exact True.intro | omega | exact Nat.succ_pos _ | focus (simp; done) | focus (simp; omega) | decide +kernel)) | (refine ⟨Stay.op true tok rfl rfl rfl ?_ (fun t ht => by cases ht; rfl), ?_⟩; (first | exact True.intro | omega | exact Nat.succ_pos _ | focus (simp; done) | focus (simp; omega) | decide +kernel)) | refine ⟨Stay.skip rfl rfl (fun t ht => by cases ht; rfl), ?_⟩)); done))) | refine Rg.nil ?_ | refine Rg.skip rfl rfl rfl ?_ | refine Run.regR ?_ | refine Run.drwR mixed (by kernel_rfl) rfl ?_ | refine Run.condT rfl ?_ | refine Run.condF rfl ?_ | (refine Run.condB rfl (fun hc => ?_) (fun hc => ?_) <;> ((try simp only [cs] at hc))) | ((fail_if_success (refine Rg.lit true rfl ?_)); (fail_if_success (refine Rg.lit false rfl ?_)); refine Rg.guard rfl (fun hc => ?_) (fun hc => ?_) <;> ((try simp only [cs] at hc))))
  (first | refine Run.ret tok Try.func75 rfl ?_ | refine Run.fall tok Try.func75 rfl ?_)
  exact .refl _
def rowI (l : List Int) : Option Blk := some ⟨3, 1, l.length, rows eInt l, false, false⟩
/-- So many of it, and zeros behind. -/
def repEl (x : Int) (n : Nat) : Nat → List PV := fun j => bif Nat.blt j n then eInt x else eInt 0
theorem repEl_in {x : Int} {n j : Nat} (h : j < n) : repEl x n j = eInt x := by unfold repEl; rw [show Nat.blt j n = true by rw [Nat.blt_eq]; exact h]; rfl
theorem repEl_out {x : Int} {n j : Nat} (h : ¬j < n) : repEl x n j = eInt 0 := by
  unfold repEl
  rw [show Nat.blt j n = false by rw [Bool.eq_false_iff]; intro hh; rw [Nat.blt_eq] at hh; exact h hh]; rfl
theorem repEl_cl (x : Int) (n j : Nat) : closedL (repEl x n j) = true := by unfold repEl; cases Nat.blt j n <;> rfl
theorem repEl_cp (x : Int) (n c : Nat) (hc : c ≤ n) (j : Nat) : cpEl n c (fun t => repEl x n t) (repEl x n) j = repEl x (n + c) j := by
  by_cases h : n ≤ j ∧ j < n + c
  · rw [cpEl_in h, repEl_in (by omega), repEl_in (by omega)]
  · rw [cpEl_out h]
    by_cases h2 : j < n
    · rw [repEl_in h2, repEl_in (by omega)]
    · rw [repEl_out h2, repEl_out (by omega)]
theorem repeat_ (x : Int) (k : Nat) (h0 : 0 < k) (hk : k < 101) : Own Try.prog 56 [.slc 0 0 1, i64 k] [rowI [x]] (.slc 1 0 k) [rowI [x], rowI (List.replicate k x)] := by
  have e1 : IntKind.wrap .u64 1 = 1 := by decide
  have e2 : ∀ k : Nat, k < 101 → IntKind.wrap .u64 k = k := by decide +kernel
  have e2 := e2 k hk
  have e3 : ∀ k : Nat, k < 101 → IntKind.wrap .i64 k = k := by decide +kernel
  have e3 := e3 k hk
  have hm : Pure Try.prog 75 [u64 1, u64 (IntKind.wrap .u64 k)] (.tup [u64 0, u64 k]) := by rw [e2]; exact mul_ k hk
  refine Spec.of_run (fn := Try.f56) Try.func56 rfl rfl (by kernel_rfl) ?_
  repeat' (first | refine Rg.any rfl rfl rfl (fun _ hq => G_make tok (n := k) rfl rfl rfl rfl rfl rfl rfl rfl rfl (by omega) (by omega) (by dsimp only; omega) (by omega) (by omega) hq) (by first | exact trivial | exact rfl | exact .inl rfl | exact .inr rfl | focus ((repeat (first | exact trivial | (refine ⟨Stay.op false tok rfl rfl rfl ?_ (fun t ht => by cases ht; rfl), ?_⟩; (first | exact True.intro | omega | exact Nat.succ_pos _ | focus (simp; done) | focus (simp; omega) | decide +kernel)) | (refine ⟨Stay.op true tok rfl rfl rfl ?_ (fun t ht => by cases ht; rfl), ?_⟩; (first | exact True.intro | omega | exact Nat.succ_pos _ | focus (simp; done) | focus (simp; omega) | decide +kernel)) | refine ⟨Stay.skip rfl rfl (fun t ht => by cases ht; rfl), ?_⟩)); done)) ?_ | refine Run.ctl rfl ?_ | (refine Rg.op false tok rfl rfl rfl rfl ?_ ?_ ?_; (first | exact True.intro | omega | exact Nat.succ_pos _ | focus (simp; done) | focus (simp; omega) | decide +kernel); (first | exact trivial | exact rfl | exact .inl rfl | exact .inr rfl | focus ((repeat (first | exact trivial | (refine ⟨Stay.op false tok rfl rfl rfl ?_ (fun t ht => by cases ht; rfl), ?_⟩; (first | exact True.intro | omega | exact Nat.succ_pos _ | focus (simp; done) | focus (simp; omega) | decide +kernel)) | (refine ⟨Stay.op true tok rfl rfl rfl ?_ (fun t ht => by cases ht; rfl), ?_⟩; (first | exact True.intro | omega | exact Nat.succ_pos _ | focus (simp; done) | focus (simp; omega) | decide +kernel)) | refine ⟨Stay.skip rfl rfl (fun t ht => by cases ht; rfl), ?_⟩)); done))) | refine Rg.call (hm) rfl rfl rfl rfl rfl ⟨⟨.refl _, .refl _, trivial⟩, rfl⟩ ?_ | (refine Rg.op true tok rfl rfl rfl rfl ?_ ?_ ?_; (first | exact True.intro | omega | exact Nat.succ_pos _ | focus (simp; done) | focus (simp; omega) | decide +kernel); (first | exact trivial | exact rfl | exact .inl rfl | exact .inr rfl | focus ((repeat (first | exact trivial | (refine ⟨Stay.op false tok rfl rfl rfl ?_ (fun t ht => by cases ht; rfl), ?_⟩; (first | exact True.intro | omega | exact Nat.succ_pos _ | focus (simp; done) | focus (simp; omega) | decide +kernel)) | (refine ⟨Stay.op true tok rfl rfl rfl ?_ (fun t ht => by cases ht; rfl), ?_⟩; (first | exact True.intro | omega | exact Nat.succ_pos _ | focus (simp; done) | focus (simp; omega) | decide +kernel)) | refine ⟨Stay.skip rfl rfl (fun t ht => by cases ht; rfl), ?_⟩)); done))) | refine Rg.nil ?_ | refine Rg.skip rfl rfl rfl ?_ | refine Run.regR ?_ | refine Run.drwR mixed (by kernel_rfl) rfl ?_ | refine Run.condT rfl ?_ | refine Run.condF rfl ?_ | (refine Run.condB rfl (fun hc => ?_) (fun hc => ?_) <;> ((try simp only [cs] at hc); (first | ((exfalso; omega); done) | skip))) | ((fail_if_success (refine Rg.lit true rfl ?_)); (fail_if_success (refine Rg.lit false rfl ?_)); refine Rg.guard rfl (fun hc => ?_) (fun hc => ?_) <;> ((try simp only [cs] at hc); (first | ((exfalso; omega); done) | skip))))
  refine Rg.any rfl rfl rfl (fun _ hq => G_copyO tok 1 rfl rfl rfl rfl rfl rfl rfl rfl rfl rfl (by dsimp only; omega) (by simp) (by omega) hq) trivial ?_
  repeat' (first | refine Run.ctl rfl ?_ | (refine Rg.op false tok rfl rfl rfl rfl ?_ ?_ ?_; (first | exact True.intro | omega | exact Nat.succ_pos _ | focus (simp; done) | focus (simp; omega) | decide +kernel); (first | exact trivial | exact rfl | exact .inl rfl | exact .inr rfl | focus ((repeat (first | exact trivial | (refine ⟨Stay.op false tok rfl rfl rfl ?_ (fun t ht => by cases ht; rfl), ?_⟩; (first | exact True.intro | omega | exact Nat.succ_pos _ | focus (simp; done) | focus (simp; omega) | decide +kernel)) | (refine ⟨Stay.op true tok rfl rfl rfl ?_ (fun t ht => by cases ht; rfl), ?_⟩; (first | exact True.intro | omega | exact Nat.succ_pos _ | focus (simp; done) | focus (simp; omega) | decide +kernel)) | refine ⟨Stay.skip rfl rfl (fun t ht => by cases ht; rfl), ?_⟩)); done))) | (refine Rg.op true tok rfl rfl rfl rfl ?_ ?_ ?_; (first | exact True.intro | omega | exact Nat.succ_pos _ | focus (simp; done) | focus (simp; omega) | decide +kernel); (first | exact trivial | exact rfl | exact .inl rfl | exact .inr rfl | focus ((repeat (first | exact trivial | (refine ⟨Stay.op false tok rfl rfl rfl ?_ (fun t ht => by cases ht; rfl), ?_⟩; (first | exact True.intro | omega | exact Nat.succ_pos _ | focus (simp; done) | focus (simp; omega) | decide +kernel)) | (refine ⟨Stay.op true tok rfl rfl rfl ?_ (fun t ht => by cases ht; rfl), ?_⟩; (first | exact True.intro | omega | exact Nat.succ_pos _ | focus (simp; done) | focus (simp; omega) | decide +kernel)) | refine ⟨Stay.skip rfl rfl (fun t ht => by cases ht; rfl), ?_⟩)); done))) | refine Rg.nil ?_ | refine Rg.skip rfl rfl rfl ?_ | refine Run.regR ?_ | refine Run.drwR mixed (by kernel_rfl) rfl ?_ | refine Run.condT rfl ?_ | refine Run.condF rfl ?_ | (refine Run.condB rfl (fun hc => ?_) (fun hc => ?_) <;> ((try simp only [cs] at hc); (first | ((exfalso; omega); done) | skip))) | ((fail_if_success (refine Rg.lit true rfl ?_)); (fail_if_success (refine Rg.lit false rfl ?_)); refine Rg.guard rfl (fun hc => ?_) (fun hc => ?_) <;> ((try simp only [cs] at hc); (first | ((exfalso; omega); done) | skip))))
  refine Run.renumL [0, 1] [rowI [x], some ⟨3, 1, k, repEl x 1, false, false⟩] [(7, .slc 1 0 k), (8, i64 (1 : Nat))] rfl rfl rfl rfl ⟨⟨_, rfl, rfl, rfl, rfl, rfl, fun k hk => .ofEq rfl rfl⟩, ⟨_, rfl, rfl, rfl, rfl, rfl, fun j hj => .ofEq (by
    dsimp only
    by_cases h : 0 ≤ j ∧ j < 0 + 1
    · rw [cpEl_in h, repEl_in (by omega)]
      obtain rfl : j = 0 := by omega
      rfl
    · rw [cpEl_out h, repEl_out (by omega)]
      rfl) (repEl_cl _ _ _)⟩, trivial⟩ ⟨.slcN rfl rfl rfl, .cl rfl, trivial⟩ ?_
  refine Run.loopN (ι := Nat) (fun n => ([(7, .slc 1 0 k), (8, i64 n)], [rowI [x], some ⟨3, 1, k, repEl x n, false, false⟩])) (fun n => 1 ≤ n ∧ n ≤ k) (fun n => k - n) 1 ⟨rfl, rfl, trivial⟩ rfl ⟨by omega, by omega⟩ ?_
  rintro n ⟨h1, h2⟩ back backR
  by_cases hlt : n < k
  · repeat' (first | (refine Run.drwP [7, 9] [0, 1, 2, 3, 4, 5, 6, 7, 8, 9] [none, none, none, none, none, none, none, some [0], none, some []] mixed (by kernel_rfl) rfl ?_) | refine Run.ctl rfl ?_ | (refine Rg.op false tok rfl rfl rfl rfl ?_ ?_ ?_; (first | exact True.intro | omega | exact Nat.succ_pos _ | focus (simp; done) | focus (simp; omega) | decide +kernel); (first | exact trivial | exact rfl | exact .inl rfl | exact .inr rfl | focus ((repeat (first | exact trivial | (refine ⟨Stay.op false tok rfl rfl rfl ?_ (fun t ht => by cases ht; rfl), ?_⟩; (first | exact True.intro | omega | exact Nat.succ_pos _ | focus (simp; done) | focus (simp; omega) | decide +kernel)) | (refine ⟨Stay.op true tok rfl rfl rfl ?_ (fun t ht => by cases ht; rfl), ?_⟩; (first | exact True.intro | omega | exact Nat.succ_pos _ | focus (simp; done) | focus (simp; omega) | decide +kernel)) | refine ⟨Stay.skip rfl rfl (fun t ht => by cases ht; rfl), ?_⟩)); done))) | (refine Rg.op true tok rfl rfl rfl rfl ?_ ?_ ?_; (first | exact True.intro | omega | exact Nat.succ_pos _ | focus (simp; done) | focus (simp; omega) | decide +kernel); (first | exact trivial | exact rfl | exact .inl rfl | exact .inr rfl | focus ((repeat (first | exact trivial | (refine ⟨Stay.op false tok rfl rfl rfl ?_ (fun t ht => by cases ht; rfl), ?_⟩; (first | exact True.intro | omega | exact Nat.succ_pos _ | focus (simp; done) | focus (simp; omega) | decide +kernel)) | (refine ⟨Stay.op true tok rfl rfl rfl ?_ (fun t ht => by cases ht; rfl), ?_⟩; (first | exact True.intro | omega | exact Nat.succ_pos _ | focus (simp; done) | focus (simp; omega) | decide +kernel)) | refine ⟨Stay.skip rfl rfl (fun t ht => by cases ht; rfl), ?_⟩)); done))) | refine Rg.nil ?_ | refine Rg.skip rfl rfl rfl ?_ | refine Run.regR ?_ | refine Run.drwR mixed (by kernel_rfl) rfl ?_ | refine Run.condT rfl ?_ | refine Run.condF rfl ?_ | (refine Run.condB rfl (fun hc => ?_) (fun hc => ?_) <;> ((try simp only [cs] at hc); (first | ((exfalso; omega); done) | skip))) | ((fail_if_success (refine Rg.lit true rfl ?_)); (fail_if_success (refine Rg.lit false rfl ?_)); refine Rg.guard rfl (fun hc => ?_) (fun hc => ?_) <;> ((try simp only [cs] at hc); (first | ((exfalso; omega); done) | skip))))
    refine Rg.any rfl rfl rfl (fun _ hq => G_copyO tok (min n (k - n)) rfl rfl rfl rfl rfl rfl rfl rfl rfl rfl (by dsimp only; omega) (by dsimp only; omega) (by omega) hq) (by (first | exact trivial | exact rfl | exact .inl rfl | exact .inr rfl | focus ((repeat (first | exact trivial | (refine ⟨Stay.op false tok rfl rfl rfl ?_ (fun t ht => by cases ht; rfl), ?_⟩; (first | exact True.intro | omega | exact Nat.succ_pos _ | focus (simp; done) | focus (simp; omega) | decide +kernel)) | (refine ⟨Stay.op true tok rfl rfl rfl ?_ (fun t ht => by cases ht; rfl), ?_⟩; (first | exact True.intro | omega | exact Nat.succ_pos _ | focus (simp; done) | focus (simp; omega) | decide +kernel)) | refine ⟨Stay.skip rfl rfl (fun t ht => by cases ht; rfl), ?_⟩)); done))) ?_
    repeat' (first | refine Run.ctl rfl ?_ | (refine Rg.op false tok rfl rfl rfl rfl ?_ ?_ ?_; (first | exact True.intro | omega | exact Nat.succ_pos _ | focus (simp; done) | focus (simp; omega) | decide +kernel); (first | exact trivial | exact rfl | exact .inl rfl | exact .inr rfl | focus ((repeat (first | exact trivial | (refine ⟨Stay.op false tok rfl rfl rfl ?_ (fun t ht => by cases ht; rfl), ?_⟩; (first | exact True.intro | omega | exact Nat.succ_pos _ | focus (simp; done) | focus (simp; omega) | decide +kernel)) | (refine ⟨Stay.op true tok rfl rfl rfl ?_ (fun t ht => by cases ht; rfl), ?_⟩; (first | exact True.intro | omega | exact Nat.succ_pos _ | focus (simp; done) | focus (simp; omega) | decide +kernel)) | refine ⟨Stay.skip rfl rfl (fun t ht => by cases ht; rfl), ?_⟩)); done))) | (refine Rg.op true tok rfl rfl rfl rfl ?_ ?_ ?_; (first | exact True.intro | omega | exact Nat.succ_pos _ | focus (simp; done) | focus (simp; omega) | decide +kernel); (first | exact trivial | exact rfl | exact .inl rfl | exact .inr rfl | focus ((repeat (first | exact trivial | (refine ⟨Stay.op false tok rfl rfl rfl ?_ (fun t ht => by cases ht; rfl), ?_⟩; (first | exact True.intro | omega | exact Nat.succ_pos _ | focus (simp; done) | focus (simp; omega) | decide +kernel)) | (refine ⟨Stay.op true tok rfl rfl rfl ?_ (fun t ht => by cases ht; rfl), ?_⟩; (first | exact True.intro | omega | exact Nat.succ_pos _ | focus (simp; done) | focus (simp; omega) | decide +kernel)) | refine ⟨Stay.skip rfl rfl (fun t ht => by cases ht; rfl), ?_⟩)); done))) | refine Rg.nil ?_ | refine Rg.skip rfl rfl rfl ?_ | refine Run.regR ?_ | refine Run.drwR mixed (by kernel_rfl) rfl ?_ | refine Run.condT rfl ?_ | refine Run.condF rfl ?_ | (refine Run.condB rfl (fun hc => ?_) (fun hc => ?_) <;> ((try simp only [cs] at hc); (first | ((exfalso; omega); done) | skip))) | ((fail_if_success (refine Rg.lit true rfl ?_)); (fail_if_success (refine Rg.lit false rfl ?_)); refine Rg.guard rfl (fun hc => ?_) (fun hc => ?_) <;> ((try simp only [cs] at hc); (first | ((exfalso; omega); done) | skip))))
    refine backR [0, 1] (n + min n (k - n)) _ _ ⟨by omega, by omega⟩ (by omega) rfl ⟨⟨_, rfl, rfl, rfl, rfl, rfl, fun k hk => .ofEq rfl rfl⟩, ⟨_, rfl, rfl, rfl, rfl, rfl, fun j hj => .ofEq (by
      dsimp only
      simp only [Nat.zero_add, Int.toNat_natCast, show Int.toNat 0 = 0 from rfl]
      exact repEl_cp x n _ (by omega) j) (repEl_cl _ _ _)⟩, trivial⟩ ⟨.slcN rfl rfl rfl, .cl rfl, trivial⟩
  · obtain rfl : n = k := by omega
    repeat' (first | refine Run.ctl rfl ?_ | (refine Rg.op false tok rfl rfl rfl rfl ?_ ?_ ?_; (first | exact True.intro | omega | exact Nat.succ_pos _ | focus (simp; done) | focus (simp; omega) | decide +kernel); (first | exact trivial | exact rfl | exact .inl rfl | exact .inr rfl | focus ((repeat (first | exact trivial | (refine ⟨Stay.op false tok rfl rfl rfl ?_ (fun t ht => by cases ht; rfl), ?_⟩; (first | exact True.intro | omega | exact Nat.succ_pos _ | focus (simp; done) | focus (simp; omega) | decide +kernel)) | (refine ⟨Stay.op true tok rfl rfl rfl ?_ (fun t ht => by cases ht; rfl), ?_⟩; (first | exact True.intro | omega | exact Nat.succ_pos _ | focus (simp; done) | focus (simp; omega) | decide +kernel)) | refine ⟨Stay.skip rfl rfl (fun t ht => by cases ht; rfl), ?_⟩)); done))) | (refine Rg.op true tok rfl rfl rfl rfl ?_ ?_ ?_; (first | exact True.intro | omega | exact Nat.succ_pos _ | focus (simp; done) | focus (simp; omega) | decide +kernel); (first | exact trivial | exact rfl | exact .inl rfl | exact .inr rfl | focus ((repeat (first | exact trivial | (refine ⟨Stay.op false tok rfl rfl rfl ?_ (fun t ht => by cases ht; rfl), ?_⟩; (first | exact True.intro | omega | exact Nat.succ_pos _ | focus (simp; done) | focus (simp; omega) | decide +kernel)) | (refine ⟨Stay.op true tok rfl rfl rfl ?_ (fun t ht => by cases ht; rfl), ?_⟩; (first | exact True.intro | omega | exact Nat.succ_pos _ | focus (simp; done) | focus (simp; omega) | decide +kernel)) | refine ⟨Stay.skip rfl rfl (fun t ht => by cases ht; rfl), ?_⟩)); done))) | refine Rg.nil ?_ | refine Rg.skip rfl rfl rfl ?_ | refine Run.regR ?_ | refine Run.drwR mixed (by kernel_rfl) rfl ?_ | refine Run.condT rfl ?_ | refine Run.condF rfl ?_ | (refine Run.condB rfl (fun hc => ?_) (fun hc => ?_) <;> ((try simp only [cs] at hc); (first | ((exfalso; omega); done) | skip))) | ((fail_if_success (refine Rg.lit true rfl ?_)); (fail_if_success (refine Rg.lit false rfl ?_)); refine Rg.guard rfl (fun hc => ?_) (fun hc => ?_) <;> ((try simp only [cs] at hc); (first | ((exfalso; omega); done) | skip))))
    refine Run.renumL [0, 1] [rowI [x], rowI (List.replicate n x)] [(4, .slc 1 0 n)] rfl rfl rfl rfl ⟨⟨_, rfl, rfl, rfl, rfl, rfl, fun k hk => .ofEq rfl rfl⟩, ⟨_, rfl, rfl, rfl, by simp, rfl, fun j hj => .ofEq (by dsimp only at hj ⊢; rw [repEl_in hj]; simp [rows, hj]) rfl⟩, trivial⟩ ⟨.slcN rfl rfl rfl, trivial⟩ ?_
    (first | refine Run.ret tok Try.func56 rfl ?_ | refine Run.fall tok Try.func56 rfl ?_)
    exact ⟨rfl, rfl⟩
end Go.Proofs.Ytlimecfjpfaljaa.W
end
section
/- Plain: the depths that the walk ahead of running finds. -/
set_option linter.unusedVariables false
set_option linter.unusedSimpArgs false
set_option linter.unusedSectionVars false
namespace Go.Proofs.Ytlimecfjpfaljaa.W
open Go Go.Sy

/-- The most on the stack so far. -/
def moOf (p : Pg) (code : List Instr) (at_ : Int) (out : List Int) (mo : Int) : Int :=
  if at_ = code.length then mo else lmax mo [out.getD at_.toNat default, out.getD at_.toNat default - takesOf p (code.getD at_.toNat default) + opPuts (code.getD at_.toNat default).op]
def walkO (p : Pg) (code : List Instr) : Nat → List Int → List Int → Int → Option (List Int × Int)
  | 0, out, left, mo => if left.isEmpty then some (out, mo) else none
  | f + 1, out, left, mo => match left with
    | [] => some (out, mo)
    | at_ :: l => match walkStep p code at_ out l with
      | none => none
      | some (o, l') => walkO p code f o l' (moOf p code at_ out mo)
theorem walkO_some (p : Pg) (code : List Instr) : ∀ (f : Nat) (out left : List Int) (mo : Int), (walkO p code f out left mo).isSome = walkRun p code f out left
  | 0, out, left, mo => by unfold walkO walkRun; cases left <;> rfl
  | f + 1, out, left, mo => by
    unfold walkO walkRun
    cases left with
    | nil => rfl
    | cons a l =>
      dsimp only
      cases hw : walkStep p code a out l with
      | none => rfl
      | some x => exact walkO_some p code f _ _ _
/-- How many numbers are on the stack at each place, and the most; none: a handler that may not be. -/
def depthsOf (p : Pg) (h : Hd) : Option (List Int × Int) := walkO p h.code (h.code.length + 1) ((List.replicate (h.code.length + 1) (-1)).set 0 0) [0] 0
theorem depthsOf_some (p : Pg) (h : Hd) : (depthsOf p h).isSome = walkOk p h := walkO_some ..
structure Bd (n : Nat) (out left : List Int) : Prop where
  len : out.length = n + 1
  rng : ∀ k ∈ out, -1 ≤ k ∧ k ≤ 8
  lft : ∀ a ∈ left, 0 ≤ a ∧ a ≤ n
theorem Bd.at {n : Nat} {out left : List Int} (h : Bd n out left) {k : Nat} (hk : k ≤ n) : -1 ≤ out.getD k 0 ∧ out.getD k 0 ≤ 8 := by
  have hl : k < out.length := by have := h.len; omega
  refine h.rng _ ?_
  rw [List.getD_eq_getElem?_getD, List.getElem?_eq_getElem hl]
  exact List.getElem_mem hl
theorem Bd.push {n : Nat} {out left : List Int} (h : Bd n out left) {k m : Int} (hk : 0 ≤ k ∧ k ≤ n) (hm : 0 ≤ m ∧ m ≤ 8) : Bd n (out.set k.toNat m) (left ++ [k]) := by
  refine ⟨by rw [List.length_set]; exact h.len, fun x hx => ?_, fun a ha => ?_⟩
  · rcases List.mem_or_eq_of_mem_set hx with hx | rfl
    · exact h.rng x hx
    · omega
  · rcases List.mem_append.1 ha with ha | ha
    · exact h.lft a ha
    · rw [List.mem_singleton] at ha; rw [ha]; exact hk
theorem pushTo_at (n : Int) {ks : List Int} {j : Nat} (hj : j < ks.length) (out left : List Int) : pushTo n (ks.drop j) out left =
    if out.getD (ks.getD j 0).toNat 0 = -1 then pushTo n (ks.drop (j + 1)) (out.set (ks.getD j 0).toNat n) (left ++ [ks.getD j 0])
    else if out.getD (ks.getD j 0).toNat 0 = n then pushTo n (ks.drop (j + 1)) out left else none := by
  rw [List.drop_eq_getElem_cons hj]
  have : ks.getD j 0 = ks[j] := by simp [hj]
  rw [this]
  rfl
end Go.Proofs.Ytlimecfjpfaljaa.W
end
