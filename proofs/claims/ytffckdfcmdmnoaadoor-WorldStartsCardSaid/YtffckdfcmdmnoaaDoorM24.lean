/- Texts merged: D11, D12, P8, D13. -/
import Derived.Test.YtffckdfcmdmnoaaDoorM23
import Derived.Test.YtffckdfcmdmnoaaDoorM21
section
/- Walks: notes given, and a program's start (chapter 9). -/
set_option linter.unusedVariables false
set_option linter.unusedSimpArgs false
set_option linter.unusedSectionVars false
set_option pp.maxSteps 3000
set_option maxHeartbeats 1000000
namespace Go.Proofs.YtffckdfcmdmnoaaDoor.W
open Go Go.Sy

/-- There is room for so many more messages. -/
structure Room (n : Nat) (w : Wd) : Prop where
  mail : w.mail.length + n ≤ 100000
  args : ∀ x ∈ w.mail, x.note.args.length ≤ 100000
  over : ∀ l ∈ w.actors, -9223372036854775808 ≤ l.over ∧ l.over + n ≤ 9223372036854775807
theorem mem_putAt {m x : Msg} : ∀ {l : List Msg}, x ∈ putAt m l → x = m ∨ x ∈ l
  | [], h => by simp [putAt] at h; exact .inl h
  | y :: l, h => by
    unfold putAt at h
    split at h
    · rcases List.mem_cons.1 h with rfl | h
      · exact .inr (by simp)
      · rcases mem_putAt h with h | h
        · exact .inl h
        · exact .inr (by simp [h])
    · rcases List.mem_cons.1 h with rfl | h
      · exact .inl rfl
      · exact .inr h
theorem putAt_len (m : Msg) : ∀ (l : List Msg), (putAt m l).length = l.length + 1
  | [] => rfl
  | y :: l => by unfold putAt; split <;> simp [putAt_len m l]
theorem postIn_actors (p : Pg) (w : Wd) (m : Msg) : (postIn p w m).actors.length = w.actors.length := by
  unfold postIn
  dsimp only
  split
  · split <;> simp
  · simp
theorem Room.post {n : Nat} {p : Pg} {w : Wd} {m : Msg} (h : Room (n + 1) w) (hm : m.note.args.length ≤ 100000) (hk : m.note.to_.toNat < w.actors.length) : Room n (postIn p w m) := by
  have hmiss : Room n { w with actors := w.actors.set m.note.to_.toNat (addOver (w.actors.getD m.note.to_.toNat default)) } := by
    refine ⟨by have := h.mail; dsimp only; omega, h.args, fun l hl => ?_⟩
    dsimp only at hl
    rcases List.mem_or_eq_of_mem_set hl with hl | hl
    · have := h.over l hl; omega
    · subst hl
      have := h.over _ (mem_getD hk)
      show -9223372036854775808 ≤ (_ : Int) + 1 ∧ (_ : Int) + 1 + n ≤ _
      omega
  unfold postIn
  dsimp only
  split
  · unfold putMail
    split
    · rename_i l hl
      split at hl
      · cases hl
      · cases hl
        refine ⟨by have := h.mail; dsimp only; rw [putAt_len]; omega, fun x hx => ?_, fun l hl => by have := h.over l hl; omega⟩
        rcases mem_putAt hx with rfl | hx
        · exact hm
        · exact h.args x hx
    · exact hmiss
  · exact hmiss
/-- One note is given. -/
def giveOne (p : Pg) (from_ first : Int) (n : Nt) (w : Wd) : Wd := if 0 ≤ n.to_ ∧ n.to_ < p.actors.length ∧ n.to_ < w.actors.length then postIn p w ⟨⟨from_, first, 0⟩, n⟩ else w
theorem giveFrom_at (p : Pg) (from_ first : Int) {l : List Nt} {i : Nat} (hi : i < l.length) (w : Wd) : giveFrom p from_ (first + i) (l.drop i) w = giveFrom p from_ (first + (i + 1 : Nat)) (l.drop (i + 1)) (giveOne p from_ (first + i) (l.getD i default) w) := by
  rw [List.drop_eq_getElem_cons hi]
  have : l.getD i default = l[i] := by simp [hi]
  rw [this]
  show giveFrom p from_ (first + i + 1) _ (giveOne p from_ (first + i) l[i] w) = _
  congr 1
  omega
def pbox (p : Pg) : Option Blk := some ⟨26, 4, 1, fun _ => ePg p, false, false⟩
theorem lmin2 (a b : Int) : lmin a [b] ≤ a ∧ lmin a [b] ≤ b ∧ (lmin a [b] = a ∨ lmin a [b] = b) := by
  simp only [lmin]
  omega
theorem give_ (p : Pg) (w : Wd) (from_ : Int) (notes : List Nt) (hf : from_ < w.actors.length) (hr : Room notes.length w) (hn : ∀ n ∈ notes, n.args.length ≤ 100000) (hs : 0 ≤ from_ → -9223372036854775808 ≤ (w.actors.getD from_.toNat default).sent - notes.length ∧ (w.actors.getD from_.toNat default).sent ≤ 9223372036854775807) :
    Own Tryd.prog 19 [pPg p, .ptr 0 0 0, i64 from_, sl 3 eNt notes] (wdSt w) (.tup []) (wdSt (giveIn p w from_ notes)) := by
  unfold giveIn
  have hnl : notes.length ≤ 100000 := by have := hr.mail; omega
  by_cases h0 : 0 ≤ from_
  · obtain ⟨k, rfl⟩ : ∃ k : Nat, from_ = k := ⟨from_.toNat, by omega⟩
    rw [if_pos h0]
    rw [Int.toNat_natCast] at hs ⊢
    have hs := hs h0
    have e1 : IntKind.wrap .i64 ((w.actors.getD k default).sent - notes.length) = (w.actors.getD k default).sent - notes.length := wrap_id (by unfold R64; omega)
    generalize hz : (w.actors.getD k default).sent - notes.length = first at e1 ⊢
    have hfirst : -9223372036854775808 ≤ first ∧ first + notes.length ≤ 9223372036854775807 := by omega
    refine Spec.of_run (fn := Tryd.f19) Tryd.func19 rfl rfl (by kernel_rfl) ?_
    repeat' (first | refine Run.ctl rfl ?_ | (refine Rg.op false tok rfl rfl rfl rfl ?_ ?_ ?_; (first | exact ⟨⟩ | omega | focus (simp <;> omega) | decide +kernel); (first | exact trivial | exact rfl | exact .inl rfl | exact .inr rfl | focus ((repeat (first | exact trivial | (refine ⟨Stay.op false tok rfl rfl rfl ?_ (fun t ht => by cases ht; rfl), ?_⟩; (first | exact ⟨⟩ | omega | focus (simp <;> omega) | decide +kernel)) | (refine ⟨Stay.op true tok rfl rfl rfl ?_ (fun t ht => by cases ht; rfl), ?_⟩; (first | exact ⟨⟩ | omega | focus (simp <;> omega) | decide +kernel)) | refine ⟨Stay.skip rfl rfl (fun t ht => by cases ht; rfl), ?_⟩)); done))) | (refine Rg.op true tok rfl rfl rfl rfl ?_ ?_ ?_; (first | exact ⟨⟩ | omega | focus (simp <;> omega) | decide +kernel); (first | exact trivial | exact rfl | exact .inl rfl | exact .inr rfl | focus ((repeat (first | exact trivial | (refine ⟨Stay.op false tok rfl rfl rfl ?_ (fun t ht => by cases ht; rfl), ?_⟩; (first | exact ⟨⟩ | omega | focus (simp <;> omega) | decide +kernel)) | (refine ⟨Stay.op true tok rfl rfl rfl ?_ (fun t ht => by cases ht; rfl), ?_⟩; (first | exact ⟨⟩ | omega | focus (simp <;> omega) | decide +kernel)) | refine ⟨Stay.skip rfl rfl (fun t ht => by cases ht; rfl), ?_⟩)); done))) | refine Rg.nil ?_ | refine Rg.fork ?_ ?_ | refine Rg.skip rfl rfl rfl ?_ | refine Run.regR ?_ | refine Run.drwR mixed (by kernel_rfl) rfl ?_ | refine Run.condT rfl ?_ | refine Run.condF rfl ?_ | ((first | refine Run.condB rfl (fun hc => ?_) (fun hc => ?_) | ((fail_if_success (refine Rg.lit true rfl ?_)); (fail_if_success (refine Rg.lit false rfl ?_)); refine Rg.guard rfl (fun hc => ?_) (fun hc => ?_))) <;> ((try simp only [cs] at hc); (first | ((exfalso; omega); done) | skip))))
    refine Run.loopN (ι := Nat × Wd) (fun x => ([(1, .ptr 0 0 0), (2, i64 (k : Nat)), (4, .ptr 2 0 0), (8, i64 first), (24, sl 3 eNt notes), (25, i64 notes.length), (26, i64 x.1)], wdSt x.2 ++ [pbox p])) (fun x => x.1 ≤ notes.length ∧ giveFrom p (k : Nat) (first + x.1) (notes.drop x.1) x.2 = giveFrom p (k : Nat) first notes w ∧ Room (notes.length - x.1) x.2 ∧ x.2.actors.length = w.actors.length) (fun x => notes.length - x.1) (0, w) ⟨rfl, rfl, rfl, (by show PV.atom (Value.int .i64 (IntKind.wrap .i64 ((w.actors.getD (0 + k) default).sent - notes.length))) = i64 first; rw [Nat.zero_add, hz, e1]; rfl), rfl, rfl, rfl, trivial⟩ rfl ⟨by omega, by simp, hr, rfl⟩ ?_
    rintro ⟨i, wi⟩ ⟨hi, hg, hri, hla⟩ back backR
    dsimp only at hi hg hri hla
    by_cases hlt : i < notes.length
    · rw [giveFrom_at p _ _ hlt] at hg
      have hm := hn _ (mem_getD hlt)
      have hri' : Room (notes.length - (i + 1) + 1) wi := by rw [show notes.length - (i + 1) + 1 = notes.length - i by omega]; exact hri
      have hrw : Room (notes.length - (i + 1)) wi := ⟨by have := hri'.mail; omega, hri'.args, fun l hl => by have := hri'.over l hl; omega⟩
      have hlm := lmin2 p.actors.length wi.actors.length
      generalize hnn : notes.getD i default = n at hg hm
      by_cases hin : 0 ≤ n.to_ ∧ n.to_ < p.actors.length ∧ n.to_ < wi.actors.length
      · obtain ⟨h1, h2, h3⟩ := hin
        have hpost := post_ p wi ⟨⟨(k : Nat), first + i, 0⟩, n⟩ n.to_.toNat (by dsimp only; omega) (by omega) (by omega) (by have := hri'.mail; omega) hri'.args hm (by have := hri'.over _ (mem_getD (l := wi.actors) (i := n.to_.toNat) (by omega)); omega)
        have hw1 : giveOne p (k : Nat) (first + i) n wi = postIn p wi ⟨⟨(k : Nat), first + i, 0⟩, n⟩ := by unfold giveOne; rw [if_pos ⟨h1, h2, h3⟩]
        have hr1 := Room.post (p := p) (m := ⟨⟨(k : Nat), first + i, 0⟩, n⟩) hri' hm (by dsimp only; omega)
        have hl1 := postIn_actors p wi ⟨⟨(k : Nat), first + i, 0⟩, n⟩
        rw [hw1] at hg
        generalize postIn p wi ⟨⟨(k : Nat), first + i, 0⟩, n⟩ = w1 at hpost hg hr1 hl1
        subst hnn
        repeat' (first | refine Run.ctl rfl ?_ | (refine Rg.op false tok rfl rfl rfl rfl ?_ ?_ ?_; (first | exact ⟨⟩ | omega | focus (simp <;> omega) | decide +kernel); (first | exact trivial | exact rfl | exact .inl rfl | exact .inr rfl | focus ((repeat (first | exact trivial | (refine ⟨Stay.op false tok rfl rfl rfl ?_ (fun t ht => by cases ht; rfl), ?_⟩; (first | exact ⟨⟩ | omega | focus (simp <;> omega) | decide +kernel)) | (refine ⟨Stay.op true tok rfl rfl rfl ?_ (fun t ht => by cases ht; rfl), ?_⟩; (first | exact ⟨⟩ | omega | focus (simp <;> omega) | decide +kernel)) | refine ⟨Stay.skip rfl rfl (fun t ht => by cases ht; rfl), ?_⟩)); done))) | (refine Rg.op true tok rfl rfl rfl rfl ?_ ?_ ?_; (first | exact ⟨⟩ | omega | focus (simp <;> omega) | decide +kernel); (first | exact trivial | exact rfl | exact .inl rfl | exact .inr rfl | focus ((repeat (first | exact trivial | (refine ⟨Stay.op false tok rfl rfl rfl ?_ (fun t ht => by cases ht; rfl), ?_⟩; (first | exact ⟨⟩ | omega | focus (simp <;> omega) | decide +kernel)) | (refine ⟨Stay.op true tok rfl rfl rfl ?_ (fun t ht => by cases ht; rfl), ?_⟩; (first | exact ⟨⟩ | omega | focus (simp <;> omega) | decide +kernel)) | refine ⟨Stay.skip rfl rfl (fun t ht => by cases ht; rfl), ?_⟩)); done))) | refine Rg.nil ?_ | refine Rg.fork ?_ ?_ | refine Rg.skip rfl rfl rfl ?_ | refine Run.regR ?_ | refine Run.drwR mixed (by kernel_rfl) rfl ?_ | refine Run.condT rfl ?_ | refine Run.condF rfl ?_ | ((first | refine Run.condB rfl (fun hc => ?_) (fun hc => ?_) | ((fail_if_success (refine Rg.lit true rfl ?_)); (fail_if_success (refine Rg.lit false rfl ?_)); refine Rg.guard rfl (fun hc => ?_) (fun hc => ?_))) <;> ((try simp only [cs] at hc); (first | ((exfalso; omega); done) | skip))))
        refine Rg.own hpost [0, 1] rfl rfl rfl rfl rfl rfl ⟨⟨_, rfl, rfl, rfl, rfl, rfl, fun k hk => ⟨.slcN rfl rfl rfl, .cl rfl, .cl rfl, .cl rfl, .cl rfl, .cl rfl, trivial⟩⟩, ⟨_, rfl, rfl, rfl, rfl, rfl, fun k hk => .ofEq rfl rfl⟩, trivial⟩ ⟨.cl rfl, .ptrN rfl rfl, .cl rfl, trivial⟩ rfl rfl trivial ?_
        repeat' (first | refine Run.ctl rfl ?_ | (refine Rg.op false tok rfl rfl rfl rfl ?_ ?_ ?_; (first | exact ⟨⟩ | omega | focus (simp <;> omega) | decide +kernel); (first | exact trivial | exact rfl | exact .inl rfl | exact .inr rfl | focus ((repeat (first | exact trivial | (refine ⟨Stay.op false tok rfl rfl rfl ?_ (fun t ht => by cases ht; rfl), ?_⟩; (first | exact ⟨⟩ | omega | focus (simp <;> omega) | decide +kernel)) | (refine ⟨Stay.op true tok rfl rfl rfl ?_ (fun t ht => by cases ht; rfl), ?_⟩; (first | exact ⟨⟩ | omega | focus (simp <;> omega) | decide +kernel)) | refine ⟨Stay.skip rfl rfl (fun t ht => by cases ht; rfl), ?_⟩)); done))) | (refine Rg.op true tok rfl rfl rfl rfl ?_ ?_ ?_; (first | exact ⟨⟩ | omega | focus (simp <;> omega) | decide +kernel); (first | exact trivial | exact rfl | exact .inl rfl | exact .inr rfl | focus ((repeat (first | exact trivial | (refine ⟨Stay.op false tok rfl rfl rfl ?_ (fun t ht => by cases ht; rfl), ?_⟩; (first | exact ⟨⟩ | omega | focus (simp <;> omega) | decide +kernel)) | (refine ⟨Stay.op true tok rfl rfl rfl ?_ (fun t ht => by cases ht; rfl), ?_⟩; (first | exact ⟨⟩ | omega | focus (simp <;> omega) | decide +kernel)) | refine ⟨Stay.skip rfl rfl (fun t ht => by cases ht; rfl), ?_⟩)); done))) | refine Rg.nil ?_ | refine Rg.fork ?_ ?_ | refine Rg.skip rfl rfl rfl ?_ | refine Run.regR ?_ | refine Run.drwR mixed (by kernel_rfl) rfl ?_ | refine Run.condT rfl ?_ | refine Run.condF rfl ?_ | ((first | refine Run.condB rfl (fun hc => ?_) (fun hc => ?_) | ((fail_if_success (refine Rg.lit true rfl ?_)); (fail_if_success (refine Rg.lit false rfl ?_)); refine Rg.guard rfl (fun hc => ?_) (fun hc => ?_))) <;> ((try simp only [cs] at hc); (first | ((exfalso; omega); done) | skip))))
        exact backR [0, 1, 2] (i + 1, w1) _ _ ⟨hlt, hg, hr1, by dsimp only; omega⟩ (by dsimp only; omega) rfl ⟨⟨_, rfl, rfl, rfl, rfl, rfl, fun k hk => ⟨.slcN rfl rfl rfl, .cl rfl, .cl rfl, .cl rfl, .cl rfl, .cl rfl, trivial⟩⟩, ⟨_, rfl, rfl, rfl, rfl, rfl, fun k hk => .ofEq rfl rfl⟩, ⟨_, rfl, rfl, rfl, rfl, rfl, fun k hk => .ofEq rfl rfl⟩, trivial⟩ ⟨.ptrN rfl rfl, .cl rfl, .ptrN rfl rfl, .cl rfl, .cl rfl, .cl rfl, .cl rfl, trivial⟩
      · have hw1 : giveOne p (k : Nat) (first + i) n wi = wi := by unfold giveOne; rw [if_neg hin]
        rw [hw1] at hg
        subst hnn
        repeat' (first | refine Run.ctl rfl ?_ | (refine Rg.op false tok rfl rfl rfl rfl ?_ ?_ ?_; (first | exact ⟨⟩ | omega | focus (simp <;> omega) | decide +kernel); (first | exact trivial | exact rfl | exact .inl rfl | exact .inr rfl | focus ((repeat (first | exact trivial | (refine ⟨Stay.op false tok rfl rfl rfl ?_ (fun t ht => by cases ht; rfl), ?_⟩; (first | exact ⟨⟩ | omega | focus (simp <;> omega) | decide +kernel)) | (refine ⟨Stay.op true tok rfl rfl rfl ?_ (fun t ht => by cases ht; rfl), ?_⟩; (first | exact ⟨⟩ | omega | focus (simp <;> omega) | decide +kernel)) | refine ⟨Stay.skip rfl rfl (fun t ht => by cases ht; rfl), ?_⟩)); done))) | (refine Rg.op true tok rfl rfl rfl rfl ?_ ?_ ?_; (first | exact ⟨⟩ | omega | focus (simp <;> omega) | decide +kernel); (first | exact trivial | exact rfl | exact .inl rfl | exact .inr rfl | focus ((repeat (first | exact trivial | (refine ⟨Stay.op false tok rfl rfl rfl ?_ (fun t ht => by cases ht; rfl), ?_⟩; (first | exact ⟨⟩ | omega | focus (simp <;> omega) | decide +kernel)) | (refine ⟨Stay.op true tok rfl rfl rfl ?_ (fun t ht => by cases ht; rfl), ?_⟩; (first | exact ⟨⟩ | omega | focus (simp <;> omega) | decide +kernel)) | refine ⟨Stay.skip rfl rfl (fun t ht => by cases ht; rfl), ?_⟩)); done))) | refine Rg.nil ?_ | refine Rg.fork ?_ ?_ | refine Rg.skip rfl rfl rfl ?_ | refine Run.regR ?_ | refine Run.drwR mixed (by kernel_rfl) rfl ?_ | refine Run.condT rfl ?_ | refine Run.condF rfl ?_ | ((first | refine Run.condB rfl (fun hc => ?_) (fun hc => ?_) | ((fail_if_success (refine Rg.lit true rfl ?_)); (fail_if_success (refine Rg.lit false rfl ?_)); refine Rg.guard rfl (fun hc => ?_) (fun hc => ?_))) <;> ((try simp only [cs] at hc); (first | ((exfalso; omega); done) | skip))))
        all_goals exact backR [0, 1, 2] (i + 1, wi) _ _ ⟨hlt, hg, hrw, hla⟩ (by dsimp only; omega) rfl ⟨⟨_, rfl, rfl, rfl, rfl, rfl, fun k hk => ⟨.slcN rfl rfl rfl, .cl rfl, .cl rfl, .cl rfl, .cl rfl, .cl rfl, trivial⟩⟩, ⟨_, rfl, rfl, rfl, rfl, rfl, fun k hk => .ofEq rfl rfl⟩, ⟨_, rfl, rfl, rfl, rfl, rfl, fun k hk => .ofEq rfl rfl⟩, trivial⟩ ⟨.ptrN rfl rfl, .cl rfl, .ptrN rfl rfl, .cl rfl, .cl rfl, .cl rfl, .cl rfl, trivial⟩
    · obtain rfl : i = notes.length := by omega
      rw [List.drop_length] at hg
      rw [← hg]
      repeat' (first | refine Run.ctl rfl ?_ | (refine Rg.op false tok rfl rfl rfl rfl ?_ ?_ ?_; (first | exact ⟨⟩ | omega | focus (simp <;> omega) | decide +kernel); (first | exact trivial | exact rfl | exact .inl rfl | exact .inr rfl | focus ((repeat (first | exact trivial | (refine ⟨Stay.op false tok rfl rfl rfl ?_ (fun t ht => by cases ht; rfl), ?_⟩; (first | exact ⟨⟩ | omega | focus (simp <;> omega) | decide +kernel)) | (refine ⟨Stay.op true tok rfl rfl rfl ?_ (fun t ht => by cases ht; rfl), ?_⟩; (first | exact ⟨⟩ | omega | focus (simp <;> omega) | decide +kernel)) | refine ⟨Stay.skip rfl rfl (fun t ht => by cases ht; rfl), ?_⟩)); done))) | (refine Rg.op true tok rfl rfl rfl rfl ?_ ?_ ?_; (first | exact ⟨⟩ | omega | focus (simp <;> omega) | decide +kernel); (first | exact trivial | exact rfl | exact .inl rfl | exact .inr rfl | focus ((repeat (first | exact trivial | (refine ⟨Stay.op false tok rfl rfl rfl ?_ (fun t ht => by cases ht; rfl), ?_⟩; (first | exact ⟨⟩ | omega | focus (simp <;> omega) | decide +kernel)) | (refine ⟨Stay.op true tok rfl rfl rfl ?_ (fun t ht => by cases ht; rfl), ?_⟩; (first | exact ⟨⟩ | omega | focus (simp <;> omega) | decide +kernel)) | refine ⟨Stay.skip rfl rfl (fun t ht => by cases ht; rfl), ?_⟩)); done))) | refine Rg.nil ?_ | refine Rg.fork ?_ ?_ | refine Rg.skip rfl rfl rfl ?_ | refine Run.regR ?_ | refine Run.drwR mixed (by kernel_rfl) rfl ?_ | refine Run.condT rfl ?_ | refine Run.condF rfl ?_ | ((first | refine Run.condB rfl (fun hc => ?_) (fun hc => ?_) | ((fail_if_success (refine Rg.lit true rfl ?_)); (fail_if_success (refine Rg.lit false rfl ?_)); refine Rg.guard rfl (fun hc => ?_) (fun hc => ?_))) <;> ((try simp only [cs] at hc); (first | ((exfalso; omega); done) | skip))))
      refine Run.renumL [0, 1] (wdSt wi) [] rfl rfl rfl rfl ⟨⟨_, rfl, rfl, rfl, rfl, rfl, fun k hk => ⟨.slcN rfl rfl rfl, .cl rfl, .cl rfl, .cl rfl, .cl rfl, .cl rfl, trivial⟩⟩, ⟨_, rfl, rfl, rfl, rfl, rfl, fun k hk => .ofEq rfl rfl⟩, trivial⟩ trivial ?_
      (first | refine Run.ret tok Tryd.func19 rfl ?_ | refine Run.fall tok Tryd.func19 rfl ?_)
      exact ⟨rfl, rfl⟩
  · rw [if_neg h0]
    obtain ⟨first, hz⟩ : ∃ z : Int, z = 0 := ⟨0, rfl⟩
    have hfirst : -9223372036854775808 ≤ first ∧ first + notes.length ≤ 9223372036854775807 := by omega
    rw [← hz]
    refine Spec.of_run (fn := Tryd.f19) Tryd.func19 rfl rfl (by kernel_rfl) ?_
    repeat' (first | refine Run.ctl rfl ?_ | (refine Rg.op false tok rfl rfl rfl rfl ?_ ?_ ?_; (first | exact ⟨⟩ | omega | focus (simp <;> omega) | decide +kernel); (first | exact trivial | exact rfl | exact .inl rfl | exact .inr rfl | focus ((repeat (first | exact trivial | (refine ⟨Stay.op false tok rfl rfl rfl ?_ (fun t ht => by cases ht; rfl), ?_⟩; (first | exact ⟨⟩ | omega | focus (simp <;> omega) | decide +kernel)) | (refine ⟨Stay.op true tok rfl rfl rfl ?_ (fun t ht => by cases ht; rfl), ?_⟩; (first | exact ⟨⟩ | omega | focus (simp <;> omega) | decide +kernel)) | refine ⟨Stay.skip rfl rfl (fun t ht => by cases ht; rfl), ?_⟩)); done))) | (refine Rg.op true tok rfl rfl rfl rfl ?_ ?_ ?_; (first | exact ⟨⟩ | omega | focus (simp <;> omega) | decide +kernel); (first | exact trivial | exact rfl | exact .inl rfl | exact .inr rfl | focus ((repeat (first | exact trivial | (refine ⟨Stay.op false tok rfl rfl rfl ?_ (fun t ht => by cases ht; rfl), ?_⟩; (first | exact ⟨⟩ | omega | focus (simp <;> omega) | decide +kernel)) | (refine ⟨Stay.op true tok rfl rfl rfl ?_ (fun t ht => by cases ht; rfl), ?_⟩; (first | exact ⟨⟩ | omega | focus (simp <;> omega) | decide +kernel)) | refine ⟨Stay.skip rfl rfl (fun t ht => by cases ht; rfl), ?_⟩)); done))) | refine Rg.nil ?_ | refine Rg.fork ?_ ?_ | refine Rg.skip rfl rfl rfl ?_ | refine Run.regR ?_ | refine Run.drwR mixed (by kernel_rfl) rfl ?_ | refine Run.condT rfl ?_ | refine Run.condF rfl ?_ | ((first | refine Run.condB rfl (fun hc => ?_) (fun hc => ?_) | ((fail_if_success (refine Rg.lit true rfl ?_)); (fail_if_success (refine Rg.lit false rfl ?_)); refine Rg.guard rfl (fun hc => ?_) (fun hc => ?_))) <;> ((try simp only [cs] at hc); (first | ((exfalso; omega); done) | skip))))
    refine Run.loopN (ι := Nat × Wd) (fun x => ([(1, .ptr 0 0 0), (2, i64 from_), (4, .ptr 2 0 0), (8, i64 first), (24, sl 3 eNt notes), (25, i64 notes.length), (26, i64 x.1)], wdSt x.2 ++ [pbox p])) (fun x => x.1 ≤ notes.length ∧ giveFrom p from_ (first + x.1) (notes.drop x.1) x.2 = giveFrom p from_ first notes w ∧ Room (notes.length - x.1) x.2 ∧ x.2.actors.length = w.actors.length) (fun x => notes.length - x.1) (0, w) ⟨rfl, rfl, rfl, (by rw [hz]; rfl), rfl, rfl, rfl, trivial⟩ rfl ⟨by omega, by simp, hr, rfl⟩ ?_
    rintro ⟨i, wi⟩ ⟨hi, hg, hri, hla⟩ back backR
    dsimp only at hi hg hri hla
    by_cases hlt : i < notes.length
    · rw [giveFrom_at p _ _ hlt] at hg
      have hm := hn _ (mem_getD hlt)
      have hri' : Room (notes.length - (i + 1) + 1) wi := by rw [show notes.length - (i + 1) + 1 = notes.length - i by omega]; exact hri
      have hrw : Room (notes.length - (i + 1)) wi := ⟨by have := hri'.mail; omega, hri'.args, fun l hl => by have := hri'.over l hl; omega⟩
      have hlm := lmin2 p.actors.length wi.actors.length
      generalize hnn : notes.getD i default = n at hg hm
      by_cases hin : 0 ≤ n.to_ ∧ n.to_ < p.actors.length ∧ n.to_ < wi.actors.length
      · obtain ⟨h1, h2, h3⟩ := hin
        have hpost := post_ p wi ⟨⟨from_, first + i, 0⟩, n⟩ n.to_.toNat (by dsimp only; omega) (by omega) (by omega) (by have := hri'.mail; omega) hri'.args hm (by have := hri'.over _ (mem_getD (l := wi.actors) (i := n.to_.toNat) (by omega)); omega)
        have hw1 : giveOne p from_ (first + i) n wi = postIn p wi ⟨⟨from_, first + i, 0⟩, n⟩ := by unfold giveOne; rw [if_pos ⟨h1, h2, h3⟩]
        have hr1 := Room.post (p := p) (m := ⟨⟨from_, first + i, 0⟩, n⟩) hri' hm (by dsimp only; omega)
        have hl1 := postIn_actors p wi ⟨⟨from_, first + i, 0⟩, n⟩
        rw [hw1] at hg
        generalize postIn p wi ⟨⟨from_, first + i, 0⟩, n⟩ = w1 at hpost hg hr1 hl1
        subst hnn
        repeat' (first | refine Run.ctl rfl ?_ | (refine Rg.op false tok rfl rfl rfl rfl ?_ ?_ ?_; (first | exact ⟨⟩ | omega | focus (simp <;> omega) | decide +kernel); (first | exact trivial | exact rfl | exact .inl rfl | exact .inr rfl | focus ((repeat (first | exact trivial | (refine ⟨Stay.op false tok rfl rfl rfl ?_ (fun t ht => by cases ht; rfl), ?_⟩; (first | exact ⟨⟩ | omega | focus (simp <;> omega) | decide +kernel)) | (refine ⟨Stay.op true tok rfl rfl rfl ?_ (fun t ht => by cases ht; rfl), ?_⟩; (first | exact ⟨⟩ | omega | focus (simp <;> omega) | decide +kernel)) | refine ⟨Stay.skip rfl rfl (fun t ht => by cases ht; rfl), ?_⟩)); done))) | (refine Rg.op true tok rfl rfl rfl rfl ?_ ?_ ?_; (first | exact ⟨⟩ | omega | focus (simp <;> omega) | decide +kernel); (first | exact trivial | exact rfl | exact .inl rfl | exact .inr rfl | focus ((repeat (first | exact trivial | (refine ⟨Stay.op false tok rfl rfl rfl ?_ (fun t ht => by cases ht; rfl), ?_⟩; (first | exact ⟨⟩ | omega | focus (simp <;> omega) | decide +kernel)) | (refine ⟨Stay.op true tok rfl rfl rfl ?_ (fun t ht => by cases ht; rfl), ?_⟩; (first | exact ⟨⟩ | omega | focus (simp <;> omega) | decide +kernel)) | refine ⟨Stay.skip rfl rfl (fun t ht => by cases ht; rfl), ?_⟩)); done))) | refine Rg.nil ?_ | refine Rg.fork ?_ ?_ | refine Rg.skip rfl rfl rfl ?_ | refine Run.regR ?_ | refine Run.drwR mixed (by kernel_rfl) rfl ?_ | refine Run.condT rfl ?_ | refine Run.condF rfl ?_ | ((first | refine Run.condB rfl (fun hc => ?_) (fun hc => ?_) | ((fail_if_success (refine Rg.lit true rfl ?_)); (fail_if_success (refine Rg.lit false rfl ?_)); refine Rg.guard rfl (fun hc => ?_) (fun hc => ?_))) <;> ((try simp only [cs] at hc); (first | ((exfalso; omega); done) | skip))))
        refine Rg.own hpost [0, 1] rfl rfl rfl rfl rfl rfl ⟨⟨_, rfl, rfl, rfl, rfl, rfl, fun k hk => ⟨.slcN rfl rfl rfl, .cl rfl, .cl rfl, .cl rfl, .cl rfl, .cl rfl, trivial⟩⟩, ⟨_, rfl, rfl, rfl, rfl, rfl, fun k hk => .ofEq rfl rfl⟩, trivial⟩ ⟨.cl rfl, .ptrN rfl rfl, .cl rfl, trivial⟩ rfl rfl trivial ?_
        repeat' (first | refine Run.ctl rfl ?_ | (refine Rg.op false tok rfl rfl rfl rfl ?_ ?_ ?_; (first | exact ⟨⟩ | omega | focus (simp <;> omega) | decide +kernel); (first | exact trivial | exact rfl | exact .inl rfl | exact .inr rfl | focus ((repeat (first | exact trivial | (refine ⟨Stay.op false tok rfl rfl rfl ?_ (fun t ht => by cases ht; rfl), ?_⟩; (first | exact ⟨⟩ | omega | focus (simp <;> omega) | decide +kernel)) | (refine ⟨Stay.op true tok rfl rfl rfl ?_ (fun t ht => by cases ht; rfl), ?_⟩; (first | exact ⟨⟩ | omega | focus (simp <;> omega) | decide +kernel)) | refine ⟨Stay.skip rfl rfl (fun t ht => by cases ht; rfl), ?_⟩)); done))) | (refine Rg.op true tok rfl rfl rfl rfl ?_ ?_ ?_; (first | exact ⟨⟩ | omega | focus (simp <;> omega) | decide +kernel); (first | exact trivial | exact rfl | exact .inl rfl | exact .inr rfl | focus ((repeat (first | exact trivial | (refine ⟨Stay.op false tok rfl rfl rfl ?_ (fun t ht => by cases ht; rfl), ?_⟩; (first | exact ⟨⟩ | omega | focus (simp <;> omega) | decide +kernel)) | (refine ⟨Stay.op true tok rfl rfl rfl ?_ (fun t ht => by cases ht; rfl), ?_⟩; (first | exact ⟨⟩ | omega | focus (simp <;> omega) | decide +kernel)) | refine ⟨Stay.skip rfl rfl (fun t ht => by cases ht; rfl), ?_⟩)); done))) | refine Rg.nil ?_ | refine Rg.fork ?_ ?_ | refine Rg.skip rfl rfl rfl ?_ | refine Run.regR ?_ | refine Run.drwR mixed (by kernel_rfl) rfl ?_ | refine Run.condT rfl ?_ | refine Run.condF rfl ?_ | ((first | refine Run.condB rfl (fun hc => ?_) (fun hc => ?_) | ((fail_if_success (refine Rg.lit true rfl ?_)); (fail_if_success (refine Rg.lit false rfl ?_)); refine Rg.guard rfl (fun hc => ?_) (fun hc => ?_))) <;> ((try simp only [cs] at hc); (first | ((exfalso; omega); done) | skip))))
        exact backR [0, 1, 2] (i + 1, w1) _ _ ⟨hlt, hg, hr1, by dsimp only; omega⟩ (by dsimp only; omega) rfl ⟨⟨_, rfl, rfl, rfl, rfl, rfl, fun k hk => ⟨.slcN rfl rfl rfl, .cl rfl, .cl rfl, .cl rfl, .cl rfl, .cl rfl, trivial⟩⟩, ⟨_, rfl, rfl, rfl, rfl, rfl, fun k hk => .ofEq rfl rfl⟩, ⟨_, rfl, rfl, rfl, rfl, rfl, fun k hk => .ofEq rfl rfl⟩, trivial⟩ ⟨.ptrN rfl rfl, .cl rfl, .ptrN rfl rfl, .cl rfl, .cl rfl, .cl rfl, .cl rfl, trivial⟩
      · have hw1 : giveOne p from_ (first + i) n wi = wi := by unfold giveOne; rw [if_neg hin]
        rw [hw1] at hg
        subst hnn
        repeat' (first | refine Run.ctl rfl ?_ | (refine Rg.op false tok rfl rfl rfl rfl ?_ ?_ ?_; (first | exact ⟨⟩ | omega | focus (simp <;> omega) | decide +kernel); (first | exact trivial | exact rfl | exact .inl rfl | exact .inr rfl | focus ((repeat (first | exact trivial | (refine ⟨Stay.op false tok rfl rfl rfl ?_ (fun t ht => by cases ht; rfl), ?_⟩; (first | exact ⟨⟩ | omega | focus (simp <;> omega) | decide +kernel)) | (refine ⟨Stay.op true tok rfl rfl rfl ?_ (fun t ht => by cases ht; rfl), ?_⟩; (first | exact ⟨⟩ | omega | focus (simp <;> omega) | decide +kernel)) | refine ⟨Stay.skip rfl rfl (fun t ht => by cases ht; rfl), ?_⟩)); done))) | (refine Rg.op true tok rfl rfl rfl rfl ?_ ?_ ?_; (first | exact ⟨⟩ | omega | focus (simp <;> omega) | decide +kernel); (first | exact trivial | exact rfl | exact .inl rfl | exact .inr rfl | focus ((repeat (first | exact trivial | (refine ⟨Stay.op false tok rfl rfl rfl ?_ (fun t ht => by cases ht; rfl), ?_⟩; (first | exact ⟨⟩ | omega | focus (simp <;> omega) | decide +kernel)) | (refine ⟨Stay.op true tok rfl rfl rfl ?_ (fun t ht => by cases ht; rfl), ?_⟩; (first | exact ⟨⟩ | omega | focus (simp <;> omega) | decide +kernel)) | refine ⟨Stay.skip rfl rfl (fun t ht => by cases ht; rfl), ?_⟩)); done))) | refine Rg.nil ?_ | refine Rg.fork ?_ ?_ | refine Rg.skip rfl rfl rfl ?_ | refine Run.regR ?_ | refine Run.drwR mixed (by kernel_rfl) rfl ?_ | refine Run.condT rfl ?_ | refine Run.condF rfl ?_ | ((first | refine Run.condB rfl (fun hc => ?_) (fun hc => ?_) | ((fail_if_success (refine Rg.lit true rfl ?_)); (fail_if_success (refine Rg.lit false rfl ?_)); refine Rg.guard rfl (fun hc => ?_) (fun hc => ?_))) <;> ((try simp only [cs] at hc); (first | ((exfalso; omega); done) | skip))))
        all_goals exact backR [0, 1, 2] (i + 1, wi) _ _ ⟨hlt, hg, hrw, hla⟩ (by dsimp only; omega) rfl ⟨⟨_, rfl, rfl, rfl, rfl, rfl, fun k hk => ⟨.slcN rfl rfl rfl, .cl rfl, .cl rfl, .cl rfl, .cl rfl, .cl rfl, trivial⟩⟩, ⟨_, rfl, rfl, rfl, rfl, rfl, fun k hk => .ofEq rfl rfl⟩, ⟨_, rfl, rfl, rfl, rfl, rfl, fun k hk => .ofEq rfl rfl⟩, trivial⟩ ⟨.ptrN rfl rfl, .cl rfl, .ptrN rfl rfl, .cl rfl, .cl rfl, .cl rfl, .cl rfl, trivial⟩
    · obtain rfl : i = notes.length := by omega
      rw [List.drop_length] at hg
      rw [← hg]
      repeat' (first | refine Run.ctl rfl ?_ | (refine Rg.op false tok rfl rfl rfl rfl ?_ ?_ ?_; (first | exact ⟨⟩ | omega | focus (simp <;> omega) | decide +kernel); (first | exact trivial | exact rfl | exact .inl rfl | exact .inr rfl | focus ((repeat (first | exact trivial | (refine ⟨Stay.op false tok rfl rfl rfl ?_ (fun t ht => by cases ht; rfl), ?_⟩; (first | exact ⟨⟩ | omega | focus (simp <;> omega) | decide +kernel)) | (refine ⟨Stay.op true tok rfl rfl rfl ?_ (fun t ht => by cases ht; rfl), ?_⟩; (first | exact ⟨⟩ | omega | focus (simp <;> omega) | decide +kernel)) | refine ⟨Stay.skip rfl rfl (fun t ht => by cases ht; rfl), ?_⟩)); done))) | (refine Rg.op true tok rfl rfl rfl rfl ?_ ?_ ?_; (first | exact ⟨⟩ | omega | focus (simp <;> omega) | decide +kernel); (first | exact trivial | exact rfl | exact .inl rfl | exact .inr rfl | focus ((repeat (first | exact trivial | (refine ⟨Stay.op false tok rfl rfl rfl ?_ (fun t ht => by cases ht; rfl), ?_⟩; (first | exact ⟨⟩ | omega | focus (simp <;> omega) | decide +kernel)) | (refine ⟨Stay.op true tok rfl rfl rfl ?_ (fun t ht => by cases ht; rfl), ?_⟩; (first | exact ⟨⟩ | omega | focus (simp <;> omega) | decide +kernel)) | refine ⟨Stay.skip rfl rfl (fun t ht => by cases ht; rfl), ?_⟩)); done))) | refine Rg.nil ?_ | refine Rg.fork ?_ ?_ | refine Rg.skip rfl rfl rfl ?_ | refine Run.regR ?_ | refine Run.drwR mixed (by kernel_rfl) rfl ?_ | refine Run.condT rfl ?_ | refine Run.condF rfl ?_ | ((first | refine Run.condB rfl (fun hc => ?_) (fun hc => ?_) | ((fail_if_success (refine Rg.lit true rfl ?_)); (fail_if_success (refine Rg.lit false rfl ?_)); refine Rg.guard rfl (fun hc => ?_) (fun hc => ?_))) <;> ((try simp only [cs] at hc); (first | ((exfalso; omega); done) | skip))))
      refine Run.renumL [0, 1] (wdSt wi) [] rfl rfl rfl rfl ⟨⟨_, rfl, rfl, rfl, rfl, rfl, fun k hk => ⟨.slcN rfl rfl rfl, .cl rfl, .cl rfl, .cl rfl, .cl rfl, .cl rfl, trivial⟩⟩, ⟨_, rfl, rfl, rfl, rfl, rfl, fun k hk => .ofEq rfl rfl⟩, trivial⟩ trivial ?_
      (first | refine Run.ret tok Tryd.func19 rfl ?_ | refine Run.fall tok Tryd.func19 rfl ?_)
      exact ⟨rfl, rfl⟩
end Go.Proofs.YtffckdfcmdmnoaaDoor.W
end
section
/- Walks: slices.Repeat of one number. -/
set_option linter.unusedVariables false
set_option linter.unusedSimpArgs false
set_option linter.unusedSectionVars false
set_option pp.maxSteps 3000
set_option maxHeartbeats 1000000
namespace Go.Proofs.YtffckdfcmdmnoaaDoor.W
open Go Go.Sy

abbrev u64 (n : Int) : PV := .atom (.int .u64 n)
theorem mul64_ (k : Nat) (hk : k < 101) : Pure Tryd.prog 77 [u64 1, u64 k] (.tup [u64 0, u64 k]) := by
  refine Pure.of_spec (Spec.of_run (fn := Tryd.f77) Tryd.func77 rfl rfl (by kernel_rfl) ?_) (by first | assumption | rfl | (split <;> rfl) | (split <;> split <;> rfl))
  repeat' (first | refine Run.ctl rfl ?_ | (refine Rg.op false tok rfl rfl rfl rfl ?_ ?_ ?_; (first | exact ⟨⟩ | omega | focus (simp <;> omega) | decide +kernel); (first | exact trivial | exact rfl | exact .inl rfl | exact .inr rfl)) | (refine Rg.op true tok rfl rfl rfl rfl ?_ ?_ ?_; (first | exact ⟨⟩ | omega | focus (simp <;> omega) | decide +kernel); (first | exact trivial | exact rfl | exact .inl rfl | exact .inr rfl)) | refine Rg.nil ?_ | refine Rg.skip rfl rfl rfl ?_ | refine Run.regR ?_ | refine Run.condT rfl ?_ | refine Run.condF rfl ?_ | ((first | refine Run.condB rfl (fun hc => ?_) (fun hc => ?_) | ((fail_if_success (refine Rg.lit true rfl ?_)); (fail_if_success (refine Rg.lit false rfl ?_)); refine Rg.guard rfl (fun hc => ?_) (fun hc => ?_))) <;> ((try simp only [cs] at hc))))
  (first | refine Run.ret tok Tryd.func77 rfl ?_ | refine Run.fall tok Tryd.func77 rfl ?_)
  exact .tup' ⟨.ofInt (by revert k; decide +kernel), .ofInt (by revert k; decide +kernel), trivial⟩
theorem mul_ (k : Nat) (hk : k < 101) : Pure Tryd.prog 66 [u64 1, u64 k] (.tup [u64 0, u64 k]) := by
  refine Pure.of_spec (Spec.of_run (fn := Tryd.f66) Tryd.func66 rfl rfl (by kernel_rfl) ?_) (by first | assumption | rfl | (split <;> rfl) | (split <;> split <;> rfl))
  repeat' (first | refine Run.ctl rfl ?_ | (refine Rg.op false tok rfl rfl rfl rfl ?_ ?_ ?_; (first | exact ⟨⟩ | omega | focus (simp <;> omega) | decide +kernel); (first | exact trivial | exact rfl | exact .inl rfl | exact .inr rfl)) | refine Rg.call (mul64_ k hk) rfl rfl rfl rfl rfl ⟨⟨.refl _, .refl _, trivial⟩, rfl⟩ ?_ | (refine Rg.op true tok rfl rfl rfl rfl ?_ ?_ ?_; (first | exact ⟨⟩ | omega | focus (simp <;> omega) | decide +kernel); (first | exact trivial | exact rfl | exact .inl rfl | exact .inr rfl)) | refine Rg.nil ?_ | refine Rg.skip rfl rfl rfl ?_ | refine Run.regR ?_ | refine Run.condT rfl ?_ | refine Run.condF rfl ?_ | ((first | refine Run.condB rfl (fun hc => ?_) (fun hc => ?_) | ((fail_if_success (refine Rg.lit true rfl ?_)); (fail_if_success (refine Rg.lit false rfl ?_)); refine Rg.guard rfl (fun hc => ?_) (fun hc => ?_))) <;> ((try simp only [cs] at hc))))
  (first | refine Run.ret tok Tryd.func66 rfl ?_ | refine Run.fall tok Tryd.func66 rfl ?_)
  exact .refl _
def rowI (l : List Int) : Option Blk := some ⟨3, 1, l.length, rows eInt l, false, false⟩
/-- So many of it, and zeros behind. -/
def repEl (x : Int) (n : Nat) : Nat → List PV := fun j => bif Nat.blt j n then eInt x else eInt 0
theorem repEl_in {x : Int} {n j : Nat} (h : j < n) : repEl x n j = eInt x := by unfold repEl; rw [show Nat.blt j n = true by rw [Nat.blt_eq]; exact h]; rfl
theorem repEl_out {x : Int} {n j : Nat} (h : ¬j < n) : repEl x n j = eInt 0 := by
  unfold repEl
  rw [show Nat.blt j n = false by rw [Bool.eq_false_iff]; intro hh; rw [Nat.blt_eq] at hh; exact h hh]; rfl
theorem repEl_cl (x : Int) (n j : Nat) : closedL (repEl x n j) = true := by unfold repEl; cases Nat.blt j n <;> rfl
theorem repEl_cp (x : Int) (n c : Nat) (hc : c ≤ n) (j : Nat) : cpEl n c (fun t => repEl x n t) (repEl x n) j = repEl x (n + c) j := by
  by_cases h : n ≤ j ∧ j < n + c
  · rw [cpEl_in h, repEl_in (by omega), repEl_in (by omega)]
  · rw [cpEl_out h]
    by_cases h2 : j < n
    · rw [repEl_in h2, repEl_in (by omega)]
    · rw [repEl_out h2, repEl_out (by omega)]
theorem repeat_ (x : Int) (k : Nat) (h0 : 0 < k) (hk : k < 101) : Own Tryd.prog 53 [.slc 0 0 1, i64 k] [rowI [x]] (.slc 1 0 k) [rowI [x], rowI (List.replicate k x)] := by
  have e1 : IntKind.wrap .u64 1 = 1 := by decide
  have e2 : ∀ k : Nat, k < 101 → IntKind.wrap .u64 k = k := by decide +kernel
  have e2 := e2 k hk
  have e3 : ∀ k : Nat, k < 101 → IntKind.wrap .i64 k = k := by decide +kernel
  have e3 := e3 k hk
  have hm : Pure Tryd.prog 66 [u64 1, u64 (IntKind.wrap .u64 k)] (.tup [u64 0, u64 k]) := by rw [e2]; exact mul_ k hk
  refine Spec.of_run (fn := Tryd.f53) Tryd.func53 rfl rfl (by kernel_rfl) ?_
  repeat' (first | refine Rg.any rfl rfl rfl (fun _ hq => G_make tok (n := k) rfl rfl rfl rfl rfl rfl rfl rfl rfl (by omega) (by omega) (by dsimp only; omega) (by omega) (by omega) hq) (by first | exact trivial | exact rfl | exact .inl rfl | exact .inr rfl | focus ((repeat (first | exact trivial | (refine ⟨Stay.op false tok rfl rfl rfl ?_ (fun t ht => by cases ht; rfl), ?_⟩; (first | exact ⟨⟩ | omega | focus (simp <;> omega) | decide +kernel)) | (refine ⟨Stay.op true tok rfl rfl rfl ?_ (fun t ht => by cases ht; rfl), ?_⟩; (first | exact ⟨⟩ | omega | focus (simp <;> omega) | decide +kernel)) | refine ⟨Stay.skip rfl rfl (fun t ht => by cases ht; rfl), ?_⟩)); done)) ?_ | refine Run.ctl rfl ?_ | (refine Rg.op false tok rfl rfl rfl rfl ?_ ?_ ?_; (first | exact ⟨⟩ | omega | focus (simp <;> omega) | decide +kernel); (first | exact trivial | exact rfl | exact .inl rfl | exact .inr rfl)) | refine Rg.call (hm) rfl rfl rfl rfl rfl ⟨⟨.refl _, .refl _, trivial⟩, rfl⟩ ?_ | (refine Rg.op true tok rfl rfl rfl rfl ?_ ?_ ?_; (first | exact ⟨⟩ | omega | focus (simp <;> omega) | decide +kernel); (first | exact trivial | exact rfl | exact .inl rfl | exact .inr rfl)) | refine Rg.nil ?_ | refine Rg.skip rfl rfl rfl ?_ | refine Run.regR ?_ | refine Run.condT rfl ?_ | refine Run.condF rfl ?_ | ((first | refine Run.condB rfl (fun hc => ?_) (fun hc => ?_) | ((fail_if_success (refine Rg.lit true rfl ?_)); (fail_if_success (refine Rg.lit false rfl ?_)); refine Rg.guard rfl (fun hc => ?_) (fun hc => ?_))) <;> ((try simp only [cs] at hc); (first | ((exfalso; omega); done) | skip))))
  refine Rg.any rfl rfl rfl (fun _ hq => G_copyO tok 1 rfl rfl rfl rfl rfl rfl rfl rfl rfl rfl (by dsimp only; omega) (by simp) (by omega) hq) trivial ?_
  repeat' (first | refine Run.ctl rfl ?_ | (refine Rg.op false tok rfl rfl rfl rfl ?_ ?_ ?_; (first | exact ⟨⟩ | omega | focus (simp <;> omega) | decide +kernel); (first | exact trivial | exact rfl | exact .inl rfl | exact .inr rfl)) | (refine Rg.op true tok rfl rfl rfl rfl ?_ ?_ ?_; (first | exact ⟨⟩ | omega | focus (simp <;> omega) | decide +kernel); (first | exact trivial | exact rfl | exact .inl rfl | exact .inr rfl)) | refine Rg.nil ?_ | refine Rg.skip rfl rfl rfl ?_ | refine Run.regR ?_ | refine Run.condT rfl ?_ | refine Run.condF rfl ?_ | ((first | refine Run.condB rfl (fun hc => ?_) (fun hc => ?_) | ((fail_if_success (refine Rg.lit true rfl ?_)); (fail_if_success (refine Rg.lit false rfl ?_)); refine Rg.guard rfl (fun hc => ?_) (fun hc => ?_))) <;> ((try simp only [cs] at hc); (first | ((exfalso; omega); done) | skip))))
  refine Run.renumL [0, 1] [rowI [x], some ⟨3, 1, k, repEl x 1, false, false⟩] [(7, .slc 1 0 k), (8, i64 (1 : Nat))] rfl rfl rfl rfl ⟨⟨_, rfl, rfl, rfl, rfl, rfl, fun k hk => .ofEq rfl rfl⟩, ⟨_, rfl, rfl, rfl, rfl, rfl, fun j hj => .ofEq (by
    dsimp only
    by_cases h : 0 ≤ j ∧ j < 0 + 1
    · rw [cpEl_in h, repEl_in (by omega)]
      obtain rfl : j = 0 := by omega
      rfl
    · rw [cpEl_out h, repEl_out (by omega)]
      rfl) (repEl_cl _ _ _)⟩, trivial⟩ ⟨.slcN rfl rfl rfl, .cl rfl, trivial⟩ ?_
  refine Run.loopN (ι := Nat) (fun n => ([(7, .slc 1 0 k), (8, i64 n)], [rowI [x], some ⟨3, 1, k, repEl x n, false, false⟩])) (fun n => 1 ≤ n ∧ n ≤ k) (fun n => k - n) 1 ⟨rfl, rfl, trivial⟩ rfl ⟨by omega, by omega⟩ ?_
  rintro n ⟨h1, h2⟩ back backR
  by_cases hlt : n < k
  · repeat' (first | (refine Run.drwP [7, 9] [0, 1, 2, 3, 4, 5, 6, 7, 8, 9] [none, none, none, none, none, none, none, some [0], none, some []] mixed (by kernel_rfl) rfl ?_) | refine Run.ctl rfl ?_ | (refine Rg.op false tok rfl rfl rfl rfl ?_ ?_ ?_; (first | exact ⟨⟩ | omega | focus (simp <;> omega) | decide +kernel); (first | exact trivial | exact rfl | exact .inl rfl | exact .inr rfl | focus ((repeat (first | exact trivial | (refine ⟨Stay.op false tok rfl rfl rfl ?_ (fun t ht => by cases ht; rfl), ?_⟩; (first | exact ⟨⟩ | omega | focus (simp <;> omega) | decide +kernel)) | (refine ⟨Stay.op true tok rfl rfl rfl ?_ (fun t ht => by cases ht; rfl), ?_⟩; (first | exact ⟨⟩ | omega | focus (simp <;> omega) | decide +kernel)) | refine ⟨Stay.skip rfl rfl (fun t ht => by cases ht; rfl), ?_⟩)); done))) | (refine Rg.op true tok rfl rfl rfl rfl ?_ ?_ ?_; (first | exact ⟨⟩ | omega | focus (simp <;> omega) | decide +kernel); (first | exact trivial | exact rfl | exact .inl rfl | exact .inr rfl | focus ((repeat (first | exact trivial | (refine ⟨Stay.op false tok rfl rfl rfl ?_ (fun t ht => by cases ht; rfl), ?_⟩; (first | exact ⟨⟩ | omega | focus (simp <;> omega) | decide +kernel)) | (refine ⟨Stay.op true tok rfl rfl rfl ?_ (fun t ht => by cases ht; rfl), ?_⟩; (first | exact ⟨⟩ | omega | focus (simp <;> omega) | decide +kernel)) | refine ⟨Stay.skip rfl rfl (fun t ht => by cases ht; rfl), ?_⟩)); done))) | refine Rg.nil ?_ | refine Rg.fork ?_ ?_ | refine Rg.skip rfl rfl rfl ?_ | refine Run.regR ?_ | refine Run.drwR mixed (by kernel_rfl) rfl ?_ | refine Run.condT rfl ?_ | refine Run.condF rfl ?_ | ((first | refine Run.condB rfl (fun hc => ?_) (fun hc => ?_) | ((fail_if_success (refine Rg.lit true rfl ?_)); (fail_if_success (refine Rg.lit false rfl ?_)); refine Rg.guard rfl (fun hc => ?_) (fun hc => ?_))) <;> ((try simp only [cs] at hc); (first | ((exfalso; omega); done) | skip))))
    refine Rg.any rfl rfl rfl (fun _ hq => G_copyO tok (min n (k - n)) rfl rfl rfl rfl rfl rfl rfl rfl rfl rfl (by dsimp only; omega) (by dsimp only; omega) (by omega) hq) (by (first | exact trivial | exact rfl | exact .inl rfl | exact .inr rfl | focus ((repeat (first | exact trivial | (refine ⟨Stay.op false tok rfl rfl rfl ?_ (fun t ht => by cases ht; rfl), ?_⟩; (first | exact ⟨⟩ | omega | focus (simp <;> omega) | decide +kernel)) | (refine ⟨Stay.op true tok rfl rfl rfl ?_ (fun t ht => by cases ht; rfl), ?_⟩; (first | exact ⟨⟩ | omega | focus (simp <;> omega) | decide +kernel)) | refine ⟨Stay.skip rfl rfl (fun t ht => by cases ht; rfl), ?_⟩)); done))) ?_
    repeat' (first | refine Run.ctl rfl ?_ | (refine Rg.op false tok rfl rfl rfl rfl ?_ ?_ ?_; (first | exact ⟨⟩ | omega | focus (simp <;> omega) | decide +kernel); (first | exact trivial | exact rfl | exact .inl rfl | exact .inr rfl)) | (refine Rg.op true tok rfl rfl rfl rfl ?_ ?_ ?_; (first | exact ⟨⟩ | omega | focus (simp <;> omega) | decide +kernel); (first | exact trivial | exact rfl | exact .inl rfl | exact .inr rfl)) | refine Rg.nil ?_ | refine Rg.skip rfl rfl rfl ?_ | refine Run.regR ?_ | refine Run.condT rfl ?_ | refine Run.condF rfl ?_ | ((first | refine Run.condB rfl (fun hc => ?_) (fun hc => ?_) | ((fail_if_success (refine Rg.lit true rfl ?_)); (fail_if_success (refine Rg.lit false rfl ?_)); refine Rg.guard rfl (fun hc => ?_) (fun hc => ?_))) <;> ((try simp only [cs] at hc); (first | ((exfalso; omega); done) | skip))))
    refine backR [0, 1] (n + min n (k - n)) _ _ ⟨by omega, by omega⟩ (by omega) rfl ⟨⟨_, rfl, rfl, rfl, rfl, rfl, fun k hk => .ofEq rfl rfl⟩, ⟨_, rfl, rfl, rfl, rfl, rfl, fun j hj => .ofEq (by
      dsimp only
      simp only [Nat.zero_add, Int.toNat_natCast, show Int.toNat 0 = 0 from rfl]
      exact repEl_cp x n _ (by omega) j) (repEl_cl _ _ _)⟩, trivial⟩ ⟨.slcN rfl rfl rfl, .cl rfl, trivial⟩
  · obtain rfl : n = k := by omega
    repeat' (first | refine Run.ctl rfl ?_ | (refine Rg.op false tok rfl rfl rfl rfl ?_ ?_ ?_; (first | exact ⟨⟩ | omega | focus (simp <;> omega) | decide +kernel); (first | exact trivial | exact rfl | exact .inl rfl | exact .inr rfl)) | (refine Rg.op true tok rfl rfl rfl rfl ?_ ?_ ?_; (first | exact ⟨⟩ | omega | focus (simp <;> omega) | decide +kernel); (first | exact trivial | exact rfl | exact .inl rfl | exact .inr rfl)) | refine Rg.nil ?_ | refine Rg.skip rfl rfl rfl ?_ | refine Run.regR ?_ | refine Run.condT rfl ?_ | refine Run.condF rfl ?_ | ((first | refine Run.condB rfl (fun hc => ?_) (fun hc => ?_) | ((fail_if_success (refine Rg.lit true rfl ?_)); (fail_if_success (refine Rg.lit false rfl ?_)); refine Rg.guard rfl (fun hc => ?_) (fun hc => ?_))) <;> ((try simp only [cs] at hc); (first | ((exfalso; omega); done) | skip))))
    refine Run.renumL [0, 1] [rowI [x], rowI (List.replicate n x)] [(4, .slc 1 0 n)] rfl rfl rfl rfl ⟨⟨_, rfl, rfl, rfl, rfl, rfl, fun k hk => .ofEq rfl rfl⟩, ⟨_, rfl, rfl, rfl, by simp, rfl, fun j hj => .ofEq (by dsimp only at hj ⊢; rw [repEl_in hj]; simp [rows, hj]) rfl⟩, trivial⟩ ⟨.slcN rfl rfl rfl, trivial⟩ ?_
    (first | refine Run.ret tok Tryd.func53 rfl ?_ | refine Run.fall tok Tryd.func53 rfl ?_)
    exact ⟨rfl, rfl⟩
end Go.Proofs.YtffckdfcmdmnoaaDoor.W
end
section
/- Plain: the depths that the walk ahead of running finds. -/
set_option linter.unusedVariables false
set_option linter.unusedSimpArgs false
set_option linter.unusedSectionVars false
namespace Go.Proofs.YtffckdfcmdmnoaaDoor.W
open Go Go.Sy

/-- The most on the stack so far. -/
def moOf (p : Pg) (code : List Instr) (at_ : Int) (out : List Int) (mo : Int) : Int :=
  if at_ = code.length then mo else lmax mo [out.getD at_.toNat default, out.getD at_.toNat default - takesOf p (code.getD at_.toNat default) + opPuts (code.getD at_.toNat default).op]
def walkO (p : Pg) (code : List Instr) : Nat → List Int → List Int → Int → Option (List Int × Int)
  | 0, out, left, mo => if left.isEmpty then some (out, mo) else none
  | f + 1, out, left, mo => match left with
    | [] => some (out, mo)
    | at_ :: l => match walkStep p code at_ out l with
      | none => none
      | some (o, l') => walkO p code f o l' (moOf p code at_ out mo)
theorem walkO_some (p : Pg) (code : List Instr) : ∀ (f : Nat) (out left : List Int) (mo : Int), (walkO p code f out left mo).isSome = walkRun p code f out left
  | 0, out, left, mo => by unfold walkO walkRun; cases left <;> rfl
  | f + 1, out, left, mo => by
    unfold walkO walkRun
    cases left with
    | nil => rfl
    | cons a l =>
      dsimp only
      cases hw : walkStep p code a out l with
      | none => rfl
      | some x => exact walkO_some p code f _ _ _
/-- How many numbers are on the stack at each place, and the most; none: a handler that may not be. -/
def depthsOf (p : Pg) (h : Hd) : Option (List Int × Int) := walkO p h.code (h.code.length + 1) ((List.replicate (h.code.length + 1) (-1)).set 0 0) [0] 0
theorem depthsOf_some (p : Pg) (h : Hd) : (depthsOf p h).isSome = walkOk p h := walkO_some ..
structure Bd (n : Nat) (out left : List Int) : Prop where
  len : out.length = n + 1
  rng : ∀ k ∈ out, -1 ≤ k ∧ k ≤ 8
  lft : ∀ a ∈ left, 0 ≤ a ∧ a ≤ n
theorem Bd.at {n : Nat} {out left : List Int} (h : Bd n out left) {k : Nat} (hk : k ≤ n) : -1 ≤ out.getD k 0 ∧ out.getD k 0 ≤ 8 := by
  have hl : k < out.length := by have := h.len; omega
  refine h.rng _ ?_
  rw [List.getD_eq_getElem?_getD, List.getElem?_eq_getElem hl]
  exact List.getElem_mem hl
theorem Bd.push {n : Nat} {out left : List Int} (h : Bd n out left) {k m : Int} (hk : 0 ≤ k ∧ k ≤ n) (hm : 0 ≤ m ∧ m ≤ 8) : Bd n (out.set k.toNat m) (left ++ [k]) := by
  refine ⟨by rw [List.length_set]; exact h.len, fun x hx => ?_, fun a ha => ?_⟩
  · rcases List.mem_or_eq_of_mem_set hx with hx | rfl
    · exact h.rng x hx
    · omega
  · rcases List.mem_append.1 ha with ha | ha
    · exact h.lft a ha
    · rw [List.mem_singleton] at ha; rw [ha]; exact hk
theorem pushTo_at (n : Int) {ks : List Int} {j : Nat} (hj : j < ks.length) (out left : List Int) : pushTo n (ks.drop j) out left =
    if out.getD (ks.getD j 0).toNat 0 = -1 then pushTo n (ks.drop (j + 1)) (out.set (ks.getD j 0).toNat n) (left ++ [ks.getD j 0])
    else if out.getD (ks.getD j 0).toNat 0 = n then pushTo n (ks.drop (j + 1)) out left else none := by
  rw [List.drop_eq_getElem_cons hj]
  have : ks.getD j 0 = ks[j] := by simp [hj]
  rw [this]
  rfl
end Go.Proofs.YtffckdfcmdmnoaaDoor.W
end
section
/- Walks: the stack, ahead of running (chapter 4). -/
set_option linter.unusedVariables false
set_option linter.unusedSimpArgs false
set_option linter.unusedSectionVars false
set_option pp.maxSteps 40000
set_option maxHeartbeats 2000000
namespace Go.Proofs.YtffckdfcmdmnoaaDoor.W
open Go Go.Sy

def hbox (h : Hd) : Option Blk := some ⟨58, 2, 1, fun _ => eHd h, false, false⟩
def depthsP (o : Option (List Int × Int)) : PV := match o with
  | some (l, m) => .tup [sl 1 eInt l, i64 m, bl true]
  | none => .tup [sl 1 eInt ([] : List Int), i64 0, bl false]
theorem walk_ (p : Pg) (h : Hd) (hf : HdFit p h) (hp : p.handlers.length ≤ 16) (ha : ∀ x ∈ p.handlers, 0 ≤ x.args ∧ x.args ≤ 4) : Pure Tryd.prog 32 [pPg p, pHd h] (depthsP (depthsOf p h)) := by
  have hcl := hf.cl
  have hin : Inside h.code := fun i hi ho => (instrWhy_zero (hf.i i hi)).2.1 ho
  have hrep := repeat_ (-1) (h.code.length + 1) (by omega) (by omega)
  unfold depthsOf
  generalize hD : walkO p h.code (h.code.length + 1) ((List.replicate (h.code.length + 1) (-1)).set 0 0) [0] 0 = D
  have hclD : closedB (depthsP D) = true := by cases D <;> rfl
  refine Pure.of_spec (Spec.of_run (fn := Tryd.f32) Tryd.func32 rfl rfl (by kernel_rfl) ?_) hclD
  repeat' (first | refine Run.ctl rfl ?_ | (refine Rg.op false tok rfl rfl rfl rfl ?_ ?_ ?_; (first | exact ⟨⟩ | omega | focus (simp <;> omega) | decide +kernel); (first | exact trivial | exact rfl | exact .inl rfl | exact .inr rfl | focus ((repeat (first | exact trivial | (refine ⟨Stay.op false tok rfl rfl rfl ?_ (fun t ht => by cases ht; rfl), ?_⟩; (first | exact ⟨⟩ | omega | focus (simp <;> omega) | decide +kernel)) | (refine ⟨Stay.op true tok rfl rfl rfl ?_ (fun t ht => by cases ht; rfl), ?_⟩; (first | exact ⟨⟩ | omega | focus (simp <;> omega) | decide +kernel)) | refine ⟨Stay.skip rfl rfl (fun t ht => by cases ht; rfl), ?_⟩)); done))) | (refine Rg.op true tok rfl rfl rfl rfl ?_ ?_ ?_; (first | exact ⟨⟩ | omega | focus (simp <;> omega) | decide +kernel); (first | exact trivial | exact rfl | exact .inl rfl | exact .inr rfl | focus ((repeat (first | exact trivial | (refine ⟨Stay.op false tok rfl rfl rfl ?_ (fun t ht => by cases ht; rfl), ?_⟩; (first | exact ⟨⟩ | omega | focus (simp <;> omega) | decide +kernel)) | (refine ⟨Stay.op true tok rfl rfl rfl ?_ (fun t ht => by cases ht; rfl), ?_⟩; (first | exact ⟨⟩ | omega | focus (simp <;> omega) | decide +kernel)) | refine ⟨Stay.skip rfl rfl (fun t ht => by cases ht; rfl), ?_⟩)); done))) | refine Rg.nil ?_ | refine Rg.fork ?_ ?_ | refine Rg.skip rfl rfl rfl ?_ | refine Run.regR ?_ | refine Run.drwR mixed (by kernel_rfl) rfl ?_ | refine Run.condT rfl ?_ | refine Run.condF rfl ?_ | ((first | refine Run.condB rfl (fun hc => ?_) (fun hc => ?_) | ((fail_if_success (refine Rg.lit true rfl ?_)); (fail_if_success (refine Rg.lit false rfl ?_)); refine Rg.guard rfl (fun hc => ?_) (fun hc => ?_))) <;> ((try simp only [cs] at hc); (first | ((exfalso; omega); done) | skip))))
  refine Rg.own hrep [2] rfl rfl rfl rfl rfl rfl ⟨⟨_, rfl, rfl, rfl, rfl, rfl, fun k hk => (by rcases k with _ | k <;> first | exact .ofEq rfl rfl | exact absurd hk (by simp))⟩, trivial⟩ ⟨.slcN rfl rfl rfl, .cl rfl, trivial⟩ rfl rfl trivial ?_
  repeat' (first | refine Run.ctl rfl ?_ | (refine Rg.op false tok rfl rfl rfl rfl ?_ ?_ ?_; (first | exact ⟨⟩ | omega | focus (simp <;> omega) | decide +kernel); (first | exact trivial | exact rfl | exact .inl rfl | exact .inr rfl | focus ((repeat (first | exact trivial | (refine ⟨Stay.op false tok rfl rfl rfl ?_ (fun t ht => by cases ht; rfl), ?_⟩; (first | exact ⟨⟩ | omega | focus (simp <;> omega) | decide +kernel)) | (refine ⟨Stay.op true tok rfl rfl rfl ?_ (fun t ht => by cases ht; rfl), ?_⟩; (first | exact ⟨⟩ | omega | focus (simp <;> omega) | decide +kernel)) | refine ⟨Stay.skip rfl rfl (fun t ht => by cases ht; rfl), ?_⟩)); done))) | (refine Rg.op true tok rfl rfl rfl rfl ?_ ?_ ?_; (first | exact ⟨⟩ | omega | focus (simp <;> omega) | decide +kernel); (first | exact trivial | exact rfl | exact .inl rfl | exact .inr rfl | focus ((repeat (first | exact trivial | (refine ⟨Stay.op false tok rfl rfl rfl ?_ (fun t ht => by cases ht; rfl), ?_⟩; (first | exact ⟨⟩ | omega | focus (simp <;> omega) | decide +kernel)) | (refine ⟨Stay.op true tok rfl rfl rfl ?_ (fun t ht => by cases ht; rfl), ?_⟩; (first | exact ⟨⟩ | omega | focus (simp <;> omega) | decide +kernel)) | refine ⟨Stay.skip rfl rfl (fun t ht => by cases ht; rfl), ?_⟩)); done))) | refine Rg.nil ?_ | refine Rg.fork ?_ ?_ | refine Rg.skip rfl rfl rfl ?_ | refine Run.regR ?_ | refine Run.drwR mixed (by kernel_rfl) rfl ?_ | refine Run.condT rfl ?_ | refine Run.condF rfl ?_ | ((first | refine Run.condB rfl (fun hc => ?_) (fun hc => ?_) | ((fail_if_success (refine Rg.lit true rfl ?_)); (fail_if_success (refine Rg.lit false rfl ?_)); refine Rg.guard rfl (fun hc => ?_) (fun hc => ?_))) <;> ((try simp only [cs] at hc); (first | ((exfalso; omega); done) | skip))))
  have hout0 : ((List.replicate (h.code.length + 1) (-1 : Int)).set 0 0).length = h.code.length + 1 := by simp
  have hset := fun k => rows_set eInt (List.replicate (h.code.length + 1) (-1 : Int)) 0 (k := 0) (by simp) k
  refine Run.renumL [0, 1, 3, 4] [pbox p, hbox h, rowI ((List.replicate (h.code.length + 1) (-1)).set 0 0), rowI [0]] [(2, .ptr 0 0 0), (3, .ptr 1 0 0), (4, .slc 2 0 ((List.replicate (h.code.length + 1) (-1 : Int)).set 0 0).length), (5, i64 0), (7, .slc 3 0 1)] rfl rfl rfl rfl
    ⟨⟨_, rfl, rfl, rfl, rfl, rfl, fun k hk => .ofEq rfl rfl⟩, ⟨_, rfl, rfl, rfl, rfl, rfl, fun k hk => .ofEq rfl rfl⟩, ⟨_, rfl, rfl, rfl, by simp, rfl, fun k hk => .ofEq (by dsimp only; rw [hset k]; rfl) rfl⟩, ⟨_, rfl, rfl, rfl, rfl, rfl, fun k hk => (by rcases k with _ | k <;> first | exact .ofEq rfl rfl | exact absurd hk (by simp))⟩, trivial⟩ ⟨.ptrN rfl rfl, .ptrN rfl rfl, .slcN rfl rfl (by simp), .cl rfl, .slcN rfl rfl rfl, trivial⟩ ?_
  refine Run.loopN (ι := Nat × List Int × List Int × List Int × Int) (fun x => ([(2, .ptr 0 0 0), (3, .ptr 1 0 0), (4, .slc 2 0 x.2.1.length), (5, i64 x.2.2.2.2), (7, .slc 3 x.2.2.1.length x.2.2.2.1.length)], [pbox p, hbox h, rowI x.2.1, rowI (x.2.2.1 ++ x.2.2.2.1)]))
    (fun x => walkO p h.code x.1 x.2.1 x.2.2.2.1 x.2.2.2.2 = D ∧ Bd h.code.length x.2.1 x.2.2.2.1 ∧ x.2.1.count (-1) + x.2.2.2.1.length ≤ x.1 ∧ x.1 ≤ 100) (fun x => x.1) (h.code.length + 1, (List.replicate (h.code.length + 1) (-1)).set 0 0, [], [0], 0) ⟨rfl, rfl, rfl, rfl, rfl, trivial⟩ rfl
    ⟨hD, ⟨hout0, fun k hk => by rcases List.mem_or_eq_of_mem_set hk with hk | rfl; (have := (List.mem_replicate.1 hk).2; omega); omega, fun a ha => by rw [List.mem_singleton] at ha; rw [ha]; omega⟩, by rw [count_rep]; simp, by dsimp only; omega⟩ ?_
  rintro ⟨f, out, pre, left, mo⟩ ⟨hw, hb, hcn, hf1⟩ back backR
  dsimp only at hw hb hcn hf1 ⊢
  cases left with
  | nil =>
    have hD2 : D = some (out, mo) := by rw [← hw]; cases f <;> rfl
    repeat' (first | refine Run.ctl rfl ?_ | (refine Rg.op false tok rfl rfl rfl rfl ?_ ?_ ?_; (first | exact ⟨⟩ | omega | focus (simp <;> omega) | decide +kernel); (first | exact trivial | exact rfl | exact .inl rfl | exact .inr rfl | focus ((repeat (first | exact trivial | (refine ⟨Stay.op false tok rfl rfl rfl ?_ (fun t ht => by cases ht; rfl), ?_⟩; (first | exact ⟨⟩ | omega | focus (simp <;> omega) | decide +kernel)) | (refine ⟨Stay.op true tok rfl rfl rfl ?_ (fun t ht => by cases ht; rfl), ?_⟩; (first | exact ⟨⟩ | omega | focus (simp <;> omega) | decide +kernel)) | refine ⟨Stay.skip rfl rfl (fun t ht => by cases ht; rfl), ?_⟩)); done))) | (refine Rg.op true tok rfl rfl rfl rfl ?_ ?_ ?_; (first | exact ⟨⟩ | omega | focus (simp <;> omega) | decide +kernel); (first | exact trivial | exact rfl | exact .inl rfl | exact .inr rfl | focus ((repeat (first | exact trivial | (refine ⟨Stay.op false tok rfl rfl rfl ?_ (fun t ht => by cases ht; rfl), ?_⟩; (first | exact ⟨⟩ | omega | focus (simp <;> omega) | decide +kernel)) | (refine ⟨Stay.op true tok rfl rfl rfl ?_ (fun t ht => by cases ht; rfl), ?_⟩; (first | exact ⟨⟩ | omega | focus (simp <;> omega) | decide +kernel)) | refine ⟨Stay.skip rfl rfl (fun t ht => by cases ht; rfl), ?_⟩)); done))) | refine Rg.nil ?_ | refine Rg.fork ?_ ?_ | refine Rg.skip rfl rfl rfl ?_ | refine Run.regR ?_ | refine Run.drwR mixed (by kernel_rfl) rfl ?_ | refine Run.condT rfl ?_ | refine Run.condF rfl ?_ | ((first | refine Run.condB rfl (fun hc => ?_) (fun hc => ?_) | ((fail_if_success (refine Rg.lit true rfl ?_)); (fail_if_success (refine Rg.lit false rfl ?_)); refine Rg.guard rfl (fun hc => ?_) (fun hc => ?_))) <;> ((try simp only [cs] at hc); (first | ((exfalso; omega); done) | skip))))
    (first | refine Run.ret tok Tryd.func32 rfl ?_ | refine Run.fall tok Tryd.func32 rfl ?_)
    rw [hD2]
    exact .tup' ⟨.row rfl rfl rfl (by dsimp only; omega) rfl (fun _ => rfl) (fun j hj => by rw [Nat.zero_add]), .refl _, .refl _, trivial⟩
  | cons at_ l =>
    obtain ⟨h0, h1⟩ := hb.lft at_ (by simp)
    obtain ⟨a, rfl⟩ : ∃ a : Nat, at_ = a := ⟨at_.toNat, by omega⟩
    obtain ⟨f, rfl⟩ : ∃ f', f = f' + 1 := ⟨f - 1, by simp at hcn; omega⟩
    have hat : (pre ++ (a : Int) :: l).getD (pre.length + 0) default = a := by simp
    have hbl : Bd h.code.length out l := ⟨hb.len, hb.rng, fun a ha => hb.lft a (by simp [ha])⟩
    have hoa := hb.at (k := a) (by omega)
    unfold walkO walkStep at hw
    dsimp only at hw
    by_cases he : a = h.code.length
    · rw [if_pos (by rw [he])] at hw
      unfold moOf at hw
      rw [if_pos (by rw [he])] at hw
      repeat' (first | refine Run.rw 8 (q := i64 a) (by show PV.atom (Value.int .i64 ((pre ++ (a : Int) :: l).getD (pre.length + 0) default)) = i64 a; rw [hat]; rfl) ?_ | refine Run.ctl rfl ?_ | (refine Rg.op false tok rfl rfl rfl rfl ?_ ?_ ?_; (first | exact ⟨⟩ | omega | focus ((show pre.length < (pre ++ (a : Int) :: l).length; simp; done)) | focus (simp <;> omega) | decide +kernel); (first | exact trivial | exact rfl | exact .inl rfl | exact .inr rfl | focus ((repeat (first | exact trivial | (refine ⟨Stay.op false tok rfl rfl rfl ?_ (fun t ht => by cases ht; rfl), ?_⟩; (first | exact ⟨⟩ | omega | focus (simp <;> omega) | decide +kernel)) | (refine ⟨Stay.op true tok rfl rfl rfl ?_ (fun t ht => by cases ht; rfl), ?_⟩; (first | exact ⟨⟩ | omega | focus (simp <;> omega) | decide +kernel)) | refine ⟨Stay.skip rfl rfl (fun t ht => by cases ht; rfl), ?_⟩)); done))) | (refine Rg.op true tok rfl rfl rfl rfl ?_ ?_ ?_; (first | exact ⟨⟩ | omega | focus ((show pre.length < (pre ++ (a : Int) :: l).length; simp; done)) | focus (simp <;> omega) | decide +kernel); (first | exact trivial | exact rfl | exact .inl rfl | exact .inr rfl | focus ((repeat (first | exact trivial | (refine ⟨Stay.op false tok rfl rfl rfl ?_ (fun t ht => by cases ht; rfl), ?_⟩; (first | exact ⟨⟩ | omega | focus (simp <;> omega) | decide +kernel)) | (refine ⟨Stay.op true tok rfl rfl rfl ?_ (fun t ht => by cases ht; rfl), ?_⟩; (first | exact ⟨⟩ | omega | focus (simp <;> omega) | decide +kernel)) | refine ⟨Stay.skip rfl rfl (fun t ht => by cases ht; rfl), ?_⟩)); done))) | refine Rg.nil ?_ | refine Rg.fork ?_ ?_ | refine Rg.skip rfl rfl rfl ?_ | refine Run.regR ?_ | refine Run.drwR mixed (by kernel_rfl) rfl ?_ | refine Run.condT rfl ?_ | refine Run.condF rfl ?_ | ((first | refine Run.condB rfl (fun hc => ?_) (fun hc => ?_) | ((fail_if_success (refine Rg.lit true rfl ?_)); (fail_if_success (refine Rg.lit false rfl ?_)); refine Rg.guard rfl (fun hc => ?_) (fun hc => ?_))) <;> ((try simp only [cs] at hc); (first | ((exfalso; simp only [List.length_cons] at hc; omega); done) | ((exfalso; omega); done) | skip))))
      exact backR [0, 1, 2, 3] (f, out, pre ++ [(a : Int)], l, mo) _ _ ⟨hw, hbl, by simp only [List.length_cons] at hcn; dsimp only; omega, by dsimp only; omega⟩ (by dsimp only; omega) rfl
        ⟨⟨_, rfl, rfl, rfl, rfl, rfl, fun k hk => .ofEq rfl rfl⟩, ⟨_, rfl, rfl, rfl, rfl, rfl, fun k hk => .ofEq rfl rfl⟩, ⟨_, rfl, rfl, rfl, rfl, rfl, fun k hk => .ofEq rfl rfl⟩, ⟨_, rfl, rfl, rfl, by simp, rfl, fun k hk => .ofEq (by dsimp only; rw [List.append_assoc]; rfl) rfl⟩, trivial⟩
        ⟨.ptrN rfl rfl, .ptrN rfl rfl, .slcN rfl rfl rfl, .cl rfl, .slcK rfl rfl (by simp) (by simp), trivial⟩
    · have hac : a < h.code.length := by omega
      rw [if_neg (by omega)] at hw
      have hmo : moOf p h.code (a : Int) out mo = lmax mo [out.getD (0 + a) default, out.getD (0 + a) default - takesOf p (h.code.getD a default) + opPuts (h.code.getD a default).op] := by
        unfold moOf
        rw [if_neg (by omega), Int.toNat_natCast, Nat.zero_add]
      rw [hmo, Int.toNat_natCast] at hw
      clear hmo
      have hi0 := hf.i _ (mem_getD hac)
      have hi1 := instrWhy_zero hi0
      have hks : ∀ k ∈ nextOf a (h.code.getD a default), 0 ≤ k ∧ k ≤ h.code.length := fun k hk => nextOf_in hin h0 (by omega) (by rw [Int.toNat_natCast]; exact hk)
      have hkl : (nextOf a (h.code.getD a default)).length ≤ 2 := by
        unfold nextOf
        split
        · simp
        split
        · simp
        split <;> simp
      generalize hi : h.code.getD a default = i at hw hi1 hks hkl
      have harg : i.op = 22 → 0 ≤ (p.handlers.getD i.a.toNat default).args ∧ (p.handlers.getD i.a.toNat default).args ≤ 4 := fun ho => ha _ (mem_getD (by have := hi1.2.2.2.2.1 ho; omega))
      have ht := takes_ p i (fun ho => by have := hi1.2.2.2.2.1 ho; have := harg ho; unfold R64; omega)
      have htr : 0 ≤ takesOf p i ∧ takesOf p i ≤ 6 := by
        unfold takesOf
        have := opPops_rng i.op
        by_cases ho : i.op = 22
        · rw [if_pos ho]; have := harg ho; omega
        · rw [if_neg ho]; omega
      have hpu := opsPuts_ i.op
      have hpr := opPuts_rng i.op
      have hnx := next_ a i h0 (by omega)
      have hoa2 : -1 ≤ out.getD (0 + a) default ∧ out.getD (0 + a) default ≤ 8 ∧ out.getD (0 + a) default = out.getD a 0 := by rw [Nat.zero_add]; exact ⟨hoa.1, hoa.2, rfl⟩
      generalize takesOf p i = tk at hw ht htr
      generalize opPuts i.op = pu at hw hpu hpr
      generalize nextOf a i = ks at hw hks hkl hnx
      have hal : a < out.length := by have := hbl.len; omega
      by_cases hbad : out.getD a 0 - tk < 0 ∨ 8 < out.getD a 0 - tk + pu
      · rw [if_pos hbad] at hw
        subst hi
        repeat' (first | refine Run.rw 8 (q := i64 a) (by show PV.atom (Value.int .i64 ((pre ++ (a : Int) :: l).getD (pre.length + 0) default)) = i64 a; rw [hat]; rfl) ?_ | refine Run.ctl rfl ?_ | (refine Rg.op false tok rfl rfl rfl rfl ?_ ?_ ?_; (first | exact ⟨⟩ | omega | focus ((show pre.length < (pre ++ (a : Int) :: l).length; simp; done)) | focus (simp <;> omega) | decide +kernel); (first | exact trivial | exact rfl | exact .inl rfl | exact .inr rfl | focus ((repeat (first | exact trivial | (refine ⟨Stay.op false tok rfl rfl rfl ?_ (fun t ht => by cases ht; rfl), ?_⟩; (first | exact ⟨⟩ | omega | focus (simp <;> omega) | decide +kernel)) | (refine ⟨Stay.op true tok rfl rfl rfl ?_ (fun t ht => by cases ht; rfl), ?_⟩; (first | exact ⟨⟩ | omega | focus (simp <;> omega) | decide +kernel)) | refine ⟨Stay.skip rfl rfl (fun t ht => by cases ht; rfl), ?_⟩)); done))) | refine Rg.call (ht) rfl rfl rfl rfl rfl ⟨⟨.refl _, .refl _, trivial⟩, rfl⟩ ?_ | refine Rg.call (hpu) rfl rfl rfl rfl rfl ⟨⟨.refl _, trivial⟩, rfl⟩ ?_ | (refine Rg.op true tok rfl rfl rfl rfl ?_ ?_ ?_; (first | exact ⟨⟩ | omega | focus ((show pre.length < (pre ++ (a : Int) :: l).length; simp; done)) | focus (simp <;> omega) | decide +kernel); (first | exact trivial | exact rfl | exact .inl rfl | exact .inr rfl | focus ((repeat (first | exact trivial | (refine ⟨Stay.op false tok rfl rfl rfl ?_ (fun t ht => by cases ht; rfl), ?_⟩; (first | exact ⟨⟩ | omega | focus (simp <;> omega) | decide +kernel)) | (refine ⟨Stay.op true tok rfl rfl rfl ?_ (fun t ht => by cases ht; rfl), ?_⟩; (first | exact ⟨⟩ | omega | focus (simp <;> omega) | decide +kernel)) | refine ⟨Stay.skip rfl rfl (fun t ht => by cases ht; rfl), ?_⟩)); done))) | refine Rg.nil ?_ | refine Rg.fork ?_ ?_ | refine Rg.skip rfl rfl rfl ?_ | refine Run.regR ?_ | refine Run.drwR mixed (by kernel_rfl) rfl ?_ | refine Run.condT rfl ?_ | refine Run.condF rfl ?_ | ((first | refine Run.condB rfl (fun hc => ?_) (fun hc => ?_) | ((fail_if_success (refine Rg.lit true rfl ?_)); (fail_if_success (refine Rg.lit false rfl ?_)); refine Rg.guard rfl (fun hc => ?_) (fun hc => ?_))) <;> ((try simp only [cs] at hc); (first | ((exfalso; simp only [List.length_cons] at hc; omega); done) | ((exfalso; omega); done) | skip))))
        all_goals ((first | refine Run.ret tok Tryd.func32 rfl ?_ | refine Run.fall tok Tryd.func32 rfl ?_); rw [← hw]; exact .tup' ⟨.rowNil, .refl _, .refl _, trivial⟩)
      · rw [if_neg hbad] at hw
        subst hi
        repeat' (first | refine Run.rw 8 (q := i64 a) (by show PV.atom (Value.int .i64 ((pre ++ (a : Int) :: l).getD (pre.length + 0) default)) = i64 a; rw [hat]; rfl) ?_ | refine Run.ctl rfl ?_ | (refine Rg.op false tok rfl rfl rfl rfl ?_ ?_ ?_; (first | exact ⟨⟩ | omega | focus ((show pre.length < (pre ++ (a : Int) :: l).length; simp; done)) | focus (simp <;> omega) | decide +kernel); (first | exact trivial | exact rfl | exact .inl rfl | exact .inr rfl | focus ((repeat (first | exact trivial | (refine ⟨Stay.op false tok rfl rfl rfl ?_ (fun t ht => by cases ht; rfl), ?_⟩; (first | exact ⟨⟩ | omega | focus (simp <;> omega) | decide +kernel)) | (refine ⟨Stay.op true tok rfl rfl rfl ?_ (fun t ht => by cases ht; rfl), ?_⟩; (first | exact ⟨⟩ | omega | focus (simp <;> omega) | decide +kernel)) | refine ⟨Stay.skip rfl rfl (fun t ht => by cases ht; rfl), ?_⟩)); done))) | refine Rg.call (ht) rfl rfl rfl rfl rfl ⟨⟨.refl _, .refl _, trivial⟩, rfl⟩ ?_ | refine Rg.call (hpu) rfl rfl rfl rfl rfl ⟨⟨.refl _, trivial⟩, rfl⟩ ?_ | refine Rg.call (hnx) rfl rfl rfl rfl rfl ⟨⟨.refl _, .refl _, trivial⟩, rfl⟩ ?_ | (refine Rg.op true tok rfl rfl rfl rfl ?_ ?_ ?_; (first | exact ⟨⟩ | omega | focus ((show pre.length < (pre ++ (a : Int) :: l).length; simp; done)) | focus (simp <;> omega) | decide +kernel); (first | exact trivial | exact rfl | exact .inl rfl | exact .inr rfl | focus ((repeat (first | exact trivial | (refine ⟨Stay.op false tok rfl rfl rfl ?_ (fun t ht => by cases ht; rfl), ?_⟩; (first | exact ⟨⟩ | omega | focus (simp <;> omega) | decide +kernel)) | (refine ⟨Stay.op true tok rfl rfl rfl ?_ (fun t ht => by cases ht; rfl), ?_⟩; (first | exact ⟨⟩ | omega | focus (simp <;> omega) | decide +kernel)) | refine ⟨Stay.skip rfl rfl (fun t ht => by cases ht; rfl), ?_⟩)); done))) | refine Rg.nil ?_ | refine Rg.fork ?_ ?_ | refine Rg.skip rfl rfl rfl ?_ | refine Run.regR ?_ | refine Run.drwR mixed (by kernel_rfl) rfl ?_ | refine Run.condT rfl ?_ | refine Run.condF rfl ?_ | ((first | refine Run.condB rfl (fun hc => ?_) (fun hc => ?_) | ((fail_if_success (refine Rg.lit true rfl ?_)); (fail_if_success (refine Rg.lit false rfl ?_)); refine Rg.guard rfl (fun hc => ?_) (fun hc => ?_))) <;> ((try simp only [cs] at hc); (first | ((exfalso; simp only [List.length_cons] at hc; omega); done) | ((exfalso; omega); done) | skip))))
        rw [← hoa2.2.2] at hw hbad
        refine Run.renumL [0, 1, 2, 3] [pbox p, hbox h, rowI out, rowI ((pre ++ [(a : Int)]) ++ l)] [(2, .ptr 0 0 0), (3, .ptr 1 0 0), (4, .slc 2 0 out.length), (5, i64 (lmax mo [out.getD (0 + a) default, out.getD (0 + a) default - tk + pu])), (7, .slc 3 (pre ++ [(a : Int)]).length l.length), (10, i64 (out.getD (0 + a) default - tk + pu)), (72, sl 1 eInt ks), (73, i64 ks.length), (74, i64 (0 : Nat))] rfl rfl rfl rfl
          ⟨⟨_, rfl, rfl, rfl, rfl, rfl, fun k hk => .ofEq rfl rfl⟩, ⟨_, rfl, rfl, rfl, rfl, rfl, fun k hk => .ofEq rfl rfl⟩, ⟨_, rfl, rfl, rfl, rfl, rfl, fun k hk => .ofEq rfl rfl⟩, ⟨_, rfl, rfl, rfl, by simp, rfl, fun k hk => .ofEq (by dsimp only; rw [List.append_assoc]; rfl) rfl⟩, trivial⟩
          ⟨.ptrN rfl rfl, .ptrN rfl rfl, .slcN rfl rfl rfl, .cl rfl, .slcK rfl rfl (by simp) (by simp), .cl rfl, .cl rfl, .cl rfl, .cl rfl, trivial⟩ ?_
        have hN : 0 ≤ out.getD (0 + a) default - tk + pu ∧ out.getD (0 + a) default - tk + pu ≤ 8 := by omega
        generalize lmax mo [out.getD (0 + a) default, out.getD (0 + a) default - tk + pu] = M at hw ⊢
        generalize out.getD (0 + a) default - tk + pu = N at hw hN ⊢
        refine Run.loopN (ι := Nat × List Int × List Int × List Int) (fun x => ([(2, .ptr 0 0 0), (3, .ptr 1 0 0), (4, .slc 2 0 x.2.1.length), (5, i64 M), (7, .slc 3 x.2.2.1.length x.2.2.2.length), (10, i64 N), (72, sl 1 eInt ks), (73, i64 ks.length), (74, i64 x.1)], [pbox p, hbox h, rowI x.2.1, rowI (x.2.2.1 ++ x.2.2.2)]))
          (fun x => x.1 ≤ ks.length ∧ (match pushTo N (ks.drop x.1) x.2.1 x.2.2.2 with | none => none | some (o, l') => walkO p h.code f o l' M) = D ∧ Bd h.code.length x.2.1 x.2.2.2 ∧ x.2.1.count (-1) + x.2.2.2.length ≤ f) (fun x => ks.length - x.1) (0, out, pre ++ [(a : Int)], l) ⟨rfl, rfl, rfl, rfl, rfl, rfl, rfl, rfl, rfl, trivial⟩ rfl
          ⟨by omega, hw, hbl, by simp only [List.length_cons] at hcn; dsimp only; omega⟩ ?_
        clear hw hbl hb hcn hoa hoa2 hal hbad hat
        rintro ⟨j, o, pr, lf⟩ ⟨hj, hw, hb, hcn⟩ back2 backR2
        dsimp only at hj hw hb hcn ⊢
        by_cases hjl : j < ks.length
        · rw [pushTo_at N hjl] at hw
          obtain ⟨hk0, hk1⟩ := hks (ks.getD j default) (mem_getD hjl)
          obtain ⟨kk, hkk⟩ : ∃ kk : Nat, ks.getD j default = kk := ⟨(ks.getD j default).toNat, by omega⟩
          rw [show ks.getD j 0 = kk from hkk, Int.toNat_natCast] at hw
          rw [hkk] at hk0 hk1
          have hko : kk < o.length := by have := hb.len; omega
          by_cases h1 : o.getD kk 0 = -1
          · rw [if_pos h1] at hw
            have hq1 : o.getD (0 + kk) default = -1 := by rw [Nat.zero_add]; exact h1
            have hq2 : (o.set kk N).getD (0 + kk) default = N := by rw [Nat.zero_add]; simp [hko]
            have hb2 := hb.push (k := kk) (m := N) ⟨by omega, by omega⟩ hN
            rw [Int.toNat_natCast] at hb2
            have hc2 := count_set (n := N) hko h1 (by omega)
            repeat' (first | refine Run.rw 12 (q := i64 kk) (by show PV.atom (Value.int .i64 (ks.getD j default)) = i64 kk; rw [hkk]; rfl) ?_ | refine Run.same (i := 2) (B := ⟨3, 1, o.length, fun j => bif Nat.beq j (0 + kk) then setL 0 (rows eInt o (0 + kk)) [i64 N] else rows eInt o j, false, false⟩) ⟨3, 1, (o.set kk N).length, rows eInt (o.set kk N), false, false⟩ rfl rfl rfl (by simp) rfl (fun j hj => by dsimp only; rw [rows_set eInt o N hko j]; rfl) ?_ | refine Run.ctl rfl ?_ | (refine Rg.op false tok rfl rfl rfl rfl ?_ ?_ ?_; (first | exact ⟨⟩ | omega | focus (simp <;> omega) | decide +kernel); (first | exact trivial | exact rfl | exact .inl rfl | exact .inr rfl | focus ((repeat (first | exact trivial | (refine ⟨Stay.op false tok rfl rfl rfl ?_ (fun t ht => by cases ht; rfl), ?_⟩; (first | exact ⟨⟩ | omega | focus (simp <;> omega) | decide +kernel)) | (refine ⟨Stay.op true tok rfl rfl rfl ?_ (fun t ht => by cases ht; rfl), ?_⟩; (first | exact ⟨⟩ | omega | focus (simp <;> omega) | decide +kernel)) | refine ⟨Stay.skip rfl rfl (fun t ht => by cases ht; rfl), ?_⟩)); done))) | (refine Rg.op true tok rfl rfl rfl rfl ?_ ?_ ?_; (first | exact ⟨⟩ | omega | focus (simp <;> omega) | decide +kernel); (first | exact trivial | exact rfl | exact .inl rfl | exact .inr rfl | focus ((repeat (first | exact trivial | (refine ⟨Stay.op false tok rfl rfl rfl ?_ (fun t ht => by cases ht; rfl), ?_⟩; (first | exact ⟨⟩ | omega | focus (simp <;> omega) | decide +kernel)) | (refine ⟨Stay.op true tok rfl rfl rfl ?_ (fun t ht => by cases ht; rfl), ?_⟩; (first | exact ⟨⟩ | omega | focus (simp <;> omega) | decide +kernel)) | refine ⟨Stay.skip rfl rfl (fun t ht => by cases ht; rfl), ?_⟩)); done))) | refine Rg.nil ?_ | refine Rg.fork ?_ ?_ | refine Rg.skip rfl rfl rfl ?_ | refine Run.regR ?_ | refine Run.drwR mixed (by kernel_rfl) rfl ?_ | refine Run.condT rfl ?_ | refine Run.condF rfl ?_ | ((first | refine Run.condB rfl (fun hc => ?_) (fun hc => ?_) | ((fail_if_success (refine Rg.lit true rfl ?_)); (fail_if_success (refine Rg.lit false rfl ?_)); refine Rg.guard rfl (fun hc => ?_) (fun hc => ?_))) <;> ((try simp only [cs] at hc); (first | ((exfalso; omega); done) | ((exact absurd hq1 hc); done) | ((exact absurd hq2 hc); done) | skip))))
            exact backR2 [0, 1, 2, 5] (j + 1, o.set kk N, [], lf ++ [(kk : Int)]) _ _ ⟨hjl, hw, hb2, by simp only [List.length_append, List.length_cons, List.length_nil]; omega⟩ (by dsimp only; omega) rfl
              ⟨⟨_, rfl, rfl, rfl, rfl, rfl, fun k hk => .ofEq rfl rfl⟩, ⟨_, rfl, rfl, rfl, rfl, rfl, fun k hk => .ofEq rfl rfl⟩, ⟨_, rfl, rfl, rfl, rfl, rfl, fun k hk => .ofEq rfl rfl⟩, ⟨_, rfl, rfl, rfl, by simp, rfl, fun k hk => .ofEq (by
                dsimp only at hk ⊢
                refine rows_app eInt lf [(kk : Int)] rfl (fun q hq => ?_) (fun q hq => ?_) k (by simp at hk ⊢; omega)
                · unfold rows; congr 1; simp [List.getElem?_append_right]
                · obtain rfl : q = 0 := by simpa using hq
                  rfl) rfl⟩, trivial⟩
              ⟨.ptrN rfl rfl, .ptrN rfl rfl, .slcN rfl rfl (by simp), .cl rfl, .slcN rfl rfl (by simp), .cl rfl, .cl rfl, .cl rfl, .cl rfl, trivial⟩
          · rw [if_neg h1] at hw
            have hq1 : ¬ o.getD (0 + kk) default = -1 := by rw [Nat.zero_add]; exact h1
            by_cases h2 : o.getD kk 0 = N
            · rw [if_pos h2] at hw
              have hq2 : o.getD (0 + kk) default = N := by rw [Nat.zero_add]; exact h2
              repeat' (first | refine Run.rw 12 (q := i64 kk) (by show PV.atom (Value.int .i64 (ks.getD j default)) = i64 kk; rw [hkk]; rfl) ?_ | refine Run.ctl rfl ?_ | (refine Rg.op false tok rfl rfl rfl rfl ?_ ?_ ?_; (first | exact ⟨⟩ | omega | focus (simp <;> omega) | decide +kernel); (first | exact trivial | exact rfl | exact .inl rfl | exact .inr rfl | focus ((repeat (first | exact trivial | (refine ⟨Stay.op false tok rfl rfl rfl ?_ (fun t ht => by cases ht; rfl), ?_⟩; (first | exact ⟨⟩ | omega | focus (simp <;> omega) | decide +kernel)) | (refine ⟨Stay.op true tok rfl rfl rfl ?_ (fun t ht => by cases ht; rfl), ?_⟩; (first | exact ⟨⟩ | omega | focus (simp <;> omega) | decide +kernel)) | refine ⟨Stay.skip rfl rfl (fun t ht => by cases ht; rfl), ?_⟩)); done))) | (refine Rg.op true tok rfl rfl rfl rfl ?_ ?_ ?_; (first | exact ⟨⟩ | omega | focus (simp <;> omega) | decide +kernel); (first | exact trivial | exact rfl | exact .inl rfl | exact .inr rfl | focus ((repeat (first | exact trivial | (refine ⟨Stay.op false tok rfl rfl rfl ?_ (fun t ht => by cases ht; rfl), ?_⟩; (first | exact ⟨⟩ | omega | focus (simp <;> omega) | decide +kernel)) | (refine ⟨Stay.op true tok rfl rfl rfl ?_ (fun t ht => by cases ht; rfl), ?_⟩; (first | exact ⟨⟩ | omega | focus (simp <;> omega) | decide +kernel)) | refine ⟨Stay.skip rfl rfl (fun t ht => by cases ht; rfl), ?_⟩)); done))) | refine Rg.nil ?_ | refine Rg.fork ?_ ?_ | refine Rg.skip rfl rfl rfl ?_ | refine Run.regR ?_ | refine Run.drwR mixed (by kernel_rfl) rfl ?_ | refine Run.condT rfl ?_ | refine Run.condF rfl ?_ | ((first | refine Run.condB rfl (fun hc => ?_) (fun hc => ?_) | ((fail_if_success (refine Rg.lit true rfl ?_)); (fail_if_success (refine Rg.lit false rfl ?_)); refine Rg.guard rfl (fun hc => ?_) (fun hc => ?_))) <;> ((try simp only [cs] at hc); (first | ((exfalso; omega); done) | ((exact absurd hc hq1); done) | ((exact absurd hq2 hc); done) | skip))))
              exact back2 (j + 1, o, pr, lf) _ _ ⟨hjl, hw, hb, hcn⟩ (by dsimp only; omega) ⟨rfl, rfl, rfl, rfl, rfl, rfl, rfl, rfl, rfl, trivial⟩ rfl
            · rw [if_neg h2] at hw
              have hq2 : ¬ o.getD (0 + kk) default = N := by rw [Nat.zero_add]; exact h2
              repeat' (first | refine Run.rw 12 (q := i64 kk) (by show PV.atom (Value.int .i64 (ks.getD j default)) = i64 kk; rw [hkk]; rfl) ?_ | refine Run.ctl rfl ?_ | (refine Rg.op false tok rfl rfl rfl rfl ?_ ?_ ?_; (first | exact ⟨⟩ | omega | focus (simp <;> omega) | decide +kernel); (first | exact trivial | exact rfl | exact .inl rfl | exact .inr rfl | focus ((repeat (first | exact trivial | (refine ⟨Stay.op false tok rfl rfl rfl ?_ (fun t ht => by cases ht; rfl), ?_⟩; (first | exact ⟨⟩ | omega | focus (simp <;> omega) | decide +kernel)) | (refine ⟨Stay.op true tok rfl rfl rfl ?_ (fun t ht => by cases ht; rfl), ?_⟩; (first | exact ⟨⟩ | omega | focus (simp <;> omega) | decide +kernel)) | refine ⟨Stay.skip rfl rfl (fun t ht => by cases ht; rfl), ?_⟩)); done))) | (refine Rg.op true tok rfl rfl rfl rfl ?_ ?_ ?_; (first | exact ⟨⟩ | omega | focus (simp <;> omega) | decide +kernel); (first | exact trivial | exact rfl | exact .inl rfl | exact .inr rfl | focus ((repeat (first | exact trivial | (refine ⟨Stay.op false tok rfl rfl rfl ?_ (fun t ht => by cases ht; rfl), ?_⟩; (first | exact ⟨⟩ | omega | focus (simp <;> omega) | decide +kernel)) | (refine ⟨Stay.op true tok rfl rfl rfl ?_ (fun t ht => by cases ht; rfl), ?_⟩; (first | exact ⟨⟩ | omega | focus (simp <;> omega) | decide +kernel)) | refine ⟨Stay.skip rfl rfl (fun t ht => by cases ht; rfl), ?_⟩)); done))) | refine Rg.nil ?_ | refine Rg.fork ?_ ?_ | refine Rg.skip rfl rfl rfl ?_ | refine Run.regR ?_ | refine Run.drwR mixed (by kernel_rfl) rfl ?_ | refine Run.condT rfl ?_ | refine Run.condF rfl ?_ | ((first | refine Run.condB rfl (fun hc => ?_) (fun hc => ?_) | ((fail_if_success (refine Rg.lit true rfl ?_)); (fail_if_success (refine Rg.lit false rfl ?_)); refine Rg.guard rfl (fun hc => ?_) (fun hc => ?_))) <;> ((try simp only [cs] at hc); (first | ((exfalso; omega); done) | ((exact absurd hc hq1); done) | ((exact absurd hc hq2); done) | skip))))
              (first | refine Run.ret tok Tryd.func32 rfl ?_ | refine Run.fall tok Tryd.func32 rfl ?_)
              rw [← hw]
              exact .tup' ⟨.rowNil, .refl _, .refl _, trivial⟩
        · obtain rfl : j = ks.length := by omega
          rw [List.drop_length] at hw
          unfold pushTo at hw
          dsimp only at hw
          repeat' (first | refine Run.ctl rfl ?_ | (refine Rg.op false tok rfl rfl rfl rfl ?_ ?_ ?_; (first | exact ⟨⟩ | omega | focus (simp <;> omega) | decide +kernel); (first | exact trivial | exact rfl | exact .inl rfl | exact .inr rfl | focus ((repeat (first | exact trivial | (refine ⟨Stay.op false tok rfl rfl rfl ?_ (fun t ht => by cases ht; rfl), ?_⟩; (first | exact ⟨⟩ | omega | focus (simp <;> omega) | decide +kernel)) | (refine ⟨Stay.op true tok rfl rfl rfl ?_ (fun t ht => by cases ht; rfl), ?_⟩; (first | exact ⟨⟩ | omega | focus (simp <;> omega) | decide +kernel)) | refine ⟨Stay.skip rfl rfl (fun t ht => by cases ht; rfl), ?_⟩)); done))) | (refine Rg.op true tok rfl rfl rfl rfl ?_ ?_ ?_; (first | exact ⟨⟩ | omega | focus (simp <;> omega) | decide +kernel); (first | exact trivial | exact rfl | exact .inl rfl | exact .inr rfl | focus ((repeat (first | exact trivial | (refine ⟨Stay.op false tok rfl rfl rfl ?_ (fun t ht => by cases ht; rfl), ?_⟩; (first | exact ⟨⟩ | omega | focus (simp <;> omega) | decide +kernel)) | (refine ⟨Stay.op true tok rfl rfl rfl ?_ (fun t ht => by cases ht; rfl), ?_⟩; (first | exact ⟨⟩ | omega | focus (simp <;> omega) | decide +kernel)) | refine ⟨Stay.skip rfl rfl (fun t ht => by cases ht; rfl), ?_⟩)); done))) | refine Rg.nil ?_ | refine Rg.fork ?_ ?_ | refine Rg.skip rfl rfl rfl ?_ | refine Run.regR ?_ | refine Run.drwR mixed (by kernel_rfl) rfl ?_ | refine Run.condT rfl ?_ | refine Run.condF rfl ?_ | ((first | refine Run.condB rfl (fun hc => ?_) (fun hc => ?_) | ((fail_if_success (refine Rg.lit true rfl ?_)); (fail_if_success (refine Rg.lit false rfl ?_)); refine Rg.guard rfl (fun hc => ?_) (fun hc => ?_))) <;> ((try simp only [cs] at hc); (first | ((exfalso; omega); done) | skip))))
          exact backR [0, 1, 2, 3] (f, o, pr, lf, M) _ _ ⟨hw, hb, hcn, by dsimp only; omega⟩ (by dsimp only; omega) rfl
            ⟨⟨_, rfl, rfl, rfl, rfl, rfl, fun k hk => .ofEq rfl rfl⟩, ⟨_, rfl, rfl, rfl, rfl, rfl, fun k hk => .ofEq rfl rfl⟩, ⟨_, rfl, rfl, rfl, rfl, rfl, fun k hk => .ofEq rfl rfl⟩, ⟨_, rfl, rfl, rfl, rfl, rfl, fun k hk => .ofEq rfl rfl⟩, trivial⟩
            ⟨.ptrN rfl rfl, .ptrN rfl rfl, .slcN rfl rfl rfl, .cl rfl, .slcN rfl rfl rfl, trivial⟩
theorem hdFit {p : Pg} (hp : PgFit p) {h : Hd} (hh : h ∈ p.handlers) : HdFit p h := handlerWhy_zero.1 (hp.h h hh)
theorem walkH_ {p : Pg} (hp : PgFit p) {h : Hd} (hh : h ∈ p.handlers) : Pure Tryd.prog 32 [pPg p, pHd h] (depthsP (depthsOf p h)) :=
  walk_ p h (hdFit hp hh) hp.hs (fun x hx => ⟨(hdFit hp hx).a0, (hdFit hp hx).a1⟩)
theorem all_at {α : Type} [Inhabited α] {f : α → Bool} {l : List α} {i : Nat} (hi : i < l.length) : (l.drop i).all f = (f (l.getD i default) && (l.drop (i + 1)).all f) := by
  rw [List.drop_eq_getElem_cons hi]
  have : l.getD i default = l[i] := by simp [hi]
  rw [this]
  rfl
theorem flowCheck_ (p : Pg) : Pure Tryd.prog 17 [pPg p] (i64 (flowWhy p)) := by
  have hc0 := progCheck_ p
  unfold flowWhy
  by_cases h0 : progWhy p = 0
  · have hp := progWhy_zero.1 h0
    have hhs := hp.hs
    rw [if_neg (by simpa using h0)]
    rw [h0] at hc0
    refine Pure.of_spec (Spec.of_run (fn := Tryd.f17) Tryd.func17 rfl rfl (by kernel_rfl) ?_) (by first | assumption | rfl | (split <;> rfl) | (split <;> split <;> rfl))
    repeat' (first | refine Run.ctl rfl ?_ | (refine Rg.op false tok rfl rfl rfl rfl ?_ ?_ ?_; (first | exact ⟨⟩ | omega | focus (simp <;> omega) | decide +kernel); (first | exact trivial | exact rfl | exact .inl rfl | exact .inr rfl)) | refine Rg.call (hc0) rfl rfl rfl rfl rfl ⟨⟨.refl _, trivial⟩, rfl⟩ ?_ | (refine Rg.op true tok rfl rfl rfl rfl ?_ ?_ ?_; (first | exact ⟨⟩ | omega | focus (simp <;> omega) | decide +kernel); (first | exact trivial | exact rfl | exact .inl rfl | exact .inr rfl)) | refine Rg.nil ?_ | refine Rg.skip rfl rfl rfl ?_ | refine Run.regR ?_ | refine Run.condT rfl ?_ | refine Run.condF rfl ?_ | ((first | refine Run.condB rfl (fun hc => ?_) (fun hc => ?_) | ((fail_if_success (refine Rg.lit true rfl ?_)); (fail_if_success (refine Rg.lit false rfl ?_)); refine Rg.guard rfl (fun hc => ?_) (fun hc => ?_))) <;> ((try simp only [cs] at hc); (first | ((exfalso; omega); done) | ((exact absurd rfl hc); done) | skip))))
    refine Run.loopN (ι := Nat) (fun i => ([(1, .ptr 0 0 0), (15, sl 2 eHd p.handlers), (16, i64 p.handlers.length), (17, i64 i)], [pbox p])) (fun i => i ≤ p.handlers.length ∧ (p.handlers.drop i).all (walkOk p) = p.handlers.all (walkOk p)) (fun i => p.handlers.length - i) 0 ⟨rfl, rfl, rfl, rfl, trivial⟩ rfl ⟨by omega, rfl⟩ ?_
    rintro i ⟨hi, hf⟩ back backR
    by_cases hlt : i < p.handlers.length
    · rw [all_at hlt] at hf
      have hw := walkH_ hp (mem_getD hlt)
      have hs := depthsOf_some p (p.handlers.getD i default)
      rcases hd : depthsOf p (p.handlers.getD i default) with _ | ⟨o, m⟩
      rotate_left
      ·
        rw [hd] at hw hs
        rw [← hs, Option.isSome_some, Bool.true_and] at hf
        unfold depthsP at hw
        dsimp only at hw
        repeat' (first | refine Run.ctl rfl ?_ | (refine Rg.op false tok rfl rfl rfl rfl ?_ ?_ ?_; (first | exact ⟨⟩ | omega | focus (simp <;> omega) | decide +kernel); (first | exact trivial | exact rfl | exact .inl rfl | exact .inr rfl)) | refine Rg.call (hw) rfl rfl rfl rfl rfl ⟨⟨.refl _, .refl _, trivial⟩, rfl⟩ ?_ | (refine Rg.op true tok rfl rfl rfl rfl ?_ ?_ ?_; (first | exact ⟨⟩ | omega | focus (simp <;> omega) | decide +kernel); (first | exact trivial | exact rfl | exact .inl rfl | exact .inr rfl)) | refine Rg.nil ?_ | refine Rg.skip rfl rfl rfl ?_ | refine Run.regR ?_ | refine Run.condT rfl ?_ | refine Run.condF rfl ?_ | ((first | refine Run.condB rfl (fun hc => ?_) (fun hc => ?_) | ((fail_if_success (refine Rg.lit true rfl ?_)); (fail_if_success (refine Rg.lit false rfl ?_)); refine Rg.guard rfl (fun hc => ?_) (fun hc => ?_))) <;> ((try simp only [cs] at hc); (first | ((exfalso; omega); done) | skip))))
        exact backR [0] (i + 1) _ _ ⟨hlt, hf⟩ (by omega) rfl ⟨⟨_, rfl, rfl, rfl, rfl, rfl, fun k hk => .ofEq rfl rfl⟩, trivial⟩ ⟨.ptrN rfl rfl, .cl rfl, .cl rfl, .cl rfl, trivial⟩
      ·
        rw [hd] at hw hs
        rw [← hs, Option.isSome_none, Bool.false_and] at hf
        rw [← hf]
        unfold depthsP at hw
        dsimp only at hw
        repeat' (first | refine Run.ctl rfl ?_ | (refine Rg.op false tok rfl rfl rfl rfl ?_ ?_ ?_; (first | exact ⟨⟩ | omega | focus (simp <;> omega) | decide +kernel); (first | exact trivial | exact rfl | exact .inl rfl | exact .inr rfl)) | refine Rg.call (hw) rfl rfl rfl rfl rfl ⟨⟨.refl _, .refl _, trivial⟩, rfl⟩ ?_ | (refine Rg.op true tok rfl rfl rfl rfl ?_ ?_ ?_; (first | exact ⟨⟩ | omega | focus (simp <;> omega) | decide +kernel); (first | exact trivial | exact rfl | exact .inl rfl | exact .inr rfl)) | refine Rg.nil ?_ | refine Rg.skip rfl rfl rfl ?_ | refine Run.regR ?_ | refine Run.condT rfl ?_ | refine Run.condF rfl ?_ | ((first | refine Run.condB rfl (fun hc => ?_) (fun hc => ?_) | ((fail_if_success (refine Rg.lit true rfl ?_)); (fail_if_success (refine Rg.lit false rfl ?_)); refine Rg.guard rfl (fun hc => ?_) (fun hc => ?_))) <;> ((try simp only [cs] at hc); (first | ((exfalso; omega); done) | skip))))
        (first | refine Run.ret tok Tryd.func17 rfl ?_ | refine Run.fall tok Tryd.func17 rfl ?_)
        exact .refl _
    · obtain rfl : i = p.handlers.length := by omega
      rw [List.drop_length, List.all_nil] at hf
      rw [← hf]
      repeat' (first | refine Run.ctl rfl ?_ | (refine Rg.op false tok rfl rfl rfl rfl ?_ ?_ ?_; (first | exact ⟨⟩ | omega | focus (simp <;> omega) | decide +kernel); (first | exact trivial | exact rfl | exact .inl rfl | exact .inr rfl)) | (refine Rg.op true tok rfl rfl rfl rfl ?_ ?_ ?_; (first | exact ⟨⟩ | omega | focus (simp <;> omega) | decide +kernel); (first | exact trivial | exact rfl | exact .inl rfl | exact .inr rfl)) | refine Rg.nil ?_ | refine Rg.skip rfl rfl rfl ?_ | refine Run.regR ?_ | refine Run.condT rfl ?_ | refine Run.condF rfl ?_ | ((first | refine Run.condB rfl (fun hc => ?_) (fun hc => ?_) | ((fail_if_success (refine Rg.lit true rfl ?_)); (fail_if_success (refine Rg.lit false rfl ?_)); refine Rg.guard rfl (fun hc => ?_) (fun hc => ?_))) <;> ((try simp only [cs] at hc); (first | ((exfalso; omega); done) | skip))))
      (first | refine Run.ret tok Tryd.func17 rfl ?_ | refine Run.fall tok Tryd.func17 rfl ?_)
      exact .refl _
  · rw [if_pos (by simpa using h0)]
    generalize progWhy p = z at hc0 h0
    refine Pure.of_spec (Spec.of_run (fn := Tryd.f17) Tryd.func17 rfl rfl (by kernel_rfl) ?_) (by first | assumption | rfl | (split <;> rfl) | (split <;> split <;> rfl))
    repeat' (first | refine Run.ctl rfl ?_ | (refine Rg.op false tok rfl rfl rfl rfl ?_ ?_ ?_; (first | exact ⟨⟩ | omega | focus (simp <;> omega) | decide +kernel); (first | exact trivial | exact rfl | exact .inl rfl | exact .inr rfl)) | refine Rg.call (hc0) rfl rfl rfl rfl rfl ⟨⟨.refl _, trivial⟩, rfl⟩ ?_ | (refine Rg.op true tok rfl rfl rfl rfl ?_ ?_ ?_; (first | exact ⟨⟩ | omega | focus (simp <;> omega) | decide +kernel); (first | exact trivial | exact rfl | exact .inl rfl | exact .inr rfl)) | refine Rg.nil ?_ | refine Rg.skip rfl rfl rfl ?_ | refine Run.regR ?_ | refine Run.condT rfl ?_ | refine Run.condF rfl ?_ | ((first | refine Run.condB rfl (fun hc => ?_) (fun hc => ?_) | ((fail_if_success (refine Rg.lit true rfl ?_)); (fail_if_success (refine Rg.lit false rfl ?_)); refine Rg.guard rfl (fun hc => ?_) (fun hc => ?_))) <;> ((try simp only [cs] at hc); (first | ((exfalso; omega); done) | ((exact absurd hc h0); done) | skip))))
    (first | refine Run.ret tok Tryd.func17 rfl ?_ | refine Run.fall tok Tryd.func17 rfl ?_)
    exact .refl _
end Go.Proofs.YtffckdfcmdmnoaaDoor.W
end
