/- Texts merged: F3. -/
import Derived.Test.YtffckdfcmdmnoaaDoorM30
import Derived.Test.YtffckdfcmdmnoaaDoorM31
section
/- Walks: worlds' texts (chapter 9). -/
set_option linter.unusedVariables false
set_option linter.unusedSimpArgs false
set_option linter.unusedSectionVars false
set_option pp.maxSteps 40000
set_option maxHeartbeats 4000000
namespace Go.Proofs.YtffckdfcmdmnoaaDoor.W
open Go Go.Sy

def lclLine (l : Lcl) : List UInt8 := numsText l.regs ++ [124] ++ numsText [truth l.armed, l.down, l.sent, l.over] ++ [10]
def msgLine (m : Msg) : List UInt8 := textID m.id ++ [32] ++ numsText ([m.note.to_, m.note.handler] ++ m.note.args) ++ [10]
def lclsText (l : List Lcl) : List UInt8 := (l.map lclLine).flatten
def msgsText (l : List Msg) : List UInt8 := (l.map msgLine).flatten
def bgText (b : Bg) : List UInt8 := numsText [b.drop, b.dup, b.time, b.crash] ++ [10]
def wdText (w : Wd) : List UInt8 := lclsText w.actors ++ msgsText w.mail ++ bgText w.used
structure WdTx (w : Wd) : Prop where
  a0 : 0 < w.actors.length
  a1 : w.actors.length ≤ 100
  m1 : w.mail.length ≤ 100
  r1 : ∀ l ∈ w.actors, l.regs.length ≤ 900
  n1 : ∀ m ∈ w.mail, m.note.args.length ≤ 900
  ok : w.ok
theorem numsText_len {l : List Int} (hok : ∀ n ∈ l, R64 n) : (numsText l).length ≤ 22 * l.length := by
  unfold numsText
  cases l with
  | nil => simp [Lib.join_nil]
  | cons i x =>
    rw [List.map_cons, Lib.join_cons, List.length_append]
    have h1 := Lib.itoa_length_le i (hok i (by simp)).1 (hok i (by simp)).2
    have h2 := join_len [32] 21 (x.map Lib.itoa) (fun y hy => by
      obtain ⟨q, hq, rfl⟩ := List.mem_map.1 hy
      exact Lib.itoa_length_le q (hok q (by simp [hq])).1 (hok q (by simp [hq])).2)
    simp only [List.length_map, List.length_cons, List.length_nil] at h2 ⊢
    omega
theorem R64_truth (b : Bool) : R64 (truth b) := by cases b <;> (unfold truth R64; simp)
theorem lclsText_succ (l : List Lcl) (i : Nat) (h : i < l.length) : lclsText (l.take (i + 1)) = lclsText (l.take i) ++ lclLine (l.getD i default) := by
  unfold lclsText
  rw [List.take_add_one, List.getElem?_eq_getElem h, List.map_append, List.flatten_append]
  simp [h]
theorem msgsText_succ (l : List Msg) (i : Nat) (h : i < l.length) : msgsText (l.take (i + 1)) = msgsText (l.take i) ++ msgLine (l.getD i default) := by
  unfold msgsText
  rw [List.take_add_one, List.getElem?_eq_getElem h, List.map_append, List.flatten_append]
  simp [h]
theorem lclLine_len {l : Lcl} (h : l.ok) (hr : l.regs.length ≤ 900) : 0 < (lclLine l).length ∧ (lclLine l).length ≤ 20000 := by
  have h1 := numsText_len h.1
  have h2 := numsText_len (l := [truth l.armed, l.down, l.sent, l.over]) (fun n hn => by
    simp only [List.mem_cons, List.not_mem_nil, or_false] at hn
    rcases hn with rfl | rfl | rfl | rfl
    · exact R64_truth _
    · exact h.2.1
    · exact h.2.2.1
    · exact h.2.2.2)
  unfold lclLine
  simp only [List.length_append, List.length_cons, List.length_nil] at h2 ⊢
  omega
theorem lclsText_len {l : List Lcl} (h : ∀ x ∈ l, x.ok ∧ x.regs.length ≤ 900) : (lclsText l).length ≤ 20000 * l.length := by
  induction l with
  | nil => simp [lclsText]
  | cons x l ih =>
    have h1 := lclLine_len (h x (by simp)).1 (h x (by simp)).2
    have h2 := ih (fun y hy => h y (by simp [hy]))
    have e : lclsText (x :: l) = lclLine x ++ lclsText l := by simp [lclsText]
    rw [e, List.length_append, List.length_cons]
    omega
theorem textID_le (x : ID) (h : x.ok) : (textID x).length ≤ 100 := by
  obtain ⟨⟨a0, a1⟩, ⟨b0, b1⟩, ⟨c0, c1⟩⟩ := h
  have l1 := Lib.itoa_length_le x.from_ a0 a1
  have l2 := Lib.itoa_length_le x.n b0 b1
  have l3 := Lib.itoa_length_le x.copy c0 c1
  unfold textID
  simp only [List.length_append, List.length_cons, List.length_nil]
  omega
theorem msgLine_len {m : Msg} (h : m.ok) (hr : m.note.args.length ≤ 900) : (msgLine m).length ≤ 20100 := by
  have h1 := textID_le m.id h.1
  have h2 := numsText_len (l := [m.note.to_, m.note.handler] ++ m.note.args) (fun n hn => by
    rcases List.mem_append.1 hn with hn | hn
    · simp only [List.mem_cons, List.not_mem_nil, or_false] at hn
      rcases hn with rfl | rfl
      · exact h.2.1
      · exact h.2.2.1
    · exact h.2.2.2 n hn)
  unfold msgLine
  simp only [List.length_append, List.length_cons, List.length_nil] at h2 ⊢
  omega
theorem msgsText_len {l : List Msg} (h : ∀ x ∈ l, x.ok ∧ x.note.args.length ≤ 900) : (msgsText l).length ≤ 20100 * l.length := by
  induction l with
  | nil => simp [msgsText]
  | cons x l ih =>
    have h1 := msgLine_len (h x (by simp)).1 (h x (by simp)).2
    have h2 := ih (fun y hy => h y (by simp [hy]))
    have e : msgsText (x :: l) = msgLine x ++ msgsText l := by simp [msgsText]
    rw [e, List.length_append, List.length_cons]
    omega
theorem rows_two (a b : Int) (l : List Int) {p : Nat → List PV} (hp : p 0 = eInt a := by rfl) (hq : p 1 = eInt b := by rfl) (k : Nat) (hk : k < l.length + 1 + 1) : appEl 2 (fun j => p (0 + j)) (rows eInt l) (0 + k) = rows eInt ([a, b] ++ l) k := by
  rw [Nat.zero_add k]
  refine rows_app eInt [a, b] l (n := 2) rfl (a := fun j => p (0 + j)) (fun q hq2 => ?_) (fun _ _ => rfl) k (by omega)
  rw [Nat.zero_add]
  rcases q with _ | _ | q
  · exact hp
  · exact hq
  · simp at hq2; omega
theorem worldText_ (w : Wd) (hw : WdTx w) : Pure Tryd.prog 13 [pWd w] (str (bs (wdText w))) := by
  have ha0 := hw.a0
  have ha1 := hw.a1
  have hm1 := hw.m1
  have hlc : ∀ x ∈ w.actors, x.ok ∧ x.regs.length ≤ 900 := fun x hx => ⟨hw.ok.1 x hx, hw.r1 x hx⟩
  refine Pure.of_spec (Spec.of_run (fn := Tryd.f13) Tryd.func13 rfl rfl (by kernel_rfl) ?_) (by first | assumption | rfl | (split <;> rfl) | (split <;> split <;> rfl))
  repeat' (first | refine Run.ctl rfl ?_ | (refine Rg.op false tok rfl rfl rfl rfl ?_ ?_ ?_; (first | exact ⟨⟩ | omega | focus (simp <;> omega) | decide +kernel); (first | exact trivial | exact rfl | exact .inl rfl | exact .inr rfl)) | (refine Rg.op true tok rfl rfl rfl rfl ?_ ?_ ?_; (first | exact ⟨⟩ | omega | focus (simp <;> omega) | decide +kernel); (first | exact trivial | exact rfl | exact .inl rfl | exact .inr rfl)) | refine Rg.nil ?_ | refine Rg.skip rfl rfl rfl ?_ | refine Run.regR ?_ | refine Run.condT rfl ?_ | refine Run.condF rfl ?_ | ((first | refine Run.condB rfl (fun hc => ?_) (fun hc => ?_) | ((fail_if_success (refine Rg.lit true rfl ?_)); (fail_if_success (refine Rg.lit false rfl ?_)); refine Rg.guard rfl (fun hc => ?_) (fun hc => ?_))) <;> ((try simp only [cs] at hc); (first | ((exfalso; omega); done) | skip))))
  refine Run.loopN (ι := Nat) (fun i => ([(1, .ptr 0 0 0), (3, .ptr 1 0 0), (9, sl 5 eLcl w.actors), (10, i64 w.actors.length), (11, i64 i)], match i with
      | 0 => [wdbox w, bldr0]
      | i + 1 => [wdbox w, bldr (.ptr 1 0 0) (.slc 2 0 (lclsText (w.actors.take (i + 1))).length), bytesB (lclsText (w.actors.take (i + 1))) (lclsText (w.actors.take (i + 1))).length]))
    (fun i => i ≤ w.actors.length) (fun i => w.actors.length - i) 0 ⟨rfl, rfl, rfl, rfl, rfl, trivial⟩ rfl (by omega) ?_
  rintro i hi back backR
  by_cases hlt : i < w.actors.length
  · have hx := hlc _ (mem_getD hlt)
    have hsn := lclsText_succ w.actors i hlt
    have htl := lclsText_len (l := w.actors.take i) (fun x hx => hlc x (List.mem_of_mem_take hx))
    rw [List.length_take] at htl
    have hn1 := numbers_ (w.actors.getD i default).regs (by omega) hx.1.1
    have htr := truth_ (w.actors.getD i default).armed
    have hok2 : ∀ n ∈ [truth (w.actors.getD i default).armed, (w.actors.getD i default).down, (w.actors.getD i default).sent, (w.actors.getD i default).over], R64 n := fun n hn => by
      simp only [List.mem_cons, List.not_mem_nil, or_false] at hn
      rcases hn with rfl | rfl | rfl | rfl
      · exact R64_truth _
      · exact hx.1.2.1
      · exact hx.1.2.2.1
      · exact hx.1.2.2.2
    have hn2 := numbers_ _ (by simp) hok2
    have hl1 := numsText_len hx.1.1
    have hl2 := numsText_len hok2
    have eL : bs (numsText (w.actors.getD i default).regs) ++ ByteArray.mk #[124] ++ bs (numsText [truth (w.actors.getD i default).armed, (w.actors.getD i default).down, (w.actors.getD i default).sent, (w.actors.getD i default).over]) ++ ByteArray.mk #[10] = bs (lclLine (w.actors.getD i default)) := by
      rw [show (ByteArray.mk #[124]) = bs [124] from rfl, show (ByteArray.mk #[10]) = bs [10] from rfl, bs_app, bs_app, bs_app]
      rfl
    simp only [List.length_cons, List.length_nil] at hl2
    rcases i with _ | i
    ·
      repeat' (first | (refine Run.drwP [17] [0, 1, 2, 3, 4, 5, 6, 7, 8, 9, 10, 11, 12, 13, 14, 15, 16, 17] [none, none, none, none, none, none, none, none, none, none, none, none, none, none, none, none, none, some []] mixed (by kernel_rfl) rfl ?_) | refine Rg.any rfl rfl rfl (fun _ hq => G_buildZ tok rfl rfl rfl rfl rfl rfl rfl rfl rfl rfl rfl hq) (by first | exact trivial | exact rfl | exact .inl rfl | exact .inr rfl | focus ((repeat (first | exact trivial | (refine ⟨Stay.op false tok rfl rfl rfl ?_ (fun t ht => by cases ht; rfl), ?_⟩; (first | exact ⟨⟩ | omega | focus (simp <;> omega) | decide +kernel)) | (refine ⟨Stay.op true tok rfl rfl rfl ?_ (fun t ht => by cases ht; rfl), ?_⟩; (first | exact ⟨⟩ | omega | focus (simp <;> omega) | decide +kernel)) | refine ⟨Stay.skip rfl rfl (fun t ht => by cases ht; rfl), ?_⟩)); done)) ?_ | refine Rg.any rfl rfl rfl (fun _ hq => G_concat' rfl rfl rfl (by (try dsimp only); simp only [ByteArray.size_append, bs_size, show (ByteArray.mk #[124]).size = 1 from rfl, show (ByteArray.mk #[32]).size = 1 from rfl, show (ByteArray.mk #[10]).size = 1 from rfl]; omega) hq) (by first | exact trivial | exact rfl | exact .inl rfl | exact .inr rfl | focus ((repeat (first | exact trivial | (refine ⟨Stay.op false tok rfl rfl rfl ?_ (fun t ht => by cases ht; rfl), ?_⟩; (first | exact ⟨⟩ | omega | focus (simp <;> omega) | decide +kernel)) | (refine ⟨Stay.op true tok rfl rfl rfl ?_ (fun t ht => by cases ht; rfl), ?_⟩; (first | exact ⟨⟩ | omega | focus (simp <;> omega) | decide +kernel)) | refine ⟨Stay.skip rfl rfl (fun t ht => by cases ht; rfl), ?_⟩)); done)) ?_ | refine Run.ctl rfl ?_ | (refine Rg.op false tok rfl rfl rfl rfl ?_ ?_ ?_; (first | exact ⟨⟩ | omega | focus (simp <;> omega) | decide +kernel); (first | exact trivial | exact rfl | exact .inl rfl | exact .inr rfl | focus ((repeat (first | exact trivial | (refine ⟨Stay.op false tok rfl rfl rfl ?_ (fun t ht => by cases ht; rfl), ?_⟩; (first | exact ⟨⟩ | omega | focus (simp <;> omega) | decide +kernel)) | (refine ⟨Stay.op true tok rfl rfl rfl ?_ (fun t ht => by cases ht; rfl), ?_⟩; (first | exact ⟨⟩ | omega | focus (simp <;> omega) | decide +kernel)) | refine ⟨Stay.skip rfl rfl (fun t ht => by cases ht; rfl), ?_⟩)); done))) | refine Rg.call (hn1) rfl rfl rfl rfl rfl ⟨⟨.refl _, trivial⟩, rfl⟩ ?_ | (refine Rg.call (hn2) rfl rfl rfl rfl rfl ⟨⟨?_, trivial⟩, rfl⟩ ?_; focus ((repeat (first | exact trivial | exact .refl _ | exact .rowNil | refine Cv.slcL rfl rfl rfl rfl rfl (fun _ => rfl) ?_ | refine Cv.fzL rfl (fun _ => rfl) ?_ | refine Cv.agg' ?_ | refine ⟨?_, ?_⟩)); done)) | refine Rg.call (htr) rfl rfl rfl rfl rfl ⟨⟨.refl _, trivial⟩, rfl⟩ ?_ | refine Rg.own (wstr_f _ (by (try dsimp only); simp only [ByteArray.size_append, bs_size, show (ByteArray.mk #[124]).size = 1 from rfl, show (ByteArray.mk #[32]).size = 1 from rfl, show (ByteArray.mk #[10]).size = 1 from rfl]; omega)) [1] rfl rfl rfl rfl rfl rfl ⟨⟨_, rfl, rfl, rfl, rfl, rfl, fun k hk => ⟨.cl rfl, .cl rfl, trivial⟩⟩, trivial⟩ ⟨.ptrN rfl rfl, .cl rfl, trivial⟩ rfl rfl trivial ?_ | (refine Rg.op true tok rfl rfl rfl rfl ?_ ?_ ?_; (first | exact ⟨⟩ | omega | focus (simp <;> omega) | decide +kernel); (first | exact trivial | exact rfl | exact .inl rfl | exact .inr rfl | focus ((repeat (first | exact trivial | (refine ⟨Stay.op false tok rfl rfl rfl ?_ (fun t ht => by cases ht; rfl), ?_⟩; (first | exact ⟨⟩ | omega | focus (simp <;> omega) | decide +kernel)) | (refine ⟨Stay.op true tok rfl rfl rfl ?_ (fun t ht => by cases ht; rfl), ?_⟩; (first | exact ⟨⟩ | omega | focus (simp <;> omega) | decide +kernel)) | refine ⟨Stay.skip rfl rfl (fun t ht => by cases ht; rfl), ?_⟩)); done))) | refine Rg.nil ?_ | refine Rg.fork ?_ ?_ | refine Rg.skip rfl rfl rfl ?_ | refine Run.regR ?_ | refine Run.drwR mixed (by kernel_rfl) rfl ?_ | refine Run.condT rfl ?_ | refine Run.condF rfl ?_ | ((first | refine Run.condB rfl (fun hc => ?_) (fun hc => ?_) | ((fail_if_success (refine Rg.lit true rfl ?_)); (fail_if_success (refine Rg.lit false rfl ?_)); refine Rg.guard rfl (fun hc => ?_) (fun hc => ?_))) <;> ((try simp only [cs] at hc); (first | ((exfalso; omega); done) | skip))))
      have en : (lclsText (w.actors.take 1)).length = (bs (numsText (w.actors.getD 0 default).regs) ++ ByteArray.mk #[124] ++ bs (numsText [truth (w.actors.getD 0 default).armed, (w.actors.getD 0 default).down, (w.actors.getD 0 default).sent, (w.actors.getD 0 default).over]) ++ ByteArray.mk #[10]).size := by
        rw [eL, bs_size, show (1 : Nat) = 0 + 1 from rfl, hsn, List.length_append]
        simp [lclsText]
      refine backR [0, 1, 3] 1 _ _ (by omega) (by show w.actors.length - 1 < w.actors.length - 0; omega) rfl ⟨⟨_, rfl, rfl, rfl, rfl, rfl, fun k hk => .ofEq rfl rfl⟩, ⟨_, rfl, rfl, rfl, rfl, rfl, fun k hk => ⟨.ptrN rfl rfl, .slcN rfl rfl en.symm, trivial⟩⟩, ⟨_, rfl, rfl, rfl, en, rfl, fun k hk => .ofEq (by show rows eU8 _ k = rows eU8 _ k; rw [eL, bs_toList, show (1 : Nat) = 0 + 1 from rfl, hsn]; rfl) rfl⟩, trivial⟩ ⟨.ptrN rfl rfl, .ptrN rfl rfl, .cl rfl, .cl rfl, .cl rfl, trivial⟩
    ·
      repeat' (first | (refine Run.drwP [17] [0, 1, 2, 3, 4, 5, 6, 7, 8, 9, 10, 11, 12, 13, 14, 15, 16, 17] [none, none, none, none, none, none, none, none, none, none, none, none, none, none, none, none, none, some []] mixed (by kernel_rfl) rfl ?_) | refine Rg.any rfl rfl rfl (fun _ hq => G_buildZ tok rfl rfl rfl rfl rfl rfl rfl rfl rfl rfl rfl hq) (by first | exact trivial | exact rfl | exact .inl rfl | exact .inr rfl | focus ((repeat (first | exact trivial | (refine ⟨Stay.op false tok rfl rfl rfl ?_ (fun t ht => by cases ht; rfl), ?_⟩; (first | exact ⟨⟩ | omega | focus (simp <;> omega) | decide +kernel)) | (refine ⟨Stay.op true tok rfl rfl rfl ?_ (fun t ht => by cases ht; rfl), ?_⟩; (first | exact ⟨⟩ | omega | focus (simp <;> omega) | decide +kernel)) | refine ⟨Stay.skip rfl rfl (fun t ht => by cases ht; rfl), ?_⟩)); done)) ?_ | refine Rg.any rfl rfl rfl (fun _ hq => G_concat' rfl rfl rfl (by (try dsimp only); simp only [ByteArray.size_append, bs_size, show (ByteArray.mk #[124]).size = 1 from rfl, show (ByteArray.mk #[32]).size = 1 from rfl, show (ByteArray.mk #[10]).size = 1 from rfl]; omega) hq) (by first | exact trivial | exact rfl | exact .inl rfl | exact .inr rfl | focus ((repeat (first | exact trivial | (refine ⟨Stay.op false tok rfl rfl rfl ?_ (fun t ht => by cases ht; rfl), ?_⟩; (first | exact ⟨⟩ | omega | focus (simp <;> omega) | decide +kernel)) | (refine ⟨Stay.op true tok rfl rfl rfl ?_ (fun t ht => by cases ht; rfl), ?_⟩; (first | exact ⟨⟩ | omega | focus (simp <;> omega) | decide +kernel)) | refine ⟨Stay.skip rfl rfl (fun t ht => by cases ht; rfl), ?_⟩)); done)) ?_ | refine Run.ctl rfl ?_ | (refine Rg.op false tok rfl rfl rfl rfl ?_ ?_ ?_; (first | exact ⟨⟩ | omega | focus (simp <;> omega) | decide +kernel); (first | exact trivial | exact rfl | exact .inl rfl | exact .inr rfl | focus ((repeat (first | exact trivial | (refine ⟨Stay.op false tok rfl rfl rfl ?_ (fun t ht => by cases ht; rfl), ?_⟩; (first | exact ⟨⟩ | omega | focus (simp <;> omega) | decide +kernel)) | (refine ⟨Stay.op true tok rfl rfl rfl ?_ (fun t ht => by cases ht; rfl), ?_⟩; (first | exact ⟨⟩ | omega | focus (simp <;> omega) | decide +kernel)) | refine ⟨Stay.skip rfl rfl (fun t ht => by cases ht; rfl), ?_⟩)); done))) | refine Rg.call (hn1) rfl rfl rfl rfl rfl ⟨⟨.refl _, trivial⟩, rfl⟩ ?_ | (refine Rg.call (hn2) rfl rfl rfl rfl rfl ⟨⟨?_, trivial⟩, rfl⟩ ?_; focus ((repeat (first | exact trivial | exact .refl _ | exact .rowNil | refine Cv.slcL rfl rfl rfl rfl rfl (fun _ => rfl) ?_ | refine Cv.fzL rfl (fun _ => rfl) ?_ | refine Cv.agg' ?_ | refine ⟨?_, ?_⟩)); done)) | refine Rg.call (htr) rfl rfl rfl rfl rfl ⟨⟨.refl _, trivial⟩, rfl⟩ ?_ | refine Rg.own (wstr_u (lclsText (w.actors.take (i + 1))) _ _ rfl (by (try dsimp only); simp only [ByteArray.size_append, bs_size, show (ByteArray.mk #[124]).size = 1 from rfl, show (ByteArray.mk #[32]).size = 1 from rfl, show (ByteArray.mk #[10]).size = 1 from rfl]; omega)) [1, 2] rfl rfl rfl rfl rfl rfl ⟨⟨_, rfl, rfl, rfl, rfl, rfl, fun k hk => ⟨.ptrN rfl rfl, .slcN rfl rfl rfl, trivial⟩⟩, ⟨_, rfl, rfl, rfl, rfl, rfl, fun k hk => ⟨.cl rfl, trivial⟩⟩, trivial⟩ ⟨.ptrN rfl rfl, .cl rfl, trivial⟩ rfl rfl trivial ?_ | (refine Rg.op true tok rfl rfl rfl rfl ?_ ?_ ?_; (first | exact ⟨⟩ | omega | focus (simp <;> omega) | decide +kernel); (first | exact trivial | exact rfl | exact .inl rfl | exact .inr rfl | focus ((repeat (first | exact trivial | (refine ⟨Stay.op false tok rfl rfl rfl ?_ (fun t ht => by cases ht; rfl), ?_⟩; (first | exact ⟨⟩ | omega | focus (simp <;> omega) | decide +kernel)) | (refine ⟨Stay.op true tok rfl rfl rfl ?_ (fun t ht => by cases ht; rfl), ?_⟩; (first | exact ⟨⟩ | omega | focus (simp <;> omega) | decide +kernel)) | refine ⟨Stay.skip rfl rfl (fun t ht => by cases ht; rfl), ?_⟩)); done))) | refine Rg.nil ?_ | refine Rg.fork ?_ ?_ | refine Rg.skip rfl rfl rfl ?_ | refine Run.regR ?_ | refine Run.drwR mixed (by kernel_rfl) rfl ?_ | refine Run.condT rfl ?_ | refine Run.condF rfl ?_ | ((first | refine Run.condB rfl (fun hc => ?_) (fun hc => ?_) | ((fail_if_success (refine Rg.lit true rfl ?_)); (fail_if_success (refine Rg.lit false rfl ?_)); refine Rg.guard rfl (fun hc => ?_) (fun hc => ?_))) <;> ((try simp only [cs] at hc); (first | ((exfalso; omega); done) | skip))))
      have en : (lclsText (w.actors.take (i + 1 + 1))).length = (lclsText (w.actors.take (i + 1))).length + (bs (numsText (w.actors.getD (i + 1) default).regs) ++ ByteArray.mk #[124] ++ bs (numsText [truth (w.actors.getD (i + 1) default).armed, (w.actors.getD (i + 1) default).down, (w.actors.getD (i + 1) default).sent, (w.actors.getD (i + 1) default).over]) ++ ByteArray.mk #[10]).size := by
        rw [eL, bs_size, hsn, List.length_append]
      refine backR [0, 1, 4] (i + 1 + 1) _ _ (by omega) (by show w.actors.length - (i + 1 + 1) < w.actors.length - (i + 1); omega) rfl ⟨⟨_, rfl, rfl, rfl, rfl, rfl, fun k hk => .ofEq rfl rfl⟩, ⟨_, rfl, rfl, rfl, rfl, rfl, fun k hk => ⟨.ptrN rfl rfl, .slcN rfl rfl en.symm, trivial⟩⟩, ⟨_, rfl, rfl, rfl, en, rfl, fun k hk => .ofEq (by show rows eU8 _ k = rows eU8 _ k; rw [eL, bs_toList, hsn]) rfl⟩, trivial⟩ ⟨.ptrN rfl rfl, .ptrN rfl rfl, .cl rfl, .cl rfl, .cl rfl, trivial⟩
  have hil : i = w.actors.length := by omega
  obtain ⟨q, rfl⟩ : ∃ q, i = q + 1 := ⟨i - 1, by omega⟩
  dsimp only
  rw [hil, List.take_length]
  clear back backR
  have hs0 := lclsText_len hlc
  have hs1 : 0 < (lclsText w.actors).length := by
    have h1 := lclsText_succ w.actors q (by omega)
    rw [hil, List.take_length] at h1
    have h2 := hlc _ (mem_getD (l := w.actors) (i := q) (by omega))
    have h3 := (lclLine_len h2.1 h2.2).1
    rw [h1, List.length_append]
    omega
  generalize hS : lclsText w.actors = S at hs0 hs1 ⊢
  repeat' (first | refine Run.ctl rfl ?_ | (refine Rg.op false tok rfl rfl rfl rfl ?_ ?_ ?_; (first | exact ⟨⟩ | omega | focus (simp <;> omega) | decide +kernel); (first | exact trivial | exact rfl | exact .inl rfl | exact .inr rfl)) | (refine Rg.op true tok rfl rfl rfl rfl ?_ ?_ ?_; (first | exact ⟨⟩ | omega | focus (simp <;> omega) | decide +kernel); (first | exact trivial | exact rfl | exact .inl rfl | exact .inr rfl)) | refine Rg.nil ?_ | refine Rg.skip rfl rfl rfl ?_ | refine Run.regR ?_ | refine Run.condT rfl ?_ | refine Run.condF rfl ?_ | ((first | refine Run.condB rfl (fun hc => ?_) (fun hc => ?_) | ((fail_if_success (refine Rg.lit true rfl ?_)); (fail_if_success (refine Rg.lit false rfl ?_)); refine Rg.guard rfl (fun hc => ?_) (fun hc => ?_))) <;> ((try simp only [cs] at hc); (first | ((exfalso; omega); done) | skip))))
  refine Run.loopN (ι := Nat) (fun j => ([(1, .ptr 0 0 0), (3, .ptr 1 0 0), (35, sl 6 eMsg w.mail), (36, i64 w.mail.length), (37, i64 j)], [wdbox w, bldr (.ptr 1 0 0) (.slc 2 0 (S ++ msgsText (w.mail.take j)).length), bytesB (S ++ msgsText (w.mail.take j)) (S ++ msgsText (w.mail.take j)).length]))
    (fun j => j ≤ w.mail.length) (fun j => w.mail.length - j) 0 ⟨rfl, rfl, rfl, rfl, rfl, trivial⟩ (by simp [msgsText]) (by omega) ?_
  rintro j hj back backR
  dsimp only
  have hmc : ∀ x ∈ w.mail, x.ok ∧ x.note.args.length ≤ 900 := fun x hx => ⟨hw.ok.2.1 x hx, hw.n1 x hx⟩
  have htl := msgsText_len (l := w.mail.take j) (fun x hx => hmc x (List.mem_of_mem_take hx))
  rw [List.length_take] at htl
  by_cases hlt : j < w.mail.length
  · have hx := hmc _ (mem_getD hlt)
    have hsn := msgsText_succ w.mail j hlt
    have hal : (w.mail.getD j default).note.args.length ≤ 900 := hx.2
    have htx := text_ (w.mail.getD j default).id hx.1.1
    have hok2 : ∀ n ∈ [(w.mail.getD j default).note.to_, (w.mail.getD j default).note.handler] ++ (w.mail.getD j default).note.args, R64 n := fun n hn => by
      rcases List.mem_append.1 hn with hn | hn
      · simp only [List.mem_cons, List.not_mem_nil, or_false] at hn
        rcases hn with rfl | rfl
        · exact hx.1.2.1
        · exact hx.1.2.2.1
      · exact hx.1.2.2.2 n hn
    have hn2 := numbers_ _ (by rw [List.length_append]; simp only [List.length_cons, List.length_nil]; omega) hok2
    have hl2 := numsText_len hok2
    have hl1 := textID_le (w.mail.getD j default).id hx.1.1
    rw [List.length_append] at hl2
    simp only [List.length_cons, List.length_nil] at hl2
    have eL : bs (textID (w.mail.getD j default).id) ++ ByteArray.mk #[32] ++ bs (numsText ([(w.mail.getD j default).note.to_, (w.mail.getD j default).note.handler] ++ (w.mail.getD j default).note.args)) ++ ByteArray.mk #[10] = bs (msgLine (w.mail.getD j default)) := by
      rw [show (ByteArray.mk #[32]) = bs [32] from rfl, show (ByteArray.mk #[10]) = bs [10] from rfl, bs_app, bs_app, bs_app]
      rfl
    have hS2 : (S ++ msgsText (w.mail.take j)).length ≤ 10000000 := by rw [List.length_append]; omega
    have hsn2 : S ++ msgsText (w.mail.take (j + 1)) = (S ++ msgsText (w.mail.take j)) ++ msgLine (w.mail.getD j default) := by rw [hsn, List.append_assoc]
    generalize S ++ msgsText (w.mail.take j) = Y at hS2 hsn2 ⊢
    repeat' (first | (refine Run.drwP [10, 14, 18] [0, 1, 2, 3, 4, 5, 6, 7, 8, 9, 11, 12, 13, 10, 14, 15, 16, 17, 18] [none, none, none, none, none, none, none, none, none, none, none, none, none, some [13, 12, 11, 3, 2, 1, 0], some [3], none, none, none, some []] mixed (by kernel_rfl) rfl ?_) | refine Rg.any rfl rfl rfl (fun _ hq => G_appO tok rfl rfl rfl rfl rfl rfl (by dsimp only; omega) (by dsimp only; omega) hq) (by first | exact trivial | exact rfl | exact .inl rfl | exact .inr rfl | focus ((repeat (first | exact trivial | (refine ⟨Stay.op false tok rfl rfl rfl ?_ (fun t ht => by cases ht; rfl), ?_⟩; (first | exact ⟨⟩ | omega | focus (simp <;> omega) | decide +kernel)) | (refine ⟨Stay.op true tok rfl rfl rfl ?_ (fun t ht => by cases ht; rfl), ?_⟩; (first | exact ⟨⟩ | omega | focus (simp <;> omega) | decide +kernel)) | refine ⟨Stay.skip rfl rfl (fun t ht => by cases ht; rfl), ?_⟩ | (refine ⟨Stay.g rfl rfl (fun _ hq => G_call htx rfl rfl ⟨⟨.refl _, trivial⟩, rfl⟩ hq) (fun t ht => by cases ht; rfl), ?_⟩) | (refine ⟨Stay.g rfl rfl (fun _ hq => G_concat' rfl rfl rfl (by (try dsimp only); simp only [ByteArray.size_append, bs_size, show (ByteArray.mk #[32]).size = 1 from rfl, show (ByteArray.mk #[10]).size = 1 from rfl]; omega) hq) (fun t ht => by cases ht; rfl), ?_⟩))); done)) ?_ | refine Rg.any rfl rfl rfl (fun _ hq => G_concat' rfl rfl rfl (by (try dsimp only); simp only [ByteArray.size_append, bs_size, show (ByteArray.mk #[32]).size = 1 from rfl, show (ByteArray.mk #[10]).size = 1 from rfl]; omega) hq) (by first | exact trivial | exact rfl | exact .inl rfl | exact .inr rfl | focus ((repeat (first | exact trivial | (refine ⟨Stay.op false tok rfl rfl rfl ?_ (fun t ht => by cases ht; rfl), ?_⟩; (first | exact ⟨⟩ | omega | focus (simp <;> omega) | decide +kernel)) | (refine ⟨Stay.op true tok rfl rfl rfl ?_ (fun t ht => by cases ht; rfl), ?_⟩; (first | exact ⟨⟩ | omega | focus (simp <;> omega) | decide +kernel)) | refine ⟨Stay.skip rfl rfl (fun t ht => by cases ht; rfl), ?_⟩ | (refine ⟨Stay.g rfl rfl (fun _ hq => G_call htx rfl rfl ⟨⟨.refl _, trivial⟩, rfl⟩ hq) (fun t ht => by cases ht; rfl), ?_⟩) | (refine ⟨Stay.g rfl rfl (fun _ hq => G_concat' rfl rfl rfl (by (try dsimp only); simp only [ByteArray.size_append, bs_size, show (ByteArray.mk #[32]).size = 1 from rfl, show (ByteArray.mk #[10]).size = 1 from rfl]; omega) hq) (fun t ht => by cases ht; rfl), ?_⟩))); done)) ?_ | refine Run.ctl rfl ?_ | (refine Rg.op false tok rfl rfl rfl rfl ?_ ?_ ?_; (first | exact ⟨⟩ | omega | focus (simp <;> omega) | decide +kernel); (first | exact trivial | exact rfl | exact .inl rfl | exact .inr rfl | focus ((repeat (first | exact trivial | (refine ⟨Stay.op false tok rfl rfl rfl ?_ (fun t ht => by cases ht; rfl), ?_⟩; (first | exact ⟨⟩ | omega | focus (simp <;> omega) | decide +kernel)) | (refine ⟨Stay.op true tok rfl rfl rfl ?_ (fun t ht => by cases ht; rfl), ?_⟩; (first | exact ⟨⟩ | omega | focus (simp <;> omega) | decide +kernel)) | refine ⟨Stay.skip rfl rfl (fun t ht => by cases ht; rfl), ?_⟩ | (refine ⟨Stay.g rfl rfl (fun _ hq => G_call htx rfl rfl ⟨⟨.refl _, trivial⟩, rfl⟩ hq) (fun t ht => by cases ht; rfl), ?_⟩) | (refine ⟨Stay.g rfl rfl (fun _ hq => G_concat' rfl rfl rfl (by (try dsimp only); simp only [ByteArray.size_append, bs_size, show (ByteArray.mk #[32]).size = 1 from rfl, show (ByteArray.mk #[10]).size = 1 from rfl]; omega) hq) (fun t ht => by cases ht; rfl), ?_⟩))); done))) | refine Rg.call (htx) rfl rfl rfl rfl rfl ⟨⟨.refl _, trivial⟩, rfl⟩ ?_ | (refine Rg.lend (hn2) rfl rfl rfl rfl rfl rfl ⟨⟨?_, trivial⟩, rfl⟩ ?_; focus (refine .row rfl rfl rfl ?_ ?_ (fun _ => rfl) (fun j hj => ?_); (focus (first | omega | (dsimp only; done) | (dsimp only; omega))); (focus (first | (simp; done) | (simp; omega))); (focus (exact rows_two _ _ _ rfl rfl j (by rw [List.length_append] at hj; simp only [List.length_cons, List.length_nil] at hj; omega))))) | refine Rg.own (wstr_u Y _ _ rfl (by (try dsimp only); simp only [ByteArray.size_append, bs_size, show (ByteArray.mk #[32]).size = 1 from rfl, show (ByteArray.mk #[10]).size = 1 from rfl]; omega)) [1, 2] rfl rfl rfl rfl rfl rfl ⟨⟨_, rfl, rfl, rfl, rfl, rfl, fun k hk => ⟨.ptrN rfl rfl, .slcN rfl rfl rfl, trivial⟩⟩, ⟨_, rfl, rfl, rfl, rfl, rfl, fun k hk => ⟨.cl rfl, trivial⟩⟩, trivial⟩ ⟨.ptrN rfl rfl, .cl rfl, trivial⟩ rfl rfl trivial ?_ | (refine Rg.op true tok rfl rfl rfl rfl ?_ ?_ ?_; (first | exact ⟨⟩ | omega | focus (simp <;> omega) | decide +kernel); (first | exact trivial | exact rfl | exact .inl rfl | exact .inr rfl | focus ((repeat (first | exact trivial | (refine ⟨Stay.op false tok rfl rfl rfl ?_ (fun t ht => by cases ht; rfl), ?_⟩; (first | exact ⟨⟩ | omega | focus (simp <;> omega) | decide +kernel)) | (refine ⟨Stay.op true tok rfl rfl rfl ?_ (fun t ht => by cases ht; rfl), ?_⟩; (first | exact ⟨⟩ | omega | focus (simp <;> omega) | decide +kernel)) | refine ⟨Stay.skip rfl rfl (fun t ht => by cases ht; rfl), ?_⟩ | (refine ⟨Stay.g rfl rfl (fun _ hq => G_call htx rfl rfl ⟨⟨.refl _, trivial⟩, rfl⟩ hq) (fun t ht => by cases ht; rfl), ?_⟩) | (refine ⟨Stay.g rfl rfl (fun _ hq => G_concat' rfl rfl rfl (by (try dsimp only); simp only [ByteArray.size_append, bs_size, show (ByteArray.mk #[32]).size = 1 from rfl, show (ByteArray.mk #[10]).size = 1 from rfl]; omega) hq) (fun t ht => by cases ht; rfl), ?_⟩))); done))) | refine Rg.nil ?_ | refine Rg.fork ?_ ?_ | refine Rg.skip rfl rfl rfl ?_ | refine Run.regR ?_ | refine Run.drwR mixed (by kernel_rfl) rfl ?_ | refine Run.condT rfl ?_ | refine Run.condF rfl ?_ | ((first | refine Run.condB rfl (fun hc => ?_) (fun hc => ?_) | ((fail_if_success (refine Rg.lit true rfl ?_)); (fail_if_success (refine Rg.lit false rfl ?_)); refine Rg.guard rfl (fun hc => ?_) (fun hc => ?_))) <;> ((try simp only [cs] at hc); (first | ((exfalso; omega); done) | skip))))
    have en : (S ++ msgsText (w.mail.take (j + 1))).length = Y.length + (bs (textID (w.mail.getD j default).id) ++ ByteArray.mk #[32] ++ bs (numsText ([(w.mail.getD j default).note.to_, (w.mail.getD j default).note.handler] ++ (w.mail.getD j default).note.args)) ++ ByteArray.mk #[10]).size := by
      rw [hsn2, eL, bs_size, List.length_append]
    refine backR [0, 1, 6] (j + 1) _ _ (by omega) (by omega) rfl ⟨⟨_, rfl, rfl, rfl, rfl, rfl, fun k hk => .ofEq rfl rfl⟩, ⟨_, rfl, rfl, rfl, rfl, rfl, fun k hk => ⟨.ptrN rfl rfl, .slcN rfl rfl en.symm, trivial⟩⟩, ⟨_, rfl, rfl, rfl, en, rfl, fun k hk => .ofEq (by show rows eU8 _ k = rows eU8 _ k; rw [eL, bs_toList, hsn2]) rfl⟩, trivial⟩ ⟨.ptrN rfl rfl, .ptrN rfl rfl, .cl rfl, .cl rfl, .cl rfl, trivial⟩
  obtain rfl : j = w.mail.length := by omega
  rw [List.take_length] at htl ⊢
  clear back backR
  have hok3 : ∀ n ∈ [w.used.drop, w.used.dup, w.used.time, w.used.crash], R64 n := fun n hn => by
    have hb := hw.ok.2.2
    simp only [List.mem_cons, List.not_mem_nil, or_false] at hn
    rcases hn with rfl | rfl | rfl | rfl
    · exact hb.1
    · exact hb.2.1
    · exact hb.2.2.1
    · exact hb.2.2.2
  have hn3 := numbers_ _ (by simp) hok3
  have hl3 := numsText_len hok3
  simp only [List.length_cons, List.length_nil] at hl3
  have hZ : (S ++ msgsText w.mail).length ≤ 10000000 ∧ 0 < (S ++ msgsText w.mail).length := by rw [List.length_append]; omega
  have hT : wdText w = (S ++ msgsText w.mail) ++ bgText w.used := by unfold wdText; rw [hS]
  rw [hT]
  generalize S ++ msgsText w.mail = Z at hZ ⊢
  have eX : bs (numsText [w.used.drop, w.used.dup, w.used.time, w.used.crash]) ++ ByteArray.mk #[10] = bs (bgText w.used) := by
    rw [show (ByteArray.mk #[10]) = bs [10] from rfl, bs_app]
    rfl
  obtain ⟨X, hX⟩ : ∃ X, X = bs (numsText [w.used.drop, w.used.dup, w.used.time, w.used.crash]) ++ ByteArray.mk #[10] := ⟨_, rfl⟩
  have hXs : X.size ≤ 1000 := by rw [hX]; (try dsimp only); simp only [ByteArray.size_append, bs_size, show (ByteArray.mk #[32]).size = 1 from rfl, show (ByteArray.mk #[10]).size = 1 from rfl]; omega
  have hXl : X.data.toList.length = X.size := Array.length_toList
  have hb := bstr_ (Z ++ X.data.toList) (Z.length + X.size) (by rw [List.length_append, hXl]) (by omega) (by omega)
  rw [hX] at hb hXs
  repeat' (first | refine Rg.any rfl rfl rfl (fun _ hq => G_buildZ tok rfl rfl rfl rfl rfl rfl rfl rfl rfl rfl rfl hq) (by first | exact trivial | exact rfl | exact .inl rfl | exact .inr rfl | focus ((repeat (first | exact trivial | (refine ⟨Stay.op false tok rfl rfl rfl ?_ (fun t ht => by cases ht; rfl), ?_⟩; (first | exact ⟨⟩ | omega | focus (simp <;> omega) | decide +kernel)) | (refine ⟨Stay.op true tok rfl rfl rfl ?_ (fun t ht => by cases ht; rfl), ?_⟩; (first | exact ⟨⟩ | omega | focus (simp <;> omega) | decide +kernel)) | refine ⟨Stay.skip rfl rfl (fun t ht => by cases ht; rfl), ?_⟩)); done)) ?_ | refine Rg.any rfl rfl rfl (fun _ hq => G_concat' rfl rfl rfl (by (try dsimp only); simp only [ByteArray.size_append, bs_size, show (ByteArray.mk #[32]).size = 1 from rfl, show (ByteArray.mk #[10]).size = 1 from rfl]; omega) hq) (by first | exact trivial | exact rfl | exact .inl rfl | exact .inr rfl) ?_ | refine Run.ctl rfl ?_ | (refine Rg.op false tok rfl rfl rfl rfl ?_ ?_ ?_; (first | exact ⟨⟩ | omega | focus (simp <;> omega) | decide +kernel); (first | exact trivial | exact rfl | exact .inl rfl | exact .inr rfl)) | (refine Rg.call (hn3) rfl rfl rfl rfl rfl ⟨⟨?_, trivial⟩, rfl⟩ ?_; focus ((repeat (first | exact trivial | exact .refl _ | exact .rowNil | refine Cv.slcL rfl rfl rfl rfl rfl (fun _ => rfl) ?_ | refine Cv.fzL rfl (fun _ => rfl) ?_ | refine Cv.agg' ?_ | refine ⟨?_, ?_⟩)); done)) | refine Rg.own (wstr_u Z _ _ rfl (by omega)) [1, 2] rfl rfl rfl rfl rfl rfl ⟨⟨_, rfl, rfl, rfl, rfl, rfl, fun k hk => ⟨.ptrN rfl rfl, .slcN rfl rfl rfl, trivial⟩⟩, ⟨_, rfl, rfl, rfl, rfl, rfl, fun k hk => ⟨.cl rfl, trivial⟩⟩, trivial⟩ ⟨.ptrN rfl rfl, .cl rfl, trivial⟩ rfl rfl trivial ?_ | refine Rg.own hb [1, 3] rfl rfl rfl rfl rfl rfl ⟨⟨_, rfl, rfl, rfl, rfl, rfl, fun k hk => ⟨.ptrN rfl rfl, .slcN rfl rfl rfl, trivial⟩⟩, ⟨_, rfl, rfl, rfl, rfl, rfl, fun k hk => ⟨.cl rfl, trivial⟩⟩, trivial⟩ ⟨.ptrN rfl rfl, trivial⟩ rfl rfl trivial ?_ | (refine Rg.op true tok rfl rfl rfl rfl ?_ ?_ ?_; (first | exact ⟨⟩ | omega | focus (simp <;> omega) | decide +kernel); (first | exact trivial | exact rfl | exact .inl rfl | exact .inr rfl)) | refine Rg.nil ?_ | refine Rg.skip rfl rfl rfl ?_ | refine Run.regR ?_ | refine Run.condT rfl ?_ | refine Run.condF rfl ?_ | ((first | refine Run.condB rfl (fun hc => ?_) (fun hc => ?_) | ((fail_if_success (refine Rg.lit true rfl ?_)); (fail_if_success (refine Rg.lit false rfl ?_)); refine Rg.guard rfl (fun hc => ?_) (fun hc => ?_))) <;> ((try simp only [cs] at hc); (first | ((exfalso; omega); done) | skip))))
  (first | refine Run.ret tok Tryd.func13 rfl ?_ | refine Run.fall tok Tryd.func13 rfl ?_)
  refine .ofStr ?_
  rw [eX, bs_toList]
end Go.Proofs.YtffckdfcmdmnoaaDoor.W
end
