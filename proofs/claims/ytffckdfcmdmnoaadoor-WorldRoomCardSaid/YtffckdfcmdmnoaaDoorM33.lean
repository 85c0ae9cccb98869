/- Texts merged: P12. -/
import Derived.Test.YtffckdfcmdmnoaaDoorM21
section
/- Plain: mailboxes' room (chapter 9). -/
set_option linter.unusedVariables false
set_option linter.unusedSimpArgs false
set_option linter.unusedSectionVars false
namespace Go.Proofs.YtffckdfcmdmnoaaDoor.W
open Go Go.Sy

def bootN (i : Nat) : Nt := ⟨((i % 2 : Nat) : Int), 0, [(i : Int)]⟩
def boots (n : Nat) : List Nt := (List.range n).map bootN
def pgTwo (n : Nat) (most : Int) : Pg := ⟨[⟨1, []⟩], [⟨[4], most, -1, false⟩, ⟨[], most, -1, false⟩], boots n, 5⟩
theorem boots_len (n : Nat) : (boots n).length = n := by simp [boots]
theorem boots_at (n i : Nat) (h : i < n) : (boots n).getD i default = bootN i := by simp [boots, h]
/-- How the start of two stands: what is on its way, and what found no room. -/
def bootMail (n m : Nat) : List Msg := ((List.range n).filter fun j => decide (j / 2 < m)).map fun (j : Nat) => (⟨⟨-1, (j : Int), 0⟩, bootN j⟩ : Msg)
def wdTwo (n m : Nat) : Wd := ⟨[⟨[4], false, 0, 0, (((n + 1) / 2 - min ((n + 1) / 2) m : Nat) : Int)⟩, ⟨[], false, 0, 0, ((n / 2 - min (n / 2) m : Nat) : Int)⟩], bootMail n m, bg0⟩
set_option maxRecDepth 100000 in
theorem start_two : ∀ n : Nat, n < 17 → ∀ m : Nat, m < 17 → startOf (pgTwo n m) = wdTwo n m := by decide +kernel
theorem flow_two : ∀ n : Nat, n < 17 → ∀ m : Nat, m < 17 → flowWhy (pgTwo n m) = 0 := by decide +kernel
theorem boot_to : ∀ n : Nat, n < 17 → ∀ m : Nat, m < 17 → toMail (bootMail n m) 1 = min (n / 2) m ∧ (bootMail n m).length = min ((n + 1) / 2) m + min (n / 2) m := by decide +kernel
theorem boot_from {n m : Nat} {x : Msg} (h : x ∈ bootMail n m) : x.id.from_ = -1 := by
  unfold bootMail at h
  obtain ⟨j, _, rfl⟩ := List.mem_map.1 h
  rfl
/-- A message that comes behind all others is put at the end. -/
theorem putAt_last (m : Msg) : ∀ {l : List Msg}, (∀ x ∈ l, lessID x.id m.id = true) → putAt m l = l ++ [m]
  | [], _ => rfl
  | x :: l, h => by
    unfold putAt
    rw [if_pos (h x (by simp)), putAt_last m (fun y hy => h y (by simp [hy]))]
    rfl
theorem less_ne {a b : ID} (h : lessID a b = true) : a ≠ b := by
  rintro rfl
  simp [lessID, orderID, orI, cmpI] at h
theorem putMail_last (m : Msg) {l : List Msg} (h : ∀ x ∈ l, lessID x.id m.id = true) : putMail l m = some (l ++ [m]) := by
  unfold putMail
  have hn : ¬ (l.any fun x => decide (x.id = m.id)) = true := by
    rw [List.any_eq_true]
    rintro ⟨x, hx, e⟩
    exact less_ne (h x hx) (by simpa using e)
  rw [if_neg hn, putAt_last m h]
def noteMore (i : Nat) : Nt := ⟨1, 0, [(i : Int)]⟩
def moreMsg (i : Nat) : Msg := ⟨⟨0, (i : Int), 0⟩, noteMore i⟩
/-- How many of so many more are put on their way. -/
def gotMore (n m i : Nat) : Nat := min (min (n / 2) m + i) m - min (n / 2) m
def wdMore (n m : Nat) (more : Int) (i : Nat) : Wd := ⟨[⟨[4], false, 0, more, (((n + 1) / 2 - min ((n + 1) / 2) m : Nat) : Int)⟩, ⟨[], false, 0, 0, ((n / 2 - min (n / 2) m + (i - gotMore n m i) : Nat) : Int)⟩], bootMail n m ++ (List.range (gotMore n m i)).map moreMsg, bg0⟩
theorem toMore (q : Nat) : toMail ((List.range q).map moreMsg) 1 = q := by
  unfold toMail
  rw [List.countP_map]
  have : List.countP ((fun m : Msg => decide (m.note.to_ = 1)) ∘ moreMsg) (List.range q) = (List.range q).length := by
    rw [List.countP_eq_length]
    intro a _
    rfl
  rw [this, List.length_range]
theorem more_step {n m : Nat} (hn : n < 17) (hm : m < 17) (more : Int) (i : Nat) : postIn (pgTwo n m) (wdMore n m more i) (moreMsg i) = wdMore n m more (i + 1) := by
  have hb := (boot_to n hn m hm).1
  have ht : toMail (wdMore n m more i).mail 1 = min (n / 2) m + gotMore n m i := by
    show toMail (bootMail n m ++ (List.range (gotMore n m i)).map moreMsg) 1 = _
    have h2 := toMore (gotMore n m i)
    unfold toMail at hb h2 ⊢
    rw [List.countP_append, hb, h2]
  unfold postIn
  show (if (toMail (wdMore n m more i).mail 1 : Int) < (m : Int) then _ else _) = _
  rw [ht]
  by_cases hlt : min (n / 2) m + gotMore n m i < m
  · have hg : gotMore n m i = i := by unfold gotMore at hlt ⊢; omega
    have hg2 : gotMore n m (i + 1) = i + 1 := by unfold gotMore at hlt hg ⊢; omega
    rw [if_pos (by omega)]
    have hp : putMail (wdMore n m more i).mail (moreMsg i) = some ((wdMore n m more i).mail ++ [moreMsg i]) := putMail_last _ (fun x hx => by
      rcases List.mem_append.1 hx with hx | hx
      · have hf := boot_from hx
        simp [lessID, orderID, orI, cmpI, moreMsg, hf]
      · obtain ⟨j, hj, rfl⟩ := List.mem_map.1 hx
        rw [hg, List.mem_range] at hj
        simp [lessID, orderID, orI, cmpI, moreMsg]
        omega)
    rw [hp]
    unfold wdMore
    rw [hg, hg2, List.range_succ, List.map_append, ← List.append_assoc]
    simp
  · have hg : gotMore n m (i + 1) = gotMore n m i := by unfold gotMore at hlt ⊢; omega
    rw [if_neg (by omega)]
    unfold wdMore
    rw [hg]
    have hle : gotMore n m i ≤ i := by unfold gotMore; omega
    simp [addOver, moreMsg, noteMore]
    omega
def notesMore (more : Nat) : List Nt := (List.range more).map noteMore
theorem more_from {n m : Nat} (hn : n < 17) (hm : m < 17) (more : Nat) : ∀ (k i : Nat), i + k = more → giveFrom (pgTwo n m) 0 i ((List.range' i k).map noteMore) (wdMore n m more i) = wdMore n m more more
  | 0, i, h => by
    obtain rfl : i = more := by omega
    rfl
  | k + 1, i, h => by
    rw [List.range'_succ, List.map_cons]
    have h1 := more_step hn hm (more : Int) i
    have h2 := more_from hn hm more k (i + 1) (by omega)
    rw [giveFrom]
    have hc : (0 : Int) ≤ (noteMore i).to_ ∧ (noteMore i).to_ < (pgTwo n m).actors.length ∧ (noteMore i).to_ < (wdMore n m more i).actors.length := ⟨by show (0 : Int) ≤ 1; decide, by show (1 : Int) < 2; decide, by show (1 : Int) < 2; decide⟩
    rw [if_pos hc]
    have h3 : postIn (pgTwo n m) (wdMore n m more i) ⟨⟨0, (i : Int), 0⟩, noteMore i⟩ = wdMore n m more (i + 1) := h1
    rw [h3]
    exact h2
theorem more_all {n m : Nat} (hn : n < 17) (hm : m < 17) (more : Nat) : giveIn (pgTwo n m) (wdMore n m more 0) 0 (notesMore more) = wdMore n m more more := by
  unfold giveIn
  rw [if_pos (by decide)]
  have e : ((wdMore n m more 0).actors.getD (0 : Int).toNat default).sent - ((notesMore more).length : Int) = ((0 : Nat) : Int) := by
    show (more : Int) - _ = _
    simp [notesMore]
  rw [e]
  have := more_from hn hm more more 0 (by omega)
  rw [← List.range_eq_range'] at this
  exact this
theorem wdMore_0 (n m : Nat) (more : Int) : wdMore n m more 0 = { wdTwo n m with actors := [⟨[4], false, 0, more, (((n + 1) / 2 - min ((n + 1) / 2) m : Nat) : Int)⟩, ⟨[], false, 0, 0, ((n / 2 - min (n / 2) m : Nat) : Int)⟩] } := by
  have hg : gotMore n m 0 = 0 := by unfold gotMore; omega
  unfold wdMore wdTwo
  rw [hg]
  simp
theorem sorted_snoc (m : Msg) : ∀ {l : List Msg}, sortedMail l = true → (∀ x ∈ l, lessID x.id m.id = true) → sortedMail (l ++ [m]) = true
  | [], _, _ => rfl
  | [x], _, h => by
    show (lessID x.id m.id && true) = true
    rw [h x (by simp)]
    rfl
  | x :: y :: l, hs, h => by
    unfold sortedMail at hs
    rw [Bool.and_eq_true] at hs
    have := sorted_snoc m hs.2 (fun z hz => h z (by simp [hz]))
    show (lessID x.id y.id && sortedMail (y :: (l ++ [m]))) = true
    rw [hs.1]
    exact this
theorem boot_sorted : ∀ n : Nat, n < 17 → ∀ m : Nat, m < 17 → sortedMail (bootMail n m) = true := by decide +kernel
theorem more_sorted {n m : Nat} (hn : n < 17) (hm : m < 17) : ∀ q, sortedMail (bootMail n m ++ (List.range q).map moreMsg) = true
  | 0 => by
    rw [List.range_zero, List.map_nil, List.append_nil]
    exact boot_sorted n hn m hm
  | q + 1 => by
    rw [List.range_succ, List.map_append, ← List.append_assoc]
    refine sorted_snoc _ (more_sorted hn hm q) (fun x hx => ?_)
    rcases List.mem_append.1 hx with hx | hx
    · have hf := boot_from hx
      simp [lessID, orderID, orI, cmpI, moreMsg, hf]
    · obtain ⟨j, hj, rfl⟩ := List.mem_map.1 hx
      rw [List.mem_range] at hj
      simp [lessID, orderID, orI, cmpI, moreMsg]
      omega
theorem boot_fit : ∀ n : Nat, n < 17 → ∀ m : Nat, m < 17 → ∀ x ∈ bootMail n m, noteWhy (pgTwo n m) x.note = 0 ∧ 0 ≤ x.id.n ∧ x.id.n < 16 ∧ x.id.copy = 0 := by decide +kernel
theorem more_ok {n m : Nat} (hn : n < 17) (hm : m < 17) (more : Nat) (hM : more ≤ 20) : worldOk (pgTwo n m) (wdMore n m more more) = true := by
  unfold worldOk worldFit
  simp only [Bool.and_eq_true, decide_eq_true_eq]
  refine ⟨flow_two n hn m hm, ⟨⟨⟨rfl, Int.le_refl _, Int.le_refl _, Int.le_refl _, Int.le_refl _⟩, more_sorted hn hm _⟩, ?_⟩, ?_⟩
  · simp [wdMore, pgTwo, localFit]
    omega
  · rw [List.all_eq_true]
    intro x hx
    rcases List.mem_append.1 hx with hx | hx
    · obtain ⟨h1, h2, h3, h4⟩ := boot_fit n hn m hm x hx
      have hf := boot_from hx
      unfold msgFit
      have hd : (wdMore n m more more).used.dup = 0 := rfl
      have hl : (wdMore n m more more).actors.length = 2 := rfl
      rw [if_neg (by rw [hd, hl]; omega), if_pos hf]
      simpa using h3
    · obtain ⟨j, hj, rfl⟩ := List.mem_map.1 hx
      rw [List.mem_range] at hj
      have hj2 : j < more := by unfold gotMore at hj; omega
      unfold msgFit
      have hd : (wdMore n m more more).used.dup = 0 := rfl
      have hl : (wdMore n m more more).actors.length = 2 := rfl
      have hw : noteWhy (pgTwo n m) (moreMsg j).note = 0 := rfl
      have hi : (moreMsg j).id = ⟨0, (j : Int), 0⟩ := rfl
      rw [hw, hd, hl, hi]
      rw [if_neg (by dsimp only; omega), if_neg (by dsimp only; omega)]
      show decide ((j : Int) < (more : Int)) = true
      simpa using hj2
end Go.Proofs.YtffckdfcmdmnoaaDoor.W
end
