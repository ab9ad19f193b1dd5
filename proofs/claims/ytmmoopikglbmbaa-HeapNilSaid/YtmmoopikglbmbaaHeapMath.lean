/- The plain mathematics of a binary heap over a list: sift up, sift down, the least at the root; a sorted list beside it. No program in sight. -/
namespace Go.Proofs.Ytmmoopikglbmbaa
set_option linter.unusedSectionVars false
set_option linter.unusedVariables false
set_option linter.unusedSimpArgs false
namespace HM

structure Itm (α : Type) where
  c : Int
  w : Int
  x : α

variable {α : Type}
instance [Inhabited α] : Inhabited (Itm α) := ⟨⟨0, 0, default⟩⟩

def lt (a b : Itm α) : Prop := a.c < b.c ∨ a.c = b.c ∧ a.w < b.w
def le (a b : Itm α) : Prop := ¬ lt b a
theorem le_trans {a b c : Itm α} (h : le a b) (k : le b c) : le a c := by unfold le lt at *; omega
theorem le_refl (a : Itm α) : le a a := by unfold le lt; omega
theorem le_of_lt {a b : Itm α} (h : lt a b) : le a b := by unfold le lt at *; omega
def ltb (a b : Itm α) : Bool := decide (a.c < b.c ∨ a.c = b.c ∧ a.w < b.w)
theorem ltb_iff (a b : Itm α) : ltb a b = true ↔ lt a b := by simp [ltb, lt]
theorem ltb_1 {a b : Itm α} (h : a.c < b.c) : ltb a b = true := by simp [ltb]; omega
theorem ltb_2 {a b : Itm α} (h2 : ¬ a.c = b.c) : ltb a b = decide (a.c < b.c) := by simp [ltb, h2]
theorem ltb_3 {a b : Itm α} (h : a.c = b.c) : ltb a b = decide (a.w < b.w) := by simp [ltb, h]
theorem le_total (a b : Itm α) : le a b ∨ le b a := by unfold le lt; omega

variable [Inhabited α]
def at' (l : List (Itm α)) (k : Nat) : Itm α := l.getD k default
def swapL (l : List (Itm α)) (i k : Nat) : List (Itm α) := (l.set i (at' l k)).set k (at' l i)
theorem swapL_length (l : List (Itm α)) (i k : Nat) : (swapL l i k).length = l.length := by simp [swapL]
theorem at_swapL (l : List (Itm α)) (i k j : Nat) (hi : i < l.length) (hk : k < l.length) :
    at' (swapL l i k) j = if j = k then at' l i else if j = i then at' l k else at' l j := by
  unfold swapL at'
  simp only [List.getD_eq_getElem?_getD, List.getElem?_set, List.length_set]
  by_cases h1 : j = k
  · subst h1; simp [hk]
  · by_cases h2 : j = i
    · subst h2; simp [h1, hi, Ne.symm h1]
    · simp [h1, h2, Ne.symm h1, Ne.symm h2]
theorem swapL_perm (l : List (Itm α)) (i k : Nat) (hi : i < l.length) (hk : k < l.length) : (swapL l i k).Perm l := by
  have h := Array.swap_perm (xs := l.toArray) (i := i) (j := k) (by simpa using hi) (by simpa using hk)
  have e : (l.toArray.swap i k (by simpa using hi) (by simpa using hk)).toList = swapL l i k := by
    simp [Array.swap, swapL, at', List.getD_eq_getElem?_getD, hi, hk]
  rw [← e]
  simpa [Array.perm_iff_toList_perm] using h

def IsHeap (l : List (Itm α)) : Prop := ∀ k, 0 < k → k < l.length → le (at' l ((k - 1) / 2)) (at' l k)
def UpInv (l : List (Itm α)) (i : Nat) : Prop :=
  (∀ k, 0 < k → k < l.length → k ≠ i → le (at' l ((k - 1) / 2)) (at' l k)) ∧
  (∀ k, 0 < k → k < l.length → (k - 1) / 2 = i → 0 < i → le (at' l ((i - 1) / 2)) (at' l k))
theorem up_start (l : List (Itm α)) (x : Itm α) (h : IsHeap l) : UpInv (l ++ [x]) l.length := by
  have e : ∀ k, k < l.length → at' (l ++ [x]) k = at' l k := fun k hk => by simp [at', List.getD_eq_getElem?_getD, hk, List.getElem?_append_left hk]
  constructor
  · intro k h0 h1 h2
    have hk : k < l.length := by simp at h1; omega
    rw [e k hk, e _ (by omega)]; exact h k h0 hk
  · intro k h0 h1 h2 h3; simp at h1; omega
theorem up_done (l : List (Itm α)) (i : Nat) (h : UpInv l i) (hd : i = 0 ∨ ¬ lt (at' l i) (at' l ((i - 1) / 2))) : IsHeap l := by
  intro k h0 h1
  by_cases e : k = i
  · subst e; rcases hd with hd | hd
    · omega
    · exact hd
  · exact h.1 k h0 h1 e
theorem up_step (l : List (Itm α)) (i : Nat) (h : UpInv l i) (h0 : 0 < i) (hi : i < l.length) (hl : lt (at' l i) (at' l ((i - 1) / 2))) :
    UpInv (swapL l i ((i - 1) / 2)) ((i - 1) / 2) := by
  have hp : (i - 1) / 2 < l.length := by omega
  have hpi : (i - 1) / 2 ≠ i := by omega
  constructor
  · intro k k0 k1 k2
    rw [swapL_length] at k1
    rw [at_swapL _ _ _ _ hi hp, at_swapL _ _ _ _ hi hp]
    by_cases e1 : k = i
    · subst e1; rw [if_pos rfl, if_neg k2, if_pos rfl]; exact le_of_lt hl
    · rw [if_neg k2, if_neg e1]
      by_cases e2 : (k - 1) / 2 = (i - 1) / 2
      · rw [if_pos e2]; exact le_trans (le_of_lt hl) (e2 ▸ h.1 k k0 k1 e1)
      · rw [if_neg e2]
        by_cases e3 : (k - 1) / 2 = i
        · rw [if_pos e3]; exact h.2 k k0 k1 e3 h0
        · rw [if_neg e3]; exact h.1 k k0 k1 e1
  · intro k k0 k1 k2 k3
    rw [swapL_length] at k1
    rw [at_swapL _ _ _ _ hi hp, at_swapL _ _ _ _ hi hp]
    have a1 : ((i - 1) / 2 - 1) / 2 ≠ (i - 1) / 2 := by omega
    have a2 : ((i - 1) / 2 - 1) / 2 ≠ i := by omega
    rw [if_neg a1, if_neg a2]
    have hpp := h.1 ((i - 1) / 2) k3 hp hpi
    by_cases e1 : k = i
    · subst e1; rw [if_neg (Ne.symm hpi), if_pos rfl]; exact hpp
    · rw [if_neg (by omega), if_neg e1]; exact le_trans hpp (k2 ▸ h.1 k k0 k1 e1)

def DownInv (l : List (Itm α)) (i : Nat) : Prop :=
  (∀ k, 0 < k → k < l.length → (k - 1) / 2 ≠ i → le (at' l ((k - 1) / 2)) (at' l k)) ∧
  (∀ k, 0 < k → k < l.length → (k - 1) / 2 = i → 0 < i → le (at' l ((i - 1) / 2)) (at' l k))
/-- The least of i and its kids. -/
def IsLeast (l : List (Itm α)) (i m : Nat) : Prop :=
  (m = i ∨ m = 2 * i + 1 ∨ m = 2 * i + 2) ∧ (m = i ∨ m < l.length) ∧ le (at' l m) (at' l i) ∧
  (∀ k, k < l.length → (k - 1) / 2 = i → 0 < k → le (at' l m) (at' l k))
theorem down_done (l : List (Itm α)) (i : Nat) (h : DownInv l i) (hm : IsLeast l i i) : IsHeap l := by
  intro k k0 k1
  by_cases e : (k - 1) / 2 = i
  · rw [e]; exact hm.2.2.2 k k1 e k0
  · exact h.1 k k0 k1 e
theorem down_step (l : List (Itm α)) (i m : Nat) (h : DownInv l i) (hm : IsLeast l i m) (hne : m ≠ i) (hi : i < l.length) :
    DownInv (swapL l i m) m ∧ m < l.length ∧ i < m := by
  obtain ⟨hm1, hm2, hm3, hm4⟩ := hm
  have hml : m < l.length := by omega
  have him : i < m := by omega
  have hpm : (m - 1) / 2 = i := by omega
  refine ⟨⟨?_, ?_⟩, hml, him⟩
  · intro k k0 k1 k2
    rw [swapL_length] at k1
    rw [at_swapL _ _ _ _ hi hml, at_swapL _ _ _ _ hi hml]
    by_cases e1 : (k - 1) / 2 = i
    · rw [if_neg k2, if_pos e1]
      by_cases e2 : k = m
      · rw [if_pos e2]; exact hm3
      · rw [if_neg e2, if_neg (by omega)]; exact hm4 k k1 e1 k0
    · rw [if_neg k2, if_neg e1]
      have hp := h.1 k k0 k1 e1
      have e2 : k ≠ m := by intro e; subst e; exact e1 hpm
      rw [if_neg e2]
      by_cases e3 : k = i
      · rw [if_pos e3]; subst e3; exact h.2 m (by omega) hml hpm k0
      · rw [if_neg e3]; exact hp
  · intro k k0 k1 k2 k3
    rw [swapL_length] at k1
    rw [at_swapL _ _ _ _ hi hml, at_swapL _ _ _ _ hi hml]
    rw [hpm, if_neg (by omega), if_pos rfl, if_neg (by omega), if_neg (by omega)]
    have := h.1 k k0 k1 (by omega)
    rw [k2] at this; exact this
theorem root_le (l : List (Itm α)) (h : IsHeap l) : ∀ k, k < l.length → le (at' l 0) (at' l k) := by
  intro k
  induction k using Nat.strongRecOn with
  | _ k ih =>
    intro hk
    by_cases e : k = 0
    · subst e; exact le_refl _
    · exact le_trans (ih ((k - 1) / 2) (by omega) (by omega)) (h k (by omega) hk)

/-- The least of i and its first j kids. -/
def PL (l : List (Itm α)) (i j m : Nat) : Prop :=
  (m = i ∨ m = 2 * i + 1 ∨ m = 2 * i + 2) ∧ (m = i ∨ m < l.length) ∧ le (at' l m) (at' l i) ∧
  (1 ≤ j → 2 * i + 1 < l.length → le (at' l m) (at' l (2 * i + 1))) ∧ (2 ≤ j → 2 * i + 2 < l.length → le (at' l m) (at' l (2 * i + 2)))
theorem PL.start (l : List (Itm α)) (i : Nat) : PL l i 0 i := ⟨.inl rfl, .inl rfl, le_refl _, by omega, by omega⟩
theorem PL.done {l : List (Itm α)} {i m : Nat} (h : PL l i 2 m) : IsLeast l i m :=
  ⟨h.1, h.2.1, h.2.2.1, fun k hk hp h0 => by
    rcases (show k = 2 * i + 1 ∨ k = 2 * i + 2 by omega) with rfl | rfl
    · exact h.2.2.2.1 (by omega) hk
    · exact h.2.2.2.2 (by omega) hk⟩
theorem PL.keep1 {l : List (Itm α)} {i m : Nat} (h : PL l i 0 m) (hk : ¬ 2 * i + 1 < l.length ∨ ltb (at' l (2 * i + 1)) (at' l m) = false) : PL l i 1 m :=
  ⟨h.1, h.2.1, h.2.2.1, fun _ hl => by
    rcases hk with hk | hk
    · exact absurd hl hk
    · unfold le; rw [← ltb_iff, hk]; simp, by omega⟩
theorem PL.take1 {l : List (Itm α)} {i m : Nat} (h : PL l i 0 m) (hl : 2 * i + 1 < l.length) (hk : ltb (at' l (2 * i + 1)) (at' l m) = true) : PL l i 1 (2 * i + 1) :=
  ⟨.inr (.inl rfl), .inr hl, le_trans (le_of_lt ((ltb_iff _ _).1 hk)) h.2.2.1, fun _ _ => le_refl _, by omega⟩
theorem PL.keep2 {l : List (Itm α)} {i m : Nat} (h : PL l i 1 m) (hk : ¬ 2 * i + 2 < l.length ∨ ltb (at' l (2 * i + 2)) (at' l m) = false) : PL l i 2 m :=
  ⟨h.1, h.2.1, h.2.2.1, fun _ => h.2.2.2.1 (by omega), fun _ hl => by
    rcases hk with hk | hk
    · exact absurd hl hk
    · unfold le; rw [← ltb_iff, hk]; simp⟩
theorem PL.take2 {l : List (Itm α)} {i m : Nat} (h : PL l i 1 m) (hl : 2 * i + 2 < l.length) (hk : ltb (at' l (2 * i + 2)) (at' l m) = true) : PL l i 2 (2 * i + 2) :=
  ⟨.inr (.inr rfl), .inr hl, le_trans (le_of_lt ((ltb_iff _ _).1 hk)) h.2.2.1, fun _ h1 => le_trans (le_of_lt ((ltb_iff _ _).1 hk)) (h.2.2.2.1 (by omega) h1), fun _ _ => le_refl _⟩

/-- What Take does: swap the first with the last, cut the last off. -/
def cutL (l : List (Itm α)) : List (Itm α) := (swapL l 0 (l.length - 1)).take (l.length - 1)
theorem cutL_length (l : List (Itm α)) : (cutL l).length = l.length - 1 := by simp [cutL, swapL_length]
theorem at_cutL (l : List (Itm α)) (j : Nat) (hj : j < l.length - 1) : at' (cutL l) j = if j = 0 then at' l (l.length - 1) else at' l j := by
  have e : at' (cutL l) j = at' (swapL l 0 (l.length - 1)) j := by
    simp [cutL, at', List.getD_eq_getElem?_getD, List.getElem?_take, hj]
  rw [e, at_swapL _ _ _ _ (by omega) (by omega), if_neg (by omega)]
theorem cutL_down (l : List (Itm α)) (h : IsHeap l) (_h0 : 0 < l.length) : DownInv (cutL l) 0 := by
  constructor
  · intro k k0 k1 k2
    rw [cutL_length] at k1
    rw [at_cutL _ _ (by omega), at_cutL _ _ k1, if_neg k2, if_neg (by omega)]
    exact h k k0 (by omega)
  · intro k _ _ _ k3; omega
theorem cutL_perm (l : List (Itm α)) (h0 : 0 < l.length) : (at' l 0 :: cutL l).Perm l := by
  have hp := swapL_perm l 0 (l.length - 1) h0 (by omega)
  have e : swapL l 0 (l.length - 1) = cutL l ++ [at' l 0] := by
    have hl : (swapL l 0 (l.length - 1)).length = l.length := swapL_length _ _ _
    have e2 : (swapL l 0 (l.length - 1)).drop (l.length - 1) = [at' l 0] := by
      have hd : (swapL l 0 (l.length - 1)).drop (l.length - 1) = (swapL l 0 (l.length - 1))[l.length - 1]'(by omega) :: (swapL l 0 (l.length - 1)).drop (l.length - 1 + 1) := List.drop_eq_getElem_cons (by omega)
      rw [hd, List.drop_eq_nil_of_le (by omega)]
      have := at_swapL l 0 (l.length - 1) (l.length - 1) h0 (by omega)
      rw [if_pos rfl] at this
      rw [← this]; simp [at', List.getD_eq_getElem?_getD, hl, show l.length - 1 < l.length by omega]
    unfold cutL
    rw [← e2, List.take_append_drop]
  rw [e] at hp
  exact (List.perm_append_comm (l₁ := [at' l 0]) (l₂ := cutL l)).trans hp

/-- Strictly rising. -/
def Sorted : List (Itm α) → Prop
  | [] => True
  | a :: r => (∀ b ∈ r, lt a b) ∧ Sorted r
omit [Inhabited α] in
theorem sorted_head_le (a : Itm α) (r : List (Itm α)) (h : Sorted (a :: r)) : ∀ b ∈ a :: r, le a b := by
  intro b hb
  rcases List.mem_cons.1 hb with rfl | hb
  · exact le_refl _
  · exact le_of_lt (h.1 b hb)
/-- The heap's root is the sorted list's head. -/
theorem root_eq (l q : List (Itm α)) (hl : 0 < l.length) (hp : q.Perm l) (hs : Sorted q) (hh : IsHeap l) : ∃ r, q = at' l 0 :: r ∧ r.Perm (cutL l) ∧ Sorted r := by
  cases q with
  | nil => have := hp.length_eq; simp at this; omega
  | cons a r =>
    have hm : at' l 0 ∈ l := by simp [at', List.getD_eq_getElem?_getD, hl]
    have h1 : at' l 0 ∈ a :: r := hp.mem_iff.2 hm
    have h2 : a ∈ l := hp.mem_iff.1 (List.mem_cons_self ..)
    obtain ⟨k, hk, hke⟩ := List.getElem_of_mem h2
    have h3 : le (at' l 0) a := by
      have := root_le l hh k hk
      simpa [at', List.getD_eq_getElem?_getD, hk, hke] using this
    have e : a = at' l 0 := by
      rcases List.mem_cons.1 h1 with h | h
      · exact h.symm
      · exact absurd (hs.1 _ h) h3
    subst e
    refine ⟨r, rfl, ?_, hs.2⟩
    have hc := cutL_perm l hl
    exact (List.perm_cons _).1 (hp.trans hc.symm)
/-- Insertion behind all of no more cost. -/
def ins (x : Itm α) : List (Itm α) → List (Itm α)
  | [] => [x]
  | a :: r => if a.c ≤ x.c then a :: ins x r else x :: a :: r
omit [Inhabited α] in
theorem ins_perm (x : Itm α) (l : List (Itm α)) : (ins x l).Perm (x :: l) := by
  induction l with
  | nil => exact .refl _
  | cons a r ih =>
    unfold ins; split
    · exact (ih.cons a).trans (.swap x a r)
    · exact .refl _
omit [Inhabited α] in
theorem ins_sorted (x : Itm α) (l : List (Itm α)) (h : Sorted l) (hw : ∀ b ∈ l, b.w < x.w) : Sorted (ins x l) := by
  induction l with
  | nil => exact ⟨(fun b hb => by cases hb), trivial⟩
  | cons a r ih =>
    have hr := ih h.2 (fun b hb => hw b (List.mem_cons_of_mem _ hb))
    unfold ins; split
    · rename_i hc
      refine ⟨fun b hb => ?_, hr⟩
      rcases List.mem_cons.1 ((ins_perm x r).mem_iff.1 hb) with rfl | hb
      · have := hw a (List.mem_cons_self ..); unfold lt; omega
      · exact h.1 b hb
    · rename_i hc
      refine ⟨fun b hb => ?_, h⟩
      rcases List.mem_cons.1 hb with rfl | hb
      · unfold lt; omega
      · have := h.1 b hb; unfold lt at *; omega
end HM
end Go.Proofs.Ytmmoopikglbmbaa
