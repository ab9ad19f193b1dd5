/- What the operations on sets come to as lists. -/
import Derived.Test.YtmmoopikglbmbaaDoorBits11
import Derived.Test.YtmmoopikglbmbaaDoorBits12
namespace Go.Proofs.YtmmoopikglbmbaaDoor
set_option linter.unusedSectionVars false
set_option linter.unusedVariables false
set_option linter.unusedSimpArgs false
open Go.RowKit

theorem has_or (s t : BSet) (j : Nat) : (s.or t).has j = (s.has j || t.has j) := by
  unfold BSet.or BSet.has
  split <;> simp
theorem has_and (s t : BSet) (j : Nat) : (s.and t).has j = (s.has j && t.has j) := by
  unfold BSet.and BSet.has
  split <;> simp
theorem has_less (s t : BSet) (j : Nat) (hj : j < 128) : (s.less t).has j = (s.has j && !t.has j) := by
  by_cases h : j < 64
  · rw [BSet.has_not_lo h, BSet.has_not_lo h, BSet.has_not_lo h]
    unfold BSet.less
    exact not_and_get _ _ _ h
  · rw [BSet.has_not_hi h, BSet.has_not_hi h, BSet.has_not_hi h]
    unfold BSet.less
    exact not_and_get _ _ _ (by omega)
theorem has_one (k j : Nat) (hk : k < 128) (hj : j < 128) : (BSet.one k).has j = decide (j = k) := by
  by_cases h2 : j < 64
  · rw [BSet.has_not_lo h2]
    by_cases h1 : k < 64
    · unfold BSet.one; rw [if_pos h1]; exact bitN_get k j h1 h2
    · unfold BSet.one; rw [if_neg h1]
      rw [decide_eq_false (by omega)]
      show (0 : BitVec 64).getLsbD j = false
      simp
  · rw [BSet.has_not_hi h2]
    by_cases h1 : k < 64
    · unfold BSet.one; rw [if_pos h1]
      rw [decide_eq_false (by omega)]
      show (0 : BitVec 64).getLsbD (j - 64) = false
      simp
    · unfold BSet.one; rw [if_neg h1]
      rw [show decide (j = k) = decide (j - 64 = k - 64) by rw [decide_eq_decide]; omega]
      exact bitN_get (k - 64) (j - 64) (by omega) (by omega)
theorem has_empty (j : Nat) : BSet.empty.has j = false := by unfold BSet.empty BSet.has; split <;> simp
theorem has_withN (s : BSet) (i : Int) (j : Nat) (hj : j < 128) : (s.withN i).has j = (s.has j || decide ((j : Int) = i)) := by
  unfold BSet.withN
  split
  · rename_i h
    rw [has_or, has_one _ _ (by omega) hj]
    congr 1
    rw [decide_eq_decide]; omega
  · rename_i h
    rw [decide_eq_false (by omega), Bool.or_false]
theorem has_withoutN (s : BSet) (i : Int) (j : Nat) (hj : j < 128) : (s.withoutN i).has j = (s.has j && !decide ((j : Int) = i)) := by
  unfold BSet.withoutN
  split
  · rename_i h
    rw [has_less _ _ _ hj, has_one _ _ (by omega) hj]
    congr 2
    rw [decide_eq_decide]; omega
  · rename_i h
    rw [decide_eq_false (by omega)]; simp
theorem hasI_app (l m : List Int) (i : Int) : hasI (l ++ m) i = (hasI l i || hasI m i) := by
  rw [Bool.eq_iff_iff]; simp [hasI_iff]
theorem hasI_one (i j : Int) : hasI [i] j = decide (j = i) := by
  rw [Bool.eq_iff_iff]; simp [hasI_iff]
theorem has_ofL (l : List Int) (s : BSet) (j : Nat) (hj : j < 128) : (l.foldl BSet.withN s).has j = (s.has j || hasI l (j : Int)) := by
  induction l generalizing s with
  | nil => show s.has j = _; rw [show hasI [] (j : Int) = false from rfl, Bool.or_false]
  | cons i r ih =>
    rw [List.foldl_cons, ih, has_withN _ _ _ hj]
    rw [show hasI (i :: r) (j : Int) = (decide ((j : Int) = i) || hasI r (j : Int)) by rw [Bool.eq_iff_iff]; simp [hasI_iff], Bool.or_assoc]
theorem memI_def (s : BSet) : memI s = ((List.range 128).filter s.has).map (fun (n : Nat) => (n : Int)) := rfl
/-- A set is the numbers below 128 that are in a list. -/
theorem memI_ofR (s : BSet) (l : List Int) (h : ∀ j, j < 128 → s.has j = hasI l (j : Int)) : memI s = ofR l 128 := by
  rw [memI_def]; unfold ofR
  rw [List.filter_congr (fun j hj => h j (List.mem_range.1 hj))]
theorem hasI_memI (s : BSet) (j : Nat) (hj : j < 128) : hasI (memI s) (j : Int) = s.has j := by
  rw [Bool.eq_iff_iff, hasI_iff, memI_def]
  simp only [List.mem_map, List.mem_filter, List.mem_range]
  constructor
  · rintro ⟨k, ⟨_, h⟩, e⟩
    obtain rfl : k = j := by omega
    exact h
  · intro h; exact ⟨j, ⟨hj, h⟩, rfl⟩
theorem m_of (l : List Int) : memI (ofL l) = ofR l 128 := memI_ofR _ _ (fun j hj => by unfold ofL; rw [has_ofL _ _ _ hj, has_empty, Bool.false_or])
theorem m_upto (n : Int) : memI (uptoN n) = rangeI (min (max n 0) 128).toNat := by
  obtain ⟨m, hm⟩ : ∃ m, (min (max n 0) 128).toNat = m := ⟨_, rfl⟩
  have hm1 : m ≤ 128 := by omega
  unfold uptoN
  rw [hm]
  unfold uptoM
  rw [m_of]
  unfold ofR rangeI
  congr 1
  have e : ∀ k : Nat, k < 128 → hasI ((List.range m).map (fun (i : Nat) => (i : Int))) (k : Int) = decide (k < m) := fun k hk => by
    rw [Bool.eq_iff_iff, hasI_iff, decide_eq_true_iff]
    simp only [List.mem_map, List.mem_range]
    constructor
    · rintro ⟨a, h, e⟩; omega
    · intro h; exact ⟨k, h, rfl⟩
  rw [List.filter_congr (fun k hk => e k (List.mem_range.1 hk))]
  have r : List.range 128 = List.range m ++ List.range' m (128 - m) := by
    rw [List.range_eq_range', List.range_eq_range']
    have := List.range'_append_1 (s := 0) (m := m) (n := 128 - m)
    rw [Nat.zero_add] at this
    rw [this]; congr 1; omega
  rw [r, List.filter_append, List.filter_eq_self.2 (fun a ha => by simpa using ha), List.filter_eq_nil_iff.2 (fun a ha => by
    have := (List.mem_range'_1.1 ha).1
    simp; omega), List.append_nil]
theorem m_has (s : BSet) (i : Int) : s.hasN i = hasI (memI s) i := by
  unfold BSet.hasN
  by_cases h : 0 ≤ i ∧ i < 128
  · obtain ⟨k, rfl⟩ := Int.eq_ofNat_of_zero_le h.1
    rw [hasI_memI s k (by omega), decide_eq_true h.1, decide_eq_true h.2]
    simp
  · have : hasI (memI s) i = false := by
      rw [Bool.eq_false_iff]
      intro hh
      rw [hasI_iff, memI_def] at hh
      simp only [List.mem_map, List.mem_filter, List.mem_range] at hh
      obtain ⟨k, ⟨h1, _⟩, rfl⟩ := hh
      omega
    rw [this]
    by_cases h1 : 0 ≤ i
    · rw [decide_eq_false (show ¬ i < 128 by omega)]; simp
    · rw [decide_eq_false h1]; rfl
theorem m_with (s : BSet) (i : Int) : memI (s.withN i) = ofR (memI s ++ [i]) 128 := memI_ofR _ _ (fun j hj => by rw [has_withN _ _ _ hj, hasI_app, hasI_memI _ _ hj, hasI_one])
theorem m_self (s : BSet) : memI s = ofR (memI s) 128 := memI_ofR _ _ (fun j hj => (hasI_memI s j hj).symm)
theorem m_or (s t : BSet) : memI (s.or t) = ofR (memI s ++ memI t) 128 := memI_ofR _ _ (fun j hj => by rw [has_or, hasI_app, hasI_memI _ _ hj, hasI_memI _ _ hj])
theorem m_filter (s u : BSet) (p : Int → Bool) (h : ∀ j, j < 128 → u.has j = (s.has j && p (j : Int))) : memI u = (memI s).filter p := by
  rw [memI_def, memI_def, List.filter_map, List.filter_filter]
  congr 1
  exact List.filter_congr (fun j hj => by rw [h j (List.mem_range.1 hj), Bool.and_comm]; rfl)
theorem m_without (s : BSet) (i : Int) : memI (s.withoutN i) = (memI s).filter (fun x => !hasI [i] x) := m_filter _ _ _ (fun j hj => by rw [has_withoutN _ _ _ hj, hasI_one])
theorem m_and (s t : BSet) : memI (s.and t) = (memI s).filter (fun x => hasI (memI t) x) := m_filter _ _ _ (fun j hj => by rw [has_and, hasI_memI _ _ hj])
theorem m_less (s t : BSet) : memI (s.less t) = (memI s).filter (fun x => !hasI (memI t) x) := m_filter _ _ _ (fun j hj => by rw [has_less _ _ _ hj, hasI_memI _ _ hj])
theorem m_under (s t : BSet) : (s.less t).isEmpty = decide (((memI s).filter (fun x => !hasI (memI t) x)).length = 0) := by rw [isEmpty_len, ← m_less, memI_len]
theorem memI_len128 (s : BSet) : (memI s).length ≤ 128 := by rw [memI_len]; exact mem_len128 s
end Go.Proofs.YtmmoopikglbmbaaDoor
