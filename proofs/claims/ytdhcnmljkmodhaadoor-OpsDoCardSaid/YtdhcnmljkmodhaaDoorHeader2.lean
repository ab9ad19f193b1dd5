/- The walks of header.Below, Valid, and of the reference's Valid. -/
import Derived.Test.YtdhcnmljkmodhaaDoorHeader1
namespace Go.Proofs.YtdhcnmljkmodhaaDoor
set_option linter.unusedSectionVars false
set_option linter.unusedVariables false
set_option linter.unusedSimpArgs false
open Go.RowKit

set_option maxHeartbeats 400000 in
theorem below_3 (w : World) (s : BSet) (hs : s = ofL [(3 : Int), (2 : Int)]) : Calls Tryd.prog 35 #[.int .i64 3] w fun e w' => e = .returned s.val ∧ Keeps w w' (fun _ => False) := by
  have HA : Hid (ReadsC (((w.alloc (.cells #[.int .u64 0, .int .u64 0] 57)).alloc (.cells #[.int .u64 0, .int .u64 0] 57)).alloc (.cells #[.int .i64 3, .int .i64 2] 3)) 1 (.slice (some ⟨w.heap.size + 1 + 1, 0, none⟩) 2 2) [(3 : Int), (2 : Int)].length ([(3 : Int), (2 : Int)].flatMap encI)) := by
    have h := ReadsI.lit ((w.alloc (.cells #[.int .u64 0, .int .u64 0] 57)).alloc (.cells #[.int .u64 0, .int .u64 0] 57)) [(3 : Int), (2 : Int)] 3 (by simp)
    rw [hs_alloc, hs_alloc] at h
    exact Lib.hid h
  go_enter Tryd.func35, Tryd.ntmps35
  go_wp2_with fail
  refine (of_any _ _ [(3 : Int), (2 : Int)] HA.out).mono ?_
  rintro e w1 ⟨he, k1⟩
  rw [← hs] at he
  subst he
  have K1 : Hid (Keeps w w1 (fun _ => False)) := ((((Keeps.refl _ _).alloc _).alloc _).alloc _).trans k1
  have q0 : w1.heap[w.heap.size]? = some (.cells #[.int .u64 0, .int .u64 0] 57 (0, 0)) :=
    (k1.block _ (by simp only [hs_alloc]; omega) id).trans (((Below.heap_alloc _ _ _ (by simp only [hs_alloc]; omega)).trans (Below.heap_alloc _ _ _ (by simp only [hs_alloc]; omega))).trans (heap_alloc_new w _))
  have q1 : w1.heap[w.heap.size + 1]? = some (.cells #[.int .u64 0, .int .u64 0] 57 (0, 0)) := by
    refine (k1.block _ (by simp only [hs_alloc]; omega) id).trans ((Below.heap_alloc _ _ _ (by simp only [hs_alloc]; omega)).trans ?_)
    have := heap_alloc_new (w.alloc (.cells #[.int .u64 0, .int .u64 0] 57)) (.cells #[.int .u64 0, .int .u64 0] 57)
    rw [hs_alloc] at this; exact this
  have c0 : w1.cell? ⟨w.heap.size, 0, none⟩ = some (.int .u64 0) := by rw [cell_at q0]; rfl
  have c1 : w1.cell? ⟨w.heap.size, 1, none⟩ = some (.int .u64 0) := by rw [cell_at q0]; rfl
  have d0 : w1.cell? ⟨w.heap.size + 1, 0, none⟩ = some (.int .u64 0) := by rw [cell_at q1]; rfl
  have d1 : w1.cell? ⟨w.heap.size + 1, 1, none⟩ = some (.int .u64 0) := by rw [cell_at q1]; rfl
  have f0 : ∀ o, w1.frozen? ⟨w.heap.size, o, none⟩ = false := free_at q0
  have f1 : ∀ o, w1.frozen? ⟨w.heap.size + 1, o, none⟩ = false := free_at q1
  have hs1 := block_lt q1
  clear k1 q0 q1
  clear hs HA
  unfold BSet.val
  go_wp2_with fail
  refine bodyPost_ret (v := s.val) (by simp [results, Tryd.results35, go_sem, BSet.val, c0, c1, d0, d1, hs1]) rfl ⟨rfl, ?_⟩
  exact (((K1.out.setCell (fun h => absurd h (by simp)) _).setCell (fun h => absurd h (by simp)) _).setCell (fun h => absurd h (by simp)) _).setCell (fun h => absurd h (by simp)) _
set_option maxHeartbeats 400000 in
theorem below_2 (w : World) (s : BSet) (hs : s = ofL [(1 : Int)]) : Calls Tryd.prog 35 #[.int .i64 2] w fun e w' => e = .returned s.val ∧ Keeps w w' (fun _ => False) := by
  have HA : Hid (ReadsC (((w.alloc (.cells #[.int .u64 0, .int .u64 0] 57)).alloc (.cells #[.int .u64 0, .int .u64 0] 57)).alloc (.cells #[.int .i64 1] 3)) 1 (.slice (some ⟨w.heap.size + 1 + 1, 0, none⟩) 1 1) [(1 : Int)].length ([(1 : Int)].flatMap encI)) := by
    have h := ReadsI.lit ((w.alloc (.cells #[.int .u64 0, .int .u64 0] 57)).alloc (.cells #[.int .u64 0, .int .u64 0] 57)) [(1 : Int)] 3 (by simp)
    rw [hs_alloc, hs_alloc] at h
    exact Lib.hid h
  go_enter Tryd.func35, Tryd.ntmps35
  go_wp2_with fail
  refine (of_any _ _ [(1 : Int)] HA.out).mono ?_
  rintro e w1 ⟨he, k1⟩
  rw [← hs] at he
  subst he
  have K1 : Hid (Keeps w w1 (fun _ => False)) := ((((Keeps.refl _ _).alloc _).alloc _).alloc _).trans k1
  have q0 : w1.heap[w.heap.size]? = some (.cells #[.int .u64 0, .int .u64 0] 57 (0, 0)) :=
    (k1.block _ (by simp only [hs_alloc]; omega) id).trans (((Below.heap_alloc _ _ _ (by simp only [hs_alloc]; omega)).trans (Below.heap_alloc _ _ _ (by simp only [hs_alloc]; omega))).trans (heap_alloc_new w _))
  have q1 : w1.heap[w.heap.size + 1]? = some (.cells #[.int .u64 0, .int .u64 0] 57 (0, 0)) := by
    refine (k1.block _ (by simp only [hs_alloc]; omega) id).trans ((Below.heap_alloc _ _ _ (by simp only [hs_alloc]; omega)).trans ?_)
    have := heap_alloc_new (w.alloc (.cells #[.int .u64 0, .int .u64 0] 57)) (.cells #[.int .u64 0, .int .u64 0] 57)
    rw [hs_alloc] at this; exact this
  have c0 : w1.cell? ⟨w.heap.size, 0, none⟩ = some (.int .u64 0) := by rw [cell_at q0]; rfl
  have c1 : w1.cell? ⟨w.heap.size, 1, none⟩ = some (.int .u64 0) := by rw [cell_at q0]; rfl
  have d0 : w1.cell? ⟨w.heap.size + 1, 0, none⟩ = some (.int .u64 0) := by rw [cell_at q1]; rfl
  have d1 : w1.cell? ⟨w.heap.size + 1, 1, none⟩ = some (.int .u64 0) := by rw [cell_at q1]; rfl
  have f0 : ∀ o, w1.frozen? ⟨w.heap.size, o, none⟩ = false := free_at q0
  have f1 : ∀ o, w1.frozen? ⟨w.heap.size + 1, o, none⟩ = false := free_at q1
  have hs1 := block_lt q1
  clear k1 q0 q1
  clear hs HA
  unfold BSet.val
  go_wp2_with fail
  refine bodyPost_ret (v := s.val) (by simp [results, Tryd.results35, go_sem, BSet.val, c0, c1, d0, d1, hs1]) rfl ⟨rfl, ?_⟩
  exact (((K1.out.setCell (fun h => absurd h (by simp)) _).setCell (fun h => absurd h (by simp)) _).setCell (fun h => absurd h (by simp)) _).setCell (fun h => absurd h (by simp)) _
set_option maxHeartbeats 400000 in
theorem below_other (k : Int) (h2 : (k == 2) = false) (h3 : (k == 3) = false) (w : World) : Calls Tryd.prog 35 #[.int .i64 k] w fun e w' => e = .returned (ofL []).val ∧ Keeps w w' (fun _ => False) := by
  have hz : ofL [] = BSet.empty := rfl
  go_enter Tryd.func35, Tryd.ntmps35
  go_wp2
  refine bodyPost_ret (v := (ofL []).val) (by simp [results, Tryd.results35, go_sem, hz, BSet.empty, BSet.val]) rfl ⟨rfl, ?_⟩
  repeat (first | exact Keeps.refl _ _ | apply Keeps.drew | refine Keeps.setCell ?_ (fun h => absurd h (by simp)) _ | apply Keeps.alloc)
def belowS (k : Int) : BSet := if k = 3 then ofL [3, 2] else if k = 2 then ofL [1] else ofL []
theorem below_any (k : Int) (w : World) : Calls Tryd.prog 35 #[.int .i64 k] w fun e w' => e = .returned (belowS k).val ∧ Keeps w w' (fun _ => False) := by
  by_cases h3 : k = 3
  · subst h3; exact below_3 w _ rfl
  · by_cases h2 : k = 2
    · subst h2; exact below_2 w _ rfl
    · have e : belowS k = ofL [] := by unfold belowS; rw [if_neg h3, if_neg h2]
      rw [e]
      exact below_other k (beq_eq_false_iff_ne.2 h2) (beq_eq_false_iff_ne.2 h3) w
/-- May one of the kind a stand right on one of the kind b? -/
def mayL (a b : Int) : Bool := (a == 3 && (b == 3 || b == 2)) || (a == 2 && b == 1)
theorem has32 : ∀ n, n < 128 → (ofL [3, 2]).has n = (n == 3 || n == 2) := by decide +kernel
theorem has1 : ∀ n, n < 128 → (ofL [1]).has n = (n == 1) := by decide +kernel
theorem has_ : ∀ n, n < 128 → (ofL []).has n = false := by decide +kernel
theorem below_has (a b : Int) : (belowS a).hasN b = mayL a b := by
  unfold BSet.hasN mayL belowS
  by_cases hb : 0 ≤ b ∧ b < 128
  · obtain ⟨n, rfl⟩ := Int.eq_ofNat_of_zero_le hb.1
    have hn : n < 128 := by omega
    rw [decide_eq_true hb.1, decide_eq_true hb.2, Bool.true_and, Bool.true_and, Int.toNat_natCast]
    by_cases h3 : a = 3
    · subst h3
      rw [if_pos rfl, has32 n hn, Bool.eq_iff_iff]; simp; omega
    · by_cases h2 : a = 2
      · subst h2
        rw [if_neg (by decide), if_pos rfl, has1 n hn, Bool.eq_iff_iff]; simp; omega
      · rw [if_neg h3, if_neg h2, has_ n hn, Bool.eq_iff_iff]; simp [h2, h3]
  · have h1 : (decide (0 ≤ b) && decide (b < 128)) = false := by
      simp only [Bool.and_eq_false_iff, decide_eq_false_iff_not]; omega
    rw [h1, Bool.false_and]
    symm
    simp only [Bool.or_eq_false_iff, Bool.and_eq_false_iff, beq_eq_false_iff_ne]
    omega

end Go.Proofs.YtdhcnmljkmodhaaDoor
