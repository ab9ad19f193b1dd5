/- The walks of Len, First, Of, Upto; the list of a set's numbers. -/
import Derived.Test.YtdhcnmljkmodhaaDoorBits3
import Derived.Test.YtdhcnmljkmodhaaDoorOpen
namespace Go.Proofs.YtdhcnmljkmodhaaDoor
set_option linter.unusedSectionVars false
set_option linter.unusedVariables false
set_option linter.unusedSimpArgs false
open Go.RowKit

/-- The numbers of a set, rising. -/
def BSet.mem (s : BSet) : List Nat := (List.range 128).filter s.has
theorem BSet.mem_split (s : BSet) : s.mem = ((List.range 64).filter s.lo.getLsbD) ++ ((List.range 64).filter s.hi.getLsbD).map (64 + ·) := by
  unfold BSet.mem
  rw [show (128 : Nat) = 64 + 64 by rfl, List.range_add, List.filter_append, List.filter_map]
  refine congr (congrArg _ ?_) ?_
  · apply List.filter_congr
    intro i hi
    unfold BSet.has
    rw [if_pos (List.mem_range.1 hi)]
  · apply congrArg (List.map (64 + ·))
    apply List.filter_congr
    intro i hi
    show s.has (64 + i) = _
    unfold BSet.has
    rw [if_neg (by omega), Nat.add_sub_cancel_left]
theorem pc_word (a : BitVec 64) : ((List.range 64).filter a.getLsbD).length = pc 64 a.toNat := by
  rw [← pc_filter]; rfl
theorem BSet.mem_length (s : BSet) : s.mem.length = pc 64 s.lo.toNat + pc 64 s.hi.toNat := by
  rw [BSet.mem_split, List.length_append, List.length_map, pc_word, pc_word]
/-- A callee that draws nothing, inside a region walked quietly. -/
theorem quiet_eq {P : Program} {f : FuncId} {args : Array Value} {w : World} {n : Nat} {v : Value} (h : Calls P f args (w.drewN n) fun e w' => e = .returned v ∧ w.drewN n = w') : Calls P f args (w.drewN n) fun e w'' => e = .returned v ∧ ∃ m, w'' = w.drewN m :=
  h.mono fun _ _ ⟨he, hm⟩ => ⟨he, n, hm.symm⟩
theorem pc_le (n x : Nat) : pc n x ≤ n := by
  induction n generalizing x with
  | zero => exact Nat.le_refl _
  | succ n ih => have := ih (x / 2); simp only [pc]; omega

set_option maxHeartbeats 400000 in
theorem len_any (s : BSet) (w : World) : Calls Tryd.prog 67 #[s.val] w fun e w' => e = .returned (.int .i64 s.mem.length) ∧ Keeps w w' (fun _ => False) := by
  have hl := s.mem_length
  have b1 := pc_le 64 s.lo.toNat
  have b2 := pc_le 64 s.hi.toNat
  have hs : ((s.mem.length : Nat) : Int) = (pc 64 s.lo.toNat : Int) + (pc 64 s.hi.toNat : Int) := by rw [hl]; simp
  have Hs := Lib.hid hs
  clear hl hs
  unfold BSet.val
  go_enter Tryd.func67, Tryd.ntmps67
  go_wp2_with fail
  go_quiet ((go_at_call 69; exact quiet_eq (ones_any _ _)))
  go_wp2
  go_ret
  rw [Hs.out]
  exact ⟨rfl, ((Keeps.refl _ _).alloc _).drewN _⟩

/-- The least, or -1. -/
def BSet.firstN (s : BSet) : Int := match s.mem with
  | [] => -1
  | k :: _ => k
theorem filter_range_head (p : Nat → Bool) (n k : Nat) (hk : k < n) (hp : p k = true) (hm : ∀ j, j < k → p j = false) : ∃ r, (List.range n).filter p = k :: r := by
  obtain ⟨m, rfl⟩ : ∃ m, n = k + (m + 1) := ⟨n - k - 1, by omega⟩
  rw [List.range_add, List.filter_append]
  have h1 : (List.range k).filter p = [] := List.filter_eq_nil_iff.2 (fun j hj => by rw [hm j (List.mem_range.1 hj)]; simp)
  rw [h1, List.range_succ_eq_map, List.map_cons, List.nil_append, List.filter_cons]
  rw [if_pos (by simpa using hp)]
  exact ⟨_, rfl⟩
theorem exists_least (p : Nat → Bool) (n : Nat) (h : ∃ k, k < n ∧ p k = true) : ∃ k, k < n ∧ p k = true ∧ ∀ j, j < k → p j = false := by
  obtain ⟨k, hk, hp⟩ := h
  induction k using Nat.strongRecOn with
  | _ k ih =>
    by_cases h : ∃ j, j < k ∧ p j = true
    · obtain ⟨j, h1, h2⟩ := h
      exact ih j h1 (by omega) h2
    · exact ⟨k, hk, hp, fun j hj => by
        cases hpj : p j
        · rfl
        · exact absurd ⟨j, hj, hpj⟩ h⟩
theorem word_ne_zero (a : BitVec 64) (h : a ≠ 0) : ∃ k, k < 64 ∧ a.getLsbD k = true := by
  by_cases hc : ∃ k, k < 64 ∧ a.getLsbD k = true
  · exact hc
  · exfalso; apply h
    apply BitVec.eq_of_getLsbD_eq
    intro i hi
    cases hb : a.getLsbD i
    · simp
    · exact absurd ⟨i, hi, hb⟩ hc
theorem word_zero_filter : (List.range 64).filter (0 : BitVec 64).getLsbD = [] := List.filter_eq_nil_iff.2 (fun j _ => by simp)
theorem int_eq_zero (a : BitVec 64) : ((a.toNat : Int) != 0) = (a != 0) := by
  rw [Bool.eq_iff_iff, bne_iff_ne, bne_iff_ne]
  constructor
  · intro h e; subst e; exact h rfl
  · intro h e; apply h; apply BitVec.eq_of_toNat_eq; simp; omega

set_option maxHeartbeats 400000 in
theorem first_any (s : BSet) (w : World) (hT : TabOk w) : Calls Tryd.prog 66 #[s.val] w fun e w' => e = .returned (.int .i64 s.firstN) ∧ Keeps w w' (fun _ => False) := by
  have hT2 : TabOk (w.alloc (.cells #[.int .u64 s.lo.toNat, .int .u64 s.hi.toNat] 57)) := hT.keeps ((Keeps.refl _ _).alloc _)
  have GT := Lib.hid hT2
  clear hT hT2
  by_cases h0 : s.lo = 0
  · by_cases h1 : s.hi = 0
    · have hf : s.firstN = -1 := by unfold BSet.firstN; rw [BSet.mem_split, h0, h1, word_zero_filter]; rfl
      have hb0 : ((s.lo.toNat : Int) != 0) = false := by rw [int_eq_zero, h0]; rfl
      have hb1 : ((s.hi.toNat : Int) != 0) = false := by rw [int_eq_zero, h1]; rfl
      rw [hf]
      clear h0 h1 hf
      unfold BSet.val
      go_enter Tryd.func66, Tryd.ntmps66
      go_wp2
      refine wp_loop_rounds 3 ?_
      rw [rounds_succ]
      go_wp2_with fail
      rw [rounds_succ]
      go_wp2_with fail
      rw [rounds_succ]
      go_wp2_with fail
      go_ret
      exact ⟨rfl, (Keeps.refl _ _).alloc _⟩
    · obtain ⟨k, hk, hs, hm⟩ := exists_least _ 64 (word_ne_zero _ h1)
      have hf : s.firstN = 64 + (k : Int) := by
        obtain ⟨r, hr⟩ := filter_range_head _ 64 k hk hs hm
        unfold BSet.firstN; rw [BSet.mem_split, h0, word_zero_filter, hr, List.nil_append, List.map_cons]; simp
      have hb0 : ((s.lo.toNat : Int) != 0) = false := by rw [int_eq_zero, h0]; rfl
      have hb1 : ((s.hi.toNat : Int) != 0) = true := by rw [int_eq_zero]; simpa using h1
      have C := Lib.hid (tz_any s.hi k hk hs hm _ GT.out)
      rw [hf]
      clear h0 h1 hf hs hm
      unfold BSet.val
      go_enter Tryd.func66, Tryd.ntmps66
      go_wp2
      refine wp_loop_rounds 3 ?_
      rw [rounds_succ]
      go_wp2_with fail
      rw [rounds_succ]
      go_wp2_with (go_at_call 68; refine C.out.mono ?_; rintro e w' ⟨rfl, rfl⟩)
      go_ret
      exact ⟨rfl, (Keeps.refl _ _).alloc _⟩
  · obtain ⟨k, hk, hs, hm⟩ := exists_least _ 64 (word_ne_zero _ h0)
    have hf : s.firstN = (k : Int) := by
      obtain ⟨r, hr⟩ := filter_range_head _ 64 k hk hs hm
      unfold BSet.firstN; rw [BSet.mem_split, hr, List.cons_append]
    have hb0 : ((s.lo.toNat : Int) != 0) = true := by rw [int_eq_zero]; simpa using h0
    have C := Lib.hid (tz_any s.lo k hk hs hm _ GT.out)
    rw [hf]
    clear h0 hf hs hm
    unfold BSet.val
    go_enter Tryd.func66, Tryd.ntmps66
    go_wp2
    refine wp_loop_rounds 3 ?_
    rw [rounds_succ]
    go_wp2_with (go_at_call 68; refine C.out.mono ?_; rintro e w' ⟨rfl, rfl⟩)
    go_ret
    exact ⟨rfl, (Keeps.refl _ _).alloc _⟩
end Go.Proofs.YtdhcnmljkmodhaaDoor
