/- The walks of the sets' plain functions: in, Has, With, Without, Or, And, Less, Empty, Under. -/
import Derived.Test.YtdhcnmljkmodhaaDoorRows
import Derived.Test.YtdhcnmljkmodhaaDoorBits0
import Derived.RegionTactic
import Derived.BigRegion
import Derived.Deep.QuietTactic
import Derived.BigQuiet
namespace Go.Proofs.YtdhcnmljkmodhaaDoor
set_option linter.unusedSectionVars false
set_option linter.unusedVariables false
set_option linter.unusedSimpArgs false
open Go.RowKit

@[go_sem] theorem run_eq_set (a b c d : Int) (W : World) : (Op.equalIn 10000 57 (.agg #[.int .u64 a, .int .u64 b]) (.agg #[.int .u64 c, .int .u64 d])).run Tryd.prog W = .ok (a == c && b == d) W := by
  have hag : ∀ W, (isAgg 55).run Tryd.prog W = .ok false W := fun _ => by kernel_rfl
  have heq : ∀ (x y : Int) W, (Op.equalIn 9999 55 (.int .u64 x) (.int .u64 y)).run Tryd.prog W = .ok (x == y) W := fun x y W => run_equalIn_int W 9998 55 .u64 .u64 x y Tryd.underlying55
  unfold Op.equalIn
  simp [run_underlying Tryd.underlying57, go_sem, List.range', hag, heq]
  by_cases h1 : a = c
  · by_cases h2 : b = d <;> simp [h1, h2, hag, heq]
  · simp [h1]

theorem in_any (i : Int) (w : World) : Calls Tryd.prog 48 #[.int .i64 i] w fun e w' => e = .returned (.bool (decide (0 ≤ i) && decide (i < 128))) ∧ w = w' := by
  by_cases h : 0 ≤ i
  · go_enter Tryd.func48, Tryd.ntmps48
    go_wp2
    go_ret
    simp [h]
  · have h' : i < 0 := by omega
    go_enter Tryd.func48, Tryd.ntmps48
    go_wp2
    go_ret
    simp; omega

set_option maxHeartbeats 400000 in
theorem or_any (s t : BSet) (w : World) : Calls Tryd.prog 58 #[s.val, t.val] w fun e w' => e = .returned (s.or t).val ∧ Keeps w w' (fun _ => False) := by
  unfold BSet.val
  go_enter Tryd.func58, Tryd.ntmps58
  go_wp2
  refine wp_loop_rounds 3 ?_
  rw [rounds_succ]
  go_wp2_with fail
  go_region
  go_wp2_with fail
  rw [rounds_succ]
  go_wp2_with fail
  go_region
  go_wp2_with fail
  rw [rounds_succ]
  go_wp2_with fail
  refine bodyPost_ret (v := (s.or t).val) (by simp [results, Tryd.results58, go_sem, BSet.val, BSet.or]) rfl ⟨rfl, ?_⟩
  repeat (first | exact Keeps.refl _ _ | apply Keeps.drew | refine Keeps.setCell ?_ (fun h => absurd h (by simp)) _ | apply Keeps.alloc)
set_option maxHeartbeats 400000 in
theorem and_any (s t : BSet) (w : World) : Calls Tryd.prog 43 #[s.val, t.val] w fun e w' => e = .returned (s.and t).val ∧ Keeps w w' (fun _ => False) := by
  unfold BSet.val
  go_enter Tryd.func43, Tryd.ntmps43
  go_wp2
  refine wp_loop_rounds 3 ?_
  rw [rounds_succ]
  go_wp2_with fail
  go_region
  go_wp2_with fail
  rw [rounds_succ]
  go_wp2_with fail
  go_region
  go_wp2_with fail
  rw [rounds_succ]
  go_wp2_with fail
  refine bodyPost_ret (v := (s.and t).val) (by simp [results, Tryd.results43, go_sem, BSet.val, BSet.and]) rfl ⟨rfl, ?_⟩
  repeat (first | exact Keeps.refl _ _ | apply Keeps.drew | refine Keeps.setCell ?_ (fun h => absurd h (by simp)) _ | apply Keeps.alloc)
set_option maxHeartbeats 400000 in
theorem with_lo (s : BSet) (n : Nat) (hn : n < 64) (w : World) : Calls Tryd.prog 41 #[s.val, .int .i64 (n : Int)] w fun e w' => e = .returned (s.or (BSet.one (n))).val ∧ Keeps w w' (fun _ => False) := by
  have hone : BSet.one (n) = ⟨bitN n, 0⟩ := BSet.one_lo n hn
  have Hone := Lib.hid hone
  clear hone
  have hs := wrap_pow2 n hn
  unfold BSet.val
  have h0 : (n : Int) / 64 = 0 := by omega
  have h1 : (n : Int) % 64 = n := by omega
  go_enter Tryd.func41, Tryd.ntmps41
  go_wp2_with fail
  refine (in_any (n : Int) _).mono ?_
  rintro e w' ⟨rfl, rfl⟩
  rw [decide_eq_true (by omega), decide_eq_true (by omega)]
  go_wp2_with fail
  go_region
  go_wp2
  rw [Hone.out, BSet.or_lo]
  refine bodyPost_ret (v := BSet.val ⟨s.lo ||| bitN n, s.hi⟩) (by simp [results, Tryd.results41, go_sem, BSet.val, BSet.or]) rfl ⟨rfl, ?_⟩
  repeat (first | exact Keeps.refl _ _ | apply Keeps.drew | refine Keeps.setCell ?_ (fun h => absurd h (by simp)) _ | apply Keeps.alloc)
set_option maxHeartbeats 400000 in
theorem with_hi (s : BSet) (n : Nat) (hn : n < 64) (w : World) : Calls Tryd.prog 41 #[s.val, .int .i64 (64 + (n : Int))] w fun e w' => e = .returned (s.or (BSet.one (64 + n))).val ∧ Keeps w w' (fun _ => False) := by
  have hone : BSet.one (64 + n) = ⟨0, bitN n⟩ := BSet.one_hi n hn
  have Hone := Lib.hid hone
  clear hone
  have hs := wrap_pow2 n hn
  unfold BSet.val
  have h0 : (64 + (n : Int)) / 64 = 1 := by omega
  have h1 : (64 + (n : Int)) % 64 = n := by omega
  go_enter Tryd.func41, Tryd.ntmps41
  go_wp2_with fail
  refine (in_any (64 + (n : Int)) _).mono ?_
  rintro e w' ⟨rfl, rfl⟩
  rw [decide_eq_true (by omega), decide_eq_true (by omega)]
  go_wp2_with fail
  go_region
  go_wp2
  rw [Hone.out, BSet.or_hi]
  refine bodyPost_ret (v := BSet.val ⟨s.lo, s.hi ||| bitN n⟩) (by simp [results, Tryd.results41, go_sem, BSet.val, BSet.or]) rfl ⟨rfl, ?_⟩
  repeat (first | exact Keeps.refl _ _ | apply Keeps.drew | refine Keeps.setCell ?_ (fun h => absurd h (by simp)) _ | apply Keeps.alloc)
/-- With, of any number. -/
def BSet.withN (s : BSet) (i : Int) : BSet := if 0 ≤ i ∧ i < 128 then s.or (BSet.one i.toNat) else s
theorem with_any (s : BSet) (i : Int) (w : World) : Calls Tryd.prog 41 #[s.val, .int .i64 i] w fun e w' => e = .returned (s.withN i).val ∧ Keeps w w' (fun _ => False) := by
  by_cases h : 0 ≤ i ∧ i < 128
  · unfold BSet.withN
    rw [if_pos h]
    by_cases h2 : i < 64
    · obtain ⟨n, rfl⟩ := Int.eq_ofNat_of_zero_le h.1
      exact with_lo s n (by omega) w
    · obtain ⟨n, hn⟩ := Int.eq_ofNat_of_zero_le (show 0 ≤ i - 64 by omega)
      obtain rfl : i = 64 + (n : Int) := by omega
      rw [show (64 + (n : Int)).toNat = 64 + n by omega]
      exact with_hi s n (by omega) w
  · unfold BSet.withN
    rw [if_neg h]
    have hb : (decide (0 ≤ i) && decide (i < 128)) = false := by
      simp only [Bool.and_eq_false_iff, decide_eq_false_iff_not]; omega
    have Hb := Lib.hid hb
    clear hb h
    unfold BSet.val
    go_enter Tryd.func41, Tryd.ntmps41
    go_wp2_with fail
    refine (in_any i _).mono ?_
    rintro e w' ⟨rfl, rfl⟩
    rw [Hb.out]
    go_wp2
    refine bodyPost_ret (v := s.val) (by simp [results, Tryd.results41, go_sem, BSet.val]) rfl ⟨rfl, ?_⟩
    repeat (first | exact Keeps.refl _ _ | apply Keeps.drew | refine Keeps.setCell ?_ (fun h => absurd h (by simp)) _ | apply Keeps.alloc)
set_option maxHeartbeats 400000 in
theorem without_lo (s : BSet) (n : Nat) (hn : n < 64) (w : World) : Calls Tryd.prog 56 #[s.val, .int .i64 (n : Int)] w fun e w' => e = .returned (s.less (BSet.one (n))).val ∧ Keeps w w' (fun _ => False) := by
  have hone : BSet.one (n) = ⟨bitN n, 0⟩ := BSet.one_lo n hn
  have Hone := Lib.hid hone
  clear hone
  have hs := wrap_pow2 n hn
  unfold BSet.val
  have h0 : (n : Int) / 64 = 0 := by omega
  have h1 : (n : Int) % 64 = n := by omega
  go_enter Tryd.func56, Tryd.ntmps56
  go_wp2_with fail
  refine (in_any (n : Int) _).mono ?_
  rintro e w' ⟨rfl, rfl⟩
  rw [decide_eq_true (by omega), decide_eq_true (by omega)]
  go_wp2_with fail
  go_region
  go_wp2
  rw [Hone.out, BSet.less_lo]
  refine bodyPost_ret (v := BSet.val ⟨s.lo &&& ~~~bitN n, s.hi⟩) (by simp [results, Tryd.results56, go_sem, BSet.val, BSet.less]) rfl ⟨rfl, ?_⟩
  repeat (first | exact Keeps.refl _ _ | apply Keeps.drew | refine Keeps.setCell ?_ (fun h => absurd h (by simp)) _ | apply Keeps.alloc)
set_option maxHeartbeats 400000 in
theorem without_hi (s : BSet) (n : Nat) (hn : n < 64) (w : World) : Calls Tryd.prog 56 #[s.val, .int .i64 (64 + (n : Int))] w fun e w' => e = .returned (s.less (BSet.one (64 + n))).val ∧ Keeps w w' (fun _ => False) := by
  have hone : BSet.one (64 + n) = ⟨0, bitN n⟩ := BSet.one_hi n hn
  have Hone := Lib.hid hone
  clear hone
  have hs := wrap_pow2 n hn
  unfold BSet.val
  have h0 : (64 + (n : Int)) / 64 = 1 := by omega
  have h1 : (64 + (n : Int)) % 64 = n := by omega
  go_enter Tryd.func56, Tryd.ntmps56
  go_wp2_with fail
  refine (in_any (64 + (n : Int)) _).mono ?_
  rintro e w' ⟨rfl, rfl⟩
  rw [decide_eq_true (by omega), decide_eq_true (by omega)]
  go_wp2_with fail
  go_region
  go_wp2
  rw [Hone.out, BSet.less_hi]
  refine bodyPost_ret (v := BSet.val ⟨s.lo, s.hi &&& ~~~bitN n⟩) (by simp [results, Tryd.results56, go_sem, BSet.val, BSet.less]) rfl ⟨rfl, ?_⟩
  repeat (first | exact Keeps.refl _ _ | apply Keeps.drew | refine Keeps.setCell ?_ (fun h => absurd h (by simp)) _ | apply Keeps.alloc)
/-- Without, of any number. -/
def BSet.withoutN (s : BSet) (i : Int) : BSet := if 0 ≤ i ∧ i < 128 then s.less (BSet.one i.toNat) else s
theorem without_any (s : BSet) (i : Int) (w : World) : Calls Tryd.prog 56 #[s.val, .int .i64 i] w fun e w' => e = .returned (s.withoutN i).val ∧ Keeps w w' (fun _ => False) := by
  by_cases h : 0 ≤ i ∧ i < 128
  · unfold BSet.withoutN
    rw [if_pos h]
    by_cases h2 : i < 64
    · obtain ⟨n, rfl⟩ := Int.eq_ofNat_of_zero_le h.1
      exact without_lo s n (by omega) w
    · obtain ⟨n, hn⟩ := Int.eq_ofNat_of_zero_le (show 0 ≤ i - 64 by omega)
      obtain rfl : i = 64 + (n : Int) := by omega
      rw [show (64 + (n : Int)).toNat = 64 + n by omega]
      exact without_hi s n (by omega) w
  · unfold BSet.withoutN
    rw [if_neg h]
    have hb : (decide (0 ≤ i) && decide (i < 128)) = false := by
      simp only [Bool.and_eq_false_iff, decide_eq_false_iff_not]; omega
    have Hb := Lib.hid hb
    clear hb h
    unfold BSet.val
    go_enter Tryd.func56, Tryd.ntmps56
    go_wp2_with fail
    refine (in_any i _).mono ?_
    rintro e w' ⟨rfl, rfl⟩
    rw [Hb.out]
    go_wp2
    refine bodyPost_ret (v := s.val) (by simp [results, Tryd.results56, go_sem, BSet.val]) rfl ⟨rfl, ?_⟩
    repeat (first | exact Keeps.refl _ _ | apply Keeps.drew | refine Keeps.setCell ?_ (fun h => absurd h (by simp)) _ | apply Keeps.alloc)

theorem has_lo (s : BSet) (n : Nat) (hn : n < 64) (w : World) : Calls Tryd.prog 36 #[s.val, .int .i64 (n : Int)] w fun e w' => e = .returned (.bool (s.has (n))) ∧ Keeps w w' (fun _ => False) := by
  have h0 : (n : Int) / 64 = 0 := by omega
  have h1 : (n : Int) % 64 = n := by omega
  have hh : s.has (n) = s.lo.getLsbD n := by unfold BSet.has; rw [if_pos hn]
  have Hh := Lib.hid hh
  clear hh
  unfold BSet.val
  go_enter Tryd.func36, Tryd.ntmps36
  go_wp2_with fail
  refine (in_any (n : Int) _).mono ?_
  rintro e w' ⟨rfl, rfl⟩
  rw [decide_eq_true (by omega), decide_eq_true (by omega)]
  go_wp2
  go_ret
  rw [Hh.out, ← has_bit]
  exact ⟨rfl, (Keeps.refl _ _).alloc _⟩
theorem has_hi (s : BSet) (n : Nat) (hn : n < 64) (w : World) : Calls Tryd.prog 36 #[s.val, .int .i64 (64 + (n : Int))] w fun e w' => e = .returned (.bool (s.has (64 + n))) ∧ Keeps w w' (fun _ => False) := by
  have h0 : (64 + (n : Int)) / 64 = 1 := by omega
  have h1 : (64 + (n : Int)) % 64 = n := by omega
  have hh : s.has (64 + n) = s.hi.getLsbD n := by unfold BSet.has; rw [if_neg (by omega), Nat.add_sub_cancel_left]
  have Hh := Lib.hid hh
  clear hh
  unfold BSet.val
  go_enter Tryd.func36, Tryd.ntmps36
  go_wp2_with fail
  refine (in_any (64 + (n : Int)) _).mono ?_
  rintro e w' ⟨rfl, rfl⟩
  rw [decide_eq_true (by omega), decide_eq_true (by omega)]
  go_wp2
  go_ret
  rw [Hh.out, ← has_bit]
  exact ⟨rfl, (Keeps.refl _ _).alloc _⟩
/-- Has, of any number. -/
def BSet.hasN (s : BSet) (i : Int) : Bool := decide (0 ≤ i) && decide (i < 128) && s.has i.toNat
theorem has_any (s : BSet) (i : Int) (w : World) : Calls Tryd.prog 36 #[s.val, .int .i64 i] w fun e w' => e = .returned (.bool (s.hasN i)) ∧ Keeps w w' (fun _ => False) := by
  by_cases h : 0 ≤ i ∧ i < 128
  · unfold BSet.hasN
    rw [decide_eq_true h.1, decide_eq_true h.2, Bool.true_and, Bool.true_and]
    by_cases h2 : i < 64
    · obtain ⟨n, rfl⟩ := Int.eq_ofNat_of_zero_le h.1
      exact has_lo s n (by omega) w
    · obtain ⟨n, hn⟩ := Int.eq_ofNat_of_zero_le (show 0 ≤ i - 64 by omega)
      obtain rfl : i = 64 + (n : Int) := by omega
      rw [show (64 + (n : Int)).toNat = 64 + n by omega]
      exact has_hi s n (by omega) w
  · have hb : (decide (0 ≤ i) && decide (i < 128)) = false := by
      simp only [Bool.and_eq_false_iff, decide_eq_false_iff_not]; omega
    unfold BSet.hasN
    rw [hb, Bool.false_and]
    have Hb := Lib.hid hb
    clear hb h
    unfold BSet.val
    go_enter Tryd.func36, Tryd.ntmps36
    go_wp2_with fail
    refine (in_any i _).mono ?_
    rintro e w' ⟨rfl, rfl⟩
    rw [Hb.out]
    go_wp2
    go_ret
    exact ⟨rfl, (Keeps.refl _ _).alloc _⟩

/-- Is it empty? -/
def BSet.isEmpty (s : BSet) : Bool := s.lo == 0 && s.hi == 0
theorem isEmpty_form (s : BSet) : ((s.lo.toNat : Int) == 0 && (s.hi.toNat : Int) == 0) = s.isEmpty := by
  unfold BSet.isEmpty
  have h : ∀ a : BitVec 64, ((a.toNat : Int) == 0) = (a == 0) := fun a => by
    rw [Bool.eq_iff_iff, beq_iff_eq, beq_iff_eq]
    constructor
    · intro h; apply BitVec.eq_of_toNat_eq; simp; omega
    · intro h; subst h; rfl
  rw [h, h]
theorem empty_any (s : BSet) (w : World) : Calls Tryd.prog 45 #[s.val] w fun e w' => e = .returned (.bool s.isEmpty) ∧ Keeps w w' (fun _ => False) := by
  rw [← isEmpty_form]
  unfold BSet.val
  go_enter Tryd.func45, Tryd.ntmps45
  go_wp2
  go_ret
  exact ⟨rfl, (Keeps.refl _ _).alloc _⟩
end Go.Proofs.YtdhcnmljkmodhaaDoor
