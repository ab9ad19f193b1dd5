/- The walks of OnesCount64 and TrailingZeros64. -/
import Derived.Test.YtdhcnmljkmodhaaDoorBits2
namespace Go.Proofs.YtdhcnmljkmodhaaDoor
set_option linter.unusedSectionVars false
set_option linter.unusedVariables false
set_option linter.unusedSimpArgs false
open Go.RowKit

theorem wrap_nat (n : Nat) (h : n < 18446744073709551616) : IntKind.u64.wrap (n : Int) = (n : Int) := by
  rw [IntKind.wrap_u64]; omega
theorem and_nat (a m : Nat) (ha : a < 18446744073709551616) (hm : m < 18446744073709551616) : bits .and .u64 (a : Int) (m : Int) = ((a &&& m : Nat) : Int) := u64_and_nat a m ha hm

set_option maxHeartbeats 400000 in
theorem ones_any (a : BitVec 64) (w : World) : Calls Tryd.prog 69 #[.int .u64 a.toNat] w fun e w' => e = .returned (.int .i64 (pc 64 a.toNat)) ∧ w = w' := by
  obtain ⟨x1, x2, x3, x4, x5, x6, h1, l1, h2, l2, l3, h3, h4, h5, h6, l6, h7⟩ := swar a.toNat a.isLt
  have hx := a.isLt
  generalize a.toNat = x at *
  have l3' : x3 < 18446744073709551616 := by have := Nat.and_le_left (n := x2 / 16 + x2) (m := 1085102592571150095); omega
  have l4 : x4 < 18446744073709551616 := by omega
  have l5 : x5 < 18446744073709551616 := by omega
  have e1 : bits .and .u64 ((x : Int) / 2) 6148914691236517205 = (((x / 2) &&& 6148914691236517205 : Nat) : Int) := and_nat (x / 2) 6148914691236517205 (by omega) (by omega)
  have e2 : bits .and .u64 (x : Int) 6148914691236517205 = ((x &&& 6148914691236517205 : Nat) : Int) := and_nat x 6148914691236517205 (by omega) (by omega)
  generalize hA : (x / 2) &&& 6148914691236517205 = A1 at *
  generalize hB : x &&& 6148914691236517205 = B1 at *
  have e3 : IntKind.u64.wrap ((A1 : Int) + (B1 : Int)) = (x1 : Int) := by rw [← Int.natCast_add, h1, wrap_nat _ l1]
  have e4 : bits .and .u64 ((x1 : Int) / 4) 3689348814741910323 = (((x1 / 4) &&& 3689348814741910323 : Nat) : Int) := and_nat (x1 / 4) 3689348814741910323 (by omega) (by omega)
  have e5 : bits .and .u64 (x1 : Int) 3689348814741910323 = ((x1 &&& 3689348814741910323 : Nat) : Int) := and_nat x1 3689348814741910323 (by omega) (by omega)
  generalize hC : (x1 / 4) &&& 3689348814741910323 = A2 at *
  generalize hD : x1 &&& 3689348814741910323 = B2 at *
  have e6 : IntKind.u64.wrap ((A2 : Int) + (B2 : Int)) = (x2 : Int) := by rw [← Int.natCast_add, h2, wrap_nat _ l2]
  have e7 : IntKind.u64.wrap ((x2 : Int) / 16 + (x2 : Int)) = ((x2 / 16 + x2 : Nat) : Int) := by rw [← wrap_nat _ l3]; simp
  have e8 : bits .and .u64 ((x2 / 16 + x2 : Nat) : Int) 1085102592571150095 = (x3 : Int) := by rw [← h3]; exact and_nat (x2 / 16 + x2) 1085102592571150095 l3 (by omega)
  generalize hE : x2 / 16 + x2 = Y at *
  have e9 : IntKind.u64.wrap ((x3 : Int) + (x3 : Int) / 256) = (x4 : Int) := by rw [← h4, ← wrap_nat (x3 + x3 / 256) (by omega)]; simp
  have e10 : IntKind.u64.wrap ((x4 : Int) + (x4 : Int) / 65536) = (x5 : Int) := by rw [← h5, ← wrap_nat (x4 + x4 / 65536) (by omega)]; simp
  have e11 : IntKind.u64.wrap ((x5 : Int) + (x5 : Int) / 4294967296) = (x6 : Int) := by rw [← h6, ← wrap_nat (x5 + x5 / 4294967296) (by omega)]; simp
  have e12 : IntKind.i64.wrap (x6 : Int) = (x6 : Int) := IntWalk.i64_in _ (by omega)
  have e13 : bits .and .i64 (x6 : Int) 127 = ((x6 % 128 : Nat) : Int) := by
    have hm := Nat.and_two_pow_sub_one_eq_mod x6 7
    have hb : bits .and .i64 (x6 : Int) 127 = IntKind.i64.wrap (((BitVec.ofInt 64 (x6 : Int)) &&& (BitVec.ofInt 64 127)).toNat : Int) := rfl
    rw [hb, BitVec.toNat_and]
    have o1 : (BitVec.ofInt 64 (x6 : Int)).toNat = x6 := ofInt_u64 _ (by omega)
    have o2 : (BitVec.ofInt 64 127).toNat = 127 := by decide
    rw [o1, o2, show (127 : Nat) = 2 ^ 7 - 1 by rfl, hm]
    exact IntWalk.i64_in _ (by omega)
  rw [h7] at e13
  have q0 : (0 : Int) ≤ x := by omega
  have q1 : (0 : Int) ≤ x1 := by omega
  have q2 : (0 : Int) ≤ x2 := by omega
  have q3 : (0 : Int) ≤ x3 := by omega
  have q4 : (0 : Int) ≤ x4 := by omega
  have q5 : (0 : Int) ≤ x5 := by omega
  generalize pc 64 x = r at *
  clear h1 h2 h3 h4 h5 h6 h7 hA hB hC hD hE l1 l2 l3 l3' l4 l5 l6 hx
  go_enter Tryd.func69, Tryd.ntmps69
  go_wp2
  go_ret
  exact ⟨rfl, rfl⟩
/-- The table of TrailingZeros64. -/
def tzTab : List Nat := [0, 1, 56, 2, 57, 49, 28, 3, 61, 58, 42, 50, 38, 29, 17, 4, 62, 47, 59, 36, 45, 43, 51, 22, 53, 39, 33, 30, 24, 18, 12, 5, 63, 55, 48, 27, 60, 41, 37, 16, 46, 35, 44, 21, 52, 32, 23, 11, 54, 26, 40, 15, 34, 20, 31, 10, 25, 14, 19, 9, 13, 8, 7, 6]
def TabOk (w : World) : Prop := ∀ j, j < 64 → w.cell? ⟨1, j, none⟩ = some (.int .u8 ((tzTab.getD j 0 : Nat) : Int))
theorem TabOk.keeps {w w' : World} (h : TabOk w) (hk : Keeps w w' (fun _ => False)) : TabOk w' := fun j hj => by
  have h1 := h j hj
  rw [← h1]
  exact World.cell?_of_block (hk.block _ (World.block_lt_of_cell? w _ h1) id)
theorem tab_look : ∀ k, k < 64 → ((2 ^ k * 285870213051353865) % 18446744073709551616) / 288230376151711744 < 64 ∧ tzTab.getD (((2 ^ k * 285870213051353865) % 18446744073709551616) / 288230376151711744) 0 = k := by decide +kernel
theorem low_bit (a : BitVec 64) (k : Nat) (hk : k < 64) (hs : a.getLsbD k = true) (hm : ∀ j, j < k → a.getLsbD j = false) : a &&& -a = bitN k := by
  apply BitVec.eq_of_getLsbD_eq
  intro i hi
  rw [BitVec.getLsbD_and, BitVec.getLsbD_neg]
  unfold bitN
  rw [BitVec.getLsbD_shiftLeft]
  simp only [hi, decide_true, Bool.true_and]
  by_cases h1 : i < k
  · rw [hm i h1]; simp [h1]
  · by_cases h2 : i = k
    · subst h2
      have : ¬ ∃ j, j < i ∧ a.getLsbD j = true := fun ⟨j, h3, h4⟩ => by rw [hm j h3] at h4; cases h4
      simp [hs, this]
    · have : ∃ j, j < i ∧ a.getLsbD j = true := ⟨k, by omega, hs⟩
      have h3 : i - k ≠ 0 := by omega
      simp only [this, decide_true, Bool.xor_true, Bool.and_not_self]
      have h4 : ¬ i < k := h1
      simp [h4]
      omega
theorem neg_wrap (a : BitVec 64) : IntKind.u64.wrap (-(a.toNat : Int)) = ((-a).toNat : Int) := by
  rw [IntKind.wrap_u64, BitVec.toNat_neg]
  have := a.isLt
  omega

theorem idx_wrap (p j : Nat) (h : (p * 285870213051353865 % 18446744073709551616) / 288230376151711744 = j) : IntKind.u64.wrap ((p : Int) * 285870213051353865) / 288230376151711744 = (j : Int) := by
  rw [IntKind.wrap_u64, ← h, Int.natCast_ediv, Int.natCast_emod, Int.natCast_mul]
  rfl
theorem bitN_toNat (k : Nat) (hk : k < 64) : (bitN k).toNat = 2 ^ k := by
  unfold bitN
  have h : (2 : Nat) ^ k < 2 ^ 64 := Nat.pow_lt_pow_right (by omega) hk
  rw [BitVec.toNat_shiftLeft, Nat.shiftLeft_eq]
  simp only [BitVec.ofNat_eq_ofNat, BitVec.toNat_ofNat]
  rw [show 1 % 2 ^ 64 * 2 ^ k = 2 ^ k by simp, Nat.mod_eq_of_lt h]
theorem tab_look' (p k : Nat) (hk : k < 64) (hp : p = 2 ^ k) : ∃ j, j < 64 ∧ tzTab.getD j 0 = k ∧ IntKind.u64.wrap ((p : Int) * 285870213051353865) / 288230376151711744 = (j : Int) := by
  obtain ⟨t1, t2⟩ := tab_look k hk
  rw [← hp] at t1 t2
  exact ⟨_, t1, t2, idx_wrap p _ rfl⟩

set_option maxHeartbeats 400000 in
theorem tz_any (a : BitVec 64) (k : Nat) (hk : k < 64) (hs : a.getLsbD k = true) (hm : ∀ j, j < k → a.getLsbD j = false) (w : World) (hT : TabOk w) :
    Calls Tryd.prog 68 #[.int .u64 a.toNat] w fun e w' => e = .returned (.int .i64 k) ∧ w = w' := by
  have hne : ((a.toNat : Int) == 0) = false := beq_eq_false_iff_ne.2 (by
    intro h
    have : a = 0 := by apply BitVec.eq_of_toNat_eq; simp; omega
    subst this; simp at hs)
  have f1 : bits .and .u64 (a.toNat : Int) (IntKind.u64.wrap (-(a.toNat : Int))) = ((bitN k).toNat : Int) := by
    rw [neg_wrap, bits_and_bv, low_bit a k hk hs hm]
  obtain ⟨j, t1, t2, f2⟩ := tab_look' _ k hk (bitN_toNat k hk)
  have f3 := hT j t1
  rw [t2] at f3
  have j0 : (0 : Int) ≤ (j : Int) := by omega
  have j1 : (j : Int) < 64 := by omega
  have k1 : IntKind.i64.wrap (k : Int) = (k : Int) := IntWalk.i64_in _ (by omega)
  clear hs hm hT t2
  generalize a.toNat = x at *
  generalize (bitN k).toNat = p at *
  go_enter Tryd.func68, Tryd.ntmps68
  go_wp2
  go_ret
  exact ⟨rfl, rfl⟩
end Go.Proofs.YtdhcnmljkmodhaaDoor
