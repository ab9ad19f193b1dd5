/- Sets of numbers below 128, as two words of 64 bits: how the walk's bit operations read on them. -/
import Derived.Test.YtdhcnmljkmodhaaDoorMemB
import Derived.Laws.BitsAllLaws
namespace Go.Proofs.YtdhcnmljkmodhaaDoor
set_option linter.unusedSectionVars false
set_option linter.unusedVariables false
set_option linter.unusedSimpArgs false
open Go.RowKit

theorem ofInt_toNat (a : BitVec 64) : BitVec.ofInt 64 (a.toNat : Int) = a := by
  apply BitVec.eq_of_toNat_eq
  rw [ofInt_u64 _ a.isLt]
theorem wrap_toNat (a : BitVec 64) : IntKind.u64.wrap (a.toNat : Int) = (a.toNat : Int) := by
  rw [IntKind.wrap_u64]
  have := a.isLt
  omega
@[go_sem] theorem bits_or_bv (a b : BitVec 64) : bits .or .u64 (a.toNat : Int) (b.toNat : Int) = ((a ||| b).toNat : Int) := by
  rw [u64_or_nat _ _ a.isLt b.isLt, BitVec.toNat_or]
@[go_sem] theorem bits_and_bv (a b : BitVec 64) : bits .and .u64 (a.toNat : Int) (b.toNat : Int) = ((a &&& b).toNat : Int) := by
  rw [u64_and_nat _ _ a.isLt b.isLt, BitVec.toNat_and]
@[go_sem] theorem bits_andNot_bv (a b : BitVec 64) : bits .andNot .u64 (a.toNat : Int) (b.toNat : Int) = ((a &&& ~~~b).toNat : Int) := by
  rw [u64_andNot_nat _ _ a.isLt b.isLt, BitVec.toNat_and, BitVec.toNat_not]

/-- A set: its two words. -/
structure BSet where
  lo : BitVec 64
  hi : BitVec 64
def BSet.cells (s : BSet) : Array Value := #[.int .u64 s.lo.toNat, .int .u64 s.hi.toNat]
def BSet.val (s : BSet) : Value := .agg #[.int .u64 s.lo.toNat, .int .u64 s.hi.toNat]
def BSet.has (s : BSet) (i : Nat) : Bool := if i < 64 then s.lo.getLsbD i else s.hi.getLsbD (i - 64)
def BSet.or (s t : BSet) : BSet := ⟨s.lo ||| t.lo, s.hi ||| t.hi⟩
def BSet.and (s t : BSet) : BSet := ⟨s.lo &&& t.lo, s.hi &&& t.hi⟩
def BSet.less (s t : BSet) : BSet := ⟨s.lo &&& ~~~t.lo, s.hi &&& ~~~t.hi⟩
def BSet.empty : BSet := ⟨0, 0⟩
/-- One bit. (A name that the walk leaves alone.) -/
def bitN (n : Nat) : BitVec 64 := (1 : BitVec 64) <<< n
def BSet.one (i : Nat) : BSet := if i < 64 then ⟨bitN i, 0⟩ else ⟨0, bitN (i - 64)⟩
theorem BSet.one_lo (n : Nat) (h : n < 64) : BSet.one n = ⟨bitN n, 0⟩ := by unfold BSet.one; rw [if_pos h]
theorem BSet.one_hi (n : Nat) (h : n < 64) : BSet.one (64 + n) = ⟨0, bitN n⟩ := by unfold BSet.one; rw [if_neg (by omega), Nat.add_sub_cancel_left]
theorem BSet.or_lo (s : BSet) (b : BitVec 64) : s.or ⟨b, 0⟩ = ⟨s.lo ||| b, s.hi⟩ := by simp [BSet.or]
theorem BSet.or_hi (s : BSet) (b : BitVec 64) : s.or ⟨0, b⟩ = ⟨s.lo, s.hi ||| b⟩ := by simp [BSet.or]
theorem BSet.less_lo (s : BSet) (b : BitVec 64) : s.less ⟨b, 0⟩ = ⟨s.lo &&& ~~~b, s.hi⟩ := by
  have e : ~~~(0 : BitVec 64) = BitVec.allOnes 64 := by decide
  unfold BSet.less
  simp only [e, BitVec.and_allOnes]
theorem BSet.less_hi (s : BSet) (b : BitVec 64) : s.less ⟨0, b⟩ = ⟨s.lo, s.hi &&& ~~~b⟩ := by
  have e : ~~~(0 : BitVec 64) = BitVec.allOnes 64 := by decide
  unfold BSet.less
  simp only [e, BitVec.and_allOnes]
theorem wrap_pow2 (n : Nat) (hn : n < 64) : IntKind.u64.wrap ((2 : Int) ^ n) = ((bitN n).toNat : Int) := by
  have h : (2 : Nat) ^ n < 2 ^ 64 := Nat.pow_lt_pow_right (by omega) hn
  have e : ((2 : Int) ^ n) = ((2 ^ n : Nat) : Int) := by simp
  have e2 : (bitN n).toNat = 2 ^ n := by
    unfold bitN
    rw [BitVec.toNat_shiftLeft, Nat.shiftLeft_eq]
    simp only [BitVec.ofNat_eq_ofNat, BitVec.toNat_ofNat]
    rw [show 1 % 2 ^ 64 * 2 ^ n = 2 ^ n by simp, Nat.mod_eq_of_lt h]
  rw [IntKind.wrap_u64, e, e2]
  omega
theorem has_bit (a : BitVec 64) (n : Nat) : (bits .and .u64 ((a.toNat : Int) / 2 ^ n) 1 == 1) = a.getLsbD n := by
  have e : ((a.toNat : Int) / 2 ^ n) = ((a.toNat / 2 ^ n : Nat) : Int) := by simp
  have hlt : a.toNat / 2 ^ n < 18446744073709551616 := Nat.lt_of_le_of_lt (Nat.div_le_self _ _) a.isLt
  rw [e, show (1 : Int) = ((1 : Nat) : Int) from rfl, u64_and_nat _ _ hlt (by omega), nat_mask1]
  unfold BitVec.getLsbD
  rw [Nat.testBit_eq_decide_div_mod_eq]
  rw [Bool.eq_iff_iff]
  simp
  omega
end Go.Proofs.YtdhcnmljkmodhaaDoor
