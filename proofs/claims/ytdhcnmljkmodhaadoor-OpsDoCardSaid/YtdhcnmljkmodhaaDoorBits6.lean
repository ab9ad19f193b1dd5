/- The walk of the chapter's example, and BitsLaws. -/
import Derived.Test.YtdhcnmljkmodhaaDoorBits5
import Derived.Test.YtdhcnmljkmodhaaDoorCls
namespace Go.Proofs.YtdhcnmljkmodhaaDoor
set_option linter.unusedSectionVars false
set_option linter.unusedVariables false
set_option linter.unusedSimpArgs false
open Go.RowKit

def s35 : BSet := ofL [5, 3, 5]
theorem s35_len : s35.mem.length = 2 := by decide +kernel
theorem s35_first : s35.firstN = 3 := by decide +kernel
theorem s35_has5 : s35.hasN 5 = true := by decide +kernel
theorem s35_has4 : s35.hasN 4 = false := by decide +kernel

set_option maxHeartbeats 400000 in
theorem awake07 (w : World) (hT : TabOk w) : Calls Tryd.prog 61 #[] w fun e w' => e = .returned (.bool true) ∧ Keeps w w' (fun _ => False) := by
  have GT := Lib.hid hT
  have HA : Hid (ReadsC (w.alloc (.cells #[.int .i64 5, .int .i64 3, .int .i64 5] 3)) 1 (.slice (some ⟨w.heap.size, 0, none⟩) 3 3) [(5 : Int), 3, 5].length ([(5 : Int), 3, 5].flatMap encI)) := by
    refine ⟨rfl, _, _, rfl, by decide, by unfold maxLen; decide, (fun h => by cases h), fun _ => ⟨_, _, rfl, by simp, fun j u hj => ?_⟩⟩
    rw [Nat.zero_add, cell_at (heap_alloc_new w _)]
    rw [← hj]; simp [encI]
  clear hT
  go_enter Tryd.func61, Tryd.ntmps61
  go_wp2_with fail
  refine (of_any _ _ [(5 : Int), 3, 5] HA.out).mono ?_
  rintro e w1 ⟨rfl, k1⟩
  have K1 : Hid (Keeps w w1 (fun _ => False)) := ((Keeps.refl _ _).alloc _).trans k1
  clear k1
  rw [show ofL [(5 : Int), 3, 5] = s35 from rfl]
  have hfold : ∀ s : BSet, (Value.agg #[.int .u64 s.lo.toNat, .int .u64 s.hi.toNat]) = s.val := fun _ => rfl
  have Hf := Lib.hid hfold
  clear hfold
  unfold BSet.val
  go_wp2_with fail
  rw [Hf.out]
  refine (len_any s35 _).mono ?_
  rintro e w2 ⟨rfl, k2⟩
  rw [s35_len]
  have K2 : Hid (Keeps w w2 (fun _ => False)) := (K1.out.alloc _).trans k2
  have hb2 : w2.heap[w1.heap.size]? = some (.cells #[.int .u64 s35.lo.toNat, .int .u64 s35.hi.toNat] 57 (0, 0)) := (k2.block _ (by simp) id).trans (heap_alloc_new w1 _)
  have x0 : w2.cell? ⟨w1.heap.size, 0, none⟩ = some (.int .u64 s35.lo.toNat) := by rw [cell_at hb2]; rfl
  have x1 : w2.cell? ⟨w1.heap.size, 1, none⟩ = some (.int .u64 s35.hi.toNat) := by rw [cell_at hb2]; rfl
  have GB := Lib.hid hb2
  clear k2 hb2
  go_wp2_with fail
  rw [Hf.out]
  refine (first_any s35 _ (GT.out.keeps K2.out)).mono ?_
  rintro e w3 ⟨rfl, k3⟩
  rw [s35_first]
  have K3 : Hid (Keeps w w3 (fun _ => False)) := K2.out.trans k3
  have hb3 := (k3.block _ (block_lt GB.out) id).trans GB.out
  have x0 : w3.cell? ⟨w1.heap.size, 0, none⟩ = some (.int .u64 s35.lo.toNat) := by rw [cell_at hb3]; rfl
  have x1 : w3.cell? ⟨w1.heap.size, 1, none⟩ = some (.int .u64 s35.hi.toNat) := by rw [cell_at hb3]; rfl
  have GB3 := Lib.hid hb3
  clear k3 hb3
  go_wp2_with fail
  rw [Hf.out]
  refine (has_any s35 5 _).mono ?_
  rintro e w4 ⟨rfl, k4⟩
  rw [s35_has5]
  have K4 : Hid (Keeps w w4 (fun _ => False)) := K3.out.trans k4
  have hb4 := (k4.block _ (block_lt GB3.out) id).trans GB3.out
  have x0 : w4.cell? ⟨w1.heap.size, 0, none⟩ = some (.int .u64 s35.lo.toNat) := by rw [cell_at hb4]; rfl
  have x1 : w4.cell? ⟨w1.heap.size, 1, none⟩ = some (.int .u64 s35.hi.toNat) := by rw [cell_at hb4]; rfl
  clear k4 hb4
  go_wp2_with fail
  rw [Hf.out]
  refine (has_any s35 4 _).mono ?_
  rintro e w5 ⟨rfl, k5⟩
  rw [s35_has4]
  have K5 : Hid (Keeps w w5 (fun _ => False)) := K4.out.trans k5
  clear k5
  go_wp2_with fail
  go_ret
  exact ⟨rfl, K5.out⟩

def eqS (s t : BSet) : Bool := s.lo == t.lo && s.hi == t.hi
theorem eqS_iff {s t : BSet} : eqS s t = true ↔ s = t := by
  cases s; cases t; simp [eqS]
@[go_sem] theorem run_eq_setV (s t : BSet) (W : World) : (Op.equalIn 10000 57 s.val t.val).run Tryd.prog W = .ok (eqS s t) W := by
  unfold BSet.val
  rw [run_eq_set]
  have h : ∀ a b : BitVec 64, ((a.toNat : Int) == (b.toNat : Int)) = (a == b) := fun a b => by
    rw [Bool.eq_iff_iff, beq_iff_eq, beq_iff_eq]
    constructor
    · intro h; apply BitVec.eq_of_toNat_eq; omega
    · intro h; subst h; rfl
  rw [h, h]; rfl
@[go_sem] theorem guard_set (op : BinOp) (x y : Operand) (s t : BSet) (W : World) : (eqGuard op 57 x y s.val t.val).run Tryd.prog W = .ok () W := by
  unfold BSet.val
  cases op <;> simp [eqGuard, go_sem]
theorem run_equal_set (s t : BSet) (W : World) : (Op.equal 57 (.agg #[.int .u64 s.lo.toNat, .int .u64 s.hi.toNat]) (.agg #[.int .u64 t.lo.toNat, .int .u64 t.hi.toNat])).run Tryd.prog W = .ok (eqS s t) W := run_eq_setV s t W
@[go_sem] theorem run_binop_eq_set (s t : BSet) (W : World) : (binOp .eql 57 s.val t.val).run Tryd.prog W = .ok (.bool (eqS s t)) W := by
  unfold BSet.val
  simp [binOp, go_sem, run_equal_set]
@[go_sem] theorem run_binop_neq_set (s t : BSet) (W : World) : (binOp .neq 57 s.val t.val).run Tryd.prog W = .ok (.bool (!eqS s t)) W := by
  unfold BSet.val
  simp [binOp, go_sem, run_equal_set]
theorem or_comm' (s t : BSet) : s.or t = t.or s := by simp [BSet.or, BitVec.or_comm]
theorem and_comm' (s t : BSet) : s.and t = t.and s := by simp [BSet.and, BitVec.and_comm]
theorem or_assoc' (s t u : BSet) : s.or (t.or u) = (s.or t).or u := by simp [BSet.or, BitVec.or_assoc]
theorem and_assoc' (s t u : BSet) : s.and (t.and u) = (s.and t).and u := by simp [BSet.and, BitVec.and_assoc]
theorem and_or' (s t u : BSet) : s.and (t.or u) = (s.and t).or (s.and u) := by
  unfold BSet.and BSet.or
  congr 1 <;> (apply BitVec.eq_of_getLsbD_eq; intro i hi; simp [Bool.and_or_distrib_left])
theorem or_and' (s t u : BSet) : s.or (t.and u) = (s.or t).and (s.or u) := by
  unfold BSet.and BSet.or
  congr 1 <;> (apply BitVec.eq_of_getLsbD_eq; intro i hi; simp [Bool.or_and_distrib_left])
theorem word_less_or (a b : BitVec 64) : (a &&& ~~~b) ||| (a &&& b) = a := by
  apply BitVec.eq_of_getLsbD_eq; intro i hi
  simp only [BitVec.getLsbD_or, BitVec.getLsbD_and, BitVec.getLsbD_not, hi, decide_true, Bool.true_and]
  cases a.getLsbD i <;> cases b.getLsbD i <;> rfl
theorem word_and_under (a b : BitVec 64) : (a &&& b) &&& ~~~a = 0 := by
  apply BitVec.eq_of_getLsbD_eq; intro i hi
  simp only [BitVec.getLsbD_or, BitVec.getLsbD_and, BitVec.getLsbD_not, hi, decide_true, Bool.true_and, BitVec.ofNat_eq_ofNat, BitVec.getLsbD_zero]
  cases a.getLsbD i <;> cases b.getLsbD i <;> rfl
theorem word_under_or (a b : BitVec 64) : a &&& ~~~(a ||| b) = 0 := by
  apply BitVec.eq_of_getLsbD_eq; intro i hi
  simp only [BitVec.getLsbD_or, BitVec.getLsbD_and, BitVec.getLsbD_not, hi, decide_true, Bool.true_and, BitVec.ofNat_eq_ofNat, BitVec.getLsbD_zero]
  cases a.getLsbD i <;> cases b.getLsbD i <;> rfl
theorem word_less_and (a b : BitVec 64) : (a &&& ~~~b) &&& b = 0 := by
  apply BitVec.eq_of_getLsbD_eq; intro i hi
  simp only [BitVec.getLsbD_or, BitVec.getLsbD_and, BitVec.getLsbD_not, hi, decide_true, Bool.true_and, BitVec.ofNat_eq_ofNat, BitVec.getLsbD_zero]
  cases a.getLsbD i <;> cases b.getLsbD i <;> rfl
theorem less_or' (s t : BSet) : (s.less t).or (s.and t) = s := by simp only [BSet.less, BSet.or, BSet.and, word_less_or]
theorem isEmpty_iff {s : BSet} : s.isEmpty = true ↔ s = BSet.empty := by
  cases s; simp [BSet.isEmpty, BSet.empty]
theorem and_under' (s t : BSet) : ((s.and t).less s).isEmpty = true := by
  rw [isEmpty_iff]; simp only [BSet.less, BSet.and, word_and_under]; rfl
theorem under_or' (s t : BSet) : (s.less (s.or t)).isEmpty = true := by
  rw [isEmpty_iff]; simp only [BSet.less, BSet.or, word_under_or]; rfl
theorem less_and' (s t : BSet) : ((s.less t).and t).isEmpty = true := by
  rw [isEmpty_iff]; simp only [BSet.less, BSet.and, word_less_and]; rfl
end Go.Proofs.YtdhcnmljkmodhaaDoor
