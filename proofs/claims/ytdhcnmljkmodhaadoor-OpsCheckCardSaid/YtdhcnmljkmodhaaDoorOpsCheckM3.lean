/- Merged for the claim, in build order: Bits6, Header1, Header2, Header3, Header4. -/
import Derived.Test.YtdhcnmljkmodhaaDoorOpsCheckM2
/- The walk of the chapter's example, and BitsLaws. -/
namespace Go.Proofs.YtdhcnmljkmodhaaDoor
set_option linter.unusedSectionVars false
set_option linter.unusedVariables false
set_option linter.unusedSimpArgs false
open Go.RowKit

def s35 : BSet := ofL [5, 3, 5]
theorem s35_len : s35.mem.length = 2 := by decide +kernel
theorem s35_first : s35.firstN = 3 := by decide +kernel
theorem s35_has5 : s35.hasN 5 = true := by decide +kernel
theorem s35_has4 : s35.hasN 4 = false := by decide +kernel

set_option maxHeartbeats 400000 in
theorem awake07 (w : World) (hT : TabOk w) : Calls Tryd.prog 61 #[] w fun e w' => e = .returned (.bool true) ∧ Keeps w w' (fun _ => False) := by
  have GT := Lib.hid hT
  have HA : Hid (ReadsC (w.alloc (.cells #[.int .i64 5, .int .i64 3, .int .i64 5] 3)) 1 (.slice (some ⟨w.heap.size, 0, none⟩) 3 3) [(5 : Int), 3, 5].length ([(5 : Int), 3, 5].flatMap encI)) := by
    refine ⟨rfl, _, _, rfl, by decide, by unfold maxLen; decide, (fun h => by cases h), fun _ => ⟨_, _, rfl, by simp, fun j u hj => ?_⟩⟩
    rw [Nat.zero_add, cell_at (heap_alloc_new w _)]
    rw [← hj]; simp [encI]
  clear hT
  go_enter Tryd.func61, Tryd.ntmps61
  go_wp2_with fail
  refine (of_any _ _ [(5 : Int), 3, 5] HA.out).mono ?_
  rintro e w1 ⟨rfl, k1⟩
  have K1 : Hid (Keeps w w1 (fun _ => False)) := ((Keeps.refl _ _).alloc _).trans k1
  clear k1
  rw [show ofL [(5 : Int), 3, 5] = s35 from rfl]
  have hfold : ∀ s : BSet, (Value.agg #[.int .u64 s.lo.toNat, .int .u64 s.hi.toNat]) = s.val := fun _ => rfl
  have Hf := Lib.hid hfold
  clear hfold
  unfold BSet.val
  go_wp2_with fail
  rw [Hf.out]
  refine (len_any s35 _).mono ?_
  rintro e w2 ⟨rfl, k2⟩
  rw [s35_len]
  have K2 : Hid (Keeps w w2 (fun _ => False)) := (K1.out.alloc _).trans k2
  have hb2 : w2.heap[w1.heap.size]? = some (.cells #[.int .u64 s35.lo.toNat, .int .u64 s35.hi.toNat] 57 (0, 0)) := (k2.block _ (by simp) id).trans (heap_alloc_new w1 _)
  have x0 : w2.cell? ⟨w1.heap.size, 0, none⟩ = some (.int .u64 s35.lo.toNat) := by rw [cell_at hb2]; rfl
  have x1 : w2.cell? ⟨w1.heap.size, 1, none⟩ = some (.int .u64 s35.hi.toNat) := by rw [cell_at hb2]; rfl
  have GB := Lib.hid hb2
  clear k2 hb2
  go_wp2_with fail
  rw [Hf.out]
  refine (first_any s35 _ (GT.out.keeps K2.out)).mono ?_
  rintro e w3 ⟨rfl, k3⟩
  rw [s35_first]
  have K3 : Hid (Keeps w w3 (fun _ => False)) := K2.out.trans k3
  have hb3 := (k3.block _ (block_lt GB.out) id).trans GB.out
  have x0 : w3.cell? ⟨w1.heap.size, 0, none⟩ = some (.int .u64 s35.lo.toNat) := by rw [cell_at hb3]; rfl
  have x1 : w3.cell? ⟨w1.heap.size, 1, none⟩ = some (.int .u64 s35.hi.toNat) := by rw [cell_at hb3]; rfl
  have GB3 := Lib.hid hb3
  clear k3 hb3
  go_wp2_with fail
  rw [Hf.out]
  refine (has_any s35 5 _).mono ?_
  rintro e w4 ⟨rfl, k4⟩
  rw [s35_has5]
  have K4 : Hid (Keeps w w4 (fun _ => False)) := K3.out.trans k4
  have hb4 := (k4.block _ (block_lt GB3.out) id).trans GB3.out
  have x0 : w4.cell? ⟨w1.heap.size, 0, none⟩ = some (.int .u64 s35.lo.toNat) := by rw [cell_at hb4]; rfl
  have x1 : w4.cell? ⟨w1.heap.size, 1, none⟩ = some (.int .u64 s35.hi.toNat) := by rw [cell_at hb4]; rfl
  clear k4 hb4
  go_wp2_with fail
  rw [Hf.out]
  refine (has_any s35 4 _).mono ?_
  rintro e w5 ⟨rfl, k5⟩
  rw [s35_has4]
  have K5 : Hid (Keeps w w5 (fun _ => False)) := K4.out.trans k5
  clear k5
  go_wp2_with fail
  go_ret
  exact ⟨rfl, K5.out⟩

def eqS (s t : BSet) : Bool := s.lo == t.lo && s.hi == t.hi
theorem eqS_iff {s t : BSet} : eqS s t = true ↔ s = t := by
  cases s; cases t; simp [eqS]
@[go_sem] theorem run_eq_setV (s t : BSet) (W : World) : (Op.equalIn 10000 57 s.val t.val).run Tryd.prog W = .ok (eqS s t) W := by
  unfold BSet.val
  rw [run_eq_set]
  have h : ∀ a b : BitVec 64, ((a.toNat : Int) == (b.toNat : Int)) = (a == b) := fun a b => by
    rw [Bool.eq_iff_iff, beq_iff_eq, beq_iff_eq]
    constructor
    · intro h; apply BitVec.eq_of_toNat_eq; omega
    · intro h; subst h; rfl
  rw [h, h]; rfl
@[go_sem] theorem guard_set (op : BinOp) (x y : Operand) (s t : BSet) (W : World) : (eqGuard op 57 x y s.val t.val).run Tryd.prog W = .ok () W := by
  unfold BSet.val
  cases op <;> simp [eqGuard, go_sem]
theorem run_equal_set (s t : BSet) (W : World) : (Op.equal 57 (.agg #[.int .u64 s.lo.toNat, .int .u64 s.hi.toNat]) (.agg #[.int .u64 t.lo.toNat, .int .u64 t.hi.toNat])).run Tryd.prog W = .ok (eqS s t) W := run_eq_setV s t W
@[go_sem] theorem run_binop_eq_set (s t : BSet) (W : World) : (binOp .eql 57 s.val t.val).run Tryd.prog W = .ok (.bool (eqS s t)) W := by
  unfold BSet.val
  simp [binOp, go_sem, run_equal_set]
@[go_sem] theorem run_binop_neq_set (s t : BSet) (W : World) : (binOp .neq 57 s.val t.val).run Tryd.prog W = .ok (.bool (!eqS s t)) W := by
  unfold BSet.val
  simp [binOp, go_sem, run_equal_set]
theorem or_comm' (s t : BSet) : s.or t = t.or s := by simp [BSet.or, BitVec.or_comm]
theorem and_comm' (s t : BSet) : s.and t = t.and s := by simp [BSet.and, BitVec.and_comm]
theorem or_assoc' (s t u : BSet) : s.or (t.or u) = (s.or t).or u := by simp [BSet.or, BitVec.or_assoc]
theorem and_assoc' (s t u : BSet) : s.and (t.and u) = (s.and t).and u := by simp [BSet.and, BitVec.and_assoc]
theorem and_or' (s t u : BSet) : s.and (t.or u) = (s.and t).or (s.and u) := by
  unfold BSet.and BSet.or
  congr 1 <;> (apply BitVec.eq_of_getLsbD_eq; intro i hi; simp [Bool.and_or_distrib_left])
theorem or_and' (s t u : BSet) : s.or (t.and u) = (s.or t).and (s.or u) := by
  unfold BSet.and BSet.or
  congr 1 <;> (apply BitVec.eq_of_getLsbD_eq; intro i hi; simp [Bool.or_and_distrib_left])
theorem word_less_or (a b : BitVec 64) : (a &&& ~~~b) ||| (a &&& b) = a := by
  apply BitVec.eq_of_getLsbD_eq; intro i hi
  simp only [BitVec.getLsbD_or, BitVec.getLsbD_and, BitVec.getLsbD_not, hi, decide_true, Bool.true_and]
  cases a.getLsbD i <;> cases b.getLsbD i <;> rfl
theorem word_and_under (a b : BitVec 64) : (a &&& b) &&& ~~~a = 0 := by
  apply BitVec.eq_of_getLsbD_eq; intro i hi
  simp only [BitVec.getLsbD_or, BitVec.getLsbD_and, BitVec.getLsbD_not, hi, decide_true, Bool.true_and, BitVec.ofNat_eq_ofNat, BitVec.getLsbD_zero]
  cases a.getLsbD i <;> cases b.getLsbD i <;> rfl
theorem word_under_or (a b : BitVec 64) : a &&& ~~~(a ||| b) = 0 := by
  apply BitVec.eq_of_getLsbD_eq; intro i hi
  simp only [BitVec.getLsbD_or, BitVec.getLsbD_and, BitVec.getLsbD_not, hi, decide_true, Bool.true_and, BitVec.ofNat_eq_ofNat, BitVec.getLsbD_zero]
  cases a.getLsbD i <;> cases b.getLsbD i <;> rfl
theorem word_less_and (a b : BitVec 64) : (a &&& ~~~b) &&& b = 0 := by
  apply BitVec.eq_of_getLsbD_eq; intro i hi
  simp only [BitVec.getLsbD_or, BitVec.getLsbD_and, BitVec.getLsbD_not, hi, decide_true, Bool.true_and, BitVec.ofNat_eq_ofNat, BitVec.getLsbD_zero]
  cases a.getLsbD i <;> cases b.getLsbD i <;> rfl
theorem less_or' (s t : BSet) : (s.less t).or (s.and t) = s := by simp only [BSet.less, BSet.or, BSet.and, word_less_or]
theorem isEmpty_iff {s : BSet} : s.isEmpty = true ↔ s = BSet.empty := by
  cases s; simp [BSet.isEmpty, BSet.empty]
theorem and_under' (s t : BSet) : ((s.and t).less s).isEmpty = true := by
  rw [isEmpty_iff]; simp only [BSet.less, BSet.and, word_and_under]; rfl
theorem under_or' (s t : BSet) : (s.less (s.or t)).isEmpty = true := by
  rw [isEmpty_iff]; simp only [BSet.less, BSet.or, word_under_or]; rfl
theorem less_and' (s t : BSet) : ((s.less t).and t).isEmpty = true := by
  rw [isEmpty_iff]; simp only [BSet.less, BSet.and, word_less_and]; rfl
end Go.Proofs.YtdhcnmljkmodhaaDoor

/- The walks of package header, and of its reference. -/
namespace Go.Proofs.YtdhcnmljkmodhaaDoor
set_option linter.unusedSectionVars false
set_option linter.unusedVariables false
set_option linter.unusedSimpArgs false
open Go.RowKit

/-- A slice of ints that reads as l. -/
def ReadsI (w : World) (v : Value) (l : List Int) : Prop := ReadsC w 1 v l.length (l.flatMap encI)
theorem ReadsI.keeps {w w' : World} {v : Value} {l : List Int} (h : ReadsI w v l) (hk : Keeps w w' (fun _ => False)) : ReadsI w' v l := ReadsC.keeps h hk
theorem ReadsI.form {w : World} {v : Value} {l : List Int} (h : ReadsI w v l) : ∃ a cap, v = .slice a l.length cap ∧ l.length ≤ cap ∧ cap ≤ maxLen := by
  obtain ⟨_, a, cap, h1, h2, h3, _⟩ := h; exact ⟨a, cap, h1, h2, h3⟩
theorem ReadsI.cell {w : World} {a : Option Addr} {cap : Nat} {l : List Int} (h : ReadsI w (.slice a l.length cap) l) (k : Nat) (hk : k < l.length) :
    ∃ g off, a = some ⟨g, off, none⟩ ∧ g < w.heap.size ∧ ∀ j (hj : j < l.length), w.cell? ⟨g, off + j, none⟩ = some (.int .i64 l[j]) := by
  obtain ⟨g, off, rfl, hg, _⟩ := ReadsC.cell1 h k hk
  refine ⟨g, off, rfl, hg, fun j hj => ?_⟩
  obtain ⟨g', off', he, _, hc⟩ := ReadsC.cell1 h j hj
  simp only [Option.some.injEq, Addr.mk.injEq, and_true] at he
  obtain ⟨rfl, rfl⟩ := he
  exact hc
/-- A slice literal. -/
theorem ReadsI.lit (w : World) (l : List Int) (t : TypeId) (hl : l.length ≤ 1000) : ReadsI (w.alloc (.cells (l.map (Value.int .i64)).toArray t)) (.slice (some ⟨w.heap.size, 0, none⟩) l.length l.length) l := by
  have e : ∀ l : List Int, l.flatMap encI = l.map (Value.int .i64) := fun l => by
    induction l with
    | nil => rfl
    | cons a r ih => rw [List.flatMap_cons, ih]; rfl
  refine ⟨by rw [e]; simp, _, _, rfl, Nat.le_refl _, by unfold maxLen; omega, (fun h => by cases h), fun _ => ⟨_, _, rfl, by simp, fun j u hj => ?_⟩⟩
  rw [Nat.zero_add, cell_at (heap_alloc_new w _)]
  rw [e] at hj
  simpa using hj

/-- The kind of any label. -/
def kind0 (k : Int) : Int := if k = 1 ∨ k = 2 ∨ k = 3 then k else 0
def kindL (ks : List Int) (x : Int) : Int := if 0 ≤ x then kind0 (ks.getD x.toNat 0) else 0
theorem kind0_range (k : Int) : kind0 k = 0 ∨ kind0 k = 1 ∨ kind0 k = 2 ∨ kind0 k = 3 := by unfold kind0; split <;> omega
theorem kindL_range (ks : List Int) (x : Int) : kindL ks x = 0 ∨ kindL ks x = 1 ∨ kindL ks x = 2 ∨ kindL ks x = 3 := by
  unfold kindL; split
  · exact kind0_range _
  · exact .inl rfl

set_option maxHeartbeats 400000 in
theorem kind_any (w : World) (v : Value) (ks : List Int) (x : Int) (H : ReadsI w v ks) : Calls Tryd.prog 29 #[v, .int .i64 x] w fun e w' => e = .returned (.int .i64 (kindL ks x)) ∧ w = w' := by
  obtain ⟨a, cap, rfl, _, _⟩ := H.form
  by_cases h0 : 0 ≤ x
  · obtain ⟨n, rfl⟩ := Int.eq_ofNat_of_zero_le h0
    by_cases h1 : n < ks.length
    · obtain ⟨g, off, rfl, hg, hc⟩ := H.cell n h1
      have hcell := hc n h1
      have hk : kindL ks (n : Int) = kind0 ks[n] := by
        unfold kindL; rw [if_pos h0, Int.toNat_natCast, List.getD_eq_getElem?_getD, List.getElem?_eq_getElem h1]; rfl
      rw [hk]
      clear hc hk H
      generalize ks[n] = k at *
      by_cases k1 : k = 1
      · subst k1
        go_enter Tryd.func29, Tryd.ntmps29
        go_wp2
        go_ret
        exact ⟨rfl, rfl⟩
      · by_cases k2 : k = 2
        · subst k2
          go_enter Tryd.func29, Tryd.ntmps29
          go_wp2
          go_ret
          exact ⟨rfl, rfl⟩
        · by_cases k3 : k = 3
          · subst k3
            go_enter Tryd.func29, Tryd.ntmps29
            go_wp2
            go_ret
            exact ⟨rfl, rfl⟩
          · have hz : kind0 k = 0 := by unfold kind0; rw [if_neg (by omega)]
            have b1 : (k == 1) = false := beq_eq_false_iff_ne.2 k1
            have b2 : (k == 2) = false := beq_eq_false_iff_ne.2 k2
            have b3 : (k == 3) = false := beq_eq_false_iff_ne.2 k3
            rw [hz]
            clear k1 k2 k3 hz
            go_enter Tryd.func29, Tryd.ntmps29
            go_wp2
            go_ret
            exact ⟨rfl, rfl⟩
    · have hk : kindL ks (n : Int) = 0 := by
        unfold kindL; rw [if_pos h0, Int.toNat_natCast, List.getD_eq_getElem?_getD, List.getElem?_eq_none (by omega)]; rfl
      rw [hk]
      have h2 : ¬ ((n : Int) < (ks.length : Int)) := by omega
      clear hk H
      go_enter Tryd.func29, Tryd.ntmps29
      go_wp2
      go_ret
      exact ⟨rfl, rfl⟩
  · have hk : kindL ks x = 0 := by unfold kindL; rw [if_neg h0]
    have h2 : x < 0 := by omega
    rw [hk]
    clear hk H
    go_enter Tryd.func29, Tryd.ntmps29
    go_wp2
    go_ret
    exact ⟨rfl, rfl⟩

set_option maxHeartbeats 400000 in
theorem refkind_any (w : World) (v : Value) (ks : List Int) (x : Int) (H : ReadsI w v ks) : Calls Tryd.prog 24 #[v, .int .i64 x] w fun e w' => e = .returned (.int .i64 (kindL ks x)) ∧ w = w' := by
  obtain ⟨a, cap, rfl, _, _⟩ := H.form
  by_cases h0 : 0 ≤ x
  · obtain ⟨n, rfl⟩ := Int.eq_ofNat_of_zero_le h0
    by_cases h1 : n < ks.length
    · obtain ⟨g, off, rfl, hg, hc⟩ := H.cell n h1
      have hcell := hc n h1
      have hk : kindL ks (n : Int) = kind0 ks[n] := by
        unfold kindL; rw [if_pos h0, Int.toNat_natCast, List.getD_eq_getElem?_getD, List.getElem?_eq_getElem h1]; rfl
      rw [hk]
      clear hc hk H
      generalize ks[n] = k at *
      by_cases k1 : k < 1
      · have hz : kind0 k = 0 := by unfold kind0; rw [if_neg (by omega)]
        rw [hz]
        clear hz
        go_enter Tryd.func24, Tryd.ntmps24
        go_wp2
        go_ret
        exact ⟨rfl, rfl⟩
      · by_cases k3 : 3 < k
        · have hz : kind0 k = 0 := by unfold kind0; rw [if_neg (by omega)]
          rw [hz]
          clear hz
          go_enter Tryd.func24, Tryd.ntmps24
          go_wp2
          go_ret
          exact ⟨rfl, rfl⟩
        · have hz : kind0 k = k := by unfold kind0; rw [if_pos (by omega)]
          rw [hz]
          clear hz
          go_enter Tryd.func24, Tryd.ntmps24
          go_wp2
          go_ret
          exact ⟨rfl, rfl⟩
    · have hk : kindL ks (n : Int) = 0 := by
        unfold kindL; rw [if_pos h0, Int.toNat_natCast, List.getD_eq_getElem?_getD, List.getElem?_eq_none (by omega)]; rfl
      rw [hk]
      have h2 : ¬ ((n : Int) < (ks.length : Int)) := by omega
      clear hk H
      go_enter Tryd.func24, Tryd.ntmps24
      go_wp2
      go_ret
      exact ⟨rfl, rfl⟩
  · have hk : kindL ks x = 0 := by unfold kindL; rw [if_neg h0]
    have h2 : x < 0 := by omega
    rw [hk]
    clear hk H
    go_enter Tryd.func24, Tryd.ntmps24
    go_wp2
    go_ret
    exact ⟨rfl, rfl⟩
end Go.Proofs.YtdhcnmljkmodhaaDoor

/- The walks of header.Below, Valid, and of the reference's Valid. -/
namespace Go.Proofs.YtdhcnmljkmodhaaDoor
set_option linter.unusedSectionVars false
set_option linter.unusedVariables false
set_option linter.unusedSimpArgs false
open Go.RowKit

set_option maxHeartbeats 400000 in
theorem below_3 (w : World) (s : BSet) (hs : s = ofL [(3 : Int), (2 : Int)]) : Calls Tryd.prog 35 #[.int .i64 3] w fun e w' => e = .returned s.val ∧ Keeps w w' (fun _ => False) := by
  have HA : Hid (ReadsC (((w.alloc (.cells #[.int .u64 0, .int .u64 0] 57)).alloc (.cells #[.int .u64 0, .int .u64 0] 57)).alloc (.cells #[.int .i64 3, .int .i64 2] 3)) 1 (.slice (some ⟨w.heap.size + 1 + 1, 0, none⟩) 2 2) [(3 : Int), (2 : Int)].length ([(3 : Int), (2 : Int)].flatMap encI)) := by
    have h := ReadsI.lit ((w.alloc (.cells #[.int .u64 0, .int .u64 0] 57)).alloc (.cells #[.int .u64 0, .int .u64 0] 57)) [(3 : Int), (2 : Int)] 3 (by simp)
    rw [hs_alloc, hs_alloc] at h
    exact Lib.hid h
  go_enter Tryd.func35, Tryd.ntmps35
  go_wp2_with fail
  refine (of_any _ _ [(3 : Int), (2 : Int)] HA.out).mono ?_
  rintro e w1 ⟨he, k1⟩
  rw [← hs] at he
  subst he
  have K1 : Hid (Keeps w w1 (fun _ => False)) := ((((Keeps.refl _ _).alloc _).alloc _).alloc _).trans k1
  have q0 : w1.heap[w.heap.size]? = some (.cells #[.int .u64 0, .int .u64 0] 57 (0, 0)) :=
    (k1.block _ (by simp only [hs_alloc]; omega) id).trans (((Below.heap_alloc _ _ _ (by simp only [hs_alloc]; omega)).trans (Below.heap_alloc _ _ _ (by simp only [hs_alloc]; omega))).trans (heap_alloc_new w _))
  have q1 : w1.heap[w.heap.size + 1]? = some (.cells #[.int .u64 0, .int .u64 0] 57 (0, 0)) := by
    refine (k1.block _ (by simp only [hs_alloc]; omega) id).trans ((Below.heap_alloc _ _ _ (by simp only [hs_alloc]; omega)).trans ?_)
    have := heap_alloc_new (w.alloc (.cells #[.int .u64 0, .int .u64 0] 57)) (.cells #[.int .u64 0, .int .u64 0] 57)
    rw [hs_alloc] at this; exact this
  have c0 : w1.cell? ⟨w.heap.size, 0, none⟩ = some (.int .u64 0) := by rw [cell_at q0]; rfl
  have c1 : w1.cell? ⟨w.heap.size, 1, none⟩ = some (.int .u64 0) := by rw [cell_at q0]; rfl
  have d0 : w1.cell? ⟨w.heap.size + 1, 0, none⟩ = some (.int .u64 0) := by rw [cell_at q1]; rfl
  have d1 : w1.cell? ⟨w.heap.size + 1, 1, none⟩ = some (.int .u64 0) := by rw [cell_at q1]; rfl
  have f0 : ∀ o, w1.frozen? ⟨w.heap.size, o, none⟩ = false := free_at q0
  have f1 : ∀ o, w1.frozen? ⟨w.heap.size + 1, o, none⟩ = false := free_at q1
  have hs1 := block_lt q1
  clear k1 q0 q1
  clear hs HA
  unfold BSet.val
  go_wp2_with fail
  refine bodyPost_ret (v := s.val) (by simp [results, Tryd.results35, go_sem, BSet.val, c0, c1, d0, d1, hs1]) rfl ⟨rfl, ?_⟩
  exact (((K1.out.setCell (fun h => absurd h (by simp)) _).setCell (fun h => absurd h (by simp)) _).setCell (fun h => absurd h (by simp)) _).setCell (fun h => absurd h (by simp)) _
set_option maxHeartbeats 400000 in
theorem below_2 (w : World) (s : BSet) (hs : s = ofL [(1 : Int)]) : Calls Tryd.prog 35 #[.int .i64 2] w fun e w' => e = .returned s.val ∧ Keeps w w' (fun _ => False) := by
  have HA : Hid (ReadsC (((w.alloc (.cells #[.int .u64 0, .int .u64 0] 57)).alloc (.cells #[.int .u64 0, .int .u64 0] 57)).alloc (.cells #[.int .i64 1] 3)) 1 (.slice (some ⟨w.heap.size + 1 + 1, 0, none⟩) 1 1) [(1 : Int)].length ([(1 : Int)].flatMap encI)) := by
    have h := ReadsI.lit ((w.alloc (.cells #[.int .u64 0, .int .u64 0] 57)).alloc (.cells #[.int .u64 0, .int .u64 0] 57)) [(1 : Int)] 3 (by simp)
    rw [hs_alloc, hs_alloc] at h
    exact Lib.hid h
  go_enter Tryd.func35, Tryd.ntmps35
  go_wp2_with fail
  refine (of_any _ _ [(1 : Int)] HA.out).mono ?_
  rintro e w1 ⟨he, k1⟩
  rw [← hs] at he
  subst he
  have K1 : Hid (Keeps w w1 (fun _ => False)) := ((((Keeps.refl _ _).alloc _).alloc _).alloc _).trans k1
  have q0 : w1.heap[w.heap.size]? = some (.cells #[.int .u64 0, .int .u64 0] 57 (0, 0)) :=
    (k1.block _ (by simp only [hs_alloc]; omega) id).trans (((Below.heap_alloc _ _ _ (by simp only [hs_alloc]; omega)).trans (Below.heap_alloc _ _ _ (by simp only [hs_alloc]; omega))).trans (heap_alloc_new w _))
  have q1 : w1.heap[w.heap.size + 1]? = some (.cells #[.int .u64 0, .int .u64 0] 57 (0, 0)) := by
    refine (k1.block _ (by simp only [hs_alloc]; omega) id).trans ((Below.heap_alloc _ _ _ (by simp only [hs_alloc]; omega)).trans ?_)
    have := heap_alloc_new (w.alloc (.cells #[.int .u64 0, .int .u64 0] 57)) (.cells #[.int .u64 0, .int .u64 0] 57)
    rw [hs_alloc] at this; exact this
  have c0 : w1.cell? ⟨w.heap.size, 0, none⟩ = some (.int .u64 0) := by rw [cell_at q0]; rfl
  have c1 : w1.cell? ⟨w.heap.size, 1, none⟩ = some (.int .u64 0) := by rw [cell_at q0]; rfl
  have d0 : w1.cell? ⟨w.heap.size + 1, 0, none⟩ = some (.int .u64 0) := by rw [cell_at q1]; rfl
  have d1 : w1.cell? ⟨w.heap.size + 1, 1, none⟩ = some (.int .u64 0) := by rw [cell_at q1]; rfl
  have f0 : ∀ o, w1.frozen? ⟨w.heap.size, o, none⟩ = false := free_at q0
  have f1 : ∀ o, w1.frozen? ⟨w.heap.size + 1, o, none⟩ = false := free_at q1
  have hs1 := block_lt q1
  clear k1 q0 q1
  clear hs HA
  unfold BSet.val
  go_wp2_with fail
  refine bodyPost_ret (v := s.val) (by simp [results, Tryd.results35, go_sem, BSet.val, c0, c1, d0, d1, hs1]) rfl ⟨rfl, ?_⟩
  exact (((K1.out.setCell (fun h => absurd h (by simp)) _).setCell (fun h => absurd h (by simp)) _).setCell (fun h => absurd h (by simp)) _).setCell (fun h => absurd h (by simp)) _
set_option maxHeartbeats 400000 in
theorem below_other (k : Int) (h2 : (k == 2) = false) (h3 : (k == 3) = false) (w : World) : Calls Tryd.prog 35 #[.int .i64 k] w fun e w' => e = .returned (ofL []).val ∧ Keeps w w' (fun _ => False) := by
  have hz : ofL [] = BSet.empty := rfl
  go_enter Tryd.func35, Tryd.ntmps35
  go_wp2
  refine bodyPost_ret (v := (ofL []).val) (by simp [results, Tryd.results35, go_sem, hz, BSet.empty, BSet.val]) rfl ⟨rfl, ?_⟩
  repeat (first | exact Keeps.refl _ _ | apply Keeps.drew | refine Keeps.setCell ?_ (fun h => absurd h (by simp)) _ | apply Keeps.alloc)
def belowS (k : Int) : BSet := if k = 3 then ofL [3, 2] else if k = 2 then ofL [1] else ofL []
theorem below_any (k : Int) (w : World) : Calls Tryd.prog 35 #[.int .i64 k] w fun e w' => e = .returned (belowS k).val ∧ Keeps w w' (fun _ => False) := by
  by_cases h3 : k = 3
  · subst h3; exact below_3 w _ rfl
  · by_cases h2 : k = 2
    · subst h2; exact below_2 w _ rfl
    · have e : belowS k = ofL [] := by unfold belowS; rw [if_neg h3, if_neg h2]
      rw [e]
      exact below_other k (beq_eq_false_iff_ne.2 h2) (beq_eq_false_iff_ne.2 h3) w
/-- May one of the kind a stand right on one of the kind b? -/
def mayL (a b : Int) : Bool := (a == 3 && (b == 3 || b == 2)) || (a == 2 && b == 1)
theorem has32 : ∀ n, n < 128 → (ofL [3, 2]).has n = (n == 3 || n == 2) := by decide +kernel
theorem has1 : ∀ n, n < 128 → (ofL [1]).has n = (n == 1) := by decide +kernel
theorem has_ : ∀ n, n < 128 → (ofL []).has n = false := by decide +kernel
theorem below_has (a b : Int) : (belowS a).hasN b = mayL a b := by
  unfold BSet.hasN mayL belowS
  by_cases hb : 0 ≤ b ∧ b < 128
  · obtain ⟨n, rfl⟩ := Int.eq_ofNat_of_zero_le hb.1
    have hn : n < 128 := by omega
    rw [decide_eq_true hb.1, decide_eq_true hb.2, Bool.true_and, Bool.true_and, Int.toNat_natCast]
    by_cases h3 : a = 3
    · subst h3
      rw [if_pos rfl, has32 n hn, Bool.eq_iff_iff]; simp; omega
    · by_cases h2 : a = 2
      · subst h2
        rw [if_neg (by decide), if_pos rfl, has1 n hn, Bool.eq_iff_iff]; simp; omega
      · rw [if_neg h3, if_neg h2, has_ n hn, Bool.eq_iff_iff]; simp [h2, h3]
  · have h1 : (decide (0 ≤ b) && decide (b < 128)) = false := by
      simp only [Bool.and_eq_false_iff, decide_eq_false_iff_not]; omega
    rw [h1, Bool.false_and]
    symm
    simp only [Bool.or_eq_false_iff, Bool.and_eq_false_iff, beq_eq_false_iff_ne]
    omega

end Go.Proofs.YtdhcnmljkmodhaaDoor

/- The walk of header.Valid. -/
namespace Go.Proofs.YtdhcnmljkmodhaaDoor
set_option linter.unusedSectionVars false
set_option linter.unusedVariables false
set_option linter.unusedSimpArgs false
open Go.RowKit

/-- May a header be? -/
def validL (ks : List Int) : List Int → Bool
  | [] => false
  | [x] => kindL ks x == 1
  | x :: y :: r => kindL ks x != 0 && mayL (kindL ks x) (kindL ks y) && validL ks (y :: r)

set_option maxRecDepth 100000 in
set_option maxHeartbeats 1000000 in
theorem valid_any (w : World) (vk vh : Value) (ks h : List Int) (Hk : ReadsI w vk ks) (Hh : ReadsI w vh h) : Calls Tryd.prog 20 #[vk, vh] w fun e w' => e = .returned (.bool (validL ks h)) ∧ Keeps w w' (fun _ => False) := by
  obtain ⟨ak, capk, rfl, _, hmk⟩ := Hk.form
  obtain ⟨ah, caph, rfl, hch, hmh⟩ := Hh.form
  have hl : h.length ≤ 9223372036854775807 := by unfold maxLen at hmh; omega
  have GK := Lib.hid Hk
  have GH := Lib.hid Hh
  clear Hk Hh hmk hmh hch
  go_enter Tryd.func20, Tryd.ntmps20
  go_wp2
  go_loopw [10] (fun t10 wr => ∃ i : Nat, t10 = .int .i64 i ∧ i ≤ h.length ∧ (h.length = 0 ∨ i < h.length) ∧ validL ks h = validL ks (h.drop i) ∧ Keeps w wr (fun _ => False)) (fun t10 _ => h.length - (intOf t10).toNat)
  case atStart => exact ⟨0, rfl, Nat.zero_le _, by omega, rfl, Keeps.refl _ _⟩
  case round =>
    obtain ⟨i, rfl, hi, hne, hv, hkp⟩ := hrel
    have GP := Lib.hid hkp
    have GV := Lib.hid hv
    clear hkp hv
    by_cases hlt : i < h.length
    · obtain ⟨g, off, rfl, hg, hc⟩ := (GH.out.keeps GP.out).cell i hlt
      have hcell := hc i hlt
      have HC := Lib.hid hc
      have hdrop : h.drop i = h[i] :: h.drop (i + 1) := List.drop_eq_getElem_cons hlt
      have HD := Lib.hid hdrop
      clear hc hdrop
      by_cases hlast : i + 1 = h.length
      · have hfin : validL ks h = (kindL ks h[i] == 1) := by rw [GV.out, HD.out, List.drop_eq_nil_of_le (by omega)]; rfl
        have Hfin := Lib.hid hfin
        have hlz : ((i : Int) == (h.length : Int) - 1) = true := beq_iff_eq.2 (by omega)
        clear hfin hlast
        generalize h[i] = x at *
        go_wp2_with fail
        refine (kind_any _ _ ks x (GK.out.keeps GP.out)).mono ?_
        rintro e w2 ⟨rfl, rfl⟩
        rcases kindL_range ks x with h0 | h0 | h0 | h0
        all_goals
          rw [h0] at Hfin ⊢
          go_wp2_with fail
          go_ret
          exact ⟨by rw [Hfin.out]; rfl, GP.out⟩
      · have hlt2 : i + 1 < h.length := by omega
        have hcell2 := HC.out (i + 1) hlt2
        have hdrop2 : h.drop (i + 1) = h[i + 1] :: h.drop (i + 1 + 1) := List.drop_eq_getElem_cons hlt2
        have hfin : validL ks h = (kindL ks h[i] != 0 && mayL (kindL ks h[i]) (kindL ks h[i + 1]) && validL ks (h.drop (i + 1))) := by rw [GV.out, HD.out, hdrop2]; rfl
        have Hfin := Lib.hid hfin
        have hlz : ((i : Int) == (h.length : Int) - 1) = false := beq_eq_false_iff_ne.2 (by omega)
        have b0 : (0 : Int) ≤ (i : Int) + 1 := by omega
        have b1 : (i : Int) + 1 < (h.length : Int) := by omega
        have b2 : ((i : Int) + 1).toNat = i + 1 := by omega
        have HB2 := Lib.hid b2
        clear hfin hlast hdrop2 b2 HC
        generalize h[i] = x at *
        generalize h[i + 1] = y at *
        go_wp2_with fail
        refine (kind_any _ _ ks x (GK.out.keeps GP.out)).mono ?_
        rintro e w2 ⟨rfl, rfl⟩
        by_cases hz : kindL ks x = 0
        · rw [hz] at Hfin ⊢
          go_wp2_with fail
          go_ret
          exact ⟨by rw [Hfin.out]; rfl, GP.out⟩
        · have hzb : (kindL ks x == 0) = false := beq_eq_false_iff_ne.2 hz
          have hzn : (kindL ks x != 0) = true := bne_iff_ne.2 hz
          rw [hzn, Bool.true_and] at Hfin
          have hhas := below_has (kindL ks x) (kindL ks y)
          have Hhas := Lib.hid hhas
          have HKY : Hid (∀ x : Cls wr, ReadsI x.w (.slice ak ks.length capk) ks) := fun x => (GK.out.keeps GP.out).keeps x.keep
          have x2 : ∀ x : Cls wr, x.w.cell? ⟨g, off + (i + 1), none⟩ = some (.int .i64 y) := Cls.cell hcell2
          clear hz hzn hhas hcell hcell2
          generalize hkx : kindL ks x = kx at *
          go_wp2_with fail
          refine wp_region_cls (by kernel_rfl) (by kernel_rfl) ?_
          have b2 := HB2.out
          repeat (go_big_quiet_step ((first | (go_at_call 35; exact cls_call (below_any _ _)) | (go_at_call 29; exact cls_call_same (kind_any _ _ ks y (HKY.out _))) | (go_at_call 36; exact cls_call (has_any _ _ _)))))
          refine wpQuiet_nil ?_
          rintro _ ⟨x5, rfl⟩
          rw [Hhas.out]
          have K5 := Lib.hid (GP.out.trans x5.keep)
          generalize x5.w = w5 at *
          clear x2 b2
          cases hmay : mayL kx (kindL ks y)
          · go_wp2_with fail
            go_ret
            exact ⟨by rw [Hfin.out, hmay]; rfl, K5.out⟩
          · rw [hmay, Bool.true_and] at Hfin
            go_wp2_with fail
            go_roundw
            case rel => exact ⟨i + 1, by go_num, by omega, .inr (by omega), Hfin.out, K5.out⟩
            case measure => simp [intOf]; omega
    · have h0 : h.length = 0 := by omega
      obtain rfl : h = [] := List.eq_nil_of_length_eq_zero h0
      obtain rfl : i = 0 := by simpa using hi
      go_wp2
      go_ret
      exact ⟨rfl, GP.out⟩
end Go.Proofs.YtdhcnmljkmodhaaDoor

/- The plain law of Valid; the walk of the reference's Valid. -/
namespace Go.Proofs.YtdhcnmljkmodhaaDoor
set_option linter.unusedSectionVars false
set_option linter.unusedVariables false
set_option linter.unusedSimpArgs false
open Go.RowKit

theorem mayL_iff (a b : Int) : mayL a b = true ↔ (a = 3 ∧ (b = 3 ∨ b = 2)) ∨ (a = 2 ∧ b = 1) := by
  unfold mayL; simp
theorem valid_iff (ks : List Int) : ∀ h : List Int, validL ks h = true ↔ h ≠ [] ∧ (∀ i (hi : i < h.length), i + 1 = h.length → kindL ks h[i] = 1) ∧ (∀ i (hi : i < h.length), i + 2 = h.length → kindL ks h[i] = 2) ∧ (∀ i (hi : i < h.length), i + 2 < h.length → kindL ks h[i] = 3)
  | [] => by simp [validL]
  | [x] => by
    simp only [validL, beq_iff_eq]
    constructor
    · intro h
      refine ⟨by simp, fun i hi _ => ?_, fun i hi h2 => ?_, fun i hi h2 => ?_⟩
      · simp only [List.length_cons, List.length_nil] at hi
        obtain rfl : i = 0 := by omega
        exact h
      · simp only [List.length_cons, List.length_nil] at h2; omega
      · simp only [List.length_cons, List.length_nil] at h2; omega
    · rintro ⟨_, h, _, _⟩; exact h 0 (by simp) rfl
  | x :: y :: r => by
    have ih := valid_iff ks (y :: r)
    simp only [validL, Bool.and_eq_true, bne_iff_ne, ne_eq, mayL_iff]
    rw [ih]
    constructor
    · rintro ⟨⟨hx, hm⟩, _, hA, hB, hC⟩
      refine ⟨by simp, fun i hi h1 => ?_, fun i hi h2 => ?_, fun i hi h3 => ?_⟩
      · match i, hi, h1 with
        | 0, _, h1 => simp at h1
        | i + 1, hi, h1 =>
          have := hA i (by simpa using hi) (by simpa using h1)
          simpa using this
      · match i, hi, h2 with
        | 0, _, h2 =>
          have hr : r = [] := by cases r with | nil => rfl | cons _ _ => simp at h2
          subst hr
          have := hA 0 (by simp) rfl
          simp only [List.getElem_cons_zero] at this ⊢
          omega
        | i + 1, hi, h2 =>
          have := hB i (by simpa using hi) (by simp only [List.length_cons] at h2 ⊢; omega)
          simpa using this
      · match i, hi, h3 with
        | 0, _, h3 =>
          have hy : kindL ks y = 2 ∨ kindL ks y = 3 := by
            by_cases hl : r.length = 1
            · exact .inl (hB 0 (by simp) (by simp only [List.length_cons]; omega))
            · exact .inr (hC 0 (by simp) (by simp only [List.length_cons] at h3 ⊢; omega))
          simp only [List.getElem_cons_zero]
          omega
        | i + 1, hi, h3 =>
          have := hC i (by simpa using hi) (by simp only [List.length_cons] at h3 ⊢; omega)
          simpa using this
    · rintro ⟨_, hA, hB, hC⟩
      have sA : ∀ i (hi : i < (y :: r).length), i + 1 = (y :: r).length → kindL ks (y :: r)[i] = 1 := fun i hi h1 => by
        have := hA (i + 1) (by simpa using hi) (by simpa using h1)
        simpa using this
      have sB : ∀ i (hi : i < (y :: r).length), i + 2 = (y :: r).length → kindL ks (y :: r)[i] = 2 := fun i hi h1 => by
        have := hB (i + 1) (by simpa using hi) (by simp only [List.length_cons] at h1 ⊢; omega)
        simpa using this
      have sC : ∀ i (hi : i < (y :: r).length), i + 2 < (y :: r).length → kindL ks (y :: r)[i] = 3 := fun i hi h1 => by
        have := hC (i + 1) (by simpa using hi) (by simp only [List.length_cons] at h1 ⊢; omega)
        simpa using this
      have key : (kindL ks x = 2 ∧ kindL ks y = 1) ∨ (kindL ks x = 3 ∧ (kindL ks y = 3 ∨ kindL ks y = 2)) := by
        by_cases h0 : r.length = 0
        · exact .inl ⟨hB 0 (by simp) (by simp only [List.length_cons]; omega), sA 0 (by simp) (by simp only [List.length_cons]; omega)⟩
        · refine .inr ⟨hC 0 (by simp) (by simp only [List.length_cons]; omega), ?_⟩
          by_cases h1 : r.length = 1
          · exact .inr (sB 0 (by simp) (by simp only [List.length_cons]; omega))
          · exact .inl (sC 0 (by simp) (by simp only [List.length_cons]; omega))
      exact ⟨by omega, by simp, sA, sB, sC⟩
/-- Of a header that may be each end may be. -/
theorem valid_drop (ks : List Int) : ∀ (h : List Int) (k : Nat), k < h.length → validL ks h = true → validL ks (h.drop k) = true
  | _, 0, _, hv => by simpa using hv
  | [], k + 1, hk, _ => by simp at hk
  | [x], k + 1, hk, _ => by simp at hk
  | x :: y :: r, k + 1, hk, hv => by
    rw [List.drop_succ_cons]
    refine valid_drop ks (y :: r) k (by simpa using hk) ?_
    simp only [validL, Bool.and_eq_true] at hv
    exact hv.2

set_option maxHeartbeats 1000000 in
theorem refvalid_any (w : World) (vk vh : Value) (ks h : List Int) (Hk : ReadsI w vk ks) (Hh : ReadsI w vh h) : Calls Tryd.prog 34 #[vk, vh] w fun e w' => e = .returned (.bool (validL ks h)) ∧ Keeps w w' (fun _ => False) := by
  obtain ⟨ak, capk, rfl, _, hmk⟩ := Hk.form
  obtain ⟨ah, caph, rfl, hch, hmh⟩ := Hh.form
  have hl : h.length ≤ 9223372036854775807 := by unfold maxLen at hmh; omega
  have GK := Lib.hid Hk
  have GH := Lib.hid Hh
  have HV := Lib.hid (valid_iff ks h)
  clear Hk Hh hmk hmh hch
  by_cases hn : h.length = 0
  · obtain rfl : h = [] := List.eq_nil_of_length_eq_zero hn
    clear GH HV
    go_enter Tryd.func34, Tryd.ntmps34
    go_wp2
    go_ret
    exact ⟨rfl, Keeps.refl _ _⟩
  obtain ⟨g, off, rfl, hg, hc⟩ := GH.out.cell (h.length - 1) (by omega)
  have HC : Hid (∀ wr, Keeps w wr (fun _ => False) → ∀ j (hj : j < h.length), wr.cell? ⟨g, off + j, none⟩ = some (.int .i64 h[j])) := Lib.hid (fun wr hk j hj => by
    obtain ⟨g', off', he, _, hc'⟩ := (GH.out.keeps hk).cell j hj
    simp only [Option.some.injEq, Addr.mk.injEq, and_true] at he
    obtain ⟨rfl, rfl⟩ := he
    exact hc' j hj)
  have c1 := hc (h.length - 1) (by omega)
  have H1 : Hid (kindL ks (h[h.length - 1]'(by omega)) ≠ 1 → validL ks h = false) := Lib.hid (fun hne => by
    rw [Bool.eq_false_iff]; intro hv
    exact hne ((HV.out.1 hv).2.1 _ (by omega) (by omega)))
  have b0 : (0 : Int) ≤ (h.length : Int) - 1 := by omega
  have b1 : (h.length : Int) - 1 < (h.length : Int) := by omega
  have b2 : ((h.length : Int) - 1).toNat = h.length - 1 := by omega
  have bz : ((h.length : Int) == 0) = false := beq_eq_false_iff_ne.2 (by omega)
  have bz' : ¬ (h.length : Int) = 0 := by omega
  by_cases hk1 : kindL ks (h[h.length - 1]'(by omega)) = 1
  · clear H1 hc GH
    by_cases h2 : h.length = 1
    · have hval : validL ks h = true := HV.out.2 ⟨fun e => by rw [e] at h2; simp at h2, fun i hi he => by
        have : i = h.length - 1 := by omega
        subst this; exact hk1, fun i hi he => by omega, fun i hi he => by omega⟩
      rw [hval]
      have Hk1 := Lib.hid hk1
      clear HV hval hk1
      have hlt : ¬ ((1 : Int) < (h.length : Int)) := by omega
      have hge : ¬ ((0 : Int) < (h.length : Int) - 2) := by omega
      clear h2
      generalize h[h.length - 1] = x at *
      go_enter Tryd.func34, Tryd.ntmps34
      go_wp2_with fail
      refine (refkind_any _ _ ks x GK.out).mono ?_
      rintro e w2 ⟨rfl, rfl⟩
      rw [Hk1.out]
      go_wp2_with fail
      go_loopw [6] (fun t6 wr => t6 = .int .i64 (0 : Int) ∧ Keeps w wr (fun _ => False)) (fun t6 _ => 0)
      case atStart => exact ⟨rfl, Keeps.refl _ _⟩
      case round =>
        obtain ⟨rfl, hkp⟩ := hrel
        go_wp2
        go_ret
        exact ⟨rfl, hkp⟩
    · have d0 : (0 : Int) ≤ (h.length : Int) - 2 := by omega
      have d1 : (h.length : Int) - 2 < (h.length : Int) := by omega
      have d2 : ((h.length : Int) - 2).toNat = h.length - 2 := by omega
      have d3 : ((1 : Int) < (h.length : Int)) := by omega
      have c2 := HC.out w (Keeps.refl _ _) (h.length - 2) (by omega)
      have H2 : Hid (kindL ks (h[h.length - 2]'(by omega)) ≠ 2 → validL ks h = false) := Lib.hid (fun hne => by
        rw [Bool.eq_false_iff]; intro hv
        exact hne ((HV.out.1 hv).2.2.1 _ (by omega) (by omega)))
      by_cases hk2 : kindL ks (h[h.length - 2]'(by omega)) = 2
      · have H3 : Hid ((∀ i (hi : i < h.length), i + 2 < h.length → kindL ks h[i] = 3) → validL ks h = true) := Lib.hid (fun h3 => HV.out.2 ⟨fun e => by rw [e] at hn; simp at hn, fun i hi he => by
            have : i = h.length - 1 := by omega
            subst this; exact hk1, fun i hi he => by
            have : i = h.length - 2 := by omega
            subst this; exact hk2, h3⟩)
        have H3' : Hid (∀ i (hi : i < h.length), i + 2 < h.length → kindL ks h[i] ≠ 3 → validL ks h = false) := Lib.hid (fun i hi h2 hne => by
          rw [Bool.eq_false_iff]; intro hv
          exact hne ((HV.out.1 hv).2.2.2 i hi h2))
        have Hk1 := Lib.hid hk1
        have Hk2 := Lib.hid hk2
        clear HV hk1 hk2 H2
        generalize h[h.length - 1] = x at *
        generalize h[h.length - 2] = y at *
        go_enter Tryd.func34, Tryd.ntmps34
        go_wp2_with fail
        refine (refkind_any _ _ ks x GK.out).mono ?_
        rintro e w2 ⟨rfl, rfl⟩
        rw [Hk1.out]
        go_wp2_with fail
        refine (refkind_any _ _ ks y GK.out).mono ?_
        rintro e w2 ⟨rfl, rfl⟩
        rw [Hk2.out]
        go_wp2_with fail
        go_loopw [6] (fun t6 wr => ∃ i : Nat, t6 = .int .i64 i ∧ i + 2 ≤ h.length ∧ (∀ j (hj : j < h.length), j < i → kindL ks h[j] = 3) ∧ Keeps w wr (fun _ => False)) (fun t6 _ => h.length - (intOf t6).toNat)
        case atStart => exact ⟨0, rfl, by omega, fun _ _ h => absurd h (Nat.not_lt_zero _), Keeps.refl _ _⟩
        case round =>
          obtain ⟨i, rfl, hi, hall, hkp⟩ := hrel
          have GA := Lib.hid hall
          have GP := Lib.hid hkp
          clear hall hkp
          by_cases hlt : i + 2 < h.length
          · have e1 : ((i : Int) < (h.length : Int) - 2) := by omega
            have e2 : ((i : Int) < (h.length : Int)) := by omega
            have ci := HC.out wr GP.out i (by omega)
            have hnx := H3'.out i (by omega) hlt
            have Hnx := Lib.hid hnx
            have hst : kindL ks (h[i]'(by omega)) = 3 → ∀ j (hj : j < h.length), j < i + 1 → kindL ks h[j] = 3 := fun h3 j hj hji => by
              by_cases hji2 : j < i
              · exact GA.out j hj hji2
              · obtain rfl : j = i := by omega
                exact h3
            have Hst := Lib.hid hst
            clear hnx hst
            generalize h[i] = z at *
            go_wp2_with fail
            refine (refkind_any _ _ ks z (GK.out.keeps GP.out)).mono ?_
            rintro e w2 ⟨rfl, rfl⟩
            rcases kindL_range ks z with h0 | h0 | h0 | h0
            case inr.inr.inr =>
              have Hn := Lib.hid (Hst.out h0)
              rw [h0] at Hnx ⊢
              clear Hst h0
              go_wp2_with fail
              go_roundw
              case rel => exact ⟨i + 1, by go_num, by omega, Hn.out, GP.out⟩
              case measure => simp [intOf]; omega
            all_goals
              rw [h0] at Hnx ⊢
              have hv := Lib.hid (Hnx.out (by decide))
              clear Hst h0 Hnx
              go_wp2_with fail
              go_ret
              exact ⟨by rw [hv.out]; first | done | rfl, GP.out⟩
          · have e1 : ¬ ((i : Int) < (h.length : Int) - 2) := by omega
            have hv := Lib.hid (H3.out (fun j hj h2 => GA.out j hj (by omega)))
            go_wp2
            go_ret
            exact ⟨by rw [hv.out]; first | done | rfl, GP.out⟩
      · have hval := H2.out hk2
        rw [hval]
        have Hk1 := Lib.hid hk1
        have Hk2 := Lib.hid hk2
        clear HV hk1 hk2 H2 hval
        generalize h[h.length - 1] = x at *
        generalize h[h.length - 2] = y at *
        go_enter Tryd.func34, Tryd.ntmps34
        go_wp2_with fail
        refine (refkind_any _ _ ks x GK.out).mono ?_
        rintro e w2 ⟨rfl, rfl⟩
        rw [Hk1.out]
        go_wp2_with fail
        refine (refkind_any _ _ ks y GK.out).mono ?_
        rintro e w2 ⟨rfl, rfl⟩
        have h2 := Hk2.out
        rcases kindL_range ks y with h0 | h0 | h0 | h0
        case inr.inr.inl => exact absurd h0 h2
        all_goals
          rw [h0]
          clear h2 h0 Hk2
          go_wp2_with fail
          go_ret
          exact ⟨rfl, Keeps.refl _ _⟩
  · have hval := H1.out hk1
    rw [hval]
    have Hk1 := Lib.hid hk1
    clear HV hk1 H1 hval hc GH
    generalize h[h.length - 1] = x at *
    go_enter Tryd.func34, Tryd.ntmps34
    go_wp2_with fail
    refine (refkind_any _ _ ks x GK.out).mono ?_
    rintro e w2 ⟨rfl, rfl⟩
    have h2 := Hk1.out
    rcases kindL_range ks x with h0 | h0 | h0 | h0
    case inr.inl => exact absurd h0 h2
    all_goals
      rw [h0]
      clear h2 h0 Hk1
      go_wp2_with fail
      go_ret
      exact ⟨rfl, Keeps.refl _ _⟩
end Go.Proofs.YtdhcnmljkmodhaaDoor
