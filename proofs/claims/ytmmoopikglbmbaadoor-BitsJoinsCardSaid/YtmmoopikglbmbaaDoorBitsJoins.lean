/- BitsJoins returns true: what any two sets come to; whether one is under the other. The table of math/bits reads as laid (tied by the card). -/
import Derived.Test.YtmmoopikglbmbaaDoorBits13
import Derived.Test.YtmmoopikglbmbaaDoorRegionK
import Derived.Test.YtmmoopikglbmbaaDoorBitsOpen
namespace Go.Proofs.YtmmoopikglbmbaaDoor.bitsJoins
set_option linter.unusedSectionVars false
set_option linter.unusedVariables false
set_option linter.unusedSimpArgs false
open Go.RowKit

set_option maxRecDepth 20000 in
set_option maxHeartbeats 16000000 in
theorem walk_true (a b : BSet) (w : World) (hT : TabOk w) (hX : (a.less b).isEmpty = true) :
    Calls Tryd.prog 8 #[a.val, b.val] w fun e w' => e = .returned (.bool true) ∧ Keeps w w' (fun _ => False) := by
  have GT := Lib.hid hT
  have HX := Lib.hid hX
  obtain ⟨n, hn⟩ : ∃ n, (memI (a.less b)).length = n := ⟨_, rfl⟩
  have hq : ((n : Int) == 0) = true := by
    have h := isEmpty_len (a.less b)
    rw [hX, ← memI_len, hn] at h
    rw [beq_iff_eq]; have := of_decide_eq_true h.symm; omega
  obtain rfl : n = 0 := by rw [beq_iff_eq] at hq; omega
  have HN := Lib.hid hn
  have hfold : ∀ s : BSet, (Value.agg #[.int .u64 s.lo.toNat, .int .u64 s.hi.toNat]) = s.val := fun _ => rfl
  have Hf := Lib.hid hfold
  have MA := Lib.hid (memI_len128 a)
  have MB := Lib.hid (memI_len128 b)
  clear hq
  clear hT hX hn hfold
  unfold BSet.val
  go_enter Tryd.func8, Tryd.ntmps8
  go_wp2_with fail
  refine (awake07 _ (GT.out.keeps (((Keeps.refl _ _).alloc _).alloc _))).mono ?_
  rintro e w1 ⟨rfl, k1⟩
  have K1 : Hid (Keeps w w1 (fun _ => False)) := Lib.hid ((((Keeps.refl _ _).alloc _).alloc _).trans k1)
  have e0 : (w.alloc (.cells #[.int .u64 a.lo.toNat, .int .u64 a.hi.toNat] 24)).heap.size = w.heap.size + 1 := by simp
  have BA : Hid (w1.heap[w.heap.size]? = some (.cells a.cells 24 (0, 0))) := Lib.hid ((k1.block _ (by simp; omega) id).trans ((Below.heap_alloc _ _ _ (by simp)).trans (heap_alloc_new w _)))
  have BB : Hid (w1.heap[w.heap.size + 1]? = some (.cells b.cells 24 (0, 0))) := Lib.hid ((k1.block _ (by simp) id).trans (by
    have h := heap_alloc_new (w.alloc (.cells #[.int .u64 a.lo.toNat, .int .u64 a.hi.toNat] 24)) (.cells #[.int .u64 b.lo.toNat, .int .u64 b.hi.toNat] 24)
    rw [e0] at h; exact h))
  clear k1 e0
  generalize w.heap.size = N at *
  go_wp2_with fail
  obtain ⟨W, hW⟩ : ∃ W, w1 = W := ⟨_, rfl⟩
  subst hW
  have hfold := Hf.out
  have x0w : w1.cell? ⟨N, 0, none⟩ = some (.int .u64 a.lo.toNat) := by rw [cell_at BA.out]; rfl
  have x1w : w1.cell? ⟨N, 1, none⟩ = some (.int .u64 a.hi.toNat) := by rw [cell_at BA.out]; rfl
  have x2w : w1.cell? ⟨N + 1, 0, none⟩ = some (.int .u64 b.lo.toNat) := by rw [cell_at BB.out]; rfl
  have x3w : w1.cell? ⟨N + 1, 1, none⟩ = some (.int .u64 b.hi.toNat) := by rw [cell_at BB.out]; rfl
  have x0 : ∀ {ops : Array Oper} {F : Tmp → Value → World → Prop} {o : Oper} {D : List (Tmp × Value)} (x : AtF (KeepsN w1) F ops o D), x.w.cell? ⟨N, 0, none⟩ = some (.int .u64 a.lo.toNat) := fun x => AtF.cell x0w x
  have x1 : ∀ {ops : Array Oper} {F : Tmp → Value → World → Prop} {o : Oper} {D : List (Tmp × Value)} (x : AtF (KeepsN w1) F ops o D), x.w.cell? ⟨N, 1, none⟩ = some (.int .u64 a.hi.toNat) := fun x => AtF.cell x1w x
  have x2 : ∀ {ops : Array Oper} {F : Tmp → Value → World → Prop} {o : Oper} {D : List (Tmp × Value)} (x : AtF (KeepsN w1) F ops o D), x.w.cell? ⟨N + 1, 0, none⟩ = some (.int .u64 b.lo.toNat) := fun x => AtF.cell x2w x
  have x3 : ∀ {ops : Array Oper} {F : Tmp → Value → World → Prop} {o : Oper} {D : List (Tmp × Value)} (x : AtF (KeepsN w1) F ops o D), x.w.cell? ⟨N + 1, 1, none⟩ = some (.int .u64 b.hi.toNat) := fun x => AtF.cell x3w x
  clear x0w x1w x2w x3w
  refine wp_region_K [(10, fun v w => RdV w v (IV (memI a))), (12, fun v w => RdV w v (IV (memI b)))] ?_ (by kernel_rfl) (by kernel_rfl) ?_
  · intro p hp
    simp only [List.mem_cons, List.not_mem_nil, or_false] at hp
    rcases hp with rfl | rfl <;> exact fun v w w' h hk => RdV.keeps h hk
  repeat (first | (refine wpF_skip rfl ?_) | (refine wpF_plain rfl rfl rfl ?_; intro ne K hK; go_big_quiet_op; go_big_quiet_on; clear ne))
  refine wpF_call rfl rfl ?_ ?_
  · intro x hx hf
    refine gives_hide (fun R hR => ?_)
    clear x0 x1 x2 x3
    go_simp
    refine (list_any a x (GT.out.keeps (K1.out.trans hx))).mono ?_
    intro e w' ho
    obtain ⟨v, rfl, hk, hr⟩ := OwnI.rd ho
    skip
    exact ⟨_, rfl, hR _ _ ⟨hk, hr⟩⟩
  rintro p ⟨y, hy, hF⟩
  clear hy hF y
  simp only [Act.put, List.setIfInBounds_toArray, List.set_cons_succ, List.set_cons_zero]
  repeat (first | (refine wpF_skip rfl ?_) | (refine wpF_plain rfl rfl rfl ?_; intro ne K hK; go_big_quiet_op; go_big_quiet_on; clear ne))
  refine wpF_call rfl rfl ?_ ?_
  · intro x hx hf
    refine gives_hide (fun R hR => ?_)
    clear x0 x1 x2 x3
    go_simp
    refine (list_any b x (GT.out.keeps (K1.out.trans hx))).mono ?_
    intro e w' ho
    obtain ⟨v, rfl, hk, hr⟩ := OwnI.rd ho
    skip
    exact ⟨_, rfl, hR _ _ ⟨hk, hr⟩⟩
  rintro q ⟨y, hy, hF⟩
  clear hy hF y
  simp only [Act.put, List.setIfInBounds_toArray, List.set_cons_succ, List.set_cons_zero]
  repeat (first | (refine wpF_skip rfl ?_) | (refine wpF_plain rfl rfl rfl ?_; intro ne K hK; go_big_quiet_op; go_big_quiet_on; clear ne))
  refine wpF_nil ?_
  intro w2 hw2 hF
  have RP : Hid (RdV w2 p (IV (memI a))) := Lib.hid (hF (10, p) (by simp))
  have RQ : Hid (RdV w2 q (IV (memI b))) := Lib.hid (hF (12, q) (by simp))
  have K2 : Hid (Keeps w w2 (fun _ => False)) := Lib.hid (K1.out.trans hw2)
  have BA2 := Lib.hid ((Keeps.block hw2 _ (block_lt BA.out) id).trans BA.out)
  have BB2 := Lib.hid ((Keeps.block hw2 _ (block_lt BB.out) id).trans BB.out)
  clear hw2 hF BA BB K1 x0 x1 x2 x3 hfold
  go_wp2_with fail
  have hfold := Hf.out
  have x0w : w2.cell? ⟨N, 0, none⟩ = some (.int .u64 a.lo.toNat) := by rw [cell_at BA2.out]; rfl
  have x1w : w2.cell? ⟨N, 1, none⟩ = some (.int .u64 a.hi.toNat) := by rw [cell_at BA2.out]; rfl
  have x2w : w2.cell? ⟨N + 1, 0, none⟩ = some (.int .u64 b.lo.toNat) := by rw [cell_at BB2.out]; rfl
  have x3w : w2.cell? ⟨N + 1, 1, none⟩ = some (.int .u64 b.hi.toNat) := by rw [cell_at BB2.out]; rfl
  have x0 : ∀ {ops : Array Oper} {F : Tmp → Value → World → Prop} {o : Oper} {D : List (Tmp × Value)} (x : AtF (KeepsN w2) F ops o D), x.w.cell? ⟨N, 0, none⟩ = some (.int .u64 a.lo.toNat) := fun x => AtF.cell x0w x
  have x1 : ∀ {ops : Array Oper} {F : Tmp → Value → World → Prop} {o : Oper} {D : List (Tmp × Value)} (x : AtF (KeepsN w2) F ops o D), x.w.cell? ⟨N, 1, none⟩ = some (.int .u64 a.hi.toNat) := fun x => AtF.cell x1w x
  have x2 : ∀ {ops : Array Oper} {F : Tmp → Value → World → Prop} {o : Oper} {D : List (Tmp × Value)} (x : AtF (KeepsN w2) F ops o D), x.w.cell? ⟨N + 1, 0, none⟩ = some (.int .u64 b.lo.toNat) := fun x => AtF.cell x2w x
  have x3 : ∀ {ops : Array Oper} {F : Tmp → Value → World → Prop} {o : Oper} {D : List (Tmp × Value)} (x : AtF (KeepsN w2) F ops o D), x.w.cell? ⟨N + 1, 1, none⟩ = some (.int .u64 b.hi.toNat) := fun x => AtF.cell x3w x
  clear x0w x1w x2w x3w
  refine wp_region_K [(15, fun v w => RdV w v (IV (memI a))), (16, fun v _ => v = .bool true), (20, fun v _ => v = (a.or b).val), (23, fun v w => RdV w v (IV (memI (a.or b)))), (24, fun v _ => v = .bool true), (29, fun v _ => v = (a.and b).val), (32, fun v w => RdV w v (IV (memI (a.and b)))), (33, fun v _ => v = .bool true), (38, fun v _ => v = (a.less b).val), (41, fun v w => RdV w v (IV (memI (a.less b)))), (42, fun v _ => v = .bool true), (47, fun v _ => v = .bool true), (50, fun v w => RdV w v (IV (memI (a.less b))))] ?_ (by kernel_rfl) (by kernel_rfl) ?_
  · intro p hp
    simp only [List.mem_cons, List.not_mem_nil, or_false] at hp
    rcases hp with rfl | rfl | rfl | rfl | rfl | rfl | rfl | rfl | rfl | rfl | rfl | rfl | rfl <;> first | exact Stays.pure _ | exact fun v w w' h hk => RdV.keeps h hk
  repeat (first | (refine wpF_skip rfl ?_) | (refine wpF_plain rfl rfl rfl ?_; intro ne K hK; go_big_quiet_op; go_big_quiet_on; clear ne))
  refine wpF_call rfl rfl ?_ ?_
  · intro x hx hf
    refine gives_hide (fun R hR => ?_)
    clear x0 x1 x2 x3
    go_simp
    refine (refOf_any (memI a) _ _ (RP.out.keeps hx)).mono ?_
    intro e w' ho
    obtain ⟨v, rfl, hk, hr⟩ := OwnI.rd ho
    rw [← m_self] at hr
    exact ⟨_, rfl, hR _ _ ⟨hk, hr⟩⟩
  rintro r15 ⟨y, hy, hF⟩
  clear hy hF y
  simp only [Act.put, List.setIfInBounds_toArray, List.set_cons_succ, List.set_cons_zero]
  repeat (first | (refine wpF_skip rfl ?_) | (refine wpF_plain rfl rfl rfl ?_; intro ne K hK; go_big_quiet_op; go_big_quiet_on; clear ne))
  refine wpF_call rfl rfl ?_ ?_
  · intro x hx hf
    refine gives_hide (fun R hR => ?_)
    clear x0 x1 x2 x3
    have hv : RdV x r15 (IV (memI a)) := hf (15, r15) (by simp) (of_decide_eq_true (by kernel_rfl))
    have HV := Lib.hid hv
    clear hv
    go_simp
    refine (is_own a _ _ (GT.out.keeps (K2.out.trans hx)) HV.out).mono ?_
    rintro e w' ⟨rfl, hk⟩
    exact ⟨_, rfl, hR _ _ ⟨hk, rfl⟩⟩
  rintro v ⟨y, hy, hF⟩
  obtain rfl : v = .bool true := hF (16, v) List.mem_cons_self
  clear hy hF y
  simp only [Act.put, List.setIfInBounds_toArray, List.set_cons_succ, List.set_cons_zero]
  repeat (first | (refine wpF_skip rfl ?_) | (refine wpF_plain rfl rfl rfl ?_; intro ne K hK; go_big_quiet_op; go_big_quiet_on; clear ne))
  refine wpF_call rfl rfl ?_ ?_
  · intro x hx hf
    refine gives_hide (fun R hR => ?_)
    clear x0 x1 x2 x3
    go_simp
    refine (or_any a b _).mono ?_
    rintro e w' ⟨rfl, hk⟩
    exact ⟨_, rfl, hR _ _ ⟨hk, rfl⟩⟩
  rintro v ⟨y, hy, hF⟩
  obtain rfl : v = (a.or b).val := hF (20, v) List.mem_cons_self
  clear hy hF y
  simp only [Act.put, List.setIfInBounds_toArray, List.set_cons_succ, List.set_cons_zero]
  repeat (first | (refine wpF_skip rfl ?_) | (refine wpF_plain rfl rfl rfl ?_; intro ne K hK; go_big_quiet_op; go_big_quiet_on; clear ne))
  refine wpF_call rfl rfl ?_ ?_
  · intro x hx hf
    refine gives_hide (fun R hR => ?_)
    clear x0 x1 x2 x3
    go_simp
    refine (refOr_any (memI a) (memI b) _ _ _ (RP.out.keeps hx) (RQ.out.keeps hx) (by have := MA.out; omega) (by have := MB.out; omega)).mono ?_
    intro e w' ho
    obtain ⟨v, rfl, hk, hr⟩ := OwnI.rd ho
    rw [← m_or] at hr
    exact ⟨_, rfl, hR _ _ ⟨hk, hr⟩⟩
  rintro r23 ⟨y, hy, hF⟩
  clear hy hF y
  simp only [Act.put, List.setIfInBounds_toArray, List.set_cons_succ, List.set_cons_zero]
  repeat (first | (refine wpF_skip rfl ?_) | (refine wpF_plain rfl rfl rfl ?_; intro ne K hK; go_big_quiet_op; go_big_quiet_on; clear ne))
  refine wpF_call rfl rfl ?_ ?_
  · intro x hx hf
    refine gives_hide (fun R hR => ?_)
    clear x0 x1 x2 x3
    have hv : RdV x r23 (IV (memI (a.or b))) := hf (23, r23) (by simp) (of_decide_eq_true (by kernel_rfl))
    have HV := Lib.hid hv
    clear hv
    go_simp
    refine (is_own (a.or b) _ _ (GT.out.keeps (K2.out.trans hx)) HV.out).mono ?_
    rintro e w' ⟨rfl, hk⟩
    exact ⟨_, rfl, hR _ _ ⟨hk, rfl⟩⟩
  rintro v ⟨y, hy, hF⟩
  obtain rfl : v = .bool true := hF (24, v) List.mem_cons_self
  clear hy hF y
  simp only [Act.put, List.setIfInBounds_toArray, List.set_cons_succ, List.set_cons_zero]
  repeat (first | (refine wpF_skip rfl ?_) | (refine wpF_plain rfl rfl rfl ?_; intro ne K hK; go_big_quiet_op; go_big_quiet_on; clear ne))
  refine wpF_call rfl rfl ?_ ?_
  · intro x hx hf
    refine gives_hide (fun R hR => ?_)
    clear x0 x1 x2 x3
    go_simp
    refine (and_any a b _).mono ?_
    rintro e w' ⟨rfl, hk⟩
    exact ⟨_, rfl, hR _ _ ⟨hk, rfl⟩⟩
  rintro v ⟨y, hy, hF⟩
  obtain rfl : v = (a.and b).val := hF (29, v) List.mem_cons_self
  clear hy hF y
  simp only [Act.put, List.setIfInBounds_toArray, List.set_cons_succ, List.set_cons_zero]
  repeat (first | (refine wpF_skip rfl ?_) | (refine wpF_plain rfl rfl rfl ?_; intro ne K hK; go_big_quiet_op; go_big_quiet_on; clear ne))
  refine wpF_call rfl rfl ?_ ?_
  · intro x hx hf
    refine gives_hide (fun R hR => ?_)
    clear x0 x1 x2 x3
    go_simp
    refine (refAnd_any (memI a) (memI b) _ _ _ (RP.out.keeps hx) (RQ.out.keeps hx) (by have := MA.out; omega)).mono ?_
    intro e w' ho
    obtain ⟨v, rfl, hk, hr⟩ := OwnI.rd ho
    rw [← m_and] at hr
    exact ⟨_, rfl, hR _ _ ⟨hk, hr⟩⟩
  rintro r32 ⟨y, hy, hF⟩
  clear hy hF y
  simp only [Act.put, List.setIfInBounds_toArray, List.set_cons_succ, List.set_cons_zero]
  repeat (first | (refine wpF_skip rfl ?_) | (refine wpF_plain rfl rfl rfl ?_; intro ne K hK; go_big_quiet_op; go_big_quiet_on; clear ne))
  refine wpF_call rfl rfl ?_ ?_
  · intro x hx hf
    refine gives_hide (fun R hR => ?_)
    clear x0 x1 x2 x3
    have hv : RdV x r32 (IV (memI (a.and b))) := hf (32, r32) (by simp) (of_decide_eq_true (by kernel_rfl))
    have HV := Lib.hid hv
    clear hv
    go_simp
    refine (is_own (a.and b) _ _ (GT.out.keeps (K2.out.trans hx)) HV.out).mono ?_
    rintro e w' ⟨rfl, hk⟩
    exact ⟨_, rfl, hR _ _ ⟨hk, rfl⟩⟩
  rintro v ⟨y, hy, hF⟩
  obtain rfl : v = .bool true := hF (33, v) List.mem_cons_self
  clear hy hF y
  simp only [Act.put, List.setIfInBounds_toArray, List.set_cons_succ, List.set_cons_zero]
  repeat (first | (refine wpF_skip rfl ?_) | (refine wpF_plain rfl rfl rfl ?_; intro ne K hK; go_big_quiet_op; go_big_quiet_on; clear ne))
  refine wpF_call rfl rfl ?_ ?_
  · intro x hx hf
    refine gives_hide (fun R hR => ?_)
    clear x0 x1 x2 x3
    go_simp
    refine (less_any a b _).mono ?_
    rintro e w' ⟨rfl, hk⟩
    exact ⟨_, rfl, hR _ _ ⟨hk, rfl⟩⟩
  rintro v ⟨y, hy, hF⟩
  obtain rfl : v = (a.less b).val := hF (38, v) List.mem_cons_self
  clear hy hF y
  simp only [Act.put, List.setIfInBounds_toArray, List.set_cons_succ, List.set_cons_zero]
  repeat (first | (refine wpF_skip rfl ?_) | (refine wpF_plain rfl rfl rfl ?_; intro ne K hK; go_big_quiet_op; go_big_quiet_on; clear ne))
  refine wpF_call rfl rfl ?_ ?_
  · intro x hx hf
    refine gives_hide (fun R hR => ?_)
    clear x0 x1 x2 x3
    go_simp
    refine (refLess_any (memI a) (memI b) _ _ _ (RP.out.keeps hx) (RQ.out.keeps hx) (by have := MA.out; omega)).mono ?_
    intro e w' ho
    obtain ⟨v, rfl, hk, hr⟩ := OwnI.rd ho
    rw [← m_less] at hr
    exact ⟨_, rfl, hR _ _ ⟨hk, hr⟩⟩
  rintro r41 ⟨y, hy, hF⟩
  clear hy hF y
  simp only [Act.put, List.setIfInBounds_toArray, List.set_cons_succ, List.set_cons_zero]
  repeat (first | (refine wpF_skip rfl ?_) | (refine wpF_plain rfl rfl rfl ?_; intro ne K hK; go_big_quiet_op; go_big_quiet_on; clear ne))
  refine wpF_call rfl rfl ?_ ?_
  · intro x hx hf
    refine gives_hide (fun R hR => ?_)
    clear x0 x1 x2 x3
    have hv : RdV x r41 (IV (memI (a.less b))) := hf (41, r41) (by simp) (of_decide_eq_true (by kernel_rfl))
    have HV := Lib.hid hv
    clear hv
    go_simp
    refine (is_own (a.less b) _ _ (GT.out.keeps (K2.out.trans hx)) HV.out).mono ?_
    rintro e w' ⟨rfl, hk⟩
    exact ⟨_, rfl, hR _ _ ⟨hk, rfl⟩⟩
  rintro v ⟨y, hy, hF⟩
  obtain rfl : v = .bool true := hF (42, v) List.mem_cons_self
  clear hy hF y
  simp only [Act.put, List.setIfInBounds_toArray, List.set_cons_succ, List.set_cons_zero]
  repeat (first | (refine wpF_skip rfl ?_) | (refine wpF_plain rfl rfl rfl ?_; intro ne K hK; go_big_quiet_op; go_big_quiet_on; clear ne))
  refine wpF_call rfl rfl ?_ ?_
  · intro x hx hf
    refine gives_hide (fun R hR => ?_)
    clear x0 x1 x2 x3
    go_simp
    refine (under_any a b _).mono ?_
    rintro e w' ⟨rfl, hk⟩
    rw [HX.out]
    exact ⟨_, rfl, hR _ _ ⟨hk, rfl⟩⟩
  rintro v ⟨y, hy, hF⟩
  obtain rfl : v = .bool true := hF (47, v) List.mem_cons_self
  clear hy hF y
  simp only [Act.put, List.setIfInBounds_toArray, List.set_cons_succ, List.set_cons_zero]
  repeat (first | (refine wpF_skip rfl ?_) | (refine wpF_plain rfl rfl rfl ?_; intro ne K hK; go_big_quiet_op; go_big_quiet_on; clear ne))
  refine wpF_call rfl rfl ?_ ?_
  · intro x hx hf
    refine gives_hide (fun R hR => ?_)
    clear x0 x1 x2 x3
    go_simp
    refine (refLess_any (memI a) (memI b) _ _ _ (RP.out.keeps hx) (RQ.out.keeps hx) (by have := MA.out; omega)).mono ?_
    intro e w' ho
    obtain ⟨v, rfl, hk, hr⟩ := OwnI.rd ho
    rw [← m_less] at hr
    exact ⟨_, rfl, hR _ _ ⟨hk, hr⟩⟩
  rintro r50 ⟨y, hy, hF⟩
  have h50 : RdV y r50 (IV (memI (a.less b))) := hF (50, r50) List.mem_cons_self
  obtain ⟨ad, cp, e50, _, _⟩ := h50.form
  rw [IV_len, HN.out] at e50
  subst e50
  clear hy hF h50
  simp only [Act.put, List.setIfInBounds_toArray, List.set_cons_succ, List.set_cons_zero]
  repeat (first | (refine wpF_skip rfl ?_) | (refine wpF_plain rfl rfl rfl ?_; intro ne K hK; go_big_quiet_op; go_big_quiet_on; clear ne))
  refine wpF_nil ?_
  intro w' hw' hF
  have KF : Hid (Keeps w w' (fun _ => False)) := Lib.hid (K2.out.trans hw')
  clear hw' hF x0 x1 x2 x3 hfold
  go_wp2
  go_ret
  exact ⟨rfl, KF.out⟩
set_option maxRecDepth 20000 in
set_option maxHeartbeats 16000000 in
theorem walk_false (a b : BSet) (w : World) (hT : TabOk w) (hX : (a.less b).isEmpty = false) :
    Calls Tryd.prog 8 #[a.val, b.val] w fun e w' => e = .returned (.bool true) ∧ Keeps w w' (fun _ => False) := by
  have GT := Lib.hid hT
  have HX := Lib.hid hX
  obtain ⟨n, hn⟩ : ∃ n, (memI (a.less b)).length = n := ⟨_, rfl⟩
  have hq : ((n : Int) == 0) = false := by
    have h := isEmpty_len (a.less b)
    rw [hX, ← memI_len, hn] at h
    rw [beq_eq_false_iff_ne]; have := of_decide_eq_false h.symm; omega
  skip
  have HN := Lib.hid hn
  have hfold : ∀ s : BSet, (Value.agg #[.int .u64 s.lo.toNat, .int .u64 s.hi.toNat]) = s.val := fun _ => rfl
  have Hf := Lib.hid hfold
  have MA := Lib.hid (memI_len128 a)
  have MB := Lib.hid (memI_len128 b)
  have HQ := Lib.hid hq
  clear hq
  clear hT hX hn hfold
  unfold BSet.val
  go_enter Tryd.func8, Tryd.ntmps8
  go_wp2_with fail
  refine (awake07 _ (GT.out.keeps (((Keeps.refl _ _).alloc _).alloc _))).mono ?_
  rintro e w1 ⟨rfl, k1⟩
  have K1 : Hid (Keeps w w1 (fun _ => False)) := Lib.hid ((((Keeps.refl _ _).alloc _).alloc _).trans k1)
  have e0 : (w.alloc (.cells #[.int .u64 a.lo.toNat, .int .u64 a.hi.toNat] 24)).heap.size = w.heap.size + 1 := by simp
  have BA : Hid (w1.heap[w.heap.size]? = some (.cells a.cells 24 (0, 0))) := Lib.hid ((k1.block _ (by simp; omega) id).trans ((Below.heap_alloc _ _ _ (by simp)).trans (heap_alloc_new w _)))
  have BB : Hid (w1.heap[w.heap.size + 1]? = some (.cells b.cells 24 (0, 0))) := Lib.hid ((k1.block _ (by simp) id).trans (by
    have h := heap_alloc_new (w.alloc (.cells #[.int .u64 a.lo.toNat, .int .u64 a.hi.toNat] 24)) (.cells #[.int .u64 b.lo.toNat, .int .u64 b.hi.toNat] 24)
    rw [e0] at h; exact h))
  clear k1 e0
  generalize w.heap.size = N at *
  go_wp2_with fail
  obtain ⟨W, hW⟩ : ∃ W, w1 = W := ⟨_, rfl⟩
  subst hW
  have hfold := Hf.out
  have x0w : w1.cell? ⟨N, 0, none⟩ = some (.int .u64 a.lo.toNat) := by rw [cell_at BA.out]; rfl
  have x1w : w1.cell? ⟨N, 1, none⟩ = some (.int .u64 a.hi.toNat) := by rw [cell_at BA.out]; rfl
  have x2w : w1.cell? ⟨N + 1, 0, none⟩ = some (.int .u64 b.lo.toNat) := by rw [cell_at BB.out]; rfl
  have x3w : w1.cell? ⟨N + 1, 1, none⟩ = some (.int .u64 b.hi.toNat) := by rw [cell_at BB.out]; rfl
  have x0 : ∀ {ops : Array Oper} {F : Tmp → Value → World → Prop} {o : Oper} {D : List (Tmp × Value)} (x : AtF (KeepsN w1) F ops o D), x.w.cell? ⟨N, 0, none⟩ = some (.int .u64 a.lo.toNat) := fun x => AtF.cell x0w x
  have x1 : ∀ {ops : Array Oper} {F : Tmp → Value → World → Prop} {o : Oper} {D : List (Tmp × Value)} (x : AtF (KeepsN w1) F ops o D), x.w.cell? ⟨N, 1, none⟩ = some (.int .u64 a.hi.toNat) := fun x => AtF.cell x1w x
  have x2 : ∀ {ops : Array Oper} {F : Tmp → Value → World → Prop} {o : Oper} {D : List (Tmp × Value)} (x : AtF (KeepsN w1) F ops o D), x.w.cell? ⟨N + 1, 0, none⟩ = some (.int .u64 b.lo.toNat) := fun x => AtF.cell x2w x
  have x3 : ∀ {ops : Array Oper} {F : Tmp → Value → World → Prop} {o : Oper} {D : List (Tmp × Value)} (x : AtF (KeepsN w1) F ops o D), x.w.cell? ⟨N + 1, 1, none⟩ = some (.int .u64 b.hi.toNat) := fun x => AtF.cell x3w x
  clear x0w x1w x2w x3w
  refine wp_region_K [(10, fun v w => RdV w v (IV (memI a))), (12, fun v w => RdV w v (IV (memI b)))] ?_ (by kernel_rfl) (by kernel_rfl) ?_
  · intro p hp
    simp only [List.mem_cons, List.not_mem_nil, or_false] at hp
    rcases hp with rfl | rfl <;> exact fun v w w' h hk => RdV.keeps h hk
  repeat (first | (refine wpF_skip rfl ?_) | (refine wpF_plain rfl rfl rfl ?_; intro ne K hK; go_big_quiet_op; go_big_quiet_on; clear ne))
  refine wpF_call rfl rfl ?_ ?_
  · intro x hx hf
    refine gives_hide (fun R hR => ?_)
    clear x0 x1 x2 x3
    go_simp
    refine (list_any a x (GT.out.keeps (K1.out.trans hx))).mono ?_
    intro e w' ho
    obtain ⟨v, rfl, hk, hr⟩ := OwnI.rd ho
    skip
    exact ⟨_, rfl, hR _ _ ⟨hk, hr⟩⟩
  rintro p ⟨y, hy, hF⟩
  clear hy hF y
  simp only [Act.put, List.setIfInBounds_toArray, List.set_cons_succ, List.set_cons_zero]
  repeat (first | (refine wpF_skip rfl ?_) | (refine wpF_plain rfl rfl rfl ?_; intro ne K hK; go_big_quiet_op; go_big_quiet_on; clear ne))
  refine wpF_call rfl rfl ?_ ?_
  · intro x hx hf
    refine gives_hide (fun R hR => ?_)
    clear x0 x1 x2 x3
    go_simp
    refine (list_any b x (GT.out.keeps (K1.out.trans hx))).mono ?_
    intro e w' ho
    obtain ⟨v, rfl, hk, hr⟩ := OwnI.rd ho
    skip
    exact ⟨_, rfl, hR _ _ ⟨hk, hr⟩⟩
  rintro q ⟨y, hy, hF⟩
  clear hy hF y
  simp only [Act.put, List.setIfInBounds_toArray, List.set_cons_succ, List.set_cons_zero]
  repeat (first | (refine wpF_skip rfl ?_) | (refine wpF_plain rfl rfl rfl ?_; intro ne K hK; go_big_quiet_op; go_big_quiet_on; clear ne))
  refine wpF_nil ?_
  intro w2 hw2 hF
  have RP : Hid (RdV w2 p (IV (memI a))) := Lib.hid (hF (10, p) (by simp))
  have RQ : Hid (RdV w2 q (IV (memI b))) := Lib.hid (hF (12, q) (by simp))
  have K2 : Hid (Keeps w w2 (fun _ => False)) := Lib.hid (K1.out.trans hw2)
  have BA2 := Lib.hid ((Keeps.block hw2 _ (block_lt BA.out) id).trans BA.out)
  have BB2 := Lib.hid ((Keeps.block hw2 _ (block_lt BB.out) id).trans BB.out)
  clear hw2 hF BA BB K1 x0 x1 x2 x3 hfold
  go_wp2_with fail
  have hfold := Hf.out
  have x0w : w2.cell? ⟨N, 0, none⟩ = some (.int .u64 a.lo.toNat) := by rw [cell_at BA2.out]; rfl
  have x1w : w2.cell? ⟨N, 1, none⟩ = some (.int .u64 a.hi.toNat) := by rw [cell_at BA2.out]; rfl
  have x2w : w2.cell? ⟨N + 1, 0, none⟩ = some (.int .u64 b.lo.toNat) := by rw [cell_at BB2.out]; rfl
  have x3w : w2.cell? ⟨N + 1, 1, none⟩ = some (.int .u64 b.hi.toNat) := by rw [cell_at BB2.out]; rfl
  have x0 : ∀ {ops : Array Oper} {F : Tmp → Value → World → Prop} {o : Oper} {D : List (Tmp × Value)} (x : AtF (KeepsN w2) F ops o D), x.w.cell? ⟨N, 0, none⟩ = some (.int .u64 a.lo.toNat) := fun x => AtF.cell x0w x
  have x1 : ∀ {ops : Array Oper} {F : Tmp → Value → World → Prop} {o : Oper} {D : List (Tmp × Value)} (x : AtF (KeepsN w2) F ops o D), x.w.cell? ⟨N, 1, none⟩ = some (.int .u64 a.hi.toNat) := fun x => AtF.cell x1w x
  have x2 : ∀ {ops : Array Oper} {F : Tmp → Value → World → Prop} {o : Oper} {D : List (Tmp × Value)} (x : AtF (KeepsN w2) F ops o D), x.w.cell? ⟨N + 1, 0, none⟩ = some (.int .u64 b.lo.toNat) := fun x => AtF.cell x2w x
  have x3 : ∀ {ops : Array Oper} {F : Tmp → Value → World → Prop} {o : Oper} {D : List (Tmp × Value)} (x : AtF (KeepsN w2) F ops o D), x.w.cell? ⟨N + 1, 1, none⟩ = some (.int .u64 b.hi.toNat) := fun x => AtF.cell x3w x
  clear x0w x1w x2w x3w
  refine wp_region_K [(15, fun v w => RdV w v (IV (memI a))), (16, fun v _ => v = .bool true), (20, fun v _ => v = (a.or b).val), (23, fun v w => RdV w v (IV (memI (a.or b)))), (24, fun v _ => v = .bool true), (29, fun v _ => v = (a.and b).val), (32, fun v w => RdV w v (IV (memI (a.and b)))), (33, fun v _ => v = .bool true), (38, fun v _ => v = (a.less b).val), (41, fun v w => RdV w v (IV (memI (a.less b)))), (42, fun v _ => v = .bool true), (47, fun v _ => v = .bool false), (50, fun v w => RdV w v (IV (memI (a.less b))))] ?_ (by kernel_rfl) (by kernel_rfl) ?_
  · intro p hp
    simp only [List.mem_cons, List.not_mem_nil, or_false] at hp
    rcases hp with rfl | rfl | rfl | rfl | rfl | rfl | rfl | rfl | rfl | rfl | rfl | rfl | rfl <;> first | exact Stays.pure _ | exact fun v w w' h hk => RdV.keeps h hk
  repeat (first | (refine wpF_skip rfl ?_) | (refine wpF_plain rfl rfl rfl ?_; intro ne K hK; go_big_quiet_op; go_big_quiet_on; clear ne))
  refine wpF_call rfl rfl ?_ ?_
  · intro x hx hf
    refine gives_hide (fun R hR => ?_)
    clear x0 x1 x2 x3
    go_simp
    refine (refOf_any (memI a) _ _ (RP.out.keeps hx)).mono ?_
    intro e w' ho
    obtain ⟨v, rfl, hk, hr⟩ := OwnI.rd ho
    rw [← m_self] at hr
    exact ⟨_, rfl, hR _ _ ⟨hk, hr⟩⟩
  rintro r15 ⟨y, hy, hF⟩
  clear hy hF y
  simp only [Act.put, List.setIfInBounds_toArray, List.set_cons_succ, List.set_cons_zero]
  repeat (first | (refine wpF_skip rfl ?_) | (refine wpF_plain rfl rfl rfl ?_; intro ne K hK; go_big_quiet_op; go_big_quiet_on; clear ne))
  refine wpF_call rfl rfl ?_ ?_
  · intro x hx hf
    refine gives_hide (fun R hR => ?_)
    clear x0 x1 x2 x3
    have hv : RdV x r15 (IV (memI a)) := hf (15, r15) (by simp) (of_decide_eq_true (by kernel_rfl))
    have HV := Lib.hid hv
    clear hv
    go_simp
    refine (is_own a _ _ (GT.out.keeps (K2.out.trans hx)) HV.out).mono ?_
    rintro e w' ⟨rfl, hk⟩
    exact ⟨_, rfl, hR _ _ ⟨hk, rfl⟩⟩
  rintro v ⟨y, hy, hF⟩
  obtain rfl : v = .bool true := hF (16, v) List.mem_cons_self
  clear hy hF y
  simp only [Act.put, List.setIfInBounds_toArray, List.set_cons_succ, List.set_cons_zero]
  repeat (first | (refine wpF_skip rfl ?_) | (refine wpF_plain rfl rfl rfl ?_; intro ne K hK; go_big_quiet_op; go_big_quiet_on; clear ne))
  refine wpF_call rfl rfl ?_ ?_
  · intro x hx hf
    refine gives_hide (fun R hR => ?_)
    clear x0 x1 x2 x3
    go_simp
    refine (or_any a b _).mono ?_
    rintro e w' ⟨rfl, hk⟩
    exact ⟨_, rfl, hR _ _ ⟨hk, rfl⟩⟩
  rintro v ⟨y, hy, hF⟩
  obtain rfl : v = (a.or b).val := hF (20, v) List.mem_cons_self
  clear hy hF y
  simp only [Act.put, List.setIfInBounds_toArray, List.set_cons_succ, List.set_cons_zero]
  repeat (first | (refine wpF_skip rfl ?_) | (refine wpF_plain rfl rfl rfl ?_; intro ne K hK; go_big_quiet_op; go_big_quiet_on; clear ne))
  refine wpF_call rfl rfl ?_ ?_
  · intro x hx hf
    refine gives_hide (fun R hR => ?_)
    clear x0 x1 x2 x3
    go_simp
    refine (refOr_any (memI a) (memI b) _ _ _ (RP.out.keeps hx) (RQ.out.keeps hx) (by have := MA.out; omega) (by have := MB.out; omega)).mono ?_
    intro e w' ho
    obtain ⟨v, rfl, hk, hr⟩ := OwnI.rd ho
    rw [← m_or] at hr
    exact ⟨_, rfl, hR _ _ ⟨hk, hr⟩⟩
  rintro r23 ⟨y, hy, hF⟩
  clear hy hF y
  simp only [Act.put, List.setIfInBounds_toArray, List.set_cons_succ, List.set_cons_zero]
  repeat (first | (refine wpF_skip rfl ?_) | (refine wpF_plain rfl rfl rfl ?_; intro ne K hK; go_big_quiet_op; go_big_quiet_on; clear ne))
  refine wpF_call rfl rfl ?_ ?_
  · intro x hx hf
    refine gives_hide (fun R hR => ?_)
    clear x0 x1 x2 x3
    have hv : RdV x r23 (IV (memI (a.or b))) := hf (23, r23) (by simp) (of_decide_eq_true (by kernel_rfl))
    have HV := Lib.hid hv
    clear hv
    go_simp
    refine (is_own (a.or b) _ _ (GT.out.keeps (K2.out.trans hx)) HV.out).mono ?_
    rintro e w' ⟨rfl, hk⟩
    exact ⟨_, rfl, hR _ _ ⟨hk, rfl⟩⟩
  rintro v ⟨y, hy, hF⟩
  obtain rfl : v = .bool true := hF (24, v) List.mem_cons_self
  clear hy hF y
  simp only [Act.put, List.setIfInBounds_toArray, List.set_cons_succ, List.set_cons_zero]
  repeat (first | (refine wpF_skip rfl ?_) | (refine wpF_plain rfl rfl rfl ?_; intro ne K hK; go_big_quiet_op; go_big_quiet_on; clear ne))
  refine wpF_call rfl rfl ?_ ?_
  · intro x hx hf
    refine gives_hide (fun R hR => ?_)
    clear x0 x1 x2 x3
    go_simp
    refine (and_any a b _).mono ?_
    rintro e w' ⟨rfl, hk⟩
    exact ⟨_, rfl, hR _ _ ⟨hk, rfl⟩⟩
  rintro v ⟨y, hy, hF⟩
  obtain rfl : v = (a.and b).val := hF (29, v) List.mem_cons_self
  clear hy hF y
  simp only [Act.put, List.setIfInBounds_toArray, List.set_cons_succ, List.set_cons_zero]
  repeat (first | (refine wpF_skip rfl ?_) | (refine wpF_plain rfl rfl rfl ?_; intro ne K hK; go_big_quiet_op; go_big_quiet_on; clear ne))
  refine wpF_call rfl rfl ?_ ?_
  · intro x hx hf
    refine gives_hide (fun R hR => ?_)
    clear x0 x1 x2 x3
    go_simp
    refine (refAnd_any (memI a) (memI b) _ _ _ (RP.out.keeps hx) (RQ.out.keeps hx) (by have := MA.out; omega)).mono ?_
    intro e w' ho
    obtain ⟨v, rfl, hk, hr⟩ := OwnI.rd ho
    rw [← m_and] at hr
    exact ⟨_, rfl, hR _ _ ⟨hk, hr⟩⟩
  rintro r32 ⟨y, hy, hF⟩
  clear hy hF y
  simp only [Act.put, List.setIfInBounds_toArray, List.set_cons_succ, List.set_cons_zero]
  repeat (first | (refine wpF_skip rfl ?_) | (refine wpF_plain rfl rfl rfl ?_; intro ne K hK; go_big_quiet_op; go_big_quiet_on; clear ne))
  refine wpF_call rfl rfl ?_ ?_
  · intro x hx hf
    refine gives_hide (fun R hR => ?_)
    clear x0 x1 x2 x3
    have hv : RdV x r32 (IV (memI (a.and b))) := hf (32, r32) (by simp) (of_decide_eq_true (by kernel_rfl))
    have HV := Lib.hid hv
    clear hv
    go_simp
    refine (is_own (a.and b) _ _ (GT.out.keeps (K2.out.trans hx)) HV.out).mono ?_
    rintro e w' ⟨rfl, hk⟩
    exact ⟨_, rfl, hR _ _ ⟨hk, rfl⟩⟩
  rintro v ⟨y, hy, hF⟩
  obtain rfl : v = .bool true := hF (33, v) List.mem_cons_self
  clear hy hF y
  simp only [Act.put, List.setIfInBounds_toArray, List.set_cons_succ, List.set_cons_zero]
  repeat (first | (refine wpF_skip rfl ?_) | (refine wpF_plain rfl rfl rfl ?_; intro ne K hK; go_big_quiet_op; go_big_quiet_on; clear ne))
  refine wpF_call rfl rfl ?_ ?_
  · intro x hx hf
    refine gives_hide (fun R hR => ?_)
    clear x0 x1 x2 x3
    go_simp
    refine (less_any a b _).mono ?_
    rintro e w' ⟨rfl, hk⟩
    exact ⟨_, rfl, hR _ _ ⟨hk, rfl⟩⟩
  rintro v ⟨y, hy, hF⟩
  obtain rfl : v = (a.less b).val := hF (38, v) List.mem_cons_self
  clear hy hF y
  simp only [Act.put, List.setIfInBounds_toArray, List.set_cons_succ, List.set_cons_zero]
  repeat (first | (refine wpF_skip rfl ?_) | (refine wpF_plain rfl rfl rfl ?_; intro ne K hK; go_big_quiet_op; go_big_quiet_on; clear ne))
  refine wpF_call rfl rfl ?_ ?_
  · intro x hx hf
    refine gives_hide (fun R hR => ?_)
    clear x0 x1 x2 x3
    go_simp
    refine (refLess_any (memI a) (memI b) _ _ _ (RP.out.keeps hx) (RQ.out.keeps hx) (by have := MA.out; omega)).mono ?_
    intro e w' ho
    obtain ⟨v, rfl, hk, hr⟩ := OwnI.rd ho
    rw [← m_less] at hr
    exact ⟨_, rfl, hR _ _ ⟨hk, hr⟩⟩
  rintro r41 ⟨y, hy, hF⟩
  clear hy hF y
  simp only [Act.put, List.setIfInBounds_toArray, List.set_cons_succ, List.set_cons_zero]
  repeat (first | (refine wpF_skip rfl ?_) | (refine wpF_plain rfl rfl rfl ?_; intro ne K hK; go_big_quiet_op; go_big_quiet_on; clear ne))
  refine wpF_call rfl rfl ?_ ?_
  · intro x hx hf
    refine gives_hide (fun R hR => ?_)
    clear x0 x1 x2 x3
    have hv : RdV x r41 (IV (memI (a.less b))) := hf (41, r41) (by simp) (of_decide_eq_true (by kernel_rfl))
    have HV := Lib.hid hv
    clear hv
    go_simp
    refine (is_own (a.less b) _ _ (GT.out.keeps (K2.out.trans hx)) HV.out).mono ?_
    rintro e w' ⟨rfl, hk⟩
    exact ⟨_, rfl, hR _ _ ⟨hk, rfl⟩⟩
  rintro v ⟨y, hy, hF⟩
  obtain rfl : v = .bool true := hF (42, v) List.mem_cons_self
  clear hy hF y
  simp only [Act.put, List.setIfInBounds_toArray, List.set_cons_succ, List.set_cons_zero]
  repeat (first | (refine wpF_skip rfl ?_) | (refine wpF_plain rfl rfl rfl ?_; intro ne K hK; go_big_quiet_op; go_big_quiet_on; clear ne))
  refine wpF_call rfl rfl ?_ ?_
  · intro x hx hf
    refine gives_hide (fun R hR => ?_)
    clear x0 x1 x2 x3
    go_simp
    refine (under_any a b _).mono ?_
    rintro e w' ⟨rfl, hk⟩
    rw [HX.out]
    exact ⟨_, rfl, hR _ _ ⟨hk, rfl⟩⟩
  rintro v ⟨y, hy, hF⟩
  obtain rfl : v = .bool false := hF (47, v) List.mem_cons_self
  clear hy hF y
  simp only [Act.put, List.setIfInBounds_toArray, List.set_cons_succ, List.set_cons_zero]
  repeat (first | (refine wpF_skip rfl ?_) | (refine wpF_plain rfl rfl rfl ?_; intro ne K hK; go_big_quiet_op; go_big_quiet_on; clear ne))
  refine wpF_call rfl rfl ?_ ?_
  · intro x hx hf
    refine gives_hide (fun R hR => ?_)
    clear x0 x1 x2 x3
    go_simp
    refine (refLess_any (memI a) (memI b) _ _ _ (RP.out.keeps hx) (RQ.out.keeps hx) (by have := MA.out; omega)).mono ?_
    intro e w' ho
    obtain ⟨v, rfl, hk, hr⟩ := OwnI.rd ho
    rw [← m_less] at hr
    exact ⟨_, rfl, hR _ _ ⟨hk, hr⟩⟩
  rintro r50 ⟨y, hy, hF⟩
  have h50 : RdV y r50 (IV (memI (a.less b))) := hF (50, r50) List.mem_cons_self
  obtain ⟨ad, cp, e50, _, _⟩ := h50.form
  rw [IV_len, HN.out] at e50
  subst e50
  clear hy hF h50
  simp only [Act.put, List.setIfInBounds_toArray, List.set_cons_succ, List.set_cons_zero]
  have hq := HQ.out
  repeat (first | (refine wpF_skip rfl ?_) | (refine wpF_plain rfl rfl rfl ?_; intro ne K hK; go_big_quiet_op; go_big_quiet_on; clear ne))
  refine wpF_nil ?_
  intro w' hw' hF
  have KF : Hid (Keeps w w' (fun _ => False)) := Lib.hid (K2.out.trans hw')
  clear hw' hF x0 x1 x2 x3 hfold
  go_wp2
  go_ret
  exact ⟨rfl, KF.out⟩
theorem walk (a b : BSet) (w : World) (hT : TabOk w) :
    Calls Tryd.prog 8 #[a.val, b.val] w fun e w' => e = .returned (.bool true) ∧ Keeps w w' (fun _ => False) := by
  cases h : (a.less b).isEmpty with
  | true => exact walk_true a b w hT h
  | false => exact walk_false a b w hT h
end Go.Proofs.YtmmoopikglbmbaaDoor.bitsJoins
