/- known.done: Swap and Push. (Printed by gen_ops12.py.) -/
import Derived.Test.YtdhcnmljkmodhaaDoorOps11
import Derived.Test.YtdhcnmljkmodhaaDoorRegionT
import Derived.Deep.DeepCutAuto
namespace Go.Proofs.YtdhcnmljkmodhaaDoor
set_option linter.unusedSectionVars false
set_option linter.unusedVariables false
set_option linter.unusedSimpArgs false
set_option maxRecDepth 20000
open Go.RowKit

/-- A set's own block. -/
def SetAt (w0 : World) (s : BSet) (v : Value) (w : World) : Prop := ∃ p : Nat, v = .pointer (some ⟨p, 0, none⟩) ∧ w0.heap.size ≤ p ∧ w.heap[p]? = some (.cells s.cells 57 (0, 0))
theorem SetAt.stays (w0 : World) (s : BSet) : Stays (SetAt w0 s) := fun v w w' ⟨p, h1, h2, h3⟩ hk => ⟨p, h1, h2, (Keeps.block hk _ (block_lt h3) id).trans h3⟩
/-- Two rows of sets, side by side. -/
def PairK (A B : List BSet) (v : Value) (w : World) : Prop := ∃ g v1 v2, v = .slice (some ⟨g, 0, none⟩) 2 2 ∧ w.cell? ⟨g, 0, none⟩ = some v1 ∧ RdK w v1 A ∧ w.cell? ⟨g, 1, none⟩ = some v2 ∧ RdK w v2 B
theorem PairK.stays (A B : List BSet) : Stays (PairK A B) := fun v w w' ⟨g, v1, v2, h1, h2, h3, h4, h5⟩ hk => ⟨g, v1, v2, h1,
  by rw [← h2]; exact World.cell?_of_block (Keeps.block hk _ (World.block_lt_of_cell? w _ h2) id), h3.keeps hk,
  by rw [← h4]; exact World.cell?_of_block (Keeps.block hk _ (World.block_lt_of_cell? w _ h4) id), h5.keeps hk⟩
theorem PairK.new {A B : List BSet} {x : World} {v1 v2 : Value} (t : TypeId) (h1 : RdK x v1 A) (h2 : RdK x v2 B) : PairK A B (.slice (some ⟨x.heap.size, 0, none⟩) 2 2) (x.alloc (.cells #[v1, v2] t)) := by
  have hb := heap_alloc_new x (.cells #[v1, v2] t)
  have k := (Keeps.refl x (fun _ => False)).alloc (.cells #[v1, v2] t)
  exact ⟨_, v1, v2, rfl, by rw [cell_at hb]; rfl, h1.keeps k, by rw [cell_at hb]; rfl, h2.keeps k⟩
theorem setC_one (l : List BSet) : ∀ u ∈ l.flatMap setC, u.oneCell' = true := fun u hu => by
  obtain ⟨a, _, ha⟩ := List.mem_flatMap.1 hu
  unfold setC at ha
  simp only [List.mem_cons, List.not_mem_nil, or_false] at ha
  rcases ha with rfl | rfl <;> rfl
theorem concatK (w : World) (A B : List BSet) (v : Value) (hl : A.length + B.length ≤ 1000) (H : PairK A B v w) :
    Calls Tryd.prog 46 #[v] w fun e w' => ∃ u, e = .returned u ∧ Keeps w w' (fun _ => False) ∧ RdK w' u (A ++ B) := by
  obtain ⟨g, v1, v2, rfl, h2, h3, h4, h5⟩ := H
  refine (concatKn w A.length B.length _ _ (setC_one A) (setC_one B) hl g v1 v2 h3 h5 h2 h4).mono ?_
  rintro e w' ⟨u, rfl, hk, hr⟩
  refine ⟨u, rfl, hk, ?_⟩
  unfold RdK
  rw [List.length_append, List.flatMap_append]
  exact hr
/-- A row of sets of its own. -/
theorem RdK.lit1 (w : World) (s : BSet) (t : TypeId) : RdK (w.alloc (.cells #[.int .u64 s.lo.toNat, .int .u64 s.hi.toNat] t)) (.slice (some ⟨w.heap.size, 0, none⟩) 1 1) [s] := by
  have hb := heap_alloc_new w (.cells #[.int .u64 s.lo.toNat, .int .u64 s.hi.toNat] t)
  refine ⟨rfl, _, _, rfl, Nat.le_refl _, by unfold maxLen; decide, (fun h => by cases h), fun _ => ⟨_, _, rfl, block_lt hb, fun j u hj => ?_⟩⟩
  rw [Nat.zero_add, cell_at hb, ← Array.getElem?_toList]
  exact hj
theorem RdK.lit2 (w : World) (s s2 : BSet) (t : TypeId) : RdK (w.alloc (.cells #[.int .u64 s.lo.toNat, .int .u64 s.hi.toNat, .int .u64 s2.lo.toNat, .int .u64 s2.hi.toNat] t)) (.slice (some ⟨w.heap.size, 0, none⟩) 2 2) [s, s2] := by
  have hb := heap_alloc_new w (.cells #[.int .u64 s.lo.toNat, .int .u64 s.hi.toNat, .int .u64 s2.lo.toNat, .int .u64 s2.hi.toNat] t)
  refine ⟨rfl, _, _, rfl, Nat.le_refl _, by unfold maxLen; decide, (fun h => by cases h), fun _ => ⟨_, _, rfl, block_lt hb, fun j u hj => ?_⟩⟩
  rw [Nat.zero_add, cell_at hb, ← Array.getElem?_toList]
  exact hj
/-- What is left of it behind the first, where there is nothing. -/
theorem RdK.rest1 {w : World} {a : Option Addr} {s : BSet} {r : List BSet} (h : RdK w (.slice a (s :: r).length 1) (s :: r)) : r = [] := by
  obtain ⟨a', cap, h1, h2, _⟩ := h.form
  simp only [Value.slice.injEq] at h1
  obtain ⟨_, _, rfl⟩ := h1
  simp only [List.length_cons] at h2
  exact List.eq_nil_of_length_eq_zero (by omega)

set_option maxHeartbeats 4000000 in
theorem done_swap (w : World) (v : Value) (s : BSet) (r : List BSet) (own : Int) (ho : ¬ own = 0) (hl : r.length ≤ 100) (H : RdK w v (s :: r)) :
    Calls Tryd.prog 32 #[v, .int .i64 own, .int .i64 2] w (DonePost w (doneL (s :: r) own 2)) := by
  obtain ⟨a, cap, rfl, hcp, hcm⟩ := H.form
  obtain ⟨g, off, rfl, hg, c0, c1⟩ := H.cell
  have GH := Lib.hid H
  have hq : (own == 0) = false := beq_eq_false_iff_ne.2 ho
  have HO := Lib.hid ho
  have C0 := Lib.hid c0
  have C1 := Lib.hid c1
  have x0 : ∀ {ops : Array Oper} {F : Tmp → Value → World → Prop} {o : Oper} {D : List (Tmp × Value)} (x : AtF (KeepsN w) F ops o D), x.w.cell? ⟨g, off, none⟩ = some (.int .u64 s.lo.toNat) := fun x => AtF.cell C0.out x
  have x1 : ∀ {ops : Array Oper} {F : Tmp → Value → World → Prop} {o : Oper} {D : List (Tmp × Value)} (x : AtF (KeepsN w) F ops o D), x.w.cell? ⟨g, off + 1, none⟩ = some (.int .u64 s.hi.toNat) := fun x => AtF.cell C1.out x
  clear H hcp hcm c0 c1 ho
  go_enter Tryd.func32, Tryd.ntmps32
  go_upto_region 12 with fail
  refine wp_region_KT 8 [(31, fun v w => ReadsI w v [own]), (32, fun v _ => v = (ofL [own]).val), (33, fun v _ => v = (s.and (ofL [own])).val), (10, SetAt w BSet.empty)] ?_ (by kernel_rfl) (by kernel_rfl) ?_
  · intro p hp
    simp only [List.mem_cons, List.not_mem_nil, or_false] at hp
    rcases hp with rfl | rfl | rfl | rfl
    · exact fun v w w' h hk => ReadsI.keeps h hk
    · exact Stays.pure _
    · exact Stays.pure _
    · exact SetAt.stays _ _
  simp only [List.take_succ_cons, List.take_zero, List.drop_succ_cons, List.drop_zero]
  repeat (first | (refine wpF_skip rfl ?_) | (refine wpF_plain rfl rfl rfl ?_; intro ne K hK; go_big_quiet_op; go_big_quiet_on; clear ne))
  refine wpF_call rfl rfl ?_ ?_
  · intro x hx hf
    refine gives_hide (fun R hR => ?_)
    clear x0 x1
    go_simp
    exact hR _ _ ⟨(Keeps.refl _ _).alloc _, ReadsI.lit x [own] 3 (by simp)⟩
  rintro v31 ⟨y, hy, hF⟩
  clear hy hF y
  simp only [Act.put, List.setIfInBounds_toArray, List.set_cons_succ, List.set_cons_zero]
  repeat (first | (refine wpF_skip rfl ?_) | (refine wpF_plain rfl rfl rfl ?_; intro ne K hK; go_big_quiet_op; go_big_quiet_on; clear ne))
  refine wpF_call rfl rfl ?_ ?_
  · intro x hx hf
    refine gives_hide (fun R hR => ?_)
    have hv : ReadsI x v31 [own] := hf (31, v31) (by simp) (of_decide_eq_true (by kernel_rfl))
    have HV := Lib.hid hv
    clear hv x0 x1
    go_simp
    refine (of_any _ _ [own] HV.out).mono ?_
    rintro e w' ⟨rfl, hk⟩
    exact ⟨_, rfl, hR _ _ ⟨hk, rfl⟩⟩
  rintro v32 ⟨y, hy, hF⟩
  obtain rfl : v32 = (ofL [own]).val := hF (32, v32) List.mem_cons_self
  clear hy hF y
  simp only [Act.put, List.setIfInBounds_toArray, List.set_cons_succ, List.set_cons_zero]
  repeat (first | (refine wpF_skip rfl ?_) | (refine wpF_plain rfl rfl rfl ?_; intro ne K hK; go_big_quiet_op; go_big_quiet_on; clear ne))
  refine wpF_call rfl rfl ?_ ?_
  · intro x hx hf
    refine gives_hide (fun R hR => ?_)
    clear x0 x1
    go_simp
    refine (and_any _ _ _).mono ?_
    rintro e w' ⟨rfl, hk⟩
    exact ⟨_, rfl, hR _ _ ⟨hk, rfl⟩⟩
  rintro v33 ⟨y, hy, hF⟩
  obtain rfl : v33 = (s.and (ofL [own])).val := hF (33, v33) List.mem_cons_self
  clear hy hF y
  simp only [Act.put, List.setIfInBounds_toArray, List.set_cons_succ, List.set_cons_zero]
  repeat (first | (refine wpF_skip rfl ?_) | (refine wpF_plain rfl rfl rfl ?_; intro ne K hK; go_big_quiet_op; go_big_quiet_on; clear ne))
  refine wpF_call rfl rfl ?_ ?_
  · intro x hx hf
    refine gives_hide (fun R hR => ?_)
    clear x0 x1
    go_simp
    exact hR _ _ ⟨(Keeps.refl _ _).alloc _, _, rfl, hx.size, heap_alloc_new _ _⟩
  rintro v10 ⟨y, hy, hF⟩
  obtain ⟨p, rfl, hp, hpb⟩ : SetAt w BSet.empty v10 y := hF (10, v10) List.mem_cons_self
  clear hy hF hpb y
  simp only [Act.put, List.setIfInBounds_toArray, List.set_cons_succ, List.set_cons_zero]
  refine wpF_nil ?_
  intro w2 hw2 hF
  obtain ⟨p', hpe, _, hpb⟩ : SetAt w BSet.empty (.pointer (some ⟨p, 0, none⟩)) w2 := hF (10, .pointer (some ⟨p, 0, none⟩)) (by simp)
  simp only [Value.pointer.injEq, Option.some.injEq, Addr.mk.injEq, and_true] at hpe
  subst hpe
  have K2 : Hid (Keeps w w2 (fun _ => False)) := Lib.hid hw2
  have HP := Lib.hid hp
  have B2 := Lib.hid hpb
  have hfz : w2.frozen? ⟨p, 0, none⟩ = false := free_at hpb 0
  have hfz1 : w2.frozen? ⟨p, 1, none⟩ = false := free_at hpb 1
  have e0 : w2.cell? ⟨p, 0, none⟩ = some (.int .u64 0) := by rw [cell_at hpb]; rfl
  have e1 : w2.cell? ⟨p, 1, none⟩ = some (.int .u64 0) := by rw [cell_at hpb]; rfl
  clear hw2 hF hp hpb x0 x1
  unfold BSet.val
  go_wp2_with fail
  have K3 : Hid (Keeps w ((w2.setCell ⟨p, 0, none⟩ (.int .u64 (s.and (ofL [own])).lo.toNat)).setCell ⟨p, 1, none⟩ (.int .u64 (s.and (ofL [own])).hi.toNat)) (fun _ => False)) := Lib.hid (Keeps.setCell (p := ⟨p, 1, none⟩) (Keeps.setCell (p := ⟨p, 0, none⟩) K2.out (fun h => absurd (show p < w.heap.size from h) (by have := HP.out; omega)) _) (fun h => absurd (show p < w.heap.size from h) (by have := HP.out; omega)) _)
  have B3 : Hid (((w2.setCell ⟨p, 0, none⟩ (.int .u64 (s.and (ofL [own])).lo.toNat)).setCell ⟨p, 1, none⟩ (.int .u64 (s.and (ofL [own])).hi.toNat)).heap[p]? = some (.cells ((s.and (ofL [own]))).cells 57 (0, 0))) := Lib.hid (by rw [setCell_heap (setCell_heap B2.out 0 _) 1 _]; rfl)
  generalize (w2.setCell ⟨p, 0, none⟩ (.int .u64 (s.and (ofL [own])).lo.toNat)).setCell ⟨p, 1, none⟩ (.int .u64 (s.and (ofL [own])).hi.toNat) = w3 at *
  refine (empty_any ((s.and (ofL [own]))) _).mono ?_
  rintro e w9 ⟨rfl, hk9⟩
  have K9 := Lib.hid (K3.out.trans hk9)
  have B9 := Lib.hid ((hk9.block _ (block_lt B3.out) id).trans B3.out)
  have GH9 := Lib.hid (GH.out.keeps K9.out)
  have e0 : w9.cell? ⟨p, 0, none⟩ = some (.int .u64 ((s.and (ofL [own]))).lo.toNat) := by rw [cell_at B9.out]; rfl
  have e1 : w9.cell? ⟨p, 1, none⟩ = some (.int .u64 ((s.and (ofL [own]))).hi.toNat) := by rw [cell_at B9.out]; rfl
  clear hk9 K3 B3
  have hd : doneL (s :: r) own 2 = (if ((s.and (ofL [own]))).isEmpty then (9, []) else (0, (s.and (ofL [own])) :: r)) := by
    unfold doneL
    simp [HO.out]
  have HD := Lib.hid hd
  clear hd
  cases he : ((s.and (ofL [own]))).isEmpty with
  | true =>
    rw [he] at HD
    go_wp2_with fail
    go_ret2
    exact ⟨.slice none 0 0, by rw [HD.out]; rfl, K9.out, fun h => by rw [HD.out] at h; cases h⟩
  | false =>
    rw [he] at HD
    clear he
    have E0 := Lib.hid e0
    have E1 := Lib.hid e1
    by_cases hcp : cap = 1
    · subst hcp
      obtain rfl := GH9.out.rest1
      have HT : Hid (RdK w9 (.slice (some ⟨g, off, none⟩) 0 0) []) := Lib.hid (RdK.void w9 _ 0 (Nat.zero_le _))
      go_upto_region 19 with fail
      have x0 : ∀ {ops : Array Oper} {F : Tmp → Value → World → Prop} {o : Oper} {D : List (Tmp × Value)} (x : AtF (KeepsN w9) F ops o D), x.w.cell? ⟨p, 0, none⟩ = some (.int .u64 ((s.and (ofL [own]))).lo.toNat) := fun x => AtF.cell E0.out x
      have x1 : ∀ {ops : Array Oper} {F : Tmp → Value → World → Prop} {o : Oper} {D : List (Tmp × Value)} (x : AtF (KeepsN w9) F ops o D), x.w.cell? ⟨p, 1, none⟩ = some (.int .u64 ((s.and (ofL [own]))).hi.toNat) := fun x => AtF.cell E1.out x
      refine wp_region_K [(58, fun v w => RdK w v [((s.and (ofL [own])))]), (61, PairK [((s.and (ofL [own])))] ([] : List BSet)), (62, fun v w => RdK w v (((s.and (ofL [own]))) :: ([] : List BSet)))] ?_ (by kernel_rfl) (by kernel_rfl) ?_
      · intro p hp
        simp only [List.mem_cons, List.not_mem_nil, or_false] at hp
        rcases hp with rfl | rfl | rfl
        · exact fun v w w' h hk => RdK.keeps h hk
        · exact PairK.stays _ _
        · exact fun v w w' h hk => RdK.keeps h hk
      repeat (first | (refine wpF_skip rfl ?_) | (refine wpF_plain rfl rfl rfl ?_; intro ne K hK; go_big_quiet_op; go_big_quiet_on; clear ne))
      refine wpF_call rfl rfl ?_ ?_
      · intro x hx hf
        refine gives_hide (fun R hR => ?_)
        clear x0 x1
        go_simp
        exact hR _ _ ⟨(Keeps.refl _ _).alloc _, RdK.lit1 x ((s.and (ofL [own]))) 57⟩
      rintro v58 ⟨y, hy, hF⟩
      clear hy hF y
      simp only [Act.put, List.setIfInBounds_toArray, List.set_cons_succ, List.set_cons_zero]
      repeat (first | (refine wpF_skip rfl ?_) | (refine wpF_plain rfl rfl rfl ?_; intro ne K hK; go_big_quiet_op; go_big_quiet_on; clear ne))
      refine wpF_call rfl rfl ?_ ?_
      · intro x hx hf
        refine gives_hide (fun R hR => ?_)
        have hv : RdK x v58 [((s.and (ofL [own])))] := hf (58, v58) (by simp) (of_decide_eq_true (by kernel_rfl))
        have HV := Lib.hid hv
        clear hf
        obtain ⟨ax, cx, rfl, _, _⟩ := hv.form
        clear hv x0 x1
        go_simp
        exact hR _ _ ⟨(Keeps.refl _ _).alloc _, PairK.new _ HV.out (HT.out.keeps hx)⟩
      rintro v61 ⟨y, hy, hF⟩
      clear hy hF y
      simp only [Act.put, List.setIfInBounds_toArray, List.set_cons_succ, List.set_cons_zero]
      repeat (first | (refine wpF_skip rfl ?_) | (refine wpF_plain rfl rfl rfl ?_; intro ne K hK; go_big_quiet_op; go_big_quiet_on; clear ne))
      refine wpF_call rfl rfl ?_ ?_
      · intro x hx hf
        refine gives_hide (fun R hR => ?_)
        have hv : PairK [((s.and (ofL [own])))] ([] : List BSet) v61 x := hf (61, v61) (by simp) (of_decide_eq_true (by kernel_rfl))
        have HV := Lib.hid hv
        clear hv x0 x1
        go_simp
        refine (concatK _ [((s.and (ofL [own])))] ([] : List BSet) v61 (by simp <;> omega) HV.out).mono ?_
        rintro e w' ⟨u, rfl, hk, hr⟩
        exact ⟨_, rfl, hR _ _ ⟨hk, hr⟩⟩
      rintro v62 ⟨y, hy, hF⟩
      clear hy hF y
      simp only [Act.put, List.setIfInBounds_toArray, List.set_cons_succ, List.set_cons_zero]
      repeat (first | (refine wpF_skip rfl ?_) | (refine wpF_plain rfl rfl rfl ?_; intro ne K hK; go_big_quiet_op; go_big_quiet_on; clear ne))
      refine wpF_nil ?_
      intro w4 hw4 hF
      have KF : Hid (Keeps w w4 (fun _ => False)) := Lib.hid (K9.out.trans hw4)
      have RF : Hid (RdK w4 v62 (doneL (s :: ([] : List BSet)) own 2).2) := Lib.hid (by rw [HD.out]; exact hF (62, v62) (by simp))
      clear hw4 hF x0 x1
      go_wp2_with fail
      go_ret2
      exact ⟨v62, by rw [HD.out]; rfl, KF.out, fun _ => RF.out⟩
    · have HT := Lib.hid (GH9.out.tail hcp)
      go_upto_region 19 with fail
      have x0 : ∀ {ops : Array Oper} {F : Tmp → Value → World → Prop} {o : Oper} {D : List (Tmp × Value)} (x : AtF (KeepsN w9) F ops o D), x.w.cell? ⟨p, 0, none⟩ = some (.int .u64 ((s.and (ofL [own]))).lo.toNat) := fun x => AtF.cell E0.out x
      have x1 : ∀ {ops : Array Oper} {F : Tmp → Value → World → Prop} {o : Oper} {D : List (Tmp × Value)} (x : AtF (KeepsN w9) F ops o D), x.w.cell? ⟨p, 1, none⟩ = some (.int .u64 ((s.and (ofL [own]))).hi.toNat) := fun x => AtF.cell E1.out x
      refine wp_region_K [(58, fun v w => RdK w v [((s.and (ofL [own])))]), (61, PairK [((s.and (ofL [own])))] r), (62, fun v w => RdK w v (((s.and (ofL [own]))) :: r))] ?_ (by kernel_rfl) (by kernel_rfl) ?_
      · intro p hp
        simp only [List.mem_cons, List.not_mem_nil, or_false] at hp
        rcases hp with rfl | rfl | rfl
        · exact fun v w w' h hk => RdK.keeps h hk
        · exact PairK.stays _ _
        · exact fun v w w' h hk => RdK.keeps h hk
      repeat (first | (refine wpF_skip rfl ?_) | (refine wpF_plain rfl rfl rfl ?_; intro ne K hK; go_big_quiet_op; go_big_quiet_on; clear ne))
      refine wpF_call rfl rfl ?_ ?_
      · intro x hx hf
        refine gives_hide (fun R hR => ?_)
        clear x0 x1
        go_simp
        exact hR _ _ ⟨(Keeps.refl _ _).alloc _, RdK.lit1 x ((s.and (ofL [own]))) 57⟩
      rintro v58 ⟨y, hy, hF⟩
      clear hy hF y
      simp only [Act.put, List.setIfInBounds_toArray, List.set_cons_succ, List.set_cons_zero]
      repeat (first | (refine wpF_skip rfl ?_) | (refine wpF_plain rfl rfl rfl ?_; intro ne K hK; go_big_quiet_op; go_big_quiet_on; clear ne))
      refine wpF_call rfl rfl ?_ ?_
      · intro x hx hf
        refine gives_hide (fun R hR => ?_)
        have hv : RdK x v58 [((s.and (ofL [own])))] := hf (58, v58) (by simp) (of_decide_eq_true (by kernel_rfl))
        have HV := Lib.hid hv
        clear hf
        obtain ⟨ax, cx, rfl, _, _⟩ := hv.form
        clear hv x0 x1
        go_simp
        exact hR _ _ ⟨(Keeps.refl _ _).alloc _, PairK.new _ HV.out (HT.out.keeps hx)⟩
      rintro v61 ⟨y, hy, hF⟩
      clear hy hF y
      simp only [Act.put, List.setIfInBounds_toArray, List.set_cons_succ, List.set_cons_zero]
      repeat (first | (refine wpF_skip rfl ?_) | (refine wpF_plain rfl rfl rfl ?_; intro ne K hK; go_big_quiet_op; go_big_quiet_on; clear ne))
      refine wpF_call rfl rfl ?_ ?_
      · intro x hx hf
        refine gives_hide (fun R hR => ?_)
        have hv : PairK [((s.and (ofL [own])))] r v61 x := hf (61, v61) (by simp) (of_decide_eq_true (by kernel_rfl))
        have HV := Lib.hid hv
        clear hv x0 x1
        go_simp
        refine (concatK _ [((s.and (ofL [own])))] r v61 (by simp <;> omega) HV.out).mono ?_
        rintro e w' ⟨u, rfl, hk, hr⟩
        exact ⟨_, rfl, hR _ _ ⟨hk, hr⟩⟩
      rintro v62 ⟨y, hy, hF⟩
      clear hy hF y
      simp only [Act.put, List.setIfInBounds_toArray, List.set_cons_succ, List.set_cons_zero]
      repeat (first | (refine wpF_skip rfl ?_) | (refine wpF_plain rfl rfl rfl ?_; intro ne K hK; go_big_quiet_op; go_big_quiet_on; clear ne))
      refine wpF_nil ?_
      intro w4 hw4 hF
      have KF : Hid (Keeps w w4 (fun _ => False)) := Lib.hid (K9.out.trans hw4)
      have RF : Hid (RdK w4 v62 (doneL (s :: r) own 2).2) := Lib.hid (by rw [HD.out]; exact hF (62, v62) (by simp))
      clear hw4 hF x0 x1
      go_wp2_with fail
      go_ret2
      exact ⟨v62, by rw [HD.out]; rfl, KF.out, fun _ => RF.out⟩

set_option maxHeartbeats 4000000 in
theorem done_push (w : World) (v : Value) (s : BSet) (r : List BSet) (own : Int) (ho : ¬ own = 0) (hl : r.length ≤ 100) (H : RdK w v (s :: r)) :
    Calls Tryd.prog 32 #[v, .int .i64 own, .int .i64 3] w (DonePost w (doneL (s :: r) own 3)) := by
  obtain ⟨a, cap, rfl, hcp, hcm⟩ := H.form
  obtain ⟨g, off, rfl, hg, c0, c1⟩ := H.cell
  have GH := Lib.hid H
  have hq : (own == 0) = false := beq_eq_false_iff_ne.2 ho
  have HO := Lib.hid ho
  have C0 := Lib.hid c0
  have C1 := Lib.hid c1
  have x0 : ∀ {ops : Array Oper} {F : Tmp → Value → World → Prop} {o : Oper} {D : List (Tmp × Value)} (x : AtF (KeepsN w) F ops o D), x.w.cell? ⟨g, off, none⟩ = some (.int .u64 s.lo.toNat) := fun x => AtF.cell C0.out x
  have x1 : ∀ {ops : Array Oper} {F : Tmp → Value → World → Prop} {o : Oper} {D : List (Tmp × Value)} (x : AtF (KeepsN w) F ops o D), x.w.cell? ⟨g, off + 1, none⟩ = some (.int .u64 s.hi.toNat) := fun x => AtF.cell C1.out x
  clear H hcp hcm c0 c1 ho
  go_enter Tryd.func32, Tryd.ntmps32
  go_upto_region 12 with fail
  refine wp_region_KT 8 [(31, fun v w => ReadsI w v [own]), (32, fun v _ => v = (ofL [own]).val), (33, fun v _ => v = (s.and (ofL [own])).val), (10, SetAt w BSet.empty)] ?_ (by kernel_rfl) (by kernel_rfl) ?_
  · intro p hp
    simp only [List.mem_cons, List.not_mem_nil, or_false] at hp
    rcases hp with rfl | rfl | rfl | rfl
    · exact fun v w w' h hk => ReadsI.keeps h hk
    · exact Stays.pure _
    · exact Stays.pure _
    · exact SetAt.stays _ _
  simp only [List.take_succ_cons, List.take_zero, List.drop_succ_cons, List.drop_zero]
  repeat (first | (refine wpF_skip rfl ?_) | (refine wpF_plain rfl rfl rfl ?_; intro ne K hK; go_big_quiet_op; go_big_quiet_on; clear ne))
  refine wpF_call rfl rfl ?_ ?_
  · intro x hx hf
    refine gives_hide (fun R hR => ?_)
    clear x0 x1
    go_simp
    exact hR _ _ ⟨(Keeps.refl _ _).alloc _, ReadsI.lit x [own] 3 (by simp)⟩
  rintro v31 ⟨y, hy, hF⟩
  clear hy hF y
  simp only [Act.put, List.setIfInBounds_toArray, List.set_cons_succ, List.set_cons_zero]
  repeat (first | (refine wpF_skip rfl ?_) | (refine wpF_plain rfl rfl rfl ?_; intro ne K hK; go_big_quiet_op; go_big_quiet_on; clear ne))
  refine wpF_call rfl rfl ?_ ?_
  · intro x hx hf
    refine gives_hide (fun R hR => ?_)
    have hv : ReadsI x v31 [own] := hf (31, v31) (by simp) (of_decide_eq_true (by kernel_rfl))
    have HV := Lib.hid hv
    clear hv x0 x1
    go_simp
    refine (of_any _ _ [own] HV.out).mono ?_
    rintro e w' ⟨rfl, hk⟩
    exact ⟨_, rfl, hR _ _ ⟨hk, rfl⟩⟩
  rintro v32 ⟨y, hy, hF⟩
  obtain rfl : v32 = (ofL [own]).val := hF (32, v32) List.mem_cons_self
  clear hy hF y
  simp only [Act.put, List.setIfInBounds_toArray, List.set_cons_succ, List.set_cons_zero]
  repeat (first | (refine wpF_skip rfl ?_) | (refine wpF_plain rfl rfl rfl ?_; intro ne K hK; go_big_quiet_op; go_big_quiet_on; clear ne))
  refine wpF_call rfl rfl ?_ ?_
  · intro x hx hf
    refine gives_hide (fun R hR => ?_)
    clear x0 x1
    go_simp
    refine (and_any _ _ _).mono ?_
    rintro e w' ⟨rfl, hk⟩
    exact ⟨_, rfl, hR _ _ ⟨hk, rfl⟩⟩
  rintro v33 ⟨y, hy, hF⟩
  obtain rfl : v33 = (s.and (ofL [own])).val := hF (33, v33) List.mem_cons_self
  clear hy hF y
  simp only [Act.put, List.setIfInBounds_toArray, List.set_cons_succ, List.set_cons_zero]
  repeat (first | (refine wpF_skip rfl ?_) | (refine wpF_plain rfl rfl rfl ?_; intro ne K hK; go_big_quiet_op; go_big_quiet_on; clear ne))
  refine wpF_call rfl rfl ?_ ?_
  · intro x hx hf
    refine gives_hide (fun R hR => ?_)
    clear x0 x1
    go_simp
    exact hR _ _ ⟨(Keeps.refl _ _).alloc _, _, rfl, hx.size, heap_alloc_new _ _⟩
  rintro v10 ⟨y, hy, hF⟩
  obtain ⟨p, rfl, hp, hpb⟩ : SetAt w BSet.empty v10 y := hF (10, v10) List.mem_cons_self
  clear hy hF hpb y
  simp only [Act.put, List.setIfInBounds_toArray, List.set_cons_succ, List.set_cons_zero]
  refine wpF_nil ?_
  intro w2 hw2 hF
  obtain ⟨p', hpe, _, hpb⟩ : SetAt w BSet.empty (.pointer (some ⟨p, 0, none⟩)) w2 := hF (10, .pointer (some ⟨p, 0, none⟩)) (by simp)
  simp only [Value.pointer.injEq, Option.some.injEq, Addr.mk.injEq, and_true] at hpe
  subst hpe
  have K2 : Hid (Keeps w w2 (fun _ => False)) := Lib.hid hw2
  have HP := Lib.hid hp
  have B2 := Lib.hid hpb
  have hfz : w2.frozen? ⟨p, 0, none⟩ = false := free_at hpb 0
  have hfz1 : w2.frozen? ⟨p, 1, none⟩ = false := free_at hpb 1
  have e0 : w2.cell? ⟨p, 0, none⟩ = some (.int .u64 0) := by rw [cell_at hpb]; rfl
  have e1 : w2.cell? ⟨p, 1, none⟩ = some (.int .u64 0) := by rw [cell_at hpb]; rfl
  clear hw2 hF hp hpb x0 x1
  unfold BSet.val
  go_upto_region 14 with fail
  have K3 : Hid (Keeps w ((w2.setCell ⟨p, 0, none⟩ (.int .u64 (s.and (ofL [own])).lo.toNat)).setCell ⟨p, 1, none⟩ (.int .u64 (s.and (ofL [own])).hi.toNat)) (fun _ => False)) := Lib.hid (Keeps.setCell (p := ⟨p, 1, none⟩) (Keeps.setCell (p := ⟨p, 0, none⟩) K2.out (fun h => absurd (show p < w.heap.size from h) (by have := HP.out; omega)) _) (fun h => absurd (show p < w.heap.size from h) (by have := HP.out; omega)) _)
  have B3 : Hid (((w2.setCell ⟨p, 0, none⟩ (.int .u64 (s.and (ofL [own])).lo.toNat)).setCell ⟨p, 1, none⟩ (.int .u64 (s.and (ofL [own])).hi.toNat)).heap[p]? = some (.cells ((s.and (ofL [own]))).cells 57 (0, 0))) := Lib.hid (by rw [setCell_heap (setCell_heap B2.out 0 _) 1 _]; rfl)
  generalize (w2.setCell ⟨p, 0, none⟩ (.int .u64 (s.and (ofL [own])).lo.toNat)).setCell ⟨p, 1, none⟩ (.int .u64 (s.and (ofL [own])).hi.toNat) = w3 at *
  have D0 : Hid (w3.cell? ⟨g, off, none⟩ = some (.int .u64 s.lo.toNat)) := Lib.hid (by rw [← C0.out]; exact World.cell?_of_block (K3.out.block _ hg id))
  have D1 : Hid (w3.cell? ⟨g, off + 1, none⟩ = some (.int .u64 s.hi.toNat)) := Lib.hid (by rw [← C1.out]; exact World.cell?_of_block (K3.out.block _ hg id))
  have x0 : ∀ {ops : Array Oper} {F : Tmp → Value → World → Prop} {o : Oper} {D : List (Tmp × Value)} (x : AtF (KeepsN w3) F ops o D), x.w.cell? ⟨g, off, none⟩ = some (.int .u64 s.lo.toNat) := fun x => AtF.cell D0.out x
  have x1 : ∀ {ops : Array Oper} {F : Tmp → Value → World → Prop} {o : Oper} {D : List (Tmp × Value)} (x : AtF (KeepsN w3) F ops o D), x.w.cell? ⟨g, off + 1, none⟩ = some (.int .u64 s.hi.toNat) := fun x => AtF.cell D1.out x
  clear hfz hfz1 e0 e1 K2 B2
  refine wp_region_KT 6 [(40, fun v _ => v = (belowS own).val), (41, fun v _ => v = (s.and (belowS own)).val)] ?_ (by kernel_rfl) (by kernel_rfl) ?_
  · intro p hp
    simp only [List.mem_cons, List.not_mem_nil, or_false] at hp
    rcases hp with rfl | rfl <;> exact Stays.pure _
  simp only [List.take_succ_cons, List.take_zero, List.drop_succ_cons, List.drop_zero]
  repeat (first | (refine wpF_skip rfl ?_) | (refine wpF_plain rfl rfl rfl ?_; intro ne K hK; go_big_quiet_op; go_big_quiet_on; clear ne))
  refine wpF_call rfl rfl ?_ ?_
  · intro x hx hf
    refine gives_hide (fun R hR => ?_)
    clear x0 x1
    go_simp
    refine (onto_any _ _).mono ?_
    rintro e w' ⟨rfl, hk⟩
    exact ⟨_, rfl, hR _ _ ⟨hk, rfl⟩⟩
  rintro v40 ⟨y, hy, hF⟩
  obtain rfl : v40 = (belowS own).val := hF (40, v40) List.mem_cons_self
  clear hy hF y
  simp only [Act.put, List.setIfInBounds_toArray, List.set_cons_succ, List.set_cons_zero]
  repeat (first | (refine wpF_skip rfl ?_) | (refine wpF_plain rfl rfl rfl ?_; intro ne K hK; go_big_quiet_op; go_big_quiet_on; clear ne))
  refine wpF_call rfl rfl ?_ ?_
  · intro x hx hf
    refine gives_hide (fun R hR => ?_)
    clear x0 x1
    go_simp
    refine (and_any _ _ _).mono ?_
    rintro e w' ⟨rfl, hk⟩
    exact ⟨_, rfl, hR _ _ ⟨hk, rfl⟩⟩
  rintro v41 ⟨y, hy, hF⟩
  obtain rfl : v41 = (s.and (belowS own)).val := hF (41, v41) List.mem_cons_self
  clear hy hF y
  simp only [Act.put, List.setIfInBounds_toArray, List.set_cons_succ, List.set_cons_zero]
  refine wpF_nil ?_
  intro w5 hw5 hF
  have K5 : Hid (Keeps w w5 (fun _ => False)) := Lib.hid (K3.out.trans hw5)
  have B5 := Lib.hid ((Keeps.block hw5 _ (block_lt B3.out) id).trans B3.out)
  have hfz : w5.frozen? ⟨p, 0, none⟩ = false := free_at B5.out 0
  have hfz1 : w5.frozen? ⟨p, 1, none⟩ = false := free_at B5.out 1
  have e0 : w5.cell? ⟨p, 0, none⟩ = some (.int .u64 (s.and (ofL [own])).lo.toNat) := by rw [cell_at B5.out]; rfl
  have e1 : w5.cell? ⟨p, 1, none⟩ = some (.int .u64 (s.and (ofL [own])).hi.toNat) := by rw [cell_at B5.out]; rfl
  clear hw5 hF x0 x1 K3 B3
  unfold BSet.val
  go_wp2_with fail
  have K6 : Hid (Keeps w ((w5.setCell ⟨p, 0, none⟩ (.int .u64 (s.and (belowS own)).lo.toNat)).setCell ⟨p, 1, none⟩ (.int .u64 (s.and (belowS own)).hi.toNat)) (fun _ => False)) := Lib.hid (Keeps.setCell (p := ⟨p, 1, none⟩) (Keeps.setCell (p := ⟨p, 0, none⟩) K5.out (fun h => absurd (show p < w.heap.size from h) (by have := HP.out; omega)) _) (fun h => absurd (show p < w.heap.size from h) (by have := HP.out; omega)) _)
  have B6 : Hid (((w5.setCell ⟨p, 0, none⟩ (.int .u64 (s.and (belowS own)).lo.toNat)).setCell ⟨p, 1, none⟩ (.int .u64 (s.and (belowS own)).hi.toNat)).heap[p]? = some (.cells ((s.and (belowS own))).cells 57 (0, 0))) := Lib.hid (by rw [setCell_heap (setCell_heap B5.out 0 _) 1 _]; rfl)
  generalize (w5.setCell ⟨p, 0, none⟩ (.int .u64 (s.and (belowS own)).lo.toNat)).setCell ⟨p, 1, none⟩ (.int .u64 (s.and (belowS own)).hi.toNat) = w6 at *
  refine (empty_any ((s.and (belowS own))) _).mono ?_
  rintro e w9 ⟨rfl, hk9⟩
  have K9 := Lib.hid (K6.out.trans hk9)
  have B9 := Lib.hid ((hk9.block _ (block_lt B6.out) id).trans B6.out)
  have GH9 := Lib.hid (GH.out.keeps K9.out)
  have e0 : w9.cell? ⟨p, 0, none⟩ = some (.int .u64 ((s.and (belowS own))).lo.toNat) := by rw [cell_at B9.out]; rfl
  have e1 : w9.cell? ⟨p, 1, none⟩ = some (.int .u64 ((s.and (belowS own))).hi.toNat) := by rw [cell_at B9.out]; rfl
  clear hk9 K6 B6
  have hd : doneL (s :: r) own 3 = (if ((s.and (belowS own))).isEmpty then (9, []) else (0, ofL [own] :: (s.and (belowS own)) :: r)) := by
    unfold doneL
    simp [HO.out]
  have HD := Lib.hid hd
  clear hd
  cases he : ((s.and (belowS own))).isEmpty with
  | true =>
    rw [he] at HD
    go_wp2_with fail
    go_ret2
    exact ⟨.slice none 0 0, by rw [HD.out]; rfl, K9.out, fun h => by rw [HD.out] at h; cases h⟩
  | false =>
    rw [he] at HD
    clear he
    have E0 := Lib.hid e0
    have E1 := Lib.hid e1
    by_cases hcp : cap = 1
    · subst hcp
      obtain rfl := GH9.out.rest1
      have HT : Hid (RdK w9 (.slice (some ⟨g, off, none⟩) 0 0) []) := Lib.hid (RdK.void w9 _ 0 (Nat.zero_le _))
      go_upto_region 18 with fail
      have x0 : ∀ {ops : Array Oper} {F : Tmp → Value → World → Prop} {o : Oper} {D : List (Tmp × Value)} (x : AtF (KeepsN w9) F ops o D), x.w.cell? ⟨p, 0, none⟩ = some (.int .u64 ((s.and (belowS own))).lo.toNat) := fun x => AtF.cell E0.out x
      have x1 : ∀ {ops : Array Oper} {F : Tmp → Value → World → Prop} {o : Oper} {D : List (Tmp × Value)} (x : AtF (KeepsN w9) F ops o D), x.w.cell? ⟨p, 1, none⟩ = some (.int .u64 ((s.and (belowS own))).hi.toNat) := fun x => AtF.cell E1.out x
      refine wp_region_K [(50, fun v _ => v = (ofL [own]).val), (49, fun v w => ReadsI w v [own]), (52, fun v w => RdK w v [ofL [own], ((s.and (belowS own)))]), (55, PairK [ofL [own], ((s.and (belowS own)))] ([] : List BSet)), (56, fun v w => RdK w v (ofL [own] :: ((s.and (belowS own))) :: ([] : List BSet)))] ?_ (by kernel_rfl) (by kernel_rfl) ?_
      · intro p hp
        simp only [List.mem_cons, List.not_mem_nil, or_false] at hp
        rcases hp with rfl | rfl | rfl | rfl | rfl
        · exact Stays.pure _
        · exact fun v w w' h hk => ReadsI.keeps h hk
        · exact fun v w w' h hk => RdK.keeps h hk
        · exact PairK.stays _ _
        · exact fun v w w' h hk => RdK.keeps h hk
      repeat (first | (refine wpF_skip rfl ?_) | (refine wpF_plain rfl rfl rfl ?_; intro ne K hK; go_big_quiet_op; go_big_quiet_on; clear ne))
      refine wpF_call rfl rfl ?_ ?_
      · intro x hx hf
        refine gives_hide (fun R hR => ?_)
        clear x0 x1
        go_simp
        exact hR _ _ ⟨(Keeps.refl _ _).alloc _, ReadsI.lit x [own] 3 (by simp)⟩
      rintro v49 ⟨y, hy, hF⟩
      clear hy hF y
      simp only [Act.put, List.setIfInBounds_toArray, List.set_cons_succ, List.set_cons_zero]
      repeat (first | (refine wpF_skip rfl ?_) | (refine wpF_plain rfl rfl rfl ?_; intro ne K hK; go_big_quiet_op; go_big_quiet_on; clear ne))
      refine wpF_call rfl rfl ?_ ?_
      · intro x hx hf
        refine gives_hide (fun R hR => ?_)
        have hv : ReadsI x v49 [own] := hf (49, v49) (by simp) (of_decide_eq_true (by kernel_rfl))
        have HV := Lib.hid hv
        clear hv x0 x1
        go_simp
        refine (of_any _ _ [own] HV.out).mono ?_
        rintro e w' ⟨rfl, hk⟩
        exact ⟨_, rfl, hR _ _ ⟨hk, rfl⟩⟩
      rintro v50 ⟨y, hy, hF⟩
      obtain rfl : v50 = (ofL [own]).val := hF (50, v50) List.mem_cons_self
      clear hy hF y
      simp only [Act.put, List.setIfInBounds_toArray, List.set_cons_succ, List.set_cons_zero]
      repeat (first | (refine wpF_skip rfl ?_) | (refine wpF_plain rfl rfl rfl ?_; intro ne K hK; go_big_quiet_op; go_big_quiet_on; clear ne))
      refine wpF_call rfl rfl ?_ ?_
      · intro x hx hf
        refine gives_hide (fun R hR => ?_)
        clear x0 x1
        unfold BSet.val
        go_simp
        exact hR _ _ ⟨(Keeps.refl _ _).alloc _, RdK.lit2 x (ofL [own]) ((s.and (belowS own))) 57⟩
      rintro v52 ⟨y, hy, hF⟩
      clear hy hF y
      simp only [Act.put, List.setIfInBounds_toArray, List.set_cons_succ, List.set_cons_zero]
      repeat (first | (refine wpF_skip rfl ?_) | (refine wpF_plain rfl rfl rfl ?_; intro ne K hK; go_big_quiet_op; go_big_quiet_on; clear ne))
      refine wpF_call rfl rfl ?_ ?_
      · intro x hx hf
        refine gives_hide (fun R hR => ?_)
        have hv : RdK x v52 [ofL [own], ((s.and (belowS own)))] := hf (52, v52) (by simp) (of_decide_eq_true (by kernel_rfl))
        have HV := Lib.hid hv
        clear hf
        obtain ⟨ax, cx, rfl, _, _⟩ := hv.form
        clear hv x0 x1
        go_simp
        exact hR _ _ ⟨(Keeps.refl _ _).alloc _, PairK.new _ HV.out (HT.out.keeps hx)⟩
      rintro v55 ⟨y, hy, hF⟩
      clear hy hF y
      simp only [Act.put, List.setIfInBounds_toArray, List.set_cons_succ, List.set_cons_zero]
      repeat (first | (refine wpF_skip rfl ?_) | (refine wpF_plain rfl rfl rfl ?_; intro ne K hK; go_big_quiet_op; go_big_quiet_on; clear ne))
      refine wpF_call rfl rfl ?_ ?_
      · intro x hx hf
        refine gives_hide (fun R hR => ?_)
        have hv : PairK [ofL [own], ((s.and (belowS own)))] ([] : List BSet) v55 x := hf (55, v55) (by simp) (of_decide_eq_true (by kernel_rfl))
        have HV := Lib.hid hv
        clear hv x0 x1
        go_simp
        refine (concatK _ [ofL [own], ((s.and (belowS own)))] ([] : List BSet) v55 (by simp <;> omega) HV.out).mono ?_
        rintro e w' ⟨u, rfl, hk, hr⟩
        exact ⟨_, rfl, hR _ _ ⟨hk, hr⟩⟩
      rintro v56 ⟨y, hy, hF⟩
      clear hy hF y
      simp only [Act.put, List.setIfInBounds_toArray, List.set_cons_succ, List.set_cons_zero]
      repeat (first | (refine wpF_skip rfl ?_) | (refine wpF_plain rfl rfl rfl ?_; intro ne K hK; go_big_quiet_op; go_big_quiet_on; clear ne))
      refine wpF_nil ?_
      intro w4 hw4 hF
      have KF : Hid (Keeps w w4 (fun _ => False)) := Lib.hid (K9.out.trans hw4)
      have RF : Hid (RdK w4 v56 (doneL (s :: ([] : List BSet)) own 3).2) := Lib.hid (by rw [HD.out]; exact hF (56, v56) (by simp))
      clear hw4 hF x0 x1
      go_wp2_with fail
      go_ret2
      exact ⟨v56, by rw [HD.out]; rfl, KF.out, fun _ => RF.out⟩
    · have HT := Lib.hid (GH9.out.tail hcp)
      go_upto_region 18 with fail
      have x0 : ∀ {ops : Array Oper} {F : Tmp → Value → World → Prop} {o : Oper} {D : List (Tmp × Value)} (x : AtF (KeepsN w9) F ops o D), x.w.cell? ⟨p, 0, none⟩ = some (.int .u64 ((s.and (belowS own))).lo.toNat) := fun x => AtF.cell E0.out x
      have x1 : ∀ {ops : Array Oper} {F : Tmp → Value → World → Prop} {o : Oper} {D : List (Tmp × Value)} (x : AtF (KeepsN w9) F ops o D), x.w.cell? ⟨p, 1, none⟩ = some (.int .u64 ((s.and (belowS own))).hi.toNat) := fun x => AtF.cell E1.out x
      refine wp_region_K [(50, fun v _ => v = (ofL [own]).val), (49, fun v w => ReadsI w v [own]), (52, fun v w => RdK w v [ofL [own], ((s.and (belowS own)))]), (55, PairK [ofL [own], ((s.and (belowS own)))] r), (56, fun v w => RdK w v (ofL [own] :: ((s.and (belowS own))) :: r))] ?_ (by kernel_rfl) (by kernel_rfl) ?_
      · intro p hp
        simp only [List.mem_cons, List.not_mem_nil, or_false] at hp
        rcases hp with rfl | rfl | rfl | rfl | rfl
        · exact Stays.pure _
        · exact fun v w w' h hk => ReadsI.keeps h hk
        · exact fun v w w' h hk => RdK.keeps h hk
        · exact PairK.stays _ _
        · exact fun v w w' h hk => RdK.keeps h hk
      repeat (first | (refine wpF_skip rfl ?_) | (refine wpF_plain rfl rfl rfl ?_; intro ne K hK; go_big_quiet_op; go_big_quiet_on; clear ne))
      refine wpF_call rfl rfl ?_ ?_
      · intro x hx hf
        refine gives_hide (fun R hR => ?_)
        clear x0 x1
        go_simp
        exact hR _ _ ⟨(Keeps.refl _ _).alloc _, ReadsI.lit x [own] 3 (by simp)⟩
      rintro v49 ⟨y, hy, hF⟩
      clear hy hF y
      simp only [Act.put, List.setIfInBounds_toArray, List.set_cons_succ, List.set_cons_zero]
      repeat (first | (refine wpF_skip rfl ?_) | (refine wpF_plain rfl rfl rfl ?_; intro ne K hK; go_big_quiet_op; go_big_quiet_on; clear ne))
      refine wpF_call rfl rfl ?_ ?_
      · intro x hx hf
        refine gives_hide (fun R hR => ?_)
        have hv : ReadsI x v49 [own] := hf (49, v49) (by simp) (of_decide_eq_true (by kernel_rfl))
        have HV := Lib.hid hv
        clear hv x0 x1
        go_simp
        refine (of_any _ _ [own] HV.out).mono ?_
        rintro e w' ⟨rfl, hk⟩
        exact ⟨_, rfl, hR _ _ ⟨hk, rfl⟩⟩
      rintro v50 ⟨y, hy, hF⟩
      obtain rfl : v50 = (ofL [own]).val := hF (50, v50) List.mem_cons_self
      clear hy hF y
      simp only [Act.put, List.setIfInBounds_toArray, List.set_cons_succ, List.set_cons_zero]
      repeat (first | (refine wpF_skip rfl ?_) | (refine wpF_plain rfl rfl rfl ?_; intro ne K hK; go_big_quiet_op; go_big_quiet_on; clear ne))
      refine wpF_call rfl rfl ?_ ?_
      · intro x hx hf
        refine gives_hide (fun R hR => ?_)
        clear x0 x1
        unfold BSet.val
        go_simp
        exact hR _ _ ⟨(Keeps.refl _ _).alloc _, RdK.lit2 x (ofL [own]) ((s.and (belowS own))) 57⟩
      rintro v52 ⟨y, hy, hF⟩
      clear hy hF y
      simp only [Act.put, List.setIfInBounds_toArray, List.set_cons_succ, List.set_cons_zero]
      repeat (first | (refine wpF_skip rfl ?_) | (refine wpF_plain rfl rfl rfl ?_; intro ne K hK; go_big_quiet_op; go_big_quiet_on; clear ne))
      refine wpF_call rfl rfl ?_ ?_
      · intro x hx hf
        refine gives_hide (fun R hR => ?_)
        have hv : RdK x v52 [ofL [own], ((s.and (belowS own)))] := hf (52, v52) (by simp) (of_decide_eq_true (by kernel_rfl))
        have HV := Lib.hid hv
        clear hf
        obtain ⟨ax, cx, rfl, _, _⟩ := hv.form
        clear hv x0 x1
        go_simp
        exact hR _ _ ⟨(Keeps.refl _ _).alloc _, PairK.new _ HV.out (HT.out.keeps hx)⟩
      rintro v55 ⟨y, hy, hF⟩
      clear hy hF y
      simp only [Act.put, List.setIfInBounds_toArray, List.set_cons_succ, List.set_cons_zero]
      repeat (first | (refine wpF_skip rfl ?_) | (refine wpF_plain rfl rfl rfl ?_; intro ne K hK; go_big_quiet_op; go_big_quiet_on; clear ne))
      refine wpF_call rfl rfl ?_ ?_
      · intro x hx hf
        refine gives_hide (fun R hR => ?_)
        have hv : PairK [ofL [own], ((s.and (belowS own)))] r v55 x := hf (55, v55) (by simp) (of_decide_eq_true (by kernel_rfl))
        have HV := Lib.hid hv
        clear hv x0 x1
        go_simp
        refine (concatK _ [ofL [own], ((s.and (belowS own)))] r v55 (by simp <;> omega) HV.out).mono ?_
        rintro e w' ⟨u, rfl, hk, hr⟩
        exact ⟨_, rfl, hR _ _ ⟨hk, hr⟩⟩
      rintro v56 ⟨y, hy, hF⟩
      clear hy hF y
      simp only [Act.put, List.setIfInBounds_toArray, List.set_cons_succ, List.set_cons_zero]
      repeat (first | (refine wpF_skip rfl ?_) | (refine wpF_plain rfl rfl rfl ?_; intro ne K hK; go_big_quiet_op; go_big_quiet_on; clear ne))
      refine wpF_nil ?_
      intro w4 hw4 hF
      have KF : Hid (Keeps w w4 (fun _ => False)) := Lib.hid (K9.out.trans hw4)
      have RF : Hid (RdK w4 v56 (doneL (s :: r) own 3).2) := Lib.hid (by rw [HD.out]; exact hF (56, v56) (by simp))
      clear hw4 hF x0 x1
      go_wp2_with fail
      go_ret2
      exact ⟨v56, by rw [HD.out]; rfl, KF.out, fun _ => RF.out⟩
end Go.Proofs.YtdhcnmljkmodhaaDoor
