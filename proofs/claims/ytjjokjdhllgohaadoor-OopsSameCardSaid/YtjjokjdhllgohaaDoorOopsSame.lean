/- OopsSame returns true: two errors tell the same just if their numbers, places and words are the same, or there is none of either (at most 20 words each). errors.errorType reads as laid (tied by the card). -/
import Derived.Test.YtjjokjdhllgohaaDoorOops11
namespace Go.Proofs.YtjjokjdhllgohaaDoor.oopsSame
set_option linter.unusedSectionVars false
set_option linter.unusedVariables false
set_option linter.unusedSimpArgs false
open Go.RowKit Go.Extern.Stop Go.Stop Go.Extern

set_option maxRecDepth 20000 in
set_option maxHeartbeats 8000000 in
theorem walk_mid (c d a p : Int) (ws zs : List ByteArray) (v u : Value) (w : World) (hws : RdV w v (ws.map Value.string)) (hzs : RdV w u (zs.map Value.string)) (hl : ws.length ≤ 20) (hm : zs.length ≤ 20) (hg : ErrT w) :
    Calls Tryd.prog 4 #[.int .i64 c, .int .i64 d, .int .i64 a, .int .i64 p, v, u] w fun e w' => e = .returned (.bool true) ∧ Keeps w w' (fun _ => False) := by
  obtain ⟨ad, cap, e1, _, _⟩ := hws.form
  obtain ⟨bd, cbp, e2, _, _⟩ := hzs.form
  rw [List.length_map] at e1 e2
  subst e1
  subst e2
  have HW := Lib.hid hws
  have HZ := Lib.hid hzs
  have HG := Lib.hid hg
  clear hws hzs hg
  go_enter Tryd.func4, Tryd.ntmps4
  go_wp2_with fail
  refine (awake01 _ HG.out).mono ?_
  rintro e w1 ⟨rfl, hk⟩
  have K1 := Lib.hid hk
  clear hk
  go_wp2_with fail
  refine (of_ret c a ws _ _ (HW.out.keeps K1.out) hl).mono ?_
  rintro e w2 ⟨ev1, a1, ws1, v1, rfl, hok, _, hk⟩
  have K2 := Lib.hid (K1.out.trans hk)
  obtain ⟨ad1, cap1, e1, _, _⟩ := hok.rd.form
  rw [List.length_map] at e1
  subst e1
  have OK1 := Lib.hid hok
  clear hk K1 hok
  go_wp2_with fail
  have K3 : Hid (Keeps w (w2.alloc (.cells #[.int .i64 c, .int .i64 a1, .slice ad1 ws1.length cap1] 28)) (fun _ => False)) := Lib.hid (K2.out.alloc _)
  have OK3 : Hid (OfOk (w2.alloc (.cells #[.int .i64 c, .int .i64 a1, .slice ad1 ws1.length cap1] 28)) c a1 ws1 _ ev1) := Lib.hid (OK1.out.keeps ((Keeps.refl _ _).alloc _))
  have B3 : Hid ((w2.alloc (.cells #[.int .i64 c, .int .i64 a1, .slice ad1 ws1.length cap1] 28)).heap[w2.heap.size]? = some (.cells #[.int .i64 c, .int .i64 a1, .slice ad1 ws1.length cap1] 28 (0, 0))) := Lib.hid (heap_alloc_new w2 _)
  generalize w2.alloc (.cells #[.int .i64 c, .int .i64 a1, .slice ad1 ws1.length cap1] 28) = w3 at *
  generalize w2.heap.size = N at *
  clear OK1 K2
  refine (of_ret d p zs _ _ (HZ.out.keeps K3.out) hm).mono ?_
  rintro e w4 ⟨ev2, a2, ws2, v2, rfl, hok, _, hk⟩
  have K4 := Lib.hid (K3.out.trans hk)
  have B4 : Hid (w4.heap[N]? = some (.cells #[.int .i64 c, .int .i64 a1, .slice ad1 ws1.length cap1] 28 (0, 0))) := Lib.hid ((hk.block _ (block_lt B3.out) id).trans B3.out)
  have OK4 := Lib.hid (OK3.out.keeps hk)
  obtain ⟨ad2, cap2, e1, _, _⟩ := hok.rd.form
  rw [List.length_map] at e1
  subst e1
  have OJ4 := Lib.hid hok
  clear hk K3 hok OK3 B3
  go_wp2_with fail
  have K5 : Hid (Keeps w (w4.alloc (.cells #[.int .i64 d, .int .i64 a2, .slice ad2 ws2.length cap2] 28)) (fun _ => False)) := Lib.hid (K4.out.alloc _)
  have OK5 : Hid (OfOk (w4.alloc (.cells #[.int .i64 d, .int .i64 a2, .slice ad2 ws2.length cap2] 28)) c a1 ws1 _ ev1) := Lib.hid (OK4.out.keeps ((Keeps.refl _ _).alloc _))
  have OJ5 : Hid (OfOk (w4.alloc (.cells #[.int .i64 d, .int .i64 a2, .slice ad2 ws2.length cap2] 28)) d a2 ws2 _ ev2) := Lib.hid (OJ4.out.keeps ((Keeps.refl _ _).alloc _))
  have C5 : Hid ((w4.alloc (.cells #[.int .i64 d, .int .i64 a2, .slice ad2 ws2.length cap2] 28)).heap[w4.heap.size]? = some (.cells #[.int .i64 d, .int .i64 a2, .slice ad2 ws2.length cap2] 28 (0, 0))) := Lib.hid (heap_alloc_new w4 _)
  have B5 : Hid ((w4.alloc (.cells #[.int .i64 d, .int .i64 a2, .slice ad2 ws2.length cap2] 28)).heap[N]? = some (.cells #[.int .i64 c, .int .i64 a1, .slice ad1 ws1.length cap1] 28 (0, 0))) := Lib.hid ((Below.heap_alloc _ _ _ (block_lt B4.out)).trans B4.out)
  generalize w4.alloc (.cells #[.int .i64 d, .int .i64 a2, .slice ad2 ws2.length cap2] 28) = W at *
  generalize w4.heap.size = M at *
  clear OK4 K4 OJ4 B4
  have HG5 := Lib.hid (HG.out.keeps K5.out)
  have p0w : W.cell? ⟨N, 0, none⟩ = some (.int .i64 c) := by rw [cell_at B5.out]; rfl
  have p1w : W.cell? ⟨N, 1, none⟩ = some (.int .i64 a1) := by rw [cell_at B5.out]; rfl
  have p2w : W.cell? ⟨N, 2, none⟩ = some (.slice ad1 ws1.length cap1) := by rw [cell_at B5.out]; rfl
  have q0w : W.cell? ⟨M, 0, none⟩ = some (.int .i64 d) := by rw [cell_at C5.out]; rfl
  have q1w : W.cell? ⟨M, 1, none⟩ = some (.int .i64 a2) := by rw [cell_at C5.out]; rfl
  have q2w : W.cell? ⟨M, 2, none⟩ = some (.slice ad2 ws2.length cap2) := by rw [cell_at C5.out]; rfl
  have p0 : ∀ {ops : Array Oper} {F : Tmp → Value → World → Prop} {o : Oper} {D : List (Tmp × Value)} (x : AtF (KeepsN W) F ops o D), x.w.cell? ⟨N, 0, none⟩ = some (.int .i64 c) := fun x => AtF.cell p0w x
  have p1 : ∀ {ops : Array Oper} {F : Tmp → Value → World → Prop} {o : Oper} {D : List (Tmp × Value)} (x : AtF (KeepsN W) F ops o D), x.w.cell? ⟨N, 1, none⟩ = some (.int .i64 a1) := fun x => AtF.cell p1w x
  have p2 : ∀ {ops : Array Oper} {F : Tmp → Value → World → Prop} {o : Oper} {D : List (Tmp × Value)} (x : AtF (KeepsN W) F ops o D), x.w.cell? ⟨N, 2, none⟩ = some (.slice ad1 ws1.length cap1) := fun x => AtF.cell p2w x
  have q0 : ∀ {ops : Array Oper} {F : Tmp → Value → World → Prop} {o : Oper} {D : List (Tmp × Value)} (x : AtF (KeepsN W) F ops o D), x.w.cell? ⟨M, 0, none⟩ = some (.int .i64 d) := fun x => AtF.cell q0w x
  have q1 : ∀ {ops : Array Oper} {F : Tmp → Value → World → Prop} {o : Oper} {D : List (Tmp × Value)} (x : AtF (KeepsN W) F ops o D), x.w.cell? ⟨M, 1, none⟩ = some (.int .i64 a2) := fun x => AtF.cell q1w x
  have q2 : ∀ {ops : Array Oper} {F : Tmp → Value → World → Prop} {o : Oper} {D : List (Tmp × Value)} (x : AtF (KeepsN W) F ops o D), x.w.cell? ⟨M, 2, none⟩ = some (.slice ad2 ws2.length cap2) := fun x => AtF.cell q2w x
  clear p0w p1w p2w q0w q1w q2w B5 C5
  obtain ⟨b1, hb1⟩ : ∃ b, sameB c a1 ws1 d a2 ws2 = b := ⟨_, rfl⟩
  obtain ⟨b2, hb2⟩ : ∃ b, sameB d a2 ws2 c a1 ws1 = b := ⟨_, rfl⟩
  have HB1 := Lib.hid hb1
  have HB2 := Lib.hid hb2
  clear hb1 hb2
  refine wp_region_K [(43, fun v _ => v = .bool b1), (46, fun v _ => v = .bool b1), (51, fun v _ => v = .bool true), (56, fun v _ => v = .bool b2), (59, fun v _ => v = .bool b2)] ?_ (by kernel_rfl) (by kernel_rfl) ?_
  · intro p hp
    simp only [List.mem_cons, List.not_mem_nil, or_false] at hp
    rcases hp with rfl | rfl | rfl | rfl | rfl <;> exact Stays.pure _
  repeat (first | (refine wpF_skip rfl ?_) | (refine wpF_plain rfl rfl rfl ?_; intro ne K hK; go_big_quiet_op; go_big_quiet_on; clear ne))
  refine wpF_call rfl rfl ?_ ?_
  · intro x hx hf
    refine gives_hide (fun R hR => ?_)
    clear p0 p1 p2 q0 q1 q2
    go_simp
    refine (same_of _ _ _ _ _ _ _ _ _ _ _ (HG5.out.keeps hx) (OK5.out.keeps hx) (OJ5.out.keeps hx)).mono ?_
    rintro e w' ⟨rfl, hk⟩
    rw [HB1.out]
    exact ⟨_, rfl, hR _ _ ⟨hk, rfl⟩⟩
  rintro v ⟨y, hy, hF⟩
  obtain rfl : v = .bool b1 := hF (43, v) List.mem_cons_self
  clear hy hF y
  simp only [Act.put, List.setIfInBounds_toArray, List.set_cons_succ, List.set_cons_zero]
  repeat (first | (refine wpF_skip rfl ?_) | (refine wpF_plain rfl rfl rfl ?_; intro ne K hK; go_big_quiet_op; go_big_quiet_on; clear ne))
  refine wpF_call rfl rfl ?_ ?_
  · intro x hx hf
    refine gives_hide (fun R hR => ?_)
    clear p0 p1 p2 q0 q1 q2
    go_simp
    refine (refSame_any _ _ _ _ _ _ _ _ _ (OK5.out.keeps hx).rd (OJ5.out.keeps hx).rd).mono ?_
    rintro e w' ⟨rfl, hk⟩
    rw [HB1.out]
    exact ⟨_, rfl, hR _ _ ⟨hk, rfl⟩⟩
  rintro v ⟨y, hy, hF⟩
  obtain rfl : v = .bool b1 := hF (46, v) List.mem_cons_self
  clear hy hF y
  simp only [Act.put, List.setIfInBounds_toArray, List.set_cons_succ, List.set_cons_zero]
  repeat (first | (refine wpF_skip rfl ?_) | (refine wpF_plain rfl rfl rfl ?_; intro ne K hK; go_big_quiet_op; go_big_quiet_on; clear ne))
  refine wpF_call rfl rfl ?_ ?_
  · intro x hx hf
    refine gives_hide (fun R hR => ?_)
    clear p0 p1 p2 q0 q1 q2
    go_simp
    refine (same_of _ _ _ _ _ _ _ _ _ _ _ (HG5.out.keeps hx) (OK5.out.keeps hx) (OK5.out.keeps hx)).mono ?_
    rintro e w' ⟨rfl, hk⟩
    rw [sameB_refl]
    exact ⟨_, rfl, hR _ _ ⟨hk, rfl⟩⟩
  rintro v ⟨y, hy, hF⟩
  obtain rfl : v = .bool true := hF (51, v) List.mem_cons_self
  clear hy hF y
  simp only [Act.put, List.setIfInBounds_toArray, List.set_cons_succ, List.set_cons_zero]
  repeat (first | (refine wpF_skip rfl ?_) | (refine wpF_plain rfl rfl rfl ?_; intro ne K hK; go_big_quiet_op; go_big_quiet_on; clear ne))
  refine wpF_call rfl rfl ?_ ?_
  · intro x hx hf
    refine gives_hide (fun R hR => ?_)
    clear p0 p1 p2 q0 q1 q2
    go_simp
    refine (same_of _ _ _ _ _ _ _ _ _ _ _ (HG5.out.keeps hx) (OJ5.out.keeps hx) (OK5.out.keeps hx)).mono ?_
    rintro e w' ⟨rfl, hk⟩
    rw [HB2.out]
    exact ⟨_, rfl, hR _ _ ⟨hk, rfl⟩⟩
  rintro v ⟨y, hy, hF⟩
  obtain rfl : v = .bool b2 := hF (56, v) List.mem_cons_self
  clear hy hF y
  simp only [Act.put, List.setIfInBounds_toArray, List.set_cons_succ, List.set_cons_zero]
  repeat (first | (refine wpF_skip rfl ?_) | (refine wpF_plain rfl rfl rfl ?_; intro ne K hK; go_big_quiet_op; go_big_quiet_on; clear ne))
  refine wpF_call rfl rfl ?_ ?_
  · intro x hx hf
    refine gives_hide (fun R hR => ?_)
    clear p0 p1 p2 q0 q1 q2
    go_simp
    refine (refSame_any _ _ _ _ _ _ _ _ _ (OJ5.out.keeps hx).rd (OK5.out.keeps hx).rd).mono ?_
    rintro e w' ⟨rfl, hk⟩
    rw [HB2.out]
    exact ⟨_, rfl, hR _ _ ⟨hk, rfl⟩⟩
  rintro v ⟨y, hy, hF⟩
  obtain rfl : v = .bool b2 := hF (59, v) List.mem_cons_self
  clear hy hF y
  simp only [Act.put, List.setIfInBounds_toArray, List.set_cons_succ, List.set_cons_zero]
  repeat (first | (refine wpF_skip rfl ?_) | (refine wpF_plain rfl rfl rfl ?_; intro ne K hK; go_big_quiet_op; go_big_quiet_on; clear ne))
  refine wpF_nil ?_
  intro w' hw' hF
  have KF : Hid (Keeps w w' (fun _ => False)) := Lib.hid (K5.out.trans hw')
  clear hw' hF
  go_wp2
  go_ret
  exact ⟨rfl, KF.out⟩
set_option maxRecDepth 20000 in
theorem walk_long (c d a p : Int) (ws zs : List ByteArray) (v u : Value) (w : World) (hws : RdV w v (ws.map Value.string)) (hzs : RdV w u (zs.map Value.string)) (hl : 20 < ws.length ∨ 20 < zs.length) (hg : ErrT w) :
    Calls Tryd.prog 4 #[.int .i64 c, .int .i64 d, .int .i64 a, .int .i64 p, v, u] w fun e w' => e = .returned (.bool true) ∧ Keeps w w' (fun _ => False) := by
  obtain ⟨ad, cap, e1, _, _⟩ := hws.form
  obtain ⟨bd, cbp, e2, _, _⟩ := hzs.form
  have m1 := hws.len
  have m2 := hzs.len
  unfold maxLen at m1 m2
  rw [List.length_map] at e1 e2 m1 m2
  subst e1
  subst e2
  have HG := Lib.hid hg
  clear hws hzs hg
  by_cases h1 : 20 < ws.length
  · clear hl
    go_enter Tryd.func4, Tryd.ntmps4
    go_wp2_with fail
    refine (awake01 _ HG.out).mono ?_
    rintro e w1 ⟨rfl, hk⟩
    have K1 := Lib.hid hk
    clear hk
    go_wp2_with fail
    go_ret
    exact ⟨rfl, K1.out⟩
  · have h2 : 20 < zs.length := hl.resolve_left h1
    clear hl
    go_enter Tryd.func4, Tryd.ntmps4
    go_wp2_with fail
    refine (awake01 _ HG.out).mono ?_
    rintro e w1 ⟨rfl, hk⟩
    have K1 := Lib.hid hk
    clear hk
    go_wp2_with fail
    go_ret
    exact ⟨rfl, K1.out⟩
theorem walk (c d a p : Int) (ws zs : List ByteArray) (v u : Value) (w : World) (hws : RdV w v (ws.map Value.string)) (hzs : RdV w u (zs.map Value.string)) (hg : ErrT w) :
    Calls Tryd.prog 4 #[.int .i64 c, .int .i64 d, .int .i64 a, .int .i64 p, v, u] w fun e w' => e = .returned (.bool true) ∧ Keeps w w' (fun _ => False) := by
  by_cases hl : ws.length ≤ 20
  · by_cases hm : zs.length ≤ 20
    · exact walk_mid c d a p ws zs v u w hws hzs hl hm hg
    · exact walk_long c d a p ws zs v u w hws hzs (.inr (by omega)) hg
  · exact walk_long c d a p ws zs v u w hws hzs (.inl (by omega)) hg
end Go.Proofs.YtjjokjdhllgohaaDoor.oopsSame
