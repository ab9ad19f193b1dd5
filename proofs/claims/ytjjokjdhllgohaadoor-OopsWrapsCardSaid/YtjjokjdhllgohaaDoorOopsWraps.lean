/- OopsWraps returns true: an error of any number and place, within any words (at most 20), tells all of them; of no number it is none. errors.errorType reads as laid (tied by the card). -/
import Derived.Test.YtjjokjdhllgohaaDoorOops9
namespace Go.Proofs.YtjjokjdhllgohaaDoor.oopsWraps
set_option linter.unusedSectionVars false
set_option linter.unusedVariables false
set_option linter.unusedSimpArgs false
open Go.RowKit Go.Extern.Stop Go.Stop Go.Extern

set_option maxHeartbeats 4000000 in
theorem walk_zero (a : Int) (ws : List ByteArray) (v : Value) (w : World) (hws : RdV w v (ws.map Value.string)) (hl : ws.length ≤ 20) (hg : ErrT w) :
    Calls Tryd.prog 3 #[.int .i64 0, .int .i64 a, v] w fun e w' => e = .returned (.bool true) ∧ Keeps w w' (fun _ => False) := by
  obtain ⟨ad, cap, e1, _, _⟩ := hws.form
  rw [List.length_map] at e1
  subst e1
  have HW := Lib.hid hws
  have HG := Lib.hid hg
  clear hws hg
  go_enter Tryd.func3, Tryd.ntmps3
  go_wp2_with fail
  refine (awake01 _ HG.out).mono ?_
  rintro e w1 ⟨rfl, hk⟩
  have K1 := Lib.hid hk
  clear hk
  go_wp2_with fail
  refine (of_zero a ws _ _ (HW.out.keeps K1.out) hl).mono ?_
  rintro e w2 ⟨rfl, hk⟩
  have K2 := Lib.hid (K1.out.trans hk)
  clear hk K1
  go_wp2_with fail
  refine (code_nil _).mono ?_
  rintro e w3 ⟨rfl, hk⟩
  have K3 : Hid (Keeps w w3 (fun _ => False)) := Lib.hid ((K2.out.alloc _).trans hk)
  clear hk K2
  go_wp2_with fail
  refine (at_nil _).mono ?_
  rintro e w4 ⟨rfl, hk⟩
  have K4 := Lib.hid (K3.out.trans hk)
  clear hk K3
  go_wp2_with fail
  refine (words_nil _).mono ?_
  rintro e w5 ⟨rfl, hk⟩
  have K5 := Lib.hid (K4.out.trans hk)
  clear hk K4
  go_wp2_with fail
  go_ret
  exact ⟨rfl, K5.out⟩

set_option maxHeartbeats 4000000 in
theorem walk_some (c a : Int) (hc : (c == 0) = false) (ws : List ByteArray) (v : Value) (w : World) (hws : RdV w v (ws.map Value.string)) (hl : ws.length ≤ 20) (hg : ErrT w) :
    Calls Tryd.prog 3 #[.int .i64 c, .int .i64 a, v] w fun e w' => e = .returned (.bool true) ∧ Keeps w w' (fun _ => False) := by
  obtain ⟨ad, cap, e1, _, _⟩ := hws.form
  rw [List.length_map] at e1
  subst e1
  have HW := Lib.hid hws
  have HG := Lib.hid hg
  have hc0 : ¬ (c = 0) := by simpa using hc
  clear hws hg
  go_enter Tryd.func3, Tryd.ntmps3
  go_wp2_with fail
  refine (awake01 _ HG.out).mono ?_
  rintro e w1 ⟨rfl, hk⟩
  have K1 := Lib.hid hk
  clear hk
  go_wp2_with fail
  refine (of_some c a hc ws _ _ (HW.out.keeps K1.out) hl).mono ?_
  rintro e w2 ⟨l, g, rfl, hlw, hch, hk⟩
  have K2 := Lib.hid (K1.out.trans hk)
  have HL := Lib.hid hlw
  have HC := Lib.hid hch
  have hcode : EB.codeN (.fault g c a) = c := rfl
  have hat : EB.atN (.fault g c a) = a := rfl
  clear hk K1 hlw hch
  go_wp2_with fail
  have K3 := Lib.hid (K2.out.alloc (.cells #[.int .i64 c, .int .i64 a, .slice ad ws.length cap] 28))
  have B3 := heap_alloc_new w2 (.cells #[.int .i64 c, .int .i64 a, .slice ad ws.length cap] 28)
  have HC3 : Hid (ChainOk (w2.alloc (.cells #[.int .i64 c, .int .i64 a, .slice ad ws.length cap] 28)) l (.fault g c a)) := Lib.hid (HC.out.keeps ((Keeps.refl _ _).alloc _))
  generalize w2.alloc (.cells #[.int .i64 c, .int .i64 a, .slice ad ws.length cap] 28) = W at *
  generalize w2.heap.size = N at *
  have y0 : W.cell? ⟨N, 0, none⟩ = some (.int .i64 c) := by rw [cell_at B3]; rfl
  have y1 : W.cell? ⟨N, 1, none⟩ = some (.int .i64 a) := by rw [cell_at B3]; rfl
  have y2 : W.cell? ⟨N, 2, none⟩ = some (.slice ad ws.length cap) := by rw [cell_at B3]; rfl
  have x0 : ∀ {ops : Array Oper} {F : Tmp → Value → World → Prop} {o : Oper} {D : List (Tmp × Value)} (x : AtF (KeepsN W) F ops o D), x.w.cell? ⟨N, 0, none⟩ = some (.int .i64 c) := fun x => AtF.cell y0 x
  have x1 : ∀ {ops : Array Oper} {F : Tmp → Value → World → Prop} {o : Oper} {D : List (Tmp × Value)} (x : AtF (KeepsN W) F ops o D), x.w.cell? ⟨N, 1, none⟩ = some (.int .i64 a) := fun x => AtF.cell y1 x
  have x2 : ∀ {ops : Array Oper} {F : Tmp → Value → World → Prop} {o : Oper} {D : List (Tmp × Value)} (x : AtF (KeepsN W) F ops o D), x.w.cell? ⟨N, 2, none⟩ = some (.slice ad ws.length cap) := fun x => AtF.cell y2 x
  clear y0 y1 y2 B3
  refine wp_region_K [(46, fun v _ => v = .int .i64 c), (53, fun v _ => v = .int .i64 a), (60, fun v w => RdV w v (ws.map Value.string)), (63, fun v _ => v = .bool true)] ?_ (by kernel_rfl) (by kernel_rfl) ?_
  · intro p hp
    simp only [List.mem_cons, List.not_mem_nil, or_false] at hp
    rcases hp with rfl | rfl | rfl | rfl
    · exact Stays.pure _
    · exact Stays.pure _
    · exact fun v w w' h hk => RdV.keeps h hk
    · exact Stays.pure _
  repeat (first | (refine wpF_skip rfl ?_) | (refine wpF_plain rfl rfl rfl ?_; intro ne K hK; go_big_quiet_op; go_big_quiet_on; clear ne))
  refine wpF_call rfl rfl ?_ ?_
  · intro x hx hf
    refine gives_hide (fun R hR => ?_)
    clear x0 x1 x2
    go_simp
    refine (code_any _ _ _ (HG.out.keeps (K3.out.trans hx)) (HC3.out.keeps hx)).mono ?_
    rintro e w' ⟨rfl, hk⟩
    exact ⟨_, rfl, hR _ _ ⟨hk, rfl⟩⟩
  rintro v ⟨y, hy, hF⟩
  obtain rfl : v = .int .i64 c := hF (46, v) List.mem_cons_self
  clear hy hF y
  simp only [Act.put, List.setIfInBounds_toArray, List.set_cons_succ, List.set_cons_zero]
  repeat (first | (refine wpF_skip rfl ?_) | (refine wpF_plain rfl rfl rfl ?_; intro ne K hK; go_big_quiet_op; go_big_quiet_on; clear ne))
  refine wpF_call rfl rfl ?_ ?_
  · intro x hx hf
    refine gives_hide (fun R hR => ?_)
    clear x0 x1 x2
    go_simp
    refine (at_any _ _ _ (HG.out.keeps (K3.out.trans hx)) (HC3.out.keeps hx)).mono ?_
    rintro e w' ⟨rfl, hk⟩
    exact ⟨_, rfl, hR _ _ ⟨hk, rfl⟩⟩
  rintro v ⟨y, hy, hF⟩
  obtain rfl : v = .int .i64 a := hF (53, v) List.mem_cons_self
  clear hy hF y
  simp only [Act.put, List.setIfInBounds_toArray, List.set_cons_succ, List.set_cons_zero]
  repeat (first | (refine wpF_skip rfl ?_) | (refine wpF_plain rfl rfl rfl ?_; intro ne K hK; go_big_quiet_op; go_big_quiet_on; clear ne))
  refine wpF_call rfl rfl ?_ ?_
  · intro x hx hf
    refine gives_hide (fun R hR => ?_)
    clear x0 x1 x2
    go_simp
    refine (words_rd _ _ _ (HG.out.keeps (K3.out.trans hx)) (HC3.out.keeps hx) (by have := congrArg List.length HL.out; simp at this; omega)).mono ?_
    rintro e w' ⟨v, rfl, hk, hr⟩
    rw [HL.out] at hr
    exact ⟨_, rfl, hR _ _ ⟨hk, hr⟩⟩
  rintro v ⟨y, hy, hF⟩
  clear hy hF y
  simp only [Act.put, List.setIfInBounds_toArray, List.set_cons_succ, List.set_cons_zero]
  repeat (first | (refine wpF_skip rfl ?_) | (refine wpF_plain rfl rfl rfl ?_; intro ne K hK; go_big_quiet_op; go_big_quiet_on; clear ne))
  refine wpF_call rfl rfl ?_ ?_
  · intro x hx hf
    refine gives_hide (fun R hR => ?_)
    clear x0 x1 x2
    have hv : RdV x v (ws.map Value.string) := hf (60, v) (by simp) (of_decide_eq_true (by kernel_rfl))
    have HV := Lib.hid hv
    clear hf hv
    go_simp
    refine (equalS_any ws ws _ _ _ HV.out (HW.out.keeps (K3.out.trans hx))).mono ?_
    rintro e w' ⟨rfl, hk⟩
    rw [decide_eq_true rfl]
    exact ⟨_, rfl, hR _ _ ⟨hk, rfl⟩⟩
  rintro u ⟨y, hy, hF⟩
  obtain rfl : u = .bool true := hF (63, u) List.mem_cons_self
  clear hy hF y
  simp only [Act.put, List.setIfInBounds_toArray, List.set_cons_succ, List.set_cons_zero]
  repeat (first | (refine wpF_skip rfl ?_) | (refine wpF_plain rfl rfl rfl ?_; intro ne K hK; go_big_quiet_op; go_big_quiet_on; clear ne))
  refine wpF_nil ?_
  intro w' hw' hF
  have KF : Hid (Keeps w w' (fun _ => False)) := Lib.hid (K3.out.trans hw')
  clear hw' hF
  go_wp2
  go_ret
  exact ⟨rfl, KF.out⟩

theorem walk (c a : Int) (ws : List ByteArray) (v : Value) (w : World) (hws : RdV w v (ws.map Value.string)) (hg : ErrT w) :
    Calls Tryd.prog 3 #[.int .i64 c, .int .i64 a, v] w fun e w' => e = .returned (.bool true) ∧ Keeps w w' (fun _ => False) := by
  by_cases hl : ws.length ≤ 20
  · by_cases hc : c = 0
    · subst hc; exact walk_zero a ws v w hws hl hg
    · exact walk_some c a (by simpa using hc) ws v w hws hl hg
  · obtain ⟨ad, cap, e1, _, _⟩ := hws.form
    have hm := hws.len
    unfold maxLen at hm
    rw [List.length_map] at e1 hm
    subst e1
    clear hws
    have hl' : 20 < ws.length := by omega
    have HG := Lib.hid hg
    clear hg hl
    go_enter Tryd.func3, Tryd.ntmps3
    go_wp2_with fail
    refine (awake01 _ HG.out).mono ?_
    rintro e w1 ⟨rfl, hk⟩
    have K1 := Lib.hid hk
    clear hk
    go_wp2_with fail
    go_ret
    exact ⟨rfl, K1.out⟩
end Go.Proofs.YtjjokjdhllgohaaDoor.oopsWraps
