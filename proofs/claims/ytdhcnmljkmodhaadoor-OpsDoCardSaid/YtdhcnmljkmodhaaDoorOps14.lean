/- The awake of layer 10. -/
import Derived.Test.YtdhcnmljkmodhaaDoorOps13
import Derived.Test.YtdhcnmljkmodhaaDoorOps3
import Derived.Test.YtdhcnmljkmodhaaDoorOps5
import Derived.Test.YtdhcnmljkmodhaaDoorEqI
namespace Go.Proofs.YtdhcnmljkmodhaaDoor
set_option linter.unusedSectionVars false
set_option linter.unusedVariables false
set_option linter.unusedSimpArgs false
set_option maxRecDepth 20000
open Go.RowKit

theorem encI_map (l : List Int) : l.flatMap encI = l.map (Value.int .i64) := by
  induction l with
  | nil => rfl
  | cons a r ih => rw [List.flatMap_cons, ih]; rfl
theorem ReadsI.rdv {w : World} {v : Value} {l : List Int} (h : ReadsI w v l) : RdV w v (l.map (Value.int .i64)) := by
  unfold RdV
  rw [List.length_map, ← encI_map]
  exact h
theorem ReadsI.ofV {w : World} {v : Value} {l : List Int} (h : RdV w v (l.map (Value.int .i64))) : ReadsI w v l := by
  unfold RdV at h
  rw [List.length_map, ← encI_map] at h
  exact h
/-- A chain of one op. -/
theorem RdO.lit1 (w : World) (k x : Int) (t : TypeId) : RdO (w.alloc (.cells #[.int .i64 k, .int .i64 x] t)) (.slice (some ⟨w.heap.size, 0, none⟩) 1 1) [(k, x)] := by
  have hb := heap_alloc_new w (.cells #[.int .i64 k, .int .i64 x] t)
  refine ⟨rfl, _, _, rfl, Nat.le_refl _, by unfold maxLen; decide, (fun h => by cases h), fun _ => ⟨_, _, rfl, block_lt hb, fun j u hj => ?_⟩⟩
  rw [Nat.zero_add, cell_at hb, ← Array.getElem?_toList]
  exact hj
theorem awDo : doL [1, 2, 3] [0] [(3, 1)] = some [1, 0] := by decide
theorem awCk : checkL [1, 2, 3] 0 [(1, 0)] = some (9, 0) := by kernel_rfl
set_option maxHeartbeats 4000000 in
theorem awake10 (w : World) (hT : TabOk w) (hE : ErrT w) : Calls Tryd.prog 7 #[] w fun e w' => e = .returned (.bool true) ∧ Keeps w w' (fun _ => False) := by
  have GT := Lib.hid hT
  have GE := Lib.hid hE
  clear hT hE
  have RK0 := Lib.hid (litI w [1, 2, 3] #[.int .i64 1, .int .i64 2, .int .i64 3] rfl 3 rfl (by simp))
  have K0 := Lib.hid ((Keeps.refl w (fun _ => False)).alloc (.cells #[.int .i64 1, .int .i64 2, .int .i64 3] 3))
  go_enter Tryd.func7, Tryd.ntmps7
  go_wp2_with fail
  have RH : Hid (ReadsI (((w.alloc (.cells #[.int .i64 1, .int .i64 2, .int .i64 3] 3)).alloc (.cells #[.int .i64 0] 3)).alloc (.cells #[.int .i64 3, .int .i64 1] 44)) (.slice (some ⟨w.heap.size + 1, 0, none⟩) 1 1) [0]) := Lib.hid (by
    have h := litI (w.alloc (.cells #[.int .i64 1, .int .i64 2, .int .i64 3] 3)) [0] #[.int .i64 0] rfl 1 rfl (by simp)
    rw [hs_alloc] at h
    exact h.keeps ((Keeps.refl _ _).alloc _))
  have RO : Hid (RdO (((w.alloc (.cells #[.int .i64 1, .int .i64 2, .int .i64 3] 3)).alloc (.cells #[.int .i64 0] 3)).alloc (.cells #[.int .i64 3, .int .i64 1] 44)) (.slice (some ⟨w.heap.size + 1 + 1, 0, none⟩) 1 1) [(3, 1)]) := Lib.hid (by
    have h := RdO.lit1 ((w.alloc (.cells #[.int .i64 1, .int .i64 2, .int .i64 3] 3)).alloc (.cells #[.int .i64 0] 3)) 3 1 44
    rw [hs_alloc, hs_alloc] at h
    exact h)
  have RK := Lib.hid (RK0.out.keeps (((Keeps.refl _ (fun _ => False)).alloc (.cells #[.int .i64 0] 3)).alloc (.cells #[.int .i64 3, .int .i64 1] 44)))
  have K1 := Lib.hid ((K0.out.alloc (.cells #[.int .i64 0] 3)).alloc (.cells #[.int .i64 3, .int .i64 1] 44))
  refine (do_any _ _ _ _ [1, 2, 3] [0] [(3, 1)] (by simp) RK.out RH.out RO.out).mono ?_
  rintro e w1 ⟨v, rfl, hk, hr⟩
  have R1 : Hid (ReadsI w1 v [1, 0]) := Lib.hid (by rw [awDo] at hr; exact hr)
  have K2 := Lib.hid (K1.out.trans hk)
  have RK2 := Lib.hid (RK.out.keeps hk)
  have hdo : (doL [1, 2, 3] [0] [(3, 1)]).isSome = true := by rw [awDo]; rfl
  rw [hdo]
  clear hk hr hdo RK RH RO K1 K0 RK0
  generalize w.heap.size = N at *
  go_wp2_with fail
  refine (awake1 _ (GE.out.keeps K2.out)).mono ?_
  rintro e w3 ⟨rfl, hk⟩
  have K3 := Lib.hid (K2.out.trans hk)
  have R3 := Lib.hid (R1.out.keeps hk)
  have RK3 := Lib.hid (RK2.out.keeps hk)
  clear hk R1 RK2 K2
  go_wp2_with fail
  refine (awake9 _ (GT.out.keeps K3.out)).mono ?_
  rintro e w4 ⟨rfl, hk⟩
  have K4 := Lib.hid (K3.out.trans hk)
  have R4 := Lib.hid (R3.out.keeps hk)
  have RK4 := Lib.hid (RK3.out.keeps hk)
  clear hk R3 RK3 K3
  go_wp2_with fail
  have KL : Hid (Keeps w4 (w4.alloc (.cells #[.int .i64 1, .int .i64 0] 3)) (fun _ => False)) := Lib.hid ((Keeps.refl _ _).alloc _)
  refine (equalI_any [1, 0] [1, 0] _ _ _ (R4.out.keeps KL.out).rdv (litI w4 [1, 0] #[.int .i64 1, .int .i64 0] rfl 2 rfl (by simp)).rdv).mono ?_
  rintro e w5 ⟨rfl, hk⟩
  have K5 := Lib.hid ((K4.out.trans KL.out).trans hk)
  have RK5 := Lib.hid ((RK4.out.keeps KL.out).keeps hk)
  clear hk R4 RK4 K4 KL
  rw [show decide (([1, 0] : List Int) = [1, 0]) = true from rfl]
  go_wp2_with fail
  have KM : Hid (Keeps w5 (w5.alloc (.cells #[.int .i64 1, .int .i64 0] 44)) (fun _ => False)) := Lib.hid ((Keeps.refl _ _).alloc _)
  refine (check_any _ _ _ [1, 2, 3] 0 [(1, 0)] (by simp) (RK5.out.keeps KM.out) (RdO.lit1 w5 1 0 44) ((GT.out.keeps K5.out).keeps KM.out)).mono ?_
  rintro e w6 ⟨u, rfl, hk, hv⟩
  rw [awCk] at hv
  have HV := Lib.hid hv
  have K6 := Lib.hid ((K5.out.trans KM.out).trans hk)
  clear hk hv K5 KM RK5
  go_wp2_with fail
  refine (is_any _ u (some (9, 0)) (GE.out.keeps K6.out) HV.out).mono ?_
  rintro e w7 ⟨rfl, hk⟩
  have K7 := Lib.hid (K6.out.trans hk)
  clear hk K6 HV
  go_wp2_with fail
  go_ret
  exact ⟨rfl, K7.out⟩
end Go.Proofs.YtdhcnmljkmodhaaDoor
