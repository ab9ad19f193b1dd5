/- The walk of law 9's awake. -/
import Derived.Test.YtdhcnmljkmodhaaDoorHeader4
namespace Go.Proofs.YtdhcnmljkmodhaaDoor
set_option linter.unusedSectionVars false
set_option linter.unusedVariables false
set_option linter.unusedSimpArgs false
open Go.RowKit

set_option maxHeartbeats 400000 in
theorem word3 (w : World) : Calls Tryd.prog 51 #[.int .i64 3] w fun e w' => e = .returned (.string ⟨#[109, 112, 108, 115]⟩) ∧ w = w' := by
  go_enter Tryd.func51, Tryd.ntmps51
  go_wp2
  go_ret
  exact ⟨rfl, rfl⟩
theorem litI (w : World) (l : List Int) (cs : Array Value) (hcs : cs = (l.map (Value.int .i64)).toArray) (n : Nat) (hn : n = l.length) (hl : l.length ≤ 1000) : ReadsI (w.alloc (.cells cs 3)) (.slice (some ⟨w.heap.size, 0, none⟩) n n) l := by
  subst hcs hn
  exact ReadsI.lit w l _ hl

theorem awake7 (w : World) (hT : TabOk w) : Calls Tryd.prog 50 #[] w fun e w' => e = .returned (.bool true) ∧ Keeps w w' (fun _ => False) := by
  have GT := Lib.hid hT
  clear hT
  go_enter Tryd.func50, Tryd.ntmps50
  go_wp2_with fail
  refine (awake07 _ GT.out).mono ?_
  rintro e w1 ⟨rfl, k1⟩
  go_wp2
  go_ret
  exact ⟨rfl, k1⟩

set_option maxHeartbeats 1000000 in
theorem awake09 (w : World) (hT : TabOk w) : Calls Tryd.prog 39 #[] w fun e w' => e = .returned (.bool true) ∧ Keeps w w' (fun _ => False) := by
  have GT := Lib.hid hT
  have HA := Lib.hid (litI w [1, 2, 3] #[.int .i64 1, .int .i64 2, .int .i64 3] rfl 3 rfl (by simp))
  have e1 : Hid (validL [1, 2, 3] [2, 1, 0] = true) := Lib.hid (by decide)
  have e2 : Hid (validL [1, 2, 3] [2, 0] = false) := Lib.hid (by decide)
  clear hT
  go_enter Tryd.func39, Tryd.ntmps39
  go_wp2_with fail
  refine (awake7 _ (GT.out.keeps ((Keeps.refl _ _).alloc _))).mono ?_
  rintro e w1 ⟨rfl, k1⟩
  have HA1 := Lib.hid (HA.out.keeps k1)
  have K1 : Hid (Keeps w w1 (fun _ => False)) := Lib.hid (((Keeps.refl _ _).alloc _).trans k1)
  clear k1 HA
  go_wp2_with fail
  refine (valid_any _ _ _ [1, 2, 3] [2, 1, 0] (HA1.out.keeps ((Keeps.refl _ _).alloc _)) (litI w1 [2, 1, 0] _ rfl _ rfl (by simp))).mono ?_
  rintro e w2 ⟨rfl, k2⟩
  have HA2 := Lib.hid (HA1.out.keeps (((Keeps.refl _ _).alloc _).trans k2))
  have K2 : Hid (Keeps w w2 (fun _ => False)) := Lib.hid (K1.out.trans (((Keeps.refl _ _).alloc _).trans k2))
  clear k2 HA1 K1
  rw [e1.out]
  go_wp2_with fail
  refine (valid_any _ _ _ [1, 2, 3] [2, 0] (HA2.out.keeps ((Keeps.refl _ _).alloc _)) (litI w2 [2, 0] _ rfl _ rfl (by simp))).mono ?_
  rintro e w3 ⟨rfl, k3⟩
  have K3 : Hid (Keeps w w3 (fun _ => False)) := Lib.hid (K2.out.trans (((Keeps.refl _ _).alloc _).trans k3))
  clear k3 HA2 K2
  rw [e2.out]
  go_wp2_with fail
  refine (word3 _).mono ?_
  rintro e w4 ⟨rfl, rfl⟩
  go_wp2_with fail
  go_ret
  exact ⟨rfl, K3.out⟩
end Go.Proofs.YtdhcnmljkmodhaaDoor
