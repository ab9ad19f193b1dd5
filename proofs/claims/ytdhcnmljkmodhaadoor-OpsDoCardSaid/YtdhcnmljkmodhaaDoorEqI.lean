/- slices.Equal over ints. -/
import Derived.Test.YtdhcnmljkmodhaaDoorRows
import Derived.Test.YtdhcnmljkmodhaaDoorLst
import Derived.Deep.QuietTactic
import Derived.BigQuiet
namespace Go.Proofs.YtdhcnmljkmodhaaDoor
set_option linter.unusedSectionVars false
set_option linter.unusedVariables false
set_option linter.unusedSimpArgs false
open Go.RowKit

theorem list_eq_iffI (l1 l2 : List Int) (hl : l1.length = l2.length) (h : ∀ j (h1 : j < l1.length) (h2 : j < l2.length), l1[j] = l2[j]) : l1 = l2 := List.ext_getElem hl h
set_option maxHeartbeats 1000000 in
theorem equalI_len (l1 l2 : List Int) (v1 v2 : Value) (w : World) (h1 : RdV w v1 (l1.map (Value.int .i64))) (h2 : RdV w v2 (l2.map (Value.int .i64))) (hl : l1.length ≠ l2.length) :
    Calls Tryd.prog 17 #[v1, v2] w fun e w' => e = .returned (.bool (decide (l1 = l2))) ∧ Keeps w w' (fun _ => False) := by
  have hd : decide (l1 = l2) = false := decide_eq_false (fun e => hl (by rw [e]))
  rw [hd]
  obtain ⟨a1, c1, e1, _, _⟩ := h1.form
  obtain ⟨a2, c2, e2, _, _⟩ := h2.form
  rw [List.length_map] at e1 e2
  subst e1
  subst e2
  clear h1 h2 hd
  go_enter Tryd.func17, Tryd.ntmps17
  go_wp2
  go_ret
  exact ⟨rfl, Keeps.refl _ _⟩
set_option maxHeartbeats 2000000 in
theorem equalI_same (l1 l2 : List Int) (v1 v2 : Value) (w : World) (h1 : RdV w v1 (l1.map (Value.int .i64))) (h2 : RdV w v2 (l2.map (Value.int .i64))) (hl : l1.length = l2.length) :
    Calls Tryd.prog 17 #[v1, v2] w fun e w' => e = .returned (.bool (decide (l1 = l2))) ∧ Keeps w w' (fun _ => False) := by
  obtain ⟨a1, c1, e1, _, _⟩ := h1.form
  obtain ⟨a2, c2, e2, _, _⟩ := h2.form
  have hm := h1.len
  unfold maxLen at hm
  rw [List.length_map] at e1 e2 hm
  rw [← hl] at e2
  subst e1
  subst e2
  have H1 := Lib.hid h1
  have H2 := Lib.hid h2
  have HL := Lib.hid hl
  clear h1 h2 hl
  have HD : Hid (∀ k (hk : k < l1.length) (hk2 : k < l2.length), ∃ g1 o1 g2 o2, a1 = some ⟨g1, o1, none⟩ ∧ a2 = some ⟨g2, o2, none⟩ ∧ w.cell? ⟨g1, o1 + k, none⟩ = some ((Value.int .i64) l1[k]) ∧ w.cell? ⟨g2, o2 + k, none⟩ = some ((Value.int .i64) l2[k])) := Lib.hid (fun k hk hk2 => by
    obtain ⟨g1, o1, rfl, _, _, x1⟩ := H1.out.at (by simp; omega)
    obtain ⟨g2, o2, rfl, _, _, x2⟩ := H2.out.at (by simp; omega)
    exact ⟨g1, o1, g2, o2, rfl, rfl, x1 k _ (by simp [hk]), x2 k _ (by simp [hk2])⟩)
  clear H1 H2
  go_enter Tryd.func17, Tryd.ntmps17
  go_wp2
  go_loopw [13] (fun i wr => ∃ k : Nat, k ≤ l1.length ∧ i = .int .i64 k ∧ (∃ q, wr = w.drewN q) ∧ ∀ j (hj : j < l1.length) (hj2 : j < l2.length), j < k → l1[j] = l2[j]) (fun i _ => l1.length - (intOf i).toNat)
  case atStart => exact ⟨0, Nat.zero_le _, rfl, ⟨0, rfl⟩, fun j _ _ h => by omega⟩
  case round =>
    obtain ⟨k, hk, rfl, ⟨q, rfl⟩, hall⟩ := hrel
    have HA := Lib.hid hall
    clear hall
    by_cases hlt : k < l1.length
    · have hlt2 : k < l2.length := by rw [← HL.out]; exact hlt
      obtain ⟨g1, o1, g2, o2, rfl, rfl, x1, x2⟩ := HD.out k hlt hlt2
      clear HD
      by_cases heq : l1[k] = l2[k]
      · have HQ := Lib.hid heq
        rw [← heq] at x2
        clear heq
        go_wp2
        go_quiet (fail)
        go_wp2
        go_roundw
        case rel =>
          refine ⟨k + 1, by omega, by go_num, ⟨_, rfl⟩, fun j hj hj2 hjk => ?_⟩
          by_cases hjk' : j = k
          · subst hjk'; exact HQ.out
          · exact HA.out j hj hj2 (by omega)
        case measure => simp [intOf]; omega
      · have hne := heq
        have hd : decide (l1 = l2) = false := decide_eq_false (fun e => hne (by subst e; rfl))
        have HH := Lib.hid hd
        have hq : ((l1[k] : Int) == l2[k]) = false := by simpa using hne
        have hq2 : ¬ ((l1[k] : Int) = l2[k]) := hne
        clear heq hne hd HA
        go_wp2
        go_quiet (fail)
        go_wp2
        go_ret
        exact ⟨by rw [HH.out]; rfl, ((Keeps.refl _ _).drewN _).drewN _⟩
    · have hd : decide (l1 = l2) = true := decide_eq_true (list_eq_iffI l1 l2 HL.out (fun j hj hj2 => HA.out j hj hj2 (by omega)))
      have HH := Lib.hid hd
      clear hd HA HD
      go_wp2
      go_ret
      exact ⟨by rw [HH.out]; rfl, (Keeps.refl _ _).drewN _⟩
theorem equalI_any (l1 l2 : List Int) (v1 v2 : Value) (w : World) (h1 : RdV w v1 (l1.map (Value.int .i64))) (h2 : RdV w v2 (l2.map (Value.int .i64))) :
    Calls Tryd.prog 17 #[v1, v2] w fun e w' => e = .returned (.bool (decide (l1 = l2))) ∧ Keeps w w' (fun _ => False) := by
  by_cases hl : l1.length = l2.length
  · exact equalI_same l1 l2 v1 v2 w h1 h2 hl
  · exact equalI_len l1 l2 v1 v2 w h1 h2 hl
end Go.Proofs.YtdhcnmljkmodhaaDoor
