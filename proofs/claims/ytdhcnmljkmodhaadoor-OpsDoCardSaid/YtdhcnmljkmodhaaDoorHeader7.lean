/- The walk of header.Onto. -/
import Derived.Test.YtdhcnmljkmodhaaDoorHeaderOpen
namespace Go.Proofs.YtdhcnmljkmodhaaDoor
set_option linter.unusedSectionVars false
set_option linter.unusedVariables false
set_option linter.unusedSimpArgs false
open Go.RowKit
/-- What Onto has put together ahead of the kind k. -/
def ontoT (a : Int) : Nat → BSet
  | 0 => BSet.empty
  | 1 => BSet.empty
  | k + 2 => if mayL a (k + 1 : Nat) then (ontoT a (k + 1)).withN (k + 1 : Nat) else ontoT a (k + 1)
theorem ontoT_succ (a : Int) (k : Nat) (hk : 1 ≤ k) : ontoT a (k + 1) = if mayL a k then (ontoT a k).withN k else ontoT a k := by
  match k, hk with
  | k + 1, _ => rfl
theorem onto_below (a : Int) : ontoT a 4 = belowS a := by
  by_cases h3 : a = 3
  · subst h3; kernel_rfl
  · by_cases h2 : a = 2
    · subst h2; kernel_rfl
    · have hm : ∀ b, mayL a b = false := fun b => by unfold mayL; simp [h2, h3]
      have e : belowS a = BSet.empty := by unfold belowS; rw [if_neg h3, if_neg h2]; rfl
      rw [e]
      simp [ontoT, hm]
set_option maxHeartbeats 1000000 in
theorem onto_any (a : Int) (w : World) : Calls Tryd.prog 44 #[.int .i64 a] w fun e w' => e = .returned (belowS a).val ∧ Keeps w w' (fun _ => False) := by
  rw [← onto_below a]
  have I0 := Lib.hid (upto_start w)
  have hu : (uptoM 0) = ontoT a 1 := rfl
  rw [hu] at I0
  go_enter Tryd.func44, Tryd.ntmps44
  go_wp2_with fail
  go_loopw [4] (fun t4 wr => ∃ k : Nat, t4 = .int .i64 k ∧ 1 ≤ k ∧ k ≤ 4 ∧ wr.heap[w.heap.size + 1]? = some (.cells (ontoT a k).cells 57 (0, 0)) ∧ wr.heap[w.heap.size]? = some (.cells BSet.empty.cells 57 (0, 0)) ∧ Keeps w wr (fun _ => False)) (fun t4 _ => 4 - (intOf t4).toNat)
  case atStart => exact ⟨1, rfl, by omega, by omega, I0.out⟩
  case round =>
    obtain ⟨k, rfl, hk1, hk, hb, hb0, hkp⟩ := hrel
    have GB := Lib.hid hb
    have GB0 := Lib.hid hb0
    have GK := Lib.hid hkp
    have hsz := block_lt hb
    clear hb0 hkp I0 hu
    by_cases hlt : k < 4
    · have hle : (k : Int) ≤ 3 := by omega
      have Hst := Lib.hid (ontoT_succ a k hk1)
      have hh := Lib.hid (below_has a k)
      clear hb
      go_wp2_with fail
      refine (below_any a _).mono ?_
      rintro e w2 ⟨rfl, k2⟩
      have hb2 : w2.heap[w.heap.size + 1]? = some (.cells (ontoT a k).cells 57 (0, 0)) := (k2.block _ hsz id).trans GB.out
      have hb20 : w2.heap[w.heap.size]? = some (.cells BSet.empty.cells 57 (0, 0)) := (k2.block _ (by omega) id).trans GB0.out
      have GB2 := Lib.hid hb2
      have GB20 := Lib.hid hb20
      have K2 := Lib.hid (GK.out.trans k2)
      have hsz2 := block_lt hb2
      clear hb2 hb20 k2 GB GB0 GK
      go_wp2_with fail
      refine (has_any _ _ _).mono ?_
      rintro e w3 ⟨rfl, k3⟩
      rw [hh.out]
      have hb3 : w3.heap[w.heap.size + 1]? = some (.cells (ontoT a k).cells 57 (0, 0)) := (k3.block _ hsz2 id).trans GB2.out
      have hb30 : w3.heap[w.heap.size]? = some (.cells BSet.empty.cells 57 (0, 0)) := (k3.block _ (by omega) id).trans GB20.out
      have GB3 := Lib.hid hb3
      have GB30 := Lib.hid hb30
      have K3 := Lib.hid (K2.out.trans k3)
      have hsz3 := block_lt hb3
      have x0 : w3.cell? ⟨w.heap.size + 1, 0, none⟩ = some (.int .u64 (ontoT a k).lo.toNat) := by rw [cell_at hb3]; rfl
      have x1 : w3.cell? ⟨w.heap.size + 1, 1, none⟩ = some (.int .u64 (ontoT a k).hi.toNat) := by rw [cell_at hb3]; rfl
      clear hb3 hb30 k3 GB2 GB20 K2 hh
      cases hm : mayL a k
      · have hs2 : Hid (ontoT a (k + 1) = ontoT a k) := Lib.hid (by rw [Hst.out, if_neg (by rw [hm]; decide)])
        clear Hst hm
        go_wp2_with fail
        go_roundw
        case rel => exact ⟨k + 1, by go_num, by omega, by omega, by rw [hs2.out]; exact GB3.out, GB30.out, K3.out⟩
        case measure => simp [intOf]; omega
      · have hs2 : Hid (ontoT a (k + 1) = (ontoT a k).withN k) := Lib.hid (by rw [Hst.out, if_pos hm])
        clear Hst hm
        go_wp2_with fail
        refine (with_any (ontoT a k) k _).mono ?_
        rintro e w4 ⟨rfl, k4⟩
        have hb2 : w4.heap[w.heap.size + 1]? = some (.cells (ontoT a k).cells 57 (0, 0)) := (k4.block _ hsz3 id).trans GB3.out
        have hb20 : w4.heap[w.heap.size]? = some (.cells BSet.empty.cells 57 (0, 0)) := (k4.block _ (by omega) id).trans GB30.out
        have z0 : w4.cell? ⟨w.heap.size + 1, 0, none⟩ = some (.int .u64 (ontoT a k).lo.toNat) := by rw [cell_at hb2]; rfl
        have z1 : w4.cell? ⟨w.heap.size + 1, 1, none⟩ = some (.int .u64 (ontoT a k).hi.toNat) := by rw [cell_at hb2]; rfl
        have zf : ∀ o, w4.frozen? ⟨w.heap.size + 1, o, none⟩ = false := free_at hb2
        have fin : ∀ W, W = (w4.setCell ⟨w.heap.size + 1, 0, none⟩ (.int .u64 ((ontoT a k).withN k).lo.toNat)).setCell ⟨w.heap.size + 1, 1, none⟩ (.int .u64 ((ontoT a k).withN k).hi.toNat) → W.heap[w.heap.size + 1]? = some (.cells (ontoT a (k + 1)).cells 57 (0, 0)) ∧ W.heap[w.heap.size]? = some (.cells BSet.empty.cells 57 (0, 0)) ∧ Keeps w W (fun _ => False) := by
          rintro W rfl
          refine ⟨?_, ?_, ((K3.out.trans k4).setCell (fun h => absurd h (by simp)) _).setCell (fun h => absurd h (by simp)) _⟩
          · rw [setCell_heap (setCell_heap hb2 0 _) 1 _, hs2.out]; rfl
          · rw [Below.heap_setCell _ _ _ _ (by simp), Below.heap_setCell _ _ _ _ (by simp)]; exact hb20
        have Fin := Lib.hid fin
        clear fin hb2 hb20 k4 x0 x1 GB3 GB30 K3
        unfold BSet.val
        go_wp2_with fail
        go_roundw
        case rel => exact ⟨k + 1, by go_num, by omega, by omega, Fin.out _ rfl⟩
        case measure => simp [intOf]; omega
    · obtain rfl : k = 4 := by omega
      have x0 : wr.cell? ⟨w.heap.size + 1, 0, none⟩ = some (.int .u64 (ontoT a 4).lo.toNat) := by rw [cell_at hb]; rfl
      have x1 : wr.cell? ⟨w.heap.size + 1, 1, none⟩ = some (.int .u64 (ontoT a 4).hi.toNat) := by rw [cell_at hb]; rfl
      have y0 : wr.cell? ⟨w.heap.size, 0, none⟩ = some (.int .u64 0) := by rw [cell_at GB0.out]; rfl
      have y1 : wr.cell? ⟨w.heap.size, 1, none⟩ = some (.int .u64 0) := by rw [cell_at GB0.out]; rfl
      have yf : ∀ o, wr.frozen? ⟨w.heap.size, o, none⟩ = false := free_at GB0.out
      clear hb
      go_wp2
      refine bodyPost_ret (v := (ontoT a 4).val) (by simp [results, Tryd.results44, go_sem, BSet.val, y0, y1, hsz]) rfl ⟨rfl, ?_⟩
      exact (GK.out.setCell (fun h => absurd h (by simp)) _).setCell (fun h => absurd h (by simp)) _
end Go.Proofs.YtdhcnmljkmodhaaDoor
