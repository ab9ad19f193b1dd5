/- The walks of Of and Upto. -/
import Derived.Test.YtdhcnmljkmodhaaDoorBits4
namespace Go.Proofs.YtdhcnmljkmodhaaDoor
set_option linter.unusedSectionVars false
set_option linter.unusedVariables false
set_option linter.unusedSimpArgs false
open Go.RowKit

def encI (i : Int) : List Value := [.int .i64 i]
def ofL (l : List Int) : BSet := l.foldl BSet.withN BSet.empty
theorem BSet.val_cells (s : BSet) : (.agg #[.int .u64 s.lo.toNat, .int .u64 s.hi.toNat] : Value) = s.val := rfl
/-- Of a slice that came in, or of the call's own: what a loop over it wants. -/
theorem ReadsC.cell1 {w : World} {a : Option Addr} {cap : Nat} {l : List Int} (h : ReadsC w 1 (.slice a l.length cap) l.length (l.flatMap encI)) (k : Nat) (hk : k < l.length) :
    ∃ g off, a = some ⟨g, off, none⟩ ∧ g < w.heap.size ∧ w.cell? ⟨g, off + k, none⟩ = some (.int .i64 l[k]) := by
  obtain ⟨_, a', cap', hv, _, _, _, h6⟩ := h
  simp only [Value.slice.injEq] at hv
  obtain ⟨rfl, _, rfl⟩ := hv
  obtain ⟨g, off, rfl, hg, hcs⟩ := h6 (by omega)
  refine ⟨g, off, rfl, hg, ?_⟩
  have := hcs (k * 1 + 0) (.int .i64 l[k]) (by rw [flatMap_get encI 1 (fun _ => rfl) l k 0 hk (by omega)]; rfl)
  rwa [Nat.add_zero, Nat.mul_one] at this

set_option maxHeartbeats 400000 in
theorem of_any (w : World) (v : Value) (l : List Int) (HA : ReadsC w 1 v l.length (l.flatMap encI)) : Calls Tryd.prog 31 #[v] w fun e w' => e = .returned (ofL l).val ∧ Keeps w w' (fun _ => False) := by
  obtain ⟨_, a, cap, rfl, hcap, hmax, _, _⟩ := id HA
  have hln : l.length ≤ 9223372036854775807 := by unfold maxLen at hmax; omega
  have GA := Lib.hid HA
  clear HA hmax
  have I0 : Hid ((((w.alloc (.cells #[.int .u64 0, .int .u64 0] 57)).alloc (.cells #[.int .u64 0, .int .u64 0] 57)).heap[w.heap.size + 1]? = some (.cells BSet.empty.cells 57 (0, 0))) ∧ (((w.alloc (.cells #[.int .u64 0, .int .u64 0] 57)).alloc (.cells #[.int .u64 0, .int .u64 0] 57)).heap[w.heap.size]? = some (.cells BSet.empty.cells 57 (0, 0))) ∧ Keeps w ((w.alloc (.cells #[.int .u64 0, .int .u64 0] 57)).alloc (.cells #[.int .u64 0, .int .u64 0] 57)) (fun _ => False)) := by
    refine ⟨?_, ?_, ((Keeps.refl _ _).alloc _).alloc _⟩
    · have := heap_alloc_new (w.alloc (.cells #[.int .u64 0, .int .u64 0] 57)) (.cells #[.int .u64 0, .int .u64 0] 57)
      rw [hs_alloc] at this; exact this
    · exact (Below.heap_alloc _ _ _ (by simp)).trans (heap_alloc_new w _)
  go_enter Tryd.func31, Tryd.ntmps31
  go_wp2
  go_loopw [8] (fun t8 wr => ∃ k : Nat, t8 = .int .i64 k ∧ k ≤ l.length ∧ wr.heap[w.heap.size + 1]? = some (.cells (ofL (l.take k)).cells 57 (0, 0)) ∧ wr.heap[w.heap.size]? = some (.cells BSet.empty.cells 57 (0, 0)) ∧ Keeps w wr (fun _ => False)) (fun t8 _ => l.length - (intOf t8).toNat)
  case atStart => exact ⟨0, rfl, Nat.zero_le _, I0.out⟩
  case round =>
    obtain ⟨k, rfl, hk, hb, hb0, hkp⟩ := hrel
    have GB := Lib.hid hb
    have GB0 := Lib.hid hb0
    have GK := Lib.hid hkp
    have x0 : wr.cell? ⟨w.heap.size + 1, 0, none⟩ = some (.int .u64 (ofL (l.take k)).lo.toNat) := by rw [cell_at hb]; rfl
    have x1 : wr.cell? ⟨w.heap.size + 1, 1, none⟩ = some (.int .u64 (ofL (l.take k)).hi.toNat) := by rw [cell_at hb]; rfl
    have y0 : wr.cell? ⟨w.heap.size, 0, none⟩ = some (.int .u64 0) := by rw [cell_at hb0]; rfl
    have y1 : wr.cell? ⟨w.heap.size, 1, none⟩ = some (.int .u64 0) := by rw [cell_at hb0]; rfl
    have yf : ∀ o, wr.frozen? ⟨w.heap.size, o, none⟩ = false := free_at hb0
    have hsz := block_lt hb
    clear hb hb0 hkp I0
    by_cases hlt : k < l.length
    · obtain ⟨g, off, rfl, hg, hc⟩ := (GA.out.keeps GK.out).cell1 k hlt
      have hstep : ofL (l.take (k + 1)) = (ofL (l.take k)).withN l[k] := by
        rw [List.take_succ_eq_append_getElem hlt]; unfold ofL; rw [List.foldl_append]; rfl
      have Hst := Lib.hid hstep
      clear hstep
      generalize l[k] = i at *
      go_wp2_with fail
      refine (with_any (ofL (l.take k)) i _).mono ?_
      rintro e w2 ⟨rfl, k2⟩
      have hb2 : w2.heap[w.heap.size + 1]? = some (.cells (ofL (l.take k)).cells 57 (0, 0)) := (k2.block _ hsz id).trans GB.out
      have hb20 : w2.heap[w.heap.size]? = some (.cells BSet.empty.cells 57 (0, 0)) := (k2.block _ (by omega) id).trans GB0.out
      have z0 : w2.cell? ⟨w.heap.size + 1, 0, none⟩ = some (.int .u64 (ofL (l.take k)).lo.toNat) := by rw [cell_at hb2]; rfl
      have z1 : w2.cell? ⟨w.heap.size + 1, 1, none⟩ = some (.int .u64 (ofL (l.take k)).hi.toNat) := by rw [cell_at hb2]; rfl
      have zf : ∀ o, w2.frozen? ⟨w.heap.size + 1, o, none⟩ = false := free_at hb2
      have fin : ∀ W, W = (w2.setCell ⟨w.heap.size + 1, 0, none⟩ (.int .u64 ((ofL (l.take k)).withN i).lo.toNat)).setCell ⟨w.heap.size + 1, 1, none⟩ (.int .u64 ((ofL (l.take k)).withN i).hi.toNat) → W.heap[w.heap.size + 1]? = some (.cells (ofL (l.take (k + 1))).cells 57 (0, 0)) ∧ W.heap[w.heap.size]? = some (.cells BSet.empty.cells 57 (0, 0)) ∧ Keeps w W (fun _ => False) := by
        rintro W rfl
        refine ⟨?_, ?_, ((GK.out.trans k2).setCell (fun h => absurd h (by simp)) _).setCell (fun h => absurd h (by simp)) _⟩
        · rw [setCell_heap (setCell_heap hb2 0 _) 1 _, Hst.out]; rfl
        · rw [Below.heap_setCell _ _ _ _ (by simp), Below.heap_setCell _ _ _ _ (by simp)]; exact hb20
      have Fin := Lib.hid fin
      clear fin hb2 hb20 k2 x0 x1 y0 y1 yf
      unfold BSet.val
      go_wp2_with fail
      go_roundw
      case rel => exact ⟨k + 1, by go_num, by omega, Fin.out _ rfl⟩
      case measure => simp [intOf]; omega
    · obtain rfl : k = l.length := by omega
      rw [List.take_length] at x0 x1
      go_wp2
      refine bodyPost_ret (v := (ofL l).val) (by simp [results, Tryd.results31, go_sem, BSet.val, y0, y1, hsz]) rfl ⟨rfl, ?_⟩
      exact (GK.out.setCell (fun h => absurd h (by simp)) _).setCell (fun h => absurd h (by simp)) _

def uptoM (m : Nat) : BSet := ofL ((List.range m).map (fun (i : Nat) => (i : Int)))
theorem uptoM_succ (k : Nat) : uptoM (k + 1) = (uptoM k).withN (k : Int) := by
  unfold uptoM ofL
  rw [List.range_succ, List.map_append, List.foldl_append]
  simp only [List.map_cons, List.map_nil, List.foldl_cons, List.foldl_nil]
theorem upto_start (w : World) : ((w.alloc (.cells #[.int .u64 0, .int .u64 0] 57)).alloc (.cells #[.int .u64 0, .int .u64 0] 57)).heap[w.heap.size + 1]? = some (.cells (uptoM 0).cells 57 (0, 0)) ∧ ((w.alloc (.cells #[.int .u64 0, .int .u64 0] 57)).alloc (.cells #[.int .u64 0, .int .u64 0] 57)).heap[w.heap.size]? = some (.cells BSet.empty.cells 57 (0, 0)) ∧ Keeps w ((w.alloc (.cells #[.int .u64 0, .int .u64 0] 57)).alloc (.cells #[.int .u64 0, .int .u64 0] 57)) (fun _ => False) := by
  have hz2 : BSet.empty.cells = #[.int .u64 0, .int .u64 0] := by
    unfold BSet.empty BSet.cells
    have h0 : ((0 : BitVec 64).toNat : Int) = 0 := by decide
    simp only [h0]
  have hz : (uptoM 0).cells = #[.int .u64 0, .int .u64 0] := hz2
  rw [hz, hz2]
  refine ⟨?_, ?_, ((Keeps.refl _ _).alloc _).alloc _⟩
  · have := heap_alloc_new (w.alloc (.cells #[.int .u64 0, .int .u64 0] 57)) (.cells #[.int .u64 0, .int .u64 0] 57)
    rw [hs_alloc] at this; exact this
  · exact (Below.heap_alloc _ _ _ (by simp)).trans (heap_alloc_new w _)
def uptoN (n : Int) : BSet := uptoM (min (max n 0) 128).toNat
end Go.Proofs.YtdhcnmljkmodhaaDoor
