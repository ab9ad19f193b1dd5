/- The walks of Of and Upto. -/
import Derived.Test.YtmmoopikglbmbaaDoorBits4
namespace Go.Proofs.YtmmoopikglbmbaaDoor
set_option linter.unusedSectionVars false
set_option linter.unusedVariables false
set_option linter.unusedSimpArgs false
open Go.RowKit

def encI (i : Int) : List Value := [.int .i64 i]
def ofL (l : List Int) : BSet := l.foldl BSet.withN BSet.empty
theorem BSet.val_cells (s : BSet) : (.agg #[.int .u64 s.lo.toNat, .int .u64 s.hi.toNat] : Value) = s.val := rfl
/-- Of a slice that came in, or of the call's own: what a loop over it wants. -/
theorem ReadsC.cell1 {w : World} {a : Option Addr} {cap : Nat} {l : List Int} (h : ReadsC w 1 (.slice a l.length cap) l.length (l.flatMap encI)) (k : Nat) (hk : k < l.length) :
    ∃ g off, a = some ⟨g, off, none⟩ ∧ g < w.heap.size ∧ w.cell? ⟨g, off + k, none⟩ = some (.int .i64 l[k]) := by
  obtain ⟨_, a', cap', hv, _, _, _, h6⟩ := h
  simp only [Value.slice.injEq] at hv
  obtain ⟨rfl, _, rfl⟩ := hv
  obtain ⟨g, off, rfl, hg, hcs⟩ := h6 (by omega)
  refine ⟨g, off, rfl, hg, ?_⟩
  have := hcs (k * 1 + 0) (.int .i64 l[k]) (by rw [flatMap_get encI 1 (fun _ => rfl) l k 0 hk (by omega)]; rfl)
  rwa [Nat.add_zero, Nat.mul_one] at this

set_option maxHeartbeats 400000 in
theorem of_any (w : World) (v : Value) (l : List Int) (HA : ReadsC w 1 v l.length (l.flatMap encI)) : Calls Tryd.prog 20 #[v] w fun e w' => e = .returned (ofL l).val ∧ Keeps w w' (fun _ => False) := by
  obtain ⟨_, a, cap, rfl, hcap, hmax, _, _⟩ := id HA
  have hln : l.length ≤ 9223372036854775807 := by unfold maxLen at hmax; omega
  have GA := Lib.hid HA
  clear HA hmax
  have I0 : Hid ((((w.alloc (.cells #[.int .u64 0, .int .u64 0] 24)).alloc (.cells #[.int .u64 0, .int .u64 0] 24)).heap[w.heap.size + 1]? = some (.cells BSet.empty.cells 24 (0, 0))) ∧ (((w.alloc (.cells #[.int .u64 0, .int .u64 0] 24)).alloc (.cells #[.int .u64 0, .int .u64 0] 24)).heap[w.heap.size]? = some (.cells BSet.empty.cells 24 (0, 0))) ∧ Keeps w ((w.alloc (.cells #[.int .u64 0, .int .u64 0] 24)).alloc (.cells #[.int .u64 0, .int .u64 0] 24)) (fun _ => False)) := by
    refine ⟨?_, ?_, ((Keeps.refl _ _).alloc _).alloc _⟩
    · have := heap_alloc_new (w.alloc (.cells #[.int .u64 0, .int .u64 0] 24)) (.cells #[.int .u64 0, .int .u64 0] 24)
      rw [hs_alloc] at this; exact this
    · exact (Below.heap_alloc _ _ _ (by simp)).trans (heap_alloc_new w _)
  go_enter Tryd.func20, Tryd.ntmps20
  go_wp2
  go_loopw [8] (fun t8 wr => ∃ k : Nat, t8 = .int .i64 k ∧ k ≤ l.length ∧ wr.heap[w.heap.size + 1]? = some (.cells (ofL (l.take k)).cells 24 (0, 0)) ∧ wr.heap[w.heap.size]? = some (.cells BSet.empty.cells 24 (0, 0)) ∧ Keeps w wr (fun _ => False)) (fun t8 _ => l.length - (intOf t8).toNat)
  case atStart => exact ⟨0, rfl, Nat.zero_le _, I0.out⟩
  case round =>
    obtain ⟨k, rfl, hk, hb, hb0, hkp⟩ := hrel
    have GB := Lib.hid hb
    have GB0 := Lib.hid hb0
    have GK := Lib.hid hkp
    have x0 : wr.cell? ⟨w.heap.size + 1, 0, none⟩ = some (.int .u64 (ofL (l.take k)).lo.toNat) := by rw [cell_at hb]; rfl
    have x1 : wr.cell? ⟨w.heap.size + 1, 1, none⟩ = some (.int .u64 (ofL (l.take k)).hi.toNat) := by rw [cell_at hb]; rfl
    have y0 : wr.cell? ⟨w.heap.size, 0, none⟩ = some (.int .u64 0) := by rw [cell_at hb0]; rfl
    have y1 : wr.cell? ⟨w.heap.size, 1, none⟩ = some (.int .u64 0) := by rw [cell_at hb0]; rfl
    have yf : ∀ o, wr.frozen? ⟨w.heap.size, o, none⟩ = false := free_at hb0
    have hsz := block_lt hb
    clear hb hb0 hkp I0
    by_cases hlt : k < l.length
    · obtain ⟨g, off, rfl, hg, hc⟩ := (GA.out.keeps GK.out).cell1 k hlt
      have hstep : ofL (l.take (k + 1)) = (ofL (l.take k)).withN l[k] := by
        rw [List.take_succ_eq_append_getElem hlt]; unfold ofL; rw [List.foldl_append]; rfl
      have Hst := Lib.hid hstep
      clear hstep
      generalize l[k] = i at *
      go_wp2_with fail
      refine (with_any (ofL (l.take k)) i _).mono ?_
      rintro e w2 ⟨rfl, k2⟩
      have hb2 : w2.heap[w.heap.size + 1]? = some (.cells (ofL (l.take k)).cells 24 (0, 0)) := (k2.block _ hsz id).trans GB.out
      have hb20 : w2.heap[w.heap.size]? = some (.cells BSet.empty.cells 24 (0, 0)) := (k2.block _ (by omega) id).trans GB0.out
      have z0 : w2.cell? ⟨w.heap.size + 1, 0, none⟩ = some (.int .u64 (ofL (l.take k)).lo.toNat) := by rw [cell_at hb2]; rfl
      have z1 : w2.cell? ⟨w.heap.size + 1, 1, none⟩ = some (.int .u64 (ofL (l.take k)).hi.toNat) := by rw [cell_at hb2]; rfl
      have zf : ∀ o, w2.frozen? ⟨w.heap.size + 1, o, none⟩ = false := free_at hb2
      have fin : ∀ W, W = (w2.setCell ⟨w.heap.size + 1, 0, none⟩ (.int .u64 ((ofL (l.take k)).withN i).lo.toNat)).setCell ⟨w.heap.size + 1, 1, none⟩ (.int .u64 ((ofL (l.take k)).withN i).hi.toNat) → W.heap[w.heap.size + 1]? = some (.cells (ofL (l.take (k + 1))).cells 24 (0, 0)) ∧ W.heap[w.heap.size]? = some (.cells BSet.empty.cells 24 (0, 0)) ∧ Keeps w W (fun _ => False) := by
        rintro W rfl
        refine ⟨?_, ?_, ((GK.out.trans k2).setCell (fun h => absurd h (by simp)) _).setCell (fun h => absurd h (by simp)) _⟩
        · rw [setCell_heap (setCell_heap hb2 0 _) 1 _, Hst.out]; rfl
        · rw [Below.heap_setCell _ _ _ _ (by simp), Below.heap_setCell _ _ _ _ (by simp)]; exact hb20
      have Fin := Lib.hid fin
      clear fin hb2 hb20 k2 x0 x1 y0 y1 yf
      unfold BSet.val
      go_wp2_with fail
      go_roundw
      case rel => exact ⟨k + 1, by go_num, by omega, Fin.out _ rfl⟩
      case measure => simp [intOf]; omega
    · obtain rfl : k = l.length := by omega
      rw [List.take_length] at x0 x1
      go_wp2
      refine bodyPost_ret (v := (ofL l).val) (by simp [results, Tryd.results20, go_sem, BSet.val, y0, y1, hsz]) rfl ⟨rfl, ?_⟩
      exact (GK.out.setCell (fun h => absurd h (by simp)) _).setCell (fun h => absurd h (by simp)) _

def uptoM (m : Nat) : BSet := ofL ((List.range m).map (fun (i : Nat) => (i : Int)))
theorem uptoM_succ (k : Nat) : uptoM (k + 1) = (uptoM k).withN (k : Int) := by
  unfold uptoM ofL
  rw [List.range_succ, List.map_append, List.foldl_append]
  simp only [List.map_cons, List.map_nil, List.foldl_cons, List.foldl_nil]
theorem upto_start (w : World) : ((w.alloc (.cells #[.int .u64 0, .int .u64 0] 24)).alloc (.cells #[.int .u64 0, .int .u64 0] 24)).heap[w.heap.size + 1]? = some (.cells (uptoM 0).cells 24 (0, 0)) ∧ ((w.alloc (.cells #[.int .u64 0, .int .u64 0] 24)).alloc (.cells #[.int .u64 0, .int .u64 0] 24)).heap[w.heap.size]? = some (.cells BSet.empty.cells 24 (0, 0)) ∧ Keeps w ((w.alloc (.cells #[.int .u64 0, .int .u64 0] 24)).alloc (.cells #[.int .u64 0, .int .u64 0] 24)) (fun _ => False) := by
  have hz2 : BSet.empty.cells = #[.int .u64 0, .int .u64 0] := by
    unfold BSet.empty BSet.cells
    have h0 : ((0 : BitVec 64).toNat : Int) = 0 := by decide
    simp only [h0]
  have hz : (uptoM 0).cells = #[.int .u64 0, .int .u64 0] := hz2
  rw [hz, hz2]
  refine ⟨?_, ?_, ((Keeps.refl _ _).alloc _).alloc _⟩
  · have := heap_alloc_new (w.alloc (.cells #[.int .u64 0, .int .u64 0] 24)) (.cells #[.int .u64 0, .int .u64 0] 24)
    rw [hs_alloc] at this; exact this
  · exact (Below.heap_alloc _ _ _ (by simp)).trans (heap_alloc_new w _)
set_option maxHeartbeats 400000 in
theorem upto_mid (w : World) (m : Nat) (h1 : m ≤ 128) : Calls Tryd.prog 23 #[.int .i64 (m : Int)] w fun e w' => e = .returned (uptoM m).val ∧ Keeps w w' (fun _ => False) := by
  have I0 := Lib.hid (upto_start w)
  have hmx : max (m : Int) 0 = (m : Int) := by omega
  have hle : (m : Int) ≤ 128 := by omega
  go_enter Tryd.func23, Tryd.ntmps23
  go_wp2
  go_loopw [8] (fun t8 wr => ∃ k : Nat, t8 = .int .i64 k ∧ k ≤ m ∧ wr.heap[w.heap.size + 1]? = some (.cells (uptoM k).cells 24 (0, 0)) ∧ wr.heap[w.heap.size]? = some (.cells BSet.empty.cells 24 (0, 0)) ∧ Keeps w wr (fun _ => False)) (fun t8 _ => m - (intOf t8).toNat)
  case atStart => exact ⟨0, rfl, Nat.zero_le _, I0.out⟩
  case round =>
    obtain ⟨k, rfl, hk, hb, hb0, hkp⟩ := hrel
    have GB := Lib.hid hb
    have GB0 := Lib.hid hb0
    have GK := Lib.hid hkp
    have x0 : wr.cell? ⟨w.heap.size + 1, 0, none⟩ = some (.int .u64 (uptoM k).lo.toNat) := by rw [cell_at hb]; rfl
    have x1 : wr.cell? ⟨w.heap.size + 1, 1, none⟩ = some (.int .u64 (uptoM k).hi.toNat) := by rw [cell_at hb]; rfl
    have y0 : wr.cell? ⟨w.heap.size, 0, none⟩ = some (.int .u64 0) := by rw [cell_at hb0]; rfl
    have y1 : wr.cell? ⟨w.heap.size, 1, none⟩ = some (.int .u64 0) := by rw [cell_at hb0]; rfl
    have yf : ∀ o, wr.frozen? ⟨w.heap.size, o, none⟩ = false := free_at hb0
    have hsz := block_lt hb
    clear hb hb0 hkp I0
    by_cases hlt : k < m
    · have Hst := Lib.hid (uptoM_succ k)
      go_wp2_with fail
      refine (with_any (uptoM k) (k : Int) _).mono ?_
      rintro e w2 ⟨rfl, k2⟩
      have hb2 : w2.heap[w.heap.size + 1]? = some (.cells (uptoM k).cells 24 (0, 0)) := (k2.block _ hsz id).trans GB.out
      have hb20 : w2.heap[w.heap.size]? = some (.cells BSet.empty.cells 24 (0, 0)) := (k2.block _ (by omega) id).trans GB0.out
      have z0 : w2.cell? ⟨w.heap.size + 1, 0, none⟩ = some (.int .u64 (uptoM k).lo.toNat) := by rw [cell_at hb2]; rfl
      have z1 : w2.cell? ⟨w.heap.size + 1, 1, none⟩ = some (.int .u64 (uptoM k).hi.toNat) := by rw [cell_at hb2]; rfl
      have zf : ∀ o, w2.frozen? ⟨w.heap.size + 1, o, none⟩ = false := free_at hb2
      have fin : ∀ W, W = (w2.setCell ⟨w.heap.size + 1, 0, none⟩ (.int .u64 ((uptoM k).withN k).lo.toNat)).setCell ⟨w.heap.size + 1, 1, none⟩ (.int .u64 ((uptoM k).withN k).hi.toNat) → W.heap[w.heap.size + 1]? = some (.cells (uptoM (k + 1)).cells 24 (0, 0)) ∧ W.heap[w.heap.size]? = some (.cells BSet.empty.cells 24 (0, 0)) ∧ Keeps w W (fun _ => False) := by
        rintro W rfl
        refine ⟨?_, ?_, ((GK.out.trans k2).setCell (fun h => absurd h (by simp)) _).setCell (fun h => absurd h (by simp)) _⟩
        · rw [setCell_heap (setCell_heap hb2 0 _) 1 _, Hst.out]; rfl
        · rw [Below.heap_setCell _ _ _ _ (by simp), Below.heap_setCell _ _ _ _ (by simp)]; exact hb20
      have Fin := Lib.hid fin
      clear fin hb2 hb20 k2 x0 x1 y0 y1 yf
      unfold BSet.val
      go_wp2_with fail
      go_roundw
      case rel => exact ⟨k + 1, by go_num, by omega, Fin.out _ rfl⟩
      case measure => simp [intOf]; omega
    · obtain rfl : k = m := by omega
      go_wp2
      refine bodyPost_ret (v := (uptoM k).val) (by simp [results, Tryd.results23, go_sem, BSet.val, y0, y1, hsz]) rfl ⟨rfl, ?_⟩
      exact (GK.out.setCell (fun h => absurd h (by simp)) _).setCell (fun h => absurd h (by simp)) _
set_option maxRecDepth 100000 in
set_option maxHeartbeats 400000 in
theorem upto_big (w : World) (n : Int) (h1 : 128 < n) : Calls Tryd.prog 23 #[.int .i64 n] w fun e w' => e = .returned (uptoM 128).val ∧ Keeps w w' (fun _ => False) := by
  have I0 := Lib.hid (upto_start w)
  have hmx : max n 0 = n := by omega
  go_enter Tryd.func23, Tryd.ntmps23
  go_wp2
  go_loopw [8] (fun t8 wr => ∃ k : Nat, t8 = .int .i64 k ∧ k ≤ 128 ∧ wr.heap[w.heap.size + 1]? = some (.cells (uptoM k).cells 24 (0, 0)) ∧ wr.heap[w.heap.size]? = some (.cells BSet.empty.cells 24 (0, 0)) ∧ Keeps w wr (fun _ => False)) (fun t8 _ => 128 - (intOf t8).toNat)
  case atStart => exact ⟨0, rfl, Nat.zero_le _, I0.out⟩
  case round =>
    obtain ⟨k, rfl, hk, hb, hb0, hkp⟩ := hrel
    have GB := Lib.hid hb
    have GB0 := Lib.hid hb0
    have GK := Lib.hid hkp
    have x0 : wr.cell? ⟨w.heap.size + 1, 0, none⟩ = some (.int .u64 (uptoM k).lo.toNat) := by rw [cell_at hb]; rfl
    have x1 : wr.cell? ⟨w.heap.size + 1, 1, none⟩ = some (.int .u64 (uptoM k).hi.toNat) := by rw [cell_at hb]; rfl
    have y0 : wr.cell? ⟨w.heap.size, 0, none⟩ = some (.int .u64 0) := by rw [cell_at hb0]; rfl
    have y1 : wr.cell? ⟨w.heap.size, 1, none⟩ = some (.int .u64 0) := by rw [cell_at hb0]; rfl
    have yf : ∀ o, wr.frozen? ⟨w.heap.size, o, none⟩ = false := free_at hb0
    have hsz := block_lt hb
    clear hb hb0 hkp I0
    by_cases hlt : k < 128
    · have Hst := Lib.hid (uptoM_succ k)
      go_wp2_with fail
      refine (with_any (uptoM k) (k : Int) _).mono ?_
      rintro e w2 ⟨rfl, k2⟩
      have hb2 : w2.heap[w.heap.size + 1]? = some (.cells (uptoM k).cells 24 (0, 0)) := (k2.block _ hsz id).trans GB.out
      have hb20 : w2.heap[w.heap.size]? = some (.cells BSet.empty.cells 24 (0, 0)) := (k2.block _ (by omega) id).trans GB0.out
      have z0 : w2.cell? ⟨w.heap.size + 1, 0, none⟩ = some (.int .u64 (uptoM k).lo.toNat) := by rw [cell_at hb2]; rfl
      have z1 : w2.cell? ⟨w.heap.size + 1, 1, none⟩ = some (.int .u64 (uptoM k).hi.toNat) := by rw [cell_at hb2]; rfl
      have zf : ∀ o, w2.frozen? ⟨w.heap.size + 1, o, none⟩ = false := free_at hb2
      have fin : ∀ W, W = (w2.setCell ⟨w.heap.size + 1, 0, none⟩ (.int .u64 ((uptoM k).withN k).lo.toNat)).setCell ⟨w.heap.size + 1, 1, none⟩ (.int .u64 ((uptoM k).withN k).hi.toNat) → W.heap[w.heap.size + 1]? = some (.cells (uptoM (k + 1)).cells 24 (0, 0)) ∧ W.heap[w.heap.size]? = some (.cells BSet.empty.cells 24 (0, 0)) ∧ Keeps w W (fun _ => False) := by
        rintro W rfl
        refine ⟨?_, ?_, ((GK.out.trans k2).setCell (fun h => absurd h (by simp)) _).setCell (fun h => absurd h (by simp)) _⟩
        · rw [setCell_heap (setCell_heap hb2 0 _) 1 _, Hst.out]; rfl
        · rw [Below.heap_setCell _ _ _ _ (by simp), Below.heap_setCell _ _ _ _ (by simp)]; exact hb20
      have Fin := Lib.hid fin
      clear fin hb2 hb20 k2 x0 x1 y0 y1 yf
      unfold BSet.val
      go_wp2_with fail
      go_roundw
      case rel => exact ⟨k + 1, by go_num, by omega, Fin.out _ rfl⟩
      case measure => simp [intOf]; omega
    · obtain rfl : k = 128 := by omega
      go_wp2
      refine bodyPost_ret (v := (uptoM 128).val) (by simp [results, Tryd.results23, go_sem, BSet.val, y0, y1, hsz]) rfl ⟨rfl, ?_⟩
      exact (GK.out.setCell (fun h => absurd h (by simp)) _).setCell (fun h => absurd h (by simp)) _
theorem upto_neg (w : World) (n : Int) (h1 : n < 0) : Calls Tryd.prog 23 #[.int .i64 n] w fun e w' => e = .returned (uptoM 0).val ∧ Keeps w w' (fun _ => False) := by
  have hmx : max n 0 = 0 := by omega
  go_enter Tryd.func23, Tryd.ntmps23
  go_wp2
  refine wp_loop_once ?_
  go_wp2
  refine bodyPost_ret (v := (uptoM 0).val) (by simp [results, Tryd.results23, go_sem, uptoM, ofL, BSet.empty, BSet.val]) rfl ⟨rfl, ?_⟩
  repeat (first | exact Keeps.refl _ _ | apply Keeps.drew | refine Keeps.setCell ?_ (fun h => absurd h (by simp)) _ | apply Keeps.alloc)
def uptoN (n : Int) : BSet := uptoM (min (max n 0) 128).toNat
theorem upto_any (w : World) (n : Int) : Calls Tryd.prog 23 #[.int .i64 n] w fun e w' => e = .returned (uptoN n).val ∧ Keeps w w' (fun _ => False) := by
  unfold uptoN
  by_cases h0 : n < 0
  · rw [show (min (max n 0) 128).toNat = 0 by omega]; exact upto_neg w n h0
  · by_cases h1 : 128 < n
    · rw [show (min (max n 0) 128).toNat = 128 by omega]; exact upto_big w n h1
    · obtain ⟨m, rfl⟩ := Int.eq_ofNat_of_zero_le (show 0 ≤ n by omega)
      rw [show (min (max (m : Int) 0) 128).toNat = m by omega]; exact upto_mid w m (by omega)
end Go.Proofs.YtmmoopikglbmbaaDoor
