/- Merged for the claim, in build order: SrcC, Ops6, Ops7, Ops9, Range. -/
import Derived.Test.YtdhcnmljkmodhaaDoorOpsCheckM1
import Derived.Test.YtdhcnmljkmodhaaDoorOpsCheckM2
import Derived.Test.YtdhcnmljkmodhaaDoorOpsCheckM5
import Derived.Lib.AppendZeros
import Derived.Test.YtdhcnmljkmodhaaDoorOpsCheckM4
import Derived.RangeFuncNested
import Derived.RangeFuncBound
import Derived.RangeFuncCalls
import Derived.RangeFuncLeaves
import Derived.Shelf.Abstract
import Derived.Shelf.RegionOpen
import Derived.WalkKit
import Derived.OwnWalkIn
import Derived.TacticsInMore
import Derived.LoopNIn
import Derived.LoopIn
/- What is read as rows of whatever size, as the second argument of an append; a row of the call's own reads. -/
namespace Go.Proofs.YtdhcnmljkmodhaaDoor
set_option linter.unusedSectionVars false
set_option linter.unusedVariables false
set_option linter.unusedSimpArgs false
open Go.RowKit
theorem Src.ofReadsC {P : Program} {w : World} {tx e : TypeId} {size n : Nat} {v : Value} {xs : List Value} (hk : P.underlying tx = some (.slice e)) (h : ReadsC w size v n xs) (h1 : ∀ u ∈ xs, u.oneCell' = true) : Src P size tx v n xs w := by
  obtain ⟨hx, a, cap, rfl, _, _, hn, h6⟩ := h
  by_cases h0 : n = 0
  · subst h0
    obtain rfl : xs = [] := List.eq_nil_of_length_eq_zero (by rw [hx, Nat.zero_mul])
    cases a with
    | none => exact Src.ofNil _ hk cap
    | some a => exact Src.ofSlice _ hk a 0 cap [] (by simp) (fun j u hj => by simp at hj) (fun u hu => by cases hu)
  · obtain ⟨g, off, rfl, hg, hc⟩ := h6 (by omega)
    refine Src.ofSlice _ hk _ _ cap _ hx (fun j u hj => ?_) h1
    have e : ((⟨g, off, none⟩ : Addr).add j) = ⟨g, off + j, none⟩ := by
      unfold Addr.add; split
      · rename_i h; subst h; rfl
      · rfl
    rw [e]; exact hc j u hj
theorem ReadsC.ofOwn {w : World} {b n size : Nat} {e : TypeId} {v : Value} {xs : List Value} (h : w.ownsRow b e size v n xs) : ReadsC w size v n xs := by
  have hr := ReadsRow.ofOwn h
  refine ⟨h.1, ?_⟩
  rcases h.2 with ⟨rfl, h0⟩ | ⟨g, cap, cur, rfl, hbg, hg, r1, r2, r3, r4⟩
  · exact ⟨none, 0, by rw [h0], by omega, by unfold maxLen; omega, fun _ => ⟨h0, rfl⟩, fun h => by omega⟩
  · exact ⟨_, cap, rfl, r1, r2, (fun h => by cases h), fun _ => ⟨g, 0, rfl, block_lt hg, fun j u hj => hr.cell hj⟩⟩
end Go.Proofs.YtdhcnmljkmodhaaDoor

/- slices.Grow, slices.Concat over ops.Op. -/
namespace Go.Proofs.YtdhcnmljkmodhaaDoor
set_option linter.unusedSectionVars false
set_option linter.unusedVariables false
set_option linter.unusedSimpArgs false
set_option maxRecDepth 20000
open Go.RowKit

theorem infoOp : (Tryd.prog.info? 44).map (fun i => (i.zero, i.size, i.bytes)) = some (some (.agg #[.int .i64 0, .int .i64 0]), 2, 16) := by kernel_rfl
theorem infoOp' : ∃ i, Tryd.prog.info? 44 = some i ∧ i.zero = some (.agg #[.int .i64 0, .int .i64 0]) ∧ i.size = 2 ∧ i.bytes = 16 := by
  have h := infoOp
  cases hi : Tryd.prog.info? 44 with
  | none => rw [hi] at h; cases h
  | some i =>
    rw [hi] at h
    simp at h
    exact ⟨i, rfl, h.1, h.2.1, h.2.2⟩
def GrownOp (w : World) (e : Ending) (w' : World) : Prop :=
  ∃ v, e = .returned v ∧ w'.ownsRow w.heap.size 44 2 v 0 [] ∧ Keeps w w' (fun _ => False)
set_option maxHeartbeats 400000 in
theorem growOp (w : World) (n : Nat) (hn : n ≤ 1000) : Calls Tryd.prog 37 #[.slice none 0 0, .int .i64 n] w (GrownOp w) := by
  by_cases hn0 : n = 0
  · subst hn0
    go_enter Tryd.func37, Tryd.ntmps37
    go_wp2
    go_ret
    exact ⟨_, rfl, World.ownsRow_nil _ _ _ _, Keeps.refl _ _⟩
  have h0 : 0 < n := by omega
  obtain ⟨i, hi, hz, hs, hb⟩ := infoOp'
  have hr := Lib.run_append_nil_zeros (P := Tryd.prog) w 23 3 23 44 i (.agg #[.int .i64 0, .int .i64 0]) .i64 .i64 Tryd.underlying23 Tryd.underlying3 hi hz n h0 (by omega) (by omega) (by rw [hb]; omega)
  have HR := Lib.hid hr
  have hge := grownCap_ge w n 0 44
  have hcm : grownCap w n 0 44 ≤ maxLen := grownCap_le_maxLen w n 0 44 (by unfold maxLen; omega)
  have hblk := heap_alloc_new w.drew (.cells (Builtin.zeroCells (Value.cells (.agg #[.int .i64 0, .int .i64 0])) n ++ Builtin.zeroCells (Value.cells (.agg #[.int .i64 0, .int .i64 0])) (grownCap w n 0 44 - n)) 44)
  have hown : ((w.drew.alloc (.cells (Builtin.zeroCells (Value.cells (.agg #[.int .i64 0, .int .i64 0])) n ++ Builtin.zeroCells (Value.cells (.agg #[.int .i64 0, .int .i64 0])) (grownCap w n 0 44 - n)) 44))).ownsRow w.heap.size 44 2 (.slice (some ⟨w.heap.size, 0, none⟩) 0 (grownCap w n 0 44)) 0 [] := by
    refine ⟨rfl, .inr ⟨_, _, _, rfl, Nat.le_refl _, hblk, Nat.zero_le _, hcm, ?_, by simp⟩⟩
    rw [Array.size_append, size_zeroCells, size_zeroCells]
    have e2 : (Value.cells (.agg #[.int .i64 0, .int .i64 0])).size = 2 := rfl
    rw [e2, ← Nat.add_mul]
    congr 1
    omega
  have HO := Lib.hid hown
  have HK : Hid (Keeps w (w.drew.alloc (.cells (Builtin.zeroCells (Value.cells (.agg #[.int .i64 0, .int .i64 0])) n ++ Builtin.zeroCells (Value.cells (.agg #[.int .i64 0, .int .i64 0])) (grownCap w n 0 44 - n)) 44)) (fun _ => False)) := Lib.hid (((Keeps.refl _ _).drew).alloc _)
  clear hr hown hblk hi hz hs hb hcm
  generalize w.drew.alloc (.cells (Builtin.zeroCells (Value.cells (.agg #[.int .i64 0, .int .i64 0])) n ++ Builtin.zeroCells (Value.cells (.agg #[.int .i64 0, .int .i64 0])) (grownCap w n 0 44 - n)) 44) = w2 at *
  generalize grownCap w n 0 44 = cp at *
  have hneg : ¬ ((n : Int) < 0) := by omega
  have hpos : (0 < (n : Int)) := by omega
  go_enter Tryd.func37, Tryd.ntmps37
  go_wp2_with (at_builtin; refine Lib.wpList_append_run _ rfl _ _ _ _ rfl _ _ rfl rfl _ _ HR.out ?_)
  refine bodyPost_ret (v := .slice (some ⟨w.heap.size, 0, none⟩) 0 cp) (by simp [results, Tryd.results37, go_sem]) rfl ⟨_, rfl, HO.out, HK.out⟩

set_option maxHeartbeats 1000000 in
theorem concatOp (w : World) (n1 n2 : Nat) (x h : List Value) (hx1 : ∀ u ∈ x, u.oneCell' = true) (hh1 : ∀ u ∈ h, u.oneCell' = true) (hl : n1 + n2 ≤ 1000) (g : Nat) (vx vh : Value) (Hx : ReadsC w 2 vx n1 x) (Hh : ReadsC w 2 vh n2 h) (c0 : w.cell? ⟨g, 0, none⟩ = some vx) (c1 : w.cell? ⟨g, 1, none⟩ = some vh) :
    Calls Tryd.prog 21 #[.slice (some ⟨g, 0, none⟩) 2 2] w fun e w' => ∃ u, e = .returned u ∧ Keeps w w' (fun _ => False) ∧ ReadsC w' 2 u (n1 + n2) (x ++ h) := by
  obtain ⟨i0, hi, hz, hs, hb⟩ := infoOp'
  obtain ⟨ax, capx, rfl⟩ : ∃ a c, vx = .slice a n1 c := by obtain ⟨_, a, c, h1, _⟩ := Hx; exact ⟨a, c, h1⟩
  obtain ⟨ah, caph, rfl⟩ : ∃ a c, vh = .slice a n2 c := by obtain ⟨_, a, c, h1, _⟩ := Hh; exact ⟨a, c, h1⟩
  have GX := Lib.hid Hx
  have GH := Lib.hid Hh
  have C0 := Lib.hid c0
  have C1 := Lib.hid c1
  have bb : ¬ ((n1 : Int) < 0) := by omega
  have bb2 : ¬ ((n1 : Int) + (n2 : Int) < 0) := by omega
  have ecast : (n1 : Int) + (n2 : Int) = ((n1 + n2 : Nat) : Int) := by omega
  have HE := Lib.hid ecast
  have O1' := Lib.hid hx1
  have O2' := Lib.hid hh1
  clear Hx Hh ecast hx1 hh1
  go_enter Tryd.func21, Tryd.ntmps21
  go_wp2_with fail
  refine wp_loop_rounds 3 ?_
  rw [rounds_succ]
  go_wp2_with fail
  rw [rounds_succ]
  go_wp2_with fail
  rw [rounds_succ]
  go_wp2_with fail
  rw [HE.out]
  refine (growOp w (n1 + n2) (by omega)).mono ?_
  rintro e w1 ⟨v0, rfl, o0, k0⟩
  have O0 := Lib.hid o0
  have K0 := Lib.hid k0
  have d0 : w1.cell? ⟨g, 0, none⟩ = some (.slice ax n1 capx) := by rw [← C0.out]; exact World.cell?_of_block (k0.block _ (World.block_lt_of_cell? w _ C0.out) id)
  have d1 : w1.cell? ⟨g, 1, none⟩ = some (.slice ah n2 caph) := by rw [← C1.out]; exact World.cell?_of_block (k0.block _ (World.block_lt_of_cell? w _ C1.out) id)
  have hgl := World.block_lt_of_cell? w _ C0.out
  have GX1 := Lib.hid (GX.out.keeps k0)
  have GH1 := Lib.hid (GH.out.keeps k0)
  have FR0 : Hid (∀ k, v0.ownBlock = some k → w.heap.size ≤ k) := Lib.hid (fun k hk => by
    rcases o0.2 with ⟨rfl, _⟩ | ⟨g', cap, cur, rfl, hbg, _⟩
    · cases hk
    · simp only [Value.ownBlock, Option.some.injEq] at hk; omega)
  clear o0 k0 c0 c1 GX
  go_wp2_with fail
  refine wp_loop_rounds 3 ?_
  rw [rounds_succ]
  go_wp2_with (at_builtin; refine wpList_append_any rfl (.tmp 31) (.tmp 32) 23 23 rfl 44 i0 _ 2 16 Tryd.underlying23 hi hz hs hb rfl w.heap.size _ 0 [] rfl O0.out _ n1 x rfl (Src.ofReadsC Tryd.underlying23 GX1.out O1'.out) (by unfold maxLen; omega) (by omega) K0.out.size ?_)
  intro v1 w2 D1
  obtain ⟨o1, g1, _, fr1⟩ := D1
  have k1 : Keeps w w2 (fun _ => False) := K0.out.grown g1 (fun k hk hlt => by have := FR0.out k hk; omega)
  have O1 : Hid (w2.ownsRow w.heap.size 44 2 v1 (0 + n1) x) := Lib.hid (by simpa using o1)
  have FR1 : Hid (∀ k, v1.ownBlock = some k → w.heap.size ≤ k) := Lib.hid (fun k hk => by
    rcases o1.2 with ⟨rfl, _⟩ | ⟨g', cap, cur, rfl, hbg, _⟩
    · cases hk
    · simp only [Value.ownBlock, Option.some.injEq] at hk; omega)
  have K1 := Lib.hid k1
  have d1' : w2.cell? ⟨g, 1, none⟩ = some (.slice ah n2 caph) := by rw [← C1.out]; exact World.cell?_of_block (k1.block _ hgl id)
  have GH2 := Lib.hid (GH.out.keeps k1)
  clear o1 g1 fr1 k1 O0 FR0 d0 d1 GX1 GH1 K0 GH
  go_wp2_with fail
  rw [rounds_succ]
  go_wp2_with (at_builtin; refine wpList_append_any rfl (.tmp 31) (.tmp 32) 23 23 rfl 44 i0 _ 2 16 Tryd.underlying23 hi hz hs hb rfl w.heap.size _ (0 + n1) x rfl O1.out _ n2 h rfl (Src.ofReadsC Tryd.underlying23 GH2.out O2'.out) (by unfold maxLen; omega) (by omega) K1.out.size ?_)
  intro v2 w3 D2
  obtain ⟨o2, g2, _, fr2⟩ := D2
  have K2 : Hid (Keeps w w3 (fun _ => False)) := Lib.hid (K1.out.grown g2 (fun k hk hlt => by have := FR1.out k hk; omega))
  have O2 : Hid (w3.ownsRow w.heap.size 44 2 v2 (n1 + n2) (x ++ h)) := Lib.hid (by
    exact o2)
  clear o2 g2 fr2 FR1 O1 d1' GH2 K1
  go_wp2_with fail
  rw [rounds_succ]
  go_wp2
  go_ret
  exact ⟨_, rfl, K2.out, ReadsC.ofOwn O2.out⟩
end Go.Proofs.YtdhcnmljkmodhaaDoor

/- slices.Grow, slices.Concat over known. -/
namespace Go.Proofs.YtdhcnmljkmodhaaDoor
set_option linter.unusedSectionVars false
set_option linter.unusedVariables false
set_option linter.unusedSimpArgs false
set_option maxRecDepth 20000
open Go.RowKit

theorem infoKn : (Tryd.prog.info? 57).map (fun i => (i.zero, i.size, i.bytes)) = some (some (.agg #[.int .u64 0, .int .u64 0]), 2, 16) := by kernel_rfl
theorem infoKn' : ∃ i, Tryd.prog.info? 57 = some i ∧ i.zero = some (.agg #[.int .u64 0, .int .u64 0]) ∧ i.size = 2 ∧ i.bytes = 16 := by
  have h := infoKn
  cases hi : Tryd.prog.info? 57 with
  | none => rw [hi] at h; cases h
  | some i =>
    rw [hi] at h
    simp at h
    exact ⟨i, rfl, h.1, h.2.1, h.2.2⟩
def GrownKn (w : World) (e : Ending) (w' : World) : Prop :=
  ∃ v, e = .returned v ∧ w'.ownsRow w.heap.size 57 2 v 0 [] ∧ Keeps w w' (fun _ => False)
set_option maxHeartbeats 400000 in
theorem growKn (w : World) (n : Nat) (hn : n ≤ 1000) : Calls Tryd.prog 59 #[.slice none 0 0, .int .i64 n] w (GrownKn w) := by
  by_cases hn0 : n = 0
  · subst hn0
    go_enter Tryd.func59, Tryd.ntmps59
    go_wp2
    go_ret
    exact ⟨_, rfl, World.ownsRow_nil _ _ _ _, Keeps.refl _ _⟩
  have h0 : 0 < n := by omega
  obtain ⟨i, hi, hz, hs, hb⟩ := infoKn'
  have hr := Lib.run_append_nil_zeros (P := Tryd.prog) w 60 3 60 57 i (.agg #[.int .u64 0, .int .u64 0]) .i64 .i64 Tryd.underlying60 Tryd.underlying3 hi hz n h0 (by omega) (by omega) (by rw [hb]; omega)
  have HR := Lib.hid hr
  have hge := grownCap_ge w n 0 57
  have hcm : grownCap w n 0 57 ≤ maxLen := grownCap_le_maxLen w n 0 57 (by unfold maxLen; omega)
  have hblk := heap_alloc_new w.drew (.cells (Builtin.zeroCells (Value.cells (.agg #[.int .u64 0, .int .u64 0])) n ++ Builtin.zeroCells (Value.cells (.agg #[.int .u64 0, .int .u64 0])) (grownCap w n 0 57 - n)) 57)
  have hown : ((w.drew.alloc (.cells (Builtin.zeroCells (Value.cells (.agg #[.int .u64 0, .int .u64 0])) n ++ Builtin.zeroCells (Value.cells (.agg #[.int .u64 0, .int .u64 0])) (grownCap w n 0 57 - n)) 57))).ownsRow w.heap.size 57 2 (.slice (some ⟨w.heap.size, 0, none⟩) 0 (grownCap w n 0 57)) 0 [] := by
    refine ⟨rfl, .inr ⟨_, _, _, rfl, Nat.le_refl _, hblk, Nat.zero_le _, hcm, ?_, by simp⟩⟩
    rw [Array.size_append, size_zeroCells, size_zeroCells]
    have e2 : (Value.cells (.agg #[.int .u64 0, .int .u64 0])).size = 2 := rfl
    rw [e2, ← Nat.add_mul]
    congr 1
    omega
  have HO := Lib.hid hown
  have HK : Hid (Keeps w (w.drew.alloc (.cells (Builtin.zeroCells (Value.cells (.agg #[.int .u64 0, .int .u64 0])) n ++ Builtin.zeroCells (Value.cells (.agg #[.int .u64 0, .int .u64 0])) (grownCap w n 0 57 - n)) 57)) (fun _ => False)) := Lib.hid (((Keeps.refl _ _).drew).alloc _)
  clear hr hown hblk hi hz hs hb hcm
  generalize w.drew.alloc (.cells (Builtin.zeroCells (Value.cells (.agg #[.int .u64 0, .int .u64 0])) n ++ Builtin.zeroCells (Value.cells (.agg #[.int .u64 0, .int .u64 0])) (grownCap w n 0 57 - n)) 57) = w2 at *
  generalize grownCap w n 0 57 = cp at *
  have hneg : ¬ ((n : Int) < 0) := by omega
  have hpos : (0 < (n : Int)) := by omega
  go_enter Tryd.func59, Tryd.ntmps59
  go_wp2_with (at_builtin; refine Lib.wpList_append_run _ rfl _ _ _ _ rfl _ _ rfl rfl _ _ HR.out ?_)
  refine bodyPost_ret (v := .slice (some ⟨w.heap.size, 0, none⟩) 0 cp) (by simp [results, Tryd.results59, go_sem]) rfl ⟨_, rfl, HO.out, HK.out⟩

set_option maxHeartbeats 1000000 in
theorem concatKn (w : World) (n1 n2 : Nat) (x h : List Value) (hx1 : ∀ u ∈ x, u.oneCell' = true) (hh1 : ∀ u ∈ h, u.oneCell' = true) (hl : n1 + n2 ≤ 1000) (g : Nat) (vx vh : Value) (Hx : ReadsC w 2 vx n1 x) (Hh : ReadsC w 2 vh n2 h) (c0 : w.cell? ⟨g, 0, none⟩ = some vx) (c1 : w.cell? ⟨g, 1, none⟩ = some vh) :
    Calls Tryd.prog 46 #[.slice (some ⟨g, 0, none⟩) 2 2] w fun e w' => ∃ u, e = .returned u ∧ Keeps w w' (fun _ => False) ∧ ReadsC w' 2 u (n1 + n2) (x ++ h) := by
  obtain ⟨i0, hi, hz, hs, hb⟩ := infoKn'
  obtain ⟨ax, capx, rfl⟩ : ∃ a c, vx = .slice a n1 c := by obtain ⟨_, a, c, h1, _⟩ := Hx; exact ⟨a, c, h1⟩
  obtain ⟨ah, caph, rfl⟩ : ∃ a c, vh = .slice a n2 c := by obtain ⟨_, a, c, h1, _⟩ := Hh; exact ⟨a, c, h1⟩
  have GX := Lib.hid Hx
  have GH := Lib.hid Hh
  have C0 := Lib.hid c0
  have C1 := Lib.hid c1
  have bb : ¬ ((n1 : Int) < 0) := by omega
  have bb2 : ¬ ((n1 : Int) + (n2 : Int) < 0) := by omega
  have ecast : (n1 : Int) + (n2 : Int) = ((n1 + n2 : Nat) : Int) := by omega
  have HE := Lib.hid ecast
  have O1' := Lib.hid hx1
  have O2' := Lib.hid hh1
  clear Hx Hh ecast hx1 hh1
  go_enter Tryd.func46, Tryd.ntmps46
  go_wp2_with fail
  refine wp_loop_rounds 3 ?_
  rw [rounds_succ]
  go_wp2_with fail
  rw [rounds_succ]
  go_wp2_with fail
  rw [rounds_succ]
  go_wp2_with fail
  rw [HE.out]
  refine (growKn w (n1 + n2) (by omega)).mono ?_
  rintro e w1 ⟨v0, rfl, o0, k0⟩
  have O0 := Lib.hid o0
  have K0 := Lib.hid k0
  have d0 : w1.cell? ⟨g, 0, none⟩ = some (.slice ax n1 capx) := by rw [← C0.out]; exact World.cell?_of_block (k0.block _ (World.block_lt_of_cell? w _ C0.out) id)
  have d1 : w1.cell? ⟨g, 1, none⟩ = some (.slice ah n2 caph) := by rw [← C1.out]; exact World.cell?_of_block (k0.block _ (World.block_lt_of_cell? w _ C1.out) id)
  have hgl := World.block_lt_of_cell? w _ C0.out
  have GX1 := Lib.hid (GX.out.keeps k0)
  have GH1 := Lib.hid (GH.out.keeps k0)
  have FR0 : Hid (∀ k, v0.ownBlock = some k → w.heap.size ≤ k) := Lib.hid (fun k hk => by
    rcases o0.2 with ⟨rfl, _⟩ | ⟨g', cap, cur, rfl, hbg, _⟩
    · cases hk
    · simp only [Value.ownBlock, Option.some.injEq] at hk; omega)
  clear o0 k0 c0 c1 GX
  go_wp2_with fail
  refine wp_loop_rounds 3 ?_
  rw [rounds_succ]
  go_wp2_with (at_builtin; refine wpList_append_any rfl (.tmp 31) (.tmp 32) 60 60 rfl 57 i0 _ 2 16 Tryd.underlying60 hi hz hs hb rfl w.heap.size _ 0 [] rfl O0.out _ n1 x rfl (Src.ofReadsC Tryd.underlying60 GX1.out O1'.out) (by unfold maxLen; omega) (by omega) K0.out.size ?_)
  intro v1 w2 D1
  obtain ⟨o1, g1, _, fr1⟩ := D1
  have k1 : Keeps w w2 (fun _ => False) := K0.out.grown g1 (fun k hk hlt => by have := FR0.out k hk; omega)
  have O1 : Hid (w2.ownsRow w.heap.size 57 2 v1 (0 + n1) x) := Lib.hid (by simpa using o1)
  have FR1 : Hid (∀ k, v1.ownBlock = some k → w.heap.size ≤ k) := Lib.hid (fun k hk => by
    rcases o1.2 with ⟨rfl, _⟩ | ⟨g', cap, cur, rfl, hbg, _⟩
    · cases hk
    · simp only [Value.ownBlock, Option.some.injEq] at hk; omega)
  have K1 := Lib.hid k1
  have d1' : w2.cell? ⟨g, 1, none⟩ = some (.slice ah n2 caph) := by rw [← C1.out]; exact World.cell?_of_block (k1.block _ hgl id)
  have GH2 := Lib.hid (GH.out.keeps k1)
  clear o1 g1 fr1 k1 O0 FR0 d0 d1 GX1 GH1 K0 GH
  go_wp2_with fail
  rw [rounds_succ]
  go_wp2_with (at_builtin; refine wpList_append_any rfl (.tmp 31) (.tmp 32) 60 60 rfl 57 i0 _ 2 16 Tryd.underlying60 hi hz hs hb rfl w.heap.size _ (0 + n1) x rfl O1.out _ n2 h rfl (Src.ofReadsC Tryd.underlying60 GH2.out O2'.out) (by unfold maxLen; omega) (by omega) K1.out.size ?_)
  intro v2 w3 D2
  obtain ⟨o2, g2, _, fr2⟩ := D2
  have K2 : Hid (Keeps w w3 (fun _ => False)) := Lib.hid (K1.out.grown g2 (fun k hk hlt => by have := FR1.out k hk; omega))
  have O2 : Hid (w3.ownsRow w.heap.size 57 2 v2 (n1 + n2) (x ++ h)) := Lib.hid (by
    exact o2)
  clear o2 g2 fr2 FR1 O1 d1' GH2 K1
  go_wp2_with fail
  rw [rounds_succ]
  go_wp2
  go_ret
  exact ⟨_, rfl, K2.out, ReadsC.ofOwn O2.out⟩
end Go.Proofs.YtdhcnmljkmodhaaDoor

/- known.popped, where it does not range. -/
namespace Go.Proofs.YtdhcnmljkmodhaaDoor
set_option linter.unusedSectionVars false
set_option linter.unusedVariables false
set_option linter.unusedSimpArgs false
set_option maxRecDepth 20000
open Go.RowKit

/-- A set's cells. -/
def setC (s : BSet) : List Value := [.int .u64 s.lo.toNat, .int .u64 s.hi.toNat]
/-- What is known, as it reads. -/
def RdK (w : World) (v : Value) (l : List BSet) : Prop := ReadsC w 2 v l.length (l.flatMap setC)
theorem RdK.keeps {w w' : World} {v : Value} {l : List BSet} (h : RdK w v l) (hk : Keeps w w' (fun _ => False)) : RdK w' v l := ReadsC.keeps h hk
theorem RdK.form {w : World} {v : Value} {l : List BSet} (h : RdK w v l) : ∃ a cap, v = .slice a l.length cap ∧ l.length ≤ cap ∧ cap ≤ maxLen := by
  obtain ⟨_, a, cap, h1, h2, h3, _⟩ := h; exact ⟨a, cap, h1, h2, h3⟩
theorem RdK.cell {w : World} {a : Option Addr} {n cap : Nat} {s : BSet} {r : List BSet} (h : RdK w (.slice a n cap) (s :: r)) :
    ∃ g off, a = some ⟨g, off, none⟩ ∧ g < w.heap.size ∧ w.cell? ⟨g, off, none⟩ = some (.int .u64 s.lo.toNat) ∧ w.cell? ⟨g, off + 1, none⟩ = some (.int .u64 s.hi.toNat) := by
  obtain ⟨_, a', cap', h2, h3, h4, h5, h6⟩ := h
  obtain ⟨g, off, rfl, hg, hc⟩ := h6 (by simp)
  simp only [Value.slice.injEq] at h2
  exact ⟨g, off, h2.1, hg, hc 0 _ rfl, hc 1 _ rfl⟩
/-- What is left of it behind the first. -/
theorem RdK.tail {w : World} {g off cap : Nat} {s : BSet} {r : List BSet} (h : RdK w (.slice (some ⟨g, off, none⟩) (s :: r).length cap) (s :: r)) (hc : ¬ cap = 1) : RdK w (.slice (some ⟨g, off + 2, none⟩) r.length (cap - 1)) r := by
  obtain ⟨_, a', cap', h2, h3, h4, h5, h6⟩ := h
  obtain ⟨g', off', rfl, hg, hc'⟩ := h6 (by simp)
  simp only [Value.slice.injEq, Option.some.injEq, Addr.mk.injEq, and_true] at h2
  obtain ⟨⟨rfl, rfl⟩, _, rfl⟩ := h2
  simp only [List.length_cons] at h3
  refine ⟨flatMap_len setC 2 (fun _ => rfl) r, _, _, rfl, by omega, by omega, (fun h => by cases h), fun _ => ⟨g, off + 2, rfl, hg, fun j u hj => ?_⟩⟩
  have := hc' (2 + j) u (by rw [List.flatMap_cons, List.getElem?_append_right (by simp [setC])]; simpa [setC] using hj)
  rw [← Nat.add_assoc] at this
  exact this
theorem RdK.void (w : World) (a : Addr) (c : Nat) (hc : c ≤ maxLen) : RdK w (.slice (some a) 0 c) [] :=
  ⟨rfl, some a, c, rfl, Nat.zero_le _, hc, (fun h => by cases h), fun h => by simp at h⟩
/-- The kinds below those. -/
def belowAll (l : List Nat) : BSet := l.foldl (fun b (k : Nat) => b.or (belowS (k : Int))) BSet.empty
theorem belowAll_snoc (l : List Nat) (k : Nat) : belowAll (l ++ [k]) = (belowAll l).or (belowS k) := by unfold belowAll; rw [List.foldl_append]; rfl
/-- What is known behind a Pop. -/
def poppedL : List BSet → Option (List BSet)
  | [] => none
  | s :: r => if (s.withoutN 1).isEmpty then none else if r = [] then some [belowAll (s.withoutN 1).mem] else some r
def KnPost (w : World) (r : Option (List BSet)) (e : Ending) (w' : World) : Prop :=
  ∃ v, e = .returned (.tuple #[v, .bool r.isSome]) ∧ Keeps w w' (fun _ => False) ∧ ∀ l, r = some l → RdK w' v l

set_option maxHeartbeats 1000000 in
theorem popped_plain (w : World) (v : Value) (s : BSet) (r : List BSet) (H : RdK w v (s :: r)) (hp : (s.withoutN 1).isEmpty = true ∨ r ≠ []) :
    Calls Tryd.prog 42 #[v] w (KnPost w (poppedL (s :: r))) := by
  obtain ⟨a, cap, rfl, hcp, hcm⟩ := H.form
  obtain ⟨g, off, rfl, hg, c0, c1⟩ := H.cell
  have GH := Lib.hid H
  have hlen : (s :: r).length = r.length + 1 := rfl
  clear H
  go_enter Tryd.func42, Tryd.ntmps42
  go_wp2_with fail
  refine (without_any s 1 _).mono ?_
  rintro e w1 ⟨rfl, hk1⟩
  have K1 := Lib.hid hk1
  clear hk1
  have GH1 := Lib.hid (GH.out.keeps K1.out)
  have hpd : poppedL (s :: r) = if (s.withoutN 1).isEmpty then none else if r = [] then some [belowAll (s.withoutN 1).mem] else some r := rfl
  have HPD := Lib.hid hpd
  generalize s.withoutN 1 = t at *
  clear hpd GH c0 c1
  unfold BSet.val
  have K2 := Lib.hid (K1.out.alloc (.cells #[.int .u64 t.lo.toNat, .int .u64 t.hi.toNat] 57))
  have B2 := heap_alloc_new w1 (.cells #[.int .u64 t.lo.toNat, .int .u64 t.hi.toNat] 57)
  have GH2 := Lib.hid (GH1.out.keeps ((Keeps.refl w1 _).alloc (.cells #[.int .u64 t.lo.toNat, .int .u64 t.hi.toNat] 57)))
  clear GH1
  go_wp2_with fail
  generalize w1.alloc (.cells #[.int .u64 t.lo.toNat, .int .u64 t.hi.toNat] 57) = W at *
  generalize w1.heap.size = N at *
  refine (empty_any t _).mono ?_
  rintro e w3 ⟨rfl, hk3⟩
  have K3 := Lib.hid (K2.out.trans hk3)
  have GH3 := Lib.hid (GH2.out.keeps hk3)
  clear hk3 GH2 K2 K1 B2
  cases he : t.isEmpty with
  | true =>
    rw [he] at HPD
    go_wp2_with fail
    go_ret2
    exact ⟨.slice none 0 0, by rw [HPD.out]; rfl, K3.out, fun l hl => by rw [HPD.out] at hl; cases hl⟩
  | false =>
    have hr : r ≠ [] := hp.resolve_left (by rw [he]; decide)
    have hl0 : 0 < r.length := List.length_pos_iff.2 hr
    have hl1 : (1 : Int) < (r.length : Int) + 1 := by omega
    rw [he, if_neg hr] at HPD
    have hcap : ¬ cap = 1 := by simp only [List.length_cons] at hcp; omega
    have HT := Lib.hid (GH3.out.tail hcap)
    clear hp he hr hcp hcm
    go_wp2_with fail
    go_ret2
    exact ⟨_, by rw [HPD.out]; rfl, K3.out, fun l hl => by rw [HPD.out] at hl; obtain rfl := Option.some.inj hl; exact HT.out⟩
end Go.Proofs.YtdhcnmljkmodhaaDoor

/- A range over a function whose value writes cells of its own (a captured variable): the law, after the kit's own ones (Derived/RangeFuncWrites.lean), with 'T': the blocks that the iterator may turn between two rounds, and that the body keeps. -/
namespace Go.Proofs.YtdhcnmljkmodhaaDoor
set_option linter.unusedSectionVars false
set_option linter.unusedVariables false
set_option linter.unusedSimpArgs false
open Go.RowKit Go

/-- What is said stays so while the blocks T alone turn. -/
def AbidesT {β : Type} (T : Nat → Prop) (J : β → World → Prop) : Prop := ∀ s W W', J s W → Keeps W W' T → J s W'

/-- The contract of a function value that is ranged over. S: what has come when it is at its end; Sp: what has come when a round has said 'no more'; Nx pre x: x may come behind pre. -/
def SeqMut {α : Type} (F : Fence) (n : Nat) (P : Program) (g : Nat) (lb : Array Value) (encs : α → Array Value) (T U : Nat → Prop) (S Sp : List α → Prop) (Nx : List α → α → Prop) (w : World) : Prop :=
  ∀ (l : Nat) (J Jx : List α → World → Prop) (W : World), Keeps w W (fun _ => False) → AbidesT T J → AbidesT T Jx →
    (∀ pre x W1, J pre W1 → Nx pre x → YieldAt F (n - 1) P l (encs x) W1 fun e W' =>
      (e = .returned (.bool true) ∧ J (pre ++ [x]) W' ∧ (∀ j, U j → W'.heap[j]? = W1.heap[j]?) ∧ W1.heap.size ≤ W'.heap.size) ∨ (e = .returned (.bool false) ∧ Jx (pre ++ [x]) W')) →
    J [] W →
    CallsIn F n P g (#[.func (.yield l) #[] #[]] ++ lb) W fun e W' => (∃ v, e = .returned v) ∧ ((∃ xs, S xs ∧ J xs W') ∨ (∃ pre, Sp pre ∧ Jx pre W'))

/-- The blocks that the loop itself lays: the rounds' deferred calls, the loop's record. -/
def Mine (T : Nat → Prop) (D : Nat) (j : Nat) : Prop := T j ∨ j = D ∨ j = D + 1

/-- How the body may be left. -/
def mutPost {α : Type} (U : Nat → Prop) (D : Nat) (I : List α → World → Prop) (Ix : Code → List α → World → Prop) (xs : List α) (W : World) : Exit → Act → World → Prop
  | .normal, _, W' => (∀ j, Mine U D j → W'.heap[j]? = W.heap[j]?) ∧ W.heap.size ≤ W'.heap.size ∧ I xs W'
  | .ret, _, W' => (∀ j, Mine U D j → W'.heap[j]? = W.heap[j]?) ∧ Ix .ret xs W'
  | .exit id, _, W' => (∀ j, Mine U D j → W'.heap[j]? = W.heap[j]?) ∧ Ix (.exit id) xs W'
  | .goto t, _, W' => (∀ j, Mine U D j → W'.heap[j]? = W.heap[j]?) ∧ Ix (.goto t) xs W'
  | .panic _, _, _ => False
  | .outgrown, _, _ => False

theorem Keeps.putObj {W W0 : World} {T : Nat → Prop} {l : Nat} (o : Obj) (h : Keeps W0 W T) (hl : T l) : Keeps W0 (W.putObj l o) T :=
  h.grown (grownBy_putObj' W l o) (fun k e _ => by cases e; exact hl)

variable {F : Fence} {n : Nat} {P : Program}
theorem wpIn_rangeFunc_mut {α : Type} {g : Operand} {ps : Array Tmp} {assign body : Code} {Q : Exit → Act → World → Prop} {a : Act} {w : World}
    (hro : F.round = none) (h1 : 1 ≤ n) {gf : Nat} {lb : Array Value} (hg : a.eval g = .func (.func gf) #[] lb) (hFg : F.fn gf) (eg : ∀ args w, (callFunc gf args).run P w = .ok (.enter gf args) w)
    {encs : α → Array Value} {T U : Nat → Prop} {S Sp : List α → Prop} {Nx : List α → α → Prop} (hseq : SeqMut F (n - 1) P gf lb encs T U S Sp Nx w) (hT : ∀ j, T j → j < w.heap.size) (hU : ∀ j, U j → j < w.heap.size)
    (hps : ∀ x, (encs x).size = ps.size)
    (I : List α → World → Prop) (Ix : Code → List α → World → Prop) (hI : AbidesT (Mine T w.heap.size) I) (hIx : ∀ c, AbidesT (Mine T w.heap.size) (Ix c)) (h0 : I [] w) (a₁ : α → Act)
    (hassign : ∀ (l : Nat) (x : α) (W : World) (K : Act → World → Prop), K (a₁ x) W →
      assign.wpIn (F.inRound l) (n - 1 - 1) P (Exit.then K (fun _ _ _ => False)) { tmps := (ps.zip (encs x)).foldl (fun t (p, v) => t.setIfInBounds p v) a.tmps, defers := [] } W)
    (hbody : ∀ (l : Nat) (pre : List α) (x : α) (W : World), I pre W → Nx pre x → w.heap.size + 2 ≤ W.heap.size → body.wpIn (F.inRound l) (n - 1 - 1) P (mutPost U w.heap.size I Ix (pre ++ [x]) W) (a₁ x) W)
    (hdone : ∀ (xs : List α) (W : World), S xs → I xs W → W.heap[w.heap.size]? = some (.deferred (some [])) → Q .normal { a with defers := { target := .collected w.heap.size, args := #[] } :: a.defers } W)
    (hstop : ∀ (c : Code) (pre : List α) (W : World), Sp pre → Ix c pre W → W.heap[w.heap.size]? = some (.deferred (some [])) → c.wpIn F n P Q { a with defers := { target := .collected w.heap.size, args := #[] } :: a.defers } W) :
    (Code.rangeFunc g ps assign body).wpIn F n P Q a w := by
  refine wpIn_rangeFunc ?_
  intro fn hfn
  rw [hro]
  obtain ⟨rec, hrec⟩ : ∃ rec : LoopState → Option Code → Loop, rec = fun st pe => { state := st, pending := pe, fn, tmps := a.tmps, params := ps, assign, body, defers := w.heap.size } := ⟨_, rfl⟩
  obtain ⟨W1, hW1⟩ : ∃ W1, (w.alloc (.deferred (some []))).alloc (.loop (rec .ready none)) = W1 := ⟨_, rfl⟩
  have hL1 : W1.heap[w.heap.size + 1]? = some (.loop (rec .ready none)) := by
    rw [← hW1]; have := World.alloc_heap_new (w.alloc (.deferred (some []))) (.loop (rec .ready none)); rwa [World.size_alloc] at this
  have hK1 : W1.heap[w.heap.size]? = some (.deferred (some [])) := by
    rw [← hW1]; exact (Below.heap_alloc _ _ _ (by simp)).trans (World.alloc_heap_new w _)
  have hk1 : ∀ S : Nat → Prop, Keeps w W1 S := fun S => by rw [← hW1]; exact ((Keeps.refl w S).alloc _).alloc _
  have hI1 : I [] W1 := hI _ _ _ h0 (hk1 _)
  have nU1 : ¬ U (w.heap.size + 1) := fun h => by have := hU _ h; omega
  have nT0 : ¬ T w.heap.size := fun h => by have := hT _ h; omega
  have nT1 : ¬ T (w.heap.size + 1) := fun h => by have := hT _ h; omega
  refine ⟨w.heap.size + 1, [{ target := .collected w.heap.size, args := #[] }], W1, { target := .fn (.func gf) lb, args := #[.func (.yield (w.heap.size + 1)) #[] #[]] }, W1, gf,
    #[.func (.yield (w.heap.size + 1)) #[] #[]] ++ lb, W1, ?_, ?_, ?_, ?_, fun _ => h1, ?_⟩
  · rw [← hW1, hrec]; exact run_enterLoop_outer _ _ _ _ _
  · simp only [resolve, hg]
    simp [go_sem]
  · intro f' hf'; simp [Target.leads] at hf'; subst hf'; exact hFg
  · simp [invoke, go_sem, eg]
  · have keepT : ∀ {A B : World} {j : Nat} {o : Obj}, A.heap[j]? = some o → ¬ T j → Keeps A B T → B.heap[j]? = some o :=
      fun h hn hk => (hk.block _ (Array.getElem?_eq_some_iff.1 h).1 hn).trans h
    have mono : ∀ {A B : World}, Keeps A B T → Keeps A B (Mine T w.heap.size) := fun h => h.mono (fun _ _ h => .inl h)
    refine (hseq (w.heap.size + 1)
      (fun pre W => I pre W ∧ W.heap[w.heap.size + 1]? = some (.loop (rec .ready none)) ∧ W.heap[w.heap.size]? = some (.deferred (some [])))
      (fun pre W => ∃ c, Ix c pre W ∧ W.heap[w.heap.size + 1]? = some (.loop (rec .done (some c))) ∧ W.heap[w.heap.size]? = some (.deferred (some [])))
      W1 (hk1 _)
      (fun s A B hs hk => ⟨hI s A B hs.1 (mono hk), keepT hs.2.1 nT1 hk, keepT hs.2.2 nT0 hk⟩)
      (fun s A B hs hk => by
        obtain ⟨c, hc, hl, hd⟩ := hs
        exact ⟨c, hIx c s A B hc (mono hk), keepT hl nT1 hk, keepT hd nT0 hk⟩)
      ?_ ⟨hI1, hL1, hK1⟩).mono ?_
    · rintro pre x W ⟨hi, hl, hk⟩ hnx
      have hlt : w.heap.size + 1 < W.heap.size := (Array.getElem?_eq_some_iff.1 hl).1
      have hy := run_yield (P := P) (args := encs x) hl (by rw [hrec]; exact hps x)
      rw [hrec] at hy
      refine ⟨fn, _, assign, body, hy, roundIn_of_wpIn hfn (hassign _ x W _ ⟨_, run_beginRound hl (by rw [hrec]), ?_⟩)⟩
      refine (?_ : ∀ W2, W.putObj (w.heap.size + 1) (.loop { rec .ready none with state := .busy }) = W2 → body.wpIn _ _ _ _ _ W2) _ (by rw [hrec])
      intro W2 hW2
      have hl2 : W2.heap[w.heap.size + 1]? = some (.loop { rec .ready none with state := .busy }) := by rw [← hW2]; exact World.putObj_heap_same hlt
      have hk2 : W2.heap[w.heap.size]? = some (.deferred (some [])) := by rw [← hW2]; exact (World.putObj_heap_other (by omega)).trans hk
      have hT2 : ∀ j, U j → W2.heap[j]? = W.heap[j]? := fun j hj => by rw [← hW2]; exact World.putObj_heap_other (fun e => nU1 (e ▸ hj))
      have hs2 : W2.heap.size = W.heap.size := by rw [← hW2]; simp
      have hi2 : I pre W2 := hI _ _ _ hi (by rw [← hW2]; exact (Keeps.refl W _).putObj _ (.inr (.inr rfl)))
      refine wpIn_mono (hbody _ pre x _ hi2 hnx (by omega)) ?_
      have fin : ∀ (jump : Option Code) (W3 : World), (∀ j, Mine U w.heap.size j → W3.heap[j]? = W2.heap[j]?) →
          (Instr.endRound (w.heap.size + 1) jump).run P W3 = .ok (.bool jump.isNone) (W3.putObj (w.heap.size + 1) (.loop (rec (if jump.isNone then .ready else .done) jump))) ∧
          (W3.putObj (w.heap.size + 1) (.loop (rec (if jump.isNone then .ready else .done) jump))).heap[w.heap.size + 1]? = some (.loop (rec (if jump.isNone then .ready else .done) jump)) ∧
          (W3.putObj (w.heap.size + 1) (.loop (rec (if jump.isNone then .ready else .done) jump))).heap[w.heap.size]? = some (.deferred (some [])) := fun jump W3 hk3 => by
        have hl3 := (hk3 (w.heap.size + 1) (.inr (.inr rfl))).trans hl2
        have := run_endRound (P := P) jump hl3
        rw [hrec] at this ⊢
        exact ⟨this, World.putObj_heap_same (Array.getElem?_eq_some_iff.1 hl3).1, (World.putObj_heap_other (by omega)).trans ((hk3 _ (.inr (.inl rfl))).trans hk2)⟩
      rintro e a3 W3 hp
      cases e with
      | normal =>
        obtain ⟨hk3, hsz3, hi3⟩ := hp
        obtain ⟨hr, hl4, hk4⟩ := fin none W3 hk3
        exact ⟨_, _, hr, .inl ⟨rfl, ⟨hI _ _ _ hi3 ((Keeps.refl W3 _).putObj _ (.inr (.inr rfl))), hl4, hk4⟩, fun j hj => (show (W3.putObj (w.heap.size + 1) (.loop (rec (if (none : Option Code).isNone then .ready else .done) none))).heap[j]? = W3.heap[j]? from World.putObj_heap_other (fun e => nU1 (e ▸ hj))).trans ((hk3 j (.inl hj)).trans (hT2 j hj)), by simp; omega⟩⟩
      | ret =>
        obtain ⟨hk3, hi3⟩ := hp
        obtain ⟨hr, hl4, hk4⟩ := fin (some .ret) W3 hk3
        exact ⟨_, _, hr, .inr ⟨rfl, .ret, hIx _ _ _ _ hi3 ((Keeps.refl W3 _).putObj _ (.inr (.inr rfl))), hl4, hk4⟩⟩
      | exit id =>
        obtain ⟨hk3, hi3⟩ := hp
        obtain ⟨hr, hl4, hk4⟩ := fin (some (.exit id)) W3 hk3
        exact ⟨_, _, hr, .inr ⟨rfl, .exit id, hIx _ _ _ _ hi3 ((Keeps.refl W3 _).putObj _ (.inr (.inr rfl))), hl4, hk4⟩⟩
      | goto t =>
        obtain ⟨hk3, hi3⟩ := hp
        obtain ⟨hr, hl4, hk4⟩ := fin (some (.goto t)) W3 hk3
        exact ⟨_, _, hr, .inr ⟨rfl, .goto t, hIx _ _ _ _ hi3 ((Keeps.refl W3 _).putObj _ (.inr (.inr rfl))), hl4, hk4⟩⟩
      | panic ch => exact hp.elim
      | outgrown => exact hp.elim
    · rintro e W2 ⟨⟨v, rfl⟩, (⟨xs, hS, hi, hl, hk⟩ | ⟨pre, hSp, c, hi, hl, hk⟩)⟩
      · exact ⟨none, _, by have := run_endLoop (P := P) hl (by rw [hrec]; simp); rw [hrec] at this; exact this, hdone xs _ hS (hI _ _ _ hi ((Keeps.refl W2 _).putObj _ (.inr (.inr rfl)))) ((World.putObj_heap_other (by omega)).trans hk)⟩
      · exact ⟨some c, _, by have := run_endLoop (P := P) hl (by rw [hrec]; simp); rw [hrec] at this; exact this, hstop c pre _ hSp (hIx c _ _ _ hi ((Keeps.refl W2 _).putObj _ (.inr (.inr rfl)))) ((World.putObj_heap_other (by omega)).trans hk)⟩
end Go.Proofs.YtdhcnmljkmodhaaDoor
