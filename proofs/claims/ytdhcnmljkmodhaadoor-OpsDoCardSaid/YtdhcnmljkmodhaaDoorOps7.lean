/- slices.Grow, slices.Concat over known. -/
import Derived.Test.YtdhcnmljkmodhaaDoorOps6
import Derived.Test.YtdhcnmljkmodhaaDoorSrcC
import Derived.Lib.AppendZeros
namespace Go.Proofs.YtdhcnmljkmodhaaDoor
set_option linter.unusedSectionVars false
set_option linter.unusedVariables false
set_option linter.unusedSimpArgs false
set_option maxRecDepth 20000
open Go.RowKit

theorem infoKn : (Tryd.prog.info? 57).map (fun i => (i.zero, i.size, i.bytes)) = some (some (.agg #[.int .u64 0, .int .u64 0]), 2, 16) := by kernel_rfl
theorem infoKn' : ∃ i, Tryd.prog.info? 57 = some i ∧ i.zero = some (.agg #[.int .u64 0, .int .u64 0]) ∧ i.size = 2 ∧ i.bytes = 16 := by
  have h := infoKn
  cases hi : Tryd.prog.info? 57 with
  | none => rw [hi] at h; cases h
  | some i =>
    rw [hi] at h
    simp at h
    exact ⟨i, rfl, h.1, h.2.1, h.2.2⟩
def GrownKn (w : World) (e : Ending) (w' : World) : Prop :=
  ∃ v, e = .returned v ∧ w'.ownsRow w.heap.size 57 2 v 0 [] ∧ Keeps w w' (fun _ => False)
set_option maxHeartbeats 400000 in
theorem growKn (w : World) (n : Nat) (hn : n ≤ 1000) : Calls Tryd.prog 59 #[.slice none 0 0, .int .i64 n] w (GrownKn w) := by
  by_cases hn0 : n = 0
  · subst hn0
    go_enter Tryd.func59, Tryd.ntmps59
    go_wp2
    go_ret
    exact ⟨_, rfl, World.ownsRow_nil _ _ _ _, Keeps.refl _ _⟩
  have h0 : 0 < n := by omega
  obtain ⟨i, hi, hz, hs, hb⟩ := infoKn'
  have hr := Lib.run_append_nil_zeros (P := Tryd.prog) w 60 3 60 57 i (.agg #[.int .u64 0, .int .u64 0]) .i64 .i64 Tryd.underlying60 Tryd.underlying3 hi hz n h0 (by omega) (by omega) (by rw [hb]; omega)
  have HR := Lib.hid hr
  have hge := grownCap_ge w n 0 57
  have hcm : grownCap w n 0 57 ≤ maxLen := grownCap_le_maxLen w n 0 57 (by unfold maxLen; omega)
  have hblk := heap_alloc_new w.drew (.cells (Builtin.zeroCells (Value.cells (.agg #[.int .u64 0, .int .u64 0])) n ++ Builtin.zeroCells (Value.cells (.agg #[.int .u64 0, .int .u64 0])) (grownCap w n 0 57 - n)) 57)
  have hown : ((w.drew.alloc (.cells (Builtin.zeroCells (Value.cells (.agg #[.int .u64 0, .int .u64 0])) n ++ Builtin.zeroCells (Value.cells (.agg #[.int .u64 0, .int .u64 0])) (grownCap w n 0 57 - n)) 57))).ownsRow w.heap.size 57 2 (.slice (some ⟨w.heap.size, 0, none⟩) 0 (grownCap w n 0 57)) 0 [] := by
    refine ⟨rfl, .inr ⟨_, _, _, rfl, Nat.le_refl _, hblk, Nat.zero_le _, hcm, ?_, by simp⟩⟩
    rw [Array.size_append, size_zeroCells, size_zeroCells]
    have e2 : (Value.cells (.agg #[.int .u64 0, .int .u64 0])).size = 2 := rfl
    rw [e2, ← Nat.add_mul]
    congr 1
    omega
  have HO := Lib.hid hown
  have HK : Hid (Keeps w (w.drew.alloc (.cells (Builtin.zeroCells (Value.cells (.agg #[.int .u64 0, .int .u64 0])) n ++ Builtin.zeroCells (Value.cells (.agg #[.int .u64 0, .int .u64 0])) (grownCap w n 0 57 - n)) 57)) (fun _ => False)) := Lib.hid (((Keeps.refl _ _).drew).alloc _)
  clear hr hown hblk hi hz hs hb hcm
  generalize w.drew.alloc (.cells (Builtin.zeroCells (Value.cells (.agg #[.int .u64 0, .int .u64 0])) n ++ Builtin.zeroCells (Value.cells (.agg #[.int .u64 0, .int .u64 0])) (grownCap w n 0 57 - n)) 57) = w2 at *
  generalize grownCap w n 0 57 = cp at *
  have hneg : ¬ ((n : Int) < 0) := by omega
  have hpos : (0 < (n : Int)) := by omega
  go_enter Tryd.func59, Tryd.ntmps59
  go_wp2_with (at_builtin; refine Lib.wpList_append_run _ rfl _ _ _ _ rfl _ _ rfl rfl _ _ HR.out ?_)
  refine bodyPost_ret (v := .slice (some ⟨w.heap.size, 0, none⟩) 0 cp) (by simp [results, Tryd.results59, go_sem]) rfl ⟨_, rfl, HO.out, HK.out⟩

set_option maxHeartbeats 1000000 in
theorem concatKn (w : World) (n1 n2 : Nat) (x h : List Value) (hx1 : ∀ u ∈ x, u.oneCell' = true) (hh1 : ∀ u ∈ h, u.oneCell' = true) (hl : n1 + n2 ≤ 1000) (g : Nat) (vx vh : Value) (Hx : ReadsC w 2 vx n1 x) (Hh : ReadsC w 2 vh n2 h) (c0 : w.cell? ⟨g, 0, none⟩ = some vx) (c1 : w.cell? ⟨g, 1, none⟩ = some vh) :
    Calls Tryd.prog 46 #[.slice (some ⟨g, 0, none⟩) 2 2] w fun e w' => ∃ u, e = .returned u ∧ Keeps w w' (fun _ => False) ∧ ReadsC w' 2 u (n1 + n2) (x ++ h) := by
  obtain ⟨i0, hi, hz, hs, hb⟩ := infoKn'
  obtain ⟨ax, capx, rfl⟩ : ∃ a c, vx = .slice a n1 c := by obtain ⟨_, a, c, h1, _⟩ := Hx; exact ⟨a, c, h1⟩
  obtain ⟨ah, caph, rfl⟩ : ∃ a c, vh = .slice a n2 c := by obtain ⟨_, a, c, h1, _⟩ := Hh; exact ⟨a, c, h1⟩
  have GX := Lib.hid Hx
  have GH := Lib.hid Hh
  have C0 := Lib.hid c0
  have C1 := Lib.hid c1
  have bb : ¬ ((n1 : Int) < 0) := by omega
  have bb2 : ¬ ((n1 : Int) + (n2 : Int) < 0) := by omega
  have ecast : (n1 : Int) + (n2 : Int) = ((n1 + n2 : Nat) : Int) := by omega
  have HE := Lib.hid ecast
  have O1' := Lib.hid hx1
  have O2' := Lib.hid hh1
  clear Hx Hh ecast hx1 hh1
  go_enter Tryd.func46, Tryd.ntmps46
  go_wp2_with fail
  refine wp_loop_rounds 3 ?_
  rw [rounds_succ]
  go_wp2_with fail
  rw [rounds_succ]
  go_wp2_with fail
  rw [rounds_succ]
  go_wp2_with fail
  rw [HE.out]
  refine (growKn w (n1 + n2) (by omega)).mono ?_
  rintro e w1 ⟨v0, rfl, o0, k0⟩
  have O0 := Lib.hid o0
  have K0 := Lib.hid k0
  have d0 : w1.cell? ⟨g, 0, none⟩ = some (.slice ax n1 capx) := by rw [← C0.out]; exact World.cell?_of_block (k0.block _ (World.block_lt_of_cell? w _ C0.out) id)
  have d1 : w1.cell? ⟨g, 1, none⟩ = some (.slice ah n2 caph) := by rw [← C1.out]; exact World.cell?_of_block (k0.block _ (World.block_lt_of_cell? w _ C1.out) id)
  have hgl := World.block_lt_of_cell? w _ C0.out
  have GX1 := Lib.hid (GX.out.keeps k0)
  have GH1 := Lib.hid (GH.out.keeps k0)
  have FR0 : Hid (∀ k, v0.ownBlock = some k → w.heap.size ≤ k) := Lib.hid (fun k hk => by
    rcases o0.2 with ⟨rfl, _⟩ | ⟨g', cap, cur, rfl, hbg, _⟩
    · cases hk
    · simp only [Value.ownBlock, Option.some.injEq] at hk; omega)
  clear o0 k0 c0 c1 GX
  go_wp2_with fail
  refine wp_loop_rounds 3 ?_
  rw [rounds_succ]
  go_wp2_with (at_builtin; refine wpList_append_any rfl (.tmp 31) (.tmp 32) 60 60 rfl 57 i0 _ 2 16 Tryd.underlying60 hi hz hs hb rfl w.heap.size _ 0 [] rfl O0.out _ n1 x rfl (Src.ofReadsC Tryd.underlying60 GX1.out O1'.out) (by unfold maxLen; omega) (by omega) K0.out.size ?_)
  intro v1 w2 D1
  obtain ⟨o1, g1, _, fr1⟩ := D1
  have k1 : Keeps w w2 (fun _ => False) := K0.out.grown g1 (fun k hk hlt => by have := FR0.out k hk; omega)
  have O1 : Hid (w2.ownsRow w.heap.size 57 2 v1 (0 + n1) x) := Lib.hid (by simpa using o1)
  have FR1 : Hid (∀ k, v1.ownBlock = some k → w.heap.size ≤ k) := Lib.hid (fun k hk => by
    rcases o1.2 with ⟨rfl, _⟩ | ⟨g', cap, cur, rfl, hbg, _⟩
    · cases hk
    · simp only [Value.ownBlock, Option.some.injEq] at hk; omega)
  have K1 := Lib.hid k1
  have d1' : w2.cell? ⟨g, 1, none⟩ = some (.slice ah n2 caph) := by rw [← C1.out]; exact World.cell?_of_block (k1.block _ hgl id)
  have GH2 := Lib.hid (GH.out.keeps k1)
  clear o1 g1 fr1 k1 O0 FR0 d0 d1 GX1 GH1 K0 GH
  go_wp2_with fail
  rw [rounds_succ]
  go_wp2_with (at_builtin; refine wpList_append_any rfl (.tmp 31) (.tmp 32) 60 60 rfl 57 i0 _ 2 16 Tryd.underlying60 hi hz hs hb rfl w.heap.size _ (0 + n1) x rfl O1.out _ n2 h rfl (Src.ofReadsC Tryd.underlying60 GH2.out O2'.out) (by unfold maxLen; omega) (by omega) K1.out.size ?_)
  intro v2 w3 D2
  obtain ⟨o2, g2, _, fr2⟩ := D2
  have K2 : Hid (Keeps w w3 (fun _ => False)) := Lib.hid (K1.out.grown g2 (fun k hk hlt => by have := FR1.out k hk; omega))
  have O2 : Hid (w3.ownsRow w.heap.size 57 2 v2 (n1 + n2) (x ++ h)) := Lib.hid (by
    exact o2)
  clear o2 g2 fr2 FR1 O1 d1' GH2 K1
  go_wp2_with fail
  rw [rounds_succ]
  go_wp2
  go_ret
  exact ⟨_, rfl, K2.out, ReadsC.ofOwn O2.out⟩
end Go.Proofs.YtdhcnmljkmodhaaDoor
