/- The walks of slices.Grow and slices.Concat over ints. -/
import Derived.Test.YtdhcnmljkmodhaaDoorHeaderOpen
import Derived.Lib.AppendZeros
namespace Go.Proofs.YtdhcnmljkmodhaaDoor
set_option linter.unusedSectionVars false
set_option linter.unusedVariables false
set_option linter.unusedSimpArgs false
set_option maxRecDepth 20000
open Go.RowKit

theorem underI : Tryd.prog.underlying 3 = some (.int .i64) := Tryd.underlying3
theorem infoInt : (Tryd.prog.info? 3).map (fun i => (i.zero, i.size, i.bytes)) = some (some (.int .i64 0), 1, 8) := by kernel_rfl
theorem infoInt' : ∃ i, Tryd.prog.info? 3 = some i ∧ i.zero = some (.int .i64 0) ∧ i.size = 1 ∧ i.bytes = 8 := by
  have h := infoInt
  cases hi : Tryd.prog.info? 3 with
  | none => rw [hi] at h; cases h
  | some i =>
    rw [hi] at h
    simp at h
    exact ⟨i, rfl, h.1, h.2.1, h.2.2⟩

/-- A row of the call's own, with what it holds. -/
def OwnPost (w : World) (xs : List Int) (e : Ending) (w' : World) : Prop :=
  ∃ v, e = .returned v ∧ w'.ownsRow w.heap.size 3 1 v xs.length (xs.map (Value.int .i64)) ∧ Keeps w w' (fun _ => False)

set_option maxHeartbeats 400000 in
theorem grow_any (w : World) (n : Nat) (h0 : 0 < n) (hn : n ≤ 1000) : Calls Tryd.prog 60 #[.slice none 0 0, .int .i64 n] w (OwnPost w []) := by
  obtain ⟨i, hi, hz, hs, hb⟩ := infoInt'
  have hr := Lib.run_append_nil_zeros (P := Tryd.prog) w 22 3 22 3 i (.int .i64 0) .i64 .i64 Tryd.underlying22 Tryd.underlying3 hi hz n h0 (by omega) (by omega) (by rw [hb]; omega)
  have HR := Lib.hid hr
  have hge := grownCap_ge w n 0 3
  have hcm : grownCap w n 0 3 ≤ maxLen := grownCap_le_maxLen w n 0 3 (by unfold maxLen; omega)
  have hblk := heap_alloc_new w.drew (.cells (Builtin.zeroCells (Value.int .i64 0).cells n ++ Builtin.zeroCells (Value.int .i64 0).cells (grownCap w n 0 3 - n)) 3)
  have hown : ((w.drew.alloc (.cells (Builtin.zeroCells (Value.int .i64 0).cells n ++ Builtin.zeroCells (Value.int .i64 0).cells (grownCap w n 0 3 - n)) 3))).ownsRow w.heap.size 3 1 (.slice (some ⟨w.heap.size, 0, none⟩) 0 (grownCap w n 0 3)) 0 [] := by
    refine ⟨rfl, .inr ⟨_, _, _, rfl, Nat.le_refl _, hblk, Nat.zero_le _, hcm, ?_, by simp⟩⟩
    rw [Array.size_append, size_zeroCells, size_zeroCells]
    simp [Value.cells]
    omega
  have HO := Lib.hid hown
  have HK : Hid (Keeps w (w.drew.alloc (.cells (Builtin.zeroCells (Value.int .i64 0).cells n ++ Builtin.zeroCells (Value.int .i64 0).cells (grownCap w n 0 3 - n)) 3)) (fun _ => False)) := Lib.hid (((Keeps.refl _ _).drew).alloc _)
  clear hr hown hblk hi hz hs hb hcm
  generalize w.drew.alloc (.cells (Builtin.zeroCells (Value.int .i64 0).cells n ++ Builtin.zeroCells (Value.int .i64 0).cells (grownCap w n 0 3 - n)) 3) = w2 at *
  generalize grownCap w n 0 3 = cp at *
  have hneg : ¬ ((n : Int) < 0) := by omega
  have hpos : (0 < (n : Int)) := by omega
  go_enter Tryd.func60, Tryd.ntmps60
  go_wp2_with (at_builtin; refine Lib.wpList_append_run _ rfl _ _ _ _ rfl _ _ rfl rfl _ _ HR.out ?_)
  refine bodyPost_ret (v := .slice (some ⟨w.heap.size, 0, none⟩) 0 cp) (by simp [results, Tryd.results60, go_sem]) rfl ⟨_, rfl, HO.out, HK.out⟩
/-- What is read as a list of ints, as the second argument of an append. -/
theorem Src.ofReadsI {w : World} {v : Value} {l : List Int} (h : ReadsI w v l) : Src Tryd.prog 1 22 v l.length (l.map (Value.int .i64)) w := by
  obtain ⟨_, a, cap, rfl, _, _, hn, h6⟩ := h
  match l with
  | [] =>
    cases a with
    | none => exact Src.ofNil _ Tryd.underlying22 cap
    | some a => exact Src.ofSlice _ Tryd.underlying22 a 0 cap [] rfl (fun j u hj => by simp at hj) (fun u hu => by cases hu)
  | x :: r =>
    obtain ⟨g, off, rfl, hg, hc⟩ := h6 (by simp)
    have e : ∀ l : List Int, l.flatMap encI = l.map (Value.int .i64) := fun l => by
      induction l with
      | nil => rfl
      | cons a r ih => rw [List.flatMap_cons, ih]; rfl
    rw [e] at hc
    refine Src.ofSlice _ Tryd.underlying22 _ _ cap _ (by simp) (fun j u hj => ?_) (fun u hu => ?_)
    · have e : ((⟨g, off, none⟩ : Addr).add j) = ⟨g, off + j, none⟩ := by
        unfold Addr.add; split
        · rename_i h; subst h; rfl
        · rfl
      rw [e]; exact hc j u hj
    · obtain ⟨_, _, rfl⟩ := List.mem_map.1 hu; rfl
/-- A row of the call's own reads as its list. -/
theorem ReadsI.ofOwn {w : World} {b n : Nat} {v : Value} {l : List Int} (hn : n = l.length) (h : w.ownsRow b 3 1 v n (l.map (Value.int .i64))) : ReadsI w v l := by
  subst hn
  have e : ∀ l : List Int, l.flatMap encI = l.map (Value.int .i64) := fun l => by
    induction l with
    | nil => rfl
    | cons a r ih => rw [List.flatMap_cons, ih]; rfl
  have hr := ReadsRow.ofOwn h
  refine ⟨by rw [e]; simp, ?_⟩
  rcases h.2 with ⟨rfl, h0⟩ | ⟨g, cap, cur, rfl, hbg, hg, r1, r2, r3, r4⟩
  · have hl : l.length = 0 := h0
    exact ⟨none, 0, by rw [hl], by omega, by unfold maxLen; omega, fun _ => ⟨hl, rfl⟩, fun h => by omega⟩
  · refine ⟨_, cap, rfl, r1, r2, (fun h => by cases h), fun _ => ⟨g, 0, rfl, block_lt hg, fun j u hj => ?_⟩⟩
    rw [e] at hj
    exact hr.cell hj

set_option maxHeartbeats 1000000 in
theorem concat_any (w : World) (x : Int) (h : List Int) (hl : h.length ≤ 100) (g : Nat) (vx vh : Value) (Hx : ReadsI w vx [x]) (Hh : ReadsI w vh h) (c0 : w.cell? ⟨g, 0, none⟩ = some vx) (c1 : w.cell? ⟨g, 1, none⟩ = some vh) :
    Calls Tryd.prog 47 #[.slice (some ⟨g, 0, none⟩) 2 2] w (OwnPost w (x :: h)) := by
  obtain ⟨i0, hi, hz, hs, hb⟩ := infoInt'
  obtain ⟨ax, capx, rfl, _, _⟩ := Hx.form
  obtain ⟨ah, caph, rfl, _, _⟩ := Hh.form
  have GX := Lib.hid Hx
  have GH := Lib.hid Hh
  have C0 := Lib.hid c0
  have C1 := Lib.hid c1
  have bb : ¬ ((1 : Int) + (h.length : Int) < 0) := by omega
  have bb2 : ¬ ((h.length : Int) + 1 < 0) := by omega
  have ecast : (1 : Int) + (h.length : Int) = ((h.length + 1 : Nat) : Int) := by omega
  have HE := Lib.hid ecast
  clear Hx Hh ecast
  go_enter Tryd.func47, Tryd.ntmps47
  go_wp2_with fail
  refine wp_loop_rounds 3 ?_
  rw [rounds_succ]
  go_wp2_with fail
  rw [rounds_succ]
  go_wp2_with fail
  rw [rounds_succ]
  go_wp2_with fail
  rw [HE.out]
  refine (grow_any w (h.length + 1) (by omega) (by omega)).mono ?_
  rintro e w1 ⟨v0, rfl, o0, k0⟩
  have O0 := Lib.hid o0
  have K0 := Lib.hid k0
  have d0 : w1.cell? ⟨g, 0, none⟩ = some (.slice ax [x].length capx) := by rw [← C0.out]; exact World.cell?_of_block (k0.block _ (World.block_lt_of_cell? w _ C0.out) id)
  have d1 : w1.cell? ⟨g, 1, none⟩ = some (.slice ah h.length caph) := by rw [← C1.out]; exact World.cell?_of_block (k0.block _ (World.block_lt_of_cell? w _ C1.out) id)
  have hgl := World.block_lt_of_cell? w _ C0.out
  have GX1 := Lib.hid (GX.out.keeps k0)
  have GH1 := Lib.hid (GH.out.keeps k0)
  have FR0 : Hid (∀ k, v0.ownBlock = some k → w.heap.size ≤ k) := Lib.hid (fun k hk => by
    rcases o0.2 with ⟨rfl, _⟩ | ⟨g', cap, cur, rfl, hbg, _⟩
    · cases hk
    · simp only [Value.ownBlock, Option.some.injEq] at hk; omega)
  clear o0 k0 c0 c1 GX
  go_wp2_with fail
  refine wp_loop_rounds 3 ?_
  rw [rounds_succ]
  go_wp2_with (at_builtin; refine wpList_append_any rfl (.tmp 31) (.tmp 32) 22 22 rfl 3 i0 _ 1 8 Tryd.underlying22 hi hz hs hb rfl w.heap.size _ 0 [] rfl O0.out _ 1 [.int .i64 x] rfl (Src.ofReadsI GX1.out) (by unfold maxLen; omega) (by omega) K0.out.size ?_)
  intro v1 w2 D1
  obtain ⟨o1, g1, _, fr1⟩ := D1
  have k1 : Keeps w w2 (fun _ => False) := K0.out.grown g1 (fun k hk hlt => by have := FR0.out k hk; omega)
  have O1 : Hid (w2.ownsRow w.heap.size 3 1 v1 (0 + 1) [.int .i64 x]) := Lib.hid (by simpa using o1)
  have FR1 : Hid (∀ k, v1.ownBlock = some k → w.heap.size ≤ k) := Lib.hid (fun k hk => by
    rcases o1.2 with ⟨rfl, _⟩ | ⟨g', cap, cur, rfl, hbg, _⟩
    · cases hk
    · simp only [Value.ownBlock, Option.some.injEq] at hk; omega)
  have K1 := Lib.hid k1
  have d1' : w2.cell? ⟨g, 1, none⟩ = some (.slice ah h.length caph) := by rw [← C1.out]; exact World.cell?_of_block (k1.block _ hgl id)
  have GH2 := Lib.hid (GH.out.keeps k1)
  clear o1 g1 fr1 k1 O0 FR0 d0 d1 GX1 GH1 K0 GH
  go_wp2_with fail
  rw [rounds_succ]
  go_wp2_with (at_builtin; refine wpList_append_any rfl (.tmp 31) (.tmp 32) 22 22 rfl 3 i0 _ 1 8 Tryd.underlying22 hi hz hs hb rfl w.heap.size _ (0 + 1) [.int .i64 x] rfl O1.out _ h.length (h.map (Value.int .i64)) rfl (Src.ofReadsI GH2.out) (by unfold maxLen; omega) (by omega) K1.out.size ?_)
  intro v2 w3 D2
  obtain ⟨o2, g2, _, fr2⟩ := D2
  have K2 : Hid (Keeps w w3 (fun _ => False)) := Lib.hid (K1.out.grown g2 (fun k hk hlt => by have := FR1.out k hk; omega))
  have O2 : Hid (w3.ownsRow w.heap.size 3 1 v2 (x :: h).length ((x :: h).map (Value.int .i64))) := Lib.hid (by
    have e : 0 + 1 + h.length = (x :: h).length := by simp only [List.length_cons]; omega
    rw [e] at o2
    exact o2)
  clear o2 g2 fr2 FR1 O1 d1' GH2 K1
  go_wp2_with fail
  rw [rounds_succ]
  go_wp2
  go_ret
  exact ⟨_, rfl, O2.out, K2.out⟩
end Go.Proofs.YtdhcnmljkmodhaaDoor
