/- known.popped, where it ranges over the kinds of the top. -/
import Derived.Test.YtdhcnmljkmodhaaDoorOps9
import Derived.Test.YtdhcnmljkmodhaaDoorBits8
import Derived.Stop.RegionWithIn
namespace Go.Proofs.YtdhcnmljkmodhaaDoor
set_option linter.unusedSectionVars false
set_option linter.unusedVariables false
set_option linter.unusedSimpArgs false
set_option maxRecDepth 20000
open Go.RowKit
attribute [local go_sem] Oper.semAt_some

/-- Between two rounds: what lies below those gone through. -/
structure PInv (w : World) (N1 : Nat) (pre : List Nat) (W : World) : Prop where
  b : W.heap[N1]? = some (.cells (belowAll pre).cells 57 (0, 0))
  keep : Keeps w W (fun _ => False)
theorem PInv.keeps {w : World} {N1 : Nat} {pre : List Nat} {W W' : World} {T : Nat → Prop} (h : PInv w N1 pre W) (hk : Keeps W W' T) (hT : ∀ j, T j → N1 < j) (hw : w.heap.size ≤ N1) : PInv w N1 pre W' :=
  ⟨(hk.block _ (block_lt h.b) (fun e => by have := hT _ e; omega)).trans h.b, h.keep.trans' hk (fun j hj e => by have := hT _ e; omega)⟩

set_option maxRecDepth 100000 in
set_option maxHeartbeats 4000000 in
theorem popped_range (w : World) (v : Value) (s : BSet) (H : RdK w v [s]) (he : (s.withoutN 1).isEmpty = false) (hT : TabOk w) :
    Calls Tryd.prog 42 #[v] w (KnPost w (poppedL [s])) := by
  obtain ⟨a, cap, rfl, hcp, hcm⟩ := H.form
  obtain ⟨g, off, rfl, hg, c0, c1⟩ := H.cell
  have GT := Lib.hid hT
  have hpd : poppedL [s] = some [belowAll (s.withoutN 1).mem] := by
    have e : poppedL [s] = if (s.withoutN 1).isEmpty then none else some [belowAll (s.withoutN 1).mem] := rfl
    rw [e, he]; rfl
  have HPD := Lib.hid hpd
  clear H hcp hcm hT hpd
  refine (callsIn_wide (n := 5)).1 ?_
  refine callsIn_of_wp_marks Tryd.func42 rfl trivial ?_ rfl
  simp only [Tryd.ntmps42, List.size_toArray, List.length_cons, List.length_nil, Nat.reduceAdd, Nat.reduceSub, Array.replicate_succ, Array.replicate_zero, List.push_toArray, List.append_toArray, List.nil_append, List.cons_append]
  gi_wp2_with fail
  refine ⟨trivial, (callsIn_wide.2 (without_any s 1 _)).mono ?_⟩
  rintro e w1 ⟨rfl, hk1⟩
  generalize s.withoutN 1 = t at *
  clear c0 c1
  unfold BSet.val
  have K2 := Lib.hid (hk1.alloc (.cells #[.int .u64 t.lo.toNat, .int .u64 t.hi.toNat] 57))
  have B2 := heap_alloc_new w1 (.cells #[.int .u64 t.lo.toNat, .int .u64 t.hi.toNat] 57)
  clear hk1
  gi_wp2_with fail
  generalize w1.alloc (.cells #[.int .u64 t.lo.toNat, .int .u64 t.hi.toNat] 57) = W at *
  generalize w1.heap.size = N at *
  refine ⟨trivial, (callsIn_wide.2 (empty_any t _)).mono ?_⟩
  rintro e w3 ⟨rfl, hk3⟩
  rw [he]
  have K3 := Lib.hid (K2.out.trans hk3)
  have b3 : w3.heap[N]? = some (.cells #[.int .u64 t.lo.toNat, .int .u64 t.hi.toNat] 57 (0, 0)) := (hk3.block _ (block_lt B2) id).trans B2
  have p0 : (w3.alloc (.cells #[.int .u64 0, .int .u64 0] 57)).heap[N]? = some (.cells t.cells 57 (0, 0)) := (Below.heap_alloc _ _ _ (block_lt b3)).trans b3
  have y0 : (w3.alloc (.cells #[.int .u64 0, .int .u64 0] 57)).cell? ⟨N, 0, none⟩ = some (.int .u64 t.lo.toNat) := by rw [cell_at p0]; rfl
  have y1 : (w3.alloc (.cells #[.int .u64 0, .int .u64 0] 57)).cell? ⟨N, 1, none⟩ = some (.int .u64 t.hi.toNat) := by rw [cell_at p0]; rfl
  clear hk3 K2 B2 b3 p0
  gi_wp2_with fail
  refine ⟨trivial, (callsIn_wide.2 (all_any t _)).mono ?_⟩
  rintro e w4 ⟨rfl, rfl⟩
  rw [hs_alloc]
  clear y0 y1
  have B1 : Hid (((w3.alloc (.cells #[.int .u64 0, .int .u64 0] 57)).alloc (.cells t.cells 57)).heap[w3.heap.size]? = some (.cells (belowAll []).cells 57 (0, 0))) := Lib.hid ((Below.heap_alloc _ _ _ (by simp)).trans (heap_alloc_new w3 _))
  have B5 : Hid (((w3.alloc (.cells #[.int .u64 0, .int .u64 0] 57)).alloc (.cells t.cells 57)).heap[w3.heap.size + 1]? = some (.cells t.cells 57 (0, 0))) := Lib.hid (by
    have := heap_alloc_new (w3.alloc (.cells #[.int .u64 0, .int .u64 0] 57)) (.cells t.cells 57)
    rw [hs_alloc] at this; exact this)
  have HS : Hid (((w3.alloc (.cells #[.int .u64 0, .int .u64 0] 57)).alloc (.cells t.cells 57)).heap.size = w3.heap.size + 1 + 1) := Lib.hid (by rw [hs_alloc, hs_alloc])
  have K4 : Hid (Keeps w ((w3.alloc (.cells #[.int .u64 0, .int .u64 0] 57)).alloc (.cells t.cells 57)) (fun _ => False)) := Lib.hid ((K3.out.alloc _).alloc _)
  have hw3 : w.heap.size ≤ w3.heap.size := K3.out.size
  have T4 := Lib.hid (GT.out.keeps K4.out)
  have hgt : w3.heap.size + 1 ≠ 1 := by
    have h := World.block_lt_of_cell? w _ (GT.out 0 (by omega))
    have h : 1 < w.heap.size := h
    omega
  have hgw : 1 < w.heap.size := World.block_lt_of_cell? w _ (GT.out 0 (by omega))
  clear GT K3
  generalize ((w3.alloc (.cells #[.int .u64 0, .int .u64 0] 57)).alloc (.cells t.cells 57)) = L at *
  generalize w3.heap.size = N1 at *
  have I0 : Hid (PInv w N1 [] L) := Lib.hid ⟨B1.out, K4.out⟩
  gi_wp2_with fail
  refine wpIn_rangeFunc_mut rfl (by omega) (gf := 65) (lb := #[.pointer (some ⟨N1 + 1, 0, none⟩)]) rfl trivial (enters_of Tryd.func65 (by kernel_rfl) rfl)
    (all_seq 4 (by omega) (N1 + 1) t L B5.out T4.out hgt)
    (fun j e => by have e : j = N1 + 1 := e; rw [HS.out]; omega)
    (fun j e => by
      rcases e with e | e
      · rw [HS.out]; omega
      · have h := World.block_lt_of_cell? L _ (T4.out 0 (by omega)); have h : 1 < L.heap.size := h; omega)
    (fun _ => rfl)
    (fun pre W => PInv w N1 pre W)
    (fun _ _ _ => False)
    (fun pre W W' h hk => h.keeps hk (fun j e => by
      have hs := HS.out
      rcases e with e | e | e
      · have e : j = N1 + 1 := e; omega
      · omega
      · omega) hw3)
    (fun c pre W W' h hk => h)
    I0.out
    (fun x => { tmps := #[.slice (some ⟨g, off, none⟩) 1 cap, undef, .slice none 0 0, .bool false, .pointer (some ⟨N, 0, none⟩), .pointer (some ⟨N1, 0, none⟩), .int .i64 (x : Int), .slice (some ⟨g, off, none⟩) 1 cap, .pointer (some ⟨g, off, none⟩), .agg #[.int .u64 s.lo.toNat, .int .u64 s.hi.toNat], .agg #[.int .u64 t.lo.toNat, .int .u64 t.hi.toNat], .agg #[.int .u64 t.lo.toNat, .int .u64 t.hi.toNat], .bool false, .slice (some ⟨g, off, none⟩) 1 cap, .int .i64 1, .bool false, undef, undef, .agg #[.int .u64 t.lo.toNat, .int .u64 t.hi.toNat], .func (.func 65) #[] #[.pointer (some ⟨N1 + 1, 0, none⟩)], .int .i64 (x : Int), undef, undef, undef, undef, undef, undef], defers := [] }) ?assign ?body ?done ?stop
  case assign =>
    intro l x W K hK
    gi_wp2
    exact hK
  case body =>
    rintro l pre x W hI hnx hsz
    have HI := Lib.hid hI
    have c0 : W.cell? ⟨N1, 0, none⟩ = some (.int .u64 (belowAll pre).lo.toNat) := by rw [cell_at hI.b]; rfl
    have c1 : W.cell? ⟨N1, 1, none⟩ = some (.int .u64 (belowAll pre).hi.toNat) := by rw [cell_at hI.b]; rfl
    clear hI hnx
    have hlt := block_lt HI.out.b
    have hN1 : N1 < L.heap.size := by rw [HS.out]; omega
    have fin : ∀ w5, Keeps W w5 (fun _ => False) → ∀ W', W' = (w5.setCell ⟨N1, 0, none⟩ (.int .u64 ((belowAll pre).or (belowS (x : Int))).lo.toNat)).setCell ⟨N1, 0 + 1, none⟩ (.int .u64 ((belowAll pre).or (belowS (x : Int))).hi.toNat) →
        (∀ j, Mine (fun j => j = N1 + 1 ∨ j = 1) L.heap.size j → W'.heap[j]? = W.heap[j]?) ∧ W.heap.size ≤ W'.heap.size ∧ PInv w N1 (pre ++ [x]) W' := by
      rintro w5 k5 W' rfl
      have h5 := (k5.block _ hlt id).trans HI.out.b
      have kk : Keeps W ((w5.setCell ⟨N1, 0, none⟩ (.int .u64 ((belowAll pre).or (belowS (x : Int))).lo.toNat)).setCell ⟨N1, 0 + 1, none⟩ (.int .u64 ((belowAll pre).or (belowS (x : Int))).hi.toNat)) (fun j => j = N1) :=
        Keeps.setCell (S := fun j => j = N1) (p := ⟨N1, 0 + 1, none⟩) (Keeps.setCell (S := fun j => j = N1) (p := ⟨N1, 0, none⟩) (k5.mono (fun _ _ h => h.elim)) (fun _ => rfl) _) (fun _ => rfl) _
      have hs := HS.out
      refine ⟨fun j hj => kk.block j ?_ ?_, kk.size, ?_, ?_⟩
      · rcases hj with (hj | hj) | hj | hj <;> omega
      · rcases hj with (hj | hj) | hj | hj <;> omega
      · rw [belowAll_snoc, setCell_heap (setCell_heap h5 0 _) (0 + 1) _]
        rfl
      · exact HI.out.keep.trans' kk (fun j hj e => by omega)
    have Fin := Lib.hid fin
    clear fin
    gi_wp2_with fail
    have HB : Hid (∀ w5, Keeps W w5 (fun _ => False) → w5.cell? ⟨N1, 0, none⟩ = some (.int .u64 (belowAll pre).lo.toNat) ∧ w5.cell? ⟨N1, 1, none⟩ = some (.int .u64 (belowAll pre).hi.toNat) ∧ w5.frozen? ⟨N1, 0, none⟩ = false ∧ w5.frozen? ⟨N1, 1, none⟩ = false) := Lib.hid (fun w5 k5 => by
      have h := (k5.block _ (block_lt HI.out.b) id).trans HI.out.b
      exact ⟨by rw [cell_at h]; rfl, by rw [cell_at h]; rfl, free_at h 0, free_at h 1⟩)
    gi_region_with (first
      | (refine ⟨trivial, ?_⟩; gi_at_call 35; refine CallsIn.inRound l ((callsIn_wide.2 (below_any _ _)).mono ?_); rintro e w5 ⟨rfl, k5⟩; have kW : Keeps W w5 (fun _ => False) := (((Keeps.refl W (fun _ => False)).drew).trans k5); have KW := Lib.hid kW; have d0 := (HB.out w5 kW).1; have d1 := (HB.out w5 kW).2.1; clear kW k5)
      | (refine ⟨trivial, ?_⟩; gi_at_call 58; refine CallsIn.inRound l ((callsIn_wide.2 (or_any (belowAll pre) (belowS x) _)).mono ?_); rintro e w6 ⟨rfl, k6⟩; unfold BSet.val; have K6 := Lib.hid (KW.out.trans k6); have f0 := (HB.out w6 K6.out).2.2.1; have f1 := (HB.out w6 K6.out).2.2.2; have g0 := (HB.out w6 K6.out).1; have g1 := (HB.out w6 K6.out).2.1; clear k6))
    all_goals gi_wp2
    all_goals
      obtain ⟨r1, r2, r3⟩ := Fin.out _ K6.out _ rfl
      exact ⟨r1, r2, r3⟩
  case done =>
    rintro xs W rfl hI hD
    have c0 : W.cell? ⟨N1, 0, none⟩ = some (.int .u64 (belowAll t.mem).lo.toNat) := by rw [cell_at hI.b]; rfl
    have c1 : W.cell? ⟨N1, 1, none⟩ = some (.int .u64 (belowAll t.mem).hi.toNat) := by rw [cell_at hI.b]; rfl
    have HI := Lib.hid hI
    have HD := Lib.hid hD
    clear hI hD
    gi_wp2_with fail
    have hd : (W.alloc (.cells #[.int .u64 (belowAll t.mem).lo.toNat, .int .u64 (belowAll t.mem).hi.toNat] 57)).heap[L.heap.size]? = some (.deferred (some [])) := (Below.heap_alloc _ _ _ (Array.getElem?_eq_some_iff.1 HD.out).1).trans HD.out
    have hb := heap_alloc_new W (.cells #[.int .u64 (belowAll t.mem).lo.toNat, .int .u64 (belowAll t.mem).hi.toNat] 57)
    have hne : L.heap.size ≠ W.heap.size := by have := (Array.getElem?_eq_some_iff.1 HD.out).1; omega
    refine ⟨by simp, .inl ⟨_, _, rfl, run_takeDeferred hd, ?_⟩⟩
    refine ⟨.tuple #[.slice (some ⟨W.heap.size, 0, none⟩) 1 1, .bool true], by simp [results, Tryd.results42, go_sem], _, by rw [HPD.out]; rfl, ?_, fun l hl => ?_⟩
    · exact Keeps.grown (HI.out.keep.alloc _) (grownBy_putObj' _ L.heap.size _) (fun k e hk => by
        cases e
        have := K4.out.size
        omega)
    · rw [HPD.out] at hl
      obtain rfl := Option.some.inj hl
      have hb2 := (World.putObj_heap_other (o := .deferred none) (fun e => hne e.symm)).trans hb
      refine ⟨rfl, _, _, rfl, Nat.le_refl _, by unfold maxLen; decide, (fun h => by cases h), fun _ => ⟨_, _, rfl, (Array.getElem?_eq_some_iff.1 hb2).1, fun j u hj => ?_⟩⟩
      rw [Nat.zero_add, cell_at hb2, ← Array.getElem?_toList]
      exact hj
  case stop =>
    rintro c pre W _ h _
    exact h.elim
end Go.Proofs.YtdhcnmljkmodhaaDoor
