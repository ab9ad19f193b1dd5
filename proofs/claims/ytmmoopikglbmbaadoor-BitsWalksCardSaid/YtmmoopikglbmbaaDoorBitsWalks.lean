/- BitsWalks returns true: gone through as far as is asked, the numbers rise, and are those that are in it. The table of math/bits reads as laid (tied by the card). -/
import Derived.Test.YtmmoopikglbmbaaDoorBits8
import Derived.Test.YtmmoopikglbmbaaDoorBitsOpen
namespace Go.Proofs.YtmmoopikglbmbaaDoor.bitsWalks
set_option linter.unusedSectionVars false
set_option linter.unusedVariables false
set_option linter.unusedSimpArgs false
open Go.ChangeShapes Go.WideShapes Go.ChangeAt Go.RowKit
attribute [local go_sem] Oper.semAt_some

/-- The last that has come. -/
def lastOf (pre : List Nat) : Int := match pre.getLast? with
  | some k => k
  | none => -1
theorem lastOf_snoc (pre : List Nat) (x : Nat) : lastOf (pre ++ [x]) = x := by unfold lastOf; simp
theorem mem_sorted (s : BSet) : s.mem.Pairwise (· < ·) := List.pairwise_lt_range.filter _
theorem walk_facts (s : BSet) (pre : List Nat) (x : Nat) (h : pre ++ [x] <+: s.mem) : lastOf pre < x ∧ x < 128 ∧ s.hasN x = true ∧ pre.length < 128 := by
  have hmem : x ∈ s.mem := h.subset (by simp)
  have hx := hmem
  unfold BSet.mem at hx
  rw [List.mem_filter, List.mem_range] at hx
  refine ⟨?_, hx.1, ?_, ?_⟩
  · have hs := (mem_sorted s).sublist h.sublist
    rw [List.pairwise_append] at hs
    unfold lastOf
    cases hl : pre.getLast? with
    | none => show (-1 : Int) < x; omega
    | some k =>
      have := hs.2.2 k (List.mem_of_getLast? hl) x (by simp)
      show (k : Int) < x; omega
  · unfold BSet.hasN
    rw [decide_eq_true (by omega), decide_eq_true (by omega), Int.toNat_natCast, hx.2]; rfl
  · have := h.length_le
    have hl : s.mem.length ≤ 128 := by unfold BSet.mem; exact Nat.le_trans (List.length_filter_le _ _) (by simp)
    simp at this; omega

/-- Between two rounds. -/
structure Inv (w : World) (s : BSet) (stop : Nat) (N0 N1 : Nat) (pre : List Nat) (W : World) : Prop where
  b0 : W.heap[N0]? = some (.cells s.cells 24 (0, 0))
  b1 : W.heap[N0 + 1]? = some (.cells #[.int .u8 (stop : Int)] 5 (0, 0))
  b2 : W.heap[N0 + 1 + 1]? = some (.cells #[.bool false] 4 (0, 0))
  b3 : W.heap[N1]? = some (.cells #[.int .i64 (pre.length : Int)] 3 (0, 0))
  b4 : W.heap[N1 + 1]? = some (.cells #[.int .i64 (lastOf pre)] 3 (0, 0))
  keep : Keeps w W (fun _ => False)
theorem Inv.keeps {w : World} {s : BSet} {stop N0 N1 : Nat} {pre : List Nat} {W W' : World} {T : Nat → Prop} (h : Inv w s stop N0 N1 pre W) (hk : Keeps W W' T) (hT : ∀ j, T j → N1 + 1 < j) (hN : N0 + 1 + 1 < N1) (hw : w.heap.size ≤ N0) : Inv w s stop N0 N1 pre W' := by
  have same : ∀ {j : Nat} {o : Obj}, j ≤ N1 + 1 → W.heap[j]? = some o → W'.heap[j]? = some o := fun hj h =>
    (hk.block _ (Array.getElem?_eq_some_iff.1 h).1 (fun e => by have := hT _ e; omega)).trans h
  exact ⟨same (by omega) h.b0, same (by omega) h.b1, same (by omega) h.b2, same (by omega) h.b3, same (by omega) h.b4,
    h.keep.trans' hk (fun j hj e => by have := hT _ e; omega)⟩

/-- The return: the result's cell holds true. -/
theorem leave {w W w5 : World} {N D : Nat} {a : Array Value} (h1 : Keeps w W (fun _ => False)) (h2 : Keeps W w5 (fun _ => False)) (hr : W.heap[N + 1 + 1]? = some (.cells #[.bool false] 4 (0, 0))) (hd : W.heap[D]? = some (.deferred (some []))) (hne : D ≠ N + 1 + 1) (hN : w.heap.size ≤ N) (hDw : w.heap.size ≤ D)
    (ha : a.getD 4 undef = .pointer (some ⟨N + 1 + 1, 0, none⟩) := by rfl) :
    bodyPostM Fence.wide 5 Tryd.prog Tryd.f3 (fun e w' => e = Ending.returned (Value.bool true) ∧ Keeps w w' fun _ => False) Exit.ret { tmps := a, defers := [{ target := Target.collected D, args := #[] }] } (w5.setCell ⟨N + 1 + 1, 0, none⟩ (.bool true)) := by
  have hd5 : w5.heap[D]? = some (.deferred (some [])) := (h2.block _ (Array.getElem?_eq_some_iff.1 hd).1 id).trans hd
  have hr5 : w5.heap[N + 1 + 1]? = some (.cells #[.bool false] 4 (0, 0)) := (h2.block _ (Array.getElem?_eq_some_iff.1 hr).1 id).trans hr
  have hd6 : (w5.setCell ⟨N + 1 + 1, 0, none⟩ (.bool true)).heap[D]? = some (.deferred (some [])) := (Below.heap_setCell _ _ _ _ (by simp; omega)).trans hd5
  have hr6 : ((w5.setCell ⟨N + 1 + 1, 0, none⟩ (.bool true)).putObj D (.deferred none)).cell? ⟨N + 1 + 1, 0, none⟩ = some (.bool true) := by
    have h := setCell_heap hr5 0 (.bool true)
    rw [cell_at ((World.putObj_heap_other (fun e => hne e.symm)).trans h)]; rfl
  refine ⟨by simp, .inl ⟨_, _, rfl, run_takeDeferred hd6, ?_⟩⟩
  have ha' : a[4]?.getD undef = .pointer (some ⟨N + 1 + 1, 0, none⟩) := by simpa using ha
  refine ⟨.bool true, by simp [results, Tryd.results3, go_sem, ha', hr6], rfl, ?_⟩
  exact Keeps.grown (Keeps.setCell (h1.trans h2) (p := ⟨N + 1 + 1, 0, none⟩) (fun h => absurd h (by simp; omega)) _) (grownBy_putObj' _ D _) (fun k e hk => by
    cases e
    omega)
theorem then_false {F : Fence} {n : Nat} {P : Program} {c : Code} {K : Act → World → Prop} {Q : Exit → Act → World → Prop} {a : Act} {w : World} (h : c.wpIn F n P (Exit.then K (fun _ _ _ => False)) a w) : c.wpIn F n P (Exit.then K Q) a w :=
  wpIn_mono h (fun e a w h => by cases e <;> first | exact h | exact h.elim)

set_option maxRecDepth 100000 in
set_option maxHeartbeats 10000000 in
theorem walk (w : World) (s : BSet) (stop : Nat) (hst : stop < 256) (hT : TabOk w) : Calls Tryd.prog 3 #[s.val, .int .u8 stop] w fun e w' => e = .returned (.bool true) ∧ Keeps w w' (fun _ => False) := by
  have GT := Lib.hid hT
  clear hT
  refine (callsIn_wide (n := 5)).1 ?_
  refine callsIn_of_wp_marks Tryd.func3 rfl trivial ?_ rfl
  unfold BSet.val
  simp only [Tryd.ntmps3, List.size_toArray, List.length_cons, List.length_nil, Nat.reduceAdd, Nat.reduceSub, Array.replicate_succ, Array.replicate_zero, List.push_toArray, List.append_toArray, List.nil_append, List.cons_append]
  gi_wp2_with fail
  refine ⟨trivial, (callsIn_wide.2 (awake07 _ (GT.out.keeps ((((Keeps.refl _ _).alloc _).alloc _).alloc _)))).mono ?_⟩
  rintro e w1 ⟨rfl, k1⟩
  have h3 : (((w.alloc (.cells #[.int .u64 s.lo.toNat, .int .u64 s.hi.toNat] 24)).alloc (.cells #[.int .u8 (stop : Int)] 5)).alloc (.cells #[.bool false] 4)).heap.size = w.heap.size + 3 := by simp
  have q0 : w1.heap[w.heap.size]? = some (.cells s.cells 24 (0, 0)) :=
    (k1.block _ (by rw [h3]; omega) id).trans (((Below.heap_alloc _ _ _ (by simp; omega)).trans (Below.heap_alloc _ _ _ (by simp))).trans (heap_alloc_new w _))
  have q1 : w1.heap[w.heap.size + 1]? = some (.cells #[.int .u8 (stop : Int)] 5 (0, 0)) := by
    refine (k1.block _ (by rw [h3]; omega) id).trans ((Below.heap_alloc _ _ _ (by simp)).trans ?_)
    have := heap_alloc_new (w.alloc (.cells #[.int .u64 s.lo.toNat, .int .u64 s.hi.toNat] 24)) (.cells #[.int .u8 (stop : Int)] 5)
    rw [hs_alloc] at this; exact this
  have q2 : w1.heap[w.heap.size + 1 + 1]? = some (.cells #[.bool false] 4 (0, 0)) := by
    refine (k1.block _ (by rw [h3]; omega) id).trans ?_
    have := heap_alloc_new ((w.alloc (.cells #[.int .u64 s.lo.toNat, .int .u64 s.hi.toNat] 24)).alloc (.cells #[.int .u8 (stop : Int)] 5)) (.cells #[.bool false] 4)
    rw [hs_alloc, hs_alloc] at this; exact this
  have K1 : Hid (Keeps w w1 (fun _ => False)) := Lib.hid (((((Keeps.refl _ _).alloc _).alloc _).alloc _).trans k1)
  have GT1 : Hid (TabOk w1) := Lib.hid (GT.out.keeps K1.out)
  have x0 : w1.cell? ⟨w.heap.size, 0, none⟩ = some (.int .u64 s.lo.toNat) := by rw [cell_at q0]; rfl
  have x1 : w1.cell? ⟨w.heap.size, 1, none⟩ = some (.int .u64 s.hi.toNat) := by rw [cell_at q0]; rfl
  have hlt0 := block_lt q2
  have Q0 := Lib.hid q0
  have Q1 := Lib.hid q1
  have Q2 := Lib.hid q2
  clear k1 h3 q0 q1 q2
  have p0 : ((w1.alloc (.cells #[.int .i64 0] 3)).alloc (.cells #[.int .i64 (-1)] 3)).heap[w.heap.size]? = some (.cells s.cells 24 (0, 0)) := ((Below.heap_alloc _ _ _ (by simp; omega)).trans (Below.heap_alloc _ _ _ (by omega))).trans Q0.out
  have y0 : ((w1.alloc (.cells #[.int .i64 0] 3)).alloc (.cells #[.int .i64 (-1)] 3)).cell? ⟨w.heap.size, 0, none⟩ = some (.int .u64 s.lo.toNat) := by rw [cell_at p0]; rfl
  have y1 : ((w1.alloc (.cells #[.int .i64 0] 3)).alloc (.cells #[.int .i64 (-1)] 3)).cell? ⟨w.heap.size, 1, none⟩ = some (.int .u64 s.hi.toNat) := by rw [cell_at p0]; rfl
  have P0 := Lib.hid p0
  have B0 : Hid ((((w1.alloc (.cells #[.int .i64 0] 3)).alloc (.cells #[.int .i64 (-1)] 3)).alloc (.cells s.cells 24)).heap[w.heap.size]? = some (.cells s.cells 24 (0, 0))) := Lib.hid ((Below.heap_alloc _ _ _ (by simp; omega)).trans P0.out)
  have B1 : Hid ((((w1.alloc (.cells #[.int .i64 0] 3)).alloc (.cells #[.int .i64 (-1)] 3)).alloc (.cells s.cells 24)).heap[w.heap.size + 1]? = some (.cells #[.int .u8 (stop : Int)] 5 (0, 0))) := Lib.hid ((((Below.heap_alloc _ _ _ (by simp; omega)).trans (Below.heap_alloc _ _ _ (by simp; omega))).trans (Below.heap_alloc _ _ _ (by omega))).trans Q1.out)
  have B2 : Hid ((((w1.alloc (.cells #[.int .i64 0] 3)).alloc (.cells #[.int .i64 (-1)] 3)).alloc (.cells s.cells 24)).heap[w.heap.size + 1 + 1]? = some (.cells #[.bool false] 4 (0, 0))) := Lib.hid ((((Below.heap_alloc _ _ _ (by simp; omega)).trans (Below.heap_alloc _ _ _ (by simp; omega))).trans (Below.heap_alloc _ _ _ (by omega))).trans Q2.out)
  have B3 : Hid ((((w1.alloc (.cells #[.int .i64 0] 3)).alloc (.cells #[.int .i64 (-1)] 3)).alloc (.cells s.cells 24)).heap[w1.heap.size]? = some (.cells #[.int .i64 0] 3 (0, 0))) := Lib.hid (((Below.heap_alloc _ _ _ (by simp; omega)).trans (Below.heap_alloc _ _ _ (by simp))).trans (heap_alloc_new w1 _))
  have B4 : Hid ((((w1.alloc (.cells #[.int .i64 0] 3)).alloc (.cells #[.int .i64 (-1)] 3)).alloc (.cells s.cells 24)).heap[w1.heap.size + 1]? = some (.cells #[.int .i64 (-1)] 3 (0, 0))) := Lib.hid (by
    refine (Below.heap_alloc _ _ _ (by simp)).trans ?_
    have := heap_alloc_new (w1.alloc (.cells #[.int .i64 0] 3)) (.cells #[.int .i64 (-1)] 3)
    rw [hs_alloc] at this; exact this)
  have B5 : Hid ((((w1.alloc (.cells #[.int .i64 0] 3)).alloc (.cells #[.int .i64 (-1)] 3)).alloc (.cells s.cells 24)).heap[w1.heap.size + 1 + 1]? = some (.cells s.cells 24 (0, 0))) := Lib.hid (by
    have := heap_alloc_new ((w1.alloc (.cells #[.int .i64 0] 3)).alloc (.cells #[.int .i64 (-1)] 3)) (.cells s.cells 24)
    rw [hs_alloc, hs_alloc] at this; exact this)
  have HS : Hid ((((w1.alloc (.cells #[.int .i64 0] 3)).alloc (.cells #[.int .i64 (-1)] 3)).alloc (.cells s.cells 24)).heap.size = w1.heap.size + 1 + 1 + 1) := Lib.hid (by rw [hs_alloc, hs_alloc, hs_alloc])
  have K3 : Hid (Keeps w (((w1.alloc (.cells #[.int .i64 0] 3)).alloc (.cells #[.int .i64 (-1)] 3)).alloc (.cells s.cells 24)) (fun _ => False)) := Lib.hid (((K1.out.alloc _).alloc _).alloc _)
  have T3 : Hid (TabOk (((w1.alloc (.cells #[.int .i64 0] 3)).alloc (.cells #[.int .i64 (-1)] 3)).alloc (.cells s.cells 24))) := Lib.hid (GT.out.keeps K3.out)
  clear x0 x1 p0 P0 Q0 Q1 Q2 GT1 GT
  gi_wp2_with fail
  refine ⟨trivial, (callsIn_wide.2 (all_any s _)).mono ?_⟩
  rintro e w2 ⟨rfl, rfl⟩
  rw [hs_alloc, hs_alloc]
  clear y0 y1 K1
  generalize (((w1.alloc (.cells #[.int .i64 0] 3)).alloc (.cells #[.int .i64 (-1)] 3)).alloc (.cells s.cells 24)) = L at *
  have hN : w.heap.size + 1 + 1 < w1.heap.size := hlt0
  clear hlt0
  generalize w1.heap.size = N1 at *
  have I0 : Hid (Inv w s stop w.heap.size N1 [] L) := Lib.hid ⟨B0.out, B1.out, B2.out, B3.out, B4.out, K3.out⟩
  have hg0 : N1 + 1 + 1 ≠ 0 := by omega
  gi_wp2_with fail
  have hw0 : w.heap.size ≤ w.heap.size := Nat.le_refl _
  refine wpIn_rangeFunc_mut rfl (by omega) (gf := 45) (lb := #[.pointer (some ⟨N1 + 1 + 1, 0, none⟩)]) rfl trivial (enters_of Tryd.func45 (by kernel_rfl) rfl)
    (all_seq 4 (by omega) (N1 + 1 + 1) s L B5.out T3.out hg0)
    (fun j e => by have e : j = N1 + 1 + 1 := e; rw [HS.out]; omega)
    (fun j e => by
      rcases e with e | e
      · rw [HS.out]; omega
      · rw [HS.out]; omega)
    (fun _ => rfl)
    (fun pre W => Inv w s stop w.heap.size N1 pre W ∧ pre.length ≤ stop ∧ pre.length ≤ 128)
    (fun c pre W => c = .exit 0 ∧ Inv w s stop w.heap.size N1 pre W ∧ pre.length = stop + 1)
    (fun pre W W' h hk => ⟨h.1.keeps hk (fun j e => by
      have hs := HS.out
      rcases e with e | e | e
      · have e : j = N1 + 1 + 1 := e; omega
      · omega
      · omega) hN hw0, h.2⟩)
    (fun c pre W W' h hk => ⟨h.1, h.2.1.keeps hk (fun j e => by
      have hs := HS.out
      rcases e with e | e | e
      · have e : j = N1 + 1 + 1 := e; omega
      · omega
      · omega) hN hw0, h.2.2⟩)
    ⟨I0.out, by simp, by simp⟩
    (fun x => { tmps := #[.agg #[.int .u64 s.lo.toNat, .int .u64 s.hi.toNat], .int .u8 (stop : Int), .pointer (some ⟨w.heap.size, 0, none⟩), .pointer (some ⟨w.heap.size + 1, 0, none⟩), .pointer (some ⟨w.heap.size + 1 + 1, 0, none⟩), .pointer (some ⟨N1, 0, none⟩), .pointer (some ⟨N1 + 1, 0, none⟩), .int .i64 (x : Int), .bool true, .bool false, .agg #[.int .u64 s.lo.toNat, .int .u64 s.hi.toNat], .func (.func 45) #[] #[.pointer (some ⟨N1 + 1 + 1, 0, none⟩)], .int .i64 (x : Int), undef, undef, undef, undef, undef, undef, undef, undef, undef, undef, undef, undef, undef, undef, undef, undef, undef, undef, undef, undef, undef, undef, undef, undef, undef, undef, undef, undef], defers := [] }) ?assign ?body ?done ?stop
  case assign =>
    intro l x W K hK
    gi_wp2
    exact hK
  case body =>
    rintro l pre x W ⟨hI, hlen, hlen2⟩ hnx hsz
    obtain ⟨f1, f2, f3, f4⟩ := walk_facts s pre x hnx
    have F3 := Lib.hid f3
    have HI := Lib.hid hI
    have c0 : W.cell? ⟨w.heap.size, 0, none⟩ = some (.int .u64 s.lo.toNat) := by rw [cell_at hI.b0]; rfl
    have c1 : W.cell? ⟨w.heap.size, 1, none⟩ = some (.int .u64 s.hi.toNat) := by rw [cell_at hI.b0]; rfl
    have c4 : W.cell? ⟨N1 + 1, 0, none⟩ = some (.int .i64 (lastOf pre)) := by rw [cell_at hI.b4]; rfl
    have g1 : ¬ ((x : Int) ≤ lastOf pre) := by omega
    have g2 : ¬ ((127 : Int) < (x : Int)) := by omega
    clear hI f1 f3 hnx
    gi_wp2_with fail
    refine ⟨trivial, CallsIn.inRound l ((callsIn_wide.2 (has_any s x _)).mono ?_)⟩
    rintro e w2 ⟨rfl, k2⟩
    rw [F3.out]
    have K2 := Lib.hid k2
    have hb3 : w2.heap[N1]? = some (.cells #[.int .i64 (pre.length : Int)] 3 (0, 0)) := (k2.block _ (block_lt HI.out.b3) id).trans HI.out.b3
    have hb4 : w2.heap[N1 + 1]? = some (.cells #[.int .i64 (lastOf pre)] 3 (0, 0)) := (k2.block _ (block_lt HI.out.b4) id).trans HI.out.b4
    have hb1 : w2.heap[w.heap.size + 1]? = some (.cells #[.int .u8 (stop : Int)] 5 (0, 0)) := (k2.block _ (block_lt HI.out.b1) id).trans HI.out.b1
    have d3 : w2.cell? ⟨N1, 0, none⟩ = some (.int .i64 (pre.length : Int)) := by rw [cell_at hb3]; rfl
    have d4 : w2.cell? ⟨N1 + 1, 0, none⟩ = some (.int .i64 (lastOf pre)) := by rw [cell_at hb4]; rfl
    have d1 : w2.cell? ⟨w.heap.size + 1, 0, none⟩ = some (.int .u8 (stop : Int)) := by rw [cell_at hb1]; rfl
    have e3 : w2.frozen? ⟨N1, 0, none⟩ = false := free_at hb3 0
    have e4 : w2.frozen? ⟨N1 + 1, 0, none⟩ = false := free_at hb4 0
    have HB3 := Lib.hid hb3
    have HB4 := Lib.hid hb4
    have fin : ∀ W', W' = (w2.setCell ⟨N1 + 1, 0, none⟩ (.int .i64 (x : Int))).setCell ⟨N1, 0, none⟩ (.int .i64 ((pre.length : Int) + 1)) →
        (∀ j, Mine (fun j => j = N1 + 1 + 1 ∨ j = 0) L.heap.size j → W'.heap[j]? = W.heap[j]?) ∧ W.heap.size ≤ W'.heap.size ∧ Inv w s stop w.heap.size N1 (pre ++ [x]) W' := by
      rintro W' rfl
      have kk : Keeps W ((w2.setCell ⟨N1 + 1, 0, none⟩ (.int .i64 (x : Int))).setCell ⟨N1, 0, none⟩ (.int .i64 ((pre.length : Int) + 1))) (fun j => j = N1 + 1 ∨ j = N1) :=
        Keeps.setCell (S := fun j => j = N1 + 1 ∨ j = N1) (p := ⟨N1, 0, none⟩) (Keeps.setCell (S := fun j => j = N1 + 1 ∨ j = N1) (p := ⟨N1 + 1, 0, none⟩) (K2.out.mono (fun _ _ h => h.elim)) (fun _ => .inl rfl) _) (fun _ => .inr rfl) _
      have hL := HS.out
      refine ⟨fun j hj => kk.block j ?_ ?_, kk.size, ⟨?_, ?_, ?_, ?_, ?_, ?_⟩⟩
      · rcases hj with (hj | hj) | hj | hj <;> omega
      · rcases hj with (hj | hj) | hj | hj <;> omega
      · exact (kk.block _ (block_lt HI.out.b0) (by omega)).trans HI.out.b0
      · exact (kk.block _ (block_lt HI.out.b1) (by omega)).trans HI.out.b1
      · exact (kk.block _ (block_lt HI.out.b2) (by omega)).trans HI.out.b2
      · have h1 : (w2.setCell ⟨N1 + 1, 0, none⟩ (.int .i64 (x : Int))).heap[N1]? = some (.cells #[.int .i64 (pre.length : Int)] 3 (0, 0)) := (Below.heap_setCell _ _ _ _ (by simp)).trans HB3.out
        rw [setCell_heap h1 0 _]
        simp
      · rw [Below.heap_setCell _ _ _ _ (by simp), setCell_heap HB4.out 0 _, lastOf_snoc]
        rfl
      · exact HI.out.keep.trans' kk (fun j hj e => by omega)
    have Fin := Lib.hid fin
    clear fin hb1 hb3 hb4 k2 c0 c1 c4
    have hadd : (pre.length : Int) + 1 ≤ 1000 := by omega
    by_cases hgo : pre.length + 1 ≤ stop
    · have g3 : ¬ ((stop : Int) < (pre.length : Int) + 1) := by omega
      gi_wp2_with fail
      obtain ⟨r1, r2, r3⟩ := Fin.out _ rfl
      exact ⟨r1, r2, r3, by simp; omega, by simp; omega⟩
    · have g3 : ((stop : Int) < (pre.length : Int) + 1) := by omega
      gi_wp2_with fail
      obtain ⟨r1, r2, r3⟩ := Fin.out _ rfl
      exact ⟨r1, rfl, r3, by simp; omega⟩
  case done =>
    rintro xs W rfl ⟨hI, hlen, hlen2⟩ hD
    have hwr : IntKind.i64.wrap (IntKind.i64.wrap (stop : Int) + 1) = (stop : Int) + 1 := by simp only [IntKind.wrap_i64]; omega
    have hcmp : ¬ (IntKind.i64.wrap (IntKind.i64.wrap (stop : Int) + 1) < (s.mem.length : Int)) := by rw [hwr]; omega
    clear hwr
    have c0 : W.cell? ⟨w.heap.size, 0, none⟩ = some (.int .u64 s.lo.toNat) := by rw [cell_at hI.b0]; rfl
    have c1 : W.cell? ⟨w.heap.size, 1, none⟩ = some (.int .u64 s.hi.toNat) := by rw [cell_at hI.b0]; rfl
    have c3 : W.cell? ⟨N1, 0, none⟩ = some (.int .i64 (s.mem.length : Int)) := by rw [cell_at hI.b3]; rfl
    have c5 : W.cell? ⟨w.heap.size + 1, 0, none⟩ = some (.int .u8 (stop : Int)) := by rw [cell_at hI.b1]; rfl
    have c6 : W.frozen? ⟨w.heap.size + 1 + 1, 0, none⟩ = false := free_at hI.b2 0
    have c7 : W.cell? ⟨w.heap.size + 1 + 1, 0, none⟩ = some (.bool false) := by rw [cell_at hI.b2]; rfl
    have HI := Lib.hid hI
    have HD := Lib.hid hD
    clear hI hD
    have HB := Lib.hid (fun (w5 : World) (k5 : Keeps W w5 (fun _ => False)) => show w5.heap[w.heap.size + 1]? = some (.cells #[.int .u8 (stop : Int)] 5 (0, 0)) ∧ w5.heap[w.heap.size + 1 + 1]? = some (.cells #[.bool false] 4 (0, 0)) ∧ w5.heap[N1]? = some (.cells #[.int .i64 (s.mem.length : Int)] 3 (0, 0)) from
      ⟨(k5.block _ (block_lt HI.out.b1) id).trans HI.out.b1, (k5.block _ (block_lt HI.out.b2) id).trans HI.out.b2, (k5.block _ (block_lt HI.out.b3) id).trans HI.out.b3⟩)
    gi_wp2_with fail
    rename_i K hK
    refine then_false ?_
    refine wpIn_wide.2 ?_
    go_region_with (go_at_call 14; refine (len_any s _).mono ?_; rintro e w5 ⟨rfl, k5⟩; have kW : Keeps W w5 (fun _ => False) := (((Keeps.refl W (fun _ => False)).drew).trans k5); have r1 : w5.cell? ⟨w.heap.size + 1, 0, none⟩ = some (.int .u8 (stop : Int)) := (by rw [cell_at (HB.out w5 kW).1]; rfl); have r2 : w5.cell? ⟨w.heap.size + 1 + 1, 0, none⟩ = some (.bool false) := (by rw [cell_at (HB.out w5 kW).2.1]; rfl); have r3 : w5.cell? ⟨N1, 0, none⟩ = some (.int .i64 (s.mem.length : Int)) := (by rw [cell_at (HB.out w5 kW).2.2]; rfl); have r4 : w5.frozen? ⟨w.heap.size + 1 + 1, 0, none⟩ = false := free_at (HB.out w5 kW).2.1 0; have KW := Lib.hid kW; clear k5 kW)
    all_goals (refine hK _ _ ?_)
    all_goals gi_wp2
    all_goals first
      | (exfalso; omega)
      | exact leave (HI.out.keep) KW.out HI.out.b2 HD.out (by have := HS.out; omega) (Nat.le_refl _) (by have := HS.out; omega)
  case stop =>
    rintro c pre W ⟨hpre, _⟩ ⟨rfl, hI, hlen⟩ hD
    have hle := hpre.length_le
    have hwr : IntKind.i64.wrap (IntKind.i64.wrap (stop : Int) + 1) = (pre.length : Int) := by simp only [IntKind.wrap_i64]; omega
    clear hpre
    by_cases hlt : pre.length < s.mem.length
    · have hcmp : (pre.length : Int) < (s.mem.length : Int) := by omega
      have c0 : W.cell? ⟨w.heap.size, 0, none⟩ = some (.int .u64 s.lo.toNat) := by rw [cell_at hI.b0]; rfl
      have c1 : W.cell? ⟨w.heap.size, 1, none⟩ = some (.int .u64 s.hi.toNat) := by rw [cell_at hI.b0]; rfl
      have c3 : W.cell? ⟨N1, 0, none⟩ = some (.int .i64 (pre.length : Int)) := by rw [cell_at hI.b3]; rfl
      have c5 : W.cell? ⟨w.heap.size + 1, 0, none⟩ = some (.int .u8 (stop : Int)) := by rw [cell_at hI.b1]; rfl
      have c6 : W.frozen? ⟨w.heap.size + 1 + 1, 0, none⟩ = false := free_at hI.b2 0
      have c7 : W.cell? ⟨w.heap.size + 1 + 1, 0, none⟩ = some (.bool false) := by rw [cell_at hI.b2]; rfl
      have HI := Lib.hid hI
      have HD := Lib.hid hD
      clear hI hD
      have HB := Lib.hid (fun (w5 : World) (k5 : Keeps W w5 (fun _ => False)) => show w5.heap[w.heap.size + 1]? = some (.cells #[.int .u8 (stop : Int)] 5 (0, 0)) ∧ w5.heap[w.heap.size + 1 + 1]? = some (.cells #[.bool false] 4 (0, 0)) ∧ w5.heap[N1]? = some (.cells #[.int .i64 (pre.length : Int)] 3 (0, 0)) from
        ⟨(k5.block _ (block_lt HI.out.b1) id).trans HI.out.b1, (k5.block _ (block_lt HI.out.b2) id).trans HI.out.b2, (k5.block _ (block_lt HI.out.b3) id).trans HI.out.b3⟩)
      gi_wp2_with fail
      rename_i K hK
      refine then_false ?_
      refine wpIn_wide.2 ?_
      go_region_with (go_at_call 14; refine (len_any s _).mono ?_; rintro e w5 ⟨rfl, k5⟩; have kW : Keeps W w5 (fun _ => False) := (((Keeps.refl W (fun _ => False)).drew).trans k5); have r1 : w5.cell? ⟨w.heap.size + 1, 0, none⟩ = some (.int .u8 (stop : Int)) := (by rw [cell_at (HB.out w5 kW).1]; rfl); have r2 : w5.cell? ⟨w.heap.size + 1 + 1, 0, none⟩ = some (.bool false) := (by rw [cell_at (HB.out w5 kW).2.1]; rfl); have r3 : w5.cell? ⟨N1, 0, none⟩ = some (.int .i64 (pre.length : Int)) := (by rw [cell_at (HB.out w5 kW).2.2]; rfl); have r4 : w5.frozen? ⟨w.heap.size + 1 + 1, 0, none⟩ = false := free_at (HB.out w5 kW).2.1 0; have KW := Lib.hid kW; clear k5 kW)
      all_goals (refine hK _ _ ?_)
      all_goals gi_wp2
      all_goals first
        | (exfalso; omega)
        | exact leave (HI.out.keep) KW.out HI.out.b2 HD.out (by have := HS.out; omega) (Nat.le_refl _) (by have := HS.out; omega)
    · have hcmp : ¬ ((pre.length : Int) < (s.mem.length : Int)) := by omega
      have heq2 : s.mem.length = pre.length := by omega
      have hlen_pre : ∀ w, Calls Tryd.prog 14 #[s.val] w fun e w' => e = .returned (.int .i64 (pre.length : Int)) ∧ Keeps w w' (fun _ => False) := fun w => by
        have h := len_any s w
        rw [heq2] at h
        exact h
      have HLen := Lib.hid hlen_pre
      clear hlen hle hlt hcmp heq2 hlen_pre
      have c0 : W.cell? ⟨w.heap.size, 0, none⟩ = some (.int .u64 s.lo.toNat) := by rw [cell_at hI.b0]; rfl
      have c1 : W.cell? ⟨w.heap.size, 1, none⟩ = some (.int .u64 s.hi.toNat) := by rw [cell_at hI.b0]; rfl
      have c3 : W.cell? ⟨N1, 0, none⟩ = some (.int .i64 (pre.length : Int)) := by rw [cell_at hI.b3]; rfl
      have c5 : W.cell? ⟨w.heap.size + 1, 0, none⟩ = some (.int .u8 (stop : Int)) := by rw [cell_at hI.b1]; rfl
      have c6 : W.frozen? ⟨w.heap.size + 1 + 1, 0, none⟩ = false := free_at hI.b2 0
      have c7 : W.cell? ⟨w.heap.size + 1 + 1, 0, none⟩ = some (.bool false) := by rw [cell_at hI.b2]; rfl
      have HI := Lib.hid hI
      have HD := Lib.hid hD
      clear hI hD
      have HB := Lib.hid (fun (w5 : World) (k5 : Keeps W w5 (fun _ => False)) => show w5.heap[w.heap.size + 1]? = some (.cells #[.int .u8 (stop : Int)] 5 (0, 0)) ∧ w5.heap[w.heap.size + 1 + 1]? = some (.cells #[.bool false] 4 (0, 0)) ∧ w5.heap[N1]? = some (.cells #[.int .i64 (pre.length : Int)] 3 (0, 0)) from
        ⟨(k5.block _ (block_lt HI.out.b1) id).trans HI.out.b1, (k5.block _ (block_lt HI.out.b2) id).trans HI.out.b2, (k5.block _ (block_lt HI.out.b3) id).trans HI.out.b3⟩)
      gi_wp2_with fail
      rename_i K hK
      refine then_false ?_
      refine wpIn_wide.2 ?_
      go_region_with (go_at_call 14; refine (HLen.out _).mono ?_; rintro e w5 ⟨rfl, k5⟩; have kW : Keeps W w5 (fun _ => False) := (((Keeps.refl W (fun _ => False)).drew).trans k5); have r1 : w5.cell? ⟨w.heap.size + 1, 0, none⟩ = some (.int .u8 (stop : Int)) := (by rw [cell_at (HB.out w5 kW).1]; rfl); have r2 : w5.cell? ⟨w.heap.size + 1 + 1, 0, none⟩ = some (.bool false) := (by rw [cell_at (HB.out w5 kW).2.1]; rfl); have r3 : w5.cell? ⟨N1, 0, none⟩ = some (.int .i64 (pre.length : Int)) := (by rw [cell_at (HB.out w5 kW).2.2]; rfl); have r4 : w5.frozen? ⟨w.heap.size + 1 + 1, 0, none⟩ = false := free_at (HB.out w5 kW).2.1 0; have KW := Lib.hid kW; clear k5 kW)
      all_goals (refine hK _ _ ?_)
      all_goals gi_wp2
      all_goals first
        | (exfalso; omega)
        | exact leave (HI.out.keep) KW.out HI.out.b2 HD.out (by have := HS.out; omega) (Nat.le_refl _) (by have := HS.out; omega)
end Go.Proofs.YtmmoopikglbmbaaDoor.bitsWalks
