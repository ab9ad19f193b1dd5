/- The walk of List. -/
import Derived.Test.YtmmoopikglbmbaaDoorBits8
import Derived.Test.YtmmoopikglbmbaaDoorInts
import Derived.RangeFuncBox
import Derived.Maps.AppendAt
namespace Go.Proofs.YtmmoopikglbmbaaDoor
set_option linter.unusedSectionVars false
set_option linter.unusedVariables false
set_option linter.unusedSimpArgs false
open Go.RowKit
attribute [local go_sem] Oper.semAt_some

/-- A list of numbers as ints. -/
def memI (s : BSet) : List Int := s.mem.map (fun (n : Nat) => (n : Int))

/-- Between two rounds. -/
structure LInv (w : World) (B0 : Nat) (pre : List Nat) (W : World) : Prop where
  row : ∃ v, W.heap[w.heap.size + 1]? = some (.cells #[v] 35 (0, 0)) ∧ W.ownsRow B0 3 1 v pre.length (pre.map fun (n : Nat) => Value.int .i64 (n : Int))
  keep : Keeps w W (fun _ => False)
theorem ownsRow_base {w : World} {B0 : Nat} {e : TypeId} {size n : Nat} {v : Value} {xs : List Value} (h : w.ownsRow B0 e size v n xs) : ∀ g, v.ownBlock = some g → B0 ≤ g ∧ g < w.heap.size := by
  intro g hg
  rcases h.2 with ⟨rfl, _⟩ | ⟨g', cap, cur, rfl, hb, hh, _⟩
  · cases hg
  · simp only [Value.ownBlock, Option.some.injEq] at hg
    exact ⟨by omega, hg ▸ block_lt hh⟩
theorem LInv.keeps {w : World} {B0 : Nat} {pre : List Nat} {W W' : World} {T : Nat → Prop} (h : LInv w B0 pre W) (hk : Keeps W W' T) (hT : ∀ j, T j → w.heap.size + 1 < j ∧ j < B0) : LInv w B0 pre W' := by
  obtain ⟨⟨v, hb, hrow⟩, hkw⟩ := h
  refine ⟨⟨v, (hk.block _ (block_lt hb) (fun e => by have := hT _ e; omega)).trans hb, ownsRow_same hrow (fun g hg => hk.block g (ownsRow_base hrow g hg).2 (fun e => by have := hT _ e; have := (ownsRow_base hrow g hg).1; omega))⟩,
    hkw.trans' hk (fun j hj e => by have := hT _ e; omega)⟩

set_option maxRecDepth 100000 in
set_option maxHeartbeats 2000000 in
theorem list_any (s : BSet) (w : World) (hT : TabOk w) : Calls Tryd.prog 35 #[s.val] w (OwnI w (memI s)) := by
  have GT := Lib.hid hT
  clear hT
  refine (callsIn_wide (n := 5)).1 ?_
  refine callsIn_of_wp_marks Tryd.func35 rfl trivial ?_ rfl
  unfold BSet.val
  simp only [Tryd.ntmps35, List.size_toArray, List.length_cons, List.length_nil, Nat.reduceAdd, Nat.reduceSub, Array.replicate_succ, Array.replicate_zero, List.push_toArray, List.append_toArray, List.nil_append, List.cons_append]
  gi_wp2_with fail
  refine ⟨trivial, (callsIn_wide.2 (all_any s _)).mono ?_⟩
  rintro e w2 ⟨rfl, rfl⟩
  rw [hs_alloc, hs_alloc]
  have K3 : Hid (Keeps w (((w.alloc (.cells #[.int .u64 s.lo.toNat, .int .u64 s.hi.toNat] 24)).alloc (.cells #[.slice none 0 0] 35)).alloc (.cells s.cells 24)) (fun _ => False)) := Lib.hid ((((Keeps.refl _ _).alloc _).alloc _).alloc _)
  have T3 : Hid (TabOk (((w.alloc (.cells #[.int .u64 s.lo.toNat, .int .u64 s.hi.toNat] 24)).alloc (.cells #[.slice none 0 0] 35)).alloc (.cells s.cells 24))) := Lib.hid (GT.out.keeps K3.out)
  have HS : Hid ((((w.alloc (.cells #[.int .u64 s.lo.toNat, .int .u64 s.hi.toNat] 24)).alloc (.cells #[.slice none 0 0] 35)).alloc (.cells s.cells 24)).heap.size = w.heap.size + 1 + 1 + 1) := Lib.hid (by rw [hs_alloc, hs_alloc, hs_alloc])
  have B1 : Hid ((((w.alloc (.cells #[.int .u64 s.lo.toNat, .int .u64 s.hi.toNat] 24)).alloc (.cells #[.slice none 0 0] 35)).alloc (.cells s.cells 24)).heap[w.heap.size + 1]? = some (.cells #[.slice none 0 0] 35 (0, 0))) := Lib.hid (by
    refine (Below.heap_alloc _ _ _ (by simp)).trans ?_
    have := heap_alloc_new (w.alloc (.cells #[.int .u64 s.lo.toNat, .int .u64 s.hi.toNat] 24)) (.cells #[.slice none 0 0] 35)
    rw [hs_alloc] at this; exact this)
  have B5 : Hid ((((w.alloc (.cells #[.int .u64 s.lo.toNat, .int .u64 s.hi.toNat] 24)).alloc (.cells #[.slice none 0 0] 35)).alloc (.cells s.cells 24)).heap[w.heap.size + 1 + 1]? = some (.cells s.cells 24 (0, 0))) := Lib.hid (by
    have := heap_alloc_new ((w.alloc (.cells #[.int .u64 s.lo.toNat, .int .u64 s.hi.toNat] 24)).alloc (.cells #[.slice none 0 0] 35)) (.cells s.cells 24)
    rw [hs_alloc, hs_alloc] at this; exact this)
  have hg0 : w.heap.size + 1 + 1 ≠ 0 := by omega
  clear GT
  generalize (((w.alloc (.cells #[.int .u64 s.lo.toNat, .int .u64 s.hi.toNat] 24)).alloc (.cells #[.slice none 0 0] 35)).alloc (.cells s.cells 24)) = L at *
  gi_wp2_with fail
  refine wpIn_rangeFunc_mut rfl (by omega) (gf := 45) (lb := #[.pointer (some ⟨w.heap.size + 1 + 1, 0, none⟩)]) rfl trivial (enters_of Tryd.func45 (by kernel_rfl) rfl)
    (all_seq 4 (by omega) (w.heap.size + 1 + 1) s L B5.out T3.out hg0)
    (fun j e => by have e : j = w.heap.size + 1 + 1 := e; rw [HS.out]; omega)
    (fun j e => by
      rcases e with e | e
      · rw [HS.out]; omega
      · rw [HS.out]; omega)
    (fun _ => rfl)
    (fun pre W => LInv w (L.heap.size + 2) pre W ∧ pre.length ≤ 128)
    (fun _ _ _ => False)
    (fun pre W W' h hk => ⟨h.1.keeps hk (fun j e => by
      have hs := HS.out
      rcases e with e | e | e
      · have e : j = w.heap.size + 1 + 1 := e; omega
      · omega
      · omega), h.2⟩)
    (fun _ _ _ _ h _ => h)
    ⟨⟨⟨_, B1.out, World.ownsRow_nil _ _ _ _⟩, K3.out⟩, by simp⟩
    (fun x => { tmps := #[.agg #[.int .u64 s.lo.toNat, .int .u64 s.hi.toNat], .pointer (some ⟨w.heap.size, 0, none⟩), .slice none 0 0, .pointer (some ⟨w.heap.size + 1, 0, none⟩), .int .i64 (x : Int), .agg #[.int .u64 s.lo.toNat, .int .u64 s.hi.toNat], .func (.func 45) #[] #[.pointer (some ⟨w.heap.size + 1 + 1, 0, none⟩)], .int .i64 (x : Int), undef, undef, undef, undef, undef], defers := [] }) ?assign ?body ?done ?stop
  case assign =>
    intro l x W K hK
    gi_wp2
    exact hK
  case body =>
    rintro l pre x W ⟨⟨⟨v, hb, hrow⟩, hkw⟩, hlen⟩ hnx hsz
    have f4 : pre.length < 128 := by
      have := hnx.length_le
      have hl : s.mem.length ≤ 128 := by unfold BSet.mem; exact Nat.le_trans (List.length_filter_le _ _) (by simp)
      simp at this; omega
    obtain ⟨i0, hi, hz0, hz1, hz2⟩ := infoIntL'
    have c3 : W.cell? ⟨w.heap.size + 1, 0, none⟩ = some v := by rw [cell_at hb]; rfl
    have HB := Lib.hid hb
    have HR := Lib.hid hrow
    have HK := Lib.hid hkw
    have hlt := block_lt hb
    clear hb hrow hkw hnx
    gi_wp2_with (gi_at_builtin; refine wpListIn_append_own _ rfl _ _ 35 rfl (L.heap.size + 2) 3 i0 _ 1 8 Tryd.underlying35 hi hz0 hz1 hz2 rfl (by decide) v pre.length _ rfl (HR.out.alloc _) ⟨W.heap.size, 0, none⟩ 1 1 [.int .i64 (x : Int)] rfl rfl (cell_one_new _ _ _) (by simp [Value.oneCell']) (by unfold maxLen; omega) (by omega) (by simp; omega) ?_; intro v' w1 hown' hgrow _; obtain ⟨g', cap', rfl⟩ := ownsRow_succ hown'; have HO := Lib.hid hown'; have HG := Lib.hid hgrow; have hb1 : w1.heap[w.heap.size + 1]? = some (.cells #[v] 35 (0, 0)) := ((hgrow.block _ (by simp; omega) (fun e => by have := (ownsRow_base HR.out _ e.symm).1; have := HS.out; omega)).trans (Below.heap_alloc _ _ _ hlt)).trans HB.out; have q0 : w1.cell? ⟨w.heap.size + 1, 0, none⟩ = some v := (by rw [cell_at hb1]; rfl); have q1 : w1.frozen? ⟨w.heap.size + 1, 0, none⟩ = false := free_at hb1 0; have HB1 := Lib.hid hb1; clear hown' hgrow hb1)
    have kk : Keeps W (w1.setCell ⟨w.heap.size + 1, 0, none⟩ (.slice (some ⟨g', 0, none⟩) (pre.length + 1) cap')) (fun j => j = w.heap.size + 1 ∨ L.heap.size + 2 ≤ j) :=
      Keeps.setCell (S := fun j => j = w.heap.size + 1 ∨ L.heap.size + 2 ≤ j) (p := ⟨w.heap.size + 1, 0, none⟩) (Keeps.grown ((Keeps.refl W _).alloc _) HG.out (fun k hk _ => .inr (ownsRow_base HR.out k hk).1)) (fun _ => .inl rfl) _
    have hL := HS.out
    refine ⟨fun j hj => kk.block j ?_ ?_, kk.size, ⟨⟨.slice (some ⟨g', 0, none⟩) (pre.length + 1) cap', ?_, ?_⟩, HK.out.trans' kk (fun j hj e => by omega)⟩, by simp; omega⟩
    · rcases hj with (hj | hj) | hj | hj <;> omega
    · rcases hj with (hj | hj) | hj | hj <;> omega
    · rw [setCell_heap HB1.out 0 _]; rfl
    · have hl2 : (pre ++ [x]).length = pre.length + 1 := by simp
      rw [hl2, List.map_append]
      exact ownsRow_same HO.out (fun g hg => Below.heap_setCell _ _ _ _ (by have := (ownsRow_base HO.out g hg).1; simp; omega))
  case done =>
    rintro xs W rfl ⟨⟨⟨v, hb, hrow⟩, hkw⟩, hlen⟩ hD
    have c3 : W.cell? ⟨w.heap.size + 1, 0, none⟩ = some v := by rw [cell_at hb]; rfl
    have HR := Lib.hid hrow
    have HK := Lib.hid hkw
    have HD := Lib.hid hD
    clear hb hrow hkw hD
    gi_wp2_with fail
    have hL := HS.out
    have kp : Keeps W (W.putObj L.heap.size (.deferred none)) (fun j => j = L.heap.size) := (Keeps.refl W _).putObj _ rfl
    have hrow2 : (W.putObj L.heap.size (.deferred none)).ownsRow (L.heap.size + 2) 3 1 v s.mem.length (s.mem.map fun (n : Nat) => Value.int .i64 (n : Int)) :=
      ownsRow_same HR.out (fun g hg => kp.block g (ownsRow_base HR.out g hg).2 (by have := (ownsRow_base HR.out g hg).1; omega))
    have e1 : IV (memI s) = s.mem.map fun (n : Nat) => Value.int .i64 (n : Int) := by unfold IV memI; rw [List.map_map]; rfl
    have e2 : (memI s).length = s.mem.length := by unfold memI; simp
    refine ⟨by simp, .inl ⟨_, _, rfl, run_takeDeferred HD.out, ?_⟩⟩
    refine ⟨_, results_tmp rfl _ _ _, ⟨v, rfl, ?_, HK.out.trans' kp (fun j hj e => by omega)⟩⟩
    rw [e1, e2]
    refine ⟨hrow2.1, hrow2.2.imp id ?_⟩
    rintro ⟨g, cap, cur, hv, hbg, rest⟩
    exact ⟨g, cap, cur, hv, by omega, rest⟩
  case stop =>
    rintro c pre W _ h _
    exact h.elim
end Go.Proofs.YtmmoopikglbmbaaDoor
