/- HeapDrains returns true for every list of costs: all that was put comes, each once, no cost below the one ahead of it, of one cost in the order in which it was put. No condition. -/
import Derived.Test.YtmmoopikglbmbaaHeapAw
import Derived.Test.YtmmoopikglbmbaaHeapQI
import Derived.Test.YtmmoopikglbmbaaOpen
namespace Go.Proofs.Ytmmoopikglbmbaa.heapDrains
set_option linter.unusedSectionVars false
set_option linter.unusedVariables false
set_option linter.unusedSimpArgs false
open Go.ChangeShapes Go.WideShapes Go.ChangeAt Go.RowKit HM

def encC (c : Int) : List Value := [.int .u64 c]
def intV (i : Int) : Value := .int .i64 i
theorem intV_one (i : Int) : (intV i).oneCell' = true := rfl
/-- Each is one of the costs, with its place. -/
def Good (costs : List Int) (k : Nat) (a : Itm Int) : Prop := ∃ m : Nat, a.x = m ∧ a.w = m ∧ m < k ∧ costs[m]? = some a.c

theorem Try.infoBool : (Try.prog.info? 4).map (fun i => (i.zero, i.size, i.bytes)) = some (some (.bool false), 1, 1) := by kernel_rfl

structure Inv1 (W0 : World) (b : Nat) (costs : List Int) (k : Nat) (w : World) (q : List (Itm Int)) : Prop where
  heap : HeapQI W0.heap.size intV w b q k
  len : q.length = k
  good : ∀ a ∈ q, Good costs k a
  keep : Keeps W0 w (fun _ => False)
  bb : W0.heap.size ≤ b
theorem Inv1.put {W0 : World} {b k : Nat} {costs : List Int} {w w2 : World} {q : List (Itm Int)} {c : Int} (hI : Inv1 W0 b costs k w q) (hc : costs[k]? = some c) (h2 : HeapQI W0.heap.size intV w2 b (ins ⟨c, k, k⟩ q) ((k : Int) + 1)) (k2 : Keeps w w2 (MayI W0.heap.size w b)) :
    Inv1 W0 b costs (k + 1) w2 (ins ⟨c, k, k⟩ q) := by
  refine ⟨by simpa using h2, ?_, ?_, ?_, hI.bb⟩
  · rw [(ins_perm _ q).length_eq, List.length_cons, hI.len]
  · intro a ha
    rcases List.mem_cons.1 ((ins_perm _ q).mem_iff.1 ha) with rfl | ha
    · exact ⟨k, rfl, rfl, by omega, hc⟩
    · obtain ⟨m, e1, e2, e3, e4⟩ := hI.good a ha
      exact ⟨m, e1, e2, by omega, e4⟩
  · refine hI.keep.trans' k2 (fun j hj h => ?_)
    rcases h with h | ⟨h, _⟩
    · have := hI.bb; omega
    · omega

structure Inv2 (W0 : World) (b g : Nat) (costs : List Int) (k : Nat) (last at_ : Int) (w : World) (q : List (Itm Int)) (c : List Bool) : Prop where
  heap : HeapQI W0.heap.size intV w b q costs.length
  len : q.length + k = costs.length
  good : ∀ a ∈ q, Good costs costs.length a
  keep : Keeps W0 w (fun _ => False)
  bb : W0.heap.size ≤ b
  gb : W0.heap.size ≤ g
  blk : w.heap[g]? = some (.cells (c.map Value.bool).toArray 4 (0, 0))
  clen : c.length = costs.length
  fresh : ∀ a ∈ q, c[a.x.toNat]? = some false
  above : ∀ a ∈ q, last < a.c ∨ last = a.c ∧ at_ < a.x
theorem Inv2.take {W0 : World} {b g k : Nat} {costs : List Int} {last at_ : Int} {w w2 : World} {a : Itm Int} {q : List (Itm Int)} {c : List Bool} (hI : Inv2 W0 b g costs k last at_ w (a :: q) c)
    (h2 : HeapQI W0.heap.size intV w2 b q costs.length) (k2 : Keeps w w2 (MayI W0.heap.size w b)) : w2.heap[g]? = some (.cells (c.map Value.bool).toArray 4 (0, 0)) ∧
    Inv2 W0 b g costs (k + 1) a.c a.x (w2.setCell ⟨g, a.x.toNat, none⟩ (.bool true)) q (c.set a.x.toNat true) := by
  have hgb : ¬ MayI W0.heap.size w b g := by
    intro hm
    rcases hm with rfl | ⟨_, cs', fr', hh'⟩
    · obtain ⟨l, sl, h1, _⟩ := hI.heap
      have := h1.hd.symm.trans hI.blk
      simp at this
    · have := hh'.symm.trans hI.blk
      simp at this
  have hb2 : w2.heap[g]? = some (.cells (c.map Value.bool).toArray 4 (0, 0)) := (k2.block g (block_lt hI.blk) hgb).trans hI.blk
  have hs : Sorted (a :: q) := by obtain ⟨l, sl, _, _, h, _⟩ := hI.heap; exact h
  have hgb2 : ¬ MayI W0.heap.size w2 b g := by
    intro hm
    rcases hm with rfl | ⟨_, cs', fr', hh'⟩
    · obtain ⟨l, sl, h1, _⟩ := h2
      have := h1.hd.symm.trans hb2
      simp at this
    · have := hh'.symm.trans hb2
      simp at this
  refine ⟨hb2, h2.keeps ((Keeps.refl w2 (fun j => j = g)).setCell (p := ⟨g, a.x.toNat, none⟩) (fun _ => rfl) _) (fun j hj => hj ▸ hgb2), ?_, fun a' ha => hI.good a' (List.mem_cons_of_mem _ ha), ?_, hI.bb, hI.gb, ?_, ?_, ?_, ?_⟩
  · have := hI.len; simp at this; omega
  · refine (hI.keep.trans' k2 (fun j hj h => ?_)).setCell (fun h => ?_) _
    · rcases h with h | ⟨h, _⟩
      · have := hI.bb; omega
      · omega
    · have := hI.gb; simp at h; omega
  · rw [setCell_heap hb2, List.setIfInBounds_toArray, List.map_set]
  · rw [List.length_set]; exact hI.clen
  · intro a' ha
    have hlt := hs.1 a' ha
    obtain ⟨m, e1, e2, e3, e4⟩ := hI.good a (List.mem_cons_self ..)
    obtain ⟨m', f1, f2, f3, f4⟩ := hI.good a' (List.mem_cons_of_mem _ ha)
    have hne : a.x.toNat ≠ a'.x.toNat := by
      intro e
      have hmm : m = m' := by omega
      subst hmm
      rw [e4] at f4
      have := Option.some.inj f4
      unfold lt at hlt; omega
    rw [List.getElem?_set_ne hne]
    exact hI.fresh a' (List.mem_cons_of_mem _ ha)
  · intro a' ha
    have hlt := hs.1 a' ha
    obtain ⟨m, e1, e2, e3, e4⟩ := hI.good a (List.mem_cons_self ..)
    obtain ⟨m', f1, f2, f3, f4⟩ := hI.good a' (List.mem_cons_of_mem _ ha)
    unfold lt at hlt
    omega

set_option maxRecDepth 100000 in
set_option maxHeartbeats 2000000 in
theorem walk (w : World) (v : Value) (costs : List Int) (HA : ReadsC w 1 v costs.length (costs.flatMap encC)) (hpos : ∀ c ∈ costs, 0 ≤ c) : Calls Try.prog 4 #[v] w fun e w' => e = .returned (.bool true) ∧ Below w.heap.size w w' := by
  obtain ⟨_, a, cap, rfl, hcap, hmax, _, _⟩ := id HA
  have GA := Lib.hid HA
  have GP := Lib.hid hpos
  clear HA hpos
  obtain ⟨i0, hi, hz0, hz1, hz2⟩ := info_parts Try.infoBool
  by_cases hlong : (200 : Int) < costs.length
  · go_enter Try.func4, Try.ntmps4
    go_wp2_with fail
    refine (awake_any _).mono ?_
    rintro e w1 ⟨rfl, k1⟩
    have K1 := Lib.hid k1
    clear k1
    go_wp2_with fail
    go_ret
    exact ⟨rfl, K1.out.toBelow (Nat.le_refl _) (fun _ _ h => h.elim)⟩
  · have hl200 : costs.length ≤ 200 := by omega
    have hmk : ∀ W : World, (Instr.makeSlice 44 (.int .i64 costs.length) (.int .i64 costs.length)).run Try.prog W = .ok (.slice (some ⟨W.heap.size, 0, none⟩) costs.length costs.length) (W.alloc (.cells (madeCells #[.bool false] costs.length) 4)) := fun W => by
      have := run_makeSlice (P := Try.prog) (w := W) 44 4 i0 (.bool false) Try.underlying44 hi hz0 .i64 .i64 costs.length costs.length (by omega) (by omega) (by rw [hz1]; omega) (by rw [hz2]; omega) (by omega)
      rw [hz1] at this
      simpa [Value.cells] using this
    have Hmk := Lib.hid hmk
    clear hmk hi hz0 hz1 hz2
    go_enter Try.func4, Try.ntmps4
    go_wp2_with fail
    refine (awake_any _).mono ?_
    rintro e w1 ⟨rfl, k1⟩
    have K1 := Lib.hid k1
    clear k1
    have H1 := heapQ_startI (B := w.heap.size) (f := intV) w1 K1.out.size
    have I0 : Hid (Inv1 w w1.heap.size costs 0 (w1.alloc (.cells #[.slice none 0 0, .int .u64 0] 42)) []) := ⟨H1, rfl, (fun a ha => by cases ha), K1.out.alloc _, K1.out.size⟩
    clear H1
    go_wp2_with fail
    go_loopw [22] (fun t22 wr => ∃ (k : Nat) (q : List (Itm Int)), t22 = .int .i64 k ∧ k ≤ costs.length ∧ Inv1 w w1.heap.size costs k wr q) (fun t22 _ => costs.length - (intOf t22).toNat)
    case atStart => exact ⟨0, [], rfl, Nat.zero_le _, I0.out⟩
    case round =>
      obtain ⟨k, q, rfl, hk, hI⟩ := hrel
      have GI := Lib.hid hI
      clear hI I0
      by_cases hlt : k < costs.length
      · obtain ⟨g, off, rfl, hg, hcs⟩ : ∃ g off, a = some ⟨g, off, none⟩ ∧ g < wr.heap.size ∧ ∀ j u, (costs.flatMap encC)[j]? = some u → wr.cell? ⟨g, off + j, none⟩ = some u := by
          obtain ⟨_, a', cap', hv, _, _, _, h6⟩ := GA.out.keeps GI.out.keep
          simp only [Value.slice.injEq] at hv
          obtain ⟨rfl, _, rfl⟩ := hv
          exact h6 (by omega)
        have c0 := hcs (k * 1 + 0) (.int .u64 costs[k]) (by rw [flatMap_get encC 1 (fun _ => rfl) costs k 0 hlt (by omega)]; rfl)
        rw [Nat.add_zero, Nat.mul_one] at c0
        have hc : Hid (costs[k]? = some costs[k]) := List.getElem?_eq_getElem hlt
        clear hcs hlong
        generalize costs[k] = c at *
        go_wp2_with fail
        refine (put_QI intV_one GI.out.heap (by rw [GI.out.len]; omega) (by omega) c (k : Int)).mono ?_
        rintro e w2 ⟨rfl, h2, k2⟩
        have hI2 := Lib.hid (GI.out.put hc.out h2 k2)
        clear h2 k2
        go_wp2_with fail
        go_roundw
        case rel => exact ⟨k + 1, ins ⟨c, k, k⟩ q, by go_num, by omega, hI2.out⟩
        case measure => simp [intOf]; omega
      · have hke : k = costs.length := by omega
        subst hke
        have hmk := Hmk.out
        have I2 : Hid (Inv2 w w1.heap.size wr.heap.size costs 0 0 (-1) (wr.alloc (.cells (madeCells #[.bool false] costs.length) 4)) q (List.replicate costs.length false)) := by
          refine ⟨GI.out.heap.keeps ((Keeps.refl _ (fun _ => False)).alloc _) (fun _ h => h.elim), by rw [GI.out.len]; rfl, GI.out.good, GI.out.keep.alloc _, GI.out.bb, GI.out.keep.size, ?_, by simp, ?_, ?_⟩
          · rw [heap_alloc_new]
            congr 2
            apply Array.ext'
            rw [toList_madeCells_one]
            simp
          · intro a' ha
            obtain ⟨m, e1, e2, e3, e4⟩ := GI.out.good a' ha
            rw [List.getElem?_replicate, if_pos (by omega)]
          · intro a' ha
            obtain ⟨m, e1, e2, e3, e4⟩ := GI.out.good a' ha
            have := GP.out a'.c (List.mem_of_getElem? e4)
            omega
        clear hlong
        obtain ⟨wo, rfl⟩ : ∃ wo : World, wo = wr := ⟨_, rfl⟩
        go_wp2_with fail
        go_loopw [7, 8, 36] (fun t7 t8 t36 wr => ∃ (k : Nat) (last at_ : Int) (q : List (Itm Int)) (c : List Bool), t36 = .int .i64 k ∧ t7 = .int .u64 last ∧ t8 = .int .i64 at_ ∧ k ≤ costs.length ∧ Inv2 w w1.heap.size wo.heap.size costs k last at_ wr q c) (fun _ _ t36 _ => costs.length - (intOf t36).toNat)
        case atStart => exact ⟨0, 0, -1, q, _, rfl, rfl, rfl, Nat.zero_le _, I2.out⟩
        case round =>
          obtain ⟨k, last, at_, q, c, rfl, rfl, rfl, hk, hI⟩ := hrel
          have GI := Lib.hid hI
          clear hI I2 hmk Hmk
          by_cases hlt : k < costs.length
          · obtain ⟨a1, r, rfl⟩ : ∃ a1 r, q = a1 :: r := by
              cases q with
              | nil => have := GI.out.len; simp at this; omega
              | cons a1 r => exact ⟨a1, r, rfl⟩
            go_wp2_with fail
            refine (take_someQI intV_one GI.out.heap (by have := GI.out.len; simp at this; simp; omega)).mono ?_
            rintro e w3 ⟨rfl, h3, k3⟩
            obtain ⟨hb3, hI3⟩ := GI.out.take h3 k3
            obtain ⟨m, e1, e2, e3, e4⟩ := GI.out.good a1 (List.mem_cons_self ..)
            have habove := GI.out.above a1 (List.mem_cons_self ..)
            have hfresh := GI.out.fresh a1 (List.mem_cons_self ..)
            have hnn : 0 ≤ a1.c := GP.out _ (List.mem_of_getElem? e4)
            obtain ⟨ac, aw, ax⟩ := a1
            simp only at e1 e2 e4 habove hfresh hI3 hnn
            subst e1 e2
            rw [Int.toNat_natCast] at hI3 hfresh
            have x0 : w3.cell? ⟨wo.heap.size, m, none⟩ = some (.bool false) := by
              rw [cell_at hb3, List.getElem?_toArray, List.getElem?_map, hfresh]; rfl
            have xf : w3.frozen? ⟨wo.heap.size, m, none⟩ = false := free_at hb3 m
            obtain ⟨g, off, rfl, hg, hcs⟩ : ∃ g off, a = some ⟨g, off, none⟩ ∧ g < w3.heap.size ∧ ∀ j u, (costs.flatMap encC)[j]? = some u → w3.cell? ⟨g, off + j, none⟩ = some u := by
              have hk3 : Keeps w w3 (fun _ => False) := GI.out.keep.trans' k3 (fun j hj h => by
                rcases h with h | ⟨h, _⟩
                · have := GI.out.bb; omega
                · omega)
              obtain ⟨_, a', cap', hv, _, _, _, h6⟩ := GA.out.keeps hk3
              simp only [Value.slice.injEq] at hv
              obtain ⟨rfl, _, rfl⟩ := hv
              exact h6 (by omega)
            have c0 := hcs (m * 1 + 0) (.int .u64 ac) (by
              rw [flatMap_get encC 1 (fun _ => rfl) costs m 0 e3 (by omega)]
              have := (List.getElem?_eq_some_iff.1 e4).2
              rw [this]; rfl)
            rw [Nat.add_zero, Nat.mul_one] at c0
            have GI3 := Lib.hid hI3
            have hgb3 := block_lt hb3
            have hm0 : (0 : Int) ≤ (m : Int) := by omega
            have hm1 : (m : Int) < (costs.length : Int) := by omega
            clear hcs hb3 h3 k3 hI3 e4 hfresh
            rw [show intV (m : Int) = .int .i64 (m : Int) from rfl]
            rcases habove with hab | ⟨hab, hab2⟩
            · have hne : (ac == last) = false := beq_eq_false_iff_ne.2 (by omega)
              have hnl : ¬ ac < last := by omega
              go_wp2_with fail
              go_roundw
              case rel => exact ⟨k + 1, ac, (m : Int), r, c.set m true, by go_num, rfl, rfl, by omega, GI3.out⟩
              case measure => simp [intOf]; omega
            · subst hab
              have hnl : ¬ (m : Int) < at_ := by omega
              go_wp2_with fail
              go_roundw
              case rel => exact ⟨k + 1, last, (m : Int), r, c.set m true, by go_num, rfl, rfl, by omega, GI3.out⟩
              case measure => simp [intOf]; omega
          · have hke : k = costs.length := by omega
            subst hke
            obtain rfl : q = [] := List.eq_nil_of_length_eq_zero (by have := GI.out.len; omega)
            go_wp2_with fail
            refine (take_noneQI GI.out.heap).mono ?_
            rintro e w2 ⟨rfl, rfl⟩
            go_wp2_with fail
            refine (len_QI GI.out.heap).mono ?_
            rintro e w2 ⟨rfl, rfl⟩
            go_wp2_with fail
            go_ret
            exact ⟨rfl, GI.out.keep.toBelow (Nat.le_refl _) (fun _ _ h => h.elim)⟩

theorem cells1u : Try.prog.cellsOf 25 = 1 := by kernel_rfl
theorem own : ownKnob Try.prog.godebug = none := by kernel_rfl
theorem contract (H : Type) (enc : TypeId × Value → H) (W : World) (base : Nat) (args : Array Value) (ds gs : List (DataW H)) (before : List MemPlace)
    (hval : ∀ (j : Nat) t v, Try.f4.params[j]? = some t → args[j]? = some v → Value.okWide Try.prog W .any base t v)
    (hW : DataW.Whole enc Try.prog Try.f4.params.toList Rows.heapDrainsSpec.vars false W args.toList ds gs before) :
    Calls Try.prog 4 args W fun e W' => ∃ v, e = .returned v ∧ Rows.heapDrainsSpec.post enc Try.prog Try.f4 false true false false W args v W' := by
  have hW0 := hW
  obtain ⟨p, q, hA, hV, rfl, hfz, hnd⟩ := hW
  rw [Try.params4] at hA hval
  obtain ⟨v0, vs0, d0, ds0, p0, q0, hargs0, rfl, rfl, h0, r0⟩ := trodAll_cons hA
  obtain ⟨rfl, rfl, rfl⟩ := trodAll_nil r0
  obtain rfl : args = #[v0] := by cases args; simp_all
  obtain ⟨rfl, rfl⟩ := trodVars_none hV
  obtain ⟨a0, len, cap, rfl⟩ := okWide_slice Try.underlying39 (hval 0 39 v0 rfl rfl)
  obtain ⟨fuel, hf⟩ := h0
  obtain ⟨v, costs, hv, HA, hR⟩ := open_list encC (fun c => 0 ≤ c) (fun n cs y hl h => by
    obtain ⟨c, e0, _, hw⟩ := DataW.trod_int Try.underlying25 h
    subst e0
    refine ⟨c, rfl, ?_⟩
    simp [Lit.wf, IntKind.min, IntKind.max, IntKind.signed, IntKind.bits] at hw
    exact hw.1) (fun _ => rfl) Try.underlying39 cells1u (by decide) hf
  obtain rfl : Value.slice a0 len cap = v := by simpa [Value.cells] using hv
  refine (walk W _ costs HA hR).mono fun e W' ⟨he, hb⟩ => ⟨_, he, ?_⟩
  exact law_post (by kernel_rfl) (by kernel_rfl) (by kernel_rfl) rfl Try.underlying4 hW0 hb rfl

set_option maxRecDepth 100000 in
theorem lifted (os : Os) (started : os.Started) (H : Type) (enc : TypeId × Value → H) :
    ReturnsInHanded {} Try.checked os 4 .any (Rows.heapDrainsSpec.pre6 enc Try.prog Try.f4 Rows.heapDrainsRow.domain false) (Rows.heapDrainsSpec.post enc Try.prog Try.f4 false true false false) := by
  refine returnsInHanded_of_change (C := Try.checked) own started (by kernel_rfl) Try.func4
    (ChangeSpec.witness6 (enc := enc) (C := Try.checked) false ⟨#[], #[.slice none 0 0], []⟩ 8 (by kernel_rfl) (by kernel_rfl) (by kernel_rfl) (by kernel_rfl)) ?_
  intro W base args ds gs before hval hW _ _
  exact contract H enc W base args ds gs before hval hW

theorem over : Rows.heapDrainsRow.holds Try.pinned (OpenSpec.ofChange Rows.heapDrainsSpec) :=
  OpenClaim.holds_of_wide 4 Try.f4 rfl rfl rfl rfl rfl rfl rfl ⟨rfl, rfl, rfl, rfl, rfl⟩ rfl rfl rfl rfl rfl (by kernel_rfl) Try.func4 (by kernel_rfl)
    (of_decide_eq_true (by kernel_rfl)) (by unfold Func.isWrapper; first | (rw [if_pos (by decide +kernel)]; kernel_rfl) | (rw [if_neg (by decide +kernel)]; exact ⟨rfl, rfl⟩))
    (fun os started H enc _ => lifted os started H enc)

theorem proved : Rows.HeapDrainsSaid :=
  over
end Go.Proofs.Ytmmoopikglbmbaa.heapDrains
