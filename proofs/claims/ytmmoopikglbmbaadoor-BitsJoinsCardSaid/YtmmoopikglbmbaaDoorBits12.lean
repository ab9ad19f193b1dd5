/- fairleadlaw07.Is at a set and its own list: true. -/
import Derived.Test.YtmmoopikglbmbaaDoorBits9
import Derived.Test.YtmmoopikglbmbaaDoorBits6
import Derived.Test.YtmmoopikglbmbaaDoorEqI
namespace Go.Proofs.YtmmoopikglbmbaaDoor
set_option linter.unusedSectionVars false
set_option linter.unusedVariables false
set_option linter.unusedSimpArgs false
open Go.RowKit

theorem memI_len (s : BSet) : (memI s).length = s.mem.length := by unfold memI; simp
theorem mem_len128 (s : BSet) : s.mem.length ≤ 128 := by unfold BSet.mem; exact Nat.le_trans (List.length_filter_le _ _) (by simp)
theorem isEmpty_len (s : BSet) : s.isEmpty = decide (s.mem.length = 0) := by
  cases h : s.isEmpty with
  | true => rw [(mem_empty s).1 h]; rfl
  | false =>
    symm
    rw [decide_eq_false_iff_not]
    intro h0
    rw [(mem_empty s).2 (List.eq_nil_of_length_eq_zero h0)] at h
    cases h
theorem first_len (s : BSet) (h : s.mem.length = 0) : s.firstN = -1 := by
  unfold BSet.firstN
  rw [List.eq_nil_of_length_eq_zero h]
theorem first_get (s : BSet) (h : 0 < s.mem.length) : (memI s)[0]? = some s.firstN := by
  unfold BSet.firstN memI
  cases hm : s.mem with
  | nil => rw [hm] at h; simp at h
  | cons k r => simp

set_option maxRecDepth 20000 in
set_option maxHeartbeats 4000000 in
theorem is_own (s : BSet) (v : Value) (w : World) (hT : TabOk w) (h : RdV w v (IV (memI s))) :
    Calls Tryd.prog 22 #[s.val, v] w fun e w' => e = .returned (.bool true) ∧ Keeps w w' (fun _ => False) := by
  obtain ⟨a, cap, e1, hcap, _⟩ := h.form
  rw [IV_len, memI_len] at e1 hcap
  subst e1
  have H := Lib.hid h
  have GT := Lib.hid hT
  have hl := mem_len128 s
  have W0 : Hid ((w.alloc (.cells #[.int .u64 s.lo.toNat, .int .u64 s.hi.toNat] 24)).heap[w.heap.size]? = some (.cells s.cells 24 (0, 0))) := Lib.hid (heap_alloc_new w _)
  have K0 : Hid (Keeps w (w.alloc (.cells #[.int .u64 s.lo.toNat, .int .u64 s.hi.toNat] 24)) (fun _ => False)) := Lib.hid ((Keeps.refl _ _).alloc _)
  have HB : Hid (∀ w', Keeps (w.alloc (.cells #[.int .u64 s.lo.toNat, .int .u64 s.hi.toNat] 24)) w' (fun _ => False) → w'.cell? ⟨w.heap.size, 0, none⟩ = some (.int .u64 s.lo.toNat) ∧ w'.cell? ⟨w.heap.size, 1, none⟩ = some (.int .u64 s.hi.toNat)) := Lib.hid (fun w' hk => by
    have hb := (hk.block _ (block_lt W0.out) id).trans W0.out
    exact ⟨by rw [cell_at hb]; rfl, by rw [cell_at hb]; rfl⟩)
  have W1 := Lib.hid (Below.heap_alloc w (.cells #[.int .u64 s.lo.toNat, .int .u64 s.hi.toNat] 24))
  clear h hT
  unfold BSet.val
  by_cases h0 : s.mem.length = 0
  · have hE : s.isEmpty = true := by rw [isEmpty_len]; exact decide_eq_true h0
    have HE := Lib.hid hE
    have HF := Lib.hid (first_len s h0)
    have HZ := Lib.hid h0
    rw [h0] at H ⊢
    clear hE h0 hl
    go_enter Tryd.func22, Tryd.ntmps22
    obtain ⟨y0, y1⟩ := HB.out _ (Keeps.refl _ _)
    go_wp2_with fail
    obtain ⟨W, hW⟩ : ∃ W, w.alloc (.cells #[.int .u64 s.lo.toNat, .int .u64 s.hi.toNat] 24) = W := ⟨_, rfl⟩
    rw [hW] at K0 HB y0 y1
    rw [hW]
    clear hW W0 W1
    refine (list_any s _ (GT.out.keeps K0.out)).mono ?_
    rintro e w1 ⟨v1, rfl, hrow, hk⟩
    have K1 : Hid (Keeps W w1 (fun _ => False)) := Lib.hid hk
    have R1 := Lib.hid (RdV.ofOwn hrow)
    obtain ⟨z0, z1⟩ := HB.out w1 K1.out
    clear hrow hk y0 y1 
    go_wp2_with fail
    refine (equalI_any (memI s) (memI s) _ _ _ R1.out (H.out.keeps (K0.out.trans K1.out))).mono ?_
    rintro e w2 ⟨rfl, hk⟩
    rw [decide_eq_true rfl]
    have K2 : Hid (Keeps W w2 (fun _ => False)) := Lib.hid (K1.out.trans hk)
    clear hk z0 z1 K1 R1
    obtain ⟨z0, z1⟩ := HB.out w2 K2.out
    go_wp2_with fail
    refine (len_any s _).mono ?_
    rintro e w3 ⟨rfl, hk⟩
    have K3 : Hid (Keeps W w3 (fun _ => False)) := Lib.hid (K2.out.trans hk)
    clear hk z0 z1 K2
    obtain ⟨z0, z1⟩ := HB.out w3 K3.out
    rw [HZ.out]
    go_wp2_with fail
    refine (empty_any s _).mono ?_
    rintro e w4 ⟨rfl, hk⟩
    rw [HE.out]
    have K4 : Hid (Keeps W w4 (fun _ => False)) := Lib.hid (K3.out.trans hk)
    clear hk z0 z1 K3
    obtain ⟨z0, z1⟩ := HB.out w4 K4.out
    go_wp2_with fail
    refine (first_any s _ (GT.out.keeps (K0.out.trans K4.out))).mono ?_
    rintro e w5 ⟨rfl, hk⟩
    rw [HF.out]
    have K5 : Hid (Keeps W w5 (fun _ => False)) := Lib.hid (K4.out.trans hk)
    clear hk z0 z1 K4
    go_wp2_with fail
    go_ret
    exact ⟨rfl, K0.out.trans K5.out⟩
  · have hE : s.isEmpty = false := by rw [isEmpty_len]; exact decide_eq_false h0
    have HE := Lib.hid hE
    have hpos : 0 < s.mem.length := by omega
    have hq : ((s.mem.length : Int) == 0) = false := by rw [beq_eq_false_iff_ne]; omega
    obtain ⟨g, off, rfl, -, hg, hc⟩ := H.out.at (by rw [IV_len, memI_len]; exact hpos)
    have x00 : w.cell? ⟨g, off, none⟩ = some (.int .i64 s.firstN) := hc 0 _ (by unfold IV; rw [List.getElem?_map, first_get s hpos]; rfl)
    have x0 : (w.alloc (.cells #[.int .u64 s.lo.toNat, .int .u64 s.hi.toNat] 24)).cell? ⟨g, off, none⟩ = some (.int .i64 s.firstN) := by
      rw [← x00]; exact World.cell?_of_block (K0.out.block g hg id)
    clear hE hc hg x00
    go_enter Tryd.func22, Tryd.ntmps22
    obtain ⟨y0, y1⟩ := HB.out _ (Keeps.refl _ _)
    go_wp2_with fail
    obtain ⟨W, hW⟩ : ∃ W, w.alloc (.cells #[.int .u64 s.lo.toNat, .int .u64 s.hi.toNat] 24) = W := ⟨_, rfl⟩
    rw [hW] at K0 HB y0 y1 x0
    rw [hW]
    clear hW W0 W1
    refine (list_any s _ (GT.out.keeps K0.out)).mono ?_
    rintro e w1 ⟨v1, rfl, hrow, hk⟩
    have K1 : Hid (Keeps W w1 (fun _ => False)) := Lib.hid hk
    have R1 := Lib.hid (RdV.ofOwn hrow)
    obtain ⟨z0, z1⟩ := HB.out w1 K1.out
    clear hrow hk y0 y1 x0
    go_wp2_with fail
    refine (equalI_any (memI s) (memI s) _ _ _ R1.out (H.out.keeps (K0.out.trans K1.out))).mono ?_
    rintro e w2 ⟨rfl, hk⟩
    rw [decide_eq_true rfl]
    have K2 : Hid (Keeps W w2 (fun _ => False)) := Lib.hid (K1.out.trans hk)
    clear hk z0 z1 K1 R1
    obtain ⟨z0, z1⟩ := HB.out w2 K2.out
    go_wp2_with fail
    refine (len_any s _).mono ?_
    rintro e w3 ⟨rfl, hk⟩
    have K3 : Hid (Keeps W w3 (fun _ => False)) := Lib.hid (K2.out.trans hk)
    clear hk z0 z1 K2
    obtain ⟨z0, z1⟩ := HB.out w3 K3.out

    go_wp2_with fail
    refine (empty_any s _).mono ?_
    rintro e w4 ⟨rfl, hk⟩
    rw [HE.out]
    have K4 : Hid (Keeps W w4 (fun _ => False)) := Lib.hid (K3.out.trans hk)
    clear hk z0 z1 K3
    obtain ⟨z0, z1⟩ := HB.out w4 K4.out
    go_wp2_with fail
    refine (first_any s _ (GT.out.keeps (K0.out.trans K4.out))).mono ?_
    rintro e w5 ⟨rfl, hk⟩

    have K5 : Hid (Keeps W w5 (fun _ => False)) := Lib.hid (K4.out.trans hk)
    clear hk z0 z1 K4
    go_wp2_with fail
    go_ret
    exact ⟨rfl, K0.out.trans K5.out⟩
end Go.Proofs.YtmmoopikglbmbaaDoor
