/- BitsOf returns true: the set of any numbers (at most 200), and up to any; who is in it; one more, one less. The table of math/bits reads as laid (tied by the card). -/
import Derived.Test.YtmmoopikglbmbaaDoorBits13
import Derived.Test.YtmmoopikglbmbaaDoorBitsOpen
namespace Go.Proofs.YtmmoopikglbmbaaDoor.bitsOf
set_option linter.unusedSectionVars false
set_option linter.unusedVariables false
set_option linter.unusedSimpArgs false
open Go.RowKit

theorem rd_one (w : World) (x : Value) (t : TypeId) : RdV (w.alloc (.cells #[x] t)) (.slice (some ⟨w.heap.size, 0, none⟩) 1 1) [x] := by
  refine ⟨rfl, _, 1, rfl, Nat.le_refl _, by unfold maxLen; decide, (fun h => by cases h), fun _ => ⟨w.heap.size, 0, rfl, by simp, fun j u hj => ?_⟩⟩
  match j with
  | 0 => simp at hj; subst hj; simp
  | j + 1 => simp at hj
theorem enc_IV (l : List Int) : l.flatMap encI = IV l := by
  unfold IV
  induction l with
  | nil => rfl
  | cons a r ih => rw [List.flatMap_cons, ih]; rfl

set_option maxRecDepth 20000 in
set_option maxHeartbeats 4000000 in
theorem walk_mid (l : List Int) (v : Value) (n i : Int) (w : World) (h : RdV w v (IV l)) (hl : l.length ≤ 200) (hT : TabOk w) :
    Calls Tryd.prog 5 #[v, .int .i64 n, .int .i64 i] w fun e w' => e = .returned (.bool true) ∧ Keeps w w' (fun _ => False) := by
  obtain ⟨a, cap, e1, hcap, _⟩ := h.form
  rw [IV_len] at e1 hcap
  subst e1
  have H := Lib.hid h
  have GT := Lib.hid hT
  have hfold : ∀ s : BSet, (Value.agg #[.int .u64 s.lo.toNat, .int .u64 s.hi.toNat]) = s.val := fun _ => rfl
  have Hf := Lib.hid hfold
  clear h hT hfold
  obtain ⟨s, hs⟩ : ∃ s, ofL l = s := ⟨_, rfl⟩
  have HS := Lib.hid hs
  have MQ : Hid (ofR l 128 = memI s) := Lib.hid (by rw [← hs, m_of])
  clear hs
  go_enter Tryd.func5, Tryd.ntmps5
  go_wp2_with fail
  refine (awake07 _ GT.out).mono ?_
  rintro e w1 ⟨rfl, hk⟩
  have K1 := Lib.hid hk
  clear hk
  go_wp2_with fail
  refine (of_any _ _ l (by have h := H.out.keeps K1.out; unfold RdV at h; rw [IV_len] at h; rw [enc_IV]; exact h)).mono ?_
  rintro e w2 ⟨rfl, hk⟩
  rw [HS.out]
  have K2 := Lib.hid (K1.out.trans hk)
  clear hk K1
  go_wp2_with fail
  refine (refOf_any l _ _ (H.out.keeps K2.out)).mono ?_
  rintro e w3 ⟨q, rfl, hrow, hk⟩
  rw [MQ.out] at hrow
  have K3 := Lib.hid (K2.out.trans hk)
  have R3 := Lib.hid (RdV.ofOwn hrow)
  clear hk hrow K2
  unfold BSet.val
  go_wp2_with fail
  obtain ⟨W, hW⟩ : ∃ W, w3.alloc (.cells #[.int .u64 s.lo.toNat, .int .u64 s.hi.toNat] 24) = W := ⟨_, rfl⟩
  have K4 : Hid (Keeps w W (fun _ => False)) := Lib.hid (by rw [← hW]; exact K3.out.alloc _)
  have R4 : Hid (RdV W q (IV (memI s))) := Lib.hid (by rw [← hW]; exact R3.out.keeps ((Keeps.refl _ _).alloc _))
  have B4 : Hid (W.heap[w3.heap.size]? = some (.cells s.cells 24 (0, 0))) := Lib.hid (by rw [← hW]; exact heap_alloc_new w3 _)
  rw [hW]
  clear hW R3 K3
  generalize w3.heap.size = N at *
  have HB : Hid (∀ w', Keeps W w' (fun _ => False) → w'.cell? ⟨N, 0, none⟩ = some (.int .u64 s.lo.toNat) ∧ w'.cell? ⟨N, 1, none⟩ = some (.int .u64 s.hi.toNat)) := Lib.hid (fun w' hk => by
    have hb := (hk.block _ (block_lt B4.out) id).trans B4.out
    exact ⟨by rw [cell_at hb]; rfl, by rw [cell_at hb]; rfl⟩)
  clear B4
  refine (is_own s q _ (GT.out.keeps K4.out) R4.out).mono ?_
  rintro e w5 ⟨rfl, hk⟩
  have K5 : Hid (Keeps W w5 (fun _ => False)) := Lib.hid hk
  clear hk
  go_wp2_with fail
  refine (upto_any _ n).mono ?_
  rintro e w6 ⟨rfl, hk⟩
  have K6 : Hid (Keeps W w6 (fun _ => False)) := Lib.hid (K5.out.trans hk)
  clear hk K5
  go_wp2_with fail
  refine (refUpto_any n _).mono ?_
  rintro e w7 ⟨qu, rfl, hrow, hk⟩
  rw [← m_upto] at hrow
  have K7 : Hid (Keeps W w7 (fun _ => False)) := Lib.hid (K6.out.trans hk)
  have R7 := Lib.hid (RdV.ofOwn hrow)
  clear hk hrow K6
  go_wp2_with fail
  refine (is_own (uptoN n) qu _ (GT.out.keeps (K4.out.trans K7.out)) R7.out).mono ?_
  rintro e w8 ⟨rfl, hk⟩
  have K8 : Hid (Keeps W w8 (fun _ => False)) := Lib.hid (K7.out.trans hk)
  clear hk K7 R7
  obtain ⟨z0, z1⟩ := HB.out w8 K8.out
  go_wp2_with fail
  refine (has_any s i _).mono ?_
  rintro e w9 ⟨rfl, hk⟩
  rw [m_has]
  have K9 : Hid (Keeps W w9 (fun _ => False)) := Lib.hid (K8.out.trans hk)
  clear hk K8 z0 z1
  go_wp2_with fail
  refine (refHas_any (memI s) q i _ (R4.out.keeps K9.out)).mono ?_
  rintro e w10 ⟨rfl, rfl⟩
  obtain ⟨z0, z1⟩ := HB.out w9 K9.out
  obtain ⟨b, hb⟩ : ∃ b, hasI (memI s) i = b := ⟨_, rfl⟩
  rw [hb]
  clear hb
  cases b
  all_goals
    go_wp2_with fail
    refine (with_any s i _).mono ?_
    rintro e w11 ⟨rfl, hk⟩
    have K11 : Hid (Keeps W w11 (fun _ => False)) := Lib.hid (K9.out.trans hk)
    clear hk z0 z1
    go_wp2_with fail
    have K12 : Hid (Keeps W (w11.alloc (.cells #[.int .i64 i] 3)) (fun _ => False)) := Lib.hid (K11.out.alloc _)
    refine (refOr_any (memI s) [i] q _ _ (R4.out.keeps K12.out) (rd_one _ _ _) (by have := memI_len128 s; omega) (by simp)).mono ?_
    rintro e w13 ⟨qw, rfl, hrow, hk⟩
    rw [← m_with] at hrow
    have K13 : Hid (Keeps W w13 (fun _ => False)) := Lib.hid (K12.out.trans hk)
    have R13 := Lib.hid (RdV.ofOwn hrow)
    clear hk hrow K12 K11
    go_wp2_with fail
    refine (is_own (s.withN i) qw _ (GT.out.keeps (K4.out.trans K13.out)) R13.out).mono ?_
    rintro e w14 ⟨rfl, hk⟩
    have K14 : Hid (Keeps W w14 (fun _ => False)) := Lib.hid (K13.out.trans hk)
    clear hk K13 R13
    obtain ⟨z0, z1⟩ := HB.out w14 K14.out
    go_wp2_with fail
    refine (without_any s i _).mono ?_
    rintro e w15 ⟨rfl, hk⟩
    have K15 : Hid (Keeps W w15 (fun _ => False)) := Lib.hid (K14.out.trans hk)
    clear hk z0 z1
    go_wp2_with fail
    have K16 : Hid (Keeps W (w15.alloc (.cells #[.int .i64 i] 3)) (fun _ => False)) := Lib.hid (K15.out.alloc _)
    refine (refLess_any (memI s) [i] q _ _ (R4.out.keeps K16.out) (rd_one _ _ _) (by have := memI_len128 s; omega)).mono ?_
    rintro e w17 ⟨qx, rfl, hrow, hk⟩
    rw [← m_without] at hrow
    have K17 : Hid (Keeps W w17 (fun _ => False)) := Lib.hid (K16.out.trans hk)
    have R17 := Lib.hid (RdV.ofOwn hrow)
    clear hk hrow K16 K15
    go_wp2_with fail
    refine (is_own (s.withoutN i) qx _ (GT.out.keeps (K4.out.trans K17.out)) R17.out).mono ?_
    rintro e w18 ⟨rfl, hk⟩
    have K18 : Hid (Keeps w w18 (fun _ => False)) := Lib.hid (K4.out.trans (K17.out.trans hk))
    clear hk K17 R17
    go_wp2_with fail
    go_ret
    exact ⟨rfl, K18.out⟩
theorem walk (l : List Int) (v : Value) (n i : Int) (w : World) (h : RdV w v (IV l)) (hT : TabOk w) :
    Calls Tryd.prog 5 #[v, .int .i64 n, .int .i64 i] w fun e w' => e = .returned (.bool true) ∧ Keeps w w' (fun _ => False) := by
  by_cases hl : l.length ≤ 200
  · exact walk_mid l v n i w h hl hT
  · obtain ⟨a, cap, e1, hcap, _⟩ := h.form
    have hm := h.len
    unfold maxLen at hm
    rw [IV_len] at e1 hcap hm
    subst e1
    have GT := Lib.hid hT
    have hl' : 200 < l.length := by omega
    clear h hT hl
    go_enter Tryd.func5, Tryd.ntmps5
    go_wp2_with fail
    refine (awake07 _ GT.out).mono ?_
    rintro e w1 ⟨rfl, hk⟩
    have K1 := Lib.hid hk
    clear hk
    go_wp2_with fail
    go_ret
    exact ⟨rfl, K1.out⟩
end Go.Proofs.YtmmoopikglbmbaaDoor.bitsOf
