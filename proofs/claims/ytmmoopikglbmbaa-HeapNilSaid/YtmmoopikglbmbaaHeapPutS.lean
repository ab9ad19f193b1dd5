/- The walk of Put. -/
import Derived.Test.YtmmoopikglbmbaaHeapSwS
import Derived.Test.YtmmoopikglbmbaaHeapLsS
import Derived.Deep.DeepCutAuto
namespace Go.Proofs.Ytmmoopikglbmbaa
set_option linter.unusedSectionVars false
set_option linter.unusedVariables false
set_option linter.unusedSimpArgs false
open Go.RowKit HM

theorem Try.infoItS : (Try.prog.info? 50).map (fun i => (i.zero, i.size, i.bytes)) = some (some (.agg #[.int .u64 0, .int .u64 0, .string ⟨#[]⟩]), 3, 32) := by kernel_rfl

theorem put_nil_S (c x : Value) (w : World) : Calls Try.prog 9 #[.pointer none, c, x] w fun e w' => e = .returned (.tuple #[]) ∧ w = w' := by
  go_enter Try.func9, Try.ntmps9
  go_wp2
  exact bodyPost_ret (results_none rfl _ _ _) rfl ⟨rfl, rfl⟩

section
variable {α : Type} [Inhabited α] {f : α → Value} {w : World} {b : Nat} {l : List (Itm α)} {nx : Int} {sl : Value}

set_option maxHeartbeats 1000000 in
theorem put_S (hf : ∀ x, (f x).oneCell' = true) (H : HeapAt f 27 50 w b l nx sl) (hl : l.length ≤ 1000) (n0 : 0 ≤ nx) (n1 : nx ≤ 1000) (hh : IsHeap l) (c : Int) (x : α) :
    Calls Try.prog 9 #[.pointer (some ⟨b, 0, none⟩), .int .u64 c, f x] w fun e w' => e = .returned (.tuple #[]) ∧
      ∃ l' sl', HeapAt f 27 50 w' b l' (nx + 1) sl' ∧ l'.Perm (l ++ [⟨c, nx, x⟩]) ∧ IsHeap l' ∧
        Keeps w w' (fun j => j = b ∨ sl.ownBlock = some j) ∧ (∀ g, sl'.ownBlock = some g → sl.ownBlock = some g ∨ w.heap.size ≤ g) := by
  obtain ⟨i0, hi, hz0, hz1, hz2⟩ := info_parts Try.infoItS
  have hb0 := H.c0
  have hb1 := H.c1
  have hbs := block_lt H.hd
  have hfr := H.fr
  have hne := H.ne
  have hbd := Lib.hid H.hd
  have hrow := Lib.hid H.row
  have hfx := hf x
  have hnw : ∀ u ∈ [Value.int .u64 c, .int .u64 nx, f x], u.oneCell' = true := by
    intro u hu
    simp only [List.mem_cons, List.not_mem_nil, or_false] at hu
    rcases hu with rfl | rfl | rfl
    · rfl
    · rfl
    · exact hfx
  have Hnw := Lib.hid hnw
  have Hh := Lib.hid hh
  clear hnw hh H
  go_enter Try.func9, Try.ntmps9
  go_upto_region 1 with fail
  go_cut [] (fun wx => ∃ sl', HeapAt f 27 50 wx b (l ++ [⟨c, nx, x⟩]) nx sl' ∧ Keeps w wx (fun j => j = b ∨ sl.ownBlock = some j) ∧ (∀ g, sl'.ownBlock = some g → sl.ownBlock = some g ∨ w.heap.size ≤ g))
  case first =>
    go_region_law (refine step_append_own rfl (.tmp 13) (.tmp 21) 24 rfl 50 i0 _ 3 32 Try.underlying24 hi hz0 hz1 hz2 rfl (by decide) 0 sl l.length (flat f l) (by simp [Act.eval, Act.put]) (hrow.out.alloc _) ⟨w.heap.size, 0, none⟩ 1 1 [.int .u64 c, .int .u64 nx, f x] (by simp [Act.eval, Act.put]) rfl (cells_new w.drew _ _ _ _ rfl) Hnw.out (by unfold maxLen; omega) (by omega) (by omega) ?_; intro v' w1 hown hgrow hfresh; obtain ⟨g', cap', rfl⟩ := Joins.ownsRow_form hown (by omega); have hblk : w1.heap[b]? = some (.cells #[sl, .int .u64 nx] 27 (0, 0)) := (hgrow.block b (by simp; omega) (fun e => hne e.symm)).trans ((Below.heap_alloc _ _ _ hbs).trans hbd.out); have q0 := cell_at hblk 0; have q1 := cell_at hblk 1; have q2 := free_at hblk; simp only [List.getElem?_toArray, List.getElem?_cons_zero, List.getElem?_cons_succ] at q0 q1; have hgn : g' ≠ b ∧ (sl.ownBlock = some g' ∨ w.heap.size ≤ g') := (by have h := hfresh g' rfl; simp only [hs_alloc, hs_drew] at h; constructor <;> rcases h with h | h <;> first | (intro e; exact hne (e ▸ h)) | (intro e; omega) | exact .inl h | (right; omega)); clear hfresh; have GN : Hid (∀ g, (Value.slice (some ⟨g', 0, none⟩) (l.length + 1) cap').ownBlock = some g → g ≠ b) := (fun g hg e => hgn.1 (by simp only [Value.ownBlock, Option.some.injEq] at hg; omega)); have GO : Hid ((Value.slice (some ⟨g', 0, none⟩) (l.length + 1) cap').ownBlock = sl.ownBlock ∨ w.heap.size ≤ g') := hgn.2.imp (fun h => h.symm) id; clear hgn; have Ho := Lib.hid hown; have Hg := Lib.hid hgrow; have Hb := Lib.hid hblk; clear hown hgrow hblk)
    all_goals
      go_wp2_with fail
      go_meet
      refine ⟨.slice (some ⟨g', 0, none⟩) (l.length + 1) cap', ⟨?_, ?_, ?_⟩, ?_, ?_⟩
      · rw [setCell_heap Hb.out]; rfl
      · have h1 := Ho.out
        rw [flat_append]
        simp only [List.length_append, List.length_cons, List.length_nil, Nat.zero_add]
        exact ownsRow_same h1 (fun g hg => Below.heap_setCell _ _ _ _ (fun e => GN.out _ hg e))
      · exact fun e => GN.out _ e rfl
      · exact ((((Keeps.refl w _).drew).alloc _).grown Hg.out (fun k hk _ => .inr hk)).setCell (fun _ => .inl rfl) _
      · intro g hg
        rcases GO.out with h | h
        · exact .inl (h.symm.trans hg)
        · simp only [Value.ownBlock, Option.some.injEq] at hg; subst hg; exact .inr h
  case rest =>
    obtain ⟨sl', HL, HK0, HG⟩ := hcut
    have hb0 := HL.c0
    have hb1 := HL.c1
    have hfr := HL.fr
    have hlen := HL.form (by simp)
    obtain ⟨g', cap', rfl, hgb, hgs⟩ := hlen
    have fin : ∀ W, W = wc.setCell ⟨b, 1, none⟩ (.int .u64 (nx + 1)) → HeapAt f 27 50 W b (l ++ [⟨c, nx, x⟩]) (nx + 1) (.slice (some ⟨g', 0, none⟩) (l ++ [(⟨c, nx, x⟩ : Itm α)]).length cap') ∧ Keeps w W (fun j => j = b ∨ sl.ownBlock = some j) := by
      rintro W rfl
      refine ⟨⟨setCell_heap HL.hd 1 _, ownsRow_same HL.row (fun g hg => Below.heap_setCell _ _ _ _ (fun e => HL.ne (hg.trans (by rw [e])))), HL.ne⟩, HK0.setCell (fun _ => .inl rfl) _⟩
    have Fin := Lib.hid fin
    have GG := Lib.hid HG
    clear HL HK0 HG fin
    simp only [List.length_append, List.length_cons, List.length_nil, Nat.zero_add] at hb0
    go_wp2
    obtain ⟨GL0, GK0⟩ := Fin.out _ rfl
    have GL0 := Lib.hid GL0
    have GK0 := Lib.hid GK0
    generalize (wc.setCell ⟨b, 1, none⟩ (.int .u64 (nx + 1))) = W1 at *
    go_outline
    generalize hsl' : (Value.slice (some ⟨g', 0, none⟩) (l ++ [(⟨c, nx, x⟩ : Itm α)]).length cap') = sl' at *
    have Hsl := Lib.hid hsl'
    clear hsl' hb0 hb1 hfr
    go_loopw [6] (fun t wr => ∃ (i : Nat) (L : List (Itm α)), t = .int .i64 i ∧ i < L.length ∧ HeapAt f 27 50 wr b L (nx + 1) sl' ∧ L.Perm (l ++ [⟨c, nx, x⟩]) ∧ UpInv L i ∧ Keeps w wr (fun j => j = b ∨ sl.ownBlock = some j)) (fun t _ => (intOf t).toNat)
    case atStart => exact ⟨l.length, _, rfl, by simp, GL0.out, .refl _, up_start l _ Hh.out, GK0.out⟩
    case round =>
      obtain ⟨i, L, rfl, hiL, HL, hperm, hup, hkp⟩ := hrel
      have hLl : L.length ≤ 1001 := by have := hperm.length_eq; simp at this; omega
      have GL := Lib.hid HL
      have GP := Lib.hid hperm
      have GU := Lib.hid hup
      have GK := Lib.hid hkp
      clear HL hperm hup hkp
      by_cases h0 : 0 < i
      · have e2 : (((i : Int) - 1) / 2).toNat = (i - 1) / 2 := by omega
        have E2 := Lib.hid e2
        clear e2
        cases hb : ltb (at' L i) (at' L ((i - 1) / 2))
        · have HD : Hid (IsHeap L) := up_done L i GU.out (.inr (by rw [← ltb_iff, hb]; simp))
          have Hb := Lib.hid hb
          clear hb
          go_wp2_with (go_at_call 15; refine (less_S hf GL.out _ _ (by omega) (by omega) (by omega) (by omega)).mono ?_; rintro e w2 ⟨rfl, hk⟩; rw [E2.out, Int.toNat_natCast, Hb.out]; have Hk := Lib.hid hk; clear hk)
          exact bodyPost_end (results_none rfl _ _ _) rfl ⟨rfl, L, sl', GL.out.keeps Hk.out, GP.out, HD.out, GK.out.trans' Hk.out (fun _ _ h => h.elim), GG.out⟩
        · have hst : Hid (UpInv (swapL L i ((i - 1) / 2)) ((i - 1) / 2)) := up_step L i GU.out h0 hiL ((ltb_iff _ _).1 hb)
          have Hb := Lib.hid hb
          clear hb
          go_wp2_with (first | (go_at_call 15; refine (less_S hf GL.out _ _ (by omega) (by omega) (by omega) (by omega)).mono ?_; rintro e w2 ⟨rfl, hk⟩; rw [E2.out, Int.toNat_natCast, Hb.out]; have Hk := Lib.hid hk; clear hk) | (go_at_call 16; refine (swap_S hf (GL.out.keeps Hk.out) _ _ (by omega) (by omega) (by omega) (by omega)).mono ?_; rintro e w3 ⟨rfl, hL3, hk3⟩; rw [E2.out, Int.toNat_natCast] at hL3; have HL3 := Lib.hid hL3; have HK3 := Lib.hid hk3; clear hL3 hk3))
          go_roundw
          case rel => exact ⟨(i - 1) / 2, swapL L i ((i - 1) / 2), by go_num, by rw [swapL_length]; omega, HL3.out, (swapL_perm L i _ hiL (by omega)).trans GP.out, hst.out, (GK.out.trans' Hk.out (fun _ _ h => h.elim)).trans' HK3.out (fun g hg h => by rcases GG.out g h with h | h; exact .inr h; omega)⟩
          case measure => simp [intOf]; omega
      · have h0' : i = 0 := by omega
        subst h0'
        have HD : Hid (IsHeap L) := up_done L 0 GU.out (.inl rfl)
        go_wp2
        exact bodyPost_end (results_none rfl _ _ _) rfl ⟨rfl, L, sl', GL.out, GP.out, HD.out, GK.out, GG.out⟩
end
end Go.Proofs.Ytmmoopikglbmbaa
