/- The awake of layer 1; 'of' by its contract. -/
import Derived.Test.YtdhcnmljkmodhaaDoorOops6
namespace Go.Proofs.YtdhcnmljkmodhaaDoor
set_option linter.unusedSectionVars false
set_option linter.unusedVariables false
set_option linter.unusedSimpArgs false
open Go.RowKit Go.Extern.Stop Go.Stop Go.Extern

set_option maxHeartbeats 4000000 in
theorem awake01 (w : World) (hg : ErrT w) : Calls Tryd.prog 38 #[] w fun e w' => e = .returned (.bool true) ∧ Keeps w w' (fun _ => False) := by
  have HG := Lib.hid hg
  clear hg
  go_enter Tryd.func38, Tryd.ntmps38
  go_wp2_with fail
  refine (new_some 4 7 (by decide) _).mono ?_
  rintro e w1 ⟨rfl, rfl⟩
  go_wp2_with fail
  refine (in_some _ _ _ _).mono ?_
  rintro e w1 ⟨rfl, hw2⟩
  have K2 : Hid (Keeps w w1 (fun _ => False)) := Lib.hid (by rw [hw2]; exact ((Keeps.refl _ _).alloc _).alloc _)
  have C2 : Hid (ChainOk w1 [((w.alloc (.cells #[.int .i64 4, .int .i64 7] 73)).heap.size, { data := #[110, 101, 116] })] (.fault w.heap.size 4 7)) := Lib.hid (by rw [hw2]; exact ChainOk.cons (ChainOk.fault w 4 7 _) _ _)
  clear hw2
  generalize (w.alloc (.cells #[.int .i64 4, .int .i64 7] 73)).heap.size = N1 at *
  generalize w.heap.size = N0 at *
  go_wp2_with fail
  refine (words_any _ _ _ (HG.out.keeps K2.out) C2.out (by simp)).mono ?_
  rintro e w2 ⟨v, rfl, hrow, hk⟩
  obtain ⟨g, cap, hv, hcell⟩ : ∃ g cap, v = .slice (some ⟨g, 0, none⟩) 1 cap ∧ w2.cell? ⟨g, 0, none⟩ = some (.string { data := #[110, 101, 116] }) := by
    obtain ⟨a, cap, rfl, _, _⟩ := (RdV.ofOwn hrow).form
    rcases hrow.2 with ⟨h0, _⟩ | ⟨g, cap', cur, h0, _⟩
    · simp [wordsV] at h0
    · simp only [Value.slice.injEq] at h0
      obtain ⟨rfl, _, rfl⟩ := h0
      exact ⟨g, cap, rfl, ownsRow_cell hrow (j := 0) (by simp [wordsV])⟩
  subst hv
  have HC := Lib.hid hcell
  have K3 : Hid (Keeps w w2 (fun _ => False)) := Lib.hid (K2.out.trans hk)
  have C3 := Lib.hid (C2.out.keeps hk)
  clear hrow hcell hk K2 C2
  go_wp2_with fail
  refine (code_any _ _ _ (HG.out.keeps K3.out) C3.out).mono ?_
  rintro e w3 ⟨rfl, hk⟩
  have K4 : Hid (Keeps w w3 (fun _ => False)) := Lib.hid (K3.out.trans hk)
  have C4 := Lib.hid (C3.out.keeps hk)
  have HC4 := Lib.hid ((World.cell?_of_block (hk.block g (World.block_lt_of_cell? w2 _ HC.out) id)).trans HC.out)
  clear hk K3 C3 HC
  rw [show EB.codeN (.fault N0 4 7) = 4 from rfl]
  go_wp2_with fail
  refine (at_any _ _ _ (HG.out.keeps K4.out) C4.out).mono ?_
  rintro e w4 ⟨rfl, hk⟩
  have K5 : Hid (Keeps w w4 (fun _ => False)) := Lib.hid (K4.out.trans hk)
  have HC5 := ((World.cell?_of_block (hk.block g (World.block_lt_of_cell? w3 _ HC4.out) id)).trans HC4.out)
  clear hk K4 C4 HC4
  rw [show EB.atN (.fault N0 4 7) = 7 from rfl]
  go_wp2_with fail
  refine (code_nil _).mono ?_
  rintro e w5 ⟨rfl, hk⟩
  have K6 : Hid (Keeps w w5 (fun _ => False)) := Lib.hid (K5.out.trans hk)
  clear hk K5 HC5
  go_wp2_with fail
  go_ret
  exact ⟨rfl, K6.out⟩
end Go.Proofs.YtdhcnmljkmodhaaDoor
