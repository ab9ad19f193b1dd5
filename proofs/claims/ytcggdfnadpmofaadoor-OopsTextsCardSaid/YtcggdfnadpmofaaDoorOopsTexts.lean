/- OopsTexts returns true: a fault's text is the reference's. Both laid variables that the code reads read as laid (tied by the card). -/
import Derived.Test.YtcggdfnadpmofaaDoorOops7
import Derived.Test.YtcggdfnadpmofaaDoorText
namespace Go.Proofs.YtcggdfnadpmofaaDoor.oopsTexts
set_option linter.unusedSectionVars false
set_option linter.unusedVariables false
set_option linter.unusedSimpArgs false
open Go.RowKit Go.Lib

attribute [-go_sem] run_string_add_if in
set_option maxRecDepth 20000 in
set_option maxHeartbeats 4000000 in
theorem walk (c a : Int) (h0 : -9223372036854775808 ≤ c) (h1 : c ≤ 9223372036854775807) (k0 : -9223372036854775808 ≤ a) (k1 : a ≤ 9223372036854775807) (w : World) (hg : ErrT w) (ht : TabT w) :
    Calls Tryd.prog 3 #[.int .i64 c, .int .i64 a] w fun e w' => e = .returned (.bool true) ∧ Keeps w w' (fun _ => False) := by
  have HG := Lib.hid hg
  have HT := Lib.hid ht
  clear hg ht
  go_enter Tryd.func3, Tryd.ntmps3
  go_wp2_with fail
  refine (awake01 _ HG.out).mono ?_
  rintro e w1 ⟨rfl, hk⟩
  have K1 := Lib.hid hk
  clear hk
  go_wp2_with fail
  have K2 := Lib.hid (K1.out.alloc (.cells #[.int .i64 c, .int .i64 a] 25))
  have B2 := heap_alloc_new w1 (.cells #[.int .i64 c, .int .i64 a] 25)
  generalize w1.alloc (.cells #[.int .i64 c, .int .i64 a] 25) = W at *
  generalize w1.heap.size = N at *
  have y0 : W.cell? ⟨N, 0, none⟩ = some (.int .i64 c) := by rw [cell_at B2]; rfl
  have y1 : W.cell? ⟨N, 1, none⟩ = some (.int .i64 a) := by rw [cell_at B2]; rfl
  clear B2
  refine (fault_error c a h0 h1 k0 k1 N _ (HT.out.keeps K2.out) y0 y1).mono ?_
  rintro e w3 ⟨rfl, hk⟩
  have K3 := Lib.hid (K2.out.trans hk)
  clear hk K2 y0 y1
  go_wp2_with fail
  refine (text_any c a h0 h1 k0 k1 _).mono ?_
  rintro e w4 ⟨rfl, hk⟩
  have K4 := Lib.hid (K3.out.trans hk)
  clear hk K3
  go_wp2_with fail
  go_ret
  exact ⟨rfl, K4.out⟩
end Go.Proofs.YtcggdfnadpmofaaDoor.oopsTexts
