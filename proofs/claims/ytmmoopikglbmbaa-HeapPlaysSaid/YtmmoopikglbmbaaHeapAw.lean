/- The walk of the chapter's example. -/
import Derived.Test.YtmmoopikglbmbaaHeapQS
namespace Go.Proofs.Ytmmoopikglbmbaa
set_option linter.unusedSectionVars false
set_option linter.unusedVariables false
set_option linter.unusedSimpArgs false
open Go.RowKit HM

/-- A string as a value. -/
def strV (s : ByteArray) : Value := .string s
theorem strV_one (s : ByteArray) : (strV s).oneCell' = true := rfl

set_option maxHeartbeats 1000000 in
theorem awake_any (w : World) : Calls Try.prog 6 #[] w fun e w' => e = .returned (.bool true) ∧ Keeps w w' (fun _ => False) := by
  have H0 := Lib.hid (heapQ_startS (B := w.heap.size) (f := strV) w (Nat.le_refl _))
  have K0 := Lib.hid ((Keeps.refl w (fun _ => False)).alloc (.cells #[.slice none 0 0, .int .u64 0] 27))
  go_enter Try.func6, Try.ntmps6
  go_wp2_with fail
  refine (put_QS strV_one H0.out (by simp) (by omega) 5 ⟨#[97]⟩).mono ?_
  rintro e w1 ⟨rfl, h1, k1⟩
  have H1 := Lib.hid h1
  have K1 := Lib.hid k1
  clear h1 k1
  go_wp2_with fail
  refine (put_QS strV_one H1.out (by simp [ins]) (by omega) 3 ⟨#[98]⟩).mono ?_
  rintro e w2 ⟨rfl, h2, k2⟩
  have H2 := Lib.hid h2
  have K2 := Lib.hid k2
  clear h2 k2
  go_wp2_with fail
  refine (put_QS strV_one H2.out (by simp [ins]) (by omega) 5 ⟨#[99]⟩).mono ?_
  rintro e w3 ⟨rfl, h3, k3⟩
  have H3 : Hid (HeapQS w.heap.size strV w3 w.heap.size [⟨3, 1, ⟨#[98]⟩⟩, ⟨5, 0, ⟨#[97]⟩⟩, ⟨5, 2, ⟨#[99]⟩⟩] 3) := h3
  have K3 := Lib.hid k3
  clear h3 k3 H0 H1 H2
  go_wp2_with fail
  refine (take_someQS strV_one H3.out (by simp)).mono ?_
  rintro e w4 ⟨rfl, h4, k4⟩
  have H4 := Lib.hid h4
  have K4 := Lib.hid k4
  clear h4 k4 H3
  go_wp2_with fail
  refine (take_someQS strV_one H4.out (by simp)).mono ?_
  rintro e w5 ⟨rfl, h5, k5⟩
  have H5 := Lib.hid h5
  have K5 := Lib.hid k5
  clear h5 k5 H4
  unfold strV
  go_wp2_with fail
  refine (len_QS H5.out).mono ?_
  rintro e w6 ⟨rfl, rfl⟩
  go_wp2_with fail
  go_ret
  have hm : ∀ W j, j < w.heap.size → ¬ MayS w.heap.size W w.heap.size j := by
    intro W j hj h
    rcases h with h | ⟨h, _⟩ <;> omega
  exact ⟨rfl, ((((K0.out.trans' K1.out (fun j hj h => hm _ j hj h)).trans' K2.out (fun j hj h => hm _ j hj h)).trans' K3.out (fun j hj h => hm _ j hj h)).trans' K4.out (fun j hj h => hm _ j hj h)).trans' K5.out (fun j hj h => hm _ j hj h)⟩
end Go.Proofs.Ytmmoopikglbmbaa
