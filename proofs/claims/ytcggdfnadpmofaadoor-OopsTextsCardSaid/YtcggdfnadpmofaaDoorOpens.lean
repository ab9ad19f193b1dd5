/- What came in, opened: numbers, strings, slices of them. -/
import Derived.Test.YtcggdfnadpmofaaDoorRows
import Derived.Test.YtcggdfnadpmofaaDoorLst
namespace Go.Proofs.YtcggdfnadpmofaaDoor
set_option linter.unusedSectionVars false
set_option linter.unusedVariables false
set_option linter.unusedSimpArgs false
set_option maxRecDepth 20000
open Go.RowKit Go.ChangeShapes Go.WideShapes
theorem flatMap_one {α : Type} (f : α → Value) (l : List α) : l.flatMap (fun x => [f x]) = l.map f := by
  induction l with
  | nil => rfl
  | cons a r ih => rw [List.flatMap_cons, ih]; rfl
theorem open_int {H : Type} {enc : TypeId × Value → H} {W : World} {sp : Nat → Bool} {hd : Bool} {fuel : Nat} {v : Value} {x : DataW H × List MemPlace} {base : Nat} (hv : Value.okWide Tryd.prog W .any base 3 v) (h : DataW.trod enc Tryd.prog W 0 sp hd fuel 3 v.cells.toList = some x) : ∃ n : Int, v = .int .i64 n ∧ -9223372036854775808 ≤ n ∧ n ≤ 9223372036854775807 := by obtain ⟨m, rfl⟩ := okWide_int Tryd.underlying3 hv; obtain ⟨n, e0, _, hw⟩ := DataW.trod_int Tryd.underlying3 h; simp [Lit.wf, IntKind.min, IntKind.max, IntKind.signed, IntKind.bits] at hw; simp [Value.cells] at e0; subst e0; exact ⟨m, rfl, by omega, by omega⟩
theorem open_Errno {H : Type} {enc : TypeId × Value → H} {W : World} {sp : Nat → Bool} {hd : Bool} {fuel : Nat} {v : Value} {x : DataW H × List MemPlace} {base : Nat} (hv : Value.okWide Tryd.prog W .any base 22 v) (h : DataW.trod enc Tryd.prog W 0 sp hd fuel 22 v.cells.toList = some x) : ∃ n : Int, v = .int .i64 n ∧ -9223372036854775808 ≤ n ∧ n ≤ 9223372036854775807 := by obtain ⟨m, rfl⟩ := okWide_int Tryd.underlying22 hv; obtain ⟨n, e0, _, hw⟩ := DataW.trod_int Tryd.underlying22 h; simp [Lit.wf, IntKind.min, IntKind.max, IntKind.signed, IntKind.bits] at hw; simp [Value.cells] at e0; subst e0; exact ⟨m, rfl, by omega, by omega⟩
theorem open_str {H : Type} {enc : TypeId × Value → H} {W : World} {sp : Nat → Bool} {hd : Bool} {fuel : Nat} {v : Value} {x : DataW H × List MemPlace} {base : Nat} (hv : Value.okWide Tryd.prog W .any base 9 v) (h : DataW.trod enc Tryd.prog W 0 sp hd fuel 9 v.cells.toList = some x) : ∃ s : ByteArray, v = .string s ∧ s.size ≤ maxLen := by obtain ⟨s0, rfl⟩ := okWide_string Tryd.underlying9 hv; obtain ⟨s, e0, _, hs⟩ := DataW.trod_string Tryd.underlying9 h; simp [Value.cells] at e0; subst e0; exact ⟨s0, rfl, hs⟩
theorem cellsStr : Tryd.prog.cellsOf 9 = 1 := by kernel_rfl
theorem open_strs {H : Type} {enc : TypeId × Value → H} {W : World} {sp : Nat → Bool} {hd : Bool} {fuel : Nat} {v : Value} {x : DataW H × List MemPlace} {base : Nat} (hv : Value.okWide Tryd.prog W .any base 33 v) (h : DataW.trod enc Tryd.prog W 0 sp hd fuel 33 v.cells.toList = some x) : ∃ l : List ByteArray, RdV W v (l.map Value.string) ∧ ∀ s ∈ l, s.size ≤ maxLen := by obtain ⟨a0, len, cap, rfl⟩ := okWide_slice Tryd.underlying33 hv; obtain ⟨v, l, hv, HA, hR⟩ := open_list (fun s : ByteArray => [Value.string s]) (fun s => s.size ≤ maxLen) (fun n cs y hl h => (by obtain ⟨s, e0, _, hs⟩ := DataW.trod_string Tryd.underlying9 h; subst e0; exact ⟨s, rfl, hs⟩)) (fun _ => rfl) Tryd.underlying33 cellsStr (by decide) h; obtain rfl : Value.slice a0 len cap = v := (by simpa [Value.cells] using hv); exact ⟨l, by unfold RdV; rw [flatMap_one] at HA; simpa using HA, hR⟩
end Go.Proofs.YtcggdfnadpmofaaDoor
