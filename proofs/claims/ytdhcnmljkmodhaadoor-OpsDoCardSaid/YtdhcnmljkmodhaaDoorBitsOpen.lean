/- A set that came in, opened. -/
import Derived.Test.YtdhcnmljkmodhaaDoorBits0
import Derived.Test.YtdhcnmljkmodhaaDoorOpen
import Derived.Test.YtdhcnmljkmodhaaDoorRows
namespace Go.Proofs.YtdhcnmljkmodhaaDoor
set_option linter.unusedSectionVars false
set_option linter.unusedVariables false
set_option linter.unusedSimpArgs false
open Go.RowKit Go.ChangeShapes
theorem cellsSet : Tryd.prog.cellsOf 57 = 2 := by kernel_rfl
theorem cellsU64 : Tryd.prog.cellsOf 55 = 1 := by kernel_rfl
theorem word_of (n : Int) (h : (Lit.int .u64 n).wf = true) : ∃ a : BitVec 64, n = (a.toNat : Int) := by
  simp [Lit.wf, IntKind.min, IntKind.max, IntKind.signed, IntKind.bits] at h
  refine ⟨BitVec.ofNat 64 n.toNat, ?_⟩
  rw [BitVec.toNat_ofNat]
  omega
theorem open_set {H : Type} {enc : TypeId × Value → H} {W : World} {sp : Nat → Bool} {hd : Bool} {fuel : Nat} {v : Value} {x : DataW H × List MemPlace} (h : DataW.trod enc Tryd.prog W 0 sp hd fuel 57 v.cells.toList = some x) : ∃ s : BSet, v = s.val := by
  obtain ⟨xs, m, _, _, hl, hn, hf⟩ := DataW.trod_array Tryd.underlying57 h
  rw [cellsSet] at hl
  rw [cellsU64] at hf
  obtain ⟨x0, x1, hc⟩ : ∃ x0 x1, v.cells.toList = [x0, x1] := by
    generalize v.cells.toList = cs at hl
    match cs, hl with
    | [x0, x1], _ => exact ⟨x0, x1, rfl⟩
  rw [hc] at hf
  obtain ⟨y0, y1, rfl⟩ : ∃ y0 y1, xs = [y0, y1] := by
    match xs, hn with
    | [y0, y1], _ => exact ⟨y0, y1, rfl⟩
  have h0 := hf 0 (by omega)
  have h1 := hf 1 (by omega)
  simp only [Nat.zero_mul, Nat.one_mul, List.drop_zero, List.drop_succ_cons, List.take_succ_cons, List.take_zero, List.getElem?_cons_zero, List.getElem?_cons_succ] at h0 h1
  obtain ⟨n0, e0, _, w0⟩ := DataW.trod_int Tryd.underlying55 h0
  obtain ⟨n1, e1, _, w1⟩ := DataW.trod_int Tryd.underlying55 h1
  obtain ⟨a, rfl⟩ := word_of n0 w0
  obtain ⟨b, rfl⟩ := word_of n1 w1
  simp at e0 e1
  subst e0 e1
  refine ⟨⟨a, b⟩, ?_⟩
  have hv : v.cells = #[.int .u64 a.toNat, .int .u64 b.toNat] := by
    apply Array.ext'; rw [hc]
  cases v <;> simp [Value.cells] at hv
  rw [hv]; rfl
end Go.Proofs.YtdhcnmljkmodhaaDoor
