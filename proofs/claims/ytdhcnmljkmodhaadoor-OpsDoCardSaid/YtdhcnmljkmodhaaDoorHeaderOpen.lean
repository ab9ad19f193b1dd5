/- Lists of ints, and ints, that came in, opened. -/
import Derived.Test.YtdhcnmljkmodhaaDoorHeader5
import Derived.Test.YtdhcnmljkmodhaaDoorBitsOpen
namespace Go.Proofs.YtdhcnmljkmodhaaDoor
set_option linter.unusedSectionVars false
set_option linter.unusedVariables false
set_option linter.unusedSimpArgs false
set_option maxRecDepth 20000
open Go.RowKit Go.ChangeShapes Go.WideShapes
theorem cellsInt : Tryd.prog.cellsOf 3 = 1 := by kernel_rfl
theorem open_ints {H : Type} {enc : TypeId × Value → H} {W : World} {sp : Nat → Bool} {hd : Bool} {fuel : Nat} {v : Value} {x : DataW H × List MemPlace} {base : Nat}
    (hv : Value.okWide Tryd.prog W .any base 22 v) (h : DataW.trod enc Tryd.prog W 0 sp hd fuel 22 v.cells.toList = some x) : ∃ l : List Int, ReadsI W v l := by
  obtain ⟨a0, len, cap, rfl⟩ := okWide_slice Tryd.underlying22 hv
  obtain ⟨v, l, hv, HA, hR⟩ := open_list encI (fun c => True) (fun n cs y hl h => by
    obtain ⟨c, e0, _, hw⟩ := DataW.trod_int Tryd.underlying3 h
    subst e0
    exact ⟨c, rfl, trivial⟩) (fun _ => rfl) Tryd.underlying22 cellsInt (by decide) h
  obtain rfl : Value.slice a0 len cap = v := by simpa [Value.cells] using hv
  exact ⟨l, HA⟩
theorem open_int {H : Type} {enc : TypeId × Value → H} {W : World} {sp : Nat → Bool} {hd : Bool} {fuel : Nat} {v : Value} {x : DataW H × List MemPlace} {base : Nat}
    (hv : Value.okWide Tryd.prog W .any base 3 v) (h : DataW.trod enc Tryd.prog W 0 sp hd fuel 3 v.cells.toList = some x) : ∃ n : Int, v = .int .i64 n ∧ -9223372036854775808 ≤ n ∧ n ≤ 9223372036854775807 := by
  obtain ⟨m, rfl⟩ := okWide_int Tryd.underlying3 hv
  obtain ⟨n, e0, _, hw⟩ := DataW.trod_int Tryd.underlying3 h
  simp [Lit.wf, IntKind.min, IntKind.max, IntKind.signed, IntKind.bits] at hw
  simp [Value.cells] at e0
  subst e0
  exact ⟨m, rfl, by omega, by omega⟩
/-- Each end of a slice that reads as a list. -/
theorem ReadsI.drop {w : World} {g off n cap m c2 k : Nat} {l : List Int} (h : ReadsI w (.slice (some ⟨g, off, none⟩) n cap) l) (hk : k < l.length) (hm : m = l.length - k) (h2 : l.length - k ≤ c2) (h3 : c2 ≤ maxLen) :
    ReadsI w (.slice (some ⟨g, off + k, none⟩) m c2) (l.drop k) := by
  have hn := h.form
  obtain ⟨a, cap', he, _, _⟩ := hn
  simp only [Value.slice.injEq] at he
  obtain ⟨rfl, rfl, rfl⟩ := he
  subst hm
  obtain ⟨g', off', he, hg, hc⟩ := h.cell k hk
  simp only [Option.some.injEq, Addr.mk.injEq, and_true] at he
  obtain ⟨rfl, rfl⟩ := he
  have e : ∀ l : List Int, l.flatMap encI = l.map (Value.int .i64) := fun l => by
    induction l with
    | nil => rfl
    | cons a r ih => rw [List.flatMap_cons, ih]; rfl
  have hlen : (l.drop k).length = l.length - k := List.length_drop
  refine ⟨by rw [e]; simp, _, _, by rw [hlen], by omega, h3, (fun h => by cases h), fun _ => ⟨_, _, rfl, hg, fun j u hj => ?_⟩⟩
  rw [e] at hj
  simp only [List.getElem?_map, List.getElem?_drop, Option.map_eq_some_iff] at hj
  obtain ⟨x, hx, rfl⟩ := hj
  obtain ⟨hlt, rfl⟩ := List.getElem?_eq_some_iff.1 hx
  rw [Nat.add_assoc]
  exact hc (k + j) hlt
theorem open_u8 {H : Type} {enc : TypeId × Value → H} {W : World} {sp : Nat → Bool} {hd : Bool} {fuel : Nat} {v : Value} {x : DataW H × List MemPlace} {base : Nat}
    (hv : Value.okWide Tryd.prog W .any base 5 v) (h : DataW.trod enc Tryd.prog W 0 sp hd fuel 5 v.cells.toList = some x) : ∃ n : Nat, v = .int .u8 n ∧ n < 256 := by
  obtain ⟨m, rfl⟩ := okWide_int Tryd.underlying5 hv
  obtain ⟨n, e0, _, hw⟩ := DataW.trod_int Tryd.underlying5 h
  simp [Lit.wf, IntKind.min, IntKind.max, IntKind.signed, IntKind.bits] at hw
  simp [Value.cells] at e0
  subst e0
  obtain ⟨k, rfl⟩ := Int.eq_ofNat_of_zero_le (show 0 ≤ m by omega)
  exact ⟨k, rfl, by omega⟩
end Go.Proofs.YtdhcnmljkmodhaaDoor
