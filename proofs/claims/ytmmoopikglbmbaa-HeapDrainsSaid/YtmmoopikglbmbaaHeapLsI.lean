/- The walk of less. -/
import Derived.Test.YtmmoopikglbmbaaRows
import Derived.Test.YtmmoopikglbmbaaHeapMem
import Derived.RegionTactic
import Derived.BigRegion
namespace Go.Proofs.Ytmmoopikglbmbaa
set_option linter.unusedSectionVars false
set_option linter.unusedVariables false
set_option linter.unusedSimpArgs false
open Go.RowKit HM

section
variable {α : Type} [Inhabited α] {f : α → Value} {w : World} {b : Nat} {l : List (Itm α)} {nx : Int} {sl : Value}

set_option maxHeartbeats 1000000 in
theorem less_I (hf : ∀ x, (f x).oneCell' = true) (H : HeapAt f 42 55 w b l nx sl) (i k : Int) (i0 : 0 ≤ i) (i1 : i < l.length) (k0 : 0 ≤ k) (k1 : k < l.length) :
    Calls Try.prog 18 #[.pointer (some ⟨b, 0, none⟩), .int .i64 i, .int .i64 k] w fun e w' => e = .returned (.bool (ltb (at' l i.toNat) (at' l k.toNat))) ∧
      Keeps w w' (fun _ => False) := by
  obtain ⟨i, rfl⟩ := Int.eq_ofNat_of_zero_le i0
  obtain ⟨k, rfl⟩ := Int.eq_ofNat_of_zero_le k0
  simp only [Int.toNat_natCast]
  have j1 : i < l.length := by omega
  have j2 : k < l.length := by omega
  obtain ⟨g, cap, hsl, hgb, hgs⟩ := H.form (by omega)
  subst hsl
  have hbs := block_lt H.hd
  have hb0 := H.c0
  have hr := H.row
  obtain ⟨a1, a2, a3⟩ := flat_get f l i j1
  obtain ⟨e1, e2, e3⟩ := flat_get f l k j2
  have a1 := ownsRow_cell hr a1
  have a2 := ownsRow_cell hr a2
  have a3 := ownsRow_cell hr a3
  have e1 := ownsRow_cell hr e1
  have e2 := ownsRow_cell hr e2
  have e3 := ownsRow_cell hr e3
  have f1 := hf (at' l i).x
  have f2 := hf (at' l k).x
  have hk0 := Keeps.refl w (fun _ => False)
  clear hr H hf
  generalize at' l i = A at *
  generalize at' l k = B at *
  have Hk := Lib.hid hk0
  clear hk0
  go_enter Try.func18, Try.ntmps18
  go_wp2
  go_region
  all_goals go_wp2
  all_goals go_ret
  all_goals
    constructor
    · first
        | (rw [ltb_1 (by assumption)]; rfl)
        | (rw [ltb_2 (by assumption)]; rfl)
        | (rw [ltb_3 (by assumption)]; rfl)
    · repeat (first | exact Hk.out | apply Keeps.drew | refine Keeps.setCell ?_ (fun h => absurd h (by simp)) _ | apply Keeps.alloc)
end
end Go.Proofs.Ytmmoopikglbmbaa
