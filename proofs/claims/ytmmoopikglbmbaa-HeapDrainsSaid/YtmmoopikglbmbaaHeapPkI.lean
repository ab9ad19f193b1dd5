/- The walks of Len and Peek. -/
import Derived.Test.YtmmoopikglbmbaaRows
import Derived.Test.YtmmoopikglbmbaaHeapMem
import Derived.RegionTactic
import Derived.BigRegion
import Derived.Deep.QuietTactic
import Derived.BigQuiet
import Derived.Lib.SmallJoins
namespace Go.Proofs.Ytmmoopikglbmbaa
set_option linter.unusedSectionVars false
set_option linter.unusedVariables false
set_option linter.unusedSimpArgs false
open Go.RowKit HM

section
variable {α : Type} [Inhabited α] {f : α → Value} {w : World} {b : Nat} {l : List (Itm α)} {nx : Int} {sl : Value}

theorem len_nil_I (w : World) : Calls Try.prog 14 #[.pointer none] w fun e w' => e = .returned (.int .i64 0) ∧ w = w' := by
  go_enter Try.func14, Try.ntmps14
  go_wp2
  go_ret
  exact ⟨rfl, rfl⟩

omit [Inhabited α] in
theorem len_I (H : HeapAt f 42 55 w b l nx sl) :
    Calls Try.prog 14 #[.pointer (some ⟨b, 0, none⟩)] w fun e w' => e = .returned (.int .i64 l.length) ∧ w = w' := by
  have hb0 := H.c0
  have hr := H.row
  rcases Joins.ownsRow_forms hr with ⟨rfl, h0⟩ | ⟨g, cap, rfl⟩
  · rw [h0]
    go_enter Try.func14, Try.ntmps14
    go_wp2
    go_ret
    exact ⟨rfl, rfl⟩
  · go_enter Try.func14, Try.ntmps14
    go_wp2
    go_ret
    exact ⟨rfl, rfl⟩

theorem peek_nil_I (w : World) : Calls Try.prog 20 #[.pointer none] w fun e w' => e = .returned (.tuple #[.int .i64 0, .int .u64 0, .bool false]) ∧ w = w' := by
  go_enter Try.func20, Try.ntmps20
  go_wp2_with (go_at_call 14; refine (len_nil_I _).mono ?_; rintro e w' ⟨rfl, rfl⟩)
  go_ret3
  exact ⟨rfl, rfl⟩

omit [Inhabited α] in
theorem peek_none_I (H : HeapAt f 42 55 w b l nx sl) (h0 : l.length = 0) :
    Calls Try.prog 20 #[.pointer (some ⟨b, 0, none⟩)] w fun e w' => e = .returned (.tuple #[.int .i64 0, .int .u64 0, .bool false]) ∧ w = w' := by
  have hl := len_I H
  rw [h0] at hl
  have Hl := Lib.hid hl
  clear hl H h0
  go_enter Try.func20, Try.ntmps20
  go_wp2_with (go_at_call 14; refine Hl.out.mono ?_; rintro e w' ⟨rfl, rfl⟩)
  go_ret3
  exact ⟨rfl, rfl⟩

set_option maxHeartbeats 400000 in
theorem peek_some_I (H : HeapAt f 42 55 w b l nx sl) (h0 : 0 < l.length) :
    Calls Try.prog 20 #[.pointer (some ⟨b, 0, none⟩)] w fun e w' => e = .returned (.tuple #[f (at' l 0).x, .int .u64 (at' l 0).c, .bool true]) ∧ Keeps w w' (fun _ => False) := by
  have Hl := Lib.hid (len_I H)
  obtain ⟨g, cap, hsl, hgb, hgs⟩ := H.form (by omega)
  subst hsl
  have hb0 := H.c0
  have hr := H.row
  obtain ⟨a1, a2, a3⟩ := flat_get f l 0 h0
  have a1 := ownsRow_cell hr a1
  have a3 := ownsRow_cell hr a3
  simp only [Nat.zero_mul, Nat.zero_add] at a1 a3
  have hb1 : ((l.length : Int) == 0) = false := beq_eq_false_iff_ne.2 (by omega)
  have h0' : (0 : Int) < (l.length : Int) := by omega
  have Hk := Lib.hid (Keeps.refl w (fun _ => False))
  clear hr H a2
  go_enter Try.func20, Try.ntmps20
  go_wp2_with (go_at_call 14; refine Hl.out.mono ?_; rintro e w' ⟨rfl, rfl⟩)
  go_quiet (fail)
  go_wp2
  go_ret3
  exact ⟨rfl, Hk.out.drewN _⟩
end
end Go.Proofs.Ytmmoopikglbmbaa
