/- oops.At, oops.Words at nil; oops.Words and slices.Equal, as a region wants them. -/
import Derived.Test.YtjjokjdhllgohaaDoorOops8
import Derived.Test.YtjjokjdhllgohaaDoorRegionK
namespace Go.Proofs.YtjjokjdhllgohaaDoor
set_option linter.unusedSectionVars false
set_option linter.unusedVariables false
set_option linter.unusedSimpArgs false
open Go.RowKit Go.Extern.Stop Go.Stop Go.Extern
theorem at_nil (w : World) : Calls Tryd.prog 11 #[.nilIface] w fun e w' => e = .returned (.int .i64 (-1)) ∧ Keeps w w' (fun _ => False) := by
  go_enter Tryd.func11, Tryd.ntmps11
  go_wp2_with fail
  refine (As_nil _ _).mono ?_
  rintro e w1 ⟨rfl, rfl⟩
  go_wp2_with fail
  go_ret
  exact ⟨rfl, (Keeps.refl _ _).alloc _⟩
theorem words_nil (w : World) : Calls Tryd.prog 12 #[.nilIface] w fun e w' => e = .returned (.slice none 0 0) ∧ Keeps w w' (fun _ => False) := by
  go_enter Tryd.func12, Tryd.ntmps12
  go_wp2_with fail
  refine wp_loop_rounds 1 ?_
  rw [rounds_succ]
  go_wp2_with fail
  refine (As_nil _ _).mono ?_
  rintro e w1 ⟨rfl, rfl⟩
  go_wp2_with fail
  go_ret
  exact ⟨rfl, (Keeps.refl _ _).alloc _⟩
/-- Words, read as a list of values. -/
theorem words_rd (l : List (Nat × ByteArray)) (b : EB) (w : World) (hg : ErrT w) (hok : ChainOk w l b) (hl : l.length ≤ 1000) :
    Calls Tryd.prog 12 #[chainV l b] w fun e w' => ∃ v, e = .returned v ∧ Keeps w w' (fun _ => False) ∧ RdV w' v ((l.map (fun x => x.2)).map Value.string) :=
  (words_any l b w hg hok hl).mono fun e w' ⟨v, he, hrow, hk⟩ => ⟨v, he, hk, by
    have h := RdV.ofOwn hrow
    unfold wordsV at h
    rw [List.map_map]
    exact h⟩
end Go.Proofs.YtjjokjdhllgohaaDoor
