/- Lists of ints: a row of the call's own ('OwnI'), append. -/
import Derived.Test.YtmmoopikglbmbaaDoorRows
import Derived.Test.YtmmoopikglbmbaaDoorLst
namespace Go.Proofs.YtmmoopikglbmbaaDoor
set_option linter.unusedSectionVars false
set_option linter.unusedVariables false
set_option linter.unusedSimpArgs false
open Go.RowKit
theorem infoIntL : (Tryd.prog.info? 3).map (fun i => (i.zero, i.size, i.bytes)) = some (some (.int .i64 0), 1, 8) := by kernel_rfl
theorem infoIntL' : ∃ i, Tryd.prog.info? 3 = some i ∧ i.zero = some (.int .i64 0) ∧ i.size = 1 ∧ i.bytes = 8 := by
  have h := infoIntL
  cases hi : Tryd.prog.info? 3 with
  | none => rw [hi] at h; cases h
  | some i =>
    rw [hi] at h
    simp at h
    exact ⟨i, rfl, h.1, h.2.1, h.2.2⟩
/-- Ints as values. -/
def IV (l : List Int) : List Value := l.map (Value.int .i64)
theorem IV_len (l : List Int) : (IV l).length = l.length := by unfold IV; simp
theorem IV_app (l m : List Int) : IV (l ++ m) = IV l ++ IV m := by unfold IV; simp
/-- A row of the call's own, with what it holds. -/
def OwnI (w : World) (xs : List Int) (e : Ending) (w' : World) : Prop :=
  ∃ v, e = .returned v ∧ w'.ownsRow w.heap.size 3 1 v xs.length (IV xs) ∧ Keeps w w' (fun _ => False)
theorem OwnI.rd {w : World} {xs : List Int} {e : Ending} {w' : World} (h : OwnI w xs e w') : ∃ v, e = .returned v ∧ Keeps w w' (fun _ => False) ∧ RdV w' v (IV xs) := by
  obtain ⟨v, he, hr, hk⟩ := h
  exact ⟨v, he, hk, RdV.ofOwn hr⟩
theorem IV_one : ∀ (l : List Int), ∀ u ∈ IV l, u.oneCell' = true := fun l u hu => by
  obtain ⟨_, _, rfl⟩ := List.mem_map.1 hu; rfl
theorem IV_get {l : List Int} {k : Nat} (h : k < l.length) : (IV l)[k]? = some (.int .i64 l[k]) := by unfold IV; simp [h]
end Go.Proofs.YtmmoopikglbmbaaDoor
