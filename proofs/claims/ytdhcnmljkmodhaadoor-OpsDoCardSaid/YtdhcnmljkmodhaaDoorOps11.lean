/- known.popped by its contract; known.done. -/
import Derived.Test.YtdhcnmljkmodhaaDoorOps10
namespace Go.Proofs.YtdhcnmljkmodhaaDoor
set_option linter.unusedSectionVars false
set_option linter.unusedVariables false
set_option linter.unusedSimpArgs false
set_option maxRecDepth 20000
open Go.RowKit

theorem popped_any (w : World) (v : Value) (s : BSet) (r : List BSet) (H : RdK w v (s :: r)) (hT : TabOk w) :
    Calls Tryd.prog 42 #[v] w (KnPost w (poppedL (s :: r))) := by
  by_cases hp : (s.withoutN 1).isEmpty = true ∨ r ≠ []
  · exact popped_plain w v s r H hp
  · have hr : r = [] := Classical.byContradiction fun h => hp (.inr h)
    have he : (s.withoutN 1).isEmpty = false := by
      cases h : (s.withoutN 1).isEmpty
      · rfl
      · exact absurd (.inl h) hp
    subst hr
    exact popped_range w v s H he hT
/-- What is known behind an op; its error. -/
def doneL : List BSet → Int → Int → Int × List BSet
  | [], _, _ => (0, [])
  | s :: r, own, kind => if kind = 1 then (match poppedL (s :: r) with | none => (9, []) | some l => (0, l))
    else if kind = 2 then (if own = 0 then (2, []) else if (s.and (ofL [own])).isEmpty then (9, []) else (0, s.and (ofL [own]) :: r))
    else if kind = 3 then (if own = 0 then (2, []) else if (s.and (belowS own)).isEmpty then (9, []) else (0, ofL [own] :: s.and (belowS own) :: r))
    else (2, [])
def DonePost (w : World) (r : Int × List BSet) (e : Ending) (w' : World) : Prop :=
  ∃ v, e = .returned (.tuple #[v, .int .i64 r.1]) ∧ Keeps w w' (fun _ => False) ∧ (r.1 = 0 → RdK w' v r.2)
theorem done_pop (w : World) (v : Value) (s : BSet) (r : List BSet) (own : Int) (H : RdK w v (s :: r)) (hT : TabOk w) :
    Calls Tryd.prog 32 #[v, .int .i64 own, .int .i64 1] w (DonePost w (doneL (s :: r) own 1)) := by
  have HH := Lib.hid H
  have GT := Lib.hid hT
  clear H hT
  go_enter Tryd.func32, Tryd.ntmps32
  go_wp2_with fail
  refine (popped_any w v s r HH.out GT.out).mono ?_
  rintro e w1 ⟨u, rfl, hk, hr⟩
  have K1 := Lib.hid hk
  have R1 := Lib.hid hr
  clear hk hr
  cases hp : poppedL (s :: r) with
  | none =>
    go_wp2_with fail
    go_ret2
    exact ⟨.slice none 0 0, by simp [doneL, hp], K1.out, fun h => by simp [doneL, hp] at h⟩
  | some l =>
    have R2 := Lib.hid (R1.out l hp)
    go_wp2_with fail
    go_ret2
    exact ⟨u, by simp [doneL, hp], K1.out, fun h => by simp [doneL, hp]; exact R2.out⟩
theorem done_none (w : World) (v : Value) (k : List BSet) (s : BSet) (r : List BSet) (hk : k = s :: r) (own kind : Int) (h : (kind ≠ 1 ∧ kind ≠ 2 ∧ kind ≠ 3) ∨ (own = 0 ∧ (kind = 2 ∨ kind = 3))) :
    Calls Tryd.prog 32 #[v, .int .i64 own, .int .i64 kind] w (DonePost w (doneL k own kind)) := by
  subst hk
  rcases h with ⟨h1, h2, h3⟩ | ⟨rfl, rfl | rfl⟩
  · have q1 : (kind == 1) = false := beq_eq_false_iff_ne.2 h1
    have q2 : (kind == 2) = false := beq_eq_false_iff_ne.2 h2
    have q3 : (kind == 3) = false := beq_eq_false_iff_ne.2 h3
    go_enter Tryd.func32, Tryd.ntmps32
    go_wp2_with fail
    go_ret2
    exact ⟨.slice none 0 0, by simp [doneL, h1, h2, h3], Keeps.refl _ _, fun h => by simp [doneL, h1, h2, h3] at h⟩
  · go_enter Tryd.func32, Tryd.ntmps32
    go_wp2_with fail
    go_ret2
    exact ⟨.slice none 0 0, by simp [doneL], Keeps.refl _ _, fun h => by simp [doneL] at h⟩
  · go_enter Tryd.func32, Tryd.ntmps32
    go_wp2_with fail
    go_ret2
    exact ⟨.slice none 0 0, by simp [doneL], Keeps.refl _ _, fun h => by simp [doneL] at h⟩
end Go.Proofs.YtdhcnmljkmodhaaDoor
