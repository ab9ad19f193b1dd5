/- The law of XRegionF at the class 'what was there is as it was' (Keeps), the facts as a list of slots. -/
import Derived.Test.YtdhcnmljkmodhaaDoorRegionF
import Derived.Test.YtdhcnmljkmodhaaDoorMemB
namespace Go.Proofs.YtdhcnmljkmodhaaDoor
set_option linter.unusedSectionVars false
set_option linter.unusedVariables false
set_option linter.unusedSimpArgs false
open Go Go.RowKit

def FL (L : List (Tmp × (Value → World → Prop))) (d : Tmp) (v : Value) (w : World) : Prop := match L.lookup d with
  | some R => R v w
  | none => True
def KeepsN (w w' : World) : Prop := Keeps w w' (fun _ => False)
/-- What is said stays so. -/
def Stays (R : Value → World → Prop) : Prop := ∀ v w w', R v w → Keeps w w' (fun _ => False) → R v w'
theorem Stays.pure (p : Value → Prop) : Stays (fun v _ => p v) := fun v w w' h _ => h
theorem lookup_mem {α : Type} {L : List (Tmp × α)} {d : Tmp} {R : α} (h : L.lookup d = some R) : ∃ p ∈ L, p.2 = R := by
  induction L with
  | nil => cases h
  | cons x r ih =>
    obtain ⟨k, u⟩ := x
    rw [List.lookup_cons] at h
    cases hk : (d == k) with
    | true => rw [hk] at h; simp at h; exact ⟨_, List.mem_cons_self, h⟩
    | false => rw [hk] at h; obtain ⟨p, hp, e⟩ := ih h; exact ⟨p, List.mem_cons_of_mem _ hp, e⟩
theorem FL_closed {L : List (Tmp × (Value → World → Prop))} (hL : ∀ p ∈ L, Stays p.2) : ∀ d v w w', FL L d v w → KeepsN w w' → FL L d v w' := fun d v w w' h hk => by
  unfold FL at *
  cases hl : L.lookup d with
  | none => trivial
  | some R =>
    rw [hl] at h
    obtain ⟨p, hp, rfl⟩ := lookup_mem hl
    exact hL p hp v w w' h hk
section
variable {P : Program}
theorem wp_region_K {id : Nat} {Q : Exit → Act → World → Prop} {a : Act} {w : World} {l : List Oper} (L : List (Tmp × (Value → World → Prop))) (hL : ∀ p ∈ L, Stays p.2) (hm : P.follows .mixedOrders = true) (hB : okF l.toArray = true)
    (h : wpF P l.toArray KeepsN (KeepsN w) (FL L) (L.map (·.1)) (fun a' w' => Q .normal a' w') l [] a) : (Code.region id l.toArray true).wp P Q a w :=
  wp_region_F_lit KeepsN (KeepsN w) (FL L) (L.map (·.1)) (fun a b h k => Keeps.trans h k) (FL_closed hL) hm hB (Keeps.drew (Keeps.refl w _)) h
/-- The post behind a variable. -/
theorem gives_hide {R0 : Value → World → Prop} {r : Result Next} (h : ∀ R : Value → World → Prop, (∀ v w', R0 v w' → R v w') → opGives P R r) : opGives P R0 r := h R0 (fun _ _ h => h)
theorem gives_call {R : Value → World → Prop} {f : FuncId} {args : Array Value} {w : World} {r : Result Next} (hr : r = .ok (.enter f args) w) (h : Calls P f args w (fun e w'' => ∃ v, e = .returned v ∧ R v w'')) : opGives P R r := by
  rw [hr]; exact h
theorem AtF.cell {ops : Array Oper} {W : World} {F : Tmp → Value → World → Prop} {o : Oper} {D : List (Tmp × Value)} {a : Addr} {v : Value} (h : W.cell? a = some v) (x : AtF (KeepsN W) F ops o D) : x.w.cell? a = some v := by
  rw [← h]; exact World.cell?_of_block (Keeps.block x.2.1 _ (World.block_lt_of_cell? W _ h) id)
end
end Go.Proofs.YtdhcnmljkmodhaaDoor
