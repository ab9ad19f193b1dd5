/- A region that draws its order and whose calls make memory: walked once, in the order of the text, in the class of all worlds in which what was there is as it was. -/
import Derived.Test.YtdhcnmljkmodhaaDoorMemB
import Derived.Deep.Quiet
import Derived.Deep.QuietTactic
import Derived.BigQuiet
namespace Go.Proofs.YtdhcnmljkmodhaaDoor
set_option linter.unusedSectionVars false
set_option linter.unusedVariables false
set_option linter.unusedSimpArgs false
open Go.RowKit

/-- All worlds in which what was there in w0 is as it was. -/
def Cls (w0 : World) : Type := { w : World // Keeps w0 w (fun _ => False) }
def Cls.w {w0 : World} (x : Cls w0) : World := x.1
theorem Cls.keep {w0 : World} (x : Cls w0) : Keeps w0 x.w (fun _ => False) := x.2
def Cls.mk {w0 : World} (w : World) (h : Keeps w0 w (fun _ => False)) : Cls w0 := ⟨w, h⟩
instance (w0 : World) : Nonempty (Cls w0) := ⟨Cls.mk w0 (Keeps.refl _ _)⟩
theorem Cls.mk_w {w0 : World} (w : World) (h : Keeps w0 w (fun _ => False)) : (Cls.mk w h).w = w := rfl
theorem Cls.cell {w0 : World} {a : Addr} {v : Value} (h : w0.cell? a = some v) (x : Cls w0) : x.w.cell? a = some v := by
  rw [← h]; exact World.cell?_of_block (x.keep.block _ (World.block_lt_of_cell? w0 _ h) id)
theorem Cls.size {w0 : World} (x : Cls w0) : w0.heap.size ≤ x.w.heap.size := x.keep.size

theorem wp_region_cls {P : Program} {id : Nat} {Q : Exit → Act → World → Prop} {a : Act} {w : World} {l : List Oper} (hm : P.follows .mixedOrders = true) (hB : Region.lexB .any l.toArray = true)
    (h : wpQuiet P l.toArray (fun w' => ∃ x : Cls w, w' = x.w) (fun a' => ∀ w', (∃ x : Cls w, w' = x.w) → Q .normal a' w') l a) : (Code.region id l.toArray true).wp P Q a w :=
  wp_region_quiet (C := fun w' => ∃ x : Cls w, w' = x.w) hm hB ⟨Cls.mk w.drew ((Keeps.refl w _).drew), rfl⟩ (by simpa using h)
/-- A call inside it. -/
theorem cls_call {P : Program} {f : FuncId} {args : Array Value} {w0 : World} {x : Cls w0} {v : Value} (h : Calls P f args x.w fun e w' => e = .returned v ∧ Keeps x.w w' (fun _ => False)) :
    Calls P f args x.w fun e w'' => e = .returned v ∧ ∃ y : Cls w0, w'' = y.w :=
  h.mono fun _ _ ⟨he, hk⟩ => ⟨he, Cls.mk _ (x.keep.trans hk), rfl⟩
theorem cls_call_same {P : Program} {f : FuncId} {args : Array Value} {w0 : World} {x : Cls w0} {v : Value} (h : Calls P f args x.w fun e w' => e = .returned v ∧ x.w = w') :
    Calls P f args x.w fun e w'' => e = .returned v ∧ ∃ y : Cls w0, w'' = y.w :=
  h.mono fun _ _ ⟨he, hk⟩ => ⟨he, x, hk.symm⟩
end Go.Proofs.YtdhcnmljkmodhaaDoor
