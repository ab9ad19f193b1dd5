/- errors.As by its contracts; oops.New, oops.In, oops.Code, oops.At. -/
import Derived.Test.YtdhcnmljkmodhaaDoorOops3
namespace Go.Proofs.YtdhcnmljkmodhaaDoor
set_option linter.unusedSectionVars false
set_option linter.unusedVariables false
set_option linter.unusedSimpArgs false
open Go.RowKit Go.Extern.Stop Go.Stop Go.Extern

/-- errors.errorType as it is laid. -/
def ErrT (w : World) : Prop := w.cell? ⟨0, 0, none⟩ = some (.iface 105 (.agg #[.pointer (some ⟨2, 32, none⟩)]))
theorem ErrT.keeps {w w' : World} (h : ErrT w) (hk : Keeps w w' (fun _ => False)) : ErrT w' := by
  unfold ErrT at *
  rw [← h]; exact World.cell?_of_block (hk.block _ (World.block_lt_of_cell? w _ h) id)
/-- A Bool comes back. -/
def RetB (R : Bool → World → Prop) (e : Ending) (w' : World) : Prop := ∃ x, e = .returned (.bool x) ∧ R x w'
theorem As_nil (t : Value) (w : World) : Calls Tryd.prog 40 #[.nilIface, t] w fun e w' => e = .returned (.bool false) ∧ w = w' := by
  go_enter Tryd.func40, Tryd.ntmps40
  go_wp2
  go_ret
  exact ⟨rfl, rfl⟩

set_option maxHeartbeats 4000000 in
theorem As_Errno (l : List (Nat × ByteArray)) (b : EB) (t : Addr) (w : World) (R : Bool → World → Prop) (hg : ErrT w)
    (h : Calls Tryd.prog 55 #[chainV l b, .iface 69 (.pointer (some t)), .agg #[.pointer (some ⟨2, 69, none⟩), .pointer (some ⟨w.heap.size, 0, none⟩), .int .u64 150], .iface 105 (.agg #[.pointer (some ⟨2, 49, none⟩)])] ((w.alloc (.cells #[.pointer (some t)] 69)).alloc (.cells #[.pointer (some ⟨2, 69, none⟩), .pointer (some ⟨w.heap.size, 0, none⟩), .int .u64 150] 88)) (RetB R)) :
    Calls Tryd.prog 40 #[chainV l b, .iface 69 (.pointer (some t))] w (RetB R) := by
  have HH := Lib.hid h
  have hg2 : ((w.alloc (.cells #[.pointer (some t)] 69)).alloc (.cells #[.pointer (some ⟨2, 69, none⟩), .pointer (some ⟨w.heap.size, 0, none⟩), .int .u64 150] 88)).cell? ⟨0, 0, none⟩ = some (.iface 105 (.agg #[.pointer (some ⟨2, 32, none⟩)])) := ErrT.keeps hg (((Keeps.refl _ _).alloc _).alloc _)
  have n8 := rl_isNilErrno ⟨w.heap.size, 0, none⟩ t ((w.alloc (.cells #[.pointer (some t)] 69)).alloc (.cells #[.pointer (some ⟨2, 69, none⟩), .pointer (some ⟨w.heap.size, 0, none⟩), .int .u64 150] 88)) (by simp)
  clear h hg
  go_enter Tryd.func40, Tryd.ntmps40
  go_wp2_with fail
  refine HH.out.mono ?_
  rintro e w' ⟨x, rfl, hR⟩
  have HR := Lib.hid hR
  clear hR HH n8 hg2
  go_wp2_with fail
  go_ret
  exact ⟨x, rfl, HR.out⟩

set_option maxHeartbeats 4000000 in
theorem As_Fault (l : List (Nat × ByteArray)) (b : EB) (t : Addr) (w : World) (R : Bool → World → Prop) (hg : ErrT w)
    (h : Calls Tryd.prog 55 #[chainV l b, .iface 71 (.pointer (some t)), .agg #[.pointer (some ⟨2, 71, none⟩), .pointer (some ⟨w.heap.size, 0, none⟩), .int .u64 150], .iface 105 (.agg #[.pointer (some ⟨2, 70, none⟩)])] ((w.alloc (.cells #[.pointer (some t)] 71)).alloc (.cells #[.pointer (some ⟨2, 71, none⟩), .pointer (some ⟨w.heap.size, 0, none⟩), .int .u64 150] 88)) (RetB R)) :
    Calls Tryd.prog 40 #[chainV l b, .iface 71 (.pointer (some t))] w (RetB R) := by
  have HH := Lib.hid h
  have hg2 : ((w.alloc (.cells #[.pointer (some t)] 71)).alloc (.cells #[.pointer (some ⟨2, 71, none⟩), .pointer (some ⟨w.heap.size, 0, none⟩), .int .u64 150] 88)).cell? ⟨0, 0, none⟩ = some (.iface 105 (.agg #[.pointer (some ⟨2, 32, none⟩)])) := ErrT.keeps hg (((Keeps.refl _ _).alloc _).alloc _)
  have n8 := rl_isNilFault ⟨w.heap.size, 0, none⟩ t ((w.alloc (.cells #[.pointer (some t)] 71)).alloc (.cells #[.pointer (some ⟨2, 71, none⟩), .pointer (some ⟨w.heap.size, 0, none⟩), .int .u64 150] 88)) (by simp)
  clear h hg
  go_enter Tryd.func40, Tryd.ntmps40
  go_wp2_with fail
  refine HH.out.mono ?_
  rintro e w' ⟨x, rfl, hR⟩
  have HR := Lib.hid hR
  clear hR HH n8 hg2
  go_wp2_with fail
  go_ret
  exact ⟨x, rfl, HR.out⟩

set_option maxHeartbeats 4000000 in
theorem As_Place (l : List (Nat × ByteArray)) (b : EB) (t : Addr) (w : World) (R : Bool → World → Prop) (hg : ErrT w)
    (h : Calls Tryd.prog 55 #[chainV l b, .iface 75 (.pointer (some t)), .agg #[.pointer (some ⟨2, 75, none⟩), .pointer (some ⟨w.heap.size, 0, none⟩), .int .u64 150], .iface 105 (.agg #[.pointer (some ⟨2, 74, none⟩)])] ((w.alloc (.cells #[.pointer (some t)] 75)).alloc (.cells #[.pointer (some ⟨2, 75, none⟩), .pointer (some ⟨w.heap.size, 0, none⟩), .int .u64 150] 88)) (RetB R)) :
    Calls Tryd.prog 40 #[chainV l b, .iface 75 (.pointer (some t))] w (RetB R) := by
  have HH := Lib.hid h
  have hg2 : ((w.alloc (.cells #[.pointer (some t)] 75)).alloc (.cells #[.pointer (some ⟨2, 75, none⟩), .pointer (some ⟨w.heap.size, 0, none⟩), .int .u64 150] 88)).cell? ⟨0, 0, none⟩ = some (.iface 105 (.agg #[.pointer (some ⟨2, 32, none⟩)])) := ErrT.keeps hg (((Keeps.refl _ _).alloc _).alloc _)
  have n8 := rl_isNilPlace ⟨w.heap.size, 0, none⟩ t ((w.alloc (.cells #[.pointer (some t)] 75)).alloc (.cells #[.pointer (some ⟨2, 75, none⟩), .pointer (some ⟨w.heap.size, 0, none⟩), .int .u64 150] 88)) (by simp)
  clear h hg
  go_enter Tryd.func40, Tryd.ntmps40
  go_wp2_with fail
  refine HH.out.mono ?_
  rintro e w' ⟨x, rfl, hR⟩
  have HR := Lib.hid hR
  clear hR HH n8 hg2
  go_wp2_with fail
  go_ret
  exact ⟨x, rfl, HR.out⟩
end Go.Proofs.YtdhcnmljkmodhaaDoor
