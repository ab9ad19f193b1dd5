/- errors.As by its contracts; oops.New, oops.In, oops.Code, oops.At. -/
import Derived.Test.YtcggdfnadpmofaaDoorOops3
namespace Go.Proofs.YtcggdfnadpmofaaDoor
set_option linter.unusedSectionVars false
set_option linter.unusedVariables false
set_option linter.unusedSimpArgs false
open Go.RowKit Go.Extern.Stop Go.Stop Go.Extern

/-- errors.errorType as it is laid. -/
def ErrT (w : World) : Prop := w.cell? ⟨0, 0, none⟩ = some (.iface 61 (.agg #[.pointer (some ⟨4, 30, none⟩)]))
theorem ErrT.keeps {w w' : World} (h : ErrT w) (hk : Keeps w w' (fun _ => False)) : ErrT w' := by
  unfold ErrT at *
  rw [← h]; exact World.cell?_of_block (hk.block _ (World.block_lt_of_cell? w _ h) id)
/-- A Bool comes back. -/
def RetB (R : Bool → World → Prop) (e : Ending) (w' : World) : Prop := ∃ x, e = .returned (.bool x) ∧ R x w'
theorem As_nil (t : Value) (w : World) : Calls Tryd.prog 15 #[.nilIface, t] w fun e w' => e = .returned (.bool false) ∧ w = w' := by
  go_enter Tryd.func15, Tryd.ntmps15
  go_wp2
  go_ret
  exact ⟨rfl, rfl⟩

set_option maxHeartbeats 4000000 in
theorem As_Errno (l : List (Nat × ByteArray)) (b : EB) (t : Addr) (w : World) (R : Bool → World → Prop) (hg : ErrT w)
    (h : Calls Tryd.prog 20 #[chainV l b, .iface 44 (.pointer (some t)), .agg #[.pointer (some ⟨4, 44, none⟩), .pointer (some ⟨w.heap.size, 0, none⟩), .int .u64 150], .iface 61 (.agg #[.pointer (some ⟨4, 22, none⟩)])] ((w.alloc (.cells #[.pointer (some t)] 44)).alloc (.cells #[.pointer (some ⟨4, 44, none⟩), .pointer (some ⟨w.heap.size, 0, none⟩), .int .u64 150] 50)) (RetB R)) :
    Calls Tryd.prog 15 #[chainV l b, .iface 44 (.pointer (some t))] w (RetB R) := by
  have HH := Lib.hid h
  have hg2 : ((w.alloc (.cells #[.pointer (some t)] 44)).alloc (.cells #[.pointer (some ⟨4, 44, none⟩), .pointer (some ⟨w.heap.size, 0, none⟩), .int .u64 150] 50)).cell? ⟨0, 0, none⟩ = some (.iface 61 (.agg #[.pointer (some ⟨4, 30, none⟩)])) := ErrT.keeps hg (((Keeps.refl _ _).alloc _).alloc _)
  have n8 := rl_isNilErrno ⟨w.heap.size, 0, none⟩ t ((w.alloc (.cells #[.pointer (some t)] 44)).alloc (.cells #[.pointer (some ⟨4, 44, none⟩), .pointer (some ⟨w.heap.size, 0, none⟩), .int .u64 150] 50)) (by simp)
  clear h hg
  go_enter Tryd.func15, Tryd.ntmps15
  go_wp2_with fail
  refine HH.out.mono ?_
  rintro e w' ⟨x, rfl, hR⟩
  have HR := Lib.hid hR
  clear hR HH n8 hg2
  go_wp2_with fail
  go_ret
  exact ⟨x, rfl, HR.out⟩

set_option maxHeartbeats 4000000 in
theorem As_Fault (l : List (Nat × ByteArray)) (b : EB) (t : Addr) (w : World) (R : Bool → World → Prop) (hg : ErrT w)
    (h : Calls Tryd.prog 20 #[chainV l b, .iface 45 (.pointer (some t)), .agg #[.pointer (some ⟨4, 45, none⟩), .pointer (some ⟨w.heap.size, 0, none⟩), .int .u64 150], .iface 61 (.agg #[.pointer (some ⟨4, 37, none⟩)])] ((w.alloc (.cells #[.pointer (some t)] 45)).alloc (.cells #[.pointer (some ⟨4, 45, none⟩), .pointer (some ⟨w.heap.size, 0, none⟩), .int .u64 150] 50)) (RetB R)) :
    Calls Tryd.prog 15 #[chainV l b, .iface 45 (.pointer (some t))] w (RetB R) := by
  have HH := Lib.hid h
  have hg2 : ((w.alloc (.cells #[.pointer (some t)] 45)).alloc (.cells #[.pointer (some ⟨4, 45, none⟩), .pointer (some ⟨w.heap.size, 0, none⟩), .int .u64 150] 50)).cell? ⟨0, 0, none⟩ = some (.iface 61 (.agg #[.pointer (some ⟨4, 30, none⟩)])) := ErrT.keeps hg (((Keeps.refl _ _).alloc _).alloc _)
  have n8 := rl_isNilFault ⟨w.heap.size, 0, none⟩ t ((w.alloc (.cells #[.pointer (some t)] 45)).alloc (.cells #[.pointer (some ⟨4, 45, none⟩), .pointer (some ⟨w.heap.size, 0, none⟩), .int .u64 150] 50)) (by simp)
  clear h hg
  go_enter Tryd.func15, Tryd.ntmps15
  go_wp2_with fail
  refine HH.out.mono ?_
  rintro e w' ⟨x, rfl, hR⟩
  have HR := Lib.hid hR
  clear hR HH n8 hg2
  go_wp2_with fail
  go_ret
  exact ⟨x, rfl, HR.out⟩

set_option maxHeartbeats 4000000 in
theorem As_Place (l : List (Nat × ByteArray)) (b : EB) (t : Addr) (w : World) (R : Bool → World → Prop) (hg : ErrT w)
    (h : Calls Tryd.prog 20 #[chainV l b, .iface 43 (.pointer (some t)), .agg #[.pointer (some ⟨4, 43, none⟩), .pointer (some ⟨w.heap.size, 0, none⟩), .int .u64 150], .iface 61 (.agg #[.pointer (some ⟨4, 39, none⟩)])] ((w.alloc (.cells #[.pointer (some t)] 43)).alloc (.cells #[.pointer (some ⟨4, 43, none⟩), .pointer (some ⟨w.heap.size, 0, none⟩), .int .u64 150] 50)) (RetB R)) :
    Calls Tryd.prog 15 #[chainV l b, .iface 43 (.pointer (some t))] w (RetB R) := by
  have HH := Lib.hid h
  have hg2 : ((w.alloc (.cells #[.pointer (some t)] 43)).alloc (.cells #[.pointer (some ⟨4, 43, none⟩), .pointer (some ⟨w.heap.size, 0, none⟩), .int .u64 150] 50)).cell? ⟨0, 0, none⟩ = some (.iface 61 (.agg #[.pointer (some ⟨4, 30, none⟩)])) := ErrT.keeps hg (((Keeps.refl _ _).alloc _).alloc _)
  have n8 := rl_isNilPlace ⟨w.heap.size, 0, none⟩ t ((w.alloc (.cells #[.pointer (some t)] 43)).alloc (.cells #[.pointer (some ⟨4, 43, none⟩), .pointer (some ⟨w.heap.size, 0, none⟩), .int .u64 150] 50)) (by simp)
  clear h hg
  go_enter Tryd.func15, Tryd.ntmps15
  go_wp2_with fail
  refine HH.out.mono ?_
  rintro e w' ⟨x, rfl, hR⟩
  have HR := Lib.hid hR
  clear hR HH n8 hg2
  go_wp2_with fail
  go_ret
  exact ⟨x, rfl, HR.out⟩
end Go.Proofs.YtcggdfnadpmofaaDoor
