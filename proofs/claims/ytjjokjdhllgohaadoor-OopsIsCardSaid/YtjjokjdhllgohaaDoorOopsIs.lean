/- OopsIs returns true: however often an error is wrapped (at most 20 words), errors.Is finds its number in it, and no other one; errors.As finds its fault. errors.errorType reads as laid (tied by the card). -/
import Derived.Test.YtjjokjdhllgohaaDoorOops10
namespace Go.Proofs.YtjjokjdhllgohaaDoor.oopsIs
set_option linter.unusedSectionVars false
set_option linter.unusedVariables false
set_option linter.unusedSimpArgs false
open Go.RowKit Go.Extern.Stop Go.Stop Go.Extern

theorem chain_base {w : World} {l : List (Nat × ByteArray)} {g : Nat} {c a : Int} (h : ChainOk w l (.fault g c a)) : w.cell? ⟨g, 0, none⟩ = some (.int .i64 c) ∧ w.cell? ⟨g, 1, none⟩ = some (.int .i64 a) := by
  induction l with
  | nil => exact h
  | cons x r ih => obtain ⟨p, s⟩ := x; exact ih h.2.2
set_option maxRecDepth 20000 in
set_option maxHeartbeats 8000000 in
theorem walk_some (c d a : Int) (hc : (c == 0) = false) (ws : List ByteArray) (v : Value) (w : World) (hws : RdV w v (ws.map Value.string)) (hl : ws.length ≤ 20) (hg : ErrT w) :
    Calls Tryd.prog 5 #[.int .i64 c, .int .i64 d, .int .i64 a, v] w fun e w' => e = .returned (.bool true) ∧ Keeps w w' (fun _ => False) := by
  obtain ⟨ad, cap, e1, _, _⟩ := hws.form
  rw [List.length_map] at e1
  subst e1
  have HW := Lib.hid hws
  have HG := Lib.hid hg
  have HCC := Lib.hid hc
  have hc0 : ¬ (c = 0) := by simpa using hc
  clear hws hg
  go_enter Tryd.func5, Tryd.ntmps5
  go_wp2_with fail
  refine (awake01 _ HG.out).mono ?_
  rintro e w1 ⟨rfl, hk⟩
  have K1 := Lib.hid hk
  clear hk
  go_wp2_with fail
  refine (of_some c a HCC.out ws _ _ (HW.out.keeps K1.out) hl).mono ?_
  rintro e w2 ⟨l, g, rfl, hlw, hch, hk⟩
  have K2 := Lib.hid (K1.out.trans hk)
  have HC := Lib.hid hch
  clear hk K1 hlw hch
  go_wp2_with fail
  have e0 : (w2.alloc (.cells #[.int .i64 c, .int .i64 a, .slice ad ws.length cap] 28)).heap.size = w2.heap.size + 1 := by simp
  have K3 : Hid (Keeps w ((w2.alloc (.cells #[.int .i64 c, .int .i64 a, .slice ad ws.length cap] 28)).alloc (.cells #[.pointer none] 39)) (fun _ => False)) := Lib.hid ((K2.out.alloc _).alloc _)
  have C3 : Hid (ChainOk ((w2.alloc (.cells #[.int .i64 c, .int .i64 a, .slice ad ws.length cap] 28)).alloc (.cells #[.pointer none] 39)) l (.fault g c a)) := Lib.hid (HC.out.keeps (((Keeps.refl _ _).alloc _).alloc _))
  have B3 : Hid (((w2.alloc (.cells #[.int .i64 c, .int .i64 a, .slice ad ws.length cap] 28)).alloc (.cells #[.pointer none] 39)).heap[w2.heap.size + 1]? = some (.cells #[.pointer none] 39 (0, 0))) := Lib.hid (by
    have h := heap_alloc_new (w2.alloc (.cells #[.int .i64 c, .int .i64 a, .slice ad ws.length cap] 28)) (.cells #[.pointer none] 39)
    rw [e0] at h; exact h)
  have G2 : Hid (g < w2.heap.size) := Lib.hid (World.block_lt_of_cell? w2 _ (chain_base HC.out).1)
  have W2 : Hid (w.heap.size ≤ w2.heap.size) := Lib.hid K2.out.size
  generalize (w2.alloc (.cells #[.int .i64 c, .int .i64 a, .slice ad ws.length cap] 28)).alloc (.cells #[.pointer none] 39) = W at *
  generalize w2.heap.size = N at *
  clear e0 K2 HC
  refine (Is_errno l _ c c rfl _ C3.out).mono ?_
  rintro e w3 ⟨rfl, rfl⟩
  rw [beq_self_eq_true]
  go_wp2_with fail
  refine (oIs_errno l _ d c rfl _ C3.out).mono ?_
  rintro e w3 ⟨rfl, rfl⟩
  cases hq : (c == d)
  all_goals
    go_wp2_with fail
    refine (oIs_nil c _).mono ?_
    rintro e w3 ⟨rfl, rfl⟩
    go_wp2_with fail
    refine (As_fault_hit l g c a _ (.pointer none) _ (HG.out.keeps K3.out) (by rw [cell_at B3.out]; rfl) (free_at B3.out 0) C3.out).mono ?_
    rintro e w4 ⟨x, rfl, rfl, hk, hcell⟩
    have hne : g ≠ N + 1 := by have := G2.out; omega
    obtain ⟨b0, b1⟩ := chain_base C3.out
    have y0 : w4.cell? ⟨g, 0, none⟩ = some (.int .i64 c) := by rw [← b0]; exact World.cell?_of_block (hk.block g (World.block_lt_of_cell? _ _ b0) hne)
    have y1 : w4.cell? ⟨g, 1, none⟩ = some (.int .i64 a) := by rw [← b1]; exact World.cell?_of_block (hk.block g (World.block_lt_of_cell? _ _ b0) hne)
    have K4 : Hid (Keeps w w4 (fun _ => False)) := Lib.hid (K3.out.trans' hk (fun j hj e => by have e : j = N + 1 := e; have := W2.out; omega))
    clear hk b0 b1
    go_wp2_with fail
    go_ret
    exact ⟨rfl, K4.out⟩
theorem walk_out (c d a : Int) (ws : List ByteArray) (v : Value) (w : World) (hws : RdV w v (ws.map Value.string)) (hx : c = 0 ∨ 20 < ws.length) (hg : ErrT w) :
    Calls Tryd.prog 5 #[.int .i64 c, .int .i64 d, .int .i64 a, v] w fun e w' => e = .returned (.bool true) ∧ Keeps w w' (fun _ => False) := by
  obtain ⟨ad, cap, e1, _, _⟩ := hws.form
  have hm := hws.len
  unfold maxLen at hm
  rw [List.length_map] at e1 hm
  subst e1
  have HG := Lib.hid hg
  clear hws hg
  by_cases h1 : 20 < ws.length
  · clear hx
    go_enter Tryd.func5, Tryd.ntmps5
    go_wp2_with fail
    refine (awake01 _ HG.out).mono ?_
    rintro e w1 ⟨rfl, hk⟩
    have K1 := Lib.hid hk
    clear hk
    go_wp2_with fail
    go_ret
    exact ⟨rfl, K1.out⟩
  · obtain rfl : c = 0 := hx.resolve_right h1
    clear hx
    go_enter Tryd.func5, Tryd.ntmps5
    go_wp2_with fail
    refine (awake01 _ HG.out).mono ?_
    rintro e w1 ⟨rfl, hk⟩
    have K1 := Lib.hid hk
    clear hk
    go_wp2_with fail
    go_ret
    exact ⟨rfl, K1.out⟩
theorem walk (c d a : Int) (ws : List ByteArray) (v : Value) (w : World) (hws : RdV w v (ws.map Value.string)) (hg : ErrT w) :
    Calls Tryd.prog 5 #[.int .i64 c, .int .i64 d, .int .i64 a, v] w fun e w' => e = .returned (.bool true) ∧ Keeps w w' (fun _ => False) := by
  by_cases hl : ws.length ≤ 20
  · by_cases hc : c = 0
    · exact walk_out c d a ws v w hws (.inl hc) hg
    · exact walk_some c d a (by simpa using hc) ws v w hws hl hg
  · exact walk_out c d a ws v w hws (.inr (by omega)) hg
end Go.Proofs.YtjjokjdhllgohaaDoor.oopsIs
