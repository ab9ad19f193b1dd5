/- OopsUnwraps returns true: what a fault and a place unwrap to: the number, and what was met within (at most 100 bytes). errors.errorType reads as laid (tied by the card). -/
import Derived.Test.YtjjokjdhllgohaaDoorOops10
import Derived.Test.YtjjokjdhllgohaaDoorOops11
namespace Go.Proofs.YtjjokjdhllgohaaDoor.oopsUnwraps
set_option linter.unusedSectionVars false
set_option linter.unusedVariables false
set_option linter.unusedSimpArgs false
open Go.RowKit Go.Extern.Stop Go.Stop Go.Extern

set_option maxRecDepth 20000 in
set_option maxHeartbeats 8000000 in
theorem walk_some (c a : Int) (hc : (c == 0) = false) (s : ByteArray) (w : World) (hl : s.size ≤ 100) (hg : ErrT w) :
    Calls Tryd.prog 7 #[.int .i64 c, .int .i64 a, .string s] w fun e w' => e = .returned (.bool true) ∧ Keeps w w' (fun _ => False) := by
  have HG := Lib.hid hg
  have hc0 : ¬ (c = 0) := by simpa using hc
  have HC0 := Lib.hid hc0
  clear hg
  go_enter Tryd.func7, Tryd.ntmps7
  go_wp2_with fail
  refine (awake01 _ HG.out).mono ?_
  rintro e w1 ⟨rfl, hk⟩
  have K1 := Lib.hid hk
  clear hk
  have e0 : (w1.alloc (.cells #[.int .i64 c, .int .i64 a] 44)).heap.size = w1.heap.size + 1 := by simp
  have y0 : ((w1.alloc (.cells #[.int .i64 c, .int .i64 a] 44)).alloc (.cells #[.string s, .iface 39 (.pointer (some ⟨w1.heap.size, 0, none⟩))] 51)).cell? ⟨w1.heap.size, 0, none⟩ = some (.int .i64 c) := by rw [World.cell?_alloc_lt _ _ _ (by simp)]; simp
  have y1 : ((w1.alloc (.cells #[.int .i64 c, .int .i64 a] 44)).alloc (.cells #[.string s, .iface 39 (.pointer (some ⟨w1.heap.size, 0, none⟩))] 51)).cell? ⟨w1.heap.size, 1, none⟩ = some (.int .i64 a) := by rw [World.cell?_alloc_lt _ _ _ (by simp)]; simp
  have y2 : ((w1.alloc (.cells #[.int .i64 c, .int .i64 a] 44)).alloc (.cells #[.string s, .iface 39 (.pointer (some ⟨w1.heap.size, 0, none⟩))] 51)).cell? ⟨w1.heap.size + 1, 1, none⟩ = some (.iface 39 (.pointer (some ⟨w1.heap.size, 0, none⟩))) := by rw [← e0]; simp
  have Y0 := Lib.hid y0
  have Y1 := Lib.hid y1
  have Y2 := Lib.hid y2
  have K2 : Hid (Keeps w ((w1.alloc (.cells #[.int .i64 c, .int .i64 a] 44)).alloc (.cells #[.string s, .iface 39 (.pointer (some ⟨w1.heap.size, 0, none⟩))] 51)) (fun _ => False)) := Lib.hid ((K1.out.alloc _).alloc _)
  clear y0 y1 y2 e0 K1
  go_wp2_with fail
  generalize (w1.alloc (.cells #[.int .i64 c, .int .i64 a] 44)).alloc (.cells #[.string s, .iface 39 (.pointer (some ⟨w1.heap.size, 0, none⟩))] 51) = W at *
  generalize w1.heap.size = N at *
  have HA : Hid (∀ w', Keeps W w' (fun _ => False) → w'.cell? ⟨N, 0, none⟩ = some (.int .i64 c) ∧ w'.cell? ⟨N, 1, none⟩ = some (.int .i64 a) ∧ w'.cell? ⟨N + 1, 1, none⟩ = some (.iface 39 (.pointer (some ⟨N, 0, none⟩)))) := Lib.hid (fun w' hk =>
    ⟨(World.cell?_of_block (hk.block _ (World.block_lt_of_cell? _ _ Y0.out) id)).trans Y0.out, (World.cell?_of_block (hk.block _ (World.block_lt_of_cell? _ _ Y1.out) id)).trans Y1.out, (World.cell?_of_block (hk.block _ (World.block_lt_of_cell? _ _ Y2.out) id)).trans Y2.out⟩)
  have HCH : Hid (∀ w', Keeps W w' (fun _ => False) → ChainOk w' [] (.fault N c a)) := Lib.hid (fun w' hk => ⟨(HA.out w' hk).1, (HA.out w' hk).2.1⟩)
  clear Y0 Y1 Y2
  refine (unwrapFault_any N c _ (HA.out _ (Keeps.refl _ _)).1).mono ?_
  rintro e w2 ⟨rfl, rfl⟩
  go_wp2_with fail
  refine (Is_errno [] (.errno c) c c rfl _ trivial).mono ?_
  rintro e w2 ⟨rfl, rfl⟩
  rw [beq_self_eq_true]
  go_wp2_with fail
  refine (unwrapFault_any N c _ (HA.out _ (Keeps.refl _ _)).1).mono ?_
  rintro e w2 ⟨rfl, rfl⟩
  go_wp2_with fail
  refine (at_any [] (.errno c) _ (HG.out.keeps K2.out) trivial).mono ?_
  rintro e w3 ⟨rfl, hk⟩
  have K3 := Lib.hid hk
  clear hk
  rw [show EB.atN (.errno c) = -1 from rfl]
  go_wp2_with fail
  refine (unwrapPlace_any (N + 1) _ _ (HA.out _ K3.out).2.2 rfl).mono ?_
  rintro e w4 ⟨rfl, rfl⟩
  go_wp2_with fail
  refine (at_any [] (.fault N c a) _ (HG.out.keeps (K2.out.trans K3.out)) (HCH.out _ K3.out)).mono ?_
  rintro e w4 ⟨rfl, hk⟩
  have K4 := Lib.hid (K3.out.trans hk)
  clear hk K3
  rw [show EB.atN (.fault N c a) = a from rfl]
  go_wp2_with fail
  refine (unwrapPlace_any (N + 1) _ _ (HA.out _ K4.out).2.2 rfl).mono ?_
  rintro e w5 ⟨rfl, rfl⟩
  go_wp2_with fail
  refine (words_rd [] (.fault N c a) _ (HG.out.keeps (K2.out.trans K4.out)) (HCH.out _ K4.out) (by simp)).mono ?_
  rintro e w5 ⟨v, rfl, hk, hr⟩
  have K5 := Lib.hid (K4.out.trans hk)
  obtain ⟨ad, cp, e1, _, _⟩ := hr.form
  simp only [List.map_nil, List.length_nil] at e1
  subst e1
  clear hk K4 hr
  go_wp2_with fail
  refine (unwrapPlace_any (N + 1) _ _ (HA.out _ K5.out).2.2 rfl).mono ?_
  rintro e w6 ⟨rfl, rfl⟩
  go_wp2_with fail
  have ok : OfOk w5 c a [] (.slice none 0 0) (chainV [] (.fault N c a)) := ⟨RdV.nil _, by simp, .inr ⟨HC0.out, [], N, rfl, rfl, HCH.out _ K5.out⟩⟩
  refine (same_of _ _ _ _ _ _ _ _ _ _ _ (HG.out.keeps (K2.out.trans K5.out)) ok ok).mono ?_
  rintro e w6 ⟨rfl, hk⟩
  rw [sameB_refl]
  have K6 : Hid (Keeps w w6 (fun _ => False)) := Lib.hid (K2.out.trans (K5.out.trans hk))
  clear hk K5 ok
  go_wp2_with fail
  go_ret
  exact ⟨rfl, K6.out⟩
theorem walk_out (c a : Int) (s : ByteArray) (w : World) (hm : s.size ≤ maxLen) (hx : c = 0 ∨ 100 < s.size) (hg : ErrT w) :
    Calls Tryd.prog 7 #[.int .i64 c, .int .i64 a, .string s] w fun e w' => e = .returned (.bool true) ∧ Keeps w w' (fun _ => False) := by
  unfold maxLen at hm
  have HG := Lib.hid hg
  clear hg
  by_cases h1 : 100 < s.size
  · clear hx
    go_enter Tryd.func7, Tryd.ntmps7
    go_wp2_with fail
    refine (awake01 _ HG.out).mono ?_
    rintro e w1 ⟨rfl, hk⟩
    have K1 := Lib.hid hk
    clear hk
    go_wp2_with fail
    go_ret
    exact ⟨rfl, K1.out⟩
  · obtain rfl : c = 0 := hx.resolve_right h1
    clear hx
    go_enter Tryd.func7, Tryd.ntmps7
    go_wp2_with fail
    refine (awake01 _ HG.out).mono ?_
    rintro e w1 ⟨rfl, hk⟩
    have K1 := Lib.hid hk
    clear hk
    go_wp2_with fail
    go_ret
    exact ⟨rfl, K1.out⟩
theorem walk (c a : Int) (s : ByteArray) (w : World) (hm : s.size ≤ maxLen) (hg : ErrT w) :
    Calls Tryd.prog 7 #[.int .i64 c, .int .i64 a, .string s] w fun e w' => e = .returned (.bool true) ∧ Keeps w w' (fun _ => False) := by
  by_cases hl : s.size ≤ 100
  · by_cases hc : c = 0
    · exact walk_out c a s w hm (.inl hc) hg
    · exact walk_some c a (by simpa using hc) s w hl hg
  · exact walk_out c a s w hm (.inr (by omega)) hg
end Go.Proofs.YtjjokjdhllgohaaDoor.oopsUnwraps
