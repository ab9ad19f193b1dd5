/- strconv.Itoa as a row that keeps memory; fairleadref01.Text; (api.Errno).Error; (*oops.Fault).Error: one text. -/
import Derived.Test.YtcggdfnadpmofaaDoorDigits
import Derived.Test.YtcggdfnadpmofaaDoorRegionK
import Derived.Test.YtcggdfnadpmofaaDoorShelfItoa
import Derived.Lib.AppendIntMem
namespace Go.Proofs.YtcggdfnadpmofaaDoor
set_option linter.unusedSectionVars false
set_option linter.unusedVariables false
set_option linter.unusedSimpArgs false
open Go.RowKit Go.Lib

/-- The table of powers of ten, as laid. -/
def TabT (w : World) : Prop := Lib.TabIs Tryd.prog w "internal/strconv.uint64pow10" .u64 Lib.pow10Tab
theorem TabT.keeps {w w' : World} (h : TabT w) (hk : Keeps w w' (fun _ => False)) : TabT w' :=
  Lib.tabBelow_of_tabIs h _ (hk.toBelow (Nat.le_refl _) (fun _ _ h => h.elim))

theorem itoa_any (n : Int) (h0 : -9223372036854775808 ≤ n) (h1 : n ≤ 9223372036854775807) (w : World) (ht : TabT w) : Calls Tryd.prog 13 #[.int .i64 n] w fun e w' => e = .returned (.string ⟨(Lib.itoa n).toArray⟩) ∧ Keeps w w' (fun _ => False) :=
  (Tryd.strconv_Itoa n h0 h1 w ht).mono fun e w' ⟨h, k, os, hw⟩ => ⟨h, by rw [hw]; exact Keeps.below (Lib.below_grow _ _ (Nat.le_refl _) k os) (Nat.le_refl _) _⟩

def tE (c : Int) : List UInt8 := [101, 114, 114, 111, 114, 32] ++ Lib.itoa c
def tA (c : Int) : List UInt8 := tE c ++ [32, 97, 116, 32]
def tT (c a : Int) : List UInt8 := tA c ++ Lib.itoa a
theorem len_i (c : Int) (h0 : -9223372036854775808 ≤ c) (h1 : c ≤ 9223372036854775807) : (Lib.itoa c).length ≤ 21 := Lib.itoa_length_le c h0 h1
theorem add_E (c : Int) (h0 : -9223372036854775808 ≤ c) (h1 : c ≤ 9223372036854775807) (w : World) : ((Op.stringOp .add ⟨#[101, 114, 114, 111, 114, 32]⟩ ⟨(Lib.itoa c).toArray⟩).run Tryd.prog w) = .ok (.string ⟨(tE c).toArray⟩) w :=
  run_string_add_lists (P := Tryd.prog) w [101, 114, 114, 111, 114, 32] _ (by simp) (by have := len_i c h0 h1; omega)
theorem add_A (c : Int) (h0 : -9223372036854775808 ≤ c) (h1 : c ≤ 9223372036854775807) (w : World) : ((Op.stringOp .add ⟨(tE c).toArray⟩ ⟨#[32, 97, 116, 32]⟩).run Tryd.prog w) = .ok (.string ⟨(tA c).toArray⟩) w :=
  run_string_add_lists (P := Tryd.prog) w (tE c) [32, 97, 116, 32] (by have := len_i c h0 h1; unfold tE; rw [List.length_append]; simp; omega) (by simp)
theorem add_T (c a : Int) (h0 : -9223372036854775808 ≤ c) (h1 : c ≤ 9223372036854775807) (k0 : -9223372036854775808 ≤ a) (k1 : a ≤ 9223372036854775807) (w : World) : ((Op.stringOp .add ⟨(tA c).toArray⟩ ⟨(Lib.itoa a).toArray⟩).run Tryd.prog w) = .ok (.string ⟨(tT c a).toArray⟩) w :=
  run_string_add_lists (P := Tryd.prog) w (tA c) _ (by have := len_i c h0 h1; unfold tA tE; rw [List.length_append, List.length_append]; simp; omega) (by have := len_i a k0 k1; omega)

attribute [-go_sem] run_string_add_if in
set_option maxRecDepth 20000 in
theorem text_any (c a : Int) (h0 : -9223372036854775808 ≤ c) (h1 : c ≤ 9223372036854775807) (k0 : -9223372036854775808 ≤ a) (k1 : a ≤ 9223372036854775807) (w : World) :
    Calls Tryd.prog 6 #[.int .i64 c, .int .i64 a] w fun e w' => e = .returned (.string ⟨(tT c a).toArray⟩) ∧ Keeps w w' (fun _ => False) := by
  have aE := add_E c h0 h1
  have aA := add_A c h0 h1
  have aT := add_T c a h0 h1 k0 k1
  go_enter Tryd.func6, Tryd.ntmps6
  go_wp2_with fail
  refine (digits_any c h0 h1 _).mono ?_
  rintro e w1 ⟨rfl, hk⟩
  have K1 := Lib.hid hk
  clear hk
  go_wp2_with fail
  refine (digits_any a k0 k1 _).mono ?_
  rintro e w2 ⟨rfl, hk⟩
  have K2 := Lib.hid (K1.out.trans hk)
  clear hk K1
  go_wp2_with fail
  go_ret
  exact ⟨rfl, K2.out⟩

attribute [-go_sem] run_string_add_if in
set_option maxRecDepth 20000 in
theorem errno_any (c : Int) (h0 : -9223372036854775808 ≤ c) (h1 : c ≤ 9223372036854775807) (w : World) (ht : TabT w) :
    Calls Tryd.prog 12 #[.int .i64 c] w fun e w' => e = .returned (.string ⟨(tE c).toArray⟩) ∧ Keeps w w' (fun _ => False) := by
  have aE := add_E c h0 h1
  have HT := Lib.hid ht
  clear ht
  go_enter Tryd.func12, Tryd.ntmps12
  go_wp2_with fail
  refine (itoa_any c h0 h1 _ HT.out).mono ?_
  rintro e w1 ⟨rfl, hk⟩
  have K1 := Lib.hid hk
  clear hk
  go_wp2_with fail
  go_ret
  exact ⟨rfl, K1.out⟩

attribute [-go_sem] run_string_add_if in
set_option maxRecDepth 20000 in
set_option maxHeartbeats 4000000 in
theorem fault_error (c a : Int) (h0 : -9223372036854775808 ≤ c) (h1 : c ≤ 9223372036854775807) (k0 : -9223372036854775808 ≤ a) (k1 : a ≤ 9223372036854775807) (p : Nat) (w : World) (ht : TabT w)
    (y0 : w.cell? ⟨p, 0, none⟩ = some (.int .i64 c)) (y1 : w.cell? ⟨p, 1, none⟩ = some (.int .i64 a)) :
    Calls Tryd.prog 5 #[.pointer (some ⟨p, 0, none⟩)] w fun e w' => e = .returned (.string ⟨(tT c a).toArray⟩) ∧ Keeps w w' (fun _ => False) := by
  have aA := add_A c h0 h1
  have aT := add_T c a h0 h1 k0 k1
  have HT := Lib.hid ht
  clear ht
  have x0 : ∀ {ops : Array Oper} {F : Tmp → Value → World → Prop} {o : Oper} {D : List (Tmp × Value)} (x : AtF (KeepsN w) F ops o D), x.w.cell? ⟨p, 0, none⟩ = some (.int .i64 c) := fun x => AtF.cell y0 x
  have x1 : ∀ {ops : Array Oper} {F : Tmp → Value → World → Prop} {o : Oper} {D : List (Tmp × Value)} (x : AtF (KeepsN w) F ops o D), x.w.cell? ⟨p, 1, none⟩ = some (.int .i64 a) := fun x => AtF.cell y1 x
  clear y0 y1
  go_enter Tryd.func5, Tryd.ntmps5
  go_wp2_with fail
  refine wp_region_K [(7, fun v _ => v = .string ⟨(tE c).toArray⟩), (13, fun v _ => v = .string ⟨(Lib.itoa a).toArray⟩)] ?_ (by kernel_rfl) (by kernel_rfl) ?_
  · intro p hp
    simp only [List.mem_cons, List.not_mem_nil, or_false] at hp
    rcases hp with rfl | rfl
    · exact Stays.pure _
    · exact Stays.pure _
  repeat (first | (refine wpF_skip rfl ?_) | (refine wpF_plain rfl rfl rfl ?_; intro ne K hK; go_big_quiet_op; go_big_quiet_on; clear ne))
  refine wpF_call rfl rfl ?_ ?_
  · intro x hx hf
    refine gives_hide (fun R hR => ?_)
    clear x0 x1
    go_simp
    refine (errno_any c h0 h1 _ (HT.out.keeps hx)).mono ?_
    rintro e w' ⟨rfl, hk⟩
    exact ⟨_, rfl, hR _ _ ⟨hk, rfl⟩⟩
  rintro v ⟨y, hy, hF⟩
  obtain rfl : v = .string ⟨(tE c).toArray⟩ := hF (7, v) List.mem_cons_self
  clear hy hF y
  simp only [Act.put, List.setIfInBounds_toArray, List.set_cons_succ, List.set_cons_zero]
  repeat (first | (refine wpF_skip rfl ?_) | (refine wpF_plain rfl rfl rfl ?_; intro ne K hK; go_big_quiet_op; go_big_quiet_on; clear ne))
  refine wpF_call rfl rfl ?_ ?_
  · intro x hx hf
    refine gives_hide (fun R hR => ?_)
    clear x0 x1
    go_simp
    refine (itoa_any a k0 k1 _ (HT.out.keeps hx)).mono ?_
    rintro e w' ⟨rfl, hk⟩
    exact ⟨_, rfl, hR _ _ ⟨hk, rfl⟩⟩
  rintro v ⟨y, hy, hF⟩
  obtain rfl : v = .string ⟨(Lib.itoa a).toArray⟩ := hF (13, v) List.mem_cons_self
  clear hy hF y
  simp only [Act.put, List.setIfInBounds_toArray, List.set_cons_succ, List.set_cons_zero]
  repeat (first | (refine wpF_skip rfl ?_) | (refine wpF_plain rfl rfl rfl ?_; intro ne K hK; go_big_quiet_op; go_big_quiet_on; clear ne))
  refine wpF_nil ?_
  intro w' hw' hF
  have KF : Hid (Keeps w w' (fun _ => False)) := Lib.hid hw'
  clear hw' hF
  go_wp2
  go_ret
  exact ⟨rfl, KF.out⟩
end Go.Proofs.YtcggdfnadpmofaaDoor
