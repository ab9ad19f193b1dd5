/- fairleadref01.Digits is strconv.Itoa's text. -/
import Derived.Test.YtcggdfnadpmofaaDoorRows
import Derived.Test.YtcggdfnadpmofaaDoorMemB
import Derived.Lib.ItoaLen
import Derived.Laws.IdiomStrings
import Derived.Deep.LoopGhost
namespace Go.Proofs.YtcggdfnadpmofaaDoor
set_option linter.unusedSectionVars false
set_option linter.unusedVariables false
set_option linter.unusedSimpArgs false
open Go.RowKit

/-- The digits that are still to come. -/
def DD (u : Nat) : List UInt8 := if u = 0 then [] else Lib.decDigits u
theorem DD_zero : DD 0 = [] := rfl
theorem DD_step (u : Nat) (h : u ≠ 0) : DD u = DD (u / 10) ++ [UInt8.ofNat (48 + u % 10)] := by
  unfold DD
  rw [if_neg h]
  by_cases h10 : u < 10
  · rw [if_pos (by omega), Lib.decDigits, dif_pos h10, Nat.mod_eq_of_lt h10]; rfl
  · rw [if_neg (by omega), Lib.decDigits, dif_neg h10]
theorem conv_one (w : World) (r : Nat) (h : r < 200) : (convert 46 9 (.slice (some ⟨w.heap.size, 0, none⟩) 1 1)).run Tryd.prog (w.alloc (.cells #[.int .u8 (48 + (r : Int))] 5)) = .ok (.string ⟨#[UInt8.ofNat (48 + r)]⟩) (w.alloc (.cells #[.int .u8 (48 + (r : Int))] 5)) := by
  have h1 := run_convert_bytes_back (P := Tryd.prog) (w.alloc (.cells #[.int .u8 (48 + (r : Int))] 5)) 46 9 5 ⟨w.heap.size, 0, none⟩ 1 [UInt8.ofNat (48 + r)] Tryd.underlying46 Tryd.underlying5 Tryd.underlying9 (fun j hj => by
    have hj0 : j = 0 := by simpa using hj
    subst hj0
    have e : ((UInt8.ofNat (48 + r)).toNat : Int) = 48 + (r : Int) := by
      rw [UInt8.toNat_ofNat']; omega
    simp [e, Addr.add]; omega)
  exact h1
theorem str_add (a b : List UInt8) : ((⟨a.toArray⟩ : ByteArray) ++ (⟨b.toArray⟩ : ByteArray)) = ⟨(a ++ b).toArray⟩ := by
  cases h : ((⟨a.toArray⟩ : ByteArray) ++ (⟨b.toArray⟩ : ByteArray)) with
  | mk d =>
    have := congrArg ByteArray.data h
    rw [ByteArray.data_append] at this
    simp only at this
    rw [← this]
    simp

theorem DD_len (u : Nat) (hu : u ≤ 9223372036854775808) : (DD u).length ≤ 20 := by
  unfold DD
  split
  · simp
  · rw [Lib.decDigits_length]; exact Lib.nDigits_le20 u (by omega)
theorem add_one (w : World) (r : Nat) (t : List UInt8) (ht : t.length ≤ 20) : ((Op.stringOp .add ⟨#[UInt8.ofNat (48 + r)]⟩ ⟨t.toArray⟩).run Tryd.prog w) = .ok (.string ⟨(UInt8.ofNat (48 + r) :: t).toArray⟩) w := by
  have h := run_string_add_lists (P := Tryd.prog) w [UInt8.ofNat (48 + r)] t (by simp) (by omega)
  exact h

theorem add_sign (w : World) (t : List UInt8) (ht : t.length ≤ 20) : ((Op.stringOp .add ⟨#[45]⟩ ⟨t.toArray⟩).run Tryd.prog w) = .ok (.string ⟨(45 :: t).toArray⟩) w := by
  have h := run_string_add_lists (P := Tryd.prog) w [45] t (by simp) (by omega)
  exact h
/-- A number's last digit. -/
def dig (m : Nat) : UInt8 := UInt8.ofNat (48 + m % 10)
/-- The digits done and those to come. -/
def DInv (u : Nat) (w : World) (k : Nat) (x s : Value) (wr : World) : Prop := ∃ (m : Nat) (t : List UInt8), m ≤ u ∧ x = .int .i64 (m : Int) ∧ s = .string ⟨t.toArray⟩ ∧ DD u = DD m ++ t ∧ m < k ∧ Keeps w wr (fun _ => False)

attribute [-go_sem] run_string_add_if in
set_option maxRecDepth 20000 in
set_option maxHeartbeats 4000000 in
theorem digits_pos (u : Nat) (hu : u ≤ 9223372036854775807) (h0 : u ≠ 0) (w : World) : Calls Tryd.prog 14 #[.int .i64 (u : Int)] w fun e w' => e = .returned (.string ⟨(Lib.decDigits u).toArray⟩) ∧ Keeps w w' (fun _ => False) := by
  have hz : ((u : Int) == 0) = false := by rw [beq_eq_false_iff_ne]; omega
  go_enter Tryd.func14, Tryd.ntmps14
  go_wp2
  go_loopg [0, 3] (u + 1) (fun k x s wr => DInv u w k x s wr)
  case atStart => exact ⟨u, [], Nat.le_refl _, rfl, rfl, by simp, by omega, Keeps.refl _ _⟩
  case round =>
    obtain ⟨m, t, hm, rfl, rfl, hd, hk, hkw⟩ := hrel
    have htl : t.length ≤ 20 := by
      have h1 := congrArg List.length hd
      have h2 := DD_len u (by omega)
      rw [List.length_append] at h1
      omega
    have HD := Lib.hid hd
    have HK := Lib.hid hkw
    have HKK := Lib.hid hk
    have HM := Lib.hid hm
    clear hd hkw hk
    by_cases hm0 : m = 0
    · subst hm0
      clear hz
      go_wp2
      go_ret
      refine ⟨?_, HK.out⟩
      have h := HD.out
      rw [DD_zero, List.nil_append] at h
      rw [← h]
      unfold DD
      rw [if_neg h0]
      rfl
    · have hz2 : ((m : Int) == 0) = false := by rw [beq_eq_false_iff_ne]; omega
      have hst := Lib.hid (DD_step m hm0)
      have hcv := conv_one wr (m % 10) (by have : m % 10 < 10 := Nat.mod_lt _ (by decide); omega)
      have hadd := fun W => add_one W (m % 10) t htl
      change _ = Result.ok (Value.string ⟨#[dig m]⟩) _ at hcv
      change ∀ W, ((Op.stringOp .add ⟨#[dig m]⟩ ⟨t.toArray⟩).run Tryd.prog W) = .ok (.string ⟨(dig m :: t).toArray⟩) W at hadd
      have ec : ((m % 10 : Nat) : Int) = (m : Int) % 10 := by omega
      rw [ec] at hcv
      have hw := IntWalk.wrap64_in ((m : Int) / 10) (by omega)
      clear htl hm
      go_wp2_with fail
      go_roundg (gk - 1)
      case measure =>
        have := HKK.out
        omega
      case rel =>
        refine ⟨m / 10, dig m :: t, by have := HM.out; omega, by congr 1, rfl, ?_, by have := HKK.out; omega, ?_⟩
        · rw [HD.out, hst.out]; simp [dig]
        · exact HK.out.alloc _
def DNeg (u : Nat) (w : World) (k : Nat) (x s : Value) (wr : World) : Prop := ∃ (m : Nat) (t : List UInt8), m ≤ u ∧ x = .int .i64 (-(m : Int)) ∧ s = .string ⟨t.toArray⟩ ∧ DD u = DD m ++ t ∧ m < k ∧ Keeps w wr (fun _ => False)
attribute [-go_sem] run_string_add_if in
set_option maxRecDepth 20000 in
set_option maxHeartbeats 4000000 in
theorem digits_neg (u : Nat) (hu : u ≤ 9223372036854775808) (h0 : u ≠ 0) (w : World) : Calls Tryd.prog 14 #[.int .i64 (-(u : Int))] w fun e w' => e = .returned (.string ⟨(45 :: Lib.decDigits u).toArray⟩) ∧ Keeps w w' (fun _ => False) := by
  have hz : ((-(u : Int)) == 0) = false := by rw [beq_eq_false_iff_ne]; omega
  go_enter Tryd.func14, Tryd.ntmps14
  go_wp2
  go_loopg [0, 3] (u + 1) (fun k x s wr => DNeg u w k x s wr)
  case atStart => exact ⟨u, [], Nat.le_refl _, rfl, rfl, by simp, by omega, Keeps.refl _ _⟩
  case round =>
    obtain ⟨m, t, hm, rfl, rfl, hd, hk, hkw⟩ := hrel
    have htl : t.length ≤ 20 := by
      have h1 := congrArg List.length hd
      have h2 := DD_len u (by omega)
      rw [List.length_append] at h1
      omega
    have HD := Lib.hid hd
    have HK := Lib.hid hkw
    have HKK := Lib.hid hk
    have HM := Lib.hid hm
    clear hd hkw hk
    by_cases hm0 : m = 0
    · subst hm0
      have hsg := fun W => add_sign W t htl
      clear hz htl hm
      go_wp2_with fail
      go_ret
      refine ⟨?_, HK.out⟩
      have h := HD.out
      rw [DD_zero, List.nil_append] at h
      rw [← h]
      unfold DD
      rw [if_neg h0]
      rfl
    · have hz2 : ((-(m : Int)) == 0) = false := by rw [beq_eq_false_iff_ne]; omega
      have hst := Lib.hid (DD_step m hm0)
      have hcv := conv_one wr (m % 10) (by have : m % 10 < 10 := Nat.mod_lt _ (by decide); omega)
      have hadd := fun W => add_one W (m % 10) t htl
      change _ = Result.ok (Value.string ⟨#[dig m]⟩) _ at hcv
      change ∀ W, ((Op.stringOp .add ⟨#[dig m]⟩ ⟨t.toArray⟩).run Tryd.prog W) = .ok (.string ⟨(dig m :: t).toArray⟩) W at hadd
      have ec : ((m % 10 : Nat) : Int) = (m : Int) % 10 := by omega
      rw [ec] at hcv
      have hw := IntWalk.wrap64_in (-((m : Int) / 10)) (by omega)
      clear htl hm
      by_cases hr0 : m % 10 = 0
      · have hr1 : (m : Int) % 10 = 0 := by omega
        have hcv' : (convert 46 9 (.slice (some ⟨wr.heap.size, 0, none⟩) 1 1)).run Tryd.prog (wr.alloc (.cells #[.int .u8 48] 5)) = .ok (.string ⟨#[dig m]⟩) (wr.alloc (.cells #[.int .u8 48] 5)) := by
          have e : (48 : Int) = 48 + (m : Int) % 10 := by omega
          rw [e]; exact hcv
        clear hcv
        go_wp2_with fail
        go_roundg (gk - 1)
        case measure =>
          have := HKK.out
          omega
        case rel =>
          refine ⟨m / 10, dig m :: t, by have := HM.out; omega, by congr 1, rfl, ?_, by have := HKK.out; omega, ?_⟩
          · rw [HD.out, hst.out]; simp [dig]
          · exact HK.out.alloc _
      · have hr1 : 0 < (m : Int) % 10 := by omega
        go_wp2_with fail
        go_roundg (gk - 1)
        case measure =>
          have := HKK.out
          omega
        case rel =>
          refine ⟨m / 10, dig m :: t, by have := HM.out; omega, by congr 1, rfl, ?_, by have := HKK.out; omega, ?_⟩
          · rw [HD.out, hst.out]; simp [dig]
          · exact HK.out.alloc _

theorem digits_any (n : Int) (h0 : -9223372036854775808 ≤ n) (h1 : n ≤ 9223372036854775807) (w : World) : Calls Tryd.prog 14 #[.int .i64 n] w fun e w' => e = .returned (.string ⟨(Lib.itoa n).toArray⟩) ∧ Keeps w w' (fun _ => False) := by
  by_cases hz : n = 0
  · subst hz
    go_enter Tryd.func14, Tryd.ntmps14
    go_wp2
    go_ret
    refine ⟨?_, Keeps.refl _ _⟩
    rw [show Lib.itoa 0 = Lib.decDigits 0 from Lib.itoa_nonneg 0, Lib.decDigits, dif_pos (by decide)]
    rfl
  · by_cases hn : n < 0
    · obtain ⟨u, rfl⟩ : ∃ u : Nat, n = -(u : Int) := ⟨n.natAbs, by omega⟩
      rw [Lib.itoa_neg u (by omega)]
      exact digits_neg u (by omega) (by omega) w
    · obtain ⟨u, rfl⟩ : ∃ u : Nat, n = u := ⟨n.toNat, by omega⟩
      rw [Lib.itoa_nonneg]
      exact digits_pos u (by omega) (by omega) w
end Go.Proofs.YtcggdfnadpmofaaDoor
