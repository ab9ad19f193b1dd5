/- ops.Pushes, ops.Grows, fairleadref10.Count: how many ops are of a kind. -/
import Derived.Test.YtdhcnmljkmodhaaDoorOps2
namespace Go.Proofs.YtdhcnmljkmodhaaDoor
set_option linter.unusedSectionVars false
set_option linter.unusedVariables false
set_option linter.unusedSimpArgs false
set_option maxRecDepth 20000
open Go.RowKit

/-- How many ops are of a kind. -/
def cntL (k : Int) (c : List (Int × Int)) : Nat := (c.filter (fun o => o.1 == k)).length
theorem cntL_cons (k : Int) (o : Int × Int) (c : List (Int × Int)) : cntL k (o :: c) = (if o.1 == k then 1 else 0) + cntL k c := by
  unfold cntL
  rw [List.filter_cons]
  split <;> simp <;> omega
theorem cntL_take (k : Int) (c : List (Int × Int)) (i : Nat) (h : i < c.length) : cntL k (c.take (i + 1)) = cntL k (c.take i) + (if c[i].1 == k then 1 else 0) := by
  unfold cntL
  rw [List.take_succ_eq_append_getElem h, List.filter_append, List.length_append]
  congr 1
  rw [List.filter_cons]
  split <;> simp
theorem cntL_le (k : Int) (c : List (Int × Int)) : cntL k c ≤ c.length := List.length_filter_le _ _
theorem cntL_app (k : Int) (a b : List (Int × Int)) : cntL k (a ++ b) = cntL k a + cntL k b := by unfold cntL; rw [List.filter_append, List.length_append]

set_option maxHeartbeats 1000000 in
theorem pushes_any (w : World) (vc : Value) (c : List (Int × Int)) (hl : c.length ≤ 1000) (Hc : RdO w vc c) :
    Calls Tryd.prog 18 #[vc] w fun e w' => e = .returned (.int .i64 ((cntL 3 c : Int))) ∧ Keeps w w' (fun _ => False) := by
  obtain ⟨ac, capc, rfl, _, hmc⟩ := Hc.form
  have GC := Lib.hid Hc
  clear Hc hmc
  go_enter Tryd.func18, Tryd.ntmps18
  go_wp2_with fail
  go_loopw [3, 8] (fun tn ti wr => ∃ (k : Nat) (n : Int), ti = .int .i64 k ∧ tn = .int .i64 n ∧ k ≤ c.length ∧ n = (cntL 3 (c.take k) : Int) ∧ Keeps w wr (fun _ => False)) (fun _ ti _ => c.length - (intOf ti).toNat)
  case atStart => exact ⟨0, _, rfl, rfl, Nat.zero_le _, by simp [cntL], Keeps.refl _ _⟩
  case round =>
    obtain ⟨k, n, rfl, rfl, hk, hn, hkp⟩ := hrel
    have KP := Lib.hid hkp
    have HN := Lib.hid hn
    have hb3 := cntL_le 3 (c.take k)
    have hb1 := cntL_le 1 (c.take k)
    have hbk := cntL_le 3 (c.take k)
    have hb := List.length_take_le k c
    have hw := IntWalk.wrap64_in (n + 1) (by omega)
    clear hkp hn hb3 hb1 hbk hb
    by_cases hlt : k < c.length
    · obtain ⟨g, off, rfl, hg, hc⟩ := (GC.out.keeps KP.out).cell k hlt
      have hc0 := (hc k hlt).1
      have hc1 := (hc k hlt).2
      have S3 := Lib.hid (cntL_take 3 c k hlt)
      have S1 := Lib.hid (cntL_take 1 c k hlt)
      have SK := Lib.hid (cntL_take 3 c k hlt)
      clear hc
      generalize c[k].1 = ok at *
      generalize c[k].2 = ox at *
      have KA : Hid (Keeps w (wr.alloc (.cells #[.int .i64 ok, .int .i64 ox] 44)) (fun _ => False)) := Lib.hid (KP.out.alloc _)
      by_cases hq : ok = 3
      · have hq2 : (ok == 3) = true := by rw [beq_iff_eq]; exact hq
        subst hq
        go_wp2_with fail
        go_roundw
        case rel =>
          refine ⟨k + 1, _, by go_num, rfl, by omega, ?_, KA.out⟩
          rw [hw, S3.out, HN.out]
          simp
          try omega
        case measure => simp [intOf]; omega
      · have hq2 : (ok == 3) = false := beq_eq_false_iff_ne.2 hq
        have HQ := Lib.hid hq2
        clear hw
        go_wp2_with fail
        go_roundw
        case rel =>
          refine ⟨k + 1, _, by go_num, rfl, by omega, ?_, KA.out⟩
          rw [S3.out, HN.out]
          simp [HQ.out]
          try omega
        case measure => simp [intOf]; omega
    · have hk' : k = c.length := by omega
      subst hk'
      rw [List.take_length] at HN
      go_wp2_with fail
      go_ret
      exact ⟨by rw [HN.out]; rfl, KP.out⟩

set_option maxHeartbeats 1000000 in
theorem grows_any (w : World) (vc : Value) (c : List (Int × Int)) (hl : c.length ≤ 1000) (Hc : RdO w vc c) :
    Calls Tryd.prog 19 #[vc] w fun e w' => e = .returned (.int .i64 ((cntL 3 c : Int) - (cntL 1 c : Int))) ∧ Keeps w w' (fun _ => False) := by
  obtain ⟨ac, capc, rfl, _, hmc⟩ := Hc.form
  have GC := Lib.hid Hc
  clear Hc hmc
  go_enter Tryd.func19, Tryd.ntmps19
  go_wp2_with fail
  refine (pushes_any w _ c hl GC.out).mono ?_
  rintro e w1 ⟨rfl, hk1⟩
  have K1 := Lib.hid hk1
  clear hk1
  go_wp2_with fail
  go_loopw [3, 10] (fun tn ti wr => ∃ (k : Nat) (n : Int), ti = .int .i64 k ∧ tn = .int .i64 n ∧ k ≤ c.length ∧ n = (cntL 3 c : Int) - (cntL 1 (c.take k) : Int) ∧ Keeps w wr (fun _ => False)) (fun _ ti _ => c.length - (intOf ti).toNat)
  case atStart => exact ⟨0, _, rfl, rfl, Nat.zero_le _, by simp [cntL], K1.out⟩
  case round =>
    obtain ⟨k, n, rfl, rfl, hk, hn, hkp⟩ := hrel
    have KP := Lib.hid hkp
    have HN := Lib.hid hn
    have hb3 := cntL_le 3 c
    have hb1 := cntL_le 1 (c.take k)
    have hbk := cntL_le 1 (c.take k)
    have hb := List.length_take_le k c
    have hw := IntWalk.wrap64_in (n - 1) (by omega)
    clear hkp hn hb3 hb1 hbk hb
    by_cases hlt : k < c.length
    · obtain ⟨g, off, rfl, hg, hc⟩ := (GC.out.keeps KP.out).cell k hlt
      have hc0 := (hc k hlt).1
      have hc1 := (hc k hlt).2
      have S3 := Lib.hid (cntL_take 3 c k hlt)
      have S1 := Lib.hid (cntL_take 1 c k hlt)
      have SK := Lib.hid (cntL_take 1 c k hlt)
      clear hc
      generalize c[k].1 = ok at *
      generalize c[k].2 = ox at *
      have KA : Hid (Keeps w (wr.alloc (.cells #[.int .i64 ok, .int .i64 ox] 44)) (fun _ => False)) := Lib.hid (KP.out.alloc _)
      by_cases hq : ok = 1
      · have hq2 : (ok == 1) = true := by rw [beq_iff_eq]; exact hq
        subst hq
        go_wp2_with fail
        go_roundw
        case rel =>
          refine ⟨k + 1, _, by go_num, rfl, by omega, ?_, KA.out⟩
          rw [hw, S1.out, HN.out]
          simp
          try omega
        case measure => simp [intOf]; omega
      · have hq2 : (ok == 1) = false := beq_eq_false_iff_ne.2 hq
        have HQ := Lib.hid hq2
        clear hw
        go_wp2_with fail
        go_roundw
        case rel =>
          refine ⟨k + 1, _, by go_num, rfl, by omega, ?_, KA.out⟩
          rw [S1.out, HN.out]
          simp [HQ.out]
          try omega
        case measure => simp [intOf]; omega
    · have hk' : k = c.length := by omega
      subst hk'
      rw [List.take_length] at HN
      go_wp2_with fail
      go_ret
      exact ⟨by rw [HN.out]; rfl, KP.out⟩

set_option maxHeartbeats 1000000 in
theorem count_any (w : World) (vc : Value) (q : Int) (c : List (Int × Int)) (hl : c.length ≤ 1000) (Hc : RdO w vc c) :
    Calls Tryd.prog 16 #[vc, .int .i64 q] w fun e w' => e = .returned (.int .i64 ((cntL q c : Int))) ∧ Keeps w w' (fun _ => False) := by
  obtain ⟨ac, capc, rfl, _, hmc⟩ := Hc.form
  have GC := Lib.hid Hc
  clear Hc hmc
  go_enter Tryd.func16, Tryd.ntmps16
  go_wp2_with fail
  go_loopw [5, 10] (fun tn ti wr => ∃ (k : Nat) (n : Int), ti = .int .i64 k ∧ tn = .int .i64 n ∧ k ≤ c.length ∧ n = (cntL q (c.take k) : Int) ∧ Keeps w wr (fun _ => False)) (fun _ ti _ => c.length - (intOf ti).toNat)
  case atStart => exact ⟨0, _, rfl, rfl, Nat.zero_le _, by simp [cntL], Keeps.refl _ _⟩
  case round =>
    obtain ⟨k, n, rfl, rfl, hk, hn, hkp⟩ := hrel
    have KP := Lib.hid hkp
    have HN := Lib.hid hn
    have hb3 := cntL_le 3 (c.take k)
    have hb1 := cntL_le 1 (c.take k)
    have hbk := cntL_le q (c.take k)
    have hb := List.length_take_le k c
    have hw := IntWalk.wrap64_in (n + 1) (by omega)
    clear hkp hn hb3 hb1 hbk hb
    by_cases hlt : k < c.length
    · obtain ⟨g, off, rfl, hg, hc⟩ := (GC.out.keeps KP.out).cell k hlt
      have hc0 := (hc k hlt).1
      have hc1 := (hc k hlt).2
      have S3 := Lib.hid (cntL_take 3 c k hlt)
      have S1 := Lib.hid (cntL_take 1 c k hlt)
      have SK := Lib.hid (cntL_take q c k hlt)
      clear hc
      generalize c[k].1 = ok at *
      generalize c[k].2 = ox at *
      have KA : Hid (Keeps w (wr.alloc (.cells #[.int .i64 ok, .int .i64 ox] 47)) (fun _ => False)) := Lib.hid (KP.out.alloc _)
      by_cases hq : ok = q
      · have hq2 : (ok == q) = true := by rw [beq_iff_eq]; exact hq
        subst hq
        go_wp2_with fail
        go_roundw
        case rel =>
          refine ⟨k + 1, _, by go_num, rfl, by omega, ?_, KA.out⟩
          rw [hw, SK.out, HN.out]
          simp
          try omega
        case measure => simp [intOf]; omega
      · have hq2 : (ok == q) = false := beq_eq_false_iff_ne.2 hq
        have HQ := Lib.hid hq2
        clear hw
        go_wp2_with fail
        go_roundw
        case rel =>
          refine ⟨k + 1, _, by go_num, rfl, by omega, ?_, KA.out⟩
          rw [SK.out, HN.out]
          simp [HQ.out]
          try omega
        case measure => simp [intOf]; omega
    · have hk' : k = c.length := by omega
      subst hk'
      rw [List.take_length] at HN
      go_wp2_with fail
      go_ret
      exact ⟨by rw [HN.out]; rfl, KP.out⟩
end Go.Proofs.YtdhcnmljkmodhaaDoor
