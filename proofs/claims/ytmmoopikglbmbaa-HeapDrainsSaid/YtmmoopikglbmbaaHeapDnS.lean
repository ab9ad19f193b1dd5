/- The walk of down. -/
import Derived.Test.YtmmoopikglbmbaaHeapSwS
import Derived.Test.YtmmoopikglbmbaaHeapLsS
import Derived.Deep.DeepCutAuto
import Derived.Lib.SmallJoins
namespace Go.Proofs.Ytmmoopikglbmbaa
set_option linter.unusedSectionVars false
set_option linter.unusedVariables false
set_option linter.unusedSimpArgs false
open Go.RowKit HM

section
variable {α : Type} [Inhabited α] {f : α → Value} {w : World} {b : Nat} {l : List (Itm α)} {nx : Int} {sl : Value}

set_option maxHeartbeats 1000000 in
theorem down_S (hf : ∀ x, (f x).oneCell' = true) (H : HeapAt f 27 50 w b l nx sl) (hl : l.length ≤ 1001) (hh : DownInv l 0) :
    Calls Try.prog 17 #[.pointer (some ⟨b, 0, none⟩)] w fun e w' => e = .returned (.tuple #[]) ∧
      ∃ l', HeapAt f 27 50 w' b l' nx sl ∧ l'.Perm l ∧ IsHeap l' ∧ Keeps w w' (fun j => sl.ownBlock = some j) := by
  have hx0 : ∀ (x y : Value) w, (Instr.index 56 (.agg #[x, y]) (.int .i64 0)).run Try.prog w = .ok x w := fun _ _ _ => by kernel_rfl
  have hx1 : ∀ (x y : Value) w, (Instr.index 56 (.agg #[x, y]) (.int .i64 1)).run Try.prog w = .ok y w := fun _ _ _ => by kernel_rfl
  have GH := Lib.hid H
  have GD := Lib.hid hh
  clear H hh
  go_enter Try.func17, Try.ntmps17
  go_wp2
  go_loopw [2] (fun t wr => ∃ (i : Nat) (L : List (Itm α)), t = .int .i64 i ∧ (i < L.length ∨ i = 0) ∧ L.length = l.length ∧ HeapAt f 27 50 wr b L nx sl ∧ L.Perm l ∧ DownInv L i ∧ Keeps w wr (fun j => sl.ownBlock = some j)) (fun t _ => l.length - (intOf t).toNat)
  case atStart => exact ⟨0, l, rfl, .inr rfl, rfl, GH.out, .refl _, GD.out, Keeps.refl _ _⟩
  case round =>
    obtain ⟨i, L, rfl, hiL, hLl, HL, hperm, hup, hkp⟩ := hrel
    have GL := Lib.hid HL
    have GP := Lib.hid hperm
    have GU := Lib.hid hup
    have GK := Lib.hid hkp
    have GLl := Lib.hid hLl
    have hLb : L.length ≤ 1001 := by omega
    have hib : i ≤ 1001 := by omega
    clear HL hperm hup hkp hLl
    obtain ⟨wo, rfl⟩ : ∃ wo : World, wo = wr := ⟨_, rfl⟩
    go_wp2
    go_loopw [14, 3, 5] (fun tj tm _ wr => ∃ (j m : Nat), tj = .int .i64 j ∧ tm = .int .i64 m ∧ j ≤ 2 ∧ PL L i j m ∧ HeapAt f 27 50 wr b L nx sl ∧ Keeps wo wr (fun _ => False)) (fun tj _ _ _ => 2 - (intOf tj).toNat)
    case atStart => exact ⟨0, i, rfl, rfl, by omega, PL.start L i, GL.out, Keeps.refl _ _⟩
    case round =>
      obtain ⟨j, m, rfl, rfl, hj, hpl, HL2, hk2⟩ := hrel
      have GL2 := Lib.hid HL2
      have GK2 := Lib.hid hk2
      have GPL := Lib.hid hpl
      have hmb : m ≤ 2 * i + 2 := by have := hpl.1; omega
      have hc0 := HL2.c0
      have hlen : ∀ W, (Builtin.len_ #[24] 3 #[sl]).run Try.prog W = .ok (.int .i64 L.length) W := fun W => run_len_forms Try.underlying24 (Joins.ownsRow_forms HL2.row) W
      clear HL2 hk2 hpl
      rcases (show j = 0 ∨ j = 1 ∨ j = 2 by omega) with hj0 | hj0 | hj0
      · subst hj0
        have e2 : (2 * (i : Int) + 1).toNat = 2 * i + 1 := by omega
        have E2 := Lib.hid e2
        clear e2
        by_cases hkl : 2 * i + 1 < L.length
        · have hml : m < L.length := by have := GPL.out.2.1; omega
          cases hb : ltb (at' L (2 * i + 1)) (at' L m)
          · have hp : Hid (PL L i 1 m) := PL.keep1 GPL.out (.inr hb)
            have Hb := Lib.hid hb
            clear hb
            go_wp2_with (go_at_call 15; refine (less_S hf GL2.out _ _ (by omega) (by omega) (by omega) (by omega)).mono ?_; rintro e w2 ⟨rfl, hk⟩; rw [E2.out, Int.toNat_natCast, Hb.out]; have Hk := Lib.hid hk; clear hk)
            go_roundw
            case rel => exact ⟨1, m, by go_num, rfl, by omega, hp.out, GL2.out.keeps Hk.out, GK2.out.trans Hk.out⟩
            case measure => simp [intOf]
          · have hp : Hid (PL L i 1 (2 * i + 1)) := PL.take1 GPL.out hkl hb
            have Hb := Lib.hid hb
            clear hb
            go_wp2_with (go_at_call 15; refine (less_S hf GL2.out _ _ (by omega) (by omega) (by omega) (by omega)).mono ?_; rintro e w2 ⟨rfl, hk⟩; rw [E2.out, Int.toNat_natCast, Hb.out]; have Hk := Lib.hid hk; clear hk)
            go_roundw
            case rel => exact ⟨1, 2 * i + 1, by go_num, by go_num, by omega, hp.out, GL2.out.keeps Hk.out, GK2.out.trans Hk.out⟩
            case measure => simp [intOf]
        · have hp : Hid (PL L i 1 m) := PL.keep1 GPL.out (.inl hkl)
          go_wp2
          go_roundw
          case rel => exact ⟨1, m, by go_num, rfl, by omega, hp.out, GL2.out, GK2.out⟩
          case measure => simp [intOf]
      · subst hj0
        have e2 : (2 * (i : Int) + 2).toNat = 2 * i + 2 := by omega
        have E2 := Lib.hid e2
        clear e2
        by_cases hkl : 2 * i + 2 < L.length
        · have hml : m < L.length := by have := GPL.out.2.1; omega
          cases hb : ltb (at' L (2 * i + 2)) (at' L m)
          · have hp : Hid (PL L i 2 m) := PL.keep2 GPL.out (.inr hb)
            have Hb := Lib.hid hb
            clear hb
            go_wp2_with (go_at_call 15; refine (less_S hf GL2.out _ _ (by omega) (by omega) (by omega) (by omega)).mono ?_; rintro e w2 ⟨rfl, hk⟩; rw [E2.out, Int.toNat_natCast, Hb.out]; have Hk := Lib.hid hk; clear hk)
            go_roundw
            case rel => exact ⟨2, m, by go_num, rfl, by omega, hp.out, GL2.out.keeps Hk.out, GK2.out.trans Hk.out⟩
            case measure => simp [intOf]
          · have hp : Hid (PL L i 2 (2 * i + 2)) := PL.take2 GPL.out hkl hb
            have Hb := Lib.hid hb
            clear hb
            go_wp2_with (go_at_call 15; refine (less_S hf GL2.out _ _ (by omega) (by omega) (by omega) (by omega)).mono ?_; rintro e w2 ⟨rfl, hk⟩; rw [E2.out, Int.toNat_natCast, Hb.out]; have Hk := Lib.hid hk; clear hk)
            go_roundw
            case rel => exact ⟨2, 2 * i + 2, by go_num, by go_num, by omega, hp.out, GL2.out.keeps Hk.out, GK2.out.trans Hk.out⟩
            case measure => simp [intOf]
        · have hp : Hid (PL L i 2 m) := PL.keep2 GPL.out (.inl hkl)
          go_wp2
          go_roundw
          case rel => exact ⟨2, m, by go_num, rfl, by omega, hp.out, GL2.out, GK2.out⟩
          case measure => simp [intOf]
      · subst hj0
        have hle : Hid (IsLeast L i m) := GPL.out.done
        by_cases hmi : m = i
        · subst hmi
          have HD : Hid (IsHeap L) := down_done L m GU.out hle.out
          go_wp2
          exact bodyPost_ret (results_none rfl _ _ _) rfl ⟨rfl, L, GL2.out, GP.out, HD.out, GK.out.trans' GK2.out (fun _ _ h => h.elim)⟩
        · have hmi' : ((m : Int) == (i : Int)) = false := beq_eq_false_iff_ne.2 (by omega)
          have hil : i < L.length := by have := hle.out.2.1; omega
          have hst := down_step L i m GU.out hle.out hmi hil
          obtain ⟨hs1, hs2, hs3⟩ := hst
          have HS := Lib.hid hs1
          clear hs1
          go_wp2_with (go_at_call 16; refine (swap_S hf GL2.out _ _ (by omega) (by omega) (by omega) (by omega)).mono ?_; rintro e w3 ⟨rfl, hL3, hk3⟩; rw [Int.toNat_natCast, Int.toNat_natCast] at hL3; have HL3 := Lib.hid hL3; have HK3 := Lib.hid hk3; clear hL3 hk3)
          go_roundw
          case rel => exact ⟨m, swapL L i m, rfl, .inl (by rw [swapL_length]; exact hs2), by rw [swapL_length]; exact GLl.out, HL3.out, (swapL_perm L i m hil hs2).trans GP.out, HS.out, (GK.out.trans' GK2.out (fun _ _ h => h.elim)).trans HK3.out⟩
          case measure => have := GLl.out; simp [intOf]; omega
end
end Go.Proofs.Ytmmoopikglbmbaa
