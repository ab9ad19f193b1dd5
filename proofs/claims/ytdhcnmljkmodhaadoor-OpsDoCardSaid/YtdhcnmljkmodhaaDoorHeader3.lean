/- The walk of header.Valid. -/
import Derived.Test.YtdhcnmljkmodhaaDoorHeader2
namespace Go.Proofs.YtdhcnmljkmodhaaDoor
set_option linter.unusedSectionVars false
set_option linter.unusedVariables false
set_option linter.unusedSimpArgs false
open Go.RowKit

/-- May a header be? -/
def validL (ks : List Int) : List Int → Bool
  | [] => false
  | [x] => kindL ks x == 1
  | x :: y :: r => kindL ks x != 0 && mayL (kindL ks x) (kindL ks y) && validL ks (y :: r)

set_option maxRecDepth 100000 in
set_option maxHeartbeats 1000000 in
theorem valid_any (w : World) (vk vh : Value) (ks h : List Int) (Hk : ReadsI w vk ks) (Hh : ReadsI w vh h) : Calls Tryd.prog 20 #[vk, vh] w fun e w' => e = .returned (.bool (validL ks h)) ∧ Keeps w w' (fun _ => False) := by
  obtain ⟨ak, capk, rfl, _, hmk⟩ := Hk.form
  obtain ⟨ah, caph, rfl, hch, hmh⟩ := Hh.form
  have hl : h.length ≤ 9223372036854775807 := by unfold maxLen at hmh; omega
  have GK := Lib.hid Hk
  have GH := Lib.hid Hh
  clear Hk Hh hmk hmh hch
  go_enter Tryd.func20, Tryd.ntmps20
  go_wp2
  go_loopw [10] (fun t10 wr => ∃ i : Nat, t10 = .int .i64 i ∧ i ≤ h.length ∧ (h.length = 0 ∨ i < h.length) ∧ validL ks h = validL ks (h.drop i) ∧ Keeps w wr (fun _ => False)) (fun t10 _ => h.length - (intOf t10).toNat)
  case atStart => exact ⟨0, rfl, Nat.zero_le _, by omega, rfl, Keeps.refl _ _⟩
  case round =>
    obtain ⟨i, rfl, hi, hne, hv, hkp⟩ := hrel
    have GP := Lib.hid hkp
    have GV := Lib.hid hv
    clear hkp hv
    by_cases hlt : i < h.length
    · obtain ⟨g, off, rfl, hg, hc⟩ := (GH.out.keeps GP.out).cell i hlt
      have hcell := hc i hlt
      have HC := Lib.hid hc
      have hdrop : h.drop i = h[i] :: h.drop (i + 1) := List.drop_eq_getElem_cons hlt
      have HD := Lib.hid hdrop
      clear hc hdrop
      by_cases hlast : i + 1 = h.length
      · have hfin : validL ks h = (kindL ks h[i] == 1) := by rw [GV.out, HD.out, List.drop_eq_nil_of_le (by omega)]; rfl
        have Hfin := Lib.hid hfin
        have hlz : ((i : Int) == (h.length : Int) - 1) = true := beq_iff_eq.2 (by omega)
        clear hfin hlast
        generalize h[i] = x at *
        go_wp2_with fail
        refine (kind_any _ _ ks x (GK.out.keeps GP.out)).mono ?_
        rintro e w2 ⟨rfl, rfl⟩
        rcases kindL_range ks x with h0 | h0 | h0 | h0
        all_goals
          rw [h0] at Hfin ⊢
          go_wp2_with fail
          go_ret
          exact ⟨by rw [Hfin.out]; rfl, GP.out⟩
      · have hlt2 : i + 1 < h.length := by omega
        have hcell2 := HC.out (i + 1) hlt2
        have hdrop2 : h.drop (i + 1) = h[i + 1] :: h.drop (i + 1 + 1) := List.drop_eq_getElem_cons hlt2
        have hfin : validL ks h = (kindL ks h[i] != 0 && mayL (kindL ks h[i]) (kindL ks h[i + 1]) && validL ks (h.drop (i + 1))) := by rw [GV.out, HD.out, hdrop2]; rfl
        have Hfin := Lib.hid hfin
        have hlz : ((i : Int) == (h.length : Int) - 1) = false := beq_eq_false_iff_ne.2 (by omega)
        have b0 : (0 : Int) ≤ (i : Int) + 1 := by omega
        have b1 : (i : Int) + 1 < (h.length : Int) := by omega
        have b2 : ((i : Int) + 1).toNat = i + 1 := by omega
        have HB2 := Lib.hid b2
        clear hfin hlast hdrop2 b2 HC
        generalize h[i] = x at *
        generalize h[i + 1] = y at *
        go_wp2_with fail
        refine (kind_any _ _ ks x (GK.out.keeps GP.out)).mono ?_
        rintro e w2 ⟨rfl, rfl⟩
        by_cases hz : kindL ks x = 0
        · rw [hz] at Hfin ⊢
          go_wp2_with fail
          go_ret
          exact ⟨by rw [Hfin.out]; rfl, GP.out⟩
        · have hzb : (kindL ks x == 0) = false := beq_eq_false_iff_ne.2 hz
          have hzn : (kindL ks x != 0) = true := bne_iff_ne.2 hz
          rw [hzn, Bool.true_and] at Hfin
          have hhas := below_has (kindL ks x) (kindL ks y)
          have Hhas := Lib.hid hhas
          have HKY : Hid (∀ x : Cls wr, ReadsI x.w (.slice ak ks.length capk) ks) := fun x => (GK.out.keeps GP.out).keeps x.keep
          have x2 : ∀ x : Cls wr, x.w.cell? ⟨g, off + (i + 1), none⟩ = some (.int .i64 y) := Cls.cell hcell2
          clear hz hzn hhas hcell hcell2
          generalize hkx : kindL ks x = kx at *
          go_wp2_with fail
          refine wp_region_cls (by kernel_rfl) (by kernel_rfl) ?_
          have b2 := HB2.out
          repeat (go_big_quiet_step ((first | (go_at_call 35; exact cls_call (below_any _ _)) | (go_at_call 29; exact cls_call_same (kind_any _ _ ks y (HKY.out _))) | (go_at_call 36; exact cls_call (has_any _ _ _)))))
          refine wpQuiet_nil ?_
          rintro _ ⟨x5, rfl⟩
          rw [Hhas.out]
          have K5 := Lib.hid (GP.out.trans x5.keep)
          generalize x5.w = w5 at *
          clear x2 b2
          cases hmay : mayL kx (kindL ks y)
          · go_wp2_with fail
            go_ret
            exact ⟨by rw [Hfin.out, hmay]; rfl, K5.out⟩
          · rw [hmay, Bool.true_and] at Hfin
            go_wp2_with fail
            go_roundw
            case rel => exact ⟨i + 1, by go_num, by omega, .inr (by omega), Hfin.out, K5.out⟩
            case measure => simp [intOf]; omega
    · have h0 : h.length = 0 := by omega
      obtain rfl : h = [] := List.eq_nil_of_length_eq_zero h0
      obtain rfl : i = 0 := by simpa using hi
      go_wp2
      go_ret
      exact ⟨rfl, GP.out⟩
end Go.Proofs.YtdhcnmljkmodhaaDoor
