/- The plain law of Valid; the walk of the reference's Valid. -/
import Derived.Test.YtdhcnmljkmodhaaDoorHeader3
namespace Go.Proofs.YtdhcnmljkmodhaaDoor
set_option linter.unusedSectionVars false
set_option linter.unusedVariables false
set_option linter.unusedSimpArgs false
open Go.RowKit

theorem mayL_iff (a b : Int) : mayL a b = true ↔ (a = 3 ∧ (b = 3 ∨ b = 2)) ∨ (a = 2 ∧ b = 1) := by
  unfold mayL; simp
theorem valid_iff (ks : List Int) : ∀ h : List Int, validL ks h = true ↔ h ≠ [] ∧ (∀ i (hi : i < h.length), i + 1 = h.length → kindL ks h[i] = 1) ∧ (∀ i (hi : i < h.length), i + 2 = h.length → kindL ks h[i] = 2) ∧ (∀ i (hi : i < h.length), i + 2 < h.length → kindL ks h[i] = 3)
  | [] => by simp [validL]
  | [x] => by
    simp only [validL, beq_iff_eq]
    constructor
    · intro h
      refine ⟨by simp, fun i hi _ => ?_, fun i hi h2 => ?_, fun i hi h2 => ?_⟩
      · simp only [List.length_cons, List.length_nil] at hi
        obtain rfl : i = 0 := by omega
        exact h
      · simp only [List.length_cons, List.length_nil] at h2; omega
      · simp only [List.length_cons, List.length_nil] at h2; omega
    · rintro ⟨_, h, _, _⟩; exact h 0 (by simp) rfl
  | x :: y :: r => by
    have ih := valid_iff ks (y :: r)
    simp only [validL, Bool.and_eq_true, bne_iff_ne, ne_eq, mayL_iff]
    rw [ih]
    constructor
    · rintro ⟨⟨hx, hm⟩, _, hA, hB, hC⟩
      refine ⟨by simp, fun i hi h1 => ?_, fun i hi h2 => ?_, fun i hi h3 => ?_⟩
      · match i, hi, h1 with
        | 0, _, h1 => simp at h1
        | i + 1, hi, h1 =>
          have := hA i (by simpa using hi) (by simpa using h1)
          simpa using this
      · match i, hi, h2 with
        | 0, _, h2 =>
          have hr : r = [] := by cases r with | nil => rfl | cons _ _ => simp at h2
          subst hr
          have := hA 0 (by simp) rfl
          simp only [List.getElem_cons_zero] at this ⊢
          omega
        | i + 1, hi, h2 =>
          have := hB i (by simpa using hi) (by simp only [List.length_cons] at h2 ⊢; omega)
          simpa using this
      · match i, hi, h3 with
        | 0, _, h3 =>
          have hy : kindL ks y = 2 ∨ kindL ks y = 3 := by
            by_cases hl : r.length = 1
            · exact .inl (hB 0 (by simp) (by simp only [List.length_cons]; omega))
            · exact .inr (hC 0 (by simp) (by simp only [List.length_cons] at h3 ⊢; omega))
          simp only [List.getElem_cons_zero]
          omega
        | i + 1, hi, h3 =>
          have := hC i (by simpa using hi) (by simp only [List.length_cons] at h3 ⊢; omega)
          simpa using this
    · rintro ⟨_, hA, hB, hC⟩
      have sA : ∀ i (hi : i < (y :: r).length), i + 1 = (y :: r).length → kindL ks (y :: r)[i] = 1 := fun i hi h1 => by
        have := hA (i + 1) (by simpa using hi) (by simpa using h1)
        simpa using this
      have sB : ∀ i (hi : i < (y :: r).length), i + 2 = (y :: r).length → kindL ks (y :: r)[i] = 2 := fun i hi h1 => by
        have := hB (i + 1) (by simpa using hi) (by simp only [List.length_cons] at h1 ⊢; omega)
        simpa using this
      have sC : ∀ i (hi : i < (y :: r).length), i + 2 < (y :: r).length → kindL ks (y :: r)[i] = 3 := fun i hi h1 => by
        have := hC (i + 1) (by simpa using hi) (by simp only [List.length_cons] at h1 ⊢; omega)
        simpa using this
      have key : (kindL ks x = 2 ∧ kindL ks y = 1) ∨ (kindL ks x = 3 ∧ (kindL ks y = 3 ∨ kindL ks y = 2)) := by
        by_cases h0 : r.length = 0
        · exact .inl ⟨hB 0 (by simp) (by simp only [List.length_cons]; omega), sA 0 (by simp) (by simp only [List.length_cons]; omega)⟩
        · refine .inr ⟨hC 0 (by simp) (by simp only [List.length_cons]; omega), ?_⟩
          by_cases h1 : r.length = 1
          · exact .inr (sB 0 (by simp) (by simp only [List.length_cons]; omega))
          · exact .inl (sC 0 (by simp) (by simp only [List.length_cons]; omega))
      exact ⟨by omega, by simp, sA, sB, sC⟩
/-- Of a header that may be each end may be. -/
theorem valid_drop (ks : List Int) : ∀ (h : List Int) (k : Nat), k < h.length → validL ks h = true → validL ks (h.drop k) = true
  | _, 0, _, hv => by simpa using hv
  | [], k + 1, hk, _ => by simp at hk
  | [x], k + 1, hk, _ => by simp at hk
  | x :: y :: r, k + 1, hk, hv => by
    rw [List.drop_succ_cons]
    refine valid_drop ks (y :: r) k (by simpa using hk) ?_
    simp only [validL, Bool.and_eq_true] at hv
    exact hv.2

set_option maxHeartbeats 1000000 in
theorem refvalid_any (w : World) (vk vh : Value) (ks h : List Int) (Hk : ReadsI w vk ks) (Hh : ReadsI w vh h) : Calls Tryd.prog 34 #[vk, vh] w fun e w' => e = .returned (.bool (validL ks h)) ∧ Keeps w w' (fun _ => False) := by
  obtain ⟨ak, capk, rfl, _, hmk⟩ := Hk.form
  obtain ⟨ah, caph, rfl, hch, hmh⟩ := Hh.form
  have hl : h.length ≤ 9223372036854775807 := by unfold maxLen at hmh; omega
  have GK := Lib.hid Hk
  have GH := Lib.hid Hh
  have HV := Lib.hid (valid_iff ks h)
  clear Hk Hh hmk hmh hch
  by_cases hn : h.length = 0
  · obtain rfl : h = [] := List.eq_nil_of_length_eq_zero hn
    clear GH HV
    go_enter Tryd.func34, Tryd.ntmps34
    go_wp2
    go_ret
    exact ⟨rfl, Keeps.refl _ _⟩
  obtain ⟨g, off, rfl, hg, hc⟩ := GH.out.cell (h.length - 1) (by omega)
  have HC : Hid (∀ wr, Keeps w wr (fun _ => False) → ∀ j (hj : j < h.length), wr.cell? ⟨g, off + j, none⟩ = some (.int .i64 h[j])) := Lib.hid (fun wr hk j hj => by
    obtain ⟨g', off', he, _, hc'⟩ := (GH.out.keeps hk).cell j hj
    simp only [Option.some.injEq, Addr.mk.injEq, and_true] at he
    obtain ⟨rfl, rfl⟩ := he
    exact hc' j hj)
  have c1 := hc (h.length - 1) (by omega)
  have H1 : Hid (kindL ks (h[h.length - 1]'(by omega)) ≠ 1 → validL ks h = false) := Lib.hid (fun hne => by
    rw [Bool.eq_false_iff]; intro hv
    exact hne ((HV.out.1 hv).2.1 _ (by omega) (by omega)))
  have b0 : (0 : Int) ≤ (h.length : Int) - 1 := by omega
  have b1 : (h.length : Int) - 1 < (h.length : Int) := by omega
  have b2 : ((h.length : Int) - 1).toNat = h.length - 1 := by omega
  have bz : ((h.length : Int) == 0) = false := beq_eq_false_iff_ne.2 (by omega)
  have bz' : ¬ (h.length : Int) = 0 := by omega
  by_cases hk1 : kindL ks (h[h.length - 1]'(by omega)) = 1
  · clear H1 hc GH
    by_cases h2 : h.length = 1
    · have hval : validL ks h = true := HV.out.2 ⟨fun e => by rw [e] at h2; simp at h2, fun i hi he => by
        have : i = h.length - 1 := by omega
        subst this; exact hk1, fun i hi he => by omega, fun i hi he => by omega⟩
      rw [hval]
      have Hk1 := Lib.hid hk1
      clear HV hval hk1
      have hlt : ¬ ((1 : Int) < (h.length : Int)) := by omega
      have hge : ¬ ((0 : Int) < (h.length : Int) - 2) := by omega
      clear h2
      generalize h[h.length - 1] = x at *
      go_enter Tryd.func34, Tryd.ntmps34
      go_wp2_with fail
      refine (refkind_any _ _ ks x GK.out).mono ?_
      rintro e w2 ⟨rfl, rfl⟩
      rw [Hk1.out]
      go_wp2_with fail
      go_loopw [6] (fun t6 wr => t6 = .int .i64 (0 : Int) ∧ Keeps w wr (fun _ => False)) (fun t6 _ => 0)
      case atStart => exact ⟨rfl, Keeps.refl _ _⟩
      case round =>
        obtain ⟨rfl, hkp⟩ := hrel
        go_wp2
        go_ret
        exact ⟨rfl, hkp⟩
    · have d0 : (0 : Int) ≤ (h.length : Int) - 2 := by omega
      have d1 : (h.length : Int) - 2 < (h.length : Int) := by omega
      have d2 : ((h.length : Int) - 2).toNat = h.length - 2 := by omega
      have d3 : ((1 : Int) < (h.length : Int)) := by omega
      have c2 := HC.out w (Keeps.refl _ _) (h.length - 2) (by omega)
      have H2 : Hid (kindL ks (h[h.length - 2]'(by omega)) ≠ 2 → validL ks h = false) := Lib.hid (fun hne => by
        rw [Bool.eq_false_iff]; intro hv
        exact hne ((HV.out.1 hv).2.2.1 _ (by omega) (by omega)))
      by_cases hk2 : kindL ks (h[h.length - 2]'(by omega)) = 2
      · have H3 : Hid ((∀ i (hi : i < h.length), i + 2 < h.length → kindL ks h[i] = 3) → validL ks h = true) := Lib.hid (fun h3 => HV.out.2 ⟨fun e => by rw [e] at hn; simp at hn, fun i hi he => by
            have : i = h.length - 1 := by omega
            subst this; exact hk1, fun i hi he => by
            have : i = h.length - 2 := by omega
            subst this; exact hk2, h3⟩)
        have H3' : Hid (∀ i (hi : i < h.length), i + 2 < h.length → kindL ks h[i] ≠ 3 → validL ks h = false) := Lib.hid (fun i hi h2 hne => by
          rw [Bool.eq_false_iff]; intro hv
          exact hne ((HV.out.1 hv).2.2.2 i hi h2))
        have Hk1 := Lib.hid hk1
        have Hk2 := Lib.hid hk2
        clear HV hk1 hk2 H2
        generalize h[h.length - 1] = x at *
        generalize h[h.length - 2] = y at *
        go_enter Tryd.func34, Tryd.ntmps34
        go_wp2_with fail
        refine (refkind_any _ _ ks x GK.out).mono ?_
        rintro e w2 ⟨rfl, rfl⟩
        rw [Hk1.out]
        go_wp2_with fail
        refine (refkind_any _ _ ks y GK.out).mono ?_
        rintro e w2 ⟨rfl, rfl⟩
        rw [Hk2.out]
        go_wp2_with fail
        go_loopw [6] (fun t6 wr => ∃ i : Nat, t6 = .int .i64 i ∧ i + 2 ≤ h.length ∧ (∀ j (hj : j < h.length), j < i → kindL ks h[j] = 3) ∧ Keeps w wr (fun _ => False)) (fun t6 _ => h.length - (intOf t6).toNat)
        case atStart => exact ⟨0, rfl, by omega, fun _ _ h => absurd h (Nat.not_lt_zero _), Keeps.refl _ _⟩
        case round =>
          obtain ⟨i, rfl, hi, hall, hkp⟩ := hrel
          have GA := Lib.hid hall
          have GP := Lib.hid hkp
          clear hall hkp
          by_cases hlt : i + 2 < h.length
          · have e1 : ((i : Int) < (h.length : Int) - 2) := by omega
            have e2 : ((i : Int) < (h.length : Int)) := by omega
            have ci := HC.out wr GP.out i (by omega)
            have hnx := H3'.out i (by omega) hlt
            have Hnx := Lib.hid hnx
            have hst : kindL ks (h[i]'(by omega)) = 3 → ∀ j (hj : j < h.length), j < i + 1 → kindL ks h[j] = 3 := fun h3 j hj hji => by
              by_cases hji2 : j < i
              · exact GA.out j hj hji2
              · obtain rfl : j = i := by omega
                exact h3
            have Hst := Lib.hid hst
            clear hnx hst
            generalize h[i] = z at *
            go_wp2_with fail
            refine (refkind_any _ _ ks z (GK.out.keeps GP.out)).mono ?_
            rintro e w2 ⟨rfl, rfl⟩
            rcases kindL_range ks z with h0 | h0 | h0 | h0
            case inr.inr.inr =>
              have Hn := Lib.hid (Hst.out h0)
              rw [h0] at Hnx ⊢
              clear Hst h0
              go_wp2_with fail
              go_roundw
              case rel => exact ⟨i + 1, by go_num, by omega, Hn.out, GP.out⟩
              case measure => simp [intOf]; omega
            all_goals
              rw [h0] at Hnx ⊢
              have hv := Lib.hid (Hnx.out (by decide))
              clear Hst h0 Hnx
              go_wp2_with fail
              go_ret
              exact ⟨by rw [hv.out]; first | done | rfl, GP.out⟩
          · have e1 : ¬ ((i : Int) < (h.length : Int) - 2) := by omega
            have hv := Lib.hid (H3.out (fun j hj h2 => GA.out j hj (by omega)))
            go_wp2
            go_ret
            exact ⟨by rw [hv.out]; first | done | rfl, GP.out⟩
      · have hval := H2.out hk2
        rw [hval]
        have Hk1 := Lib.hid hk1
        have Hk2 := Lib.hid hk2
        clear HV hk1 hk2 H2 hval
        generalize h[h.length - 1] = x at *
        generalize h[h.length - 2] = y at *
        go_enter Tryd.func34, Tryd.ntmps34
        go_wp2_with fail
        refine (refkind_any _ _ ks x GK.out).mono ?_
        rintro e w2 ⟨rfl, rfl⟩
        rw [Hk1.out]
        go_wp2_with fail
        refine (refkind_any _ _ ks y GK.out).mono ?_
        rintro e w2 ⟨rfl, rfl⟩
        have h2 := Hk2.out
        rcases kindL_range ks y with h0 | h0 | h0 | h0
        case inr.inr.inl => exact absurd h0 h2
        all_goals
          rw [h0]
          clear h2 h0 Hk2
          go_wp2_with fail
          go_ret
          exact ⟨rfl, Keeps.refl _ _⟩
  · have hval := H1.out hk1
    rw [hval]
    have Hk1 := Lib.hid hk1
    clear HV hk1 H1 hval hc GH
    generalize h[h.length - 1] = x at *
    go_enter Tryd.func34, Tryd.ntmps34
    go_wp2_with fail
    refine (refkind_any _ _ ks x GK.out).mono ?_
    rintro e w2 ⟨rfl, rfl⟩
    have h2 := Hk1.out
    rcases kindL_range ks x with h0 | h0 | h0 | h0
    case inr.inl => exact absurd h0 h2
    all_goals
      rw [h0]
      clear h2 h0 Hk1
      go_wp2_with fail
      go_ret
      exact ⟨rfl, Keeps.refl _ _⟩
end Go.Proofs.YtdhcnmljkmodhaaDoor
