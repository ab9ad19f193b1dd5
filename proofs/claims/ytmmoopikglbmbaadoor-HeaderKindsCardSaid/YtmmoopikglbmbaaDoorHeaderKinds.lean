/- HeaderKinds returns true: the words of the kinds, and what may stand under which. -/
import Derived.Test.YtmmoopikglbmbaaDoorHeaderOpen
import Derived.Test.YtmmoopikglbmbaaDoorHeader9
import Derived.Test.YtmmoopikglbmbaaDoorCards
import Derived.Test.YtmmoopikglbmbaaDoorTie
import Derived.Deep.DeepHandedRow
import Derived.Lib.LaidTab
namespace Go.Proofs.YtmmoopikglbmbaaDoor.headerKinds
set_option linter.unusedSectionVars false
set_option linter.unusedVariables false
set_option linter.unusedSimpArgs false
open Go.ChangeShapes Go.WideShapes Go.ChangeAt Go.RowKit
theorem ofW_cases (s : ByteArray) : (∃ k : Nat, 1 ≤ k ∧ k ≤ 3 ∧ ofW s = k ∧ ((wordL k).toList == s.toList) = true) ∨ (ofW s = 0 ∧ (s.toList == (⟨#[]⟩ : ByteArray).toList) = true) ∨
    (ofW s = 0 ∧ (s.toList == (⟨#[]⟩ : ByteArray).toList) = false ∧ (s.toList == wIp.toList) = false ∧ (s.toList == wSm.toList) = false ∧ (s.toList == wMp.toList) = false) := by
  by_cases h1 : ((wordL 1).toList == s.toList) = true
  · exact .inl ⟨1, by omega, by omega, by unfold ofW; rw [if_pos h1]; rfl, h1⟩
  by_cases h2 : ((wordL 2).toList == s.toList) = true
  · exact .inl ⟨2, by omega, by omega, by unfold ofW; rw [if_neg h1, if_pos h2]; rfl, h2⟩
  by_cases h3 : ((wordL 3).toList == s.toList) = true
  · exact .inl ⟨3, by omega, by omega, by unfold ofW; rw [if_neg h1, if_neg h2, if_pos h3]; rfl, h3⟩
  have h0 : ofW s = 0 := by unfold ofW; rw [if_neg h1, if_neg h2, if_neg h3]
  have fl : ∀ t : ByteArray, ¬ (t.toList == s.toList) = true → (s.toList == t.toList) = false := fun t h => by
    rw [beq_iff_eq] at h
    exact beq_eq_false_iff_ne.2 (fun e => h e.symm)
  cases hn : (s.toList == (⟨#[]⟩ : ByteArray).toList)
  · exact .inr (.inr ⟨h0, rfl, fl _ h1, fl _ h2, fl _ h3⟩)
  · exact .inr (.inl ⟨h0, rfl⟩)
theorem hofk_any (k : Nat) (h1 : 1 ≤ k) (h3 : k ≤ 3) (w : World) : Calls Tryd.prog 37 #[.string (wordL k)] w fun e w' => e = .returned (.int .i64 (k : Int)) ∧ w = w' := by
  have h := hof_any (wordL k) w
  rw [ofW_word k h1 h3] at h
  exact h
theorem word_no (k : Int) (h : k < 1 ∨ 3 < k) (w : World) : Calls Tryd.prog 39 #[.int .i64 k] w fun e w' => e = .returned (.string ⟨#[]⟩) ∧ w = w' := by
  have h2 := word_any k w
  have e : wordL k = ⟨#[]⟩ := by unfold wordL; rw [if_neg (by omega), if_neg (by omega), if_neg (by omega)]; rfl
  rw [e] at h2
  exact h2
theorem k_cases (k : Int) : (∃ n : Nat, k = n ∧ 1 ≤ n ∧ n ≤ 3) ∨ k < 1 ∨ 3 < k := by
  by_cases h : 1 ≤ k ∧ k ≤ 3
  · exact .inl ⟨k.toNat, by omega, by omega, by omega⟩
  · omega
set_option maxHeartbeats 1000000 in
theorem walk (w : World) (k : Int) (s : ByteArray) (hT : TabOk w) : Calls Tryd.prog 9 #[.int .i64 k, .string s] w fun e w' => e = .returned (.bool true) ∧ Keeps w w' (fun _ => False) := by
  have GT := Lib.hid hT
  clear hT
  by_cases hh : (100 : Int) < (s.size : Int)
  · go_enter Tryd.func9, Tryd.ntmps9
    go_wp2_with fail
    refine (awake09 _ GT.out).mono ?_
    rintro e w1 ⟨rfl, k1⟩
    go_wp2
    go_ret
    exact ⟨rfl, k1⟩
  · go_enter Tryd.func9, Tryd.ntmps9
    go_wp2_with fail
    refine (awake09 _ GT.out).mono ?_
    rintro e w1 ⟨rfl, k1⟩
    have hb4 := heap_alloc_new w1 (.cells #[.string ⟨#[]⟩, .string ⟨#[105, 112]⟩, .string ⟨#[115, 109, 112, 108, 115]⟩, .string ⟨#[109, 112, 108, 115]⟩] 9)
    have GW : Hid (∀ j : Nat, j ≤ 3 → (w1.alloc (.cells #[.string ⟨#[]⟩, .string ⟨#[105, 112]⟩, .string ⟨#[115, 109, 112, 108, 115]⟩, .string ⟨#[109, 112, 108, 115]⟩] 9)).cell? ⟨w1.heap.size, j, none⟩ = some (.string (wordL j))) := Lib.hid (fun j hj => by
      rw [cell_at hb4]
      obtain rfl | rfl | rfl | rfl : j = 0 ∨ j = 1 ∨ j = 2 ∨ j = 3 := by omega
      all_goals rfl)
    have K2 : Hid (Keeps w (w1.alloc (.cells #[.string ⟨#[]⟩, .string ⟨#[105, 112]⟩, .string ⟨#[115, 109, 112, 108, 115]⟩, .string ⟨#[109, 112, 108, 115]⟩] 9)) (fun _ => False)) := Lib.hid (k1.alloc _)
    clear k1 hb4 GT
    rcases ofW_cases s with ⟨kw, o1, o3, how, heq⟩ | ⟨how, hemp⟩ | ⟨how, hne, n1, n2, n3⟩
    · have HOW := Lib.hid how
      have cw := GW.out kw (by omega)
      have hkw1 : ¬ ((kw : Int) < 0) := by omega
      have hkw2 : ¬ ((3 : Int) < (kw : Int)) := by omega
      have hkw3 : ((0 : Int) < (kw : Int)) := by omega
      have hkw4 : (kw : Int) < 4 := by omega
      have hkw5 : kw < 4 := by omega
      clear how
      rcases k_cases k with ⟨kn, rfl, c1, c3⟩ | hk1 | hk3
      · have e1 : (1 : Int) ≤ (kn : Int) := by omega
        have e3 : (kn : Int) ≤ 3 := by omega
        have en : kn < 4 := by omega
        have en2 : (kn : Int) < 4 := by omega
        go_wp2_with fail
        refine (hof_any s _).mono ?_
        rintro e w2 ⟨rfl, rfl⟩
        rw [HOW.out]
        generalize w1.alloc (.cells #[.string ⟨#[]⟩, .string ⟨#[105, 112]⟩, .string ⟨#[115, 109, 112, 108, 115]⟩, .string ⟨#[109, 112, 108, 115]⟩] 9) = W at *
        generalize w1.heap.size = N at *
        go_wp2_with fail
        have x2 : ∀ x : Cls W, x.w.cell? ⟨N, kn, none⟩ = some (.string (wordL kn)) := Cls.cell (GW.out kn (by omega))
        refine wp_region_cls (by kernel_rfl) (by kernel_rfl) ?_
        repeat (go_big_quiet_step ((first | (go_at_call 39; exact cls_call_same (word_any _ _)) | (go_at_call 37; exact cls_call_same (hofk_any kn c1 c3 _)))))
        refine wpQuiet_nil ?_
        rintro _ ⟨x5, rfl⟩
        have K5 := Lib.hid (K2.out.trans x5.keep)
        generalize x5.w = w5 at *
        clear x2
        go_wp2_with fail
        go_loopw [83] (fun t83 wr => ∃ b : Nat, t83 = .int .i64 b ∧ b ≤ 6 ∧ Keeps w wr (fun _ => False)) (fun t83 _ => 6 - (intOf t83).toNat)
        case atStart => exact ⟨0, rfl, by omega, K5.out⟩
        case round =>
          obtain ⟨b, rfl, hb, hkp⟩ := hrel
          have KR := Lib.hid hkp
          clear hkp
          by_cases hlt : b < 6
          · have hlt' : (b : Int) < 6 := by omega
            have hh := Lib.hid (below_has (kn : Int) b)
            go_wp2_with fail
            refine (may_any (kn : Int) b _).mono ?_
            rintro e w6 ⟨rfl, rfl⟩
            cases hm : mayL (kn : Int) b
            all_goals
              rw [hm] at hh
              clear hm
              go_wp2_with fail
              refine (below_any _ _).mono ?_
              rintro e w7 ⟨rfl, k7⟩
              have K7 := Lib.hid (KR.out.trans k7)
              clear k7
              go_wp2_with fail
              refine (has_any _ _ _).mono ?_
              rintro e w8 ⟨rfl, k8⟩
              have K8 := Lib.hid (K7.out.trans k8)
              clear k8 K7
              rw [hh.out]
              go_wp2_with fail
              refine (onto_any _ _).mono ?_
              rintro e w9 ⟨rfl, k9⟩
              have K9 := Lib.hid (K8.out.trans k9)
              clear k9 K8
              go_wp2_with fail
              refine (has_any _ _ _).mono ?_
              rintro e w10 ⟨rfl, k10⟩
              have K10 := Lib.hid (K9.out.trans k10)
              clear k10 K9
              rw [hh.out]
              go_wp2_with fail
              go_roundw
              case rel => exact ⟨b + 1, by go_num, by omega, K10.out⟩
              case measure => simp [intOf]; omega
          · obtain rfl : b = 6 := by omega
            go_wp2_with fail
            refine (below_any _ _).mono ?_
            rintro e w7 ⟨rfl, k7⟩
            have K7 := Lib.hid (KR.out.trans k7)
            clear k7
            have hbl := below_len (kn : Int)
            have hbl' : ((belowS (kn : Int)).mem.length : Int) < 3 := by omega
            go_wp2_with fail
            refine (len_any _ _).mono ?_
            rintro e w8 ⟨rfl, k8⟩
            have K8 := Lib.hid (K7.out.trans k8)
            clear k8 K7
            go_wp2
            go_ret
            exact ⟨rfl, K8.out⟩
      · have e1 : ¬ ((1 : Int) ≤ k) := by omega
        go_wp2_with fail
        refine (hof_any s _).mono ?_
        rintro e w2 ⟨rfl, rfl⟩
        rw [HOW.out]
        generalize w1.alloc (.cells #[.string ⟨#[]⟩, .string ⟨#[105, 112]⟩, .string ⟨#[115, 109, 112, 108, 115]⟩, .string ⟨#[109, 112, 108, 115]⟩] 9) = W at *
        generalize w1.heap.size = N at *
        go_wp2_with fail
        refine wp_region_cls (by kernel_rfl) (by kernel_rfl) ?_
        repeat (go_big_quiet_step ((go_at_call 39; exact cls_call_same (word_no _ (.inl hk1) _))))
        refine wpQuiet_nil ?_
        rintro _ ⟨x5, rfl⟩
        have K5 := Lib.hid (K2.out.trans x5.keep)
        generalize x5.w = w5 at *
        go_wp2_with fail
        go_loopw [83] (fun t83 wr => ∃ b : Nat, t83 = .int .i64 b ∧ b ≤ 6 ∧ Keeps w wr (fun _ => False)) (fun t83 _ => 6 - (intOf t83).toNat)
        case atStart => exact ⟨0, rfl, by omega, K5.out⟩
        case round =>
          obtain ⟨b, rfl, hb, hkp⟩ := hrel
          have KR := Lib.hid hkp
          clear hkp
          by_cases hlt : b < 6
          · have hlt' : (b : Int) < 6 := by omega
            have hh := Lib.hid (below_has k b)
            go_wp2_with fail
            refine (may_any k b _).mono ?_
            rintro e w6 ⟨rfl, rfl⟩
            cases hm : mayL k b
            all_goals
              rw [hm] at hh
              clear hm
              go_wp2_with fail
              refine (below_any _ _).mono ?_
              rintro e w7 ⟨rfl, k7⟩
              have K7 := Lib.hid (KR.out.trans k7)
              clear k7
              go_wp2_with fail
              refine (has_any _ _ _).mono ?_
              rintro e w8 ⟨rfl, k8⟩
              have K8 := Lib.hid (K7.out.trans k8)
              clear k8 K7
              rw [hh.out]
              go_wp2_with fail
              refine (onto_any _ _).mono ?_
              rintro e w9 ⟨rfl, k9⟩
              have K9 := Lib.hid (K8.out.trans k9)
              clear k9 K8
              go_wp2_with fail
              refine (has_any _ _ _).mono ?_
              rintro e w10 ⟨rfl, k10⟩
              have K10 := Lib.hid (K9.out.trans k10)
              clear k10 K9
              rw [hh.out]
              go_wp2_with fail
              go_roundw
              case rel => exact ⟨b + 1, by go_num, by omega, K10.out⟩
              case measure => simp [intOf]; omega
          · obtain rfl : b = 6 := by omega
            go_wp2_with fail
            refine (below_any _ _).mono ?_
            rintro e w7 ⟨rfl, k7⟩
            have K7 := Lib.hid (KR.out.trans k7)
            clear k7
            have hbl := below_len k
            have hbl' : ((belowS k).mem.length : Int) < 3 := by omega
            go_wp2_with fail
            refine (len_any _ _).mono ?_
            rintro e w8 ⟨rfl, k8⟩
            have K8 := Lib.hid (K7.out.trans k8)
            clear k8 K7
            go_wp2
            go_ret
            exact ⟨rfl, K8.out⟩
      · have e1 : (1 : Int) ≤ k := by omega
        have e3 : ¬ (k ≤ 3) := by omega
        have e4 : decide (k ≤ 3) = false := decide_eq_false e3
        go_wp2_with fail
        refine (hof_any s _).mono ?_
        rintro e w2 ⟨rfl, rfl⟩
        rw [HOW.out]
        generalize w1.alloc (.cells #[.string ⟨#[]⟩, .string ⟨#[105, 112]⟩, .string ⟨#[115, 109, 112, 108, 115]⟩, .string ⟨#[109, 112, 108, 115]⟩] 9) = W at *
        generalize w1.heap.size = N at *
        go_wp2_with fail
        refine wp_region_cls (by kernel_rfl) (by kernel_rfl) ?_
        repeat (go_big_quiet_step ((go_at_call 39; exact cls_call_same (word_no _ (.inr hk3) _))))
        refine wpQuiet_nil ?_
        rintro _ ⟨x5, rfl⟩
        have K5 := Lib.hid (K2.out.trans x5.keep)
        generalize x5.w = w5 at *
        go_wp2_with fail
        go_loopw [83] (fun t83 wr => ∃ b : Nat, t83 = .int .i64 b ∧ b ≤ 6 ∧ Keeps w wr (fun _ => False)) (fun t83 _ => 6 - (intOf t83).toNat)
        case atStart => exact ⟨0, rfl, by omega, K5.out⟩
        case round =>
          obtain ⟨b, rfl, hb, hkp⟩ := hrel
          have KR := Lib.hid hkp
          clear hkp
          by_cases hlt : b < 6
          · have hlt' : (b : Int) < 6 := by omega
            have hh := Lib.hid (below_has k b)
            go_wp2_with fail
            refine (may_any k b _).mono ?_
            rintro e w6 ⟨rfl, rfl⟩
            cases hm : mayL k b
            all_goals
              rw [hm] at hh
              clear hm
              go_wp2_with fail
              refine (below_any _ _).mono ?_
              rintro e w7 ⟨rfl, k7⟩
              have K7 := Lib.hid (KR.out.trans k7)
              clear k7
              go_wp2_with fail
              refine (has_any _ _ _).mono ?_
              rintro e w8 ⟨rfl, k8⟩
              have K8 := Lib.hid (K7.out.trans k8)
              clear k8 K7
              rw [hh.out]
              go_wp2_with fail
              refine (onto_any _ _).mono ?_
              rintro e w9 ⟨rfl, k9⟩
              have K9 := Lib.hid (K8.out.trans k9)
              clear k9 K8
              go_wp2_with fail
              refine (has_any _ _ _).mono ?_
              rintro e w10 ⟨rfl, k10⟩
              have K10 := Lib.hid (K9.out.trans k10)
              clear k10 K9
              rw [hh.out]
              go_wp2_with fail
              go_roundw
              case rel => exact ⟨b + 1, by go_num, by omega, K10.out⟩
              case measure => simp [intOf]; omega
          · obtain rfl : b = 6 := by omega
            go_wp2_with fail
            refine (below_any _ _).mono ?_
            rintro e w7 ⟨rfl, k7⟩
            have K7 := Lib.hid (KR.out.trans k7)
            clear k7
            have hbl := below_len k
            have hbl' : ((belowS k).mem.length : Int) < 3 := by omega
            go_wp2_with fail
            refine (len_any _ _).mono ?_
            rintro e w8 ⟨rfl, k8⟩
            have K8 := Lib.hid (K7.out.trans k8)
            clear k8 K7
            go_wp2
            go_ret
            exact ⟨rfl, K8.out⟩
    · have HOW := Lib.hid how
      have hemp2 : s.toList = [] := by
        have := beq_iff_eq.1 hemp
        rw [this]; decide +kernel
      clear how hemp
      rcases k_cases k with ⟨kn, rfl, c1, c3⟩ | hk1 | hk3
      · have e1 : (1 : Int) ≤ (kn : Int) := by omega
        have e3 : (kn : Int) ≤ 3 := by omega
        have en : kn < 4 := by omega
        have en2 : (kn : Int) < 4 := by omega
        go_wp2_with fail
        refine (hof_any s _).mono ?_
        rintro e w2 ⟨rfl, rfl⟩
        rw [HOW.out]
        generalize w1.alloc (.cells #[.string ⟨#[]⟩, .string ⟨#[105, 112]⟩, .string ⟨#[115, 109, 112, 108, 115]⟩, .string ⟨#[109, 112, 108, 115]⟩] 9) = W at *
        generalize w1.heap.size = N at *
        go_wp2_with fail
        have x2 : ∀ x : Cls W, x.w.cell? ⟨N, kn, none⟩ = some (.string (wordL kn)) := Cls.cell (GW.out kn (by omega))
        refine wp_region_cls (by kernel_rfl) (by kernel_rfl) ?_
        repeat (go_big_quiet_step ((first | (go_at_call 39; exact cls_call_same (word_any _ _)) | (go_at_call 37; exact cls_call_same (hofk_any kn c1 c3 _)))))
        refine wpQuiet_nil ?_
        rintro _ ⟨x5, rfl⟩
        have K5 := Lib.hid (K2.out.trans x5.keep)
        generalize x5.w = w5 at *
        clear x2
        go_wp2_with fail
        go_loopw [83] (fun t83 wr => ∃ b : Nat, t83 = .int .i64 b ∧ b ≤ 6 ∧ Keeps w wr (fun _ => False)) (fun t83 _ => 6 - (intOf t83).toNat)
        case atStart => exact ⟨0, rfl, by omega, K5.out⟩
        case round =>
          obtain ⟨b, rfl, hb, hkp⟩ := hrel
          have KR := Lib.hid hkp
          clear hkp
          by_cases hlt : b < 6
          · have hlt' : (b : Int) < 6 := by omega
            have hh := Lib.hid (below_has (kn : Int) b)
            go_wp2_with fail
            refine (may_any (kn : Int) b _).mono ?_
            rintro e w6 ⟨rfl, rfl⟩
            cases hm : mayL (kn : Int) b
            all_goals
              rw [hm] at hh
              clear hm
              go_wp2_with fail
              refine (below_any _ _).mono ?_
              rintro e w7 ⟨rfl, k7⟩
              have K7 := Lib.hid (KR.out.trans k7)
              clear k7
              go_wp2_with fail
              refine (has_any _ _ _).mono ?_
              rintro e w8 ⟨rfl, k8⟩
              have K8 := Lib.hid (K7.out.trans k8)
              clear k8 K7
              rw [hh.out]
              go_wp2_with fail
              refine (onto_any _ _).mono ?_
              rintro e w9 ⟨rfl, k9⟩
              have K9 := Lib.hid (K8.out.trans k9)
              clear k9 K8
              go_wp2_with fail
              refine (has_any _ _ _).mono ?_
              rintro e w10 ⟨rfl, k10⟩
              have K10 := Lib.hid (K9.out.trans k10)
              clear k10 K9
              rw [hh.out]
              go_wp2_with fail
              go_roundw
              case rel => exact ⟨b + 1, by go_num, by omega, K10.out⟩
              case measure => simp [intOf]; omega
          · obtain rfl : b = 6 := by omega
            go_wp2_with fail
            refine (below_any _ _).mono ?_
            rintro e w7 ⟨rfl, k7⟩
            have K7 := Lib.hid (KR.out.trans k7)
            clear k7
            have hbl := below_len (kn : Int)
            have hbl' : ((belowS (kn : Int)).mem.length : Int) < 3 := by omega
            go_wp2_with fail
            refine (len_any _ _).mono ?_
            rintro e w8 ⟨rfl, k8⟩
            have K8 := Lib.hid (K7.out.trans k8)
            clear k8 K7
            go_wp2
            go_ret
            exact ⟨rfl, K8.out⟩
      · have e1 : ¬ ((1 : Int) ≤ k) := by omega
        go_wp2_with fail
        refine (hof_any s _).mono ?_
        rintro e w2 ⟨rfl, rfl⟩
        rw [HOW.out]
        generalize w1.alloc (.cells #[.string ⟨#[]⟩, .string ⟨#[105, 112]⟩, .string ⟨#[115, 109, 112, 108, 115]⟩, .string ⟨#[109, 112, 108, 115]⟩] 9) = W at *
        generalize w1.heap.size = N at *
        go_wp2_with fail
        refine wp_region_cls (by kernel_rfl) (by kernel_rfl) ?_
        repeat (go_big_quiet_step ((go_at_call 39; exact cls_call_same (word_no _ (.inl hk1) _))))
        refine wpQuiet_nil ?_
        rintro _ ⟨x5, rfl⟩
        have K5 := Lib.hid (K2.out.trans x5.keep)
        generalize x5.w = w5 at *
        go_wp2_with fail
        go_loopw [83] (fun t83 wr => ∃ b : Nat, t83 = .int .i64 b ∧ b ≤ 6 ∧ Keeps w wr (fun _ => False)) (fun t83 _ => 6 - (intOf t83).toNat)
        case atStart => exact ⟨0, rfl, by omega, K5.out⟩
        case round =>
          obtain ⟨b, rfl, hb, hkp⟩ := hrel
          have KR := Lib.hid hkp
          clear hkp
          by_cases hlt : b < 6
          · have hlt' : (b : Int) < 6 := by omega
            have hh := Lib.hid (below_has k b)
            go_wp2_with fail
            refine (may_any k b _).mono ?_
            rintro e w6 ⟨rfl, rfl⟩
            cases hm : mayL k b
            all_goals
              rw [hm] at hh
              clear hm
              go_wp2_with fail
              refine (below_any _ _).mono ?_
              rintro e w7 ⟨rfl, k7⟩
              have K7 := Lib.hid (KR.out.trans k7)
              clear k7
              go_wp2_with fail
              refine (has_any _ _ _).mono ?_
              rintro e w8 ⟨rfl, k8⟩
              have K8 := Lib.hid (K7.out.trans k8)
              clear k8 K7
              rw [hh.out]
              go_wp2_with fail
              refine (onto_any _ _).mono ?_
              rintro e w9 ⟨rfl, k9⟩
              have K9 := Lib.hid (K8.out.trans k9)
              clear k9 K8
              go_wp2_with fail
              refine (has_any _ _ _).mono ?_
              rintro e w10 ⟨rfl, k10⟩
              have K10 := Lib.hid (K9.out.trans k10)
              clear k10 K9
              rw [hh.out]
              go_wp2_with fail
              go_roundw
              case rel => exact ⟨b + 1, by go_num, by omega, K10.out⟩
              case measure => simp [intOf]; omega
          · obtain rfl : b = 6 := by omega
            go_wp2_with fail
            refine (below_any _ _).mono ?_
            rintro e w7 ⟨rfl, k7⟩
            have K7 := Lib.hid (KR.out.trans k7)
            clear k7
            have hbl := below_len k
            have hbl' : ((belowS k).mem.length : Int) < 3 := by omega
            go_wp2_with fail
            refine (len_any _ _).mono ?_
            rintro e w8 ⟨rfl, k8⟩
            have K8 := Lib.hid (K7.out.trans k8)
            clear k8 K7
            go_wp2
            go_ret
            exact ⟨rfl, K8.out⟩
      · have e1 : (1 : Int) ≤ k := by omega
        have e3 : ¬ (k ≤ 3) := by omega
        have e4 : decide (k ≤ 3) = false := decide_eq_false e3
        go_wp2_with fail
        refine (hof_any s _).mono ?_
        rintro e w2 ⟨rfl, rfl⟩
        rw [HOW.out]
        generalize w1.alloc (.cells #[.string ⟨#[]⟩, .string ⟨#[105, 112]⟩, .string ⟨#[115, 109, 112, 108, 115]⟩, .string ⟨#[109, 112, 108, 115]⟩] 9) = W at *
        generalize w1.heap.size = N at *
        go_wp2_with fail
        refine wp_region_cls (by kernel_rfl) (by kernel_rfl) ?_
        repeat (go_big_quiet_step ((go_at_call 39; exact cls_call_same (word_no _ (.inr hk3) _))))
        refine wpQuiet_nil ?_
        rintro _ ⟨x5, rfl⟩
        have K5 := Lib.hid (K2.out.trans x5.keep)
        generalize x5.w = w5 at *
        go_wp2_with fail
        go_loopw [83] (fun t83 wr => ∃ b : Nat, t83 = .int .i64 b ∧ b ≤ 6 ∧ Keeps w wr (fun _ => False)) (fun t83 _ => 6 - (intOf t83).toNat)
        case atStart => exact ⟨0, rfl, by omega, K5.out⟩
        case round =>
          obtain ⟨b, rfl, hb, hkp⟩ := hrel
          have KR := Lib.hid hkp
          clear hkp
          by_cases hlt : b < 6
          · have hlt' : (b : Int) < 6 := by omega
            have hh := Lib.hid (below_has k b)
            go_wp2_with fail
            refine (may_any k b _).mono ?_
            rintro e w6 ⟨rfl, rfl⟩
            cases hm : mayL k b
            all_goals
              rw [hm] at hh
              clear hm
              go_wp2_with fail
              refine (below_any _ _).mono ?_
              rintro e w7 ⟨rfl, k7⟩
              have K7 := Lib.hid (KR.out.trans k7)
              clear k7
              go_wp2_with fail
              refine (has_any _ _ _).mono ?_
              rintro e w8 ⟨rfl, k8⟩
              have K8 := Lib.hid (K7.out.trans k8)
              clear k8 K7
              rw [hh.out]
              go_wp2_with fail
              refine (onto_any _ _).mono ?_
              rintro e w9 ⟨rfl, k9⟩
              have K9 := Lib.hid (K8.out.trans k9)
              clear k9 K8
              go_wp2_with fail
              refine (has_any _ _ _).mono ?_
              rintro e w10 ⟨rfl, k10⟩
              have K10 := Lib.hid (K9.out.trans k10)
              clear k10 K9
              rw [hh.out]
              go_wp2_with fail
              go_roundw
              case rel => exact ⟨b + 1, by go_num, by omega, K10.out⟩
              case measure => simp [intOf]; omega
          · obtain rfl : b = 6 := by omega
            go_wp2_with fail
            refine (below_any _ _).mono ?_
            rintro e w7 ⟨rfl, k7⟩
            have K7 := Lib.hid (KR.out.trans k7)
            clear k7
            have hbl := below_len k
            have hbl' : ((belowS k).mem.length : Int) < 3 := by omega
            go_wp2_with fail
            refine (len_any _ _).mono ?_
            rintro e w8 ⟨rfl, k8⟩
            have K8 := Lib.hid (K7.out.trans k8)
            clear k8 K7
            go_wp2
            go_ret
            exact ⟨rfl, K8.out⟩
    · have HOW := Lib.hid how
      have N1 := Lib.hid n1
      have N2 := Lib.hid n2
      have N3 := Lib.hid n3
      have N0 := Lib.hid hne
      have hne2 : ¬ s.toList = [] := by
        have := beq_eq_false_iff_ne.1 hne
        intro e
        apply this
        rw [e]; decide +kernel
      clear how n1 n2 n3 hne
      rcases k_cases k with ⟨kn, rfl, c1, c3⟩ | hk1 | hk3
      · have e1 : (1 : Int) ≤ (kn : Int) := by omega
        have e3 : (kn : Int) ≤ 3 := by omega
        have en : kn < 4 := by omega
        have en2 : (kn : Int) < 4 := by omega
        go_wp2_with fail
        refine (hof_any s _).mono ?_
        rintro e w2 ⟨rfl, rfl⟩
        rw [HOW.out]
        generalize w1.alloc (.cells #[.string ⟨#[]⟩, .string ⟨#[105, 112]⟩, .string ⟨#[115, 109, 112, 108, 115]⟩, .string ⟨#[109, 112, 108, 115]⟩] 9) = W at *
        generalize w1.heap.size = N at *
        go_wp2_with fail
        have g0 : W.cell? ⟨N, 0, none⟩ = some (.string wNo) := GW.out 0 (by omega)
        have g1 : W.cell? ⟨N, 1, none⟩ = some (.string wIp) := GW.out 1 (by omega)
        have g2 : W.cell? ⟨N, 2, none⟩ = some (.string wSm) := GW.out 2 (by omega)
        have g3 : W.cell? ⟨N, 3, none⟩ = some (.string wMp) := GW.out 3 (by omega)
        refine (contains_none s wNo wIp wSm wMp N W g0 g1 g2 g3 N0.out N1.out N2.out N3.out).mono ?_
        rintro e w3 ⟨rfl, rfl⟩
        clear g0 g1 g2 g3
        go_wp2_with fail
        have x2 : ∀ x : Cls W, x.w.cell? ⟨N, kn, none⟩ = some (.string (wordL kn)) := Cls.cell (GW.out kn (by omega))
        refine wp_region_cls (by kernel_rfl) (by kernel_rfl) ?_
        repeat (go_big_quiet_step ((first | (go_at_call 39; exact cls_call_same (word_any _ _)) | (go_at_call 37; exact cls_call_same (hofk_any kn c1 c3 _)))))
        refine wpQuiet_nil ?_
        rintro _ ⟨x5, rfl⟩
        have K5 := Lib.hid (K2.out.trans x5.keep)
        generalize x5.w = w5 at *
        clear x2
        go_wp2_with fail
        go_loopw [83] (fun t83 wr => ∃ b : Nat, t83 = .int .i64 b ∧ b ≤ 6 ∧ Keeps w wr (fun _ => False)) (fun t83 _ => 6 - (intOf t83).toNat)
        case atStart => exact ⟨0, rfl, by omega, K5.out⟩
        case round =>
          obtain ⟨b, rfl, hb, hkp⟩ := hrel
          have KR := Lib.hid hkp
          clear hkp
          by_cases hlt : b < 6
          · have hlt' : (b : Int) < 6 := by omega
            have hh := Lib.hid (below_has (kn : Int) b)
            go_wp2_with fail
            refine (may_any (kn : Int) b _).mono ?_
            rintro e w6 ⟨rfl, rfl⟩
            cases hm : mayL (kn : Int) b
            all_goals
              rw [hm] at hh
              clear hm
              go_wp2_with fail
              refine (below_any _ _).mono ?_
              rintro e w7 ⟨rfl, k7⟩
              have K7 := Lib.hid (KR.out.trans k7)
              clear k7
              go_wp2_with fail
              refine (has_any _ _ _).mono ?_
              rintro e w8 ⟨rfl, k8⟩
              have K8 := Lib.hid (K7.out.trans k8)
              clear k8 K7
              rw [hh.out]
              go_wp2_with fail
              refine (onto_any _ _).mono ?_
              rintro e w9 ⟨rfl, k9⟩
              have K9 := Lib.hid (K8.out.trans k9)
              clear k9 K8
              go_wp2_with fail
              refine (has_any _ _ _).mono ?_
              rintro e w10 ⟨rfl, k10⟩
              have K10 := Lib.hid (K9.out.trans k10)
              clear k10 K9
              rw [hh.out]
              go_wp2_with fail
              go_roundw
              case rel => exact ⟨b + 1, by go_num, by omega, K10.out⟩
              case measure => simp [intOf]; omega
          · obtain rfl : b = 6 := by omega
            go_wp2_with fail
            refine (below_any _ _).mono ?_
            rintro e w7 ⟨rfl, k7⟩
            have K7 := Lib.hid (KR.out.trans k7)
            clear k7
            have hbl := below_len (kn : Int)
            have hbl' : ((belowS (kn : Int)).mem.length : Int) < 3 := by omega
            go_wp2_with fail
            refine (len_any _ _).mono ?_
            rintro e w8 ⟨rfl, k8⟩
            have K8 := Lib.hid (K7.out.trans k8)
            clear k8 K7
            go_wp2
            go_ret
            exact ⟨rfl, K8.out⟩
      · have e1 : ¬ ((1 : Int) ≤ k) := by omega
        go_wp2_with fail
        refine (hof_any s _).mono ?_
        rintro e w2 ⟨rfl, rfl⟩
        rw [HOW.out]
        generalize w1.alloc (.cells #[.string ⟨#[]⟩, .string ⟨#[105, 112]⟩, .string ⟨#[115, 109, 112, 108, 115]⟩, .string ⟨#[109, 112, 108, 115]⟩] 9) = W at *
        generalize w1.heap.size = N at *
        go_wp2_with fail
        have g0 : W.cell? ⟨N, 0, none⟩ = some (.string wNo) := GW.out 0 (by omega)
        have g1 : W.cell? ⟨N, 1, none⟩ = some (.string wIp) := GW.out 1 (by omega)
        have g2 : W.cell? ⟨N, 2, none⟩ = some (.string wSm) := GW.out 2 (by omega)
        have g3 : W.cell? ⟨N, 3, none⟩ = some (.string wMp) := GW.out 3 (by omega)
        refine (contains_none s wNo wIp wSm wMp N W g0 g1 g2 g3 N0.out N1.out N2.out N3.out).mono ?_
        rintro e w3 ⟨rfl, rfl⟩
        clear g0 g1 g2 g3
        go_wp2_with fail
        refine wp_region_cls (by kernel_rfl) (by kernel_rfl) ?_
        repeat (go_big_quiet_step ((go_at_call 39; exact cls_call_same (word_no _ (.inl hk1) _))))
        refine wpQuiet_nil ?_
        rintro _ ⟨x5, rfl⟩
        have K5 := Lib.hid (K2.out.trans x5.keep)
        generalize x5.w = w5 at *
        go_wp2_with fail
        go_loopw [83] (fun t83 wr => ∃ b : Nat, t83 = .int .i64 b ∧ b ≤ 6 ∧ Keeps w wr (fun _ => False)) (fun t83 _ => 6 - (intOf t83).toNat)
        case atStart => exact ⟨0, rfl, by omega, K5.out⟩
        case round =>
          obtain ⟨b, rfl, hb, hkp⟩ := hrel
          have KR := Lib.hid hkp
          clear hkp
          by_cases hlt : b < 6
          · have hlt' : (b : Int) < 6 := by omega
            have hh := Lib.hid (below_has k b)
            go_wp2_with fail
            refine (may_any k b _).mono ?_
            rintro e w6 ⟨rfl, rfl⟩
            cases hm : mayL k b
            all_goals
              rw [hm] at hh
              clear hm
              go_wp2_with fail
              refine (below_any _ _).mono ?_
              rintro e w7 ⟨rfl, k7⟩
              have K7 := Lib.hid (KR.out.trans k7)
              clear k7
              go_wp2_with fail
              refine (has_any _ _ _).mono ?_
              rintro e w8 ⟨rfl, k8⟩
              have K8 := Lib.hid (K7.out.trans k8)
              clear k8 K7
              rw [hh.out]
              go_wp2_with fail
              refine (onto_any _ _).mono ?_
              rintro e w9 ⟨rfl, k9⟩
              have K9 := Lib.hid (K8.out.trans k9)
              clear k9 K8
              go_wp2_with fail
              refine (has_any _ _ _).mono ?_
              rintro e w10 ⟨rfl, k10⟩
              have K10 := Lib.hid (K9.out.trans k10)
              clear k10 K9
              rw [hh.out]
              go_wp2_with fail
              go_roundw
              case rel => exact ⟨b + 1, by go_num, by omega, K10.out⟩
              case measure => simp [intOf]; omega
          · obtain rfl : b = 6 := by omega
            go_wp2_with fail
            refine (below_any _ _).mono ?_
            rintro e w7 ⟨rfl, k7⟩
            have K7 := Lib.hid (KR.out.trans k7)
            clear k7
            have hbl := below_len k
            have hbl' : ((belowS k).mem.length : Int) < 3 := by omega
            go_wp2_with fail
            refine (len_any _ _).mono ?_
            rintro e w8 ⟨rfl, k8⟩
            have K8 := Lib.hid (K7.out.trans k8)
            clear k8 K7
            go_wp2
            go_ret
            exact ⟨rfl, K8.out⟩
      · have e1 : (1 : Int) ≤ k := by omega
        have e3 : ¬ (k ≤ 3) := by omega
        have e4 : decide (k ≤ 3) = false := decide_eq_false e3
        go_wp2_with fail
        refine (hof_any s _).mono ?_
        rintro e w2 ⟨rfl, rfl⟩
        rw [HOW.out]
        generalize w1.alloc (.cells #[.string ⟨#[]⟩, .string ⟨#[105, 112]⟩, .string ⟨#[115, 109, 112, 108, 115]⟩, .string ⟨#[109, 112, 108, 115]⟩] 9) = W at *
        generalize w1.heap.size = N at *
        go_wp2_with fail
        have g0 : W.cell? ⟨N, 0, none⟩ = some (.string wNo) := GW.out 0 (by omega)
        have g1 : W.cell? ⟨N, 1, none⟩ = some (.string wIp) := GW.out 1 (by omega)
        have g2 : W.cell? ⟨N, 2, none⟩ = some (.string wSm) := GW.out 2 (by omega)
        have g3 : W.cell? ⟨N, 3, none⟩ = some (.string wMp) := GW.out 3 (by omega)
        refine (contains_none s wNo wIp wSm wMp N W g0 g1 g2 g3 N0.out N1.out N2.out N3.out).mono ?_
        rintro e w3 ⟨rfl, rfl⟩
        clear g0 g1 g2 g3
        go_wp2_with fail
        refine wp_region_cls (by kernel_rfl) (by kernel_rfl) ?_
        repeat (go_big_quiet_step ((go_at_call 39; exact cls_call_same (word_no _ (.inr hk3) _))))
        refine wpQuiet_nil ?_
        rintro _ ⟨x5, rfl⟩
        have K5 := Lib.hid (K2.out.trans x5.keep)
        generalize x5.w = w5 at *
        go_wp2_with fail
        go_loopw [83] (fun t83 wr => ∃ b : Nat, t83 = .int .i64 b ∧ b ≤ 6 ∧ Keeps w wr (fun _ => False)) (fun t83 _ => 6 - (intOf t83).toNat)
        case atStart => exact ⟨0, rfl, by omega, K5.out⟩
        case round =>
          obtain ⟨b, rfl, hb, hkp⟩ := hrel
          have KR := Lib.hid hkp
          clear hkp
          by_cases hlt : b < 6
          · have hlt' : (b : Int) < 6 := by omega
            have hh := Lib.hid (below_has k b)
            go_wp2_with fail
            refine (may_any k b _).mono ?_
            rintro e w6 ⟨rfl, rfl⟩
            cases hm : mayL k b
            all_goals
              rw [hm] at hh
              clear hm
              go_wp2_with fail
              refine (below_any _ _).mono ?_
              rintro e w7 ⟨rfl, k7⟩
              have K7 := Lib.hid (KR.out.trans k7)
              clear k7
              go_wp2_with fail
              refine (has_any _ _ _).mono ?_
              rintro e w8 ⟨rfl, k8⟩
              have K8 := Lib.hid (K7.out.trans k8)
              clear k8 K7
              rw [hh.out]
              go_wp2_with fail
              refine (onto_any _ _).mono ?_
              rintro e w9 ⟨rfl, k9⟩
              have K9 := Lib.hid (K8.out.trans k9)
              clear k9 K8
              go_wp2_with fail
              refine (has_any _ _ _).mono ?_
              rintro e w10 ⟨rfl, k10⟩
              have K10 := Lib.hid (K9.out.trans k10)
              clear k10 K9
              rw [hh.out]
              go_wp2_with fail
              go_roundw
              case rel => exact ⟨b + 1, by go_num, by omega, K10.out⟩
              case measure => simp [intOf]; omega
          · obtain rfl : b = 6 := by omega
            go_wp2_with fail
            refine (below_any _ _).mono ?_
            rintro e w7 ⟨rfl, k7⟩
            have K7 := Lib.hid (KR.out.trans k7)
            clear k7
            have hbl := below_len k
            have hbl' : ((belowS k).mem.length : Int) < 3 := by omega
            go_wp2_with fail
            refine (len_any _ _).mono ?_
            rintro e w8 ⟨rfl, k8⟩
            have K8 := Lib.hid (K7.out.trans k8)
            clear k8 K7
            go_wp2
            go_ret
            exact ⟨rfl, K8.out⟩
theorem own : ownKnob Tryd.prog.godebug = none := by kernel_rfl
theorem gTab : Tryd.prog.globalNamed "math/bits.deBruijn64tab" = some 0 := by kernel_rfl
theorem gTabType : (Tryd.prog.globals[0]?).map (·.type) = some 62 := by kernel_rfl
theorem cellsTab : Tryd.prog.cellsOf 62 = 64 := by kernel_rfl
theorem cellsU8 : Tryd.prog.cellsOf 5 = 1 := by kernel_rfl
theorem table {W : World} (h : laidMetH Tryd.prog Rows.headerKindsRow.laid W) : TabOk W := by
  have ht : Lib.TabIs Tryd.prog W "math/bits.deBruijn64tab" .u8 (tzTab.map fun (n : Nat) => (n : Int)) :=
    Lib.tabIs_of_head (rest := []) gTab gTabType Tryd.underlying62 Tryd.underlying5 cellsU8 cellsTab h
  intro j hj
  have := ht.cell gTab j (by rw [List.length_map]; exact hj)
  rw [this]
  have hl : tzTab.length = 64 := rfl
  congr 2
  rw [List.getD_eq_getElem?_getD, List.getD_eq_getElem?_getD, List.getElem?_map, List.getElem?_eq_getElem (by omega)]
  rfl

theorem contract (H : Type) (enc : TypeId × Value → H) (W : World) (base : Nat) (args : Array Value) (ds gs : List (DataW H)) (before : List MemPlace)
    (hval : ∀ (j : Nat) t v, Tryd.f9.params[j]? = some t → args[j]? = some v → Value.okWide Tryd.prog W .any base t v)
    (hW : DataW.Whole enc Tryd.prog Tryd.f9.params.toList Rows.headerKindsSpec.vars false W args.toList ds gs before) (hL : laidMetH Tryd.prog Rows.headerKindsRow.laid W) :
    Calls Tryd.prog 9 args W fun e W' => ∃ v, e = .returned v ∧ Rows.headerKindsSpec.post enc Tryd.prog Tryd.f9 false true false false W args v W' := by
  have hW0 := hW
  obtain ⟨p, q, hA, hV, rfl, hfz, hnd⟩ := hW
  rw [Tryd.params9] at hA hval
  obtain ⟨v0, vs0, d0, ds0, p0, q0, hargs0, rfl, rfl, h0, r0⟩ := trodAll_cons hA
  obtain ⟨v1, vs1, d1, ds1, p1, q1, hargs1, rfl, rfl, h1, r1⟩ := trodAll_cons r0
  obtain ⟨rfl, rfl, rfl⟩ := trodAll_nil r1
  obtain rfl : args = #[v0, v1] := by cases args; simp_all
  obtain ⟨rfl, rfl⟩ := trodVars_none hV
  obtain ⟨fu0, hf0⟩ := h0
  obtain ⟨n0, rfl, lo0, up0⟩ := open_int (hval 0 3 v0 rfl rfl) hf0
  obtain ⟨fu1, hf1⟩ := h1
  obtain ⟨s1, rfl⟩ := okWide_string Tryd.underlying9 (hval 1 9 v1 rfl rfl)
  refine (walk W n0 s1 (table hL)).mono fun e W' ⟨he, hb⟩ => ⟨_, he, ?_⟩
  exact law_post (by kernel_rfl) (by kernel_rfl) (by kernel_rfl) rfl Tryd.underlying4 hW0 (hb.toBelow (Nat.le_refl _) (fun _ _ h => h.elim)) rfl

noncomputable def laidWorld (os : Os) : World :=
  { World.holding Tryd.prog os ⟨#[], #[], []⟩ with heap := (World.holding Tryd.prog os ⟨#[], #[], []⟩).heap.modify 0 fun
      | .cells _ t frozen => .cells (tzTab.map fun (n : Nat) => Value.int .u8 n).toArray t frozen
      | o => o }
theorem laid_met (os : Os) : laidMet Tryd.prog Rows.headerKindsRow.laid ((laidWorld os).forCall (fun _ _ => 0) ⟨#[], #[.int .i64 0, .string ⟨#[]⟩], []⟩).memory :=
  laidMet_of_run' 8 (by kernel_rfl) (by kernel_rfl)
theorem reads (os : Os) {H : Type} (enc : TypeId × Value → H) : ∃ places, DataW.whole enc Tryd.prog ((laidWorld os).forCall (fun _ _ => 0) ⟨#[], #[.int .i64 0, .string ⟨#[]⟩], []⟩).memory Tryd.f9.params.toList Rows.headerKindsSpec.vars false (#[.int .i64 0, .string ⟨#[]⟩] : Array Value).toList 8 = some ([.lit (.int .i64 0), .lit (.string [])], [], places) :=
  ⟨[], by kernel_rfl⟩

set_option maxRecDepth 100000 in
theorem lifted (os : Os) (started : os.Started) (H : Type) (enc : TypeId × Value → H) (F : Stop.Interp) :
    ReturnsInHanded {} Tryd.checked os 9 .any ((OpenSpec.ofChange Rows.headerKindsSpec).preRow enc Tryd.prog Tryd.f9 Rows.headerKindsRow.domain false Rows.headerKindsRow.laid) (((OpenSpec.ofChange Rows.headerKindsSpec).at F).post enc Tryd.prog Tryd.f9 false true false false) := by
  obtain ⟨places, hx⟩ := reads os enc
  refine returnsInHanded_of_row (C := Tryd.checked) (s := OpenSpec.ofChange Rows.headerKindsSpec) own started (by kernel_rfl) Tryd.func9
    (witness_row_at (enc := enc) (C := Tryd.checked) false (laidWorld os) #[.int .i64 0, .string ⟨#[]⟩] rfl (by kernel_rfl) (by kernel_rfl) (by kernel_rfl)
      (OpenSpec.preRow_of_cond 8 hx (by kernel_rfl) (fun k hk => by cases hk) (by kernel_rfl) (laid_met os))) ?_
  intro W base args ds gs before hval hW _ _ _ hL _ _
  exact contract H enc W base args ds gs before hval hW hL

theorem said : Rows.HeaderKindsSaid :=
  OpenClaim.holds_of_cond 9 Tryd.f9 rfl rfl rfl rfl rfl rfl rfl ⟨rfl, rfl, rfl, rfl, rfl⟩ rfl rfl rfl rfl rfl (by kernel_rfl) Tryd.func9 (by kernel_rfl)
    (of_decide_eq_true (by kernel_rfl)) (by unfold Func.isWrapper; first | (rw [if_pos (by decide +kernel)]; kernel_rfl) | (rw [if_neg (by decide +kernel)]; exact ⟨rfl, rfl⟩))
    (fun os started H enc _ F => by rw [OpenClaim.pre_eq_preRow]; exact lifted os started H enc F)

/-- No parameter wants a stand-in; the program's own looks are off: what the card asks. -/
theorem plain (f : FuncId) (fn : Func) (hf : Tryd.pinned.checked.prog.funcNamed "fairlead/fairleadlaw09.HeaderKinds" = some f) (hfn : Tryd.pinned.checked.prog.funcs[f]? = some fn) :
    false = Tryd.pinned.checked.prog.looks [] ∧ ∀ (j : Nat) t, fn.params[j]? = some t → Tryd.pinned.checked.prog.wantsStandIn t = false := by
  obtain rfl : f = 9 := Option.some.inj ((show Tryd.prog.funcNamed "fairlead/fairleadlaw09.HeaderKinds" = some 9 by kernel_rfl).symm.trans hf) |>.symm
  obtain rfl : fn = Tryd.f9 := (Option.some.inj (Tryd.func9.symm.trans hfn)).symm
  refine ⟨by kernel_rfl, fun j t ht => ?_⟩
  rw [Tryd.params9] at ht
  have hm : t ∈ (#[3, 9] : Array TypeId) := Array.mem_of_getElem? ht
  have hall : (#[3, 9] : Array TypeId).all (fun t => !Tryd.prog.wantsStandIn t) = true := by kernel_rfl
  have := Array.all_eq_true_iff_forall_mem.1 hall t hm
  show Tryd.prog.wantsStandIn t = false
  simpa using this

/-- THE CARD. -/
theorem card : Rows.HeaderKindsCardSaid :=
  Claim7.holds_tied_plain_at .later [] _ _ _ _ said (fun _ h => by cases h) (by kernel_rfl) (fun _ h => by cases h) headerKinds_row_tie rfl ⟨rfl, rfl⟩ (by kernel_rfl) rfl plain (by kernel_rfl)
end Go.Proofs.YtmmoopikglbmbaaDoor.headerKinds
