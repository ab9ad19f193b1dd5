/- oops.Same, fairleadref01.Same by their contracts. -/
import Derived.Test.YtjjokjdhllgohaaDoorOops9
namespace Go.Proofs.YtjjokjdhllgohaaDoor
set_option linter.unusedSectionVars false
set_option linter.unusedVariables false
set_option linter.unusedSimpArgs false
open Go.RowKit Go.Extern.Stop Go.Stop Go.Extern

/-- Do both tell the same? -/
def sameB (c1 a1 : Int) (ws1 : List ByteArray) (c2 a2 : Int) (ws2 : List ByteArray) : Bool := if c1 = 0 ∨ c2 = 0 then c1 == c2 else c1 == c2 && a1 == a2 && decide (ws1 = ws2)
theorem sameB_refl (c a : Int) (ws : List ByteArray) : sameB c a ws c a ws = true := by unfold sameB; split <;> simp
/-- What 'of' comes to: an error of this number, place and words; of no number none. -/
structure OfOk (w : World) (c a : Int) (ws : List ByteArray) (v ev : Value) : Prop where
  rd : RdV w v (ws.map Value.string)
  len : ws.length ≤ 20
  err : (c = 0 ∧ ev = .nilIface) ∨ (c ≠ 0 ∧ ∃ l g, ev = chainV l (.fault g c a) ∧ l.map (fun (x : Nat × ByteArray) => x.2) = ws ∧ ChainOk w l (.fault g c a))
theorem OfOk.keeps {w w' : World} {c a : Int} {ws : List ByteArray} {v ev : Value} (h : OfOk w c a ws v ev) (hk : Keeps w w' (fun _ => False)) : OfOk w' c a ws v ev :=
  ⟨h.rd.keeps hk, h.len, h.err.imp id (fun ⟨h0, l, g, e, m, o⟩ => ⟨h0, l, g, e, m, o.keeps hk⟩)⟩
def OfRet (w : World) (c a : Int) (ws : List ByteArray) (e : Ending) (w' : World) : Prop :=
  ∃ ev a' ws' v', e = .returned (.tuple #[ev, .agg #[.int .i64 c, .int .i64 a', v']]) ∧ OfOk w' c a' ws' v' ev ∧ (c ≠ 0 → a' = a ∧ ws' = ws) ∧ Keeps w w' (fun _ => False)
theorem of_ret (c a : Int) (ws : List ByteArray) (v : Value) (w : World) (hws : RdV w v (ws.map Value.string)) (hl : ws.length ≤ 20) :
    Calls Tryd.prog 9 #[.int .i64 c, .int .i64 a, v] w (OfRet w c a ws) := by
  by_cases hc : c = 0
  · subst hc
    exact (of_zero a ws v w hws hl).mono fun e w' ⟨he, hk⟩ => ⟨_, _, [], _, he, ⟨RdV.nil _, by simp, .inl ⟨rfl, rfl⟩⟩, fun h => absurd rfl h, hk⟩
  · exact (of_some c a (by simpa using hc) ws v w hws hl).mono fun e w' ⟨l, g, he, hm, ho, hk⟩ => ⟨_, _, ws, _, he, ⟨hws.keeps hk, hl, .inr ⟨hc, l, g, rfl, hm, ho⟩⟩, fun _ => ⟨rfl, rfl⟩, hk⟩

set_option maxRecDepth 20000 in
set_option maxHeartbeats 4000000 in
theorem same_of (c1 a1 : Int) (ws1 : List ByteArray) (v1 e1 : Value) (c2 a2 : Int) (ws2 : List ByteArray) (v2 e2 : Value) (w : World) (hg : ErrT w) (h1 : OfOk w c1 a1 ws1 v1 e1) (h2 : OfOk w c2 a2 ws2 v2 e2) :
    Calls Tryd.prog 14 #[e1, e2] w fun e w' => e = .returned (.bool (sameB c1 a1 ws1 c2 a2 ws2)) ∧ Keeps w w' (fun _ => False) := by
  have HG := Lib.hid hg
  clear hg
  rcases h1.err with ⟨hc1, rfl⟩ | ⟨hc1, l1, g1, rfl, hm1, ho1⟩
  · rcases h2.err with ⟨hc2, rfl⟩ | ⟨hc2, l2, g2, rfl, hm2, ho2⟩
    · have hs : sameB c1 a1 ws1 c2 a2 ws2 = true := by unfold sameB; rw [if_pos (.inl hc1), hc1, hc2]; rfl
      rw [hs]
      clear h1 h2 hs hc1 hc2
      go_enter Tryd.func14, Tryd.ntmps14
      go_wp2
      go_ret
      exact ⟨rfl, Keeps.refl _ _⟩
    · have hs : sameB c1 a1 ws1 c2 a2 ws2 = false := by unfold sameB; rw [if_pos (.inl hc1), hc1]; simpa using Ne.symm hc2
      rw [hs]
      clear h1 h2 hs hc1 hc2 hm2 ho2
      go_enter Tryd.func14, Tryd.ntmps14
      go_wp2
      go_ret
      exact ⟨rfl, Keeps.refl _ _⟩
  · rcases h2.err with ⟨hc2, rfl⟩ | ⟨hc2, l2, g2, rfl, hm2, ho2⟩
    · have hs : sameB c1 a1 ws1 c2 a2 ws2 = false := by unfold sameB; rw [if_pos (.inr hc2), hc2]; simpa using hc1
      rw [hs]
      clear h1 h2 hs hc1 hc2 hm1 ho1
      go_enter Tryd.func14, Tryd.ntmps14
      go_wp2
      go_ret
      exact ⟨rfl, Keeps.refl _ _⟩
    · have H1 := Lib.hid ho1
      have H2 := Lib.hid ho2
      have M1 := Lib.hid hm1
      have M2 := Lib.hid hm2
      have L1 : l1.length ≤ 1000 := by have := congrArg List.length hm1; simp at this; have := h1.len; omega
      have L2 : l2.length ≤ 1000 := by have := congrArg List.length hm2; simp at this; have := h2.len; omega
      have hs : sameB c1 a1 ws1 c2 a2 ws2 = (c1 == c2 && a1 == a2 && decide (ws1 = ws2)) := by unfold sameB; rw [if_neg (by simp [hc1, hc2])]
      rw [hs]
      clear h1 h2 hs hc1 hc2 hm1 hm2 ho1 ho2
      have D1 : EB.codeN (.fault g1 c1 a1) = c1 := rfl
      have D2 : EB.codeN (.fault g2 c2 a2) = c2 := rfl
      have A1 : EB.atN (.fault g1 c1 a1) = a1 := rfl
      have A2 : EB.atN (.fault g2 c2 a2) = a2 := rfl
      have HD1 := Lib.hid D1
      have HD2 := Lib.hid D2
      have HA1 := Lib.hid A1
      have HA2 := Lib.hid A2
      clear D1 D2 A1 A2
      go_enter Tryd.func14, Tryd.ntmps14
      go_wp2_with fail
      refine (code_any _ _ _ HG.out H1.out).mono ?_
      rintro e w1 ⟨rfl, hk⟩
      rw [HD1.out]
      have K1 := Lib.hid hk
      clear hk
      go_wp2_with fail
      refine (code_any _ _ _ (HG.out.keeps K1.out) (H2.out.keeps K1.out)).mono ?_
      rintro e w2 ⟨rfl, hk⟩
      rw [HD2.out]
      have K2 := Lib.hid (K1.out.trans hk)
      clear hk K1
      cases hq : (c1 == c2) with
      | false =>
        go_wp2_with fail
        go_ret
        exact ⟨by rw [hq]; rfl, K2.out⟩
      | true =>
        go_wp2_with fail
        refine (at_any _ _ _ (HG.out.keeps K2.out) (H1.out.keeps K2.out)).mono ?_
        rintro e w3 ⟨rfl, hk⟩
        rw [HA1.out]
        have K3 := Lib.hid (K2.out.trans hk)
        clear hk K2
        go_wp2_with fail
        refine (at_any _ _ _ (HG.out.keeps K3.out) (H2.out.keeps K3.out)).mono ?_
        rintro e w4 ⟨rfl, hk⟩
        rw [HA2.out]
        have K4 := Lib.hid (K3.out.trans hk)
        clear hk K3
        cases hq2 : (a1 == a2) with
        | false =>
          go_wp2_with fail
          go_ret
          exact ⟨by rw [hq, hq2]; rfl, K4.out⟩
        | true =>
          go_wp2_with fail
          refine (words_rd _ _ _ (HG.out.keeps K4.out) (H1.out.keeps K4.out) L1).mono ?_
          rintro e w5 ⟨x1, rfl, hk, hr⟩
          rw [M1.out] at hr
          have K5 := Lib.hid (K4.out.trans hk)
          have R1 := Lib.hid hr
          clear hk K4 hr
          go_wp2_with fail
          refine (words_rd _ _ _ (HG.out.keeps K5.out) (H2.out.keeps K5.out) L2).mono ?_
          rintro e w6 ⟨x2, rfl, hk, hr⟩
          rw [M2.out] at hr
          have K6 := Lib.hid (K5.out.trans hk)
          have R2 := Lib.hid hr
          have R1' := Lib.hid (R1.out.keeps hk)
          clear hk K5 hr R1
          go_wp2_with fail
          refine (equalS_any ws1 ws2 _ _ _ R1'.out R2.out).mono ?_
          rintro e w7 ⟨rfl, hk⟩
          have K7 := Lib.hid (K6.out.trans hk)
          clear hk K6
          obtain ⟨b, hb⟩ : ∃ b, decide (ws1 = ws2) = b := ⟨_, rfl⟩
          rw [hb]
          have HB := Lib.hid hb
          clear hb
          go_wp2_with fail
          go_ret
          exact ⟨by rw [hq, hq2, HB.out]; rfl, K7.out⟩

/-- The strings at an index. -/
theorem rdS_get {w : World} {a : Option Addr} {n cap : Nat} {ws : List ByteArray} (h : RdV w (.slice a n cap) (ws.map Value.string)) (k : Nat) (hk : k < ws.length) : ∃ g off, a = some ⟨g, off, none⟩ ∧ g < w.heap.size ∧ w.cell? ⟨g, off + k, none⟩ = some (.string ws[k]) := by
  obtain ⟨g, off, rfl, _, hg, hc⟩ := h.at (by rw [List.length_map]; omega)
  exact ⟨g, off, rfl, hg, hc k _ (by simp [hk])⟩
theorem refSame_short (c1 a1 : Int) (ws1 : List ByteArray) (v1 : Value) (c2 a2 : Int) (ws2 : List ByteArray) (v2 : Value) (w : World) (h1 : RdV w v1 (ws1.map Value.string)) (h2 : RdV w v2 (ws2.map Value.string)) (hx : c1 = 0 ∨ c2 = 0 ∨ c1 ≠ c2 ∨ a1 ≠ a2 ∨ ws1.length ≠ ws2.length) :
    Calls Tryd.prog 15 #[.agg #[.int .i64 c1, .int .i64 a1, v1], .agg #[.int .i64 c2, .int .i64 a2, v2]] w fun e w' => e = .returned (.bool (sameB c1 a1 ws1 c2 a2 ws2)) ∧ Keeps w w' (fun _ => False) := by
  obtain ⟨d1, p1, e1, _, _⟩ := h1.form
  obtain ⟨d2, p2, e2, _, _⟩ := h2.form
  have m1 := h1.len
  have m2 := h2.len
  unfold maxLen at m1 m2
  rw [List.length_map] at e1 e2 m1 m2
  subst e1
  subst e2
  clear h1 h2
  by_cases z : c1 = 0 ∨ c2 = 0
  · have hs : sameB c1 a1 ws1 c2 a2 ws2 = (c1 == c2) := by unfold sameB; rw [if_pos z]
    rw [hs]
    clear hs hx
    by_cases z1 : c1 = 0
    · subst z1
      clear z
      go_enter Tryd.func15, Tryd.ntmps15
      go_wp2
      go_ret
      exact ⟨by simp [eq_comm], ((Keeps.refl _ _).alloc _).alloc _⟩
    · obtain rfl : c2 = 0 := z.resolve_left z1
      have z2 : (c1 == 0) = false := by simpa using z1
      clear z
      go_enter Tryd.func15, Tryd.ntmps15
      go_wp2
      go_ret
      exact ⟨by rw [z2]; rfl, ((Keeps.refl _ _).alloc _).alloc _⟩
  · have z1 : (c1 == 0) = false := by simp only [beq_eq_false_iff_ne, ne_eq]; intro h; exact z (.inl h)
    have z2 : (c2 == 0) = false := by simp only [beq_eq_false_iff_ne, ne_eq]; intro h; exact z (.inr h)
    have hs : sameB c1 a1 ws1 c2 a2 ws2 = false := by
      unfold sameB
      rw [if_neg z]
      rcases hx with h | h | h | h | h
      · exact absurd (.inl h) z
      · exact absurd (.inr h) z
      · rw [beq_eq_false_iff_ne.2 h]; rfl
      · rw [beq_eq_false_iff_ne.2 h]; simp
      · rw [decide_eq_false (fun e => h (by rw [e]))]; simp
    rw [hs]
    clear hs z
    by_cases q1 : c1 = c2
    · subst q1
      by_cases q2 : a1 = a2
      · subst q2
        have q3 : ws1.length ≠ ws2.length := by
          rcases hx with h | h | h | h | h
          · subst h; simp at z1
          · subst h; simp at z1
          · exact absurd rfl h
          · exact absurd rfl h
          · exact h
        clear hx
        go_enter Tryd.func15, Tryd.ntmps15
        go_wp2
        go_ret
        exact ⟨rfl, ((Keeps.refl _ _).alloc _).alloc _⟩
      · have q3 : (a1 == a2) = false := by simpa using q2
        clear hx
        go_enter Tryd.func15, Tryd.ntmps15
        go_wp2
        go_ret
        exact ⟨rfl, ((Keeps.refl _ _).alloc _).alloc _⟩
    · have q3 : (c1 == c2) = false := by simpa using q1
      clear hx
      go_enter Tryd.func15, Tryd.ntmps15
      go_wp2
      go_ret
      exact ⟨rfl, ((Keeps.refl _ _).alloc _).alloc _⟩
set_option maxRecDepth 20000 in
set_option maxHeartbeats 4000000 in
theorem refSame_long (c a : Int) (ws1 ws2 : List ByteArray) (v1 v2 : Value) (w : World) (h1 : RdV w v1 (ws1.map Value.string)) (h2 : RdV w v2 (ws2.map Value.string)) (hc : (c == 0) = false) (hl : ws1.length = ws2.length) :
    Calls Tryd.prog 15 #[.agg #[.int .i64 c, .int .i64 a, v1], .agg #[.int .i64 c, .int .i64 a, v2]] w fun e w' => e = .returned (.bool (decide (ws1 = ws2))) ∧ Keeps w w' (fun _ => False) := by
  obtain ⟨d1, p1, e1, _, _⟩ := h1.form
  obtain ⟨d2, p2, e2, _, _⟩ := h2.form
  have m1 := h1.len
  unfold maxLen at m1
  rw [List.length_map] at e1 e2 m1
  rw [← hl] at e2
  subst e1
  subst e2
  have W1 : Hid (∀ ks : List Nat, True) := Lib.hid (fun _ => trivial)
  have K0 : Hid (Keeps w ((w.alloc (.cells #[.int .i64 c, .int .i64 a, .slice d1 ws1.length p1] 28)).alloc (.cells #[.int .i64 c, .int .i64 a, .slice d2 ws1.length p2] 28)) (fun _ => False)) := Lib.hid (((Keeps.refl _ _).alloc _).alloc _)
  have R1 := Lib.hid (h1.keeps K0.out)
  have R2 := Lib.hid (h2.keeps K0.out)
  have HL := Lib.hid hl
  clear h1 h2 hl
  have HD : Hid (∀ k (hk : k < ws1.length) (hk2 : k < ws2.length), ∃ g1 o1 g2 o2, d1 = some ⟨g1, o1, none⟩ ∧ d2 = some ⟨g2, o2, none⟩ ∧ ((w.alloc (.cells #[.int .i64 c, .int .i64 a, .slice d1 ws1.length p1] 28)).alloc (.cells #[.int .i64 c, .int .i64 a, .slice d2 ws1.length p2] 28)).cell? ⟨g1, o1 + k, none⟩ = some (.string ws1[k]) ∧ ((w.alloc (.cells #[.int .i64 c, .int .i64 a, .slice d1 ws1.length p1] 28)).alloc (.cells #[.int .i64 c, .int .i64 a, .slice d2 ws1.length p2] 28)).cell? ⟨g2, o2 + k, none⟩ = some (.string ws2[k])) := Lib.hid (fun k hk hk2 => by
    obtain ⟨g1, o1, e1, _, x1⟩ := rdS_get R1.out k hk
    obtain ⟨g2, o2, e2, _, x2⟩ := rdS_get R2.out k hk2
    exact ⟨g1, o1, g2, o2, e1, e2, x1, x2⟩)
  clear R1 R2
  have y0 : ((w.alloc (.cells #[.int .i64 c, .int .i64 a, .slice d1 ws1.length p1] 28)).alloc (.cells #[.int .i64 c, .int .i64 a, .slice d2 ws1.length p2] 28)).cell? ⟨w.heap.size, 2, none⟩ = some (.slice d1 ws1.length p1) := by rw [World.cell?_alloc_lt _ _ _ (by simp)]; simp
  have y1 : ((w.alloc (.cells #[.int .i64 c, .int .i64 a, .slice d1 ws1.length p1] 28)).alloc (.cells #[.int .i64 c, .int .i64 a, .slice d2 ws1.length p2] 28)).cell? ⟨w.heap.size + 1, 2, none⟩ = some (.slice d2 ws1.length p2) := by
    have e : (w.alloc (.cells #[.int .i64 c, .int .i64 a, .slice d1 ws1.length p1] 28)).heap.size = w.heap.size + 1 := by simp
    rw [← e]; simp
  have Y0 := Lib.hid y0
  have Y1 := Lib.hid y1
  clear y0 y1
  go_enter Tryd.func15, Tryd.ntmps15
  go_wp2
  generalize (w.alloc (.cells #[.int .i64 c, .int .i64 a, .slice d1 ws1.length p1] 28)).alloc (.cells #[.int .i64 c, .int .i64 a, .slice d2 ws1.length p2] 28) = W at *
  have y0 := Y0.out
  have y1 := Y1.out
  go_loopw [43] (fun i wr => ∃ k : Nat, k ≤ ws1.length ∧ i = .int .i64 k ∧ (∃ q, wr = W.drewN q) ∧ ∀ j (hj : j < ws1.length) (hj2 : j < ws2.length), j < k → ws1[j] = ws2[j]) (fun i _ => ws1.length - (intOf i).toNat)
  case atStart => exact ⟨0, Nat.zero_le _, rfl, ⟨0, rfl⟩, fun j _ _ h => by omega⟩
  case round =>
    obtain ⟨k, hk, rfl, ⟨q, rfl⟩, hall⟩ := hrel
    have HA := Lib.hid hall
    clear hall
    by_cases hlt : k < ws1.length
    · have hlt2 : k < ws2.length := by rw [← HL.out]; exact hlt
      obtain ⟨g1, o1, g2, o2, rfl, rfl, x1, x2⟩ := HD.out k hlt hlt2
      clear HD
      obtain ⟨s1, hs1⟩ : ∃ s, ws1[k] = s := ⟨_, rfl⟩
      obtain ⟨s2, hs2⟩ : ∃ s, ws2[k] = s := ⟨_, rfl⟩
      rw [hs1] at x1
      rw [hs2] at x2
      by_cases heq : s1 = s2
      · have HQ : Hid (ws1[k] = ws2[k]) := Lib.hid (by rw [hs1, hs2, heq])
        rw [← heq] at x2
        clear heq hs1 hs2
        go_wp2
        go_quiet (fail)
        go_wp2
        go_roundw
        case rel =>
          refine ⟨k + 1, by omega, by go_num, ⟨_, rfl⟩, fun j hj hj2 hjk => ?_⟩
          by_cases hjk' : j = k
          · subst hjk'; exact HQ.out
          · exact HA.out j hj hj2 (by omega)
        case measure => simp [intOf]; omega
      · have hd : decide (ws1 = ws2) = false := decide_eq_false (fun e => heq (by subst e; rw [← hs1, ← hs2]))
        have HH := Lib.hid hd
        have hq : (s1.toList == s2.toList) = false := by
          rw [beq_eq_false_iff_ne]
          intro h
          exact heq (toList_inj h)
        clear heq hd HA hs1 hs2
        go_wp2
        go_quiet (fail)
        go_wp2
        go_ret
        exact ⟨by rw [HH.out]; rfl, (K0.out.drewN _).drewN _⟩
    · have hd : decide (ws1 = ws2) = true := decide_eq_true (list_eq_iffS ws1 ws2 HL.out (fun j hj hj2 => HA.out j hj hj2 (by omega)))
      have HH := Lib.hid hd
      clear hd HA HD
      go_wp2
      go_ret
      exact ⟨by rw [HH.out]; rfl, K0.out.drewN _⟩
theorem refSame_any (c1 a1 : Int) (ws1 : List ByteArray) (v1 : Value) (c2 a2 : Int) (ws2 : List ByteArray) (v2 : Value) (w : World) (h1 : RdV w v1 (ws1.map Value.string)) (h2 : RdV w v2 (ws2.map Value.string)) :
    Calls Tryd.prog 15 #[.agg #[.int .i64 c1, .int .i64 a1, v1], .agg #[.int .i64 c2, .int .i64 a2, v2]] w fun e w' => e = .returned (.bool (sameB c1 a1 ws1 c2 a2 ws2)) ∧ Keeps w w' (fun _ => False) := by
  by_cases hx : c1 = 0 ∨ c2 = 0 ∨ c1 ≠ c2 ∨ a1 ≠ a2 ∨ ws1.length ≠ ws2.length
  · exact refSame_short c1 a1 ws1 v1 c2 a2 ws2 v2 w h1 h2 hx
  · have z1 : c1 ≠ 0 := fun h => hx (.inl h)
    obtain rfl : c1 = c2 := Classical.byContradiction fun h => hx (.inr (.inr (.inl h)))
    obtain rfl : a1 = a2 := Classical.byContradiction fun h => hx (.inr (.inr (.inr (.inl h))))
    have hl : ws1.length = ws2.length := Classical.byContradiction fun h => hx (.inr (.inr (.inr (.inr h))))
    have hs : sameB c1 a1 ws1 c1 a1 ws2 = decide (ws1 = ws2) := by unfold sameB; rw [if_neg (by simp [z1])]; simp
    rw [hs]
    exact refSame_long c1 a1 ws1 ws2 v1 v2 w h1 h2 (by simpa using z1) hl
end Go.Proofs.YtjjokjdhllgohaaDoor
