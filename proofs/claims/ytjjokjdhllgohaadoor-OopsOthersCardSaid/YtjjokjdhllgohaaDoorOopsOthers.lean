/- OopsOthers returns true: an error of somebody else, within any words (at most 20), has the number for that, no place, and those words. errors.errorType reads as laid (tied by the card). -/
import Derived.Test.YtjjokjdhllgohaaDoorOops10
namespace Go.Proofs.YtjjokjdhllgohaaDoor.oopsOthers
set_option linter.unusedSectionVars false
set_option linter.unusedVariables false
set_option linter.unusedSimpArgs false
open Go.RowKit Go.Extern.Stop Go.Stop Go.Extern

theorem errNew_any (s : ByteArray) (w : World) : Calls Tryd.prog 19 #[.string s] w fun e w' => e = .returned (chainV [] (.other w.heap.size)) ∧ Keeps w w' (fun _ => False) := by
  go_enter Tryd.func19, Tryd.ntmps19
  go_wp2
  go_ret
  exact ⟨rfl, (Keeps.refl _ _).alloc _⟩
set_option maxHeartbeats 4000000 in
theorem is_other (l : List (Nat × ByteArray)) (g : Nat) (w : World) (hok : ChainOk w l (.other g)) :
    Calls Tryd.prog 25 #[chainV l (.other g), .iface 71 (.pointer (some ⟨g, 0, none⟩)), .bool true] w fun e w' => e = .returned (.bool true) ∧ w = w' := by
  have HOK := Lib.hid hok
  clear hok
  go_enter Tryd.func25, Tryd.ntmps25
  go_wp2
  go_loopg [0] (l.length + 1) (fun k v wr => ∃ l', v = chainV l' (.other g) ∧ wr = w ∧ ChainOk w l' (.other g) ∧ l'.length < k)
  case atStart => exact ⟨l, rfl, rfl, HOK.out, by omega⟩
  case round =>
    obtain ⟨l', rfl, rfl, hc, hk⟩ := hrel
    cases l' with
    | cons x r =>
      obtain ⟨q, s⟩ := x
      obtain ⟨c0, c1, c2⟩ := hc
      have HC := Lib.hid c2
      have HK := Lib.hid hk
      clear c2 c0 hk HOK
      rw [show chainV ((q, s) :: r) (.other g) = .iface 49 (.pointer (some ⟨q, 0, none⟩)) from rfl]
      go_wp2_with (first | (go_at_call 22; refine (unwrapPlace_any _ _ _ (by assumption) (chainV_one _ _)).mono ?_; rintro e w' ⟨rfl, rfl⟩))
      go_roundg (gk - 1)
      case measure =>
        have := HK.out
        simp at this
        omega
      case rel => exact ⟨r, rfl, rfl, HC.out, by have := HK.out; simp at this; omega⟩
    | nil =>
      clear hc hk HOK
      rw [show chainV [] (.other g) = .iface 71 (.pointer (some ⟨g, 0, none⟩)) from rfl]
      go_wp2
      go_ret
      exact ⟨rfl, rfl⟩
set_option maxRecDepth 20000 in
theorem Is_other (l : List (Nat × ByteArray)) (g : Nat) (w : World) (hok : ChainOk w l (.other g)) :
    Calls Tryd.prog 16 #[chainV l (.other g), chainV [] (.other g)] w fun e w' => e = .returned (.bool true) ∧ w = w' := by
  have HOK := Lib.hid hok
  clear hok
  rw [show chainV [] (.other g) = .iface 71 (.pointer (some ⟨g, 0, none⟩)) from rfl]
  go_enter Tryd.func16, Tryd.ntmps16
  go_wp2_with fail
  refine (is_other l g _ HOK.out).mono ?_
  rintro e w' ⟨rfl, rfl⟩
  go_wp2_with fail
  go_ret
  exact ⟨rfl, rfl⟩
/-- Between two rounds. -/
structure OInv (w1 : World) (g : Nat) (ws : List ByteArray) (k : Nat) (v6 v7 : Value) (wr : World) : Prop where
  go : ∃ j l, j ≤ ws.length ∧ v7 = ixV j ∧ l.map (fun (x : Nat × ByteArray) => x.2) = ws.drop j ∧ v6 = chainV l (.other g) ∧ ChainOk wr l (.other g) ∧ j < k
  keep : Keeps w1 wr (fun _ => False)

set_option maxRecDepth 20000 in
set_option maxHeartbeats 8000000 in
theorem walk_mid (t : ByteArray) (ws : List ByteArray) (v : Value) (w : World) (hws : RdV w v (ws.map Value.string)) (hl : ws.length ≤ 20) (hg : ErrT w) :
    Calls Tryd.prog 6 #[.string t, v] w fun e w' => e = .returned (.bool true) ∧ Keeps w w' (fun _ => False) := by
  obtain ⟨ad, cap, e1, _, _⟩ := hws.form
  rw [List.length_map] at e1
  subst e1
  have HW := Lib.hid hws
  have HG := Lib.hid hg
  clear hws hg
  go_enter Tryd.func6, Tryd.ntmps6
  go_wp2_with fail
  refine (awake01 _ HG.out).mono ?_
  rintro e w1 ⟨rfl, hk⟩
  have K1 := Lib.hid hk
  clear hk
  go_wp2_with fail
  refine (errNew_any t _).mono ?_
  rintro e w2 ⟨rfl, hk⟩
  have K2 := Lib.hid (K1.out.trans hk)
  clear hk K1
  generalize w1.heap.size = g at *
  go_wp2_with fail
  go_loopg [6, 7] (ws.length + 1) (fun k v6 v7 wr => OInv w2 g ws k v6 v7 wr)
  case atStart =>
    exact ⟨⟨ws.length, [], Nat.le_refl _, ixV_eq _, by simp, rfl, trivial, by omega⟩, Keeps.refl _ _⟩
  case round =>
    obtain ⟨⟨j, l, hj, rfl, hmap, rfl, hch, hk⟩, hkw⟩ := hrel
    have HM := Lib.hid hmap
    have HC := Lib.hid hch
    have HK := Lib.hid (K2.out.trans hkw)
    have HKw := Lib.hid hkw
    have HKK := Lib.hid hk
    clear hmap hch hkw hk
    cases j with
    | zero =>
      rw [show ixV 0 = .int .i64 (-1) from rfl]
      go_wp2_with fail
      refine (code_any _ _ _ (HG.out.keeps HK.out) HC.out).mono ?_
      rintro e w3 ⟨rfl, hk⟩
      rw [show EB.codeN (.other g) = 20 from rfl]
      have K3 := Lib.hid hk
      clear hk
      go_wp2_with fail
      refine (at_any _ _ _ (HG.out.keeps (HK.out.trans K3.out)) (HC.out.keeps K3.out)).mono ?_
      rintro e w4 ⟨rfl, hk⟩
      rw [show EB.atN (.other g) = -1 from rfl]
      have K4 := Lib.hid (K3.out.trans hk)
      clear hk K3
      go_wp2_with fail
      have hll : l.length ≤ 1000 := by have := congrArg List.length HM.out; simp at this; omega
      refine (words_rd _ _ _ (HG.out.keeps (HK.out.trans K4.out)) (HC.out.keeps K4.out) hll).mono ?_
      rintro e w5 ⟨x, rfl, hk, hr⟩
      rw [HM.out, List.drop_zero] at hr
      have K5 := Lib.hid (K4.out.trans hk)
      have R5 := Lib.hid hr
      clear hk K4 hr hll
      go_wp2_with fail
      refine (equalS_any ws ws _ _ _ R5.out (HW.out.keeps (HK.out.trans K5.out))).mono ?_
      rintro e w6 ⟨rfl, hk⟩
      rw [decide_eq_true rfl]
      have K6 := Lib.hid (K5.out.trans hk)
      clear hk K5 R5
      go_wp2_with fail
      refine (Is_other _ _ _ (HC.out.keeps K6.out)).mono ?_
      rintro e w7 ⟨rfl, rfl⟩
      go_wp2_with fail
      go_ret
      exact ⟨rfl, HK.out.trans K6.out⟩
    | succ j =>
      rw [show ixV (j + 1) = .int .i64 (j : Int) from rfl]
      obtain ⟨gw, off, rfl, -, hgw, hcell⟩ := HW.out.at (by simp; omega)
      have hjl : j < ws.length := by omega
      obtain ⟨s, hs⟩ : ∃ s, ws[j] = s := ⟨_, rfl⟩
      have x0 : wr.cell? ⟨gw, off + j, none⟩ = some (.string s) := by
        have h := hcell j (.string s) (by simp [hjl, hs])
        rw [← h]
        exact World.cell?_of_block (HK.out.block gw hgw id)
      have HS := Lib.hid hs
      clear hcell hgw hs
      go_wp2_with fail
      refine (in_some _ _ _ _).mono ?_
      rintro e w3 ⟨rfl, hw3⟩
      have K3 : Hid (Keeps wr w3 (fun _ => False)) := Lib.hid (by rw [hw3]; exact (Keeps.refl _ _).alloc _)
      have C3 : Hid (ChainOk w3 ((wr.heap.size, s) :: l) (.other g)) := Lib.hid (by rw [hw3]; exact HC.out.cons _ _)
      clear hw3 x0
      go_wp2_with fail
      go_roundg (gk - 1)
      case measure => have := HKK.out; omega
      case rel =>
        refine ⟨⟨j, (wr.heap.size, s) :: l, by omega, ixV_eq _, ?_, rfl, C3.out, by have := HKK.out; omega⟩, HKw.out.trans K3.out⟩
        rw [List.map_cons, HM.out, ← HS.out]
        exact (List.drop_eq_getElem_cons (by omega)).symm
theorem walk (t : ByteArray) (ws : List ByteArray) (v : Value) (w : World) (hws : RdV w v (ws.map Value.string)) (hg : ErrT w) :
    Calls Tryd.prog 6 #[.string t, v] w fun e w' => e = .returned (.bool true) ∧ Keeps w w' (fun _ => False) := by
  by_cases hl : ws.length ≤ 20
  · exact walk_mid t ws v w hws hl hg
  · obtain ⟨ad, cap, e1, _, _⟩ := hws.form
    have hm := hws.len
    unfold maxLen at hm
    rw [List.length_map] at e1 hm
    subst e1
    have HG := Lib.hid hg
    have hl' : 20 < ws.length := by omega
    clear hws hg hl
    go_enter Tryd.func6, Tryd.ntmps6
    go_wp2_with fail
    refine (awake01 _ HG.out).mono ?_
    rintro e w1 ⟨rfl, hk⟩
    have K1 := Lib.hid hk
    clear hk
    go_wp2_with fail
    go_ret
    exact ⟨rfl, K1.out⟩
end Go.Proofs.YtjjokjdhllgohaaDoor.oopsOthers
