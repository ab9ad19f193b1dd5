/- fairleadlaw10.light; chains that came in, opened. (Printed by gen_ops16.py.) -/
import Derived.Test.YtdhcnmljkmodhaaDoorOps15
namespace Go.Proofs.YtdhcnmljkmodhaaDoor
set_option linter.unusedSectionVars false
set_option linter.unusedVariables false
set_option linter.unusedSimpArgs false
set_option maxRecDepth 20000
open Go.RowKit Go.ChangeShapes Go.WideShapes

def lightL (ks h : List Int) (c : List (Int × Int)) : Bool := decide (ks.length ≤ 100) && (decide (h.length ≤ 40) && decide (c.length ≤ 20))
theorem lightL_iff (ks h : List Int) (c : List (Int × Int)) : lightL ks h c = true ↔ ks.length ≤ 100 ∧ h.length ≤ 40 ∧ c.length ≤ 20 := by simp [lightL]
theorem light_any (w : World) (vk vh vc : Value) (ks h : List Int) (c : List (Int × Int)) (Hk : ReadsI w vk ks) (Hh : ReadsI w vh h) (Hc : RdO w vc c) :
    Calls Tryd.prog 8 #[vk, vh, vc] w fun e w' => e = .returned (.bool (lightL ks h c)) ∧ w = w' := by
  obtain ⟨ak, capk, rfl, _, _⟩ := Hk.form
  obtain ⟨ah, caph, rfl, _, _⟩ := Hh.form
  obtain ⟨ac, capc, rfl, _, _⟩ := Hc.form
  clear Hk Hh Hc
  by_cases h1 : ks.length ≤ 100
  · have b1 : (ks.length : Int) ≤ 100 := by omega
    by_cases h2 : h.length ≤ 40
    · have b2 : (h.length : Int) ≤ 40 := by omega
      by_cases h3 : c.length ≤ 20
      · have b3 : (c.length : Int) ≤ 20 := by omega
        have HL : Hid (lightL ks h c = true) := Lib.hid ((lightL_iff ks h c).2 ⟨h1, h2, h3⟩)
        clear h1 h2 h3
        go_enter Tryd.func8, Tryd.ntmps8
        go_wp2_with fail
        go_ret
        exact ⟨by rw [HL.out]; rfl, rfl⟩
      · have b3 : ¬ (c.length : Int) ≤ 20 := by omega
        have HL : Hid (lightL ks h c = false) := Lib.hid (by simp [lightL, h3])
        clear h1 h2 h3
        go_enter Tryd.func8, Tryd.ntmps8
        go_wp2_with fail
        go_ret
        exact ⟨by rw [HL.out]; rfl, rfl⟩
    · have b2 : ¬ (h.length : Int) ≤ 40 := by omega
      have HL : Hid (lightL ks h c = false) := Lib.hid (by simp [lightL, h2])
      clear h1 h2
      go_enter Tryd.func8, Tryd.ntmps8
      go_wp2_with fail
      go_ret
      exact ⟨by rw [HL.out]; rfl, rfl⟩
  · have b1 : ¬ (ks.length : Int) ≤ 100 := by omega
    have HL : Hid (lightL ks h c = false) := Lib.hid (by simp [lightL, h1])
    clear h1
    go_enter Tryd.func8, Tryd.ntmps8
    go_wp2_with fail
    go_ret
    exact ⟨by rw [HL.out]; rfl, rfl⟩
theorem cellsOp : Tryd.prog.cellsOf 44 = 2 := by kernel_rfl
theorem cells1i (x : Value) (cs : List Value) : (x :: cs).take (Tryd.prog.cellsOf 3) = [x] := by rw [show Tryd.prog.cellsOf 3 = 1 by kernel_rfl]; rfl
theorem open_ops {H : Type} {enc : TypeId × Value → H} {W : World} {sp : Nat → Bool} {hd : Bool} {fuel : Nat} {v : Value} {x : DataW H × List MemPlace} {base : Nat}
    (hv : Value.okWide Tryd.prog W .any base 23 v) (h : DataW.trod enc Tryd.prog W 0 sp hd fuel 23 v.cells.toList = some x) : ∃ l : List (Int × Int), RdO W v l := by
  obtain ⟨a0, len, cap, rfl⟩ := okWide_slice Tryd.underlying23 hv
  obtain ⟨v, l, hv, HA, hR⟩ := open_list opC (fun _ => True) (fun n cs y hl h => by
    match cs, hl with
    | [x0, x1], _ =>
      obtain ⟨y0, y1, m, _, _, t0, t1⟩ := trod_struct2 Tryd.underlying44 h
      obtain ⟨b, e0, _, _⟩ := DataW.trod_int Tryd.underlying3 t0
      obtain ⟨c, e1, _, _⟩ := DataW.trod_int Tryd.underlying3 t1
      simp [cells1i] at e0 e1
      subst e0 e1
      exact ⟨(b, c), rfl, trivial⟩) (fun _ => rfl) Tryd.underlying23 cellsOp (by decide) h
  obtain rfl : Value.slice a0 len cap = v := by simpa [Value.cells] using hv
  exact ⟨l, HA⟩
end Go.Proofs.YtdhcnmljkmodhaaDoor
