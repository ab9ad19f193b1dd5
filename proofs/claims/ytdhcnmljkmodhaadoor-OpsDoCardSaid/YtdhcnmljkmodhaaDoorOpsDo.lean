/- OpsDo: the walk: it answers true at every input. -/
import Derived.Test.YtdhcnmljkmodhaaDoorOps16
namespace Go.Proofs.YtdhcnmljkmodhaaDoor.opsDo
set_option linter.unusedSectionVars false
set_option linter.unusedVariables false
set_option linter.unusedSimpArgs false
set_option maxRecDepth 20000
open Go.RowKit
set_option maxHeartbeats 4000000 in
theorem walk (w : World) (vk vh vc : Value) (ks h : List Int) (c : List (Int × Int)) (Hk : ReadsI w vk ks) (Hh : ReadsI w vh h) (Hc : RdO w vc c) (hT : TabOk w) (hE : ErrT w) :
    Calls Tryd.prog 4 #[vk, vh, vc] w fun e w' => e = .returned (.bool true) ∧ Keeps w w' (fun _ => False) := by
  have GT := Lib.hid hT
  have GE := Lib.hid hE
  have GK := Lib.hid Hk
  have GH := Lib.hid Hh
  have GC := Lib.hid Hc
  clear Hk Hh Hc hT hE
  go_enter Tryd.func4, Tryd.ntmps4
  go_wp2_with fail
  refine (awake10 _ GT.out GE.out).mono ?_
  rintro e w1 ⟨rfl, k1⟩
  have K1 := Lib.hid k1
  clear k1
  go_wp2_with fail
  refine (light_any _ _ _ _ ks h c (GK.out.keeps K1.out) (GH.out.keeps K1.out) (GC.out.keeps K1.out)).mono ?_
  rintro e w2 ⟨rfl, rfl⟩
  cases hb : lightL ks h c with
  | false =>
    go_wp2_with fail
    go_ret
    exact ⟨rfl, K1.out⟩
  | true =>
    have HB := Lib.hid ((lightL_iff ks h c).1 hb)
    clear hb
    go_wp2_with fail
    refine (clone_any _ _ h (by have := HB.out; omega) (GH.out.keeps K1.out)).mono ?_
    rintro e w2 ⟨v7, rfl, hk, hr⟩
    have K2 := Lib.hid (K1.out.trans hk)
    have R7 := Lib.hid hr
    clear hk hr
    go_wp2_with fail
    refine (do_any _ _ _ _ ks h c (by have := HB.out; omega) (GK.out.keeps K2.out) (GH.out.keeps K2.out) (GC.out.keeps K2.out)).mono ?_
    rintro e w3 ⟨v8, rfl, hk, hr⟩
    have K3 := Lib.hid (K2.out.trans hk)
    have R8 := Lib.hid hr
    have R73 := Lib.hid (R7.out.keeps hk)
    clear hk hr R7
    go_wp2_with fail
    refine (to_any _ _ c (by have := HB.out; omega) (GC.out.keeps K3.out)).mono ?_
    rintro e w4 ⟨v33, rfl, hk, hr⟩
    have K4 := Lib.hid (K3.out.trans hk)
    have R33 := Lib.hid hr
    have R74 := Lib.hid (R73.out.keeps hk)
    have R84 := Lib.hid (R8.out.keeps hk)
    clear hk hr R73 R8
    go_wp2_with fail
    refine (refdo_any _ _ _ _ ks h c (by have := HB.out; omega) (GK.out.keeps K4.out) R74.out R33.out).mono ?_
    rintro e w5 ⟨v10, rfl, hk, hr⟩
    have K5 := Lib.hid (K4.out.trans hk)
    rw [refDo_eq] at hr ⊢
    have R10 := Lib.hid hr
    have R75 := Lib.hid (R74.out.keeps hk)
    have R85 := Lib.hid (R84.out.keeps hk)
    clear hk hr R33 R74 R84
    go_wp2_with fail
    refine (to_any _ _ c (by have := HB.out; omega) (GC.out.keeps K5.out)).mono ?_
    rintro e w6 ⟨v38, rfl, hk, hr⟩
    have K6 := Lib.hid (K5.out.trans hk)
    have R38 := Lib.hid hr
    have R76 := Lib.hid (R75.out.keeps hk)
    have R86 := Lib.hid (R85.out.keeps hk)
    have R106 := Lib.hid (R10.out.keeps hk)
    clear hk hr R75 R85 R10
    go_wp2_with fail
    refine (count_any _ _ 3 c (by have := HB.out; omega) R38.out).mono ?_
    rintro e w7 ⟨rfl, hk⟩
    have K7 := Lib.hid (K6.out.trans hk)
    have R77 := Lib.hid (R76.out.keeps hk)
    have R87 := Lib.hid (R86.out.keeps hk)
    have R107 := Lib.hid (R106.out.keeps hk)
    clear hk R38 R76 R86 R106
    generalize hd : doL ks h c = d at *
    clear hd
    have hbb : (d.isSome == d.isSome) = true := by simp
    go_wp2_with fail
    refine (equalI_any (d.getD []) (d.getD []) _ _ _ R87.out.rdv R107.out.rdv).mono ?_
    rintro e w8 ⟨rfl, hk⟩
    have K8 := Lib.hid (K7.out.trans hk)
    rw [decide_eq_true rfl]
    have R78 := Lib.hid (R77.out.keeps hk)
    clear hk R77 R87 R107
    go_wp2_with fail
    refine (equalI_any h h _ _ _ (GH.out.keeps K8.out).rdv R78.out.rdv).mono ?_
    rintro e w9 ⟨rfl, hk⟩
    have K9 := Lib.hid (K8.out.trans hk)
    rw [decide_eq_true rfl]
    clear hk R78
    go_wp2_with fail
    refine (pushes_any _ _ c (by have := HB.out; omega) (GC.out.keeps K9.out)).mono ?_
    rintro e w10 ⟨rfl, hk⟩
    have K10 := Lib.hid (K9.out.trans hk)
    clear hk 
    go_wp2_with fail
    refine (grows_any _ _ c (by have := HB.out; omega) (GC.out.keeps K10.out)).mono ?_
    rintro e w11 ⟨rfl, hk⟩
    have K11 := Lib.hid (K10.out.trans hk)
    clear hk 
    go_wp2_with fail
    refine (to_any _ _ c (by have := HB.out; omega) (GC.out.keeps K11.out)).mono ?_
    rintro e w12 ⟨v64, rfl, hk, hr⟩
    have K12 := Lib.hid (K11.out.trans hk)
    have R64 := Lib.hid hr
    clear hk hr
    go_wp2_with fail
    refine (count_any _ _ 1 c (by have := HB.out; omega) R64.out).mono ?_
    rintro e w13 ⟨rfl, hk⟩
    have K13 := Lib.hid (K12.out.trans hk)
    clear hk R64
    have hw := IntWalk.wrap64_in ((cntL 3 c : Int) - (cntL 1 c : Int)) (by have h1 := cntL_le 3 c; have h2 := cntL_le 1 c; have := HB.out; omega)
    go_wp2_with fail
    go_ret
    exact ⟨rfl, K13.out⟩
end Go.Proofs.YtdhcnmljkmodhaaDoor.opsDo
