/- HeaderEnds returns true: each end of a header that may be may be. -/
import Derived.Test.YtmmoopikglbmbaaDoorHeaderOpen
import Derived.Test.YtmmoopikglbmbaaDoorCards
import Derived.Test.YtmmoopikglbmbaaDoorTie
import Derived.Deep.DeepHandedRow
import Derived.Lib.LaidTab
namespace Go.Proofs.YtmmoopikglbmbaaDoor.headerEnds
set_option linter.unusedSectionVars false
set_option linter.unusedVariables false
set_option linter.unusedSimpArgs false
open Go.ChangeShapes Go.WideShapes Go.ChangeAt Go.RowKit
set_option maxHeartbeats 1000000 in
theorem walk (w : World) (vk vh : Value) (ks h : List Int) (n : Nat) (hn : n < 256) (Hk : ReadsI w vk ks) (Hh : ReadsI w vh h) (hT : TabOk w) : Calls Tryd.prog 7 #[vk, vh, .int .u8 n] w fun e w' => e = .returned (.bool true) ∧ Keeps w w' (fun _ => False) := by
  obtain ⟨ak, capk, rfl, _, hmk⟩ := Hk.form
  obtain ⟨ah, caph, rfl, hch, hmh⟩ := Hh.form
  have GT := Lib.hid hT
  have GK := Lib.hid Hk
  have GH := Lib.hid Hh
  clear Hk Hh hmk hT
  by_cases hk : (100 : Int) < (ks.length : Int)
  · go_enter Tryd.func7, Tryd.ntmps7
    go_wp2_with fail
    refine (awake09 _ GT.out).mono ?_
    rintro e w1 ⟨rfl, k1⟩
    have GK1 := Lib.hid (GK.out.keeps k1)
    have GH1 := Lib.hid (GH.out.keeps k1)
    have K1 := Lib.hid k1
    clear k1 GK GH GT
    go_wp2
    go_ret
    exact ⟨rfl, K1.out⟩
  · by_cases hh : (100 : Int) < (h.length : Int)
    · go_enter Tryd.func7, Tryd.ntmps7
      go_wp2_with fail
      refine (awake09 _ GT.out).mono ?_
      rintro e w1 ⟨rfl, k1⟩
      have GK1 := Lib.hid (GK.out.keeps k1)
      have GH1 := Lib.hid (GH.out.keeps k1)
      have K1 := Lib.hid k1
      clear k1 GK GH GT
      go_wp2
      go_ret
      exact ⟨rfl, K1.out⟩
    · by_cases h0 : h = []
      · subst h0
        go_enter Tryd.func7, Tryd.ntmps7
        go_wp2_with fail
        refine (awake09 _ GT.out).mono ?_
        rintro e w1 ⟨rfl, k1⟩
        have GK1 := Lib.hid (GK.out.keeps k1)
        have GH1 := Lib.hid (GH.out.keeps k1)
        have K1 := Lib.hid k1
        clear k1 GK GH GT
        go_wp2
        go_ret
        exact ⟨rfl, K1.out⟩
      · have hpos : 0 < h.length := List.length_pos_iff.2 h0
        have hz : ((h.length : Int) == 0) = false := beq_eq_false_iff_ne.2 (by omega)
        have hz' : ¬ (h.length : Int) = 0 := by omega
        obtain ⟨k, hkk⟩ : ∃ k : Nat, k = n % h.length := ⟨_, rfl⟩
        have hkl : k < h.length := hkk ▸ Nat.mod_lt _ hpos
        have hmod : (n : Int).tmod (h.length : Int) = (k : Int) := by rw [hkk]; exact (Int.ofNat_tmod n h.length).symm
        have HD := Lib.hid (valid_drop ks h k hkl)
        clear hkk h0
        go_enter Tryd.func7, Tryd.ntmps7
        go_wp2_with fail
        refine (awake09 _ GT.out).mono ?_
        rintro e w1 ⟨rfl, k1⟩
        have GK1 := Lib.hid (GK.out.keeps k1)
        have GH1 := Lib.hid (GH.out.keeps k1)
        have K1 := Lib.hid k1
        clear k1 GK GH GT
        go_wp2_with fail
        refine (valid_any _ _ _ ks h GK1.out GH1.out).mono ?_
        rintro e w2 ⟨rfl, k2⟩
        have GK2 := Lib.hid (GK1.out.keeps k2)
        have GH2 := Lib.hid (GH1.out.keeps k2)
        have K2 := Lib.hid (K1.out.trans k2)
        clear k2 GK1 GH1 K1
        cases hv : validL ks h
        · clear HD hv
          go_wp2
          go_ret
          exact ⟨rfl, K2.out⟩
        · have HD2 := Lib.hid (HD.out hv)
          clear HD hv
          obtain ⟨g, off, rfl, _, _⟩ := GH2.out.cell k hkl
          have HS : Hid (ReadsI w2 (.slice (some ⟨g, off + k, none⟩) (h.length - k) (caph - k)) (h.drop k)) := Lib.hid (GH2.out.drop hkl rfl (by omega) (by omega))
          have hk1 : (k : Int) ≤ (h.length : Int) := by omega
          have hk2 : k ≤ h.length := by omega
          have hk3 : k ≤ caph := by omega
          go_wp2_with fail
          refine (valid_any _ _ _ ks (h.drop k) GK2.out HS.out).mono ?_
          rintro e w3 ⟨rfl, k3⟩
          have K3 := Lib.hid (K2.out.trans k3)
          rw [HD2.out]
          clear k3
          go_wp2
          go_ret
          exact ⟨rfl, K3.out⟩
theorem own : ownKnob Tryd.prog.godebug = none := by kernel_rfl
theorem gTab : Tryd.prog.globalNamed "math/bits.deBruijn64tab" = some 0 := by kernel_rfl
theorem gTabType : (Tryd.prog.globals[0]?).map (·.type) = some 62 := by kernel_rfl
theorem cellsTab : Tryd.prog.cellsOf 62 = 64 := by kernel_rfl
theorem cellsU8 : Tryd.prog.cellsOf 5 = 1 := by kernel_rfl
theorem table {W : World} (h : laidMetH Tryd.prog Rows.headerEndsRow.laid W) : TabOk W := by
  have ht : Lib.TabIs Tryd.prog W "math/bits.deBruijn64tab" .u8 (tzTab.map fun (n : Nat) => (n : Int)) :=
    Lib.tabIs_of_head (rest := []) gTab gTabType Tryd.underlying62 Tryd.underlying5 cellsU8 cellsTab h
  intro j hj
  have := ht.cell gTab j (by rw [List.length_map]; exact hj)
  rw [this]
  have hl : tzTab.length = 64 := rfl
  congr 2
  rw [List.getD_eq_getElem?_getD, List.getD_eq_getElem?_getD, List.getElem?_map, List.getElem?_eq_getElem (by omega)]
  rfl

theorem contract (H : Type) (enc : TypeId × Value → H) (W : World) (base : Nat) (args : Array Value) (ds gs : List (DataW H)) (before : List MemPlace)
    (hval : ∀ (j : Nat) t v, Tryd.f7.params[j]? = some t → args[j]? = some v → Value.okWide Tryd.prog W .any base t v)
    (hW : DataW.Whole enc Tryd.prog Tryd.f7.params.toList Rows.headerEndsSpec.vars false W args.toList ds gs before) (hL : laidMetH Tryd.prog Rows.headerEndsRow.laid W) :
    Calls Tryd.prog 7 args W fun e W' => ∃ v, e = .returned v ∧ Rows.headerEndsSpec.post enc Tryd.prog Tryd.f7 false true false false W args v W' := by
  have hW0 := hW
  obtain ⟨p, q, hA, hV, rfl, hfz, hnd⟩ := hW
  rw [Tryd.params7] at hA hval
  obtain ⟨v0, vs0, d0, ds0, p0, q0, hargs0, rfl, rfl, h0, r0⟩ := trodAll_cons hA
  obtain ⟨v1, vs1, d1, ds1, p1, q1, hargs1, rfl, rfl, h1, r1⟩ := trodAll_cons r0
  obtain ⟨v2, vs2, d2, ds2, p2, q2, hargs2, rfl, rfl, h2, r2⟩ := trodAll_cons r1
  obtain ⟨rfl, rfl, rfl⟩ := trodAll_nil r2
  obtain rfl : args = #[v0, v1, v2] := by cases args; simp_all
  obtain ⟨rfl, rfl⟩ := trodVars_none hV
  obtain ⟨fu0, hf0⟩ := h0
  obtain ⟨l0, H0⟩ := open_ints (hval 0 35 v0 rfl rfl) hf0
  obtain ⟨fu1, hf1⟩ := h1
  obtain ⟨l1, H1⟩ := open_ints (hval 1 35 v1 rfl rfl) hf1
  obtain ⟨fu2, hf2⟩ := h2
  obtain ⟨n2, rfl, up2⟩ := open_u8 (hval 2 5 v2 rfl rfl) hf2
  refine (walk W _ _ l0 l1 n2 up2 H0 H1 (table hL)).mono fun e W' ⟨he, hb⟩ => ⟨_, he, ?_⟩
  exact law_post (by kernel_rfl) (by kernel_rfl) (by kernel_rfl) rfl Tryd.underlying4 hW0 (hb.toBelow (Nat.le_refl _) (fun _ _ h => h.elim)) rfl

noncomputable def laidWorld (os : Os) : World :=
  { World.holding Tryd.prog os ⟨#[], #[], []⟩ with heap := (World.holding Tryd.prog os ⟨#[], #[], []⟩).heap.modify 0 fun
      | .cells _ t frozen => .cells (tzTab.map fun (n : Nat) => Value.int .u8 n).toArray t frozen
      | o => o }
theorem laid_met (os : Os) : laidMet Tryd.prog Rows.headerEndsRow.laid ((laidWorld os).forCall (fun _ _ => 0) ⟨#[], #[.slice none 0 0, .slice none 0 0, .int .u8 0], []⟩).memory :=
  laidMet_of_run' 8 (by kernel_rfl) (by kernel_rfl)
theorem reads (os : Os) {H : Type} (enc : TypeId × Value → H) : ∃ places, DataW.whole enc Tryd.prog ((laidWorld os).forCall (fun _ _ => 0) ⟨#[], #[.slice none 0 0, .slice none 0 0, .int .u8 0], []⟩).memory Tryd.f7.params.toList Rows.headerEndsSpec.vars false (#[.slice none 0 0, .slice none 0 0, .int .u8 0] : Array Value).toList 8 = some ([.nil, .nil, .lit (.int .u8 0)], [], places) :=
  ⟨[], by kernel_rfl⟩

set_option maxRecDepth 100000 in
theorem lifted (os : Os) (started : os.Started) (H : Type) (enc : TypeId × Value → H) (F : Stop.Interp) :
    ReturnsInHanded {} Tryd.checked os 7 .any ((OpenSpec.ofChange Rows.headerEndsSpec).preRow enc Tryd.prog Tryd.f7 Rows.headerEndsRow.domain false Rows.headerEndsRow.laid) (((OpenSpec.ofChange Rows.headerEndsSpec).at F).post enc Tryd.prog Tryd.f7 false true false false) := by
  obtain ⟨places, hx⟩ := reads os enc
  refine returnsInHanded_of_row (C := Tryd.checked) (s := OpenSpec.ofChange Rows.headerEndsSpec) own started (by kernel_rfl) Tryd.func7
    (witness_row_at (enc := enc) (C := Tryd.checked) false (laidWorld os) #[.slice none 0 0, .slice none 0 0, .int .u8 0] rfl (by kernel_rfl) (by kernel_rfl) (by kernel_rfl)
      (OpenSpec.preRow_of_cond 8 hx (by kernel_rfl) (fun k hk => by cases hk) (by kernel_rfl) (laid_met os))) ?_
  intro W base args ds gs before hval hW _ _ _ hL _ _
  exact contract H enc W base args ds gs before hval hW hL

theorem said : Rows.HeaderEndsSaid :=
  OpenClaim.holds_of_cond 7 Tryd.f7 rfl rfl rfl rfl rfl rfl rfl ⟨rfl, rfl, rfl, rfl, rfl⟩ rfl rfl rfl rfl rfl (by kernel_rfl) Tryd.func7 (by kernel_rfl)
    (of_decide_eq_true (by kernel_rfl)) (by unfold Func.isWrapper; first | (rw [if_pos (by decide +kernel)]; kernel_rfl) | (rw [if_neg (by decide +kernel)]; exact ⟨rfl, rfl⟩))
    (fun os started H enc _ F => by rw [OpenClaim.pre_eq_preRow]; exact lifted os started H enc F)

/-- No parameter wants a stand-in; the program's own looks are off: what the card asks. -/
theorem plain (f : FuncId) (fn : Func) (hf : Tryd.pinned.checked.prog.funcNamed "fairlead/fairleadlaw09.HeaderEnds" = some f) (hfn : Tryd.pinned.checked.prog.funcs[f]? = some fn) :
    false = Tryd.pinned.checked.prog.looks [] ∧ ∀ (j : Nat) t, fn.params[j]? = some t → Tryd.pinned.checked.prog.wantsStandIn t = false := by
  obtain rfl : f = 7 := Option.some.inj ((show Tryd.prog.funcNamed "fairlead/fairleadlaw09.HeaderEnds" = some 7 by kernel_rfl).symm.trans hf) |>.symm
  obtain rfl : fn = Tryd.f7 := (Option.some.inj (Tryd.func7.symm.trans hfn)).symm
  refine ⟨by kernel_rfl, fun j t ht => ?_⟩
  rw [Tryd.params7] at ht
  have hm : t ∈ (#[35, 35, 5] : Array TypeId) := Array.mem_of_getElem? ht
  have hall : (#[35, 35, 5] : Array TypeId).all (fun t => !Tryd.prog.wantsStandIn t) = true := by kernel_rfl
  have := Array.all_eq_true_iff_forall_mem.1 hall t hm
  show Tryd.prog.wantsStandIn t = false
  simpa using this

/-- THE CARD. -/
theorem card : Rows.HeaderEndsCardSaid :=
  Claim7.holds_tied_plain_at .later [] _ _ _ _ said (fun _ h => by cases h) (by kernel_rfl) (fun _ h => by cases h) headerEnds_row_tie rfl ⟨rfl, rfl⟩ (by kernel_rfl) rfl plain (by kernel_rfl)
end Go.Proofs.YtmmoopikglbmbaaDoor.headerEnds
