/- HeaderLays returns true: a label may be laid on the top just where Onto says. -/
import Derived.Test.YtmmoopikglbmbaaDoorHeaderOpen
import Derived.Test.YtmmoopikglbmbaaDoorHeader7
import Derived.Test.YtmmoopikglbmbaaDoorHeader8
import Derived.Test.YtmmoopikglbmbaaDoorCards
import Derived.Test.YtmmoopikglbmbaaDoorTie
import Derived.Deep.DeepHandedRow
import Derived.Lib.LaidTab
namespace Go.Proofs.YtmmoopikglbmbaaDoor.headerLays
set_option linter.unusedSectionVars false
set_option linter.unusedVariables false
set_option linter.unusedSimpArgs false
open Go.ChangeShapes Go.WideShapes Go.ChangeAt Go.RowKit
theorem validL_cons (ks : List Int) (x y : Int) (r : List Int) (h : validL ks (y :: r) = true) : validL ks (x :: y :: r) = mayL (kindL ks x) (kindL ks y) := by
  simp only [validL] at h ⊢
  rw [h, Bool.and_true]
  cases hm : mayL (kindL ks x) (kindL ks y)
  · rw [Bool.and_false]
  · rw [Bool.and_true]
    have := (mayL_iff _ _).1 hm
    simp only [bne_iff_ne, ne_eq]
    omega
set_option maxHeartbeats 1000000 in
theorem walk (w : World) (vk vh : Value) (ks h : List Int) (x : Int) (Hk : ReadsI w vk ks) (Hh : ReadsI w vh h) (hT : TabOk w) : Calls Tryd.prog 10 #[vk, vh, .int .i64 x] w fun e w' => e = .returned (.bool true) ∧ Keeps w w' (fun _ => False) := by
  obtain ⟨ak, capk, rfl, _, hmk⟩ := Hk.form
  obtain ⟨ah, caph, rfl, hch, hmh⟩ := Hh.form
  have GT := Lib.hid hT
  have GK := Lib.hid Hk
  have GH := Lib.hid Hh
  clear Hk Hh hmk hT
  by_cases hk : (100 : Int) < (ks.length : Int)
  · go_enter Tryd.func10, Tryd.ntmps10
    go_wp2_with fail
    refine (awake09 _ GT.out).mono ?_
    rintro e w1 ⟨rfl, k1⟩
    have GK1 := Lib.hid (GK.out.keeps k1)
    have GH1 := Lib.hid (GH.out.keeps k1)
    have K1 := Lib.hid k1
    clear k1 GK GH GT
    go_wp2
    go_ret
    exact ⟨rfl, K1.out⟩
  · by_cases hh : (100 : Int) < (h.length : Int)
    · go_enter Tryd.func10, Tryd.ntmps10
      go_wp2_with fail
      refine (awake09 _ GT.out).mono ?_
      rintro e w1 ⟨rfl, k1⟩
      have GK1 := Lib.hid (GK.out.keeps k1)
      have GH1 := Lib.hid (GH.out.keeps k1)
      have K1 := Lib.hid k1
      clear k1 GK GH GT
      go_wp2
      go_ret
      exact ⟨rfl, K1.out⟩
    · by_cases h0 : h = []
      · subst h0
        go_enter Tryd.func10, Tryd.ntmps10
        go_wp2_with fail
        refine (awake09 _ GT.out).mono ?_
        rintro e w1 ⟨rfl, k1⟩
        have GK1 := Lib.hid (GK.out.keeps k1)
        have GH1 := Lib.hid (GH.out.keeps k1)
        have K1 := Lib.hid k1
        clear k1 GK GH GT
        go_wp2
        go_ret
        exact ⟨rfl, K1.out⟩
      · have hpos : 0 < h.length := List.length_pos_iff.2 h0
        have hz : ((h.length : Int) == 0) = false := beq_eq_false_iff_ne.2 (by omega)
        have hz' : ¬ (h.length : Int) = 0 := by omega
        clear h0
        go_enter Tryd.func10, Tryd.ntmps10
        go_wp2_with fail
        refine (awake09 _ GT.out).mono ?_
        rintro e w1 ⟨rfl, k1⟩
        have GK1 := Lib.hid (GK.out.keeps k1)
        have GH1 := Lib.hid (GH.out.keeps k1)
        have K1 := Lib.hid k1
        clear k1 GK GH GT
        go_wp2_with fail
        refine (valid_any _ _ _ ks h GK1.out GH1.out).mono ?_
        rintro e w2 ⟨rfl, k2⟩
        have GK2 := Lib.hid (GK1.out.keeps k2)
        have GH2 := Lib.hid (GH1.out.keeps k2)
        have K2 := Lib.hid (K1.out.trans k2)
        clear k2 GK1 GH1 K1
        cases hv : validL ks h
        · clear hv
          go_wp2
          go_ret
          exact ⟨rfl, K2.out⟩
        · have HV := Lib.hid hv
          clear hv
          obtain ⟨g, off, rfl, _, hc⟩ := GH2.out.cell 0 hpos
          have hc0 := hc 0 hpos
          rw [Nat.add_zero] at hc0
          obtain ⟨y, r, rfl⟩ : ∃ y r, h = y :: r := by
            cases h with
            | nil => simp at hpos
            | cons y r => exact ⟨y, r, rfl⟩
          have hy : (y :: r)[0] = y := rfl
          rw [hy] at hc0
          have HL := Lib.hid (validL_cons ks x y r HV.out)
          have hl100 : (y :: r).length ≤ 100 := by omega
          have GL := Lib.hid hl100
          clear hc hy HV hl100
          generalize hlen : (y :: r).length = n at *
          have hlen' := Lib.hid hlen
          clear hlen
          have k3 : Keeps w2 (w2.alloc (.cells #[.int .i64 x] 3)) (fun _ => False) := (Keeps.refl _ _).alloc _
          have k4 := k3.alloc (.cells #[.slice (some ⟨w2.heap.size, 0, none⟩) 1 1, .slice (some ⟨g, off, none⟩) n caph] 35)
          have GK4 := Lib.hid (GK2.out.keeps k4)
          have GH4 := Lib.hid (GH2.out.keeps k4)
          have GX4 := Lib.hid ((litI w2 [x] #[.int .i64 x] rfl 1 rfl (by simp)).keeps ((Keeps.refl _ _).alloc (.cells #[.slice (some ⟨w2.heap.size, 0, none⟩) 1 1, .slice (some ⟨g, off, none⟩) n caph] 35)))
          have hb4 := heap_alloc_new (w2.alloc (.cells #[.int .i64 x] 3)) (.cells #[.slice (some ⟨w2.heap.size, 0, none⟩) 1 1, .slice (some ⟨g, off, none⟩) n caph] 35)
          rw [hs_alloc] at hb4
          have A0 : Hid (((w2.alloc (.cells #[.int .i64 x] 3)).alloc (.cells #[.slice (some ⟨w2.heap.size, 0, none⟩) 1 1, .slice (some ⟨g, off, none⟩) n caph] 35)).cell? ⟨w2.heap.size + 1, 0, none⟩ = some (.slice (some ⟨w2.heap.size, 0, none⟩) 1 1)) := Lib.hid (by rw [cell_at hb4]; rfl)
          have A1 : Hid (((w2.alloc (.cells #[.int .i64 x] 3)).alloc (.cells #[.slice (some ⟨w2.heap.size, 0, none⟩) 1 1, .slice (some ⟨g, off, none⟩) n caph] 35)).cell? ⟨w2.heap.size + 1, 1, none⟩ = some (.slice (some ⟨g, off, none⟩) n caph)) := Lib.hid (by rw [cell_at hb4]; rfl)
          have K4 := Lib.hid (K2.out.trans k4)
          have hbl := below_has (kindL ks x) (kindL ks y)
          have HB := Lib.hid hbl
          clear k3 k4 hb4 GH2 K2 hbl
          go_wp2_with fail
          refine (kind_any _ _ ks y GK2.out).mono ?_
          rintro e w3 ⟨rfl, rfl⟩
          go_wp2_with fail
          refine (concat_any _ x (y :: r) (by rw [hlen'.out]; exact GL.out) _ _ _ GX4.out GH4.out A0.out A1.out).mono ?_
          rintro e w5 ⟨v5, rfl, o5, k5⟩
          have R5 := Lib.hid (ReadsI.ofOwn rfl o5)
          have GK5 := Lib.hid (GK4.out.keeps k5)
          have K5 := Lib.hid (K4.out.trans k5)
          clear o5 k5 GK4 GH4 GX4 A0 A1 K4 GK2
          go_wp2_with fail
          refine (valid_any _ _ _ ks (x :: y :: r) GK5.out R5.out).mono ?_
          rintro e w6 ⟨rfl, k6⟩
          have GK6 := Lib.hid (GK5.out.keeps k6)
          have K6 := Lib.hid (K5.out.trans k6)
          clear k6 GK5 K5 R5
          rw [HL.out]
          go_wp2_with fail
          refine (kind_any _ _ ks x GK6.out).mono ?_
          rintro e w7 ⟨rfl, rfl⟩
          go_wp2_with fail
          refine (onto_any _ _).mono ?_
          rintro e w8 ⟨rfl, k8⟩
          have K8 := Lib.hid (K6.out.trans k8)
          clear k8 K6 GK6
          go_wp2_with fail
          refine (has_any _ _ _).mono ?_
          rintro e w9 ⟨rfl, k9⟩
          have K9 := Lib.hid (K8.out.trans k9)
          clear k9 K8
          rw [HB.out]
          go_wp2_with fail
          go_ret
          exact ⟨rfl, K9.out⟩
theorem own : ownKnob Tryd.prog.godebug = none := by kernel_rfl
theorem gTab : Tryd.prog.globalNamed "math/bits.deBruijn64tab" = some 0 := by kernel_rfl
theorem gTabType : (Tryd.prog.globals[0]?).map (·.type) = some 62 := by kernel_rfl
theorem cellsTab : Tryd.prog.cellsOf 62 = 64 := by kernel_rfl
theorem cellsU8 : Tryd.prog.cellsOf 5 = 1 := by kernel_rfl
theorem table {W : World} (h : laidMetH Tryd.prog Rows.headerLaysRow.laid W) : TabOk W := by
  have ht : Lib.TabIs Tryd.prog W "math/bits.deBruijn64tab" .u8 (tzTab.map fun (n : Nat) => (n : Int)) :=
    Lib.tabIs_of_head (rest := []) gTab gTabType Tryd.underlying62 Tryd.underlying5 cellsU8 cellsTab h
  intro j hj
  have := ht.cell gTab j (by rw [List.length_map]; exact hj)
  rw [this]
  have hl : tzTab.length = 64 := rfl
  congr 2
  rw [List.getD_eq_getElem?_getD, List.getD_eq_getElem?_getD, List.getElem?_map, List.getElem?_eq_getElem (by omega)]
  rfl

theorem contract (H : Type) (enc : TypeId × Value → H) (W : World) (base : Nat) (args : Array Value) (ds gs : List (DataW H)) (before : List MemPlace)
    (hval : ∀ (j : Nat) t v, Tryd.f10.params[j]? = some t → args[j]? = some v → Value.okWide Tryd.prog W .any base t v)
    (hW : DataW.Whole enc Tryd.prog Tryd.f10.params.toList Rows.headerLaysSpec.vars false W args.toList ds gs before) (hL : laidMetH Tryd.prog Rows.headerLaysRow.laid W) :
    Calls Tryd.prog 10 args W fun e W' => ∃ v, e = .returned v ∧ Rows.headerLaysSpec.post enc Tryd.prog Tryd.f10 false true false false W args v W' := by
  have hW0 := hW
  obtain ⟨p, q, hA, hV, rfl, hfz, hnd⟩ := hW
  rw [Tryd.params10] at hA hval
  obtain ⟨v0, vs0, d0, ds0, p0, q0, hargs0, rfl, rfl, h0, r0⟩ := trodAll_cons hA
  obtain ⟨v1, vs1, d1, ds1, p1, q1, hargs1, rfl, rfl, h1, r1⟩ := trodAll_cons r0
  obtain ⟨v2, vs2, d2, ds2, p2, q2, hargs2, rfl, rfl, h2, r2⟩ := trodAll_cons r1
  obtain ⟨rfl, rfl, rfl⟩ := trodAll_nil r2
  obtain rfl : args = #[v0, v1, v2] := by cases args; simp_all
  obtain ⟨rfl, rfl⟩ := trodVars_none hV
  obtain ⟨fu0, hf0⟩ := h0
  obtain ⟨l0, H0⟩ := open_ints (hval 0 35 v0 rfl rfl) hf0
  obtain ⟨fu1, hf1⟩ := h1
  obtain ⟨l1, H1⟩ := open_ints (hval 1 35 v1 rfl rfl) hf1
  obtain ⟨fu2, hf2⟩ := h2
  obtain ⟨n2, rfl, lo2, up2⟩ := open_int (hval 2 3 v2 rfl rfl) hf2
  refine (walk W _ _ l0 l1 n2 H0 H1 (table hL)).mono fun e W' ⟨he, hb⟩ => ⟨_, he, ?_⟩
  exact law_post (by kernel_rfl) (by kernel_rfl) (by kernel_rfl) rfl Tryd.underlying4 hW0 (hb.toBelow (Nat.le_refl _) (fun _ _ h => h.elim)) rfl

noncomputable def laidWorld (os : Os) : World :=
  { World.holding Tryd.prog os ⟨#[], #[], []⟩ with heap := (World.holding Tryd.prog os ⟨#[], #[], []⟩).heap.modify 0 fun
      | .cells _ t frozen => .cells (tzTab.map fun (n : Nat) => Value.int .u8 n).toArray t frozen
      | o => o }
theorem laid_met (os : Os) : laidMet Tryd.prog Rows.headerLaysRow.laid ((laidWorld os).forCall (fun _ _ => 0) ⟨#[], #[.slice none 0 0, .slice none 0 0, .int .i64 0], []⟩).memory :=
  laidMet_of_run' 8 (by kernel_rfl) (by kernel_rfl)
theorem reads (os : Os) {H : Type} (enc : TypeId × Value → H) : ∃ places, DataW.whole enc Tryd.prog ((laidWorld os).forCall (fun _ _ => 0) ⟨#[], #[.slice none 0 0, .slice none 0 0, .int .i64 0], []⟩).memory Tryd.f10.params.toList Rows.headerLaysSpec.vars false (#[.slice none 0 0, .slice none 0 0, .int .i64 0] : Array Value).toList 8 = some ([.nil, .nil, .lit (.int .i64 0)], [], places) :=
  ⟨[], by kernel_rfl⟩

set_option maxRecDepth 100000 in
theorem lifted (os : Os) (started : os.Started) (H : Type) (enc : TypeId × Value → H) (F : Stop.Interp) :
    ReturnsInHanded {} Tryd.checked os 10 .any ((OpenSpec.ofChange Rows.headerLaysSpec).preRow enc Tryd.prog Tryd.f10 Rows.headerLaysRow.domain false Rows.headerLaysRow.laid) (((OpenSpec.ofChange Rows.headerLaysSpec).at F).post enc Tryd.prog Tryd.f10 false true false false) := by
  obtain ⟨places, hx⟩ := reads os enc
  refine returnsInHanded_of_row (C := Tryd.checked) (s := OpenSpec.ofChange Rows.headerLaysSpec) own started (by kernel_rfl) Tryd.func10
    (witness_row_at (enc := enc) (C := Tryd.checked) false (laidWorld os) #[.slice none 0 0, .slice none 0 0, .int .i64 0] rfl (by kernel_rfl) (by kernel_rfl) (by kernel_rfl)
      (OpenSpec.preRow_of_cond 8 hx (by kernel_rfl) (fun k hk => by cases hk) (by kernel_rfl) (laid_met os))) ?_
  intro W base args ds gs before hval hW _ _ _ hL _ _
  exact contract H enc W base args ds gs before hval hW hL

theorem said : Rows.HeaderLaysSaid :=
  OpenClaim.holds_of_cond 10 Tryd.f10 rfl rfl rfl rfl rfl rfl rfl ⟨rfl, rfl, rfl, rfl, rfl⟩ rfl rfl rfl rfl rfl (by kernel_rfl) Tryd.func10 (by kernel_rfl)
    (of_decide_eq_true (by kernel_rfl)) (by unfold Func.isWrapper; first | (rw [if_pos (by decide +kernel)]; kernel_rfl) | (rw [if_neg (by decide +kernel)]; exact ⟨rfl, rfl⟩))
    (fun os started H enc _ F => by rw [OpenClaim.pre_eq_preRow]; exact lifted os started H enc F)

/-- No parameter wants a stand-in; the program's own looks are off: what the card asks. -/
theorem plain (f : FuncId) (fn : Func) (hf : Tryd.pinned.checked.prog.funcNamed "fairlead/fairleadlaw09.HeaderLays" = some f) (hfn : Tryd.pinned.checked.prog.funcs[f]? = some fn) :
    false = Tryd.pinned.checked.prog.looks [] ∧ ∀ (j : Nat) t, fn.params[j]? = some t → Tryd.pinned.checked.prog.wantsStandIn t = false := by
  obtain rfl : f = 10 := Option.some.inj ((show Tryd.prog.funcNamed "fairlead/fairleadlaw09.HeaderLays" = some 10 by kernel_rfl).symm.trans hf) |>.symm
  obtain rfl : fn = Tryd.f10 := (Option.some.inj (Tryd.func10.symm.trans hfn)).symm
  refine ⟨by kernel_rfl, fun j t ht => ?_⟩
  rw [Tryd.params10] at ht
  have hm : t ∈ (#[35, 35, 3] : Array TypeId) := Array.mem_of_getElem? ht
  have hall : (#[35, 35, 3] : Array TypeId).all (fun t => !Tryd.prog.wantsStandIn t) = true := by kernel_rfl
  have := Array.all_eq_true_iff_forall_mem.1 hall t hm
  show Tryd.prog.wantsStandIn t = false
  simpa using this

/-- THE CARD. -/
theorem card : Rows.HeaderLaysCardSaid :=
  Claim7.holds_tied_plain_at .later [] _ _ _ _ said (fun _ h => by cases h) (by kernel_rfl) (fun _ h => by cases h) headerLays_row_tie rfl ⟨rfl, rfl⟩ (by kernel_rfl) rfl plain (by kernel_rfl)
end Go.Proofs.YtmmoopikglbmbaaDoor.headerLays
