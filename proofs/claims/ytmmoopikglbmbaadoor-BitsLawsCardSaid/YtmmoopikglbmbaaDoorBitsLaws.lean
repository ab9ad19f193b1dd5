/- BitsLaws returns true for all three sets: they can be turned about, put together, and go over one another; what is in one alone, and what is in both, make it. The table of math/bits reads as laid (tied by the card). -/
import Derived.Test.YtmmoopikglbmbaaDoorBits6
import Derived.Test.YtmmoopikglbmbaaDoorBitsOpen
import Derived.Test.YtmmoopikglbmbaaDoorCards
import Derived.Test.YtmmoopikglbmbaaDoorTie
import Derived.Deep.DeepHandedRow
import Derived.Lib.LaidTab
namespace Go.Proofs.YtmmoopikglbmbaaDoor.bitsLaws
set_option linter.unusedSectionVars false
set_option linter.unusedVariables false
set_option linter.unusedSimpArgs false
open Go.ChangeShapes Go.WideShapes Go.ChangeAt Go.RowKit

set_option maxRecDepth 100000 in
set_option maxHeartbeats 4000000 in
theorem walk (w : World) (a b c : BSet) (hT : TabOk w) : Calls Tryd.prog 4 #[a.val, b.val, c.val] w fun e w' => e = .returned (.bool true) ∧ Keeps w w' (fun _ => False) := by
  have GT := Lib.hid hT
  clear hT
  have hfold : ∀ s : BSet, (Value.agg #[.int .u64 s.lo.toNat, .int .u64 s.hi.toNat]) = s.val := fun _ => rfl
  have Hf := Lib.hid hfold
  clear hfold
  have e1 : eqS (a.or b) (b.or a) = true := eqS_iff.2 (or_comm' a b)
  have e2 : eqS (a.and b) (b.and a) = true := eqS_iff.2 (and_comm' a b)
  have e3 : eqS (a.or (b.or c)) ((a.or b).or c) = true := eqS_iff.2 (or_assoc' a b c)
  have e4 : eqS (a.and (b.and c)) ((a.and b).and c) = true := eqS_iff.2 (and_assoc' a b c)
  have e5 : eqS (a.and (b.or c)) ((a.and b).or (a.and c)) = true := eqS_iff.2 (and_or' a b c)
  have e6 : eqS (a.or (b.and c)) ((a.or b).and (a.or c)) = true := eqS_iff.2 (or_and' a b c)
  have e7 : eqS ((a.less b).or (a.and b)) a = true := eqS_iff.2 (less_or' a b)
  have e8 := and_under' a b
  have e9 := under_or' a b
  have e10 := less_and' a b
  unfold BSet.val
  go_enter Tryd.func4, Tryd.ntmps4
  go_wp2_with fail
  refine (awake07 _ (GT.out.keeps ((((Keeps.refl _ _).alloc _).alloc _).alloc _))).mono ?_
  rintro e w1 ⟨rfl, k1⟩
  have K1 : Hid (Keeps w w1 (fun _ => False)) := ((((Keeps.refl _ _).alloc _).alloc _).alloc _).trans k1
  have hb : ∀ (s t u : BSet), (((w.alloc (.cells #[.int .u64 s.lo.toNat, .int .u64 s.hi.toNat] 24)).alloc (.cells #[.int .u64 t.lo.toNat, .int .u64 t.hi.toNat] 24)).alloc (.cells #[.int .u64 u.lo.toNat, .int .u64 u.hi.toNat] 24)).heap.size = w.heap.size + 3 := fun s t u => by simp
  have q0 : w1.heap[w.heap.size]? = some (.cells #[.int .u64 a.lo.toNat, .int .u64 a.hi.toNat] 24 (0, 0)) :=
    (k1.block _ (by rw [hb]; omega) id).trans (((Below.heap_alloc _ _ _ (by simp; omega)).trans (Below.heap_alloc _ _ _ (by simp))).trans (heap_alloc_new w _))
  have q1 : w1.heap[w.heap.size + 1]? = some (.cells #[.int .u64 b.lo.toNat, .int .u64 b.hi.toNat] 24 (0, 0)) := by
    refine (k1.block _ (by rw [hb]; omega) id).trans ((Below.heap_alloc _ _ _ (by simp)).trans ?_)
    have := heap_alloc_new (w.alloc (.cells #[.int .u64 a.lo.toNat, .int .u64 a.hi.toNat] 24)) (.cells #[.int .u64 b.lo.toNat, .int .u64 b.hi.toNat] 24)
    rw [hs_alloc] at this; exact this
  have q2 : w1.heap[w.heap.size + 1 + 1]? = some (.cells #[.int .u64 c.lo.toNat, .int .u64 c.hi.toNat] 24 (0, 0)) := by
    refine (k1.block _ (by rw [hb]; omega) id).trans ?_
    have := heap_alloc_new ((w.alloc (.cells #[.int .u64 a.lo.toNat, .int .u64 a.hi.toNat] 24)).alloc (.cells #[.int .u64 b.lo.toNat, .int .u64 b.hi.toNat] 24)) (.cells #[.int .u64 c.lo.toNat, .int .u64 c.hi.toNat] 24)
    rw [hs_alloc, hs_alloc] at this; exact this
  have c00 : w1.cell? ⟨w.heap.size, 0, none⟩ = some (.int .u64 a.lo.toNat) := by rw [cell_at q0]; rfl
  have c01 : w1.cell? ⟨w.heap.size, 1, none⟩ = some (.int .u64 a.hi.toNat) := by rw [cell_at q0]; rfl
  have c10 : w1.cell? ⟨w.heap.size + 1, 0, none⟩ = some (.int .u64 b.lo.toNat) := by rw [cell_at q1]; rfl
  have c11 : w1.cell? ⟨w.heap.size + 1, 1, none⟩ = some (.int .u64 b.hi.toNat) := by rw [cell_at q1]; rfl
  have c20 : w1.cell? ⟨w.heap.size + 1 + 1, 0, none⟩ = some (.int .u64 c.lo.toNat) := by rw [cell_at q2]; rfl
  have c21 : w1.cell? ⟨w.heap.size + 1 + 1, 1, none⟩ = some (.int .u64 c.hi.toNat) := by rw [cell_at q2]; rfl
  have C00 := Lib.hid c00
  have C01 := Lib.hid c01
  have C10 := Lib.hid c10
  have C11 := Lib.hid c11
  have C20 := Lib.hid c20
  have C21 := Lib.hid c21
  clear k1 hb q0 q1 q2 c00 c01 c10 c11 c20 c21
  generalize w.heap.size = N at *
  go_wp2_with fail
  have x00 : ∀ x : Cls w1, x.w.cell? ⟨N, 0, none⟩ = some (.int .u64 a.lo.toNat) := Cls.cell C00.out
  have x01 : ∀ x : Cls w1, x.w.cell? ⟨N, 1, none⟩ = some (.int .u64 a.hi.toNat) := Cls.cell C01.out
  have x10 : ∀ x : Cls w1, x.w.cell? ⟨N + 1, 0, none⟩ = some (.int .u64 b.lo.toNat) := Cls.cell C10.out
  have x11 : ∀ x : Cls w1, x.w.cell? ⟨N + 1, 1, none⟩ = some (.int .u64 b.hi.toNat) := Cls.cell C11.out
  have x20 : ∀ x : Cls w1, x.w.cell? ⟨N + 1 + 1, 0, none⟩ = some (.int .u64 c.lo.toNat) := Cls.cell C20.out
  have x21 : ∀ x : Cls w1, x.w.cell? ⟨N + 1 + 1, 1, none⟩ = some (.int .u64 c.hi.toNat) := Cls.cell C21.out
  have hfold := Hf.out
  refine wp_region_cls (by kernel_rfl) (by kernel_rfl) ?_
  repeat (go_big_quiet_step ((first | (go_at_call 15; exact cls_call (or_any _ _ _)) | (go_at_call 16; exact cls_call (and_any _ _ _)) | (go_at_call 17; exact cls_call (less_any _ _ _)) | (go_at_call 18; exact cls_call (under_any _ _ _)) | (go_at_call 19; exact cls_call (empty_any _ _)))))
  refine wpQuiet_nil ?_
  rintro _ ⟨x3, rfl⟩
  have K3 := Lib.hid x3.keep
  have D00 := Lib.hid (x00 x3)
  have D01 := Lib.hid (x01 x3)
  have D10 := Lib.hid (x10 x3)
  have D11 := Lib.hid (x11 x3)
  have D20 := Lib.hid (x20 x3)
  have D21 := Lib.hid (x21 x3)
  clear x00 x01 x10 x11 x20 x21 hfold
  generalize x3.w = w3 at *
  go_wp2_with fail
  have x00 : ∀ x : Cls w3, x.w.cell? ⟨N, 0, none⟩ = some (.int .u64 a.lo.toNat) := Cls.cell D00.out
  have x01 : ∀ x : Cls w3, x.w.cell? ⟨N, 1, none⟩ = some (.int .u64 a.hi.toNat) := Cls.cell D01.out
  have x10 : ∀ x : Cls w3, x.w.cell? ⟨N + 1, 0, none⟩ = some (.int .u64 b.lo.toNat) := Cls.cell D10.out
  have x11 : ∀ x : Cls w3, x.w.cell? ⟨N + 1, 1, none⟩ = some (.int .u64 b.hi.toNat) := Cls.cell D11.out
  have x20 : ∀ x : Cls w3, x.w.cell? ⟨N + 1 + 1, 0, none⟩ = some (.int .u64 c.lo.toNat) := Cls.cell D20.out
  have x21 : ∀ x : Cls w3, x.w.cell? ⟨N + 1 + 1, 1, none⟩ = some (.int .u64 c.hi.toNat) := Cls.cell D21.out
  have hfold := Hf.out
  refine wp_region_cls (by kernel_rfl) (by kernel_rfl) ?_
  repeat (go_big_quiet_step ((first | (go_at_call 15; exact cls_call (or_any _ _ _)) | (go_at_call 16; exact cls_call (and_any _ _ _)) | (go_at_call 17; exact cls_call (less_any _ _ _)) | (go_at_call 18; exact cls_call (under_any _ _ _)) | (go_at_call 19; exact cls_call (empty_any _ _)))))
  refine wpQuiet_nil ?_
  rintro _ ⟨x5, rfl⟩
  have K5 := Lib.hid x5.keep
  clear x00 x01 x10 x11 x20 x21 hfold
  go_wp2_with fail
  go_ret
  exact ⟨rfl, K1.out.trans (K3.out.trans K5.out)⟩
theorem own : ownKnob Tryd.prog.godebug = none := by kernel_rfl
theorem gTab : Tryd.prog.globalNamed "math/bits.deBruijn64tab" = some 0 := by kernel_rfl
theorem gTabType : (Tryd.prog.globals[0]?).map (·.type) = some 62 := by kernel_rfl
theorem cellsTab : Tryd.prog.cellsOf 62 = 64 := by kernel_rfl
theorem cellsU8 : Tryd.prog.cellsOf 5 = 1 := by kernel_rfl
theorem table {W : World} (h : laidMetH Tryd.prog Rows.bitsLawsRow.laid W) : TabOk W := by
  have ht : Lib.TabIs Tryd.prog W "math/bits.deBruijn64tab" .u8 (tzTab.map fun (n : Nat) => (n : Int)) :=
    Lib.tabIs_of_head (rest := []) gTab gTabType Tryd.underlying62 Tryd.underlying5 cellsU8 cellsTab h
  intro j hj
  have := ht.cell gTab j (by rw [List.length_map]; exact hj)
  rw [this]
  have hl : tzTab.length = 64 := rfl
  congr 2
  rw [List.getD_eq_getElem?_getD, List.getD_eq_getElem?_getD, List.getElem?_map, List.getElem?_eq_getElem (by omega)]
  rfl

theorem contract (H : Type) (enc : TypeId × Value → H) (W : World) (base : Nat) (args : Array Value) (ds gs : List (DataW H)) (before : List MemPlace)
    (hval : ∀ (j : Nat) t v, Tryd.f4.params[j]? = some t → args[j]? = some v → Value.okWide Tryd.prog W .any base t v)
    (hW : DataW.Whole enc Tryd.prog Tryd.f4.params.toList Rows.bitsLawsSpec.vars false W args.toList ds gs before) (hL : laidMetH Tryd.prog Rows.bitsLawsRow.laid W) :
    Calls Tryd.prog 4 args W fun e W' => ∃ v, e = .returned v ∧ Rows.bitsLawsSpec.post enc Tryd.prog Tryd.f4 false true false false W args v W' := by
  have hW0 := hW
  obtain ⟨p, q, hA, hV, rfl, hfz, hnd⟩ := hW
  rw [Tryd.params4] at hA hval
  obtain ⟨v0, vs0, d0, ds0, p0, q0, hargs0, rfl, rfl, h0, r0⟩ := trodAll_cons hA
  obtain ⟨v1, vs1, d1, ds1, p1, q1, hargs1, rfl, rfl, h1, r1⟩ := trodAll_cons r0
  obtain ⟨v2, vs2, d2, ds2, p2, q2, hargs2, rfl, rfl, h2, r2⟩ := trodAll_cons r1
  obtain ⟨rfl, rfl, rfl⟩ := trodAll_nil r2
  obtain rfl : args = #[v0, v1, v2] := by cases args; simp_all
  obtain ⟨rfl, rfl⟩ := trodVars_none hV
  obtain ⟨fu0, hf0⟩ := h0
  obtain ⟨s0, rfl⟩ := open_set hf0
  obtain ⟨fu1, hf1⟩ := h1
  obtain ⟨s1, rfl⟩ := open_set hf1
  obtain ⟨fu2, hf2⟩ := h2
  obtain ⟨s2, rfl⟩ := open_set hf2
  refine (walk W s0 s1 s2 (table hL)).mono fun e W' ⟨he, hb⟩ => ⟨_, he, ?_⟩
  exact law_post (by kernel_rfl) (by kernel_rfl) (by kernel_rfl) rfl Tryd.underlying4 hW0 (hb.toBelow (Nat.le_refl _) (fun _ _ h => h.elim)) rfl

noncomputable def laidWorld (os : Os) : World :=
  { World.holding Tryd.prog os ⟨#[], #[], []⟩ with heap := (World.holding Tryd.prog os ⟨#[], #[], []⟩).heap.modify 0 fun
      | .cells _ t frozen => .cells (tzTab.map fun (n : Nat) => Value.int .u8 n).toArray t frozen
      | o => o }
theorem laid_met (os : Os) : laidMet Tryd.prog Rows.bitsLawsRow.laid ((laidWorld os).forCall (fun _ _ => 0) ⟨#[], #[.agg #[.int .u64 0, .int .u64 0], .agg #[.int .u64 0, .int .u64 0], .agg #[.int .u64 0, .int .u64 0]], []⟩).memory :=
  laidMet_of_run' 8 (by kernel_rfl) (by kernel_rfl)
theorem reads (os : Os) {H : Type} (enc : TypeId × Value → H) : ∃ places, DataW.whole enc Tryd.prog ((laidWorld os).forCall (fun _ _ => 0) ⟨#[], #[.agg #[.int .u64 0, .int .u64 0], .agg #[.int .u64 0, .int .u64 0], .agg #[.int .u64 0, .int .u64 0]], []⟩).memory Tryd.f4.params.toList Rows.bitsLawsSpec.vars false (#[.agg #[.int .u64 0, .int .u64 0], .agg #[.int .u64 0, .int .u64 0], .agg #[.int .u64 0, .int .u64 0]] : Array Value).toList 8 = some ([.agg [.lit (.int .u64 0), .lit (.int .u64 0)], .agg [.lit (.int .u64 0), .lit (.int .u64 0)], .agg [.lit (.int .u64 0), .lit (.int .u64 0)]], [], places) :=
  ⟨[], by kernel_rfl⟩

set_option maxRecDepth 100000 in
theorem lifted (os : Os) (started : os.Started) (H : Type) (enc : TypeId × Value → H) (F : Stop.Interp) :
    ReturnsInHanded {} Tryd.checked os 4 .any ((OpenSpec.ofChange Rows.bitsLawsSpec).preRow enc Tryd.prog Tryd.f4 Rows.bitsLawsRow.domain false Rows.bitsLawsRow.laid) (((OpenSpec.ofChange Rows.bitsLawsSpec).at F).post enc Tryd.prog Tryd.f4 false true false false) := by
  obtain ⟨places, hx⟩ := reads os enc
  refine returnsInHanded_of_row (C := Tryd.checked) (s := OpenSpec.ofChange Rows.bitsLawsSpec) own started (by kernel_rfl) Tryd.func4
    (witness_row_at (enc := enc) (C := Tryd.checked) false (laidWorld os) #[.agg #[.int .u64 0, .int .u64 0], .agg #[.int .u64 0, .int .u64 0], .agg #[.int .u64 0, .int .u64 0]] rfl (by kernel_rfl) (by kernel_rfl) (by kernel_rfl)
      (OpenSpec.preRow_of_cond 8 hx (by kernel_rfl) (fun k hk => by cases hk) (by kernel_rfl) (laid_met os))) ?_
  intro W base args ds gs before hval hW _ _ _ hL _ _
  exact contract H enc W base args ds gs before hval hW hL

theorem said : Rows.BitsLawsSaid :=
  OpenClaim.holds_of_cond 4 Tryd.f4 rfl rfl rfl rfl rfl rfl rfl ⟨rfl, rfl, rfl, rfl, rfl⟩ rfl rfl rfl rfl rfl (by kernel_rfl) Tryd.func4 (by kernel_rfl)
    (of_decide_eq_true (by kernel_rfl)) (by unfold Func.isWrapper; first | (rw [if_pos (by decide +kernel)]; kernel_rfl) | (rw [if_neg (by decide +kernel)]; exact ⟨rfl, rfl⟩))
    (fun os started H enc _ F => by rw [OpenClaim.pre_eq_preRow]; exact lifted os started H enc F)

/-- No parameter wants a stand-in; the program's own looks are off: what the card asks. -/
theorem plain (f : FuncId) (fn : Func) (hf : Tryd.pinned.checked.prog.funcNamed "fairlead/fairleadlaw07.BitsLaws" = some f) (hfn : Tryd.pinned.checked.prog.funcs[f]? = some fn) :
    false = Tryd.pinned.checked.prog.looks [] ∧ ∀ (j : Nat) t, fn.params[j]? = some t → Tryd.pinned.checked.prog.wantsStandIn t = false := by
  obtain rfl : f = 4 := Option.some.inj ((show Tryd.prog.funcNamed "fairlead/fairleadlaw07.BitsLaws" = some 4 by kernel_rfl).symm.trans hf) |>.symm
  obtain rfl : fn = Tryd.f4 := (Option.some.inj (Tryd.func4.symm.trans hfn)).symm
  refine ⟨by kernel_rfl, fun j t ht => ?_⟩
  rw [Tryd.params4] at ht
  have hm : t ∈ (#[24, 24, 24] : Array TypeId) := Array.mem_of_getElem? ht
  have hall : (#[24, 24, 24] : Array TypeId).all (fun t => !Tryd.prog.wantsStandIn t) = true := by kernel_rfl
  have := Array.all_eq_true_iff_forall_mem.1 hall t hm
  show Tryd.prog.wantsStandIn t = false
  simpa using this

/-- THE CARD. -/
theorem card : Rows.BitsLawsCardSaid :=
  Claim7.holds_tied_plain_at .later [] _ _ _ _ said (fun _ h => by cases h) (by kernel_rfl) (fun _ h => by cases h) bitsLaws_row_tie rfl ⟨rfl, rfl⟩ (by kernel_rfl) rfl plain (by kernel_rfl)
end Go.Proofs.YtmmoopikglbmbaaDoor.bitsLaws
