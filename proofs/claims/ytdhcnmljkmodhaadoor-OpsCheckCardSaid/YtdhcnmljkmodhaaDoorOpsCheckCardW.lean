/- OpsCheck: the card: whether any chain can be done to any header of a top, or which of its ops can not, is as the document says. math/bits.deBruijn64tab and errors.errorType read as laid (tied by the card). -/
import Derived.Test.YtdhcnmljkmodhaaDoorOpsCheckM12
import Derived.Test.YtdhcnmljkmodhaaDoorCards
import Derived.Test.YtdhcnmljkmodhaaDoorTie
import Derived.Deep.DeepHandedRow
import Derived.Lib.LaidTab
import Derived.LaidHandle
namespace Go.Proofs.YtdhcnmljkmodhaaDoor.opsCheck
set_option linter.unusedSectionVars false
set_option linter.unusedVariables false
set_option linter.unusedSimpArgs false
open Go.ChangeShapes Go.WideShapes Go.ChangeAt Go.RowKit
theorem own : ownKnob Tryd.prog.godebug = none := by kernel_rfl
theorem gTab : Tryd.prog.globalNamed "math/bits.deBruijn64tab" = some 1 := by kernel_rfl
theorem gTabType : (Tryd.prog.globals[1]?).map (·.type) = some 120 := by kernel_rfl
theorem cellsTab : Tryd.prog.cellsOf 120 = 64 := by kernel_rfl
theorem cellsU8 : Tryd.prog.cellsOf 5 = 1 := by kernel_rfl
theorem table {W : World} (h : laidMetH Tryd.prog Rows.opsCheckRow.laid W) : TabOk W := by
  have h' : laidMet Tryd.prog (Rows.opsCheckRow.laid.filter fun x => x.2.handleName?.isNone) W ∧ handlesMet Tryd.prog (Rows.opsCheckRow.laid.filter fun x => x.2.handleName?.isSome) W := h
  have h2 : laidMet Tryd.prog [("math/bits.deBruijn64tab", Rows.laid_math_bits_deBruijn64tab)] W := h'.1
  have ht : Lib.TabIs Tryd.prog W "math/bits.deBruijn64tab" .u8 (tzTab.map fun (n : Nat) => (n : Int)) :=
    Lib.tabIs_of_head (rest := []) gTab gTabType Tryd.underlying120 Tryd.underlying5 cellsU8 cellsTab h2
  intro j hj
  have := ht.cell gTab j (by rw [List.length_map]; exact hj)
  rw [this]
  have hl : tzTab.length = 64 := rfl
  congr 2
  rw [List.getD_eq_getElem?_getD, List.getD_eq_getElem?_getD, List.getElem?_map, List.getElem?_eq_getElem (by omega)]
  rfl
theorem gErr : Tryd.prog.globalNamed "errors.errorType" = some 0 := by kernel_rfl
theorem rtErr : (Tryd.prog.cutTypes.find? (·.1 == "internal/reflectlite.rtype")).map (·.2) = some 105 := by kernel_rfl
theorem oneRowErr : ((List.range (251 - 100)).filter fun t => Tryd.prog.rowNamed t [101, 114, 114, 111, 114]) = [32] := by kernel_rfl
theorem sizeErr : Tryd.prog.types.size = 251 - 100 := by kernel_rfl
theorem errT {W : World} (h : laidMetH Tryd.prog Rows.opsCheckRow.laid W) : ErrT W := by
  have h' : laidMet Tryd.prog (Rows.opsCheckRow.laid.filter fun x => x.2.handleName?.isNone) W ∧ handlesMet Tryd.prog (Rows.opsCheckRow.laid.filter fun x => x.2.handleName?.isSome) W := h
  obtain ⟨name, u, ty, e1, e2, e3, e4, e5⟩ := h'.2 _ (List.mem_singleton.2 rfl)
  have en : name = [101, 114, 114, 111, 114] := (Option.some.inj e1).symm
  subst en
  obtain rfl := Option.some.inj (rtErr.symm.trans e2)
  have hm : ty ∈ (List.range (251 - 100)).filter fun t => Tryd.prog.rowNamed t [101, 114, 114, 111, 114] := List.mem_filter.2 ⟨List.mem_range.2 (by rw [← sizeErr]; exact e3), e4⟩
  rw [oneRowErr] at hm
  obtain rfl := List.mem_singleton.1 hm
  have hh : typeHandle Tryd.prog 32 = .pointer (some ⟨2, 32, none⟩) := by kernel_rfl
  rw [hh] at e5
  unfold ErrT
  simpa using World.var?_cell gErr e5 0

set_option maxRecDepth 100000 in
theorem contract (H : Type) (enc : TypeId × Value → H) (W : World) (base : Nat) (args : Array Value) (ds gs : List (DataW H)) (before : List MemPlace)
    (hval : ∀ (j : Nat) t v, Tryd.f3.params[j]? = some t → args[j]? = some v → Value.okWide Tryd.prog W .any base t v)
    (hW : DataW.Whole enc Tryd.prog Tryd.f3.params.toList Rows.opsCheckSpec.vars false W args.toList ds gs before) (hL : laidMetH Tryd.prog Rows.opsCheckRow.laid W) :
    Calls Tryd.prog 3 args W fun e W' => ∃ v, e = .returned v ∧ Rows.opsCheckSpec.post enc Tryd.prog Tryd.f3 false true false false W args v W' := by
  have hW0 := hW
  obtain ⟨p, q, hA, hV, rfl, hfz, hnd⟩ := hW
  rw [Tryd.params3] at hA hval
  obtain ⟨v0, vs0, d0, ds0, p0, q0, hargs0, rfl, rfl, h0, r0⟩ := trodAll_cons hA
  obtain ⟨v1, vs1, d1, ds1, p1, q1, hargs1, rfl, rfl, h1, r1⟩ := trodAll_cons r0
  obtain ⟨v2, vs2, d2, ds2, p2, q2, hargs2, rfl, rfl, h2, r2⟩ := trodAll_cons r1
  obtain ⟨rfl, rfl, rfl⟩ := trodAll_nil r2
  obtain rfl : args = #[v0, v1, v2] := by cases args; simp_all
  obtain ⟨rfl, rfl⟩ := trodVars_none hV
  obtain ⟨fu0, hf0⟩ := h0
  obtain ⟨l0, HA0⟩ := open_ints (hval 0 22 v0 rfl rfl) hf0
  obtain ⟨fu1, hf1⟩ := h1
  obtain ⟨n1, rfl, lo1, hi1⟩ := open_int (hval 1 3 v1 rfl rfl) hf1
  obtain ⟨fu2, hf2⟩ := h2
  obtain ⟨l2, HA2⟩ := open_ops (hval 2 23 v2 rfl rfl) hf2
  refine (walk W _ _ l0 n1 l2 HA0 HA2 (table hL) (errT hL)).mono fun e W' ⟨he, hb⟩ => ⟨_, he, ?_⟩
  exact law_post (by kernel_rfl) (by kernel_rfl) (by kernel_rfl) rfl Tryd.underlying4 hW0 (hb.toBelow (Nat.le_refl _) (fun _ _ h => h.elim)) rfl

noncomputable def laidWorld (os : Os) : World :=
  { World.holding Tryd.prog os ⟨#[], #[], []⟩ with heap := (((World.holding Tryd.prog os ⟨#[], #[], []⟩).heap.modify 1 fun
      | .cells _ t frozen => .cells (tzTab.map fun (n : Nat) => Value.int .u8 n).toArray t frozen
      | o => o).modify 0 fun
      | .cells _ t frozen => .cells #[.iface 105 (.agg #[.pointer (some ⟨2, 32, none⟩)])] t frozen
      | o => o) }
set_option maxRecDepth 100000 in
theorem laid_met (os : Os) : laidMetH Tryd.prog Rows.opsCheckRow.laid ((laidWorld os).forCall (fun _ _ => 0) ⟨#[], #[.slice none 0 0, .int .i64 0, .slice none 0 0], []⟩).memory :=
  laidMetH_of_parts (laidMet_of_run' 8 (by kernel_rfl) (by kernel_rfl)) (by kernel_rfl)
theorem reads (os : Os) {H : Type} (enc : TypeId × Value → H) : ∃ places, DataW.whole enc Tryd.prog ((laidWorld os).forCall (fun _ _ => 0) ⟨#[], #[.slice none 0 0, .int .i64 0, .slice none 0 0], []⟩).memory Tryd.f3.params.toList Rows.opsCheckSpec.vars false (#[.slice none 0 0, .int .i64 0, .slice none 0 0] : Array Value).toList 8 = some ([.nil, .lit (.int .i64 0), .nil], [], places) :=
  ⟨[], by kernel_rfl⟩

set_option maxRecDepth 100000 in
theorem lifted (os : Os) (started : os.Started) (H : Type) (enc : TypeId × Value → H) (F : Stop.Interp) :
    ReturnsInHanded {} Tryd.checked os 3 .any ((OpenSpec.ofChange Rows.opsCheckSpec).preRow enc Tryd.prog Tryd.f3 Rows.opsCheckRow.domain false Rows.opsCheckRow.laid) (((OpenSpec.ofChange Rows.opsCheckSpec).at F).post enc Tryd.prog Tryd.f3 false true false false) := by
  obtain ⟨places, hx⟩ := reads os enc
  refine returnsInHanded_of_row (C := Tryd.checked) (s := OpenSpec.ofChange Rows.opsCheckSpec) own started (by kernel_rfl) Tryd.func3
    (witness_row_at (enc := enc) (C := Tryd.checked) false (laidWorld os) #[.slice none 0 0, .int .i64 0, .slice none 0 0] rfl (by kernel_rfl) (by kernel_rfl) (by kernel_rfl)
      (OpenSpec.preRow_of_cond 8 hx (by kernel_rfl) (fun k hk => by cases hk) (by kernel_rfl) (laid_met os))) ?_
  intro W base args ds gs before hval hW _ _ _ hL _ _
  exact contract H enc W base args ds gs before hval hW hL

theorem said : Rows.OpsCheckSaid :=
  OpenClaim.holds_of_cond 3 Tryd.f3 rfl rfl rfl rfl rfl rfl rfl ⟨rfl, rfl, rfl, rfl, rfl⟩ rfl rfl rfl rfl rfl (by kernel_rfl) Tryd.func3 (by kernel_rfl)
    (of_decide_eq_true (by kernel_rfl)) (by unfold Func.isWrapper; first | (rw [if_pos (by decide +kernel)]; kernel_rfl) | (rw [if_neg (by decide +kernel)]; exact ⟨rfl, rfl⟩))
    (fun os started H enc _ F => by rw [OpenClaim.pre_eq_preRow]; exact lifted os started H enc F)

/-- No parameter wants a stand-in; the program's own looks are off: what the card asks. -/
theorem plain (f : FuncId) (fn : Func) (hf : Tryd.pinned.checked.prog.funcNamed "fairlead/fairleadlaw10.OpsCheck" = some f) (hfn : Tryd.pinned.checked.prog.funcs[f]? = some fn) :
    true = Tryd.pinned.checked.prog.looks [] ∧ ∀ (j : Nat) t, fn.params[j]? = some t → Tryd.pinned.checked.prog.wantsStandIn t = false := by
  obtain rfl : f = 3 := Option.some.inj ((show Tryd.prog.funcNamed "fairlead/fairleadlaw10.OpsCheck" = some 3 by kernel_rfl).symm.trans hf) |>.symm
  obtain rfl : fn = Tryd.f3 := (Option.some.inj (Tryd.func3.symm.trans hfn)).symm
  refine ⟨by kernel_rfl, fun j t ht => ?_⟩
  rw [Tryd.params3] at ht
  have hm : t ∈ (#[22, 3, 23] : Array TypeId) := Array.mem_of_getElem? ht
  have hall : (#[22, 3, 23] : Array TypeId).all (fun t => !Tryd.prog.wantsStandIn t) = true := by kernel_rfl
  have := Array.all_eq_true_iff_forall_mem.1 hall t hm
  show Tryd.prog.wantsStandIn t = false
  simpa using this

/-- THE CARD. -/
theorem card : Rows.OpsCheckCardSaid :=
  Claim7.holds_tied_plain_at .later [] _ _ _ _ said (fun _ h => by cases h) (by kernel_rfl) (fun _ h => by cases h) opsCheck_row_tie rfl ⟨rfl, rfl⟩ (by kernel_rfl) rfl plain (by kernel_rfl)
end Go.Proofs.YtdhcnmljkmodhaaDoor.opsCheck
