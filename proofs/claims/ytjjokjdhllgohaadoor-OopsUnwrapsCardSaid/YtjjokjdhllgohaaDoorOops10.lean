/- errors.Is, oops.Is by their contracts. -/
import Derived.Test.YtjjokjdhllgohaaDoorOops9
namespace Go.Proofs.YtjjokjdhllgohaaDoor
set_option linter.unusedSectionVars false
set_option linter.unusedVariables false
set_option linter.unusedSimpArgs false
open Go.RowKit Go.Extern.Stop Go.Stop Go.Extern

@[go_sem] theorem rl_methodComparable (h : Value) (w : World) : (Go.method 219 75 (.agg #[h]) "Comparable").run Tryd.prog w = .ok (58, .agg #[h]) w := by kernel_rfl
theorem rl_callComparable (args : Array Value) (w : World) : (callFunc 58 args).run Tryd.prog w = (((ReflectliteType.method fun t => do Rtype.noPackHeld "Comparable" t; pure (.bool (← typeInfo t).comparable)) args).run Tryd.prog w).andThen fun v w' => .ok (.value v) w' := run_callFunc_extern Tryd.func58 (by kernel_rfl) (by kernel_rfl) (by kernel_rfl) (by kernel_rfl) args w
theorem rl_compErrno (w : World) : ((ReflectliteType.method fun t => do Rtype.noPackHeld "Comparable" t; pure (.bool (← typeInfo t).comparable)) #[.agg #[.pointer (some ⟨1, 22, none⟩)]]).run Tryd.prog w = .ok (.bool true) w := by kernel_rfl
theorem rl_compOther (w : World) : ((ReflectliteType.method fun t => do Rtype.noPackHeld "Comparable" t; pure (.bool (← typeInfo t).comparable)) #[.agg #[.pointer (some ⟨1, 71, none⟩)]]).run Tryd.prog w = .ok (.bool true) w := by kernel_rfl
@[go_sem] theorem rl_callCompErrno (w : World) : (callFunc 58 #[.agg #[.pointer (some ⟨1, 22, none⟩)]]).run Tryd.prog w = .ok (.value (.bool true)) w := by
  rw [rl_callComparable, rl_compErrno]; rfl
@[go_sem] theorem rl_callCompOther (w : World) : (callFunc 58 #[.agg #[.pointer (some ⟨1, 71, none⟩)]]).run Tryd.prog w = .ok (.value (.bool true)) w := by
  rw [rl_callComparable, rl_compOther]; rfl
@[go_sem] theorem rl_noIsErrno (v : Value) (xT : TypeId) (w : World) : (Instr.typeAssert (.iface 22 v) xT 77 true).run Tryd.prog w = .ok (.tuple #[.nilIface, .bool false]) w := run_typeAssert_lacksB Tryd.underlying77 (by kernel_rfl) (by kernel_rfl) v xT w
@[go_sem] theorem rl_noIsFault (v : Value) (xT : TypeId) (w : World) : (Instr.typeAssert (.iface 39 v) xT 77 true).run Tryd.prog w = .ok (.tuple #[.nilIface, .bool false]) w := run_typeAssert_lacksB Tryd.underlying77 (by kernel_rfl) (by kernel_rfl) v xT w
@[go_sem] theorem rl_noIsPlace (v : Value) (xT : TypeId) (w : World) : (Instr.typeAssert (.iface 49 v) xT 77 true).run Tryd.prog w = .ok (.tuple #[.nilIface, .bool false]) w := run_typeAssert_lacksB Tryd.underlying77 (by kernel_rfl) (by kernel_rfl) v xT w
@[go_sem] theorem rl_noIsOther (v : Value) (xT : TypeId) (w : World) : (Instr.typeAssert (.iface 71 v) xT 77 true).run Tryd.prog w = .ok (.tuple #[.nilIface, .bool false]) w := run_typeAssert_lacksB Tryd.underlying77 (by kernel_rfl) (by kernel_rfl) v xT w

@[go_sem] theorem rl_eqPE (u v : Value) (w : World) : (binOp .eql 26 (.iface 49 u) (.iface 22 v)).run Tryd.prog w = .ok (.bool false) w := run_eql_iface_types _ _ _ _ Tryd.underlying26 (by decide) w
@[go_sem] theorem rl_eqFE (u v : Value) (w : World) : (binOp .eql 26 (.iface 39 u) (.iface 22 v)).run Tryd.prog w = .ok (.bool false) w := run_eql_iface_types _ _ _ _ Tryd.underlying26 (by decide) w
@[go_sem] theorem rl_eqPO (u v : Value) (w : World) : (binOp .eql 26 (.iface 49 u) (.iface 71 v)).run Tryd.prog w = .ok (.bool false) w := run_eql_iface_types _ _ _ _ Tryd.underlying26 (by decide) w
theorem infoErrno : (Tryd.prog.info? 22).map (fun i => i.comparable) = some true := by kernel_rfl
@[go_sem] theorem rl_eqEE (c d : Int) (w : World) : (binOp .eql 26 (.iface 22 (.int .i64 c)) (.iface 22 (.int .i64 d))).run Tryd.prog w = .ok (.bool (c == d)) w := by
  obtain ⟨i, hi, hc⟩ := Option.map_eq_some_iff.1 infoErrno
  have h : ∀ k : Nat, (Op.equalIn (k + 2) 26 (.iface 22 (.int .i64 c)) (.iface 22 (.int .i64 d))).run Tryd.prog w = .ok (c == d) w := fun k => by
    simp [Op.equalIn, run_underlying Tryd.underlying26, run_underlying Tryd.underlying22, typeInfo, hi, hc]
  simp only [binOp]
  simp [Op.equal, Op.maxDepth, h 9998]
theorem infoOther : (Tryd.prog.info? 71).map (fun i => i.comparable) = some true := by kernel_rfl
theorem infoOtherE : (Tryd.prog.info? 73).isSome = true := by kernel_rfl
@[go_sem] theorem rl_eqOO (a : Addr) (w : World) : (binOp .eql 26 (.iface 71 (.pointer (some a))) (.iface 71 (.pointer (some a)))).run Tryd.prog w = .ok (.bool true) w := by
  obtain ⟨i, hi, hc⟩ := Option.map_eq_some_iff.1 infoOther
  obtain ⟨j, hj⟩ := Option.isSome_iff_exists.1 infoOtherE
  exact run_eql_iface_ptr_same w a Tryd.underlying26 Tryd.underlying71 hi hc hj
@[go_sem] theorem rl_guardEE (op : BinOp) (x y : Operand) (s t : TypeId) (u v : Value) (w : World) : (eqGuard op 26 x y (.iface s u) (.iface t v)).run Tryd.prog w = .ok () w := by
  cases op <;> simp [eqGuard, go_sem]

set_option maxHeartbeats 4000000 in
theorem is_errno (l : List (Nat × ByteArray)) (b : EB) (c d : Int) (hb : b.code = some d) (w : World) (hok : ChainOk w l b) :
    Calls Tryd.prog 25 #[chainV l b, .iface 22 (.int .i64 c), .bool true] w fun e w' => e = .returned (.bool (d == c)) ∧ w = w' := by
  have HOK := Lib.hid hok
  have HB := Lib.hid hb
  clear hok hb
  go_enter Tryd.func25, Tryd.ntmps25
  go_wp2
  go_loopg [0] (l.length + 2) (fun k v wr => ∃ l' b', v = chainV l' b' ∧ wr = w ∧ ChainOk w l' b' ∧ b'.code = some d ∧ l'.length + b'.deep ≤ k)
  case atStart => exact ⟨l, b, rfl, rfl, HOK.out, HB.out, by cases b <;> simp [EB.deep]⟩
  case round =>
    obtain ⟨l', b', rfl, rfl, hc, hk⟩ := hrel
    cases l' with
    | cons x r =>
      obtain ⟨q, s⟩ := x
      obtain ⟨c0, c1, c2⟩ := hc
      have HC := Lib.hid c2
      have HK := Lib.hid hk
      clear c2 c0 hk HOK
      rw [show chainV ((q, s) :: r) b' = .iface 49 (.pointer (some ⟨q, 0, none⟩)) from rfl]
      go_wp2_with (first | (go_at_call 22; refine (unwrapPlace_any _ _ _ (by assumption) (chainV_one _ _)).mono ?_; rintro e w' ⟨rfl, rfl⟩) | (go_at_call 21; refine (unwrapFault_any _ _ _ (by assumption)).mono ?_; rintro e w' ⟨rfl, rfl⟩))
      go_roundg (gk - 1)
      case measure =>
        have := HK.out
        simp at this
        omega
      case rel => exact ⟨r, b', rfl, rfl, HC.out, by have := HK.out; simp at this ⊢; exact ⟨this.1, by omega⟩⟩
    | nil =>
      have HK := Lib.hid hk
      clear hk HOK
      cases b' with
      | fault g c' f =>
        obtain ⟨c0, _⟩ := hc
        rw [show chainV [] (.fault g c' f) = .iface 39 (.pointer (some ⟨g, 0, none⟩)) from rfl]
        go_wp2_with (first | (go_at_call 22; refine (unwrapPlace_any _ _ _ (by assumption) (chainV_one _ _)).mono ?_; rintro e w' ⟨rfl, rfl⟩) | (go_at_call 21; refine (unwrapFault_any _ _ _ (by assumption)).mono ?_; rintro e w' ⟨rfl, rfl⟩))
        go_roundg (gk - 1)
        case measure =>
          have := HK.out
          simp [EB.deep] at this
          omega
        case rel => exact ⟨[], .errno c', rfl, rfl, trivial, by have := HK.out; simp [EB.deep, EB.code] at this ⊢; exact ⟨this.1, by omega⟩⟩
      | errno c' =>
        obtain rfl : c' = d := by have := HK.out.1; simpa [EB.code] using this
        rw [show chainV [] (.errno c') = .iface 22 (.int .i64 c') from rfl]
        clear hc HK
        cases hq : (c' == c) with
        | true =>
          go_wp2
          go_ret
          exact ⟨by rw [hq]; rfl, rfl⟩
        | false =>
          go_wp2
          go_ret
          exact ⟨by rw [hq]; rfl, rfl⟩
      | other g => exact absurd HK.out.1 (by simp [EB.code])
set_option maxRecDepth 20000 in
theorem Is_errno (l : List (Nat × ByteArray)) (b : EB) (c d : Int) (hb : b.code = some d) (w : World) (hok : ChainOk w l b) :
    Calls Tryd.prog 16 #[chainV l b, .iface 22 (.int .i64 c)] w fun e w' => e = .returned (.bool (d == c)) ∧ w = w' := by
  have HOK := Lib.hid hok
  have HB := Lib.hid hb
  clear hok hb
  go_enter Tryd.func16, Tryd.ntmps16
  go_wp2_with fail
  refine (is_errno l b c d HB.out _ HOK.out).mono ?_
  rintro e w' ⟨rfl, rfl⟩
  go_wp2_with fail
  go_ret
  exact ⟨rfl, rfl⟩
set_option maxRecDepth 20000 in
theorem Is_nil (c : Int) (w : World) :
    Calls Tryd.prog 16 #[.nilIface, .iface 22 (.int .i64 c)] w fun e w' => e = .returned (.bool false) ∧ w = w' := by
  have h := run_eql_iface_nil_left (P := Tryd.prog) (w := w) 22 (.int .i64 c) Tryd.underlying26
  go_enter Tryd.func16, Tryd.ntmps16
  go_wp2
  go_ret
  exact ⟨rfl, rfl⟩
theorem oIs_errno (l : List (Nat × ByteArray)) (b : EB) (c d : Int) (hb : b.code = some d) (w : World) (hok : ChainOk w l b) : Calls Tryd.prog 17 #[chainV l b, .int .i64 c] w fun e w' => e = .returned (.bool (d == c)) ∧ w = w' := by have HOK := Lib.hid hok; have HB := Lib.hid hb; clear hok hb; go_enter Tryd.func17, Tryd.ntmps17; go_wp2_with fail; refine (Is_errno l b c d HB.out _ HOK.out).mono ?_; rintro e w' ⟨rfl, rfl⟩; go_wp2_with fail; go_ret; exact ⟨rfl, rfl⟩
theorem oIs_nil (c : Int) (w : World) : Calls Tryd.prog 17 #[.nilIface, .int .i64 c] w fun e w' => e = .returned (.bool false) ∧ w = w' := by go_enter Tryd.func17, Tryd.ntmps17; go_wp2_with fail; refine (Is_nil c _).mono ?_; rintro e w' ⟨rfl, rfl⟩; go_wp2_with fail; go_ret; exact ⟨rfl, rfl⟩
end Go.Proofs.YtjjokjdhllgohaaDoor
