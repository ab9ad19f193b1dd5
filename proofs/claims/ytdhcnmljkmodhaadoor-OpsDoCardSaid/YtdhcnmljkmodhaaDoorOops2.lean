/- errors.as, errors.As by their contracts, at chains of *oops.Place over a *oops.Fault, an api.Errno or a *errors.errorString; targets *api.Errno, **oops.Fault, **oops.Place. -/
import Derived.Test.YtdhcnmljkmodhaaDoorOops1
import Derived.Deep.LoopGhost
namespace Go.Proofs.YtdhcnmljkmodhaaDoor
set_option linter.unusedSectionVars false
set_option linter.unusedVariables false
set_option linter.unusedSimpArgs false
open Go.RowKit Go.Extern.Stop Go.Stop Go.Extern

/-- What lies at the bottom of an error. -/
inductive EB where
  | fault (b : Nat) (c a : Int)
  | errno (c : Int)
def EB.val : EB → Value
  | .fault b _ _ => .iface 70 (.pointer (some ⟨b, 0, none⟩))
  | .errno c => .iface 49 (.int .i64 c)
def EB.ok (w : World) : EB → Prop
  | .fault b c a => w.cell? ⟨b, 0, none⟩ = some (.int .i64 c) ∧ w.cell? ⟨b, 1, none⟩ = some (.int .i64 a)
  | _ => True
/-- An error: places, the outermost first, over what lies at the bottom. -/
def chainV : List (Nat × ByteArray) → EB → Value
  | [], b => b.val
  | (p, _) :: _, _ => .iface 74 (.pointer (some ⟨p, 0, none⟩))
def ChainOk (w : World) : List (Nat × ByteArray) → EB → Prop
  | [], b => b.ok w
  | (p, s) :: r, b => w.cell? ⟨p, 0, none⟩ = some (.string s) ∧ w.cell? ⟨p, 1, none⟩ = some (chainV r b) ∧ ChainOk w r b
theorem EB.ok.keeps {w w' : World} {b : EB} (h : b.ok w) (hk : Keeps w w' (fun _ => False)) : b.ok w' := by
  cases b with
  | fault b c a => exact ⟨by rw [← h.1]; exact World.cell?_of_block (hk.block _ (World.block_lt_of_cell? w _ h.1) id), by rw [← h.2]; exact World.cell?_of_block (hk.block _ (World.block_lt_of_cell? w _ h.2) id)⟩
  | errno c => trivial
theorem ChainOk.keeps {w w' : World} {l : List (Nat × ByteArray)} {b : EB} (h : ChainOk w l b) (hk : Keeps w w' (fun _ => False)) : ChainOk w' l b := by
  induction l with
  | nil => exact EB.ok.keeps h hk
  | cons x r ih =>
    obtain ⟨p, s⟩ := x
    obtain ⟨h1, h2, h3⟩ := h
    exact ⟨by rw [← h1]; exact World.cell?_of_block (hk.block _ (World.block_lt_of_cell? w _ h1) id), by rw [← h2]; exact World.cell?_of_block (hk.block _ (World.block_lt_of_cell? w _ h2) id), ih h3⟩

/-- (*Fault).Unwrap: the number. -/
theorem unwrapFault_any (b : Nat) (c : Int) (w : World) (h : w.cell? ⟨b, 0, none⟩ = some (.int .i64 c)) : Calls Tryd.prog 89 #[.pointer (some ⟨b, 0, none⟩)] w fun e w' => e = .returned (.iface 49 (.int .i64 c)) ∧ w = w' := by
  go_enter Tryd.func89, Tryd.ntmps89
  go_wp2
  go_ret
  exact ⟨rfl, rfl⟩
theorem unwrapPlace_any (p : Nat) (v : Value) (w : World) (h : w.cell? ⟨p, 1, none⟩ = some v) (h1 : v.oneCell' = true) : Calls Tryd.prog 91 #[.pointer (some ⟨p, 0, none⟩)] w fun e w' => e = .returned v ∧ w = w' := by
  go_enter Tryd.func91, Tryd.ntmps91
  go_wp2
  go_ret
  exact ⟨rfl, rfl⟩

theorem chainV_one (l : List (Nat × ByteArray)) (b : EB) : (chainV l b).oneCell' = true := by
  cases l with
  | nil => cases b <;> rfl
  | cons x r => rfl
theorem chainV_iface (l : List (Nat × ByteArray)) (b : EB) : ∃ T V, chainV l b = .iface T V := by
  cases l with
  | nil => cases b <;> exact ⟨_, _, rfl⟩
  | cons x r => exact ⟨_, _, rfl⟩
@[go_sem] theorem run_eq_chain (l : List (Nat × ByteArray)) (b : EB) (W : World) : (binOp .eql 32 (chainV l b) .nilIface).run Tryd.prog W = .ok (.bool false) W := by
  obtain ⟨T, V, h⟩ := chainV_iface l b
  rw [h]
  simp [go_sem]
@[go_sem] theorem run_neq_chain (l : List (Nat × ByteArray)) (b : EB) (W : World) : (binOp .neq 32 (chainV l b) .nilIface).run Tryd.prog W = .ok (.bool true) W := by
  obtain ⟨T, V, h⟩ := chainV_iface l b
  rw [h]
  simp [go_sem]
@[go_sem] theorem run_guard_chain (op : BinOp) (x y : Operand) (l : List (Nat × ByteArray)) (b : EB) (W : World) : (eqGuard op 32 x y (chainV l b) .nilIface).run Tryd.prog W = .ok () W := by
  obtain ⟨T, V, h⟩ := chainV_iface l b
  rw [h]
  cases op <;> simp [eqGuard, go_sem]
/-- Its number. -/
def EB.code : EB → Option Int
  | .fault _ c _ => some c
  | .errno c => some c
def EB.deep : EB → Nat
  | .fault _ _ _ => 2
  | _ => 1

/-- The target is set; nothing else that was there has turned. -/
structure AsHit (w : World) (t : Addr) (v : Value) (w' : World) : Prop where
  keep : Keeps w w' (fun j => j = t.block)
  cell : w'.cell? t = some v
theorem AsHit.of {w : World} {t : Addr} (htl : t.block < w.heap.size) (o1 o2 : Obj) (v : Value) {old : Value} (ht : w.cell? t = some old) : AsHit w t v (((w.alloc o1).alloc o2).setCell t v) := by
  refine ⟨Keeps.setCell (S := fun j => j = t.block) (((Keeps.refl _ _).alloc _).alloc _) (fun _ => rfl) _, ?_⟩
  have h : ((w.alloc o1).alloc o2).cell? t = some old := by rw [World.cell?_alloc_lt _ _ t (by simp; omega), World.cell?_alloc_lt _ _ t htl]; exact ht
  exact World.cell?_setCell_same _ _ _ h

set_option maxHeartbeats 4000000 in
theorem as_place_hit (p : Nat) (s : ByteArray) (r : List (Nat × ByteArray)) (b : EB) (a t : Addr) (old : Value) (w : World) (ha : w.cell? a = some (.pointer (some t))) (ht : w.cell? t = some old) (hf : w.frozen? t = false) :
    Calls Tryd.prog 55 #[chainV ((p, s) :: r) b, .iface 75 (.pointer (some t)), .agg #[.pointer (some ⟨2, 75, none⟩), .pointer (some a), .int .u64 150], .iface 105 (.agg #[.pointer (some ⟨2, 74, none⟩)])] w fun e w' => e = .returned (.bool true) ∧ AsHit w t (.pointer (some ⟨p, 0, none⟩)) w' := by
  have HT := Lib.hid ht
  have hal : a.block < w.heap.size := World.block_lt_of_cell? w _ ha
  have htl : t.block < w.heap.size := World.block_lt_of_cell? w _ ht
  have ha1 : (w.alloc (.cells #[.pointer (some ⟨2, 75, none⟩), .pointer (some a), .int .u64 150] 88)).cell? a = some (.pointer (some t)) := by rw [World.cell?_alloc_lt _ _ a hal]; exact ha
  have el := rl_elemVPlace a t (w.alloc (.cells #[.pointer (some ⟨2, 75, none⟩), .pointer (some a), .int .u64 150] 88)) ha1
  have st := rl_setPlace t ⟨w.heap.size + 1, 0, none⟩ (⟨p, 0, none⟩) old ((w.alloc (.cells #[.pointer (some ⟨2, 75, none⟩), .pointer (some a), .int .u64 150] 88)).alloc (.cells #[.pointer (some ⟨p, 0, none⟩)] 74))
    (by rw [World.cell?_alloc_at _ _ _ _ (by simp)]; rfl)
    (by rw [World.cell?_alloc_lt _ _ t (by simp; omega), World.cell?_alloc_lt _ _ t htl]; exact ht)
    (by rw [World.frozen?_alloc_old _ _ t (by simp; omega), World.frozen?_alloc_old _ _ t (Nat.ne_of_lt htl)]; exact hf)
  clear ha ht hf ha1
  unfold chainV
  go_enter Tryd.func55, Tryd.ntmps55
  go_wp2
  refine wp_loop_rounds 1 ?_
  rw [rounds_succ]
  go_wp2
  go_ret
  exact ⟨rfl, AsHit.of htl _ _ _ HT.out⟩

set_option maxHeartbeats 4000000 in
theorem as_place_miss (b : EB) (a t : Addr) (w : World) (hok : b.ok w) :
    Calls Tryd.prog 55 #[b.val, .iface 75 (.pointer (some t)), .agg #[.pointer (some ⟨2, 75, none⟩), .pointer (some a), .int .u64 150], .iface 105 (.agg #[.pointer (some ⟨2, 74, none⟩)])] w fun e w' => e = .returned (.bool false) ∧ Keeps w w' (fun _ => False) := by
  have HOK := Lib.hid (EB.ok.keeps hok ((Keeps.refl w (fun _ => False)).alloc (.cells #[.pointer (some ⟨2, 75, none⟩), .pointer (some a), .int .u64 150] 88)))
  clear hok
  cases b with
  | fault g c f =>
    obtain ⟨h1, _⟩ := HOK.out
    clear HOK
    show Calls _ _ #[.iface 70 (.pointer (some ⟨g, 0, none⟩)), _, _, _] _ _
    go_enter Tryd.func55, Tryd.ntmps55
    go_wp2
    refine wp_loop_rounds 2 ?_
    rw [rounds_succ]
    go_wp2_with (first | (go_at_call 91; refine (unwrapPlace_any _ _ _ (by assumption) (chainV_one _ _)).mono ?_; rintro e w' ⟨rfl, rfl⟩) | (go_at_call 89; refine (unwrapFault_any _ _ _ (by assumption)).mono ?_; rintro e w' ⟨rfl, rfl⟩))
    rw [rounds_succ]
    go_wp2
    go_ret
    exact ⟨rfl, (Keeps.refl _ _).alloc _⟩
  | errno c =>
    clear HOK
    show Calls _ _ #[.iface 49 (.int .i64 c), _, _, _] _ _
    go_enter Tryd.func55, Tryd.ntmps55
    go_wp2
    refine wp_loop_rounds 1 ?_
    rw [rounds_succ]
    go_wp2
    go_ret
    exact ⟨rfl, (Keeps.refl _ _).alloc _⟩

set_option maxHeartbeats 4000000 in
theorem as_fault_miss (l : List (Nat × ByteArray)) (b : EB) (hb : ∀ g c f, b ≠ .fault g c f) (a t : Addr) (w : World) (hok : ChainOk w l b) :
    Calls Tryd.prog 55 #[chainV l b, .iface 71 (.pointer (some t)), .agg #[.pointer (some ⟨2, 71, none⟩), .pointer (some a), .int .u64 150], .iface 105 (.agg #[.pointer (some ⟨2, 70, none⟩)])] w fun e w' => e = .returned (.bool false) ∧ Keeps w w' (fun _ => False) := by
  have HB := Lib.hid hb
  clear hb
  have HOK := Lib.hid (hok.keeps ((Keeps.refl w (fun _ => False)).alloc (.cells #[.pointer (some ⟨2, 71, none⟩), .pointer (some a), .int .u64 150] 88)))
  clear hok
  go_enter Tryd.func55, Tryd.ntmps55
  go_wp2
  obtain ⟨w1, hw1⟩ : ∃ w1, w.alloc (.cells #[.pointer (some ⟨2, 71, none⟩), .pointer (some a), .int .u64 150] 88) = w1 := ⟨_, rfl⟩
  have HW := Lib.hid hw1
  have HOK1 : Hid (ChainOk w1 l b) := Lib.hid (hw1 ▸ HOK.out)
  rw [hw1]
  clear hw1 HOK
  go_loopg [0] (l.length + 2) (fun k v wr => ∃ l' b', v = chainV l' b' ∧ wr = w1 ∧ ChainOk w1 l' b' ∧ b' = b ∧ l'.length + 1 ≤ k)
  case atStart => exact ⟨l, b, rfl, rfl, HOK1.out, ⟨rfl, by omega⟩⟩
  case round =>
    obtain ⟨l', b', rfl, rfl, hc, hk⟩ := hrel
    cases l' with
    | cons x r =>
      obtain ⟨q, s⟩ := x
      obtain ⟨c0, c1, c2⟩ := hc
      have HC := Lib.hid c2
      have HK := Lib.hid hk
      clear c2 c0 hk HOK1
      rw [show chainV ((q, s) :: r) b' = .iface 74 (.pointer (some ⟨q, 0, none⟩)) from rfl]
      go_wp2_with (first | (go_at_call 91; refine (unwrapPlace_any _ _ _ (by assumption) (chainV_one _ _)).mono ?_; rintro e w' ⟨rfl, rfl⟩) | (go_at_call 89; refine (unwrapFault_any _ _ _ (by assumption)).mono ?_; rintro e w' ⟨rfl, rfl⟩))
      go_roundg (gk - 1)
      case measure =>
        have := HK.out
        simp at this
        omega
      case rel => exact ⟨r, b', rfl, rfl, HC.out, by have := HK.out; simp at this ⊢; exact ⟨this.1, by omega⟩⟩
    | nil =>
      obtain ⟨rfl, hk'⟩ := hk
      clear hc hk' HOK1
      cases b' with
      | fault g c f => exact absurd rfl (HB.out g c f)
      | errno c =>
        rw [show chainV [] (.errno c) = .iface 49 (.int .i64 c) from rfl]
        go_wp2
        go_ret
        refine ⟨rfl, ?_⟩
        rw [← HW.out]
        exact (Keeps.refl _ _).alloc _
end Go.Proofs.YtdhcnmljkmodhaaDoor
