/- errors.as at chains that hold a number, or a fault. -/
import Derived.Test.YtdhcnmljkmodhaaDoorOops2
namespace Go.Proofs.YtdhcnmljkmodhaaDoor
set_option linter.unusedSectionVars false
set_option linter.unusedVariables false
set_option linter.unusedSimpArgs false
open Go.RowKit Go.Extern.Stop Go.Stop Go.Extern

set_option maxHeartbeats 4000000 in
theorem as_fault_hit (l : List (Nat × ByteArray)) (g : Nat) (c f : Int) (a t : Addr) (old : Value) (w : World) (ha : w.cell? a = some (.pointer (some t))) (ht : w.cell? t = some old) (hf : w.frozen? t = false) (hok : ChainOk w l (.fault g c f)) :
    Calls Tryd.prog 55 #[chainV l (.fault g c f), .iface 71 (.pointer (some t)), .agg #[.pointer (some ⟨2, 71, none⟩), .pointer (some a), .int .u64 150], .iface 105 (.agg #[.pointer (some ⟨2, 70, none⟩)])] w fun e w' => e = .returned (.bool true) ∧ AsHit w t (.pointer (some ⟨g, 0, none⟩)) w' := by
  have HT := Lib.hid ht
  have hal : a.block < w.heap.size := World.block_lt_of_cell? w _ ha
  have htl : t.block < w.heap.size := World.block_lt_of_cell? w _ ht
  have ha1 : (w.alloc (.cells #[.pointer (some ⟨2, 71, none⟩), .pointer (some a), .int .u64 150] 88)).cell? a = some (.pointer (some t)) := by rw [World.cell?_alloc_lt _ _ a hal]; exact ha
  have el := rl_elemVFault a t (w.alloc (.cells #[.pointer (some ⟨2, 71, none⟩), .pointer (some a), .int .u64 150] 88)) ha1
  have st := rl_setFault t ⟨(w.alloc (.cells #[.pointer (some ⟨2, 71, none⟩), .pointer (some a), .int .u64 150] 88)).heap.size, 0, none⟩ (⟨g, 0, none⟩) old ((w.alloc (.cells #[.pointer (some ⟨2, 71, none⟩), .pointer (some a), .int .u64 150] 88)).alloc (.cells #[.pointer (some ⟨g, 0, none⟩)] 70))
    (by rw [World.cell?_alloc_at _ _ _ _ (by simp)]; rfl)
    (by rw [World.cell?_alloc_lt _ _ t (by simp; omega), World.cell?_alloc_lt _ _ t htl]; exact ht)
    (by rw [World.frozen?_alloc_old _ _ t (by simp; omega), World.frozen?_alloc_old _ _ t (Nat.ne_of_lt htl)]; exact hf)
  clear ha ht hf ha1
  have HOK := Lib.hid (hok.keeps ((Keeps.refl w (fun _ => False)).alloc (.cells #[.pointer (some ⟨2, 71, none⟩), .pointer (some a), .int .u64 150] 88)))
  clear hok
  go_enter Tryd.func55, Tryd.ntmps55
  go_wp2
  obtain ⟨w1, hw1⟩ : ∃ w1, w.alloc (.cells #[.pointer (some ⟨2, 71, none⟩), .pointer (some a), .int .u64 150] 88) = w1 := ⟨_, rfl⟩
  have HW := Lib.hid hw1
  have HOK1 : Hid (ChainOk w1 l (.fault g c f)) := Lib.hid (hw1 ▸ HOK.out)
  have b0 : w1.cell? ⟨w.heap.size, 0, none⟩ = some (.pointer (some ⟨2, 71, none⟩)) := by rw [← hw1]; simp
  have b1 : w1.cell? ⟨w.heap.size, 1, none⟩ = some (.pointer (some a)) := by rw [← hw1]; simp
  have b2 : w1.cell? ⟨w.heap.size, 2, none⟩ = some (.int .u64 150) := by rw [← hw1]; simp
  rw [hw1] at el st
  rw [hw1]
  clear hw1 HOK
  go_loopg [0] (l.length + 2) (fun k v wr => ∃ l' b', v = chainV l' b' ∧ wr = w1 ∧ ChainOk w1 l' b' ∧ b' = .fault g c f ∧ l'.length + 1 ≤ k)
  case atStart => exact ⟨l, (.fault g c f), rfl, rfl, HOK1.out, ⟨rfl, by omega⟩⟩
  case round =>
    obtain ⟨l', b', rfl, rfl, hc, hk⟩ := hrel
    cases l' with
    | cons x r =>
      obtain ⟨q, s⟩ := x
      obtain ⟨c0, c1, c2⟩ := hc
      have HC := Lib.hid c2
      have HK := Lib.hid hk
      clear c2 c0 hk HOK1
      rw [show chainV ((q, s) :: r) b' = .iface 74 (.pointer (some ⟨q, 0, none⟩)) from rfl]
      go_wp2_with (first | (go_at_call 91; refine (unwrapPlace_any _ _ _ (by assumption) (chainV_one _ _)).mono ?_; rintro e w' ⟨rfl, rfl⟩) | (go_at_call 89; refine (unwrapFault_any _ _ _ (by assumption)).mono ?_; rintro e w' ⟨rfl, rfl⟩))
      go_roundg (gk - 1)
      case measure =>
        have := HK.out
        simp at this
        omega
      case rel => exact ⟨r, b', rfl, rfl, HC.out, by have := HK.out; simp at this ⊢; exact ⟨this.1, by omega⟩⟩
    | nil =>
      obtain ⟨rfl, hk'⟩ := hk
      clear hc hk' HOK1
      rw [show chainV [] (.fault g c f) = .iface 70 (.pointer (some ⟨g, 0, none⟩)) from rfl]
      go_wp2
      go_ret
      refine ⟨rfl, ?_⟩
      rw [← HW.out]
      exact AsHit.of htl _ _ _ HT.out

set_option maxHeartbeats 4000000 in
theorem as_errno_hit (l : List (Nat × ByteArray)) (b : EB) (c : Int) (hb : b.code = some c) (a t : Addr) (old : Value) (w : World) (ha : w.cell? a = some (.pointer (some t))) (ht : w.cell? t = some old) (hf : w.frozen? t = false) (hok : ChainOk w l b) :
    Calls Tryd.prog 55 #[chainV l b, .iface 69 (.pointer (some t)), .agg #[.pointer (some ⟨2, 69, none⟩), .pointer (some a), .int .u64 150], .iface 105 (.agg #[.pointer (some ⟨2, 49, none⟩)])] w fun e w' => e = .returned (.bool true) ∧ AsHit w t (.int .i64 c) w' := by
  have HT := Lib.hid ht
  have hal : a.block < w.heap.size := World.block_lt_of_cell? w _ ha
  have htl : t.block < w.heap.size := World.block_lt_of_cell? w _ ht
  have ha1 : (w.alloc (.cells #[.pointer (some ⟨2, 69, none⟩), .pointer (some a), .int .u64 150] 88)).cell? a = some (.pointer (some t)) := by rw [World.cell?_alloc_lt _ _ a hal]; exact ha
  have el := rl_elemVErrno a t (w.alloc (.cells #[.pointer (some ⟨2, 69, none⟩), .pointer (some a), .int .u64 150] 88)) ha1
  have st := rl_setErrno t ⟨(w.alloc (.cells #[.pointer (some ⟨2, 69, none⟩), .pointer (some a), .int .u64 150] 88)).heap.size, 0, none⟩ (c) old ((w.alloc (.cells #[.pointer (some ⟨2, 69, none⟩), .pointer (some a), .int .u64 150] 88)).alloc (.cells #[.int .i64 c] 49))
    (by rw [World.cell?_alloc_at _ _ _ _ (by simp)]; rfl)
    (by rw [World.cell?_alloc_lt _ _ t (by simp; omega), World.cell?_alloc_lt _ _ t htl]; exact ht)
    (by rw [World.frozen?_alloc_old _ _ t (by simp; omega), World.frozen?_alloc_old _ _ t (Nat.ne_of_lt htl)]; exact hf)
  clear ha ht hf ha1
  have HB := Lib.hid hb
  clear hb
  have HOK := Lib.hid (hok.keeps ((Keeps.refl w (fun _ => False)).alloc (.cells #[.pointer (some ⟨2, 69, none⟩), .pointer (some a), .int .u64 150] 88)))
  clear hok
  go_enter Tryd.func55, Tryd.ntmps55
  go_wp2
  obtain ⟨w1, hw1⟩ : ∃ w1, w.alloc (.cells #[.pointer (some ⟨2, 69, none⟩), .pointer (some a), .int .u64 150] 88) = w1 := ⟨_, rfl⟩
  have HW := Lib.hid hw1
  have HOK1 : Hid (ChainOk w1 l b) := Lib.hid (hw1 ▸ HOK.out)
  have b0 : w1.cell? ⟨w.heap.size, 0, none⟩ = some (.pointer (some ⟨2, 69, none⟩)) := by rw [← hw1]; simp
  have b1 : w1.cell? ⟨w.heap.size, 1, none⟩ = some (.pointer (some a)) := by rw [← hw1]; simp
  have b2 : w1.cell? ⟨w.heap.size, 2, none⟩ = some (.int .u64 150) := by rw [← hw1]; simp
  rw [hw1] at el st
  rw [hw1]
  clear hw1 HOK
  go_loopg [0] (l.length + 2) (fun k v wr => ∃ l' b', v = chainV l' b' ∧ wr = w1 ∧ ChainOk w1 l' b' ∧ b'.code = some c ∧ l'.length + b'.deep ≤ k)
  case atStart => exact ⟨l, b, rfl, rfl, HOK1.out, ⟨HB.out, by cases b <;> simp [EB.deep]⟩⟩
  case round =>
    obtain ⟨l', b', rfl, rfl, hc, hk⟩ := hrel
    cases l' with
    | cons x r =>
      obtain ⟨q, s⟩ := x
      obtain ⟨c0, c1, c2⟩ := hc
      have HC := Lib.hid c2
      have HK := Lib.hid hk
      clear c2 c0 hk HOK1
      rw [show chainV ((q, s) :: r) b' = .iface 74 (.pointer (some ⟨q, 0, none⟩)) from rfl]
      go_wp2_with (first | (go_at_call 91; refine (unwrapPlace_any _ _ _ (by assumption) (chainV_one _ _)).mono ?_; rintro e w' ⟨rfl, rfl⟩) | (go_at_call 89; refine (unwrapFault_any _ _ _ (by assumption)).mono ?_; rintro e w' ⟨rfl, rfl⟩))
      go_roundg (gk - 1)
      case measure =>
        have := HK.out
        simp at this
        omega
      case rel => exact ⟨r, b', rfl, rfl, HC.out, by have := HK.out; simp at this ⊢; exact ⟨this.1, by omega⟩⟩
    | nil =>
      have HK := Lib.hid hk
      clear hk
      cases b' with
      | fault g c' f =>
        obtain ⟨c0, _⟩ := hc
        rw [show chainV [] (.fault g c' f) = .iface 70 (.pointer (some ⟨g, 0, none⟩)) from rfl]
        go_wp2_with (first | (go_at_call 91; refine (unwrapPlace_any _ _ _ (by assumption) (chainV_one _ _)).mono ?_; rintro e w' ⟨rfl, rfl⟩) | (go_at_call 89; refine (unwrapFault_any _ _ _ (by assumption)).mono ?_; rintro e w' ⟨rfl, rfl⟩))
        go_roundg (gk - 1)
        case measure =>
          have := HK.out
          simp [EB.deep] at this
          omega
        case rel => exact ⟨[], .errno c', rfl, rfl, trivial, by have := HK.out; simp [EB.deep, EB.code] at this ⊢; exact ⟨this.1, by omega⟩⟩
      | errno c' =>
        obtain rfl : c' = c := by have := HK.out.1; simpa [EB.code] using this
        rw [show chainV [] (.errno c') = .iface 49 (.int .i64 c') from rfl]
        clear hc HK HOK1
        go_wp2
        go_ret
        refine ⟨rfl, ?_⟩
        rw [← HW.out]
        exact AsHit.of htl _ _ _ HT.out
end Go.Proofs.YtdhcnmljkmodhaaDoor
