/- Merged for the claim, in build order: Oops3, Oops4, Oops5, Oops6, Oops7. -/
import Derived.Test.YtdhcnmljkmodhaaDoorOpsCheckM8
import Derived.Test.YtdhcnmljkmodhaaDoorOpsCheckM5
import Derived.Deep.LoopGhost
/- errors.as at chains that hold a number, or a fault. -/
namespace Go.Proofs.YtdhcnmljkmodhaaDoor
set_option linter.unusedSectionVars false
set_option linter.unusedVariables false
set_option linter.unusedSimpArgs false
open Go.RowKit Go.Extern.Stop Go.Stop Go.Extern

set_option maxHeartbeats 4000000 in
theorem as_fault_hit (l : List (Nat × ByteArray)) (g : Nat) (c f : Int) (a t : Addr) (old : Value) (w : World) (ha : w.cell? a = some (.pointer (some t))) (ht : w.cell? t = some old) (hf : w.frozen? t = false) (hok : ChainOk w l (.fault g c f)) :
    Calls Tryd.prog 55 #[chainV l (.fault g c f), .iface 71 (.pointer (some t)), .agg #[.pointer (some ⟨2, 71, none⟩), .pointer (some a), .int .u64 150], .iface 105 (.agg #[.pointer (some ⟨2, 70, none⟩)])] w fun e w' => e = .returned (.bool true) ∧ AsHit w t (.pointer (some ⟨g, 0, none⟩)) w' := by
  have HT := Lib.hid ht
  have hal : a.block < w.heap.size := World.block_lt_of_cell? w _ ha
  have htl : t.block < w.heap.size := World.block_lt_of_cell? w _ ht
  have ha1 : (w.alloc (.cells #[.pointer (some ⟨2, 71, none⟩), .pointer (some a), .int .u64 150] 88)).cell? a = some (.pointer (some t)) := by rw [World.cell?_alloc_lt _ _ a hal]; exact ha
  have el := rl_elemVFault a t (w.alloc (.cells #[.pointer (some ⟨2, 71, none⟩), .pointer (some a), .int .u64 150] 88)) ha1
  have st := rl_setFault t ⟨(w.alloc (.cells #[.pointer (some ⟨2, 71, none⟩), .pointer (some a), .int .u64 150] 88)).heap.size, 0, none⟩ (⟨g, 0, none⟩) old ((w.alloc (.cells #[.pointer (some ⟨2, 71, none⟩), .pointer (some a), .int .u64 150] 88)).alloc (.cells #[.pointer (some ⟨g, 0, none⟩)] 70))
    (by rw [World.cell?_alloc_at _ _ _ _ (by simp)]; rfl)
    (by rw [World.cell?_alloc_lt _ _ t (by simp; omega), World.cell?_alloc_lt _ _ t htl]; exact ht)
    (by rw [World.frozen?_alloc_old _ _ t (by simp; omega), World.frozen?_alloc_old _ _ t (Nat.ne_of_lt htl)]; exact hf)
  clear ha ht hf ha1
  have HOK := Lib.hid (hok.keeps ((Keeps.refl w (fun _ => False)).alloc (.cells #[.pointer (some ⟨2, 71, none⟩), .pointer (some a), .int .u64 150] 88)))
  clear hok
  go_enter Tryd.func55, Tryd.ntmps55
  go_wp2
  obtain ⟨w1, hw1⟩ : ∃ w1, w.alloc (.cells #[.pointer (some ⟨2, 71, none⟩), .pointer (some a), .int .u64 150] 88) = w1 := ⟨_, rfl⟩
  have HW := Lib.hid hw1
  have HOK1 : Hid (ChainOk w1 l (.fault g c f)) := Lib.hid (hw1 ▸ HOK.out)
  have b0 : w1.cell? ⟨w.heap.size, 0, none⟩ = some (.pointer (some ⟨2, 71, none⟩)) := by rw [← hw1]; simp
  have b1 : w1.cell? ⟨w.heap.size, 1, none⟩ = some (.pointer (some a)) := by rw [← hw1]; simp
  have b2 : w1.cell? ⟨w.heap.size, 2, none⟩ = some (.int .u64 150) := by rw [← hw1]; simp
  rw [hw1] at el st
  rw [hw1]
  clear hw1 HOK
  go_loopg [0] (l.length + 2) (fun k v wr => ∃ l' b', v = chainV l' b' ∧ wr = w1 ∧ ChainOk w1 l' b' ∧ b' = .fault g c f ∧ l'.length + 1 ≤ k)
  case atStart => exact ⟨l, (.fault g c f), rfl, rfl, HOK1.out, ⟨rfl, by omega⟩⟩
  case round =>
    obtain ⟨l', b', rfl, rfl, hc, hk⟩ := hrel
    cases l' with
    | cons x r =>
      obtain ⟨q, s⟩ := x
      obtain ⟨c0, c1, c2⟩ := hc
      have HC := Lib.hid c2
      have HK := Lib.hid hk
      clear c2 c0 hk HOK1
      rw [show chainV ((q, s) :: r) b' = .iface 74 (.pointer (some ⟨q, 0, none⟩)) from rfl]
      go_wp2_with (first | (go_at_call 91; refine (unwrapPlace_any _ _ _ (by assumption) (chainV_one _ _)).mono ?_; rintro e w' ⟨rfl, rfl⟩) | (go_at_call 89; refine (unwrapFault_any _ _ _ (by assumption)).mono ?_; rintro e w' ⟨rfl, rfl⟩))
      go_roundg (gk - 1)
      case measure =>
        have := HK.out
        simp at this
        omega
      case rel => exact ⟨r, b', rfl, rfl, HC.out, by have := HK.out; simp at this ⊢; exact ⟨this.1, by omega⟩⟩
    | nil =>
      obtain ⟨rfl, hk'⟩ := hk
      clear hc hk' HOK1
      rw [show chainV [] (.fault g c f) = .iface 70 (.pointer (some ⟨g, 0, none⟩)) from rfl]
      go_wp2
      go_ret
      refine ⟨rfl, ?_⟩
      rw [← HW.out]
      exact AsHit.of htl _ _ _ HT.out

set_option maxHeartbeats 4000000 in
theorem as_errno_hit (l : List (Nat × ByteArray)) (b : EB) (c : Int) (hb : b.code = some c) (a t : Addr) (old : Value) (w : World) (ha : w.cell? a = some (.pointer (some t))) (ht : w.cell? t = some old) (hf : w.frozen? t = false) (hok : ChainOk w l b) :
    Calls Tryd.prog 55 #[chainV l b, .iface 69 (.pointer (some t)), .agg #[.pointer (some ⟨2, 69, none⟩), .pointer (some a), .int .u64 150], .iface 105 (.agg #[.pointer (some ⟨2, 49, none⟩)])] w fun e w' => e = .returned (.bool true) ∧ AsHit w t (.int .i64 c) w' := by
  have HT := Lib.hid ht
  have hal : a.block < w.heap.size := World.block_lt_of_cell? w _ ha
  have htl : t.block < w.heap.size := World.block_lt_of_cell? w _ ht
  have ha1 : (w.alloc (.cells #[.pointer (some ⟨2, 69, none⟩), .pointer (some a), .int .u64 150] 88)).cell? a = some (.pointer (some t)) := by rw [World.cell?_alloc_lt _ _ a hal]; exact ha
  have el := rl_elemVErrno a t (w.alloc (.cells #[.pointer (some ⟨2, 69, none⟩), .pointer (some a), .int .u64 150] 88)) ha1
  have st := rl_setErrno t ⟨(w.alloc (.cells #[.pointer (some ⟨2, 69, none⟩), .pointer (some a), .int .u64 150] 88)).heap.size, 0, none⟩ (c) old ((w.alloc (.cells #[.pointer (some ⟨2, 69, none⟩), .pointer (some a), .int .u64 150] 88)).alloc (.cells #[.int .i64 c] 49))
    (by rw [World.cell?_alloc_at _ _ _ _ (by simp)]; rfl)
    (by rw [World.cell?_alloc_lt _ _ t (by simp; omega), World.cell?_alloc_lt _ _ t htl]; exact ht)
    (by rw [World.frozen?_alloc_old _ _ t (by simp; omega), World.frozen?_alloc_old _ _ t (Nat.ne_of_lt htl)]; exact hf)
  clear ha ht hf ha1
  have HB := Lib.hid hb
  clear hb
  have HOK := Lib.hid (hok.keeps ((Keeps.refl w (fun _ => False)).alloc (.cells #[.pointer (some ⟨2, 69, none⟩), .pointer (some a), .int .u64 150] 88)))
  clear hok
  go_enter Tryd.func55, Tryd.ntmps55
  go_wp2
  obtain ⟨w1, hw1⟩ : ∃ w1, w.alloc (.cells #[.pointer (some ⟨2, 69, none⟩), .pointer (some a), .int .u64 150] 88) = w1 := ⟨_, rfl⟩
  have HW := Lib.hid hw1
  have HOK1 : Hid (ChainOk w1 l b) := Lib.hid (hw1 ▸ HOK.out)
  have b0 : w1.cell? ⟨w.heap.size, 0, none⟩ = some (.pointer (some ⟨2, 69, none⟩)) := by rw [← hw1]; simp
  have b1 : w1.cell? ⟨w.heap.size, 1, none⟩ = some (.pointer (some a)) := by rw [← hw1]; simp
  have b2 : w1.cell? ⟨w.heap.size, 2, none⟩ = some (.int .u64 150) := by rw [← hw1]; simp
  rw [hw1] at el st
  rw [hw1]
  clear hw1 HOK
  go_loopg [0] (l.length + 2) (fun k v wr => ∃ l' b', v = chainV l' b' ∧ wr = w1 ∧ ChainOk w1 l' b' ∧ b'.code = some c ∧ l'.length + b'.deep ≤ k)
  case atStart => exact ⟨l, b, rfl, rfl, HOK1.out, ⟨HB.out, by cases b <;> simp [EB.deep]⟩⟩
  case round =>
    obtain ⟨l', b', rfl, rfl, hc, hk⟩ := hrel
    cases l' with
    | cons x r =>
      obtain ⟨q, s⟩ := x
      obtain ⟨c0, c1, c2⟩ := hc
      have HC := Lib.hid c2
      have HK := Lib.hid hk
      clear c2 c0 hk HOK1
      rw [show chainV ((q, s) :: r) b' = .iface 74 (.pointer (some ⟨q, 0, none⟩)) from rfl]
      go_wp2_with (first | (go_at_call 91; refine (unwrapPlace_any _ _ _ (by assumption) (chainV_one _ _)).mono ?_; rintro e w' ⟨rfl, rfl⟩) | (go_at_call 89; refine (unwrapFault_any _ _ _ (by assumption)).mono ?_; rintro e w' ⟨rfl, rfl⟩))
      go_roundg (gk - 1)
      case measure =>
        have := HK.out
        simp at this
        omega
      case rel => exact ⟨r, b', rfl, rfl, HC.out, by have := HK.out; simp at this ⊢; exact ⟨this.1, by omega⟩⟩
    | nil =>
      have HK := Lib.hid hk
      clear hk
      cases b' with
      | fault g c' f =>
        obtain ⟨c0, _⟩ := hc
        rw [show chainV [] (.fault g c' f) = .iface 70 (.pointer (some ⟨g, 0, none⟩)) from rfl]
        go_wp2_with (first | (go_at_call 91; refine (unwrapPlace_any _ _ _ (by assumption) (chainV_one _ _)).mono ?_; rintro e w' ⟨rfl, rfl⟩) | (go_at_call 89; refine (unwrapFault_any _ _ _ (by assumption)).mono ?_; rintro e w' ⟨rfl, rfl⟩))
        go_roundg (gk - 1)
        case measure =>
          have := HK.out
          simp [EB.deep] at this
          omega
        case rel => exact ⟨[], .errno c', rfl, rfl, trivial, by have := HK.out; simp [EB.deep, EB.code] at this ⊢; exact ⟨this.1, by omega⟩⟩
      | errno c' =>
        obtain rfl : c' = c := by have := HK.out.1; simpa [EB.code] using this
        rw [show chainV [] (.errno c') = .iface 49 (.int .i64 c') from rfl]
        clear hc HK HOK1
        go_wp2
        go_ret
        refine ⟨rfl, ?_⟩
        rw [← HW.out]
        exact AsHit.of htl _ _ _ HT.out
end Go.Proofs.YtdhcnmljkmodhaaDoor

/- errors.As by its contracts; oops.New, oops.In, oops.Code, oops.At. -/
namespace Go.Proofs.YtdhcnmljkmodhaaDoor
set_option linter.unusedSectionVars false
set_option linter.unusedVariables false
set_option linter.unusedSimpArgs false
open Go.RowKit Go.Extern.Stop Go.Stop Go.Extern

/-- errors.errorType as it is laid. -/
def ErrT (w : World) : Prop := w.cell? ⟨0, 0, none⟩ = some (.iface 105 (.agg #[.pointer (some ⟨2, 32, none⟩)]))
theorem ErrT.keeps {w w' : World} (h : ErrT w) (hk : Keeps w w' (fun _ => False)) : ErrT w' := by
  unfold ErrT at *
  rw [← h]; exact World.cell?_of_block (hk.block _ (World.block_lt_of_cell? w _ h) id)
/-- A Bool comes back. -/
def RetB (R : Bool → World → Prop) (e : Ending) (w' : World) : Prop := ∃ x, e = .returned (.bool x) ∧ R x w'
theorem As_nil (t : Value) (w : World) : Calls Tryd.prog 40 #[.nilIface, t] w fun e w' => e = .returned (.bool false) ∧ w = w' := by
  go_enter Tryd.func40, Tryd.ntmps40
  go_wp2
  go_ret
  exact ⟨rfl, rfl⟩

set_option maxHeartbeats 4000000 in
theorem As_Errno (l : List (Nat × ByteArray)) (b : EB) (t : Addr) (w : World) (R : Bool → World → Prop) (hg : ErrT w)
    (h : Calls Tryd.prog 55 #[chainV l b, .iface 69 (.pointer (some t)), .agg #[.pointer (some ⟨2, 69, none⟩), .pointer (some ⟨w.heap.size, 0, none⟩), .int .u64 150], .iface 105 (.agg #[.pointer (some ⟨2, 49, none⟩)])] ((w.alloc (.cells #[.pointer (some t)] 69)).alloc (.cells #[.pointer (some ⟨2, 69, none⟩), .pointer (some ⟨w.heap.size, 0, none⟩), .int .u64 150] 88)) (RetB R)) :
    Calls Tryd.prog 40 #[chainV l b, .iface 69 (.pointer (some t))] w (RetB R) := by
  have HH := Lib.hid h
  have hg2 : ((w.alloc (.cells #[.pointer (some t)] 69)).alloc (.cells #[.pointer (some ⟨2, 69, none⟩), .pointer (some ⟨w.heap.size, 0, none⟩), .int .u64 150] 88)).cell? ⟨0, 0, none⟩ = some (.iface 105 (.agg #[.pointer (some ⟨2, 32, none⟩)])) := ErrT.keeps hg (((Keeps.refl _ _).alloc _).alloc _)
  have n8 := rl_isNilErrno ⟨w.heap.size, 0, none⟩ t ((w.alloc (.cells #[.pointer (some t)] 69)).alloc (.cells #[.pointer (some ⟨2, 69, none⟩), .pointer (some ⟨w.heap.size, 0, none⟩), .int .u64 150] 88)) (by simp)
  clear h hg
  go_enter Tryd.func40, Tryd.ntmps40
  go_wp2_with fail
  refine HH.out.mono ?_
  rintro e w' ⟨x, rfl, hR⟩
  have HR := Lib.hid hR
  clear hR HH n8 hg2
  go_wp2_with fail
  go_ret
  exact ⟨x, rfl, HR.out⟩

set_option maxHeartbeats 4000000 in
theorem As_Fault (l : List (Nat × ByteArray)) (b : EB) (t : Addr) (w : World) (R : Bool → World → Prop) (hg : ErrT w)
    (h : Calls Tryd.prog 55 #[chainV l b, .iface 71 (.pointer (some t)), .agg #[.pointer (some ⟨2, 71, none⟩), .pointer (some ⟨w.heap.size, 0, none⟩), .int .u64 150], .iface 105 (.agg #[.pointer (some ⟨2, 70, none⟩)])] ((w.alloc (.cells #[.pointer (some t)] 71)).alloc (.cells #[.pointer (some ⟨2, 71, none⟩), .pointer (some ⟨w.heap.size, 0, none⟩), .int .u64 150] 88)) (RetB R)) :
    Calls Tryd.prog 40 #[chainV l b, .iface 71 (.pointer (some t))] w (RetB R) := by
  have HH := Lib.hid h
  have hg2 : ((w.alloc (.cells #[.pointer (some t)] 71)).alloc (.cells #[.pointer (some ⟨2, 71, none⟩), .pointer (some ⟨w.heap.size, 0, none⟩), .int .u64 150] 88)).cell? ⟨0, 0, none⟩ = some (.iface 105 (.agg #[.pointer (some ⟨2, 32, none⟩)])) := ErrT.keeps hg (((Keeps.refl _ _).alloc _).alloc _)
  have n8 := rl_isNilFault ⟨w.heap.size, 0, none⟩ t ((w.alloc (.cells #[.pointer (some t)] 71)).alloc (.cells #[.pointer (some ⟨2, 71, none⟩), .pointer (some ⟨w.heap.size, 0, none⟩), .int .u64 150] 88)) (by simp)
  clear h hg
  go_enter Tryd.func40, Tryd.ntmps40
  go_wp2_with fail
  refine HH.out.mono ?_
  rintro e w' ⟨x, rfl, hR⟩
  have HR := Lib.hid hR
  clear hR HH n8 hg2
  go_wp2_with fail
  go_ret
  exact ⟨x, rfl, HR.out⟩

set_option maxHeartbeats 4000000 in
theorem As_Place (l : List (Nat × ByteArray)) (b : EB) (t : Addr) (w : World) (R : Bool → World → Prop) (hg : ErrT w)
    (h : Calls Tryd.prog 55 #[chainV l b, .iface 75 (.pointer (some t)), .agg #[.pointer (some ⟨2, 75, none⟩), .pointer (some ⟨w.heap.size, 0, none⟩), .int .u64 150], .iface 105 (.agg #[.pointer (some ⟨2, 74, none⟩)])] ((w.alloc (.cells #[.pointer (some t)] 75)).alloc (.cells #[.pointer (some ⟨2, 75, none⟩), .pointer (some ⟨w.heap.size, 0, none⟩), .int .u64 150] 88)) (RetB R)) :
    Calls Tryd.prog 40 #[chainV l b, .iface 75 (.pointer (some t))] w (RetB R) := by
  have HH := Lib.hid h
  have hg2 : ((w.alloc (.cells #[.pointer (some t)] 75)).alloc (.cells #[.pointer (some ⟨2, 75, none⟩), .pointer (some ⟨w.heap.size, 0, none⟩), .int .u64 150] 88)).cell? ⟨0, 0, none⟩ = some (.iface 105 (.agg #[.pointer (some ⟨2, 32, none⟩)])) := ErrT.keeps hg (((Keeps.refl _ _).alloc _).alloc _)
  have n8 := rl_isNilPlace ⟨w.heap.size, 0, none⟩ t ((w.alloc (.cells #[.pointer (some t)] 75)).alloc (.cells #[.pointer (some ⟨2, 75, none⟩), .pointer (some ⟨w.heap.size, 0, none⟩), .int .u64 150] 88)) (by simp)
  clear h hg
  go_enter Tryd.func40, Tryd.ntmps40
  go_wp2_with fail
  refine HH.out.mono ?_
  rintro e w' ⟨x, rfl, hR⟩
  have HR := Lib.hid hR
  clear hR HH n8 hg2
  go_wp2_with fail
  go_ret
  exact ⟨x, rfl, HR.out⟩
end Go.Proofs.YtdhcnmljkmodhaaDoor

/- errors.As at chains; oops.New, oops.In, oops.Code, oops.At. -/
namespace Go.Proofs.YtdhcnmljkmodhaaDoor
set_option linter.unusedSectionVars false
set_option linter.unusedVariables false
set_option linter.unusedSimpArgs false
open Go.RowKit Go.Extern.Stop Go.Stop Go.Extern

theorem AsHit.back {w w2 w' : World} {t : Addr} {v : Value} (h : AsHit w2 t v w') (hk : Keeps w w2 (fun _ => False)) : AsHit w t v w' :=
  ⟨(hk.mono (fun _ _ h => h.elim)).trans h.keep, h.cell⟩
def Hit (w : World) (t : Addr) (v : Value) (x : Bool) (w' : World) : Prop := x = true ∧ AsHit w t v w'
def Miss (w : World) (x : Bool) (w' : World) : Prop := x = false ∧ Keeps w w' (fun _ => False)
theorem keep2 (w : World) (o1 o2 : Obj) : Keeps w ((w.alloc o1).alloc o2) (fun _ => False) := ((Keeps.refl _ _).alloc _).alloc _
theorem cell2 {w : World} {a : Addr} {v : Value} (o1 o2 : Obj) (h : w.cell? a = some v) : ((w.alloc o1).alloc o2).cell? a = some v := by
  have hl : a.block < w.heap.size := World.block_lt_of_cell? w _ h
  rw [World.cell?_alloc_lt _ _ a (by simp; omega), World.cell?_alloc_lt _ _ a hl]; exact h
theorem frozen2 {w : World} {a : Addr} {v : Value} (o1 o2 : Obj) (h : w.cell? a = some v) (hf : w.frozen? a = false) : ((w.alloc o1).alloc o2).frozen? a = false := by
  have hl : a.block < w.heap.size := World.block_lt_of_cell? w _ h
  rw [World.frozen?_alloc_old _ _ a (by simp; omega), World.frozen?_alloc_old _ _ a (Nat.ne_of_lt hl)]; exact hf
theorem new2 (w : World) (x : Value) (t : TypeId) (o2 : Obj) : ((w.alloc (.cells #[x] t)).alloc o2).cell? ⟨w.heap.size, 0, none⟩ = some x := by
  rw [World.cell?_alloc_lt _ _ _ (by simp)]
  simp
theorem As_place_hit (p : Nat) (s : ByteArray) (l : List (Nat × ByteArray)) (b : EB) (t : Addr) (old : Value) (w : World) (hg : ErrT w) (ht : w.cell? t = some old) (hf : w.frozen? t = false)  :
    Calls Tryd.prog 40 #[chainV ((p, s) :: l) b, .iface 75 (.pointer (some t))] w (RetB (Hit w t (.pointer (some ⟨p, 0, none⟩)))) :=
  As_Place ((p, s) :: l) b t w _ hg ((as_place_hit p s l b _ t old _ (new2 _ _ _ _) (cell2 _ _ ht) (frozen2 _ _ ht hf)).mono fun e w' ⟨he, h⟩ => ⟨true, he, rfl, h.back (keep2 _ _ _)⟩)
theorem As_place_miss (b : EB) (t : Addr) (w : World) (hg : ErrT w) (hok : ChainOk w [] b) :
    Calls Tryd.prog 40 #[chainV [] b, .iface 75 (.pointer (some t))] w (RetB (Miss w)) :=
  As_Place [] b t w _ hg ((as_place_miss b _ t _ (EB.ok.keeps hok (keep2 _ _ _))).mono fun e w' ⟨he, h⟩ => ⟨false, he, rfl, (keep2 _ _ _).trans h⟩)
theorem As_fault_hit (l : List (Nat × ByteArray)) (g : Nat) (c f : Int) (t : Addr) (old : Value) (w : World) (hg : ErrT w) (ht : w.cell? t = some old) (hf : w.frozen? t = false) (hok : ChainOk w l (.fault g c f)) :
    Calls Tryd.prog 40 #[chainV l (.fault g c f), .iface 71 (.pointer (some t))] w (RetB (Hit w t (.pointer (some ⟨g, 0, none⟩)))) :=
  As_Fault l (.fault g c f) t w _ hg ((as_fault_hit l g c f _ t old _ (new2 _ _ _ _) (cell2 _ _ ht) (frozen2 _ _ ht hf) (hok.keeps (keep2 _ _ _))).mono fun e w' ⟨he, h⟩ => ⟨true, he, rfl, h.back (keep2 _ _ _)⟩)
theorem As_fault_miss (l : List (Nat × ByteArray)) (b : EB) (hb : ∀ g c f, b ≠ .fault g c f) (t : Addr) (w : World) (hg : ErrT w) (hok : ChainOk w l b) :
    Calls Tryd.prog 40 #[chainV l b, .iface 71 (.pointer (some t))] w (RetB (Miss w)) :=
  As_Fault l b t w _ hg ((as_fault_miss l b hb _ t _ (hok.keeps (keep2 _ _ _))).mono fun e w' ⟨he, h⟩ => ⟨false, he, rfl, (keep2 _ _ _).trans h⟩)
theorem As_errno_hit (l : List (Nat × ByteArray)) (b : EB) (c : Int) (hb : b.code = some c) (t : Addr) (old : Value) (w : World) (hg : ErrT w) (ht : w.cell? t = some old) (hf : w.frozen? t = false) (hok : ChainOk w l b) :
    Calls Tryd.prog 40 #[chainV l b, .iface 69 (.pointer (some t))] w (RetB (Hit w t (.int .i64 c))) :=
  As_Errno l b t w _ hg ((as_errno_hit l b c hb _ t old _ (new2 _ _ _ _) (cell2 _ _ ht) (frozen2 _ _ ht hf) (hok.keeps (keep2 _ _ _))).mono fun e w' ⟨he, h⟩ => ⟨true, he, rfl, h.back (keep2 _ _ _)⟩)

/-- oops.New. -/
theorem new_zero (a : Int) (w : World) : Calls Tryd.prog 30 #[.int .i64 0, .int .i64 a] w fun e w' => e = .returned .nilIface ∧ w = w' := by
  go_enter Tryd.func30, Tryd.ntmps30
  go_wp2
  go_ret
  exact ⟨rfl, rfl⟩
theorem new_some (c a : Int) (hc : (c == 0) = false) (w : World) : Calls Tryd.prog 30 #[.int .i64 c, .int .i64 a] w fun e w' =>
    e = .returned (chainV [] (.fault w.heap.size c a)) ∧ w' = w.alloc (.cells #[.int .i64 c, .int .i64 a] 73) := by
  go_enter Tryd.func30, Tryd.ntmps30
  go_wp2
  go_ret
  exact ⟨rfl, rfl⟩
/-- oops.In. -/
theorem in_nil (s : ByteArray) (w : World) : Calls Tryd.prog 49 #[.string s, .nilIface] w fun e w' => e = .returned .nilIface ∧ w = w' := by
  go_enter Tryd.func49, Tryd.ntmps49
  go_wp2
  go_ret
  exact ⟨rfl, rfl⟩
theorem in_some (s : ByteArray) (l : List (Nat × ByteArray)) (b : EB) (w : World) : Calls Tryd.prog 49 #[.string s, chainV l b] w fun e w' =>
    e = .returned (chainV ((w.heap.size, s) :: l) b) ∧ w' = w.alloc (.cells #[.string s, chainV l b] 77) := by
  have h1 := chainV_one l b
  go_enter Tryd.func49, Tryd.ntmps49
  go_wp2
  go_ret
  exact ⟨rfl, rfl⟩
theorem ChainOk.fault (w : World) (c a : Int) (t : TypeId) : ChainOk (w.alloc (.cells #[.int .i64 c, .int .i64 a] t)) [] (.fault w.heap.size c a) := ⟨by simp, by simp⟩
theorem ChainOk.cons {w : World} {l : List (Nat × ByteArray)} {b : EB} (h : ChainOk w l b) (s : ByteArray) (t : TypeId) : ChainOk (w.alloc (.cells #[.string s, chainV l b] t)) ((w.heap.size, s) :: l) b :=
  ⟨by simp, by simp, h.keeps ((Keeps.refl _ _).alloc _)⟩

/-- What has been said of it. -/
def EB.codeN (b : EB) : Int := b.code.getD 20
def EB.atN : EB → Int
  | .fault _ _ a => a
  | _ => -1
theorem code_nil (w : World) : Calls Tryd.prog 26 #[.nilIface] w fun e w' => e = .returned (.int .i64 0) ∧ Keeps w w' (fun _ => False) := by
  go_enter Tryd.func26, Tryd.ntmps26
  go_wp2
  go_ret
  exact ⟨rfl, (Keeps.refl _ _).alloc _⟩
theorem code_any (l : List (Nat × ByteArray)) (b : EB) (w : World) (hg : ErrT w) (hok : ChainOk w l b) :
    Calls Tryd.prog 26 #[chainV l b] w fun e w' => e = .returned (.int .i64 b.codeN) ∧ Keeps w w' (fun _ => False) := by
  have HG := Lib.hid (hg.keeps ((Keeps.refl w _).alloc (.cells #[.int .i64 0] 49)))
  have HO := Lib.hid (hok.keeps ((Keeps.refl w _).alloc (.cells #[.int .i64 0] 49)))
  clear hg hok
  cases hb : b.code with
  | some c =>
    have HB := Lib.hid hb
    clear hb
    go_enter Tryd.func26, Tryd.ntmps26
    go_wp2_with fail
    refine (As_errno_hit l b c HB.out _ (.int .i64 0) _ HG.out (by simp) (by simp) HO.out).mono ?_
    rintro e w' ⟨x, rfl, rfl, hk, hc⟩
    have HK := Lib.hid hk
    clear hk
    go_wp2_with fail
    go_ret
    exact ⟨by unfold EB.codeN; rw [HB.out]; rfl, ((Keeps.refl w (fun _ => False)).alloc _).trans' HK.out (fun j hj e => by have e : j = w.heap.size := e; omega)⟩
  | none =>
    cases b <;> cases hb
theorem at_any (l : List (Nat × ByteArray)) (b : EB) (w : World) (hg : ErrT w) (hok : ChainOk w l b) :
    Calls Tryd.prog 27 #[chainV l b] w fun e w' => e = .returned (.int .i64 b.atN) ∧ Keeps w w' (fun _ => False) := by
  have HG := Lib.hid (hg.keeps ((Keeps.refl w _).alloc (.cells #[.pointer none] 70)))
  have HO := Lib.hid (hok.keeps ((Keeps.refl w _).alloc (.cells #[.pointer none] 70)))
  clear hg hok
  by_cases hb : ∃ g c f, b = .fault g c f
  · obtain ⟨g, c, f, rfl⟩ := hb
    have base : ∀ (w : World) (l : List (Nat × ByteArray)), ChainOk w l (.fault g c f) → w.cell? ⟨g, 1, none⟩ = some (.int .i64 f) := fun w l h => by
      induction l with
      | nil => exact h.2
      | cons x r ih => obtain ⟨p, s⟩ := x; exact ih h.2.2
    have hf1 := base _ _ HO.out
    have HF := Lib.hid hf1
    have hgl : g < w.heap.size + 1 := by
      have := World.block_lt_of_cell? _ _ hf1
      simpa using this
    clear base hf1
    go_enter Tryd.func27, Tryd.ntmps27
    go_wp2_with fail
    refine (As_fault_hit l g c f _ (.pointer none) _ HG.out (by simp) (by simp) HO.out).mono ?_
    rintro e w' ⟨x, rfl, rfl, hk, hc⟩
    have HK := Lib.hid hk
    have hne : g ≠ w.heap.size := fun e => by
      have h1 := HF.out
      subst e
      simp at h1
    have hcell : w'.cell? ⟨g, 1, none⟩ = some (.int .i64 f) := by rw [← HF.out]; exact World.cell?_of_block (hk.block g (by simpa using hgl) hne)
    clear hk hne
    go_wp2_with fail
    go_ret
    exact ⟨rfl, ((Keeps.refl w (fun _ => False)).alloc _).trans' HK.out (fun j hj e => by have e : j = w.heap.size := e; omega)⟩
  · have hb' : ∀ g c f, b ≠ .fault g c f := fun g c f e => hb ⟨g, c, f, e⟩
    have e1 : b.atN = -1 := by
      cases b with
      | fault g c f => exact absurd rfl (hb' g c f)
      | _ => rfl
    have HB := Lib.hid hb'
    have HE := Lib.hid e1
    clear hb hb' e1
    go_enter Tryd.func27, Tryd.ntmps27
    go_wp2_with fail
    refine (As_fault_miss l b HB.out _ _ HG.out HO.out).mono ?_
    rintro e w' ⟨x, rfl, rfl, hk⟩
    have HK := Lib.hid hk
    clear hk
    go_wp2_with fail
    go_ret
    exact ⟨by rw [HE.out]; rfl, ((Keeps.refl w _).alloc _).trans HK.out⟩
end Go.Proofs.YtdhcnmljkmodhaaDoor

/- oops.Words by its contract. -/
namespace Go.Proofs.YtdhcnmljkmodhaaDoor
set_option linter.unusedSectionVars false
set_option linter.unusedVariables false
set_option linter.unusedSimpArgs false
open Go.RowKit Go.Extern.Stop Go.Stop Go.Extern

theorem infoStr : (Tryd.prog.info? 9).map (fun i => (i.zero, i.size, i.bytes)) = some (some (.string .empty), 1, 16) := by kernel_rfl
theorem infoStr' : ∃ i, Tryd.prog.info? 9 = some i ∧ i.zero = some (.string .empty) ∧ i.size = 1 ∧ i.bytes = 16 := by
  have h := infoStr
  cases hi : Tryd.prog.info? 9 with
  | none => rw [hi] at h; cases h
  | some i =>
    rw [hi] at h
    simp at h
    exact ⟨i, rfl, h.1, h.2.1, h.2.2⟩
/-- The words of a chain. -/
def wordsV (l : List (Nat × ByteArray)) : List Value := l.map (fun x => Value.string x.2)
theorem wordsV_snoc (l : List (Nat × ByteArray)) (x : Nat × ByteArray) : wordsV (l ++ [x]) = wordsV l ++ [.string x.2] := by unfold wordsV; simp

/-- Between two rounds. -/
structure WInv (w : World) (l : List (Nat × ByteArray)) (b : EB) (k : Nat) (v0 v3 : Value) (wr : World) : Prop where
  go : ∃ done rest, l = done ++ rest ∧ v0 = chainV rest b ∧ wr.ownsRow w.heap.size 9 1 v3 done.length (wordsV done) ∧ rest.length < k ∧ (∀ x ∈ rest, x.1 < w.heap.size)
  keep : Keeps w wr (fun _ => False)
theorem chain_lt {w : World} {l : List (Nat × ByteArray)} {b : EB} (h : ChainOk w l b) : ∀ x ∈ l, x.1 < w.heap.size := by
  induction l with
  | nil => intro x hx; cases hx
  | cons y r ih =>
    obtain ⟨p, s⟩ := y
    intro x hx
    rcases List.mem_cons.1 hx with rfl | hx
    · exact World.block_lt_of_cell? w _ h.1
    · exact ih h.2.2 x hx
theorem chain_drop {w : World} {b : EB} : ∀ (d r : List (Nat × ByteArray)), ChainOk w (d ++ r) b → ChainOk w r b
  | [], r, h => h
  | (p, s) :: d, r, h => chain_drop d r h.2.2

set_option maxHeartbeats 4000000 in
theorem words_any (l : List (Nat × ByteArray)) (b : EB) (w : World) (hg : ErrT w) (hok : ChainOk w l b) (hl : l.length ≤ 1000) :
    Calls Tryd.prog 28 #[chainV l b] w (OwnV 9 w (wordsV l)) := by
  have HG := Lib.hid hg
  have HO := Lib.hid hok
  have hlt := chain_lt hok
  clear hg hok
  obtain ⟨i0, hi, hz0, hz1, hz2⟩ := infoStr'
  have HI := Lib.hid hi
  have HZ0 := Lib.hid hz0
  have HZ1 := Lib.hid hz1
  have HZ2 := Lib.hid hz2
  have HLT := Lib.hid hlt
  clear hi hz0 hz1 hz2 hlt
  go_enter Tryd.func28, Tryd.ntmps28
  go_wp2
  go_loopg [0, 3] (l.length + 1) (fun k v0 v3 wr => WInv w l b k v0 v3 wr)
  case atStart => exact ⟨⟨[], l, rfl, rfl, World.ownsRow_nil _ _ _ _, by omega, HLT.out⟩, Keeps.refl _ _⟩
  case round =>
    obtain ⟨⟨done, rest, hdr, rfl, hrow, hk, hrl⟩, hkw⟩ := hrel
    have HDR := Lib.hid hdr
    have HR := Lib.hid hrow
    have HK := Lib.hid hkw
    have HKK := Lib.hid hk
    have HRL := Lib.hid hrl
    have HC : Hid (ChainOk (wr.alloc (.cells #[.pointer none] 74)) rest b) := Lib.hid ((chain_drop done rest (HDR.out ▸ HO.out)).keeps (hkw.alloc _))
    have HG2 : Hid (ErrT (wr.alloc (.cells #[.pointer none] 74))) := Lib.hid (HG.out.keeps (hkw.alloc _))
    have hdl : done.length ≤ 1000 := by have := congrArg List.length hdr; simp at this; omega
    clear hdr hrow hkw hk hrl
    cases rest with
    | nil =>
      go_wp2_with fail
      refine (As_place_miss b _ _ HG2.out HC.out).mono ?_
      rintro e w1 ⟨x, rfl, rfl, hk1⟩
      have K1 := Lib.hid hk1
      clear hk1
      go_wp2_with fail
      go_ret
      have hd : l = done := by rw [HDR.out, List.append_nil]
      refine ⟨_, rfl, ?_, (HK.out.alloc _).trans K1.out⟩
      have h1 := own_keeps HR.out (((Keeps.refl wr (fun _ => False)).alloc _).trans K1.out) (fun j h => h.elim)
      rw [hd]
      have e : (wordsV done).length = done.length := by unfold wordsV; simp
      rw [e]
      exact h1
    | cons y r =>
      obtain ⟨p, s⟩ := y
      go_wp2_with fail
      refine (As_place_hit p s r b _ (.pointer none) _ HG2.out (by simp) (by simp)).mono ?_
      rintro e w1 ⟨x, rfl, rfl, hk1, hc1⟩
      have K1 := Lib.hid hk1
      obtain ⟨q0, q1, q2⟩ := HC.out
      have hpl : p < w.heap.size := HRL.out (p, s) List.mem_cons_self
      have hwl := HK.out.size
      have hplr : p < wr.heap.size + 1 := by omega
      have hpne : p ≠ wr.heap.size := by omega
      have x0 : w1.cell? ⟨p, 0, none⟩ = some (.string s) := by rw [← q0]; exact World.cell?_of_block (hk1.block p (by simpa using hplr) hpne)
      have x1 : w1.cell? ⟨p, 1, none⟩ = some (chainV r b) := by rw [← q1]; exact World.cell?_of_block (hk1.block p (by simpa using hplr) hpne)
      have KW : Hid (Keeps w w1 (fun _ => False)) := Lib.hid ((HK.out.alloc _).trans' hk1 (fun j hj e => by have e : j = wr.heap.size := e; omega))
      have KR : Hid (Keeps wr w1 (fun _ => False)) := Lib.hid (((Keeps.refl wr (fun _ => False)).alloc _).trans' hk1 (fun j hj e => by have e : j = wr.heap.size := e; omega))
      have HR1 := Lib.hid (own_keeps HR.out KR.out (fun j h => h.elim))
      have c1 := chainV_one r b
      have hsz1 : wr.heap.size + 1 ≤ w1.heap.size := by have := K1.out.size; simpa using this
      clear hk1 q0 q1 q2 HG2 HC
      go_wp2_with (at_builtin; refine wpList_append_own _ rfl _ _ 52 rfl w.heap.size 9 i0 _ 1 16 Tryd.underlying52 HI.out HZ0.out HZ1.out HZ2.out rfl (by decide) _ done.length _ rfl (HR1.out.alloc _) ⟨w1.heap.size, 0, none⟩ 1 1 [.string s] rfl rfl (cell_one_new _ _ _) (by simp [Value.oneCell']) (by unfold maxLen; omega) (by omega) (by have := KW.out.size; simp; omega) ?_; intro v' w2 hown' hgrow _; have HO2 := Lib.hid hown'; have HG3 := Lib.hid hgrow; have K2 : Hid (Keeps w1 w2 (fun j => j < wr.heap.size ∧ w.heap.size ≤ j)) := Lib.hid (Keeps.grown ((Keeps.refl w1 _).alloc _) hgrow (fun k hk _ => ⟨(own_block_ge HR.out k hk).2, (own_block_ge HR.out k hk).1⟩)); have y0 : w2.cell? ⟨p, 1, none⟩ = some (chainV r b) := (by rw [← x1]; exact World.cell?_of_block (K2.out.block p (by omega) (by show ¬ (p < wr.heap.size ∧ w.heap.size ≤ p); omega))); have y1 : w2.cell? ⟨wr.heap.size, 0, none⟩ = some (.pointer (some ⟨p, 0, none⟩)) := (by rw [← hc1]; exact World.cell?_of_block (K2.out.block _ (by show wr.heap.size < _; omega) (by show ¬ (wr.heap.size < wr.heap.size ∧ w.heap.size ≤ wr.heap.size); omega))); clear hown' hgrow x0 x1 hc1)
      go_roundg (gk - 1)
      case measure =>
        have := HKK.out
        simp at this
        omega
      case rel =>
        refine ⟨⟨done ++ [(p, s)], r, by rw [HDR.out]; simp, rfl, ?_, ?_, fun x hx => HRL.out x (List.mem_cons_of_mem _ hx)⟩, KW.out.trans' K2.out (fun j hj e => by omega)⟩
        · have h := HO2.out
          rw [List.length_append, wordsV_snoc]
          exact h
        · have := HKK.out
          simp at this
          omega
end Go.Proofs.YtdhcnmljkmodhaaDoor

/- The awake of layer 1; 'of' by its contract. -/
namespace Go.Proofs.YtdhcnmljkmodhaaDoor
set_option linter.unusedSectionVars false
set_option linter.unusedVariables false
set_option linter.unusedSimpArgs false
open Go.RowKit Go.Extern.Stop Go.Stop Go.Extern

set_option maxHeartbeats 4000000 in
theorem awake01 (w : World) (hg : ErrT w) : Calls Tryd.prog 38 #[] w fun e w' => e = .returned (.bool true) ∧ Keeps w w' (fun _ => False) := by
  have HG := Lib.hid hg
  clear hg
  go_enter Tryd.func38, Tryd.ntmps38
  go_wp2_with fail
  refine (new_some 4 7 (by decide) _).mono ?_
  rintro e w1 ⟨rfl, rfl⟩
  go_wp2_with fail
  refine (in_some _ _ _ _).mono ?_
  rintro e w1 ⟨rfl, hw2⟩
  have K2 : Hid (Keeps w w1 (fun _ => False)) := Lib.hid (by rw [hw2]; exact ((Keeps.refl _ _).alloc _).alloc _)
  have C2 : Hid (ChainOk w1 [((w.alloc (.cells #[.int .i64 4, .int .i64 7] 73)).heap.size, { data := #[110, 101, 116] })] (.fault w.heap.size 4 7)) := Lib.hid (by rw [hw2]; exact ChainOk.cons (ChainOk.fault w 4 7 _) _ _)
  clear hw2
  generalize (w.alloc (.cells #[.int .i64 4, .int .i64 7] 73)).heap.size = N1 at *
  generalize w.heap.size = N0 at *
  go_wp2_with fail
  refine (words_any _ _ _ (HG.out.keeps K2.out) C2.out (by simp)).mono ?_
  rintro e w2 ⟨v, rfl, hrow, hk⟩
  obtain ⟨g, cap, hv, hcell⟩ : ∃ g cap, v = .slice (some ⟨g, 0, none⟩) 1 cap ∧ w2.cell? ⟨g, 0, none⟩ = some (.string { data := #[110, 101, 116] }) := by
    obtain ⟨a, cap, rfl, _, _⟩ := (RdV.ofOwn hrow).form
    rcases hrow.2 with ⟨h0, _⟩ | ⟨g, cap', cur, h0, _⟩
    · simp [wordsV] at h0
    · simp only [Value.slice.injEq] at h0
      obtain ⟨rfl, _, rfl⟩ := h0
      exact ⟨g, cap, rfl, ownsRow_cell hrow (j := 0) (by simp [wordsV])⟩
  subst hv
  have HC := Lib.hid hcell
  have K3 : Hid (Keeps w w2 (fun _ => False)) := Lib.hid (K2.out.trans hk)
  have C3 := Lib.hid (C2.out.keeps hk)
  clear hrow hcell hk K2 C2
  go_wp2_with fail
  refine (code_any _ _ _ (HG.out.keeps K3.out) C3.out).mono ?_
  rintro e w3 ⟨rfl, hk⟩
  have K4 : Hid (Keeps w w3 (fun _ => False)) := Lib.hid (K3.out.trans hk)
  have C4 := Lib.hid (C3.out.keeps hk)
  have HC4 := Lib.hid ((World.cell?_of_block (hk.block g (World.block_lt_of_cell? w2 _ HC.out) id)).trans HC.out)
  clear hk K3 C3 HC
  rw [show EB.codeN (.fault N0 4 7) = 4 from rfl]
  go_wp2_with fail
  refine (at_any _ _ _ (HG.out.keeps K4.out) C4.out).mono ?_
  rintro e w4 ⟨rfl, hk⟩
  have K5 : Hid (Keeps w w4 (fun _ => False)) := Lib.hid (K4.out.trans hk)
  have HC5 := ((World.cell?_of_block (hk.block g (World.block_lt_of_cell? w3 _ HC4.out) id)).trans HC4.out)
  clear hk K4 C4 HC4
  rw [show EB.atN (.fault N0 4 7) = 7 from rfl]
  go_wp2_with fail
  refine (code_nil _).mono ?_
  rintro e w5 ⟨rfl, hk⟩
  have K6 : Hid (Keeps w w5 (fun _ => False)) := Lib.hid (K5.out.trans hk)
  clear hk K5 HC5
  go_wp2_with fail
  go_ret
  exact ⟨rfl, K6.out⟩
end Go.Proofs.YtdhcnmljkmodhaaDoor
