/- errors.As at chains; oops.New, oops.In, oops.Code, oops.At. -/
import Derived.Test.YtdhcnmljkmodhaaDoorOops4
namespace Go.Proofs.YtdhcnmljkmodhaaDoor
set_option linter.unusedSectionVars false
set_option linter.unusedVariables false
set_option linter.unusedSimpArgs false
open Go.RowKit Go.Extern.Stop Go.Stop Go.Extern

theorem AsHit.back {w w2 w' : World} {t : Addr} {v : Value} (h : AsHit w2 t v w') (hk : Keeps w w2 (fun _ => False)) : AsHit w t v w' :=
  ⟨(hk.mono (fun _ _ h => h.elim)).trans h.keep, h.cell⟩
def Hit (w : World) (t : Addr) (v : Value) (x : Bool) (w' : World) : Prop := x = true ∧ AsHit w t v w'
def Miss (w : World) (x : Bool) (w' : World) : Prop := x = false ∧ Keeps w w' (fun _ => False)
theorem keep2 (w : World) (o1 o2 : Obj) : Keeps w ((w.alloc o1).alloc o2) (fun _ => False) := ((Keeps.refl _ _).alloc _).alloc _
theorem cell2 {w : World} {a : Addr} {v : Value} (o1 o2 : Obj) (h : w.cell? a = some v) : ((w.alloc o1).alloc o2).cell? a = some v := by
  have hl : a.block < w.heap.size := World.block_lt_of_cell? w _ h
  rw [World.cell?_alloc_lt _ _ a (by simp; omega), World.cell?_alloc_lt _ _ a hl]; exact h
theorem frozen2 {w : World} {a : Addr} {v : Value} (o1 o2 : Obj) (h : w.cell? a = some v) (hf : w.frozen? a = false) : ((w.alloc o1).alloc o2).frozen? a = false := by
  have hl : a.block < w.heap.size := World.block_lt_of_cell? w _ h
  rw [World.frozen?_alloc_old _ _ a (by simp; omega), World.frozen?_alloc_old _ _ a (Nat.ne_of_lt hl)]; exact hf
theorem new2 (w : World) (x : Value) (t : TypeId) (o2 : Obj) : ((w.alloc (.cells #[x] t)).alloc o2).cell? ⟨w.heap.size, 0, none⟩ = some x := by
  rw [World.cell?_alloc_lt _ _ _ (by simp)]
  simp
theorem As_place_hit (p : Nat) (s : ByteArray) (l : List (Nat × ByteArray)) (b : EB) (t : Addr) (old : Value) (w : World) (hg : ErrT w) (ht : w.cell? t = some old) (hf : w.frozen? t = false)  :
    Calls Tryd.prog 40 #[chainV ((p, s) :: l) b, .iface 75 (.pointer (some t))] w (RetB (Hit w t (.pointer (some ⟨p, 0, none⟩)))) :=
  As_Place ((p, s) :: l) b t w _ hg ((as_place_hit p s l b _ t old _ (new2 _ _ _ _) (cell2 _ _ ht) (frozen2 _ _ ht hf)).mono fun e w' ⟨he, h⟩ => ⟨true, he, rfl, h.back (keep2 _ _ _)⟩)
theorem As_place_miss (b : EB) (t : Addr) (w : World) (hg : ErrT w) (hok : ChainOk w [] b) :
    Calls Tryd.prog 40 #[chainV [] b, .iface 75 (.pointer (some t))] w (RetB (Miss w)) :=
  As_Place [] b t w _ hg ((as_place_miss b _ t _ (EB.ok.keeps hok (keep2 _ _ _))).mono fun e w' ⟨he, h⟩ => ⟨false, he, rfl, (keep2 _ _ _).trans h⟩)
theorem As_fault_hit (l : List (Nat × ByteArray)) (g : Nat) (c f : Int) (t : Addr) (old : Value) (w : World) (hg : ErrT w) (ht : w.cell? t = some old) (hf : w.frozen? t = false) (hok : ChainOk w l (.fault g c f)) :
    Calls Tryd.prog 40 #[chainV l (.fault g c f), .iface 71 (.pointer (some t))] w (RetB (Hit w t (.pointer (some ⟨g, 0, none⟩)))) :=
  As_Fault l (.fault g c f) t w _ hg ((as_fault_hit l g c f _ t old _ (new2 _ _ _ _) (cell2 _ _ ht) (frozen2 _ _ ht hf) (hok.keeps (keep2 _ _ _))).mono fun e w' ⟨he, h⟩ => ⟨true, he, rfl, h.back (keep2 _ _ _)⟩)
theorem As_fault_miss (l : List (Nat × ByteArray)) (b : EB) (hb : ∀ g c f, b ≠ .fault g c f) (t : Addr) (w : World) (hg : ErrT w) (hok : ChainOk w l b) :
    Calls Tryd.prog 40 #[chainV l b, .iface 71 (.pointer (some t))] w (RetB (Miss w)) :=
  As_Fault l b t w _ hg ((as_fault_miss l b hb _ t _ (hok.keeps (keep2 _ _ _))).mono fun e w' ⟨he, h⟩ => ⟨false, he, rfl, (keep2 _ _ _).trans h⟩)
theorem As_errno_hit (l : List (Nat × ByteArray)) (b : EB) (c : Int) (hb : b.code = some c) (t : Addr) (old : Value) (w : World) (hg : ErrT w) (ht : w.cell? t = some old) (hf : w.frozen? t = false) (hok : ChainOk w l b) :
    Calls Tryd.prog 40 #[chainV l b, .iface 69 (.pointer (some t))] w (RetB (Hit w t (.int .i64 c))) :=
  As_Errno l b t w _ hg ((as_errno_hit l b c hb _ t old _ (new2 _ _ _ _) (cell2 _ _ ht) (frozen2 _ _ ht hf) (hok.keeps (keep2 _ _ _))).mono fun e w' ⟨he, h⟩ => ⟨true, he, rfl, h.back (keep2 _ _ _)⟩)

/-- oops.New. -/
theorem new_zero (a : Int) (w : World) : Calls Tryd.prog 30 #[.int .i64 0, .int .i64 a] w fun e w' => e = .returned .nilIface ∧ w = w' := by
  go_enter Tryd.func30, Tryd.ntmps30
  go_wp2
  go_ret
  exact ⟨rfl, rfl⟩
theorem new_some (c a : Int) (hc : (c == 0) = false) (w : World) : Calls Tryd.prog 30 #[.int .i64 c, .int .i64 a] w fun e w' =>
    e = .returned (chainV [] (.fault w.heap.size c a)) ∧ w' = w.alloc (.cells #[.int .i64 c, .int .i64 a] 73) := by
  go_enter Tryd.func30, Tryd.ntmps30
  go_wp2
  go_ret
  exact ⟨rfl, rfl⟩
/-- oops.In. -/
theorem in_nil (s : ByteArray) (w : World) : Calls Tryd.prog 49 #[.string s, .nilIface] w fun e w' => e = .returned .nilIface ∧ w = w' := by
  go_enter Tryd.func49, Tryd.ntmps49
  go_wp2
  go_ret
  exact ⟨rfl, rfl⟩
theorem in_some (s : ByteArray) (l : List (Nat × ByteArray)) (b : EB) (w : World) : Calls Tryd.prog 49 #[.string s, chainV l b] w fun e w' =>
    e = .returned (chainV ((w.heap.size, s) :: l) b) ∧ w' = w.alloc (.cells #[.string s, chainV l b] 77) := by
  have h1 := chainV_one l b
  go_enter Tryd.func49, Tryd.ntmps49
  go_wp2
  go_ret
  exact ⟨rfl, rfl⟩
theorem ChainOk.fault (w : World) (c a : Int) (t : TypeId) : ChainOk (w.alloc (.cells #[.int .i64 c, .int .i64 a] t)) [] (.fault w.heap.size c a) := ⟨by simp, by simp⟩
theorem ChainOk.cons {w : World} {l : List (Nat × ByteArray)} {b : EB} (h : ChainOk w l b) (s : ByteArray) (t : TypeId) : ChainOk (w.alloc (.cells #[.string s, chainV l b] t)) ((w.heap.size, s) :: l) b :=
  ⟨by simp, by simp, h.keeps ((Keeps.refl _ _).alloc _)⟩

/-- What has been said of it. -/
def EB.codeN (b : EB) : Int := b.code.getD 20
def EB.atN : EB → Int
  | .fault _ _ a => a
  | _ => -1
theorem code_nil (w : World) : Calls Tryd.prog 26 #[.nilIface] w fun e w' => e = .returned (.int .i64 0) ∧ Keeps w w' (fun _ => False) := by
  go_enter Tryd.func26, Tryd.ntmps26
  go_wp2
  go_ret
  exact ⟨rfl, (Keeps.refl _ _).alloc _⟩
theorem code_any (l : List (Nat × ByteArray)) (b : EB) (w : World) (hg : ErrT w) (hok : ChainOk w l b) :
    Calls Tryd.prog 26 #[chainV l b] w fun e w' => e = .returned (.int .i64 b.codeN) ∧ Keeps w w' (fun _ => False) := by
  have HG := Lib.hid (hg.keeps ((Keeps.refl w _).alloc (.cells #[.int .i64 0] 49)))
  have HO := Lib.hid (hok.keeps ((Keeps.refl w _).alloc (.cells #[.int .i64 0] 49)))
  clear hg hok
  cases hb : b.code with
  | some c =>
    have HB := Lib.hid hb
    clear hb
    go_enter Tryd.func26, Tryd.ntmps26
    go_wp2_with fail
    refine (As_errno_hit l b c HB.out _ (.int .i64 0) _ HG.out (by simp) (by simp) HO.out).mono ?_
    rintro e w' ⟨x, rfl, rfl, hk, hc⟩
    have HK := Lib.hid hk
    clear hk
    go_wp2_with fail
    go_ret
    exact ⟨by unfold EB.codeN; rw [HB.out]; rfl, ((Keeps.refl w (fun _ => False)).alloc _).trans' HK.out (fun j hj e => by have e : j = w.heap.size := e; omega)⟩
  | none =>
    cases b <;> cases hb
theorem at_any (l : List (Nat × ByteArray)) (b : EB) (w : World) (hg : ErrT w) (hok : ChainOk w l b) :
    Calls Tryd.prog 27 #[chainV l b] w fun e w' => e = .returned (.int .i64 b.atN) ∧ Keeps w w' (fun _ => False) := by
  have HG := Lib.hid (hg.keeps ((Keeps.refl w _).alloc (.cells #[.pointer none] 70)))
  have HO := Lib.hid (hok.keeps ((Keeps.refl w _).alloc (.cells #[.pointer none] 70)))
  clear hg hok
  by_cases hb : ∃ g c f, b = .fault g c f
  · obtain ⟨g, c, f, rfl⟩ := hb
    have base : ∀ (w : World) (l : List (Nat × ByteArray)), ChainOk w l (.fault g c f) → w.cell? ⟨g, 1, none⟩ = some (.int .i64 f) := fun w l h => by
      induction l with
      | nil => exact h.2
      | cons x r ih => obtain ⟨p, s⟩ := x; exact ih h.2.2
    have hf1 := base _ _ HO.out
    have HF := Lib.hid hf1
    have hgl : g < w.heap.size + 1 := by
      have := World.block_lt_of_cell? _ _ hf1
      simpa using this
    clear base hf1
    go_enter Tryd.func27, Tryd.ntmps27
    go_wp2_with fail
    refine (As_fault_hit l g c f _ (.pointer none) _ HG.out (by simp) (by simp) HO.out).mono ?_
    rintro e w' ⟨x, rfl, rfl, hk, hc⟩
    have HK := Lib.hid hk
    have hne : g ≠ w.heap.size := fun e => by
      have h1 := HF.out
      subst e
      simp at h1
    have hcell : w'.cell? ⟨g, 1, none⟩ = some (.int .i64 f) := by rw [← HF.out]; exact World.cell?_of_block (hk.block g (by simpa using hgl) hne)
    clear hk hne
    go_wp2_with fail
    go_ret
    exact ⟨rfl, ((Keeps.refl w (fun _ => False)).alloc _).trans' HK.out (fun j hj e => by have e : j = w.heap.size := e; omega)⟩
  · have hb' : ∀ g c f, b ≠ .fault g c f := fun g c f e => hb ⟨g, c, f, e⟩
    have e1 : b.atN = -1 := by
      cases b with
      | fault g c f => exact absurd rfl (hb' g c f)
      | _ => rfl
    have HB := Lib.hid hb'
    have HE := Lib.hid e1
    clear hb hb' e1
    go_enter Tryd.func27, Tryd.ntmps27
    go_wp2_with fail
    refine (As_fault_miss l b HB.out _ _ HG.out HO.out).mono ?_
    rintro e w' ⟨x, rfl, rfl, hk⟩
    have HK := Lib.hid hk
    clear hk
    go_wp2_with fail
    go_ret
    exact ⟨by rw [HE.out]; rfl, ((Keeps.refl w _).alloc _).trans HK.out⟩
end Go.Proofs.YtdhcnmljkmodhaaDoor
