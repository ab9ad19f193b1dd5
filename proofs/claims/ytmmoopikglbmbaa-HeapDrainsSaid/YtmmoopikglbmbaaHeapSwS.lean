/- The walks of less and swap. -/
import Derived.Test.YtmmoopikglbmbaaRows
import Derived.Test.YtmmoopikglbmbaaHeapMem
import Derived.RegionTactic
import Derived.BigRegion
namespace Go.Proofs.Ytmmoopikglbmbaa
set_option linter.unusedSectionVars false
set_option linter.unusedVariables false
set_option linter.unusedSimpArgs false
open Go.RowKit HM

section
variable {α : Type} [Inhabited α] {f : α → Value} {w : World} {b : Nat} {l : List (Itm α)} {nx : Int} {sl : Value}

set_option maxHeartbeats 1000000 in
theorem swap_S (hf : ∀ x, (f x).oneCell' = true) (H : HeapAt f 27 50 w b l nx sl) (i k : Int) (i0 : 0 ≤ i) (i1 : i < l.length) (k0 : 0 ≤ k) (k1 : k < l.length) :
    Calls Try.prog 16 #[.pointer (some ⟨b, 0, none⟩), .int .i64 i, .int .i64 k] w fun e w' => e = .returned (.tuple #[]) ∧
      HeapAt f 27 50 w' b (swapL l i.toNat k.toNat) nx sl ∧ Keeps w w' (fun j => sl.ownBlock = some j) := by
  obtain ⟨i, rfl⟩ := Int.eq_ofNat_of_zero_le i0
  obtain ⟨k, rfl⟩ := Int.eq_ofNat_of_zero_le k0
  simp only [Int.toNat_natCast]
  have j1 : i < l.length := by omega
  have j2 : k < l.length := by omega
  obtain ⟨g, cap, hsl, hgb, hgs⟩ := H.form (by omega)
  subst hsl
  have hbs := block_lt H.hd
  have hb0 := H.c0
  have hr := H.row
  obtain ⟨a1, a2, a3⟩ := flat_get f l i j1
  obtain ⟨e1, e2, e3⟩ := flat_get f l k j2
  have a1 := ownsRow_cell hr a1
  have a2 := ownsRow_cell hr a2
  have a3 := ownsRow_cell hr a3
  have e1 := ownsRow_cell hr e1
  have e2 := ownsRow_cell hr e2
  have e3 := ownsRow_cell hr e3
  have f1 := hf (at' l i).x
  have f2 := hf (at' l k).x
  have f0 : ∀ o, w.frozen? ⟨g, o, none⟩ = false := fun o => ownsRow_free hr o
  have fin : ∀ W : World, W = ((((((w.setCell ⟨g, i * 3, none⟩ (.int .u64 (at' l k).c)).setCell ⟨g, i * 3 + 1, none⟩ (.int .u64 (at' l k).w)).setCell ⟨g, i * 3 + 2, none⟩ (f (at' l k).x)).setCell ⟨g, k * 3, none⟩ (.int .u64 (at' l i).c)).setCell ⟨g, k * 3 + 1, none⟩ (.int .u64 (at' l i).w)).setCell ⟨g, k * 3 + 2, none⟩ (f (at' l i).x)).drew →
      HeapAt f 27 50 W b (swapL l i k) nx (.slice (some ⟨g, 0, none⟩) l.length cap) ∧ Keeps w W (fun j => Value.ownBlock (.slice (some ⟨g, 0, none⟩) l.length cap) = some j) := by
    intro W hW
    subst hW
    have hr2 := ownsRow_set (ownsRow_set (ownsRow_set (ownsRow_set (ownsRow_set (ownsRow_set hr (i * 3) (.int .u64 (at' l k).c)) (i * 3 + 1) (.int .u64 (at' l k).w)) (i * 3 + 2) (f (at' l k).x)) (k * 3) (.int .u64 (at' l i).c)) (k * 3 + 1) (.int .u64 (at' l i).w)) (k * 3 + 2) (f (at' l i).x)
    rw [← flat_set f l i (at' l k), ← flat_set f (l.set i (at' l k)) k (at' l i)] at hr2
    have hk : Keeps w _ (fun j => j = g) := (((((((Keeps.refl w (fun j => j = g)).setCell (p := ⟨g, i * 3, none⟩) (fun _ => rfl) (.int .u64 (at' l k).c)).setCell (p := ⟨g, i * 3 + 1, none⟩) (fun _ => rfl) (.int .u64 (at' l k).w)).setCell (p := ⟨g, i * 3 + 2, none⟩) (fun _ => rfl) (f (at' l k).x)).setCell (p := ⟨g, k * 3, none⟩) (fun _ => rfl) (.int .u64 (at' l i).c)).setCell (p := ⟨g, k * 3 + 1, none⟩) (fun _ => rfl) (.int .u64 (at' l i).w)).setCell (p := ⟨g, k * 3 + 2, none⟩) (fun _ => rfl) (f (at' l i).x)).drew
    refine ⟨⟨?_, ?_, H.ne⟩, hk.mono (fun j _ e => by subst e; rfl)⟩
    · rw [hk.block b hbs (fun e => hgb e.symm)]; exact H.hd
    · rw [swapL_length]; unfold swapL; exact ownsRow_drew hr2
  clear hr H hf
  generalize at' l i = A at *
  generalize at' l k = B at *
  obtain ⟨ac, aw, ax⟩ := A
  obtain ⟨bc, bw, bx⟩ := B
  simp only at *
  by_cases hik : i = k
  · subst hik
    have q1 := Option.some.inj (a1.symm.trans e1)
    have q2 := Option.some.inj (a2.symm.trans e2)
    have q3 := Option.some.inj (a3.symm.trans e3)
    simp only [Value.int.injEq, true_and] at q1 q2
    subst q1 q2
    clear e1 e2 e3 f2
    rw [← q3] at fin
    clear q3
    have Hf := Lib.hid fin
    clear fin
    go_enter Try.func16, Try.ntmps16
    go_wp2
    go_region
    go_end0
    exact ⟨rfl, Hf.out _ rfl⟩
  · have Hf := Lib.hid fin
    have hik3 : i * 3 ≠ k * 3 := by omega
    clear fin
    go_enter Try.func16, Try.ntmps16
    go_wp2
    go_region
    go_end0
    exact ⟨rfl, Hf.out _ rfl⟩
end
end Go.Proofs.Ytmmoopikglbmbaa
