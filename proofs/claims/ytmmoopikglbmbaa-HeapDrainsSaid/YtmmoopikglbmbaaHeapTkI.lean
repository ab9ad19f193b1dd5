/- The walk of Take. -/
import Derived.Test.YtmmoopikglbmbaaHeapPkI
import Derived.Test.YtmmoopikglbmbaaHeapDnI
namespace Go.Proofs.Ytmmoopikglbmbaa
set_option linter.unusedSectionVars false
set_option linter.unusedVariables false
set_option linter.unusedSimpArgs false
open Go.RowKit HM

theorem take_nil_I (w : World) : Calls Try.prog 13 #[.pointer none] w fun e w' => e = .returned (.tuple #[(.int .i64 0), .int .u64 0, .bool false]) ∧ w = w' := by
  go_enter Try.func13, Try.ntmps13
  go_wp2_with (go_at_call 20; refine (peek_nil_I _).mono ?_; rintro e w' ⟨rfl, rfl⟩)
  go_ret3
  exact ⟨rfl, rfl⟩

section
variable {α : Type} [Inhabited α] {f : α → Value} {w : World} {b : Nat} {l : List (Itm α)} {nx : Int} {sl : Value}

omit [Inhabited α] in
theorem take_none_I (H : HeapAt f 42 55 w b l nx sl) (h0 : l.length = 0) :
    Calls Try.prog 13 #[.pointer (some ⟨b, 0, none⟩)] w fun e w' => e = .returned (.tuple #[(.int .i64 0), .int .u64 0, .bool false]) ∧ w = w' := by
  have Hp := Lib.hid (peek_none_I H h0)
  clear H h0
  go_enter Try.func13, Try.ntmps13
  go_wp2_with (go_at_call 20; refine Hp.out.mono ?_; rintro e w' ⟨rfl, rfl⟩)
  go_ret3
  exact ⟨rfl, rfl⟩

/-- The last item wiped, the row cut, the field stored: the heap is cutL. -/
theorem cut_stepI (T E : Nat) (z : Value) (g cap k : Nat) {W : World} (hk : l.length = k + 1) (HL : HeapAt f T E W b (swapL l 0 k) nx (.slice (some ⟨g, 0, none⟩) (k + 1) cap)) :
    HeapAt f T E ((((W.setCell ⟨g, k * 3, none⟩ (.int .u64 0)).setCell ⟨g, k * 3 + 1, none⟩ (.int .u64 0)).setCell ⟨g, k * 3 + 2, none⟩ z).setCell ⟨b, 0, none⟩ (.slice (some ⟨g, 0, none⟩) k cap)) b (cutL l) nx (.slice (some ⟨g, 0, none⟩) k cap) := by
  have hgb : g ≠ b := fun e => HL.ne (by simp [Value.ownBlock, e])
  have hr := HL.row
  rw [swapL_length, hk] at hr
  have hcu : cutL l = (swapL l 0 k).take k := by unfold cutL; rw [hk]; rfl
  have hr2 := ownsRow_take (ownsRow_set (ownsRow_set (ownsRow_set hr (k * 3) (.int .u64 0)) (k * 3 + 1) (.int .u64 0)) (k * 3 + 2) z) k (by omega)
  rw [List.take_set, List.take_set, List.take_set, List.set_eq_of_length_le, List.set_eq_of_length_le, List.set_eq_of_length_le, ← flat_take, ← hcu] at hr2
  · refine ⟨?_, ?_, ?_⟩
    · rw [setCell_heap (cs := #[.slice (some ⟨g, 0, none⟩) (k + 1) cap, .int .u64 nx]) (t := T) (fr := (0, 0))]
      · rfl
      · rw [Below.heap_setCell _ _ _ _ (Ne.symm hgb), Below.heap_setCell _ _ _ _ (Ne.symm hgb), Below.heap_setCell _ _ _ _ (Ne.symm hgb)]; exact HL.hd
    · rw [cutL_length, hk]
      exact ownsRow_same hr2 (fun g' hg' => by simp only [Value.ownBlock, Option.some.injEq] at hg'; subst hg'; exact Below.heap_setCell _ _ _ _ hgb)
    · intro e; exact hgb (by simpa [Value.ownBlock] using e)
  all_goals (simp only [List.length_take, List.length_set]; omega)

set_option maxHeartbeats 1000000 in
theorem take_some_I (hf : ∀ x, (f x).oneCell' = true) (H : HeapAt f 42 55 w b l nx sl) (hl : l.length ≤ 1001) (hh : IsHeap l) (h0 : 0 < l.length) :
    Calls Try.prog 13 #[.pointer (some ⟨b, 0, none⟩)] w fun e w' => e = .returned (.tuple #[f (at' l 0).x, .int .u64 (at' l 0).c, .bool true]) ∧
      ∃ l' sl', HeapAt f 42 55 w' b l' nx sl' ∧ l'.Perm (cutL l) ∧ IsHeap l' ∧
        Keeps w w' (fun j => j = b ∨ sl.ownBlock = some j) ∧ sl'.ownBlock = sl.ownBlock := by
  obtain ⟨k, hk⟩ : ∃ k, l.length = k + 1 := ⟨l.length - 1, by omega⟩
  obtain ⟨g, cap, hsl, hgb, hgs⟩ := H.form (by omega)
  subst hsl
  have Hp := Lib.hid (peek_some_I H h0)
  rw [hk] at H
  have GH := Lib.hid H
  have GD := Lib.hid (cutL_down l hh h0)
  generalize hx : f (at' l 0).x = x0
  generalize hc : (at' l 0).c = c0
  rw [hx, hc] at Hp
  clear H hh hx hc
  go_enter Try.func13, Try.ntmps13
  go_wp2_with fail
  refine Hp.out.mono ?_
  rintro e w1 ⟨rfl, hk1⟩
  have GH1 := Lib.hid (GH.out.keeps hk1)
  have GK1 := Lib.hid hk1
  have hb0 := GH1.out.c0
  have Hkl := Lib.hid hk
  have hkb : k ≤ 1000 := by omega
  clear hk1
  rw [hk] at hl
  clear hk
  go_wp2_with fail
  refine (swap_I hf GH1.out _ _ (by omega) (by have := Hkl.out; omega) (by omega) (by have := Hkl.out; omega)).mono ?_
  rintro e w2 ⟨rfl, hL, hk⟩
  rw [Int.toNat_zero, Int.toNat_natCast] at hL
  have GK2 := Lib.hid hk
  have hf2 := hL.fr
  have hrow := hL.row
  rw [swapL_length, Hkl.out] at hrow
  have aa := flat_get f (swapL l 0 k) k (by rw [swapL_length, Hkl.out]; omega)
  generalize at' (swapL l 0 k) k = it at aa
  obtain ⟨a1, a2, a3⟩ := aa
  have a1 := ownsRow_cell hrow a1
  have a2 := ownsRow_cell hrow a2
  have a3 := ownsRow_cell hrow a3
  have f0 : ∀ o, w2.frozen? ⟨g, o, none⟩ = false := fun o => ownsRow_free hrow o
  have hcap : k ≤ cap := by have := ownsRow_lt hrow; omega
  have hb2 := hL.c0
  have hbs := block_lt hL.hd
  have hgs2 := (ownsRow_lt hrow).2.1
  have Fin := Lib.hid (cut_stepI (b := b) 42 55 (.int .i64 0) g cap k Hkl.out hL)
  clear hL hk hrow hb0
  go_wp2_with fail
  refine (down_I hf Fin.out (by rw [cutL_length, Hkl.out]; omega) GD.out).mono ?_
  rintro e w4 ⟨rfl, l', hL4, hp4, hh4, hk4⟩
  have H4 := Lib.hid hL4
  have P4 := Lib.hid hp4
  have I4 := Lib.hid hh4
  have K4 := Lib.hid hk4
  clear hL4 hp4 hh4 hk4 Fin
  go_wp2_with fail
  go_ret3
  refine ⟨rfl, l', _, H4.out, P4.out, I4.out, ?_, rfl⟩
  have k2 := ((GK1.out.mono (T := fun j => j = b ∨ (Value.slice (some ⟨g, 0, none⟩) (k + 1) cap).ownBlock = some j) (fun _ _ h => h.elim)).trans (GK2.out.mono (fun _ _ h => .inr h)))
  exact (((((k2.setCell (p := ⟨g, k * 3, none⟩) (fun _ => .inr rfl) _).setCell (p := ⟨g, k * 3 + 1, none⟩) (fun _ => .inr rfl) _).setCell (p := ⟨g, k * 3 + 2, none⟩) (fun _ => .inr rfl) _).setCell (p := ⟨b, 0, none⟩) (fun _ => .inl rfl) _)).trans (K4.out.mono (fun _ _ h => .inr h))
end
end Go.Proofs.Ytmmoopikglbmbaa
