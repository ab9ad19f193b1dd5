/- The heap's functions, said of the sorted list of what is in it. -/
import Derived.Test.YtmmoopikglbmbaaHeapTkI
import Derived.Test.YtmmoopikglbmbaaHeapPutI
namespace Go.Proofs.Ytmmoopikglbmbaa
set_option linter.unusedSectionVars false
set_option linter.unusedVariables false
set_option linter.unusedSimpArgs false
open Go.RowKit HM

section
variable {α : Type} [Inhabited α] {f : α → Value} {w : World} {b : Nat} {q : List (Itm α)} {nx : Int} {B : Nat}

/-- The heap at b holds the sorted list q. -/
def HeapQI (B : Nat) (f : α → Value) (w : World) (b : Nat) (q : List (Itm α)) (nx : Int) : Prop :=
  ∃ l sl, HeapAt f 42 55 w b l nx sl ∧ q.Perm l ∧ Sorted q ∧ IsHeap l ∧ (∀ a ∈ q, a.w < nx) ∧ 0 ≤ nx ∧ (∀ g, sl.ownBlock = some g → B ≤ g) ∧ B ≤ w.heap.size
/-- What a call on it may turn: its own block, and blocks of items. -/
def MayI (B : Nat) (w : World) (b : Nat) (j : Nat) : Prop := j = b ∨ B ≤ j ∧ ∃ cs fr, w.heap[j]? = some (.cells cs 55 fr)
omit [Inhabited α] in
theorem may_ownI {l : List (Itm α)} {sl : Value} (H : HeapAt f 42 55 w b l nx sl) (hB : ∀ g, sl.ownBlock = some g → B ≤ g) : ∀ j, sl.ownBlock = some j → MayI B w b j := by
  intro j hj
  have hBj := hB j hj
  rcases H.row.2 with ⟨rfl, _⟩ | ⟨g, cap, cur, rfl, _, hh, _⟩
  · cases hj
  · simp only [Value.ownBlock, Option.some.injEq] at hj; subst hj; exact .inr ⟨hBj, _, _, hh⟩
theorem heapQ_startI (w : World) (hB : B ≤ w.heap.size) : HeapQI B f (w.alloc (.cells #[.slice none 0 0, .int .u64 0] 42)) w.heap.size ([] : List (Itm α)) 0 :=
  ⟨[], _, ⟨heap_alloc_new w _, World.ownsRow_nil _ _ _ _, by simp [Value.ownBlock]⟩, .refl _, trivial, (fun k _ h => by simp at h), (fun a h => by cases h), by omega, (fun g h => by cases h), by rw [hs_alloc]; omega⟩
theorem HeapQI.keeps {w' : World} {S : Nat → Prop} (H : HeapQI B f w b q nx) (hk : Keeps w w' S) (hS : ∀ j, S j → ¬ MayI B w b j) : HeapQI B f w' b q nx := by
  obtain ⟨l, sl, h1, h2, h3, h4, h5, h6, h7, h8⟩ := H
  refine ⟨l, sl, ⟨(hk.block b (block_lt h1.hd) (fun s => hS b s (.inl rfl))).trans h1.hd, ownsRow_same h1.row (fun g hg => hk.block g (h1.own_lt g hg) (fun s => hS g s (may_ownI h1 h7 g hg))), h1.ne⟩, h2, h3, h4, h5, h6, h7, Nat.le_trans h8 hk.size⟩

/-- What Put ends in. -/
def PutsI (B : Nat) (f : α → Value) (w : World) (b : Nat) (q : List (Itm α)) (nx : Int) (it : Itm α) (e : Ending) (w' : World) : Prop :=
  e = .returned (.tuple #[]) ∧ HeapQI B f w' b (ins it q) (nx + 1) ∧ Keeps w w' (MayI B w b)
theorem put_QI (hf : ∀ x, (f x).oneCell' = true) (H : HeapQI B f w b q nx) (hl : q.length ≤ 1000) (n1 : nx ≤ 1000) (c : Int) (x : α) :
    Calls Try.prog 12 #[.pointer (some ⟨b, 0, none⟩), .int .u64 c, f x] w (PutsI B f w b q nx ⟨c, nx, x⟩) := by
  obtain ⟨l, sl, h1, h2, h3, h4, h5, h6, h7, h8⟩ := H
  refine (put_I hf h1 (by rw [← h2.length_eq]; exact hl) h6 n1 h4 c x).mono fun e w' h => ?_
  obtain ⟨he, l', sl', k1, k2, k3, k4, k5⟩ := h
  refine ⟨he, ⟨l', sl', k1, ?_, ins_sorted _ _ h3 h5, k3, ?_, by omega, (fun g hg => (k5 g hg).elim (h7 g) (fun h => Nat.le_trans h8 h)), Nat.le_trans h8 k4.size⟩, k4.mono (fun j _ hj => hj.elim .inl (may_ownI h1 h7 j))⟩
  · exact (ins_perm _ q).trans (((List.Perm.cons _ h2).trans (List.perm_append_comm (l₁ := [_]) (l₂ := l))).trans k2.symm)
  · intro a ha
    rcases List.mem_cons.1 ((ins_perm _ q).mem_iff.1 ha) with rfl | ha
    · show nx < nx + 1; omega
    · have := h5 a ha; omega
theorem len_QI (H : HeapQI B f w b q nx) : Calls Try.prog 14 #[.pointer (some ⟨b, 0, none⟩)] w fun e w' => e = .returned (.int .i64 q.length) ∧ w = w' := by
  obtain ⟨l, sl, h1, h2, h3, h4, h5, h6, h7, h8⟩ := H
  rw [h2.length_eq]
  exact len_I h1
theorem peek_noneQI (H : HeapQI B f w b ([] : List (Itm α)) nx) : Calls Try.prog 20 #[.pointer (some ⟨b, 0, none⟩)] w fun e w' => e = .returned (.tuple #[.int .i64 0, .int .u64 0, .bool false]) ∧ w = w' := by
  obtain ⟨l, sl, h1, h2, h3, h4, h5, h6, h7, h8⟩ := H
  exact peek_none_I h1 (by rw [← h2.length_eq]; rfl)
theorem take_noneQI (H : HeapQI B f w b ([] : List (Itm α)) nx) : Calls Try.prog 13 #[.pointer (some ⟨b, 0, none⟩)] w fun e w' => e = .returned (.tuple #[.int .i64 0, .int .u64 0, .bool false]) ∧ w = w' := by
  obtain ⟨l, sl, h1, h2, h3, h4, h5, h6, h7, h8⟩ := H
  exact take_none_I h1 (by rw [← h2.length_eq]; rfl)
theorem peek_someQI {a : Itm α} (H : HeapQI B f w b (a :: q) nx) : Calls Try.prog 20 #[.pointer (some ⟨b, 0, none⟩)] w fun e w' => e = .returned (.tuple #[f a.x, .int .u64 a.c, .bool true]) ∧ Keeps w w' (fun _ => False) := by
  obtain ⟨l, sl, h1, h2, h3, h4, h5, h6, h7, h8⟩ := H
  have h0 : 0 < l.length := by rw [← h2.length_eq]; simp
  obtain ⟨r, hr, _, _⟩ := root_eq l _ h0 h2 h3 h4
  rw [List.cons.injEq] at hr
  rw [hr.1]
  exact peek_some_I h1 h0
def TakesI (B : Nat) (f : α → Value) (w : World) (b : Nat) (a : Itm α) (q : List (Itm α)) (nx : Int) (e : Ending) (w' : World) : Prop :=
  e = .returned (.tuple #[f a.x, .int .u64 a.c, .bool true]) ∧ HeapQI B f w' b q nx ∧ Keeps w w' (MayI B w b)
theorem take_someQI (hf : ∀ x, (f x).oneCell' = true) {a : Itm α} (H : HeapQI B f w b (a :: q) nx) (hl : (a :: q).length ≤ 1001) : Calls Try.prog 13 #[.pointer (some ⟨b, 0, none⟩)] w (TakesI B f w b a q nx) := by
  obtain ⟨l, sl, h1, h2, h3, h4, h5, h6, h7, h8⟩ := H
  have h0 : 0 < l.length := by rw [← h2.length_eq]; simp
  obtain ⟨r, hr, hr2, _⟩ := root_eq l _ h0 h2 h3 h4
  rw [List.cons.injEq] at hr
  obtain ⟨hr1, rfl⟩ := hr
  refine (take_some_I hf h1 (by rw [← h2.length_eq]; exact hl) h4 h0).mono fun e w' h => ?_
  obtain ⟨he, l', sl', k1, k2, k3, k4, k5⟩ := h
  refine ⟨by rw [hr1]; exact he, ⟨l', sl', k1, hr2.trans k2.symm, h3.2, k3, (fun a ha => h5 a (List.mem_cons_of_mem _ ha)), h6, (fun g hg => h7 g (k5 ▸ hg)), Nat.le_trans h8 k4.size⟩, k4.mono (fun j _ hj => hj.elim .inl (may_ownI h1 h7 j))⟩
end
end Go.Proofs.Ytmmoopikglbmbaa
