/- A heap in memory: its two cells, and the row of its items, three cells each. -/
import Derived.Test.YtmmoopikglbmbaaMem
import Derived.Test.YtmmoopikglbmbaaHeapMath
namespace Go.Proofs.Ytmmoopikglbmbaa
set_option linter.unusedSectionVars false
set_option linter.unusedVariables false
set_option linter.unusedSimpArgs false
open Go.RowKit HM

section
variable {α : Type} [Inhabited α]

def flat (f : α → Value) : List (Itm α) → List Value
  | [] => []
  | a :: r => .int .u64 a.c :: .int .u64 a.w :: f a.x :: flat f r
omit [Inhabited α] in
theorem flat_length (f : α → Value) (l : List (Itm α)) : (flat f l).length = l.length * 3 := by
  induction l with
  | nil => rfl
  | cons a r ih => simp [flat, ih]; omega
omit [Inhabited α] in
theorem flat_append (f : α → Value) (l r : List (Itm α)) : flat f (l ++ r) = flat f l ++ flat f r := by
  induction l with
  | nil => rfl
  | cons a s ih => simp [flat, ih]
omit [Inhabited α] in
theorem flat_take (f : α → Value) (l : List (Itm α)) (k : Nat) : flat f (l.take k) = (flat f l).take (k * 3) := by
  induction l generalizing k with
  | nil => simp [flat]
  | cons a s ih =>
    cases k with
    | zero => simp [flat]
    | succ k => rw [show (k + 1) * 3 = k * 3 + 1 + 1 + 1 by omega]; simp [flat, ih]
theorem flat_get (f : α → Value) (l : List (Itm α)) (i : Nat) (h : i < l.length) :
    (flat f l)[i * 3]? = some (.int .u64 (at' l i).c) ∧ (flat f l)[i * 3 + 1]? = some (.int .u64 (at' l i).w) ∧ (flat f l)[i * 3 + 2]? = some (f (at' l i).x) := by
  induction l generalizing i with
  | nil => simp at h
  | cons a s ih =>
    cases i with
    | zero => simp [flat, at']
    | succ i =>
      have := ih i (by simpa using h)
      rw [show (i + 1) * 3 = i * 3 + 1 + 1 + 1 by omega]
      simpa [flat, at'] using this
theorem flat_set (f : α → Value) (l : List (Itm α)) (i : Nat) (x : Itm α) :
    flat f (l.set i x) = (((flat f l).set (i * 3) (.int .u64 x.c)).set (i * 3 + 1) (.int .u64 x.w)).set (i * 3 + 2) (f x.x) := by
  induction l generalizing i with
  | nil => simp [flat]
  | cons a s ih =>
    cases i with
    | zero => simp [flat]
    | succ i => rw [show (i + 1) * 3 = i * 3 + 1 + 1 + 1 by omega]; simp [flat, ih]

structure HeapAt (f : α → Value) (T E : Nat) (w : World) (b : Nat) (l : List (Itm α)) (nx : Int) (sl : Value) : Prop where
  hd : w.heap[b]? = some (.cells #[sl, .int .u64 nx] T (0, 0))
  row : w.ownsRow 0 E 3 sl l.length (flat f l)
  ne : sl.ownBlock ≠ some b

variable {f : α → Value} {T E : Nat} {w : World} {b : Nat} {l : List (Itm α)} {nx : Int} {sl : Value}
omit [Inhabited α] in
theorem HeapAt.c0 (h : HeapAt f T E w b l nx sl) : w.cell? ⟨b, 0, none⟩ = some sl := by rw [cell_at h.hd]; rfl
omit [Inhabited α] in
theorem HeapAt.c1 (h : HeapAt f T E w b l nx sl) : w.cell? ⟨b, 1, none⟩ = some (.int .u64 nx) := by rw [cell_at h.hd]; rfl
omit [Inhabited α] in
theorem HeapAt.fr (h : HeapAt f T E w b l nx sl) (o : Nat) : w.frozen? ⟨b, o, none⟩ = false := free_at h.hd o
omit [Inhabited α] in
theorem HeapAt.form (h : HeapAt f T E w b l nx sl) (h0 : 0 < l.length) : ∃ g cap, sl = .slice (some ⟨g, 0, none⟩) l.length cap ∧ g ≠ b ∧ g < w.heap.size := by
  rcases h.row.2 with ⟨_, h2⟩ | ⟨g, cap, cur, hv, hg, hh, r⟩
  · omega
  · refine ⟨g, cap, hv, ?_, block_lt hh⟩
    have := h.ne; subst hv; intro e; exact this (by simp [Value.ownBlock, e])
omit [Inhabited α] in
theorem HeapAt.nil (h : HeapAt f T E w b l nx sl) (h0 : l.length = 0) : sl = .slice none 0 0 ∨ ∃ g cap, sl = .slice (some ⟨g, 0, none⟩) 0 cap := by
  rcases h.row.2 with ⟨h2, _⟩ | ⟨g, cap, cur, hv, hg, hh, r⟩
  · exact .inl h2
  · exact .inr ⟨g, cap, by rw [hv, h0]⟩
omit [Inhabited α] in
/-- What all that leaves the heap's two blocks alone leaves. -/
theorem HeapAt.same {w' : World} (h : HeapAt f T E w b l nx sl) (h1 : w'.heap[b]? = w.heap[b]?) (h2 : ∀ g, sl.ownBlock = some g → w'.heap[g]? = w.heap[g]?) : HeapAt f T E w' b l nx sl :=
  ⟨h1.trans h.hd, ownsRow_same h.row h2, h.ne⟩
omit [Inhabited α] in
theorem HeapAt.own_lt (h : HeapAt f T E w b l nx sl) : ∀ g, sl.ownBlock = some g → g < w.heap.size := by
  intro g hg
  rcases h.row.2 with ⟨rfl, _⟩ | ⟨g', cap, cur, rfl, _, hh, r⟩
  · cases hg
  · simp only [Value.ownBlock, Option.some.injEq] at hg; subst hg; exact block_lt hh
omit [Inhabited α] in
theorem HeapAt.keeps {w' : World} (h : HeapAt f T E w b l nx sl) (hk : Keeps w w' (fun _ => False)) : HeapAt f T E w' b l nx sl :=
  ⟨(hk.block b (block_lt h.hd) id).trans h.hd, ownsRow_same h.row (fun g hg => hk.block g (h.own_lt g hg) id), h.ne⟩
end
end Go.Proofs.Ytmmoopikglbmbaa
