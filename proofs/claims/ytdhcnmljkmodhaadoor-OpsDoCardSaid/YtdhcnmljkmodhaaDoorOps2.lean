/- slices.Clone over ints; a chain of ops that reads as a list; ops.Do. -/
import Derived.Test.YtdhcnmljkmodhaaDoorOps1
namespace Go.Proofs.YtdhcnmljkmodhaaDoor
set_option linter.unusedSectionVars false
set_option linter.unusedVariables false
set_option linter.unusedSimpArgs false
set_option maxRecDepth 20000
open Go.RowKit

set_option maxHeartbeats 1000000 in
theorem clone_any (w : World) (v : Value) (l : List Int) (hl : l.length ≤ 1000) (H : ReadsI w v l) : Calls Tryd.prog 13 #[v] w fun e w' => ∃ u, e = .returned u ∧ Keeps w w' (fun _ => False) ∧ ReadsI w' u l := by
  obtain ⟨i0, hi, hz, hs, hb⟩ := infoInt'
  obtain ⟨a, cap, rfl, _, _⟩ := H.form
  cases a with
  | none =>
    obtain rfl : l = [] := by
      obtain ⟨_, a', cap', h2, _, _, h5, _⟩ := H
      simp only [Value.slice.injEq] at h2
      exact List.eq_nil_of_length_eq_zero (h5 h2.1.symm).1
    clear H
    have hq := fun W => Lib.run_eql_slice_nil (P := Tryd.prog) W 22 3 none 0 cap 0 0 Tryd.underlying22
    go_enter Tryd.func13, Tryd.ntmps13
    go_wp2
    go_ret
    exact ⟨_, rfl, Keeps.refl _ _, (⟨rfl, none, 0, rfl, Nat.le_refl _, Nat.zero_le _, fun _ => ⟨rfl, rfl⟩, fun h => by simp at h⟩ : ReadsI w (.slice none 0 0) [])⟩
  | some p =>
    have HS := Lib.hid (Src.ofReadsI (H.keeps ((Keeps.refl w _).alloc (.cells #[] 3))))
    have HO : Hid ((w.alloc (.cells #[] 3)).ownsRow w.heap.size 3 1 (.slice (some ⟨w.heap.size, 0, none⟩) 0 0) 0 []) := Lib.hid ⟨rfl, .inr ⟨_, _, _, rfl, Nat.le_refl _, heap_alloc_new w _, Nat.zero_le _, Nat.zero_le _, rfl, by simp⟩⟩
    clear H
    have hq := fun W => Lib.run_eql_slice_nil (P := Tryd.prog) W 22 3 (some p) l.length cap 0 0 Tryd.underlying22
    go_enter Tryd.func13, Tryd.ntmps13
    go_wp2_with (at_builtin; refine wpList_append_any rfl (.tmp 5) (.tmp 6) 22 22 rfl 3 i0 _ 1 8 Tryd.underlying22 hi hz hs hb rfl w.heap.size _ 0 [] rfl HO.out _ l.length (l.map (Value.int .i64)) rfl HS.out (by unfold maxLen; omega) (by omega) (by simp) ?_)
    intro v' w' D
    obtain ⟨o, g, _, _⟩ := D
    have K : Hid (Keeps w w' (fun _ => False)) := Lib.hid (((Keeps.refl w _).alloc (.cells #[] 3)).grown g (fun k hk hlt => by simp only [Value.ownBlock, Option.some.injEq] at hk; omega))
    have R : Hid (ReadsI w' v' l) := Lib.hid (ReadsI.ofOwn rfl (by simpa using o))
    clear o g HS HO
    go_wp2_with fail
    go_ret
    exact ⟨_, rfl, K.out, R.out⟩

/-- An op's cells. -/
def opC (o : Int × Int) : List Value := [.int .i64 o.1, .int .i64 o.2]
/-- A chain that reads as l. -/
def RdO (w : World) (v : Value) (l : List (Int × Int)) : Prop := ReadsC w 2 v l.length (l.flatMap opC)
theorem RdO.keeps {w w' : World} {v : Value} {l : List (Int × Int)} (h : RdO w v l) (hk : Keeps w w' (fun _ => False)) : RdO w' v l := ReadsC.keeps h hk
theorem RdO.form {w : World} {v : Value} {l : List (Int × Int)} (h : RdO w v l) : ∃ a cap, v = .slice a l.length cap ∧ l.length ≤ cap ∧ cap ≤ maxLen := by
  obtain ⟨_, a, cap, h1, h2, h3, _⟩ := h; exact ⟨a, cap, h1, h2, h3⟩
theorem RdO.cell {w : World} {a : Option Addr} {n cap : Nat} {l : List (Int × Int)} (h : RdO w (.slice a n cap) l) (k : Nat) (hk : k < l.length) :
    ∃ g off, a = some ⟨g, off, none⟩ ∧ g < w.heap.size ∧ ∀ j (hj : j < l.length), w.cell? ⟨g, off + j * 2, none⟩ = some (.int .i64 l[j].1) ∧ w.cell? ⟨g, off + j * 2 + 1, none⟩ = some (.int .i64 l[j].2) := by
  obtain ⟨_, a', cap', h2, h3, h4, h5, h6⟩ := h
  obtain ⟨g, off, rfl, hg, hc⟩ := h6 (by omega)
  simp only [Value.slice.injEq] at h2
  refine ⟨g, off, h2.1, hg, fun j hj => ⟨?_, ?_⟩⟩
  · have := hc (j * 2) (.int .i64 l[j].1) (by have := flatMap_get opC 2 (fun _ => rfl) l j 0 hj (by omega); rw [Nat.add_zero] at this; rw [this]; rfl)
    exact this
  · have := hc (j * 2 + 1) (.int .i64 l[j].2) (by rw [flatMap_get opC 2 (fun _ => rfl) l j 1 hj (by omega)]; rfl)
    rw [← Nat.add_assoc] at this
    exact this

/-- A chain done to a header that may be. -/
def chainL (ks : List Int) : List Int → List (Int × Int) → Option (List Int)
  | h, [] => some h
  | h, o :: r => match oneL ks h o.1 o.2 with
    | none => none
    | some h' => chainL ks h' r
/-- The same, to any header. -/
def doL (ks h : List Int) (c : List (Int × Int)) : Option (List Int) := if validL ks h then chainL ks h c else none
theorem oneL_cons (ks : List Int) (a : Int) (t : List Int) (k x : Int) : oneL ks (a :: t) k x = if k = 1 then (if t = [] then none else some t) else if k = 2 then (if kindL ks x = kindL ks a then some (x :: t) else none)
    else if k = 3 then (if mayL (kindL ks x) (kindL ks a) then some (x :: a :: t) else none) else none := rfl
theorem oneL_len {ks h h' : List Int} {k x : Int} (e : oneL ks h k x = some h') : h'.length ≤ h.length + 1 ∧ h' ≠ [] := by
  cases h with
  | nil => cases e
  | cons a t =>
    rw [oneL_cons] at e
    by_cases h1 : k = 1
    · rw [if_pos h1] at e
      by_cases ht : t = []
      · rw [if_pos ht] at e; cases e
      · rw [if_neg ht] at e; obtain rfl := Option.some.inj e; exact ⟨by simp; omega, ht⟩
    · rw [if_neg h1] at e
      by_cases h2 : k = 2
      · rw [if_pos h2] at e
        by_cases hk : kindL ks x = kindL ks a
        · rw [if_pos hk] at e; obtain rfl := Option.some.inj e; simp
        · rw [if_neg hk] at e; cases e
      · rw [if_neg h2] at e
        by_cases h3 : k = 3
        · rw [if_pos h3] at e
          by_cases hm : mayL (kindL ks x) (kindL ks a) = true
          · rw [if_pos hm] at e; obtain rfl := Option.some.inj e; simp
          · rw [if_neg hm] at e; cases e
        · rw [if_neg h3] at e; cases e
end Go.Proofs.YtdhcnmljkmodhaaDoor
