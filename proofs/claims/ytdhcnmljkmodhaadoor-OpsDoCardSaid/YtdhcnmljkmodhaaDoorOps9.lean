/- known.popped, where it does not range. -/
import Derived.Test.YtdhcnmljkmodhaaDoorOps7
import Derived.Test.YtdhcnmljkmodhaaDoorHeader7
namespace Go.Proofs.YtdhcnmljkmodhaaDoor
set_option linter.unusedSectionVars false
set_option linter.unusedVariables false
set_option linter.unusedSimpArgs false
set_option maxRecDepth 20000
open Go.RowKit

/-- A set's cells. -/
def setC (s : BSet) : List Value := [.int .u64 s.lo.toNat, .int .u64 s.hi.toNat]
/-- What is known, as it reads. -/
def RdK (w : World) (v : Value) (l : List BSet) : Prop := ReadsC w 2 v l.length (l.flatMap setC)
theorem RdK.keeps {w w' : World} {v : Value} {l : List BSet} (h : RdK w v l) (hk : Keeps w w' (fun _ => False)) : RdK w' v l := ReadsC.keeps h hk
theorem RdK.form {w : World} {v : Value} {l : List BSet} (h : RdK w v l) : ∃ a cap, v = .slice a l.length cap ∧ l.length ≤ cap ∧ cap ≤ maxLen := by
  obtain ⟨_, a, cap, h1, h2, h3, _⟩ := h; exact ⟨a, cap, h1, h2, h3⟩
theorem RdK.cell {w : World} {a : Option Addr} {n cap : Nat} {s : BSet} {r : List BSet} (h : RdK w (.slice a n cap) (s :: r)) :
    ∃ g off, a = some ⟨g, off, none⟩ ∧ g < w.heap.size ∧ w.cell? ⟨g, off, none⟩ = some (.int .u64 s.lo.toNat) ∧ w.cell? ⟨g, off + 1, none⟩ = some (.int .u64 s.hi.toNat) := by
  obtain ⟨_, a', cap', h2, h3, h4, h5, h6⟩ := h
  obtain ⟨g, off, rfl, hg, hc⟩ := h6 (by simp)
  simp only [Value.slice.injEq] at h2
  exact ⟨g, off, h2.1, hg, hc 0 _ rfl, hc 1 _ rfl⟩
/-- What is left of it behind the first. -/
theorem RdK.tail {w : World} {g off cap : Nat} {s : BSet} {r : List BSet} (h : RdK w (.slice (some ⟨g, off, none⟩) (s :: r).length cap) (s :: r)) (hc : ¬ cap = 1) : RdK w (.slice (some ⟨g, off + 2, none⟩) r.length (cap - 1)) r := by
  obtain ⟨_, a', cap', h2, h3, h4, h5, h6⟩ := h
  obtain ⟨g', off', rfl, hg, hc'⟩ := h6 (by simp)
  simp only [Value.slice.injEq, Option.some.injEq, Addr.mk.injEq, and_true] at h2
  obtain ⟨⟨rfl, rfl⟩, _, rfl⟩ := h2
  simp only [List.length_cons] at h3
  refine ⟨flatMap_len setC 2 (fun _ => rfl) r, _, _, rfl, by omega, by omega, (fun h => by cases h), fun _ => ⟨g, off + 2, rfl, hg, fun j u hj => ?_⟩⟩
  have := hc' (2 + j) u (by rw [List.flatMap_cons, List.getElem?_append_right (by simp [setC])]; simpa [setC] using hj)
  rw [← Nat.add_assoc] at this
  exact this
theorem RdK.void (w : World) (a : Addr) (c : Nat) (hc : c ≤ maxLen) : RdK w (.slice (some a) 0 c) [] :=
  ⟨rfl, some a, c, rfl, Nat.zero_le _, hc, (fun h => by cases h), fun h => by simp at h⟩
/-- The kinds below those. -/
def belowAll (l : List Nat) : BSet := l.foldl (fun b (k : Nat) => b.or (belowS (k : Int))) BSet.empty
theorem belowAll_snoc (l : List Nat) (k : Nat) : belowAll (l ++ [k]) = (belowAll l).or (belowS k) := by unfold belowAll; rw [List.foldl_append]; rfl
/-- What is known behind a Pop. -/
def poppedL : List BSet → Option (List BSet)
  | [] => none
  | s :: r => if (s.withoutN 1).isEmpty then none else if r = [] then some [belowAll (s.withoutN 1).mem] else some r
def KnPost (w : World) (r : Option (List BSet)) (e : Ending) (w' : World) : Prop :=
  ∃ v, e = .returned (.tuple #[v, .bool r.isSome]) ∧ Keeps w w' (fun _ => False) ∧ ∀ l, r = some l → RdK w' v l

set_option maxHeartbeats 1000000 in
theorem popped_plain (w : World) (v : Value) (s : BSet) (r : List BSet) (H : RdK w v (s :: r)) (hp : (s.withoutN 1).isEmpty = true ∨ r ≠ []) :
    Calls Tryd.prog 42 #[v] w (KnPost w (poppedL (s :: r))) := by
  obtain ⟨a, cap, rfl, hcp, hcm⟩ := H.form
  obtain ⟨g, off, rfl, hg, c0, c1⟩ := H.cell
  have GH := Lib.hid H
  have hlen : (s :: r).length = r.length + 1 := rfl
  clear H
  go_enter Tryd.func42, Tryd.ntmps42
  go_wp2_with fail
  refine (without_any s 1 _).mono ?_
  rintro e w1 ⟨rfl, hk1⟩
  have K1 := Lib.hid hk1
  clear hk1
  have GH1 := Lib.hid (GH.out.keeps K1.out)
  have hpd : poppedL (s :: r) = if (s.withoutN 1).isEmpty then none else if r = [] then some [belowAll (s.withoutN 1).mem] else some r := rfl
  have HPD := Lib.hid hpd
  generalize s.withoutN 1 = t at *
  clear hpd GH c0 c1
  unfold BSet.val
  have K2 := Lib.hid (K1.out.alloc (.cells #[.int .u64 t.lo.toNat, .int .u64 t.hi.toNat] 57))
  have B2 := heap_alloc_new w1 (.cells #[.int .u64 t.lo.toNat, .int .u64 t.hi.toNat] 57)
  have GH2 := Lib.hid (GH1.out.keeps ((Keeps.refl w1 _).alloc (.cells #[.int .u64 t.lo.toNat, .int .u64 t.hi.toNat] 57)))
  clear GH1
  go_wp2_with fail
  generalize w1.alloc (.cells #[.int .u64 t.lo.toNat, .int .u64 t.hi.toNat] 57) = W at *
  generalize w1.heap.size = N at *
  refine (empty_any t _).mono ?_
  rintro e w3 ⟨rfl, hk3⟩
  have K3 := Lib.hid (K2.out.trans hk3)
  have GH3 := Lib.hid (GH2.out.keeps hk3)
  clear hk3 GH2 K2 K1 B2
  cases he : t.isEmpty with
  | true =>
    rw [he] at HPD
    go_wp2_with fail
    go_ret2
    exact ⟨.slice none 0 0, by rw [HPD.out]; rfl, K3.out, fun l hl => by rw [HPD.out] at hl; cases hl⟩
  | false =>
    have hr : r ≠ [] := hp.resolve_left (by rw [he]; decide)
    have hl0 : 0 < r.length := List.length_pos_iff.2 hr
    have hl1 : (1 : Int) < (r.length : Int) + 1 := by omega
    rw [he, if_neg hr] at HPD
    have hcap : ¬ cap = 1 := by simp only [List.length_cons] at hcp; omega
    have HT := Lib.hid (GH3.out.tail hcap)
    clear hp he hr hcp hcm
    go_wp2_with fail
    go_ret2
    exact ⟨_, by rw [HPD.out]; rfl, K3.out, fun l hl => by rw [HPD.out] at hl; obtain rfl := Option.some.inj hl; exact HT.out⟩
end Go.Proofs.YtdhcnmljkmodhaaDoor
