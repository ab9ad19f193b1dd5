/- Slices whose elements take one cell, as lists of values ('RdV'). -/
import Derived.Test.YtdhcnmljkmodhaaDoorMemB
import Derived.Test.YtdhcnmljkmodhaaDoorOpen
namespace Go.Proofs.YtdhcnmljkmodhaaDoor
set_option linter.unusedSectionVars false
set_option linter.unusedVariables false
set_option linter.unusedSimpArgs false
open Go.RowKit

/-- A slice that reads as these values, one cell each. -/
def RdV (w : World) (v : Value) (xs : List Value) : Prop := ReadsC w 1 v xs.length xs
theorem RdV.keeps {w w' : World} {v : Value} {xs : List Value} (h : RdV w v xs) (hk : Keeps w w' (fun _ => False)) : RdV w' v xs := ReadsC.keeps h hk
theorem RdV.form {w : World} {v : Value} {xs : List Value} (h : RdV w v xs) : ∃ a cap, v = .slice a xs.length cap ∧ xs.length ≤ cap ∧ cap ≤ maxLen := by
  obtain ⟨_, a, cap, h2, h3, h4, _⟩ := h
  exact ⟨a, cap, h2, h3, h4⟩
theorem RdV.len {w : World} {v : Value} {xs : List Value} (h : RdV w v xs) : xs.length ≤ maxLen := by
  obtain ⟨_, _, _, h3, h4⟩ := h.form
  omega
theorem RdV.nil (w : World) : RdV w (.slice none 0 0) [] := ⟨rfl, none, 0, rfl, Nat.le_refl _, by unfold maxLen; omega, fun _ => ⟨rfl, rfl⟩, fun h => by cases h⟩
/-- Where there is one, an address, and the cells. -/
theorem RdV.at {w : World} {a : Option Addr} {n cap : Nat} {xs : List Value} (h : RdV w (.slice a n cap) xs) (h0 : 0 < xs.length) :
    ∃ g off, a = some ⟨g, off, none⟩ ∧ n = xs.length ∧ g < w.heap.size ∧ ∀ j u, xs[j]? = some u → w.cell? ⟨g, off + j, none⟩ = some u := by
  obtain ⟨_, a', cap', h2, h3, h4, h5, h6⟩ := h
  obtain ⟨g, off, rfl, hg, hc⟩ := h6 h0
  simp only [Value.slice.injEq] at h2
  exact ⟨g, off, h2.1, h2.2.1, hg, hc⟩
theorem RdV.ofOwn {w : World} {b n : Nat} {e : TypeId} {v : Value} {xs : List Value} (h : w.ownsRow b e 1 v n xs) : RdV w v xs := by
  have hr := ReadsRow.ofOwn h
  have hl : xs.length = n := by simpa using h.1
  subst hl
  refine ⟨by simp, ?_⟩
  rcases h.2 with ⟨rfl, h0⟩ | ⟨g, cap, cur, rfl, hbg, hg, r1, r2, r3, r4⟩
  · exact ⟨none, 0, by rw [h0], by omega, by unfold maxLen; omega, fun _ => ⟨h0, rfl⟩, fun h => by omega⟩
  · refine ⟨_, cap, rfl, r1, r2, (fun h => by cases h), fun _ => ⟨g, 0, rfl, block_lt hg, fun j u hj => hr.cell hj⟩⟩
/-- As what is appended. -/
theorem Src.ofRdV {P : Program} {w : World} {tx e : TypeId} {v : Value} {xs : List Value} (hk : P.underlying tx = some (.slice e)) (h : RdV w v xs) (h1 : ∀ u ∈ xs, u.oneCell' = true) : Src P 1 tx v xs.length xs w := by
  obtain ⟨_, a, cap, rfl, _, _, hn, h6⟩ := h
  match xs with
  | [] =>
    cases a with
    | none => exact Src.ofNil _ hk cap
    | some a => exact Src.ofSlice _ hk a 0 cap [] rfl (fun j u hj => by simp at hj) (fun u hu => by cases hu)
  | x :: r =>
    obtain ⟨g, off, rfl, hg, hc⟩ := h6 (by simp)
    refine Src.ofSlice _ hk _ _ cap _ (by simp) (fun j u hj => ?_) h1
    have e : ((⟨g, off, none⟩ : Addr).add j) = ⟨g, off + j, none⟩ := by
      unfold Addr.add; split
      · rename_i h; subst h; rfl
      · rfl
    rw [e]; exact hc j u hj
theorem own_block_ge {w : World} {B0 : Nat} {e : TypeId} {size n : Nat} {v : Value} {xs : List Value} (h : w.ownsRow B0 e size v n xs) : ∀ g, v.ownBlock = some g → B0 ≤ g ∧ g < w.heap.size := by
  intro g hg
  rcases h.2 with ⟨rfl, _⟩ | ⟨g', cap, cur, rfl, hb, hh, _⟩
  · cases hg
  · simp only [Value.ownBlock, Option.some.injEq] at hg
    exact ⟨by omega, hg ▸ block_lt hh⟩
theorem own_keeps {w w' : World} {B0 : Nat} {e : TypeId} {size n : Nat} {v : Value} {xs : List Value} {S : Nat → Prop} (h : w.ownsRow B0 e size v n xs) (hk : Keeps w w' S) (hS : ∀ j, S j → j < B0 ∨ v.ownBlock ≠ some j) : w'.ownsRow B0 e size v n xs :=
  ownsRow_same h (fun g hg => hk.block g (own_block_ge h g hg).2 (fun s => by
    rcases hS g s with h' | h'
    · have := (own_block_ge h g hg).1; omega
    · exact h' hg))
/-- A row of the call's own, with what it holds: what a call hands back. -/
def OwnV (e : TypeId) (w : World) (xs : List Value) (en : Ending) (w' : World) : Prop :=
  ∃ v, en = .returned v ∧ w'.ownsRow w.heap.size e 1 v xs.length xs ∧ Keeps w w' (fun _ => False)
theorem own_mono {w : World} {B B' : Nat} {e : TypeId} {size n : Nat} {v : Value} {xs : List Value} (h : w.ownsRow B e size v n xs) (hB : B' ≤ B) : w.ownsRow B' e size v n xs := by
  refine ⟨h.1, h.2.imp id ?_⟩
  rintro ⟨g, cap, cur, hv, hbg, rest⟩
  exact ⟨g, cap, cur, hv, by omega, rest⟩
end Go.Proofs.YtdhcnmljkmodhaaDoor
