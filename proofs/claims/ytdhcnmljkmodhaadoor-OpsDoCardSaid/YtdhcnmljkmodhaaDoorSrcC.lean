/- What is read as rows of whatever size, as the second argument of an append; a row of the call's own reads. -/
import Derived.Test.YtdhcnmljkmodhaaDoorMemB
import Derived.Test.YtdhcnmljkmodhaaDoorOpen
namespace Go.Proofs.YtdhcnmljkmodhaaDoor
set_option linter.unusedSectionVars false
set_option linter.unusedVariables false
set_option linter.unusedSimpArgs false
open Go.RowKit
theorem Src.ofReadsC {P : Program} {w : World} {tx e : TypeId} {size n : Nat} {v : Value} {xs : List Value} (hk : P.underlying tx = some (.slice e)) (h : ReadsC w size v n xs) (h1 : ∀ u ∈ xs, u.oneCell' = true) : Src P size tx v n xs w := by
  obtain ⟨hx, a, cap, rfl, _, _, hn, h6⟩ := h
  by_cases h0 : n = 0
  · subst h0
    obtain rfl : xs = [] := List.eq_nil_of_length_eq_zero (by rw [hx, Nat.zero_mul])
    cases a with
    | none => exact Src.ofNil _ hk cap
    | some a => exact Src.ofSlice _ hk a 0 cap [] (by simp) (fun j u hj => by simp at hj) (fun u hu => by cases hu)
  · obtain ⟨g, off, rfl, hg, hc⟩ := h6 (by omega)
    refine Src.ofSlice _ hk _ _ cap _ hx (fun j u hj => ?_) h1
    have e : ((⟨g, off, none⟩ : Addr).add j) = ⟨g, off + j, none⟩ := by
      unfold Addr.add; split
      · rename_i h; subst h; rfl
      · rfl
    rw [e]; exact hc j u hj
theorem ReadsC.ofOwn {w : World} {b n size : Nat} {e : TypeId} {v : Value} {xs : List Value} (h : w.ownsRow b e size v n xs) : ReadsC w size v n xs := by
  have hr := ReadsRow.ofOwn h
  refine ⟨h.1, ?_⟩
  rcases h.2 with ⟨rfl, h0⟩ | ⟨g, cap, cur, rfl, hbg, hg, r1, r2, r3, r4⟩
  · exact ⟨none, 0, by rw [h0], by omega, by unfold maxLen; omega, fun _ => ⟨h0, rfl⟩, fun h => by omega⟩
  · exact ⟨_, cap, rfl, r1, r2, (fun h => by cases h), fun _ => ⟨g, 0, rfl, block_lt hg, fun j u hj => hr.cell hj⟩⟩
end Go.Proofs.YtdhcnmljkmodhaaDoor
