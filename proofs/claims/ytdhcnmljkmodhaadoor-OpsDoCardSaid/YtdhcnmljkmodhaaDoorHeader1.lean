/- The walks of package header, and of its reference. -/
import Derived.Test.YtdhcnmljkmodhaaDoorBits6
namespace Go.Proofs.YtdhcnmljkmodhaaDoor
set_option linter.unusedSectionVars false
set_option linter.unusedVariables false
set_option linter.unusedSimpArgs false
open Go.RowKit

/-- A slice of ints that reads as l. -/
def ReadsI (w : World) (v : Value) (l : List Int) : Prop := ReadsC w 1 v l.length (l.flatMap encI)
theorem ReadsI.keeps {w w' : World} {v : Value} {l : List Int} (h : ReadsI w v l) (hk : Keeps w w' (fun _ => False)) : ReadsI w' v l := ReadsC.keeps h hk
theorem ReadsI.form {w : World} {v : Value} {l : List Int} (h : ReadsI w v l) : ∃ a cap, v = .slice a l.length cap ∧ l.length ≤ cap ∧ cap ≤ maxLen := by
  obtain ⟨_, a, cap, h1, h2, h3, _⟩ := h; exact ⟨a, cap, h1, h2, h3⟩
theorem ReadsI.cell {w : World} {a : Option Addr} {cap : Nat} {l : List Int} (h : ReadsI w (.slice a l.length cap) l) (k : Nat) (hk : k < l.length) :
    ∃ g off, a = some ⟨g, off, none⟩ ∧ g < w.heap.size ∧ ∀ j (hj : j < l.length), w.cell? ⟨g, off + j, none⟩ = some (.int .i64 l[j]) := by
  obtain ⟨g, off, rfl, hg, _⟩ := ReadsC.cell1 h k hk
  refine ⟨g, off, rfl, hg, fun j hj => ?_⟩
  obtain ⟨g', off', he, _, hc⟩ := ReadsC.cell1 h j hj
  simp only [Option.some.injEq, Addr.mk.injEq, and_true] at he
  obtain ⟨rfl, rfl⟩ := he
  exact hc
/-- A slice literal. -/
theorem ReadsI.lit (w : World) (l : List Int) (t : TypeId) (hl : l.length ≤ 1000) : ReadsI (w.alloc (.cells (l.map (Value.int .i64)).toArray t)) (.slice (some ⟨w.heap.size, 0, none⟩) l.length l.length) l := by
  have e : ∀ l : List Int, l.flatMap encI = l.map (Value.int .i64) := fun l => by
    induction l with
    | nil => rfl
    | cons a r ih => rw [List.flatMap_cons, ih]; rfl
  refine ⟨by rw [e]; simp, _, _, rfl, Nat.le_refl _, by unfold maxLen; omega, (fun h => by cases h), fun _ => ⟨_, _, rfl, by simp, fun j u hj => ?_⟩⟩
  rw [Nat.zero_add, cell_at (heap_alloc_new w _)]
  rw [e] at hj
  simpa using hj

/-- The kind of any label. -/
def kind0 (k : Int) : Int := if k = 1 ∨ k = 2 ∨ k = 3 then k else 0
def kindL (ks : List Int) (x : Int) : Int := if 0 ≤ x then kind0 (ks.getD x.toNat 0) else 0
theorem kind0_range (k : Int) : kind0 k = 0 ∨ kind0 k = 1 ∨ kind0 k = 2 ∨ kind0 k = 3 := by unfold kind0; split <;> omega
theorem kindL_range (ks : List Int) (x : Int) : kindL ks x = 0 ∨ kindL ks x = 1 ∨ kindL ks x = 2 ∨ kindL ks x = 3 := by
  unfold kindL; split
  · exact kind0_range _
  · exact .inl rfl

set_option maxHeartbeats 400000 in
theorem kind_any (w : World) (v : Value) (ks : List Int) (x : Int) (H : ReadsI w v ks) : Calls Tryd.prog 29 #[v, .int .i64 x] w fun e w' => e = .returned (.int .i64 (kindL ks x)) ∧ w = w' := by
  obtain ⟨a, cap, rfl, _, _⟩ := H.form
  by_cases h0 : 0 ≤ x
  · obtain ⟨n, rfl⟩ := Int.eq_ofNat_of_zero_le h0
    by_cases h1 : n < ks.length
    · obtain ⟨g, off, rfl, hg, hc⟩ := H.cell n h1
      have hcell := hc n h1
      have hk : kindL ks (n : Int) = kind0 ks[n] := by
        unfold kindL; rw [if_pos h0, Int.toNat_natCast, List.getD_eq_getElem?_getD, List.getElem?_eq_getElem h1]; rfl
      rw [hk]
      clear hc hk H
      generalize ks[n] = k at *
      by_cases k1 : k = 1
      · subst k1
        go_enter Tryd.func29, Tryd.ntmps29
        go_wp2
        go_ret
        exact ⟨rfl, rfl⟩
      · by_cases k2 : k = 2
        · subst k2
          go_enter Tryd.func29, Tryd.ntmps29
          go_wp2
          go_ret
          exact ⟨rfl, rfl⟩
        · by_cases k3 : k = 3
          · subst k3
            go_enter Tryd.func29, Tryd.ntmps29
            go_wp2
            go_ret
            exact ⟨rfl, rfl⟩
          · have hz : kind0 k = 0 := by unfold kind0; rw [if_neg (by omega)]
            have b1 : (k == 1) = false := beq_eq_false_iff_ne.2 k1
            have b2 : (k == 2) = false := beq_eq_false_iff_ne.2 k2
            have b3 : (k == 3) = false := beq_eq_false_iff_ne.2 k3
            rw [hz]
            clear k1 k2 k3 hz
            go_enter Tryd.func29, Tryd.ntmps29
            go_wp2
            go_ret
            exact ⟨rfl, rfl⟩
    · have hk : kindL ks (n : Int) = 0 := by
        unfold kindL; rw [if_pos h0, Int.toNat_natCast, List.getD_eq_getElem?_getD, List.getElem?_eq_none (by omega)]; rfl
      rw [hk]
      have h2 : ¬ ((n : Int) < (ks.length : Int)) := by omega
      clear hk H
      go_enter Tryd.func29, Tryd.ntmps29
      go_wp2
      go_ret
      exact ⟨rfl, rfl⟩
  · have hk : kindL ks x = 0 := by unfold kindL; rw [if_neg h0]
    have h2 : x < 0 := by omega
    rw [hk]
    clear hk H
    go_enter Tryd.func29, Tryd.ntmps29
    go_wp2
    go_ret
    exact ⟨rfl, rfl⟩

set_option maxHeartbeats 400000 in
theorem refkind_any (w : World) (v : Value) (ks : List Int) (x : Int) (H : ReadsI w v ks) : Calls Tryd.prog 24 #[v, .int .i64 x] w fun e w' => e = .returned (.int .i64 (kindL ks x)) ∧ w = w' := by
  obtain ⟨a, cap, rfl, _, _⟩ := H.form
  by_cases h0 : 0 ≤ x
  · obtain ⟨n, rfl⟩ := Int.eq_ofNat_of_zero_le h0
    by_cases h1 : n < ks.length
    · obtain ⟨g, off, rfl, hg, hc⟩ := H.cell n h1
      have hcell := hc n h1
      have hk : kindL ks (n : Int) = kind0 ks[n] := by
        unfold kindL; rw [if_pos h0, Int.toNat_natCast, List.getD_eq_getElem?_getD, List.getElem?_eq_getElem h1]; rfl
      rw [hk]
      clear hc hk H
      generalize ks[n] = k at *
      by_cases k1 : k < 1
      · have hz : kind0 k = 0 := by unfold kind0; rw [if_neg (by omega)]
        rw [hz]
        clear hz
        go_enter Tryd.func24, Tryd.ntmps24
        go_wp2
        go_ret
        exact ⟨rfl, rfl⟩
      · by_cases k3 : 3 < k
        · have hz : kind0 k = 0 := by unfold kind0; rw [if_neg (by omega)]
          rw [hz]
          clear hz
          go_enter Tryd.func24, Tryd.ntmps24
          go_wp2
          go_ret
          exact ⟨rfl, rfl⟩
        · have hz : kind0 k = k := by unfold kind0; rw [if_pos (by omega)]
          rw [hz]
          clear hz
          go_enter Tryd.func24, Tryd.ntmps24
          go_wp2
          go_ret
          exact ⟨rfl, rfl⟩
    · have hk : kindL ks (n : Int) = 0 := by
        unfold kindL; rw [if_pos h0, Int.toNat_natCast, List.getD_eq_getElem?_getD, List.getElem?_eq_none (by omega)]; rfl
      rw [hk]
      have h2 : ¬ ((n : Int) < (ks.length : Int)) := by omega
      clear hk H
      go_enter Tryd.func24, Tryd.ntmps24
      go_wp2
      go_ret
      exact ⟨rfl, rfl⟩
  · have hk : kindL ks x = 0 := by unfold kindL; rw [if_neg h0]
    have h2 : x < 0 := by omega
    rw [hk]
    clear hk H
    go_enter Tryd.func24, Tryd.ntmps24
    go_wp2
    go_ret
    exact ⟨rfl, rfl⟩
end Go.Proofs.YtdhcnmljkmodhaaDoor
