/- The reference functions of layer 7: Has, Of, Upto, Or, And, Less. -/
import Derived.Test.YtmmoopikglbmbaaDoorInts
namespace Go.Proofs.YtmmoopikglbmbaaDoor
set_option linter.unusedSectionVars false
set_option linter.unusedVariables false
set_option linter.unusedSimpArgs false
open Go.RowKit

/-- Is it in it? -/
def hasI (l : List Int) (i : Int) : Bool := l.contains i
theorem hasI_iff {l : List Int} {i : Int} : hasI l i = true ↔ i ∈ l := by unfold hasI; exact List.contains_iff_mem
theorem refHas_any (l : List Int) (v : Value) (i : Int) (w : World) (h : RdV w v (IV l)) :
    Calls Tryd.prog 25 #[v, .int .i64 i] w fun e w' => e = .returned (.bool (hasI l i)) ∧ w = w' := by
  obtain ⟨a, cap, e1, hcap, _⟩ := h.form
  have hm := h.len
  unfold maxLen at hm
  rw [IV_len] at e1 hcap hm
  subst e1
  have H := Lib.hid h
  clear h
  go_enter Tryd.func25, Tryd.ntmps25
  go_wp2
  go_loop [9] (fun x => ∃ k : Nat, k ≤ l.length ∧ x = .int .i64 k ∧ ∀ j (hj : j < l.length), j < k → l[j] ≠ i) (fun x => l.length - (intOf x).toNat)
  case atStart => exact ⟨0, Nat.zero_le _, rfl, fun j _ hj => by omega⟩
  case round =>
    obtain ⟨k, hk, rfl, hall⟩ := hrel
    have HA := Lib.hid hall
    clear hall
    by_cases hlt : k < l.length
    · obtain ⟨g, off, rfl, -, hg, hc⟩ := H.out.at (by rw [IV_len]; omega)
      have x0 := hc k _ (IV_get hlt)
      obtain ⟨y, hy⟩ : ∃ y, l[k] = y := ⟨_, rfl⟩
      rw [hy] at x0
      clear hc hg
      by_cases heq : y = i
      · subst heq
        have hcon : hasI l y = true := by rw [hasI_iff]; exact hy ▸ List.getElem_mem _
        have HC := Lib.hid hcon
        clear hcon hy
        go_wp2
        go_ret
        exact ⟨by rw [HC.out]; rfl, rfl⟩
      · have HY := Lib.hid hy
        have hq : ((y : Int) == i) = false := by simpa using heq
        clear hy
        go_wp2
        go_round
        case rel =>
          refine ⟨k + 1, by omega, by go_num, fun j hj hjk => ?_⟩
          by_cases e : j = k
          · subst e; rw [HY.out]; exact heq
          · exact HA.out j hj (by omega)
        case measure => simp [intOf]; omega
    · have hcon : hasI l i = false := by
        rw [Bool.eq_false_iff]
        intro h
        rw [hasI_iff] at h
        obtain ⟨j, hj, he⟩ := List.getElem_of_mem h
        exact HA.out j hj (by omega) he
      have HC := Lib.hid hcon
      clear hcon
      go_wp2
      go_ret
      exact ⟨by rw [HC.out]; rfl, rfl⟩

/-- The numbers below k that are in l. -/
def ofR (l : List Int) (k : Nat) : List Int := ((List.range k).filter (fun (j : Nat) => hasI l (j : Int))).map (fun (j : Nat) => (j : Int))
theorem ofR_yes {l : List Int} {k : Nat} (h : hasI l (k : Int) = true) : ofR l (k + 1) = ofR l k ++ [(k : Int)] := by
  unfold ofR; rw [List.range_succ, List.filter_append, List.map_append]; simp [h]
theorem ofR_no {l : List Int} {k : Nat} (h : hasI l (k : Int) = false) : ofR l (k + 1) = ofR l k := by
  unfold ofR; rw [List.range_succ, List.filter_append, List.map_append]; simp [h]
theorem ofR_len (l : List Int) (k : Nat) : (ofR l k).length ≤ k := by
  unfold ofR; rw [List.length_map]; exact Nat.le_trans (List.length_filter_le _ _) (by simp)

/-- Between two rounds of a loop that appends. -/
structure AppI (w : World) (xs : List Int) (v : Value) (wr : World) : Prop where
  own : wr.ownsRow w.heap.size 3 1 v xs.length (IV xs)
  keep : Keeps w wr (fun _ => False)
theorem AppI.step {w wr w1 w2 : World} {xs : List Int} {v v' : Value} {x : Int} (h : AppI w xs v wr) (k : Keeps wr w1 (fun _ => False)) (hown : w2.ownsRow w.heap.size 3 1 v' (xs.length + 1) (IV xs ++ [.int .i64 x])) (hg : w1.grownBy w2 v.ownBlock) : AppI w (xs ++ [x]) v' w2 := by
  refine ⟨?_, (h.keep.trans k).grown hg (fun j hj hlt => ?_)⟩
  · rw [IV_app, List.length_append]; exact hown
  · have := (own_block_ge h.own j hj).1; omega

set_option maxRecDepth 20000 in
set_option maxHeartbeats 2000000 in
theorem refOf_any (l : List Int) (v : Value) (w : World) (h : RdV w v (IV l)) :
    Calls Tryd.prog 21 #[v] w (OwnI w (ofR l 128)) := by
  obtain ⟨i0, hi, hz0, hz1, hz2⟩ := infoIntL'
  have HI := Lib.hid hi
  have HZ0 := Lib.hid hz0
  have HZ1 := Lib.hid hz1
  have HZ2 := Lib.hid hz2
  have H := Lib.hid h
  clear h hi hz0 hz1 hz2
  go_enter Tryd.func21, Tryd.ntmps21
  go_wp2
  go_loopw [3, 4] (fun x i wr => ∃ k : Nat, k ≤ 128 ∧ i = .int .i64 k ∧ AppI w (ofR l k) x wr) (fun _ i _ => 128 - (intOf i).toNat)
  case atStart => exact ⟨0, by omega, rfl, World.ownsRow_nil _ _ _ _, Keeps.refl _ _⟩
  case round =>
    obtain ⟨k, hk, rfl, happ⟩ := hrel
    have HA := Lib.hid happ
    have hlen := ofR_len l k
    clear happ
    by_cases hlt : k < 128
    · cases hc : hasI l (k : Int) with
      | true =>
        have HR := Lib.hid (ofR_yes hc)
        have HC := Lib.hid hc
        clear hc
        go_wp2_with fail
        refine (refHas_any l _ _ _ (H.out.keeps HA.out.keep)).mono ?_
        rintro e w1 ⟨rfl, rfl⟩
        rw [HC.out]
        clear HC
        go_wp2_with (at_builtin; refine wpList_append_own _ rfl _ _ 35 rfl w.heap.size 3 i0 _ 1 8 Tryd.underlying35 HI.out HZ0.out HZ1.out HZ2.out rfl (by decide) _ (ofR l k).length _ rfl (HA.out.own.alloc _) ⟨wr.heap.size, 0, none⟩ 1 1 [.int .i64 (k : Int)] rfl rfl (cell_one_new _ _ _) (by simp [Value.oneCell']) (by unfold maxLen; omega) (by omega) (by have := HA.out.keep.size; simp; omega) ?_; intro v' w2 hown' hgrow _; have HN := Lib.hid (AppI.step HA.out ((Keeps.refl wr _).alloc _) hown' hgrow); clear hown' hgrow)
        go_roundw
        case rel => exact ⟨k + 1, by omega, by go_num, by rw [HR.out]; exact HN.out⟩
        case measure => simp [intOf]; omega
      | false =>
        have HR := Lib.hid (ofR_no hc)
        have HC := Lib.hid hc
        clear hc
        go_wp2_with fail
        refine (refHas_any l _ _ _ (H.out.keeps HA.out.keep)).mono ?_
        rintro e w1 ⟨rfl, rfl⟩
        rw [HC.out]
        clear HC
        go_wp2_with fail
        go_roundw
        case rel => exact ⟨k + 1, by omega, by go_num, by rw [HR.out]; exact HA.out⟩
        case measure => simp [intOf]; omega
    · obtain rfl : k = 128 := by omega
      go_wp2
      go_ret
      exact ⟨_, rfl, HA.out.own, HA.out.keep⟩
end Go.Proofs.YtmmoopikglbmbaaDoor
