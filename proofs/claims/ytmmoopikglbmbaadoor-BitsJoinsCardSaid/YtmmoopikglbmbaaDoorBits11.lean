/- The reference functions Upto, Or, And, Less of layer 7. -/
import Derived.Test.YtmmoopikglbmbaaDoorBits10
namespace Go.Proofs.YtmmoopikglbmbaaDoor
set_option linter.unusedSectionVars false
set_option linter.unusedVariables false
set_option linter.unusedSimpArgs false
open Go.RowKit

def rangeI (k : Nat) : List Int := (List.range k).map (fun (j : Nat) => (j : Int))
theorem rangeI_succ (k : Nat) : rangeI (k + 1) = rangeI k ++ [(k : Int)] := by unfold rangeI; rw [List.range_succ, List.map_append]; rfl
theorem rangeI_len (k : Nat) : (rangeI k).length = k := by unfold rangeI; simp
set_option maxRecDepth 20000 in
set_option maxHeartbeats 2000000 in
theorem refUpto_any (n : Int) (w : World) :
    Calls Tryd.prog 24 #[.int .i64 n] w (OwnI w (rangeI (min (max n 0) 128).toNat)) := by
  obtain ⟨i0, hi, hz0, hz1, hz2⟩ := infoIntL'
  have HI := Lib.hid hi
  have HZ0 := Lib.hid hz0
  have HZ1 := Lib.hid hz1
  have HZ2 := Lib.hid hz2
  obtain ⟨m, hm⟩ : ∃ m, (min (max n 0) 128).toNat = m := ⟨_, rfl⟩
  have hm1 : m ≤ 128 := by omega
  have hm2 : (m : Int) ≤ n ∨ m = 0 := by omega
  have hm3 : m < 128 → n ≤ (m : Int) := by omega
  rw [hm]
  clear hi hz0 hz1 hz2 hm
  go_enter Tryd.func24, Tryd.ntmps24
  go_wp2
  go_loopw [3, 4] (fun x i wr => ∃ k : Nat, k ≤ m ∧ i = .int .i64 k ∧ AppI w (rangeI k) x wr) (fun _ i _ => 128 - (intOf i).toNat)
  case atStart => exact ⟨0, by omega, rfl, World.ownsRow_nil _ _ _ _, Keeps.refl _ _⟩
  case round =>
    obtain ⟨k, hk, rfl, happ⟩ := hrel
    have HA := Lib.hid happ
    have hlen := rangeI_len k
    have HLEN : (rangeI k).length ≤ 128 := by omega
    clear happ hlen
    by_cases hlt : k < m
    · have h1 : (k : Int) < n := by omega
      have h2 : (k : Int) < 128 := by omega
      have HR := Lib.hid (rangeI_succ k)
      go_wp2_with (at_builtin; refine wpList_append_own _ rfl _ _ 35 rfl w.heap.size 3 i0 _ 1 8 Tryd.underlying35 HI.out HZ0.out HZ1.out HZ2.out rfl (by decide) _ (rangeI k).length _ rfl (HA.out.own.alloc _) ⟨wr.heap.size, 0, none⟩ 1 1 [.int .i64 (k : Int)] rfl rfl (cell_one_new _ _ _) (by simp [Value.oneCell']) (by unfold maxLen; omega) (by omega) (by have := HA.out.keep.size; simp; omega) ?_; intro v' w2 hown' hgrow _; have HN := Lib.hid (AppI.step HA.out ((Keeps.refl wr _).alloc _) hown' hgrow); clear hown' hgrow)
      go_roundw
      case rel => exact ⟨k + 1, by omega, by go_num, by rw [HR.out]; exact HN.out⟩
      case measure => simp [intOf]; omega
    · obtain rfl : k = m := by omega
      by_cases h128 : k < 128
      · have h1 : ¬ ((k : Int) < n) := by have := hm3 h128; omega
        have h1b := decide_eq_false h1
        clear hm2 hm3
        go_wp2
        go_ret
        have h := HA.out
        exact ⟨_, rfl, h.own, h.keep⟩
      · have h1 : ¬ ((k : Int) < 128) := by omega
        clear hm2 hm3
        go_wp2
        all_goals
          go_ret
          have h := HA.out
          exact ⟨_, rfl, h.own, h.keep⟩

set_option maxRecDepth 20000 in
set_option maxHeartbeats 2000000 in
theorem refOr_any (l m : List Int) (v u : Value) (w : World) (h : RdV w v (IV l)) (k : RdV w u (IV m)) (hl : l.length ≤ 1000) (hm : m.length ≤ 1000) :
    Calls Tryd.prog 27 #[v, u] w (OwnI w (ofR (l ++ m) 128)) := by
  obtain ⟨i0, hi, hz0, hz1, hz2⟩ := infoIntL'
  have HI := Lib.hid hi
  have HZ0 := Lib.hid hz0
  have HZ1 := Lib.hid hz1
  have HZ2 := Lib.hid hz2
  have H := Lib.hid h
  have K := Lib.hid k
  have e1 := IV_len l
  have e2 := IV_len m
  have E1 := Lib.hid e1
  have E2 := Lib.hid e2
  clear h k hi hz0 hz1 hz2 e1 e2
  go_enter Tryd.func27, Tryd.ntmps27
  go_wp2_with (at_builtin; refine wpList_append_any rfl (.tmp 6) (.tmp 7) 35 35 rfl 3 i0 _ 1 8 Tryd.underlying35 HI.out HZ0.out HZ1.out HZ2.out rfl w.heap.size _ 0 [] rfl (World.ownsRow_nil _ _ _ _) _ (IV l).length (IV l) rfl (Src.ofRdV Tryd.underlying35 H.out (IV_one l)) (by rw [E1.out]; unfold maxLen; omega) (by rw [E1.out]; omega) (Nat.le_refl _) ?_)
  intro v1 w1 D1
  obtain ⟨o1, g1, _, _⟩ := D1
  have K1 : Hid (Keeps w w1 (fun _ => False)) := Lib.hid ((Keeps.refl w _).grown g1 (fun k hk hlt => by cases hk))
  have O1 : Hid (w1.ownsRow w.heap.size 3 1 v1 (0 + (IV l).length) (IV l)) := Lib.hid (by simpa using o1)
  clear o1 g1
  go_wp2_with (at_builtin; refine wpList_append_any rfl (.tmp 9) (.tmp 10) 35 35 rfl 3 i0 _ 1 8 Tryd.underlying35 HI.out HZ0.out HZ1.out HZ2.out rfl w.heap.size _ (0 + (IV l).length) (IV l) rfl O1.out _ (IV m).length (IV m) rfl (Src.ofRdV Tryd.underlying35 (K.out.keeps K1.out) (IV_one m)) (by rw [E1.out, E2.out]; unfold maxLen; omega) (by rw [E1.out, E2.out]; omega) K1.out.size ?_)
  intro v2 w2 D2
  obtain ⟨o2, g2, _, _⟩ := D2
  have K2 : Hid (Keeps w w2 (fun _ => False)) := Lib.hid (K1.out.grown g2 (fun k hk hlt => by have := (own_block_ge O1.out k hk).1; omega))
  have O2 : Hid (RdV w2 v2 (IV (l ++ m))) := Lib.hid (by rw [IV_app]; exact RdV.ofOwn o2)
  clear o2 g2 O1
  go_wp2_with fail
  refine (refOf_any (l ++ m) _ _ O2.out).mono ?_
  rintro e w3 ⟨v3, rfl, o3, k3⟩
  have K3 : Hid (Keeps w w3 (fun _ => False)) := Lib.hid (K2.out.trans k3)
  have O3 := Lib.hid (own_mono o3 K2.out.size)
  clear o3 k3
  go_wp2_with fail
  go_ret
  exact ⟨_, rfl, O3.out, K3.out⟩

/-- What is kept of the first k. -/
def keepAnd (l m : List Int) (k : Nat) : List Int := (l.take k).filter (fun x => hasI m x)
theorem keepAnd_yes {l m : List Int} {k : Nat} (hk : k < l.length) (h : hasI m l[k] = true) : keepAnd l m (k + 1) = keepAnd l m k ++ [l[k]] := by
  unfold keepAnd; rw [List.take_succ_eq_append_getElem hk, List.filter_append]; simp [h]
theorem keepAnd_no {l m : List Int} {k : Nat} (hk : k < l.length) (h : hasI m l[k] = false) : keepAnd l m (k + 1) = keepAnd l m k := by
  unfold keepAnd; rw [List.take_succ_eq_append_getElem hk, List.filter_append]; simp [h]
theorem keepAnd_len (l m : List Int) (k : Nat) : (keepAnd l m k).length ≤ l.length := by
  unfold keepAnd; exact Nat.le_trans (List.length_filter_le _ _) (by rw [List.length_take]; omega)
set_option maxRecDepth 20000 in
set_option maxHeartbeats 2000000 in
theorem refAnd_any (l m : List Int) (v u : Value) (w : World) (h : RdV w v (IV l)) (k : RdV w u (IV m)) (hl : l.length ≤ 1000) :
    Calls Tryd.prog 36 #[v, u] w (OwnI w (l.filter (fun x => hasI m x))) := by
  obtain ⟨i0, hi, hz0, hz1, hz2⟩ := infoIntL'
  have HI := Lib.hid hi
  have HZ0 := Lib.hid hz0
  have HZ1 := Lib.hid hz1
  have HZ2 := Lib.hid hz2
  obtain ⟨a, cap, e1, hcap, _⟩ := h.form
  rw [IV_len] at e1 hcap
  subst e1
  have H := Lib.hid h
  have KM := Lib.hid k
  clear h k hi hz0 hz1 hz2
  go_enter Tryd.func36, Tryd.ntmps36
  go_wp2
  go_loopw [5, 10] (fun x i wr => ∃ k : Nat, k ≤ l.length ∧ i = .int .i64 k ∧ AppI w (keepAnd l m k) x wr) (fun _ i _ => l.length - (intOf i).toNat)
  case atStart => exact ⟨0, by omega, rfl, World.ownsRow_nil _ _ _ _, Keeps.refl _ _⟩
  case round =>
    obtain ⟨k, hk, rfl, happ⟩ := hrel
    have HA := Lib.hid happ
    have hlen := keepAnd_len l m k
    clear happ
    by_cases hlt : k < l.length
    · obtain ⟨g, off, rfl, -, hg, hc⟩ := H.out.at (by rw [IV_len]; omega)
      obtain ⟨y, hy⟩ : ∃ y, l[k] = y := ⟨_, rfl⟩
      have x0 : wr.cell? ⟨g, off + k, none⟩ = some (.int .i64 y) := by
        rw [← hy, ← hc k _ (IV_get hlt)]
        exact World.cell?_of_block (HA.out.keep.block g hg id)
      clear hc hg
      cases hcon : hasI m l[k] with
      | true =>
        have HR := Lib.hid (keepAnd_yes hlt hcon)
        have HC : Hid (hasI m y = true) := Lib.hid (hy ▸ hcon)
        have HY := Lib.hid hy
        clear hcon hy
        go_wp2_with fail
        refine (refHas_any m _ _ _ (KM.out.keeps HA.out.keep)).mono ?_
        rintro e w1 ⟨rfl, rfl⟩
        rw [HC.out]
        clear HC x0
        go_wp2_with (at_builtin; refine wpList_append_own _ rfl _ _ 35 rfl w.heap.size 3 i0 _ 1 8 Tryd.underlying35 HI.out HZ0.out HZ1.out HZ2.out rfl (by decide) _ (keepAnd l m k).length _ rfl (HA.out.own.alloc _) ⟨wr.heap.size, 0, none⟩ 1 1 [.int .i64 y] rfl rfl (cell_one_new _ _ _) (by simp [Value.oneCell']) (by unfold maxLen; omega) (by omega) (by have := HA.out.keep.size; simp; omega) ?_; intro v' w2 hown' hgrow _; have HN := Lib.hid (AppI.step HA.out ((Keeps.refl wr _).alloc _) hown' hgrow); clear hown' hgrow)
        go_roundw
        case rel => exact ⟨k + 1, by omega, by go_num, by rw [HR.out, HY.out]; exact HN.out⟩
        case measure => simp [intOf]; omega
      | false =>
        have HR := Lib.hid (keepAnd_no hlt hcon)
        have HC : Hid (hasI m y = false) := Lib.hid (hy ▸ hcon)
        clear hcon hy
        go_wp2_with fail
        refine (refHas_any m _ _ _ (KM.out.keeps HA.out.keep)).mono ?_
        rintro e w1 ⟨rfl, rfl⟩
        rw [HC.out]
        clear HC x0
        go_wp2_with fail
        go_roundw
        case rel => exact ⟨k + 1, by omega, by go_num, by rw [HR.out]; exact HA.out⟩
        case measure => simp [intOf]; omega
    · obtain rfl : k = l.length := by omega
      have hall : keepAnd l m l.length = l.filter (fun x => hasI m x) := by unfold keepAnd; rw [List.take_length]
      have HH := Lib.hid hall
      clear hall
      go_wp2
      go_ret
      have h := HA.out
      rw [HH.out] at h
      exact ⟨_, rfl, h.own, h.keep⟩

/-- What is kept of the first k. -/
def keepLess (l m : List Int) (k : Nat) : List Int := (l.take k).filter (fun x => !hasI m x)
theorem keepLess_yes {l m : List Int} {k : Nat} (hk : k < l.length) (h : hasI m l[k] = false) : keepLess l m (k + 1) = keepLess l m k ++ [l[k]] := by
  unfold keepLess; rw [List.take_succ_eq_append_getElem hk, List.filter_append]; simp [h]
theorem keepLess_no {l m : List Int} {k : Nat} (hk : k < l.length) (h : hasI m l[k] = true) : keepLess l m (k + 1) = keepLess l m k := by
  unfold keepLess; rw [List.take_succ_eq_append_getElem hk, List.filter_append]; simp [h]
theorem keepLess_len (l m : List Int) (k : Nat) : (keepLess l m k).length ≤ l.length := by
  unfold keepLess; exact Nat.le_trans (List.length_filter_le _ _) (by rw [List.length_take]; omega)
set_option maxRecDepth 20000 in
set_option maxHeartbeats 2000000 in
theorem refLess_any (l m : List Int) (v u : Value) (w : World) (h : RdV w v (IV l)) (k : RdV w u (IV m)) (hl : l.length ≤ 1000) :
    Calls Tryd.prog 29 #[v, u] w (OwnI w (l.filter (fun x => !hasI m x))) := by
  obtain ⟨i0, hi, hz0, hz1, hz2⟩ := infoIntL'
  have HI := Lib.hid hi
  have HZ0 := Lib.hid hz0
  have HZ1 := Lib.hid hz1
  have HZ2 := Lib.hid hz2
  obtain ⟨a, cap, e1, hcap, _⟩ := h.form
  rw [IV_len] at e1 hcap
  subst e1
  have H := Lib.hid h
  have KM := Lib.hid k
  clear h k hi hz0 hz1 hz2
  go_enter Tryd.func29, Tryd.ntmps29
  go_wp2
  go_loopw [5, 10] (fun x i wr => ∃ k : Nat, k ≤ l.length ∧ i = .int .i64 k ∧ AppI w (keepLess l m k) x wr) (fun _ i _ => l.length - (intOf i).toNat)
  case atStart => exact ⟨0, by omega, rfl, World.ownsRow_nil _ _ _ _, Keeps.refl _ _⟩
  case round =>
    obtain ⟨k, hk, rfl, happ⟩ := hrel
    have HA := Lib.hid happ
    have hlen := keepLess_len l m k
    clear happ
    by_cases hlt : k < l.length
    · obtain ⟨g, off, rfl, -, hg, hc⟩ := H.out.at (by rw [IV_len]; omega)
      obtain ⟨y, hy⟩ : ∃ y, l[k] = y := ⟨_, rfl⟩
      have x0 : wr.cell? ⟨g, off + k, none⟩ = some (.int .i64 y) := by
        rw [← hy, ← hc k _ (IV_get hlt)]
        exact World.cell?_of_block (HA.out.keep.block g hg id)
      clear hc hg
      cases hcon : hasI m l[k] with
      | false =>
        have HR := Lib.hid (keepLess_yes hlt hcon)
        have HC : Hid (hasI m y = false) := Lib.hid (hy ▸ hcon)
        have HY := Lib.hid hy
        clear hcon hy
        go_wp2_with fail
        refine (refHas_any m _ _ _ (KM.out.keeps HA.out.keep)).mono ?_
        rintro e w1 ⟨rfl, rfl⟩
        rw [HC.out]
        clear HC x0
        go_wp2_with (at_builtin; refine wpList_append_own _ rfl _ _ 35 rfl w.heap.size 3 i0 _ 1 8 Tryd.underlying35 HI.out HZ0.out HZ1.out HZ2.out rfl (by decide) _ (keepLess l m k).length _ rfl (HA.out.own.alloc _) ⟨wr.heap.size, 0, none⟩ 1 1 [.int .i64 y] rfl rfl (cell_one_new _ _ _) (by simp [Value.oneCell']) (by unfold maxLen; omega) (by omega) (by have := HA.out.keep.size; simp; omega) ?_; intro v' w2 hown' hgrow _; have HN := Lib.hid (AppI.step HA.out ((Keeps.refl wr _).alloc _) hown' hgrow); clear hown' hgrow)
        go_roundw
        case rel => exact ⟨k + 1, by omega, by go_num, by rw [HR.out, HY.out]; exact HN.out⟩
        case measure => simp [intOf]; omega
      | true =>
        have HR := Lib.hid (keepLess_no hlt hcon)
        have HC : Hid (hasI m y = true) := Lib.hid (hy ▸ hcon)
        clear hcon hy
        go_wp2_with fail
        refine (refHas_any m _ _ _ (KM.out.keeps HA.out.keep)).mono ?_
        rintro e w1 ⟨rfl, rfl⟩
        rw [HC.out]
        clear HC x0
        go_wp2_with fail
        go_roundw
        case rel => exact ⟨k + 1, by omega, by go_num, by rw [HR.out]; exact HA.out⟩
        case measure => simp [intOf]; omega
    · obtain rfl : k = l.length := by omega
      have hall : keepLess l m l.length = l.filter (fun x => !hasI m x) := by unfold keepLess; rw [List.take_length]
      have HH := Lib.hid hall
      clear hall
      go_wp2
      go_ret
      have h := HA.out
      rw [HH.out] at h
      exact ⟨_, rfl, h.own, h.keep⟩
end Go.Proofs.YtmmoopikglbmbaaDoor
