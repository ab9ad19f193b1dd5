/- Merged for the claim, in build order: Ops1, Ops2, Ops4, Lst, Ops5. -/
import Derived.Test.YtdhcnmljkmodhaaDoorOpsCheckM4
import Derived.Test.YtdhcnmljkmodhaaDoorOpsCheckM1
import Derived.Test.YtdhcnmljkmodhaaDoorOpsCheckM2
/- ops.one. -/
namespace Go.Proofs.YtdhcnmljkmodhaaDoor
set_option linter.unusedSectionVars false
set_option linter.unusedVariables false
set_option linter.unusedSimpArgs false
set_option maxRecDepth 20000
open Go.RowKit

/-- An op done to a header. -/
def oneL (ks : List Int) : List Int → Int → Int → Option (List Int)
  | [], _, _ => none
  | a :: t, k, x => if k = 1 then (if t = [] then none else some t) else if k = 2 then (if kindL ks x = kindL ks a then some (x :: t) else none)
    else if k = 3 then (if mayL (kindL ks x) (kindL ks a) then some (x :: a :: t) else none) else none
/-- What a call tells that may fail: a header, and whether. -/
def MayPost (w : World) (r : Option (List Int)) (e : Ending) (w' : World) : Prop :=
  ∃ v, e = .returned (.tuple #[v, .bool r.isSome]) ∧ Keeps w w' (fun _ => False) ∧ ∀ l, r = some l → ReadsI w' v l
theorem ReadsI.tail {w : World} {g off n cap : Nat} {a : Int} {t : List Int} (h : ReadsI w (.slice (some ⟨g, off, none⟩) n cap) (a :: t)) (c2 : Nat) (h2 : t.length ≤ c2) (h3 : c2 ≤ maxLen) (m : Nat) (hm : m = t.length) (ht : t ≠ []) : ReadsI w (.slice (some ⟨g, off + 1, none⟩) m c2) t := by
  have hl : 0 < t.length := List.length_pos_iff.2 ht
  have := ReadsI.drop (m := m) (c2 := c2) (k := 1) h (by simp; omega) (by simp [hm]) (by simpa using h2) h3
  simpa using this

theorem ReadsI.void (w : World) (a : Addr) (c : Nat) (hc : c ≤ maxLen) : ReadsI w (.slice (some a) 0 c) [] :=
  ⟨rfl, some a, c, rfl, Nat.zero_le _, hc, (fun h => by cases h), fun h => by simp at h⟩

/-- What is left of it behind the first. -/
theorem ReadsI.rest {w : World} {g off cap : Nat} {a : Int} {t : List Int} (h : ReadsI w (.slice (some ⟨g, off, none⟩) (a :: t).length cap) (a :: t)) (hc : ¬ cap = 1) : ReadsI w (.slice (some ⟨g, off + 1, none⟩) t.length (cap - 1)) t := by
  obtain ⟨_, _, e1, hc1, hc2⟩ := h.form
  simp only [Value.slice.injEq] at e1
  obtain ⟨rfl, _, rfl⟩ := e1
  simp only [List.length_cons] at hc1
  cases t with
  | nil => exact ReadsI.void w _ _ (by omega)
  | cons b r => exact h.tail (cap - 1) (by omega) (by omega) _ rfl (by simp)
theorem ReadsI.rest1 {w : World} {g off : Nat} {a : Int} {t : List Int} (h : ReadsI w (.slice (some ⟨g, off, none⟩) (a :: t).length 1) (a :: t)) : t = [] := by
  obtain ⟨_, _, e1, hc1, hc2⟩ := h.form
  simp only [Value.slice.injEq] at e1
  obtain ⟨rfl, _, rfl⟩ := e1
  simp only [List.length_cons] at hc1
  exact List.eq_nil_of_length_eq_zero (by omega)
/-- A label ahead of a header: what the call of Concat meets. -/
theorem concat_lit (w5 : World) (x : Int) (l : List Int) (v : Value) (hl : l.length ≤ 100) (H : ReadsI w5 v l) :
    Calls Tryd.prog 47 #[.slice (some ⟨w5.heap.size + 1, 0, none⟩) 2 2] ((w5.alloc (.cells #[.int .i64 x] 3)).alloc (.cells #[.slice (some ⟨w5.heap.size, 0, none⟩) 1 1, v] 22)) fun e w' => ∃ u, e = .returned u ∧ Keeps w5 w' (fun _ => False) ∧ ReadsI w' u (x :: l) := by
  have h1 : ReadsI (w5.alloc (.cells #[.int .i64 x] 3)) (.slice (some ⟨w5.heap.size, 0, none⟩) 1 1) [x] := ReadsI.lit w5 [x] 3 (by simp)
  have k1 := (Keeps.refl w5 (fun _ => False)).alloc (.cells #[.int .i64 x] 3)
  have k2 := (Keeps.refl (w5.alloc (.cells #[.int .i64 x] 3)) (fun _ => False)).alloc (.cells #[.slice (some ⟨w5.heap.size, 0, none⟩) 1 1, v] 22)
  have hb := heap_alloc_new (w5.alloc (.cells #[.int .i64 x] 3)) (.cells #[.slice (some ⟨w5.heap.size, 0, none⟩) 1 1, v] 22)
  have hs : (w5.alloc (.cells #[.int .i64 x] 3)).heap.size = w5.heap.size + 1 := by simp
  rw [hs] at hb
  refine (concat_any _ x l hl (w5.heap.size + 1) _ v (h1.keeps k2) ((H.keeps k1).keeps k2) (by rw [cell_at hb]; rfl) (by rw [cell_at hb]; rfl)).mono ?_
  rintro e w' ⟨u, rfl, ho, hk⟩
  exact ⟨u, rfl, (k1.trans k2).trans hk, ReadsI.ofOwn rfl ho⟩

set_option maxHeartbeats 2000000 in
theorem one_any (w : World) (vk vh : Value) (ks : List Int) (a : Int) (t : List Int) (k x : Int) (hl : t.length ≤ 99) (Hk : ReadsI w vk ks) (Hh : ReadsI w vh (a :: t)) :
    Calls Tryd.prog 33 #[vk, vh, .agg #[.int .i64 k, .int .i64 x]] w (MayPost w (oneL ks (a :: t) k x)) := by
  obtain ⟨ak, capk, rfl, _, hmk⟩ := Hk.form
  obtain ⟨ah, caph, rfl, hch, hmh⟩ := Hh.form
  obtain ⟨g, off, rfl, hg, hc⟩ := Hh.cell 0 (by simp)
  have hcell : w.cell? ⟨g, off, none⟩ = some (.int .i64 a) := hc 0 (by simp)
  have GK := Lib.hid Hk
  have GH := Lib.hid Hh
  have K0 := Lib.hid ((Keeps.refl w (fun _ => False)).alloc (.cells #[.int .i64 k, .int .i64 x] 44))
  have B0 := heap_alloc_new w (.cells #[.int .i64 k, .int .i64 x] 44)
  have hcell0 : (w.alloc (.cells #[.int .i64 k, .int .i64 x] 44)).cell? ⟨g, off, none⟩ = some (.int .i64 a) := by rw [← hcell]; exact World.cell?_of_block (K0.out.block _ hg id)
  clear Hk Hh hmk hmh hch hc hcell
  go_enter Tryd.func33, Tryd.ntmps33
  go_wp2_with fail
  generalize w.alloc (.cells #[.int .i64 k, .int .i64 x] 44) = W at *
  generalize w.heap.size = N at *
  have y0 : W.cell? ⟨N, 0, none⟩ = some (.int .i64 k) := by rw [cell_at B0]; rfl
  have y1 : W.cell? ⟨N, 1, none⟩ = some (.int .i64 x) := by rw [cell_at B0]; rfl
  have x1 : ∀ x' : Cls W, x'.w.cell? ⟨N, 1, none⟩ = some (.int .i64 x) := Cls.cell y1
  have xa : ∀ x' : Cls W, x'.w.cell? ⟨g, off, none⟩ = some (.int .i64 a) := Cls.cell hcell0
  have HKW : Hid (∀ x : Cls W, ReadsI x.w (.slice ak ks.length capk) ks) := Lib.hid (fun x => (GK.out.keeps K0.out).keeps x.keep)
  have Y0 := Lib.hid y0
  have Y1 := Lib.hid y1
  have hbb : (0 : Int) < ((t.length : Int) + 1) := by omega
  clear B0 y0 y1 hcell0
  refine wp_region_cls (by kernel_rfl) (by kernel_rfl) ?_
  repeat (go_big_quiet_step ((first | (go_at_call 29; exact cls_call_same (kind_any _ _ ks _ (HKW.out _))))))
  refine wpQuiet_nil ?_
  rintro _ ⟨x5, rfl⟩
  have K5 := Lib.hid (K0.out.trans x5.keep)
  have C0 := Cls.cell Y0.out x5
  have C1 := Cls.cell Y1.out x5
  generalize x5.w = w5 at *
  clear x1 xa
  have HC0 := Lib.hid C0
  have HC1 := Lib.hid C1
  have GH5 := Lib.hid (GH.out.keeps K5.out)
  have GK5 := Lib.hid (GK.out.keeps K5.out)
  clear HKW GK GH Y0 Y1 K0
  by_cases k1 : k = 1
  · subst k1
    cases t with
    | nil =>
      by_cases hc1 : caph = 1
      · subst hc1
        go_wp2_with fail
        go_ret2
        exact ⟨_, rfl, K5.out, fun l hl => by simp [oneL] at hl⟩
      · go_wp2_with fail
        go_ret2
        exact ⟨_, rfl, K5.out, fun l hl => by simp [oneL] at hl⟩
    | cons b r =>
      have hb2 : (1 : Int) < ((r.length : Int) + 1 + 1) := by omega
      obtain ⟨_, _, e1, hc1, hc2⟩ := GH5.out.form
      simp only [Value.slice.injEq] at e1
      obtain ⟨rfl, _, rfl⟩ := e1
      have hc0 : ¬ (caph = 1) := by simp at hc1; omega
      have HC2 := Lib.hid hc1
      have HC3 := Lib.hid hc2
      clear hc1 hc2
      go_wp2_with fail
      go_ret2
      refine ⟨_, rfl, K5.out, fun l hl => ?_⟩
      obtain rfl : b :: r = l := by simpa [oneL] using hl
      have h2 := HC2.out
      have h3 := HC3.out
      simp only [List.length_cons] at h2
      have := GH5.out.tail (caph - 1) (by simp; omega) (by omega) _ rfl (by simp)
      simpa using this
  · by_cases k2 : k = 2
    · subst k2
      clear k1
      by_cases hk : kindL ks x = kindL ks a
      · have hk2 : (kindL ks x != kindL ks a) = false := by simp [hk]
        obtain ⟨_, _, e1, hc1, hc2⟩ := GH5.out.form
        simp only [Value.slice.injEq] at e1
        obtain ⟨rfl, _, rfl⟩ := e1
        by_cases hcp : caph = 1
        · subst hcp
          obtain rfl := GH5.out.rest1
          go_wp2_with fail
          refine (concat_lit w5 x [] _ (by simp) (ReadsI.void w5 _ 0 (Nat.zero_le _))).mono ?_
          rintro e w6 ⟨u, rfl, hk6, hr⟩
          have K6 := Lib.hid (K5.out.trans hk6)
          have R6 := Lib.hid hr
          clear hk6 hr
          go_wp2_with fail
          go_ret2
          exact ⟨u, by simp [oneL, hk], K6.out, fun l hl => by simp [oneL, hk] at hl; subst hl; exact R6.out⟩
        · have HRT := Lib.hid (GH5.out.rest hcp)
          go_wp2_with fail
          refine (concat_lit w5 x t _ (by omega) HRT.out).mono ?_
          rintro e w6 ⟨u, rfl, hk6, hr⟩
          have K6 := Lib.hid (K5.out.trans hk6)
          have R6 := Lib.hid hr
          clear hk6 hr
          go_wp2_with fail
          go_ret2
          exact ⟨u, by simp [oneL, hk], K6.out, fun l hl => by simp [oneL, hk] at hl; subst hl; exact R6.out⟩
      · have hk2 : (kindL ks x != kindL ks a) = true := bne_iff_ne.2 hk
        go_wp2_with fail
        go_ret2
        exact ⟨.slice none 0 0, by simp [oneL, hk], K5.out, fun l hl => by simp [oneL, hk] at hl⟩
    · by_cases k3 : k = 3
      · subst k3
        clear k1 k2
        have hbh := Lib.hid (below_has (kindL ks x) (kindL ks a))
        go_wp2_with fail
        refine (onto_any _ _).mono ?_
        rintro e w6 ⟨rfl, hk6⟩
        have K6 := Lib.hid (K5.out.trans hk6)
        have GH6 := Lib.hid (GH5.out.keeps hk6)
        have Z1 : Hid (w6.cell? ⟨N, 1, none⟩ = some (.int .i64 x)) := Lib.hid (by rw [← HC1.out]; exact World.cell?_of_block (hk6.block _ (World.block_lt_of_cell? w5 _ HC1.out) id))
        clear hk6 GH5 HC0 HC1 C0 C1 K5 GK5
        go_wp2_with fail
        refine (has_any _ _ _).mono ?_
        rintro e w7 ⟨rfl, hk7⟩
        rw [hbh.out]
        have K7 := Lib.hid (K6.out.trans hk7)
        have GH7 := Lib.hid (GH6.out.keeps hk7)
        have z1 : w7.cell? ⟨N, 1, none⟩ = some (.int .i64 x) := by rw [← Z1.out]; exact World.cell?_of_block (hk7.block _ (World.block_lt_of_cell? w6 _ Z1.out) id)
        clear hk7 GH6 K6 Z1 hbh
        cases hm : mayL (kindL ks x) (kindL ks a)
        · go_wp2_with fail
          go_ret2
          exact ⟨.slice none 0 0, by simp [oneL, hm], K7.out, fun l hl => by simp [oneL, hm] at hl⟩
        · go_wp2_with fail
          refine (concat_lit w7 x (a :: t) _ (by simp; omega) GH7.out).mono ?_
          rintro e w8 ⟨u, rfl, hk8, hr⟩
          have K8 := Lib.hid (K7.out.trans hk8)
          have R8 := Lib.hid hr
          clear hk8 hr
          go_wp2_with fail
          go_ret2
          exact ⟨u, by simp [oneL, hm], K8.out, fun l hl => by simp [oneL, hm] at hl; subst hl; exact R8.out⟩
      · have q1 : (k == 1) = false := beq_eq_false_iff_ne.2 k1
        have q2 : (k == 2) = false := beq_eq_false_iff_ne.2 k2
        have q3 : (k == 3) = false := beq_eq_false_iff_ne.2 k3
        go_wp2_with fail
        go_ret2
        exact ⟨.slice none 0 0, by simp [oneL, k1, k2, k3], K5.out, fun l hl => by simp [oneL, k1, k2, k3] at hl⟩
end Go.Proofs.YtdhcnmljkmodhaaDoor

/- slices.Clone over ints; a chain of ops that reads as a list; ops.Do. -/
namespace Go.Proofs.YtdhcnmljkmodhaaDoor
set_option linter.unusedSectionVars false
set_option linter.unusedVariables false
set_option linter.unusedSimpArgs false
set_option maxRecDepth 20000
open Go.RowKit

set_option maxHeartbeats 1000000 in
theorem clone_any (w : World) (v : Value) (l : List Int) (hl : l.length ≤ 1000) (H : ReadsI w v l) : Calls Tryd.prog 13 #[v] w fun e w' => ∃ u, e = .returned u ∧ Keeps w w' (fun _ => False) ∧ ReadsI w' u l := by
  obtain ⟨i0, hi, hz, hs, hb⟩ := infoInt'
  obtain ⟨a, cap, rfl, _, _⟩ := H.form
  cases a with
  | none =>
    obtain rfl : l = [] := by
      obtain ⟨_, a', cap', h2, _, _, h5, _⟩ := H
      simp only [Value.slice.injEq] at h2
      exact List.eq_nil_of_length_eq_zero (h5 h2.1.symm).1
    clear H
    have hq := fun W => Lib.run_eql_slice_nil (P := Tryd.prog) W 22 3 none 0 cap 0 0 Tryd.underlying22
    go_enter Tryd.func13, Tryd.ntmps13
    go_wp2
    go_ret
    exact ⟨_, rfl, Keeps.refl _ _, (⟨rfl, none, 0, rfl, Nat.le_refl _, Nat.zero_le _, fun _ => ⟨rfl, rfl⟩, fun h => by simp at h⟩ : ReadsI w (.slice none 0 0) [])⟩
  | some p =>
    have HS := Lib.hid (Src.ofReadsI (H.keeps ((Keeps.refl w _).alloc (.cells #[] 3))))
    have HO : Hid ((w.alloc (.cells #[] 3)).ownsRow w.heap.size 3 1 (.slice (some ⟨w.heap.size, 0, none⟩) 0 0) 0 []) := Lib.hid ⟨rfl, .inr ⟨_, _, _, rfl, Nat.le_refl _, heap_alloc_new w _, Nat.zero_le _, Nat.zero_le _, rfl, by simp⟩⟩
    clear H
    have hq := fun W => Lib.run_eql_slice_nil (P := Tryd.prog) W 22 3 (some p) l.length cap 0 0 Tryd.underlying22
    go_enter Tryd.func13, Tryd.ntmps13
    go_wp2_with (at_builtin; refine wpList_append_any rfl (.tmp 5) (.tmp 6) 22 22 rfl 3 i0 _ 1 8 Tryd.underlying22 hi hz hs hb rfl w.heap.size _ 0 [] rfl HO.out _ l.length (l.map (Value.int .i64)) rfl HS.out (by unfold maxLen; omega) (by omega) (by simp) ?_)
    intro v' w' D
    obtain ⟨o, g, _, _⟩ := D
    have K : Hid (Keeps w w' (fun _ => False)) := Lib.hid (((Keeps.refl w _).alloc (.cells #[] 3)).grown g (fun k hk hlt => by simp only [Value.ownBlock, Option.some.injEq] at hk; omega))
    have R : Hid (ReadsI w' v' l) := Lib.hid (ReadsI.ofOwn rfl (by simpa using o))
    clear o g HS HO
    go_wp2_with fail
    go_ret
    exact ⟨_, rfl, K.out, R.out⟩

/-- An op's cells. -/
def opC (o : Int × Int) : List Value := [.int .i64 o.1, .int .i64 o.2]
/-- A chain that reads as l. -/
def RdO (w : World) (v : Value) (l : List (Int × Int)) : Prop := ReadsC w 2 v l.length (l.flatMap opC)
theorem RdO.keeps {w w' : World} {v : Value} {l : List (Int × Int)} (h : RdO w v l) (hk : Keeps w w' (fun _ => False)) : RdO w' v l := ReadsC.keeps h hk
theorem RdO.form {w : World} {v : Value} {l : List (Int × Int)} (h : RdO w v l) : ∃ a cap, v = .slice a l.length cap ∧ l.length ≤ cap ∧ cap ≤ maxLen := by
  obtain ⟨_, a, cap, h1, h2, h3, _⟩ := h; exact ⟨a, cap, h1, h2, h3⟩
theorem RdO.cell {w : World} {a : Option Addr} {n cap : Nat} {l : List (Int × Int)} (h : RdO w (.slice a n cap) l) (k : Nat) (hk : k < l.length) :
    ∃ g off, a = some ⟨g, off, none⟩ ∧ g < w.heap.size ∧ ∀ j (hj : j < l.length), w.cell? ⟨g, off + j * 2, none⟩ = some (.int .i64 l[j].1) ∧ w.cell? ⟨g, off + j * 2 + 1, none⟩ = some (.int .i64 l[j].2) := by
  obtain ⟨_, a', cap', h2, h3, h4, h5, h6⟩ := h
  obtain ⟨g, off, rfl, hg, hc⟩ := h6 (by omega)
  simp only [Value.slice.injEq] at h2
  refine ⟨g, off, h2.1, hg, fun j hj => ⟨?_, ?_⟩⟩
  · have := hc (j * 2) (.int .i64 l[j].1) (by have := flatMap_get opC 2 (fun _ => rfl) l j 0 hj (by omega); rw [Nat.add_zero] at this; rw [this]; rfl)
    exact this
  · have := hc (j * 2 + 1) (.int .i64 l[j].2) (by rw [flatMap_get opC 2 (fun _ => rfl) l j 1 hj (by omega)]; rfl)
    rw [← Nat.add_assoc] at this
    exact this

/-- A chain done to a header that may be. -/
def chainL (ks : List Int) : List Int → List (Int × Int) → Option (List Int)
  | h, [] => some h
  | h, o :: r => match oneL ks h o.1 o.2 with
    | none => none
    | some h' => chainL ks h' r
/-- The same, to any header. -/
def doL (ks h : List Int) (c : List (Int × Int)) : Option (List Int) := if validL ks h then chainL ks h c else none
theorem oneL_cons (ks : List Int) (a : Int) (t : List Int) (k x : Int) : oneL ks (a :: t) k x = if k = 1 then (if t = [] then none else some t) else if k = 2 then (if kindL ks x = kindL ks a then some (x :: t) else none)
    else if k = 3 then (if mayL (kindL ks x) (kindL ks a) then some (x :: a :: t) else none) else none := rfl
theorem oneL_len {ks h h' : List Int} {k x : Int} (e : oneL ks h k x = some h') : h'.length ≤ h.length + 1 ∧ h' ≠ [] := by
  cases h with
  | nil => cases e
  | cons a t =>
    rw [oneL_cons] at e
    by_cases h1 : k = 1
    · rw [if_pos h1] at e
      by_cases ht : t = []
      · rw [if_pos ht] at e; cases e
      · rw [if_neg ht] at e; obtain rfl := Option.some.inj e; exact ⟨by simp; omega, ht⟩
    · rw [if_neg h1] at e
      by_cases h2 : k = 2
      · rw [if_pos h2] at e
        by_cases hk : kindL ks x = kindL ks a
        · rw [if_pos hk] at e; obtain rfl := Option.some.inj e; simp
        · rw [if_neg hk] at e; cases e
      · rw [if_neg h2] at e
        by_cases h3 : k = 3
        · rw [if_pos h3] at e
          by_cases hm : mayL (kindL ks x) (kindL ks a) = true
          · rw [if_pos hm] at e; obtain rfl := Option.some.inj e; simp
          · rw [if_neg hm] at e; cases e
        · rw [if_neg h3] at e; cases e
end Go.Proofs.YtdhcnmljkmodhaaDoor

/- ops.Pushes, ops.Grows, fairleadref10.Count: how many ops are of a kind. -/
namespace Go.Proofs.YtdhcnmljkmodhaaDoor
set_option linter.unusedSectionVars false
set_option linter.unusedVariables false
set_option linter.unusedSimpArgs false
set_option maxRecDepth 20000
open Go.RowKit

/-- How many ops are of a kind. -/
def cntL (k : Int) (c : List (Int × Int)) : Nat := (c.filter (fun o => o.1 == k)).length
theorem cntL_cons (k : Int) (o : Int × Int) (c : List (Int × Int)) : cntL k (o :: c) = (if o.1 == k then 1 else 0) + cntL k c := by
  unfold cntL
  rw [List.filter_cons]
  split <;> simp <;> omega
theorem cntL_take (k : Int) (c : List (Int × Int)) (i : Nat) (h : i < c.length) : cntL k (c.take (i + 1)) = cntL k (c.take i) + (if c[i].1 == k then 1 else 0) := by
  unfold cntL
  rw [List.take_succ_eq_append_getElem h, List.filter_append, List.length_append]
  congr 1
  rw [List.filter_cons]
  split <;> simp
theorem cntL_le (k : Int) (c : List (Int × Int)) : cntL k c ≤ c.length := List.length_filter_le _ _
theorem cntL_app (k : Int) (a b : List (Int × Int)) : cntL k (a ++ b) = cntL k a + cntL k b := by unfold cntL; rw [List.filter_append, List.length_append]

set_option maxHeartbeats 1000000 in
theorem pushes_any (w : World) (vc : Value) (c : List (Int × Int)) (hl : c.length ≤ 1000) (Hc : RdO w vc c) :
    Calls Tryd.prog 18 #[vc] w fun e w' => e = .returned (.int .i64 ((cntL 3 c : Int))) ∧ Keeps w w' (fun _ => False) := by
  obtain ⟨ac, capc, rfl, _, hmc⟩ := Hc.form
  have GC := Lib.hid Hc
  clear Hc hmc
  go_enter Tryd.func18, Tryd.ntmps18
  go_wp2_with fail
  go_loopw [3, 8] (fun tn ti wr => ∃ (k : Nat) (n : Int), ti = .int .i64 k ∧ tn = .int .i64 n ∧ k ≤ c.length ∧ n = (cntL 3 (c.take k) : Int) ∧ Keeps w wr (fun _ => False)) (fun _ ti _ => c.length - (intOf ti).toNat)
  case atStart => exact ⟨0, _, rfl, rfl, Nat.zero_le _, by simp [cntL], Keeps.refl _ _⟩
  case round =>
    obtain ⟨k, n, rfl, rfl, hk, hn, hkp⟩ := hrel
    have KP := Lib.hid hkp
    have HN := Lib.hid hn
    have hb3 := cntL_le 3 (c.take k)
    have hb1 := cntL_le 1 (c.take k)
    have hbk := cntL_le 3 (c.take k)
    have hb := List.length_take_le k c
    have hw := IntWalk.wrap64_in (n + 1) (by omega)
    clear hkp hn hb3 hb1 hbk hb
    by_cases hlt : k < c.length
    · obtain ⟨g, off, rfl, hg, hc⟩ := (GC.out.keeps KP.out).cell k hlt
      have hc0 := (hc k hlt).1
      have hc1 := (hc k hlt).2
      have S3 := Lib.hid (cntL_take 3 c k hlt)
      have S1 := Lib.hid (cntL_take 1 c k hlt)
      have SK := Lib.hid (cntL_take 3 c k hlt)
      clear hc
      generalize c[k].1 = ok at *
      generalize c[k].2 = ox at *
      have KA : Hid (Keeps w (wr.alloc (.cells #[.int .i64 ok, .int .i64 ox] 44)) (fun _ => False)) := Lib.hid (KP.out.alloc _)
      by_cases hq : ok = 3
      · have hq2 : (ok == 3) = true := by rw [beq_iff_eq]; exact hq
        subst hq
        go_wp2_with fail
        go_roundw
        case rel =>
          refine ⟨k + 1, _, by go_num, rfl, by omega, ?_, KA.out⟩
          rw [hw, S3.out, HN.out]
          simp
          try omega
        case measure => simp [intOf]; omega
      · have hq2 : (ok == 3) = false := beq_eq_false_iff_ne.2 hq
        have HQ := Lib.hid hq2
        clear hw
        go_wp2_with fail
        go_roundw
        case rel =>
          refine ⟨k + 1, _, by go_num, rfl, by omega, ?_, KA.out⟩
          rw [S3.out, HN.out]
          simp [HQ.out]
          try omega
        case measure => simp [intOf]; omega
    · have hk' : k = c.length := by omega
      subst hk'
      rw [List.take_length] at HN
      go_wp2_with fail
      go_ret
      exact ⟨by rw [HN.out]; rfl, KP.out⟩

set_option maxHeartbeats 1000000 in
theorem grows_any (w : World) (vc : Value) (c : List (Int × Int)) (hl : c.length ≤ 1000) (Hc : RdO w vc c) :
    Calls Tryd.prog 19 #[vc] w fun e w' => e = .returned (.int .i64 ((cntL 3 c : Int) - (cntL 1 c : Int))) ∧ Keeps w w' (fun _ => False) := by
  obtain ⟨ac, capc, rfl, _, hmc⟩ := Hc.form
  have GC := Lib.hid Hc
  clear Hc hmc
  go_enter Tryd.func19, Tryd.ntmps19
  go_wp2_with fail
  refine (pushes_any w _ c hl GC.out).mono ?_
  rintro e w1 ⟨rfl, hk1⟩
  have K1 := Lib.hid hk1
  clear hk1
  go_wp2_with fail
  go_loopw [3, 10] (fun tn ti wr => ∃ (k : Nat) (n : Int), ti = .int .i64 k ∧ tn = .int .i64 n ∧ k ≤ c.length ∧ n = (cntL 3 c : Int) - (cntL 1 (c.take k) : Int) ∧ Keeps w wr (fun _ => False)) (fun _ ti _ => c.length - (intOf ti).toNat)
  case atStart => exact ⟨0, _, rfl, rfl, Nat.zero_le _, by simp [cntL], K1.out⟩
  case round =>
    obtain ⟨k, n, rfl, rfl, hk, hn, hkp⟩ := hrel
    have KP := Lib.hid hkp
    have HN := Lib.hid hn
    have hb3 := cntL_le 3 c
    have hb1 := cntL_le 1 (c.take k)
    have hbk := cntL_le 1 (c.take k)
    have hb := List.length_take_le k c
    have hw := IntWalk.wrap64_in (n - 1) (by omega)
    clear hkp hn hb3 hb1 hbk hb
    by_cases hlt : k < c.length
    · obtain ⟨g, off, rfl, hg, hc⟩ := (GC.out.keeps KP.out).cell k hlt
      have hc0 := (hc k hlt).1
      have hc1 := (hc k hlt).2
      have S3 := Lib.hid (cntL_take 3 c k hlt)
      have S1 := Lib.hid (cntL_take 1 c k hlt)
      have SK := Lib.hid (cntL_take 1 c k hlt)
      clear hc
      generalize c[k].1 = ok at *
      generalize c[k].2 = ox at *
      have KA : Hid (Keeps w (wr.alloc (.cells #[.int .i64 ok, .int .i64 ox] 44)) (fun _ => False)) := Lib.hid (KP.out.alloc _)
      by_cases hq : ok = 1
      · have hq2 : (ok == 1) = true := by rw [beq_iff_eq]; exact hq
        subst hq
        go_wp2_with fail
        go_roundw
        case rel =>
          refine ⟨k + 1, _, by go_num, rfl, by omega, ?_, KA.out⟩
          rw [hw, S1.out, HN.out]
          simp
          try omega
        case measure => simp [intOf]; omega
      · have hq2 : (ok == 1) = false := beq_eq_false_iff_ne.2 hq
        have HQ := Lib.hid hq2
        clear hw
        go_wp2_with fail
        go_roundw
        case rel =>
          refine ⟨k + 1, _, by go_num, rfl, by omega, ?_, KA.out⟩
          rw [S1.out, HN.out]
          simp [HQ.out]
          try omega
        case measure => simp [intOf]; omega
    · have hk' : k = c.length := by omega
      subst hk'
      rw [List.take_length] at HN
      go_wp2_with fail
      go_ret
      exact ⟨by rw [HN.out]; rfl, KP.out⟩

set_option maxHeartbeats 1000000 in
theorem count_any (w : World) (vc : Value) (q : Int) (c : List (Int × Int)) (hl : c.length ≤ 1000) (Hc : RdO w vc c) :
    Calls Tryd.prog 16 #[vc, .int .i64 q] w fun e w' => e = .returned (.int .i64 ((cntL q c : Int))) ∧ Keeps w w' (fun _ => False) := by
  obtain ⟨ac, capc, rfl, _, hmc⟩ := Hc.form
  have GC := Lib.hid Hc
  clear Hc hmc
  go_enter Tryd.func16, Tryd.ntmps16
  go_wp2_with fail
  go_loopw [5, 10] (fun tn ti wr => ∃ (k : Nat) (n : Int), ti = .int .i64 k ∧ tn = .int .i64 n ∧ k ≤ c.length ∧ n = (cntL q (c.take k) : Int) ∧ Keeps w wr (fun _ => False)) (fun _ ti _ => c.length - (intOf ti).toNat)
  case atStart => exact ⟨0, _, rfl, rfl, Nat.zero_le _, by simp [cntL], Keeps.refl _ _⟩
  case round =>
    obtain ⟨k, n, rfl, rfl, hk, hn, hkp⟩ := hrel
    have KP := Lib.hid hkp
    have HN := Lib.hid hn
    have hb3 := cntL_le 3 (c.take k)
    have hb1 := cntL_le 1 (c.take k)
    have hbk := cntL_le q (c.take k)
    have hb := List.length_take_le k c
    have hw := IntWalk.wrap64_in (n + 1) (by omega)
    clear hkp hn hb3 hb1 hbk hb
    by_cases hlt : k < c.length
    · obtain ⟨g, off, rfl, hg, hc⟩ := (GC.out.keeps KP.out).cell k hlt
      have hc0 := (hc k hlt).1
      have hc1 := (hc k hlt).2
      have S3 := Lib.hid (cntL_take 3 c k hlt)
      have S1 := Lib.hid (cntL_take 1 c k hlt)
      have SK := Lib.hid (cntL_take q c k hlt)
      clear hc
      generalize c[k].1 = ok at *
      generalize c[k].2 = ox at *
      have KA : Hid (Keeps w (wr.alloc (.cells #[.int .i64 ok, .int .i64 ox] 47)) (fun _ => False)) := Lib.hid (KP.out.alloc _)
      by_cases hq : ok = q
      · have hq2 : (ok == q) = true := by rw [beq_iff_eq]; exact hq
        subst hq
        go_wp2_with fail
        go_roundw
        case rel =>
          refine ⟨k + 1, _, by go_num, rfl, by omega, ?_, KA.out⟩
          rw [hw, SK.out, HN.out]
          simp
          try omega
        case measure => simp [intOf]; omega
      · have hq2 : (ok == q) = false := beq_eq_false_iff_ne.2 hq
        have HQ := Lib.hid hq2
        clear hw
        go_wp2_with fail
        go_roundw
        case rel =>
          refine ⟨k + 1, _, by go_num, rfl, by omega, ?_, KA.out⟩
          rw [SK.out, HN.out]
          simp [HQ.out]
          try omega
        case measure => simp [intOf]; omega
    · have hk' : k = c.length := by omega
      subst hk'
      rw [List.take_length] at HN
      go_wp2_with fail
      go_ret
      exact ⟨by rw [HN.out]; rfl, KP.out⟩
end Go.Proofs.YtdhcnmljkmodhaaDoor

/- Slices whose elements take one cell, as lists of values ('RdV'). -/
namespace Go.Proofs.YtdhcnmljkmodhaaDoor
set_option linter.unusedSectionVars false
set_option linter.unusedVariables false
set_option linter.unusedSimpArgs false
open Go.RowKit

/-- A slice that reads as these values, one cell each. -/
def RdV (w : World) (v : Value) (xs : List Value) : Prop := ReadsC w 1 v xs.length xs
theorem RdV.keeps {w w' : World} {v : Value} {xs : List Value} (h : RdV w v xs) (hk : Keeps w w' (fun _ => False)) : RdV w' v xs := ReadsC.keeps h hk
theorem RdV.form {w : World} {v : Value} {xs : List Value} (h : RdV w v xs) : ∃ a cap, v = .slice a xs.length cap ∧ xs.length ≤ cap ∧ cap ≤ maxLen := by
  obtain ⟨_, a, cap, h2, h3, h4, _⟩ := h
  exact ⟨a, cap, h2, h3, h4⟩
theorem RdV.len {w : World} {v : Value} {xs : List Value} (h : RdV w v xs) : xs.length ≤ maxLen := by
  obtain ⟨_, _, _, h3, h4⟩ := h.form
  omega
theorem RdV.nil (w : World) : RdV w (.slice none 0 0) [] := ⟨rfl, none, 0, rfl, Nat.le_refl _, by unfold maxLen; omega, fun _ => ⟨rfl, rfl⟩, fun h => by cases h⟩
/-- Where there is one, an address, and the cells. -/
theorem RdV.at {w : World} {a : Option Addr} {n cap : Nat} {xs : List Value} (h : RdV w (.slice a n cap) xs) (h0 : 0 < xs.length) :
    ∃ g off, a = some ⟨g, off, none⟩ ∧ n = xs.length ∧ g < w.heap.size ∧ ∀ j u, xs[j]? = some u → w.cell? ⟨g, off + j, none⟩ = some u := by
  obtain ⟨_, a', cap', h2, h3, h4, h5, h6⟩ := h
  obtain ⟨g, off, rfl, hg, hc⟩ := h6 h0
  simp only [Value.slice.injEq] at h2
  exact ⟨g, off, h2.1, h2.2.1, hg, hc⟩
theorem RdV.ofOwn {w : World} {b n : Nat} {e : TypeId} {v : Value} {xs : List Value} (h : w.ownsRow b e 1 v n xs) : RdV w v xs := by
  have hr := ReadsRow.ofOwn h
  have hl : xs.length = n := by simpa using h.1
  subst hl
  refine ⟨by simp, ?_⟩
  rcases h.2 with ⟨rfl, h0⟩ | ⟨g, cap, cur, rfl, hbg, hg, r1, r2, r3, r4⟩
  · exact ⟨none, 0, by rw [h0], by omega, by unfold maxLen; omega, fun _ => ⟨h0, rfl⟩, fun h => by omega⟩
  · refine ⟨_, cap, rfl, r1, r2, (fun h => by cases h), fun _ => ⟨g, 0, rfl, block_lt hg, fun j u hj => hr.cell hj⟩⟩
/-- As what is appended. -/
theorem Src.ofRdV {P : Program} {w : World} {tx e : TypeId} {v : Value} {xs : List Value} (hk : P.underlying tx = some (.slice e)) (h : RdV w v xs) (h1 : ∀ u ∈ xs, u.oneCell' = true) : Src P 1 tx v xs.length xs w := by
  obtain ⟨_, a, cap, rfl, _, _, hn, h6⟩ := h
  match xs with
  | [] =>
    cases a with
    | none => exact Src.ofNil _ hk cap
    | some a => exact Src.ofSlice _ hk a 0 cap [] rfl (fun j u hj => by simp at hj) (fun u hu => by cases hu)
  | x :: r =>
    obtain ⟨g, off, rfl, hg, hc⟩ := h6 (by simp)
    refine Src.ofSlice _ hk _ _ cap _ (by simp) (fun j u hj => ?_) h1
    have e : ((⟨g, off, none⟩ : Addr).add j) = ⟨g, off + j, none⟩ := by
      unfold Addr.add; split
      · rename_i h; subst h; rfl
      · rfl
    rw [e]; exact hc j u hj
theorem own_block_ge {w : World} {B0 : Nat} {e : TypeId} {size n : Nat} {v : Value} {xs : List Value} (h : w.ownsRow B0 e size v n xs) : ∀ g, v.ownBlock = some g → B0 ≤ g ∧ g < w.heap.size := by
  intro g hg
  rcases h.2 with ⟨rfl, _⟩ | ⟨g', cap, cur, rfl, hb, hh, _⟩
  · cases hg
  · simp only [Value.ownBlock, Option.some.injEq] at hg
    exact ⟨by omega, hg ▸ block_lt hh⟩
theorem own_keeps {w w' : World} {B0 : Nat} {e : TypeId} {size n : Nat} {v : Value} {xs : List Value} {S : Nat → Prop} (h : w.ownsRow B0 e size v n xs) (hk : Keeps w w' S) (hS : ∀ j, S j → j < B0 ∨ v.ownBlock ≠ some j) : w'.ownsRow B0 e size v n xs :=
  ownsRow_same h (fun g hg => hk.block g (own_block_ge h g hg).2 (fun s => by
    rcases hS g s with h' | h'
    · have := (own_block_ge h g hg).1; omega
    · exact h' hg))
/-- A row of the call's own, with what it holds: what a call hands back. -/
def OwnV (e : TypeId) (w : World) (xs : List Value) (en : Ending) (w' : World) : Prop :=
  ∃ v, en = .returned v ∧ w'.ownsRow w.heap.size e 1 v xs.length xs ∧ Keeps w w' (fun _ => False)
theorem own_mono {w : World} {B B' : Nat} {e : TypeId} {size n : Nat} {v : Value} {xs : List Value} (h : w.ownsRow B e size v n xs) (hB : B' ≤ B) : w.ownsRow B' e size v n xs := by
  refine ⟨h.1, h.2.imp id ?_⟩
  rintro ⟨g, cap, cur, hv, hbg, rest⟩
  exact ⟨g, cap, cur, hv, by omega, rest⟩
end Go.Proofs.YtdhcnmljkmodhaaDoor

/- fairleadlaw10.To: a chain as the document's. -/
namespace Go.Proofs.YtdhcnmljkmodhaaDoor
set_option linter.unusedSectionVars false
set_option linter.unusedVariables false
set_option linter.unusedSimpArgs false
set_option maxRecDepth 20000
open Go.RowKit

theorem infoRop : (Tryd.prog.info? 47).map (fun i => (i.zero, i.size, i.bytes)) = some (some (.agg #[.int .i64 0, .int .i64 0]), 2, 16) := by kernel_rfl
theorem infoRop' : ∃ i, Tryd.prog.info? 47 = some i ∧ i.zero = some (.agg #[.int .i64 0, .int .i64 0]) ∧ i.size = 2 ∧ i.bytes = 16 := by
  have h := infoRop
  cases hi : Tryd.prog.info? 47 with
  | none => rw [hi] at h; cases h
  | some i =>
    rw [hi] at h
    simp at h
    exact ⟨i, rfl, h.1, h.2.1, h.2.2⟩
theorem opC_len (l : List (Int × Int)) : (l.flatMap opC).length = l.length * 2 := flatMap_len opC 2 (fun _ => rfl) l
theorem RdO.ofOwn {w : World} {b n : Nat} {e : TypeId} {v : Value} {l : List (Int × Int)} (hn : n = l.length) (h : w.ownsRow b e 2 v n (l.flatMap opC)) : RdO w v l := by
  subst hn
  have hr := ReadsRow.ofOwn h
  refine ⟨opC_len l, ?_⟩
  rcases h.2 with ⟨rfl, h0⟩ | ⟨g, cap, cur, rfl, hbg, hg, r1, r2, r3, r4⟩
  · exact ⟨none, 0, by rw [h0], by omega, by unfold maxLen; omega, fun _ => ⟨h0, rfl⟩, fun h => by omega⟩
  · exact ⟨_, cap, rfl, r1, r2, (fun h => by cases h), fun _ => ⟨g, 0, rfl, block_lt hg, fun j u hj => hr.cell hj⟩⟩
/-- One op, as what is appended. -/
theorem Src.ofOp {w : World} {tx e : TypeId} (hk : Tryd.prog.underlying tx = some (.slice e)) (g : Nat) (o : Int × Int) (t : TypeId) (h : w.heap[g]? = some (.cells #[.int .i64 o.1, .int .i64 o.2] t (0, 0))) : Src Tryd.prog 2 tx (.slice (some ⟨g, 0, none⟩) 1 1) 1 (opC o) w := by
  refine Src.ofSlice w hk _ 1 1 (opC o) rfl (fun j u hj => ?_) (fun u hu => ?_)
  · have e : ((⟨g, 0, none⟩ : Addr).add j) = ⟨g, j, none⟩ := by
      unfold Addr.add; split
      · rename_i h; subst h; rfl
      · simp
    rw [e, cell_at h]
    unfold opC at hj
    rw [← hj]
    rw [← Array.getElem?_toList]
  · unfold opC at hu
    simp only [List.mem_cons, List.not_mem_nil, or_false] at hu
    rcases hu with rfl | rfl <;> rfl

set_option maxHeartbeats 1000000 in
theorem to_any (w : World) (vc : Value) (c : List (Int × Int)) (hl : c.length ≤ 1000) (Hc : RdO w vc c) :
    Calls Tryd.prog 10 #[vc] w fun e w' => ∃ u, e = .returned u ∧ Keeps w w' (fun _ => False) ∧ RdO w' u c := by
  obtain ⟨i0, hi, hz, hs, hb⟩ := infoRop'
  obtain ⟨ac, capc, rfl, _, hmc⟩ := Hc.form
  have GC := Lib.hid Hc
  have hZ := Lib.hid hz
  have hS := Lib.hid hs
  have hB := Lib.hid hb
  have hI := Lib.hid hi
  clear Hc hmc hz hs hb hi
  go_enter Tryd.func10, Tryd.ntmps10
  go_wp2_with fail
  go_loopw [3, 8] (fun v ti wr => ∃ (k : Nat), ti = .int .i64 k ∧ k ≤ c.length ∧ wr.ownsRow w.heap.size 47 2 v k ((c.take k).flatMap opC) ∧ Keeps w wr (fun _ => False)) (fun _ ti _ => c.length - (intOf ti).toNat)
  case atStart => exact ⟨0, rfl, Nat.zero_le _, World.ownsRow_nil _ _ _ _, Keeps.refl _ _⟩
  case round =>
    obtain ⟨k, rfl, hk, hown, hkp⟩ := hrel
    have KP := Lib.hid hkp
    have HO := Lib.hid hown
    clear hkp hown
    by_cases hlt : k < c.length
    · obtain ⟨g, off, rfl, hg, hc⟩ := (GC.out.keeps KP.out).cell k hlt
      have hc0 := (hc k hlt).1
      have hc1 := (hc k hlt).2
      have HT : Hid ((c.take (k + 1)).flatMap opC = (c.take k).flatMap opC ++ opC (c[k].1, c[k].2)) := Lib.hid (by rw [List.take_succ_eq_append_getElem hlt, List.flatMap_append]; simp)
      clear hc
      generalize c[k].1 = ok at *
      generalize c[k].2 = ox at *
      have KA : Hid (Keeps w (wr.alloc (.cells #[.int .i64 ok, .int .i64 ox] 44)) (fun _ => False)) := Lib.hid (KP.out.alloc _)
      have HO2 : Hid ((wr.alloc (.cells #[.int .i64 ok, .int .i64 ox] 44)).ownsRow w.heap.size 47 2 u3 k ((c.take k).flatMap opC)) := Lib.hid (HO.out.alloc _)
      have HSrc : Hid (Src Tryd.prog 2 28 (.slice (some ⟨wr.heap.size + 1, 0, none⟩) 1 1) 1 (opC (ok, ox)) ((wr.alloc (.cells #[.int .i64 ok, .int .i64 ox] 44)).alloc (.cells #[.int .i64 ok, .int .i64 ox] 47))) := Lib.hid (Src.ofOp Tryd.underlying28 _ (ok, ox) 47 (by
        have := heap_alloc_new (wr.alloc (.cells #[.int .i64 ok, .int .i64 ox] 44)) (.cells #[.int .i64 ok, .int .i64 ox] 47)
        simpa using this))
      have HSZ : Hid (w.heap.size ≤ ((wr.alloc (.cells #[.int .i64 ok, .int .i64 ox] 44)).alloc (.cells #[.int .i64 ok, .int .i64 ox] 47)).heap.size) := Lib.hid ((KA.out.alloc _).size)
      go_wp2_with (at_builtin; refine wpList_append_any rfl (.tmp 12) (.tmp 14) 28 28 rfl 47 i0 _ 2 16 Tryd.underlying28 hI.out hZ.out hS.out hB.out rfl w.heap.size _ k ((c.take k).flatMap opC) rfl (HO2.out.alloc _) _ 1 (opC (ok, ox)) rfl HSrc.out (by unfold maxLen; omega) (by omega) HSZ.out ?_; intro v' w2 D; have HOW := Lib.hid D.own; have HGR := Lib.hid D.grown; clear D)
      go_roundw
      case rel =>
        refine ⟨k + 1, by go_num, by omega, by rw [HT.out]; exact HOW.out, (KA.out.alloc _).grown HGR.out (fun g' hg' hlt' => ?_)⟩
        have := (own_block_ge HO.out g' hg').1
        omega
      case measure => simp [intOf]; omega
    · have hk' : k = c.length := by omega
      subst hk'
      rw [List.take_length] at HO
      go_wp2_with fail
      go_ret
      exact ⟨_, rfl, KP.out, RdO.ofOwn rfl HO.out⟩
end Go.Proofs.YtdhcnmljkmodhaaDoor
