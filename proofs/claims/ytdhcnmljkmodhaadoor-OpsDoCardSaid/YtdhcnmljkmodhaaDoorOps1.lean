/- ops.one. -/
import Derived.Test.YtdhcnmljkmodhaaDoorHeader7
import Derived.Test.YtdhcnmljkmodhaaDoorHeader8
namespace Go.Proofs.YtdhcnmljkmodhaaDoor
set_option linter.unusedSectionVars false
set_option linter.unusedVariables false
set_option linter.unusedSimpArgs false
set_option maxRecDepth 20000
open Go.RowKit

/-- An op done to a header. -/
def oneL (ks : List Int) : List Int → Int → Int → Option (List Int)
  | [], _, _ => none
  | a :: t, k, x => if k = 1 then (if t = [] then none else some t) else if k = 2 then (if kindL ks x = kindL ks a then some (x :: t) else none)
    else if k = 3 then (if mayL (kindL ks x) (kindL ks a) then some (x :: a :: t) else none) else none
/-- What a call tells that may fail: a header, and whether. -/
def MayPost (w : World) (r : Option (List Int)) (e : Ending) (w' : World) : Prop :=
  ∃ v, e = .returned (.tuple #[v, .bool r.isSome]) ∧ Keeps w w' (fun _ => False) ∧ ∀ l, r = some l → ReadsI w' v l
theorem ReadsI.tail {w : World} {g off n cap : Nat} {a : Int} {t : List Int} (h : ReadsI w (.slice (some ⟨g, off, none⟩) n cap) (a :: t)) (c2 : Nat) (h2 : t.length ≤ c2) (h3 : c2 ≤ maxLen) (m : Nat) (hm : m = t.length) (ht : t ≠ []) : ReadsI w (.slice (some ⟨g, off + 1, none⟩) m c2) t := by
  have hl : 0 < t.length := List.length_pos_iff.2 ht
  have := ReadsI.drop (m := m) (c2 := c2) (k := 1) h (by simp; omega) (by simp [hm]) (by simpa using h2) h3
  simpa using this

theorem ReadsI.void (w : World) (a : Addr) (c : Nat) (hc : c ≤ maxLen) : ReadsI w (.slice (some a) 0 c) [] :=
  ⟨rfl, some a, c, rfl, Nat.zero_le _, hc, (fun h => by cases h), fun h => by simp at h⟩

/-- What is left of it behind the first. -/
theorem ReadsI.rest {w : World} {g off cap : Nat} {a : Int} {t : List Int} (h : ReadsI w (.slice (some ⟨g, off, none⟩) (a :: t).length cap) (a :: t)) (hc : ¬ cap = 1) : ReadsI w (.slice (some ⟨g, off + 1, none⟩) t.length (cap - 1)) t := by
  obtain ⟨_, _, e1, hc1, hc2⟩ := h.form
  simp only [Value.slice.injEq] at e1
  obtain ⟨rfl, _, rfl⟩ := e1
  simp only [List.length_cons] at hc1
  cases t with
  | nil => exact ReadsI.void w _ _ (by omega)
  | cons b r => exact h.tail (cap - 1) (by omega) (by omega) _ rfl (by simp)
theorem ReadsI.rest1 {w : World} {g off : Nat} {a : Int} {t : List Int} (h : ReadsI w (.slice (some ⟨g, off, none⟩) (a :: t).length 1) (a :: t)) : t = [] := by
  obtain ⟨_, _, e1, hc1, hc2⟩ := h.form
  simp only [Value.slice.injEq] at e1
  obtain ⟨rfl, _, rfl⟩ := e1
  simp only [List.length_cons] at hc1
  exact List.eq_nil_of_length_eq_zero (by omega)
/-- A label ahead of a header: what the call of Concat meets. -/
theorem concat_lit (w5 : World) (x : Int) (l : List Int) (v : Value) (hl : l.length ≤ 100) (H : ReadsI w5 v l) :
    Calls Tryd.prog 47 #[.slice (some ⟨w5.heap.size + 1, 0, none⟩) 2 2] ((w5.alloc (.cells #[.int .i64 x] 3)).alloc (.cells #[.slice (some ⟨w5.heap.size, 0, none⟩) 1 1, v] 22)) fun e w' => ∃ u, e = .returned u ∧ Keeps w5 w' (fun _ => False) ∧ ReadsI w' u (x :: l) := by
  have h1 : ReadsI (w5.alloc (.cells #[.int .i64 x] 3)) (.slice (some ⟨w5.heap.size, 0, none⟩) 1 1) [x] := ReadsI.lit w5 [x] 3 (by simp)
  have k1 := (Keeps.refl w5 (fun _ => False)).alloc (.cells #[.int .i64 x] 3)
  have k2 := (Keeps.refl (w5.alloc (.cells #[.int .i64 x] 3)) (fun _ => False)).alloc (.cells #[.slice (some ⟨w5.heap.size, 0, none⟩) 1 1, v] 22)
  have hb := heap_alloc_new (w5.alloc (.cells #[.int .i64 x] 3)) (.cells #[.slice (some ⟨w5.heap.size, 0, none⟩) 1 1, v] 22)
  have hs : (w5.alloc (.cells #[.int .i64 x] 3)).heap.size = w5.heap.size + 1 := by simp
  rw [hs] at hb
  refine (concat_any _ x l hl (w5.heap.size + 1) _ v (h1.keeps k2) ((H.keeps k1).keeps k2) (by rw [cell_at hb]; rfl) (by rw [cell_at hb]; rfl)).mono ?_
  rintro e w' ⟨u, rfl, ho, hk⟩
  exact ⟨u, rfl, (k1.trans k2).trans hk, ReadsI.ofOwn rfl ho⟩

set_option maxHeartbeats 2000000 in
theorem one_any (w : World) (vk vh : Value) (ks : List Int) (a : Int) (t : List Int) (k x : Int) (hl : t.length ≤ 99) (Hk : ReadsI w vk ks) (Hh : ReadsI w vh (a :: t)) :
    Calls Tryd.prog 33 #[vk, vh, .agg #[.int .i64 k, .int .i64 x]] w (MayPost w (oneL ks (a :: t) k x)) := by
  obtain ⟨ak, capk, rfl, _, hmk⟩ := Hk.form
  obtain ⟨ah, caph, rfl, hch, hmh⟩ := Hh.form
  obtain ⟨g, off, rfl, hg, hc⟩ := Hh.cell 0 (by simp)
  have hcell : w.cell? ⟨g, off, none⟩ = some (.int .i64 a) := hc 0 (by simp)
  have GK := Lib.hid Hk
  have GH := Lib.hid Hh
  have K0 := Lib.hid ((Keeps.refl w (fun _ => False)).alloc (.cells #[.int .i64 k, .int .i64 x] 44))
  have B0 := heap_alloc_new w (.cells #[.int .i64 k, .int .i64 x] 44)
  have hcell0 : (w.alloc (.cells #[.int .i64 k, .int .i64 x] 44)).cell? ⟨g, off, none⟩ = some (.int .i64 a) := by rw [← hcell]; exact World.cell?_of_block (K0.out.block _ hg id)
  clear Hk Hh hmk hmh hch hc hcell
  go_enter Tryd.func33, Tryd.ntmps33
  go_wp2_with fail
  generalize w.alloc (.cells #[.int .i64 k, .int .i64 x] 44) = W at *
  generalize w.heap.size = N at *
  have y0 : W.cell? ⟨N, 0, none⟩ = some (.int .i64 k) := by rw [cell_at B0]; rfl
  have y1 : W.cell? ⟨N, 1, none⟩ = some (.int .i64 x) := by rw [cell_at B0]; rfl
  have x1 : ∀ x' : Cls W, x'.w.cell? ⟨N, 1, none⟩ = some (.int .i64 x) := Cls.cell y1
  have xa : ∀ x' : Cls W, x'.w.cell? ⟨g, off, none⟩ = some (.int .i64 a) := Cls.cell hcell0
  have HKW : Hid (∀ x : Cls W, ReadsI x.w (.slice ak ks.length capk) ks) := Lib.hid (fun x => (GK.out.keeps K0.out).keeps x.keep)
  have Y0 := Lib.hid y0
  have Y1 := Lib.hid y1
  have hbb : (0 : Int) < ((t.length : Int) + 1) := by omega
  clear B0 y0 y1 hcell0
  refine wp_region_cls (by kernel_rfl) (by kernel_rfl) ?_
  repeat (go_big_quiet_step ((first | (go_at_call 29; exact cls_call_same (kind_any _ _ ks _ (HKW.out _))))))
  refine wpQuiet_nil ?_
  rintro _ ⟨x5, rfl⟩
  have K5 := Lib.hid (K0.out.trans x5.keep)
  have C0 := Cls.cell Y0.out x5
  have C1 := Cls.cell Y1.out x5
  generalize x5.w = w5 at *
  clear x1 xa
  have HC0 := Lib.hid C0
  have HC1 := Lib.hid C1
  have GH5 := Lib.hid (GH.out.keeps K5.out)
  have GK5 := Lib.hid (GK.out.keeps K5.out)
  clear HKW GK GH Y0 Y1 K0
  by_cases k1 : k = 1
  · subst k1
    cases t with
    | nil =>
      by_cases hc1 : caph = 1
      · subst hc1
        go_wp2_with fail
        go_ret2
        exact ⟨_, rfl, K5.out, fun l hl => by simp [oneL] at hl⟩
      · go_wp2_with fail
        go_ret2
        exact ⟨_, rfl, K5.out, fun l hl => by simp [oneL] at hl⟩
    | cons b r =>
      have hb2 : (1 : Int) < ((r.length : Int) + 1 + 1) := by omega
      obtain ⟨_, _, e1, hc1, hc2⟩ := GH5.out.form
      simp only [Value.slice.injEq] at e1
      obtain ⟨rfl, _, rfl⟩ := e1
      have hc0 : ¬ (caph = 1) := by simp at hc1; omega
      have HC2 := Lib.hid hc1
      have HC3 := Lib.hid hc2
      clear hc1 hc2
      go_wp2_with fail
      go_ret2
      refine ⟨_, rfl, K5.out, fun l hl => ?_⟩
      obtain rfl : b :: r = l := by simpa [oneL] using hl
      have h2 := HC2.out
      have h3 := HC3.out
      simp only [List.length_cons] at h2
      have := GH5.out.tail (caph - 1) (by simp; omega) (by omega) _ rfl (by simp)
      simpa using this
  · by_cases k2 : k = 2
    · subst k2
      clear k1
      by_cases hk : kindL ks x = kindL ks a
      · have hk2 : (kindL ks x != kindL ks a) = false := by simp [hk]
        obtain ⟨_, _, e1, hc1, hc2⟩ := GH5.out.form
        simp only [Value.slice.injEq] at e1
        obtain ⟨rfl, _, rfl⟩ := e1
        by_cases hcp : caph = 1
        · subst hcp
          obtain rfl := GH5.out.rest1
          go_wp2_with fail
          refine (concat_lit w5 x [] _ (by simp) (ReadsI.void w5 _ 0 (Nat.zero_le _))).mono ?_
          rintro e w6 ⟨u, rfl, hk6, hr⟩
          have K6 := Lib.hid (K5.out.trans hk6)
          have R6 := Lib.hid hr
          clear hk6 hr
          go_wp2_with fail
          go_ret2
          exact ⟨u, by simp [oneL, hk], K6.out, fun l hl => by simp [oneL, hk] at hl; subst hl; exact R6.out⟩
        · have HRT := Lib.hid (GH5.out.rest hcp)
          go_wp2_with fail
          refine (concat_lit w5 x t _ (by omega) HRT.out).mono ?_
          rintro e w6 ⟨u, rfl, hk6, hr⟩
          have K6 := Lib.hid (K5.out.trans hk6)
          have R6 := Lib.hid hr
          clear hk6 hr
          go_wp2_with fail
          go_ret2
          exact ⟨u, by simp [oneL, hk], K6.out, fun l hl => by simp [oneL, hk] at hl; subst hl; exact R6.out⟩
      · have hk2 : (kindL ks x != kindL ks a) = true := bne_iff_ne.2 hk
        go_wp2_with fail
        go_ret2
        exact ⟨.slice none 0 0, by simp [oneL, hk], K5.out, fun l hl => by simp [oneL, hk] at hl⟩
    · by_cases k3 : k = 3
      · subst k3
        clear k1 k2
        have hbh := Lib.hid (below_has (kindL ks x) (kindL ks a))
        go_wp2_with fail
        refine (onto_any _ _).mono ?_
        rintro e w6 ⟨rfl, hk6⟩
        have K6 := Lib.hid (K5.out.trans hk6)
        have GH6 := Lib.hid (GH5.out.keeps hk6)
        have Z1 : Hid (w6.cell? ⟨N, 1, none⟩ = some (.int .i64 x)) := Lib.hid (by rw [← HC1.out]; exact World.cell?_of_block (hk6.block _ (World.block_lt_of_cell? w5 _ HC1.out) id))
        clear hk6 GH5 HC0 HC1 C0 C1 K5 GK5
        go_wp2_with fail
        refine (has_any _ _ _).mono ?_
        rintro e w7 ⟨rfl, hk7⟩
        rw [hbh.out]
        have K7 := Lib.hid (K6.out.trans hk7)
        have GH7 := Lib.hid (GH6.out.keeps hk7)
        have z1 : w7.cell? ⟨N, 1, none⟩ = some (.int .i64 x) := by rw [← Z1.out]; exact World.cell?_of_block (hk7.block _ (World.block_lt_of_cell? w6 _ Z1.out) id)
        clear hk7 GH6 K6 Z1 hbh
        cases hm : mayL (kindL ks x) (kindL ks a)
        · go_wp2_with fail
          go_ret2
          exact ⟨.slice none 0 0, by simp [oneL, hm], K7.out, fun l hl => by simp [oneL, hm] at hl⟩
        · go_wp2_with fail
          refine (concat_lit w7 x (a :: t) _ (by simp; omega) GH7.out).mono ?_
          rintro e w8 ⟨u, rfl, hk8, hr⟩
          have K8 := Lib.hid (K7.out.trans hk8)
          have R8 := Lib.hid hr
          clear hk8 hr
          go_wp2_with fail
          go_ret2
          exact ⟨u, by simp [oneL, hm], K8.out, fun l hl => by simp [oneL, hm] at hl; subst hl; exact R8.out⟩
      · have q1 : (k == 1) = false := beq_eq_false_iff_ne.2 k1
        have q2 : (k == 2) = false := beq_eq_false_iff_ne.2 k2
        have q3 : (k == 3) = false := beq_eq_false_iff_ne.2 k3
        go_wp2_with fail
        go_ret2
        exact ⟨.slice none 0 0, by simp [oneL, k1, k2, k3], K5.out, fun l hl => by simp [oneL, k1, k2, k3] at hl⟩
end Go.Proofs.YtdhcnmljkmodhaaDoor
