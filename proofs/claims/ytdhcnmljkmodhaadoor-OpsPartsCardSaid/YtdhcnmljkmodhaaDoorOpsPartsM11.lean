/- Merged for the claim, in build order: Ops15, Ops16, Ops17, OpsParts. -/
import Derived.Test.YtdhcnmljkmodhaaDoorOpsPartsM10
import Derived.Test.YtdhcnmljkmodhaaDoorOpsPartsM3
import Derived.Test.YtdhcnmljkmodhaaDoorOpsPartsM2
import Derived.Test.YtdhcnmljkmodhaaDoorOpsPartsM6
/- fairleadref10.Do: the walk; what it comes to is what ops.Do comes to. (Printed by gen_ops15.py.) -/
namespace Go.Proofs.YtdhcnmljkmodhaaDoor
set_option linter.unusedSectionVars false
set_option linter.unusedVariables false
set_option linter.unusedSimpArgs false
set_option maxRecDepth 20000
open Go.RowKit

/-- An op done by the document's words, whatever comes of it. -/
def nextR (ks : List Int) : List Int → Int → Int → Option (List Int)
  | [], _, _ => none
  | a :: t, k, x => if k = 1 then some t else if k = 2 then (if kindL ks x = kindL ks a then some (x :: t) else none) else if k = 3 then some (x :: a :: t) else none
def chainR (ks : List Int) : List Int → List (Int × Int) → Option (List Int)
  | h, [] => some h
  | h, o :: r => match nextR ks h o.1 o.2 with
    | none => none
    | some n => if validL ks n then chainR ks n r else none
def refDoL (ks h : List Int) (c : List (Int × Int)) : Option (List Int) := if validL ks h then chainR ks h c else none
theorem oneL_next (ks : List Int) (h : List Int) (k x : Int) (hv : validL ks h = true) : oneL ks h k x = (nextR ks h k x).filter (validL ks) := by
  cases h with
  | nil => cases hv
  | cons a t =>
    unfold oneL nextR
    simp only
    by_cases h1 : k = 1
    · rw [if_pos h1, if_pos h1]
      cases t with
      | nil => rfl
      | cons b r =>
        have : validL ks (b :: r) = true := by
          simp only [validL, Bool.and_eq_true] at hv
          exact hv.2
        simp [Option.filter, this]
    · rw [if_neg h1, if_neg h1]
      by_cases h2 : k = 2
      · rw [if_pos h2, if_pos h2]
        by_cases hk : kindL ks x = kindL ks a
        · rw [if_pos hk]
          have : validL ks (x :: t) = true := by
            cases t with
            | nil => simp only [validL] at hv ⊢; rw [hk]; exact hv
            | cons b r => simp only [validL] at hv ⊢; rw [hk]; exact hv
          simp [Option.filter, this]
        · rw [if_neg hk]; rfl
      · rw [if_neg h2, if_neg h2]
        by_cases h3 : k = 3
        · rw [if_pos h3, if_pos h3]
          have : validL ks (x :: a :: t) = mayL (kindL ks x) (kindL ks a) := by
            simp only [validL, hv, Bool.and_true]
            cases hm : mayL (kindL ks x) (kindL ks a) with
            | false => simp
            | true =>
              have := (mayL_iff _ _).1 hm
              simp only [Bool.and_true, bne_iff_ne, ne_eq]
              omega
          cases hm : mayL (kindL ks x) (kindL ks a) with
          | false => simp [Option.filter, this, hm]
          | true => simp [Option.filter, this, hm]
        · rw [if_neg h3, if_neg h3]; rfl
theorem chainL_chainR (ks : List Int) : ∀ (c : List (Int × Int)) (h : List Int), validL ks h = true → chainL ks h c = chainR ks h c
  | [], h, _ => rfl
  | o :: r, h, hv => by
    unfold chainL chainR
    rw [oneL_next ks h _ _ hv]
    cases nextR ks h o.1 o.2 with
    | none => rfl
    | some n =>
      cases hn : validL ks n with
      | false => simp [Option.filter, hn]
      | true => simp [Option.filter, hn]; exact chainL_chainR ks r n hn
theorem refDo_eq (ks h : List Int) (c : List (Int × Int)) : refDoL ks h c = doL ks h c := by
  unfold refDoL doL
  split
  · exact (chainL_chainR ks c h (by assumption)).symm
  · rfl
theorem chainR_step (ks h : List Int) (c : List (Int × Int)) (k : Nat) (hk : k < c.length) : chainR ks h (c.drop k) = match nextR ks h c[k].1 c[k].2 with
    | none => none
    | some n => if validL ks n then chainR ks n (c.drop (k + 1)) else none := by
  rw [List.drop_eq_getElem_cons hk]; rfl
theorem nextR_len {ks h n : List Int} {k x : Int} (e : nextR ks h k x = some n) : n.length ≤ h.length + 1 := by
  cases h with
  | nil => cases e
  | cons a t =>
    have e2 : nextR ks (a :: t) k x = if k = 1 then some t else if k = 2 then (if kindL ks x = kindL ks a then some (x :: t) else none) else if k = 3 then some (x :: a :: t) else none := rfl
    rw [e2] at e
    by_cases h1 : k = 1
    · rw [if_pos h1] at e; obtain rfl := Option.some.inj e; simp <;> omega
    · rw [if_neg h1] at e
      by_cases h2 : k = 2
      · rw [if_pos h2] at e
        by_cases hk : kindL ks x = kindL ks a
        · rw [if_pos hk] at e; obtain rfl := Option.some.inj e; simp
        · rw [if_neg hk] at e; cases e
      · rw [if_neg h2] at e
        by_cases h3 : k = 3
        · rw [if_pos h3] at e; obtain rfl := Option.some.inj e; simp
        · rw [if_neg h3] at e; cases e
/-- What the loop knows ahead of round k. -/
structure RdInv (w : World) (ks h : List Int) (c : List (Int × Int)) (k : Nat) (h' : List Int) (v : Value) (wr : World) : Prop where
  rd : ReadsI wr v h'
  same : refDoL ks h c = chainR ks h' (c.drop k)
  may : validL ks h' = true
  len : h'.length ≤ h.length + k
  keep : Keeps w wr (fun _ => False)

set_option maxHeartbeats 8000000 in
theorem refdo_any (w : World) (vk vh vc : Value) (ks h : List Int) (c : List (Int × Int)) (hl : h.length + c.length ≤ 1000) (Hk : ReadsI w vk ks) (Hh : ReadsI w vh h) (Hc : RdO w vc c) :
    Calls Tryd.prog 15 #[vk, vh, vc] w (DoPost w (refDoL ks h c)) := by
  obtain ⟨i0, hi0, hz0, hs0, hb0⟩ := infoInt'
  have II := Lib.hid hi0
  have IZ := Lib.hid hz0
  have IS := Lib.hid hs0
  have IB := Lib.hid hb0
  obtain ⟨ac, capc, rfl, _, hmc⟩ := Hc.form
  have GK := Lib.hid Hk
  have GH := Lib.hid Hh
  have GC := Lib.hid Hc
  clear Hk Hh Hc hmc hi0 hz0 hs0 hb0
  go_enter Tryd.func15, Tryd.ntmps15
  go_wp2_with fail
  refine (refvalid_any w vk vh ks h GK.out GH.out).mono ?_
  rintro e w1 ⟨rfl, hk1⟩
  have K1 := Lib.hid hk1
  clear hk1
  cases hv : validL ks h with
  | false =>
    go_wp2_with fail
    go_ret2
    exact ⟨.slice none 0 0, by simp [refDoL, hv], K1.out, by simp [refDoL, hv]; exact readsNil _⟩
  | true =>
    have HV := Lib.hid hv
    have R1 := Lib.hid (GH.out.keeps K1.out)
    have HS0 : Hid (refDoL ks h c = chainR ks h (c.drop 0)) := Lib.hid (by unfold refDoL; rw [if_pos HV.out]; rfl)
    clear hv
    go_wp2_with fail
    go_loopw [1, 18] (fun v ti wr => ∃ (k : Nat) (h' : List Int), ti = .int .i64 k ∧ k ≤ c.length ∧ RdInv w ks h c k h' v wr) (fun _ ti _ => c.length - (intOf ti).toNat)
    case atStart => exact ⟨0, h, rfl, Nat.zero_le _, R1.out, HS0.out, HV.out, Nat.le_refl _, K1.out⟩
    case round =>
      obtain ⟨k, h', rfl, hk, inv⟩ := hrel
      have I := Lib.hid inv
      clear inv R1 K1 HS0 HV GH
      by_cases hlt : k < c.length
      · obtain ⟨g, off, rfl, hg, hc⟩ := (GC.out.keeps I.out.keep).cell k hlt
        have hc0 := (hc k hlt).1
        have hc1 := (hc k hlt).2
        obtain ⟨a, t, e1⟩ := List.exists_cons_of_ne_nil (validL_ne I.out.may)
        subst e1
        have HS := Lib.hid (chainR_step ks (a :: t) c k hlt)
        have hle := I.out.len
        simp only [List.length_cons] at hle
        clear hc
        generalize c[k].1 = ok at *
        generalize c[k].2 = ox at *
        obtain ⟨ah, caph, e1, hch, hmh⟩ := I.out.rd.form
        subst e1
        obtain ⟨gh, offh, e1, hgh, hcell⟩ := I.out.rd.cell 0 (by simp)
        subst e1
        have hcl : wr.cell? ⟨gh, offh, none⟩ = some (.int .i64 a) := hcell 0 (by simp)
        have KA : Hid (Keeps w (wr.alloc (.cells #[.int .i64 ok, .int .i64 ox] 47)) (fun _ => False)) := Lib.hid (I.out.keep.alloc _)
        have KB : Hid (Keeps wr (wr.alloc (.cells #[.int .i64 ok, .int .i64 ox] 47)) (fun _ => False)) := Lib.hid ((Keeps.refl wr _).alloc _)
        have RA := Lib.hid (I.out.rd.keeps KB.out)
        have BA := Lib.hid (heap_alloc_new wr (.cells #[.int .i64 ok, .int .i64 ox] 47))
        have hcw : (wr.alloc (.cells #[.int .i64 ok, .int .i64 ox] 47)).cell? ⟨gh, offh, none⟩ = some (.int .i64 a) := by rw [← hcl]; exact World.cell?_of_block (KB.out.block _ hgh id)
        have HCW := Lib.hid hcw
        have hbb : (0 : Int) < ((t.length : Int) + 1) := by omega
        clear hcell hcl hmh hch hcw
        go_upto_region 6 with fail
        generalize wr.alloc (.cells #[.int .i64 ok, .int .i64 ox] 47) = W at *
        generalize wr.heap.size = N at *
        go_cut [10] (fun v10 wx => wx = W ∧ wx.ownsRow w.heap.size 3 1 v10 0 [] ∧ v10.ownBlock = none)
        case first =>
          go_wp2_with fail
          go_meet
          exact ⟨rfl, World.ownsRow_nil _ _ _ _, rfl⟩
        obtain ⟨hwc, hown, hnb⟩ := hcut
        have hwc := hwc.symm
        subst hwc
        have O10 := Lib.hid hown
        have OB := Lib.hid hnb
        clear hown hnb
        have y0 : W.cell? ⟨N, 0, none⟩ = some (.int .i64 ok) := by rw [cell_at BA.out]; rfl
        have y1 : W.cell? ⟨N, 1, none⟩ = some (.int .i64 ox) := by rw [cell_at BA.out]; rfl
        clear hc0 hc1
        by_cases k1 : ok = 1
        · subst k1
          by_cases hcp : caph = 1
          · subst hcp
            obtain rfl := RA.out.rest1
            have HRT : Hid (ReadsI W (.slice (some ⟨gh, offh, none⟩) 0 0) []) := Lib.hid (ReadsI.void W _ 0 (Nat.zero_le _))
            go_wp2_with (at_builtin; refine wpList_append_any rfl (.tmp 25) (.tmp 27) 22 22 rfl 3 i0 _ 1 8 Tryd.underlying22 II.out IZ.out IS.out IB.out rfl w.heap.size _ 0 [] rfl O10.out _ 0 (([] : List Int).map (Value.int .i64)) rfl (Src.ofReadsI HRT.out) (by unfold maxLen; omega) (by omega) KA.out.size ?_)
            intro v5 w5 D
            have O5 : Hid (w5.ownsRow w.heap.size 3 1 v5 0 (([] : List Int).map (Value.int .i64))) := Lib.hid (by have h := D.own; simpa [Nat.add_comm] using h)
            have K5 : Hid (Keeps w w5 (fun _ => False)) := Lib.hid (KA.out.grown D.grown (fun k hk hlt => by have := (own_block_ge O10.out k hk).1; omega))
            have K44 : Hid (Keeps _ w5 (fun _ => False)) := Lib.hid ((Keeps.refl _ _).grown D.grown (fun k hk => by rw [OB.out] at hk; cases hk))
            clear D
            have HN : Hid (nextR ks (a :: ([] : List Int)) 1 ox = some []) := Lib.hid (rfl)
            go_wp2_with fail
            refine (refvalid_any _ _ _ ks [] (GK.out.keeps K5.out) (ReadsI.ofOwn (by simp <;> omega) O5.out)).mono ?_
            rintro e w6 ⟨rfl, hk6⟩
            have K6 := Lib.hid (K5.out.trans hk6)
            have R6 : Hid (ReadsI w6 _ []) := Lib.hid ((ReadsI.ofOwn (by simp <;> omega) O5.out).keeps hk6)
            have HL := Lib.hid (nextR_len HN.out)
            clear hk6 K5 O5
            cases hv : validL ks [] with
            | false =>
              have HF : Hid (refDoL ks h c = none) := Lib.hid (by rw [I.out.same, HS.out, HN.out]; simp only; rw [hv]; rfl)
              clear hv
              go_wp2_with fail
              go_ret2
              exact ⟨.slice none 0 0, by rw [HF.out]; rfl, K6.out, by rw [HF.out]; exact readsNil _⟩
            | true =>
              have HV := Lib.hid hv
              have HS2 : Hid (refDoL ks h c = chainR ks [] (c.drop (k + 1))) := Lib.hid (by rw [I.out.same, HS.out, HN.out]; simp only; rw [hv]; rfl)
              clear hv
              go_wp2_with fail
              go_roundw
              case rel =>
                refine ⟨k + 1, [], by go_num, by omega, R6.out, HS2.out, HV.out, ?_, K6.out⟩
                have h1 := HL.out
                have h2 := I.out.len
                omega
              case measure => simp [intOf]; omega
          · have HRT := Lib.hid (RA.out.rest hcp)
            go_wp2_with (at_builtin; refine wpList_append_any rfl (.tmp 25) (.tmp 27) 22 22 rfl 3 i0 _ 1 8 Tryd.underlying22 II.out IZ.out IS.out IB.out rfl w.heap.size _ 0 [] rfl O10.out _ t.length (t.map (Value.int .i64)) rfl (Src.ofReadsI HRT.out) (by unfold maxLen; omega) (by omega) KA.out.size ?_)
            intro v5 w5 D
            have O5 : Hid (w5.ownsRow w.heap.size 3 1 v5 t.length (t.map (Value.int .i64))) := Lib.hid (by have h := D.own; simpa [Nat.add_comm] using h)
            have K5 : Hid (Keeps w w5 (fun _ => False)) := Lib.hid (KA.out.grown D.grown (fun k hk hlt => by have := (own_block_ge O10.out k hk).1; omega))
            have K44 : Hid (Keeps _ w5 (fun _ => False)) := Lib.hid ((Keeps.refl _ _).grown D.grown (fun k hk => by rw [OB.out] at hk; cases hk))
            clear D
            have HN : Hid (nextR ks (a :: t) 1 ox = some t) := Lib.hid (rfl)
            go_wp2_with fail
            refine (refvalid_any _ _ _ ks t (GK.out.keeps K5.out) (ReadsI.ofOwn (by simp <;> omega) O5.out)).mono ?_
            rintro e w6 ⟨rfl, hk6⟩
            have K6 := Lib.hid (K5.out.trans hk6)
            have R6 : Hid (ReadsI w6 _ t) := Lib.hid ((ReadsI.ofOwn (by simp <;> omega) O5.out).keeps hk6)
            have HL := Lib.hid (nextR_len HN.out)
            clear hk6 K5 O5
            cases hv : validL ks t with
            | false =>
              have HF : Hid (refDoL ks h c = none) := Lib.hid (by rw [I.out.same, HS.out, HN.out]; simp only; rw [hv]; rfl)
              clear hv
              go_wp2_with fail
              go_ret2
              exact ⟨.slice none 0 0, by rw [HF.out]; rfl, K6.out, by rw [HF.out]; exact readsNil _⟩
            | true =>
              have HV := Lib.hid hv
              have HS2 : Hid (refDoL ks h c = chainR ks t (c.drop (k + 1))) := Lib.hid (by rw [I.out.same, HS.out, HN.out]; simp only; rw [hv]; rfl)
              clear hv
              go_wp2_with fail
              go_roundw
              case rel =>
                refine ⟨k + 1, t, by go_num, by omega, R6.out, HS2.out, HV.out, ?_, K6.out⟩
                have h1 := HL.out
                have h2 := I.out.len
                omega
              case measure => simp [intOf]; omega
        · by_cases k2 : ok = 2
          · subst k2
            clear k1
            go_upto_region 10 with fail
            have x1 : ∀ x' : Cls W, x'.w.cell? ⟨N, 1, none⟩ = some (.int .i64 ox) := Cls.cell y1
            have xa : ∀ x' : Cls W, x'.w.cell? ⟨gh, offh, none⟩ = some (.int .i64 a) := Cls.cell HCW.out
            have HKW : Hid (∀ x : Cls W, ReadsI x.w vk ks) := Lib.hid (fun x => (GK.out.keeps KA.out).keeps x.keep)
            have Y1 := Lib.hid y1
            clear y0 y1
            refine wp_region_cls (by kernel_rfl) (by kernel_rfl) ?_
            repeat (go_big_quiet_step ((first | (go_at_call 24; exact cls_call_same (refkind_any _ _ ks _ (HKW.out _))))))
            refine wpQuiet_nil ?_
            rintro _ ⟨x5, rfl⟩
            have KX := Lib.hid (KA.out.trans x5.keep)
            have C1 := Cls.cell Y1.out x5
            have RX := Lib.hid (RA.out.keeps x5.keep)
            have OX := Lib.hid (own_keeps O10.out x5.keep (fun j hj => hj.elim))
            clear x1 xa HKW KA KB RA HCW Y1 BA O10
            generalize x5.w = V at *
            have HC1 := Lib.hid C1
            by_cases hkk : kindL ks ox = kindL ks a
            · have hk2 : (kindL ks ox != kindL ks a) = false := by simp [hkk]
              have HKK := Lib.hid hkk
              clear hkk
              have KL : Hid (Keeps V (V.alloc (.cells #[.int .i64 ox] 3)) (fun _ => False)) := Lib.hid ((Keeps.refl V _).alloc _)
              have KVL := Lib.hid (KX.out.trans KL.out)
              have OL := Lib.hid (own_keeps OX.out KL.out (fun j hj => hj.elim))
              have RL : Hid (ReadsI (V.alloc (.cells #[.int .i64 ox] 3)) (.slice (some ⟨V.heap.size, 0, none⟩) 1 1) [ox]) := Lib.hid (ReadsI.lit V [ox] 3 (by simp))
              have RY := Lib.hid (RX.out.keeps KL.out)
              go_wp2_with (at_builtin; refine wpList_append_any rfl (.tmp 42) (.tmp 45) 22 22 rfl 3 i0 _ 1 8 Tryd.underlying22 II.out IZ.out IS.out IB.out rfl w.heap.size _ 0 [] rfl OL.out _ 1 ([ox].map (Value.int .i64)) rfl (Src.ofReadsI RL.out) (by unfold maxLen; omega) (by omega) KVL.out.size ?_)
              intro v4 w4 D
              have O4 : Hid (w4.ownsRow w.heap.size 3 1 v4 ([ox] : List Int).length (([ox] : List Int).map (Value.int .i64))) := Lib.hid (by have h := D.own; simpa [Nat.add_comm] using h)
              have K4 : Hid (Keeps w w4 (fun _ => False)) := Lib.hid (KVL.out.grown D.grown (fun k hk hlt => by have := (own_block_ge OL.out k hk).1; omega))
              have K44 : Hid (Keeps _ w4 (fun _ => False)) := Lib.hid ((Keeps.refl _ _).grown D.grown (fun k hk => by rw [OB.out] at hk; cases hk))
              clear D
              have RZ : Hid (ReadsI w4 (.slice (some ⟨gh, offh, none⟩) (a :: t).length caph) (a :: t)) := Lib.hid (RY.out.keeps K44.out)
              clear RX RY RL KVL KL
              by_cases hcp : caph = 1
              · subst hcp
                obtain rfl := RZ.out.rest1
                have HRT : Hid (ReadsI w4 (.slice (some ⟨gh, offh, none⟩) 0 0) []) := Lib.hid (ReadsI.void w4 _ 0 (Nat.zero_le _))
                go_wp2_with (at_builtin; refine wpList_append_any rfl (.tmp 47) (.tmp 49) 22 22 rfl 3 i0 _ 1 8 Tryd.underlying22 II.out IZ.out IS.out IB.out rfl w.heap.size _ 1 ([ox].map (Value.int .i64)) rfl O4.out _ 0 (([] : List Int).map (Value.int .i64)) rfl (Src.ofReadsI HRT.out) (by unfold maxLen; omega) (by omega) K4.out.size ?_)
                intro v5 w5 D
                have O5 : Hid (w5.ownsRow w.heap.size 3 1 v5 (ox :: ([] : List Int)).length ((ox :: ([] : List Int)).map (Value.int .i64))) := Lib.hid (by have h := D.own; simpa [Nat.add_comm] using h)
                have K5 : Hid (Keeps w w5 (fun _ => False)) := Lib.hid (K4.out.grown D.grown (fun k hk hlt => by have := (own_block_ge O4.out k hk).1; omega))
                clear D
                have HN : Hid (nextR ks (a :: ([] : List Int)) 2 ox = some (ox :: ([] : List Int))) := Lib.hid (by unfold nextR; simp only; rw [if_neg (by decide), if_pos trivial, if_pos HKK.out])
                go_wp2_with fail
                refine (refvalid_any _ _ _ ks (ox :: ([] : List Int)) (GK.out.keeps K5.out) (ReadsI.ofOwn (by simp <;> omega) O5.out)).mono ?_
                rintro e w6 ⟨rfl, hk6⟩
                have K6 := Lib.hid (K5.out.trans hk6)
                have R6 : Hid (ReadsI w6 _ (ox :: ([] : List Int))) := Lib.hid ((ReadsI.ofOwn (by simp <;> omega) O5.out).keeps hk6)
                have HL := Lib.hid (nextR_len HN.out)
                clear hk6 K5 O5
                cases hv : validL ks (ox :: ([] : List Int)) with
                | false =>
                  have HF : Hid (refDoL ks h c = none) := Lib.hid (by rw [I.out.same, HS.out, HN.out]; simp only; rw [hv]; rfl)
                  clear hv
                  go_wp2_with fail
                  go_ret2
                  exact ⟨.slice none 0 0, by rw [HF.out]; rfl, K6.out, by rw [HF.out]; exact readsNil _⟩
                | true =>
                  have HV := Lib.hid hv
                  have HS2 : Hid (refDoL ks h c = chainR ks (ox :: ([] : List Int)) (c.drop (k + 1))) := Lib.hid (by rw [I.out.same, HS.out, HN.out]; simp only; rw [hv]; rfl)
                  clear hv
                  go_wp2_with fail
                  go_roundw
                  case rel =>
                    refine ⟨k + 1, (ox :: ([] : List Int)), by go_num, by omega, R6.out, HS2.out, HV.out, ?_, K6.out⟩
                    have h1 := HL.out
                    have h2 := I.out.len
                    omega
                  case measure => simp [intOf]; omega
              · have HRT := Lib.hid (RZ.out.rest hcp)
                go_wp2_with (at_builtin; refine wpList_append_any rfl (.tmp 47) (.tmp 49) 22 22 rfl 3 i0 _ 1 8 Tryd.underlying22 II.out IZ.out IS.out IB.out rfl w.heap.size _ 1 ([ox].map (Value.int .i64)) rfl O4.out _ t.length (t.map (Value.int .i64)) rfl (Src.ofReadsI HRT.out) (by unfold maxLen; omega) (by omega) K4.out.size ?_)
                intro v5 w5 D
                have O5 : Hid (w5.ownsRow w.heap.size 3 1 v5 (ox :: t).length ((ox :: t).map (Value.int .i64))) := Lib.hid (by have h := D.own; simpa [Nat.add_comm] using h)
                have K5 : Hid (Keeps w w5 (fun _ => False)) := Lib.hid (K4.out.grown D.grown (fun k hk hlt => by have := (own_block_ge O4.out k hk).1; omega))
                clear D
                have HN : Hid (nextR ks (a :: t) 2 ox = some (ox :: t)) := Lib.hid (by unfold nextR; simp only; rw [if_neg (by decide), if_pos trivial, if_pos HKK.out])
                go_wp2_with fail
                refine (refvalid_any _ _ _ ks (ox :: t) (GK.out.keeps K5.out) (ReadsI.ofOwn (by simp <;> omega) O5.out)).mono ?_
                rintro e w6 ⟨rfl, hk6⟩
                have K6 := Lib.hid (K5.out.trans hk6)
                have R6 : Hid (ReadsI w6 _ (ox :: t)) := Lib.hid ((ReadsI.ofOwn (by simp <;> omega) O5.out).keeps hk6)
                have HL := Lib.hid (nextR_len HN.out)
                clear hk6 K5 O5
                cases hv : validL ks (ox :: t) with
                | false =>
                  have HF : Hid (refDoL ks h c = none) := Lib.hid (by rw [I.out.same, HS.out, HN.out]; simp only; rw [hv]; rfl)
                  clear hv
                  go_wp2_with fail
                  go_ret2
                  exact ⟨.slice none 0 0, by rw [HF.out]; rfl, K6.out, by rw [HF.out]; exact readsNil _⟩
                | true =>
                  have HV := Lib.hid hv
                  have HS2 : Hid (refDoL ks h c = chainR ks (ox :: t) (c.drop (k + 1))) := Lib.hid (by rw [I.out.same, HS.out, HN.out]; simp only; rw [hv]; rfl)
                  clear hv
                  go_wp2_with fail
                  go_roundw
                  case rel =>
                    refine ⟨k + 1, (ox :: t), by go_num, by omega, R6.out, HS2.out, HV.out, ?_, K6.out⟩
                    have h1 := HL.out
                    have h2 := I.out.len
                    omega
                  case measure => simp [intOf]; omega
            · have hk2 : (kindL ks ox != kindL ks a) = true := by simp [hkk]
              have HF : Hid (refDoL ks h c = none) := Lib.hid (by rw [I.out.same, HS.out]; unfold nextR; simp only; rw [if_neg (by decide), if_pos trivial, if_neg hkk])
              clear hkk
              go_wp2_with fail
              go_ret2
              exact ⟨.slice none 0 0, by rw [HF.out]; rfl, KX.out, by rw [HF.out]; exact readsNil _⟩
          · by_cases k3 : ok = 3
            · subst k3
              clear k1 k2
              have KL : Hid (Keeps W (W.alloc (.cells #[.int .i64 ox] 3)) (fun _ => False)) := Lib.hid ((Keeps.refl W _).alloc _)
              have KVL := Lib.hid (KA.out.trans KL.out)
              have OL := Lib.hid (own_keeps O10.out KL.out (fun j hj => hj.elim))
              have RL : Hid (ReadsI (W.alloc (.cells #[.int .i64 ox] 3)) (.slice (some ⟨W.heap.size, 0, none⟩) 1 1) [ox]) := Lib.hid (ReadsI.lit W [ox] 3 (by simp))
              have RY := Lib.hid (RA.out.keeps KL.out)
              go_wp2_with (at_builtin; refine wpList_append_any rfl (.tmp 54) (.tmp 57) 22 22 rfl 3 i0 _ 1 8 Tryd.underlying22 II.out IZ.out IS.out IB.out rfl w.heap.size _ 0 [] rfl OL.out _ 1 ([ox].map (Value.int .i64)) rfl (Src.ofReadsI RL.out) (by unfold maxLen; omega) (by omega) KVL.out.size ?_)
              intro v4 w4 D
              have O4 : Hid (w4.ownsRow w.heap.size 3 1 v4 ([ox] : List Int).length (([ox] : List Int).map (Value.int .i64))) := Lib.hid (by have h := D.own; simpa [Nat.add_comm] using h)
              have K4 : Hid (Keeps w w4 (fun _ => False)) := Lib.hid (KVL.out.grown D.grown (fun k hk hlt => by have := (own_block_ge OL.out k hk).1; omega))
              have K44 : Hid (Keeps _ w4 (fun _ => False)) := Lib.hid ((Keeps.refl _ _).grown D.grown (fun k hk => by rw [OB.out] at hk; cases hk))
              clear D
              have RZ : Hid (ReadsI w4 (.slice (some ⟨gh, offh, none⟩) (a :: t).length caph) (a :: t)) := Lib.hid (RY.out.keeps K44.out)
              clear RY RL KVL KL
              go_wp2_with (at_builtin; refine wpList_append_any rfl (.tmp 59) (.tmp 60) 22 22 rfl 3 i0 _ 1 8 Tryd.underlying22 II.out IZ.out IS.out IB.out rfl w.heap.size _ 1 ([ox].map (Value.int .i64)) rfl O4.out _ (t.length + 1) ((a :: t).map (Value.int .i64)) rfl (Src.ofReadsI RZ.out) (by unfold maxLen; omega) (by omega) K4.out.size ?_)
              intro v5 w5 D
              have O5 : Hid (w5.ownsRow w.heap.size 3 1 v5 (ox :: a :: t).length ((ox :: a :: t).map (Value.int .i64))) := Lib.hid (by have h := D.own; simpa [Nat.add_comm] using h)
              have K5 : Hid (Keeps w w5 (fun _ => False)) := Lib.hid (K4.out.grown D.grown (fun k hk hlt => by have := (own_block_ge O4.out k hk).1; omega))
              clear D
              have HN : Hid (nextR ks (a :: t) 3 ox = some (ox :: a :: t)) := Lib.hid (rfl)
              go_wp2_with fail
              refine (refvalid_any _ _ _ ks (ox :: a :: t) (GK.out.keeps K5.out) (ReadsI.ofOwn (by simp <;> omega) O5.out)).mono ?_
              rintro e w6 ⟨rfl, hk6⟩
              have K6 := Lib.hid (K5.out.trans hk6)
              have R6 : Hid (ReadsI w6 _ (ox :: a :: t)) := Lib.hid ((ReadsI.ofOwn (by simp <;> omega) O5.out).keeps hk6)
              have HL := Lib.hid (nextR_len HN.out)
              clear hk6 K5 O5
              cases hv : validL ks (ox :: a :: t) with
              | false =>
                have HF : Hid (refDoL ks h c = none) := Lib.hid (by rw [I.out.same, HS.out, HN.out]; simp only; rw [hv]; rfl)
                clear hv
                go_wp2_with fail
                go_ret2
                exact ⟨.slice none 0 0, by rw [HF.out]; rfl, K6.out, by rw [HF.out]; exact readsNil _⟩
              | true =>
                have HV := Lib.hid hv
                have HS2 : Hid (refDoL ks h c = chainR ks (ox :: a :: t) (c.drop (k + 1))) := Lib.hid (by rw [I.out.same, HS.out, HN.out]; simp only; rw [hv]; rfl)
                clear hv
                go_wp2_with fail
                go_roundw
                case rel =>
                  refine ⟨k + 1, (ox :: a :: t), by go_num, by omega, R6.out, HS2.out, HV.out, ?_, K6.out⟩
                  have h1 := HL.out
                  have h2 := I.out.len
                  omega
                case measure => simp [intOf]; omega
            · have q1 : (ok == 1) = false := beq_eq_false_iff_ne.2 k1
              have q2 : (ok == 2) = false := beq_eq_false_iff_ne.2 k2
              have q3 : (ok == 3) = false := beq_eq_false_iff_ne.2 k3
              have HF : Hid (refDoL ks h c = none) := Lib.hid (by rw [I.out.same, HS.out]; unfold nextR; simp only; rw [if_neg k1, if_neg k2, if_neg k3])
              go_wp2_with fail
              go_ret2
              exact ⟨.slice none 0 0, by rw [HF.out]; rfl, KA.out, by rw [HF.out]; exact readsNil _⟩
      · have hk' : k = c.length := by omega
        subst hk'
        have HF : Hid (refDoL ks h c = some h') := Lib.hid (by rw [I.out.same, List.drop_eq_nil_of_le (Nat.le_refl _)]; rfl)
        have hle := I.out.len
        have KI := Lib.hid I.out.keep
        have RI := Lib.hid I.out.rd
        go_wp2_with (at_builtin; refine wpList_append_any rfl (.tmp 68) (.tmp 69) 22 22 rfl 3 i0 _ 1 8 Tryd.underlying22 II.out IZ.out IS.out IB.out rfl w.heap.size _ 0 [] rfl (World.ownsRow_nil _ _ _ _) _ h'.length (h'.map (Value.int .i64)) rfl (Src.ofReadsI RI.out) (by unfold maxLen; omega) (by omega) KI.out.size ?_)
        intro v5 w5 D
        have O5 : Hid (w5.ownsRow w.heap.size 3 1 v5 h'.length (h'.map (Value.int .i64))) := Lib.hid (by have h := D.own; simpa using h)
        have K5 : Hid (Keeps w w5 (fun _ => False)) := Lib.hid (KI.out.grown D.grown (fun k hk => by cases hk))
        clear D
        go_wp2_with fail
        go_ret2
        exact ⟨v5, by rw [HF.out]; rfl, K5.out, by rw [HF.out]; exact ReadsI.ofOwn rfl O5.out⟩
end Go.Proofs.YtdhcnmljkmodhaaDoor

/- fairleadlaw10.light; chains that came in, opened. (Printed by gen_ops16.py.) -/
namespace Go.Proofs.YtdhcnmljkmodhaaDoor
set_option linter.unusedSectionVars false
set_option linter.unusedVariables false
set_option linter.unusedSimpArgs false
set_option maxRecDepth 20000
open Go.RowKit Go.ChangeShapes Go.WideShapes

def lightL (ks h : List Int) (c : List (Int × Int)) : Bool := decide (ks.length ≤ 100) && (decide (h.length ≤ 40) && decide (c.length ≤ 20))
theorem lightL_iff (ks h : List Int) (c : List (Int × Int)) : lightL ks h c = true ↔ ks.length ≤ 100 ∧ h.length ≤ 40 ∧ c.length ≤ 20 := by simp [lightL]
theorem light_any (w : World) (vk vh vc : Value) (ks h : List Int) (c : List (Int × Int)) (Hk : ReadsI w vk ks) (Hh : ReadsI w vh h) (Hc : RdO w vc c) :
    Calls Tryd.prog 8 #[vk, vh, vc] w fun e w' => e = .returned (.bool (lightL ks h c)) ∧ w = w' := by
  obtain ⟨ak, capk, rfl, _, _⟩ := Hk.form
  obtain ⟨ah, caph, rfl, _, _⟩ := Hh.form
  obtain ⟨ac, capc, rfl, _, _⟩ := Hc.form
  clear Hk Hh Hc
  by_cases h1 : ks.length ≤ 100
  · have b1 : (ks.length : Int) ≤ 100 := by omega
    by_cases h2 : h.length ≤ 40
    · have b2 : (h.length : Int) ≤ 40 := by omega
      by_cases h3 : c.length ≤ 20
      · have b3 : (c.length : Int) ≤ 20 := by omega
        have HL : Hid (lightL ks h c = true) := Lib.hid ((lightL_iff ks h c).2 ⟨h1, h2, h3⟩)
        clear h1 h2 h3
        go_enter Tryd.func8, Tryd.ntmps8
        go_wp2_with fail
        go_ret
        exact ⟨by rw [HL.out]; rfl, rfl⟩
      · have b3 : ¬ (c.length : Int) ≤ 20 := by omega
        have HL : Hid (lightL ks h c = false) := Lib.hid (by simp [lightL, h3])
        clear h1 h2 h3
        go_enter Tryd.func8, Tryd.ntmps8
        go_wp2_with fail
        go_ret
        exact ⟨by rw [HL.out]; rfl, rfl⟩
    · have b2 : ¬ (h.length : Int) ≤ 40 := by omega
      have HL : Hid (lightL ks h c = false) := Lib.hid (by simp [lightL, h2])
      clear h1 h2
      go_enter Tryd.func8, Tryd.ntmps8
      go_wp2_with fail
      go_ret
      exact ⟨by rw [HL.out]; rfl, rfl⟩
  · have b1 : ¬ (ks.length : Int) ≤ 100 := by omega
    have HL : Hid (lightL ks h c = false) := Lib.hid (by simp [lightL, h1])
    clear h1
    go_enter Tryd.func8, Tryd.ntmps8
    go_wp2_with fail
    go_ret
    exact ⟨by rw [HL.out]; rfl, rfl⟩
theorem cellsOp : Tryd.prog.cellsOf 44 = 2 := by kernel_rfl
theorem cells1i (x : Value) (cs : List Value) : (x :: cs).take (Tryd.prog.cellsOf 3) = [x] := by rw [show Tryd.prog.cellsOf 3 = 1 by kernel_rfl]; rfl
theorem open_ops {H : Type} {enc : TypeId × Value → H} {W : World} {sp : Nat → Bool} {hd : Bool} {fuel : Nat} {v : Value} {x : DataW H × List MemPlace} {base : Nat}
    (hv : Value.okWide Tryd.prog W .any base 23 v) (h : DataW.trod enc Tryd.prog W 0 sp hd fuel 23 v.cells.toList = some x) : ∃ l : List (Int × Int), RdO W v l := by
  obtain ⟨a0, len, cap, rfl⟩ := okWide_slice Tryd.underlying23 hv
  obtain ⟨v, l, hv, HA, hR⟩ := open_list opC (fun _ => True) (fun n cs y hl h => by
    match cs, hl with
    | [x0, x1], _ =>
      obtain ⟨y0, y1, m, _, _, t0, t1⟩ := trod_struct2 Tryd.underlying44 h
      obtain ⟨b, e0, _, _⟩ := DataW.trod_int Tryd.underlying3 t0
      obtain ⟨c, e1, _, _⟩ := DataW.trod_int Tryd.underlying3 t1
      simp [cells1i] at e0 e1
      subst e0 e1
      exact ⟨(b, c), rfl, trivial⟩) (fun _ => rfl) Tryd.underlying23 cellsOp (by decide) h
  obtain rfl : Value.slice a0 len cap = v := by simpa [Value.cells] using hv
  exact ⟨l, HA⟩
end Go.Proofs.YtdhcnmljkmodhaaDoor

/- Chains one behind the other. -/
namespace Go.Proofs.YtdhcnmljkmodhaaDoor
set_option linter.unusedSectionVars false
set_option linter.unusedVariables false
set_option linter.unusedSimpArgs false
set_option maxRecDepth 20000
open Go.RowKit

theorem opC_one (l : List (Int × Int)) : ∀ u ∈ l.flatMap opC, u.oneCell' = true := fun u hu => by
  obtain ⟨a, _, ha⟩ := List.mem_flatMap.1 hu
  unfold opC at ha
  simp only [List.mem_cons, List.not_mem_nil, or_false] at ha
  rcases ha with rfl | rfl <;> rfl
theorem concatO (w : World) (a b : List (Int × Int)) (va vb : Value) (t : TypeId) (hl : a.length + b.length ≤ 1000) (Ha : RdO w va a) (Hb : RdO w vb b) :
    Calls Tryd.prog 21 #[.slice (some ⟨w.heap.size, 0, none⟩) 2 2] (w.alloc (.cells #[va, vb] t)) fun e w' => ∃ u, e = .returned u ∧ Keeps w w' (fun _ => False) ∧ RdO w' u (a ++ b) := by
  have hb := heap_alloc_new w (.cells #[va, vb] t)
  have k := (Keeps.refl w (fun _ => False)).alloc (.cells #[va, vb] t)
  refine (concatOp _ a.length b.length _ _ (opC_one a) (opC_one b) hl w.heap.size va vb (ReadsC.keeps Ha k) (ReadsC.keeps Hb k) (by rw [cell_at hb]; rfl) (by rw [cell_at hb]; rfl)).mono ?_
  rintro e w' ⟨u, rfl, hk, hr⟩
  refine ⟨u, rfl, k.trans hk, ?_⟩
  unfold RdO
  rw [List.length_append, List.flatMap_append]
  exact hr
theorem chainL_cons (ks h : List Int) (o : Int × Int) (r : List (Int × Int)) : chainL ks h (o :: r) = match oneL ks h o.1 o.2 with
  | none => none
  | some h' => chainL ks h' r := rfl
theorem chain_app (ks : List Int) : ∀ (a b : List (Int × Int)) (h : List Int), chainL ks h (a ++ b) = (chainL ks h a).bind fun y => chainL ks y b
  | [], b, h => rfl
  | o :: r, b, h => by
    rw [List.cons_append, chainL_cons, chainL_cons]
    cases oneL ks h o.1 o.2 with
    | none => rfl
    | some h' => exact chain_app ks r b h'
/-- What comes of a header that may be may be. -/
theorem chainR_valid (ks : List Int) : ∀ (c : List (Int × Int)) (h y : List Int), validL ks h = true → chainR ks h c = some y → validL ks y = true
  | [], h, y, hv, e => by obtain rfl := Option.some.inj e; exact hv
  | o :: r, h, y, hv, e => by
    unfold chainR at e
    cases hn : nextR ks h o.1 o.2 with
    | none => rw [hn] at e; cases e
    | some n =>
      rw [hn] at e
      simp only at e
      cases hvn : validL ks n with
      | false => rw [hvn] at e; simp at e
      | true => rw [hvn, if_pos rfl] at e; exact chainR_valid ks r n y hvn e
theorem do_valid {ks h : List Int} {c : List (Int × Int)} {y : List Int} (e : doL ks h c = some y) : validL ks h = true ∧ validL ks y = true := by
  rw [← refDo_eq] at e
  unfold refDoL at e
  cases hv : validL ks h with
  | false => rw [hv] at e; simp at e
  | true => rw [hv, if_pos rfl] at e; exact ⟨rfl, chainR_valid ks c h y hv e⟩
theorem do_app (ks h : List Int) (a b : List (Int × Int)) : doL ks h (a ++ b) = match doL ks h a with
    | none => none
    | some y => doL ks y b := by
  cases hy : doL ks h a with
  | none =>
    unfold doL at hy ⊢
    cases hv : validL ks h with
    | false => simp
    | true =>
      rw [hv, if_pos rfl] at hy
      rw [if_pos rfl, chain_app, hy]
      rfl
  | some y =>
    have hv := do_valid hy
    unfold doL at hy ⊢
    rw [hv.1, if_pos rfl] at hy
    rw [hv.1, if_pos rfl, chain_app, hy]
    simp only [hv.2, if_true]
    rfl
theorem chainL_len (ks : List Int) : ∀ (c : List (Int × Int)) (h y : List Int), chainL ks h c = some y → y.length ≤ h.length + c.length
  | [], h, y, e => by obtain rfl := Option.some.inj e; simp
  | o :: r, h, y, e => by
    unfold chainL at e
    cases hn : oneL ks h o.1 o.2 with
    | none => rw [hn] at e; cases e
    | some n =>
      rw [hn] at e
      have h1 := chainL_len ks r n y e
      have h2 := (oneL_len hn).1
      simp only [List.length_cons]
      omega
theorem do_len {ks h : List Int} {c : List (Int × Int)} {y : List Int} (e : doL ks h c = some y) : y.length ≤ h.length + c.length := by
  have hv := do_valid e
  unfold doL at e
  rw [hv.1, if_pos rfl] at e
  exact chainL_len ks c h y e
end Go.Proofs.YtdhcnmljkmodhaaDoor

/- OpsParts: the walk: it answers true at every input. -/
namespace Go.Proofs.YtdhcnmljkmodhaaDoor.opsParts
set_option linter.unusedSectionVars false
set_option linter.unusedVariables false
set_option linter.unusedSimpArgs false
set_option maxRecDepth 20000
open Go.RowKit
set_option maxHeartbeats 4000000 in
theorem walk (w : World) (vk vh va vb : Value) (ks h : List Int) (a b : List (Int × Int)) (Hk : ReadsI w vk ks) (Hh : ReadsI w vh h) (Ha : RdO w va a) (Hb : RdO w vb b) (hT : TabOk w) (hE : ErrT w) :
    Calls Tryd.prog 6 #[vk, vh, va, vb] w fun e w' => e = .returned (.bool true) ∧ Keeps w w' (fun _ => False) := by
  obtain ⟨aa, capa, rfl, _, _⟩ := Ha.form
  obtain ⟨ab, capb, rfl, _, _⟩ := Hb.form
  have GT := Lib.hid hT
  have GE := Lib.hid hE
  have GK := Lib.hid Hk
  have GH := Lib.hid Hh
  have GA := Lib.hid Ha
  have GB := Lib.hid Hb
  clear Hk Hh Ha Hb hT hE
  go_enter Tryd.func6, Tryd.ntmps6
  go_wp2_with fail
  refine (awake10 _ GT.out GE.out).mono ?_
  rintro e w1 ⟨rfl, k1⟩
  have K1 := Lib.hid k1
  clear k1
  go_wp2_with fail
  refine (light_any _ _ _ _ ks h a (GK.out.keeps K1.out) (GH.out.keeps K1.out) (GA.out.keeps K1.out)).mono ?_
  rintro e w2 ⟨rfl, rfl⟩
  cases hb : lightL ks h a with
  | false =>
    go_wp2_with fail
    go_ret
    exact ⟨rfl, K1.out⟩
  | true =>
    have HA := Lib.hid ((lightL_iff ks h a).1 hb)
    clear hb
    go_wp2_with fail
    refine (light_any _ _ _ _ ks h b (GK.out.keeps K1.out) (GH.out.keeps K1.out) (GB.out.keeps K1.out)).mono ?_
    rintro e w2 ⟨rfl, rfl⟩
    cases hb : lightL ks h b with
    | false =>
      go_wp2_with fail
      go_ret
      exact ⟨rfl, K1.out⟩
    | true =>
      have HB := Lib.hid ((lightL_iff ks h b).1 hb)
      clear hb
      go_wp2_with fail
      refine (concatO _ a b _ _ 23 (by have := HA.out; have := HB.out; omega) (GA.out.keeps K1.out) (GB.out.keeps K1.out)).mono ?_
      rintro e w2 ⟨v35, rfl, hk, hr⟩
      have K2 := Lib.hid (K1.out.trans hk)
      have R35 := Lib.hid hr
      clear hk hr
      go_wp2_with fail
      refine (do_any _ _ _ _ ks h (a ++ b) (by have := HA.out; have := HB.out; simp only [List.length_append]; omega) (GK.out.keeps K2.out) (GH.out.keeps K2.out) R35.out).mono ?_
      rintro e w3 ⟨v9, rfl, hk, hr⟩
      have K3 := Lib.hid (K2.out.trans hk)
      have R9 := Lib.hid hr
      clear hk hr R35
      go_wp2_with fail
      refine (do_any _ _ _ _ ks h a (by have := HA.out; omega) (GK.out.keeps K3.out) (GH.out.keeps K3.out) (GA.out.keeps K3.out)).mono ?_
      rintro e w4 ⟨v11, rfl, hk, hr⟩
      have K4 := Lib.hid (K3.out.trans hk)
      have R11 := Lib.hid hr
      have R94 := Lib.hid (R9.out.keeps hk)
      have HJ := Lib.hid (do_app ks h a b)
      clear hk hr R9
      cases hy : doL ks h a with
      | none =>
        rw [hy] at HJ
        have HJ2 : Hid (doL ks h (a ++ b) = none) := HJ
        rw [HJ2.out]
        go_wp2_with fail
        go_ret
        exact ⟨rfl, K4.out⟩
      | some y =>
        rw [hy] at HJ R11
        have HJ2 : Hid (doL ks h (a ++ b) = doL ks y b) := HJ
        have HY := Lib.hid (do_len hy)
        have R112 : Hid (ReadsI w4 v11 y) := R11
        rw [HJ2.out] at R94 ⊢
        clear hy HJ R11 HJ2
        go_wp2_with fail
        refine (do_any _ _ _ _ ks y b (by have := HA.out; have := HB.out; have := HY.out; omega) (GK.out.keeps K4.out) R112.out (GB.out.keeps K4.out)).mono ?_
        rintro e w5 ⟨v13, rfl, hk, hr⟩
        have K5 := Lib.hid (K4.out.trans hk)
        have R13 := Lib.hid hr
        have R95 := Lib.hid (R94.out.keeps hk)
        clear hk hr R94 R112
        generalize hd : doL ks y b = d at *
        clear hd
        have hbb : (d.isSome == d.isSome) = true := by simp
        go_wp2_with fail
        refine (equalI_any (d.getD []) (d.getD []) _ _ _ R95.out.rdv R13.out.rdv).mono ?_
        rintro e w6 ⟨rfl, hk⟩
        have K6 := Lib.hid (K5.out.trans hk)
        rw [decide_eq_true rfl]
        clear hk R95 R13
        go_wp2_with fail
        refine (concatO _ a b _ _ 23 (by have := HA.out; have := HB.out; omega) (GA.out.keeps K6.out) (GB.out.keeps K6.out)).mono ?_
        rintro e w7 ⟨v69, rfl, hk, hr⟩
        have K7 := Lib.hid (K6.out.trans hk)
        have R69 := Lib.hid hr
        clear hk hr
        go_wp2_with fail
        refine (grows_any _ _ (a ++ b) (by have := HA.out; have := HB.out; simp only [List.length_append]; omega) R69.out).mono ?_
        rintro e w8 ⟨rfl, hk⟩
        have K8 := Lib.hid (K7.out.trans hk)
        rw [cntL_app, cntL_app]
        clear hk R69
        go_wp2_with fail
        refine (grows_any _ _ a (by have := HA.out; omega) (GA.out.keeps K8.out)).mono ?_
        rintro e w9 ⟨rfl, hk⟩
        have K9 := Lib.hid (K8.out.trans hk)
        clear hk 
        go_wp2_with fail
        refine (grows_any _ _ b (by have := HB.out; omega) (GB.out.keeps K9.out)).mono ?_
        rintro e w10 ⟨rfl, hk⟩
        have K10 := Lib.hid (K9.out.trans hk)
        clear hk 
        have h1 := cntL_le 3 a
        have h2 := cntL_le 1 a
        have h3 := cntL_le 3 b
        have h4 := cntL_le 1 b
        have hA := HA.out
        have hB := HB.out
        have hw := IntWalk.wrap64_in (((cntL 3 a : Int) - (cntL 1 a : Int)) + ((cntL 3 b : Int) - (cntL 1 b : Int))) (by omega)
        have heq : ((cntL 3 a : Int) + (cntL 3 b : Int) - ((cntL 1 a : Int) + (cntL 1 b : Int)) == (cntL 3 a : Int) - (cntL 1 a : Int) + ((cntL 3 b : Int) - (cntL 1 b : Int))) = true := by rw [beq_iff_eq]; omega
        clear h1 h2 h3 h4 hA hB
        have HE := Lib.hid heq
        clear heq
        go_wp2_with fail
        go_ret
        exact ⟨by first | rfl | (rw [← HE.out]; rfl), K10.out⟩
end Go.Proofs.YtdhcnmljkmodhaaDoor.opsParts
