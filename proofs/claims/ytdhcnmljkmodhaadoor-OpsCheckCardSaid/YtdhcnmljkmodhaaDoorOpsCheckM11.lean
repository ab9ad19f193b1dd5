/- Merged for the claim, in build order: Ops15, Ops16, Ops17, Ops18, Ops19. -/
import Derived.Test.YtdhcnmljkmodhaaDoorOpsCheckM10
import Derived.Test.YtdhcnmljkmodhaaDoorOpsCheckM3
import Derived.Test.YtdhcnmljkmodhaaDoorOpsCheckM2
import Derived.Test.YtdhcnmljkmodhaaDoorOpsCheckM6
/- fairleadref10.Do: the walk; what it comes to is what ops.Do comes to. (Printed by gen_ops15.py.) -/
namespace Go.Proofs.YtdhcnmljkmodhaaDoor
set_option linter.unusedSectionVars false
set_option linter.unusedVariables false
set_option linter.unusedSimpArgs false
set_option maxRecDepth 20000
open Go.RowKit

/-- An op done by the document's words, whatever comes of it. -/
def nextR (ks : List Int) : List Int → Int → Int → Option (List Int)
  | [], _, _ => none
  | a :: t, k, x => if k = 1 then some t else if k = 2 then (if kindL ks x = kindL ks a then some (x :: t) else none) else if k = 3 then some (x :: a :: t) else none
def chainR (ks : List Int) : List Int → List (Int × Int) → Option (List Int)
  | h, [] => some h
  | h, o :: r => match nextR ks h o.1 o.2 with
    | none => none
    | some n => if validL ks n then chainR ks n r else none
def refDoL (ks h : List Int) (c : List (Int × Int)) : Option (List Int) := if validL ks h then chainR ks h c else none
theorem oneL_next (ks : List Int) (h : List Int) (k x : Int) (hv : validL ks h = true) : oneL ks h k x = (nextR ks h k x).filter (validL ks) := by
  cases h with
  | nil => cases hv
  | cons a t =>
    unfold oneL nextR
    simp only
    by_cases h1 : k = 1
    · rw [if_pos h1, if_pos h1]
      cases t with
      | nil => rfl
      | cons b r =>
        have : validL ks (b :: r) = true := by
          simp only [validL, Bool.and_eq_true] at hv
          exact hv.2
        simp [Option.filter, this]
    · rw [if_neg h1, if_neg h1]
      by_cases h2 : k = 2
      · rw [if_pos h2, if_pos h2]
        by_cases hk : kindL ks x = kindL ks a
        · rw [if_pos hk]
          have : validL ks (x :: t) = true := by
            cases t with
            | nil => simp only [validL] at hv ⊢; rw [hk]; exact hv
            | cons b r => simp only [validL] at hv ⊢; rw [hk]; exact hv
          simp [Option.filter, this]
        · rw [if_neg hk]; rfl
      · rw [if_neg h2, if_neg h2]
        by_cases h3 : k = 3
        · rw [if_pos h3, if_pos h3]
          have : validL ks (x :: a :: t) = mayL (kindL ks x) (kindL ks a) := by
            simp only [validL, hv, Bool.and_true]
            cases hm : mayL (kindL ks x) (kindL ks a) with
            | false => simp
            | true =>
              have := (mayL_iff _ _).1 hm
              simp only [Bool.and_true, bne_iff_ne, ne_eq]
              omega
          cases hm : mayL (kindL ks x) (kindL ks a) with
          | false => simp [Option.filter, this, hm]
          | true => simp [Option.filter, this, hm]
        · rw [if_neg h3, if_neg h3]; rfl
theorem chainL_chainR (ks : List Int) : ∀ (c : List (Int × Int)) (h : List Int), validL ks h = true → chainL ks h c = chainR ks h c
  | [], h, _ => rfl
  | o :: r, h, hv => by
    unfold chainL chainR
    rw [oneL_next ks h _ _ hv]
    cases nextR ks h o.1 o.2 with
    | none => rfl
    | some n =>
      cases hn : validL ks n with
      | false => simp [Option.filter, hn]
      | true => simp [Option.filter, hn]; exact chainL_chainR ks r n hn
theorem refDo_eq (ks h : List Int) (c : List (Int × Int)) : refDoL ks h c = doL ks h c := by
  unfold refDoL doL
  split
  · exact (chainL_chainR ks c h (by assumption)).symm
  · rfl
theorem chainR_step (ks h : List Int) (c : List (Int × Int)) (k : Nat) (hk : k < c.length) : chainR ks h (c.drop k) = match nextR ks h c[k].1 c[k].2 with
    | none => none
    | some n => if validL ks n then chainR ks n (c.drop (k + 1)) else none := by
  rw [List.drop_eq_getElem_cons hk]; rfl
theorem nextR_len {ks h n : List Int} {k x : Int} (e : nextR ks h k x = some n) : n.length ≤ h.length + 1 := by
  cases h with
  | nil => cases e
  | cons a t =>
    have e2 : nextR ks (a :: t) k x = if k = 1 then some t else if k = 2 then (if kindL ks x = kindL ks a then some (x :: t) else none) else if k = 3 then some (x :: a :: t) else none := rfl
    rw [e2] at e
    by_cases h1 : k = 1
    · rw [if_pos h1] at e; obtain rfl := Option.some.inj e; simp <;> omega
    · rw [if_neg h1] at e
      by_cases h2 : k = 2
      · rw [if_pos h2] at e
        by_cases hk : kindL ks x = kindL ks a
        · rw [if_pos hk] at e; obtain rfl := Option.some.inj e; simp
        · rw [if_neg hk] at e; cases e
      · rw [if_neg h2] at e
        by_cases h3 : k = 3
        · rw [if_pos h3] at e; obtain rfl := Option.some.inj e; simp
        · rw [if_neg h3] at e; cases e
/-- What the loop knows ahead of round k. -/
structure RdInv (w : World) (ks h : List Int) (c : List (Int × Int)) (k : Nat) (h' : List Int) (v : Value) (wr : World) : Prop where
  rd : ReadsI wr v h'
  same : refDoL ks h c = chainR ks h' (c.drop k)
  may : validL ks h' = true
  len : h'.length ≤ h.length + k
  keep : Keeps w wr (fun _ => False)

set_option maxHeartbeats 8000000 in
theorem refdo_any (w : World) (vk vh vc : Value) (ks h : List Int) (c : List (Int × Int)) (hl : h.length + c.length ≤ 1000) (Hk : ReadsI w vk ks) (Hh : ReadsI w vh h) (Hc : RdO w vc c) :
    Calls Tryd.prog 15 #[vk, vh, vc] w (DoPost w (refDoL ks h c)) := by
  obtain ⟨i0, hi0, hz0, hs0, hb0⟩ := infoInt'
  have II := Lib.hid hi0
  have IZ := Lib.hid hz0
  have IS := Lib.hid hs0
  have IB := Lib.hid hb0
  obtain ⟨ac, capc, rfl, _, hmc⟩ := Hc.form
  have GK := Lib.hid Hk
  have GH := Lib.hid Hh
  have GC := Lib.hid Hc
  clear Hk Hh Hc hmc hi0 hz0 hs0 hb0
  go_enter Tryd.func15, Tryd.ntmps15
  go_wp2_with fail
  refine (refvalid_any w vk vh ks h GK.out GH.out).mono ?_
  rintro e w1 ⟨rfl, hk1⟩
  have K1 := Lib.hid hk1
  clear hk1
  cases hv : validL ks h with
  | false =>
    go_wp2_with fail
    go_ret2
    exact ⟨.slice none 0 0, by simp [refDoL, hv], K1.out, by simp [refDoL, hv]; exact readsNil _⟩
  | true =>
    have HV := Lib.hid hv
    have R1 := Lib.hid (GH.out.keeps K1.out)
    have HS0 : Hid (refDoL ks h c = chainR ks h (c.drop 0)) := Lib.hid (by unfold refDoL; rw [if_pos HV.out]; rfl)
    clear hv
    go_wp2_with fail
    go_loopw [1, 18] (fun v ti wr => ∃ (k : Nat) (h' : List Int), ti = .int .i64 k ∧ k ≤ c.length ∧ RdInv w ks h c k h' v wr) (fun _ ti _ => c.length - (intOf ti).toNat)
    case atStart => exact ⟨0, h, rfl, Nat.zero_le _, R1.out, HS0.out, HV.out, Nat.le_refl _, K1.out⟩
    case round =>
      obtain ⟨k, h', rfl, hk, inv⟩ := hrel
      have I := Lib.hid inv
      clear inv R1 K1 HS0 HV GH
      by_cases hlt : k < c.length
      · obtain ⟨g, off, rfl, hg, hc⟩ := (GC.out.keeps I.out.keep).cell k hlt
        have hc0 := (hc k hlt).1
        have hc1 := (hc k hlt).2
        obtain ⟨a, t, e1⟩ := List.exists_cons_of_ne_nil (validL_ne I.out.may)
        subst e1
        have HS := Lib.hid (chainR_step ks (a :: t) c k hlt)
        have hle := I.out.len
        simp only [List.length_cons] at hle
        clear hc
        generalize c[k].1 = ok at *
        generalize c[k].2 = ox at *
        obtain ⟨ah, caph, e1, hch, hmh⟩ := I.out.rd.form
        subst e1
        obtain ⟨gh, offh, e1, hgh, hcell⟩ := I.out.rd.cell 0 (by simp)
        subst e1
        have hcl : wr.cell? ⟨gh, offh, none⟩ = some (.int .i64 a) := hcell 0 (by simp)
        have KA : Hid (Keeps w (wr.alloc (.cells #[.int .i64 ok, .int .i64 ox] 47)) (fun _ => False)) := Lib.hid (I.out.keep.alloc _)
        have KB : Hid (Keeps wr (wr.alloc (.cells #[.int .i64 ok, .int .i64 ox] 47)) (fun _ => False)) := Lib.hid ((Keeps.refl wr _).alloc _)
        have RA := Lib.hid (I.out.rd.keeps KB.out)
        have BA := Lib.hid (heap_alloc_new wr (.cells #[.int .i64 ok, .int .i64 ox] 47))
        have hcw : (wr.alloc (.cells #[.int .i64 ok, .int .i64 ox] 47)).cell? ⟨gh, offh, none⟩ = some (.int .i64 a) := by rw [← hcl]; exact World.cell?_of_block (KB.out.block _ hgh id)
        have HCW := Lib.hid hcw
        have hbb : (0 : Int) < ((t.length : Int) + 1) := by omega
        clear hcell hcl hmh hch hcw
        go_upto_region 6 with fail
        generalize wr.alloc (.cells #[.int .i64 ok, .int .i64 ox] 47) = W at *
        generalize wr.heap.size = N at *
        go_cut [10] (fun v10 wx => wx = W ∧ wx.ownsRow w.heap.size 3 1 v10 0 [] ∧ v10.ownBlock = none)
        case first =>
          go_wp2_with fail
          go_meet
          exact ⟨rfl, World.ownsRow_nil _ _ _ _, rfl⟩
        obtain ⟨hwc, hown, hnb⟩ := hcut
        have hwc := hwc.symm
        subst hwc
        have O10 := Lib.hid hown
        have OB := Lib.hid hnb
        clear hown hnb
        have y0 : W.cell? ⟨N, 0, none⟩ = some (.int .i64 ok) := by rw [cell_at BA.out]; rfl
        have y1 : W.cell? ⟨N, 1, none⟩ = some (.int .i64 ox) := by rw [cell_at BA.out]; rfl
        clear hc0 hc1
        by_cases k1 : ok = 1
        · subst k1
          by_cases hcp : caph = 1
          · subst hcp
            obtain rfl := RA.out.rest1
            have HRT : Hid (ReadsI W (.slice (some ⟨gh, offh, none⟩) 0 0) []) := Lib.hid (ReadsI.void W _ 0 (Nat.zero_le _))
            go_wp2_with (at_builtin; refine wpList_append_any rfl (.tmp 25) (.tmp 27) 22 22 rfl 3 i0 _ 1 8 Tryd.underlying22 II.out IZ.out IS.out IB.out rfl w.heap.size _ 0 [] rfl O10.out _ 0 (([] : List Int).map (Value.int .i64)) rfl (Src.ofReadsI HRT.out) (by unfold maxLen; omega) (by omega) KA.out.size ?_)
            intro v5 w5 D
            have O5 : Hid (w5.ownsRow w.heap.size 3 1 v5 0 (([] : List Int).map (Value.int .i64))) := Lib.hid (by have h := D.own; simpa [Nat.add_comm] using h)
            have K5 : Hid (Keeps w w5 (fun _ => False)) := Lib.hid (KA.out.grown D.grown (fun k hk hlt => by have := (own_block_ge O10.out k hk).1; omega))
            have K44 : Hid (Keeps _ w5 (fun _ => False)) := Lib.hid ((Keeps.refl _ _).grown D.grown (fun k hk => by rw [OB.out] at hk; cases hk))
            clear D
            have HN : Hid (nextR ks (a :: ([] : List Int)) 1 ox = some []) := Lib.hid (rfl)
            go_wp2_with fail
            refine (refvalid_any _ _ _ ks [] (GK.out.keeps K5.out) (ReadsI.ofOwn (by simp <;> omega) O5.out)).mono ?_
            rintro e w6 ⟨rfl, hk6⟩
            have K6 := Lib.hid (K5.out.trans hk6)
            have R6 : Hid (ReadsI w6 _ []) := Lib.hid ((ReadsI.ofOwn (by simp <;> omega) O5.out).keeps hk6)
            have HL := Lib.hid (nextR_len HN.out)
            clear hk6 K5 O5
            cases hv : validL ks [] with
            | false =>
              have HF : Hid (refDoL ks h c = none) := Lib.hid (by rw [I.out.same, HS.out, HN.out]; simp only; rw [hv]; rfl)
              clear hv
              go_wp2_with fail
              go_ret2
              exact ⟨.slice none 0 0, by rw [HF.out]; rfl, K6.out, by rw [HF.out]; exact readsNil _⟩
            | true =>
              have HV := Lib.hid hv
              have HS2 : Hid (refDoL ks h c = chainR ks [] (c.drop (k + 1))) := Lib.hid (by rw [I.out.same, HS.out, HN.out]; simp only; rw [hv]; rfl)
              clear hv
              go_wp2_with fail
              go_roundw
              case rel =>
                refine ⟨k + 1, [], by go_num, by omega, R6.out, HS2.out, HV.out, ?_, K6.out⟩
                have h1 := HL.out
                have h2 := I.out.len
                omega
              case measure => simp [intOf]; omega
          · have HRT := Lib.hid (RA.out.rest hcp)
            go_wp2_with (at_builtin; refine wpList_append_any rfl (.tmp 25) (.tmp 27) 22 22 rfl 3 i0 _ 1 8 Tryd.underlying22 II.out IZ.out IS.out IB.out rfl w.heap.size _ 0 [] rfl O10.out _ t.length (t.map (Value.int .i64)) rfl (Src.ofReadsI HRT.out) (by unfold maxLen; omega) (by omega) KA.out.size ?_)
            intro v5 w5 D
            have O5 : Hid (w5.ownsRow w.heap.size 3 1 v5 t.length (t.map (Value.int .i64))) := Lib.hid (by have h := D.own; simpa [Nat.add_comm] using h)
            have K5 : Hid (Keeps w w5 (fun _ => False)) := Lib.hid (KA.out.grown D.grown (fun k hk hlt => by have := (own_block_ge O10.out k hk).1; omega))
            have K44 : Hid (Keeps _ w5 (fun _ => False)) := Lib.hid ((Keeps.refl _ _).grown D.grown (fun k hk => by rw [OB.out] at hk; cases hk))
            clear D
            have HN : Hid (nextR ks (a :: t) 1 ox = some t) := Lib.hid (rfl)
            go_wp2_with fail
            refine (refvalid_any _ _ _ ks t (GK.out.keeps K5.out) (ReadsI.ofOwn (by simp <;> omega) O5.out)).mono ?_
            rintro e w6 ⟨rfl, hk6⟩
            have K6 := Lib.hid (K5.out.trans hk6)
            have R6 : Hid (ReadsI w6 _ t) := Lib.hid ((ReadsI.ofOwn (by simp <;> omega) O5.out).keeps hk6)
            have HL := Lib.hid (nextR_len HN.out)
            clear hk6 K5 O5
            cases hv : validL ks t with
            | false =>
              have HF : Hid (refDoL ks h c = none) := Lib.hid (by rw [I.out.same, HS.out, HN.out]; simp only; rw [hv]; rfl)
              clear hv
              go_wp2_with fail
              go_ret2
              exact ⟨.slice none 0 0, by rw [HF.out]; rfl, K6.out, by rw [HF.out]; exact readsNil _⟩
            | true =>
              have HV := Lib.hid hv
              have HS2 : Hid (refDoL ks h c = chainR ks t (c.drop (k + 1))) := Lib.hid (by rw [I.out.same, HS.out, HN.out]; simp only; rw [hv]; rfl)
              clear hv
              go_wp2_with fail
              go_roundw
              case rel =>
                refine ⟨k + 1, t, by go_num, by omega, R6.out, HS2.out, HV.out, ?_, K6.out⟩
                have h1 := HL.out
                have h2 := I.out.len
                omega
              case measure => simp [intOf]; omega
        · by_cases k2 : ok = 2
          · subst k2
            clear k1
            go_upto_region 10 with fail
            have x1 : ∀ x' : Cls W, x'.w.cell? ⟨N, 1, none⟩ = some (.int .i64 ox) := Cls.cell y1
            have xa : ∀ x' : Cls W, x'.w.cell? ⟨gh, offh, none⟩ = some (.int .i64 a) := Cls.cell HCW.out
            have HKW : Hid (∀ x : Cls W, ReadsI x.w vk ks) := Lib.hid (fun x => (GK.out.keeps KA.out).keeps x.keep)
            have Y1 := Lib.hid y1
            clear y0 y1
            refine wp_region_cls (by kernel_rfl) (by kernel_rfl) ?_
            repeat (go_big_quiet_step ((first | (go_at_call 24; exact cls_call_same (refkind_any _ _ ks _ (HKW.out _))))))
            refine wpQuiet_nil ?_
            rintro _ ⟨x5, rfl⟩
            have KX := Lib.hid (KA.out.trans x5.keep)
            have C1 := Cls.cell Y1.out x5
            have RX := Lib.hid (RA.out.keeps x5.keep)
            have OX := Lib.hid (own_keeps O10.out x5.keep (fun j hj => hj.elim))
            clear x1 xa HKW KA KB RA HCW Y1 BA O10
            generalize x5.w = V at *
            have HC1 := Lib.hid C1
            by_cases hkk : kindL ks ox = kindL ks a
            · have hk2 : (kindL ks ox != kindL ks a) = false := by simp [hkk]
              have HKK := Lib.hid hkk
              clear hkk
              have KL : Hid (Keeps V (V.alloc (.cells #[.int .i64 ox] 3)) (fun _ => False)) := Lib.hid ((Keeps.refl V _).alloc _)
              have KVL := Lib.hid (KX.out.trans KL.out)
              have OL := Lib.hid (own_keeps OX.out KL.out (fun j hj => hj.elim))
              have RL : Hid (ReadsI (V.alloc (.cells #[.int .i64 ox] 3)) (.slice (some ⟨V.heap.size, 0, none⟩) 1 1) [ox]) := Lib.hid (ReadsI.lit V [ox] 3 (by simp))
              have RY := Lib.hid (RX.out.keeps KL.out)
              go_wp2_with (at_builtin; refine wpList_append_any rfl (.tmp 42) (.tmp 45) 22 22 rfl 3 i0 _ 1 8 Tryd.underlying22 II.out IZ.out IS.out IB.out rfl w.heap.size _ 0 [] rfl OL.out _ 1 ([ox].map (Value.int .i64)) rfl (Src.ofReadsI RL.out) (by unfold maxLen; omega) (by omega) KVL.out.size ?_)
              intro v4 w4 D
              have O4 : Hid (w4.ownsRow w.heap.size 3 1 v4 ([ox] : List Int).length (([ox] : List Int).map (Value.int .i64))) := Lib.hid (by have h := D.own; simpa [Nat.add_comm] using h)
              have K4 : Hid (Keeps w w4 (fun _ => False)) := Lib.hid (KVL.out.grown D.grown (fun k hk hlt => by have := (own_block_ge OL.out k hk).1; omega))
              have K44 : Hid (Keeps _ w4 (fun _ => False)) := Lib.hid ((Keeps.refl _ _).grown D.grown (fun k hk => by rw [OB.out] at hk; cases hk))
              clear D
              have RZ : Hid (ReadsI w4 (.slice (some ⟨gh, offh, none⟩) (a :: t).length caph) (a :: t)) := Lib.hid (RY.out.keeps K44.out)
              clear RX RY RL KVL KL
              by_cases hcp : caph = 1
              · subst hcp
                obtain rfl := RZ.out.rest1
                have HRT : Hid (ReadsI w4 (.slice (some ⟨gh, offh, none⟩) 0 0) []) := Lib.hid (ReadsI.void w4 _ 0 (Nat.zero_le _))
                go_wp2_with (at_builtin; refine wpList_append_any rfl (.tmp 47) (.tmp 49) 22 22 rfl 3 i0 _ 1 8 Tryd.underlying22 II.out IZ.out IS.out IB.out rfl w.heap.size _ 1 ([ox].map (Value.int .i64)) rfl O4.out _ 0 (([] : List Int).map (Value.int .i64)) rfl (Src.ofReadsI HRT.out) (by unfold maxLen; omega) (by omega) K4.out.size ?_)
                intro v5 w5 D
                have O5 : Hid (w5.ownsRow w.heap.size 3 1 v5 (ox :: ([] : List Int)).length ((ox :: ([] : List Int)).map (Value.int .i64))) := Lib.hid (by have h := D.own; simpa [Nat.add_comm] using h)
                have K5 : Hid (Keeps w w5 (fun _ => False)) := Lib.hid (K4.out.grown D.grown (fun k hk hlt => by have := (own_block_ge O4.out k hk).1; omega))
                clear D
                have HN : Hid (nextR ks (a :: ([] : List Int)) 2 ox = some (ox :: ([] : List Int))) := Lib.hid (by unfold nextR; simp only; rw [if_neg (by decide), if_pos trivial, if_pos HKK.out])
                go_wp2_with fail
                refine (refvalid_any _ _ _ ks (ox :: ([] : List Int)) (GK.out.keeps K5.out) (ReadsI.ofOwn (by simp <;> omega) O5.out)).mono ?_
                rintro e w6 ⟨rfl, hk6⟩
                have K6 := Lib.hid (K5.out.trans hk6)
                have R6 : Hid (ReadsI w6 _ (ox :: ([] : List Int))) := Lib.hid ((ReadsI.ofOwn (by simp <;> omega) O5.out).keeps hk6)
                have HL := Lib.hid (nextR_len HN.out)
                clear hk6 K5 O5
                cases hv : validL ks (ox :: ([] : List Int)) with
                | false =>
                  have HF : Hid (refDoL ks h c = none) := Lib.hid (by rw [I.out.same, HS.out, HN.out]; simp only; rw [hv]; rfl)
                  clear hv
                  go_wp2_with fail
                  go_ret2
                  exact ⟨.slice none 0 0, by rw [HF.out]; rfl, K6.out, by rw [HF.out]; exact readsNil _⟩
                | true =>
                  have HV := Lib.hid hv
                  have HS2 : Hid (refDoL ks h c = chainR ks (ox :: ([] : List Int)) (c.drop (k + 1))) := Lib.hid (by rw [I.out.same, HS.out, HN.out]; simp only; rw [hv]; rfl)
                  clear hv
                  go_wp2_with fail
                  go_roundw
                  case rel =>
                    refine ⟨k + 1, (ox :: ([] : List Int)), by go_num, by omega, R6.out, HS2.out, HV.out, ?_, K6.out⟩
                    have h1 := HL.out
                    have h2 := I.out.len
                    omega
                  case measure => simp [intOf]; omega
              · have HRT := Lib.hid (RZ.out.rest hcp)
                go_wp2_with (at_builtin; refine wpList_append_any rfl (.tmp 47) (.tmp 49) 22 22 rfl 3 i0 _ 1 8 Tryd.underlying22 II.out IZ.out IS.out IB.out rfl w.heap.size _ 1 ([ox].map (Value.int .i64)) rfl O4.out _ t.length (t.map (Value.int .i64)) rfl (Src.ofReadsI HRT.out) (by unfold maxLen; omega) (by omega) K4.out.size ?_)
                intro v5 w5 D
                have O5 : Hid (w5.ownsRow w.heap.size 3 1 v5 (ox :: t).length ((ox :: t).map (Value.int .i64))) := Lib.hid (by have h := D.own; simpa [Nat.add_comm] using h)
                have K5 : Hid (Keeps w w5 (fun _ => False)) := Lib.hid (K4.out.grown D.grown (fun k hk hlt => by have := (own_block_ge O4.out k hk).1; omega))
                clear D
                have HN : Hid (nextR ks (a :: t) 2 ox = some (ox :: t)) := Lib.hid (by unfold nextR; simp only; rw [if_neg (by decide), if_pos trivial, if_pos HKK.out])
                go_wp2_with fail
                refine (refvalid_any _ _ _ ks (ox :: t) (GK.out.keeps K5.out) (ReadsI.ofOwn (by simp <;> omega) O5.out)).mono ?_
                rintro e w6 ⟨rfl, hk6⟩
                have K6 := Lib.hid (K5.out.trans hk6)
                have R6 : Hid (ReadsI w6 _ (ox :: t)) := Lib.hid ((ReadsI.ofOwn (by simp <;> omega) O5.out).keeps hk6)
                have HL := Lib.hid (nextR_len HN.out)
                clear hk6 K5 O5
                cases hv : validL ks (ox :: t) with
                | false =>
                  have HF : Hid (refDoL ks h c = none) := Lib.hid (by rw [I.out.same, HS.out, HN.out]; simp only; rw [hv]; rfl)
                  clear hv
                  go_wp2_with fail
                  go_ret2
                  exact ⟨.slice none 0 0, by rw [HF.out]; rfl, K6.out, by rw [HF.out]; exact readsNil _⟩
                | true =>
                  have HV := Lib.hid hv
                  have HS2 : Hid (refDoL ks h c = chainR ks (ox :: t) (c.drop (k + 1))) := Lib.hid (by rw [I.out.same, HS.out, HN.out]; simp only; rw [hv]; rfl)
                  clear hv
                  go_wp2_with fail
                  go_roundw
                  case rel =>
                    refine ⟨k + 1, (ox :: t), by go_num, by omega, R6.out, HS2.out, HV.out, ?_, K6.out⟩
                    have h1 := HL.out
                    have h2 := I.out.len
                    omega
                  case measure => simp [intOf]; omega
            · have hk2 : (kindL ks ox != kindL ks a) = true := by simp [hkk]
              have HF : Hid (refDoL ks h c = none) := Lib.hid (by rw [I.out.same, HS.out]; unfold nextR; simp only; rw [if_neg (by decide), if_pos trivial, if_neg hkk])
              clear hkk
              go_wp2_with fail
              go_ret2
              exact ⟨.slice none 0 0, by rw [HF.out]; rfl, KX.out, by rw [HF.out]; exact readsNil _⟩
          · by_cases k3 : ok = 3
            · subst k3
              clear k1 k2
              have KL : Hid (Keeps W (W.alloc (.cells #[.int .i64 ox] 3)) (fun _ => False)) := Lib.hid ((Keeps.refl W _).alloc _)
              have KVL := Lib.hid (KA.out.trans KL.out)
              have OL := Lib.hid (own_keeps O10.out KL.out (fun j hj => hj.elim))
              have RL : Hid (ReadsI (W.alloc (.cells #[.int .i64 ox] 3)) (.slice (some ⟨W.heap.size, 0, none⟩) 1 1) [ox]) := Lib.hid (ReadsI.lit W [ox] 3 (by simp))
              have RY := Lib.hid (RA.out.keeps KL.out)
              go_wp2_with (at_builtin; refine wpList_append_any rfl (.tmp 54) (.tmp 57) 22 22 rfl 3 i0 _ 1 8 Tryd.underlying22 II.out IZ.out IS.out IB.out rfl w.heap.size _ 0 [] rfl OL.out _ 1 ([ox].map (Value.int .i64)) rfl (Src.ofReadsI RL.out) (by unfold maxLen; omega) (by omega) KVL.out.size ?_)
              intro v4 w4 D
              have O4 : Hid (w4.ownsRow w.heap.size 3 1 v4 ([ox] : List Int).length (([ox] : List Int).map (Value.int .i64))) := Lib.hid (by have h := D.own; simpa [Nat.add_comm] using h)
              have K4 : Hid (Keeps w w4 (fun _ => False)) := Lib.hid (KVL.out.grown D.grown (fun k hk hlt => by have := (own_block_ge OL.out k hk).1; omega))
              have K44 : Hid (Keeps _ w4 (fun _ => False)) := Lib.hid ((Keeps.refl _ _).grown D.grown (fun k hk => by rw [OB.out] at hk; cases hk))
              clear D
              have RZ : Hid (ReadsI w4 (.slice (some ⟨gh, offh, none⟩) (a :: t).length caph) (a :: t)) := Lib.hid (RY.out.keeps K44.out)
              clear RY RL KVL KL
              go_wp2_with (at_builtin; refine wpList_append_any rfl (.tmp 59) (.tmp 60) 22 22 rfl 3 i0 _ 1 8 Tryd.underlying22 II.out IZ.out IS.out IB.out rfl w.heap.size _ 1 ([ox].map (Value.int .i64)) rfl O4.out _ (t.length + 1) ((a :: t).map (Value.int .i64)) rfl (Src.ofReadsI RZ.out) (by unfold maxLen; omega) (by omega) K4.out.size ?_)
              intro v5 w5 D
              have O5 : Hid (w5.ownsRow w.heap.size 3 1 v5 (ox :: a :: t).length ((ox :: a :: t).map (Value.int .i64))) := Lib.hid (by have h := D.own; simpa [Nat.add_comm] using h)
              have K5 : Hid (Keeps w w5 (fun _ => False)) := Lib.hid (K4.out.grown D.grown (fun k hk hlt => by have := (own_block_ge O4.out k hk).1; omega))
              clear D
              have HN : Hid (nextR ks (a :: t) 3 ox = some (ox :: a :: t)) := Lib.hid (rfl)
              go_wp2_with fail
              refine (refvalid_any _ _ _ ks (ox :: a :: t) (GK.out.keeps K5.out) (ReadsI.ofOwn (by simp <;> omega) O5.out)).mono ?_
              rintro e w6 ⟨rfl, hk6⟩
              have K6 := Lib.hid (K5.out.trans hk6)
              have R6 : Hid (ReadsI w6 _ (ox :: a :: t)) := Lib.hid ((ReadsI.ofOwn (by simp <;> omega) O5.out).keeps hk6)
              have HL := Lib.hid (nextR_len HN.out)
              clear hk6 K5 O5
              cases hv : validL ks (ox :: a :: t) with
              | false =>
                have HF : Hid (refDoL ks h c = none) := Lib.hid (by rw [I.out.same, HS.out, HN.out]; simp only; rw [hv]; rfl)
                clear hv
                go_wp2_with fail
                go_ret2
                exact ⟨.slice none 0 0, by rw [HF.out]; rfl, K6.out, by rw [HF.out]; exact readsNil _⟩
              | true =>
                have HV := Lib.hid hv
                have HS2 : Hid (refDoL ks h c = chainR ks (ox :: a :: t) (c.drop (k + 1))) := Lib.hid (by rw [I.out.same, HS.out, HN.out]; simp only; rw [hv]; rfl)
                clear hv
                go_wp2_with fail
                go_roundw
                case rel =>
                  refine ⟨k + 1, (ox :: a :: t), by go_num, by omega, R6.out, HS2.out, HV.out, ?_, K6.out⟩
                  have h1 := HL.out
                  have h2 := I.out.len
                  omega
                case measure => simp [intOf]; omega
            · have q1 : (ok == 1) = false := beq_eq_false_iff_ne.2 k1
              have q2 : (ok == 2) = false := beq_eq_false_iff_ne.2 k2
              have q3 : (ok == 3) = false := beq_eq_false_iff_ne.2 k3
              have HF : Hid (refDoL ks h c = none) := Lib.hid (by rw [I.out.same, HS.out]; unfold nextR; simp only; rw [if_neg k1, if_neg k2, if_neg k3])
              go_wp2_with fail
              go_ret2
              exact ⟨.slice none 0 0, by rw [HF.out]; rfl, KA.out, by rw [HF.out]; exact readsNil _⟩
      · have hk' : k = c.length := by omega
        subst hk'
        have HF : Hid (refDoL ks h c = some h') := Lib.hid (by rw [I.out.same, List.drop_eq_nil_of_le (Nat.le_refl _)]; rfl)
        have hle := I.out.len
        have KI := Lib.hid I.out.keep
        have RI := Lib.hid I.out.rd
        go_wp2_with (at_builtin; refine wpList_append_any rfl (.tmp 68) (.tmp 69) 22 22 rfl 3 i0 _ 1 8 Tryd.underlying22 II.out IZ.out IS.out IB.out rfl w.heap.size _ 0 [] rfl (World.ownsRow_nil _ _ _ _) _ h'.length (h'.map (Value.int .i64)) rfl (Src.ofReadsI RI.out) (by unfold maxLen; omega) (by omega) KI.out.size ?_)
        intro v5 w5 D
        have O5 : Hid (w5.ownsRow w.heap.size 3 1 v5 h'.length (h'.map (Value.int .i64))) := Lib.hid (by have h := D.own; simpa using h)
        have K5 : Hid (Keeps w w5 (fun _ => False)) := Lib.hid (KI.out.grown D.grown (fun k hk => by cases hk))
        clear D
        go_wp2_with fail
        go_ret2
        exact ⟨v5, by rw [HF.out]; rfl, K5.out, by rw [HF.out]; exact ReadsI.ofOwn rfl O5.out⟩
end Go.Proofs.YtdhcnmljkmodhaaDoor

/- fairleadlaw10.light; chains that came in, opened. (Printed by gen_ops16.py.) -/
namespace Go.Proofs.YtdhcnmljkmodhaaDoor
set_option linter.unusedSectionVars false
set_option linter.unusedVariables false
set_option linter.unusedSimpArgs false
set_option maxRecDepth 20000
open Go.RowKit Go.ChangeShapes Go.WideShapes

def lightL (ks h : List Int) (c : List (Int × Int)) : Bool := decide (ks.length ≤ 100) && (decide (h.length ≤ 40) && decide (c.length ≤ 20))
theorem lightL_iff (ks h : List Int) (c : List (Int × Int)) : lightL ks h c = true ↔ ks.length ≤ 100 ∧ h.length ≤ 40 ∧ c.length ≤ 20 := by simp [lightL]
theorem light_any (w : World) (vk vh vc : Value) (ks h : List Int) (c : List (Int × Int)) (Hk : ReadsI w vk ks) (Hh : ReadsI w vh h) (Hc : RdO w vc c) :
    Calls Tryd.prog 8 #[vk, vh, vc] w fun e w' => e = .returned (.bool (lightL ks h c)) ∧ w = w' := by
  obtain ⟨ak, capk, rfl, _, _⟩ := Hk.form
  obtain ⟨ah, caph, rfl, _, _⟩ := Hh.form
  obtain ⟨ac, capc, rfl, _, _⟩ := Hc.form
  clear Hk Hh Hc
  by_cases h1 : ks.length ≤ 100
  · have b1 : (ks.length : Int) ≤ 100 := by omega
    by_cases h2 : h.length ≤ 40
    · have b2 : (h.length : Int) ≤ 40 := by omega
      by_cases h3 : c.length ≤ 20
      · have b3 : (c.length : Int) ≤ 20 := by omega
        have HL : Hid (lightL ks h c = true) := Lib.hid ((lightL_iff ks h c).2 ⟨h1, h2, h3⟩)
        clear h1 h2 h3
        go_enter Tryd.func8, Tryd.ntmps8
        go_wp2_with fail
        go_ret
        exact ⟨by rw [HL.out]; rfl, rfl⟩
      · have b3 : ¬ (c.length : Int) ≤ 20 := by omega
        have HL : Hid (lightL ks h c = false) := Lib.hid (by simp [lightL, h3])
        clear h1 h2 h3
        go_enter Tryd.func8, Tryd.ntmps8
        go_wp2_with fail
        go_ret
        exact ⟨by rw [HL.out]; rfl, rfl⟩
    · have b2 : ¬ (h.length : Int) ≤ 40 := by omega
      have HL : Hid (lightL ks h c = false) := Lib.hid (by simp [lightL, h2])
      clear h1 h2
      go_enter Tryd.func8, Tryd.ntmps8
      go_wp2_with fail
      go_ret
      exact ⟨by rw [HL.out]; rfl, rfl⟩
  · have b1 : ¬ (ks.length : Int) ≤ 100 := by omega
    have HL : Hid (lightL ks h c = false) := Lib.hid (by simp [lightL, h1])
    clear h1
    go_enter Tryd.func8, Tryd.ntmps8
    go_wp2_with fail
    go_ret
    exact ⟨by rw [HL.out]; rfl, rfl⟩
theorem cellsOp : Tryd.prog.cellsOf 44 = 2 := by kernel_rfl
theorem cells1i (x : Value) (cs : List Value) : (x :: cs).take (Tryd.prog.cellsOf 3) = [x] := by rw [show Tryd.prog.cellsOf 3 = 1 by kernel_rfl]; rfl
theorem open_ops {H : Type} {enc : TypeId × Value → H} {W : World} {sp : Nat → Bool} {hd : Bool} {fuel : Nat} {v : Value} {x : DataW H × List MemPlace} {base : Nat}
    (hv : Value.okWide Tryd.prog W .any base 23 v) (h : DataW.trod enc Tryd.prog W 0 sp hd fuel 23 v.cells.toList = some x) : ∃ l : List (Int × Int), RdO W v l := by
  obtain ⟨a0, len, cap, rfl⟩ := okWide_slice Tryd.underlying23 hv
  obtain ⟨v, l, hv, HA, hR⟩ := open_list opC (fun _ => True) (fun n cs y hl h => by
    match cs, hl with
    | [x0, x1], _ =>
      obtain ⟨y0, y1, m, _, _, t0, t1⟩ := trod_struct2 Tryd.underlying44 h
      obtain ⟨b, e0, _, _⟩ := DataW.trod_int Tryd.underlying3 t0
      obtain ⟨c, e1, _, _⟩ := DataW.trod_int Tryd.underlying3 t1
      simp [cells1i] at e0 e1
      subst e0 e1
      exact ⟨(b, c), rfl, trivial⟩) (fun _ => rfl) Tryd.underlying23 cellsOp (by decide) h
  obtain rfl : Value.slice a0 len cap = v := by simpa [Value.cells] using hv
  exact ⟨l, HA⟩
end Go.Proofs.YtdhcnmljkmodhaaDoor

/- Chains one behind the other. -/
namespace Go.Proofs.YtdhcnmljkmodhaaDoor
set_option linter.unusedSectionVars false
set_option linter.unusedVariables false
set_option linter.unusedSimpArgs false
set_option maxRecDepth 20000
open Go.RowKit

theorem opC_one (l : List (Int × Int)) : ∀ u ∈ l.flatMap opC, u.oneCell' = true := fun u hu => by
  obtain ⟨a, _, ha⟩ := List.mem_flatMap.1 hu
  unfold opC at ha
  simp only [List.mem_cons, List.not_mem_nil, or_false] at ha
  rcases ha with rfl | rfl <;> rfl
theorem concatO (w : World) (a b : List (Int × Int)) (va vb : Value) (t : TypeId) (hl : a.length + b.length ≤ 1000) (Ha : RdO w va a) (Hb : RdO w vb b) :
    Calls Tryd.prog 21 #[.slice (some ⟨w.heap.size, 0, none⟩) 2 2] (w.alloc (.cells #[va, vb] t)) fun e w' => ∃ u, e = .returned u ∧ Keeps w w' (fun _ => False) ∧ RdO w' u (a ++ b) := by
  have hb := heap_alloc_new w (.cells #[va, vb] t)
  have k := (Keeps.refl w (fun _ => False)).alloc (.cells #[va, vb] t)
  refine (concatOp _ a.length b.length _ _ (opC_one a) (opC_one b) hl w.heap.size va vb (ReadsC.keeps Ha k) (ReadsC.keeps Hb k) (by rw [cell_at hb]; rfl) (by rw [cell_at hb]; rfl)).mono ?_
  rintro e w' ⟨u, rfl, hk, hr⟩
  refine ⟨u, rfl, k.trans hk, ?_⟩
  unfold RdO
  rw [List.length_append, List.flatMap_append]
  exact hr
theorem chainL_cons (ks h : List Int) (o : Int × Int) (r : List (Int × Int)) : chainL ks h (o :: r) = match oneL ks h o.1 o.2 with
  | none => none
  | some h' => chainL ks h' r := rfl
theorem chain_app (ks : List Int) : ∀ (a b : List (Int × Int)) (h : List Int), chainL ks h (a ++ b) = (chainL ks h a).bind fun y => chainL ks y b
  | [], b, h => rfl
  | o :: r, b, h => by
    rw [List.cons_append, chainL_cons, chainL_cons]
    cases oneL ks h o.1 o.2 with
    | none => rfl
    | some h' => exact chain_app ks r b h'
/-- What comes of a header that may be may be. -/
theorem chainR_valid (ks : List Int) : ∀ (c : List (Int × Int)) (h y : List Int), validL ks h = true → chainR ks h c = some y → validL ks y = true
  | [], h, y, hv, e => by obtain rfl := Option.some.inj e; exact hv
  | o :: r, h, y, hv, e => by
    unfold chainR at e
    cases hn : nextR ks h o.1 o.2 with
    | none => rw [hn] at e; cases e
    | some n =>
      rw [hn] at e
      simp only at e
      cases hvn : validL ks n with
      | false => rw [hvn] at e; simp at e
      | true => rw [hvn, if_pos rfl] at e; exact chainR_valid ks r n y hvn e
theorem do_valid {ks h : List Int} {c : List (Int × Int)} {y : List Int} (e : doL ks h c = some y) : validL ks h = true ∧ validL ks y = true := by
  rw [← refDo_eq] at e
  unfold refDoL at e
  cases hv : validL ks h with
  | false => rw [hv] at e; simp at e
  | true => rw [hv, if_pos rfl] at e; exact ⟨rfl, chainR_valid ks c h y hv e⟩
theorem do_app (ks h : List Int) (a b : List (Int × Int)) : doL ks h (a ++ b) = match doL ks h a with
    | none => none
    | some y => doL ks y b := by
  cases hy : doL ks h a with
  | none =>
    unfold doL at hy ⊢
    cases hv : validL ks h with
    | false => simp
    | true =>
      rw [hv, if_pos rfl] at hy
      rw [if_pos rfl, chain_app, hy]
      rfl
  | some y =>
    have hv := do_valid hy
    unfold doL at hy ⊢
    rw [hv.1, if_pos rfl] at hy
    rw [hv.1, if_pos rfl, chain_app, hy]
    simp only [hv.2, if_true]
    rfl
theorem chainL_len (ks : List Int) : ∀ (c : List (Int × Int)) (h y : List Int), chainL ks h c = some y → y.length ≤ h.length + c.length
  | [], h, y, e => by obtain rfl := Option.some.inj e; simp
  | o :: r, h, y, e => by
    unfold chainL at e
    cases hn : oneL ks h o.1 o.2 with
    | none => rw [hn] at e; cases e
    | some n =>
      rw [hn] at e
      have h1 := chainL_len ks r n y e
      have h2 := (oneL_len hn).1
      simp only [List.length_cons]
      omega
theorem do_len {ks h : List Int} {c : List (Int × Int)} {y : List Int} (e : doL ks h c = some y) : y.length ≤ h.length + c.length := by
  have hv := do_valid e
  unfold doL at e
  rw [hv.1, if_pos rfl] at e
  exact chainL_len ks c h y e
end Go.Proofs.YtdhcnmljkmodhaaDoor

/- The plain law of OpsCheck: what is known of a header is what its runs may have come to. No program is in sight. -/
namespace Go.Proofs.YtdhcnmljkmodhaaDoor
set_option linter.unusedSectionVars false
set_option linter.unusedVariables false
set_option linter.unusedSimpArgs false
set_option maxRecDepth 20000

/-- A header that may be, by its kinds. -/
def vK : List Int → Bool
  | [] => false
  | [x] => x == 1
  | x :: y :: r => mayL x y && vK (y :: r)
theorem validL_vK (ks : List Int) : ∀ h : List Int, validL ks h = vK (h.map (kindL ks))
  | [] => rfl
  | [x] => rfl
  | x :: y :: r => by
    have ih := validL_vK ks (y :: r)
    simp only [validL, List.map_cons, vK] at ih ⊢
    rw [ih]
    cases hm : mayL (kindL ks x) (kindL ks y) with
    | false => simp
    | true =>
      have := (mayL_iff _ _).1 hm
      have hne : (kindL ks x != 0) = true := by rw [bne_iff_ne]; omega
      rw [hne]; rfl
theorem vK_tail {x : Int} {r : List Int} (h : vK (x :: r) = true) (hr : r ≠ []) : vK r = true := by
  cases r with
  | nil => exact absurd rfl hr
  | cons y r => simp only [vK, Bool.and_eq_true] at h; exact h.2
theorem vK_top {x y : Int} {r : List Int} (h : vK (x :: y :: r) = true) : mayL x y = true := by
  simp only [vK, Bool.and_eq_true] at h; exact h.1
theorem vK_one {r : List Int} (h : vK (1 :: r) = true) : r = [] := by
  cases r with
  | nil => rfl
  | cons y r =>
    have := (mayL_iff _ _).1 (vK_top h)
    omega
theorem vK_cons {x y : Int} {r : List Int} (h : vK (y :: r) = true) (hm : mayL x y = true) : vK (x :: y :: r) = true := by
  simp only [vK, hm, Bool.true_and]; exact h
theorem vK_ne {r : List Int} (h : vK r = true) : r ≠ [] := by rintro rfl; cases h
theorem vK_range : ∀ {r : List Int}, vK r = true → ∀ x ∈ r, x = 1 ∨ x = 2 ∨ x = 3
  | [], h, x, hx => by cases hx
  | [y], h, x, hx => by
    obtain rfl := List.mem_singleton.1 hx
    simp only [vK, beq_iff_eq] at h
    exact .inl h
  | y :: z :: r, h, x, hx => by
    rcases List.mem_cons.1 hx with rfl | hx
    · have := (mayL_iff _ _).1 (vK_top h)
      omega
    · exact vK_range (vK_tail h (by simp)) x hx

/-- An op done to a header, by the kinds. -/
def oneK : List Int → Int → Int → Option (List Int)
  | [], _, _ => none
  | a :: t, k, own => if k = 1 then (if t = [] then none else some t) else if k = 2 then (if own = a then some (own :: t) else none)
    else if k = 3 then (if mayL own a then some (own :: a :: t) else none) else none
theorem oneK_cons (a : Int) (t : List Int) (k own : Int) : oneK (a :: t) k own = if k = 1 then (if t = [] then none else some t) else if k = 2 then (if own = a then some (own :: t) else none)
    else if k = 3 then (if mayL own a then some (own :: a :: t) else none) else none := rfl
theorem oneL_K (ks h : List Int) (k x : Int) : (oneL ks h k x).map (List.map (kindL ks)) = oneK (h.map (kindL ks)) k (kindL ks x) := by
  cases h with
  | nil => rfl
  | cons a t =>
    rw [oneL_cons, List.map_cons, oneK_cons]
    by_cases h1 : k = 1
    · rw [if_pos h1, if_pos h1]
      by_cases ht : t = []
      · rw [if_pos ht, if_pos (by rw [ht]; rfl)]; rfl
      · rw [if_neg ht, if_neg (by simpa using ht)]; rfl
    · rw [if_neg h1, if_neg h1]
      by_cases h2 : k = 2
      · rw [if_pos h2, if_pos h2]
        by_cases hk : kindL ks x = kindL ks a
        · rw [if_pos hk, if_pos hk]; rfl
        · rw [if_neg hk, if_neg hk]; rfl
      · rw [if_neg h2, if_neg h2]
        by_cases h3 : k = 3
        · rw [if_pos h3, if_pos h3]
          cases mayL (kindL ks x) (kindL ks a) <;> rfl
        · rw [if_neg h3, if_neg h3]; rfl
theorem oneK_valid {v v' : List Int} {k own : Int} (hv : vK v = true) (e : oneK v k own = some v') : vK v' = true := by
  cases v with
  | nil => cases e
  | cons a t =>
    rw [oneK_cons] at e
    by_cases h1 : k = 1
    · rw [if_pos h1] at e
      by_cases ht : t = []
      · rw [if_pos ht] at e; cases e
      · rw [if_neg ht] at e; obtain rfl := Option.some.inj e; exact vK_tail hv ht
    · rw [if_neg h1] at e
      by_cases h2 : k = 2
      · rw [if_pos h2] at e
        by_cases hk : own = a
        · rw [if_pos hk] at e; obtain rfl := Option.some.inj e; rw [hk]; exact hv
        · rw [if_neg hk] at e; cases e
      · rw [if_neg h2] at e
        by_cases h3 : k = 3
        · rw [if_pos h3] at e
          cases hm : mayL own a with
          | false => rw [hm] at e; cases e
          | true => rw [hm, if_pos rfl] at e; obtain rfl := Option.some.inj e; exact vK_cons hv hm
        · rw [if_neg h3] at e; cases e
def chainK : List Int → List (Int × Int) → Option (List Int)
  | h, [] => some h
  | h, o :: r => match oneK h o.1 o.2 with
    | none => none
    | some h' => chainK h' r
def opsK (ks : List Int) (c : List (Int × Int)) : List (Int × Int) := c.map fun o => (o.1, kindL ks o.2)
theorem chainL_K (ks : List Int) : ∀ (c : List (Int × Int)) (h : List Int), (chainL ks h c).map (List.map (kindL ks)) = chainK (h.map (kindL ks)) (opsK ks c)
  | [], h => rfl
  | o :: r, h => by
    have h1 := oneL_K ks h o.1 o.2
    unfold chainL opsK chainK
    rw [List.map_cons]
    simp only
    rw [← h1]
    cases hn : oneL ks h o.1 o.2 with
    | none => rfl
    | some n => exact chainL_K ks r n
theorem chainK_cons (h : List Int) (o : Int × Int) (r : List (Int × Int)) : chainK h (o :: r) = match oneK h o.1 o.2 with
  | none => none
  | some h' => chainK h' r := rfl
theorem chainK_app : ∀ (a b : List (Int × Int)) (h : List Int), chainK h (a ++ b) = (chainK h a).bind fun y => chainK y b
  | [], b, h => rfl
  | o :: r, b, h => by
    rw [List.cons_append, chainK_cons, chainK_cons]
    cases oneK h o.1 o.2 with
    | none => rfl
    | some h' => exact chainK_app r b h'
theorem chainK_one (h : List Int) (o : Int × Int) : chainK h [o] = oneK h o.1 o.2 := by
  unfold chainK
  cases oneK h o.1 o.2 <;> rfl
/-- What lies deeper than a chain may dig makes no difference. -/
theorem chainK_deep : ∀ (c : List (Int × Int)) (A u u' : List Int), c.length + 1 ≤ A.length → (chainK (A ++ u) c).isSome = (chainK (A ++ u') c).isSome
  | [], A, u, u', _ => rfl
  | o :: r, A, u, u', hl => by
    simp only [List.length_cons] at hl
    match A, hl with
    | a :: b :: A, hl =>
      simp only [List.length_cons] at hl
      unfold chainK
      simp only [List.cons_append]
      rw [oneK_cons, oneK_cons]
      by_cases h1 : o.1 = 1
      · rw [if_pos h1, if_pos h1, if_neg (by simp), if_neg (by simp)]
        exact chainK_deep r (b :: A) u u' (by simp only [List.length_cons]; omega)
      · rw [if_neg h1, if_neg h1]
        by_cases h2 : o.1 = 2
        · rw [if_pos h2, if_pos h2]
          by_cases hk : o.2 = a
          · rw [if_pos hk, if_pos hk]
            exact chainK_deep r (o.2 :: b :: A) u u' (by simp only [List.length_cons]; omega)
          · rw [if_neg hk, if_neg hk]
        · rw [if_neg h2, if_neg h2]
          by_cases h3 : o.1 = 3
          · rw [if_pos h3, if_pos h3]
            cases mayL o.2 a with
            | false => rfl
            | true => exact chainK_deep r (o.2 :: a :: b :: A) u u' (by simp only [List.length_cons]; omega)
          · rw [if_neg h3, if_neg h3]

/-- A set of kinds. -/
def TS (a b c : Bool) : BSet := ⟨BitVec.ofNat 64 ((if a then 2 else 0) + (if b then 4 else 0) + (if c then 8 else 0)), 0⟩
def inT (a b c : Bool) (x : Int) : Prop := (x = 1 ∧ a = true) ∨ (x = 2 ∧ b = true) ∨ (x = 3 ∧ c = true)
theorem ts_one : ofL [1] = TS true false false := by kernel_rfl
theorem ts_two : ofL [2] = TS false true false := by kernel_rfl
theorem ts_three : ofL [3] = TS false false true := by kernel_rfl
theorem ts_below1 : belowS 1 = TS false false false := by kernel_rfl
theorem ts_below2 : belowS 2 = TS true false false := by kernel_rfl
theorem ts_below3 : belowS 3 = TS false true true := by kernel_rfl
theorem ts_and (a b c x y z : Bool) : (TS a b c).and (TS x y z) = TS (a && x) (b && y) (c && z) := by
  cases a <;> cases b <;> cases c <;> cases x <;> cases y <;> cases z <;> kernel_rfl
theorem ts_without (a b c : Bool) : (TS a b c).withoutN 1 = TS false b c := by
  cases a <;> cases b <;> cases c <;> kernel_rfl
theorem ts_empty (a b c : Bool) : (TS a b c).isEmpty = !(a || b || c) := by
  cases a <;> cases b <;> cases c <;> kernel_rfl
theorem ts_below (b c : Bool) : belowAll ((TS false b c).mem) = TS b c c := by
  cases b <;> cases c <;> kernel_rfl
end Go.Proofs.YtdhcnmljkmodhaaDoor

/- What is known of a header, behind each op, is just what the runs so far may have come to. -/
namespace Go.Proofs.YtdhcnmljkmodhaaDoor
set_option linter.unusedSectionVars false
set_option linter.unusedVariables false
set_option linter.unusedSimpArgs false
set_option maxRecDepth 20000

/-- What is known, as the program keeps it. -/
def Kn (S : List Int) (a b c : Bool) : List BSet := S.map (fun s => ofL [s]) ++ [TS a b c]
def topIn (a b c : Bool) (u : List Int) : Prop := ∃ t r, u = t :: r ∧ inT a b c t
structure KInv (R : List Int → Prop) (S : List Int) (a b c : Bool) : Prop where
  iff : ∀ v, R v ↔ ∃ u, vK u = true ∧ topIn a b c u ∧ v = S ++ u
  some : (a || b || c) = true
  may : ∀ v, R v → vK v = true
theorem topIn_ex {a b c : Bool} (h : (a || b || c) = true) : ∃ u, vK u = true ∧ topIn a b c u := by
  cases a with
  | true => exact ⟨[1], rfl, 1, [], rfl, .inl ⟨rfl, rfl⟩⟩
  | false =>
    cases b with
    | true => exact ⟨[2, 1], rfl, 2, [1], rfl, .inr (.inl ⟨rfl, rfl⟩)⟩
    | false =>
      cases c with
      | true => exact ⟨[3, 2, 1], rfl, 3, [2, 1], rfl, .inr (.inr ⟨rfl, rfl⟩)⟩
      | false => cases h
theorem KInv.ex {R : List Int → Prop} {S : List Int} {a b c : Bool} (h : KInv R S a b c) : ∃ v, R v := by
  obtain ⟨u, h1, h2⟩ := topIn_ex h.some
  exact ⟨S ++ u, (h.iff _).2 ⟨u, h1, h2, rfl⟩⟩
/-- What may come of an op. -/
def Rn (R : List Int → Prop) (k own : Int) : List Int → Prop := fun v' => ∃ v, R v ∧ oneK v k own = some v'
theorem Rn.may {R : List Int → Prop} {k own : Int} (h : ∀ v, R v → vK v = true) : ∀ v, Rn R k own v → vK v = true := by
  rintro v ⟨v0, h0, e⟩
  exact oneK_valid (h v0 h0) e
theorem doneL_cons (s : BSet) (r : List BSet) (own kind : Int) : doneL (s :: r) own kind = (if kind = 1 then (match poppedL (s :: r) with | none => (9, []) | some l => (0, l))
    else if kind = 2 then (if own = 0 then (2, []) else if (s.and (ofL [own])).isEmpty then (9, []) else (0, s.and (ofL [own]) :: r))
    else if kind = 3 then (if own = 0 then (2, []) else if (s.and (belowS own)).isEmpty then (9, []) else (0, ofL [own] :: s.and (belowS own) :: r))
    else (2, []) : Int × List BSet) := rfl
theorem poppedL_cons (s : BSet) (r : List BSet) : poppedL (s :: r) = if (s.withoutN 1).isEmpty then none else if r = [] then some [belowAll (s.withoutN 1).mem] else some r := rfl
/-- The sets of one kind. -/
def T1 (x : Int) : Bool := decide (x = 1)
def T2 (x : Int) : Bool := decide (x = 2)
def T3 (x : Int) : Bool := decide (x = 3)
theorem ts_of {x : Int} (h : x = 1 ∨ x = 2 ∨ x = 3) : ofL [x] = TS (T1 x) (T2 x) (T3 x) := by
  rcases h with rfl | rfl | rfl <;> kernel_rfl
theorem ts_bel {x : Int} (h : x = 1 ∨ x = 2 ∨ x = 3) : belowS x = TS (T2 x) (T3 x) (T3 x) := by
  rcases h with rfl | rfl | rfl <;> kernel_rfl

theorem ne_of {x : Int} (h : x = 1 ∨ x = 2 ∨ x = 3) : ¬ (ofL [x]).isEmpty = true := by
  have e : (ofL [x]).isEmpty = false := by rcases h with rfl | rfl | rfl <;> kernel_rfl
  rw [e]; decide
theorem ne_wo {x : Int} (h : x = 2 ∨ x = 3) : ¬ ((ofL [x]).withoutN 1).isEmpty = true := by
  have e : ((ofL [x]).withoutN 1).isEmpty = false := by rcases h with rfl | rfl <;> kernel_rfl
  rw [e]; decide
theorem set_push {s own : Int} (h3 : own = 3) (h : s = 2 ∨ s = 3) : TS (T1 s && T2 own) (T2 s && T3 own) (T3 s && T3 own) = ofL [s] := by
  rcases h with rfl | rfl <;> rw [h3] <;> kernel_rfl
theorem step_single {R : List Int → Prop} {s : Int} {S : List Int} {a b c : Bool} (h : KInv R (s :: S) a b c) (k own : Int) (hk : k = 1 ∨ k = 2 ∨ k = 3) (ho : k ≠ 1 → own = 1 ∨ own = 2 ∨ own = 3) :
    (doneL (Kn (s :: S) a b c) own k = (9, []) ∧ ∀ v, ¬ Rn R k own v) ∨ ∃ S' a' b' c', doneL (Kn (s :: S) a b c) own k = (0, Kn S' a' b' c') ∧ KInv (Rn R k own) S' a' b' c' := by
  have hs : s = 2 ∨ s = 3 := by
    obtain ⟨u, h1, h2⟩ := topIn_ex h.some
    have hv := h.may _ ((h.iff _).2 ⟨u, h1, h2, rfl⟩)
    have hne : S ++ u ≠ [] := by
      intro e
      exact vK_ne h1 (List.append_eq_nil_iff.1 e).2
    obtain ⟨y, r, hy⟩ := List.exists_cons_of_ne_nil hne
    rw [List.cons_append, hy] at hv
    have := (mayL_iff _ _).1 (vK_top hv)
    omega
  have hs3 : s = 1 ∨ s = 2 ∨ s = 3 := .inr hs
  have hKn : Kn (s :: S) a b c = ofL [s] :: Kn S a b c := rfl
  have hK0 : Kn S a b c ≠ [] := by unfold Kn; simp
  rw [hKn, doneL_cons]
  rcases hk with rfl | rfl | rfl
  · right
    refine ⟨S, a, b, c, ?_, ?_, h.some, Rn.may h.may⟩
    · rw [if_pos rfl, poppedL_cons, if_neg (ne_wo hs), if_neg hK0]
    · intro v
      constructor
      · rintro ⟨v0, h0, e⟩
        obtain ⟨u, h1, h2, rfl⟩ := (h.iff _).1 h0
        rw [List.cons_append, oneK_cons, if_pos rfl] at e
        split at e
        · cases e
        · obtain rfl := Option.some.inj e; exact ⟨u, h1, h2, rfl⟩
      · rintro ⟨u, h1, h2, rfl⟩
        refine ⟨s :: S ++ u, (h.iff _).2 ⟨u, h1, h2, rfl⟩, ?_⟩
        rw [List.cons_append, oneK_cons, if_pos rfl, if_neg]
        intro e
        exact vK_ne h1 (List.append_eq_nil_iff.1 e).2
  · have hown := ho (by decide)
    have ho0 : own ≠ 0 := by omega
    rw [if_neg (by decide), if_pos rfl, if_neg ho0, ts_of hs3, ts_of hown, ts_and]
    by_cases he : own = s
    · subst he
      right
      refine ⟨own :: S, a, b, c, ?_, ?_, h.some, Rn.may h.may⟩
      · have e1 : ∀ x : Bool, (x && x) = x := fun x => by cases x <;> rfl
        rw [e1, e1, e1, ← ts_of hown, if_neg (ne_of hown)]
        rfl
      · intro v
        constructor
        · rintro ⟨v0, h0, e⟩
          obtain ⟨u, h1, h2, rfl⟩ := (h.iff _).1 h0
          rw [List.cons_append, oneK_cons, if_neg (by decide), if_pos rfl, if_pos rfl] at e
          obtain rfl := Option.some.inj e
          exact ⟨u, h1, h2, rfl⟩
        · rintro ⟨u, h1, h2, rfl⟩
          refine ⟨own :: S ++ u, (h.iff _).2 ⟨u, h1, h2, rfl⟩, ?_⟩
          rw [List.cons_append, oneK_cons, if_neg (by decide), if_pos rfl, if_pos rfl]
    · left
      refine ⟨?_, ?_⟩
      · rw [if_pos]
        rw [ts_empty]
        unfold T1 T2 T3
        rcases hs3 with rfl | rfl | rfl <;> rcases hown with rfl | rfl | rfl <;> first | rfl | exact absurd rfl he
      · rintro v ⟨v0, h0, e⟩
        obtain ⟨u, h1, h2, rfl⟩ := (h.iff _).1 h0
        rw [List.cons_append, oneK_cons, if_neg (by decide), if_pos rfl, if_neg he] at e
        cases e
  · have hown := ho (by decide)
    have ho0 : own ≠ 0 := by omega
    rw [if_neg (by decide), if_neg (by decide), if_pos rfl, if_neg ho0, ts_of hs3, ts_bel hown, ts_and]
    cases hm : mayL own s with
    | true =>
      have hset : TS (T1 s && T2 own) (T2 s && T3 own) (T3 s && T3 own) = ofL [s] := by
        have := (mayL_iff _ _).1 hm
        exact set_push (by omega) hs
      right
      refine ⟨own :: s :: S, a, b, c, ?_, ?_, h.some, Rn.may h.may⟩
      · rw [hset, if_neg (ne_of hs3)]
        rfl
      · intro v
        constructor
        · rintro ⟨v0, h0, e⟩
          obtain ⟨u, h1, h2, rfl⟩ := (h.iff _).1 h0
          rw [List.cons_append, oneK_cons, if_neg (by decide), if_neg (by decide), if_pos rfl, hm, if_pos rfl] at e
          obtain rfl := Option.some.inj e
          exact ⟨u, h1, h2, rfl⟩
        · rintro ⟨u, h1, h2, rfl⟩
          refine ⟨s :: S ++ u, (h.iff _).2 ⟨u, h1, h2, rfl⟩, ?_⟩
          rw [List.cons_append, oneK_cons, if_neg (by decide), if_neg (by decide), if_pos rfl, hm, if_pos rfl]
          rfl
    | false =>
      left
      refine ⟨?_, ?_⟩
      · rw [if_pos]
        rw [ts_empty]
        unfold T1 T2 T3
        rcases hs with rfl | rfl <;> rcases hown with rfl | rfl | rfl <;> first | rfl | (exfalso; revert hm; decide)
      · rintro v ⟨v0, h0, e⟩
        obtain ⟨u, h1, h2, rfl⟩ := (h.iff _).1 h0
        rw [List.cons_append, oneK_cons, if_neg (by decide), if_neg (by decide), if_pos rfl, hm] at e
        cases e

theorem inT_range {a b c : Bool} {x : Int} (h : inT a b c x) : x = 1 ∨ x = 2 ∨ x = 3 := by
  rcases h with ⟨h, _⟩ | ⟨h, _⟩ | ⟨h, _⟩ <;> omega
theorem step_top {R : List Int → Prop} {a b c : Bool} (h : KInv R [] a b c) (k own : Int) (hk : k = 1 ∨ k = 2 ∨ k = 3) (ho : k ≠ 1 → own = 1 ∨ own = 2 ∨ own = 3) :
    (doneL (Kn [] a b c) own k = (9, []) ∧ ∀ v, ¬ Rn R k own v) ∨ ∃ S' a' b' c', doneL (Kn [] a b c) own k = (0, Kn S' a' b' c') ∧ KInv (Rn R k own) S' a' b' c' := by
  have hKn : Kn [] a b c = [TS a b c] := rfl
  have hR : ∀ v, R v ↔ vK v = true ∧ topIn a b c v := fun v => by
    rw [h.iff]
    constructor
    · rintro ⟨u, h1, h2, rfl⟩; exact ⟨h1, h2⟩
    · rintro ⟨h1, h2⟩; exact ⟨v, h1, h2, rfl⟩
  rw [hKn, doneL_cons]
  rcases hk with rfl | rfl | rfl
  · rw [if_pos rfl, poppedL_cons, ts_without, ts_empty, ts_below]
    cases hbc : (b || c) with
    | false =>
      left
      obtain ⟨rfl, rfl⟩ : b = false ∧ c = false := by cases b <;> cases c <;> simp_all
      refine ⟨rfl, ?_⟩
      rintro v ⟨v0, h0, e⟩
      obtain ⟨h1, t, r, rfl, ht⟩ := (hR _).1 h0
      have ht1 : t = 1 := by
        rcases ht with ⟨h, _⟩ | ⟨_, h⟩ | ⟨_, h⟩
        · exact h
        · cases h
        · cases h
      subst ht1
      obtain rfl := vK_one h1
      rw [oneK_cons, if_pos rfl, if_pos rfl] at e
      cases e
    | true =>
      right
      refine ⟨[], b, c, c, ?_, ?_, by cases b <;> cases c <;> simp_all, Rn.may h.may⟩
      · have e0 : (!(false || b || c)) = false := by cases b <;> cases c <;> simp_all
        rw [e0]
        rfl
      · intro v
        constructor
        · rintro ⟨v0, h0, e⟩
          obtain ⟨h1, t, r, rfl, ht⟩ := (hR _).1 h0
          rw [oneK_cons, if_pos rfl] at e
          split at e
          · cases e
          · rename_i hr
            obtain rfl := Option.some.inj e
            obtain ⟨y, r2, rfl⟩ := List.exists_cons_of_ne_nil hr
            refine ⟨y :: r2, vK_tail h1 hr, ⟨y, r2, rfl, ?_⟩, rfl⟩
            have hm := (mayL_iff _ _).1 (vK_top h1)
            rcases ht with ⟨ht, hb⟩ | ⟨ht, hb⟩ | ⟨ht, hb⟩
            · omega
            · exact .inl ⟨by omega, hb⟩
            · rcases hm with ⟨_, hm | hm⟩ | ⟨hm, _⟩
              · exact .inr (.inr ⟨hm, hb⟩)
              · exact .inr (.inl ⟨hm, hb⟩)
              · omega
        · rintro ⟨u, h1, ⟨y, r, rfl, hy⟩, rfl⟩
          rw [List.nil_append]
          rcases hy with ⟨rfl, hb⟩ | ⟨rfl, hb⟩ | ⟨rfl, hb⟩
          · exact ⟨2 :: 1 :: r, (hR _).2 ⟨vK_cons h1 rfl, 2, _, rfl, .inr (.inl ⟨rfl, hb⟩)⟩, rfl⟩
          · exact ⟨3 :: 2 :: r, (hR _).2 ⟨vK_cons h1 rfl, 3, _, rfl, .inr (.inr ⟨rfl, hb⟩)⟩, rfl⟩
          · exact ⟨3 :: 3 :: r, (hR _).2 ⟨vK_cons h1 rfl, 3, _, rfl, .inr (.inr ⟨rfl, hb⟩)⟩, rfl⟩
  · have hown := ho (by decide)
    have ho0 : own ≠ 0 := by omega
    rw [if_neg (by decide), if_pos rfl, if_neg ho0, ts_of hown, ts_and, ts_empty]
    cases he : (a && T1 own || b && T2 own || c && T3 own) with
    | false =>
      left
      refine ⟨rfl, ?_⟩
      rintro v ⟨v0, h0, e⟩
      obtain ⟨h1, t, r, rfl, ht⟩ := (hR _).1 h0
      rw [oneK_cons, if_neg (by decide), if_pos rfl] at e
      split at e
      · rename_i hot
        subst hot
        unfold T1 T2 T3 at he
        rcases ht with ⟨rfl, hb⟩ | ⟨rfl, hb⟩ | ⟨rfl, hb⟩ <;> simp [hb] at he
      · cases e
    | true =>
      right
      refine ⟨[], a && T1 own, b && T2 own, c && T3 own, rfl, ?_, he, Rn.may h.may⟩
      intro v
      constructor
      · rintro ⟨v0, h0, e⟩
        obtain ⟨h1, t, r, rfl, ht⟩ := (hR _).1 h0
        rw [oneK_cons, if_neg (by decide), if_pos rfl] at e
        split at e
        · rename_i hot
          subst hot
          obtain rfl := Option.some.inj e
          refine ⟨own :: r, h1, ⟨own, r, rfl, ?_⟩, rfl⟩
          unfold T1 T2 T3
          rcases ht with ⟨rfl, hb⟩ | ⟨rfl, hb⟩ | ⟨rfl, hb⟩
          · exact .inl ⟨rfl, by simp [hb]⟩
          · exact .inr (.inl ⟨rfl, by simp [hb]⟩)
          · exact .inr (.inr ⟨rfl, by simp [hb]⟩)
        · cases e
      · rintro ⟨u, h1, ⟨y, r, rfl, hy⟩, rfl⟩
        rw [List.nil_append]
        unfold T1 T2 T3 at hy
        have hyo : y = own ∧ inT a b c y := by
          rcases hy with ⟨rfl, hb⟩ | ⟨rfl, hb⟩ | ⟨rfl, hb⟩
          · simp only [Bool.and_eq_true, decide_eq_true_eq] at hb; exact ⟨hb.2.symm, .inl ⟨rfl, hb.1⟩⟩
          · simp only [Bool.and_eq_true, decide_eq_true_eq] at hb; exact ⟨hb.2.symm, .inr (.inl ⟨rfl, hb.1⟩)⟩
          · simp only [Bool.and_eq_true, decide_eq_true_eq] at hb; exact ⟨hb.2.symm, .inr (.inr ⟨rfl, hb.1⟩)⟩
        obtain ⟨rfl, hT⟩ := hyo
        refine ⟨y :: r, (hR _).2 ⟨h1, y, r, rfl, hT⟩, ?_⟩
        rw [oneK_cons, if_neg (by decide), if_pos rfl, if_pos rfl]
  · have hown := ho (by decide)
    have ho0 : own ≠ 0 := by omega
    rw [if_neg (by decide), if_neg (by decide), if_pos rfl, if_neg ho0, ts_bel hown, ts_and, ts_empty]
    have key : ∀ y, inT a b c y → (mayL own y = true ↔ inT (a && T2 own) (b && T3 own) (c && T3 own) y) := fun y hy => by
      rw [mayL_iff]
      unfold inT T2 T3
      simp only [Bool.and_eq_true, decide_eq_true_eq]
      rcases hy with ⟨rfl, hb⟩ | ⟨rfl, hb⟩ | ⟨rfl, hb⟩ <;> simp [hb]
    have back : ∀ y, inT (a && T2 own) (b && T3 own) (c && T3 own) y → inT a b c y := fun y hy => by
      unfold inT at hy ⊢
      simp only [Bool.and_eq_true] at hy
      rcases hy with ⟨h, hb⟩ | ⟨h, hb⟩ | ⟨h, hb⟩
      · exact .inl ⟨h, hb.1⟩
      · exact .inr (.inl ⟨h, hb.1⟩)
      · exact .inr (.inr ⟨h, hb.1⟩)
    cases he : (a && T2 own || b && T3 own || c && T3 own) with
    | false =>
      left
      refine ⟨rfl, ?_⟩
      rintro v ⟨v0, h0, e⟩
      obtain ⟨h1, t, r, rfl, ht⟩ := (hR _).1 h0
      rw [oneK_cons, if_neg (by decide), if_neg (by decide), if_pos rfl] at e
      split at e
      · rename_i hm
        have := (key t ht).1 hm
        generalize (a && T2 own) = x at *
        generalize (b && T3 own) = y at *
        generalize (c && T3 own) = z at *
        rcases this with ⟨_, hb⟩ | ⟨_, hb⟩ | ⟨_, hb⟩ <;> simp [hb] at he
      · cases e
    | true =>
      right
      refine ⟨[own], a && T2 own, b && T3 own, c && T3 own, rfl, ?_, he, Rn.may h.may⟩
      intro v
      constructor
      · rintro ⟨v0, h0, e⟩
        obtain ⟨h1, t, r, rfl, ht⟩ := (hR _).1 h0
        rw [oneK_cons, if_neg (by decide), if_neg (by decide), if_pos rfl] at e
        split at e
        · rename_i hm
          obtain rfl := Option.some.inj e
          exact ⟨t :: r, h1, ⟨t, r, rfl, (key t ht).1 hm⟩, rfl⟩
        · cases e
      · rintro ⟨u, h1, ⟨y, r, rfl, hy⟩, rfl⟩
        have hyT := back y hy
        have hm := (key y hyT).2 hy
        refine ⟨y :: r, (hR _).2 ⟨h1, y, r, rfl, hyT⟩, ?_⟩
        rw [oneK_cons, if_neg (by decide), if_neg (by decide), if_pos rfl, hm, if_pos rfl]
        rfl
theorem KInv.step {R : List Int → Prop} {S : List Int} {a b c : Bool} (h : KInv R S a b c) (k own : Int) (hk : k = 1 ∨ k = 2 ∨ k = 3) (ho : k ≠ 1 → own = 1 ∨ own = 2 ∨ own = 3) :
    (doneL (Kn S a b c) own k = (9, []) ∧ ∀ v, ¬ Rn R k own v) ∨ ∃ S' a' b' c', doneL (Kn S a b c) own k = (0, Kn S' a' b' c') ∧ KInv (Rn R k own) S' a' b' c' := by
  cases S with
  | nil => exact step_top h k own hk ho
  | cons s S => exact step_single h k own hk ho
end Go.Proofs.YtdhcnmljkmodhaaDoor
