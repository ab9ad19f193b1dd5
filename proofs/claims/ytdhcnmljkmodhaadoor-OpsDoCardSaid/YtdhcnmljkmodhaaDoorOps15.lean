/- fairleadref10.Do: the walk; what it comes to is what ops.Do comes to. (Printed by gen_ops15.py.) -/
import Derived.Test.YtdhcnmljkmodhaaDoorOps14
import Derived.Test.YtdhcnmljkmodhaaDoorHeader4
import Derived.Test.YtdhcnmljkmodhaaDoorCls
namespace Go.Proofs.YtdhcnmljkmodhaaDoor
set_option linter.unusedSectionVars false
set_option linter.unusedVariables false
set_option linter.unusedSimpArgs false
set_option maxRecDepth 20000
open Go.RowKit

/-- An op done by the document's words, whatever comes of it. -/
def nextR (ks : List Int) : List Int → Int → Int → Option (List Int)
  | [], _, _ => none
  | a :: t, k, x => if k = 1 then some t else if k = 2 then (if kindL ks x = kindL ks a then some (x :: t) else none) else if k = 3 then some (x :: a :: t) else none
def chainR (ks : List Int) : List Int → List (Int × Int) → Option (List Int)
  | h, [] => some h
  | h, o :: r => match nextR ks h o.1 o.2 with
    | none => none
    | some n => if validL ks n then chainR ks n r else none
def refDoL (ks h : List Int) (c : List (Int × Int)) : Option (List Int) := if validL ks h then chainR ks h c else none
theorem oneL_next (ks : List Int) (h : List Int) (k x : Int) (hv : validL ks h = true) : oneL ks h k x = (nextR ks h k x).filter (validL ks) := by
  cases h with
  | nil => cases hv
  | cons a t =>
    unfold oneL nextR
    simp only
    by_cases h1 : k = 1
    · rw [if_pos h1, if_pos h1]
      cases t with
      | nil => rfl
      | cons b r =>
        have : validL ks (b :: r) = true := by
          simp only [validL, Bool.and_eq_true] at hv
          exact hv.2
        simp [Option.filter, this]
    · rw [if_neg h1, if_neg h1]
      by_cases h2 : k = 2
      · rw [if_pos h2, if_pos h2]
        by_cases hk : kindL ks x = kindL ks a
        · rw [if_pos hk]
          have : validL ks (x :: t) = true := by
            cases t with
            | nil => simp only [validL] at hv ⊢; rw [hk]; exact hv
            | cons b r => simp only [validL] at hv ⊢; rw [hk]; exact hv
          simp [Option.filter, this]
        · rw [if_neg hk]; rfl
      · rw [if_neg h2, if_neg h2]
        by_cases h3 : k = 3
        · rw [if_pos h3, if_pos h3]
          have : validL ks (x :: a :: t) = mayL (kindL ks x) (kindL ks a) := by
            simp only [validL, hv, Bool.and_true]
            cases hm : mayL (kindL ks x) (kindL ks a) with
            | false => simp
            | true =>
              have := (mayL_iff _ _).1 hm
              simp only [Bool.and_true, bne_iff_ne, ne_eq]
              omega
          cases hm : mayL (kindL ks x) (kindL ks a) with
          | false => simp [Option.filter, this, hm]
          | true => simp [Option.filter, this, hm]
        · rw [if_neg h3, if_neg h3]; rfl
theorem chainL_chainR (ks : List Int) : ∀ (c : List (Int × Int)) (h : List Int), validL ks h = true → chainL ks h c = chainR ks h c
  | [], h, _ => rfl
  | o :: r, h, hv => by
    unfold chainL chainR
    rw [oneL_next ks h _ _ hv]
    cases nextR ks h o.1 o.2 with
    | none => rfl
    | some n =>
      cases hn : validL ks n with
      | false => simp [Option.filter, hn]
      | true => simp [Option.filter, hn]; exact chainL_chainR ks r n hn
theorem refDo_eq (ks h : List Int) (c : List (Int × Int)) : refDoL ks h c = doL ks h c := by
  unfold refDoL doL
  split
  · exact (chainL_chainR ks c h (by assumption)).symm
  · rfl
theorem chainR_step (ks h : List Int) (c : List (Int × Int)) (k : Nat) (hk : k < c.length) : chainR ks h (c.drop k) = match nextR ks h c[k].1 c[k].2 with
    | none => none
    | some n => if validL ks n then chainR ks n (c.drop (k + 1)) else none := by
  rw [List.drop_eq_getElem_cons hk]; rfl
theorem nextR_len {ks h n : List Int} {k x : Int} (e : nextR ks h k x = some n) : n.length ≤ h.length + 1 := by
  cases h with
  | nil => cases e
  | cons a t =>
    have e2 : nextR ks (a :: t) k x = if k = 1 then some t else if k = 2 then (if kindL ks x = kindL ks a then some (x :: t) else none) else if k = 3 then some (x :: a :: t) else none := rfl
    rw [e2] at e
    by_cases h1 : k = 1
    · rw [if_pos h1] at e; obtain rfl := Option.some.inj e; simp <;> omega
    · rw [if_neg h1] at e
      by_cases h2 : k = 2
      · rw [if_pos h2] at e
        by_cases hk : kindL ks x = kindL ks a
        · rw [if_pos hk] at e; obtain rfl := Option.some.inj e; simp
        · rw [if_neg hk] at e; cases e
      · rw [if_neg h2] at e
        by_cases h3 : k = 3
        · rw [if_pos h3] at e; obtain rfl := Option.some.inj e; simp
        · rw [if_neg h3] at e; cases e
/-- What the loop knows ahead of round k. -/
structure RdInv (w : World) (ks h : List Int) (c : List (Int × Int)) (k : Nat) (h' : List Int) (v : Value) (wr : World) : Prop where
  rd : ReadsI wr v h'
  same : refDoL ks h c = chainR ks h' (c.drop k)
  may : validL ks h' = true
  len : h'.length ≤ h.length + k
  keep : Keeps w wr (fun _ => False)

set_option maxHeartbeats 8000000 in
theorem refdo_any (w : World) (vk vh vc : Value) (ks h : List Int) (c : List (Int × Int)) (hl : h.length + c.length ≤ 1000) (Hk : ReadsI w vk ks) (Hh : ReadsI w vh h) (Hc : RdO w vc c) :
    Calls Tryd.prog 15 #[vk, vh, vc] w (DoPost w (refDoL ks h c)) := by
  obtain ⟨i0, hi0, hz0, hs0, hb0⟩ := infoInt'
  have II := Lib.hid hi0
  have IZ := Lib.hid hz0
  have IS := Lib.hid hs0
  have IB := Lib.hid hb0
  obtain ⟨ac, capc, rfl, _, hmc⟩ := Hc.form
  have GK := Lib.hid Hk
  have GH := Lib.hid Hh
  have GC := Lib.hid Hc
  clear Hk Hh Hc hmc hi0 hz0 hs0 hb0
  go_enter Tryd.func15, Tryd.ntmps15
  go_wp2_with fail
  refine (refvalid_any w vk vh ks h GK.out GH.out).mono ?_
  rintro e w1 ⟨rfl, hk1⟩
  have K1 := Lib.hid hk1
  clear hk1
  cases hv : validL ks h with
  | false =>
    go_wp2_with fail
    go_ret2
    exact ⟨.slice none 0 0, by simp [refDoL, hv], K1.out, by simp [refDoL, hv]; exact readsNil _⟩
  | true =>
    have HV := Lib.hid hv
    have R1 := Lib.hid (GH.out.keeps K1.out)
    have HS0 : Hid (refDoL ks h c = chainR ks h (c.drop 0)) := Lib.hid (by unfold refDoL; rw [if_pos HV.out]; rfl)
    clear hv
    go_wp2_with fail
    go_loopw [1, 18] (fun v ti wr => ∃ (k : Nat) (h' : List Int), ti = .int .i64 k ∧ k ≤ c.length ∧ RdInv w ks h c k h' v wr) (fun _ ti _ => c.length - (intOf ti).toNat)
    case atStart => exact ⟨0, h, rfl, Nat.zero_le _, R1.out, HS0.out, HV.out, Nat.le_refl _, K1.out⟩
    case round =>
      obtain ⟨k, h', rfl, hk, inv⟩ := hrel
      have I := Lib.hid inv
      clear inv R1 K1 HS0 HV GH
      by_cases hlt : k < c.length
      · obtain ⟨g, off, rfl, hg, hc⟩ := (GC.out.keeps I.out.keep).cell k hlt
        have hc0 := (hc k hlt).1
        have hc1 := (hc k hlt).2
        obtain ⟨a, t, e1⟩ := List.exists_cons_of_ne_nil (validL_ne I.out.may)
        subst e1
        have HS := Lib.hid (chainR_step ks (a :: t) c k hlt)
        have hle := I.out.len
        simp only [List.length_cons] at hle
        clear hc
        generalize c[k].1 = ok at *
        generalize c[k].2 = ox at *
        obtain ⟨ah, caph, e1, hch, hmh⟩ := I.out.rd.form
        subst e1
        obtain ⟨gh, offh, e1, hgh, hcell⟩ := I.out.rd.cell 0 (by simp)
        subst e1
        have hcl : wr.cell? ⟨gh, offh, none⟩ = some (.int .i64 a) := hcell 0 (by simp)
        have KA : Hid (Keeps w (wr.alloc (.cells #[.int .i64 ok, .int .i64 ox] 47)) (fun _ => False)) := Lib.hid (I.out.keep.alloc _)
        have KB : Hid (Keeps wr (wr.alloc (.cells #[.int .i64 ok, .int .i64 ox] 47)) (fun _ => False)) := Lib.hid ((Keeps.refl wr _).alloc _)
        have RA := Lib.hid (I.out.rd.keeps KB.out)
        have BA := Lib.hid (heap_alloc_new wr (.cells #[.int .i64 ok, .int .i64 ox] 47))
        have hcw : (wr.alloc (.cells #[.int .i64 ok, .int .i64 ox] 47)).cell? ⟨gh, offh, none⟩ = some (.int .i64 a) := by rw [← hcl]; exact World.cell?_of_block (KB.out.block _ hgh id)
        have HCW := Lib.hid hcw
        have hbb : (0 : Int) < ((t.length : Int) + 1) := by omega
        clear hcell hcl hmh hch hcw
        go_upto_region 6 with fail
        generalize wr.alloc (.cells #[.int .i64 ok, .int .i64 ox] 47) = W at *
        generalize wr.heap.size = N at *
        go_cut [10] (fun v10 wx => wx = W ∧ wx.ownsRow w.heap.size 3 1 v10 0 [] ∧ v10.ownBlock = none)
        case first =>
          go_wp2_with fail
          go_meet
          exact ⟨rfl, World.ownsRow_nil _ _ _ _, rfl⟩
        obtain ⟨hwc, hown, hnb⟩ := hcut
        have hwc := hwc.symm
        subst hwc
        have O10 := Lib.hid hown
        have OB := Lib.hid hnb
        clear hown hnb
        have y0 : W.cell? ⟨N, 0, none⟩ = some (.int .i64 ok) := by rw [cell_at BA.out]; rfl
        have y1 : W.cell? ⟨N, 1, none⟩ = some (.int .i64 ox) := by rw [cell_at BA.out]; rfl
        clear hc0 hc1
        by_cases k1 : ok = 1
        · subst k1
          by_cases hcp : caph = 1
          · subst hcp
            obtain rfl := RA.out.rest1
            have HRT : Hid (ReadsI W (.slice (some ⟨gh, offh, none⟩) 0 0) []) := Lib.hid (ReadsI.void W _ 0 (Nat.zero_le _))
            go_wp2_with (at_builtin; refine wpList_append_any rfl (.tmp 25) (.tmp 27) 22 22 rfl 3 i0 _ 1 8 Tryd.underlying22 II.out IZ.out IS.out IB.out rfl w.heap.size _ 0 [] rfl O10.out _ 0 (([] : List Int).map (Value.int .i64)) rfl (Src.ofReadsI HRT.out) (by unfold maxLen; omega) (by omega) KA.out.size ?_)
            intro v5 w5 D
            have O5 : Hid (w5.ownsRow w.heap.size 3 1 v5 0 (([] : List Int).map (Value.int .i64))) := Lib.hid (by have h := D.own; simpa [Nat.add_comm] using h)
            have K5 : Hid (Keeps w w5 (fun _ => False)) := Lib.hid (KA.out.grown D.grown (fun k hk hlt => by have := (own_block_ge O10.out k hk).1; omega))
            have K44 : Hid (Keeps _ w5 (fun _ => False)) := Lib.hid ((Keeps.refl _ _).grown D.grown (fun k hk => by rw [OB.out] at hk; cases hk))
            clear D
            have HN : Hid (nextR ks (a :: ([] : List Int)) 1 ox = some []) := Lib.hid (rfl)
            go_wp2_with fail
            refine (refvalid_any _ _ _ ks [] (GK.out.keeps K5.out) (ReadsI.ofOwn (by simp <;> omega) O5.out)).mono ?_
            rintro e w6 ⟨rfl, hk6⟩
            have K6 := Lib.hid (K5.out.trans hk6)
            have R6 : Hid (ReadsI w6 _ []) := Lib.hid ((ReadsI.ofOwn (by simp <;> omega) O5.out).keeps hk6)
            have HL := Lib.hid (nextR_len HN.out)
            clear hk6 K5 O5
            cases hv : validL ks [] with
            | false =>
              have HF : Hid (refDoL ks h c = none) := Lib.hid (by rw [I.out.same, HS.out, HN.out]; simp only; rw [hv]; rfl)
              clear hv
              go_wp2_with fail
              go_ret2
              exact ⟨.slice none 0 0, by rw [HF.out]; rfl, K6.out, by rw [HF.out]; exact readsNil _⟩
            | true =>
              have HV := Lib.hid hv
              have HS2 : Hid (refDoL ks h c = chainR ks [] (c.drop (k + 1))) := Lib.hid (by rw [I.out.same, HS.out, HN.out]; simp only; rw [hv]; rfl)
              clear hv
              go_wp2_with fail
              go_roundw
              case rel =>
                refine ⟨k + 1, [], by go_num, by omega, R6.out, HS2.out, HV.out, ?_, K6.out⟩
                have h1 := HL.out
                have h2 := I.out.len
                omega
              case measure => simp [intOf]; omega
          · have HRT := Lib.hid (RA.out.rest hcp)
            go_wp2_with (at_builtin; refine wpList_append_any rfl (.tmp 25) (.tmp 27) 22 22 rfl 3 i0 _ 1 8 Tryd.underlying22 II.out IZ.out IS.out IB.out rfl w.heap.size _ 0 [] rfl O10.out _ t.length (t.map (Value.int .i64)) rfl (Src.ofReadsI HRT.out) (by unfold maxLen; omega) (by omega) KA.out.size ?_)
            intro v5 w5 D
            have O5 : Hid (w5.ownsRow w.heap.size 3 1 v5 t.length (t.map (Value.int .i64))) := Lib.hid (by have h := D.own; simpa [Nat.add_comm] using h)
            have K5 : Hid (Keeps w w5 (fun _ => False)) := Lib.hid (KA.out.grown D.grown (fun k hk hlt => by have := (own_block_ge O10.out k hk).1; omega))
            have K44 : Hid (Keeps _ w5 (fun _ => False)) := Lib.hid ((Keeps.refl _ _).grown D.grown (fun k hk => by rw [OB.out] at hk; cases hk))
            clear D
            have HN : Hid (nextR ks (a :: t) 1 ox = some t) := Lib.hid (rfl)
            go_wp2_with fail
            refine (refvalid_any _ _ _ ks t (GK.out.keeps K5.out) (ReadsI.ofOwn (by simp <;> omega) O5.out)).mono ?_
            rintro e w6 ⟨rfl, hk6⟩
            have K6 := Lib.hid (K5.out.trans hk6)
            have R6 : Hid (ReadsI w6 _ t) := Lib.hid ((ReadsI.ofOwn (by simp <;> omega) O5.out).keeps hk6)
            have HL := Lib.hid (nextR_len HN.out)
            clear hk6 K5 O5
            cases hv : validL ks t with
            | false =>
              have HF : Hid (refDoL ks h c = none) := Lib.hid (by rw [I.out.same, HS.out, HN.out]; simp only; rw [hv]; rfl)
              clear hv
              go_wp2_with fail
              go_ret2
              exact ⟨.slice none 0 0, by rw [HF.out]; rfl, K6.out, by rw [HF.out]; exact readsNil _⟩
            | true =>
              have HV := Lib.hid hv
              have HS2 : Hid (refDoL ks h c = chainR ks t (c.drop (k + 1))) := Lib.hid (by rw [I.out.same, HS.out, HN.out]; simp only; rw [hv]; rfl)
              clear hv
              go_wp2_with fail
              go_roundw
              case rel =>
                refine ⟨k + 1, t, by go_num, by omega, R6.out, HS2.out, HV.out, ?_, K6.out⟩
                have h1 := HL.out
                have h2 := I.out.len
                omega
              case measure => simp [intOf]; omega
        · by_cases k2 : ok = 2
          · subst k2
            clear k1
            go_upto_region 10 with fail
            have x1 : ∀ x' : Cls W, x'.w.cell? ⟨N, 1, none⟩ = some (.int .i64 ox) := Cls.cell y1
            have xa : ∀ x' : Cls W, x'.w.cell? ⟨gh, offh, none⟩ = some (.int .i64 a) := Cls.cell HCW.out
            have HKW : Hid (∀ x : Cls W, ReadsI x.w vk ks) := Lib.hid (fun x => (GK.out.keeps KA.out).keeps x.keep)
            have Y1 := Lib.hid y1
            clear y0 y1
            refine wp_region_cls (by kernel_rfl) (by kernel_rfl) ?_
            repeat (go_big_quiet_step ((first | (go_at_call 24; exact cls_call_same (refkind_any _ _ ks _ (HKW.out _))))))
            refine wpQuiet_nil ?_
            rintro _ ⟨x5, rfl⟩
            have KX := Lib.hid (KA.out.trans x5.keep)
            have C1 := Cls.cell Y1.out x5
            have RX := Lib.hid (RA.out.keeps x5.keep)
            have OX := Lib.hid (own_keeps O10.out x5.keep (fun j hj => hj.elim))
            clear x1 xa HKW KA KB RA HCW Y1 BA O10
            generalize x5.w = V at *
            have HC1 := Lib.hid C1
            by_cases hkk : kindL ks ox = kindL ks a
            · have hk2 : (kindL ks ox != kindL ks a) = false := by simp [hkk]
              have HKK := Lib.hid hkk
              clear hkk
              have KL : Hid (Keeps V (V.alloc (.cells #[.int .i64 ox] 3)) (fun _ => False)) := Lib.hid ((Keeps.refl V _).alloc _)
              have KVL := Lib.hid (KX.out.trans KL.out)
              have OL := Lib.hid (own_keeps OX.out KL.out (fun j hj => hj.elim))
              have RL : Hid (ReadsI (V.alloc (.cells #[.int .i64 ox] 3)) (.slice (some ⟨V.heap.size, 0, none⟩) 1 1) [ox]) := Lib.hid (ReadsI.lit V [ox] 3 (by simp))
              have RY := Lib.hid (RX.out.keeps KL.out)
              go_wp2_with (at_builtin; refine wpList_append_any rfl (.tmp 42) (.tmp 45) 22 22 rfl 3 i0 _ 1 8 Tryd.underlying22 II.out IZ.out IS.out IB.out rfl w.heap.size _ 0 [] rfl OL.out _ 1 ([ox].map (Value.int .i64)) rfl (Src.ofReadsI RL.out) (by unfold maxLen; omega) (by omega) KVL.out.size ?_)
              intro v4 w4 D
              have O4 : Hid (w4.ownsRow w.heap.size 3 1 v4 ([ox] : List Int).length (([ox] : List Int).map (Value.int .i64))) := Lib.hid (by have h := D.own; simpa [Nat.add_comm] using h)
              have K4 : Hid (Keeps w w4 (fun _ => False)) := Lib.hid (KVL.out.grown D.grown (fun k hk hlt => by have := (own_block_ge OL.out k hk).1; omega))
              have K44 : Hid (Keeps _ w4 (fun _ => False)) := Lib.hid ((Keeps.refl _ _).grown D.grown (fun k hk => by rw [OB.out] at hk; cases hk))
              clear D
              have RZ : Hid (ReadsI w4 (.slice (some ⟨gh, offh, none⟩) (a :: t).length caph) (a :: t)) := Lib.hid (RY.out.keeps K44.out)
              clear RX RY RL KVL KL
              by_cases hcp : caph = 1
              · subst hcp
                obtain rfl := RZ.out.rest1
                have HRT : Hid (ReadsI w4 (.slice (some ⟨gh, offh, none⟩) 0 0) []) := Lib.hid (ReadsI.void w4 _ 0 (Nat.zero_le _))
                go_wp2_with (at_builtin; refine wpList_append_any rfl (.tmp 47) (.tmp 49) 22 22 rfl 3 i0 _ 1 8 Tryd.underlying22 II.out IZ.out IS.out IB.out rfl w.heap.size _ 1 ([ox].map (Value.int .i64)) rfl O4.out _ 0 (([] : List Int).map (Value.int .i64)) rfl (Src.ofReadsI HRT.out) (by unfold maxLen; omega) (by omega) K4.out.size ?_)
                intro v5 w5 D
                have O5 : Hid (w5.ownsRow w.heap.size 3 1 v5 (ox :: ([] : List Int)).length ((ox :: ([] : List Int)).map (Value.int .i64))) := Lib.hid (by have h := D.own; simpa [Nat.add_comm] using h)
                have K5 : Hid (Keeps w w5 (fun _ => False)) := Lib.hid (K4.out.grown D.grown (fun k hk hlt => by have := (own_block_ge O4.out k hk).1; omega))
                clear D
                have HN : Hid (nextR ks (a :: ([] : List Int)) 2 ox = some (ox :: ([] : List Int))) := Lib.hid (by unfold nextR; simp only; rw [if_neg (by decide), if_pos trivial, if_pos HKK.out])
                go_wp2_with fail
                refine (refvalid_any _ _ _ ks (ox :: ([] : List Int)) (GK.out.keeps K5.out) (ReadsI.ofOwn (by simp <;> omega) O5.out)).mono ?_
                rintro e w6 ⟨rfl, hk6⟩
                have K6 := Lib.hid (K5.out.trans hk6)
                have R6 : Hid (ReadsI w6 _ (ox :: ([] : List Int))) := Lib.hid ((ReadsI.ofOwn (by simp <;> omega) O5.out).keeps hk6)
                have HL := Lib.hid (nextR_len HN.out)
                clear hk6 K5 O5
                cases hv : validL ks (ox :: ([] : List Int)) with
                | false =>
                  have HF : Hid (refDoL ks h c = none) := Lib.hid (by rw [I.out.same, HS.out, HN.out]; simp only; rw [hv]; rfl)
                  clear hv
                  go_wp2_with fail
                  go_ret2
                  exact ⟨.slice none 0 0, by rw [HF.out]; rfl, K6.out, by rw [HF.out]; exact readsNil _⟩
                | true =>
                  have HV := Lib.hid hv
                  have HS2 : Hid (refDoL ks h c = chainR ks (ox :: ([] : List Int)) (c.drop (k + 1))) := Lib.hid (by rw [I.out.same, HS.out, HN.out]; simp only; rw [hv]; rfl)
                  clear hv
                  go_wp2_with fail
                  go_roundw
                  case rel =>
                    refine ⟨k + 1, (ox :: ([] : List Int)), by go_num, by omega, R6.out, HS2.out, HV.out, ?_, K6.out⟩
                    have h1 := HL.out
                    have h2 := I.out.len
                    omega
                  case measure => simp [intOf]; omega
              · have HRT := Lib.hid (RZ.out.rest hcp)
                go_wp2_with (at_builtin; refine wpList_append_any rfl (.tmp 47) (.tmp 49) 22 22 rfl 3 i0 _ 1 8 Tryd.underlying22 II.out IZ.out IS.out IB.out rfl w.heap.size _ 1 ([ox].map (Value.int .i64)) rfl O4.out _ t.length (t.map (Value.int .i64)) rfl (Src.ofReadsI HRT.out) (by unfold maxLen; omega) (by omega) K4.out.size ?_)
                intro v5 w5 D
                have O5 : Hid (w5.ownsRow w.heap.size 3 1 v5 (ox :: t).length ((ox :: t).map (Value.int .i64))) := Lib.hid (by have h := D.own; simpa [Nat.add_comm] using h)
                have K5 : Hid (Keeps w w5 (fun _ => False)) := Lib.hid (K4.out.grown D.grown (fun k hk hlt => by have := (own_block_ge O4.out k hk).1; omega))
                clear D
                have HN : Hid (nextR ks (a :: t) 2 ox = some (ox :: t)) := Lib.hid (by unfold nextR; simp only; rw [if_neg (by decide), if_pos trivial, if_pos HKK.out])
                go_wp2_with fail
                refine (refvalid_any _ _ _ ks (ox :: t) (GK.out.keeps K5.out) (ReadsI.ofOwn (by simp <;> omega) O5.out)).mono ?_
                rintro e w6 ⟨rfl, hk6⟩
                have K6 := Lib.hid (K5.out.trans hk6)
                have R6 : Hid (ReadsI w6 _ (ox :: t)) := Lib.hid ((ReadsI.ofOwn (by simp <;> omega) O5.out).keeps hk6)
                have HL := Lib.hid (nextR_len HN.out)
                clear hk6 K5 O5
                cases hv : validL ks (ox :: t) with
                | false =>
                  have HF : Hid (refDoL ks h c = none) := Lib.hid (by rw [I.out.same, HS.out, HN.out]; simp only; rw [hv]; rfl)
                  clear hv
                  go_wp2_with fail
                  go_ret2
                  exact ⟨.slice none 0 0, by rw [HF.out]; rfl, K6.out, by rw [HF.out]; exact readsNil _⟩
                | true =>
                  have HV := Lib.hid hv
                  have HS2 : Hid (refDoL ks h c = chainR ks (ox :: t) (c.drop (k + 1))) := Lib.hid (by rw [I.out.same, HS.out, HN.out]; simp only; rw [hv]; rfl)
                  clear hv
                  go_wp2_with fail
                  go_roundw
                  case rel =>
                    refine ⟨k + 1, (ox :: t), by go_num, by omega, R6.out, HS2.out, HV.out, ?_, K6.out⟩
                    have h1 := HL.out
                    have h2 := I.out.len
                    omega
                  case measure => simp [intOf]; omega
            · have hk2 : (kindL ks ox != kindL ks a) = true := by simp [hkk]
              have HF : Hid (refDoL ks h c = none) := Lib.hid (by rw [I.out.same, HS.out]; unfold nextR; simp only; rw [if_neg (by decide), if_pos trivial, if_neg hkk])
              clear hkk
              go_wp2_with fail
              go_ret2
              exact ⟨.slice none 0 0, by rw [HF.out]; rfl, KX.out, by rw [HF.out]; exact readsNil _⟩
          · by_cases k3 : ok = 3
            · subst k3
              clear k1 k2
              have KL : Hid (Keeps W (W.alloc (.cells #[.int .i64 ox] 3)) (fun _ => False)) := Lib.hid ((Keeps.refl W _).alloc _)
              have KVL := Lib.hid (KA.out.trans KL.out)
              have OL := Lib.hid (own_keeps O10.out KL.out (fun j hj => hj.elim))
              have RL : Hid (ReadsI (W.alloc (.cells #[.int .i64 ox] 3)) (.slice (some ⟨W.heap.size, 0, none⟩) 1 1) [ox]) := Lib.hid (ReadsI.lit W [ox] 3 (by simp))
              have RY := Lib.hid (RA.out.keeps KL.out)
              go_wp2_with (at_builtin; refine wpList_append_any rfl (.tmp 54) (.tmp 57) 22 22 rfl 3 i0 _ 1 8 Tryd.underlying22 II.out IZ.out IS.out IB.out rfl w.heap.size _ 0 [] rfl OL.out _ 1 ([ox].map (Value.int .i64)) rfl (Src.ofReadsI RL.out) (by unfold maxLen; omega) (by omega) KVL.out.size ?_)
              intro v4 w4 D
              have O4 : Hid (w4.ownsRow w.heap.size 3 1 v4 ([ox] : List Int).length (([ox] : List Int).map (Value.int .i64))) := Lib.hid (by have h := D.own; simpa [Nat.add_comm] using h)
              have K4 : Hid (Keeps w w4 (fun _ => False)) := Lib.hid (KVL.out.grown D.grown (fun k hk hlt => by have := (own_block_ge OL.out k hk).1; omega))
              have K44 : Hid (Keeps _ w4 (fun _ => False)) := Lib.hid ((Keeps.refl _ _).grown D.grown (fun k hk => by rw [OB.out] at hk; cases hk))
              clear D
              have RZ : Hid (ReadsI w4 (.slice (some ⟨gh, offh, none⟩) (a :: t).length caph) (a :: t)) := Lib.hid (RY.out.keeps K44.out)
              clear RY RL KVL KL
              go_wp2_with (at_builtin; refine wpList_append_any rfl (.tmp 59) (.tmp 60) 22 22 rfl 3 i0 _ 1 8 Tryd.underlying22 II.out IZ.out IS.out IB.out rfl w.heap.size _ 1 ([ox].map (Value.int .i64)) rfl O4.out _ (t.length + 1) ((a :: t).map (Value.int .i64)) rfl (Src.ofReadsI RZ.out) (by unfold maxLen; omega) (by omega) K4.out.size ?_)
              intro v5 w5 D
              have O5 : Hid (w5.ownsRow w.heap.size 3 1 v5 (ox :: a :: t).length ((ox :: a :: t).map (Value.int .i64))) := Lib.hid (by have h := D.own; simpa [Nat.add_comm] using h)
              have K5 : Hid (Keeps w w5 (fun _ => False)) := Lib.hid (K4.out.grown D.grown (fun k hk hlt => by have := (own_block_ge O4.out k hk).1; omega))
              clear D
              have HN : Hid (nextR ks (a :: t) 3 ox = some (ox :: a :: t)) := Lib.hid (rfl)
              go_wp2_with fail
              refine (refvalid_any _ _ _ ks (ox :: a :: t) (GK.out.keeps K5.out) (ReadsI.ofOwn (by simp <;> omega) O5.out)).mono ?_
              rintro e w6 ⟨rfl, hk6⟩
              have K6 := Lib.hid (K5.out.trans hk6)
              have R6 : Hid (ReadsI w6 _ (ox :: a :: t)) := Lib.hid ((ReadsI.ofOwn (by simp <;> omega) O5.out).keeps hk6)
              have HL := Lib.hid (nextR_len HN.out)
              clear hk6 K5 O5
              cases hv : validL ks (ox :: a :: t) with
              | false =>
                have HF : Hid (refDoL ks h c = none) := Lib.hid (by rw [I.out.same, HS.out, HN.out]; simp only; rw [hv]; rfl)
                clear hv
                go_wp2_with fail
                go_ret2
                exact ⟨.slice none 0 0, by rw [HF.out]; rfl, K6.out, by rw [HF.out]; exact readsNil _⟩
              | true =>
                have HV := Lib.hid hv
                have HS2 : Hid (refDoL ks h c = chainR ks (ox :: a :: t) (c.drop (k + 1))) := Lib.hid (by rw [I.out.same, HS.out, HN.out]; simp only; rw [hv]; rfl)
                clear hv
                go_wp2_with fail
                go_roundw
                case rel =>
                  refine ⟨k + 1, (ox :: a :: t), by go_num, by omega, R6.out, HS2.out, HV.out, ?_, K6.out⟩
                  have h1 := HL.out
                  have h2 := I.out.len
                  omega
                case measure => simp [intOf]; omega
            · have q1 : (ok == 1) = false := beq_eq_false_iff_ne.2 k1
              have q2 : (ok == 2) = false := beq_eq_false_iff_ne.2 k2
              have q3 : (ok == 3) = false := beq_eq_false_iff_ne.2 k3
              have HF : Hid (refDoL ks h c = none) := Lib.hid (by rw [I.out.same, HS.out]; unfold nextR; simp only; rw [if_neg k1, if_neg k2, if_neg k3])
              go_wp2_with fail
              go_ret2
              exact ⟨.slice none 0 0, by rw [HF.out]; rfl, KA.out, by rw [HF.out]; exact readsNil _⟩
      · have hk' : k = c.length := by omega
        subst hk'
        have HF : Hid (refDoL ks h c = some h') := Lib.hid (by rw [I.out.same, List.drop_eq_nil_of_le (Nat.le_refl _)]; rfl)
        have hle := I.out.len
        have KI := Lib.hid I.out.keep
        have RI := Lib.hid I.out.rd
        go_wp2_with (at_builtin; refine wpList_append_any rfl (.tmp 68) (.tmp 69) 22 22 rfl 3 i0 _ 1 8 Tryd.underlying22 II.out IZ.out IS.out IB.out rfl w.heap.size _ 0 [] rfl (World.ownsRow_nil _ _ _ _) _ h'.length (h'.map (Value.int .i64)) rfl (Src.ofReadsI RI.out) (by unfold maxLen; omega) (by omega) KI.out.size ?_)
        intro v5 w5 D
        have O5 : Hid (w5.ownsRow w.heap.size 3 1 v5 h'.length (h'.map (Value.int .i64))) := Lib.hid (by have h := D.own; simpa using h)
        have K5 : Hid (Keeps w w5 (fun _ => False)) := Lib.hid (KI.out.grown D.grown (fun k hk => by cases hk))
        clear D
        go_wp2_with fail
        go_ret2
        exact ⟨v5, by rw [HF.out]; rfl, K5.out, by rw [HF.out]; exact ReadsI.ofOwn rfl O5.out⟩
end Go.Proofs.YtdhcnmljkmodhaaDoor
