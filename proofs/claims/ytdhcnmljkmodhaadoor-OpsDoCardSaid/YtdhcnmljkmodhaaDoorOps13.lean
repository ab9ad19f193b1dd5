/- known.done by its contract; ops.Check. -/
import Derived.Test.YtdhcnmljkmodhaaDoorOps12
import Derived.Test.YtdhcnmljkmodhaaDoorOps8
namespace Go.Proofs.YtdhcnmljkmodhaaDoor
set_option linter.unusedSectionVars false
set_option linter.unusedVariables false
set_option linter.unusedSimpArgs false
set_option maxRecDepth 20000
open Go.RowKit

theorem done_any (w : World) (v : Value) (k : List BSet) (hk : k ≠ []) (hl : k.length ≤ 100) (own kind : Int) (H : RdK w v k) (hT : TabOk w) :
    Calls Tryd.prog 32 #[v, .int .i64 own, .int .i64 kind] w (DonePost w (doneL k own kind)) := by
  obtain ⟨s, r, rfl⟩ := List.exists_cons_of_ne_nil hk
  simp only [List.length_cons] at hl
  by_cases h1 : kind = 1
  · subst h1; exact done_pop w v s r own H hT
  · by_cases h2 : kind = 2
    · subst h2
      by_cases ho : own = 0
      · exact done_none w v _ s r rfl own 2 (.inr ⟨ho, .inl rfl⟩)
      · exact done_swap w v s r own ho (by omega) H
    · by_cases h3 : kind = 3
      · subst h3
        by_cases ho : own = 0
        · exact done_none w v _ s r rfl own 3 (.inr ⟨ho, .inr rfl⟩)
        · exact done_push w v s r own ho (by omega) H
      · exact done_none w v _ s r rfl own kind (.inl ⟨h1, h2, h3⟩)
theorem poppedL_len {k l : List BSet} (h : poppedL k = some l) : l ≠ [] ∧ l.length ≤ k.length := by
  cases k with
  | nil => cases h
  | cons s r =>
    have e : poppedL (s :: r) = if (s.withoutN 1).isEmpty then none else if r = [] then some [belowAll (s.withoutN 1).mem] else some r := rfl
    rw [e] at h
    split at h
    · cases h
    · split at h
      · obtain rfl := Option.some.inj h; simp
      · obtain rfl := Option.some.inj h; exact ⟨by assumption, by simp⟩
theorem doneL_len {k : List BSet} {own kind : Int} (hk : k ≠ []) (h : (doneL k own kind).1 = 0) : (doneL k own kind).2 ≠ [] ∧ (doneL k own kind).2.length ≤ k.length + 1 := by
  obtain ⟨s, r, rfl⟩ := List.exists_cons_of_ne_nil hk
  unfold doneL at *
  simp only at *
  split at h
  · rw [if_pos (by assumption)]
    cases hp : poppedL (s :: r) with
    | none => rw [hp] at h; simp at h
    | some l => have := poppedL_len hp; exact ⟨this.1, by simp only; omega⟩
  · rw [if_neg (by assumption)]
    split at h
    · rw [if_pos (by assumption)]
      split at h
      · simp at h
      · rw [if_neg (by assumption)]
        split at h
        · simp at h
        · rw [if_neg (by assumption)]; simp
    · rw [if_neg (by assumption)]
      split at h
      · rw [if_pos (by assumption)]
        split at h
        · simp at h
        · rw [if_neg (by assumption)]
          split at h
          · simp at h
          · rw [if_neg (by assumption)]; simp
      · simp at h
/-- A chain gone through, from its op i on: the error, if there is one. -/
def runK (ks : List Int) : List BSet → List (Int × Int) → Nat → Option (Int × Int)
  | _, [], _ => none
  | k, o :: r, i => if (doneL k (kindL ks o.2) o.1).1 = 0 then runK ks (doneL k (kindL ks o.2) o.1).2 r (i + 1) else some ((doneL k (kindL ks o.2) o.1).1, (i : Int))
theorem runK_step (ks : List Int) (k : List BSet) (c : List (Int × Int)) (i : Nat) (hi : i < c.length) : runK ks k (c.drop i) i = if (doneL k (kindL ks c[i].2) c[i].1).1 = 0 then runK ks (doneL k (kindL ks c[i].2) c[i].1).2 (c.drop (i + 1)) (i + 1) else some ((doneL k (kindL ks c[i].2) c[i].1).1, (i : Int)) := by
  rw [List.drop_eq_getElem_cons hi]; rfl
def checkL (ks : List Int) (top : Int) (c : List (Int × Int)) : Option (Int × Int) :=
  if kindL ks top = 0 then some (2, -1) else if 8 < c.length then some (6, 8) else runK ks [ofL [kindL ks top]] c 0
/-- An error, or none. -/
def ErrPost (w : World) (r : Option (Int × Int)) (e : Ending) (w' : World) : Prop := ∃ v, e = .returned v ∧ Keeps w w' (fun _ => False) ∧ ErrV w' v r
/-- What done tells. -/
def DoneS (d : Int × List BSet) (v : Value) (w : World) : Prop := ∃ u, v = .tuple #[u, .int .i64 d.1] ∧ (d.1 = 0 → RdK w u d.2)
theorem DoneS.stays (d : Int × List BSet) : Stays (DoneS d) := fun v w w' ⟨u, h1, h2⟩ hk => ⟨u, h1, fun h => (h2 h).keeps hk⟩
/-- What the loop knows ahead of round i. -/
structure CkInv (w : World) (ks : List Int) (c : List (Int × Int)) (top : Int) (i : Nat) (k : List BSet) (v : Value) (wr : World) : Prop where
  rd : RdK wr v k
  same : checkL ks top c = runK ks k (c.drop i) i
  ne : k ≠ []
  len : k.length ≤ 1 + i
  keep : Keeps w wr (fun _ => False)

set_option maxHeartbeats 4000000 in
theorem check_any (w : World) (vk vc : Value) (ks : List Int) (top : Int) (c : List (Int × Int)) (hl : c.length ≤ 1000) (Hk : ReadsI w vk ks) (Hc : RdO w vc c) (hT : TabOk w) :
    Calls Tryd.prog 12 #[vk, .int .i64 top, vc] w (ErrPost w (checkL ks top c)) := by
  obtain ⟨ac, capc, rfl, _, hmc⟩ := Hc.form
  have GK := Lib.hid Hk
  have GC := Lib.hid Hc
  have GT := Lib.hid hT
  clear Hk Hc hmc hT
  go_enter Tryd.func12, Tryd.ntmps12
  go_wp2_with fail
  refine (kind_any _ _ ks top GK.out).mono ?_
  rintro e w1 ⟨rfl, rfl⟩
  have HCL : Hid (checkL ks top c = if kindL ks top = 0 then some (2, -1) else if 8 < c.length then some (6, 8) else runK ks [ofL [kindL ks top]] c 0) := Lib.hid rfl
  by_cases h0 : kindL ks top = 0
  · rw [if_pos h0] at HCL
    rw [h0]
    go_wp2_with fail
    refine (new_any 2 (-1) rfl _).mono ?_
    rintro e w2 ⟨u, rfl, hk, hv⟩
    have KF := Lib.hid hk
    have HV := Lib.hid hv
    clear hk hv
    go_wp2_with fail
    go_ret
    exact ⟨u, rfl, KF.out, by rw [HCL.out]; exact HV.out⟩
  · rw [if_neg h0] at HCL
    have hq0 : (kindL ks top == 0) = false := beq_eq_false_iff_ne.2 h0
    have HK0 := Lib.hid h0
    clear h0
    generalize kindL ks top = kt at *
    by_cases h8 : 8 < c.length
    · rw [if_pos h8] at HCL
      have h8' : (8 : Int) < (c.length : Int) := by omega
      go_wp2_with fail
      refine (new_any 6 8 rfl _).mono ?_
      rintro e w2 ⟨u, rfl, hk, hv⟩
      have KF := Lib.hid hk
      have HV := Lib.hid hv
      clear hk hv
      go_wp2_with fail
      go_ret
      exact ⟨u, rfl, KF.out, by rw [HCL.out]; exact HV.out⟩
    · rw [if_neg h8] at HCL
      have h8' : ¬ (8 : Int) < (c.length : Int) := by omega
      go_wp2_with fail
      refine (of_any _ _ [kt] (ReadsI.lit w [kt] 3 (by simp))).mono ?_
      rintro e w2 ⟨rfl, hk⟩
      have K2 : Hid (Keeps w w2 (fun _ => False)) := Lib.hid (((Keeps.refl w _).alloc _).trans hk)
      clear hk
      unfold BSet.val
      have R2 := Lib.hid (RdK.lit1 w2 (ofL [kt]) 57)
      have K3 := Lib.hid (K2.out.alloc (.cells #[.int .u64 (ofL [kt]).lo.toNat, .int .u64 (ofL [kt]).hi.toNat] 57))
      go_wp2_with fail
      go_loopw [8, 31] (fun v ti wr => ∃ (i : Nat) (k : List BSet), ti = .int .i64 i ∧ i ≤ c.length ∧ CkInv w ks c top i k v wr) (fun _ ti _ => c.length - (intOf ti).toNat)
      case atStart => exact ⟨0, [ofL [kt]], rfl, Nat.zero_le _, R2.out, HCL.out, by simp, by simp, K3.out⟩
      case round =>
        obtain ⟨i, k, rfl, hi, inv⟩ := hrel
        have I := Lib.hid inv
        clear inv R2 K2 K3
        by_cases hlt : i < c.length
        · obtain ⟨g, off, rfl, hg, hc⟩ := (GC.out.keeps I.out.keep).cell i hlt
          have hc0 := (hc i hlt).1
          have hc1 := (hc i hlt).2
          have HS := Lib.hid (runK_step ks k c i hlt)
          clear hc
          generalize c[i].1 = ok at *
          generalize c[i].2 = ox at *
          have KA : Hid (Keeps w (wr.alloc (.cells #[.int .i64 ok, .int .i64 ox] 44)) (fun _ => False)) := Lib.hid (I.out.keep.alloc _)
          have KB : Hid (Keeps wr (wr.alloc (.cells #[.int .i64 ok, .int .i64 ox] 44)) (fun _ => False)) := Lib.hid ((Keeps.refl wr _).alloc _)
          have BA := Lib.hid (heap_alloc_new wr (.cells #[.int .i64 ok, .int .i64 ox] 44))
          go_upto_region 10 with fail
          generalize wr.alloc (.cells #[.int .i64 ok, .int .i64 ox] 44) = W at *
          generalize wr.heap.size = N at *
          have y0 : W.cell? ⟨N, 0, none⟩ = some (.int .i64 ok) := by rw [cell_at BA.out]; rfl
          have y1 : W.cell? ⟨N, 1, none⟩ = some (.int .i64 ox) := by rw [cell_at BA.out]; rfl
          have x0 : ∀ {ops : Array Oper} {F : Tmp → Value → World → Prop} {o : Oper} {D : List (Tmp × Value)} (x : AtF (KeepsN W) F ops o D), x.w.cell? ⟨N, 0, none⟩ = some (.int .i64 ok) := fun x => AtF.cell y0 x
          have x1 : ∀ {ops : Array Oper} {F : Tmp → Value → World → Prop} {o : Oper} {D : List (Tmp × Value)} (x : AtF (KeepsN W) F ops o D), x.w.cell? ⟨N, 1, none⟩ = some (.int .i64 ox) := fun x => AtF.cell y1 x
          have HD := Lib.hid (fun h => doneL_len (k := k) (own := kindL ks ox) (kind := ok) I.out.ne h)
          clear y0 y1 hc0 hc1
          refine wp_region_K [(41, fun v _ => v = .int .i64 (kindL ks ox)), (44, DoneS (doneL k (kindL ks ox) ok))] ?_ (by kernel_rfl) (by kernel_rfl) ?_
          · intro p hp
            simp only [List.mem_cons, List.not_mem_nil, or_false] at hp
            rcases hp with rfl | rfl
            · exact Stays.pure _
            · exact DoneS.stays _
          repeat (first | (refine wpF_skip rfl ?_) | (refine wpF_plain rfl rfl rfl ?_; intro ne K hK; go_big_quiet_op; go_big_quiet_on; clear ne))
          refine wpF_call rfl rfl ?_ ?_
          · intro x hx hf
            refine gives_hide (fun R hR => ?_)
            clear x0 x1
            go_simp
            refine (kind_any _ _ ks ox (GK.out.keeps (KA.out.trans hx))).mono ?_
            rintro e w' ⟨rfl, rfl⟩
            exact ⟨_, rfl, hR _ _ ⟨Keeps.refl _ _, rfl⟩⟩
          rintro v41 ⟨y, hy, hF⟩
          obtain rfl : v41 = .int .i64 (kindL ks ox) := hF (41, v41) List.mem_cons_self
          clear hy hF y
          simp only [Act.put, List.setIfInBounds_toArray, List.set_cons_succ, List.set_cons_zero]
          repeat (first | (refine wpF_skip rfl ?_) | (refine wpF_plain rfl rfl rfl ?_; intro ne K hK; go_big_quiet_op; go_big_quiet_on; clear ne))
          refine wpF_call rfl rfl ?_ ?_
          · intro x hx hf
            refine gives_hide (fun R hR => ?_)
            clear x0 x1
            go_simp
            refine (done_any _ _ k I.out.ne (by have := I.out.len; omega) (kindL ks ox) ok (I.out.rd.keeps (KB.out.trans hx)) (GT.out.keeps (KA.out.trans hx))).mono ?_
            rintro e w' ⟨u, rfl, hk, hr⟩
            exact ⟨_, rfl, hR _ _ ⟨hk, u, rfl, hr⟩⟩
          rintro v44 ⟨y, hy, hF⟩
          obtain ⟨u, rfl, hr0⟩ : DoneS (doneL k (kindL ks ox) ok) v44 y := hF (44, v44) List.mem_cons_self
          clear hr0 hy hF y
          simp only [Act.put, List.setIfInBounds_toArray, List.set_cons_succ, List.set_cons_zero]
          generalize hd : doneL k (kindL ks ox) ok = d at *
          have HDD := Lib.hid hd
          clear hd
          repeat (first | (refine wpF_skip rfl ?_) | (refine wpF_plain rfl rfl rfl ?_; intro ne K hK; go_big_quiet_op; go_big_quiet_on; clear ne))
          refine wpF_nil ?_
          intro w4 hw4 hF
          obtain ⟨u', hu, hr⟩ : DoneS d (.tuple #[u, .int .i64 d.1]) w4 := hF (44, .tuple #[u, .int .i64 d.1]) (by simp)
          obtain rfl : u = u' := by simpa using hu
          have R4 := Lib.hid hr
          have K4 : Hid (Keeps w w4 (fun _ => False)) := Lib.hid (KA.out.trans hw4)
          clear hw4 hF hu hr x0 x1
          by_cases hz : d.1 = 0
          · have hzb : (d.1 != 0) = false := by simp [hz]
            have HZ := Lib.hid hz
            clear hz
            go_wp2_with fail
            go_roundw
            case rel =>
              refine ⟨i + 1, d.2, by go_num, by omega, R4.out HZ.out, ?_, (HD.out HZ.out).1, ?_, K4.out⟩
              · rw [I.out.same, HS.out, if_pos HZ.out]
              · have h1 := (HD.out HZ.out).2
                have h2 := I.out.len
                omega
            case measure => simp [intOf]; omega
          · have hzb : (d.1 != 0) = true := by simp [hz]
            have hzc : (d.1 == 0) = false := beq_eq_false_iff_ne.2 hz
            have HZ := Lib.hid hz
            clear hz
            go_wp2_with fail
            refine (new_any d.1 i hzc _).mono ?_
            rintro e w5 ⟨u5, rfl, hk5, hv5⟩
            have KF := Lib.hid (K4.out.trans hk5)
            have HV := Lib.hid hv5
            clear hk5 hv5
            go_wp2_with fail
            go_ret
            exact ⟨u5, rfl, KF.out, by rw [I.out.same, HS.out, if_neg HZ.out]; exact HV.out⟩
        · have hi' : i = c.length := by omega
          subst hi'
          have HF : Hid (checkL ks top c = none) := Lib.hid (by rw [I.out.same, List.drop_eq_nil_of_le (Nat.le_refl _)]; rfl)
          go_wp2_with fail
          go_ret
          exact ⟨_, rfl, I.out.keep, by rw [HF.out]; rfl⟩
end Go.Proofs.YtdhcnmljkmodhaaDoor
