/- Merged for the claim, in build order: Ops8, Ops13, Ops3, EqI, Ops14. -/
import Derived.Test.YtdhcnmljkmodhaaDoorOpsCheckM9
import Derived.Test.YtdhcnmljkmodhaaDoorOpsCheckM4
import Derived.Test.YtdhcnmljkmodhaaDoorOpsCheckM8
import Derived.Test.YtdhcnmljkmodhaaDoorOpsCheckM5
import Derived.Test.YtdhcnmljkmodhaaDoorRows
import Derived.Deep.QuietTactic
import Derived.BigQuiet
/- fairleadlaw01.Is, where it says true; errors as ops.Check makes them. -/
namespace Go.Proofs.YtdhcnmljkmodhaaDoor
set_option linter.unusedSectionVars false
set_option linter.unusedVariables false
set_option linter.unusedSimpArgs false
set_option maxRecDepth 20000
open Go.RowKit

/-- No error; or a fault of a number and a place. -/
def ErrV (w : World) (v : Value) : Option (Int × Int) → Prop
  | none => v = .nilIface
  | some (c, a) => (c == 0) = false ∧ ∃ g, v = chainV [] (.fault g c a) ∧ ChainOk w [] (.fault g c a)
theorem ErrV.keeps {w w' : World} {v : Value} {r : Option (Int × Int)} (h : ErrV w v r) (hk : Keeps w w' (fun _ => False)) : ErrV w' v r := by
  cases r with
  | none => exact h
  | some p => obtain ⟨c, a⟩ := p; obtain ⟨h1, g, h2, h3⟩ := h; exact ⟨h1, g, h2, h3.keeps hk⟩
/-- What Is is asked for. -/
def errN (r : Option (Int × Int)) : Int × Int := r.getD (0, 0)

theorem is_nil (w : World) (a : Int) : Calls Tryd.prog 11 #[.nilIface, .int .i64 0, .int .i64 a] w fun e w' => e = .returned (.bool true) ∧ Keeps w w' (fun _ => False) := by
  go_enter Tryd.func11, Tryd.ntmps11
  go_wp2
  go_ret
  exact ⟨rfl, Keeps.refl _ _⟩
set_option maxHeartbeats 1000000 in
theorem is_some (w : World) (g : Nat) (c a : Int) (hc : (c == 0) = false) (hg : ErrT w) (hok : ChainOk w [] (.fault g c a)) : Calls Tryd.prog 11 #[chainV [] (.fault g c a), .int .i64 c, .int .i64 a] w fun e w' => e = .returned (.bool true) ∧ Keeps w w' (fun _ => False) := by
  have HG := Lib.hid hg
  have HC := Lib.hid hok
  have hcode : EB.codeN (.fault g c a) = c := rfl
  have hat : EB.atN (.fault g c a) = a := rfl
  have hv : chainV [] (.fault g c a) = .iface 70 (.pointer (some ⟨g, 0, none⟩)) := rfl
  rw [hv]
  clear hg hok
  go_enter Tryd.func11, Tryd.ntmps11
  go_wp2_with fail
  refine (code_any [] (.fault g c a) _ HG.out HC.out).mono ?_
  rintro e w1 ⟨rfl, hk⟩
  have K1 := Lib.hid hk
  clear hk
  go_wp2_with fail
  refine (at_any [] (.fault g c a) _ (HG.out.keeps K1.out) (HC.out.keeps K1.out)).mono ?_
  rintro e w2 ⟨rfl, hk⟩
  have K2 := Lib.hid (K1.out.trans hk)
  clear hk K1
  go_wp2_with fail
  refine (words_any [] (.fault g c a) _ (HG.out.keeps K2.out) (HC.out.keeps K2.out) (by simp)).mono ?_
  rintro e w3 ⟨u, rfl, hr, hk⟩
  have K3 := Lib.hid (K2.out.trans hk)
  obtain ⟨q, cp, hq, _, _⟩ := (RdV.ofOwn hr).form
  have hw0 : (wordsV []).length = 0 := rfl
  rw [hw0] at hq
  subst hq
  clear hk K2 hr hw0
  go_wp2_with fail
  go_ret
  exact ⟨rfl, K3.out⟩
theorem is_any (w : World) (v : Value) (r : Option (Int × Int)) (hg : ErrT w) (h : ErrV w v r) : Calls Tryd.prog 11 #[v, .int .i64 (errN r).1, .int .i64 (errN r).2] w fun e w' => e = .returned (.bool true) ∧ Keeps w w' (fun _ => False) := by
  cases r with
  | none => obtain rfl : v = .nilIface := h; exact is_nil w 0
  | some p =>
    obtain ⟨c, a⟩ := p
    obtain ⟨hc, g, rfl, hok⟩ := h
    exact is_some w g c a hc hg hok
theorem new_any (c a : Int) (hc : (c == 0) = false) (w : World) : Calls Tryd.prog 30 #[.int .i64 c, .int .i64 a] w fun e w' => ∃ v, e = .returned v ∧ Keeps w w' (fun _ => False) ∧ ErrV w' v (some (c, a)) :=
  (new_some c a hc w).mono fun e w' ⟨h1, h2⟩ => by
    subst h2
    exact ⟨_, h1, (Keeps.refl _ _).alloc _, hc, _, rfl, ChainOk.fault w c a _⟩

theorem awake1 (w : World) (hg : ErrT w) : Calls Tryd.prog 22 #[] w fun e w' => e = .returned (.bool true) ∧ Keeps w w' (fun _ => False) := by
  have HG := Lib.hid hg
  clear hg
  go_enter Tryd.func22, Tryd.ntmps22
  go_wp2_with fail
  refine (awake01 _ HG.out).mono ?_
  rintro e w1 ⟨rfl, hk⟩
  have K1 := Lib.hid hk
  clear hk
  go_wp2_with fail
  go_ret
  exact ⟨rfl, K1.out⟩
theorem awake9 (w : World) (hT : TabOk w) : Calls Tryd.prog 23 #[] w fun e w' => e = .returned (.bool true) ∧ Keeps w w' (fun _ => False) := by
  have HG := Lib.hid hT
  clear hT
  go_enter Tryd.func23, Tryd.ntmps23
  go_wp2_with fail
  refine (awake09 _ HG.out).mono ?_
  rintro e w1 ⟨rfl, hk⟩
  have K1 := Lib.hid hk
  clear hk
  go_wp2_with fail
  go_ret
  exact ⟨rfl, K1.out⟩
end Go.Proofs.YtdhcnmljkmodhaaDoor

/- known.done by its contract; ops.Check. -/
namespace Go.Proofs.YtdhcnmljkmodhaaDoor
set_option linter.unusedSectionVars false
set_option linter.unusedVariables false
set_option linter.unusedSimpArgs false
set_option maxRecDepth 20000
open Go.RowKit

theorem done_any (w : World) (v : Value) (k : List BSet) (hk : k ≠ []) (hl : k.length ≤ 100) (own kind : Int) (H : RdK w v k) (hT : TabOk w) :
    Calls Tryd.prog 32 #[v, .int .i64 own, .int .i64 kind] w (DonePost w (doneL k own kind)) := by
  obtain ⟨s, r, rfl⟩ := List.exists_cons_of_ne_nil hk
  simp only [List.length_cons] at hl
  by_cases h1 : kind = 1
  · subst h1; exact done_pop w v s r own H hT
  · by_cases h2 : kind = 2
    · subst h2
      by_cases ho : own = 0
      · exact done_none w v _ s r rfl own 2 (.inr ⟨ho, .inl rfl⟩)
      · exact done_swap w v s r own ho (by omega) H
    · by_cases h3 : kind = 3
      · subst h3
        by_cases ho : own = 0
        · exact done_none w v _ s r rfl own 3 (.inr ⟨ho, .inr rfl⟩)
        · exact done_push w v s r own ho (by omega) H
      · exact done_none w v _ s r rfl own kind (.inl ⟨h1, h2, h3⟩)
theorem poppedL_len {k l : List BSet} (h : poppedL k = some l) : l ≠ [] ∧ l.length ≤ k.length := by
  cases k with
  | nil => cases h
  | cons s r =>
    have e : poppedL (s :: r) = if (s.withoutN 1).isEmpty then none else if r = [] then some [belowAll (s.withoutN 1).mem] else some r := rfl
    rw [e] at h
    split at h
    · cases h
    · split at h
      · obtain rfl := Option.some.inj h; simp
      · obtain rfl := Option.some.inj h; exact ⟨by assumption, by simp⟩
theorem doneL_len {k : List BSet} {own kind : Int} (hk : k ≠ []) (h : (doneL k own kind).1 = 0) : (doneL k own kind).2 ≠ [] ∧ (doneL k own kind).2.length ≤ k.length + 1 := by
  obtain ⟨s, r, rfl⟩ := List.exists_cons_of_ne_nil hk
  unfold doneL at *
  simp only at *
  split at h
  · rw [if_pos (by assumption)]
    cases hp : poppedL (s :: r) with
    | none => rw [hp] at h; simp at h
    | some l => have := poppedL_len hp; exact ⟨this.1, by simp only; omega⟩
  · rw [if_neg (by assumption)]
    split at h
    · rw [if_pos (by assumption)]
      split at h
      · simp at h
      · rw [if_neg (by assumption)]
        split at h
        · simp at h
        · rw [if_neg (by assumption)]; simp
    · rw [if_neg (by assumption)]
      split at h
      · rw [if_pos (by assumption)]
        split at h
        · simp at h
        · rw [if_neg (by assumption)]
          split at h
          · simp at h
          · rw [if_neg (by assumption)]; simp
      · simp at h
/-- A chain gone through, from its op i on: the error, if there is one. -/
def runK (ks : List Int) : List BSet → List (Int × Int) → Nat → Option (Int × Int)
  | _, [], _ => none
  | k, o :: r, i => if (doneL k (kindL ks o.2) o.1).1 = 0 then runK ks (doneL k (kindL ks o.2) o.1).2 r (i + 1) else some ((doneL k (kindL ks o.2) o.1).1, (i : Int))
theorem runK_step (ks : List Int) (k : List BSet) (c : List (Int × Int)) (i : Nat) (hi : i < c.length) : runK ks k (c.drop i) i = if (doneL k (kindL ks c[i].2) c[i].1).1 = 0 then runK ks (doneL k (kindL ks c[i].2) c[i].1).2 (c.drop (i + 1)) (i + 1) else some ((doneL k (kindL ks c[i].2) c[i].1).1, (i : Int)) := by
  rw [List.drop_eq_getElem_cons hi]; rfl
def checkL (ks : List Int) (top : Int) (c : List (Int × Int)) : Option (Int × Int) :=
  if kindL ks top = 0 then some (2, -1) else if 8 < c.length then some (6, 8) else runK ks [ofL [kindL ks top]] c 0
/-- An error, or none. -/
def ErrPost (w : World) (r : Option (Int × Int)) (e : Ending) (w' : World) : Prop := ∃ v, e = .returned v ∧ Keeps w w' (fun _ => False) ∧ ErrV w' v r
/-- What done tells. -/
def DoneS (d : Int × List BSet) (v : Value) (w : World) : Prop := ∃ u, v = .tuple #[u, .int .i64 d.1] ∧ (d.1 = 0 → RdK w u d.2)
theorem DoneS.stays (d : Int × List BSet) : Stays (DoneS d) := fun v w w' ⟨u, h1, h2⟩ hk => ⟨u, h1, fun h => (h2 h).keeps hk⟩
/-- What the loop knows ahead of round i. -/
structure CkInv (w : World) (ks : List Int) (c : List (Int × Int)) (top : Int) (i : Nat) (k : List BSet) (v : Value) (wr : World) : Prop where
  rd : RdK wr v k
  same : checkL ks top c = runK ks k (c.drop i) i
  ne : k ≠ []
  len : k.length ≤ 1 + i
  keep : Keeps w wr (fun _ => False)

set_option maxHeartbeats 4000000 in
theorem check_any (w : World) (vk vc : Value) (ks : List Int) (top : Int) (c : List (Int × Int)) (hl : c.length ≤ 1000) (Hk : ReadsI w vk ks) (Hc : RdO w vc c) (hT : TabOk w) :
    Calls Tryd.prog 12 #[vk, .int .i64 top, vc] w (ErrPost w (checkL ks top c)) := by
  obtain ⟨ac, capc, rfl, _, hmc⟩ := Hc.form
  have GK := Lib.hid Hk
  have GC := Lib.hid Hc
  have GT := Lib.hid hT
  clear Hk Hc hmc hT
  go_enter Tryd.func12, Tryd.ntmps12
  go_wp2_with fail
  refine (kind_any _ _ ks top GK.out).mono ?_
  rintro e w1 ⟨rfl, rfl⟩
  have HCL : Hid (checkL ks top c = if kindL ks top = 0 then some (2, -1) else if 8 < c.length then some (6, 8) else runK ks [ofL [kindL ks top]] c 0) := Lib.hid rfl
  by_cases h0 : kindL ks top = 0
  · rw [if_pos h0] at HCL
    rw [h0]
    go_wp2_with fail
    refine (new_any 2 (-1) rfl _).mono ?_
    rintro e w2 ⟨u, rfl, hk, hv⟩
    have KF := Lib.hid hk
    have HV := Lib.hid hv
    clear hk hv
    go_wp2_with fail
    go_ret
    exact ⟨u, rfl, KF.out, by rw [HCL.out]; exact HV.out⟩
  · rw [if_neg h0] at HCL
    have hq0 : (kindL ks top == 0) = false := beq_eq_false_iff_ne.2 h0
    have HK0 := Lib.hid h0
    clear h0
    generalize kindL ks top = kt at *
    by_cases h8 : 8 < c.length
    · rw [if_pos h8] at HCL
      have h8' : (8 : Int) < (c.length : Int) := by omega
      go_wp2_with fail
      refine (new_any 6 8 rfl _).mono ?_
      rintro e w2 ⟨u, rfl, hk, hv⟩
      have KF := Lib.hid hk
      have HV := Lib.hid hv
      clear hk hv
      go_wp2_with fail
      go_ret
      exact ⟨u, rfl, KF.out, by rw [HCL.out]; exact HV.out⟩
    · rw [if_neg h8] at HCL
      have h8' : ¬ (8 : Int) < (c.length : Int) := by omega
      go_wp2_with fail
      refine (of_any _ _ [kt] (ReadsI.lit w [kt] 3 (by simp))).mono ?_
      rintro e w2 ⟨rfl, hk⟩
      have K2 : Hid (Keeps w w2 (fun _ => False)) := Lib.hid (((Keeps.refl w _).alloc _).trans hk)
      clear hk
      unfold BSet.val
      have R2 := Lib.hid (RdK.lit1 w2 (ofL [kt]) 57)
      have K3 := Lib.hid (K2.out.alloc (.cells #[.int .u64 (ofL [kt]).lo.toNat, .int .u64 (ofL [kt]).hi.toNat] 57))
      go_wp2_with fail
      go_loopw [8, 31] (fun v ti wr => ∃ (i : Nat) (k : List BSet), ti = .int .i64 i ∧ i ≤ c.length ∧ CkInv w ks c top i k v wr) (fun _ ti _ => c.length - (intOf ti).toNat)
      case atStart => exact ⟨0, [ofL [kt]], rfl, Nat.zero_le _, R2.out, HCL.out, by simp, by simp, K3.out⟩
      case round =>
        obtain ⟨i, k, rfl, hi, inv⟩ := hrel
        have I := Lib.hid inv
        clear inv R2 K2 K3
        by_cases hlt : i < c.length
        · obtain ⟨g, off, rfl, hg, hc⟩ := (GC.out.keeps I.out.keep).cell i hlt
          have hc0 := (hc i hlt).1
          have hc1 := (hc i hlt).2
          have HS := Lib.hid (runK_step ks k c i hlt)
          clear hc
          generalize c[i].1 = ok at *
          generalize c[i].2 = ox at *
          have KA : Hid (Keeps w (wr.alloc (.cells #[.int .i64 ok, .int .i64 ox] 44)) (fun _ => False)) := Lib.hid (I.out.keep.alloc _)
          have KB : Hid (Keeps wr (wr.alloc (.cells #[.int .i64 ok, .int .i64 ox] 44)) (fun _ => False)) := Lib.hid ((Keeps.refl wr _).alloc _)
          have BA := Lib.hid (heap_alloc_new wr (.cells #[.int .i64 ok, .int .i64 ox] 44))
          go_upto_region 10 with fail
          generalize wr.alloc (.cells #[.int .i64 ok, .int .i64 ox] 44) = W at *
          generalize wr.heap.size = N at *
          have y0 : W.cell? ⟨N, 0, none⟩ = some (.int .i64 ok) := by rw [cell_at BA.out]; rfl
          have y1 : W.cell? ⟨N, 1, none⟩ = some (.int .i64 ox) := by rw [cell_at BA.out]; rfl
          have x0 : ∀ {ops : Array Oper} {F : Tmp → Value → World → Prop} {o : Oper} {D : List (Tmp × Value)} (x : AtF (KeepsN W) F ops o D), x.w.cell? ⟨N, 0, none⟩ = some (.int .i64 ok) := fun x => AtF.cell y0 x
          have x1 : ∀ {ops : Array Oper} {F : Tmp → Value → World → Prop} {o : Oper} {D : List (Tmp × Value)} (x : AtF (KeepsN W) F ops o D), x.w.cell? ⟨N, 1, none⟩ = some (.int .i64 ox) := fun x => AtF.cell y1 x
          have HD := Lib.hid (fun h => doneL_len (k := k) (own := kindL ks ox) (kind := ok) I.out.ne h)
          clear y0 y1 hc0 hc1
          refine wp_region_K [(41, fun v _ => v = .int .i64 (kindL ks ox)), (44, DoneS (doneL k (kindL ks ox) ok))] ?_ (by kernel_rfl) (by kernel_rfl) ?_
          · intro p hp
            simp only [List.mem_cons, List.not_mem_nil, or_false] at hp
            rcases hp with rfl | rfl
            · exact Stays.pure _
            · exact DoneS.stays _
          repeat (first | (refine wpF_skip rfl ?_) | (refine wpF_plain rfl rfl rfl ?_; intro ne K hK; go_big_quiet_op; go_big_quiet_on; clear ne))
          refine wpF_call rfl rfl ?_ ?_
          · intro x hx hf
            refine gives_hide (fun R hR => ?_)
            clear x0 x1
            go_simp
            refine (kind_any _ _ ks ox (GK.out.keeps (KA.out.trans hx))).mono ?_
            rintro e w' ⟨rfl, rfl⟩
            exact ⟨_, rfl, hR _ _ ⟨Keeps.refl _ _, rfl⟩⟩
          rintro v41 ⟨y, hy, hF⟩
          obtain rfl : v41 = .int .i64 (kindL ks ox) := hF (41, v41) List.mem_cons_self
          clear hy hF y
          simp only [Act.put, List.setIfInBounds_toArray, List.set_cons_succ, List.set_cons_zero]
          repeat (first | (refine wpF_skip rfl ?_) | (refine wpF_plain rfl rfl rfl ?_; intro ne K hK; go_big_quiet_op; go_big_quiet_on; clear ne))
          refine wpF_call rfl rfl ?_ ?_
          · intro x hx hf
            refine gives_hide (fun R hR => ?_)
            clear x0 x1
            go_simp
            refine (done_any _ _ k I.out.ne (by have := I.out.len; omega) (kindL ks ox) ok (I.out.rd.keeps (KB.out.trans hx)) (GT.out.keeps (KA.out.trans hx))).mono ?_
            rintro e w' ⟨u, rfl, hk, hr⟩
            exact ⟨_, rfl, hR _ _ ⟨hk, u, rfl, hr⟩⟩
          rintro v44 ⟨y, hy, hF⟩
          obtain ⟨u, rfl, hr0⟩ : DoneS (doneL k (kindL ks ox) ok) v44 y := hF (44, v44) List.mem_cons_self
          clear hr0 hy hF y
          simp only [Act.put, List.setIfInBounds_toArray, List.set_cons_succ, List.set_cons_zero]
          generalize hd : doneL k (kindL ks ox) ok = d at *
          have HDD := Lib.hid hd
          clear hd
          repeat (first | (refine wpF_skip rfl ?_) | (refine wpF_plain rfl rfl rfl ?_; intro ne K hK; go_big_quiet_op; go_big_quiet_on; clear ne))
          refine wpF_nil ?_
          intro w4 hw4 hF
          obtain ⟨u', hu, hr⟩ : DoneS d (.tuple #[u, .int .i64 d.1]) w4 := hF (44, .tuple #[u, .int .i64 d.1]) (by simp)
          obtain rfl : u = u' := by simpa using hu
          have R4 := Lib.hid hr
          have K4 : Hid (Keeps w w4 (fun _ => False)) := Lib.hid (KA.out.trans hw4)
          clear hw4 hF hu hr x0 x1
          by_cases hz : d.1 = 0
          · have hzb : (d.1 != 0) = false := by simp [hz]
            have HZ := Lib.hid hz
            clear hz
            go_wp2_with fail
            go_roundw
            case rel =>
              refine ⟨i + 1, d.2, by go_num, by omega, R4.out HZ.out, ?_, (HD.out HZ.out).1, ?_, K4.out⟩
              · rw [I.out.same, HS.out, if_pos HZ.out]
              · have h1 := (HD.out HZ.out).2
                have h2 := I.out.len
                omega
            case measure => simp [intOf]; omega
          · have hzb : (d.1 != 0) = true := by simp [hz]
            have hzc : (d.1 == 0) = false := beq_eq_false_iff_ne.2 hz
            have HZ := Lib.hid hz
            clear hz
            go_wp2_with fail
            refine (new_any d.1 i hzc _).mono ?_
            rintro e w5 ⟨u5, rfl, hk5, hv5⟩
            have KF := Lib.hid (K4.out.trans hk5)
            have HV := Lib.hid hv5
            clear hk5 hv5
            go_wp2_with fail
            go_ret
            exact ⟨u5, rfl, KF.out, by rw [I.out.same, HS.out, if_neg HZ.out]; exact HV.out⟩
        · have hi' : i = c.length := by omega
          subst hi'
          have HF : Hid (checkL ks top c = none) := Lib.hid (by rw [I.out.same, List.drop_eq_nil_of_le (Nat.le_refl _)]; rfl)
          go_wp2_with fail
          go_ret
          exact ⟨_, rfl, I.out.keep, by rw [HF.out]; rfl⟩
end Go.Proofs.YtdhcnmljkmodhaaDoor

/- ops.Do. -/
namespace Go.Proofs.YtdhcnmljkmodhaaDoor
set_option linter.unusedSectionVars false
set_option linter.unusedVariables false
set_option linter.unusedSimpArgs false
set_option maxRecDepth 20000
open Go.RowKit

/-- What Do tells: a header, and whether. -/
def DoPost (w : World) (r : Option (List Int)) (e : Ending) (w' : World) : Prop :=
  ∃ v, e = .returned (.tuple #[v, .bool r.isSome]) ∧ Keeps w w' (fun _ => False) ∧ ReadsI w' v (r.getD [])
theorem readsNil (w : World) : ReadsI w (.slice none 0 0) [] := ⟨rfl, none, 0, rfl, Nat.le_refl _, by unfold maxLen; omega, fun _ => ⟨rfl, rfl⟩, fun h => by cases h⟩
theorem validL_ne {ks h : List Int} (hv : validL ks h = true) : h ≠ [] := by
  rintro rfl; cases hv
theorem chainL_step (ks h : List Int) (c : List (Int × Int)) (k : Nat) (hk : k < c.length) : chainL ks h (c.drop k) = match oneL ks h c[k].1 c[k].2 with
    | none => none
    | some h' => chainL ks h' (c.drop (k + 1)) := by
  rw [List.drop_eq_getElem_cons hk]; rfl
/-- What the loop knows ahead of round k. -/
structure DoInv (w : World) (ks h : List Int) (c : List (Int × Int)) (k : Nat) (h' : List Int) (v : Value) (wr : World) : Prop where
  rd : ReadsI wr v h'
  same : chainL ks h c = chainL ks h' (c.drop k)
  ne : h' ≠ []
  len : h'.length ≤ h.length + k
  keep : Keeps w wr (fun _ => False)

set_option maxHeartbeats 2000000 in
theorem do_any (w : World) (vk vh vc : Value) (ks h : List Int) (c : List (Int × Int)) (hl : h.length + c.length ≤ 100) (Hk : ReadsI w vk ks) (Hh : ReadsI w vh h) (Hc : RdO w vc c) :
    Calls Tryd.prog 14 #[vk, vh, vc] w (DoPost w (doL ks h c)) := by
  obtain ⟨ac, capc, rfl, _, hmc⟩ := Hc.form
  have GK := Lib.hid Hk
  have GH := Lib.hid Hh
  have GC := Lib.hid Hc
  clear Hk Hh Hc hmc
  go_enter Tryd.func14, Tryd.ntmps14
  go_wp2_with fail
  refine (valid_any w vk vh ks h GK.out GH.out).mono ?_
  rintro e w1 ⟨rfl, hk1⟩
  have K1 := Lib.hid hk1
  clear hk1
  cases hv : validL ks h with
  | false =>
    go_wp2_with fail
    go_ret2
    exact ⟨.slice none 0 0, by simp [doL, hv], K1.out, by simp [doL, hv]; exact readsNil _⟩
  | true =>
    have HV := Lib.hid hv
    have hne := Lib.hid (validL_ne hv)
    clear hv
    go_wp2_with fail
    refine (clone_any w1 vh h (by omega) (GH.out.keeps K1.out)).mono ?_
    rintro e w2 ⟨u, rfl, hk2, hr2⟩
    have K2 := Lib.hid (K1.out.trans hk2)
    have R2 := Lib.hid hr2
    clear hk2 hr2 GH K1
    go_wp2_with fail
    go_loopw [1, 20] (fun v t20 wr => ∃ (k : Nat) (h' : List Int), t20 = .int .i64 k ∧ k ≤ c.length ∧ DoInv w ks h c k h' v wr) (fun _ t20 _ => c.length - (intOf t20).toNat)
    case atStart => exact ⟨0, h, rfl, Nat.zero_le _, R2.out, rfl, hne.out, Nat.le_refl _, K2.out⟩
    case round =>
      obtain ⟨k, h', rfl, hk, inv⟩ := hrel
      have I := Lib.hid inv
      clear inv
      by_cases hlt : k < c.length
      · obtain ⟨g, off, rfl, hg, hc⟩ := (GC.out.keeps I.out.keep).cell k hlt
        have hc0 := (hc k hlt).1
        have hc1 := (hc k hlt).2
        have HS := Lib.hid (chainL_step ks h' c k hlt)
        clear hc
        generalize c[k].1 = ok at *
        generalize c[k].2 = ox at *
        have c0 := Lib.hid hc0
        go_wp2_with fail
        obtain ⟨a, t, e1⟩ := List.exists_cons_of_ne_nil I.out.ne
        have hle := I.out.len
        subst e1
        rw [List.length_cons] at hle
        have KA : Hid (Keeps w (wr.alloc (.cells #[.int .i64 ok, .int .i64 ox] 44)) (fun _ => False)) := Lib.hid (I.out.keep.alloc _)
        refine (one_any _ vk _ ks a t ok ox (by omega) (GK.out.keeps KA.out) (I.out.rd.keeps ((Keeps.refl wr _).alloc _))).mono ?_
        rintro e w3 ⟨v3, rfl, hk3, hr3⟩
        have K3 := Lib.hid (KA.out.trans hk3)
        have R3 := Lib.hid hr3
        clear hk3 hr3 KA hc0 hc1 c0
        cases ho : oneL ks (a :: t) ok ox with
        | none =>
          have HF : Hid (doL ks h c = none) := Lib.hid (by unfold doL; rw [if_pos HV.out, I.out.same, HS.out, ho])
          clear ho
          go_wp2_with fail
          go_ret2
          exact ⟨.slice none 0 0, by rw [HF.out]; rfl, K3.out, by rw [HF.out]; exact readsNil _⟩
        | some h2 =>
          have HL := Lib.hid (oneL_len ho)
          have HS2 : Hid (chainL ks h c = chainL ks h2 (c.drop (k + 1))) := Lib.hid (by rw [I.out.same, HS.out, ho])
          have R4 := Lib.hid (R3.out h2 ho)
          clear ho HS R3
          go_wp2_with fail
          go_roundw
          case rel =>
            refine ⟨k + 1, h2, by go_num, by omega, R4.out, HS2.out, HL.out.2, ?_, K3.out⟩
            have := HL.out.1
            rw [List.length_cons] at this
            omega
          case measure => simp [intOf]; omega
      · have hk' : k = c.length := by omega
        subst hk'
        have HF : Hid (doL ks h c = some h') := Lib.hid (by unfold doL; rw [if_pos HV.out, I.out.same, List.drop_eq_nil_of_le (Nat.le_refl _)]; rfl)
        have hle := I.out.len
        go_wp2_with fail
        refine (clone_any _ _ h' (by omega) I.out.rd).mono ?_
        rintro e w3 ⟨u3, rfl, hk3, hr3⟩
        have K3 := Lib.hid (I.out.keep.trans hk3)
        have R3 := Lib.hid hr3
        clear hk3 hr3
        go_wp2_with fail
        go_ret2
        exact ⟨u3, by rw [HF.out]; rfl, K3.out, by rw [HF.out]; exact R3.out⟩
end Go.Proofs.YtdhcnmljkmodhaaDoor

/- slices.Equal over ints. -/
namespace Go.Proofs.YtdhcnmljkmodhaaDoor
set_option linter.unusedSectionVars false
set_option linter.unusedVariables false
set_option linter.unusedSimpArgs false
open Go.RowKit

theorem list_eq_iffI (l1 l2 : List Int) (hl : l1.length = l2.length) (h : ∀ j (h1 : j < l1.length) (h2 : j < l2.length), l1[j] = l2[j]) : l1 = l2 := List.ext_getElem hl h
set_option maxHeartbeats 1000000 in
theorem equalI_len (l1 l2 : List Int) (v1 v2 : Value) (w : World) (h1 : RdV w v1 (l1.map (Value.int .i64))) (h2 : RdV w v2 (l2.map (Value.int .i64))) (hl : l1.length ≠ l2.length) :
    Calls Tryd.prog 17 #[v1, v2] w fun e w' => e = .returned (.bool (decide (l1 = l2))) ∧ Keeps w w' (fun _ => False) := by
  have hd : decide (l1 = l2) = false := decide_eq_false (fun e => hl (by rw [e]))
  rw [hd]
  obtain ⟨a1, c1, e1, _, _⟩ := h1.form
  obtain ⟨a2, c2, e2, _, _⟩ := h2.form
  rw [List.length_map] at e1 e2
  subst e1
  subst e2
  clear h1 h2 hd
  go_enter Tryd.func17, Tryd.ntmps17
  go_wp2
  go_ret
  exact ⟨rfl, Keeps.refl _ _⟩
set_option maxHeartbeats 2000000 in
theorem equalI_same (l1 l2 : List Int) (v1 v2 : Value) (w : World) (h1 : RdV w v1 (l1.map (Value.int .i64))) (h2 : RdV w v2 (l2.map (Value.int .i64))) (hl : l1.length = l2.length) :
    Calls Tryd.prog 17 #[v1, v2] w fun e w' => e = .returned (.bool (decide (l1 = l2))) ∧ Keeps w w' (fun _ => False) := by
  obtain ⟨a1, c1, e1, _, _⟩ := h1.form
  obtain ⟨a2, c2, e2, _, _⟩ := h2.form
  have hm := h1.len
  unfold maxLen at hm
  rw [List.length_map] at e1 e2 hm
  rw [← hl] at e2
  subst e1
  subst e2
  have H1 := Lib.hid h1
  have H2 := Lib.hid h2
  have HL := Lib.hid hl
  clear h1 h2 hl
  have HD : Hid (∀ k (hk : k < l1.length) (hk2 : k < l2.length), ∃ g1 o1 g2 o2, a1 = some ⟨g1, o1, none⟩ ∧ a2 = some ⟨g2, o2, none⟩ ∧ w.cell? ⟨g1, o1 + k, none⟩ = some ((Value.int .i64) l1[k]) ∧ w.cell? ⟨g2, o2 + k, none⟩ = some ((Value.int .i64) l2[k])) := Lib.hid (fun k hk hk2 => by
    obtain ⟨g1, o1, rfl, _, _, x1⟩ := H1.out.at (by simp; omega)
    obtain ⟨g2, o2, rfl, _, _, x2⟩ := H2.out.at (by simp; omega)
    exact ⟨g1, o1, g2, o2, rfl, rfl, x1 k _ (by simp [hk]), x2 k _ (by simp [hk2])⟩)
  clear H1 H2
  go_enter Tryd.func17, Tryd.ntmps17
  go_wp2
  go_loopw [13] (fun i wr => ∃ k : Nat, k ≤ l1.length ∧ i = .int .i64 k ∧ (∃ q, wr = w.drewN q) ∧ ∀ j (hj : j < l1.length) (hj2 : j < l2.length), j < k → l1[j] = l2[j]) (fun i _ => l1.length - (intOf i).toNat)
  case atStart => exact ⟨0, Nat.zero_le _, rfl, ⟨0, rfl⟩, fun j _ _ h => by omega⟩
  case round =>
    obtain ⟨k, hk, rfl, ⟨q, rfl⟩, hall⟩ := hrel
    have HA := Lib.hid hall
    clear hall
    by_cases hlt : k < l1.length
    · have hlt2 : k < l2.length := by rw [← HL.out]; exact hlt
      obtain ⟨g1, o1, g2, o2, rfl, rfl, x1, x2⟩ := HD.out k hlt hlt2
      clear HD
      by_cases heq : l1[k] = l2[k]
      · have HQ := Lib.hid heq
        rw [← heq] at x2
        clear heq
        go_wp2
        go_quiet (fail)
        go_wp2
        go_roundw
        case rel =>
          refine ⟨k + 1, by omega, by go_num, ⟨_, rfl⟩, fun j hj hj2 hjk => ?_⟩
          by_cases hjk' : j = k
          · subst hjk'; exact HQ.out
          · exact HA.out j hj hj2 (by omega)
        case measure => simp [intOf]; omega
      · have hne := heq
        have hd : decide (l1 = l2) = false := decide_eq_false (fun e => hne (by subst e; rfl))
        have HH := Lib.hid hd
        have hq : ((l1[k] : Int) == l2[k]) = false := by simpa using hne
        have hq2 : ¬ ((l1[k] : Int) = l2[k]) := hne
        clear heq hne hd HA
        go_wp2
        go_quiet (fail)
        go_wp2
        go_ret
        exact ⟨by rw [HH.out]; rfl, ((Keeps.refl _ _).drewN _).drewN _⟩
    · have hd : decide (l1 = l2) = true := decide_eq_true (list_eq_iffI l1 l2 HL.out (fun j hj hj2 => HA.out j hj hj2 (by omega)))
      have HH := Lib.hid hd
      clear hd HA HD
      go_wp2
      go_ret
      exact ⟨by rw [HH.out]; rfl, (Keeps.refl _ _).drewN _⟩
theorem equalI_any (l1 l2 : List Int) (v1 v2 : Value) (w : World) (h1 : RdV w v1 (l1.map (Value.int .i64))) (h2 : RdV w v2 (l2.map (Value.int .i64))) :
    Calls Tryd.prog 17 #[v1, v2] w fun e w' => e = .returned (.bool (decide (l1 = l2))) ∧ Keeps w w' (fun _ => False) := by
  by_cases hl : l1.length = l2.length
  · exact equalI_same l1 l2 v1 v2 w h1 h2 hl
  · exact equalI_len l1 l2 v1 v2 w h1 h2 hl
end Go.Proofs.YtdhcnmljkmodhaaDoor

/- The awake of layer 10. -/
namespace Go.Proofs.YtdhcnmljkmodhaaDoor
set_option linter.unusedSectionVars false
set_option linter.unusedVariables false
set_option linter.unusedSimpArgs false
set_option maxRecDepth 20000
open Go.RowKit

theorem encI_map (l : List Int) : l.flatMap encI = l.map (Value.int .i64) := by
  induction l with
  | nil => rfl
  | cons a r ih => rw [List.flatMap_cons, ih]; rfl
theorem ReadsI.rdv {w : World} {v : Value} {l : List Int} (h : ReadsI w v l) : RdV w v (l.map (Value.int .i64)) := by
  unfold RdV
  rw [List.length_map, ← encI_map]
  exact h
theorem ReadsI.ofV {w : World} {v : Value} {l : List Int} (h : RdV w v (l.map (Value.int .i64))) : ReadsI w v l := by
  unfold RdV at h
  rw [List.length_map, ← encI_map] at h
  exact h
/-- A chain of one op. -/
theorem RdO.lit1 (w : World) (k x : Int) (t : TypeId) : RdO (w.alloc (.cells #[.int .i64 k, .int .i64 x] t)) (.slice (some ⟨w.heap.size, 0, none⟩) 1 1) [(k, x)] := by
  have hb := heap_alloc_new w (.cells #[.int .i64 k, .int .i64 x] t)
  refine ⟨rfl, _, _, rfl, Nat.le_refl _, by unfold maxLen; decide, (fun h => by cases h), fun _ => ⟨_, _, rfl, block_lt hb, fun j u hj => ?_⟩⟩
  rw [Nat.zero_add, cell_at hb, ← Array.getElem?_toList]
  exact hj
theorem awDo : doL [1, 2, 3] [0] [(3, 1)] = some [1, 0] := by decide
theorem awCk : checkL [1, 2, 3] 0 [(1, 0)] = some (9, 0) := by kernel_rfl
set_option maxHeartbeats 4000000 in
theorem awake10 (w : World) (hT : TabOk w) (hE : ErrT w) : Calls Tryd.prog 7 #[] w fun e w' => e = .returned (.bool true) ∧ Keeps w w' (fun _ => False) := by
  have GT := Lib.hid hT
  have GE := Lib.hid hE
  clear hT hE
  have RK0 := Lib.hid (litI w [1, 2, 3] #[.int .i64 1, .int .i64 2, .int .i64 3] rfl 3 rfl (by simp))
  have K0 := Lib.hid ((Keeps.refl w (fun _ => False)).alloc (.cells #[.int .i64 1, .int .i64 2, .int .i64 3] 3))
  go_enter Tryd.func7, Tryd.ntmps7
  go_wp2_with fail
  have RH : Hid (ReadsI (((w.alloc (.cells #[.int .i64 1, .int .i64 2, .int .i64 3] 3)).alloc (.cells #[.int .i64 0] 3)).alloc (.cells #[.int .i64 3, .int .i64 1] 44)) (.slice (some ⟨w.heap.size + 1, 0, none⟩) 1 1) [0]) := Lib.hid (by
    have h := litI (w.alloc (.cells #[.int .i64 1, .int .i64 2, .int .i64 3] 3)) [0] #[.int .i64 0] rfl 1 rfl (by simp)
    rw [hs_alloc] at h
    exact h.keeps ((Keeps.refl _ _).alloc _))
  have RO : Hid (RdO (((w.alloc (.cells #[.int .i64 1, .int .i64 2, .int .i64 3] 3)).alloc (.cells #[.int .i64 0] 3)).alloc (.cells #[.int .i64 3, .int .i64 1] 44)) (.slice (some ⟨w.heap.size + 1 + 1, 0, none⟩) 1 1) [(3, 1)]) := Lib.hid (by
    have h := RdO.lit1 ((w.alloc (.cells #[.int .i64 1, .int .i64 2, .int .i64 3] 3)).alloc (.cells #[.int .i64 0] 3)) 3 1 44
    rw [hs_alloc, hs_alloc] at h
    exact h)
  have RK := Lib.hid (RK0.out.keeps (((Keeps.refl _ (fun _ => False)).alloc (.cells #[.int .i64 0] 3)).alloc (.cells #[.int .i64 3, .int .i64 1] 44)))
  have K1 := Lib.hid ((K0.out.alloc (.cells #[.int .i64 0] 3)).alloc (.cells #[.int .i64 3, .int .i64 1] 44))
  refine (do_any _ _ _ _ [1, 2, 3] [0] [(3, 1)] (by simp) RK.out RH.out RO.out).mono ?_
  rintro e w1 ⟨v, rfl, hk, hr⟩
  have R1 : Hid (ReadsI w1 v [1, 0]) := Lib.hid (by rw [awDo] at hr; exact hr)
  have K2 := Lib.hid (K1.out.trans hk)
  have RK2 := Lib.hid (RK.out.keeps hk)
  have hdo : (doL [1, 2, 3] [0] [(3, 1)]).isSome = true := by rw [awDo]; rfl
  rw [hdo]
  clear hk hr hdo RK RH RO K1 K0 RK0
  generalize w.heap.size = N at *
  go_wp2_with fail
  refine (awake1 _ (GE.out.keeps K2.out)).mono ?_
  rintro e w3 ⟨rfl, hk⟩
  have K3 := Lib.hid (K2.out.trans hk)
  have R3 := Lib.hid (R1.out.keeps hk)
  have RK3 := Lib.hid (RK2.out.keeps hk)
  clear hk R1 RK2 K2
  go_wp2_with fail
  refine (awake9 _ (GT.out.keeps K3.out)).mono ?_
  rintro e w4 ⟨rfl, hk⟩
  have K4 := Lib.hid (K3.out.trans hk)
  have R4 := Lib.hid (R3.out.keeps hk)
  have RK4 := Lib.hid (RK3.out.keeps hk)
  clear hk R3 RK3 K3
  go_wp2_with fail
  have KL : Hid (Keeps w4 (w4.alloc (.cells #[.int .i64 1, .int .i64 0] 3)) (fun _ => False)) := Lib.hid ((Keeps.refl _ _).alloc _)
  refine (equalI_any [1, 0] [1, 0] _ _ _ (R4.out.keeps KL.out).rdv (litI w4 [1, 0] #[.int .i64 1, .int .i64 0] rfl 2 rfl (by simp)).rdv).mono ?_
  rintro e w5 ⟨rfl, hk⟩
  have K5 := Lib.hid ((K4.out.trans KL.out).trans hk)
  have RK5 := Lib.hid ((RK4.out.keeps KL.out).keeps hk)
  clear hk R4 RK4 K4 KL
  rw [show decide (([1, 0] : List Int) = [1, 0]) = true from rfl]
  go_wp2_with fail
  have KM : Hid (Keeps w5 (w5.alloc (.cells #[.int .i64 1, .int .i64 0] 44)) (fun _ => False)) := Lib.hid ((Keeps.refl _ _).alloc _)
  refine (check_any _ _ _ [1, 2, 3] 0 [(1, 0)] (by simp) (RK5.out.keeps KM.out) (RdO.lit1 w5 1 0 44) ((GT.out.keeps K5.out).keeps KM.out)).mono ?_
  rintro e w6 ⟨u, rfl, hk, hv⟩
  rw [awCk] at hv
  have HV := Lib.hid hv
  have K6 := Lib.hid ((K5.out.trans KM.out).trans hk)
  clear hk hv K5 KM RK5
  go_wp2_with fail
  refine (is_any _ u (some (9, 0)) (GE.out.keeps K6.out) HV.out).mono ?_
  rintro e w7 ⟨rfl, hk⟩
  have K7 := Lib.hid (K6.out.trans hk)
  clear hk K6 HV
  go_wp2_with fail
  go_ret
  exact ⟨rfl, K7.out⟩
end Go.Proofs.YtdhcnmljkmodhaaDoor
