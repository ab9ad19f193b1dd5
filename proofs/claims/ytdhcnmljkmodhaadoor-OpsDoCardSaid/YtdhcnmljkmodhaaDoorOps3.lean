/- ops.Do. -/
import Derived.Test.YtdhcnmljkmodhaaDoorOps2
namespace Go.Proofs.YtdhcnmljkmodhaaDoor
set_option linter.unusedSectionVars false
set_option linter.unusedVariables false
set_option linter.unusedSimpArgs false
set_option maxRecDepth 20000
open Go.RowKit

/-- What Do tells: a header, and whether. -/
def DoPost (w : World) (r : Option (List Int)) (e : Ending) (w' : World) : Prop :=
  ∃ v, e = .returned (.tuple #[v, .bool r.isSome]) ∧ Keeps w w' (fun _ => False) ∧ ReadsI w' v (r.getD [])
theorem readsNil (w : World) : ReadsI w (.slice none 0 0) [] := ⟨rfl, none, 0, rfl, Nat.le_refl _, by unfold maxLen; omega, fun _ => ⟨rfl, rfl⟩, fun h => by cases h⟩
theorem validL_ne {ks h : List Int} (hv : validL ks h = true) : h ≠ [] := by
  rintro rfl; cases hv
theorem chainL_step (ks h : List Int) (c : List (Int × Int)) (k : Nat) (hk : k < c.length) : chainL ks h (c.drop k) = match oneL ks h c[k].1 c[k].2 with
    | none => none
    | some h' => chainL ks h' (c.drop (k + 1)) := by
  rw [List.drop_eq_getElem_cons hk]; rfl
/-- What the loop knows ahead of round k. -/
structure DoInv (w : World) (ks h : List Int) (c : List (Int × Int)) (k : Nat) (h' : List Int) (v : Value) (wr : World) : Prop where
  rd : ReadsI wr v h'
  same : chainL ks h c = chainL ks h' (c.drop k)
  ne : h' ≠ []
  len : h'.length ≤ h.length + k
  keep : Keeps w wr (fun _ => False)

set_option maxHeartbeats 2000000 in
theorem do_any (w : World) (vk vh vc : Value) (ks h : List Int) (c : List (Int × Int)) (hl : h.length + c.length ≤ 100) (Hk : ReadsI w vk ks) (Hh : ReadsI w vh h) (Hc : RdO w vc c) :
    Calls Tryd.prog 14 #[vk, vh, vc] w (DoPost w (doL ks h c)) := by
  obtain ⟨ac, capc, rfl, _, hmc⟩ := Hc.form
  have GK := Lib.hid Hk
  have GH := Lib.hid Hh
  have GC := Lib.hid Hc
  clear Hk Hh Hc hmc
  go_enter Tryd.func14, Tryd.ntmps14
  go_wp2_with fail
  refine (valid_any w vk vh ks h GK.out GH.out).mono ?_
  rintro e w1 ⟨rfl, hk1⟩
  have K1 := Lib.hid hk1
  clear hk1
  cases hv : validL ks h with
  | false =>
    go_wp2_with fail
    go_ret2
    exact ⟨.slice none 0 0, by simp [doL, hv], K1.out, by simp [doL, hv]; exact readsNil _⟩
  | true =>
    have HV := Lib.hid hv
    have hne := Lib.hid (validL_ne hv)
    clear hv
    go_wp2_with fail
    refine (clone_any w1 vh h (by omega) (GH.out.keeps K1.out)).mono ?_
    rintro e w2 ⟨u, rfl, hk2, hr2⟩
    have K2 := Lib.hid (K1.out.trans hk2)
    have R2 := Lib.hid hr2
    clear hk2 hr2 GH K1
    go_wp2_with fail
    go_loopw [1, 20] (fun v t20 wr => ∃ (k : Nat) (h' : List Int), t20 = .int .i64 k ∧ k ≤ c.length ∧ DoInv w ks h c k h' v wr) (fun _ t20 _ => c.length - (intOf t20).toNat)
    case atStart => exact ⟨0, h, rfl, Nat.zero_le _, R2.out, rfl, hne.out, Nat.le_refl _, K2.out⟩
    case round =>
      obtain ⟨k, h', rfl, hk, inv⟩ := hrel
      have I := Lib.hid inv
      clear inv
      by_cases hlt : k < c.length
      · obtain ⟨g, off, rfl, hg, hc⟩ := (GC.out.keeps I.out.keep).cell k hlt
        have hc0 := (hc k hlt).1
        have hc1 := (hc k hlt).2
        have HS := Lib.hid (chainL_step ks h' c k hlt)
        clear hc
        generalize c[k].1 = ok at *
        generalize c[k].2 = ox at *
        have c0 := Lib.hid hc0
        go_wp2_with fail
        obtain ⟨a, t, e1⟩ := List.exists_cons_of_ne_nil I.out.ne
        have hle := I.out.len
        subst e1
        rw [List.length_cons] at hle
        have KA : Hid (Keeps w (wr.alloc (.cells #[.int .i64 ok, .int .i64 ox] 44)) (fun _ => False)) := Lib.hid (I.out.keep.alloc _)
        refine (one_any _ vk _ ks a t ok ox (by omega) (GK.out.keeps KA.out) (I.out.rd.keeps ((Keeps.refl wr _).alloc _))).mono ?_
        rintro e w3 ⟨v3, rfl, hk3, hr3⟩
        have K3 := Lib.hid (KA.out.trans hk3)
        have R3 := Lib.hid hr3
        clear hk3 hr3 KA hc0 hc1 c0
        cases ho : oneL ks (a :: t) ok ox with
        | none =>
          have HF : Hid (doL ks h c = none) := Lib.hid (by unfold doL; rw [if_pos HV.out, I.out.same, HS.out, ho])
          clear ho
          go_wp2_with fail
          go_ret2
          exact ⟨.slice none 0 0, by rw [HF.out]; rfl, K3.out, by rw [HF.out]; exact readsNil _⟩
        | some h2 =>
          have HL := Lib.hid (oneL_len ho)
          have HS2 : Hid (chainL ks h c = chainL ks h2 (c.drop (k + 1))) := Lib.hid (by rw [I.out.same, HS.out, ho])
          have R4 := Lib.hid (R3.out h2 ho)
          clear ho HS R3
          go_wp2_with fail
          go_roundw
          case rel =>
            refine ⟨k + 1, h2, by go_num, by omega, R4.out, HS2.out, HL.out.2, ?_, K3.out⟩
            have := HL.out.1
            rw [List.length_cons] at this
            omega
          case measure => simp [intOf]; omega
      · have hk' : k = c.length := by omega
        subst hk'
        have HF : Hid (doL ks h c = some h') := Lib.hid (by unfold doL; rw [if_pos HV.out, I.out.same, List.drop_eq_nil_of_le (Nat.le_refl _)]; rfl)
        have hle := I.out.len
        go_wp2_with fail
        refine (clone_any _ _ h' (by omega) I.out.rd).mono ?_
        rintro e w3 ⟨u3, rfl, hk3, hr3⟩
        have K3 := Lib.hid (I.out.keep.trans hk3)
        have R3 := Lib.hid hr3
        clear hk3 hr3
        go_wp2_with fail
        go_ret2
        exact ⟨u3, by rw [HF.out]; rfl, K3.out, by rw [HF.out]; exact R3.out⟩
end Go.Proofs.YtdhcnmljkmodhaaDoor
