/- fairleadlaw01.Is, where it says true; errors as ops.Check makes them. -/
import Derived.Test.YtdhcnmljkmodhaaDoorOops7
import Derived.Test.YtdhcnmljkmodhaaDoorHeader5
namespace Go.Proofs.YtdhcnmljkmodhaaDoor
set_option linter.unusedSectionVars false
set_option linter.unusedVariables false
set_option linter.unusedSimpArgs false
set_option maxRecDepth 20000
open Go.RowKit

/-- No error; or a fault of a number and a place. -/
def ErrV (w : World) (v : Value) : Option (Int × Int) → Prop
  | none => v = .nilIface
  | some (c, a) => (c == 0) = false ∧ ∃ g, v = chainV [] (.fault g c a) ∧ ChainOk w [] (.fault g c a)
theorem ErrV.keeps {w w' : World} {v : Value} {r : Option (Int × Int)} (h : ErrV w v r) (hk : Keeps w w' (fun _ => False)) : ErrV w' v r := by
  cases r with
  | none => exact h
  | some p => obtain ⟨c, a⟩ := p; obtain ⟨h1, g, h2, h3⟩ := h; exact ⟨h1, g, h2, h3.keeps hk⟩
/-- What Is is asked for. -/
def errN (r : Option (Int × Int)) : Int × Int := r.getD (0, 0)

theorem is_nil (w : World) (a : Int) : Calls Tryd.prog 11 #[.nilIface, .int .i64 0, .int .i64 a] w fun e w' => e = .returned (.bool true) ∧ Keeps w w' (fun _ => False) := by
  go_enter Tryd.func11, Tryd.ntmps11
  go_wp2
  go_ret
  exact ⟨rfl, Keeps.refl _ _⟩
set_option maxHeartbeats 1000000 in
theorem is_some (w : World) (g : Nat) (c a : Int) (hc : (c == 0) = false) (hg : ErrT w) (hok : ChainOk w [] (.fault g c a)) : Calls Tryd.prog 11 #[chainV [] (.fault g c a), .int .i64 c, .int .i64 a] w fun e w' => e = .returned (.bool true) ∧ Keeps w w' (fun _ => False) := by
  have HG := Lib.hid hg
  have HC := Lib.hid hok
  have hcode : EB.codeN (.fault g c a) = c := rfl
  have hat : EB.atN (.fault g c a) = a := rfl
  have hv : chainV [] (.fault g c a) = .iface 70 (.pointer (some ⟨g, 0, none⟩)) := rfl
  rw [hv]
  clear hg hok
  go_enter Tryd.func11, Tryd.ntmps11
  go_wp2_with fail
  refine (code_any [] (.fault g c a) _ HG.out HC.out).mono ?_
  rintro e w1 ⟨rfl, hk⟩
  have K1 := Lib.hid hk
  clear hk
  go_wp2_with fail
  refine (at_any [] (.fault g c a) _ (HG.out.keeps K1.out) (HC.out.keeps K1.out)).mono ?_
  rintro e w2 ⟨rfl, hk⟩
  have K2 := Lib.hid (K1.out.trans hk)
  clear hk K1
  go_wp2_with fail
  refine (words_any [] (.fault g c a) _ (HG.out.keeps K2.out) (HC.out.keeps K2.out) (by simp)).mono ?_
  rintro e w3 ⟨u, rfl, hr, hk⟩
  have K3 := Lib.hid (K2.out.trans hk)
  obtain ⟨q, cp, hq, _, _⟩ := (RdV.ofOwn hr).form
  have hw0 : (wordsV []).length = 0 := rfl
  rw [hw0] at hq
  subst hq
  clear hk K2 hr hw0
  go_wp2_with fail
  go_ret
  exact ⟨rfl, K3.out⟩
theorem is_any (w : World) (v : Value) (r : Option (Int × Int)) (hg : ErrT w) (h : ErrV w v r) : Calls Tryd.prog 11 #[v, .int .i64 (errN r).1, .int .i64 (errN r).2] w fun e w' => e = .returned (.bool true) ∧ Keeps w w' (fun _ => False) := by
  cases r with
  | none => obtain rfl : v = .nilIface := h; exact is_nil w 0
  | some p =>
    obtain ⟨c, a⟩ := p
    obtain ⟨hc, g, rfl, hok⟩ := h
    exact is_some w g c a hc hg hok
theorem new_any (c a : Int) (hc : (c == 0) = false) (w : World) : Calls Tryd.prog 30 #[.int .i64 c, .int .i64 a] w fun e w' => ∃ v, e = .returned v ∧ Keeps w w' (fun _ => False) ∧ ErrV w' v (some (c, a)) :=
  (new_some c a hc w).mono fun e w' ⟨h1, h2⟩ => by
    subst h2
    exact ⟨_, h1, (Keeps.refl _ _).alloc _, hc, _, rfl, ChainOk.fault w c a _⟩

theorem awake1 (w : World) (hg : ErrT w) : Calls Tryd.prog 22 #[] w fun e w' => e = .returned (.bool true) ∧ Keeps w w' (fun _ => False) := by
  have HG := Lib.hid hg
  clear hg
  go_enter Tryd.func22, Tryd.ntmps22
  go_wp2_with fail
  refine (awake01 _ HG.out).mono ?_
  rintro e w1 ⟨rfl, hk⟩
  have K1 := Lib.hid hk
  clear hk
  go_wp2_with fail
  go_ret
  exact ⟨rfl, K1.out⟩
theorem awake9 (w : World) (hT : TabOk w) : Calls Tryd.prog 23 #[] w fun e w' => e = .returned (.bool true) ∧ Keeps w w' (fun _ => False) := by
  have HG := Lib.hid hT
  clear hT
  go_enter Tryd.func23, Tryd.ntmps23
  go_wp2_with fail
  refine (awake09 _ HG.out).mono ?_
  rintro e w1 ⟨rfl, hk⟩
  have K1 := Lib.hid hk
  clear hk
  go_wp2_with fail
  go_ret
  exact ⟨rfl, K1.out⟩
end Go.Proofs.YtdhcnmljkmodhaaDoor
