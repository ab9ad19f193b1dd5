/- The walks of Word, Of, May, Contains. -/
import Derived.Test.YtmmoopikglbmbaaDoorHeader7
namespace Go.Proofs.YtmmoopikglbmbaaDoor
set_option linter.unusedSectionVars false
set_option linter.unusedVariables false
set_option linter.unusedSimpArgs false
open Go.RowKit

def wIp : ByteArray := ⟨#[105, 112]⟩
def wSm : ByteArray := ⟨#[115, 109, 112, 108, 115]⟩
def wMp : ByteArray := ⟨#[109, 112, 108, 115]⟩
def wNo : ByteArray := ⟨#[]⟩
def wordL (k : Int) : ByteArray := if k = 1 then wIp else if k = 2 then wSm else if k = 3 then wMp else wNo

theorem word_any (k : Int) (w : World) : Calls Tryd.prog 39 #[.int .i64 k] w fun e w' => e = .returned (.string (wordL k)) ∧ w = w' := by
  by_cases h1 : k = 1
  · subst h1
    go_enter Tryd.func39, Tryd.ntmps39
    go_wp2
    go_ret
    exact ⟨rfl, rfl⟩
  by_cases h2 : k = 2
  · subst h2
    go_enter Tryd.func39, Tryd.ntmps39
    go_wp2
    go_ret
    exact ⟨rfl, rfl⟩
  by_cases h3 : k = 3
  · subst h3
    go_enter Tryd.func39, Tryd.ntmps39
    go_wp2
    go_ret
    exact ⟨rfl, rfl⟩
  have e : wordL k = wNo := by unfold wordL; rw [if_neg h1, if_neg h2, if_neg h3]
  rw [e]
  have b1 : (k == 1) = false := beq_eq_false_iff_ne.2 h1
  have b2 : (k == 2) = false := beq_eq_false_iff_ne.2 h2
  have b3 : (k == 3) = false := beq_eq_false_iff_ne.2 h3
  clear h1 h2 h3 e
  go_enter Tryd.func39, Tryd.ntmps39
  go_wp2
  go_ret
  exact ⟨rfl, rfl⟩

/-- A word's kind. -/
def ofW (s : ByteArray) : Int := if ((wordL 1).toList == s.toList) = true then 1 else if ((wordL 2).toList == s.toList) = true then 2 else if ((wordL 3).toList == s.toList) = true then 3 else 0
theorem ofW_word (k : Nat) (h1 : 1 ≤ k) (h3 : k ≤ 3) : ofW (wordL k) = k := by
  obtain rfl | rfl | rfl : k = 1 ∨ k = 2 ∨ k = 3 := by omega
  · decide +kernel
  · decide +kernel
  · decide +kernel
set_option maxHeartbeats 400000 in
theorem hof_any (s : ByteArray) (w : World) : Calls Tryd.prog 37 #[.string s] w fun e w' => e = .returned (.int .i64 (ofW s)) ∧ w = w' := by
  unfold ofW
  cases h1 : ((wordL 1).toList == s.toList)
  · cases h2 : ((wordL 2).toList == s.toList)
    · cases h3 : ((wordL 3).toList == s.toList)
      all_goals
        go_enter Tryd.func37, Tryd.ntmps37
        go_wp2_with fail
        refine wp_loop_rounds 4 ?_
        rw [rounds_succ]
        go_wp2_with fail
        refine (word_any _ _).mono ?_
        rintro e w3 ⟨rfl, rfl⟩
        go_wp2_with fail
        rw [rounds_succ]
        go_wp2_with fail
        refine (word_any _ _).mono ?_
        rintro e w3 ⟨rfl, rfl⟩
        go_wp2_with fail
        rw [rounds_succ]
        go_wp2_with fail
        refine (word_any _ _).mono ?_
        rintro e w3 ⟨rfl, rfl⟩
        go_wp2_with fail
        try rw [rounds_succ]
        try go_wp2_with fail
        go_ret
        exact ⟨rfl, rfl⟩
    · go_enter Tryd.func37, Tryd.ntmps37
      go_wp2_with fail
      refine wp_loop_rounds 4 ?_
      rw [rounds_succ]
      go_wp2_with fail
      refine (word_any _ _).mono ?_
      rintro e w3 ⟨rfl, rfl⟩
      go_wp2_with fail
      rw [rounds_succ]
      go_wp2_with fail
      refine (word_any _ _).mono ?_
      rintro e w3 ⟨rfl, rfl⟩
      go_wp2_with fail
      go_ret
      exact ⟨rfl, rfl⟩
  · go_enter Tryd.func37, Tryd.ntmps37
    go_wp2_with fail
    refine wp_loop_rounds 4 ?_
    rw [rounds_succ]
    go_wp2_with fail
    refine (word_any _ _).mono ?_
    rintro e w3 ⟨rfl, rfl⟩
    go_wp2_with fail
    go_ret
    exact ⟨rfl, rfl⟩
theorem index_none (s s0 s1 s2 s3 : ByteArray) (g : Nat) (w : World) (h0 : w.cell? ⟨g, 0, none⟩ = some (.string s0)) (h1 : w.cell? ⟨g, 1, none⟩ = some (.string s1)) (h2 : w.cell? ⟨g, 2, none⟩ = some (.string s2)) (h3 : w.cell? ⟨g, 3, none⟩ = some (.string s3))
    (n0 : (s.toList == s0.toList) = false) (n1 : (s.toList == s1.toList) = false) (n2 : (s.toList == s2.toList) = false) (n3 : (s.toList == s3.toList) = false) :
    Calls Tryd.prog 50 #[.slice (some ⟨g, 0, none⟩) 4 4, .string s] w fun e w' => e = .returned (.int .i64 (-1)) ∧ w = w' := by
  go_enter Tryd.func50, Tryd.ntmps50
  go_wp2_with fail
  refine wp_loop_rounds 5 ?_
  rw [rounds_succ]
  go_wp2_with fail
  rw [rounds_succ]
  go_wp2_with fail
  rw [rounds_succ]
  go_wp2_with fail
  rw [rounds_succ]
  go_wp2_with fail
  rw [rounds_succ]
  go_wp2_with fail
  go_ret
  exact ⟨rfl, rfl⟩
theorem contains_none (s s0 s1 s2 s3 : ByteArray) (g : Nat) (w : World) (h0 : w.cell? ⟨g, 0, none⟩ = some (.string s0)) (h1 : w.cell? ⟨g, 1, none⟩ = some (.string s1)) (h2 : w.cell? ⟨g, 2, none⟩ = some (.string s2)) (h3 : w.cell? ⟨g, 3, none⟩ = some (.string s3))
    (n0 : (s.toList == s0.toList) = false) (n1 : (s.toList == s1.toList) = false) (n2 : (s.toList == s2.toList) = false) (n3 : (s.toList == s3.toList) = false) :
    Calls Tryd.prog 38 #[.slice (some ⟨g, 0, none⟩) 4 4, .string s] w fun e w' => e = .returned (.bool false) ∧ w = w' := by
  go_enter Tryd.func38, Tryd.ntmps38
  go_wp2_with fail
  refine (index_none s s0 s1 s2 s3 g w h0 h1 h2 h3 n0 n1 n2 n3).mono ?_
  rintro e w3 ⟨rfl, rfl⟩
  go_wp2_with fail
  go_ret
  exact ⟨rfl, rfl⟩
theorem may_any (a b : Int) (w : World) : Calls Tryd.prog 40 #[.int .i64 a, .int .i64 b] w fun e w' => e = .returned (.bool (mayL a b)) ∧ w = w' := by
  unfold mayL
  cases a2 : (a == 2) <;> cases a3 : (a == 3) <;> cases b1 : (b == 1) <;> cases b2 : (b == 2) <;> cases b3 : (b == 3)
  all_goals
    first
    | (exfalso; simp only [beq_iff_eq, beq_eq_false_iff_ne, ne_eq] at a2 a3 b1 b2 b3; omega)
    | (go_enter Tryd.func40, Tryd.ntmps40
       go_wp2
       go_ret
       exact ⟨rfl, rfl⟩)
theorem below_len (k : Int) : (belowS k).mem.length < 3 := by
  unfold belowS
  split
  · decide +kernel
  · split
    · decide +kernel
    · decide +kernel
end Go.Proofs.YtmmoopikglbmbaaDoor
