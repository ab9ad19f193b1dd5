/- The number of bits in a word (OnesCount64), the least one (TrailingZeros64): the mathematics and the walks. -/
import Derived.Test.YtdhcnmljkmodhaaDoorBits1
namespace Go.Proofs.YtdhcnmljkmodhaaDoor
set_option linter.unusedSectionVars false
set_option linter.unusedVariables false
set_option linter.unusedSimpArgs false
open Go.RowKit

/-- The number of ones among the first n bits. -/
def pc : Nat → Nat → Nat
  | 0, _ => 0
  | n + 1, x => x % 2 + pc n (x / 2)
theorem pc_filter (n x : Nat) : ((List.range n).filter (fun i => x.testBit i)).length = pc n x := by
  induction n generalizing x with
  | zero => rfl
  | succ n ih =>
    rw [List.range_succ_eq_map, List.filter_cons, List.filter_map, pc, ← ih (x / 2)]
    have e : ((fun i => x.testBit i) ∘ Nat.succ) = (fun i => (x / 2).testBit i) := by funext i; simp [Nat.testBit_succ]
    rw [e]
    by_cases h : x.testBit 0 = true
    · rw [if_pos h]; simp [Nat.testBit_zero] at h; simp [h]; omega
    · rw [if_neg h]; simp [Nat.testBit_zero] at h; simp [h]
theorem pc_byte (n c r : Nat) (hc : c < 256) : pc (n + 8) (c + 256 * r) = pc 8 c + pc n r := by
  simp only [pc]
  have e : (c + 256 * r) / 2 / 2 / 2 / 2 / 2 / 2 / 2 / 2 = r := by omega
  rw [e]
  omega

def num : List Nat → Nat
  | [] => 0
  | c :: l => c + 256 * num l
theorem and_step (c r m M : Nat) (hc : c < 256) (hm : m < 256) : (c + 256 * r) &&& (m + 256 * M) = (c &&& m) + 256 * (r &&& M) := by
  have h1 : ((c + 256 * r) &&& (m + 256 * M)) % 2 ^ 8 = c &&& m := by
    rw [Nat.and_mod_two_pow]; congr 1 <;> omega
  have h2 : ((c + 256 * r) &&& (m + 256 * M)) / 2 ^ 8 = r &&& M := by
    rw [Nat.and_div_two_pow]; congr 1 <;> omega
  omega
theorem step55 : ∀ c, c < 256 → ∀ b, b < 2 → (c / 2 + 128 * b) &&& 85 = (c / 2) &&& 85 := by decide +kernel
theorem step33 : ∀ c, c < 256 → ∀ b, b < 4 → (c / 4 + 64 * b) &&& 51 = (c / 4) &&& 51 := by decide +kernel
theorem num_55 (l : List Nat) (h : ∀ c ∈ l, c < 256) : (num l / 2) &&& num (l.map fun _ => 85) = num (l.map fun c => (c / 2) &&& 85) := by
  induction l with
  | nil => rfl
  | cons c l ih =>
    have hc := h c (List.mem_cons_self ..)
    simp only [num, List.map_cons]
    rw [show (c + 256 * num l) / 2 = (c / 2 + 128 * (num l % 2)) + 256 * (num l / 2) by omega, and_step _ _ _ _ (by omega) (by omega), step55 c hc _ (by omega), ih (fun c hc => h c (List.mem_cons_of_mem _ hc))]
theorem num_55' (l : List Nat) (h : ∀ c ∈ l, c < 256) : num l &&& num (l.map fun _ => 85) = num (l.map fun c => c &&& 85) := by
  induction l with
  | nil => rfl
  | cons c l ih =>
    simp only [num, List.map_cons]
    rw [and_step _ _ _ _ (h c (List.mem_cons_self ..)) (by omega), ih (fun c hc => h c (List.mem_cons_of_mem _ hc))]
theorem num_33 (l : List Nat) (h : ∀ c ∈ l, c < 256) : (num l / 4) &&& num (l.map fun _ => 51) = num (l.map fun c => (c / 4) &&& 51) := by
  induction l with
  | nil => rfl
  | cons c l ih =>
    have hc := h c (List.mem_cons_self ..)
    simp only [num, List.map_cons]
    rw [show (c + 256 * num l) / 4 = (c / 4 + 64 * (num l % 4)) + 256 * (num l / 4) by omega, and_step _ _ _ _ (by omega) (by omega), step33 c hc _ (by omega), ih (fun c hc => h c (List.mem_cons_of_mem _ hc))]
theorem num_33' (l : List Nat) (h : ∀ c ∈ l, c < 256) : num l &&& num (l.map fun _ => 51) = num (l.map fun c => c &&& 51) := by
  induction l with
  | nil => rfl
  | cons c l ih =>
    simp only [num, List.map_cons]
    rw [and_step _ _ _ _ (h c (List.mem_cons_self ..)) (by omega), ih (fun c hc => h c (List.mem_cons_of_mem _ hc))]
theorem num_add (l : List Nat) (f g : Nat → Nat) : num (l.map f) + num (l.map g) = num (l.map fun c => f c + g c) := by
  induction l with
  | nil => rfl
  | cons c l ih => simp only [num, List.map_cons]; omega
theorem step0f (c b : Nat) (h1 : c / 16 ≤ 4) (h2 : c % 16 ≤ 4) (hb : b ≤ 4) : (c / 16 + 16 * b + c) &&& 15 = c / 16 + c % 16 := by
  rw [show (15 : Nat) = 2 ^ 4 - 1 by rfl, Nat.and_two_pow_sub_one_eq_mod]
  omega
theorem num_0f (l : List Nat) (h : ∀ c ∈ l, c / 16 ≤ 4 ∧ c % 16 ≤ 4) : (num l / 16 + num l) &&& num (l.map fun _ => 15) = num (l.map fun c => c / 16 + c % 16) := by
  induction l with
  | nil => rfl
  | cons c l ih =>
    have hc := h c (List.mem_cons_self ..)
    have hr : num l % 16 ≤ 4 := by
      cases l with
      | nil => simp [num]
      | cons d l => have := h d (by simp); simp only [num]; omega
    simp only [num, List.map_cons]
    rw [show (c + 256 * num l) / 16 + (c + 256 * num l) = (c / 16 + 16 * (num l % 16) + c) + 256 * (num l / 16 + num l) by omega, and_step _ _ _ _ (by omega) (by omega), step0f c _ hc.1 hc.2 hr, ih (fun c hc => h c (List.mem_cons_of_mem _ hc))]
theorem byte_pc : ∀ c, c < 256 → let a := ((c / 2) &&& 85) + (c &&& 85); let b := ((a / 4) &&& 51) + (a &&& 51); a < 256 ∧ b < 256 ∧ b / 16 ≤ 4 ∧ b % 16 ≤ 4 ∧ b / 16 + b % 16 = pc 8 c := by decide +kernel

theorem num_le (B : Nat) (l : List Nat) (h : ∀ c ∈ l, c ≤ B) : num l ≤ num (l.map fun _ => B) := by
  induction l with
  | nil => exact Nat.le_refl _
  | cons c l ih =>
    have h1 := h c (List.mem_cons_self ..)
    have h2 := ih (fun c hc => h c (List.mem_cons_of_mem _ hc))
    simp only [num, List.map_cons]; omega
theorem fold8 (d0 d1 d2 d3 d4 d5 d6 d7 x3 x4 x5 x6 : Nat) (h0 : d0 ≤ 8) (h1 : d1 ≤ 8) (h2 : d2 ≤ 8) (h3 : d3 ≤ 8) (h4 : d4 ≤ 8) (h5 : d5 ≤ 8) (h6 : d6 ≤ 8) (h7 : d7 ≤ 8)
    (e3 : x3 = num [d0, d1, d2, d3, d4, d5, d6, d7]) (e4 : x4 = x3 + x3 / 256) (e5 : x5 = x4 + x4 / 65536) (e6 : x6 = x5 + x5 / 4294967296) :
    x6 < 9223372036854775808 ∧ x6 % 128 = d0 + (d1 + (d2 + (d3 + (d4 + (d5 + (d6 + d7)))))) := by
  simp only [num] at e3
  have f4 : x4 = (d0 + d1) + 256 * (d1 + d2) + 65536 * ((d2 + d3) + 256 * (d3 + d4) + 65536 * ((d4 + d5) + 256 * (d5 + d6) + 65536 * ((d6 + d7) + 256 * d7))) := by omega
  clear e4 e3
  have f5 : x5 = (d0 + d1 + d2 + d3) + 256 * (d1 + d2 + d3 + d4) + 65536 * ((d2 + d3 + d4 + d5) + 256 * (d3 + d4 + d5 + d6)) + 4294967296 * ((d4 + d5 + d6 + d7) + 256 * (d5 + d6 + d7) + 65536 * ((d6 + d7) + 256 * d7)) := by omega
  clear e5 f4
  have f6 : x5 / 4294967296 = (d4 + d5 + d6 + d7) + 256 * (d5 + d6 + d7) + 65536 * ((d6 + d7) + 256 * d7) := by omega
  omega

/-- The three masks and the folding, on the whole word. -/
theorem swar (x : Nat) (hx : x < 18446744073709551616) :
    ∃ x1 x2 x3 x4 x5 x6 : Nat, ((x / 2) &&& 6148914691236517205) + (x &&& 6148914691236517205) = x1 ∧ x1 < 18446744073709551616 ∧
      ((x1 / 4) &&& 3689348814741910323) + (x1 &&& 3689348814741910323) = x2 ∧ x2 < 18446744073709551616 ∧ x2 / 16 + x2 < 18446744073709551616 ∧
      ((x2 / 16 + x2) &&& 1085102592571150095) = x3 ∧ x3 + x3 / 256 = x4 ∧ x4 + x4 / 65536 = x5 ∧ x5 + x5 / 4294967296 = x6 ∧ x6 < 9223372036854775808 ∧ x6 % 128 = pc 64 x := by
  obtain ⟨c0, c1, c2, c3, c4, c5, c6, c7, h0, h1, h2, h3, h4, h5, h6, h7, e⟩ : ∃ c0 c1 c2 c3 c4 c5 c6 c7, c0 < 256 ∧ c1 < 256 ∧ c2 < 256 ∧ c3 < 256 ∧ c4 < 256 ∧ c5 < 256 ∧ c6 < 256 ∧ c7 < 256 ∧ x = num [c0, c1, c2, c3, c4, c5, c6, c7] := by
    refine ⟨x % 256, x / 256 % 256, x / 65536 % 256, x / 16777216 % 256, x / 4294967296 % 256, x / 1099511627776 % 256, x / 281474976710656 % 256, x / 72057594037927936 % 256, ?_⟩
    simp only [num]
    omega
  have hall : ∀ c ∈ [c0, c1, c2, c3, c4, c5, c6, c7], c < 256 := by
    intro c hc
    simp only [List.mem_cons, List.not_mem_nil, or_false] at hc
    omega
  have m1 : (6148914691236517205 : Nat) = num ([c0, c1, c2, c3, c4, c5, c6, c7].map fun _ => 85) := by simp [num]
  have m2 : (3689348814741910323 : Nat) = num ([c0, c1, c2, c3, c4, c5, c6, c7].map fun _ => 51) := by simp [num]
  have m3 : (1085102592571150095 : Nat) = num ([c0, c1, c2, c3, c4, c5, c6, c7].map fun _ => 15) := by simp [num]
  have s1 : ((x / 2) &&& 6148914691236517205) + (x &&& 6148914691236517205) = num ([c0, c1, c2, c3, c4, c5, c6, c7].map fun c => ((c / 2) &&& 85) + (c &&& 85)) := by
    rw [m1, e, num_55 _ hall, num_55' _ hall, num_add]
  have g : ∀ c ∈ [c0, c1, c2, c3, c4, c5, c6, c7], _ := fun c hc => byte_pc c (hall c hc)
  generalize hl : [c0, c1, c2, c3, c4, c5, c6, c7] = l at *
  have s2 : num ((l.map fun c => ((c / 2) &&& 85) + (c &&& 85)).map fun c => ((c / 4) &&& 51) + (c &&& 51)) = ((num (l.map fun c => ((c / 2) &&& 85) + (c &&& 85)) / 4) &&& 3689348814741910323) + (num (l.map fun c => ((c / 2) &&& 85) + (c &&& 85)) &&& 3689348814741910323) := by
    have hb : ∀ c ∈ l.map fun c => ((c / 2) &&& 85) + (c &&& 85), c < 256 := by
      intro c hc
      obtain ⟨b, hb, rfl⟩ := List.mem_map.1 hc
      exact (g b hb).1
    have mm : (l.map fun _ => 51) = ((l.map fun c => ((c / 2) &&& 85) + (c &&& 85)).map fun _ => 51) := by rw [List.map_map]; rfl
    rw [m2, mm, num_33 _ hb, num_33' _ hb, num_add]
  have s3 : num (((l.map fun c => ((c / 2) &&& 85) + (c &&& 85)).map fun c => ((c / 4) &&& 51) + (c &&& 51)).map fun c => c / 16 + c % 16) = (num ((l.map fun c => ((c / 2) &&& 85) + (c &&& 85)).map fun c => ((c / 4) &&& 51) + (c &&& 51)) / 16 + num ((l.map fun c => ((c / 2) &&& 85) + (c &&& 85)).map fun c => ((c / 4) &&& 51) + (c &&& 51))) &&& 1085102592571150095 := by
    have hb : ∀ c ∈ (l.map fun c => ((c / 2) &&& 85) + (c &&& 85)).map fun c => ((c / 4) &&& 51) + (c &&& 51), c / 16 ≤ 4 ∧ c % 16 ≤ 4 := by
      intro c hc
      obtain ⟨b1, hb1, rfl⟩ := List.mem_map.1 hc
      obtain ⟨b, hb2, rfl⟩ := List.mem_map.1 hb1
      exact ⟨(g b hb2).2.2.1, (g b hb2).2.2.2.1⟩
    have mm : (l.map fun _ => 15) = (((l.map fun c => ((c / 2) &&& 85) + (c &&& 85)).map fun c => ((c / 4) &&& 51) + (c &&& 51)).map fun _ => 15) := by simp only [List.map_map]; rfl
    rw [m3, mm, num_0f _ hb]
  have s4 : (((l.map fun c => ((c / 2) &&& 85) + (c &&& 85)).map fun c => ((c / 4) &&& 51) + (c &&& 51)).map fun c => c / 16 + c % 16) = l.map (pc 8) := by
    rw [List.map_map, List.map_map]
    exact List.map_congr_left (fun c hc => (g c hc).2.2.2.2)
  rw [s4] at s3
  have s5 : ∀ c ∈ l.map (fun c => ((c / 2) &&& 85) + (c &&& 85)), c < 256 := by
    intro c hc
    obtain ⟨b, hb, rfl⟩ := List.mem_map.1 hc
    exact (g b hb).1
  have s6 : ∀ c ∈ (l.map fun c => ((c / 2) &&& 85) + (c &&& 85)).map (fun c => ((c / 4) &&& 51) + (c &&& 51)), c ≤ 68 := by
    intro c hc
    obtain ⟨b1, hb1, rfl⟩ := List.mem_map.1 hc
    obtain ⟨b, hb2, rfl⟩ := List.mem_map.1 hb1
    have h1 := (g b hb2).2.2.1
    have h2 := (g b hb2).2.2.2.1
    omega
  have s7 : ∀ c ∈ l.map (pc 8), c ≤ 8 := by
    intro c hc
    obtain ⟨b, hb, rfl⟩ := List.mem_map.1 hc
    have := (g b hb).2.2
    omega
  have hpc : pc 64 x = pc 8 c0 + (pc 8 c1 + (pc 8 c2 + (pc 8 c3 + (pc 8 c4 + (pc 8 c5 + (pc 8 c6 + pc 8 c7)))))) := by
    rw [e, ← hl]
    simp only [num]
    rw [pc_byte 56 c0 _ h0, pc_byte 48 c1 _ h1, pc_byte 40 c2 _ h2, pc_byte 32 c3 _ h3, pc_byte 24 c4 _ h4, pc_byte 16 c5 _ h5, pc_byte 8 c6 _ h6]
    simp
  have b1 := num_le 255 _ (fun c hc => by have := s5 c hc; omega)
  have b2 := num_le 68 _ s6
  subst hl
  simp only [List.map_cons, List.map_nil] at b1 b2
  have n1 : num [255, 255, 255, 255, 255, 255, 255, 255] = 18446744073709551615 := by simp [num]
  have n2 : num [68, 68, 68, 68, 68, 68, 68, 68] = 4919131752989213764 := by simp [num]
  rw [n1] at b1
  rw [n2] at b2
  have hf := fold8 (pc 8 c0) (pc 8 c1) (pc 8 c2) (pc 8 c3) (pc 8 c4) (pc 8 c5) (pc 8 c6) (pc 8 c7) _ _ _ _ (s7 _ (by simp)) (s7 _ (by simp)) (s7 _ (by simp)) (s7 _ (by simp)) (s7 _ (by simp)) (s7 _ (by simp)) (s7 _ (by simp)) (s7 _ (by simp)) rfl rfl rfl rfl
  refine ⟨_, _, _, _, _, _, s1, ?_, s2.symm, ?_, ?_, s3.symm, rfl, rfl, rfl, hf.1, ?_⟩
  · simp only [List.map_cons, List.map_nil]; omega
  · simp only [List.map_cons, List.map_nil]; omega
  · simp only [List.map_cons, List.map_nil]; omega
  · rw [hpc]; exact hf.2
end Go.Proofs.YtdhcnmljkmodhaaDoor
