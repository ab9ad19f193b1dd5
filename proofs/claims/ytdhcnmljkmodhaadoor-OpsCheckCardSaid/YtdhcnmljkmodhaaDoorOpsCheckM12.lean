/- Merged for the claim, in build order: Ops20, Ops21, Ops22, OpsCheck. -/
import Derived.Test.YtdhcnmljkmodhaaDoorOpsCheckM11
/- The plain law of OpsCheck, ended; what OpsKeep asks of Check and of lengths. -/
namespace Go.Proofs.YtdhcnmljkmodhaaDoor
set_option linter.unusedSectionVars false
set_option linter.unusedVariables false
set_option linter.unusedSimpArgs false
set_option maxRecDepth 20000

theorem oneK_range {v v' : List Int} {k own : Int} (hv : vK v = true) (e : oneK v k own = some v') : (k = 1 ∨ k = 2 ∨ k = 3) ∧ (k ≠ 1 → own = 1 ∨ own = 2 ∨ own = 3) := by
  cases v with
  | nil => cases e
  | cons a t =>
    have ha := vK_range hv a List.mem_cons_self
    rw [oneK_cons] at e
    by_cases h1 : k = 1
    · exact ⟨.inl h1, fun h => absurd h1 h⟩
    · rw [if_neg h1] at e
      by_cases h2 : k = 2
      · rw [if_pos h2] at e
        by_cases hk : own = a
        · exact ⟨.inr (.inl h2), fun _ => by rw [hk]; exact ha⟩
        · rw [if_neg hk] at e; cases e
      · rw [if_neg h2] at e
        by_cases h3 : k = 3
        · rw [if_pos h3] at e
          cases hm : mayL own a with
          | false => rw [hm] at e; cases e
          | true =>
            have := (mayL_iff _ _).1 hm
            exact ⟨.inr (.inr h3), fun _ => by omega⟩
        · rw [if_neg h3] at e; cases e
/-- All headers that may be, of one top. -/
def R0 (kt : Int) : List Int → Prop := fun v => vK v = true ∧ ∃ r, v = kt :: r
theorem kinv0 {kt : Int} (h : kt = 1 ∨ kt = 2 ∨ kt = 3) : KInv (R0 kt) [] (T1 kt) (T2 kt) (T3 kt) where
  iff := fun v => by
    constructor
    · rintro ⟨h1, r, rfl⟩
      refine ⟨kt :: r, h1, ⟨kt, r, rfl, ?_⟩, rfl⟩
      unfold T1 T2 T3
      rcases h with rfl | rfl | rfl
      · exact .inl ⟨rfl, rfl⟩
      · exact .inr (.inl ⟨rfl, rfl⟩)
      · exact .inr (.inr ⟨rfl, rfl⟩)
    · rintro ⟨u, h1, ⟨t, r, rfl, ht⟩, rfl⟩
      refine ⟨h1, r, ?_⟩
      unfold T1 T2 T3 at ht
      simp only [inT, decide_eq_true_eq] at ht
      have : t = kt := by rcases ht with ⟨a, b⟩ | ⟨a, b⟩ | ⟨a, b⟩ <;> omega
      rw [this]; rfl
  some := by rcases h with rfl | rfl | rfl <;> rfl
  may := fun v hv => hv.1
theorem kn0 {kt : Int} (h : kt = 1 ∨ kt = 2 ∨ kt = 3) : Kn [] (T1 kt) (T2 kt) (T3 kt) = [ofL [kt]] := by
  unfold Kn; rw [ts_of h]; rfl
theorem runK_cons (ks : List Int) (k : List BSet) (o : Int × Int) (r : List (Int × Int)) (i : Nat) : runK ks k (o :: r) i = if (doneL k (kindL ks o.2) o.1).1 = 0 then runK ks (doneL k (kindL ks o.2) o.1).2 r (i + 1) else some ((doneL k (kindL ks o.2) o.1).1, (i : Int)) := rfl
/-- What can be done is found to be possible. -/
theorem runK_none (ks : List Int) : ∀ (c : List (Int × Int)) (i : Nat) (R : List Int → Prop) (S : List Int) (x y z : Bool), KInv R S x y z → (∃ v0, R v0 ∧ (chainK v0 (opsK ks c)).isSome = true) → runK ks (Kn S x y z) c i = none
  | [], i, R, S, x, y, z, h, hv => rfl
  | o :: r, i, R, S, x, y, z, h, ⟨v0, h0, hs⟩ => by
    have hop : opsK ks (o :: r) = (o.1, kindL ks o.2) :: opsK ks r := rfl
    rw [hop, chainK_cons] at hs
    simp only at hs
    cases hn : oneK v0 o.1 (kindL ks o.2) with
    | none => rw [hn] at hs; cases hs
    | some v1 =>
      rw [hn] at hs
      have hr := oneK_range (h.may v0 h0) hn
      rw [runK_cons]
      rcases h.step o.1 (kindL ks o.2) hr.1 hr.2 with ⟨_, hno⟩ | ⟨S', a', b', c', hd, hi⟩
      · exact absurd ⟨v0, h0, hn⟩ (hno v1)
      · rw [hd, if_pos rfl]
        exact runK_none ks r (i + 1) _ S' a' b' c' hi ⟨v1, ⟨v0, h0, hn⟩, hs⟩
theorem keep_check {ks t x : List Int} {a : Int} {c : List (Int × Int)} (hl : c.length ≤ 8) (e : doL ks (a :: t) c = some x) : checkL ks a c = none := by
  have hv := (do_valid e).1
  have hc : chainL ks (a :: t) c = some x := by unfold doL at e; rw [hv, if_pos rfl] at e; exact e
  have hk := chainL_K ks c (a :: t)
  rw [hc] at hk
  have hvk := validL_vK ks (a :: t)
  rw [hv] at hvk
  have hr := vK_range hvk.symm (kindL ks a) (by simp)
  unfold checkL
  rw [if_neg (by omega), if_neg (by omega), ← kn0 hr]
  exact runK_none ks c 0 _ _ _ _ _ (kinv0 hr) ⟨(a :: t).map (kindL ks), ⟨hvk.symm, _, rfl⟩, by rw [← hk]; rfl⟩
theorem oneL_grows {ks h h' : List Int} {o : Int × Int} (e : oneL ks h o.1 o.2 = some h') (r : List (Int × Int)) : (h'.length : Int) + ((cntL 3 r : Int) - (cntL 1 r : Int)) = (h.length : Int) + ((cntL 3 (o :: r) : Int) - (cntL 1 (o :: r) : Int)) := by
  cases h with
  | nil => cases e
  | cons a t =>
    rw [oneL_cons] at e
    rw [cntL_cons, cntL_cons]
    by_cases h1 : o.1 = 1
    · rw [if_pos h1] at e
      by_cases ht : t = []
      · rw [if_pos ht] at e; cases e
      · rw [if_neg ht] at e; obtain rfl := Option.some.inj e; simp [h1]; omega
    · rw [if_neg h1] at e
      by_cases h2 : o.1 = 2
      · rw [if_pos h2] at e
        by_cases hk : kindL ks o.2 = kindL ks a
        · rw [if_pos hk] at e; obtain rfl := Option.some.inj e; simp [h2]
        · rw [if_neg hk] at e; cases e
      · rw [if_neg h2] at e
        by_cases h3 : o.1 = 3
        · rw [if_pos h3] at e
          by_cases hm : mayL (kindL ks o.2) (kindL ks a) = true
          · rw [if_pos hm] at e; obtain rfl := Option.some.inj e; simp [h3]; omega
          · rw [if_neg hm] at e; cases e
        · rw [if_neg h3] at e; cases e
theorem chain_grows (ks : List Int) : ∀ (c : List (Int × Int)) (h x : List Int), chainL ks h c = some x → (x.length : Int) = (h.length : Int) + ((cntL 3 c : Int) - (cntL 1 c : Int))
  | [], h, x, e => by obtain rfl := Option.some.inj e; simp [cntL]
  | o :: r, h, x, e => by
    rw [chainL_cons] at e
    cases hn : oneL ks h o.1 o.2 with
    | none => rw [hn] at e; cases e
    | some h' =>
      rw [hn] at e
      rw [← oneL_grows hn r]
      exact chain_grows ks r h' x e
theorem do_grows {ks h x : List Int} {c : List (Int × Int)} (e : doL ks h c = some x) : (x.length : Int) = (h.length : Int) + ((cntL 3 c : Int) - (cntL 1 c : Int)) := by
  have hv := (do_valid e).1
  unfold doL at e
  rw [hv, if_pos rfl] at e
  exact chain_grows ks c h x e

/-- The document's headers of a top: over mids labels of the middle, one of the bottom, one of the network beneath. -/
def hdr (ks : List Int) (top : Int) (m : Nat) : List Int :=
  if kindL ks top = 3 then top :: (List.replicate m ((ks.length : Int) + 2) ++ [(ks.length : Int) + 1, (ks.length : Int)]) else if kindL ks top = 1 then [top] else [top, (ks.length : Int)]
def allK (ks : List Int) : List Int := ks ++ [1, 2, 3]
def frontL (ks : List Int) (top : Int) (c : List (Int × Int)) (n : Nat) : Bool := (List.range (n + 1)).any fun m => (refDoL (allK ks) (hdr ks top m) (c.take n)).isSome
def orig (kt : Int) (m : Nat) : List Int := if kt = 3 then List.replicate (m + 1) 3 ++ [2, 1] else if kt = 1 then [1] else [2, 1]
theorem kindL_all {ks : List Int} {x : Int} (h : kindL ks x ≠ 0) : kindL (allK ks) x = kindL ks x := by
  unfold kindL allK at *
  by_cases h0 : 0 ≤ x
  · rw [if_pos h0] at h ⊢
    rw [if_pos h0]
    have hlt : x.toNat < ks.length := by
      rcases Nat.lt_or_ge x.toNat ks.length with h' | h'
      · exact h'
      · exfalso
        apply h
        rw [List.getD_eq_getElem?_getD, List.getElem?_eq_none h']
        rfl
    rw [List.getD_eq_getElem?_getD, List.getD_eq_getElem?_getD, List.getElem?_append_left hlt]
  · rw [if_neg h0] at h; exact absurd rfl h
theorem kindL_new (ks : List Int) (j : Nat) (hj : j < 3) : kindL (allK ks) ((ks.length : Int) + (j : Int)) = (j : Int) + 1 := by
  unfold kindL allK
  rw [if_pos (by omega)]
  have e : ((ks.length : Int) + (j : Int)).toNat = ks.length + j := by omega
  rw [e, List.getD_eq_getElem?_getD, List.getElem?_append_right (by omega), show ks.length + j - ks.length = j by omega]
  match j, hj with
  | 0, _ => rfl
  | 1, _ => rfl
  | 2, _ => rfl
theorem hdr_orig {ks : List Int} {top : Int} (h : kindL ks top ≠ 0) (m : Nat) : (hdr ks top m).map (kindL (allK ks)) = orig (kindL ks top) m := by
  have h0 := kindL_new ks 0 (by decide)
  have h1 := kindL_new ks 1 (by decide)
  have h2 := kindL_new ks 2 (by decide)
  simp only [Int.natCast_zero, Int.add_zero, Int.zero_add, Int.natCast_one] at h0 h1
  have h2' : kindL (allK ks) ((ks.length : Int) + 2) = 3 := h2
  have h1' : kindL (allK ks) ((ks.length : Int) + 1) = 2 := h1
  have ht := kindL_all h
  unfold hdr orig
  by_cases k3 : kindL ks top = 3
  · rw [if_pos k3, if_pos k3, List.map_cons, List.map_append, List.map_replicate, ht, h2', k3, List.replicate_succ]
    simp [h0, h1']
  · rw [if_neg k3, if_neg k3]
    by_cases k1 : kindL ks top = 1
    · rw [if_pos k1, if_pos k1, List.map_cons, ht, k1]; rfl
    · rw [if_neg k1, if_neg k1]
      have k2 : kindL ks top = 2 := by have := kindL_range ks top; omega
      rw [List.map_cons, List.map_cons, ht, k2, h0]; rfl
theorem rep_valid : ∀ m : Nat, vK (List.replicate (m + 1) 3 ++ [2, 1]) = true
  | 0 => rfl
  | m + 1 => by
    have ih := rep_valid m
    rw [List.replicate_succ, List.cons_append] at ih ⊢
    exact vK_cons ih rfl
theorem orig_R0 {kt : Int} (h : kt = 1 ∨ kt = 2 ∨ kt = 3) (m : Nat) : R0 kt (orig kt m) := by
  rcases h with rfl | rfl | rfl
  · exact ⟨rfl, [], rfl⟩
  · exact ⟨rfl, [1], rfl⟩
  · refine ⟨rep_valid m, List.replicate m 3 ++ [2, 1], ?_⟩
    show List.replicate (m + 1) 3 ++ [2, 1] = _
    rw [List.replicate_succ]; rfl
theorem orig_of3 : ∀ r : List Int, vK (3 :: r) = true → ∃ m, 3 :: r = List.replicate (m + 1) 3 ++ [2, 1]
  | [], h => by cases h
  | y :: r, h => by
    have hm := (mayL_iff _ _).1 (vK_top h)
    have hv := vK_tail h (by simp)
    rcases hm with ⟨_, rfl | rfl⟩ | ⟨h, _⟩
    · obtain ⟨m, e⟩ := orig_of3 r hv
      exact ⟨m + 1, by rw [e, List.replicate_succ (n := m + 1)]; rfl⟩
    · refine ⟨0, ?_⟩
      cases r with
      | nil => cases hv
      | cons z r =>
        have hm2 := (mayL_iff _ _).1 (vK_top hv)
        obtain rfl : z = 1 := by omega
        obtain rfl := vK_one (vK_tail hv (by simp))
        rfl
    · omega
theorem R0_orig {kt : Int} (h : kt = 1 ∨ kt = 2 ∨ kt = 3) {v : List Int} (hv : R0 kt v) : ∃ m, v = orig kt m := by
  obtain ⟨h1, r, rfl⟩ := hv
  rcases h with rfl | rfl | rfl
  · obtain rfl := vK_one h1; exact ⟨0, rfl⟩
  · refine ⟨0, ?_⟩
    cases r with
    | nil => cases h1
    | cons y r =>
      have hm := (mayL_iff _ _).1 (vK_top h1)
      obtain rfl : y = 1 := by omega
      obtain rfl := vK_one (vK_tail h1 (by simp))
      rfl
  · obtain ⟨m, e⟩ := orig_of3 r h1
    exact ⟨m, by rw [e]; rfl⟩
/-- An op that the document's Check does not refuse by its form. -/
def okO (ks : List Int) (o : Int × Int) : Prop := (o.1 = 1 ∨ o.1 = 2 ∨ o.1 = 3) ∧ (o.1 ≠ 1 → kindL ks o.2 ≠ 0)
theorem chainK_all (ks : List Int) : ∀ (c : List (Int × Int)) (v : List Int), (∀ o ∈ c, okO ks o) → chainK v (opsK (allK ks) c) = chainK v (opsK ks c)
  | [], v, _ => rfl
  | o :: r, v, h => by
    have e1 : opsK (allK ks) (o :: r) = (o.1, kindL (allK ks) o.2) :: opsK (allK ks) r := rfl
    have e2 : opsK ks (o :: r) = (o.1, kindL ks o.2) :: opsK ks r := rfl
    have ho := h o List.mem_cons_self
    have e3 : oneK v o.1 (kindL (allK ks) o.2) = oneK v o.1 (kindL ks o.2) := by
      by_cases h1 : o.1 = 1
      · rw [h1]; cases v <;> rfl
      · rw [kindL_all (ho.2 h1)]
    rw [e1, e2, chainK_cons, chainK_cons]
    simp only
    rw [e3]
    cases oneK v o.1 (kindL ks o.2) with
    | none => rfl
    | some v' => exact chainK_all ks r v' (fun p hp => h p (List.mem_cons_of_mem _ hp))
theorem refDo_orig {ks : List Int} {top : Int} (h : kindL ks top ≠ 0) (c : List (Int × Int)) (hc : ∀ o ∈ c, okO ks o) (m : Nat) : (refDoL (allK ks) (hdr ks top m) c).isSome = (chainK (orig (kindL ks top) m) (opsK ks c)).isSome := by
  have hr : kindL ks top = 1 ∨ kindL ks top = 2 ∨ kindL ks top = 3 := by have := kindL_range ks top; omega
  rw [refDo_eq]
  unfold doL
  have hv : validL (allK ks) (hdr ks top m) = true := by rw [validL_vK, hdr_orig h]; exact (orig_R0 hr m).1
  rw [hv, if_pos rfl, ← chainK_all ks c _ hc, ← hdr_orig h, ← chainL_K, Option.isSome_map]
theorem frontL_iff {ks : List Int} {top : Int} (h : kindL ks top ≠ 0) (c : List (Int × Int)) (n : Nat) (hn : n ≤ c.length) (hc : ∀ o ∈ c.take n, okO ks o) :
    frontL ks top c n = true ↔ ∃ v0, R0 (kindL ks top) v0 ∧ (chainK v0 (opsK ks (c.take n))).isSome = true := by
  have hr : kindL ks top = 1 ∨ kindL ks top = 2 ∨ kindL ks top = 3 := by have := kindL_range ks top; omega
  unfold frontL
  rw [List.any_eq_true]
  constructor
  · rintro ⟨m, hm, hs⟩
    rw [refDo_orig h _ hc] at hs
    exact ⟨_, orig_R0 hr m, hs⟩
  · rintro ⟨v0, h0, hs⟩
    obtain ⟨m, rfl⟩ := R0_orig hr h0
    by_cases hm : m ≤ n
    · exact ⟨m, List.mem_range.2 (by omega), by rw [refDo_orig h _ hc]; exact hs⟩
    · refine ⟨n, List.mem_range.2 (by omega), ?_⟩
      rw [refDo_orig h _ hc]
      by_cases k3 : kindL ks top = 3
      · rw [k3] at hs ⊢
        have ho : ∀ m, orig 3 m = List.replicate (m + 1) 3 ++ [2, 1] := fun m => rfl
        rw [ho] at hs ⊢
        have hlen : (opsK ks (c.take n)).length = n := by unfold opsK; rw [List.length_map, List.length_take]; omega
        rw [show m + 1 = (n + 1) + (m - n) by omega, ← List.replicate_append_replicate, List.append_assoc] at hs
        rw [chainK_deep _ _ _ (List.replicate (m - n) 3 ++ [2, 1]) (by rw [hlen, List.length_replicate]; omega)]
        exact hs
      · have ho : ∀ m m', orig (kindL ks top) m = orig (kindL ks top) m' := fun m m' => by unfold orig; rw [if_neg k3, if_neg k3]
        rw [ho n m]; exact hs

/-- The document's Check, from its op i on. -/
def refRun (ks : List Int) (top : Int) (c : List (Int × Int)) : List (Int × Int) → Nat → Int × Int
  | [], _ => (0, 0)
  | o :: r, i => if o.1 < 1 ∨ 3 < o.1 ∨ (1 < o.1 ∧ kindL ks o.2 = 0) then (2, (i : Int)) else if frontL ks top c (i + 1) then refRun ks top c r (i + 1) else (9, (i : Int))
def refCheckL (ks : List Int) (top : Int) (c : List (Int × Int)) : Int × Int := if kindL ks top = 0 then (2, -1) else if 8 < c.length then (6, 8) else refRun ks top c c 0
def Ri (ks : List Int) (kt : Int) (pre : List (Int × Int)) : List Int → Prop := fun v => ∃ v0, R0 kt v0 ∧ chainK v0 (opsK ks pre) = some v
theorem Ri_snoc (ks : List Int) (kt : Int) (pre : List (Int × Int)) (o : Int × Int) : Ri ks kt (pre ++ [o]) = Rn (Ri ks kt pre) o.1 (kindL ks o.2) := by
  funext v
  apply propext
  have hop : opsK ks (pre ++ [o]) = opsK ks pre ++ [(o.1, kindL ks o.2)] := by unfold opsK; rw [List.map_append]; rfl
  constructor
  · rintro ⟨v0, h0, e⟩
    rw [hop, chainK_app] at e
    cases hc : chainK v0 (opsK ks pre) with
    | none => rw [hc] at e; cases e
    | some y => rw [hc] at e; exact ⟨y, ⟨v0, h0, hc⟩, by rw [← chainK_one y (o.1, kindL ks o.2)]; exact e⟩
  · rintro ⟨y, ⟨v0, h0, hc⟩, e⟩
    refine ⟨v0, h0, ?_⟩
    rw [hop, chainK_app, hc]
    show chainK y _ = _
    rw [chainK_one]; exact e
theorem doneL_bad (ks : List Int) (k : List BSet) (hk : k ≠ []) (o : Int × Int) (h : o.1 < 1 ∨ 3 < o.1 ∨ (1 < o.1 ∧ kindL ks o.2 = 0)) : doneL k (kindL ks o.2) o.1 = (2, []) := by
  obtain ⟨s, r, rfl⟩ := List.exists_cons_of_ne_nil hk
  rw [doneL_cons]
  by_cases h1 : o.1 = 1
  · omega
  · rw [if_neg h1]
    by_cases h2 : o.1 = 2
    · rw [if_pos h2, if_pos (by omega)]
    · rw [if_neg h2]
      by_cases h3 : o.1 = 3
      · rw [if_pos h3, if_pos (by omega)]
      · rw [if_neg h3]
theorem run_same (ks : List Int) (top : Int) (hkt : kindL ks top ≠ 0) (c : List (Int × Int)) : ∀ (r pre : List (Int × Int)) (i : Nat) (S : List Int) (x y z : Bool), c = pre ++ r → pre.length = i → (∀ o ∈ pre, okO ks o) →
    KInv (Ri ks (kindL ks top) pre) S x y z → refRun ks top c r i = errN (runK ks (Kn S x y z) r i)
  | [], pre, i, S, x, y, z, hc, hi, hp, inv => rfl
  | o :: r, pre, i, S, x, y, z, hc, hi, hp, inv => by
    rw [runK_cons]
    have e0 : refRun ks top c (o :: r) i = if o.1 < 1 ∨ 3 < o.1 ∨ (1 < o.1 ∧ kindL ks o.2 = 0) then (2, (i : Int)) else if frontL ks top c (i + 1) then refRun ks top c r (i + 1) else (9, (i : Int)) := rfl
    rw [e0]
    by_cases hb : o.1 < 1 ∨ 3 < o.1 ∨ (1 < o.1 ∧ kindL ks o.2 = 0)
    · rw [if_pos hb, doneL_bad ks _ (by unfold Kn; simp) o hb]; rfl
    · rw [if_neg hb]
      have hok : okO ks o := ⟨by omega, fun h1 => by omega⟩
      have htk : c.take (i + 1) = pre ++ [o] := by
        rw [hc, List.take_append, List.take_of_length_le (by omega), show i + 1 - pre.length = 1 by omega]; rfl
      have hok2 : ∀ p ∈ pre ++ [o], okO ks p := fun p hp2 => by
        rcases List.mem_append.1 hp2 with h | h
        · exact hp p h
        · obtain rfl := List.mem_singleton.1 h; exact hok
      have hfr := frontL_iff hkt c (i + 1) (by rw [hc]; simp; omega) (by rw [htk]; exact hok2)
      rw [htk] at hfr
      have hown : o.1 ≠ 1 → kindL ks o.2 = 1 ∨ kindL ks o.2 = 2 ∨ kindL ks o.2 = 3 := fun h1 => by
        have := kindL_range ks o.2
        have := hok.2 h1
        omega
      rcases inv.step o.1 (kindL ks o.2) hok.1 hown with ⟨hd, hno⟩ | ⟨S', a', b', c', hd, hin⟩
      · have hf : frontL ks top c (i + 1) = false := by
          cases hff : frontL ks top c (i + 1) with
          | false => rfl
          | true =>
            obtain ⟨v0, h0, hs⟩ := hfr.1 hff
            obtain ⟨v, hv⟩ := Option.isSome_iff_exists.1 hs
            have : Ri ks (kindL ks top) (pre ++ [o]) v := ⟨v0, h0, hv⟩
            rw [Ri_snoc] at this
            exact absurd this (hno v)
        rw [hf, hd]; rfl
      · rw [← Ri_snoc] at hin
        have hf : frontL ks top c (i + 1) = true := by
          obtain ⟨v, v0, h0, hv⟩ := hin.ex
          exact hfr.2 ⟨v0, h0, by rw [hv]; rfl⟩
        rw [hf, if_pos rfl, hd, if_pos rfl]
        exact run_same ks top hkt c r (pre ++ [o]) (i + 1) S' a' b' c' (by rw [hc]; simp) (by simp [hi]) hok2 hin
theorem Ri_nil (ks : List Int) (kt : Int) : Ri ks kt [] = R0 kt := by
  funext v
  apply propext
  constructor
  · rintro ⟨v0, h0, e⟩; obtain rfl := Option.some.inj e; exact h0
  · intro h; exact ⟨v, h, rfl⟩
/-- The two Checks say the same. -/
theorem check_same (ks : List Int) (top : Int) (c : List (Int × Int)) : refCheckL ks top c = errN (checkL ks top c) := by
  unfold refCheckL checkL
  by_cases h0 : kindL ks top = 0
  · rw [if_pos h0, if_pos h0]; rfl
  · rw [if_neg h0, if_neg h0]
    by_cases h8 : 8 < c.length
    · rw [if_pos h8, if_pos h8]; rfl
    · rw [if_neg h8, if_neg h8]
      have hr : kindL ks top = 1 ∨ kindL ks top = 2 ∨ kindL ks top = 3 := by have := kindL_range ks top; omega
      rw [← kn0 hr]
      refine run_same ks top h0 c c [] 0 [] _ _ _ rfl rfl (fun o h => by cases h) ?_
      rw [Ri_nil]
      exact kinv0 hr
end Go.Proofs.YtdhcnmljkmodhaaDoor

/- fairleadref10.front: the walk, for each kind of the top. (Printed by gen_ops21.py.) -/
namespace Go.Proofs.YtdhcnmljkmodhaaDoor
set_option linter.unusedSectionVars false
set_option linter.unusedVariables false
set_option linter.unusedSimpArgs false
set_option maxRecDepth 20000
open Go.RowKit

theorem RdO.take {w : World} {a : Option Addr} {cap : Nat} {l : List (Int × Int)} (h : RdO w (.slice a l.length cap) l) (n : Nat) (hn : n ≤ l.length) : RdO w (.slice a n cap) (l.take n) := by
  obtain ⟨h1, a', cap', h2, h3, h4, h5, h6⟩ := h
  simp only [Value.slice.injEq] at h2
  obtain ⟨rfl, _, rfl⟩ := h2
  have hl : (l.take n).length = n := by rw [List.length_take]; omega
  refine ⟨opC_len _, a, cap, by rw [hl], by omega, h4, fun e => ⟨by have := (h5 e).1; omega, (h5 e).2⟩, fun h0 => ?_⟩
  obtain ⟨g, off, rfl, hg, hc⟩ := h6 (by omega)
  refine ⟨g, off, rfl, hg, fun j u hj => hc j u ?_⟩
  have e : l.flatMap opC = (l.take n).flatMap opC ++ (l.drop n).flatMap opC := by rw [← List.flatMap_append, List.take_append_drop]
  rw [e, List.getElem?_append_left (List.getElem?_eq_some_iff.1 hj).1]
  exact hj
theorem own_lit (w : World) (x : Int) : (w.alloc (.cells #[.int .i64 x] 3)).ownsRow w.heap.size 3 1 (.slice (some ⟨w.heap.size, 0, none⟩) 1 1) 1 ([x].map (Value.int .i64)) :=
  ⟨rfl, .inr ⟨_, _, _, rfl, Nat.le_refl _, heap_alloc_new w _, Nat.le_refl _, by unfold maxLen; decide, rfl, rfl⟩⟩
theorem front_true {ks : List Int} {top : Int} {c : List (Int × Int)} {n m : Nat} (hm : m ≤ n) (h : (refDoL (allK ks) (hdr ks top m) (c.take n)).isSome = true) : frontL ks top c n = true := by
  unfold frontL; rw [List.any_eq_true]; exact ⟨m, List.mem_range.2 (by omega), h⟩
theorem front_false {ks : List Int} {top : Int} {c : List (Int × Int)} {n : Nat} (h : ∀ m, m < n + 1 → (refDoL (allK ks) (hdr ks top m) (c.take n)).isSome = false) : frontL ks top c n = false := by
  unfold frontL; rw [List.any_eq_false]; intro m hm; rw [h m (List.mem_range.1 hm)]; decide

set_option maxHeartbeats 8000000 in
theorem front_1 (w : World) (vk vc : Value) (ks : List Int) (top : Int) (c : List (Int × Int)) (n : Nat) (hkt : kindL ks top = 1) (hks : ks.length ≤ 100) (hcl : c.length ≤ 20) (hn1 : 1 ≤ n) (hn : n ≤ c.length) (Hk : ReadsI w vk ks) (Hc : RdO w vc c) :
    Calls Tryd.prog 25 #[vk, .int .i64 top, vc, .int .i64 n] w fun e w' => e = .returned (.bool (frontL ks top c n)) ∧ Keeps w w' (fun _ => False) := by
  obtain ⟨i0, hi0, hz0, hs0, hb0⟩ := infoInt'
  have II := Lib.hid hi0
  have IZ := Lib.hid hz0
  have IS := Lib.hid hs0
  have IB := Lib.hid hb0
  obtain ⟨ak, capk, rfl, _, _⟩ := Hk.form
  obtain ⟨ac, capc, rfl, hcc, hmc⟩ := Hc.form
  obtain ⟨gc, offc, e1, hgc, hcell⟩ := Hc.cell 0 (by omega)
  subst e1
  have GK := Lib.hid Hk
  have GC := Lib.hid Hc
  have HKT := Lib.hid hkt
  have hnc : (n : Int) ≤ (capc : Int) := by omega
  have HO : Hid ((w.alloc (.cells #[] 3)).ownsRow w.heap.size 3 1 (.slice (some ⟨w.heap.size, 0, none⟩) 0 0) 0 []) := Lib.hid ⟨rfl, .inr ⟨_, _, _, rfl, Nat.le_refl _, heap_alloc_new w _, Nat.zero_le _, Nat.zero_le _, rfl, by simp⟩⟩
  have HS := Lib.hid (Src.ofReadsI (Hk.keeps ((Keeps.refl w _).alloc (.cells #[] 3))))
  have KA : Hid (Keeps w (w.alloc (.cells #[] 3)) (fun _ => False)) := Lib.hid ((Keeps.refl w _).alloc _)
  clear Hk Hc hi0 hz0 hs0 hb0 hcell hmc hkt
  go_enter Tryd.func25, Tryd.ntmps25
  go_wp2_with (at_builtin; refine wpList_append_any rfl (.tmp 17) (.tmp 18) 22 22 rfl 3 i0 _ 1 8 Tryd.underlying22 II.out IZ.out IS.out IB.out rfl w.heap.size _ 0 [] rfl HO.out _ ks.length (ks.map (Value.int .i64)) rfl HS.out (by unfold maxLen; omega) (by omega) KA.out.size ?_)
  intro v5 w5 D
  have O5 : Hid (w5.ownsRow w.heap.size 3 1 v5 ks.length (ks.map (Value.int .i64))) := Lib.hid (by have h := D.own; simpa using h)
  have K5 : Hid (Keeps w w5 (fun _ => False)) := Lib.hid (KA.out.grown D.grown (fun k hk hlt => by simp only [Value.ownBlock, Option.some.injEq] at hk; omega))
  clear D HO HS KA
  have KL : Hid (Keeps w5 (w5.alloc (.cells #[.int .i64 1, .int .i64 2, .int .i64 3] 3)) (fun _ => False)) := Lib.hid ((Keeps.refl w5 _).alloc _)
  have KW := Lib.hid (K5.out.trans KL.out)
  have RL : Hid (ReadsI (w5.alloc (.cells #[.int .i64 1, .int .i64 2, .int .i64 3] 3)) (.slice (some ⟨w5.heap.size, 0, none⟩) 3 3) [1, 2, 3]) := Lib.hid (litI w5 [1, 2, 3] _ rfl 3 rfl (by simp))
  have OL := Lib.hid (own_keeps O5.out KL.out (fun j hj => hj.elim))
  go_wp2_with (at_builtin; refine wpList_append_any rfl (.tmp 20) (.tmp 21) 22 22 rfl 3 i0 _ 1 8 Tryd.underlying22 II.out IZ.out IS.out IB.out rfl w.heap.size _ ks.length (ks.map (Value.int .i64)) rfl OL.out _ 3 (([1, 2, 3] : List Int).map (Value.int .i64)) rfl (Src.ofReadsI RL.out) (by unfold maxLen; omega) (by omega) KW.out.size ?_)
  intro v9 w6 D
  have RA : Hid (ReadsI w6 v9 (allK ks)) := Lib.hid (ReadsI.ofOwn (b := w.heap.size) (n := ks.length + 3) (by simp [allK]) (by have h := D.own; unfold allK; rw [List.map_append]; exact h))
  have K6 : Hid (Keeps w w6 (fun _ => False)) := Lib.hid (KW.out.grown D.grown (fun k hk hlt => by have := (own_block_ge OL.out k hk).1; omega))
  clear D KL KW RL OL O5 K5
  go_wp2_with fail
  refine (refkind_any _ _ ks top (GK.out.keeps K6.out)).mono ?_
  rintro e w7 ⟨rfl, rfl⟩
  rw [HKT.out]
  go_wp2_with fail
  go_loopw [12] (fun t12 wr => ∃ m : Nat, t12 = .int .i64 m ∧ m ≤ n + 1 ∧ (∀ m', m' < m → (refDoL (allK ks) (hdr ks top m') (c.take n)).isSome = false) ∧ Keeps w6 wr (fun _ => False)) (fun t12 _ => n + 1 - (intOf t12).toNat)
  case atStart => exact ⟨0, rfl, Nat.zero_le _, fun m' h => absurd h (Nat.not_lt_zero _), Keeps.refl _ _⟩
  case round =>
    obtain ⟨m, rfl, hm, hno, hkp⟩ := hrel
    obtain ⟨wo, hwo⟩ : ∃ x, x = wr := ⟨_, rfl⟩
    subst hwo
    have HNo := Lib.hid hno
    have KP := Lib.hid hkp
    clear hno hkp
    by_cases hlt : m ≤ n
    · have hlt' : (m : Int) ≤ (n : Int) := by omega
      go_upto_region 8 with fail
      go_cut [13] (fun v13 wx => wx.ownsRow wo.heap.size 3 1 v13 1 ([top].map (Value.int .i64)) ∧ Keeps wo wx (fun _ => False))
      case first =>
        go_wp2_with fail
        go_meet
        exact ⟨own_lit wo top, (Keeps.refl wo _).alloc _⟩
      obtain ⟨hown, hkc⟩ := hcut
      have OH := Lib.hid hown
      have KH := Lib.hid hkc
      clear hown hkc
      have HH : Hid (hdr ks top m = [top]) := Lib.hid (by unfold hdr; rw [HKT.out]; rfl)
      have RH : Hid (ReadsI wc _ (hdr ks top m)) := Lib.hid (ReadsI.ofOwn (n := 1) (by rw [HH.out]; simp) (by rw [HH.out]; exact OH.out))
      have KR := Lib.hid (KP.out.trans KH.out)
      have KRW := Lib.hid (K6.out.trans KR.out)
      have HL : Hid ((hdr ks top m).length + (c.take n).length ≤ 1000) := Lib.hid (by rw [HH.out, List.length_take]; simp only [List.length_cons, List.length_nil, List.length_append, List.length_replicate]; omega)
      go_wp2_with fail
      refine (refdo_any _ _ _ _ (allK ks) (hdr ks top m) (c.take n) HL.out (RA.out.keeps KR.out) RH.out ((GC.out.take n (by omega)).keeps KRW.out)).mono ?_
      rintro e w8 ⟨v15, rfl, hk8, hr8⟩
      have K8 := Lib.hid (KR.out.trans hk8)
      clear hk8 hr8 KR KRW RH HL
      cases hb : (refDoL (allK ks) (hdr ks top m) (c.take n)).isSome with
      | true =>
        have HF := Lib.hid (front_true hlt hb)
        clear hb
        go_wp2_with fail
        go_ret
        exact ⟨by rw [HF.out]; rfl, K6.out.trans K8.out⟩
      | false =>
        have HB := Lib.hid hb
        clear hb
        go_wp2_with fail
        go_roundw
        case rel =>
          refine ⟨m + 1, by go_num, by omega, fun m' h => ?_, K8.out⟩
          by_cases hmm : m' = m
          · rw [hmm]; exact HB.out
          · exact HNo.out m' (by omega)
        case measure => simp [intOf]; omega
    · have hlt' : ¬ (m : Int) ≤ (n : Int) := by omega
      obtain rfl : m = n + 1 := by omega
      have HF := Lib.hid (front_false HNo.out)
      go_wp2_with fail
      go_ret
      exact ⟨by rw [HF.out]; rfl, K6.out.trans KP.out⟩

set_option maxHeartbeats 8000000 in
theorem front_2 (w : World) (vk vc : Value) (ks : List Int) (top : Int) (c : List (Int × Int)) (n : Nat) (hkt : kindL ks top = 2) (hks : ks.length ≤ 100) (hcl : c.length ≤ 20) (hn1 : 1 ≤ n) (hn : n ≤ c.length) (Hk : ReadsI w vk ks) (Hc : RdO w vc c) :
    Calls Tryd.prog 25 #[vk, .int .i64 top, vc, .int .i64 n] w fun e w' => e = .returned (.bool (frontL ks top c n)) ∧ Keeps w w' (fun _ => False) := by
  obtain ⟨i0, hi0, hz0, hs0, hb0⟩ := infoInt'
  have II := Lib.hid hi0
  have IZ := Lib.hid hz0
  have IS := Lib.hid hs0
  have IB := Lib.hid hb0
  obtain ⟨ak, capk, rfl, _, _⟩ := Hk.form
  obtain ⟨ac, capc, rfl, hcc, hmc⟩ := Hc.form
  obtain ⟨gc, offc, e1, hgc, hcell⟩ := Hc.cell 0 (by omega)
  subst e1
  have GK := Lib.hid Hk
  have GC := Lib.hid Hc
  have HKT := Lib.hid hkt
  have hnc : (n : Int) ≤ (capc : Int) := by omega
  have HO : Hid ((w.alloc (.cells #[] 3)).ownsRow w.heap.size 3 1 (.slice (some ⟨w.heap.size, 0, none⟩) 0 0) 0 []) := Lib.hid ⟨rfl, .inr ⟨_, _, _, rfl, Nat.le_refl _, heap_alloc_new w _, Nat.zero_le _, Nat.zero_le _, rfl, by simp⟩⟩
  have HS := Lib.hid (Src.ofReadsI (Hk.keeps ((Keeps.refl w _).alloc (.cells #[] 3))))
  have KA : Hid (Keeps w (w.alloc (.cells #[] 3)) (fun _ => False)) := Lib.hid ((Keeps.refl w _).alloc _)
  clear Hk Hc hi0 hz0 hs0 hb0 hcell hmc hkt
  go_enter Tryd.func25, Tryd.ntmps25
  go_wp2_with (at_builtin; refine wpList_append_any rfl (.tmp 17) (.tmp 18) 22 22 rfl 3 i0 _ 1 8 Tryd.underlying22 II.out IZ.out IS.out IB.out rfl w.heap.size _ 0 [] rfl HO.out _ ks.length (ks.map (Value.int .i64)) rfl HS.out (by unfold maxLen; omega) (by omega) KA.out.size ?_)
  intro v5 w5 D
  have O5 : Hid (w5.ownsRow w.heap.size 3 1 v5 ks.length (ks.map (Value.int .i64))) := Lib.hid (by have h := D.own; simpa using h)
  have K5 : Hid (Keeps w w5 (fun _ => False)) := Lib.hid (KA.out.grown D.grown (fun k hk hlt => by simp only [Value.ownBlock, Option.some.injEq] at hk; omega))
  clear D HO HS KA
  have KL : Hid (Keeps w5 (w5.alloc (.cells #[.int .i64 1, .int .i64 2, .int .i64 3] 3)) (fun _ => False)) := Lib.hid ((Keeps.refl w5 _).alloc _)
  have KW := Lib.hid (K5.out.trans KL.out)
  have RL : Hid (ReadsI (w5.alloc (.cells #[.int .i64 1, .int .i64 2, .int .i64 3] 3)) (.slice (some ⟨w5.heap.size, 0, none⟩) 3 3) [1, 2, 3]) := Lib.hid (litI w5 [1, 2, 3] _ rfl 3 rfl (by simp))
  have OL := Lib.hid (own_keeps O5.out KL.out (fun j hj => hj.elim))
  go_wp2_with (at_builtin; refine wpList_append_any rfl (.tmp 20) (.tmp 21) 22 22 rfl 3 i0 _ 1 8 Tryd.underlying22 II.out IZ.out IS.out IB.out rfl w.heap.size _ ks.length (ks.map (Value.int .i64)) rfl OL.out _ 3 (([1, 2, 3] : List Int).map (Value.int .i64)) rfl (Src.ofReadsI RL.out) (by unfold maxLen; omega) (by omega) KW.out.size ?_)
  intro v9 w6 D
  have RA : Hid (ReadsI w6 v9 (allK ks)) := Lib.hid (ReadsI.ofOwn (b := w.heap.size) (n := ks.length + 3) (by simp [allK]) (by have h := D.own; unfold allK; rw [List.map_append]; exact h))
  have K6 : Hid (Keeps w w6 (fun _ => False)) := Lib.hid (KW.out.grown D.grown (fun k hk hlt => by have := (own_block_ge OL.out k hk).1; omega))
  clear D KL KW RL OL O5 K5
  go_wp2_with fail
  refine (refkind_any _ _ ks top (GK.out.keeps K6.out)).mono ?_
  rintro e w7 ⟨rfl, rfl⟩
  rw [HKT.out]
  go_wp2_with fail
  go_loopw [12] (fun t12 wr => ∃ m : Nat, t12 = .int .i64 m ∧ m ≤ n + 1 ∧ (∀ m', m' < m → (refDoL (allK ks) (hdr ks top m') (c.take n)).isSome = false) ∧ Keeps w6 wr (fun _ => False)) (fun t12 _ => n + 1 - (intOf t12).toNat)
  case atStart => exact ⟨0, rfl, Nat.zero_le _, fun m' h => absurd h (Nat.not_lt_zero _), Keeps.refl _ _⟩
  case round =>
    obtain ⟨m, rfl, hm, hno, hkp⟩ := hrel
    obtain ⟨wo, hwo⟩ : ∃ x, x = wr := ⟨_, rfl⟩
    subst hwo
    have HNo := Lib.hid hno
    have KP := Lib.hid hkp
    clear hno hkp
    by_cases hlt : m ≤ n
    · have hlt' : (m : Int) ≤ (n : Int) := by omega
      go_upto_region 8 with fail
      go_cut [13] (fun v13 wx => wx.ownsRow wo.heap.size 3 1 v13 1 ([top].map (Value.int .i64)) ∧ Keeps wo wx (fun _ => False))
      case first =>
        go_wp2_with fail
        go_meet
        exact ⟨own_lit wo top, (Keeps.refl wo _).alloc _⟩
      obtain ⟨hown, hkc⟩ := hcut
      have OH := Lib.hid hown
      have KH := Lib.hid hkc
      clear hown hkc
      have HH : Hid (hdr ks top m = [top, (ks.length : Int)]) := Lib.hid (by unfold hdr; rw [HKT.out]; rfl)
      have KL : Hid (Keeps wc (wc.alloc (.cells #[.int .i64 ((ks.length : Int))] 3)) (fun _ => False)) := Lib.hid ((Keeps.refl wc _).alloc _)
      have KW := Lib.hid (KH.out.trans KL.out)
      have RL : Hid (ReadsI (wc.alloc (.cells #[.int .i64 ((ks.length : Int))] 3)) (.slice (some ⟨wc.heap.size, 0, none⟩) 1 1) [((ks.length : Int))]) := Lib.hid (ReadsI.lit wc [((ks.length : Int))] 3 (by simp))
      have OL := Lib.hid (own_keeps OH.out KL.out (fun j hj => hj.elim))
      go_wp2_with (at_builtin; refine wpList_append_any rfl (.tmp 54) (.tmp 56) 22 22 rfl 3 i0 _ 1 8 Tryd.underlying22 II.out IZ.out IS.out IB.out rfl wo.heap.size _ 1 ([top].map (Value.int .i64)) rfl OL.out _ 1 ([(ks.length : Int)].map (Value.int .i64)) rfl (Src.ofReadsI RL.out) (by unfold maxLen; omega) (by omega) KW.out.size ?_)
      intro v16 w16 D
      have O16 : Hid (w16.ownsRow wo.heap.size 3 1 v16 (2) (([top, (ks.length : Int)]).map (Value.int .i64))) := Lib.hid (by have h := D.own; first | simpa using h | simpa [Nat.add_assoc] using h | (simp only [List.map_append, List.map_cons, List.map_nil, List.append_assoc, List.cons_append, List.nil_append] at h ⊢; exact h))
      have K16 : Hid (Keeps wo w16 (fun _ => False)) := Lib.hid (KW.out.grown D.grown (fun k hk hlt => by have := (own_block_ge OL.out k hk).1; omega))
      clear D KL KW RL OL
      have RH : Hid (ReadsI w16 v16 (hdr ks top m)) := Lib.hid (ReadsI.ofOwn (n := 2) (by rw [HH.out]; simp) (by rw [HH.out]; exact O16.out))
      have KR := Lib.hid (KP.out.trans K16.out)
      have KRW := Lib.hid (K6.out.trans KR.out)
      have HL : Hid ((hdr ks top m).length + (c.take n).length ≤ 1000) := Lib.hid (by rw [HH.out, List.length_take]; simp only [List.length_cons, List.length_nil, List.length_append, List.length_replicate]; omega)
      go_wp2_with fail
      refine (refdo_any _ _ _ _ (allK ks) (hdr ks top m) (c.take n) HL.out (RA.out.keeps KR.out) RH.out ((GC.out.take n (by omega)).keeps KRW.out)).mono ?_
      rintro e w8 ⟨v15, rfl, hk8, hr8⟩
      have K8 := Lib.hid (KR.out.trans hk8)
      clear hk8 hr8 KR KRW RH HL
      cases hb : (refDoL (allK ks) (hdr ks top m) (c.take n)).isSome with
      | true =>
        have HF := Lib.hid (front_true hlt hb)
        clear hb
        go_wp2_with fail
        go_ret
        exact ⟨by rw [HF.out]; rfl, K6.out.trans K8.out⟩
      | false =>
        have HB := Lib.hid hb
        clear hb
        go_wp2_with fail
        go_roundw
        case rel =>
          refine ⟨m + 1, by go_num, by omega, fun m' h => ?_, K8.out⟩
          by_cases hmm : m' = m
          · rw [hmm]; exact HB.out
          · exact HNo.out m' (by omega)
        case measure => simp [intOf]; omega
    · have hlt' : ¬ (m : Int) ≤ (n : Int) := by omega
      obtain rfl : m = n + 1 := by omega
      have HF := Lib.hid (front_false HNo.out)
      go_wp2_with fail
      go_ret
      exact ⟨by rw [HF.out]; rfl, K6.out.trans KP.out⟩

set_option maxHeartbeats 8000000 in
theorem front_3 (w : World) (vk vc : Value) (ks : List Int) (top : Int) (c : List (Int × Int)) (n : Nat) (hkt : kindL ks top = 3) (hks : ks.length ≤ 100) (hcl : c.length ≤ 20) (hn1 : 1 ≤ n) (hn : n ≤ c.length) (Hk : ReadsI w vk ks) (Hc : RdO w vc c) :
    Calls Tryd.prog 25 #[vk, .int .i64 top, vc, .int .i64 n] w fun e w' => e = .returned (.bool (frontL ks top c n)) ∧ Keeps w w' (fun _ => False) := by
  obtain ⟨i0, hi0, hz0, hs0, hb0⟩ := infoInt'
  have II := Lib.hid hi0
  have IZ := Lib.hid hz0
  have IS := Lib.hid hs0
  have IB := Lib.hid hb0
  obtain ⟨ak, capk, rfl, _, _⟩ := Hk.form
  obtain ⟨ac, capc, rfl, hcc, hmc⟩ := Hc.form
  obtain ⟨gc, offc, e1, hgc, hcell⟩ := Hc.cell 0 (by omega)
  subst e1
  have GK := Lib.hid Hk
  have GC := Lib.hid Hc
  have HKT := Lib.hid hkt
  have hnc : (n : Int) ≤ (capc : Int) := by omega
  have HO : Hid ((w.alloc (.cells #[] 3)).ownsRow w.heap.size 3 1 (.slice (some ⟨w.heap.size, 0, none⟩) 0 0) 0 []) := Lib.hid ⟨rfl, .inr ⟨_, _, _, rfl, Nat.le_refl _, heap_alloc_new w _, Nat.zero_le _, Nat.zero_le _, rfl, by simp⟩⟩
  have HS := Lib.hid (Src.ofReadsI (Hk.keeps ((Keeps.refl w _).alloc (.cells #[] 3))))
  have KA : Hid (Keeps w (w.alloc (.cells #[] 3)) (fun _ => False)) := Lib.hid ((Keeps.refl w _).alloc _)
  clear Hk Hc hi0 hz0 hs0 hb0 hcell hmc hkt
  go_enter Tryd.func25, Tryd.ntmps25
  go_wp2_with (at_builtin; refine wpList_append_any rfl (.tmp 17) (.tmp 18) 22 22 rfl 3 i0 _ 1 8 Tryd.underlying22 II.out IZ.out IS.out IB.out rfl w.heap.size _ 0 [] rfl HO.out _ ks.length (ks.map (Value.int .i64)) rfl HS.out (by unfold maxLen; omega) (by omega) KA.out.size ?_)
  intro v5 w5 D
  have O5 : Hid (w5.ownsRow w.heap.size 3 1 v5 ks.length (ks.map (Value.int .i64))) := Lib.hid (by have h := D.own; simpa using h)
  have K5 : Hid (Keeps w w5 (fun _ => False)) := Lib.hid (KA.out.grown D.grown (fun k hk hlt => by simp only [Value.ownBlock, Option.some.injEq] at hk; omega))
  clear D HO HS KA
  have KL : Hid (Keeps w5 (w5.alloc (.cells #[.int .i64 1, .int .i64 2, .int .i64 3] 3)) (fun _ => False)) := Lib.hid ((Keeps.refl w5 _).alloc _)
  have KW := Lib.hid (K5.out.trans KL.out)
  have RL : Hid (ReadsI (w5.alloc (.cells #[.int .i64 1, .int .i64 2, .int .i64 3] 3)) (.slice (some ⟨w5.heap.size, 0, none⟩) 3 3) [1, 2, 3]) := Lib.hid (litI w5 [1, 2, 3] _ rfl 3 rfl (by simp))
  have OL := Lib.hid (own_keeps O5.out KL.out (fun j hj => hj.elim))
  go_wp2_with (at_builtin; refine wpList_append_any rfl (.tmp 20) (.tmp 21) 22 22 rfl 3 i0 _ 1 8 Tryd.underlying22 II.out IZ.out IS.out IB.out rfl w.heap.size _ ks.length (ks.map (Value.int .i64)) rfl OL.out _ 3 (([1, 2, 3] : List Int).map (Value.int .i64)) rfl (Src.ofReadsI RL.out) (by unfold maxLen; omega) (by omega) KW.out.size ?_)
  intro v9 w6 D
  have RA : Hid (ReadsI w6 v9 (allK ks)) := Lib.hid (ReadsI.ofOwn (b := w.heap.size) (n := ks.length + 3) (by simp [allK]) (by have h := D.own; unfold allK; rw [List.map_append]; exact h))
  have K6 : Hid (Keeps w w6 (fun _ => False)) := Lib.hid (KW.out.grown D.grown (fun k hk hlt => by have := (own_block_ge OL.out k hk).1; omega))
  clear D KL KW RL OL O5 K5
  go_wp2_with fail
  refine (refkind_any _ _ ks top (GK.out.keeps K6.out)).mono ?_
  rintro e w7 ⟨rfl, rfl⟩
  rw [HKT.out]
  go_wp2_with fail
  go_loopw [12] (fun t12 wr => ∃ m : Nat, t12 = .int .i64 m ∧ m ≤ n + 1 ∧ (∀ m', m' < m → (refDoL (allK ks) (hdr ks top m') (c.take n)).isSome = false) ∧ Keeps w6 wr (fun _ => False)) (fun t12 _ => n + 1 - (intOf t12).toNat)
  case atStart => exact ⟨0, rfl, Nat.zero_le _, fun m' h => absurd h (Nat.not_lt_zero _), Keeps.refl _ _⟩
  case round =>
    obtain ⟨m, rfl, hm, hno, hkp⟩ := hrel
    obtain ⟨wo, hwo⟩ : ∃ x, x = wr := ⟨_, rfl⟩
    subst hwo
    have HNo := Lib.hid hno
    have KP := Lib.hid hkp
    clear hno hkp
    by_cases hlt : m ≤ n
    · have hlt' : (m : Int) ≤ (n : Int) := by omega
      go_upto_region 8 with fail
      go_cut [13] (fun v13 wx => wx.ownsRow wo.heap.size 3 1 v13 1 ([top].map (Value.int .i64)) ∧ Keeps wo wx (fun _ => False))
      case first =>
        go_wp2_with fail
        go_meet
        exact ⟨own_lit wo top, (Keeps.refl wo _).alloc _⟩
      obtain ⟨hown, hkc⟩ := hcut
      have OH := Lib.hid hown
      have KH := Lib.hid hkc
      clear hown hkc
      go_wp2_with fail
      go_loopw [13, 14] (fun v t14 wr => ∃ i : Nat, t14 = .int .i64 i ∧ i ≤ m ∧ wr.ownsRow wo.heap.size 3 1 v (i + 1) ((top :: List.replicate i ((ks.length : Int) + 2)).map (Value.int .i64)) ∧ Keeps wo wr (fun _ => False)) (fun _ t14 _ => m - (intOf t14).toNat)
      case atStart => exact ⟨0, rfl, Nat.zero_le _, OH.out, KH.out⟩
      case round =>
        obtain ⟨i, rfl, hi, hown, hki⟩ := hrel
        have OI := Lib.hid hown
        have KI := Lib.hid hki
        clear hown hki OH KH
        by_cases hlt2 : i < m
        · have hlt3 : (i : Int) < (m : Int) := by omega
          have hw2 := IntWalk.wrap64_in ((ks.length : Int) + 2) (by omega)
          have KL : Hid (Keeps wr (wr.alloc (.cells #[.int .i64 ((ks.length : Int) + 2)] 3)) (fun _ => False)) := Lib.hid ((Keeps.refl wr _).alloc _)
          have KW := Lib.hid (KI.out.trans KL.out)
          have RL : Hid (ReadsI (wr.alloc (.cells #[.int .i64 ((ks.length : Int) + 2)] 3)) (.slice (some ⟨wr.heap.size, 0, none⟩) 1 1) [((ks.length : Int) + 2)]) := Lib.hid (ReadsI.lit wr [((ks.length : Int) + 2)] 3 (by simp))
          have OL := Lib.hid (own_keeps OI.out KL.out (fun j hj => hj.elim))
          go_wp2_with (at_builtin; refine wpList_append_any rfl (.tmp 42) (.tmp 45) 22 22 rfl 3 i0 _ 1 8 Tryd.underlying22 II.out IZ.out IS.out IB.out rfl wo.heap.size _ (i + 1) ((top :: List.replicate i ((ks.length : Int) + 2)).map (Value.int .i64)) rfl OL.out _ 1 ([(ks.length : Int) + 2].map (Value.int .i64)) rfl (Src.ofReadsI RL.out) (by unfold maxLen; omega) (by omega) KW.out.size ?_)
          intro v46 w46 D
          have O46 : Hid (w46.ownsRow wo.heap.size 3 1 v46 (i + 1 + 1) ((top :: List.replicate (i + 1) ((ks.length : Int) + 2)).map (Value.int .i64))) := Lib.hid (by have h := D.own; first | (rw [List.replicate_succ']; simpa using h) | simpa using h | simpa [Nat.add_assoc] using h | (simp only [List.map_append, List.map_cons, List.map_nil, List.append_assoc, List.cons_append, List.nil_append] at h ⊢; exact h))
          have K46 : Hid (Keeps wo w46 (fun _ => False)) := Lib.hid (KW.out.grown D.grown (fun k hk hlt => by have := (own_block_ge OL.out k hk).1; omega))
          clear D KL KW RL OL
          go_wp2_with fail
          go_roundw
          case rel => exact ⟨i + 1, by go_num, by omega, O46.out, K46.out⟩
          case measure => simp [intOf]; omega
        · have hlt3 : ¬ (i : Int) < (m : Int) := by omega
          obtain rfl : i = m := by omega
          have hw1 := IntWalk.wrap64_in ((ks.length : Int) + 1) (by omega)
          have HH : Hid (hdr ks top i = top :: (List.replicate i ((ks.length : Int) + 2) ++ [(ks.length : Int) + 1, (ks.length : Int)])) := Lib.hid (by unfold hdr; rw [HKT.out]; rfl)
          have KL : Hid (Keeps wr (wr.alloc (.cells #[.int .i64 ((ks.length : Int) + 1)] 3)) (fun _ => False)) := Lib.hid ((Keeps.refl wr _).alloc _)
          have KW := Lib.hid (KI.out.trans KL.out)
          have RL : Hid (ReadsI (wr.alloc (.cells #[.int .i64 ((ks.length : Int) + 1)] 3)) (.slice (some ⟨wr.heap.size, 0, none⟩) 1 1) [((ks.length : Int) + 1)]) := Lib.hid (ReadsI.lit wr [((ks.length : Int) + 1)] 3 (by simp))
          have OL := Lib.hid (own_keeps OI.out KL.out (fun j hj => hj.elim))
          go_wp2_with (at_builtin; refine wpList_append_any rfl (.tmp 47) (.tmp 50) 22 22 rfl 3 i0 _ 1 8 Tryd.underlying22 II.out IZ.out IS.out IB.out rfl wo.heap.size _ (i + 1) ((top :: List.replicate i ((ks.length : Int) + 2)).map (Value.int .i64)) rfl OL.out _ 1 ([(ks.length : Int) + 1].map (Value.int .i64)) rfl (Src.ofReadsI RL.out) (by unfold maxLen; omega) (by omega) KW.out.size ?_)
          intro v51 w51 D
          have O51 : Hid (w51.ownsRow wo.heap.size 3 1 v51 (i + 1 + 1) (((top :: List.replicate i ((ks.length : Int) + 2)) ++ [(ks.length : Int) + 1]).map (Value.int .i64))) := Lib.hid (by have h := D.own; first | simpa using h | simpa [Nat.add_assoc] using h | (simp only [List.map_append, List.map_cons, List.map_nil, List.append_assoc, List.cons_append, List.nil_append] at h ⊢; exact h))
          have K51 : Hid (Keeps wo w51 (fun _ => False)) := Lib.hid (KW.out.grown D.grown (fun k hk hlt => by have := (own_block_ge OL.out k hk).1; omega))
          clear D KL KW RL OL
          have KL : Hid (Keeps w51 (w51.alloc (.cells #[.int .i64 ((ks.length : Int))] 3)) (fun _ => False)) := Lib.hid ((Keeps.refl w51 _).alloc _)
          have KW := Lib.hid (K51.out.trans KL.out)
          have RL : Hid (ReadsI (w51.alloc (.cells #[.int .i64 ((ks.length : Int))] 3)) (.slice (some ⟨w51.heap.size, 0, none⟩) 1 1) [((ks.length : Int))]) := Lib.hid (ReadsI.lit w51 [((ks.length : Int))] 3 (by simp))
          have OL := Lib.hid (own_keeps O51.out KL.out (fun j hj => hj.elim))
          go_wp2_with (at_builtin; refine wpList_append_any rfl (.tmp 54) (.tmp 56) 22 22 rfl 3 i0 _ 1 8 Tryd.underlying22 II.out IZ.out IS.out IB.out rfl wo.heap.size _ (i + 1 + 1) (((top :: List.replicate i ((ks.length : Int) + 2)) ++ [(ks.length : Int) + 1]).map (Value.int .i64)) rfl OL.out _ 1 ([(ks.length : Int)].map (Value.int .i64)) rfl (Src.ofReadsI RL.out) (by unfold maxLen; omega) (by omega) KW.out.size ?_)
          intro v57 w57 D
          have O57 : Hid (w57.ownsRow wo.heap.size 3 1 v57 (i + 1 + 1 + 1) ((top :: (List.replicate i ((ks.length : Int) + 2) ++ [(ks.length : Int) + 1, (ks.length : Int)])).map (Value.int .i64))) := Lib.hid (by have h := D.own; first | simpa using h | simpa [Nat.add_assoc] using h | (simp only [List.map_append, List.map_cons, List.map_nil, List.append_assoc, List.cons_append, List.nil_append] at h ⊢; exact h))
          have K57 : Hid (Keeps wo w57 (fun _ => False)) := Lib.hid (KW.out.grown D.grown (fun k hk hlt => by have := (own_block_ge OL.out k hk).1; omega))
          clear D KL KW RL OL
          have RH : Hid (ReadsI w57 v57 (hdr ks top i)) := Lib.hid (ReadsI.ofOwn (n := i + 1 + 1 + 1) (by rw [HH.out]; simp) (by rw [HH.out]; exact O57.out))
          have KR := Lib.hid (KP.out.trans K57.out)
          have KRW := Lib.hid (K6.out.trans KR.out)
          have HL : Hid ((hdr ks top i).length + (c.take n).length ≤ 1000) := Lib.hid (by rw [HH.out, List.length_take]; simp only [List.length_cons, List.length_nil, List.length_append, List.length_replicate]; omega)
          go_wp2_with fail
          refine (refdo_any _ _ _ _ (allK ks) (hdr ks top i) (c.take n) HL.out (RA.out.keeps KR.out) RH.out ((GC.out.take n (by omega)).keeps KRW.out)).mono ?_
          rintro e w8 ⟨v15, rfl, hk8, hr8⟩
          have K8 := Lib.hid (KR.out.trans hk8)
          clear hk8 hr8 KR KRW RH HL
          cases hb : (refDoL (allK ks) (hdr ks top i) (c.take n)).isSome with
          | true =>
            have HF := Lib.hid (front_true hlt hb)
            clear hb
            go_wp2_with fail
            go_ret
            exact ⟨by rw [HF.out]; rfl, K6.out.trans K8.out⟩
          | false =>
            have HB := Lib.hid hb
            clear hb
            go_wp2_with fail
            go_roundw
            case rel =>
              refine ⟨i + 1, by go_num, by omega, fun m' h => ?_, K8.out⟩
              by_cases hmm : m' = i
              · rw [hmm]; exact HB.out
              · exact HNo.out m' (by omega)
            case measure => simp [intOf]; omega
    · have hlt' : ¬ (m : Int) ≤ (n : Int) := by omega
      obtain rfl : m = n + 1 := by omega
      have HF := Lib.hid (front_false HNo.out)
      go_wp2_with fail
      go_ret
      exact ⟨by rw [HF.out]; rfl, K6.out.trans KP.out⟩

theorem front_any (w : World) (vk vc : Value) (ks : List Int) (top : Int) (c : List (Int × Int)) (n : Nat) (hkt : kindL ks top ≠ 0) (hks : ks.length ≤ 100) (hcl : c.length ≤ 20) (hn1 : 1 ≤ n) (hn : n ≤ c.length) (Hk : ReadsI w vk ks) (Hc : RdO w vc c) :
    Calls Tryd.prog 25 #[vk, .int .i64 top, vc, .int .i64 n] w fun e w' => e = .returned (.bool (frontL ks top c n)) ∧ Keeps w w' (fun _ => False) := by
  have h := kindL_range ks top
  rcases h with h | h | h | h
  · exact absurd h hkt
  · exact front_1 w vk vc ks top c n h hks hcl hn1 hn Hk Hc
  · exact front_2 w vk vc ks top c n h hks hcl hn1 hn Hk Hc
  · exact front_3 w vk vc ks top c n h hks hcl hn1 hn Hk Hc
end Go.Proofs.YtdhcnmljkmodhaaDoor

/- fairleadref10.Check: the walk. (Printed by gen_ops22.py.) -/
namespace Go.Proofs.YtdhcnmljkmodhaaDoor
set_option linter.unusedSectionVars false
set_option linter.unusedVariables false
set_option linter.unusedSimpArgs false
set_option maxRecDepth 20000
open Go.RowKit

theorem refRun_step (ks : List Int) (top : Int) (c : List (Int × Int)) (i : Nat) (hi : i < c.length) : refRun ks top c (c.drop i) i = if c[i].1 < 1 ∨ 3 < c[i].1 ∨ (1 < c[i].1 ∧ kindL ks c[i].2 = 0) then (2, (i : Int)) else if frontL ks top c (i + 1) then refRun ks top c (c.drop (i + 1)) (i + 1) else (9, (i : Int)) := by
  rw [List.drop_eq_getElem_cons hi]; rfl
set_option maxHeartbeats 8000000 in
theorem refcheck_any (w : World) (vk vc : Value) (ks : List Int) (top : Int) (c : List (Int × Int)) (hks : ks.length ≤ 100) (hcl : c.length ≤ 20) (Hk : ReadsI w vk ks) (Hc : RdO w vc c) :
    Calls Tryd.prog 9 #[vk, .int .i64 top, vc] w fun e w' => e = .returned (.tuple #[.int .i64 (refCheckL ks top c).1, .int .i64 (refCheckL ks top c).2]) ∧ Keeps w w' (fun _ => False) := by
  obtain ⟨ac, capc, rfl, _, hmc⟩ := Hc.form
  have GK := Lib.hid Hk
  have GC := Lib.hid Hc
  have HCL : Hid (refCheckL ks top c = if kindL ks top = 0 then (2, -1) else if 8 < c.length then (6, 8) else refRun ks top c c 0) := Lib.hid rfl
  clear Hk Hc hmc
  go_enter Tryd.func9, Tryd.ntmps9
  go_wp2_with fail
  refine (refkind_any _ _ ks top GK.out).mono ?_
  rintro e w1 ⟨rfl, rfl⟩
  by_cases h0 : kindL ks top = 0
  · rw [if_pos h0] at HCL
    rw [h0]
    clear h0
    go_wp2_with fail
    go_ret2
    exact ⟨by rw [HCL.out]; rfl, Keeps.refl _ _⟩
  · rw [if_neg h0] at HCL
    have hq0 : (kindL ks top == 0) = false := beq_eq_false_iff_ne.2 h0
    have HK0 := Lib.hid h0
    clear h0
    by_cases h8 : 8 < c.length
    · rw [if_pos h8] at HCL
      have h8' : (8 : Int) < (c.length : Int) := by omega
      go_wp2_with fail
      go_ret2
      exact ⟨by rw [HCL.out]; rfl, Keeps.refl _ _⟩
    · rw [if_neg h8] at HCL
      have h8' : ¬ (8 : Int) < (c.length : Int) := by omega
      go_wp2_with fail
      go_loopw [19] (fun ti wr => ∃ i : Nat, ti = .int .i64 i ∧ i ≤ c.length ∧ refCheckL ks top c = refRun ks top c (c.drop i) i ∧ Keeps w wr (fun _ => False)) (fun ti _ => c.length - (intOf ti).toNat)
      case atStart => exact ⟨0, rfl, Nat.zero_le _, HCL.out, Keeps.refl _ _⟩
      case round =>
        obtain ⟨i, rfl, hi, hsame, hkp⟩ := hrel
        have HSM := Lib.hid hsame
        have KP := Lib.hid hkp
        clear hsame hkp HCL
        by_cases hlt : i < c.length
        · obtain ⟨g, off, rfl, hg, hc⟩ := (GC.out.keeps KP.out).cell i hlt
          have hc0 := (hc i hlt).1
          have hc1 := (hc i hlt).2
          have HS := Lib.hid (refRun_step ks top c i hlt)
          clear hc
          generalize c[i].1 = ok at *
          generalize c[i].2 = ox at *
          have KA : Hid (Keeps w (wr.alloc (.cells #[.int .i64 ok, .int .i64 ox] 47)) (fun _ => False)) := Lib.hid (KP.out.alloc _)
          have hw1 := IntWalk.wrap64_in ((i : Int) + 1) (by omega)
          have hcast : (i : Int) + 1 = ((i + 1 : Nat) : Int) := by omega
          have HCA := Lib.hid hcast
          clear hcast
          by_cases b1 : ok < 1
          · have HF : Hid (refCheckL ks top c = (2, (i : Int))) := Lib.hid (by rw [HSM.out, HS.out, if_pos (by omega)])
            go_wp2_with fail
            go_ret2
            exact ⟨by rw [HF.out]; rfl, KA.out⟩
          · by_cases b2 : 3 < ok
            · have HF : Hid (refCheckL ks top c = (2, (i : Int))) := Lib.hid (by rw [HSM.out, HS.out, if_pos (by omega)])
              go_wp2_with fail
              go_ret2
              exact ⟨by rw [HF.out]; rfl, KA.out⟩
            · by_cases b3 : 1 < ok
              · go_wp2_with fail
                refine (refkind_any _ _ ks ox (GK.out.keeps KA.out)).mono ?_
                rintro e w2 ⟨rfl, rfl⟩
                by_cases b4 : kindL ks ox = 0
                · have HF : Hid (refCheckL ks top c = (2, (i : Int))) := Lib.hid (by rw [HSM.out, HS.out, if_pos (.inr (.inr ⟨b3, b4⟩))])
                  rw [b4]
                  clear b4
                  go_wp2_with fail
                  go_ret2
                  exact ⟨by rw [HF.out]; rfl, KA.out⟩
                · have q4 : (kindL ks ox == 0) = false := beq_eq_false_iff_ne.2 b4
                  go_wp2_with fail
                  rw [HCA.out]
                  refine (front_any _ _ _ ks top c (i + 1) HK0.out hks hcl (by omega) (by omega) (GK.out.keeps KA.out) (GC.out.keeps KA.out)).mono ?_
                  rintro e w3 ⟨rfl, hk3⟩
                  have K3 := Lib.hid (KA.out.trans hk3)
                  clear hk3
                  cases hf : frontL ks top c (i + 1) with
                  | true =>
                    have HS2 : Hid (refCheckL ks top c = refRun ks top c (c.drop (i + 1)) (i + 1)) := Lib.hid (by rw [HSM.out, HS.out, if_neg (by omega), hf, if_pos rfl])
                    clear hf
                    go_wp2_with fail
                    go_roundw
                    case rel => exact ⟨i + 1, by go_num, by omega, HS2.out, K3.out⟩
                    case measure => simp [intOf]; omega
                  | false =>
                    have HF : Hid (refCheckL ks top c = (9, (i : Int))) := Lib.hid (by rw [HSM.out, HS.out, if_neg (by omega), hf]; rfl)
                    clear hf
                    go_wp2_with fail
                    go_ret2
                    exact ⟨by rw [HF.out]; rfl, K3.out⟩
              · go_wp2_with fail
                rw [HCA.out]
                refine (front_any _ _ _ ks top c (i + 1) HK0.out hks hcl (by omega) (by omega) (GK.out.keeps KA.out) (GC.out.keeps KA.out)).mono ?_
                rintro e w3 ⟨rfl, hk3⟩
                have K3 := Lib.hid (KA.out.trans hk3)
                clear hk3
                cases hf : frontL ks top c (i + 1) with
                | true =>
                  have HS2 : Hid (refCheckL ks top c = refRun ks top c (c.drop (i + 1)) (i + 1)) := Lib.hid (by rw [HSM.out, HS.out, if_neg (by omega), hf, if_pos rfl])
                  clear hf
                  go_wp2_with fail
                  go_roundw
                  case rel => exact ⟨i + 1, by go_num, by omega, HS2.out, K3.out⟩
                  case measure => simp [intOf]; omega
                | false =>
                  have HF : Hid (refCheckL ks top c = (9, (i : Int))) := Lib.hid (by rw [HSM.out, HS.out, if_neg (by omega), hf]; rfl)
                  clear hf
                  go_wp2_with fail
                  go_ret2
                  exact ⟨by rw [HF.out]; rfl, K3.out⟩
        · have hi' : i = c.length := by omega
          subst hi'
          have HF : Hid (refCheckL ks top c = (0, 0)) := Lib.hid (by rw [HSM.out, List.drop_eq_nil_of_le (Nat.le_refl _)]; rfl)
          go_wp2_with fail
          go_ret2
          exact ⟨by rw [HF.out]; rfl, KP.out⟩
end Go.Proofs.YtdhcnmljkmodhaaDoor

/- OpsCheck: the walk: it answers true at every input. -/
namespace Go.Proofs.YtdhcnmljkmodhaaDoor.opsCheck
set_option linter.unusedSectionVars false
set_option linter.unusedVariables false
set_option linter.unusedSimpArgs false
set_option maxRecDepth 20000
open Go.RowKit
set_option maxHeartbeats 4000000 in
theorem walk (w : World) (vk vc : Value) (ks : List Int) (top : Int) (c : List (Int × Int)) (Hk : ReadsI w vk ks) (Hc : RdO w vc c) (hT : TabOk w) (hE : ErrT w) :
    Calls Tryd.prog 3 #[vk, .int .i64 top, vc] w fun e w' => e = .returned (.bool true) ∧ Keeps w w' (fun _ => False) := by
  have GT := Lib.hid hT
  have GE := Lib.hid hE
  have GK := Lib.hid Hk
  have GC := Lib.hid Hc
  clear Hk Hc hT hE
  go_enter Tryd.func3, Tryd.ntmps3
  go_wp2_with fail
  refine (awake10 _ GT.out GE.out).mono ?_
  rintro e w1 ⟨rfl, k1⟩
  have K1 := Lib.hid k1
  clear k1
  go_wp2_with fail
  refine (light_any _ _ _ _ ks [] c (GK.out.keeps K1.out) (readsNil _) (GC.out.keeps K1.out)).mono ?_
  rintro e w2 ⟨rfl, rfl⟩
  cases hb : lightL ks [] c with
  | false =>
    go_wp2_with fail
    go_ret
    exact ⟨rfl, K1.out⟩
  | true =>
    have HB := Lib.hid ((lightL_iff ks [] c).1 hb)
    clear hb
    go_wp2_with fail
    refine (to_any _ _ c (by have := HB.out; omega) (GC.out.keeps K1.out)).mono ?_
    rintro e w3 ⟨v19, rfl, hk, hr⟩
    have K3 := Lib.hid (K1.out.trans hk)
    have R19 := Lib.hid hr
    clear hk hr
    go_wp2_with fail
    refine (refcheck_any _ _ _ ks top c (by have := HB.out; omega) (by have := HB.out; omega) (GK.out.keeps K3.out) R19.out).mono ?_
    rintro e w4 ⟨rfl, hk⟩
    have K4 := Lib.hid (K3.out.trans hk)
    rw [check_same]
    clear hk R19
    go_wp2_with fail
    refine (check_any _ _ _ ks top c (by have := HB.out; omega) (GK.out.keeps K4.out) (GC.out.keeps K4.out) (GT.out.keeps K4.out)).mono ?_
    rintro e w5 ⟨u, rfl, hk, hv⟩
    have K5 := Lib.hid (K4.out.trans hk)
    have HV := Lib.hid hv
    clear hk hv
    go_wp2_with fail
    refine (is_any _ u (checkL ks top c) (GE.out.keeps K5.out) HV.out).mono ?_
    rintro e w6 ⟨rfl, hk⟩
    have K6 := Lib.hid (K5.out.trans hk)
    clear hk HV
    go_wp2_with fail
    go_ret
    exact ⟨rfl, K6.out⟩
end Go.Proofs.YtdhcnmljkmodhaaDoor.opsCheck
