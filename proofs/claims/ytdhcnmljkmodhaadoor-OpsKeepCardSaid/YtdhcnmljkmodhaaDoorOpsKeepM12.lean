/- Merged for the claim, in build order: Ops20, OpsKeep. -/
import Derived.Test.YtdhcnmljkmodhaaDoorOpsKeepM11
/- The plain law of OpsCheck, ended; what OpsKeep asks of Check and of lengths. -/
namespace Go.Proofs.YtdhcnmljkmodhaaDoor
set_option linter.unusedSectionVars false
set_option linter.unusedVariables false
set_option linter.unusedSimpArgs false
set_option maxRecDepth 20000

theorem oneK_range {v v' : List Int} {k own : Int} (hv : vK v = true) (e : oneK v k own = some v') : (k = 1 ∨ k = 2 ∨ k = 3) ∧ (k ≠ 1 → own = 1 ∨ own = 2 ∨ own = 3) := by
  cases v with
  | nil => cases e
  | cons a t =>
    have ha := vK_range hv a List.mem_cons_self
    rw [oneK_cons] at e
    by_cases h1 : k = 1
    · exact ⟨.inl h1, fun h => absurd h1 h⟩
    · rw [if_neg h1] at e
      by_cases h2 : k = 2
      · rw [if_pos h2] at e
        by_cases hk : own = a
        · exact ⟨.inr (.inl h2), fun _ => by rw [hk]; exact ha⟩
        · rw [if_neg hk] at e; cases e
      · rw [if_neg h2] at e
        by_cases h3 : k = 3
        · rw [if_pos h3] at e
          cases hm : mayL own a with
          | false => rw [hm] at e; cases e
          | true =>
            have := (mayL_iff _ _).1 hm
            exact ⟨.inr (.inr h3), fun _ => by omega⟩
        · rw [if_neg h3] at e; cases e
/-- All headers that may be, of one top. -/
def R0 (kt : Int) : List Int → Prop := fun v => vK v = true ∧ ∃ r, v = kt :: r
theorem kinv0 {kt : Int} (h : kt = 1 ∨ kt = 2 ∨ kt = 3) : KInv (R0 kt) [] (T1 kt) (T2 kt) (T3 kt) where
  iff := fun v => by
    constructor
    · rintro ⟨h1, r, rfl⟩
      refine ⟨kt :: r, h1, ⟨kt, r, rfl, ?_⟩, rfl⟩
      unfold T1 T2 T3
      rcases h with rfl | rfl | rfl
      · exact .inl ⟨rfl, rfl⟩
      · exact .inr (.inl ⟨rfl, rfl⟩)
      · exact .inr (.inr ⟨rfl, rfl⟩)
    · rintro ⟨u, h1, ⟨t, r, rfl, ht⟩, rfl⟩
      refine ⟨h1, r, ?_⟩
      unfold T1 T2 T3 at ht
      simp only [inT, decide_eq_true_eq] at ht
      have : t = kt := by rcases ht with ⟨a, b⟩ | ⟨a, b⟩ | ⟨a, b⟩ <;> omega
      rw [this]; rfl
  some := by rcases h with rfl | rfl | rfl <;> rfl
  may := fun v hv => hv.1
theorem kn0 {kt : Int} (h : kt = 1 ∨ kt = 2 ∨ kt = 3) : Kn [] (T1 kt) (T2 kt) (T3 kt) = [ofL [kt]] := by
  unfold Kn; rw [ts_of h]; rfl
theorem runK_cons (ks : List Int) (k : List BSet) (o : Int × Int) (r : List (Int × Int)) (i : Nat) : runK ks k (o :: r) i = if (doneL k (kindL ks o.2) o.1).1 = 0 then runK ks (doneL k (kindL ks o.2) o.1).2 r (i + 1) else some ((doneL k (kindL ks o.2) o.1).1, (i : Int)) := rfl
/-- What can be done is found to be possible. -/
theorem runK_none (ks : List Int) : ∀ (c : List (Int × Int)) (i : Nat) (R : List Int → Prop) (S : List Int) (x y z : Bool), KInv R S x y z → (∃ v0, R v0 ∧ (chainK v0 (opsK ks c)).isSome = true) → runK ks (Kn S x y z) c i = none
  | [], i, R, S, x, y, z, h, hv => rfl
  | o :: r, i, R, S, x, y, z, h, ⟨v0, h0, hs⟩ => by
    have hop : opsK ks (o :: r) = (o.1, kindL ks o.2) :: opsK ks r := rfl
    rw [hop, chainK_cons] at hs
    simp only at hs
    cases hn : oneK v0 o.1 (kindL ks o.2) with
    | none => rw [hn] at hs; cases hs
    | some v1 =>
      rw [hn] at hs
      have hr := oneK_range (h.may v0 h0) hn
      rw [runK_cons]
      rcases h.step o.1 (kindL ks o.2) hr.1 hr.2 with ⟨_, hno⟩ | ⟨S', a', b', c', hd, hi⟩
      · exact absurd ⟨v0, h0, hn⟩ (hno v1)
      · rw [hd, if_pos rfl]
        exact runK_none ks r (i + 1) _ S' a' b' c' hi ⟨v1, ⟨v0, h0, hn⟩, hs⟩
theorem keep_check {ks t x : List Int} {a : Int} {c : List (Int × Int)} (hl : c.length ≤ 8) (e : doL ks (a :: t) c = some x) : checkL ks a c = none := by
  have hv := (do_valid e).1
  have hc : chainL ks (a :: t) c = some x := by unfold doL at e; rw [hv, if_pos rfl] at e; exact e
  have hk := chainL_K ks c (a :: t)
  rw [hc] at hk
  have hvk := validL_vK ks (a :: t)
  rw [hv] at hvk
  have hr := vK_range hvk.symm (kindL ks a) (by simp)
  unfold checkL
  rw [if_neg (by omega), if_neg (by omega), ← kn0 hr]
  exact runK_none ks c 0 _ _ _ _ _ (kinv0 hr) ⟨(a :: t).map (kindL ks), ⟨hvk.symm, _, rfl⟩, by rw [← hk]; rfl⟩
theorem oneL_grows {ks h h' : List Int} {o : Int × Int} (e : oneL ks h o.1 o.2 = some h') (r : List (Int × Int)) : (h'.length : Int) + ((cntL 3 r : Int) - (cntL 1 r : Int)) = (h.length : Int) + ((cntL 3 (o :: r) : Int) - (cntL 1 (o :: r) : Int)) := by
  cases h with
  | nil => cases e
  | cons a t =>
    rw [oneL_cons] at e
    rw [cntL_cons, cntL_cons]
    by_cases h1 : o.1 = 1
    · rw [if_pos h1] at e
      by_cases ht : t = []
      · rw [if_pos ht] at e; cases e
      · rw [if_neg ht] at e; obtain rfl := Option.some.inj e; simp [h1]; omega
    · rw [if_neg h1] at e
      by_cases h2 : o.1 = 2
      · rw [if_pos h2] at e
        by_cases hk : kindL ks o.2 = kindL ks a
        · rw [if_pos hk] at e; obtain rfl := Option.some.inj e; simp [h2]
        · rw [if_neg hk] at e; cases e
      · rw [if_neg h2] at e
        by_cases h3 : o.1 = 3
        · rw [if_pos h3] at e
          by_cases hm : mayL (kindL ks o.2) (kindL ks a) = true
          · rw [if_pos hm] at e; obtain rfl := Option.some.inj e; simp [h3]; omega
          · rw [if_neg hm] at e; cases e
        · rw [if_neg h3] at e; cases e
theorem chain_grows (ks : List Int) : ∀ (c : List (Int × Int)) (h x : List Int), chainL ks h c = some x → (x.length : Int) = (h.length : Int) + ((cntL 3 c : Int) - (cntL 1 c : Int))
  | [], h, x, e => by obtain rfl := Option.some.inj e; simp [cntL]
  | o :: r, h, x, e => by
    rw [chainL_cons] at e
    cases hn : oneL ks h o.1 o.2 with
    | none => rw [hn] at e; cases e
    | some h' =>
      rw [hn] at e
      rw [← oneL_grows hn r]
      exact chain_grows ks r h' x e
theorem do_grows {ks h x : List Int} {c : List (Int × Int)} (e : doL ks h c = some x) : (x.length : Int) = (h.length : Int) + ((cntL 3 c : Int) - (cntL 1 c : Int)) := by
  have hv := (do_valid e).1
  unfold doL at e
  rw [hv, if_pos rfl] at e
  exact chain_grows ks c h x e

/-- The document's headers of a top: over mids labels of the middle, one of the bottom, one of the network beneath. -/
def hdr (ks : List Int) (top : Int) (m : Nat) : List Int :=
  if kindL ks top = 3 then top :: (List.replicate m ((ks.length : Int) + 2) ++ [(ks.length : Int) + 1, (ks.length : Int)]) else if kindL ks top = 1 then [top] else [top, (ks.length : Int)]
def allK (ks : List Int) : List Int := ks ++ [1, 2, 3]
def frontL (ks : List Int) (top : Int) (c : List (Int × Int)) (n : Nat) : Bool := (List.range (n + 1)).any fun m => (refDoL (allK ks) (hdr ks top m) (c.take n)).isSome
def orig (kt : Int) (m : Nat) : List Int := if kt = 3 then List.replicate (m + 1) 3 ++ [2, 1] else if kt = 1 then [1] else [2, 1]
theorem kindL_all {ks : List Int} {x : Int} (h : kindL ks x ≠ 0) : kindL (allK ks) x = kindL ks x := by
  unfold kindL allK at *
  by_cases h0 : 0 ≤ x
  · rw [if_pos h0] at h ⊢
    rw [if_pos h0]
    have hlt : x.toNat < ks.length := by
      rcases Nat.lt_or_ge x.toNat ks.length with h' | h'
      · exact h'
      · exfalso
        apply h
        rw [List.getD_eq_getElem?_getD, List.getElem?_eq_none h']
        rfl
    rw [List.getD_eq_getElem?_getD, List.getD_eq_getElem?_getD, List.getElem?_append_left hlt]
  · rw [if_neg h0] at h; exact absurd rfl h
theorem kindL_new (ks : List Int) (j : Nat) (hj : j < 3) : kindL (allK ks) ((ks.length : Int) + (j : Int)) = (j : Int) + 1 := by
  unfold kindL allK
  rw [if_pos (by omega)]
  have e : ((ks.length : Int) + (j : Int)).toNat = ks.length + j := by omega
  rw [e, List.getD_eq_getElem?_getD, List.getElem?_append_right (by omega), show ks.length + j - ks.length = j by omega]
  match j, hj with
  | 0, _ => rfl
  | 1, _ => rfl
  | 2, _ => rfl
theorem hdr_orig {ks : List Int} {top : Int} (h : kindL ks top ≠ 0) (m : Nat) : (hdr ks top m).map (kindL (allK ks)) = orig (kindL ks top) m := by
  have h0 := kindL_new ks 0 (by decide)
  have h1 := kindL_new ks 1 (by decide)
  have h2 := kindL_new ks 2 (by decide)
  simp only [Int.natCast_zero, Int.add_zero, Int.zero_add, Int.natCast_one] at h0 h1
  have h2' : kindL (allK ks) ((ks.length : Int) + 2) = 3 := h2
  have h1' : kindL (allK ks) ((ks.length : Int) + 1) = 2 := h1
  have ht := kindL_all h
  unfold hdr orig
  by_cases k3 : kindL ks top = 3
  · rw [if_pos k3, if_pos k3, List.map_cons, List.map_append, List.map_replicate, ht, h2', k3, List.replicate_succ]
    simp [h0, h1']
  · rw [if_neg k3, if_neg k3]
    by_cases k1 : kindL ks top = 1
    · rw [if_pos k1, if_pos k1, List.map_cons, ht, k1]; rfl
    · rw [if_neg k1, if_neg k1]
      have k2 : kindL ks top = 2 := by have := kindL_range ks top; omega
      rw [List.map_cons, List.map_cons, ht, k2, h0]; rfl
theorem rep_valid : ∀ m : Nat, vK (List.replicate (m + 1) 3 ++ [2, 1]) = true
  | 0 => rfl
  | m + 1 => by
    have ih := rep_valid m
    rw [List.replicate_succ, List.cons_append] at ih ⊢
    exact vK_cons ih rfl
theorem orig_R0 {kt : Int} (h : kt = 1 ∨ kt = 2 ∨ kt = 3) (m : Nat) : R0 kt (orig kt m) := by
  rcases h with rfl | rfl | rfl
  · exact ⟨rfl, [], rfl⟩
  · exact ⟨rfl, [1], rfl⟩
  · refine ⟨rep_valid m, List.replicate m 3 ++ [2, 1], ?_⟩
    show List.replicate (m + 1) 3 ++ [2, 1] = _
    rw [List.replicate_succ]; rfl
theorem orig_of3 : ∀ r : List Int, vK (3 :: r) = true → ∃ m, 3 :: r = List.replicate (m + 1) 3 ++ [2, 1]
  | [], h => by cases h
  | y :: r, h => by
    have hm := (mayL_iff _ _).1 (vK_top h)
    have hv := vK_tail h (by simp)
    rcases hm with ⟨_, rfl | rfl⟩ | ⟨h, _⟩
    · obtain ⟨m, e⟩ := orig_of3 r hv
      exact ⟨m + 1, by rw [e, List.replicate_succ (n := m + 1)]; rfl⟩
    · refine ⟨0, ?_⟩
      cases r with
      | nil => cases hv
      | cons z r =>
        have hm2 := (mayL_iff _ _).1 (vK_top hv)
        obtain rfl : z = 1 := by omega
        obtain rfl := vK_one (vK_tail hv (by simp))
        rfl
    · omega
theorem R0_orig {kt : Int} (h : kt = 1 ∨ kt = 2 ∨ kt = 3) {v : List Int} (hv : R0 kt v) : ∃ m, v = orig kt m := by
  obtain ⟨h1, r, rfl⟩ := hv
  rcases h with rfl | rfl | rfl
  · obtain rfl := vK_one h1; exact ⟨0, rfl⟩
  · refine ⟨0, ?_⟩
    cases r with
    | nil => cases h1
    | cons y r =>
      have hm := (mayL_iff _ _).1 (vK_top h1)
      obtain rfl : y = 1 := by omega
      obtain rfl := vK_one (vK_tail h1 (by simp))
      rfl
  · obtain ⟨m, e⟩ := orig_of3 r h1
    exact ⟨m, by rw [e]; rfl⟩
/-- An op that the document's Check does not refuse by its form. -/
def okO (ks : List Int) (o : Int × Int) : Prop := (o.1 = 1 ∨ o.1 = 2 ∨ o.1 = 3) ∧ (o.1 ≠ 1 → kindL ks o.2 ≠ 0)
theorem chainK_all (ks : List Int) : ∀ (c : List (Int × Int)) (v : List Int), (∀ o ∈ c, okO ks o) → chainK v (opsK (allK ks) c) = chainK v (opsK ks c)
  | [], v, _ => rfl
  | o :: r, v, h => by
    have e1 : opsK (allK ks) (o :: r) = (o.1, kindL (allK ks) o.2) :: opsK (allK ks) r := rfl
    have e2 : opsK ks (o :: r) = (o.1, kindL ks o.2) :: opsK ks r := rfl
    have ho := h o List.mem_cons_self
    have e3 : oneK v o.1 (kindL (allK ks) o.2) = oneK v o.1 (kindL ks o.2) := by
      by_cases h1 : o.1 = 1
      · rw [h1]; cases v <;> rfl
      · rw [kindL_all (ho.2 h1)]
    rw [e1, e2, chainK_cons, chainK_cons]
    simp only
    rw [e3]
    cases oneK v o.1 (kindL ks o.2) with
    | none => rfl
    | some v' => exact chainK_all ks r v' (fun p hp => h p (List.mem_cons_of_mem _ hp))
theorem refDo_orig {ks : List Int} {top : Int} (h : kindL ks top ≠ 0) (c : List (Int × Int)) (hc : ∀ o ∈ c, okO ks o) (m : Nat) : (refDoL (allK ks) (hdr ks top m) c).isSome = (chainK (orig (kindL ks top) m) (opsK ks c)).isSome := by
  have hr : kindL ks top = 1 ∨ kindL ks top = 2 ∨ kindL ks top = 3 := by have := kindL_range ks top; omega
  rw [refDo_eq]
  unfold doL
  have hv : validL (allK ks) (hdr ks top m) = true := by rw [validL_vK, hdr_orig h]; exact (orig_R0 hr m).1
  rw [hv, if_pos rfl, ← chainK_all ks c _ hc, ← hdr_orig h, ← chainL_K, Option.isSome_map]
theorem frontL_iff {ks : List Int} {top : Int} (h : kindL ks top ≠ 0) (c : List (Int × Int)) (n : Nat) (hn : n ≤ c.length) (hc : ∀ o ∈ c.take n, okO ks o) :
    frontL ks top c n = true ↔ ∃ v0, R0 (kindL ks top) v0 ∧ (chainK v0 (opsK ks (c.take n))).isSome = true := by
  have hr : kindL ks top = 1 ∨ kindL ks top = 2 ∨ kindL ks top = 3 := by have := kindL_range ks top; omega
  unfold frontL
  rw [List.any_eq_true]
  constructor
  · rintro ⟨m, hm, hs⟩
    rw [refDo_orig h _ hc] at hs
    exact ⟨_, orig_R0 hr m, hs⟩
  · rintro ⟨v0, h0, hs⟩
    obtain ⟨m, rfl⟩ := R0_orig hr h0
    by_cases hm : m ≤ n
    · exact ⟨m, List.mem_range.2 (by omega), by rw [refDo_orig h _ hc]; exact hs⟩
    · refine ⟨n, List.mem_range.2 (by omega), ?_⟩
      rw [refDo_orig h _ hc]
      by_cases k3 : kindL ks top = 3
      · rw [k3] at hs ⊢
        have ho : ∀ m, orig 3 m = List.replicate (m + 1) 3 ++ [2, 1] := fun m => rfl
        rw [ho] at hs ⊢
        have hlen : (opsK ks (c.take n)).length = n := by unfold opsK; rw [List.length_map, List.length_take]; omega
        rw [show m + 1 = (n + 1) + (m - n) by omega, ← List.replicate_append_replicate, List.append_assoc] at hs
        rw [chainK_deep _ _ _ (List.replicate (m - n) 3 ++ [2, 1]) (by rw [hlen, List.length_replicate]; omega)]
        exact hs
      · have ho : ∀ m m', orig (kindL ks top) m = orig (kindL ks top) m' := fun m m' => by unfold orig; rw [if_neg k3, if_neg k3]
        rw [ho n m]; exact hs

/-- The document's Check, from its op i on. -/
def refRun (ks : List Int) (top : Int) (c : List (Int × Int)) : List (Int × Int) → Nat → Int × Int
  | [], _ => (0, 0)
  | o :: r, i => if o.1 < 1 ∨ 3 < o.1 ∨ (1 < o.1 ∧ kindL ks o.2 = 0) then (2, (i : Int)) else if frontL ks top c (i + 1) then refRun ks top c r (i + 1) else (9, (i : Int))
def refCheckL (ks : List Int) (top : Int) (c : List (Int × Int)) : Int × Int := if kindL ks top = 0 then (2, -1) else if 8 < c.length then (6, 8) else refRun ks top c c 0
def Ri (ks : List Int) (kt : Int) (pre : List (Int × Int)) : List Int → Prop := fun v => ∃ v0, R0 kt v0 ∧ chainK v0 (opsK ks pre) = some v
theorem Ri_snoc (ks : List Int) (kt : Int) (pre : List (Int × Int)) (o : Int × Int) : Ri ks kt (pre ++ [o]) = Rn (Ri ks kt pre) o.1 (kindL ks o.2) := by
  funext v
  apply propext
  have hop : opsK ks (pre ++ [o]) = opsK ks pre ++ [(o.1, kindL ks o.2)] := by unfold opsK; rw [List.map_append]; rfl
  constructor
  · rintro ⟨v0, h0, e⟩
    rw [hop, chainK_app] at e
    cases hc : chainK v0 (opsK ks pre) with
    | none => rw [hc] at e; cases e
    | some y => rw [hc] at e; exact ⟨y, ⟨v0, h0, hc⟩, by rw [← chainK_one y (o.1, kindL ks o.2)]; exact e⟩
  · rintro ⟨y, ⟨v0, h0, hc⟩, e⟩
    refine ⟨v0, h0, ?_⟩
    rw [hop, chainK_app, hc]
    show chainK y _ = _
    rw [chainK_one]; exact e
theorem doneL_bad (ks : List Int) (k : List BSet) (hk : k ≠ []) (o : Int × Int) (h : o.1 < 1 ∨ 3 < o.1 ∨ (1 < o.1 ∧ kindL ks o.2 = 0)) : doneL k (kindL ks o.2) o.1 = (2, []) := by
  obtain ⟨s, r, rfl⟩ := List.exists_cons_of_ne_nil hk
  rw [doneL_cons]
  by_cases h1 : o.1 = 1
  · omega
  · rw [if_neg h1]
    by_cases h2 : o.1 = 2
    · rw [if_pos h2, if_pos (by omega)]
    · rw [if_neg h2]
      by_cases h3 : o.1 = 3
      · rw [if_pos h3, if_pos (by omega)]
      · rw [if_neg h3]
theorem run_same (ks : List Int) (top : Int) (hkt : kindL ks top ≠ 0) (c : List (Int × Int)) : ∀ (r pre : List (Int × Int)) (i : Nat) (S : List Int) (x y z : Bool), c = pre ++ r → pre.length = i → (∀ o ∈ pre, okO ks o) →
    KInv (Ri ks (kindL ks top) pre) S x y z → refRun ks top c r i = errN (runK ks (Kn S x y z) r i)
  | [], pre, i, S, x, y, z, hc, hi, hp, inv => rfl
  | o :: r, pre, i, S, x, y, z, hc, hi, hp, inv => by
    rw [runK_cons]
    have e0 : refRun ks top c (o :: r) i = if o.1 < 1 ∨ 3 < o.1 ∨ (1 < o.1 ∧ kindL ks o.2 = 0) then (2, (i : Int)) else if frontL ks top c (i + 1) then refRun ks top c r (i + 1) else (9, (i : Int)) := rfl
    rw [e0]
    by_cases hb : o.1 < 1 ∨ 3 < o.1 ∨ (1 < o.1 ∧ kindL ks o.2 = 0)
    · rw [if_pos hb, doneL_bad ks _ (by unfold Kn; simp) o hb]; rfl
    · rw [if_neg hb]
      have hok : okO ks o := ⟨by omega, fun h1 => by omega⟩
      have htk : c.take (i + 1) = pre ++ [o] := by
        rw [hc, List.take_append, List.take_of_length_le (by omega), show i + 1 - pre.length = 1 by omega]; rfl
      have hok2 : ∀ p ∈ pre ++ [o], okO ks p := fun p hp2 => by
        rcases List.mem_append.1 hp2 with h | h
        · exact hp p h
        · obtain rfl := List.mem_singleton.1 h; exact hok
      have hfr := frontL_iff hkt c (i + 1) (by rw [hc]; simp; omega) (by rw [htk]; exact hok2)
      rw [htk] at hfr
      have hown : o.1 ≠ 1 → kindL ks o.2 = 1 ∨ kindL ks o.2 = 2 ∨ kindL ks o.2 = 3 := fun h1 => by
        have := kindL_range ks o.2
        have := hok.2 h1
        omega
      rcases inv.step o.1 (kindL ks o.2) hok.1 hown with ⟨hd, hno⟩ | ⟨S', a', b', c', hd, hin⟩
      · have hf : frontL ks top c (i + 1) = false := by
          cases hff : frontL ks top c (i + 1) with
          | false => rfl
          | true =>
            obtain ⟨v0, h0, hs⟩ := hfr.1 hff
            obtain ⟨v, hv⟩ := Option.isSome_iff_exists.1 hs
            have : Ri ks (kindL ks top) (pre ++ [o]) v := ⟨v0, h0, hv⟩
            rw [Ri_snoc] at this
            exact absurd this (hno v)
        rw [hf, hd]; rfl
      · rw [← Ri_snoc] at hin
        have hf : frontL ks top c (i + 1) = true := by
          obtain ⟨v, v0, h0, hv⟩ := hin.ex
          exact hfr.2 ⟨v0, h0, by rw [hv]; rfl⟩
        rw [hf, if_pos rfl, hd, if_pos rfl]
        exact run_same ks top hkt c r (pre ++ [o]) (i + 1) S' a' b' c' (by rw [hc]; simp) (by simp [hi]) hok2 hin
theorem Ri_nil (ks : List Int) (kt : Int) : Ri ks kt [] = R0 kt := by
  funext v
  apply propext
  constructor
  · rintro ⟨v0, h0, e⟩; obtain rfl := Option.some.inj e; exact h0
  · intro h; exact ⟨v, h, rfl⟩
/-- The two Checks say the same. -/
theorem check_same (ks : List Int) (top : Int) (c : List (Int × Int)) : refCheckL ks top c = errN (checkL ks top c) := by
  unfold refCheckL checkL
  by_cases h0 : kindL ks top = 0
  · rw [if_pos h0, if_pos h0]; rfl
  · rw [if_neg h0, if_neg h0]
    by_cases h8 : 8 < c.length
    · rw [if_pos h8, if_pos h8]; rfl
    · rw [if_neg h8, if_neg h8]
      have hr : kindL ks top = 1 ∨ kindL ks top = 2 ∨ kindL ks top = 3 := by have := kindL_range ks top; omega
      rw [← kn0 hr]
      refine run_same ks top h0 c c [] 0 [] _ _ _ rfl rfl (fun o h => by cases h) ?_
      rw [Ri_nil]
      exact kinv0 hr
end Go.Proofs.YtdhcnmljkmodhaaDoor

/- OpsKeep: the walk: it answers true at every input. -/
namespace Go.Proofs.YtdhcnmljkmodhaaDoor.opsKeep
set_option linter.unusedSectionVars false
set_option linter.unusedVariables false
set_option linter.unusedSimpArgs false
set_option maxRecDepth 20000
open Go.RowKit
set_option maxHeartbeats 4000000 in
theorem walk (w : World) (vk vh vc : Value) (ks h : List Int) (c : List (Int × Int)) (Hk : ReadsI w vk ks) (Hh : ReadsI w vh h) (Hc : RdO w vc c) (hT : TabOk w) (hE : ErrT w) :
    Calls Tryd.prog 5 #[vk, vh, vc] w fun e w' => e = .returned (.bool true) ∧ Keeps w w' (fun _ => False) := by
  obtain ⟨ah, caph, rfl, hch, hmh⟩ := Hh.form
  obtain ⟨ac, capc, rfl, _, _⟩ := Hc.form
  have GT := Lib.hid hT
  have GE := Lib.hid hE
  have GK := Lib.hid Hk
  have GH := Lib.hid Hh
  have GC := Lib.hid Hc
  clear Hk Hh Hc hch hmh hT hE
  go_enter Tryd.func5, Tryd.ntmps5
  go_wp2_with fail
  refine (awake10 _ GT.out GE.out).mono ?_
  rintro e w1 ⟨rfl, k1⟩
  have K1 := Lib.hid k1
  clear k1
  go_wp2_with fail
  refine (light_any _ _ _ _ ks h c (GK.out.keeps K1.out) (GH.out.keeps K1.out) (GC.out.keeps K1.out)).mono ?_
  rintro e w2 ⟨rfl, rfl⟩
  cases hb : lightL ks h c with
  | false =>
    go_wp2_with fail
    go_ret
    exact ⟨rfl, K1.out⟩
  | true =>
    have HB := Lib.hid ((lightL_iff ks h c).1 hb)
    clear hb
    by_cases h8 : 8 < c.length
    · have b8 : (8 : Int) < (c.length : Int) := by omega
      clear h8
      go_wp2_with fail
      go_ret
      exact ⟨rfl, K1.out⟩
    · have b8 : ¬ (8 : Int) < (c.length : Int) := by omega
      have H8 : Hid (c.length ≤ 8) := Lib.hid (by omega)
      clear h8
      by_cases h0 : h = []
      · subst h0
        go_wp2_with fail
        go_ret
        exact ⟨rfl, K1.out⟩
      · obtain ⟨a, t, rfl⟩ := List.exists_cons_of_ne_nil h0
        have bz : ((t.length : Int) + 1 == 0) = false := beq_eq_false_iff_ne.2 (by omega)
        have bz2 : ¬ ((t.length : Int) + 1 = 0) := by omega
        clear h0
        go_wp2_with fail
        refine (do_any _ _ _ _ ks (a :: t) c (by have := HB.out; omega) (GK.out.keeps K1.out) (GH.out.keeps K1.out) (GC.out.keeps K1.out)).mono ?_
        rintro e w3 ⟨v7, rfl, hk, hr⟩
        have K3 := Lib.hid (K1.out.trans hk)
        have R7 := Lib.hid hr
        clear hk hr
        cases hd : doL ks (a :: t) c with
        | none =>
          rw [hd] at R7
          obtain ⟨q, cp, hq, _, _⟩ := ReadsI.form (l := []) R7.out
          subst hq
          clear hd R7
          go_wp2_with fail
          go_ret
          exact ⟨rfl, K3.out⟩
        | some x =>
          rw [hd] at R7
          have R71 : Hid (ReadsI w3 v7 x) := R7
          have HD := Lib.hid hd
          have HV := Lib.hid (do_valid hd)
          have HG := Lib.hid (do_grows hd)
          clear hd R7
          go_wp2_with fail
          refine (valid_any _ _ _ ks (a :: t) (GK.out.keeps K3.out) (GH.out.keeps K3.out)).mono ?_
          rintro e w4 ⟨rfl, hk⟩
          have K4 := Lib.hid (K3.out.trans hk)
          rw [HV.out.1]
          have R72 := Lib.hid (R71.out.keeps hk)
          clear hk R71
          go_wp2_with fail
          refine (valid_any _ _ _ ks x (GK.out.keeps K4.out) R72.out).mono ?_
          rintro e w5 ⟨rfl, hk⟩
          have K5 := Lib.hid (K4.out.trans hk)
          rw [HV.out.2]
          have R73 := Lib.hid (R72.out.keeps hk)
          clear hk R72
          obtain ⟨q, cp, hq, _, _⟩ := R73.out.form
          subst hq
          clear R73
          go_wp2_with fail
          refine (grows_any _ _ c (by have := HB.out; omega) (GC.out.keeps K5.out)).mono ?_
          rintro e w6 ⟨rfl, hk⟩
          have K6 := Lib.hid (K5.out.trans hk)
          clear hk 
          have h1 := cntL_le 3 c
          have h2 := cntL_le 1 c
          have hB := HB.out
          have hG := HG.out
          simp only [List.length_cons] at hB hG
          have hw := IntWalk.wrap64_in ((t.length : Int) + 1 + ((cntL 3 c : Int) - (cntL 1 c : Int))) (by omega)
          have heq : ((x.length : Int) == (t.length : Int) + 1 + ((cntL 3 c : Int) - (cntL 1 c : Int))) = true := by rw [beq_iff_eq]; omega
          obtain ⟨g, off, e1, hg, hc⟩ := (GH.out.keeps K6.out).cell 0 (by simp)
          subst e1
          have hc0 : w6.cell? ⟨g, off, none⟩ = some (.int .i64 a) := hc 0 (by simp)
          have hbb : (0 : Int) < ((t.length : Int) + 1) := by omega
          clear h1 h2 hB hG hc
          go_wp2_with fail
          refine (check_any _ _ _ ks a c (by have := HB.out; omega) (GK.out.keeps K6.out) (GC.out.keeps K6.out) (GT.out.keeps K6.out)).mono ?_
          rintro e w7 ⟨u, rfl, hk, hv⟩
          have K7 := Lib.hid (K6.out.trans hk)
          rw [keep_check H8.out HD.out] at hv
          have hv : u = .nilIface := hv
          subst hv
          clear hk 
          go_wp2_with fail
          go_ret
          exact ⟨rfl, K7.out⟩
end Go.Proofs.YtdhcnmljkmodhaaDoor.opsKeep
