/- The law of XRegionF for a region whose last operation waits for all the others (a store of the result): the others are walked once for all orders, then the last. -/
import Derived.Test.YtdhcnmljkmodhaaDoorRegionK
import Derived.StillTail
namespace Go.Proofs.YtdhcnmljkmodhaaDoor
set_option linter.unusedSectionVars false
set_option linter.unusedVariables false
set_option linter.unusedSimpArgs false
open Go Go.RowKit

section
variable {P : Program} {ops : Array Oper} {Ev : World → World → Prop} {C : World → Prop} {F : Tmp → Value → World → Prop} {S : List Tmp}

/-- Those of the first n that have not come up yet. -/
def openN (ops : Array Oper) (n : Nat) (listed : Array Bool) : List Oper := ((List.range n).filter fun k => !listed.getD k true).filterMap (ops[·]?)
theorem openN_split {listed : Array Bool} {i n : Nat} {oi : Oper} (hlt : i < n) (hi : ops[i]? = some oi) (hl : listed.getD i true = false) :
    ∃ l1 l2, openN ops n listed = l1 ++ oi :: l2 ∧ openN ops n (listed.setIfInBounds i true) = l1 ++ l2 ∧ ∀ o ∈ l1, ∃ j, j < i ∧ ops[j]? = some o ∧ listed.getD j true = false := by
  have hset : (listed.setIfInBounds i true).getD i true = true := by
    rcases Nat.lt_or_ge i listed.size with h | h
    · simp [h]
    · simp [Array.getElem?_eq_none (by simpa using h)]
  have hoth : ∀ k, k ≠ i → (listed.setIfInBounds i true).getD k true = listed.getD k true := fun k hk => getD_set_ne true (Ne.symm hk)
  refine ⟨((List.range i).filter fun k => !listed.getD k true).filterMap (ops[·]?), ((List.range' (i + 1) (n - i - 1)).filter fun k => !listed.getD k true).filterMap (ops[·]?), ?_, ?_, ?_⟩
  · unfold openN
    rw [range_split _ _ hlt, List.filter_append, List.filter_cons_of_pos (by simp only [hl]; rfl), List.filterMap_append, List.filterMap_cons_some hi]
  · unfold openN
    rw [range_split _ _ hlt, List.filter_append, List.filter_cons_of_neg (by simp only [hset]; decide), List.filterMap_append]
    congr 2
    · exact List.filter_congr fun k hk => by rw [hoth k (by have := List.mem_range.1 hk; omega)]
    · exact List.filter_congr fun k hk => by rw [hoth k (by have := List.mem_range'_1.1 hk; omega)]
  · intro o ho
    obtain ⟨j, hj, hjo⟩ := List.mem_filterMap.1 ho
    rw [List.mem_filter, List.mem_range] at hj
    exact ⟨j, hj.1, hjo, by simpa using hj.2⟩
/-- The lowest of the first n that has not come up, if there is one. -/
theorem openN_head {listed : Array Bool} {n : Nat} (h : openN ops n listed ≠ []) : ∃ k o, k < n ∧ ops[k]? = some o ∧ listed.getD k true = false ∧ ∀ j, j < k → listed.getD j true = true := by
  have hex : ∃ k, k < n ∧ k < ops.size ∧ listed.getD k true = false := by
    obtain ⟨o, ho⟩ := List.exists_mem_of_ne_nil _ h
    obtain ⟨k, hk, hk2⟩ := List.mem_filterMap.1 ho
    rw [List.mem_filter, List.mem_range] at hk
    exact ⟨k, hk.1, (Array.getElem?_eq_some_iff.1 hk2).1, by simpa using hk.2⟩
  obtain ⟨k, hk⟩ : ∃ k, (k < n ∧ k < ops.size ∧ listed.getD k true = false) ∧ ∀ j, j < k → ¬ (j < n ∧ j < ops.size ∧ listed.getD j true = false) := by
    obtain ⟨k, hk⟩ := hex
    induction k using Nat.strongRecOn with
    | _ k ih =>
      by_cases hm : ∃ m, m < k ∧ m < n ∧ m < ops.size ∧ listed.getD m true = false
      · obtain ⟨m, h1, h2⟩ := hm
        exact ih m h1 h2
      · exact ⟨k, hk, fun j hj hh => hm ⟨j, hj, hh⟩⟩
  refine ⟨k, ops[k]'hk.1.2.1, hk.1.1, Array.getElem?_eq_getElem _, hk.1.2.2, fun j hj => ?_⟩
  have := hk.2 j hj
  cases hx : listed.getD j true with
  | true => rfl
  | false => exact absurd ⟨by omega, by omega, hx⟩ this
theorem openN_nil {listed : Array Bool} {n : Nat} (hn : n ≤ ops.size) (h : openN ops n listed = []) : ∀ j, j < n → listed.getD j true = true := fun j hj => by
  cases hx : listed.getD j true with
  | true => rfl
  | false =>
    obtain ⟨l1, l2, e, _⟩ := openN_split (ops := ops) (n := n) hj (Array.getElem?_eq_getElem (by omega)) hx
    rw [h] at e
    simp at e

/-- What is asked of such a region, by looking. -/
def okT (ops : Array Oper) (n : Nat) : Bool := decide (n + 1 = ops.size) && Region.sinkB .any ops n && Region.noSelect ops && (List.range (n + 1)).all fun i => match ops[i]? with
  | none => true
  | some o => o.after.all (fun e => !Region.binds .any e || decide (e.on < i)) && (decide (i = n) || (List.range i).all fun j => match ops[j]? with
    | none => true
    | some p => o.after.any (fun e => Region.binds .any e && e.on == j) || p.apart ops o)
theorem okT_spec {n : Nat} (h : okT ops n = true) : n + 1 = ops.size ∧ Region.sinkB .any ops n = true ∧ Region.noSelect ops = true ∧
    (∀ i o, ops[i]? = some o → (∀ e ∈ o.after, Region.binds .any e = true → e.on < i) ∧ (i < n → ∀ j p, j < i → ops[j]? = some p → (∀ e ∈ o.after, Region.binds .any e = true → e.on ≠ j) → p.apart ops o = true)) := by
  unfold okT at h
  rw [Bool.and_eq_true, Bool.and_eq_true, Bool.and_eq_true, decide_eq_true_eq] at h
  obtain ⟨⟨⟨h1, h2⟩, h3⟩, h4⟩ := h
  refine ⟨h1, h2, h3, fun i o ho => ?_⟩
  have hi : i < ops.size := (Array.getElem?_eq_some_iff.1 ho).1
  have h5 := List.all_eq_true.1 h4 i (List.mem_range.2 (by omega))
  rw [ho] at h5
  simp only [Bool.and_eq_true, Bool.or_eq_true, decide_eq_true_eq] at h5
  refine ⟨fun e he hb => ?_, fun hin j p hj hp hno => ?_⟩
  · have := Array.all_eq_true_iff_forall_mem.1 h5.1 e he
    simpa [hb] using this
  · have h6 := h5.2.resolve_left (by omega)
    have := List.all_eq_true.1 h6 j (List.mem_range.2 hj)
    rw [hp] at this
    simp only [Bool.or_eq_true] at this
    rcases this with h | h
    · obtain ⟨e, he, hb⟩ := Array.any_eq_true'.1 h
      rw [Bool.and_eq_true, beq_iff_eq] at hb
      exact absurd hb.2 (hno e he hb.1)
    · exact h

theorem wpAny_of_FT (hEv : ∀ w w', C w → Ev w w' → C w') (hF : ∀ d v w w', F d v w → Ev w w' → F d v w') {n : Nat} (hB : okT ops n = true) {Q' : Exit → Act → World → Prop} :
    ∀ (fuel : Nat) (listed : Array Bool) (a : Act) (w : World) (D : List (Tmp × Value)), HeadInv .any ops n listed → (openN ops n listed).length = fuel → C w → Facts F D w →
      wpF P ops Ev C F S (fun a w => wpOp P ops Q' n (fun a w => Q' .normal a w) a w) (openN ops n listed) D a → wpAny P .any ops Q' (fuel + 1) listed a w := by
  obtain ⟨hn, hsink, hnos, hsp⟩ := okT_spec hB
  have hsel : ∀ (j : Nat) (o : Oper) cs b, ops[j]? = some o → o.op ≠ .select cs b := Region.noSelect_spec hnos
  have hchain : Region.chainB .any ops n = true := by
    unfold Region.chainB
    refine List.all_eq_true.2 fun t ht => ?_
    have := List.mem_range.1 ht
    simp only [Bool.or_eq_true, decide_eq_true_eq]
    exact .inl (by omega)
  have both : ∀ (listed : Array Bool) (k : Nat), k < listed.size → listed.getD k true = true → listed.getD k false = true := fun listed k hk h => by
    simp only [Array.getD_eq_getD_getElem?, Array.getElem?_eq_getElem hk, Option.getD_some] at h ⊢
    exact h
  intro fuel
  induction fuel with
  | zero =>
    intro listed a w D inv hl hC hD h
    have h0 : openN ops n listed = [] := List.eq_nil_of_length_eq_zero hl
    rw [h0] at h
    have hall := openN_nil (by omega) h0
    obtain ⟨o, ho⟩ : ∃ o, ops[n]? = some o := ⟨_, Array.getElem?_eq_getElem (by omega)⟩
    have hmem : n ∈ Region.ready .any ops listed := mem_ready.2 ⟨inv.tail n (Nat.le_refl _) (by omega), o, ho, fun e he hb => by
      have hlt := (hsp n o ho).1 e he hb
      exact both _ _ (by rw [inv.size]; omega) (hall _ hlt)⟩
    refine ⟨fun hr => (by rw [hr] at hmem; cases hmem), fun i hi => ?_⟩
    have hin : i = n := by
      obtain ⟨hi0, oi, hoi, _⟩ := mem_ready.1 hi
      have hlt : i < ops.size := (Array.getElem?_eq_some_iff.1 hoi).1
      rcases Nat.lt_or_ge i n with h' | h'
      · rw [hall i h'] at hi0; cases hi0
      · omega
    subst hin
    refine wpOp_mono (fun a' w' hq => ⟨?_, hq⟩) (h w hC hD)
    cases hr : Region.ready .any ops (listed.setIfInBounds i true) with
    | nil => rfl
    | cons k r =>
      exfalso
      obtain ⟨hk0, ok, hok, _⟩ := mem_ready.1 (hr ▸ List.mem_cons_self : k ∈ Region.ready .any ops (listed.setIfInBounds i true))
      have hlt : k < ops.size := (Array.getElem?_eq_some_iff.1 hok).1
      by_cases hki : k = i
      · subst hki
        have hset : (listed.setIfInBounds k true).getD k true = true := by
          rcases Nat.lt_or_ge k listed.size with h | h
          · simp [h]
          · simp [Array.getElem?_eq_none (by simpa using h)]
        rw [hset] at hk0; cases hk0
      · rw [getD_set_ne true (Ne.symm hki), hall k (by omega)] at hk0; cases hk0
  | succ fuel ih =>
    intro listed a w D inv hl hC hD h
    have hne : openN ops n listed ≠ [] := by intro e; rw [e] at hl; cases hl
    obtain ⟨k0, ok0, hk0n, hok0, hk0, hlow⟩ := openN_head hne
    refine ⟨fun hr => ?_, fun i hi => ?_⟩
    · have hmem : k0 ∈ Region.ready .any ops listed := mem_ready.2 ⟨hk0, ok0, hok0, fun e he hb => by
        have hlt := (hsp k0 ok0 hok0).1 e he hb
        exact both _ _ (by rw [inv.size]; omega) (hlow _ hlt)⟩
      rw [hr] at hmem
      cases hmem
    · have hin : i < n := by
        rcases Nat.lt_or_ge i n with h' | h'
        · exact h'
        · exact absurd hi (tail_waits hsink hchain (by omega) inv _ k0 rfl hk0n hk0 i h')
      obtain ⟨hi0, oi, hoi, hall⟩ := mem_ready.1 hi
      obtain ⟨l1, l2, e1, e2, hl1⟩ := openN_split hin hoi hi0
      rw [e1] at h hl
      have hf := front_of hEv hF oi (fun cs b => hsel i oi cs b hoi) l2 l1 D a w w (fun o ho => by
        obtain ⟨j, hj, hjo, hju⟩ := hl1 o ho
        refine ⟨(hsp i oi hoi).2 hin j o hj hjo (fun e he hb heq => ?_), fun cs b => hsel j o cs b hjo⟩
        have := hall e he hb
        rw [heq] at this
        rcases Nat.lt_or_ge j listed.size with h' | h'
        · simp [h'] at hju this; rw [hju] at this; cases this
        · simp [Array.getElem?_eq_none h'] at this) hC hD.for hC hD h
      have hlen : (openN ops n (listed.setIfInBounds i true)).length = fuel := by rw [e2]; simp at hl ⊢; omega
      have inv' := inv.set hi hin
      unfold wpOp
      rw [hoi]
      unfold front at hf
      simp only
      split
      · rename_i hw
        rw [if_pos hw] at hf
        refine .inl ?_
        unfold Oper.wp
        cases hS : inS S oi with
        | none =>
          rw [hS] at hf
          obtain ⟨v, h1, h2⟩ := hf
          generalize (execOp a.eval oi).run P w = r at *
          cases r with
          | ok n w' =>
            cases n <;> simp only [plainUpon] at h1 <;> simp only [Oper.upon] <;> first | (exact h1.elim) | skip
            · obtain ⟨rfl, rfl⟩ := h1
              exact ih _ _ _ D inv' hlen hC hD (by rw [e2]; exact h2)
            · obtain ⟨rfl, rfl⟩ := h1
              exact ih _ _ _ D inv' hlen hC hD (by rw [e2]; exact h2)
          | halt x w' => simp only [plainUpon] at h1
        | some d =>
          rw [hS] at hf
          obtain ⟨h1, h2⟩ := hf
          have go : ∀ v w', Ev w w' ∧ F d v w' → wpAny P .any ops Q' (fuel + 1) (listed.setIfInBounds i true) (a.put oi.dst v) w' := fun v w' ⟨he, hv⟩ => by
            have hD' : Facts F ((d, v) :: D) w' := fun p hp => by
              rcases List.mem_cons.1 hp with rfl | hp
              · exact hv
              · exact hF _ _ _ _ (hD p hp) he
            exact ih _ _ _ ((d, v) :: D) inv' hlen (hEv _ _ hC he) hD' (by rw [e2]; exact h2 v ⟨w', hEv _ _ hC he, hD'⟩)
          generalize (execOp a.eval oi).run P w = r at *
          cases r with
          | ok n w' =>
            cases n <;> simp only [opGives] at h1 <;> simp only [Oper.upon] <;> first | (exact h1.elim) | skip
            · exact go _ _ h1
            · refine Calls.mono h1 ?_
              rintro e w'' ⟨v, rfl, hR⟩
              exact go _ _ hR
          | halt x w' => simp only [opGives] at h1
      · rename_i hw
        rw [if_neg hw] at hf
        exact ih _ _ _ D inv' hlen hC hD (by rw [e2]; exact hf)

theorem wpF_post {Q Q2 : Act → World → Prop} : ∀ {l : List Oper} {D : List (Tmp × Value)} {a : Act}, wpF P ops Ev C F S Q l D a → (∀ a w, Q a w → Q2 a w) → wpF P ops Ev C F S Q2 l D a
  | [], D, a, h, hq => fun w hw hf => hq _ _ (h w hw hf)
  | o :: l, D, a, h, hq => by
    unfold wpF opF at *
    split
    · rename_i hw
      rw [if_pos hw] at h
      split
      · rename_i hS
        rw [hS] at h
        intro h0
        obtain ⟨v, h1, h2⟩ := h h0
        exact ⟨v, h1, wpF_post h2 hq⟩
      · rename_i d hS
        rw [hS] at h
        exact ⟨h.1, fun v hv => wpF_post (h.2 v hv) hq⟩
    · rename_i hw
      rw [if_neg hw] at h
      exact wpF_post h hq
theorem list_range_take {α : Type} (l : List α) : ∀ n, n ≤ l.length → (List.range n).filterMap (fun k => l[k]?) = l.take n := by
  intro n
  induction n with
  | zero => intro _; rfl
  | succ n ih =>
    intro h
    rw [List.range_succ, List.filterMap_append, ih (by omega), List.take_succ_eq_append_getElem (by omega)]
    congr 1
    rw [List.filterMap_cons_some (List.getElem?_eq_getElem (by omega))]
    rfl
/-- THE LAW. -/
theorem wp_region_KT {id : Nat} {Q : Exit → Act → World → Prop} {a : Act} {w : World} {l : List Oper} (n : Nat) (L : List (Tmp × (Value → World → Prop))) (hL : ∀ p ∈ L, Stays p.2) (hm : P.follows .mixedOrders = true) (hB : okT l.toArray n = true)
    (h : wpF P l.toArray KeepsN (KeepsN w) (FL L) (L.map (·.1)) (fun a' w' => wpList P l.toArray Q (l.drop n) a' w') (l.take n) [] a) : (Code.region id l.toArray true).wp P Q a w := by
  obtain ⟨hn, _⟩ := okT_spec hB
  have hn' : n + 1 = l.length := by simpa using hn
  have hop : openN l.toArray n (Array.replicate l.toArray.size false) = l.take n := by
    unfold openN
    rw [List.filter_eq_self.2 (fun k hk => by
      have : k < n := List.mem_range.1 hk
      have h2 : k < l.length := by omega
      simp [h2])]
    have := list_range_take l n (by omega)
    simpa using this
  have inv0 : HeadInv .any l.toArray n (Array.replicate l.toArray.size false) :=
    ⟨by simp, fun j oj _ hl => (by rw [getD_replicate_false] at hl; cases hl), fun t _ ht => getD_in (by simpa using ht) (getD_replicate_false _ _)⟩
  have hdrop : l.drop n = [l[n]'(by omega)] := by
    rw [List.drop_eq_getElem_cons (by omega), List.drop_eq_nil_of_le (by omega)]
  have hq : ∀ a' w', wpList P l.toArray Q (l.drop n) a' w' → wpOp P l.toArray Q n (fun a w => Q .normal a w) a' w' := fun a' w' h' => by
    rw [hdrop] at h'
    unfold wpOp
    simp only [List.getElem?_toArray, List.getElem?_eq_getElem (show n < l.length by omega)]
    exact h'
  refine wp_region_any hm ?_
  have hlen : l.toArray.size = (openN l.toArray n (Array.replicate l.toArray.size false)).length + 1 := by rw [hop]; simp; omega
  have := wpAny_of_FT (P := P) (Ev := KeepsN) (C := KeepsN w) (F := FL L) (S := L.map (·.1)) (fun a b h k => Keeps.trans h k) (FL_closed hL) hB (Q' := Q) _ _ a { w with drawn := w.drawn + 1 } [] inv0 rfl (Keeps.drew (Keeps.refl w _)) (fun p hp => by cases hp) (by
    rw [hop]
    exact wpF_post h hq)
  rw [← hlen] at this
  exact this
end
end Go.Proofs.YtdhcnmljkmodhaaDoor
