/- Merged for the claim, in build order: RegionK, RegionT, Ops12, Oops1, Oops2. -/
import Derived.Test.YtdhcnmljkmodhaaDoorOpsCheckM7
import Derived.Test.YtdhcnmljkmodhaaDoorOpsCheckM1
import Derived.StillTail
import Derived.Deep.DeepCutAuto
import Derived.Test.YtdhcnmljkmodhaaDoorRows
import Derived.LaidEql
import Derived.Stop.Asserts
import Derived.RowKitTokens
import Derived.Deep.LoopGhost
/- The law of XRegionF at the class 'what was there is as it was' (Keeps), the facts as a list of slots. -/
namespace Go.Proofs.YtdhcnmljkmodhaaDoor
set_option linter.unusedSectionVars false
set_option linter.unusedVariables false
set_option linter.unusedSimpArgs false
open Go Go.RowKit

def FL (L : List (Tmp × (Value → World → Prop))) (d : Tmp) (v : Value) (w : World) : Prop := match L.lookup d with
  | some R => R v w
  | none => True
def KeepsN (w w' : World) : Prop := Keeps w w' (fun _ => False)
/-- What is said stays so. -/
def Stays (R : Value → World → Prop) : Prop := ∀ v w w', R v w → Keeps w w' (fun _ => False) → R v w'
theorem Stays.pure (p : Value → Prop) : Stays (fun v _ => p v) := fun v w w' h _ => h
theorem lookup_mem {α : Type} {L : List (Tmp × α)} {d : Tmp} {R : α} (h : L.lookup d = some R) : ∃ p ∈ L, p.2 = R := by
  induction L with
  | nil => cases h
  | cons x r ih =>
    obtain ⟨k, u⟩ := x
    rw [List.lookup_cons] at h
    cases hk : (d == k) with
    | true => rw [hk] at h; simp at h; exact ⟨_, List.mem_cons_self, h⟩
    | false => rw [hk] at h; obtain ⟨p, hp, e⟩ := ih h; exact ⟨p, List.mem_cons_of_mem _ hp, e⟩
theorem FL_closed {L : List (Tmp × (Value → World → Prop))} (hL : ∀ p ∈ L, Stays p.2) : ∀ d v w w', FL L d v w → KeepsN w w' → FL L d v w' := fun d v w w' h hk => by
  unfold FL at *
  cases hl : L.lookup d with
  | none => trivial
  | some R =>
    rw [hl] at h
    obtain ⟨p, hp, rfl⟩ := lookup_mem hl
    exact hL p hp v w w' h hk
section
variable {P : Program}
theorem wp_region_K {id : Nat} {Q : Exit → Act → World → Prop} {a : Act} {w : World} {l : List Oper} (L : List (Tmp × (Value → World → Prop))) (hL : ∀ p ∈ L, Stays p.2) (hm : P.follows .mixedOrders = true) (hB : okF l.toArray = true)
    (h : wpF P l.toArray KeepsN (KeepsN w) (FL L) (L.map (·.1)) (fun a' w' => Q .normal a' w') l [] a) : (Code.region id l.toArray true).wp P Q a w :=
  wp_region_F_lit KeepsN (KeepsN w) (FL L) (L.map (·.1)) (fun a b h k => Keeps.trans h k) (FL_closed hL) hm hB (Keeps.drew (Keeps.refl w _)) h
/-- The post behind a variable. -/
theorem gives_hide {R0 : Value → World → Prop} {r : Result Next} (h : ∀ R : Value → World → Prop, (∀ v w', R0 v w' → R v w') → opGives P R r) : opGives P R0 r := h R0 (fun _ _ h => h)
theorem gives_call {R : Value → World → Prop} {f : FuncId} {args : Array Value} {w : World} {r : Result Next} (hr : r = .ok (.enter f args) w) (h : Calls P f args w (fun e w'' => ∃ v, e = .returned v ∧ R v w'')) : opGives P R r := by
  rw [hr]; exact h
theorem AtF.cell {ops : Array Oper} {W : World} {F : Tmp → Value → World → Prop} {o : Oper} {D : List (Tmp × Value)} {a : Addr} {v : Value} (h : W.cell? a = some v) (x : AtF (KeepsN W) F ops o D) : x.w.cell? a = some v := by
  rw [← h]; exact World.cell?_of_block (Keeps.block x.2.1 _ (World.block_lt_of_cell? W _ h) id)
end
end Go.Proofs.YtdhcnmljkmodhaaDoor

/- The law of XRegionF for a region whose last operation waits for all the others (a store of the result): the others are walked once for all orders, then the last. -/
namespace Go.Proofs.YtdhcnmljkmodhaaDoor
set_option linter.unusedSectionVars false
set_option linter.unusedVariables false
set_option linter.unusedSimpArgs false
open Go Go.RowKit

section
variable {P : Program} {ops : Array Oper} {Ev : World → World → Prop} {C : World → Prop} {F : Tmp → Value → World → Prop} {S : List Tmp}

/-- Those of the first n that have not come up yet. -/
def openN (ops : Array Oper) (n : Nat) (listed : Array Bool) : List Oper := ((List.range n).filter fun k => !listed.getD k true).filterMap (ops[·]?)
theorem openN_split {listed : Array Bool} {i n : Nat} {oi : Oper} (hlt : i < n) (hi : ops[i]? = some oi) (hl : listed.getD i true = false) :
    ∃ l1 l2, openN ops n listed = l1 ++ oi :: l2 ∧ openN ops n (listed.setIfInBounds i true) = l1 ++ l2 ∧ ∀ o ∈ l1, ∃ j, j < i ∧ ops[j]? = some o ∧ listed.getD j true = false := by
  have hset : (listed.setIfInBounds i true).getD i true = true := by
    rcases Nat.lt_or_ge i listed.size with h | h
    · simp [h]
    · simp [Array.getElem?_eq_none (by simpa using h)]
  have hoth : ∀ k, k ≠ i → (listed.setIfInBounds i true).getD k true = listed.getD k true := fun k hk => getD_set_ne true (Ne.symm hk)
  refine ⟨((List.range i).filter fun k => !listed.getD k true).filterMap (ops[·]?), ((List.range' (i + 1) (n - i - 1)).filter fun k => !listed.getD k true).filterMap (ops[·]?), ?_, ?_, ?_⟩
  · unfold openN
    rw [range_split _ _ hlt, List.filter_append, List.filter_cons_of_pos (by simp only [hl]; rfl), List.filterMap_append, List.filterMap_cons_some hi]
  · unfold openN
    rw [range_split _ _ hlt, List.filter_append, List.filter_cons_of_neg (by simp only [hset]; decide), List.filterMap_append]
    congr 2
    · exact List.filter_congr fun k hk => by rw [hoth k (by have := List.mem_range.1 hk; omega)]
    · exact List.filter_congr fun k hk => by rw [hoth k (by have := List.mem_range'_1.1 hk; omega)]
  · intro o ho
    obtain ⟨j, hj, hjo⟩ := List.mem_filterMap.1 ho
    rw [List.mem_filter, List.mem_range] at hj
    exact ⟨j, hj.1, hjo, by simpa using hj.2⟩
/-- The lowest of the first n that has not come up, if there is one. -/
theorem openN_head {listed : Array Bool} {n : Nat} (h : openN ops n listed ≠ []) : ∃ k o, k < n ∧ ops[k]? = some o ∧ listed.getD k true = false ∧ ∀ j, j < k → listed.getD j true = true := by
  have hex : ∃ k, k < n ∧ k < ops.size ∧ listed.getD k true = false := by
    obtain ⟨o, ho⟩ := List.exists_mem_of_ne_nil _ h
    obtain ⟨k, hk, hk2⟩ := List.mem_filterMap.1 ho
    rw [List.mem_filter, List.mem_range] at hk
    exact ⟨k, hk.1, (Array.getElem?_eq_some_iff.1 hk2).1, by simpa using hk.2⟩
  obtain ⟨k, hk⟩ : ∃ k, (k < n ∧ k < ops.size ∧ listed.getD k true = false) ∧ ∀ j, j < k → ¬ (j < n ∧ j < ops.size ∧ listed.getD j true = false) := by
    obtain ⟨k, hk⟩ := hex
    induction k using Nat.strongRecOn with
    | _ k ih =>
      by_cases hm : ∃ m, m < k ∧ m < n ∧ m < ops.size ∧ listed.getD m true = false
      · obtain ⟨m, h1, h2⟩ := hm
        exact ih m h1 h2
      · exact ⟨k, hk, fun j hj hh => hm ⟨j, hj, hh⟩⟩
  refine ⟨k, ops[k]'hk.1.2.1, hk.1.1, Array.getElem?_eq_getElem _, hk.1.2.2, fun j hj => ?_⟩
  have := hk.2 j hj
  cases hx : listed.getD j true with
  | true => rfl
  | false => exact absurd ⟨by omega, by omega, hx⟩ this
theorem openN_nil {listed : Array Bool} {n : Nat} (hn : n ≤ ops.size) (h : openN ops n listed = []) : ∀ j, j < n → listed.getD j true = true := fun j hj => by
  cases hx : listed.getD j true with
  | true => rfl
  | false =>
    obtain ⟨l1, l2, e, _⟩ := openN_split (ops := ops) (n := n) hj (Array.getElem?_eq_getElem (by omega)) hx
    rw [h] at e
    simp at e

/-- What is asked of such a region, by looking. -/
def okT (ops : Array Oper) (n : Nat) : Bool := decide (n + 1 = ops.size) && Region.sinkB .any ops n && Region.noSelect ops && (List.range (n + 1)).all fun i => match ops[i]? with
  | none => true
  | some o => o.after.all (fun e => !Region.binds .any e || decide (e.on < i)) && (decide (i = n) || (List.range i).all fun j => match ops[j]? with
    | none => true
    | some p => o.after.any (fun e => Region.binds .any e && e.on == j) || p.apart ops o)
theorem okT_spec {n : Nat} (h : okT ops n = true) : n + 1 = ops.size ∧ Region.sinkB .any ops n = true ∧ Region.noSelect ops = true ∧
    (∀ i o, ops[i]? = some o → (∀ e ∈ o.after, Region.binds .any e = true → e.on < i) ∧ (i < n → ∀ j p, j < i → ops[j]? = some p → (∀ e ∈ o.after, Region.binds .any e = true → e.on ≠ j) → p.apart ops o = true)) := by
  unfold okT at h
  rw [Bool.and_eq_true, Bool.and_eq_true, Bool.and_eq_true, decide_eq_true_eq] at h
  obtain ⟨⟨⟨h1, h2⟩, h3⟩, h4⟩ := h
  refine ⟨h1, h2, h3, fun i o ho => ?_⟩
  have hi : i < ops.size := (Array.getElem?_eq_some_iff.1 ho).1
  have h5 := List.all_eq_true.1 h4 i (List.mem_range.2 (by omega))
  rw [ho] at h5
  simp only [Bool.and_eq_true, Bool.or_eq_true, decide_eq_true_eq] at h5
  refine ⟨fun e he hb => ?_, fun hin j p hj hp hno => ?_⟩
  · have := Array.all_eq_true_iff_forall_mem.1 h5.1 e he
    simpa [hb] using this
  · have h6 := h5.2.resolve_left (by omega)
    have := List.all_eq_true.1 h6 j (List.mem_range.2 hj)
    rw [hp] at this
    simp only [Bool.or_eq_true] at this
    rcases this with h | h
    · obtain ⟨e, he, hb⟩ := Array.any_eq_true'.1 h
      rw [Bool.and_eq_true, beq_iff_eq] at hb
      exact absurd hb.2 (hno e he hb.1)
    · exact h

theorem wpAny_of_FT (hEv : ∀ w w', C w → Ev w w' → C w') (hF : ∀ d v w w', F d v w → Ev w w' → F d v w') {n : Nat} (hB : okT ops n = true) {Q' : Exit → Act → World → Prop} :
    ∀ (fuel : Nat) (listed : Array Bool) (a : Act) (w : World) (D : List (Tmp × Value)), HeadInv .any ops n listed → (openN ops n listed).length = fuel → C w → Facts F D w →
      wpF P ops Ev C F S (fun a w => wpOp P ops Q' n (fun a w => Q' .normal a w) a w) (openN ops n listed) D a → wpAny P .any ops Q' (fuel + 1) listed a w := by
  obtain ⟨hn, hsink, hnos, hsp⟩ := okT_spec hB
  have hsel : ∀ (j : Nat) (o : Oper) cs b, ops[j]? = some o → o.op ≠ .select cs b := Region.noSelect_spec hnos
  have hchain : Region.chainB .any ops n = true := by
    unfold Region.chainB
    refine List.all_eq_true.2 fun t ht => ?_
    have := List.mem_range.1 ht
    simp only [Bool.or_eq_true, decide_eq_true_eq]
    exact .inl (by omega)
  have both : ∀ (listed : Array Bool) (k : Nat), k < listed.size → listed.getD k true = true → listed.getD k false = true := fun listed k hk h => by
    simp only [Array.getD_eq_getD_getElem?, Array.getElem?_eq_getElem hk, Option.getD_some] at h ⊢
    exact h
  intro fuel
  induction fuel with
  | zero =>
    intro listed a w D inv hl hC hD h
    have h0 : openN ops n listed = [] := List.eq_nil_of_length_eq_zero hl
    rw [h0] at h
    have hall := openN_nil (by omega) h0
    obtain ⟨o, ho⟩ : ∃ o, ops[n]? = some o := ⟨_, Array.getElem?_eq_getElem (by omega)⟩
    have hmem : n ∈ Region.ready .any ops listed := mem_ready.2 ⟨inv.tail n (Nat.le_refl _) (by omega), o, ho, fun e he hb => by
      have hlt := (hsp n o ho).1 e he hb
      exact both _ _ (by rw [inv.size]; omega) (hall _ hlt)⟩
    refine ⟨fun hr => (by rw [hr] at hmem; cases hmem), fun i hi => ?_⟩
    have hin : i = n := by
      obtain ⟨hi0, oi, hoi, _⟩ := mem_ready.1 hi
      have hlt : i < ops.size := (Array.getElem?_eq_some_iff.1 hoi).1
      rcases Nat.lt_or_ge i n with h' | h'
      · rw [hall i h'] at hi0; cases hi0
      · omega
    subst hin
    refine wpOp_mono (fun a' w' hq => ⟨?_, hq⟩) (h w hC hD)
    cases hr : Region.ready .any ops (listed.setIfInBounds i true) with
    | nil => rfl
    | cons k r =>
      exfalso
      obtain ⟨hk0, ok, hok, _⟩ := mem_ready.1 (hr ▸ List.mem_cons_self : k ∈ Region.ready .any ops (listed.setIfInBounds i true))
      have hlt : k < ops.size := (Array.getElem?_eq_some_iff.1 hok).1
      by_cases hki : k = i
      · subst hki
        have hset : (listed.setIfInBounds k true).getD k true = true := by
          rcases Nat.lt_or_ge k listed.size with h | h
          · simp [h]
          · simp [Array.getElem?_eq_none (by simpa using h)]
        rw [hset] at hk0; cases hk0
      · rw [getD_set_ne true (Ne.symm hki), hall k (by omega)] at hk0; cases hk0
  | succ fuel ih =>
    intro listed a w D inv hl hC hD h
    have hne : openN ops n listed ≠ [] := by intro e; rw [e] at hl; cases hl
    obtain ⟨k0, ok0, hk0n, hok0, hk0, hlow⟩ := openN_head hne
    refine ⟨fun hr => ?_, fun i hi => ?_⟩
    · have hmem : k0 ∈ Region.ready .any ops listed := mem_ready.2 ⟨hk0, ok0, hok0, fun e he hb => by
        have hlt := (hsp k0 ok0 hok0).1 e he hb
        exact both _ _ (by rw [inv.size]; omega) (hlow _ hlt)⟩
      rw [hr] at hmem
      cases hmem
    · have hin : i < n := by
        rcases Nat.lt_or_ge i n with h' | h'
        · exact h'
        · exact absurd hi (tail_waits hsink hchain (by omega) inv _ k0 rfl hk0n hk0 i h')
      obtain ⟨hi0, oi, hoi, hall⟩ := mem_ready.1 hi
      obtain ⟨l1, l2, e1, e2, hl1⟩ := openN_split hin hoi hi0
      rw [e1] at h hl
      have hf := front_of hEv hF oi (fun cs b => hsel i oi cs b hoi) l2 l1 D a w w (fun o ho => by
        obtain ⟨j, hj, hjo, hju⟩ := hl1 o ho
        refine ⟨(hsp i oi hoi).2 hin j o hj hjo (fun e he hb heq => ?_), fun cs b => hsel j o cs b hjo⟩
        have := hall e he hb
        rw [heq] at this
        rcases Nat.lt_or_ge j listed.size with h' | h'
        · simp [h'] at hju this; rw [hju] at this; cases this
        · simp [Array.getElem?_eq_none h'] at this) hC hD.for hC hD h
      have hlen : (openN ops n (listed.setIfInBounds i true)).length = fuel := by rw [e2]; simp at hl ⊢; omega
      have inv' := inv.set hi hin
      unfold wpOp
      rw [hoi]
      unfold front at hf
      simp only
      split
      · rename_i hw
        rw [if_pos hw] at hf
        refine .inl ?_
        unfold Oper.wp
        cases hS : inS S oi with
        | none =>
          rw [hS] at hf
          obtain ⟨v, h1, h2⟩ := hf
          generalize (execOp a.eval oi).run P w = r at *
          cases r with
          | ok n w' =>
            cases n <;> simp only [plainUpon] at h1 <;> simp only [Oper.upon] <;> first | (exact h1.elim) | skip
            · obtain ⟨rfl, rfl⟩ := h1
              exact ih _ _ _ D inv' hlen hC hD (by rw [e2]; exact h2)
            · obtain ⟨rfl, rfl⟩ := h1
              exact ih _ _ _ D inv' hlen hC hD (by rw [e2]; exact h2)
          | halt x w' => simp only [plainUpon] at h1
        | some d =>
          rw [hS] at hf
          obtain ⟨h1, h2⟩ := hf
          have go : ∀ v w', Ev w w' ∧ F d v w' → wpAny P .any ops Q' (fuel + 1) (listed.setIfInBounds i true) (a.put oi.dst v) w' := fun v w' ⟨he, hv⟩ => by
            have hD' : Facts F ((d, v) :: D) w' := fun p hp => by
              rcases List.mem_cons.1 hp with rfl | hp
              · exact hv
              · exact hF _ _ _ _ (hD p hp) he
            exact ih _ _ _ ((d, v) :: D) inv' hlen (hEv _ _ hC he) hD' (by rw [e2]; exact h2 v ⟨w', hEv _ _ hC he, hD'⟩)
          generalize (execOp a.eval oi).run P w = r at *
          cases r with
          | ok n w' =>
            cases n <;> simp only [opGives] at h1 <;> simp only [Oper.upon] <;> first | (exact h1.elim) | skip
            · exact go _ _ h1
            · refine Calls.mono h1 ?_
              rintro e w'' ⟨v, rfl, hR⟩
              exact go _ _ hR
          | halt x w' => simp only [opGives] at h1
      · rename_i hw
        rw [if_neg hw] at hf
        exact ih _ _ _ D inv' hlen hC hD (by rw [e2]; exact hf)

theorem wpF_post {Q Q2 : Act → World → Prop} : ∀ {l : List Oper} {D : List (Tmp × Value)} {a : Act}, wpF P ops Ev C F S Q l D a → (∀ a w, Q a w → Q2 a w) → wpF P ops Ev C F S Q2 l D a
  | [], D, a, h, hq => fun w hw hf => hq _ _ (h w hw hf)
  | o :: l, D, a, h, hq => by
    unfold wpF opF at *
    split
    · rename_i hw
      rw [if_pos hw] at h
      split
      · rename_i hS
        rw [hS] at h
        intro h0
        obtain ⟨v, h1, h2⟩ := h h0
        exact ⟨v, h1, wpF_post h2 hq⟩
      · rename_i d hS
        rw [hS] at h
        exact ⟨h.1, fun v hv => wpF_post (h.2 v hv) hq⟩
    · rename_i hw
      rw [if_neg hw] at h
      exact wpF_post h hq
theorem list_range_take {α : Type} (l : List α) : ∀ n, n ≤ l.length → (List.range n).filterMap (fun k => l[k]?) = l.take n := by
  intro n
  induction n with
  | zero => intro _; rfl
  | succ n ih =>
    intro h
    rw [List.range_succ, List.filterMap_append, ih (by omega), List.take_succ_eq_append_getElem (by omega)]
    congr 1
    rw [List.filterMap_cons_some (List.getElem?_eq_getElem (by omega))]
    rfl
/-- THE LAW. -/
theorem wp_region_KT {id : Nat} {Q : Exit → Act → World → Prop} {a : Act} {w : World} {l : List Oper} (n : Nat) (L : List (Tmp × (Value → World → Prop))) (hL : ∀ p ∈ L, Stays p.2) (hm : P.follows .mixedOrders = true) (hB : okT l.toArray n = true)
    (h : wpF P l.toArray KeepsN (KeepsN w) (FL L) (L.map (·.1)) (fun a' w' => wpList P l.toArray Q (l.drop n) a' w') (l.take n) [] a) : (Code.region id l.toArray true).wp P Q a w := by
  obtain ⟨hn, _⟩ := okT_spec hB
  have hn' : n + 1 = l.length := by simpa using hn
  have hop : openN l.toArray n (Array.replicate l.toArray.size false) = l.take n := by
    unfold openN
    rw [List.filter_eq_self.2 (fun k hk => by
      have : k < n := List.mem_range.1 hk
      have h2 : k < l.length := by omega
      simp [h2])]
    have := list_range_take l n (by omega)
    simpa using this
  have inv0 : HeadInv .any l.toArray n (Array.replicate l.toArray.size false) :=
    ⟨by simp, fun j oj _ hl => (by rw [getD_replicate_false] at hl; cases hl), fun t _ ht => getD_in (by simpa using ht) (getD_replicate_false _ _)⟩
  have hdrop : l.drop n = [l[n]'(by omega)] := by
    rw [List.drop_eq_getElem_cons (by omega), List.drop_eq_nil_of_le (by omega)]
  have hq : ∀ a' w', wpList P l.toArray Q (l.drop n) a' w' → wpOp P l.toArray Q n (fun a w => Q .normal a w) a' w' := fun a' w' h' => by
    rw [hdrop] at h'
    unfold wpOp
    simp only [List.getElem?_toArray, List.getElem?_eq_getElem (show n < l.length by omega)]
    exact h'
  refine wp_region_any hm ?_
  have hlen : l.toArray.size = (openN l.toArray n (Array.replicate l.toArray.size false)).length + 1 := by rw [hop]; simp; omega
  have := wpAny_of_FT (P := P) (Ev := KeepsN) (C := KeepsN w) (F := FL L) (S := L.map (·.1)) (fun a b h k => Keeps.trans h k) (FL_closed hL) hB (Q' := Q) _ _ a { w with drawn := w.drawn + 1 } [] inv0 rfl (Keeps.drew (Keeps.refl w _)) (fun p hp => by cases hp) (by
    rw [hop]
    exact wpF_post h hq)
  rw [← hlen] at this
  exact this
end
end Go.Proofs.YtdhcnmljkmodhaaDoor

/- known.done: Swap and Push. (Printed by gen_ops12.py.) -/
namespace Go.Proofs.YtdhcnmljkmodhaaDoor
set_option linter.unusedSectionVars false
set_option linter.unusedVariables false
set_option linter.unusedSimpArgs false
set_option maxRecDepth 20000
open Go.RowKit

/-- A set's own block. -/
def SetAt (w0 : World) (s : BSet) (v : Value) (w : World) : Prop := ∃ p : Nat, v = .pointer (some ⟨p, 0, none⟩) ∧ w0.heap.size ≤ p ∧ w.heap[p]? = some (.cells s.cells 57 (0, 0))
theorem SetAt.stays (w0 : World) (s : BSet) : Stays (SetAt w0 s) := fun v w w' ⟨p, h1, h2, h3⟩ hk => ⟨p, h1, h2, (Keeps.block hk _ (block_lt h3) id).trans h3⟩
/-- Two rows of sets, side by side. -/
def PairK (A B : List BSet) (v : Value) (w : World) : Prop := ∃ g v1 v2, v = .slice (some ⟨g, 0, none⟩) 2 2 ∧ w.cell? ⟨g, 0, none⟩ = some v1 ∧ RdK w v1 A ∧ w.cell? ⟨g, 1, none⟩ = some v2 ∧ RdK w v2 B
theorem PairK.stays (A B : List BSet) : Stays (PairK A B) := fun v w w' ⟨g, v1, v2, h1, h2, h3, h4, h5⟩ hk => ⟨g, v1, v2, h1,
  by rw [← h2]; exact World.cell?_of_block (Keeps.block hk _ (World.block_lt_of_cell? w _ h2) id), h3.keeps hk,
  by rw [← h4]; exact World.cell?_of_block (Keeps.block hk _ (World.block_lt_of_cell? w _ h4) id), h5.keeps hk⟩
theorem PairK.new {A B : List BSet} {x : World} {v1 v2 : Value} (t : TypeId) (h1 : RdK x v1 A) (h2 : RdK x v2 B) : PairK A B (.slice (some ⟨x.heap.size, 0, none⟩) 2 2) (x.alloc (.cells #[v1, v2] t)) := by
  have hb := heap_alloc_new x (.cells #[v1, v2] t)
  have k := (Keeps.refl x (fun _ => False)).alloc (.cells #[v1, v2] t)
  exact ⟨_, v1, v2, rfl, by rw [cell_at hb]; rfl, h1.keeps k, by rw [cell_at hb]; rfl, h2.keeps k⟩
theorem setC_one (l : List BSet) : ∀ u ∈ l.flatMap setC, u.oneCell' = true := fun u hu => by
  obtain ⟨a, _, ha⟩ := List.mem_flatMap.1 hu
  unfold setC at ha
  simp only [List.mem_cons, List.not_mem_nil, or_false] at ha
  rcases ha with rfl | rfl <;> rfl
theorem concatK (w : World) (A B : List BSet) (v : Value) (hl : A.length + B.length ≤ 1000) (H : PairK A B v w) :
    Calls Tryd.prog 46 #[v] w fun e w' => ∃ u, e = .returned u ∧ Keeps w w' (fun _ => False) ∧ RdK w' u (A ++ B) := by
  obtain ⟨g, v1, v2, rfl, h2, h3, h4, h5⟩ := H
  refine (concatKn w A.length B.length _ _ (setC_one A) (setC_one B) hl g v1 v2 h3 h5 h2 h4).mono ?_
  rintro e w' ⟨u, rfl, hk, hr⟩
  refine ⟨u, rfl, hk, ?_⟩
  unfold RdK
  rw [List.length_append, List.flatMap_append]
  exact hr
/-- A row of sets of its own. -/
theorem RdK.lit1 (w : World) (s : BSet) (t : TypeId) : RdK (w.alloc (.cells #[.int .u64 s.lo.toNat, .int .u64 s.hi.toNat] t)) (.slice (some ⟨w.heap.size, 0, none⟩) 1 1) [s] := by
  have hb := heap_alloc_new w (.cells #[.int .u64 s.lo.toNat, .int .u64 s.hi.toNat] t)
  refine ⟨rfl, _, _, rfl, Nat.le_refl _, by unfold maxLen; decide, (fun h => by cases h), fun _ => ⟨_, _, rfl, block_lt hb, fun j u hj => ?_⟩⟩
  rw [Nat.zero_add, cell_at hb, ← Array.getElem?_toList]
  exact hj
theorem RdK.lit2 (w : World) (s s2 : BSet) (t : TypeId) : RdK (w.alloc (.cells #[.int .u64 s.lo.toNat, .int .u64 s.hi.toNat, .int .u64 s2.lo.toNat, .int .u64 s2.hi.toNat] t)) (.slice (some ⟨w.heap.size, 0, none⟩) 2 2) [s, s2] := by
  have hb := heap_alloc_new w (.cells #[.int .u64 s.lo.toNat, .int .u64 s.hi.toNat, .int .u64 s2.lo.toNat, .int .u64 s2.hi.toNat] t)
  refine ⟨rfl, _, _, rfl, Nat.le_refl _, by unfold maxLen; decide, (fun h => by cases h), fun _ => ⟨_, _, rfl, block_lt hb, fun j u hj => ?_⟩⟩
  rw [Nat.zero_add, cell_at hb, ← Array.getElem?_toList]
  exact hj
/-- What is left of it behind the first, where there is nothing. -/
theorem RdK.rest1 {w : World} {a : Option Addr} {s : BSet} {r : List BSet} (h : RdK w (.slice a (s :: r).length 1) (s :: r)) : r = [] := by
  obtain ⟨a', cap, h1, h2, _⟩ := h.form
  simp only [Value.slice.injEq] at h1
  obtain ⟨_, _, rfl⟩ := h1
  simp only [List.length_cons] at h2
  exact List.eq_nil_of_length_eq_zero (by omega)

set_option maxHeartbeats 4000000 in
theorem done_swap (w : World) (v : Value) (s : BSet) (r : List BSet) (own : Int) (ho : ¬ own = 0) (hl : r.length ≤ 100) (H : RdK w v (s :: r)) :
    Calls Tryd.prog 32 #[v, .int .i64 own, .int .i64 2] w (DonePost w (doneL (s :: r) own 2)) := by
  obtain ⟨a, cap, rfl, hcp, hcm⟩ := H.form
  obtain ⟨g, off, rfl, hg, c0, c1⟩ := H.cell
  have GH := Lib.hid H
  have hq : (own == 0) = false := beq_eq_false_iff_ne.2 ho
  have HO := Lib.hid ho
  have C0 := Lib.hid c0
  have C1 := Lib.hid c1
  have x0 : ∀ {ops : Array Oper} {F : Tmp → Value → World → Prop} {o : Oper} {D : List (Tmp × Value)} (x : AtF (KeepsN w) F ops o D), x.w.cell? ⟨g, off, none⟩ = some (.int .u64 s.lo.toNat) := fun x => AtF.cell C0.out x
  have x1 : ∀ {ops : Array Oper} {F : Tmp → Value → World → Prop} {o : Oper} {D : List (Tmp × Value)} (x : AtF (KeepsN w) F ops o D), x.w.cell? ⟨g, off + 1, none⟩ = some (.int .u64 s.hi.toNat) := fun x => AtF.cell C1.out x
  clear H hcp hcm c0 c1 ho
  go_enter Tryd.func32, Tryd.ntmps32
  go_upto_region 12 with fail
  refine wp_region_KT 8 [(31, fun v w => ReadsI w v [own]), (32, fun v _ => v = (ofL [own]).val), (33, fun v _ => v = (s.and (ofL [own])).val), (10, SetAt w BSet.empty)] ?_ (by kernel_rfl) (by kernel_rfl) ?_
  · intro p hp
    simp only [List.mem_cons, List.not_mem_nil, or_false] at hp
    rcases hp with rfl | rfl | rfl | rfl
    · exact fun v w w' h hk => ReadsI.keeps h hk
    · exact Stays.pure _
    · exact Stays.pure _
    · exact SetAt.stays _ _
  simp only [List.take_succ_cons, List.take_zero, List.drop_succ_cons, List.drop_zero]
  repeat (first | (refine wpF_skip rfl ?_) | (refine wpF_plain rfl rfl rfl ?_; intro ne K hK; go_big_quiet_op; go_big_quiet_on; clear ne))
  refine wpF_call rfl rfl ?_ ?_
  · intro x hx hf
    refine gives_hide (fun R hR => ?_)
    clear x0 x1
    go_simp
    exact hR _ _ ⟨(Keeps.refl _ _).alloc _, ReadsI.lit x [own] 3 (by simp)⟩
  rintro v31 ⟨y, hy, hF⟩
  clear hy hF y
  simp only [Act.put, List.setIfInBounds_toArray, List.set_cons_succ, List.set_cons_zero]
  repeat (first | (refine wpF_skip rfl ?_) | (refine wpF_plain rfl rfl rfl ?_; intro ne K hK; go_big_quiet_op; go_big_quiet_on; clear ne))
  refine wpF_call rfl rfl ?_ ?_
  · intro x hx hf
    refine gives_hide (fun R hR => ?_)
    have hv : ReadsI x v31 [own] := hf (31, v31) (by simp) (of_decide_eq_true (by kernel_rfl))
    have HV := Lib.hid hv
    clear hv x0 x1
    go_simp
    refine (of_any _ _ [own] HV.out).mono ?_
    rintro e w' ⟨rfl, hk⟩
    exact ⟨_, rfl, hR _ _ ⟨hk, rfl⟩⟩
  rintro v32 ⟨y, hy, hF⟩
  obtain rfl : v32 = (ofL [own]).val := hF (32, v32) List.mem_cons_self
  clear hy hF y
  simp only [Act.put, List.setIfInBounds_toArray, List.set_cons_succ, List.set_cons_zero]
  repeat (first | (refine wpF_skip rfl ?_) | (refine wpF_plain rfl rfl rfl ?_; intro ne K hK; go_big_quiet_op; go_big_quiet_on; clear ne))
  refine wpF_call rfl rfl ?_ ?_
  · intro x hx hf
    refine gives_hide (fun R hR => ?_)
    clear x0 x1
    go_simp
    refine (and_any _ _ _).mono ?_
    rintro e w' ⟨rfl, hk⟩
    exact ⟨_, rfl, hR _ _ ⟨hk, rfl⟩⟩
  rintro v33 ⟨y, hy, hF⟩
  obtain rfl : v33 = (s.and (ofL [own])).val := hF (33, v33) List.mem_cons_self
  clear hy hF y
  simp only [Act.put, List.setIfInBounds_toArray, List.set_cons_succ, List.set_cons_zero]
  repeat (first | (refine wpF_skip rfl ?_) | (refine wpF_plain rfl rfl rfl ?_; intro ne K hK; go_big_quiet_op; go_big_quiet_on; clear ne))
  refine wpF_call rfl rfl ?_ ?_
  · intro x hx hf
    refine gives_hide (fun R hR => ?_)
    clear x0 x1
    go_simp
    exact hR _ _ ⟨(Keeps.refl _ _).alloc _, _, rfl, hx.size, heap_alloc_new _ _⟩
  rintro v10 ⟨y, hy, hF⟩
  obtain ⟨p, rfl, hp, hpb⟩ : SetAt w BSet.empty v10 y := hF (10, v10) List.mem_cons_self
  clear hy hF hpb y
  simp only [Act.put, List.setIfInBounds_toArray, List.set_cons_succ, List.set_cons_zero]
  refine wpF_nil ?_
  intro w2 hw2 hF
  obtain ⟨p', hpe, _, hpb⟩ : SetAt w BSet.empty (.pointer (some ⟨p, 0, none⟩)) w2 := hF (10, .pointer (some ⟨p, 0, none⟩)) (by simp)
  simp only [Value.pointer.injEq, Option.some.injEq, Addr.mk.injEq, and_true] at hpe
  subst hpe
  have K2 : Hid (Keeps w w2 (fun _ => False)) := Lib.hid hw2
  have HP := Lib.hid hp
  have B2 := Lib.hid hpb
  have hfz : w2.frozen? ⟨p, 0, none⟩ = false := free_at hpb 0
  have hfz1 : w2.frozen? ⟨p, 1, none⟩ = false := free_at hpb 1
  have e0 : w2.cell? ⟨p, 0, none⟩ = some (.int .u64 0) := by rw [cell_at hpb]; rfl
  have e1 : w2.cell? ⟨p, 1, none⟩ = some (.int .u64 0) := by rw [cell_at hpb]; rfl
  clear hw2 hF hp hpb x0 x1
  unfold BSet.val
  go_wp2_with fail
  have K3 : Hid (Keeps w ((w2.setCell ⟨p, 0, none⟩ (.int .u64 (s.and (ofL [own])).lo.toNat)).setCell ⟨p, 1, none⟩ (.int .u64 (s.and (ofL [own])).hi.toNat)) (fun _ => False)) := Lib.hid (Keeps.setCell (p := ⟨p, 1, none⟩) (Keeps.setCell (p := ⟨p, 0, none⟩) K2.out (fun h => absurd (show p < w.heap.size from h) (by have := HP.out; omega)) _) (fun h => absurd (show p < w.heap.size from h) (by have := HP.out; omega)) _)
  have B3 : Hid (((w2.setCell ⟨p, 0, none⟩ (.int .u64 (s.and (ofL [own])).lo.toNat)).setCell ⟨p, 1, none⟩ (.int .u64 (s.and (ofL [own])).hi.toNat)).heap[p]? = some (.cells ((s.and (ofL [own]))).cells 57 (0, 0))) := Lib.hid (by rw [setCell_heap (setCell_heap B2.out 0 _) 1 _]; rfl)
  generalize (w2.setCell ⟨p, 0, none⟩ (.int .u64 (s.and (ofL [own])).lo.toNat)).setCell ⟨p, 1, none⟩ (.int .u64 (s.and (ofL [own])).hi.toNat) = w3 at *
  refine (empty_any ((s.and (ofL [own]))) _).mono ?_
  rintro e w9 ⟨rfl, hk9⟩
  have K9 := Lib.hid (K3.out.trans hk9)
  have B9 := Lib.hid ((hk9.block _ (block_lt B3.out) id).trans B3.out)
  have GH9 := Lib.hid (GH.out.keeps K9.out)
  have e0 : w9.cell? ⟨p, 0, none⟩ = some (.int .u64 ((s.and (ofL [own]))).lo.toNat) := by rw [cell_at B9.out]; rfl
  have e1 : w9.cell? ⟨p, 1, none⟩ = some (.int .u64 ((s.and (ofL [own]))).hi.toNat) := by rw [cell_at B9.out]; rfl
  clear hk9 K3 B3
  have hd : doneL (s :: r) own 2 = (if ((s.and (ofL [own]))).isEmpty then (9, []) else (0, (s.and (ofL [own])) :: r)) := by
    unfold doneL
    simp [HO.out]
  have HD := Lib.hid hd
  clear hd
  cases he : ((s.and (ofL [own]))).isEmpty with
  | true =>
    rw [he] at HD
    go_wp2_with fail
    go_ret2
    exact ⟨.slice none 0 0, by rw [HD.out]; rfl, K9.out, fun h => by rw [HD.out] at h; cases h⟩
  | false =>
    rw [he] at HD
    clear he
    have E0 := Lib.hid e0
    have E1 := Lib.hid e1
    by_cases hcp : cap = 1
    · subst hcp
      obtain rfl := GH9.out.rest1
      have HT : Hid (RdK w9 (.slice (some ⟨g, off, none⟩) 0 0) []) := Lib.hid (RdK.void w9 _ 0 (Nat.zero_le _))
      go_upto_region 19 with fail
      have x0 : ∀ {ops : Array Oper} {F : Tmp → Value → World → Prop} {o : Oper} {D : List (Tmp × Value)} (x : AtF (KeepsN w9) F ops o D), x.w.cell? ⟨p, 0, none⟩ = some (.int .u64 ((s.and (ofL [own]))).lo.toNat) := fun x => AtF.cell E0.out x
      have x1 : ∀ {ops : Array Oper} {F : Tmp → Value → World → Prop} {o : Oper} {D : List (Tmp × Value)} (x : AtF (KeepsN w9) F ops o D), x.w.cell? ⟨p, 1, none⟩ = some (.int .u64 ((s.and (ofL [own]))).hi.toNat) := fun x => AtF.cell E1.out x
      refine wp_region_K [(58, fun v w => RdK w v [((s.and (ofL [own])))]), (61, PairK [((s.and (ofL [own])))] ([] : List BSet)), (62, fun v w => RdK w v (((s.and (ofL [own]))) :: ([] : List BSet)))] ?_ (by kernel_rfl) (by kernel_rfl) ?_
      · intro p hp
        simp only [List.mem_cons, List.not_mem_nil, or_false] at hp
        rcases hp with rfl | rfl | rfl
        · exact fun v w w' h hk => RdK.keeps h hk
        · exact PairK.stays _ _
        · exact fun v w w' h hk => RdK.keeps h hk
      repeat (first | (refine wpF_skip rfl ?_) | (refine wpF_plain rfl rfl rfl ?_; intro ne K hK; go_big_quiet_op; go_big_quiet_on; clear ne))
      refine wpF_call rfl rfl ?_ ?_
      · intro x hx hf
        refine gives_hide (fun R hR => ?_)
        clear x0 x1
        go_simp
        exact hR _ _ ⟨(Keeps.refl _ _).alloc _, RdK.lit1 x ((s.and (ofL [own]))) 57⟩
      rintro v58 ⟨y, hy, hF⟩
      clear hy hF y
      simp only [Act.put, List.setIfInBounds_toArray, List.set_cons_succ, List.set_cons_zero]
      repeat (first | (refine wpF_skip rfl ?_) | (refine wpF_plain rfl rfl rfl ?_; intro ne K hK; go_big_quiet_op; go_big_quiet_on; clear ne))
      refine wpF_call rfl rfl ?_ ?_
      · intro x hx hf
        refine gives_hide (fun R hR => ?_)
        have hv : RdK x v58 [((s.and (ofL [own])))] := hf (58, v58) (by simp) (of_decide_eq_true (by kernel_rfl))
        have HV := Lib.hid hv
        clear hf
        obtain ⟨ax, cx, rfl, _, _⟩ := hv.form
        clear hv x0 x1
        go_simp
        exact hR _ _ ⟨(Keeps.refl _ _).alloc _, PairK.new _ HV.out (HT.out.keeps hx)⟩
      rintro v61 ⟨y, hy, hF⟩
      clear hy hF y
      simp only [Act.put, List.setIfInBounds_toArray, List.set_cons_succ, List.set_cons_zero]
      repeat (first | (refine wpF_skip rfl ?_) | (refine wpF_plain rfl rfl rfl ?_; intro ne K hK; go_big_quiet_op; go_big_quiet_on; clear ne))
      refine wpF_call rfl rfl ?_ ?_
      · intro x hx hf
        refine gives_hide (fun R hR => ?_)
        have hv : PairK [((s.and (ofL [own])))] ([] : List BSet) v61 x := hf (61, v61) (by simp) (of_decide_eq_true (by kernel_rfl))
        have HV := Lib.hid hv
        clear hv x0 x1
        go_simp
        refine (concatK _ [((s.and (ofL [own])))] ([] : List BSet) v61 (by simp <;> omega) HV.out).mono ?_
        rintro e w' ⟨u, rfl, hk, hr⟩
        exact ⟨_, rfl, hR _ _ ⟨hk, hr⟩⟩
      rintro v62 ⟨y, hy, hF⟩
      clear hy hF y
      simp only [Act.put, List.setIfInBounds_toArray, List.set_cons_succ, List.set_cons_zero]
      repeat (first | (refine wpF_skip rfl ?_) | (refine wpF_plain rfl rfl rfl ?_; intro ne K hK; go_big_quiet_op; go_big_quiet_on; clear ne))
      refine wpF_nil ?_
      intro w4 hw4 hF
      have KF : Hid (Keeps w w4 (fun _ => False)) := Lib.hid (K9.out.trans hw4)
      have RF : Hid (RdK w4 v62 (doneL (s :: ([] : List BSet)) own 2).2) := Lib.hid (by rw [HD.out]; exact hF (62, v62) (by simp))
      clear hw4 hF x0 x1
      go_wp2_with fail
      go_ret2
      exact ⟨v62, by rw [HD.out]; rfl, KF.out, fun _ => RF.out⟩
    · have HT := Lib.hid (GH9.out.tail hcp)
      go_upto_region 19 with fail
      have x0 : ∀ {ops : Array Oper} {F : Tmp → Value → World → Prop} {o : Oper} {D : List (Tmp × Value)} (x : AtF (KeepsN w9) F ops o D), x.w.cell? ⟨p, 0, none⟩ = some (.int .u64 ((s.and (ofL [own]))).lo.toNat) := fun x => AtF.cell E0.out x
      have x1 : ∀ {ops : Array Oper} {F : Tmp → Value → World → Prop} {o : Oper} {D : List (Tmp × Value)} (x : AtF (KeepsN w9) F ops o D), x.w.cell? ⟨p, 1, none⟩ = some (.int .u64 ((s.and (ofL [own]))).hi.toNat) := fun x => AtF.cell E1.out x
      refine wp_region_K [(58, fun v w => RdK w v [((s.and (ofL [own])))]), (61, PairK [((s.and (ofL [own])))] r), (62, fun v w => RdK w v (((s.and (ofL [own]))) :: r))] ?_ (by kernel_rfl) (by kernel_rfl) ?_
      · intro p hp
        simp only [List.mem_cons, List.not_mem_nil, or_false] at hp
        rcases hp with rfl | rfl | rfl
        · exact fun v w w' h hk => RdK.keeps h hk
        · exact PairK.stays _ _
        · exact fun v w w' h hk => RdK.keeps h hk
      repeat (first | (refine wpF_skip rfl ?_) | (refine wpF_plain rfl rfl rfl ?_; intro ne K hK; go_big_quiet_op; go_big_quiet_on; clear ne))
      refine wpF_call rfl rfl ?_ ?_
      · intro x hx hf
        refine gives_hide (fun R hR => ?_)
        clear x0 x1
        go_simp
        exact hR _ _ ⟨(Keeps.refl _ _).alloc _, RdK.lit1 x ((s.and (ofL [own]))) 57⟩
      rintro v58 ⟨y, hy, hF⟩
      clear hy hF y
      simp only [Act.put, List.setIfInBounds_toArray, List.set_cons_succ, List.set_cons_zero]
      repeat (first | (refine wpF_skip rfl ?_) | (refine wpF_plain rfl rfl rfl ?_; intro ne K hK; go_big_quiet_op; go_big_quiet_on; clear ne))
      refine wpF_call rfl rfl ?_ ?_
      · intro x hx hf
        refine gives_hide (fun R hR => ?_)
        have hv : RdK x v58 [((s.and (ofL [own])))] := hf (58, v58) (by simp) (of_decide_eq_true (by kernel_rfl))
        have HV := Lib.hid hv
        clear hf
        obtain ⟨ax, cx, rfl, _, _⟩ := hv.form
        clear hv x0 x1
        go_simp
        exact hR _ _ ⟨(Keeps.refl _ _).alloc _, PairK.new _ HV.out (HT.out.keeps hx)⟩
      rintro v61 ⟨y, hy, hF⟩
      clear hy hF y
      simp only [Act.put, List.setIfInBounds_toArray, List.set_cons_succ, List.set_cons_zero]
      repeat (first | (refine wpF_skip rfl ?_) | (refine wpF_plain rfl rfl rfl ?_; intro ne K hK; go_big_quiet_op; go_big_quiet_on; clear ne))
      refine wpF_call rfl rfl ?_ ?_
      · intro x hx hf
        refine gives_hide (fun R hR => ?_)
        have hv : PairK [((s.and (ofL [own])))] r v61 x := hf (61, v61) (by simp) (of_decide_eq_true (by kernel_rfl))
        have HV := Lib.hid hv
        clear hv x0 x1
        go_simp
        refine (concatK _ [((s.and (ofL [own])))] r v61 (by simp <;> omega) HV.out).mono ?_
        rintro e w' ⟨u, rfl, hk, hr⟩
        exact ⟨_, rfl, hR _ _ ⟨hk, hr⟩⟩
      rintro v62 ⟨y, hy, hF⟩
      clear hy hF y
      simp only [Act.put, List.setIfInBounds_toArray, List.set_cons_succ, List.set_cons_zero]
      repeat (first | (refine wpF_skip rfl ?_) | (refine wpF_plain rfl rfl rfl ?_; intro ne K hK; go_big_quiet_op; go_big_quiet_on; clear ne))
      refine wpF_nil ?_
      intro w4 hw4 hF
      have KF : Hid (Keeps w w4 (fun _ => False)) := Lib.hid (K9.out.trans hw4)
      have RF : Hid (RdK w4 v62 (doneL (s :: r) own 2).2) := Lib.hid (by rw [HD.out]; exact hF (62, v62) (by simp))
      clear hw4 hF x0 x1
      go_wp2_with fail
      go_ret2
      exact ⟨v62, by rw [HD.out]; rfl, KF.out, fun _ => RF.out⟩

set_option maxHeartbeats 4000000 in
theorem done_push (w : World) (v : Value) (s : BSet) (r : List BSet) (own : Int) (ho : ¬ own = 0) (hl : r.length ≤ 100) (H : RdK w v (s :: r)) :
    Calls Tryd.prog 32 #[v, .int .i64 own, .int .i64 3] w (DonePost w (doneL (s :: r) own 3)) := by
  obtain ⟨a, cap, rfl, hcp, hcm⟩ := H.form
  obtain ⟨g, off, rfl, hg, c0, c1⟩ := H.cell
  have GH := Lib.hid H
  have hq : (own == 0) = false := beq_eq_false_iff_ne.2 ho
  have HO := Lib.hid ho
  have C0 := Lib.hid c0
  have C1 := Lib.hid c1
  have x0 : ∀ {ops : Array Oper} {F : Tmp → Value → World → Prop} {o : Oper} {D : List (Tmp × Value)} (x : AtF (KeepsN w) F ops o D), x.w.cell? ⟨g, off, none⟩ = some (.int .u64 s.lo.toNat) := fun x => AtF.cell C0.out x
  have x1 : ∀ {ops : Array Oper} {F : Tmp → Value → World → Prop} {o : Oper} {D : List (Tmp × Value)} (x : AtF (KeepsN w) F ops o D), x.w.cell? ⟨g, off + 1, none⟩ = some (.int .u64 s.hi.toNat) := fun x => AtF.cell C1.out x
  clear H hcp hcm c0 c1 ho
  go_enter Tryd.func32, Tryd.ntmps32
  go_upto_region 12 with fail
  refine wp_region_KT 8 [(31, fun v w => ReadsI w v [own]), (32, fun v _ => v = (ofL [own]).val), (33, fun v _ => v = (s.and (ofL [own])).val), (10, SetAt w BSet.empty)] ?_ (by kernel_rfl) (by kernel_rfl) ?_
  · intro p hp
    simp only [List.mem_cons, List.not_mem_nil, or_false] at hp
    rcases hp with rfl | rfl | rfl | rfl
    · exact fun v w w' h hk => ReadsI.keeps h hk
    · exact Stays.pure _
    · exact Stays.pure _
    · exact SetAt.stays _ _
  simp only [List.take_succ_cons, List.take_zero, List.drop_succ_cons, List.drop_zero]
  repeat (first | (refine wpF_skip rfl ?_) | (refine wpF_plain rfl rfl rfl ?_; intro ne K hK; go_big_quiet_op; go_big_quiet_on; clear ne))
  refine wpF_call rfl rfl ?_ ?_
  · intro x hx hf
    refine gives_hide (fun R hR => ?_)
    clear x0 x1
    go_simp
    exact hR _ _ ⟨(Keeps.refl _ _).alloc _, ReadsI.lit x [own] 3 (by simp)⟩
  rintro v31 ⟨y, hy, hF⟩
  clear hy hF y
  simp only [Act.put, List.setIfInBounds_toArray, List.set_cons_succ, List.set_cons_zero]
  repeat (first | (refine wpF_skip rfl ?_) | (refine wpF_plain rfl rfl rfl ?_; intro ne K hK; go_big_quiet_op; go_big_quiet_on; clear ne))
  refine wpF_call rfl rfl ?_ ?_
  · intro x hx hf
    refine gives_hide (fun R hR => ?_)
    have hv : ReadsI x v31 [own] := hf (31, v31) (by simp) (of_decide_eq_true (by kernel_rfl))
    have HV := Lib.hid hv
    clear hv x0 x1
    go_simp
    refine (of_any _ _ [own] HV.out).mono ?_
    rintro e w' ⟨rfl, hk⟩
    exact ⟨_, rfl, hR _ _ ⟨hk, rfl⟩⟩
  rintro v32 ⟨y, hy, hF⟩
  obtain rfl : v32 = (ofL [own]).val := hF (32, v32) List.mem_cons_self
  clear hy hF y
  simp only [Act.put, List.setIfInBounds_toArray, List.set_cons_succ, List.set_cons_zero]
  repeat (first | (refine wpF_skip rfl ?_) | (refine wpF_plain rfl rfl rfl ?_; intro ne K hK; go_big_quiet_op; go_big_quiet_on; clear ne))
  refine wpF_call rfl rfl ?_ ?_
  · intro x hx hf
    refine gives_hide (fun R hR => ?_)
    clear x0 x1
    go_simp
    refine (and_any _ _ _).mono ?_
    rintro e w' ⟨rfl, hk⟩
    exact ⟨_, rfl, hR _ _ ⟨hk, rfl⟩⟩
  rintro v33 ⟨y, hy, hF⟩
  obtain rfl : v33 = (s.and (ofL [own])).val := hF (33, v33) List.mem_cons_self
  clear hy hF y
  simp only [Act.put, List.setIfInBounds_toArray, List.set_cons_succ, List.set_cons_zero]
  repeat (first | (refine wpF_skip rfl ?_) | (refine wpF_plain rfl rfl rfl ?_; intro ne K hK; go_big_quiet_op; go_big_quiet_on; clear ne))
  refine wpF_call rfl rfl ?_ ?_
  · intro x hx hf
    refine gives_hide (fun R hR => ?_)
    clear x0 x1
    go_simp
    exact hR _ _ ⟨(Keeps.refl _ _).alloc _, _, rfl, hx.size, heap_alloc_new _ _⟩
  rintro v10 ⟨y, hy, hF⟩
  obtain ⟨p, rfl, hp, hpb⟩ : SetAt w BSet.empty v10 y := hF (10, v10) List.mem_cons_self
  clear hy hF hpb y
  simp only [Act.put, List.setIfInBounds_toArray, List.set_cons_succ, List.set_cons_zero]
  refine wpF_nil ?_
  intro w2 hw2 hF
  obtain ⟨p', hpe, _, hpb⟩ : SetAt w BSet.empty (.pointer (some ⟨p, 0, none⟩)) w2 := hF (10, .pointer (some ⟨p, 0, none⟩)) (by simp)
  simp only [Value.pointer.injEq, Option.some.injEq, Addr.mk.injEq, and_true] at hpe
  subst hpe
  have K2 : Hid (Keeps w w2 (fun _ => False)) := Lib.hid hw2
  have HP := Lib.hid hp
  have B2 := Lib.hid hpb
  have hfz : w2.frozen? ⟨p, 0, none⟩ = false := free_at hpb 0
  have hfz1 : w2.frozen? ⟨p, 1, none⟩ = false := free_at hpb 1
  have e0 : w2.cell? ⟨p, 0, none⟩ = some (.int .u64 0) := by rw [cell_at hpb]; rfl
  have e1 : w2.cell? ⟨p, 1, none⟩ = some (.int .u64 0) := by rw [cell_at hpb]; rfl
  clear hw2 hF hp hpb x0 x1
  unfold BSet.val
  go_upto_region 14 with fail
  have K3 : Hid (Keeps w ((w2.setCell ⟨p, 0, none⟩ (.int .u64 (s.and (ofL [own])).lo.toNat)).setCell ⟨p, 1, none⟩ (.int .u64 (s.and (ofL [own])).hi.toNat)) (fun _ => False)) := Lib.hid (Keeps.setCell (p := ⟨p, 1, none⟩) (Keeps.setCell (p := ⟨p, 0, none⟩) K2.out (fun h => absurd (show p < w.heap.size from h) (by have := HP.out; omega)) _) (fun h => absurd (show p < w.heap.size from h) (by have := HP.out; omega)) _)
  have B3 : Hid (((w2.setCell ⟨p, 0, none⟩ (.int .u64 (s.and (ofL [own])).lo.toNat)).setCell ⟨p, 1, none⟩ (.int .u64 (s.and (ofL [own])).hi.toNat)).heap[p]? = some (.cells ((s.and (ofL [own]))).cells 57 (0, 0))) := Lib.hid (by rw [setCell_heap (setCell_heap B2.out 0 _) 1 _]; rfl)
  generalize (w2.setCell ⟨p, 0, none⟩ (.int .u64 (s.and (ofL [own])).lo.toNat)).setCell ⟨p, 1, none⟩ (.int .u64 (s.and (ofL [own])).hi.toNat) = w3 at *
  have D0 : Hid (w3.cell? ⟨g, off, none⟩ = some (.int .u64 s.lo.toNat)) := Lib.hid (by rw [← C0.out]; exact World.cell?_of_block (K3.out.block _ hg id))
  have D1 : Hid (w3.cell? ⟨g, off + 1, none⟩ = some (.int .u64 s.hi.toNat)) := Lib.hid (by rw [← C1.out]; exact World.cell?_of_block (K3.out.block _ hg id))
  have x0 : ∀ {ops : Array Oper} {F : Tmp → Value → World → Prop} {o : Oper} {D : List (Tmp × Value)} (x : AtF (KeepsN w3) F ops o D), x.w.cell? ⟨g, off, none⟩ = some (.int .u64 s.lo.toNat) := fun x => AtF.cell D0.out x
  have x1 : ∀ {ops : Array Oper} {F : Tmp → Value → World → Prop} {o : Oper} {D : List (Tmp × Value)} (x : AtF (KeepsN w3) F ops o D), x.w.cell? ⟨g, off + 1, none⟩ = some (.int .u64 s.hi.toNat) := fun x => AtF.cell D1.out x
  clear hfz hfz1 e0 e1 K2 B2
  refine wp_region_KT 6 [(40, fun v _ => v = (belowS own).val), (41, fun v _ => v = (s.and (belowS own)).val)] ?_ (by kernel_rfl) (by kernel_rfl) ?_
  · intro p hp
    simp only [List.mem_cons, List.not_mem_nil, or_false] at hp
    rcases hp with rfl | rfl <;> exact Stays.pure _
  simp only [List.take_succ_cons, List.take_zero, List.drop_succ_cons, List.drop_zero]
  repeat (first | (refine wpF_skip rfl ?_) | (refine wpF_plain rfl rfl rfl ?_; intro ne K hK; go_big_quiet_op; go_big_quiet_on; clear ne))
  refine wpF_call rfl rfl ?_ ?_
  · intro x hx hf
    refine gives_hide (fun R hR => ?_)
    clear x0 x1
    go_simp
    refine (onto_any _ _).mono ?_
    rintro e w' ⟨rfl, hk⟩
    exact ⟨_, rfl, hR _ _ ⟨hk, rfl⟩⟩
  rintro v40 ⟨y, hy, hF⟩
  obtain rfl : v40 = (belowS own).val := hF (40, v40) List.mem_cons_self
  clear hy hF y
  simp only [Act.put, List.setIfInBounds_toArray, List.set_cons_succ, List.set_cons_zero]
  repeat (first | (refine wpF_skip rfl ?_) | (refine wpF_plain rfl rfl rfl ?_; intro ne K hK; go_big_quiet_op; go_big_quiet_on; clear ne))
  refine wpF_call rfl rfl ?_ ?_
  · intro x hx hf
    refine gives_hide (fun R hR => ?_)
    clear x0 x1
    go_simp
    refine (and_any _ _ _).mono ?_
    rintro e w' ⟨rfl, hk⟩
    exact ⟨_, rfl, hR _ _ ⟨hk, rfl⟩⟩
  rintro v41 ⟨y, hy, hF⟩
  obtain rfl : v41 = (s.and (belowS own)).val := hF (41, v41) List.mem_cons_self
  clear hy hF y
  simp only [Act.put, List.setIfInBounds_toArray, List.set_cons_succ, List.set_cons_zero]
  refine wpF_nil ?_
  intro w5 hw5 hF
  have K5 : Hid (Keeps w w5 (fun _ => False)) := Lib.hid (K3.out.trans hw5)
  have B5 := Lib.hid ((Keeps.block hw5 _ (block_lt B3.out) id).trans B3.out)
  have hfz : w5.frozen? ⟨p, 0, none⟩ = false := free_at B5.out 0
  have hfz1 : w5.frozen? ⟨p, 1, none⟩ = false := free_at B5.out 1
  have e0 : w5.cell? ⟨p, 0, none⟩ = some (.int .u64 (s.and (ofL [own])).lo.toNat) := by rw [cell_at B5.out]; rfl
  have e1 : w5.cell? ⟨p, 1, none⟩ = some (.int .u64 (s.and (ofL [own])).hi.toNat) := by rw [cell_at B5.out]; rfl
  clear hw5 hF x0 x1 K3 B3
  unfold BSet.val
  go_wp2_with fail
  have K6 : Hid (Keeps w ((w5.setCell ⟨p, 0, none⟩ (.int .u64 (s.and (belowS own)).lo.toNat)).setCell ⟨p, 1, none⟩ (.int .u64 (s.and (belowS own)).hi.toNat)) (fun _ => False)) := Lib.hid (Keeps.setCell (p := ⟨p, 1, none⟩) (Keeps.setCell (p := ⟨p, 0, none⟩) K5.out (fun h => absurd (show p < w.heap.size from h) (by have := HP.out; omega)) _) (fun h => absurd (show p < w.heap.size from h) (by have := HP.out; omega)) _)
  have B6 : Hid (((w5.setCell ⟨p, 0, none⟩ (.int .u64 (s.and (belowS own)).lo.toNat)).setCell ⟨p, 1, none⟩ (.int .u64 (s.and (belowS own)).hi.toNat)).heap[p]? = some (.cells ((s.and (belowS own))).cells 57 (0, 0))) := Lib.hid (by rw [setCell_heap (setCell_heap B5.out 0 _) 1 _]; rfl)
  generalize (w5.setCell ⟨p, 0, none⟩ (.int .u64 (s.and (belowS own)).lo.toNat)).setCell ⟨p, 1, none⟩ (.int .u64 (s.and (belowS own)).hi.toNat) = w6 at *
  refine (empty_any ((s.and (belowS own))) _).mono ?_
  rintro e w9 ⟨rfl, hk9⟩
  have K9 := Lib.hid (K6.out.trans hk9)
  have B9 := Lib.hid ((hk9.block _ (block_lt B6.out) id).trans B6.out)
  have GH9 := Lib.hid (GH.out.keeps K9.out)
  have e0 : w9.cell? ⟨p, 0, none⟩ = some (.int .u64 ((s.and (belowS own))).lo.toNat) := by rw [cell_at B9.out]; rfl
  have e1 : w9.cell? ⟨p, 1, none⟩ = some (.int .u64 ((s.and (belowS own))).hi.toNat) := by rw [cell_at B9.out]; rfl
  clear hk9 K6 B6
  have hd : doneL (s :: r) own 3 = (if ((s.and (belowS own))).isEmpty then (9, []) else (0, ofL [own] :: (s.and (belowS own)) :: r)) := by
    unfold doneL
    simp [HO.out]
  have HD := Lib.hid hd
  clear hd
  cases he : ((s.and (belowS own))).isEmpty with
  | true =>
    rw [he] at HD
    go_wp2_with fail
    go_ret2
    exact ⟨.slice none 0 0, by rw [HD.out]; rfl, K9.out, fun h => by rw [HD.out] at h; cases h⟩
  | false =>
    rw [he] at HD
    clear he
    have E0 := Lib.hid e0
    have E1 := Lib.hid e1
    by_cases hcp : cap = 1
    · subst hcp
      obtain rfl := GH9.out.rest1
      have HT : Hid (RdK w9 (.slice (some ⟨g, off, none⟩) 0 0) []) := Lib.hid (RdK.void w9 _ 0 (Nat.zero_le _))
      go_upto_region 18 with fail
      have x0 : ∀ {ops : Array Oper} {F : Tmp → Value → World → Prop} {o : Oper} {D : List (Tmp × Value)} (x : AtF (KeepsN w9) F ops o D), x.w.cell? ⟨p, 0, none⟩ = some (.int .u64 ((s.and (belowS own))).lo.toNat) := fun x => AtF.cell E0.out x
      have x1 : ∀ {ops : Array Oper} {F : Tmp → Value → World → Prop} {o : Oper} {D : List (Tmp × Value)} (x : AtF (KeepsN w9) F ops o D), x.w.cell? ⟨p, 1, none⟩ = some (.int .u64 ((s.and (belowS own))).hi.toNat) := fun x => AtF.cell E1.out x
      refine wp_region_K [(50, fun v _ => v = (ofL [own]).val), (49, fun v w => ReadsI w v [own]), (52, fun v w => RdK w v [ofL [own], ((s.and (belowS own)))]), (55, PairK [ofL [own], ((s.and (belowS own)))] ([] : List BSet)), (56, fun v w => RdK w v (ofL [own] :: ((s.and (belowS own))) :: ([] : List BSet)))] ?_ (by kernel_rfl) (by kernel_rfl) ?_
      · intro p hp
        simp only [List.mem_cons, List.not_mem_nil, or_false] at hp
        rcases hp with rfl | rfl | rfl | rfl | rfl
        · exact Stays.pure _
        · exact fun v w w' h hk => ReadsI.keeps h hk
        · exact fun v w w' h hk => RdK.keeps h hk
        · exact PairK.stays _ _
        · exact fun v w w' h hk => RdK.keeps h hk
      repeat (first | (refine wpF_skip rfl ?_) | (refine wpF_plain rfl rfl rfl ?_; intro ne K hK; go_big_quiet_op; go_big_quiet_on; clear ne))
      refine wpF_call rfl rfl ?_ ?_
      · intro x hx hf
        refine gives_hide (fun R hR => ?_)
        clear x0 x1
        go_simp
        exact hR _ _ ⟨(Keeps.refl _ _).alloc _, ReadsI.lit x [own] 3 (by simp)⟩
      rintro v49 ⟨y, hy, hF⟩
      clear hy hF y
      simp only [Act.put, List.setIfInBounds_toArray, List.set_cons_succ, List.set_cons_zero]
      repeat (first | (refine wpF_skip rfl ?_) | (refine wpF_plain rfl rfl rfl ?_; intro ne K hK; go_big_quiet_op; go_big_quiet_on; clear ne))
      refine wpF_call rfl rfl ?_ ?_
      · intro x hx hf
        refine gives_hide (fun R hR => ?_)
        have hv : ReadsI x v49 [own] := hf (49, v49) (by simp) (of_decide_eq_true (by kernel_rfl))
        have HV := Lib.hid hv
        clear hv x0 x1
        go_simp
        refine (of_any _ _ [own] HV.out).mono ?_
        rintro e w' ⟨rfl, hk⟩
        exact ⟨_, rfl, hR _ _ ⟨hk, rfl⟩⟩
      rintro v50 ⟨y, hy, hF⟩
      obtain rfl : v50 = (ofL [own]).val := hF (50, v50) List.mem_cons_self
      clear hy hF y
      simp only [Act.put, List.setIfInBounds_toArray, List.set_cons_succ, List.set_cons_zero]
      repeat (first | (refine wpF_skip rfl ?_) | (refine wpF_plain rfl rfl rfl ?_; intro ne K hK; go_big_quiet_op; go_big_quiet_on; clear ne))
      refine wpF_call rfl rfl ?_ ?_
      · intro x hx hf
        refine gives_hide (fun R hR => ?_)
        clear x0 x1
        unfold BSet.val
        go_simp
        exact hR _ _ ⟨(Keeps.refl _ _).alloc _, RdK.lit2 x (ofL [own]) ((s.and (belowS own))) 57⟩
      rintro v52 ⟨y, hy, hF⟩
      clear hy hF y
      simp only [Act.put, List.setIfInBounds_toArray, List.set_cons_succ, List.set_cons_zero]
      repeat (first | (refine wpF_skip rfl ?_) | (refine wpF_plain rfl rfl rfl ?_; intro ne K hK; go_big_quiet_op; go_big_quiet_on; clear ne))
      refine wpF_call rfl rfl ?_ ?_
      · intro x hx hf
        refine gives_hide (fun R hR => ?_)
        have hv : RdK x v52 [ofL [own], ((s.and (belowS own)))] := hf (52, v52) (by simp) (of_decide_eq_true (by kernel_rfl))
        have HV := Lib.hid hv
        clear hf
        obtain ⟨ax, cx, rfl, _, _⟩ := hv.form
        clear hv x0 x1
        go_simp
        exact hR _ _ ⟨(Keeps.refl _ _).alloc _, PairK.new _ HV.out (HT.out.keeps hx)⟩
      rintro v55 ⟨y, hy, hF⟩
      clear hy hF y
      simp only [Act.put, List.setIfInBounds_toArray, List.set_cons_succ, List.set_cons_zero]
      repeat (first | (refine wpF_skip rfl ?_) | (refine wpF_plain rfl rfl rfl ?_; intro ne K hK; go_big_quiet_op; go_big_quiet_on; clear ne))
      refine wpF_call rfl rfl ?_ ?_
      · intro x hx hf
        refine gives_hide (fun R hR => ?_)
        have hv : PairK [ofL [own], ((s.and (belowS own)))] ([] : List BSet) v55 x := hf (55, v55) (by simp) (of_decide_eq_true (by kernel_rfl))
        have HV := Lib.hid hv
        clear hv x0 x1
        go_simp
        refine (concatK _ [ofL [own], ((s.and (belowS own)))] ([] : List BSet) v55 (by simp <;> omega) HV.out).mono ?_
        rintro e w' ⟨u, rfl, hk, hr⟩
        exact ⟨_, rfl, hR _ _ ⟨hk, hr⟩⟩
      rintro v56 ⟨y, hy, hF⟩
      clear hy hF y
      simp only [Act.put, List.setIfInBounds_toArray, List.set_cons_succ, List.set_cons_zero]
      repeat (first | (refine wpF_skip rfl ?_) | (refine wpF_plain rfl rfl rfl ?_; intro ne K hK; go_big_quiet_op; go_big_quiet_on; clear ne))
      refine wpF_nil ?_
      intro w4 hw4 hF
      have KF : Hid (Keeps w w4 (fun _ => False)) := Lib.hid (K9.out.trans hw4)
      have RF : Hid (RdK w4 v56 (doneL (s :: ([] : List BSet)) own 3).2) := Lib.hid (by rw [HD.out]; exact hF (56, v56) (by simp))
      clear hw4 hF x0 x1
      go_wp2_with fail
      go_ret2
      exact ⟨v56, by rw [HD.out]; rfl, KF.out, fun _ => RF.out⟩
    · have HT := Lib.hid (GH9.out.tail hcp)
      go_upto_region 18 with fail
      have x0 : ∀ {ops : Array Oper} {F : Tmp → Value → World → Prop} {o : Oper} {D : List (Tmp × Value)} (x : AtF (KeepsN w9) F ops o D), x.w.cell? ⟨p, 0, none⟩ = some (.int .u64 ((s.and (belowS own))).lo.toNat) := fun x => AtF.cell E0.out x
      have x1 : ∀ {ops : Array Oper} {F : Tmp → Value → World → Prop} {o : Oper} {D : List (Tmp × Value)} (x : AtF (KeepsN w9) F ops o D), x.w.cell? ⟨p, 1, none⟩ = some (.int .u64 ((s.and (belowS own))).hi.toNat) := fun x => AtF.cell E1.out x
      refine wp_region_K [(50, fun v _ => v = (ofL [own]).val), (49, fun v w => ReadsI w v [own]), (52, fun v w => RdK w v [ofL [own], ((s.and (belowS own)))]), (55, PairK [ofL [own], ((s.and (belowS own)))] r), (56, fun v w => RdK w v (ofL [own] :: ((s.and (belowS own))) :: r))] ?_ (by kernel_rfl) (by kernel_rfl) ?_
      · intro p hp
        simp only [List.mem_cons, List.not_mem_nil, or_false] at hp
        rcases hp with rfl | rfl | rfl | rfl | rfl
        · exact Stays.pure _
        · exact fun v w w' h hk => ReadsI.keeps h hk
        · exact fun v w w' h hk => RdK.keeps h hk
        · exact PairK.stays _ _
        · exact fun v w w' h hk => RdK.keeps h hk
      repeat (first | (refine wpF_skip rfl ?_) | (refine wpF_plain rfl rfl rfl ?_; intro ne K hK; go_big_quiet_op; go_big_quiet_on; clear ne))
      refine wpF_call rfl rfl ?_ ?_
      · intro x hx hf
        refine gives_hide (fun R hR => ?_)
        clear x0 x1
        go_simp
        exact hR _ _ ⟨(Keeps.refl _ _).alloc _, ReadsI.lit x [own] 3 (by simp)⟩
      rintro v49 ⟨y, hy, hF⟩
      clear hy hF y
      simp only [Act.put, List.setIfInBounds_toArray, List.set_cons_succ, List.set_cons_zero]
      repeat (first | (refine wpF_skip rfl ?_) | (refine wpF_plain rfl rfl rfl ?_; intro ne K hK; go_big_quiet_op; go_big_quiet_on; clear ne))
      refine wpF_call rfl rfl ?_ ?_
      · intro x hx hf
        refine gives_hide (fun R hR => ?_)
        have hv : ReadsI x v49 [own] := hf (49, v49) (by simp) (of_decide_eq_true (by kernel_rfl))
        have HV := Lib.hid hv
        clear hv x0 x1
        go_simp
        refine (of_any _ _ [own] HV.out).mono ?_
        rintro e w' ⟨rfl, hk⟩
        exact ⟨_, rfl, hR _ _ ⟨hk, rfl⟩⟩
      rintro v50 ⟨y, hy, hF⟩
      obtain rfl : v50 = (ofL [own]).val := hF (50, v50) List.mem_cons_self
      clear hy hF y
      simp only [Act.put, List.setIfInBounds_toArray, List.set_cons_succ, List.set_cons_zero]
      repeat (first | (refine wpF_skip rfl ?_) | (refine wpF_plain rfl rfl rfl ?_; intro ne K hK; go_big_quiet_op; go_big_quiet_on; clear ne))
      refine wpF_call rfl rfl ?_ ?_
      · intro x hx hf
        refine gives_hide (fun R hR => ?_)
        clear x0 x1
        unfold BSet.val
        go_simp
        exact hR _ _ ⟨(Keeps.refl _ _).alloc _, RdK.lit2 x (ofL [own]) ((s.and (belowS own))) 57⟩
      rintro v52 ⟨y, hy, hF⟩
      clear hy hF y
      simp only [Act.put, List.setIfInBounds_toArray, List.set_cons_succ, List.set_cons_zero]
      repeat (first | (refine wpF_skip rfl ?_) | (refine wpF_plain rfl rfl rfl ?_; intro ne K hK; go_big_quiet_op; go_big_quiet_on; clear ne))
      refine wpF_call rfl rfl ?_ ?_
      · intro x hx hf
        refine gives_hide (fun R hR => ?_)
        have hv : RdK x v52 [ofL [own], ((s.and (belowS own)))] := hf (52, v52) (by simp) (of_decide_eq_true (by kernel_rfl))
        have HV := Lib.hid hv
        clear hf
        obtain ⟨ax, cx, rfl, _, _⟩ := hv.form
        clear hv x0 x1
        go_simp
        exact hR _ _ ⟨(Keeps.refl _ _).alloc _, PairK.new _ HV.out (HT.out.keeps hx)⟩
      rintro v55 ⟨y, hy, hF⟩
      clear hy hF y
      simp only [Act.put, List.setIfInBounds_toArray, List.set_cons_succ, List.set_cons_zero]
      repeat (first | (refine wpF_skip rfl ?_) | (refine wpF_plain rfl rfl rfl ?_; intro ne K hK; go_big_quiet_op; go_big_quiet_on; clear ne))
      refine wpF_call rfl rfl ?_ ?_
      · intro x hx hf
        refine gives_hide (fun R hR => ?_)
        have hv : PairK [ofL [own], ((s.and (belowS own)))] r v55 x := hf (55, v55) (by simp) (of_decide_eq_true (by kernel_rfl))
        have HV := Lib.hid hv
        clear hv x0 x1
        go_simp
        refine (concatK _ [ofL [own], ((s.and (belowS own)))] r v55 (by simp <;> omega) HV.out).mono ?_
        rintro e w' ⟨u, rfl, hk, hr⟩
        exact ⟨_, rfl, hR _ _ ⟨hk, hr⟩⟩
      rintro v56 ⟨y, hy, hF⟩
      clear hy hF y
      simp only [Act.put, List.setIfInBounds_toArray, List.set_cons_succ, List.set_cons_zero]
      repeat (first | (refine wpF_skip rfl ?_) | (refine wpF_plain rfl rfl rfl ?_; intro ne K hK; go_big_quiet_op; go_big_quiet_on; clear ne))
      refine wpF_nil ?_
      intro w4 hw4 hF
      have KF : Hid (Keeps w w4 (fun _ => False)) := Lib.hid (K9.out.trans hw4)
      have RF : Hid (RdK w4 v56 (doneL (s :: r) own 3).2) := Lib.hid (by rw [HD.out]; exact hF (56, v56) (by simp))
      clear hw4 hF x0 x1
      go_wp2_with fail
      go_ret2
      exact ⟨v56, by rw [HD.out]; rfl, KF.out, fun _ => RF.out⟩
end Go.Proofs.YtdhcnmljkmodhaaDoor

/- Entries of the model for internal/reflectlite at this program's types (after the worked text ToyasAs): *api.Errno, **oops.Fault, **oops.Place. -/
namespace Go.Proofs.YtdhcnmljkmodhaaDoor
set_option linter.unusedSectionVars false
set_option linter.unusedVariables false
set_option linter.unusedSimpArgs false
open Go.RowKit Go.Extern.Stop Go.Stop Go.Extern

theorem rlm (z : Sem Value) (f : TypeId → Addr → Nat → Nat → Sem Value) (v : Value) :
    ReflectliteValue.method z f #[v] = (do match ← ReflectliteValue.parts v with | none => z | some (t, a, fl) => f t a fl (fl % 32)) := rfl
theorem rls (v x : Value) : ReflectliteValue.set #[v, x] = (do
    let (some (dst, a, fl), some (src, b, _)) := (← ReflectliteValue.parts v, ← ReflectliteValue.parts x)
      | unsupported (.noEntry "extern/(internal/reflectlite.Value).Set.zeroValue")
    if fl / ReflectliteValue.flagAddr % 2 == 0 then unsupported (.noEntry "extern/(internal/reflectlite.Value).Set.unaddressable")
    let val ← loadVar src b
    if ← Rtype.directlyAssignable dst src then storeVar dst a val
    else if ← Rtype.implements dst src then
      if (← Rtype.kind src) == 20 then
        match val with
        | .nilIface => unsupported (.noEntry "extern/reflectlite: a nil value of one interface type handed on as a value of another")
        | _ => storeVar dst a val
      else storeVar dst a (.iface src val)
    else panicString ("reflectlite.Set: value of type " ++ (← Rtype.spelt src) ++ " is not assignable to type " ++ (← Rtype.spelt dst))
    pure (.tuple #[])) := rfl
@[go_sem] theorem rl_methodKind (h : Value) (w : World) : (Go.method 251 105 (.agg #[h]) "Kind").run Tryd.prog w = .ok (84, h) w := by kernel_rfl
@[go_sem] theorem rl_methodElem (h : Value) (w : World) : (Go.method 251 105 (.agg #[h]) "Elem").run Tryd.prog w = .ok (98, .agg #[h]) w := by kernel_rfl
@[go_sem] theorem rl_methodImplements (h : Value) (w : World) : (Go.method 251 105 (.agg #[h]) "Implements").run Tryd.prog w = .ok (99, .agg #[h]) w := by kernel_rfl
@[go_sem] theorem rl_methodAssignableTo (h : Value) (w : World) : (Go.method 251 105 (.agg #[h]) "AssignableTo").run Tryd.prog w = .ok (96, .agg #[h]) w := by kernel_rfl
@[go_sem] theorem rl_valueOfPErrno (t : Addr) (w : World) : (ReflectliteValue.unpack (.iface 69 (.pointer (some t)))).run Tryd.prog w
    = .ok (.agg #[.pointer (some ⟨2, 69, none⟩), .pointer (some ⟨w.heap.size, 0, none⟩), .int .u64 150]) (w.alloc (.cells #[.pointer (some t)] 69)) := by kernel_rfl
@[go_sem] theorem rl_typeErrno (a : Addr) (w : World) : (ReflectliteValue.methodAny (ReflectliteValue.valueError "reflectlite.Value.Type" 0) (fun t _ _ _ => ReflectliteType.toType t) #[.agg #[.pointer (some ⟨2, 69, none⟩), .pointer (some a), .int .u64 150]]).run Tryd.prog w
    = .ok (.iface 105 (.agg #[.pointer (some ⟨2, 69, none⟩)])) w := by kernel_rfl
@[go_sem] theorem rl_kindPErrno (w : World) : ((ReflectliteType.abiMethod fun t => (fun a : Nat => Value.int IntKind.u8 (a : Int)) <$> Rtype.kind t) #[.pointer (some ⟨2, 69, none⟩)]).run Tryd.prog w = .ok (.int .u8 22) w := by kernel_rfl
@[go_sem] theorem rl_kindErrno (w : World) : ((ReflectliteType.abiMethod fun t => (fun a : Nat => Value.int IntKind.u8 (a : Int)) <$> Rtype.kind t) #[.pointer (some ⟨2, 49, none⟩)]).run Tryd.prog w = .ok (.int .u8 2) w := by kernel_rfl
theorem rl_partsErrno (a : Addr) (w : World) : (ReflectliteValue.parts (.agg #[.pointer (some ⟨2, 69, none⟩), .pointer (some a), .int .u64 150])).run Tryd.prog w = .ok (some (69, a, 150)) w := by kernel_rfl
theorem rl_isNilErrno (a p : Addr) (W : World) (ha : W.cell? a = some (.pointer (some p))) :
    (ReflectliteValue.method (ReflectliteValue.valueError "reflectlite.Value.IsNil" 0) ReflectliteValue.isNil #[.agg #[.pointer (some ⟨2, 69, none⟩), .pointer (some a), .int .u64 150]]).run Tryd.prog W = .ok (.bool false) W := by
  rw [rlm]
  simp only [Sem.run_bind, rl_partsErrno, Result.andThen]
  simp [ReflectliteValue.isNil, loadVar, isAgg, underlying, Tryd.underlying69, ha, Result.andThen]
@[go_sem] theorem rl_elemErrno (w : World) : (ReflectliteType.method ReflectliteType.elem #[.agg #[.pointer (some ⟨2, 69, none⟩)]]).run Tryd.prog w = .ok (.iface 105 (.agg #[.pointer (some ⟨2, 49, none⟩)])) w := by kernel_rfl
@[go_sem] theorem rl_implementsErrno (w : World) : (ReflectliteType.relation "Implements" ReflectliteType.implements_ #[.agg #[.pointer (some ⟨2, 49, none⟩)], .iface 105 (.agg #[.pointer (some ⟨2, 32, none⟩)])]).run Tryd.prog w = .ok (.bool true) w := by kernel_rfl
theorem rl_elemOfErrno (w : World) : (Rtype.elem? 69).run Tryd.prog w = .ok (some 49) w := by kernel_rfl
theorem rl_mkErrno (p : Addr) (w : World) : (ReflectliteValue.mk 49 p ReflectliteValue.flagAddr).run Tryd.prog w = .ok (.agg #[.pointer (some ⟨2, 49, none⟩), .pointer (some p), .int .u64 386]) w := by kernel_rfl
theorem rl_elemVErrno (a p : Addr) (W : World) (ha : W.cell? a = some (.pointer (some p))) :
    (ReflectliteValue.method (ReflectliteValue.valueError "reflectlite.Value.Elem" 0) ReflectliteValue.elem #[.agg #[.pointer (some ⟨2, 69, none⟩), .pointer (some a), .int .u64 150]]).run Tryd.prog W
      = .ok (.agg #[.pointer (some ⟨2, 49, none⟩), .pointer (some p), .int .u64 386]) W := by
  rw [rlm]
  simp only [Sem.run_bind, rl_partsErrno, Result.andThen]
  simp [ReflectliteValue.elem, loadVar, isAgg, underlying, Tryd.underlying69, ha, Result.andThen, rl_elemOfErrno, rl_mkErrno]
@[go_sem] theorem rl_valueOfErrno (x : Int) (w : World) : (ReflectliteValue.unpack (.iface 49 (.int .i64 x))).run Tryd.prog w
    = .ok (.agg #[.pointer (some ⟨2, 49, none⟩), .pointer (some ⟨w.heap.size, 0, none⟩), .int .u64 130]) (w.alloc (.cells #[.int .i64 x] 49)) := by kernel_rfl
theorem rl_partsAErrno (a : Addr) (w : World) : (ReflectliteValue.parts (.agg #[.pointer (some ⟨2, 49, none⟩), .pointer (some a), .int .u64 386])).run Tryd.prog w = .ok (some (49, a, 386)) w := by kernel_rfl
theorem rl_partsSErrno (a : Addr) (w : World) : (ReflectliteValue.parts (.agg #[.pointer (some ⟨2, 49, none⟩), .pointer (some a), .int .u64 130])).run Tryd.prog w = .ok (some (49, a, 130)) w := by kernel_rfl
theorem rl_directErrno (w : World) : (Rtype.directlyAssignable 49 49).run Tryd.prog w = .ok true w := by kernel_rfl
theorem rl_setErrno (ta b : Addr) (x : Int) (old : Value) (W : World) (hb : W.cell? b = some (.int .i64 x)) (ht : W.cell? ta = some old) (hf : W.frozen? ta = false) :
    (ReflectliteValue.set #[.agg #[.pointer (some ⟨2, 49, none⟩), .pointer (some ta), .int .u64 386], .agg #[.pointer (some ⟨2, 49, none⟩), .pointer (some b), .int .u64 130]]).run Tryd.prog W
      = .ok (.tuple #[]) (W.setCell ta (.int .i64 x)) := by
  rw [rls]
  simp only [Sem.run_bind, rl_partsAErrno, rl_partsSErrno, Result.andThen]
  simp [ReflectliteValue.flagAddr, loadVar, isAgg, underlying, Tryd.underlying49, hb, Result.andThen, rl_directErrno, storeVar, Value.cells, storeCells, Addr.add]
  rw [run_store Tryd.prog W ta _ _ (by rfl)]
  simp [ht, hf]
@[go_sem] theorem rl_valueOfPFault (t : Addr) (w : World) : (ReflectliteValue.unpack (.iface 71 (.pointer (some t)))).run Tryd.prog w
    = .ok (.agg #[.pointer (some ⟨2, 71, none⟩), .pointer (some ⟨w.heap.size, 0, none⟩), .int .u64 150]) (w.alloc (.cells #[.pointer (some t)] 71)) := by kernel_rfl
@[go_sem] theorem rl_typeFault (a : Addr) (w : World) : (ReflectliteValue.methodAny (ReflectliteValue.valueError "reflectlite.Value.Type" 0) (fun t _ _ _ => ReflectliteType.toType t) #[.agg #[.pointer (some ⟨2, 71, none⟩), .pointer (some a), .int .u64 150]]).run Tryd.prog w
    = .ok (.iface 105 (.agg #[.pointer (some ⟨2, 71, none⟩)])) w := by kernel_rfl
@[go_sem] theorem rl_kindPFault (w : World) : ((ReflectliteType.abiMethod fun t => (fun a : Nat => Value.int IntKind.u8 (a : Int)) <$> Rtype.kind t) #[.pointer (some ⟨2, 71, none⟩)]).run Tryd.prog w = .ok (.int .u8 22) w := by kernel_rfl
@[go_sem] theorem rl_kindFault (w : World) : ((ReflectliteType.abiMethod fun t => (fun a : Nat => Value.int IntKind.u8 (a : Int)) <$> Rtype.kind t) #[.pointer (some ⟨2, 70, none⟩)]).run Tryd.prog w = .ok (.int .u8 22) w := by kernel_rfl
theorem rl_partsFault (a : Addr) (w : World) : (ReflectliteValue.parts (.agg #[.pointer (some ⟨2, 71, none⟩), .pointer (some a), .int .u64 150])).run Tryd.prog w = .ok (some (71, a, 150)) w := by kernel_rfl
theorem rl_isNilFault (a p : Addr) (W : World) (ha : W.cell? a = some (.pointer (some p))) :
    (ReflectliteValue.method (ReflectliteValue.valueError "reflectlite.Value.IsNil" 0) ReflectliteValue.isNil #[.agg #[.pointer (some ⟨2, 71, none⟩), .pointer (some a), .int .u64 150]]).run Tryd.prog W = .ok (.bool false) W := by
  rw [rlm]
  simp only [Sem.run_bind, rl_partsFault, Result.andThen]
  simp [ReflectliteValue.isNil, loadVar, isAgg, underlying, Tryd.underlying71, ha, Result.andThen]
@[go_sem] theorem rl_elemFault (w : World) : (ReflectliteType.method ReflectliteType.elem #[.agg #[.pointer (some ⟨2, 71, none⟩)]]).run Tryd.prog w = .ok (.iface 105 (.agg #[.pointer (some ⟨2, 70, none⟩)])) w := by kernel_rfl
@[go_sem] theorem rl_implementsFault (w : World) : (ReflectliteType.relation "Implements" ReflectliteType.implements_ #[.agg #[.pointer (some ⟨2, 70, none⟩)], .iface 105 (.agg #[.pointer (some ⟨2, 32, none⟩)])]).run Tryd.prog w = .ok (.bool true) w := by kernel_rfl
theorem rl_elemOfFault (w : World) : (Rtype.elem? 71).run Tryd.prog w = .ok (some 70) w := by kernel_rfl
theorem rl_mkFault (p : Addr) (w : World) : (ReflectliteValue.mk 70 p ReflectliteValue.flagAddr).run Tryd.prog w = .ok (.agg #[.pointer (some ⟨2, 70, none⟩), .pointer (some p), .int .u64 406]) w := by kernel_rfl
theorem rl_elemVFault (a p : Addr) (W : World) (ha : W.cell? a = some (.pointer (some p))) :
    (ReflectliteValue.method (ReflectliteValue.valueError "reflectlite.Value.Elem" 0) ReflectliteValue.elem #[.agg #[.pointer (some ⟨2, 71, none⟩), .pointer (some a), .int .u64 150]]).run Tryd.prog W
      = .ok (.agg #[.pointer (some ⟨2, 70, none⟩), .pointer (some p), .int .u64 406]) W := by
  rw [rlm]
  simp only [Sem.run_bind, rl_partsFault, Result.andThen]
  simp [ReflectliteValue.elem, loadVar, isAgg, underlying, Tryd.underlying71, ha, Result.andThen, rl_elemOfFault, rl_mkFault]
@[go_sem] theorem rl_valueOfFault (x : Addr) (w : World) : (ReflectliteValue.unpack (.iface 70 (.pointer (some x)))).run Tryd.prog w
    = .ok (.agg #[.pointer (some ⟨2, 70, none⟩), .pointer (some ⟨w.heap.size, 0, none⟩), .int .u64 150]) (w.alloc (.cells #[.pointer (some x)] 70)) := by kernel_rfl
theorem rl_partsAFault (a : Addr) (w : World) : (ReflectliteValue.parts (.agg #[.pointer (some ⟨2, 70, none⟩), .pointer (some a), .int .u64 406])).run Tryd.prog w = .ok (some (70, a, 406)) w := by kernel_rfl
theorem rl_partsSFault (a : Addr) (w : World) : (ReflectliteValue.parts (.agg #[.pointer (some ⟨2, 70, none⟩), .pointer (some a), .int .u64 150])).run Tryd.prog w = .ok (some (70, a, 150)) w := by kernel_rfl
theorem rl_directFault (w : World) : (Rtype.directlyAssignable 70 70).run Tryd.prog w = .ok true w := by kernel_rfl
theorem rl_setFault (ta b : Addr) (x : Addr) (old : Value) (W : World) (hb : W.cell? b = some (.pointer (some x))) (ht : W.cell? ta = some old) (hf : W.frozen? ta = false) :
    (ReflectliteValue.set #[.agg #[.pointer (some ⟨2, 70, none⟩), .pointer (some ta), .int .u64 406], .agg #[.pointer (some ⟨2, 70, none⟩), .pointer (some b), .int .u64 150]]).run Tryd.prog W
      = .ok (.tuple #[]) (W.setCell ta (.pointer (some x))) := by
  rw [rls]
  simp only [Sem.run_bind, rl_partsAFault, rl_partsSFault, Result.andThen]
  simp [ReflectliteValue.flagAddr, loadVar, isAgg, underlying, Tryd.underlying70, hb, Result.andThen, rl_directFault, storeVar, Value.cells, storeCells, Addr.add]
  rw [run_store Tryd.prog W ta _ _ (by rfl)]
  simp [ht, hf]
@[go_sem] theorem rl_valueOfPPlace (t : Addr) (w : World) : (ReflectliteValue.unpack (.iface 75 (.pointer (some t)))).run Tryd.prog w
    = .ok (.agg #[.pointer (some ⟨2, 75, none⟩), .pointer (some ⟨w.heap.size, 0, none⟩), .int .u64 150]) (w.alloc (.cells #[.pointer (some t)] 75)) := by kernel_rfl
@[go_sem] theorem rl_typePlace (a : Addr) (w : World) : (ReflectliteValue.methodAny (ReflectliteValue.valueError "reflectlite.Value.Type" 0) (fun t _ _ _ => ReflectliteType.toType t) #[.agg #[.pointer (some ⟨2, 75, none⟩), .pointer (some a), .int .u64 150]]).run Tryd.prog w
    = .ok (.iface 105 (.agg #[.pointer (some ⟨2, 75, none⟩)])) w := by kernel_rfl
@[go_sem] theorem rl_kindPPlace (w : World) : ((ReflectliteType.abiMethod fun t => (fun a : Nat => Value.int IntKind.u8 (a : Int)) <$> Rtype.kind t) #[.pointer (some ⟨2, 75, none⟩)]).run Tryd.prog w = .ok (.int .u8 22) w := by kernel_rfl
@[go_sem] theorem rl_kindPlace (w : World) : ((ReflectliteType.abiMethod fun t => (fun a : Nat => Value.int IntKind.u8 (a : Int)) <$> Rtype.kind t) #[.pointer (some ⟨2, 74, none⟩)]).run Tryd.prog w = .ok (.int .u8 22) w := by kernel_rfl
theorem rl_partsPlace (a : Addr) (w : World) : (ReflectliteValue.parts (.agg #[.pointer (some ⟨2, 75, none⟩), .pointer (some a), .int .u64 150])).run Tryd.prog w = .ok (some (75, a, 150)) w := by kernel_rfl
theorem rl_isNilPlace (a p : Addr) (W : World) (ha : W.cell? a = some (.pointer (some p))) :
    (ReflectliteValue.method (ReflectliteValue.valueError "reflectlite.Value.IsNil" 0) ReflectliteValue.isNil #[.agg #[.pointer (some ⟨2, 75, none⟩), .pointer (some a), .int .u64 150]]).run Tryd.prog W = .ok (.bool false) W := by
  rw [rlm]
  simp only [Sem.run_bind, rl_partsPlace, Result.andThen]
  simp [ReflectliteValue.isNil, loadVar, isAgg, underlying, Tryd.underlying75, ha, Result.andThen]
@[go_sem] theorem rl_elemPlace (w : World) : (ReflectliteType.method ReflectliteType.elem #[.agg #[.pointer (some ⟨2, 75, none⟩)]]).run Tryd.prog w = .ok (.iface 105 (.agg #[.pointer (some ⟨2, 74, none⟩)])) w := by kernel_rfl
@[go_sem] theorem rl_implementsPlace (w : World) : (ReflectliteType.relation "Implements" ReflectliteType.implements_ #[.agg #[.pointer (some ⟨2, 74, none⟩)], .iface 105 (.agg #[.pointer (some ⟨2, 32, none⟩)])]).run Tryd.prog w = .ok (.bool true) w := by kernel_rfl
theorem rl_elemOfPlace (w : World) : (Rtype.elem? 75).run Tryd.prog w = .ok (some 74) w := by kernel_rfl
theorem rl_mkPlace (p : Addr) (w : World) : (ReflectliteValue.mk 74 p ReflectliteValue.flagAddr).run Tryd.prog w = .ok (.agg #[.pointer (some ⟨2, 74, none⟩), .pointer (some p), .int .u64 406]) w := by kernel_rfl
theorem rl_elemVPlace (a p : Addr) (W : World) (ha : W.cell? a = some (.pointer (some p))) :
    (ReflectliteValue.method (ReflectliteValue.valueError "reflectlite.Value.Elem" 0) ReflectliteValue.elem #[.agg #[.pointer (some ⟨2, 75, none⟩), .pointer (some a), .int .u64 150]]).run Tryd.prog W
      = .ok (.agg #[.pointer (some ⟨2, 74, none⟩), .pointer (some p), .int .u64 406]) W := by
  rw [rlm]
  simp only [Sem.run_bind, rl_partsPlace, Result.andThen]
  simp [ReflectliteValue.elem, loadVar, isAgg, underlying, Tryd.underlying75, ha, Result.andThen, rl_elemOfPlace, rl_mkPlace]
@[go_sem] theorem rl_valueOfPlace (x : Addr) (w : World) : (ReflectliteValue.unpack (.iface 74 (.pointer (some x)))).run Tryd.prog w
    = .ok (.agg #[.pointer (some ⟨2, 74, none⟩), .pointer (some ⟨w.heap.size, 0, none⟩), .int .u64 150]) (w.alloc (.cells #[.pointer (some x)] 74)) := by kernel_rfl
theorem rl_partsAPlace (a : Addr) (w : World) : (ReflectliteValue.parts (.agg #[.pointer (some ⟨2, 74, none⟩), .pointer (some a), .int .u64 406])).run Tryd.prog w = .ok (some (74, a, 406)) w := by kernel_rfl
theorem rl_partsSPlace (a : Addr) (w : World) : (ReflectliteValue.parts (.agg #[.pointer (some ⟨2, 74, none⟩), .pointer (some a), .int .u64 150])).run Tryd.prog w = .ok (some (74, a, 150)) w := by kernel_rfl
theorem rl_directPlace (w : World) : (Rtype.directlyAssignable 74 74).run Tryd.prog w = .ok true w := by kernel_rfl
theorem rl_setPlace (ta b : Addr) (x : Addr) (old : Value) (W : World) (hb : W.cell? b = some (.pointer (some x))) (ht : W.cell? ta = some old) (hf : W.frozen? ta = false) :
    (ReflectliteValue.set #[.agg #[.pointer (some ⟨2, 74, none⟩), .pointer (some ta), .int .u64 406], .agg #[.pointer (some ⟨2, 74, none⟩), .pointer (some b), .int .u64 150]]).run Tryd.prog W
      = .ok (.tuple #[]) (W.setCell ta (.pointer (some x))) := by
  rw [rls]
  simp only [Sem.run_bind, rl_partsAPlace, rl_partsSPlace, Result.andThen]
  simp [ReflectliteValue.flagAddr, loadVar, isAgg, underlying, Tryd.underlying74, hb, Result.andThen, rl_directPlace, storeVar, Value.cells, storeCells, Addr.add]
  rw [run_store Tryd.prog W ta _ _ (by rfl)]
  simp [ht, hf]
@[go_sem] theorem rl_typeOfErrno (v : Value) (w : World) : (ReflectliteType.typeOf #[.iface 49 v]).run Tryd.prog w = .ok (.iface 105 (.agg #[.pointer (some ⟨2, 49, none⟩)])) w := by kernel_rfl
@[go_sem] theorem rl_assignErrnoErrno (w : World) : (ReflectliteType.relation "AssignableTo" ReflectliteType.assignableTo #[.agg #[.pointer (some ⟨2, 49, none⟩)], .iface 105 (.agg #[.pointer (some ⟨2, 49, none⟩)])]).run Tryd.prog w = .ok (.bool true) w := by kernel_rfl
@[go_sem] theorem rl_assignErrnoFault (w : World) : (ReflectliteType.relation "AssignableTo" ReflectliteType.assignableTo #[.agg #[.pointer (some ⟨2, 49, none⟩)], .iface 105 (.agg #[.pointer (some ⟨2, 70, none⟩)])]).run Tryd.prog w = .ok (.bool false) w := by kernel_rfl
@[go_sem] theorem rl_assignErrnoPlace (w : World) : (ReflectliteType.relation "AssignableTo" ReflectliteType.assignableTo #[.agg #[.pointer (some ⟨2, 49, none⟩)], .iface 105 (.agg #[.pointer (some ⟨2, 74, none⟩)])]).run Tryd.prog w = .ok (.bool false) w := by kernel_rfl
@[go_sem] theorem rl_noAsErrno (v : Value) (xT : TypeId) (w : World) : (Instr.typeAssert (.iface 49 v) xT 110 true).run Tryd.prog w = .ok (.tuple #[.nilIface, .bool false]) w := run_typeAssert_lacksB Tryd.underlying110 (by kernel_rfl) (by kernel_rfl) v xT w
@[go_sem] theorem rl_noUnwrapErrno (v : Value) (xT : TypeId) (w : World) : (Instr.typeAssert (.iface 49 v) xT 113 true).run Tryd.prog w = .ok (.tuple #[.nilIface, .bool false]) w := run_typeAssert_lacksB Tryd.underlying113 (by kernel_rfl) (by kernel_rfl) v xT w
@[go_sem] theorem rl_noUnwrapsErrno (v : Value) (xT : TypeId) (w : World) : (Instr.typeAssert (.iface 49 v) xT 115 true).run Tryd.prog w = .ok (.tuple #[.nilIface, .bool false]) w := run_typeAssert_lacksB Tryd.underlying115 (by kernel_rfl) (by kernel_rfl) v xT w
@[go_sem] theorem rl_typeOfFault (v : Value) (w : World) : (ReflectliteType.typeOf #[.iface 70 v]).run Tryd.prog w = .ok (.iface 105 (.agg #[.pointer (some ⟨2, 70, none⟩)])) w := by kernel_rfl
@[go_sem] theorem rl_assignFaultErrno (w : World) : (ReflectliteType.relation "AssignableTo" ReflectliteType.assignableTo #[.agg #[.pointer (some ⟨2, 70, none⟩)], .iface 105 (.agg #[.pointer (some ⟨2, 49, none⟩)])]).run Tryd.prog w = .ok (.bool false) w := by kernel_rfl
@[go_sem] theorem rl_assignFaultFault (w : World) : (ReflectliteType.relation "AssignableTo" ReflectliteType.assignableTo #[.agg #[.pointer (some ⟨2, 70, none⟩)], .iface 105 (.agg #[.pointer (some ⟨2, 70, none⟩)])]).run Tryd.prog w = .ok (.bool true) w := by kernel_rfl
@[go_sem] theorem rl_assignFaultPlace (w : World) : (ReflectliteType.relation "AssignableTo" ReflectliteType.assignableTo #[.agg #[.pointer (some ⟨2, 70, none⟩)], .iface 105 (.agg #[.pointer (some ⟨2, 74, none⟩)])]).run Tryd.prog w = .ok (.bool false) w := by kernel_rfl
@[go_sem] theorem rl_noAsFault (v : Value) (xT : TypeId) (w : World) : (Instr.typeAssert (.iface 70 v) xT 110 true).run Tryd.prog w = .ok (.tuple #[.nilIface, .bool false]) w := run_typeAssert_lacksB Tryd.underlying110 (by kernel_rfl) (by kernel_rfl) v xT w
@[go_sem] theorem rl_hasUnwrapFault (v : Value) (xT : TypeId) (w : World) : (Instr.typeAssert (.iface 70 v) xT 113 true).run Tryd.prog w = .ok (.tuple #[.iface 70 v, .bool true]) w := run_typeAssert_hasB Tryd.underlying113 (by kernel_rfl) v xT w
@[go_sem] theorem rl_noUnwrapsFault (v : Value) (xT : TypeId) (w : World) : (Instr.typeAssert (.iface 70 v) xT 115 true).run Tryd.prog w = .ok (.tuple #[.nilIface, .bool false]) w := run_typeAssert_lacksB Tryd.underlying115 (by kernel_rfl) (by kernel_rfl) v xT w
@[go_sem] theorem rl_typeOfPlace (v : Value) (w : World) : (ReflectliteType.typeOf #[.iface 74 v]).run Tryd.prog w = .ok (.iface 105 (.agg #[.pointer (some ⟨2, 74, none⟩)])) w := by kernel_rfl
@[go_sem] theorem rl_assignPlaceErrno (w : World) : (ReflectliteType.relation "AssignableTo" ReflectliteType.assignableTo #[.agg #[.pointer (some ⟨2, 74, none⟩)], .iface 105 (.agg #[.pointer (some ⟨2, 49, none⟩)])]).run Tryd.prog w = .ok (.bool false) w := by kernel_rfl
@[go_sem] theorem rl_assignPlaceFault (w : World) : (ReflectliteType.relation "AssignableTo" ReflectliteType.assignableTo #[.agg #[.pointer (some ⟨2, 74, none⟩)], .iface 105 (.agg #[.pointer (some ⟨2, 70, none⟩)])]).run Tryd.prog w = .ok (.bool false) w := by kernel_rfl
@[go_sem] theorem rl_assignPlacePlace (w : World) : (ReflectliteType.relation "AssignableTo" ReflectliteType.assignableTo #[.agg #[.pointer (some ⟨2, 74, none⟩)], .iface 105 (.agg #[.pointer (some ⟨2, 74, none⟩)])]).run Tryd.prog w = .ok (.bool true) w := by kernel_rfl
@[go_sem] theorem rl_noAsPlace (v : Value) (xT : TypeId) (w : World) : (Instr.typeAssert (.iface 74 v) xT 110 true).run Tryd.prog w = .ok (.tuple #[.nilIface, .bool false]) w := run_typeAssert_lacksB Tryd.underlying110 (by kernel_rfl) (by kernel_rfl) v xT w
@[go_sem] theorem rl_hasUnwrapPlace (v : Value) (xT : TypeId) (w : World) : (Instr.typeAssert (.iface 74 v) xT 113 true).run Tryd.prog w = .ok (.tuple #[.iface 74 v, .bool true]) w := run_typeAssert_hasB Tryd.underlying113 (by kernel_rfl) v xT w
@[go_sem] theorem rl_noUnwrapsPlace (v : Value) (xT : TypeId) (w : World) : (Instr.typeAssert (.iface 74 v) xT 115 true).run Tryd.prog w = .ok (.tuple #[.nilIface, .bool false]) w := run_typeAssert_lacksB Tryd.underlying115 (by kernel_rfl) (by kernel_rfl) v xT w
@[go_sem] theorem rl_unwrapFault (h : Value) (w : World) : (Go.method 251 70 h "Unwrap").run Tryd.prog w = .ok (89, h) w := by kernel_rfl
@[go_sem] theorem rl_unwrapPlace (h : Value) (w : World) : (Go.method 251 74 h "Unwrap").run Tryd.prog w = .ok (91, h) w := by kernel_rfl
@[go_sem] theorem rl_callF6 (args : Array Value) (w : World) : (callFunc 52 args).run Tryd.prog w = (((fun args => ReflectliteValue.unpack (args.getD 0 (.tuple #[]))) args).run Tryd.prog w).andThen fun v w' => .ok (.value v) w' := @run_callFunc_extern Tryd.prog 52 _ (fun args => ReflectliteValue.unpack (args.getD 0 (.tuple #[]))) Tryd.func52 (by kernel_rfl) (by kernel_rfl) (by kernel_rfl) (by kernel_rfl) args w
@[go_sem] theorem rl_callF7 (args : Array Value) (w : World) : (callFunc 53 args).run Tryd.prog w = (((ReflectliteValue.methodAny (ReflectliteValue.valueError "reflectlite.Value.Type" 0) (fun t _ _ _ => ReflectliteType.toType t)) args).run Tryd.prog w).andThen fun v w' => .ok (.value v) w' := @run_callFunc_extern Tryd.prog 53 _ (ReflectliteValue.methodAny (ReflectliteValue.valueError "reflectlite.Value.Type" 0) (fun t _ _ _ => ReflectliteType.toType t)) Tryd.func53 (by kernel_rfl) (by kernel_rfl) (by kernel_rfl) (by kernel_rfl) args w
@[go_sem] theorem rl_callF8 (args : Array Value) (w : World) : (callFunc 54 args).run Tryd.prog w = (((ReflectliteValue.method (ReflectliteValue.valueError "reflectlite.Value.IsNil" 0) ReflectliteValue.isNil) args).run Tryd.prog w).andThen fun v w' => .ok (.value v) w' := @run_callFunc_extern Tryd.prog 54 _ (ReflectliteValue.method (ReflectliteValue.valueError "reflectlite.Value.IsNil" 0) ReflectliteValue.isNil) Tryd.func54 (by kernel_rfl) (by kernel_rfl) (by kernel_rfl) (by kernel_rfl) args w
@[go_sem] theorem rl_callF27 (args : Array Value) (w : World) : (callFunc 84 args).run Tryd.prog w = (((ReflectliteType.abiMethod fun t => do pure (.int .u8 (← Rtype.kind t))) args).run Tryd.prog w).andThen fun v w' => .ok (.value v) w' := @run_callFunc_extern Tryd.prog 84 _ (ReflectliteType.abiMethod fun t => do pure (.int .u8 (← Rtype.kind t))) Tryd.func84 (by kernel_rfl) (by kernel_rfl) (by kernel_rfl) (by kernel_rfl) args w
@[go_sem] theorem rl_callF37 (args : Array Value) (w : World) : (callFunc 98 args).run Tryd.prog w = (((ReflectliteType.method ReflectliteType.elem) args).run Tryd.prog w).andThen fun v w' => .ok (.value v) w' := @run_callFunc_extern Tryd.prog 98 _ (ReflectliteType.method ReflectliteType.elem) Tryd.func98 (by kernel_rfl) (by kernel_rfl) (by kernel_rfl) (by kernel_rfl) args w
@[go_sem] theorem rl_callF38 (args : Array Value) (w : World) : (callFunc 99 args).run Tryd.prog w = (((ReflectliteType.relation "Implements" ReflectliteType.implements_) args).run Tryd.prog w).andThen fun v w' => .ok (.value v) w' := @run_callFunc_extern Tryd.prog 99 _ (ReflectliteType.relation "Implements" ReflectliteType.implements_) Tryd.func99 (by kernel_rfl) (by kernel_rfl) (by kernel_rfl) (by kernel_rfl) args w
@[go_sem] theorem rl_callF10 (args : Array Value) (w : World) : (callFunc 62 args).run Tryd.prog w = (((ReflectliteType.typeOf) args).run Tryd.prog w).andThen fun v w' => .ok (.value v) w' := @run_callFunc_extern Tryd.prog 62 _ (ReflectliteType.typeOf) Tryd.func62 (by kernel_rfl) (by kernel_rfl) (by kernel_rfl) (by kernel_rfl) args w
@[go_sem] theorem rl_callF35 (args : Array Value) (w : World) : (callFunc 96 args).run Tryd.prog w = (((ReflectliteType.relation "AssignableTo" ReflectliteType.assignableTo) args).run Tryd.prog w).andThen fun v w' => .ok (.value v) w' := @run_callFunc_extern Tryd.prog 96 _ (ReflectliteType.relation "AssignableTo" ReflectliteType.assignableTo) Tryd.func96 (by kernel_rfl) (by kernel_rfl) (by kernel_rfl) (by kernel_rfl) args w
@[go_sem] theorem rl_callF11 (args : Array Value) (w : World) : (callFunc 63 args).run Tryd.prog w = (((ReflectliteValue.method (ReflectliteValue.valueError "reflectlite.Value.Elem" 0) ReflectliteValue.elem) args).run Tryd.prog w).andThen fun v w' => .ok (.value v) w' := @run_callFunc_extern Tryd.prog 63 _ (ReflectliteValue.method (ReflectliteValue.valueError "reflectlite.Value.Elem" 0) ReflectliteValue.elem) Tryd.func63 (by kernel_rfl) (by kernel_rfl) (by kernel_rfl) (by kernel_rfl) args w
@[go_sem] theorem rl_callF12 (args : Array Value) (w : World) : (callFunc 64 args).run Tryd.prog w = (((ReflectliteValue.set) args).run Tryd.prog w).andThen fun v w' => .ok (.value v) w' := @run_callFunc_extern Tryd.prog 64 _ (ReflectliteValue.set) Tryd.func64 (by kernel_rfl) (by kernel_rfl) (by kernel_rfl) (by kernel_rfl) args w
end Go.Proofs.YtdhcnmljkmodhaaDoor

/- errors.as, errors.As by their contracts, at chains of *oops.Place over a *oops.Fault, an api.Errno or a *errors.errorString; targets *api.Errno, **oops.Fault, **oops.Place. -/
namespace Go.Proofs.YtdhcnmljkmodhaaDoor
set_option linter.unusedSectionVars false
set_option linter.unusedVariables false
set_option linter.unusedSimpArgs false
open Go.RowKit Go.Extern.Stop Go.Stop Go.Extern

/-- What lies at the bottom of an error. -/
inductive EB where
  | fault (b : Nat) (c a : Int)
  | errno (c : Int)
def EB.val : EB → Value
  | .fault b _ _ => .iface 70 (.pointer (some ⟨b, 0, none⟩))
  | .errno c => .iface 49 (.int .i64 c)
def EB.ok (w : World) : EB → Prop
  | .fault b c a => w.cell? ⟨b, 0, none⟩ = some (.int .i64 c) ∧ w.cell? ⟨b, 1, none⟩ = some (.int .i64 a)
  | _ => True
/-- An error: places, the outermost first, over what lies at the bottom. -/
def chainV : List (Nat × ByteArray) → EB → Value
  | [], b => b.val
  | (p, _) :: _, _ => .iface 74 (.pointer (some ⟨p, 0, none⟩))
def ChainOk (w : World) : List (Nat × ByteArray) → EB → Prop
  | [], b => b.ok w
  | (p, s) :: r, b => w.cell? ⟨p, 0, none⟩ = some (.string s) ∧ w.cell? ⟨p, 1, none⟩ = some (chainV r b) ∧ ChainOk w r b
theorem EB.ok.keeps {w w' : World} {b : EB} (h : b.ok w) (hk : Keeps w w' (fun _ => False)) : b.ok w' := by
  cases b with
  | fault b c a => exact ⟨by rw [← h.1]; exact World.cell?_of_block (hk.block _ (World.block_lt_of_cell? w _ h.1) id), by rw [← h.2]; exact World.cell?_of_block (hk.block _ (World.block_lt_of_cell? w _ h.2) id)⟩
  | errno c => trivial
theorem ChainOk.keeps {w w' : World} {l : List (Nat × ByteArray)} {b : EB} (h : ChainOk w l b) (hk : Keeps w w' (fun _ => False)) : ChainOk w' l b := by
  induction l with
  | nil => exact EB.ok.keeps h hk
  | cons x r ih =>
    obtain ⟨p, s⟩ := x
    obtain ⟨h1, h2, h3⟩ := h
    exact ⟨by rw [← h1]; exact World.cell?_of_block (hk.block _ (World.block_lt_of_cell? w _ h1) id), by rw [← h2]; exact World.cell?_of_block (hk.block _ (World.block_lt_of_cell? w _ h2) id), ih h3⟩

/-- (*Fault).Unwrap: the number. -/
theorem unwrapFault_any (b : Nat) (c : Int) (w : World) (h : w.cell? ⟨b, 0, none⟩ = some (.int .i64 c)) : Calls Tryd.prog 89 #[.pointer (some ⟨b, 0, none⟩)] w fun e w' => e = .returned (.iface 49 (.int .i64 c)) ∧ w = w' := by
  go_enter Tryd.func89, Tryd.ntmps89
  go_wp2
  go_ret
  exact ⟨rfl, rfl⟩
theorem unwrapPlace_any (p : Nat) (v : Value) (w : World) (h : w.cell? ⟨p, 1, none⟩ = some v) (h1 : v.oneCell' = true) : Calls Tryd.prog 91 #[.pointer (some ⟨p, 0, none⟩)] w fun e w' => e = .returned v ∧ w = w' := by
  go_enter Tryd.func91, Tryd.ntmps91
  go_wp2
  go_ret
  exact ⟨rfl, rfl⟩

theorem chainV_one (l : List (Nat × ByteArray)) (b : EB) : (chainV l b).oneCell' = true := by
  cases l with
  | nil => cases b <;> rfl
  | cons x r => rfl
theorem chainV_iface (l : List (Nat × ByteArray)) (b : EB) : ∃ T V, chainV l b = .iface T V := by
  cases l with
  | nil => cases b <;> exact ⟨_, _, rfl⟩
  | cons x r => exact ⟨_, _, rfl⟩
@[go_sem] theorem run_eq_chain (l : List (Nat × ByteArray)) (b : EB) (W : World) : (binOp .eql 32 (chainV l b) .nilIface).run Tryd.prog W = .ok (.bool false) W := by
  obtain ⟨T, V, h⟩ := chainV_iface l b
  rw [h]
  simp [go_sem]
@[go_sem] theorem run_neq_chain (l : List (Nat × ByteArray)) (b : EB) (W : World) : (binOp .neq 32 (chainV l b) .nilIface).run Tryd.prog W = .ok (.bool true) W := by
  obtain ⟨T, V, h⟩ := chainV_iface l b
  rw [h]
  simp [go_sem]
@[go_sem] theorem run_guard_chain (op : BinOp) (x y : Operand) (l : List (Nat × ByteArray)) (b : EB) (W : World) : (eqGuard op 32 x y (chainV l b) .nilIface).run Tryd.prog W = .ok () W := by
  obtain ⟨T, V, h⟩ := chainV_iface l b
  rw [h]
  cases op <;> simp [eqGuard, go_sem]
/-- Its number. -/
def EB.code : EB → Option Int
  | .fault _ c _ => some c
  | .errno c => some c
def EB.deep : EB → Nat
  | .fault _ _ _ => 2
  | _ => 1

/-- The target is set; nothing else that was there has turned. -/
structure AsHit (w : World) (t : Addr) (v : Value) (w' : World) : Prop where
  keep : Keeps w w' (fun j => j = t.block)
  cell : w'.cell? t = some v
theorem AsHit.of {w : World} {t : Addr} (htl : t.block < w.heap.size) (o1 o2 : Obj) (v : Value) {old : Value} (ht : w.cell? t = some old) : AsHit w t v (((w.alloc o1).alloc o2).setCell t v) := by
  refine ⟨Keeps.setCell (S := fun j => j = t.block) (((Keeps.refl _ _).alloc _).alloc _) (fun _ => rfl) _, ?_⟩
  have h : ((w.alloc o1).alloc o2).cell? t = some old := by rw [World.cell?_alloc_lt _ _ t (by simp; omega), World.cell?_alloc_lt _ _ t htl]; exact ht
  exact World.cell?_setCell_same _ _ _ h

set_option maxHeartbeats 4000000 in
theorem as_place_hit (p : Nat) (s : ByteArray) (r : List (Nat × ByteArray)) (b : EB) (a t : Addr) (old : Value) (w : World) (ha : w.cell? a = some (.pointer (some t))) (ht : w.cell? t = some old) (hf : w.frozen? t = false) :
    Calls Tryd.prog 55 #[chainV ((p, s) :: r) b, .iface 75 (.pointer (some t)), .agg #[.pointer (some ⟨2, 75, none⟩), .pointer (some a), .int .u64 150], .iface 105 (.agg #[.pointer (some ⟨2, 74, none⟩)])] w fun e w' => e = .returned (.bool true) ∧ AsHit w t (.pointer (some ⟨p, 0, none⟩)) w' := by
  have HT := Lib.hid ht
  have hal : a.block < w.heap.size := World.block_lt_of_cell? w _ ha
  have htl : t.block < w.heap.size := World.block_lt_of_cell? w _ ht
  have ha1 : (w.alloc (.cells #[.pointer (some ⟨2, 75, none⟩), .pointer (some a), .int .u64 150] 88)).cell? a = some (.pointer (some t)) := by rw [World.cell?_alloc_lt _ _ a hal]; exact ha
  have el := rl_elemVPlace a t (w.alloc (.cells #[.pointer (some ⟨2, 75, none⟩), .pointer (some a), .int .u64 150] 88)) ha1
  have st := rl_setPlace t ⟨w.heap.size + 1, 0, none⟩ (⟨p, 0, none⟩) old ((w.alloc (.cells #[.pointer (some ⟨2, 75, none⟩), .pointer (some a), .int .u64 150] 88)).alloc (.cells #[.pointer (some ⟨p, 0, none⟩)] 74))
    (by rw [World.cell?_alloc_at _ _ _ _ (by simp)]; rfl)
    (by rw [World.cell?_alloc_lt _ _ t (by simp; omega), World.cell?_alloc_lt _ _ t htl]; exact ht)
    (by rw [World.frozen?_alloc_old _ _ t (by simp; omega), World.frozen?_alloc_old _ _ t (Nat.ne_of_lt htl)]; exact hf)
  clear ha ht hf ha1
  unfold chainV
  go_enter Tryd.func55, Tryd.ntmps55
  go_wp2
  refine wp_loop_rounds 1 ?_
  rw [rounds_succ]
  go_wp2
  go_ret
  exact ⟨rfl, AsHit.of htl _ _ _ HT.out⟩

set_option maxHeartbeats 4000000 in
theorem as_place_miss (b : EB) (a t : Addr) (w : World) (hok : b.ok w) :
    Calls Tryd.prog 55 #[b.val, .iface 75 (.pointer (some t)), .agg #[.pointer (some ⟨2, 75, none⟩), .pointer (some a), .int .u64 150], .iface 105 (.agg #[.pointer (some ⟨2, 74, none⟩)])] w fun e w' => e = .returned (.bool false) ∧ Keeps w w' (fun _ => False) := by
  have HOK := Lib.hid (EB.ok.keeps hok ((Keeps.refl w (fun _ => False)).alloc (.cells #[.pointer (some ⟨2, 75, none⟩), .pointer (some a), .int .u64 150] 88)))
  clear hok
  cases b with
  | fault g c f =>
    obtain ⟨h1, _⟩ := HOK.out
    clear HOK
    show Calls _ _ #[.iface 70 (.pointer (some ⟨g, 0, none⟩)), _, _, _] _ _
    go_enter Tryd.func55, Tryd.ntmps55
    go_wp2
    refine wp_loop_rounds 2 ?_
    rw [rounds_succ]
    go_wp2_with (first | (go_at_call 91; refine (unwrapPlace_any _ _ _ (by assumption) (chainV_one _ _)).mono ?_; rintro e w' ⟨rfl, rfl⟩) | (go_at_call 89; refine (unwrapFault_any _ _ _ (by assumption)).mono ?_; rintro e w' ⟨rfl, rfl⟩))
    rw [rounds_succ]
    go_wp2
    go_ret
    exact ⟨rfl, (Keeps.refl _ _).alloc _⟩
  | errno c =>
    clear HOK
    show Calls _ _ #[.iface 49 (.int .i64 c), _, _, _] _ _
    go_enter Tryd.func55, Tryd.ntmps55
    go_wp2
    refine wp_loop_rounds 1 ?_
    rw [rounds_succ]
    go_wp2
    go_ret
    exact ⟨rfl, (Keeps.refl _ _).alloc _⟩

set_option maxHeartbeats 4000000 in
theorem as_fault_miss (l : List (Nat × ByteArray)) (b : EB) (hb : ∀ g c f, b ≠ .fault g c f) (a t : Addr) (w : World) (hok : ChainOk w l b) :
    Calls Tryd.prog 55 #[chainV l b, .iface 71 (.pointer (some t)), .agg #[.pointer (some ⟨2, 71, none⟩), .pointer (some a), .int .u64 150], .iface 105 (.agg #[.pointer (some ⟨2, 70, none⟩)])] w fun e w' => e = .returned (.bool false) ∧ Keeps w w' (fun _ => False) := by
  have HB := Lib.hid hb
  clear hb
  have HOK := Lib.hid (hok.keeps ((Keeps.refl w (fun _ => False)).alloc (.cells #[.pointer (some ⟨2, 71, none⟩), .pointer (some a), .int .u64 150] 88)))
  clear hok
  go_enter Tryd.func55, Tryd.ntmps55
  go_wp2
  obtain ⟨w1, hw1⟩ : ∃ w1, w.alloc (.cells #[.pointer (some ⟨2, 71, none⟩), .pointer (some a), .int .u64 150] 88) = w1 := ⟨_, rfl⟩
  have HW := Lib.hid hw1
  have HOK1 : Hid (ChainOk w1 l b) := Lib.hid (hw1 ▸ HOK.out)
  rw [hw1]
  clear hw1 HOK
  go_loopg [0] (l.length + 2) (fun k v wr => ∃ l' b', v = chainV l' b' ∧ wr = w1 ∧ ChainOk w1 l' b' ∧ b' = b ∧ l'.length + 1 ≤ k)
  case atStart => exact ⟨l, b, rfl, rfl, HOK1.out, ⟨rfl, by omega⟩⟩
  case round =>
    obtain ⟨l', b', rfl, rfl, hc, hk⟩ := hrel
    cases l' with
    | cons x r =>
      obtain ⟨q, s⟩ := x
      obtain ⟨c0, c1, c2⟩ := hc
      have HC := Lib.hid c2
      have HK := Lib.hid hk
      clear c2 c0 hk HOK1
      rw [show chainV ((q, s) :: r) b' = .iface 74 (.pointer (some ⟨q, 0, none⟩)) from rfl]
      go_wp2_with (first | (go_at_call 91; refine (unwrapPlace_any _ _ _ (by assumption) (chainV_one _ _)).mono ?_; rintro e w' ⟨rfl, rfl⟩) | (go_at_call 89; refine (unwrapFault_any _ _ _ (by assumption)).mono ?_; rintro e w' ⟨rfl, rfl⟩))
      go_roundg (gk - 1)
      case measure =>
        have := HK.out
        simp at this
        omega
      case rel => exact ⟨r, b', rfl, rfl, HC.out, by have := HK.out; simp at this ⊢; exact ⟨this.1, by omega⟩⟩
    | nil =>
      obtain ⟨rfl, hk'⟩ := hk
      clear hc hk' HOK1
      cases b' with
      | fault g c f => exact absurd rfl (HB.out g c f)
      | errno c =>
        rw [show chainV [] (.errno c) = .iface 49 (.int .i64 c) from rfl]
        go_wp2
        go_ret
        refine ⟨rfl, ?_⟩
        rw [← HW.out]
        exact (Keeps.refl _ _).alloc _
end Go.Proofs.YtdhcnmljkmodhaaDoor
