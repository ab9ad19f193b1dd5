/- A region that draws its order, whose operations leave what was there as it was ('Ev'), but may make memory, and whose results may hang on the world (a new slice): one walk of the lexical order serves every order. 'S': the slots of those results; 'F d v w': what is said of the result v in slot d, in the world w. -/
import Derived.Orders
import Derived.Still
import Derived.Deep.QuietTactic
import Derived.BigQuiet
namespace Go.Proofs.YtdhcnmljkmodhaaDoor
set_option linter.unusedSectionVars false
set_option linter.unusedVariables false
set_option linter.unusedSimpArgs false
open Go

section
variable {P : Program} {ops : Array Oper} {Ev : World → World → Prop} {C : World → Prop} {F : Tmp → Value → World → Prop} {S : List Tmp}

@[go_sem] def opGives (P : Program) (R : Value → World → Prop) : Result Next → Prop
  | .ok (.value v) w' => R v w'
  | .ok (.enter f args) w' => Calls P f args w' (fun e w'' => ∃ v, e = .returned v ∧ R v w'')
  | _ => False
def plainUpon (w : World) (v : Value) : Result Next → Prop
  | .ok (.value u) w' => w' = w ∧ u = v
  | .ok .skip w' => w' = w ∧ v = undef
  | _ => False
def FactsFor (F : Tmp → Value → World → Prop) (ops : Array Oper) (o : Oper) (D : List (Tmp × Value)) (w : World) : Prop := ∀ p ∈ D, p.1 ∈ o.looksAt ops → F p.1 p.2 w
def Facts (F : Tmp → Value → World → Prop) (D : List (Tmp × Value)) (w : World) : Prop := ∀ p ∈ D, F p.1 p.2 w

/-- Is the result one of S? -/
def inS (S : List Tmp) (o : Oper) : Option Tmp := o.dst.filter S.contains

/-- One operation, and what is asked behind it. -/
def opF (P : Program) (ops : Array Oper) (Ev : World → World → Prop) (C : World → Prop) (F : Tmp → Value → World → Prop) (S : List Tmp) (o : Oper) (D : List (Tmp × Value)) (a : Act) (K : List (Tmp × Value) → Act → Prop) : Prop :=
  if Region.wanted o (yielded ops a.tmps) then
    match inS S o with
    | none => (∃ w, C w ∧ FactsFor F ops o D w) → ∃ v, (∀ w, C w → FactsFor F ops o D w → plainUpon w v ((execOp a.eval o).run P w)) ∧ K D (a.put o.dst v)
    | some d => (∀ w, C w → FactsFor F ops o D w → opGives P (fun v w' => Ev w w' ∧ F d v w') ((execOp a.eval o).run P w)) ∧ ∀ v, (∃ w, C w ∧ Facts F ((d, v) :: D) w) → K ((d, v) :: D) (a.put o.dst v)
  else K D (a.put o.dst undef)
/-- The lexical walk. -/
def wpF (P : Program) (ops : Array Oper) (Ev : World → World → Prop) (C : World → Prop) (F : Tmp → Value → World → Prop) (S : List Tmp) (Q : Act → World → Prop) : List Oper → List (Tmp × Value) → Act → Prop
  | [], D, a => ∀ w, C w → Facts F D w → Q a w
  | o :: l, D, a => opF P ops Ev C F S o D a (wpF P ops Ev C F S Q l)
/-- One operation in one world. -/
def front (P : Program) (ops : Array Oper) (Ev : World → World → Prop) (C : World → Prop) (F : Tmp → Value → World → Prop) (S : List Tmp) (o : Oper) (D : List (Tmp × Value)) (a : Act) (w : World) (K : List (Tmp × Value) → Act → Prop) : Prop :=
  if Region.wanted o (yielded ops a.tmps) then
    match inS S o with
    | none => ∃ v, plainUpon w v ((execOp a.eval o).run P w) ∧ K D (a.put o.dst v)
    | some d => opGives P (fun v w' => Ev w w' ∧ F d v w') ((execOp a.eval o).run P w) ∧ ∀ v, (∃ w, C w ∧ Facts F ((d, v) :: D) w) → K ((d, v) :: D) (a.put o.dst v)
  else K D (a.put o.dst undef)

theorem plainUpon_unique {w : World} {u v : Value} {r : Result Next} (h : plainUpon w u r) (k : plainUpon w v r) : u = v := by
  cases r with
  | ok n w' => cases n <;> simp only [plainUpon] at h k <;> first | (exact h.elim) | (obtain ⟨_, rfl⟩ := h; obtain ⟨_, rfl⟩ := k; rfl)
  | halt x w' => simp only [plainUpon] at h
theorem opGives_exists {R : Value → World → Prop} {r : Result Next} (h : opGives P R r) : ∃ v w, R v w := by
  cases r with
  | ok n w' =>
    cases n <;> simp only [opGives] at h <;> first | (exact h.elim) | (exact ⟨_, _, h⟩) | skip
    obtain ⟨e, w2, fr, ⟨v, _, hR⟩, _⟩ := h []
    exact ⟨v, w2, hR⟩
  | halt x w' => simp only [opGives] at h
theorem Facts.for {D : List (Tmp × Value)} {w : World} {o : Oper} (h : Facts F D w) : FactsFor F ops o D w := fun p hp _ => h p hp
theorem Facts.sub {D D' : List (Tmp × Value)} {w : World} (hD : ∀ p ∈ D, p ∈ D') (h : Facts F D' w) : Facts F D w := fun p hp => h p (hD p hp)
theorem FactsFor.sub {D D' : List (Tmp × Value)} {w : World} {o : Oper} (hD : ∀ p ∈ D, p ∈ D') (h : FactsFor F ops o D' w) : FactsFor F ops o D w := fun p hp => h p (hD p hp)
theorem cons_sub {D D' : List (Tmp × Value)} (hD : ∀ p ∈ D, p ∈ D') (x : Tmp × Value) : ∀ p ∈ x :: D, p ∈ x :: D' := fun p hp => by
  rcases List.mem_cons.1 hp with rfl | hp
  · exact List.mem_cons_self
  · exact List.mem_cons_of_mem _ (hD p hp)

theorem wpF_mono {Q : Act → World → Prop} : ∀ (l : List Oper) (D D' : List (Tmp × Value)) (a : Act), (∀ p ∈ D, p ∈ D') → wpF P ops Ev C F S Q l D a → wpF P ops Ev C F S Q l D' a
  | [], D, D', a, hD, h => fun w hw hf => h w hw (hf.sub hD)
  | o :: l, D, D', a, hD, h => by
    unfold wpF opF at *
    split
    · rename_i hw
      rw [if_pos hw] at h
      split
      · rename_i hS
        rw [hS] at h
        rintro ⟨w0, c0, f0⟩
        obtain ⟨v, h1, h2⟩ := h ⟨w0, c0, f0.sub hD⟩
        exact ⟨v, fun w hc hf => h1 w hc (hf.sub hD), wpF_mono l D D' _ hD h2⟩
      · rename_i d hS
        rw [hS] at h
        exact ⟨fun w hc hf => h.1 w hc (hf.sub hD), fun v ⟨w, hc, hf⟩ => wpF_mono l _ _ _ (cons_sub hD _) (h.2 v ⟨w, hc, hf.sub (cons_sub hD _)⟩)⟩
    · rename_i hw
      rw [if_neg hw] at h
      exact wpF_mono l D D' _ hD h

theorem put_comm' {o p : Oper} (h : ∀ d, o.dst = some d → p.dst ≠ some d) (a : Act) (u v : Value) : (a.put p.dst v).put o.dst u = (a.put o.dst u).put p.dst v :=
  (Act.put_comm a u v h).symm

/-- An operation that waits for none of those ahead of it may be taken first. -/
theorem front_of (hEv : ∀ w w', C w → Ev w w' → C w') (hF : ∀ d v w w', F d v w → Ev w w' → F d v w') {Q : Act → World → Prop} (oi : Oper) (hsi : ∀ cs b, oi.op ≠ .select cs b) (l2 : List Oper) : ∀ (l1 : List Oper) (D : List (Tmp × Value)) (a : Act) (w wv : World),
    (∀ o ∈ l1, o.apart ops oi = true ∧ ∀ cs b, o.op ≠ .select cs b) → C w → FactsFor F ops oi D w → C wv → Facts F D wv → wpF P ops Ev C F S Q (l1 ++ oi :: l2) D a →
    front P ops Ev C F S oi D a w (wpF P ops Ev C F S Q (l1 ++ l2))
  | [], D, a, w, wv, _, hC, hD, _, _, h => by
    unfold front
    rw [List.nil_append] at h
    unfold wpF opF at h
    split
    · rename_i hw
      rw [if_pos hw] at h
      split
      · rename_i hS
        rw [hS] at h
        obtain ⟨v, h1, h2⟩ := h ⟨w, hC, hD⟩
        exact ⟨v, h1 w hC hD, h2⟩
      · rename_i d hS
        rw [hS] at h
        exact ⟨h.1 w hC hD, h.2⟩
    · rename_i hw
      rw [if_neg hw] at h
      exact h
  | o :: l1, D, a, w, wv, hap, hC, hD, hCv, hDv, h => by
    obtain ⟨hapo, hso⟩ := hap o List.mem_cons_self
    have hap' : ∀ o ∈ l1, o.apart ops oi = true ∧ ∀ cs b, o.op ≠ .select cs b := fun p hp => hap p (List.mem_cons_of_mem _ hp)
    obtain ⟨p1, p2, p3⟩ := Oper.apart_spec hapo
    have wi : ∀ (a : Act) v, Region.wanted oi (yielded ops (a.put o.dst v).tmps) = Region.wanted oi (yielded ops a.tmps) := fun a v => wanted_put oi a o.dst v p1
    have ei : ∀ (a : Act) v, execOp (a.put o.dst v).eval oi = execOp a.eval oi := fun a v => execOp_put oi hsi a o.dst v p1
    have wo : ∀ (a : Act) v, Region.wanted o (yielded ops (a.put oi.dst v).tmps) = Region.wanted o (yielded ops a.tmps) := fun a v => wanted_put o a oi.dst v p3
    have eo : ∀ (a : Act) v, execOp (a.put oi.dst v).eval o = execOp a.eval o := fun a v => execOp_put o hso a oi.dst v p3
    have pc : ∀ (a : Act) (u v : Value), (a.put oi.dst v).put o.dst u = (a.put o.dst u).put oi.dst v := fun a u v => (Act.put_comm a u v p2).symm
    rw [List.cons_append] at h
    unfold wpF opF at h
    by_cases hw : Region.wanted o (yielded ops a.tmps) = true
    · rw [if_pos hw] at h
      cases hS : inS S o with
      | none =>
        rw [hS] at h
        obtain ⟨v, h1, h2⟩ := h ⟨wv, hCv, hDv.for⟩
        have ih := front_of hEv hF oi hsi l2 l1 D (a.put o.dst v) w wv hap' hC hD hCv hDv h2
        have back : ∀ D' u, (∀ p ∈ D, p ∈ D') → wpF P ops Ev C F S Q (l1 ++ l2) D' ((a.put o.dst v).put oi.dst u) → wpF P ops Ev C F S Q (o :: l1 ++ l2) D' (a.put oi.dst u) := fun D' u hD' hk => by
          rw [List.cons_append]
          unfold wpF opF
          rw [wo, if_pos hw, hS, eo]
          exact fun _ => ⟨v, fun w' hc hf => h1 w' hc (hf.sub hD'), by rw [pc]; exact hk⟩
        unfold front at ih ⊢
        rw [wi, ei] at ih
        split
        · rename_i hwi
          rw [if_pos hwi] at ih
          cases hSi : inS S oi with
          | none =>
            rw [hSi] at ih
            obtain ⟨u, i1, i2⟩ := ih
            exact ⟨u, i1, back D u (fun _ h => h) i2⟩
          | some d =>
            rw [hSi] at ih
            exact ⟨ih.1, fun u hu => back _ u (fun p hp => List.mem_cons_of_mem _ hp) (ih.2 u hu)⟩
        · rename_i hwi
          rw [if_neg hwi] at ih
          exact back D undef (fun _ h => h) ih
      | some d =>
        rw [hS] at h
        obtain ⟨h1, h2⟩ := h
        have hdo : o.dst = some d := by
          unfold inS at hS
          exact (Option.filter_eq_some_iff.1 hS).1
        have hdi : d ∉ oi.looksAt ops := p1 d hdo
        have fi : ∀ v, FactsFor F ops oi ((d, v) :: D) w := fun v p hp hl => by
          rcases List.mem_cons.1 hp with rfl | hp
          · exact absurd hl hdi
          · exact hD p hp hl
        have ih : ∀ v, (∃ w1, C w1 ∧ Facts F ((d, v) :: D) w1) → front P ops Ev C F S oi ((d, v) :: D) (a.put o.dst v) w (wpF P ops Ev C F S Q (l1 ++ l2)) := fun v ⟨w1, c1, f1⟩ =>
          front_of hEv hF oi hsi l2 l1 ((d, v) :: D) (a.put o.dst v) w w1 hap' hC (fi v) c1 f1 (h2 v ⟨w1, c1, f1⟩)
        obtain ⟨v0, w0, e0, g0⟩ := opGives_exists (h1 wv hCv hDv.for)
        have x0 : ∃ w1, C w1 ∧ Facts F ((d, v0) :: D) w1 := ⟨w0, hEv _ _ hCv e0, fun p hp => by
          rcases List.mem_cons.1 hp with rfl | hp
          · exact g0
          · exact hF _ _ _ _ (hDv p hp) e0⟩
        have ih0 := ih v0 x0
        have back : ∀ D' u, (∀ p ∈ D, p ∈ D') → (∀ v, (∃ w1, C w1 ∧ Facts F ((d, v) :: D') w1) → wpF P ops Ev C F S Q (l1 ++ l2) ((d, v) :: D') ((a.put o.dst v).put oi.dst u)) → wpF P ops Ev C F S Q (o :: l1 ++ l2) D' (a.put oi.dst u) := fun D' u hD' hk => by
          rw [List.cons_append]
          unfold wpF opF
          rw [wo, if_pos hw, hS, eo]
          exact ⟨fun w' hc hf => h1 w' hc (hf.sub hD'), fun v hv => by rw [pc]; exact hk v hv⟩
        unfold front at ih ih0 ⊢
        rw [wi, ei] at ih0
        split
        · rename_i hwi
          rw [if_pos hwi] at ih0
          cases hSi : inS S oi with
          | none =>
            rw [hSi] at ih0
            obtain ⟨u, i1, i2⟩ := ih0
            refine ⟨u, i1, back D u (fun _ h => h) (fun v hv => ?_)⟩
            have ihv := ih v hv
            rw [wi, ei, if_pos hwi, hSi] at ihv
            obtain ⟨u', j1, j2⟩ := ihv
            obtain rfl := plainUpon_unique i1 j1
            exact j2
          | some e =>
            rw [hSi] at ih0
            refine ⟨ih0.1, fun u hu => back _ u (fun p hp => List.mem_cons_of_mem _ hp) (fun v hv => ?_)⟩
            have sw : ∀ p ∈ (e, u) :: (d, v) :: D, p ∈ (d, v) :: (e, u) :: D := fun p hp => by
              simp only [List.mem_cons] at hp ⊢
              rcases hp with h | h | h
              · exact .inr (.inl h)
              · exact .inl h
              · exact .inr (.inr h)
            obtain ⟨w1, c1, f1⟩ := hv
            have ihv := ih v ⟨w1, c1, f1.sub (cons_sub (fun p hp => List.mem_cons_of_mem _ hp) _)⟩
            rw [wi, ei, if_pos hwi, hSi] at ihv
            exact wpF_mono _ _ _ _ sw (ihv.2 u ⟨w1, c1, f1.sub sw⟩)
        · rename_i hwi
          rw [if_neg hwi] at ih0
          refine back D undef (fun _ h => h) (fun v hv => ?_)
          have ihv := ih v hv
          rw [wi, if_neg hwi] at ihv
          exact ihv
    · rw [if_neg hw] at h
      have ih := front_of hEv hF oi hsi l2 l1 D (a.put o.dst undef) w wv hap' hC hD hCv hDv h
      have back : ∀ D' u, wpF P ops Ev C F S Q (l1 ++ l2) D' ((a.put o.dst undef).put oi.dst u) → wpF P ops Ev C F S Q (o :: l1 ++ l2) D' (a.put oi.dst u) := fun D' u hk => by
        rw [List.cons_append]
        unfold wpF opF
        rw [wo, if_neg hw, pc]
        exact hk
      unfold front at ih ⊢
      rw [wi, ei] at ih
      split
      · rename_i hwi
        rw [if_pos hwi] at ih
        cases hSi : inS S oi with
        | none =>
          rw [hSi] at ih
          obtain ⟨u, i1, i2⟩ := ih
          exact ⟨u, i1, back D u i2⟩
        | some d =>
          rw [hSi] at ih
          exact ⟨ih.1, fun u hu => back _ u (ih.2 u hu)⟩
      · rename_i hwi
        rw [if_neg hwi] at ih
        exact back D undef ih

/-- What is asked of a region, by looking: every operation waits for earlier ones alone, and is apart from the earlier ones for which it doesn't wait. -/
def okF (ops : Array Oper) : Bool := Region.noSelect ops && (List.range ops.size).all fun i => match ops[i]? with
  | none => true
  | some o => o.after.all (fun e => !Region.binds .any e || decide (e.on < i)) && (List.range i).all fun j => match ops[j]? with
    | none => true
    | some p => o.after.any (fun e => Region.binds .any e && e.on == j) || p.apart ops o
theorem okF_spec (h : okF ops = true) : (∀ i o, ops[i]? = some o → (∀ e ∈ o.after, Region.binds .any e = true → e.on < i) ∧ ∀ j p, j < i → ops[j]? = some p → (∀ e ∈ o.after, Region.binds .any e = true → e.on ≠ j) → p.apart ops o = true) := by
  unfold okF at h
  rw [Bool.and_eq_true] at h
  intro i o ho
  have hi : i < ops.size := (Array.getElem?_eq_some_iff.1 ho).1
  have h1 := List.all_eq_true.1 h.2 i (List.mem_range.2 hi)
  rw [ho] at h1
  simp only [Bool.and_eq_true] at h1
  refine ⟨fun e he hb => ?_, fun j p hj hp hno => ?_⟩
  · have := Array.all_eq_true_iff_forall_mem.1 h1.1 e he
    simpa [hb] using this
  · have := List.all_eq_true.1 h1.2 j (List.mem_range.2 hj)
    rw [hp] at this
    simp only [Bool.or_eq_true] at this
    rcases this with h | h
    · obtain ⟨e, he, hb⟩ := Array.any_eq_true'.1 h
      rw [Bool.and_eq_true, beq_iff_eq] at hb
      exact absurd hb.2 (hno e he hb.1)
    · exact h

/-- Those that have not come up yet. -/
def open_ (ops : Array Oper) (listed : Array Bool) : List Oper := ((List.range ops.size).filter fun k => !listed.getD k true).filterMap (ops[·]?)
theorem range_split (n i : Nat) (h : i < n) : List.range n = List.range i ++ i :: (List.range' (i + 1) (n - i - 1)) := by
  rw [List.range_eq_range', List.range_eq_range', show n = i + ((n - i - 1) + 1) by omega, ← List.range'_append_1, List.range'_succ]
  congr 2
  · omega
  · congr 1 <;> omega
theorem open_split {listed : Array Bool} {i : Nat} {oi : Oper} (hi : ops[i]? = some oi) (hl : listed.getD i true = false) :
    ∃ l1 l2, open_ ops listed = l1 ++ oi :: l2 ∧ open_ ops (listed.setIfInBounds i true) = l1 ++ l2 ∧ ∀ o ∈ l1, ∃ j, j < i ∧ ops[j]? = some o ∧ listed.getD j true = false := by
  have hlt : i < ops.size := (Array.getElem?_eq_some_iff.1 hi).1
  have hset : (listed.setIfInBounds i true).getD i true = true := by
    rcases Nat.lt_or_ge i listed.size with h | h
    · simp [h]
    · simp [Array.getElem?_eq_none (by simpa using h)]
  have hoth : ∀ k, k ≠ i → (listed.setIfInBounds i true).getD k true = listed.getD k true := fun k hk => getD_set_ne true (Ne.symm hk)
  refine ⟨((List.range i).filter fun k => !listed.getD k true).filterMap (ops[·]?), ((List.range' (i + 1) (ops.size - i - 1)).filter fun k => !listed.getD k true).filterMap (ops[·]?), ?_, ?_, ?_⟩
  · unfold open_
    rw [range_split _ _ hlt, List.filter_append, List.filter_cons_of_pos (by simp only [hl]; rfl), List.filterMap_append, List.filterMap_cons_some hi]
  · unfold open_
    rw [range_split _ _ hlt, List.filter_append, List.filter_cons_of_neg (by simp only [hset]; decide), List.filterMap_append]
    congr 2
    · exact List.filter_congr fun k hk => by rw [hoth k (by have := List.mem_range.1 hk; omega)]
    · exact List.filter_congr fun k hk => by rw [hoth k (by have := List.mem_range'_1.1 hk; omega)]
  · intro o ho
    obtain ⟨j, hj, hjo⟩ := List.mem_filterMap.1 ho
    rw [List.mem_filter, List.mem_range] at hj
    exact ⟨j, hj.1, hjo, by simpa using hj.2⟩
theorem open_head {listed : Array Bool} (h : open_ ops listed ≠ []) : ∃ k o, ops[k]? = some o ∧ listed.getD k true = false ∧ ∀ j, j < k → listed.getD j true = true := by
  have hex : ∃ k, k < ops.size ∧ listed.getD k true = false := by
    obtain ⟨o, ho⟩ := List.exists_mem_of_ne_nil _ h
    obtain ⟨k, hk, _⟩ := List.mem_filterMap.1 ho
    rw [List.mem_filter, List.mem_range] at hk
    exact ⟨k, hk.1, by simpa using hk.2⟩
  obtain ⟨k, hk⟩ : ∃ k, (k < ops.size ∧ listed.getD k true = false) ∧ ∀ j, j < k → ¬ (j < ops.size ∧ listed.getD j true = false) := by
    obtain ⟨k, hk⟩ := hex
    induction k using Nat.strongRecOn with
    | _ k ih =>
      by_cases hm : ∃ m, m < k ∧ m < ops.size ∧ listed.getD m true = false
      · obtain ⟨m, h1, h2⟩ := hm
        exact ih m h1 h2
      · exact ⟨k, hk, fun j hj hh => hm ⟨j, hj, hh⟩⟩
  refine ⟨k, ops[k]'hk.1.1, Array.getElem?_eq_getElem _, hk.1.2, fun j hj => ?_⟩
  have := hk.2 j hj
  cases hx : listed.getD j true with
  | true => rfl
  | false => exact absurd ⟨by omega, hx⟩ this

theorem wpAny_of_F (hEv : ∀ w w', C w → Ev w w' → C w') (hF : ∀ d v w w', F d v w → Ev w w' → F d v w') (hB : okF ops = true) {Q : Act → World → Prop} {Q' : Exit → Act → World → Prop} (hQ : ∀ a w, Q a w → Q' .normal a w) :
    ∀ (fuel : Nat) (listed : Array Bool) (a : Act) (w : World) (D : List (Tmp × Value)), listed.size = ops.size → (open_ ops listed).length ≤ fuel → C w → Facts F D w → wpF P ops Ev C F S Q (open_ ops listed) D a → wpAny P .any ops Q' fuel listed a w := by
  have hsel : ∀ (j : Nat) (o : Oper) cs b, ops[j]? = some o → o.op ≠ .select cs b := Region.noSelect_spec (by unfold okF at hB; exact ((Bool.and_eq_true _ _).mp hB).1)
  have hsp := okF_spec hB
  have last : ∀ (listed : Array Bool), listed.size = ops.size → Region.ready .any ops listed = [] → open_ ops listed = [] := fun listed hsz hr => by
    by_cases h : open_ ops listed = []
    · exact h
    · obtain ⟨k, o, ho, hk, hlow⟩ := open_head h
      have : k ∈ Region.ready .any ops listed := mem_ready.2 ⟨hk, o, ho, fun e he hb => by
        have hlt := (hsp k o ho).1 e he hb
        have := hlow e.on hlt
        have hks : k < ops.size := (Array.getElem?_eq_some_iff.1 ho).1
        have hes : e.on < listed.size := by omega
        simp only [Array.getD_eq_getD_getElem?, Array.getElem?_eq_getElem hes, Option.getD_some] at this ⊢
        exact this⟩
      rw [hr] at this
      cases this
  intro fuel
  induction fuel with
  | zero =>
    intro listed a w D hsz hl hC hD h
    have h0 : open_ ops listed = [] := List.eq_nil_of_length_eq_zero (by omega)
    rw [h0] at h
    refine ⟨?_, hQ _ _ (h w hC hD)⟩
    cases hr : Region.ready .any ops listed with
    | nil => rfl
    | cons i r =>
      obtain ⟨hi0, o, ho, _⟩ := mem_ready.1 (hr ▸ List.mem_cons_self : i ∈ Region.ready .any ops listed)
      obtain ⟨l1, l2, e, _⟩ := open_split ho hi0
      rw [h0] at e
      simp at e
  | succ fuel ih =>
    intro listed a w D hsz hl hC hD h
    refine ⟨fun hr => ?_, fun i hi => ?_⟩
    · have h0 := last listed hsz hr
      rw [h0] at h
      exact hQ _ _ (h w hC hD)
    · obtain ⟨hi0, oi, hoi, hall⟩ := mem_ready.1 hi
      obtain ⟨l1, l2, e1, e2, hl1⟩ := open_split hoi hi0
      rw [e1] at h hl
      have hf := front_of hEv hF oi (fun cs b => hsel i oi cs b hoi) l2 l1 D a w w (fun o ho => by
        obtain ⟨j, hj, hjo, hju⟩ := hl1 o ho
        refine ⟨(hsp i oi hoi).2 j o hj hjo (fun e he hb heq => ?_), fun cs b => hsel j o cs b hjo⟩
        have := hall e he hb
        rw [heq] at this
        rcases Nat.lt_or_ge j listed.size with h' | h'
        · simp [h'] at hju this; rw [hju] at this; cases this
        · simp [Array.getElem?_eq_none h'] at this) hC hD.for hC hD h
      have hlen : (open_ ops (listed.setIfInBounds i true)).length ≤ fuel := by rw [e2]; simp at hl ⊢; omega
      have hsz' : (listed.setIfInBounds i true).size = ops.size := by simpa using hsz
      unfold wpOp
      rw [hoi]
      unfold front at hf
      simp only
      split
      · rename_i hw
        rw [if_pos hw] at hf
        refine .inl ?_
        unfold Oper.wp
        cases hS : inS S oi with
        | none =>
          rw [hS] at hf
          obtain ⟨v, h1, h2⟩ := hf
          generalize (execOp a.eval oi).run P w = r at *
          cases r with
          | ok n w' =>
            cases n <;> simp only [plainUpon] at h1 <;> simp only [Oper.upon] <;> first | (exact h1.elim) | skip
            · obtain ⟨rfl, rfl⟩ := h1
              exact ih _ _ _ D hsz' hlen hC hD (by rw [e2]; exact h2)
            · obtain ⟨rfl, rfl⟩ := h1
              exact ih _ _ _ D hsz' hlen hC hD (by rw [e2]; exact h2)
          | halt x w' => simp only [plainUpon] at h1
        | some d =>
          rw [hS] at hf
          obtain ⟨h1, h2⟩ := hf
          have go : ∀ v w', Ev w w' ∧ F d v w' → wpAny P .any ops Q' fuel (listed.setIfInBounds i true) (a.put oi.dst v) w' := fun v w' ⟨he, hv⟩ => by
            have hD' : Facts F ((d, v) :: D) w' := fun p hp => by
              rcases List.mem_cons.1 hp with rfl | hp
              · exact hv
              · exact hF _ _ _ _ (hD p hp) he
            exact ih _ _ _ ((d, v) :: D) hsz' hlen (hEv _ _ hC he) hD' (by rw [e2]; exact h2 v ⟨w', hEv _ _ hC he, hD'⟩)
          generalize (execOp a.eval oi).run P w = r at *
          cases r with
          | ok n w' =>
            cases n <;> simp only [opGives] at h1 <;> simp only [Oper.upon] <;> first | (exact h1.elim) | skip
            · exact go _ _ h1
            · refine Calls.mono h1 ?_
              rintro e w'' ⟨v, rfl, hR⟩
              exact go _ _ hR
          | halt x w' => simp only [opGives] at h1
      · rename_i hw
        rw [if_neg hw] at hf
        exact ih _ _ _ D hsz' hlen hC hD (by rw [e2]; exact hf)

theorem list_open {α : Type} (l : List α) : (List.range l.length).filterMap (fun k => l[k]?) = l := by
  induction l with
  | nil => rfl
  | cons x r ih =>
    rw [List.length_cons, List.range_succ_eq_map, List.filterMap_cons_some (by rfl), List.filterMap_map]
    congr 1
theorem open_all : open_ ops (Array.replicate ops.size false) = ops.toList := by
  unfold open_
  rw [List.filter_eq_self.2 (fun k hk => by
    have : k < ops.size := List.mem_range.1 hk
    simp [this])]
  have := list_open ops.toList
  simpa using this
/-- THE LAW. -/
theorem wp_region_F {id : Nat} {Q : Exit → Act → World → Prop} {a : Act} {w : World} (hEv : ∀ w w', C w → Ev w w' → C w') (hF : ∀ d v w w', F d v w → Ev w w' → F d v w') (hm : P.follows .mixedOrders = true) (hB : okF ops = true) (hC : C { w with drawn := w.drawn + 1 })
    (h : wpF P ops Ev C F S (fun a' w' => Q .normal a' w') ops.toList [] a) : (Code.region id ops true).wp P Q a w :=
  wp_region_any hm (wpAny_of_F hEv hF hB (fun _ _ h => h) _ _ _ _ [] (by simp) (by rw [open_all]; simp) hC (fun p hp => by cases hp) (by rw [open_all]; exact h))
theorem wp_region_F_lit {id : Nat} {Q : Exit → Act → World → Prop} {a : Act} {w : World} {l : List Oper} (Ev : World → World → Prop) (C : World → Prop) (F : Tmp → Value → World → Prop) (S : List Tmp) (hEv : ∀ w w', C w → Ev w w' → C w') (hF : ∀ d v w w', F d v w → Ev w w' → F d v w') (hm : P.follows .mixedOrders = true) (hB : okF l.toArray = true) (hC : C { w with drawn := w.drawn + 1 })
    (h : wpF P l.toArray Ev C F S (fun a' w' => Q .normal a' w') l [] a) : (Code.region id l.toArray true).wp P Q a w :=
  wp_region_F hEv hF hm hB hC (by simpa using h)

/-- A call that enters a function of Go: none. -/
def noEnter (o : Oper) : Bool := match o.op with
  | .call c => (match c.callee with | .builtin _ => true | _ => false)
  | _ => true
theorem run_value_ne {P : Program} {w w' : World} (s : Sem Value) (f : FuncId) (args : Array Value) (h : (do let x ← s; pure (Next.value x) : Sem Next).run P w = .ok (.enter f args) w') : False := by
  rw [Sem.run_bind] at h
  cases hs : s.run P w with
  | ok v w1 => rw [hs] at h; simp [Result.andThen] at h
  | halt x w1 => rw [hs] at h; simp [Result.andThen] at h
theorem run_skip_ne {P : Program} {w w' : World} (s : Sem Unit) (f : FuncId) (args : Array Value) (h : (do s; pure Next.skip : Sem Next).run P w = .ok (.enter f args) w') : False := by
  rw [Sem.run_bind] at h
  cases hs : s.run P w with
  | ok v w1 => rw [hs] at h; simp [Result.andThen] at h
  | halt x w1 => rw [hs] at h; simp [Result.andThen] at h
/-- A value, or a halt: what most operations come to. -/
def valued (s : Sem Next) : Prop := ∀ (P : Program) (w w' : World) (f : FuncId) (args : Array Value), s.run P w ≠ .ok (.enter f args) w'
theorem valued_value (s : Sem Value) : valued (do let x ← s; pure (Next.value x)) := fun P w w' f args h => run_value_ne s f args h
theorem valued_skip (s : Sem Unit) : valued (do s; pure Next.skip) := fun P w w' f args h => run_skip_ne s f args h
theorem valued_pure (v : Value) : valued (pure (Next.value v)) := fun P w w' f args h => by simp at h
def noEnterB : Builtin → Bool
  | .len | .cap | .append | .copy | .min | .max => true
  | _ => false
def noEnter' (o : Oper) : Bool := match o.op with
  | .call c => (match c.callee with | .builtin b => noEnterB b | _ => false)
  | .nilCheck _ | .pick _ _ _ => true
  | .go _ | .defer _ | .send _ _ | .recv _ _ _ | .select _ _ => false
  | _ => true
theorem valued_bind {α : Type} (s : Sem α) (g : α → Sem Next) (hg : ∀ x, valued (g x)) : valued (s >>= g) := fun P w w' f args h => by
  rw [Sem.run_bind] at h
  cases hs : s.run P w with
  | ok v w1 => rw [hs] at h; exact hg v P _ _ _ _ h
  | halt x w1 => rw [hs] at h; simp [Result.andThen] at h
theorem valued_panic : valued (runtimePanic .nilDeref) := fun P w w' f args h => by
  simp [runtimePanic, goPanic, RuntimeError.nilDeref] at h
theorem valued_unsupported (k : Unsupported) : valued (unsupported k) := fun P w w' f args h => by
  simp [unsupported] at h
theorem valued_builtin {b : Builtin} (h : noEnterB b = true) (t : Array TypeId) (ty : TypeId) (c : Array Bool) (args : Array Value) : valued (builtin b t ty c args) := by
  cases b <;> simp only [noEnterB, Bool.false_eq_true] at h <;> exact valued_value _
theorem noEnter_spec {o : Oper} (h : noEnter' o = true) (ρ : Operand → Value) : valued (execOp ρ o) := by
  obtain ⟨dst, op, type, pos, after, guard⟩ := o
  cases op <;> simp only [noEnter', Bool.false_eq_true] at h <;> simp only [execOp] <;>
    first
      | exact valued_pure _
      | exact valued_value _
      | exact valued_skip _
      | skip
  case pick c a b => exact valued_bind _ _ (fun x => valued_pure _)
  case nilCheck x =>
    split <;> first | exact valued_panic | exact valued_pure _ | skip
    split <;> first | exact valued_panic | exact valued_pure _ | skip
    refine valued_bind _ _ (fun x => valued_bind _ _ (fun y => ?_))
    split
    · exact valued_bind _ _ (fun _ => valued_pure _)
    · exact valued_pure _
  case call c =>
    cases hc : c.callee with
    | builtin b =>
      rw [hc] at h
      have e : resolve ρ c type = pure { target := .builtin b c.argTypes type (c.args.map fun | .const _ => true | _ => false), args := c.args.map ρ } := by
        unfold resolve
        simp only [hc]
        rfl
      intro P w w' f args hr
      rw [e] at hr
      simp only [pure_bind] at hr
      exact valued_builtin h _ _ _ _ P w w' f args (by simpa [invoke] using hr)
    | invoke r n => rw [hc] at h; cases h
    | value f => rw [hc] at h; cases h

section
variable {P : Program} {ops : Array Oper} {Ev : World → World → Prop} {C : World → Prop} {F : Tmp → Value → World → Prop} {S : List Tmp} {Q : Act → World → Prop} {o : Oper} {l : List Oper} {D : List (Tmp × Value)} {a : Act}
theorem wpF_nil (h : ∀ w, C w → Facts F D w → Q a w) : wpF P ops Ev C F S Q [] D a := h
theorem wpF_skip (hw : Region.wanted o (yielded ops a.tmps) = false) (h : wpF P ops Ev C F S Q l D (a.put o.dst undef)) : wpF P ops Ev C F S Q (o :: l) D a := by
  unfold wpF opF
  rw [if_neg (by rw [hw]; exact Bool.false_ne_true)]
  exact h
/-- The worlds at an operation. -/
def AtF (C : World → Prop) (F : Tmp → Value → World → Prop) (ops : Array Oper) (o : Oper) (D : List (Tmp × Value)) : Type := { w : World // C w ∧ FactsFor F ops o D w }
def AtF.w {C : World → Prop} {F : Tmp → Value → World → Prop} {ops : Array Oper} {o : Oper} {D : List (Tmp × Value)} (x : AtF C F ops o D) : World := x.1
theorem wpF_plain (hw : Region.wanted o (yielded ops a.tmps) = true) (hS : inS S o = none) (hn : noEnter' o = true)
    (h : ∀ [Nonempty (AtF C F ops o D)] (K : Act → Prop), (∀ a', wpF P ops Ev C F S Q l D a' → K a') → o.quiet P a (fun w => ∃ x : AtF C F ops o D, w = x.w) K) : wpF P ops Ev C F S Q (o :: l) D a := by
  unfold wpF opF
  rw [if_pos hw, hS]
  rintro ⟨w0, c0, f0⟩
  haveI : Nonempty (AtF C F ops o D) := ⟨⟨w0, c0, f0⟩⟩
  obtain ⟨v, h1, h2⟩ := h _ (fun _ h => h)
  refine ⟨v, fun w hc hf => ?_, h2⟩
  have h3 := h1 w ⟨⟨w, hc, hf⟩, rfl⟩
  unfold Oper.quietAt at h3
  have hne := noEnter_spec hn a.eval P w
  generalize (execOp a.eval o).run P w = r at *
  cases r with
  | ok n w' =>
    cases n <;> simp only [Oper.quietUpon] at h3 <;> simp only [plainUpon]
    · exact h3
    · exact h3
    · exact absurd rfl (hne _ _ _)
  | halt x w' => simp only [Oper.quietUpon] at h3
theorem wpF_call {d : Tmp} (hw : Region.wanted o (yielded ops a.tmps) = true) (hS : inS S o = some d)
    (h : ∀ w, C w → FactsFor F ops o D w → opGives P (fun v w' => Ev w w' ∧ F d v w') ((execOp a.eval o).run P w)) (h2 : ∀ v, (∃ w, C w ∧ Facts F ((d, v) :: D) w) → wpF P ops Ev C F S Q l ((d, v) :: D) (a.put o.dst v)) : wpF P ops Ev C F S Q (o :: l) D a := by
  unfold wpF opF
  rw [if_pos hw, hS]
  exact ⟨h, h2⟩
end
end
end Go.Proofs.YtdhcnmljkmodhaaDoor
