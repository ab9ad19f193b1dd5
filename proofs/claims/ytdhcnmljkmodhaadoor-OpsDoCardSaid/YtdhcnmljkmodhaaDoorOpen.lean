/- A law's frame: what a call that turns nothing old leaves ('law_post'); slices that came in, opened ('open_list'). -/
import Derived.Test.YtdhcnmljkmodhaaDoorMemB
import Derived.ProofKit
import Derived.OpenShut
import Derived.OpenVars
import Derived.Deep.Slices
import Derived.Deep.Strs
namespace Go.Proofs.YtdhcnmljkmodhaaDoor
set_option linter.unusedSectionVars false
set_option linter.unusedVariables false
set_option linter.unusedSimpArgs false
open Go.RowKit Go.ChangeShapes

/-- POST of a law: true, and what was there is as it was. -/
theorem law_post {H : Type} {enc : TypeId × Value → H} {P : Program} {f : Func} {s : ChangeSpec} {tb : TypeId} (hlaid : laidOutB P = true) (hpar : f.params.toList.all (fun t => P.readableRec t && decide (t < P.types.size)) = true)
    (hvars : varsRowed P s.vars = true) (hrt : f.resultTypes = #[tb]) (hb : P.underlying tb = some .bool) {apart : Bool} {W W' : World} {args : Array Value} {ds gs : List (DataW H)} {before : List MemPlace}
    (hW : DataW.Whole enc P f.params.toList s.vars apart W args.toList ds gs before) (hbel : Below W.heap.size W W') (hfn : s.fn H (ds ++ gs) = { results := [.lit (.bool true)], args := ds, vars := gs }) :
    s.post enc P f apart true false false W args (.bool true) W' := by
  have hlt := hW.lt
  have hW0 := hW
  obtain ⟨p, q, hA, hV, rfl, hfz, hnd⟩ := hW
  refine ⟨ds, gs, p ++ q, [], p, q, hW0, ?_, ?_, ?_, hbel.frame _, fun h => by cases h⟩
  · rw [hfn, hrt]
    exact trodAll_cons_mk (shut_bool hb _) trodAll_mk0
  · rw [hfn]
    have key : ∀ (ts : List TypeId) (vs : List Value) (ds : List (DataW H)) (p : List MemPlace), ts.all (fun t => P.readableRec t && decide (t < P.types.size)) = true → (∀ x ∈ p, x.block < W.heap.size) → DataW.TrodAll enc P W 0 (fun _ => true) true ts vs ds p → DataW.TrodAll enc P W' 0 (fun b => decide (b < W.heap.size)) true ts vs ds p := by
      intro ts
      induction ts with
      | nil => intro vs ds p _ _ h; cases vs <;> cases ds <;> exact h
      | cons t ts ih =>
        intro vs ds p hts hp h
        cases vs with
        | nil => exact h.elim
        | cons v vs =>
          cases ds with
          | nil => exact h.elim
          | cons d ds =>
            obtain ⟨p1, q1, h1, h2, rfl⟩ := h
            simp only [List.all_cons, Bool.and_eq_true, decide_eq_true_eq] at hts
            exact ⟨p1, q1, Below.trod hlaid hts.1.1 hts.1.2 h1 hbel (fun x hx => hp x (by simp [hx])), ih vs ds q1 hts.2 (fun x hx => hp x (by simp [hx])) h2, rfl⟩
    exact key _ _ _ _ hpar (fun x hx => hlt x (by simp [hx])) hA
  · rw [hfn]
    exact Below.trodVars hlaid hbel hvars hV

/-- A slice that came in: n elements of size cells each, the cells xs. (Where it has no element nothing is known of its address.) -/
def ReadsC (w : World) (size : Nat) (v : Value) (n : Nat) (xs : List Value) : Prop :=
  xs.length = n * size ∧ ∃ a cap, v = .slice a n cap ∧ n ≤ cap ∧ cap ≤ maxLen ∧ (a = none → n = 0 ∧ cap = 0) ∧ (0 < n → ∃ g off, a = some ⟨g, off, none⟩ ∧ g < w.heap.size ∧ ∀ j u, xs[j]? = some u → w.cell? ⟨g, off + j, none⟩ = some u)
theorem ReadsC.keeps {w w' : World} {size n : Nat} {v : Value} {xs : List Value} (h : ReadsC w size v n xs) (hk : Keeps w w' (fun _ => False)) : ReadsC w' size v n xs := by
  obtain ⟨h1, a, cap, h2, h3, h4, h5, h6⟩ := h
  refine ⟨h1, a, cap, h2, h3, h4, h5, fun h0 => ?_⟩
  obtain ⟨g, off, rfl, hg, hc⟩ := h6 h0
  exact ⟨g, off, rfl, Nat.lt_of_lt_of_le hg hk.size, fun j u hj => by rw [← hc j u hj]; exact World.cell?_of_block (hk.block g hg id)⟩

theorem flatMap_get {α : Type} (f : α → List Value) (size : Nat) (hf : ∀ a, (f a).length = size) : ∀ (l : List α) (i r : Nat) (h : i < l.length), r < size → (l.flatMap f)[i * size + r]? = (f l[i])[r]?
  | a :: l, 0, r, _, hr => by
    rw [List.flatMap_cons, Nat.zero_mul, Nat.zero_add, List.getElem?_append_left (by rw [hf]; exact hr)]
    rfl
  | a :: l, i + 1, r, h, hr => by
    rw [List.flatMap_cons, List.getElem?_append_right (by rw [hf, Nat.add_mul]; omega), hf, show (i + 1) * size + r - size = i * size + r by rw [Nat.add_mul]; omega]
    simpa using flatMap_get f size hf l i r (by simpa using h) hr
theorem flatMap_len {α : Type} (f : α → List Value) (size : Nat) (hf : ∀ a, (f a).length = size) (l : List α) : (l.flatMap f).length = l.length * size := by
  induction l with
  | nil => simp
  | cons a l ih => rw [List.flatMap_cons, List.length_append, hf, ih, List.length_cons, Nat.add_mul]; omega

theorem cells?_get {w : World} {a : Addr} {n : Nat} {cs : List Value} (h : w.cells? 0 a n = some cs) : cs.length = n ∧ ∀ r, r < n → w.cell? (a.add r) = cs[r]? := by
  unfold World.cells? at h
  rw [if_pos (Nat.zero_le _)] at h
  have key : ∀ (k : List Nat) (cs : List Value), k.mapM (fun i => w.cell? (a.add i)) = some cs → cs.length = k.length ∧ ∀ r (hr : r < k.length), w.cell? (a.add k[r]) = cs[r]? := by
    intro k
    induction k with
    | nil => intro cs h; simp at h; subst h; exact ⟨rfl, fun r hr => by simp at hr⟩
    | cons i k ih =>
      intro cs h
      simp only [List.mapM_cons, Option.bind_eq_bind, Option.pure_def] at h
      cases hc : w.cell? (a.add i) with
      | none => rw [hc] at h; simp at h
      | some v =>
        cases hr : k.mapM (fun i => w.cell? (a.add i)) with
        | none => rw [hc, hr] at h; simp at h
        | some vs =>
          rw [hc, hr] at h
          simp at h
          subst h
          obtain ⟨h1, h2⟩ := ih vs hr
          refine ⟨by simp [h1], fun r hr => ?_⟩
          cases r with
          | zero => simpa using hc
          | succ r => simpa using h2 r (by simpa using hr)
  obtain ⟨h1, h2⟩ := key _ _ h
  rw [List.length_range] at h1
  exact ⟨h1, fun r hr => by
    have := h2 r (by rw [List.length_range]; exact hr)
    rw [List.getElem_range] at this
    exact this⟩

/-- A slice of whatever elements, each of which reads as one of α. -/
theorem open_list {H α : Type} {enc : TypeId × Value → H} {P : Program} {w : World} {spare : Nat → Bool} {held : Bool} {t e : TypeId} {fuel size : Nat} {cs : List Value} {x : DataW H × List MemPlace} (f : α → List Value) (R : α → Prop)
    (hdec : ∀ (n : Nat) (cs' : List Value) (y : DataW H × List MemPlace), cs'.length = size → DataW.trod enc P w 0 spare held n e cs' = some y → ∃ a, cs' = f a ∧ R a)
    (hf : ∀ a, (f a).length = size) (ht : P.underlying t = some (.slice e)) (hc : P.cellsOf e = size) (h0 : 0 < size) (h : DataW.trod enc P w 0 spare held fuel t cs = some x) :
    ∃ (v : Value) (l : List α), cs = [v] ∧ ReadsC w size v l.length (l.flatMap f) ∧ ∀ a ∈ l, R a := by
  rcases Go.Deep.open_slice ht h with ⟨rfl, rfl⟩ | ⟨a, len, cap, m, n, D, Pl, rfl, hb, hl, hm, hmm, rfl, hx⟩
  · exact ⟨_, [], rfl, ⟨by simp, none, 0, rfl, Nat.le_refl _, by unfold maxLen; omega, fun _ => ⟨rfl, rfl⟩, fun h => by simp at h⟩, fun a ha => by cases ha⟩
  · have hlm : len ≤ m := by rw [hmm]; split <;> omega
    rw [hc] at hx
    have key : ∀ k, k ≤ len → ∃ l : List α, l.length = k ∧ ∀ i (hi : i < l.length), (∀ r, r < size → w.cell? ((a.add (i * size)).add r) = (f l[i])[r]?) ∧ R l[i] := by
      intro k
      induction k with
      | zero => intro _; exact ⟨[], rfl, fun i hi => by simp at hi⟩
      | succ k ih =>
        intro hk
        obtain ⟨l, h1, h2⟩ := ih (by omega)
        obtain ⟨cs', c1, c2⟩ := hx k (by omega)
        obtain ⟨d1, d2⟩ := cells?_get c1
        obtain ⟨b, rfl, hR⟩ := hdec n cs' _ d1 c2
        refine ⟨l ++ [b], by simp [h1], fun i hi => ?_⟩
        rw [List.length_append, List.length_cons, List.length_nil] at hi
        by_cases hik : i < l.length
        · have := h2 i hik
          rw [List.getElem_append_left hik]; exact this
        · obtain rfl : i = k := by omega
          rw [List.getElem_append_right (by omega)]
          simp only [h1, Nat.sub_self, List.getElem_cons_zero]
          exact ⟨d2, hR⟩
    obtain ⟨l, hlen, hl2⟩ := key len (Nat.le_refl _)
    subst hlen
    refine ⟨_, l, rfl, ⟨flatMap_len f size hf l, some a, cap, rfl, hl, hm, (fun h => by cases h), fun hpos => ?_⟩, fun b hb => ?_⟩
    · have h00 := (hl2 0 hpos).1 0 h0
      rw [Nat.zero_mul] at h00
      have hsome : (f l[0])[0]? = some ((f l[0])[0]'(by rw [hf]; exact h0)) := List.getElem?_eq_getElem _
      rw [hsome] at h00
      have e0 : (a.add 0).add 0 = a := rfl
      rw [e0] at h00
      have hsp : a.spot = none := by
        cases hs : a.spot with
        | none => rfl
        | some s => simp [World.cell?, hs] at h00; split at h00 <;> cases h00
      obtain ⟨g, off, sp⟩ := a
      simp only at hsp
      subst hsp
      refine ⟨g, off, rfl, World.block_lt_of_cell? w _ h00, fun j u hj => ?_⟩
      have hjl : j < l.length * size := by
        have := (List.getElem?_eq_some_iff.1 hj).1
        rw [flatMap_len f size hf] at this; exact this
      have hq : j / size < l.length := Nat.div_lt_of_lt_mul (by rw [Nat.mul_comm]; exact hjl)
      have hr : j % size < size := Nat.mod_lt _ h0
      have hjj : j / size * size + j % size = j := by rw [Nat.mul_comm]; exact Nat.div_add_mod j size
      have h1 := (hl2 (j / size) hq).1 (j % size) hr
      rw [← flatMap_get f size hf l _ _ hq hr, hjj, hj] at h1
      have e1 : (((⟨g, off, none⟩ : Addr).add (j / size * size)).add (j % size)) = ⟨g, off + j, none⟩ := by
        have add1 : ∀ (o k : Nat), (⟨g, o, none⟩ : Addr).add k = ⟨g, o + k, none⟩ := fun o k => by
          unfold Addr.add; split
          · rename_i h; subst h; rfl
          · rfl
        rw [add1, add1, Nat.add_assoc, hjj]
      rw [e1] at h1
      exact h1
    · obtain ⟨i, hi, rfl⟩ := List.getElem_of_mem hb
      exact (hl2 i hi).2
end Go.Proofs.YtdhcnmljkmodhaaDoor
