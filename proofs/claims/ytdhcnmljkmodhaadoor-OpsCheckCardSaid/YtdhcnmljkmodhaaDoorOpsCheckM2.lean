/- Merged for the claim, in build order: Bits3, Open, Bits4, Bits5, Cls. -/
import Derived.Test.YtdhcnmljkmodhaaDoorOpsCheckM1
import Derived.ProofKit
import Derived.OpenShut
import Derived.OpenVars
import Derived.Deep.Slices
import Derived.Deep.Strs
import Derived.Deep.Quiet
import Derived.Deep.QuietTactic
import Derived.BigQuiet
/- The walks of OnesCount64 and TrailingZeros64. -/
namespace Go.Proofs.YtdhcnmljkmodhaaDoor
set_option linter.unusedSectionVars false
set_option linter.unusedVariables false
set_option linter.unusedSimpArgs false
open Go.RowKit

theorem wrap_nat (n : Nat) (h : n < 18446744073709551616) : IntKind.u64.wrap (n : Int) = (n : Int) := by
  rw [IntKind.wrap_u64]; omega
theorem and_nat (a m : Nat) (ha : a < 18446744073709551616) (hm : m < 18446744073709551616) : bits .and .u64 (a : Int) (m : Int) = ((a &&& m : Nat) : Int) := u64_and_nat a m ha hm

set_option maxHeartbeats 400000 in
theorem ones_any (a : BitVec 64) (w : World) : Calls Tryd.prog 69 #[.int .u64 a.toNat] w fun e w' => e = .returned (.int .i64 (pc 64 a.toNat)) ∧ w = w' := by
  obtain ⟨x1, x2, x3, x4, x5, x6, h1, l1, h2, l2, l3, h3, h4, h5, h6, l6, h7⟩ := swar a.toNat a.isLt
  have hx := a.isLt
  generalize a.toNat = x at *
  have l3' : x3 < 18446744073709551616 := by have := Nat.and_le_left (n := x2 / 16 + x2) (m := 1085102592571150095); omega
  have l4 : x4 < 18446744073709551616 := by omega
  have l5 : x5 < 18446744073709551616 := by omega
  have e1 : bits .and .u64 ((x : Int) / 2) 6148914691236517205 = (((x / 2) &&& 6148914691236517205 : Nat) : Int) := and_nat (x / 2) 6148914691236517205 (by omega) (by omega)
  have e2 : bits .and .u64 (x : Int) 6148914691236517205 = ((x &&& 6148914691236517205 : Nat) : Int) := and_nat x 6148914691236517205 (by omega) (by omega)
  generalize hA : (x / 2) &&& 6148914691236517205 = A1 at *
  generalize hB : x &&& 6148914691236517205 = B1 at *
  have e3 : IntKind.u64.wrap ((A1 : Int) + (B1 : Int)) = (x1 : Int) := by rw [← Int.natCast_add, h1, wrap_nat _ l1]
  have e4 : bits .and .u64 ((x1 : Int) / 4) 3689348814741910323 = (((x1 / 4) &&& 3689348814741910323 : Nat) : Int) := and_nat (x1 / 4) 3689348814741910323 (by omega) (by omega)
  have e5 : bits .and .u64 (x1 : Int) 3689348814741910323 = ((x1 &&& 3689348814741910323 : Nat) : Int) := and_nat x1 3689348814741910323 (by omega) (by omega)
  generalize hC : (x1 / 4) &&& 3689348814741910323 = A2 at *
  generalize hD : x1 &&& 3689348814741910323 = B2 at *
  have e6 : IntKind.u64.wrap ((A2 : Int) + (B2 : Int)) = (x2 : Int) := by rw [← Int.natCast_add, h2, wrap_nat _ l2]
  have e7 : IntKind.u64.wrap ((x2 : Int) / 16 + (x2 : Int)) = ((x2 / 16 + x2 : Nat) : Int) := by rw [← wrap_nat _ l3]; simp
  have e8 : bits .and .u64 ((x2 / 16 + x2 : Nat) : Int) 1085102592571150095 = (x3 : Int) := by rw [← h3]; exact and_nat (x2 / 16 + x2) 1085102592571150095 l3 (by omega)
  generalize hE : x2 / 16 + x2 = Y at *
  have e9 : IntKind.u64.wrap ((x3 : Int) + (x3 : Int) / 256) = (x4 : Int) := by rw [← h4, ← wrap_nat (x3 + x3 / 256) (by omega)]; simp
  have e10 : IntKind.u64.wrap ((x4 : Int) + (x4 : Int) / 65536) = (x5 : Int) := by rw [← h5, ← wrap_nat (x4 + x4 / 65536) (by omega)]; simp
  have e11 : IntKind.u64.wrap ((x5 : Int) + (x5 : Int) / 4294967296) = (x6 : Int) := by rw [← h6, ← wrap_nat (x5 + x5 / 4294967296) (by omega)]; simp
  have e12 : IntKind.i64.wrap (x6 : Int) = (x6 : Int) := IntWalk.i64_in _ (by omega)
  have e13 : bits .and .i64 (x6 : Int) 127 = ((x6 % 128 : Nat) : Int) := by
    have hm := Nat.and_two_pow_sub_one_eq_mod x6 7
    have hb : bits .and .i64 (x6 : Int) 127 = IntKind.i64.wrap (((BitVec.ofInt 64 (x6 : Int)) &&& (BitVec.ofInt 64 127)).toNat : Int) := rfl
    rw [hb, BitVec.toNat_and]
    have o1 : (BitVec.ofInt 64 (x6 : Int)).toNat = x6 := ofInt_u64 _ (by omega)
    have o2 : (BitVec.ofInt 64 127).toNat = 127 := by decide
    rw [o1, o2, show (127 : Nat) = 2 ^ 7 - 1 by rfl, hm]
    exact IntWalk.i64_in _ (by omega)
  rw [h7] at e13
  have q0 : (0 : Int) ≤ x := by omega
  have q1 : (0 : Int) ≤ x1 := by omega
  have q2 : (0 : Int) ≤ x2 := by omega
  have q3 : (0 : Int) ≤ x3 := by omega
  have q4 : (0 : Int) ≤ x4 := by omega
  have q5 : (0 : Int) ≤ x5 := by omega
  generalize pc 64 x = r at *
  clear h1 h2 h3 h4 h5 h6 h7 hA hB hC hD hE l1 l2 l3 l3' l4 l5 l6 hx
  go_enter Tryd.func69, Tryd.ntmps69
  go_wp2
  go_ret
  exact ⟨rfl, rfl⟩
/-- The table of TrailingZeros64. -/
def tzTab : List Nat := [0, 1, 56, 2, 57, 49, 28, 3, 61, 58, 42, 50, 38, 29, 17, 4, 62, 47, 59, 36, 45, 43, 51, 22, 53, 39, 33, 30, 24, 18, 12, 5, 63, 55, 48, 27, 60, 41, 37, 16, 46, 35, 44, 21, 52, 32, 23, 11, 54, 26, 40, 15, 34, 20, 31, 10, 25, 14, 19, 9, 13, 8, 7, 6]
def TabOk (w : World) : Prop := ∀ j, j < 64 → w.cell? ⟨1, j, none⟩ = some (.int .u8 ((tzTab.getD j 0 : Nat) : Int))
theorem TabOk.keeps {w w' : World} (h : TabOk w) (hk : Keeps w w' (fun _ => False)) : TabOk w' := fun j hj => by
  have h1 := h j hj
  rw [← h1]
  exact World.cell?_of_block (hk.block _ (World.block_lt_of_cell? w _ h1) id)
theorem tab_look : ∀ k, k < 64 → ((2 ^ k * 285870213051353865) % 18446744073709551616) / 288230376151711744 < 64 ∧ tzTab.getD (((2 ^ k * 285870213051353865) % 18446744073709551616) / 288230376151711744) 0 = k := by decide +kernel
theorem low_bit (a : BitVec 64) (k : Nat) (hk : k < 64) (hs : a.getLsbD k = true) (hm : ∀ j, j < k → a.getLsbD j = false) : a &&& -a = bitN k := by
  apply BitVec.eq_of_getLsbD_eq
  intro i hi
  rw [BitVec.getLsbD_and, BitVec.getLsbD_neg]
  unfold bitN
  rw [BitVec.getLsbD_shiftLeft]
  simp only [hi, decide_true, Bool.true_and]
  by_cases h1 : i < k
  · rw [hm i h1]; simp [h1]
  · by_cases h2 : i = k
    · subst h2
      have : ¬ ∃ j, j < i ∧ a.getLsbD j = true := fun ⟨j, h3, h4⟩ => by rw [hm j h3] at h4; cases h4
      simp [hs, this]
    · have : ∃ j, j < i ∧ a.getLsbD j = true := ⟨k, by omega, hs⟩
      have h3 : i - k ≠ 0 := by omega
      simp only [this, decide_true, Bool.xor_true, Bool.and_not_self]
      have h4 : ¬ i < k := h1
      simp [h4]
      omega
theorem neg_wrap (a : BitVec 64) : IntKind.u64.wrap (-(a.toNat : Int)) = ((-a).toNat : Int) := by
  rw [IntKind.wrap_u64, BitVec.toNat_neg]
  have := a.isLt
  omega

theorem idx_wrap (p j : Nat) (h : (p * 285870213051353865 % 18446744073709551616) / 288230376151711744 = j) : IntKind.u64.wrap ((p : Int) * 285870213051353865) / 288230376151711744 = (j : Int) := by
  rw [IntKind.wrap_u64, ← h, Int.natCast_ediv, Int.natCast_emod, Int.natCast_mul]
  rfl
theorem bitN_toNat (k : Nat) (hk : k < 64) : (bitN k).toNat = 2 ^ k := by
  unfold bitN
  have h : (2 : Nat) ^ k < 2 ^ 64 := Nat.pow_lt_pow_right (by omega) hk
  rw [BitVec.toNat_shiftLeft, Nat.shiftLeft_eq]
  simp only [BitVec.ofNat_eq_ofNat, BitVec.toNat_ofNat]
  rw [show 1 % 2 ^ 64 * 2 ^ k = 2 ^ k by simp, Nat.mod_eq_of_lt h]
theorem tab_look' (p k : Nat) (hk : k < 64) (hp : p = 2 ^ k) : ∃ j, j < 64 ∧ tzTab.getD j 0 = k ∧ IntKind.u64.wrap ((p : Int) * 285870213051353865) / 288230376151711744 = (j : Int) := by
  obtain ⟨t1, t2⟩ := tab_look k hk
  rw [← hp] at t1 t2
  exact ⟨_, t1, t2, idx_wrap p _ rfl⟩

set_option maxHeartbeats 400000 in
theorem tz_any (a : BitVec 64) (k : Nat) (hk : k < 64) (hs : a.getLsbD k = true) (hm : ∀ j, j < k → a.getLsbD j = false) (w : World) (hT : TabOk w) :
    Calls Tryd.prog 68 #[.int .u64 a.toNat] w fun e w' => e = .returned (.int .i64 k) ∧ w = w' := by
  have hne : ((a.toNat : Int) == 0) = false := beq_eq_false_iff_ne.2 (by
    intro h
    have : a = 0 := by apply BitVec.eq_of_toNat_eq; simp; omega
    subst this; simp at hs)
  have f1 : bits .and .u64 (a.toNat : Int) (IntKind.u64.wrap (-(a.toNat : Int))) = ((bitN k).toNat : Int) := by
    rw [neg_wrap, bits_and_bv, low_bit a k hk hs hm]
  obtain ⟨j, t1, t2, f2⟩ := tab_look' _ k hk (bitN_toNat k hk)
  have f3 := hT j t1
  rw [t2] at f3
  have j0 : (0 : Int) ≤ (j : Int) := by omega
  have j1 : (j : Int) < 64 := by omega
  have k1 : IntKind.i64.wrap (k : Int) = (k : Int) := IntWalk.i64_in _ (by omega)
  clear hs hm hT t2
  generalize a.toNat = x at *
  generalize (bitN k).toNat = p at *
  go_enter Tryd.func68, Tryd.ntmps68
  go_wp2
  go_ret
  exact ⟨rfl, rfl⟩
end Go.Proofs.YtdhcnmljkmodhaaDoor

/- A law's frame: what a call that turns nothing old leaves ('law_post'); slices that came in, opened ('open_list'). -/
namespace Go.Proofs.YtdhcnmljkmodhaaDoor
set_option linter.unusedSectionVars false
set_option linter.unusedVariables false
set_option linter.unusedSimpArgs false
open Go.RowKit Go.ChangeShapes

/-- POST of a law: true, and what was there is as it was. -/
theorem law_post {H : Type} {enc : TypeId × Value → H} {P : Program} {f : Func} {s : ChangeSpec} {tb : TypeId} (hlaid : laidOutB P = true) (hpar : f.params.toList.all (fun t => P.readableRec t && decide (t < P.types.size)) = true)
    (hvars : varsRowed P s.vars = true) (hrt : f.resultTypes = #[tb]) (hb : P.underlying tb = some .bool) {apart : Bool} {W W' : World} {args : Array Value} {ds gs : List (DataW H)} {before : List MemPlace}
    (hW : DataW.Whole enc P f.params.toList s.vars apart W args.toList ds gs before) (hbel : Below W.heap.size W W') (hfn : s.fn H (ds ++ gs) = { results := [.lit (.bool true)], args := ds, vars := gs }) :
    s.post enc P f apart true false false W args (.bool true) W' := by
  have hlt := hW.lt
  have hW0 := hW
  obtain ⟨p, q, hA, hV, rfl, hfz, hnd⟩ := hW
  refine ⟨ds, gs, p ++ q, [], p, q, hW0, ?_, ?_, ?_, hbel.frame _, fun h => by cases h⟩
  · rw [hfn, hrt]
    exact trodAll_cons_mk (shut_bool hb _) trodAll_mk0
  · rw [hfn]
    have key : ∀ (ts : List TypeId) (vs : List Value) (ds : List (DataW H)) (p : List MemPlace), ts.all (fun t => P.readableRec t && decide (t < P.types.size)) = true → (∀ x ∈ p, x.block < W.heap.size) → DataW.TrodAll enc P W 0 (fun _ => true) true ts vs ds p → DataW.TrodAll enc P W' 0 (fun b => decide (b < W.heap.size)) true ts vs ds p := by
      intro ts
      induction ts with
      | nil => intro vs ds p _ _ h; cases vs <;> cases ds <;> exact h
      | cons t ts ih =>
        intro vs ds p hts hp h
        cases vs with
        | nil => exact h.elim
        | cons v vs =>
          cases ds with
          | nil => exact h.elim
          | cons d ds =>
            obtain ⟨p1, q1, h1, h2, rfl⟩ := h
            simp only [List.all_cons, Bool.and_eq_true, decide_eq_true_eq] at hts
            exact ⟨p1, q1, Below.trod hlaid hts.1.1 hts.1.2 h1 hbel (fun x hx => hp x (by simp [hx])), ih vs ds q1 hts.2 (fun x hx => hp x (by simp [hx])) h2, rfl⟩
    exact key _ _ _ _ hpar (fun x hx => hlt x (by simp [hx])) hA
  · rw [hfn]
    exact Below.trodVars hlaid hbel hvars hV

/-- A slice that came in: n elements of size cells each, the cells xs. (Where it has no element nothing is known of its address.) -/
def ReadsC (w : World) (size : Nat) (v : Value) (n : Nat) (xs : List Value) : Prop :=
  xs.length = n * size ∧ ∃ a cap, v = .slice a n cap ∧ n ≤ cap ∧ cap ≤ maxLen ∧ (a = none → n = 0 ∧ cap = 0) ∧ (0 < n → ∃ g off, a = some ⟨g, off, none⟩ ∧ g < w.heap.size ∧ ∀ j u, xs[j]? = some u → w.cell? ⟨g, off + j, none⟩ = some u)
theorem ReadsC.keeps {w w' : World} {size n : Nat} {v : Value} {xs : List Value} (h : ReadsC w size v n xs) (hk : Keeps w w' (fun _ => False)) : ReadsC w' size v n xs := by
  obtain ⟨h1, a, cap, h2, h3, h4, h5, h6⟩ := h
  refine ⟨h1, a, cap, h2, h3, h4, h5, fun h0 => ?_⟩
  obtain ⟨g, off, rfl, hg, hc⟩ := h6 h0
  exact ⟨g, off, rfl, Nat.lt_of_lt_of_le hg hk.size, fun j u hj => by rw [← hc j u hj]; exact World.cell?_of_block (hk.block g hg id)⟩

theorem flatMap_get {α : Type} (f : α → List Value) (size : Nat) (hf : ∀ a, (f a).length = size) : ∀ (l : List α) (i r : Nat) (h : i < l.length), r < size → (l.flatMap f)[i * size + r]? = (f l[i])[r]?
  | a :: l, 0, r, _, hr => by
    rw [List.flatMap_cons, Nat.zero_mul, Nat.zero_add, List.getElem?_append_left (by rw [hf]; exact hr)]
    rfl
  | a :: l, i + 1, r, h, hr => by
    rw [List.flatMap_cons, List.getElem?_append_right (by rw [hf, Nat.add_mul]; omega), hf, show (i + 1) * size + r - size = i * size + r by rw [Nat.add_mul]; omega]
    simpa using flatMap_get f size hf l i r (by simpa using h) hr
theorem flatMap_len {α : Type} (f : α → List Value) (size : Nat) (hf : ∀ a, (f a).length = size) (l : List α) : (l.flatMap f).length = l.length * size := by
  induction l with
  | nil => simp
  | cons a l ih => rw [List.flatMap_cons, List.length_append, hf, ih, List.length_cons, Nat.add_mul]; omega

theorem cells?_get {w : World} {a : Addr} {n : Nat} {cs : List Value} (h : w.cells? 0 a n = some cs) : cs.length = n ∧ ∀ r, r < n → w.cell? (a.add r) = cs[r]? := by
  unfold World.cells? at h
  rw [if_pos (Nat.zero_le _)] at h
  have key : ∀ (k : List Nat) (cs : List Value), k.mapM (fun i => w.cell? (a.add i)) = some cs → cs.length = k.length ∧ ∀ r (hr : r < k.length), w.cell? (a.add k[r]) = cs[r]? := by
    intro k
    induction k with
    | nil => intro cs h; simp at h; subst h; exact ⟨rfl, fun r hr => by simp at hr⟩
    | cons i k ih =>
      intro cs h
      simp only [List.mapM_cons, Option.bind_eq_bind, Option.pure_def] at h
      cases hc : w.cell? (a.add i) with
      | none => rw [hc] at h; simp at h
      | some v =>
        cases hr : k.mapM (fun i => w.cell? (a.add i)) with
        | none => rw [hc, hr] at h; simp at h
        | some vs =>
          rw [hc, hr] at h
          simp at h
          subst h
          obtain ⟨h1, h2⟩ := ih vs hr
          refine ⟨by simp [h1], fun r hr => ?_⟩
          cases r with
          | zero => simpa using hc
          | succ r => simpa using h2 r (by simpa using hr)
  obtain ⟨h1, h2⟩ := key _ _ h
  rw [List.length_range] at h1
  exact ⟨h1, fun r hr => by
    have := h2 r (by rw [List.length_range]; exact hr)
    rw [List.getElem_range] at this
    exact this⟩

/-- A slice of whatever elements, each of which reads as one of α. -/
theorem open_list {H α : Type} {enc : TypeId × Value → H} {P : Program} {w : World} {spare : Nat → Bool} {held : Bool} {t e : TypeId} {fuel size : Nat} {cs : List Value} {x : DataW H × List MemPlace} (f : α → List Value) (R : α → Prop)
    (hdec : ∀ (n : Nat) (cs' : List Value) (y : DataW H × List MemPlace), cs'.length = size → DataW.trod enc P w 0 spare held n e cs' = some y → ∃ a, cs' = f a ∧ R a)
    (hf : ∀ a, (f a).length = size) (ht : P.underlying t = some (.slice e)) (hc : P.cellsOf e = size) (h0 : 0 < size) (h : DataW.trod enc P w 0 spare held fuel t cs = some x) :
    ∃ (v : Value) (l : List α), cs = [v] ∧ ReadsC w size v l.length (l.flatMap f) ∧ ∀ a ∈ l, R a := by
  rcases Go.Deep.open_slice ht h with ⟨rfl, rfl⟩ | ⟨a, len, cap, m, n, D, Pl, rfl, hb, hl, hm, hmm, rfl, hx⟩
  · exact ⟨_, [], rfl, ⟨by simp, none, 0, rfl, Nat.le_refl _, by unfold maxLen; omega, fun _ => ⟨rfl, rfl⟩, fun h => by simp at h⟩, fun a ha => by cases ha⟩
  · have hlm : len ≤ m := by rw [hmm]; split <;> omega
    rw [hc] at hx
    have key : ∀ k, k ≤ len → ∃ l : List α, l.length = k ∧ ∀ i (hi : i < l.length), (∀ r, r < size → w.cell? ((a.add (i * size)).add r) = (f l[i])[r]?) ∧ R l[i] := by
      intro k
      induction k with
      | zero => intro _; exact ⟨[], rfl, fun i hi => by simp at hi⟩
      | succ k ih =>
        intro hk
        obtain ⟨l, h1, h2⟩ := ih (by omega)
        obtain ⟨cs', c1, c2⟩ := hx k (by omega)
        obtain ⟨d1, d2⟩ := cells?_get c1
        obtain ⟨b, rfl, hR⟩ := hdec n cs' _ d1 c2
        refine ⟨l ++ [b], by simp [h1], fun i hi => ?_⟩
        rw [List.length_append, List.length_cons, List.length_nil] at hi
        by_cases hik : i < l.length
        · have := h2 i hik
          rw [List.getElem_append_left hik]; exact this
        · obtain rfl : i = k := by omega
          rw [List.getElem_append_right (by omega)]
          simp only [h1, Nat.sub_self, List.getElem_cons_zero]
          exact ⟨d2, hR⟩
    obtain ⟨l, hlen, hl2⟩ := key len (Nat.le_refl _)
    subst hlen
    refine ⟨_, l, rfl, ⟨flatMap_len f size hf l, some a, cap, rfl, hl, hm, (fun h => by cases h), fun hpos => ?_⟩, fun b hb => ?_⟩
    · have h00 := (hl2 0 hpos).1 0 h0
      rw [Nat.zero_mul] at h00
      have hsome : (f l[0])[0]? = some ((f l[0])[0]'(by rw [hf]; exact h0)) := List.getElem?_eq_getElem _
      rw [hsome] at h00
      have e0 : (a.add 0).add 0 = a := rfl
      rw [e0] at h00
      have hsp : a.spot = none := by
        cases hs : a.spot with
        | none => rfl
        | some s => simp [World.cell?, hs] at h00; split at h00 <;> cases h00
      obtain ⟨g, off, sp⟩ := a
      simp only at hsp
      subst hsp
      refine ⟨g, off, rfl, World.block_lt_of_cell? w _ h00, fun j u hj => ?_⟩
      have hjl : j < l.length * size := by
        have := (List.getElem?_eq_some_iff.1 hj).1
        rw [flatMap_len f size hf] at this; exact this
      have hq : j / size < l.length := Nat.div_lt_of_lt_mul (by rw [Nat.mul_comm]; exact hjl)
      have hr : j % size < size := Nat.mod_lt _ h0
      have hjj : j / size * size + j % size = j := by rw [Nat.mul_comm]; exact Nat.div_add_mod j size
      have h1 := (hl2 (j / size) hq).1 (j % size) hr
      rw [← flatMap_get f size hf l _ _ hq hr, hjj, hj] at h1
      have e1 : (((⟨g, off, none⟩ : Addr).add (j / size * size)).add (j % size)) = ⟨g, off + j, none⟩ := by
        have add1 : ∀ (o k : Nat), (⟨g, o, none⟩ : Addr).add k = ⟨g, o + k, none⟩ := fun o k => by
          unfold Addr.add; split
          · rename_i h; subst h; rfl
          · rfl
        rw [add1, add1, Nat.add_assoc, hjj]
      rw [e1] at h1
      exact h1
    · obtain ⟨i, hi, rfl⟩ := List.getElem_of_mem hb
      exact (hl2 i hi).2
end Go.Proofs.YtdhcnmljkmodhaaDoor

/- The walks of Len, First, Of, Upto; the list of a set's numbers. -/
namespace Go.Proofs.YtdhcnmljkmodhaaDoor
set_option linter.unusedSectionVars false
set_option linter.unusedVariables false
set_option linter.unusedSimpArgs false
open Go.RowKit

/-- The numbers of a set, rising. -/
def BSet.mem (s : BSet) : List Nat := (List.range 128).filter s.has
theorem BSet.mem_split (s : BSet) : s.mem = ((List.range 64).filter s.lo.getLsbD) ++ ((List.range 64).filter s.hi.getLsbD).map (64 + ·) := by
  unfold BSet.mem
  rw [show (128 : Nat) = 64 + 64 by rfl, List.range_add, List.filter_append, List.filter_map]
  refine congr (congrArg _ ?_) ?_
  · apply List.filter_congr
    intro i hi
    unfold BSet.has
    rw [if_pos (List.mem_range.1 hi)]
  · apply congrArg (List.map (64 + ·))
    apply List.filter_congr
    intro i hi
    show s.has (64 + i) = _
    unfold BSet.has
    rw [if_neg (by omega), Nat.add_sub_cancel_left]
theorem pc_word (a : BitVec 64) : ((List.range 64).filter a.getLsbD).length = pc 64 a.toNat := by
  rw [← pc_filter]; rfl
theorem BSet.mem_length (s : BSet) : s.mem.length = pc 64 s.lo.toNat + pc 64 s.hi.toNat := by
  rw [BSet.mem_split, List.length_append, List.length_map, pc_word, pc_word]
/-- A callee that draws nothing, inside a region walked quietly. -/
theorem quiet_eq {P : Program} {f : FuncId} {args : Array Value} {w : World} {n : Nat} {v : Value} (h : Calls P f args (w.drewN n) fun e w' => e = .returned v ∧ w.drewN n = w') : Calls P f args (w.drewN n) fun e w'' => e = .returned v ∧ ∃ m, w'' = w.drewN m :=
  h.mono fun _ _ ⟨he, hm⟩ => ⟨he, n, hm.symm⟩
theorem pc_le (n x : Nat) : pc n x ≤ n := by
  induction n generalizing x with
  | zero => exact Nat.le_refl _
  | succ n ih => have := ih (x / 2); simp only [pc]; omega

set_option maxHeartbeats 400000 in
theorem len_any (s : BSet) (w : World) : Calls Tryd.prog 67 #[s.val] w fun e w' => e = .returned (.int .i64 s.mem.length) ∧ Keeps w w' (fun _ => False) := by
  have hl := s.mem_length
  have b1 := pc_le 64 s.lo.toNat
  have b2 := pc_le 64 s.hi.toNat
  have hs : ((s.mem.length : Nat) : Int) = (pc 64 s.lo.toNat : Int) + (pc 64 s.hi.toNat : Int) := by rw [hl]; simp
  have Hs := Lib.hid hs
  clear hl hs
  unfold BSet.val
  go_enter Tryd.func67, Tryd.ntmps67
  go_wp2_with fail
  go_quiet ((go_at_call 69; exact quiet_eq (ones_any _ _)))
  go_wp2
  go_ret
  rw [Hs.out]
  exact ⟨rfl, ((Keeps.refl _ _).alloc _).drewN _⟩

/-- The least, or -1. -/
def BSet.firstN (s : BSet) : Int := match s.mem with
  | [] => -1
  | k :: _ => k
theorem filter_range_head (p : Nat → Bool) (n k : Nat) (hk : k < n) (hp : p k = true) (hm : ∀ j, j < k → p j = false) : ∃ r, (List.range n).filter p = k :: r := by
  obtain ⟨m, rfl⟩ : ∃ m, n = k + (m + 1) := ⟨n - k - 1, by omega⟩
  rw [List.range_add, List.filter_append]
  have h1 : (List.range k).filter p = [] := List.filter_eq_nil_iff.2 (fun j hj => by rw [hm j (List.mem_range.1 hj)]; simp)
  rw [h1, List.range_succ_eq_map, List.map_cons, List.nil_append, List.filter_cons]
  rw [if_pos (by simpa using hp)]
  exact ⟨_, rfl⟩
theorem exists_least (p : Nat → Bool) (n : Nat) (h : ∃ k, k < n ∧ p k = true) : ∃ k, k < n ∧ p k = true ∧ ∀ j, j < k → p j = false := by
  obtain ⟨k, hk, hp⟩ := h
  induction k using Nat.strongRecOn with
  | _ k ih =>
    by_cases h : ∃ j, j < k ∧ p j = true
    · obtain ⟨j, h1, h2⟩ := h
      exact ih j h1 (by omega) h2
    · exact ⟨k, hk, hp, fun j hj => by
        cases hpj : p j
        · rfl
        · exact absurd ⟨j, hj, hpj⟩ h⟩
theorem word_ne_zero (a : BitVec 64) (h : a ≠ 0) : ∃ k, k < 64 ∧ a.getLsbD k = true := by
  by_cases hc : ∃ k, k < 64 ∧ a.getLsbD k = true
  · exact hc
  · exfalso; apply h
    apply BitVec.eq_of_getLsbD_eq
    intro i hi
    cases hb : a.getLsbD i
    · simp
    · exact absurd ⟨i, hi, hb⟩ hc
theorem word_zero_filter : (List.range 64).filter (0 : BitVec 64).getLsbD = [] := List.filter_eq_nil_iff.2 (fun j _ => by simp)
theorem int_eq_zero (a : BitVec 64) : ((a.toNat : Int) != 0) = (a != 0) := by
  rw [Bool.eq_iff_iff, bne_iff_ne, bne_iff_ne]
  constructor
  · intro h e; subst e; exact h rfl
  · intro h e; apply h; apply BitVec.eq_of_toNat_eq; simp; omega

set_option maxHeartbeats 400000 in
theorem first_any (s : BSet) (w : World) (hT : TabOk w) : Calls Tryd.prog 66 #[s.val] w fun e w' => e = .returned (.int .i64 s.firstN) ∧ Keeps w w' (fun _ => False) := by
  have hT2 : TabOk (w.alloc (.cells #[.int .u64 s.lo.toNat, .int .u64 s.hi.toNat] 57)) := hT.keeps ((Keeps.refl _ _).alloc _)
  have GT := Lib.hid hT2
  clear hT hT2
  by_cases h0 : s.lo = 0
  · by_cases h1 : s.hi = 0
    · have hf : s.firstN = -1 := by unfold BSet.firstN; rw [BSet.mem_split, h0, h1, word_zero_filter]; rfl
      have hb0 : ((s.lo.toNat : Int) != 0) = false := by rw [int_eq_zero, h0]; rfl
      have hb1 : ((s.hi.toNat : Int) != 0) = false := by rw [int_eq_zero, h1]; rfl
      rw [hf]
      clear h0 h1 hf
      unfold BSet.val
      go_enter Tryd.func66, Tryd.ntmps66
      go_wp2
      refine wp_loop_rounds 3 ?_
      rw [rounds_succ]
      go_wp2_with fail
      rw [rounds_succ]
      go_wp2_with fail
      rw [rounds_succ]
      go_wp2_with fail
      go_ret
      exact ⟨rfl, (Keeps.refl _ _).alloc _⟩
    · obtain ⟨k, hk, hs, hm⟩ := exists_least _ 64 (word_ne_zero _ h1)
      have hf : s.firstN = 64 + (k : Int) := by
        obtain ⟨r, hr⟩ := filter_range_head _ 64 k hk hs hm
        unfold BSet.firstN; rw [BSet.mem_split, h0, word_zero_filter, hr, List.nil_append, List.map_cons]; simp
      have hb0 : ((s.lo.toNat : Int) != 0) = false := by rw [int_eq_zero, h0]; rfl
      have hb1 : ((s.hi.toNat : Int) != 0) = true := by rw [int_eq_zero]; simpa using h1
      have C := Lib.hid (tz_any s.hi k hk hs hm _ GT.out)
      rw [hf]
      clear h0 h1 hf hs hm
      unfold BSet.val
      go_enter Tryd.func66, Tryd.ntmps66
      go_wp2
      refine wp_loop_rounds 3 ?_
      rw [rounds_succ]
      go_wp2_with fail
      rw [rounds_succ]
      go_wp2_with (go_at_call 68; refine C.out.mono ?_; rintro e w' ⟨rfl, rfl⟩)
      go_ret
      exact ⟨rfl, (Keeps.refl _ _).alloc _⟩
  · obtain ⟨k, hk, hs, hm⟩ := exists_least _ 64 (word_ne_zero _ h0)
    have hf : s.firstN = (k : Int) := by
      obtain ⟨r, hr⟩ := filter_range_head _ 64 k hk hs hm
      unfold BSet.firstN; rw [BSet.mem_split, hr, List.cons_append]
    have hb0 : ((s.lo.toNat : Int) != 0) = true := by rw [int_eq_zero]; simpa using h0
    have C := Lib.hid (tz_any s.lo k hk hs hm _ GT.out)
    rw [hf]
    clear h0 hf hs hm
    unfold BSet.val
    go_enter Tryd.func66, Tryd.ntmps66
    go_wp2
    refine wp_loop_rounds 3 ?_
    rw [rounds_succ]
    go_wp2_with (go_at_call 68; refine C.out.mono ?_; rintro e w' ⟨rfl, rfl⟩)
    go_ret
    exact ⟨rfl, (Keeps.refl _ _).alloc _⟩
end Go.Proofs.YtdhcnmljkmodhaaDoor

/- The walks of Of and Upto. -/
namespace Go.Proofs.YtdhcnmljkmodhaaDoor
set_option linter.unusedSectionVars false
set_option linter.unusedVariables false
set_option linter.unusedSimpArgs false
open Go.RowKit

def encI (i : Int) : List Value := [.int .i64 i]
def ofL (l : List Int) : BSet := l.foldl BSet.withN BSet.empty
theorem BSet.val_cells (s : BSet) : (.agg #[.int .u64 s.lo.toNat, .int .u64 s.hi.toNat] : Value) = s.val := rfl
/-- Of a slice that came in, or of the call's own: what a loop over it wants. -/
theorem ReadsC.cell1 {w : World} {a : Option Addr} {cap : Nat} {l : List Int} (h : ReadsC w 1 (.slice a l.length cap) l.length (l.flatMap encI)) (k : Nat) (hk : k < l.length) :
    ∃ g off, a = some ⟨g, off, none⟩ ∧ g < w.heap.size ∧ w.cell? ⟨g, off + k, none⟩ = some (.int .i64 l[k]) := by
  obtain ⟨_, a', cap', hv, _, _, _, h6⟩ := h
  simp only [Value.slice.injEq] at hv
  obtain ⟨rfl, _, rfl⟩ := hv
  obtain ⟨g, off, rfl, hg, hcs⟩ := h6 (by omega)
  refine ⟨g, off, rfl, hg, ?_⟩
  have := hcs (k * 1 + 0) (.int .i64 l[k]) (by rw [flatMap_get encI 1 (fun _ => rfl) l k 0 hk (by omega)]; rfl)
  rwa [Nat.add_zero, Nat.mul_one] at this

set_option maxHeartbeats 400000 in
theorem of_any (w : World) (v : Value) (l : List Int) (HA : ReadsC w 1 v l.length (l.flatMap encI)) : Calls Tryd.prog 31 #[v] w fun e w' => e = .returned (ofL l).val ∧ Keeps w w' (fun _ => False) := by
  obtain ⟨_, a, cap, rfl, hcap, hmax, _, _⟩ := id HA
  have hln : l.length ≤ 9223372036854775807 := by unfold maxLen at hmax; omega
  have GA := Lib.hid HA
  clear HA hmax
  have I0 : Hid ((((w.alloc (.cells #[.int .u64 0, .int .u64 0] 57)).alloc (.cells #[.int .u64 0, .int .u64 0] 57)).heap[w.heap.size + 1]? = some (.cells BSet.empty.cells 57 (0, 0))) ∧ (((w.alloc (.cells #[.int .u64 0, .int .u64 0] 57)).alloc (.cells #[.int .u64 0, .int .u64 0] 57)).heap[w.heap.size]? = some (.cells BSet.empty.cells 57 (0, 0))) ∧ Keeps w ((w.alloc (.cells #[.int .u64 0, .int .u64 0] 57)).alloc (.cells #[.int .u64 0, .int .u64 0] 57)) (fun _ => False)) := by
    refine ⟨?_, ?_, ((Keeps.refl _ _).alloc _).alloc _⟩
    · have := heap_alloc_new (w.alloc (.cells #[.int .u64 0, .int .u64 0] 57)) (.cells #[.int .u64 0, .int .u64 0] 57)
      rw [hs_alloc] at this; exact this
    · exact (Below.heap_alloc _ _ _ (by simp)).trans (heap_alloc_new w _)
  go_enter Tryd.func31, Tryd.ntmps31
  go_wp2
  go_loopw [8] (fun t8 wr => ∃ k : Nat, t8 = .int .i64 k ∧ k ≤ l.length ∧ wr.heap[w.heap.size + 1]? = some (.cells (ofL (l.take k)).cells 57 (0, 0)) ∧ wr.heap[w.heap.size]? = some (.cells BSet.empty.cells 57 (0, 0)) ∧ Keeps w wr (fun _ => False)) (fun t8 _ => l.length - (intOf t8).toNat)
  case atStart => exact ⟨0, rfl, Nat.zero_le _, I0.out⟩
  case round =>
    obtain ⟨k, rfl, hk, hb, hb0, hkp⟩ := hrel
    have GB := Lib.hid hb
    have GB0 := Lib.hid hb0
    have GK := Lib.hid hkp
    have x0 : wr.cell? ⟨w.heap.size + 1, 0, none⟩ = some (.int .u64 (ofL (l.take k)).lo.toNat) := by rw [cell_at hb]; rfl
    have x1 : wr.cell? ⟨w.heap.size + 1, 1, none⟩ = some (.int .u64 (ofL (l.take k)).hi.toNat) := by rw [cell_at hb]; rfl
    have y0 : wr.cell? ⟨w.heap.size, 0, none⟩ = some (.int .u64 0) := by rw [cell_at hb0]; rfl
    have y1 : wr.cell? ⟨w.heap.size, 1, none⟩ = some (.int .u64 0) := by rw [cell_at hb0]; rfl
    have yf : ∀ o, wr.frozen? ⟨w.heap.size, o, none⟩ = false := free_at hb0
    have hsz := block_lt hb
    clear hb hb0 hkp I0
    by_cases hlt : k < l.length
    · obtain ⟨g, off, rfl, hg, hc⟩ := (GA.out.keeps GK.out).cell1 k hlt
      have hstep : ofL (l.take (k + 1)) = (ofL (l.take k)).withN l[k] := by
        rw [List.take_succ_eq_append_getElem hlt]; unfold ofL; rw [List.foldl_append]; rfl
      have Hst := Lib.hid hstep
      clear hstep
      generalize l[k] = i at *
      go_wp2_with fail
      refine (with_any (ofL (l.take k)) i _).mono ?_
      rintro e w2 ⟨rfl, k2⟩
      have hb2 : w2.heap[w.heap.size + 1]? = some (.cells (ofL (l.take k)).cells 57 (0, 0)) := (k2.block _ hsz id).trans GB.out
      have hb20 : w2.heap[w.heap.size]? = some (.cells BSet.empty.cells 57 (0, 0)) := (k2.block _ (by omega) id).trans GB0.out
      have z0 : w2.cell? ⟨w.heap.size + 1, 0, none⟩ = some (.int .u64 (ofL (l.take k)).lo.toNat) := by rw [cell_at hb2]; rfl
      have z1 : w2.cell? ⟨w.heap.size + 1, 1, none⟩ = some (.int .u64 (ofL (l.take k)).hi.toNat) := by rw [cell_at hb2]; rfl
      have zf : ∀ o, w2.frozen? ⟨w.heap.size + 1, o, none⟩ = false := free_at hb2
      have fin : ∀ W, W = (w2.setCell ⟨w.heap.size + 1, 0, none⟩ (.int .u64 ((ofL (l.take k)).withN i).lo.toNat)).setCell ⟨w.heap.size + 1, 1, none⟩ (.int .u64 ((ofL (l.take k)).withN i).hi.toNat) → W.heap[w.heap.size + 1]? = some (.cells (ofL (l.take (k + 1))).cells 57 (0, 0)) ∧ W.heap[w.heap.size]? = some (.cells BSet.empty.cells 57 (0, 0)) ∧ Keeps w W (fun _ => False) := by
        rintro W rfl
        refine ⟨?_, ?_, ((GK.out.trans k2).setCell (fun h => absurd h (by simp)) _).setCell (fun h => absurd h (by simp)) _⟩
        · rw [setCell_heap (setCell_heap hb2 0 _) 1 _, Hst.out]; rfl
        · rw [Below.heap_setCell _ _ _ _ (by simp), Below.heap_setCell _ _ _ _ (by simp)]; exact hb20
      have Fin := Lib.hid fin
      clear fin hb2 hb20 k2 x0 x1 y0 y1 yf
      unfold BSet.val
      go_wp2_with fail
      go_roundw
      case rel => exact ⟨k + 1, by go_num, by omega, Fin.out _ rfl⟩
      case measure => simp [intOf]; omega
    · obtain rfl : k = l.length := by omega
      rw [List.take_length] at x0 x1
      go_wp2
      refine bodyPost_ret (v := (ofL l).val) (by simp [results, Tryd.results31, go_sem, BSet.val, y0, y1, hsz]) rfl ⟨rfl, ?_⟩
      exact (GK.out.setCell (fun h => absurd h (by simp)) _).setCell (fun h => absurd h (by simp)) _

def uptoM (m : Nat) : BSet := ofL ((List.range m).map (fun (i : Nat) => (i : Int)))
theorem uptoM_succ (k : Nat) : uptoM (k + 1) = (uptoM k).withN (k : Int) := by
  unfold uptoM ofL
  rw [List.range_succ, List.map_append, List.foldl_append]
  simp only [List.map_cons, List.map_nil, List.foldl_cons, List.foldl_nil]
theorem upto_start (w : World) : ((w.alloc (.cells #[.int .u64 0, .int .u64 0] 57)).alloc (.cells #[.int .u64 0, .int .u64 0] 57)).heap[w.heap.size + 1]? = some (.cells (uptoM 0).cells 57 (0, 0)) ∧ ((w.alloc (.cells #[.int .u64 0, .int .u64 0] 57)).alloc (.cells #[.int .u64 0, .int .u64 0] 57)).heap[w.heap.size]? = some (.cells BSet.empty.cells 57 (0, 0)) ∧ Keeps w ((w.alloc (.cells #[.int .u64 0, .int .u64 0] 57)).alloc (.cells #[.int .u64 0, .int .u64 0] 57)) (fun _ => False) := by
  have hz2 : BSet.empty.cells = #[.int .u64 0, .int .u64 0] := by
    unfold BSet.empty BSet.cells
    have h0 : ((0 : BitVec 64).toNat : Int) = 0 := by decide
    simp only [h0]
  have hz : (uptoM 0).cells = #[.int .u64 0, .int .u64 0] := hz2
  rw [hz, hz2]
  refine ⟨?_, ?_, ((Keeps.refl _ _).alloc _).alloc _⟩
  · have := heap_alloc_new (w.alloc (.cells #[.int .u64 0, .int .u64 0] 57)) (.cells #[.int .u64 0, .int .u64 0] 57)
    rw [hs_alloc] at this; exact this
  · exact (Below.heap_alloc _ _ _ (by simp)).trans (heap_alloc_new w _)
def uptoN (n : Int) : BSet := uptoM (min (max n 0) 128).toNat
end Go.Proofs.YtdhcnmljkmodhaaDoor

/- A region that draws its order and whose calls make memory: walked once, in the order of the text, in the class of all worlds in which what was there is as it was. -/
namespace Go.Proofs.YtdhcnmljkmodhaaDoor
set_option linter.unusedSectionVars false
set_option linter.unusedVariables false
set_option linter.unusedSimpArgs false
open Go.RowKit

/-- All worlds in which what was there in w0 is as it was. -/
def Cls (w0 : World) : Type := { w : World // Keeps w0 w (fun _ => False) }
def Cls.w {w0 : World} (x : Cls w0) : World := x.1
theorem Cls.keep {w0 : World} (x : Cls w0) : Keeps w0 x.w (fun _ => False) := x.2
def Cls.mk {w0 : World} (w : World) (h : Keeps w0 w (fun _ => False)) : Cls w0 := ⟨w, h⟩
instance (w0 : World) : Nonempty (Cls w0) := ⟨Cls.mk w0 (Keeps.refl _ _)⟩
theorem Cls.mk_w {w0 : World} (w : World) (h : Keeps w0 w (fun _ => False)) : (Cls.mk w h).w = w := rfl
theorem Cls.cell {w0 : World} {a : Addr} {v : Value} (h : w0.cell? a = some v) (x : Cls w0) : x.w.cell? a = some v := by
  rw [← h]; exact World.cell?_of_block (x.keep.block _ (World.block_lt_of_cell? w0 _ h) id)
theorem Cls.size {w0 : World} (x : Cls w0) : w0.heap.size ≤ x.w.heap.size := x.keep.size

theorem wp_region_cls {P : Program} {id : Nat} {Q : Exit → Act → World → Prop} {a : Act} {w : World} {l : List Oper} (hm : P.follows .mixedOrders = true) (hB : Region.lexB .any l.toArray = true)
    (h : wpQuiet P l.toArray (fun w' => ∃ x : Cls w, w' = x.w) (fun a' => ∀ w', (∃ x : Cls w, w' = x.w) → Q .normal a' w') l a) : (Code.region id l.toArray true).wp P Q a w :=
  wp_region_quiet (C := fun w' => ∃ x : Cls w, w' = x.w) hm hB ⟨Cls.mk w.drew ((Keeps.refl w _).drew), rfl⟩ (by simpa using h)
/-- A call inside it. -/
theorem cls_call {P : Program} {f : FuncId} {args : Array Value} {w0 : World} {x : Cls w0} {v : Value} (h : Calls P f args x.w fun e w' => e = .returned v ∧ Keeps x.w w' (fun _ => False)) :
    Calls P f args x.w fun e w'' => e = .returned v ∧ ∃ y : Cls w0, w'' = y.w :=
  h.mono fun _ _ ⟨he, hk⟩ => ⟨he, Cls.mk _ (x.keep.trans hk), rfl⟩
theorem cls_call_same {P : Program} {f : FuncId} {args : Array Value} {w0 : World} {x : Cls w0} {v : Value} (h : Calls P f args x.w fun e w' => e = .returned v ∧ x.w = w') :
    Calls P f args x.w fun e w'' => e = .returned v ∧ ∃ y : Cls w0, w'' = y.w :=
  h.mono fun _ _ ⟨he, hk⟩ => ⟨he, x, hk.symm⟩
end Go.Proofs.YtdhcnmljkmodhaaDoor
