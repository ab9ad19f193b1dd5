/- Merged for the claim, in build order: Mem, MemB, Bits0, Bits1, Bits2. -/
import Derived.WalkKit
import Derived.WalkSpells
import Derived.WalkLawsBesides
import Derived.Lib.Hide
import Derived.Lib.SmallJoins
import Derived.Deep.RegionLaw
import Derived.Deep.AppendSrc
import Derived.Laws.BitsAllLaws
import Derived.Test.YtdhcnmljkmodhaaDoorRows
import Derived.RegionTactic
import Derived.BigRegion
import Derived.Deep.QuietTactic
import Derived.BigQuiet
/- Memory: what a call may have turned ('Keeps'), a row of the call's own behind a store into one of its cells, and a store of whatever one-cell value. -/
namespace Go.Proofs.YtdhcnmljkmodhaaDoor
set_option linter.unusedSectionVars false
set_option linter.unusedVariables false
set_option linter.unusedSimpArgs false
open Go.RowKit

/-- A store of a value of one cell. -/
@[go_sem] theorem run_store_one (P : Program) (w : World) (a : Addr) (v : Value) (m : Mode) (hv : v.oneCell' = true) : (store a v m).run P w = stored P w a v m := run_store P w a _ m hv

/-- The cells of a value of one cell, as the walk writes them. -/
@[go_sem] theorem cells_one (v : Value) (hv : v.oneCell' = true) : Value.cells.match_1 (fun _ => Array Value) v (fun cs => cs) (fun v => #[v]) = #[v] := by
  cases v <;> first | rfl | simp [Value.oneCell'] at hv

/-- Of what was there, only the blocks in S may have turned. -/
structure Keeps (w w' : World) (S : Nat → Prop) : Prop where
  os : w'.os = w.os
  tape : w'.tape = w.tape
  output : w'.output = w.output
  size : w.heap.size ≤ w'.heap.size
  block : ∀ k, k < w.heap.size → ¬ S k → w'.heap[k]? = w.heap[k]?

theorem Keeps.refl (w : World) (S : Nat → Prop) : Keeps w w S := ⟨rfl, rfl, rfl, Nat.le_refl _, fun _ _ _ => rfl⟩
theorem Keeps.trans {a b c : World} {S : Nat → Prop} (h : Keeps a b S) (k : Keeps b c S) : Keeps a c S :=
  ⟨k.os.trans h.os, k.tape.trans h.tape, k.output.trans h.output, Nat.le_trans h.size k.size,
   fun i hi hs => (k.block i (Nat.lt_of_lt_of_le hi h.size) hs).trans (h.block i hi hs)⟩
/-- What the second step may turn beyond what was there at the first is new. -/
theorem Keeps.trans' {a b c : World} {S T : Nat → Prop} (h : Keeps a b S) (k : Keeps b c T) (hT : ∀ j, j < a.heap.size → T j → S j) : Keeps a c S :=
  ⟨k.os.trans h.os, k.tape.trans h.tape, k.output.trans h.output, Nat.le_trans h.size k.size,
   fun i hi hs => (k.block i (Nat.lt_of_lt_of_le hi h.size) (fun t => hs (hT i hi t))).trans (h.block i hi hs)⟩
theorem Keeps.mono {a b : World} {S T : Nat → Prop} (h : Keeps a b S) (hT : ∀ j, j < a.heap.size → S j → T j) : Keeps a b T :=
  ⟨h.os, h.tape, h.output, h.size, fun i hi hs => h.block i hi (fun s => hs (hT i hi s))⟩
theorem Keeps.drew {a b : World} {S : Nat → Prop} (h : Keeps a b S) : Keeps a b.drew S := ⟨h.os, h.tape, h.output, h.size, h.block⟩
theorem Keeps.drewN {a b : World} {S : Nat → Prop} (h : Keeps a b S) (n : Nat) : Keeps a (b.drewN n) S := ⟨h.os, h.tape, h.output, h.size, h.block⟩
theorem Keeps.alloc {a b : World} {S : Nat → Prop} (h : Keeps a b S) (o : Obj) : Keeps a (b.alloc o) S :=
  h.trans ⟨rfl, rfl, rfl, by simp, fun k hk _ => Below.heap_alloc _ _ _ (by omega)⟩
theorem Keeps.setCell {a b : World} {S : Nat → Prop} (h : Keeps a b S) {p : Addr} (hp : p.block < a.heap.size → S p.block) (u : Value) : Keeps a (b.setCell p u) S :=
  h.trans' (T := fun j => j = p.block) ⟨rfl, rfl, rfl, by simp [World.setCell], fun k _ hs => Below.heap_setCell _ _ _ _ hs⟩ (fun j hj e => by subst e; exact hp hj)
theorem Keeps.grown {a b c : World} {S : Nat → Prop} {row : Option Nat} (h : Keeps a b S) (hg : b.grownBy c row) (hr : ∀ k, row = some k → k < a.heap.size → S k) : Keeps a c S :=
  h.trans' (T := fun j => row = some j) ⟨hg.os, hg.tape, hg.output, hg.size, fun k hk hs => hg.block k hk (fun e => hs e.symm)⟩ (fun j hj e => hr j e hj)
theorem Keeps.below {B : Nat} {w w' : World} (h : Below B w w') (hB : w.heap.size ≤ B) (S : Nat → Prop) : Keeps w w' S :=
  ⟨h.os, h.tape, h.output, h.size, fun k hk _ => h.block k (by omega)⟩
/-- Only blocks from B on may have turned: 'Below'. -/
theorem Keeps.toBelow {B : Nat} {w w' : World} {S : Nat → Prop} (h : Keeps w w' S) (hB : B ≤ w.heap.size) (hS : ∀ k, k < w.heap.size → S k → B ≤ k) : Below B w w' :=
  ⟨h.os, h.tape, h.output, h.size, fun k hk => h.block k (by omega) (fun s => by have := hS k (by omega) s; omega)⟩

theorem block_lt {w : World} {b : Nat} {o : Obj} (h : w.heap[b]? = some o) : b < w.heap.size := by
  rcases Nat.lt_or_ge b w.heap.size with h' | h'
  · exact h'
  · simp [Array.getElem?_eq_none h'] at h
theorem setCell_heap {w : World} {g : Nat} {cs : Array Value} {t : TypeId} {fr : Nat × Nat} (h : w.heap[g]? = some (.cells cs t fr)) (o : Nat) (v : Value) :
    (w.setCell ⟨g, o, none⟩ v).heap[g]? = some (.cells (cs.setIfInBounds o v) t fr) := by
  have hlt := block_lt h
  have h' : w.heap[g] = .cells cs t fr := by simpa [Array.getElem?_eq_getElem hlt] using h
  show (w.heap.modify g _)[g]? = _
  rw [Array.getElem?_eq_getElem (by simpa using hlt), Array.getElem_modify_self, h']
  rfl
theorem cell_at {w : World} {g : Nat} {cs : Array Value} {t : TypeId} {fr : Nat × Nat} (h : w.heap[g]? = some (.cells cs t fr)) (o : Nat) : w.cell? ⟨g, o, none⟩ = cs[o]? := by simp [World.cell?, h]
theorem free_at {w : World} {g : Nat} {cs : Array Value} {t : TypeId} (h : w.heap[g]? = some (.cells cs t (0, 0))) (o : Nat) : w.frozen? ⟨g, o, none⟩ = false := by simp [World.frozen?, h]

/-- A store into one of a row's own cells. -/
theorem ownsRow_set {w : World} {base : Nat} {e : TypeId} {size n g cap : Nat} {xs : List Value} (h : w.ownsRow base e size (.slice (some ⟨g, 0, none⟩) n cap) n xs) (j : Nat) (v : Value) :
    (w.setCell ⟨g, j, none⟩ v).ownsRow base e size (.slice (some ⟨g, 0, none⟩) n cap) n (xs.set j v) := by
  obtain ⟨h1, h2⟩ := h
  rcases h2 with ⟨h2, _⟩ | ⟨g', cap', cur, hv, hg, hh, r1, r2, r3, r4⟩
  · cases h2
  · obtain ⟨rfl, rfl⟩ : g' = g ∧ cap' = cap := by simp at hv; exact ⟨hv.1.symm, hv.2.symm⟩
    refine ⟨by simpa using h1, .inr ⟨g', cap', _, rfl, hg, setCell_heap hh j v, r1, r2, by simpa using r3, ?_⟩⟩
    rw [← r4, Array.toList_setIfInBounds, List.take_set]
/-- A row's cells. -/
theorem ownsRow_cell {w : World} {base : Nat} {e : TypeId} {size n g cap : Nat} {xs : List Value} (h : w.ownsRow base e size (.slice (some ⟨g, 0, none⟩) n cap) n xs) {j : Nat} {v : Value} (hj : xs[j]? = some v) :
    w.cell? ⟨g, j, none⟩ = some v := by
  obtain ⟨h1, h2⟩ := h
  rcases h2 with ⟨h2, _⟩ | ⟨g', cap', cur, hv, hg, hh, r1, r2, r3, r4⟩
  · cases h2
  · obtain ⟨rfl, rfl⟩ : g' = g ∧ cap' = cap := by simp at hv; exact ⟨hv.1.symm, hv.2.symm⟩
    rw [cell_at hh, ← Array.getElem?_toList]
    rw [← r4] at hj
    obtain ⟨hlt, _⟩ := List.getElem?_eq_some_iff.1 hj
    rw [List.getElem?_take] at hj
    split at hj
    · exact hj
    · cases hj
theorem ownsRow_free {w : World} {base : Nat} {e : TypeId} {size n g cap : Nat} {xs : List Value} (h : w.ownsRow base e size (.slice (some ⟨g, 0, none⟩) n cap) n xs) (j : Nat) : w.frozen? ⟨g, j, none⟩ = false := by
  obtain ⟨h1, h2⟩ := h
  rcases h2 with ⟨h2, _⟩ | ⟨g', cap', cur, hv, hg, hh, r⟩
  · cases h2
  · obtain ⟨rfl, rfl⟩ : g' = g ∧ cap' = cap := by simp at hv; exact ⟨hv.1.symm, hv.2.symm⟩
    exact free_at hh j
theorem ownsRow_lt {w : World} {base : Nat} {e : TypeId} {size n g cap : Nat} {xs : List Value} (h : w.ownsRow base e size (.slice (some ⟨g, 0, none⟩) n cap) n xs) : base ≤ g ∧ g < w.heap.size ∧ n ≤ cap ∧ cap ≤ maxLen := by
  obtain ⟨h1, h2⟩ := h
  rcases h2 with ⟨h2, _⟩ | ⟨g', cap', cur, hv, hg, hh, r⟩
  · cases h2
  · obtain ⟨rfl, rfl⟩ : g' = g ∧ cap' = cap := by simp at hv; exact ⟨hv.1.symm, hv.2.symm⟩
    exact ⟨hg, block_lt hh, r.1, r.2.1⟩
/-- A row is what its block is: in a world in which that block is the same it is owned too. -/
theorem ownsRow_same {w w' : World} {base : Nat} {e : TypeId} {size n : Nat} {v : Value} {xs : List Value} (h : w.ownsRow base e size v n xs) (hs : ∀ g, v.ownBlock = some g → w'.heap[g]? = w.heap[g]?) : w'.ownsRow base e size v n xs := by
  obtain ⟨h1, h2⟩ := h
  refine ⟨h1, ?_⟩
  rcases h2 with h2 | ⟨g', cap', cur, hv, hg, hh, r⟩
  · exact .inl h2
  · subst hv; exact .inr ⟨g', cap', cur, rfl, hg, by rw [hs g' rfl]; exact hh, r⟩
/-- A shorter slice of the row. -/
theorem ownsRow_take {w : World} {base : Nat} {e : TypeId} {size n g cap : Nat} {xs : List Value} (h : w.ownsRow base e size (.slice (some ⟨g, 0, none⟩) n cap) n xs) (k : Nat) (hk : k ≤ n) :
    w.ownsRow base e size (.slice (some ⟨g, 0, none⟩) k cap) k (xs.take (k * size)) := by
  obtain ⟨h1, h2⟩ := h
  rcases h2 with ⟨h2, _⟩ | ⟨g', cap', cur, hv, hg, hh, r1, r2, r3, r4⟩
  · cases h2
  · obtain ⟨rfl, rfl⟩ : g' = g ∧ cap' = cap := by simp at hv; exact ⟨hv.1.symm, hv.2.symm⟩
    have hks : k * size ≤ n * size := Nat.mul_le_mul_right _ hk
    refine ⟨by rw [List.length_take, h1]; omega, .inr ⟨g', cap', cur, rfl, hg, hh, by omega, r2, r3, ?_⟩⟩
    rw [← r4, List.take_take, Nat.min_eq_left hks]
/-- append onto a row of the call's own, and where the new row's block is: the old one's, or new. -/
theorem run_append_fresh {P : Program} {w : World} (base : Nat) (t ty e : TypeId) (i : TypeInfo) (z : Value) (size bytes : Nat) (ht : P.underlying t = some (.slice e)) (hi : P.info? e = some i) (hz : i.zero = some z)
    (hsize : i.size = size) (hby : i.bytes = bytes) (hzs : z.cells.size = size) (hsz : 0 < size)
    (v : Value) (n : Nat) (xs : List Value) (hown : w.ownsRow base e size v n xs)
    (a : Addr) (m c : Nat) (news : List Value) (hl : news.length = m * size) (hnews : ∀ j u, news[j]? = some u → w.cell? (a.add j) = some u) (h1 : ∀ u ∈ news, u.oneCell' = true)
    (h63 : n + m ≤ maxLen) (hbytes : (n + m) * bytes ≤ 140737488355328) (hbase : base ≤ w.heap.size) :
    ∃ v' w', (Builtin.append_ #[t, t] ty #[v, .slice (some a) m c]).run P w = .ok v' w' ∧ w'.ownsRow base e size v' (n + m) (xs ++ news) ∧ w.grownBy w' v.ownBlock ∧
      (v' = .slice none 0 0 ↔ v = .slice none 0 0 ∧ m = 0) ∧ (∀ g, v'.ownBlock = some g → v.ownBlock = some g ∨ w.heap.size ≤ g) := by
  obtain ⟨v', w', hr, h2, h3, h4⟩ := run_append_own (P := P) (w := w) base t ty e i z size bytes ht hi hz hsize hby hzs hsz v n xs hown a m c news hl hnews h1 h63 hbytes hbase
  refine ⟨v', w', hr, h2, h3, h4, ?_⟩
  intro g hg
  rcases hown.2 with ⟨rfl, rfl⟩ | ⟨g0, cap, cur, rfl, hbg, hgc, hnc, hcm, hcs, htake⟩
  · obtain rfl : xs = [] := List.eq_nil_of_length_eq_zero (by simpa using hown.1)
    obtain ⟨v2, w2, hr2, k2, _⟩ := run_append_own (P := P) (w := w) w.heap.size t ty e i z size bytes ht hi hz hsize hby hzs hsz (.slice none 0 0) 0 [] (World.ownsRow_nil w _ e size) a m c news hl hnews h1 h63 hbytes (Nat.le_refl _)
    rw [hr] at hr2
    obtain ⟨rfl, rfl⟩ : v' = v2 ∧ w' = w2 := by simpa using hr2
    exact .inr (k2.lt g hg).1
  · by_cases hroom : n + m ≤ cap
    · have hfit : n * i.size + news.length ≤ cur.size := by rw [hl, hcs, hsize, ← Nat.add_mul]; exact Nat.mul_le_mul_right _ hroom
      have hr2 := run_append_room (P := P) (w := w) t ty e i ht hi g0 n cap cur hgc a m c news (by rw [hsize]; exact hl) hnews h1 hroom hfit
      rw [hr] at hr2
      obtain ⟨rfl, _⟩ : v' = _ ∧ w' = _ := by simpa using hr2
      exact .inl hg
    · have holds : ∀ j u, xs[j]? = some u → w.cell? ((⟨g0, 0, none⟩ : Addr).add j) = some u := hown.cells (g := g0) rfl
      obtain ⟨v2, w2, hr2, k2, _⟩ := run_append_arg_grows (P := P) (w := w) t ty e i z size bytes ht hi hz hsize hby hzs hsz ⟨g0, 0, none⟩ n cap xs hown.1 holds a m c news hl hnews (by omega) h63 hbytes
      rw [hr] at hr2
      obtain ⟨rfl, rfl⟩ : v' = v2 ∧ w' = w2 := by simpa using hr2
      exact .inr (k2.lt g hg).1

/-- The same, as one step of a region that draws. -/
theorem step_append_own {P : Program} {ops : Array Oper} {o : Oper} {a : Act} {w : World} {K : Act → World → Prop} {Q : Exit → Act → World → Prop} {E : Prop}
    (hg : o.guard = none) (s x : Operand) (t : TypeId) (hop : o.op = Op.call { callee := Callee.builtin Builtin.append, args := #[s, x], argTypes := #[t, t] })
    (e : TypeId) (i : TypeInfo) (z : Value) (size bytes : Nat) (h1 : P.underlying t = some (.slice e)) (h2 : P.info? e = some i) (h3 : i.zero = some z) (h4 : i.size = size) (h5 : i.bytes = bytes) (h6 : z.cells.size = size) (h7 : 0 < size)
    (base : Nat) (v : Value) (n : Nat) (xs : List Value) (hs : a.eval s = v) (hown : w.ownsRow base e size v n xs)
    (ad : Addr) (m c : Nat) (news : List Value) (hx : a.eval x = .slice (some ad) m c) (hn : news.length = m * size) (hc : ∀ j u, news[j]? = some u → w.cell? (ad.add j) = some u) (h1c : ∀ u ∈ news, u.oneCell' = true)
    (b1 : n + m ≤ maxLen) (b2 : (n + m) * bytes ≤ 140737488355328) (b3 : base ≤ w.heap.size)
    (hK : ∀ v' w', w'.ownsRow base e size v' (n + m) (xs ++ news) → w.grownBy w' v.ownBlock → (∀ g, v'.ownBlock = some g → v.ownBlock = some g ∨ w.heap.size ≤ g) → K (a.put o.dst v') w') :
    if Region.wanted o (yielded ops a.tmps) = true then Oper.wp P o a w K Q else E := by
  have hw : Region.wanted o (yielded ops a.tmps) = true := by simp [Region.wanted, hg]
  rw [if_pos hw]
  obtain ⟨v', w', hrun, r1, r2, _, r3⟩ := run_append_fresh (P := P) (w := w) base t o.type e i z size bytes h1 h2 h3 h4 h5 h6 h7 v n xs hown ad m c news hn hc h1c b1 b2 b3
  unfold Oper.wp
  simp [execOp, hop, resolve, invoke, builtin, hs, hx, hrun, Result.andThen]
  exact hK v' w' r1 r2 r3
/-- The same, in a plain list of operations. -/
theorem wpList_append_fresh {P : Program} {ops : Array Oper} {rest : List Oper} {o : Oper} {a : Act} {w : World} {Q : Exit → Act → World → Prop} (hgd : o.guard = none) (s x : Operand) (t : TypeId)
    (ho : o.op = .call { callee := .builtin .append, args := #[s, x], argTypes := #[t, t] })
    (base : Nat) (e : TypeId) (i : TypeInfo) (z : Value) (size bytes : Nat) (ht : P.underlying t = some (.slice e)) (hi : P.info? e = some i) (hz : i.zero = some z)
    (hsize : i.size = size) (hby : i.bytes = bytes) (hzs : z.cells.size = size) (hsz : 0 < size)
    (v : Value) (n : Nat) (xs : List Value) (hs : a.eval s = v) (hown : w.ownsRow base e size v n xs)
    (ad : Addr) (m c : Nat) (news : List Value) (hx : a.eval x = .slice (some ad) m c) (hl : news.length = m * size) (hnews : ∀ j u, news[j]? = some u → w.cell? (ad.add j) = some u) (h1 : ∀ u ∈ news, u.oneCell' = true)
    (h63 : n + m ≤ maxLen) (hbytes : (n + m) * bytes ≤ 140737488355328) (hbase : base ≤ w.heap.size)
    (h : ∀ v' w', w'.ownsRow base e size v' (n + m) (xs ++ news) → w.grownBy w' v.ownBlock → (v' = .slice none 0 0 ↔ v = .slice none 0 0 ∧ m = 0) → (∀ g, v'.ownBlock = some g → v.ownBlock = some g ∨ w.heap.size ≤ g) → wpList P ops Q rest (a.put o.dst v') w') : wpList P ops Q (o :: rest) a w := by
  refine wpList_plain hgd fun K hK => ?_
  obtain ⟨v', w', hr, h2, h3, h4, h5⟩ := run_append_fresh (P := P) (w := w) base t o.type e i z size bytes ht hi hz hsize hby hzs hsz v n xs hown ad m c news hl hnews h1 h63 hbytes hbase
  unfold Oper.wp execOp
  simp only [ho, resolve, invoke, builtin, Sem.run_bind, Sem.run_pure, Result.andThen_ok, List.map_toArray, List.map_cons, List.map_nil, hs, hx, hr]
  exact hK _ _ (h v' w' h2 h3 h4 h5)
/-- A new block's cells. -/
theorem cells_new (w : World) (cs : Array Value) (t : TypeId) (fr : Nat × Nat) (xs : List Value) (hx : cs.toList = xs) : ∀ j u, xs[j]? = some u → (w.alloc (.cells cs t fr)).cell? ((⟨w.heap.size, 0, none⟩ : Addr).add j) = some u := by
  intro j u hj
  have e : ((⟨w.heap.size, 0, none⟩ : Addr).add j) = ⟨w.heap.size, j, none⟩ := by
    unfold Addr.add; split
    · rename_i h; subst h; rfl
    · simp
  rw [e, cell_at (heap_alloc_new w _), ← hj, ← hx, Array.getElem?_toList]
/-- len of an owned row whose form is not known. -/
theorem run_len_forms {P : Program} {t ty e : TypeId} {v : Value} {n : Nat} (ht : P.underlying t = some (.slice e)) (hv : (v = .slice none 0 0 ∧ n = 0) ∨ ∃ g cap, v = .slice (some ⟨g, 0, none⟩) n cap) (W : World) : (Builtin.len_ #[t] ty #[v]).run P W = .ok (.int .i64 n) W := by
  rcases hv with ⟨rfl, rfl⟩ | ⟨g, cap, rfl⟩
  · simp [Builtin.len_, run_underlying ht]; rfl
  · simp [Builtin.len_, run_underlying ht]; rfl
theorem hs_alloc (w : World) (o : Obj) : (w.alloc o).heap.size = w.heap.size + 1 := by simp
theorem hs_drew (w : World) : w.drew.heap = w.heap := rfl
theorem hs_drewN (w : World) (n : Nat) : (w.drewN n).heap = w.heap := rfl
theorem hs_setCell (w : World) (a : Addr) (v : Value) : (w.setCell a v).heap.size = w.heap.size := by simp [World.setCell]
theorem ownsRow_drew {w : World} {base : Nat} {e : TypeId} {size n : Nat} {v : Value} {xs : List Value} (h : w.ownsRow base e size v n xs) : w.drew.ownsRow base e size v n xs := ⟨h.1, h.2⟩
end Go.Proofs.YtdhcnmljkmodhaaDoor

/- Memory: slices that are only read (at whatever offset), and append of whatever is read onto a row of the call's own. -/
namespace Go.Proofs.YtdhcnmljkmodhaaDoor
set_option linter.unusedSectionVars false
set_option linter.unusedVariables false
set_option linter.unusedSimpArgs false
open Go.RowKit

/-- A slice of n elements of type e, size cells each, that reads as the cells xs. -/
def ReadsRow (w : World) (e : TypeId) (size : Nat) (v : Value) (n : Nat) (xs : List Value) : Prop :=
  xs.length = n * size ∧ ((v = .slice none 0 0 ∧ n = 0) ∨
    ∃ g off cap cs fr, v = .slice (some ⟨g, off, none⟩) n cap ∧ n ≤ cap ∧ cap ≤ maxLen ∧ w.heap[g]? = some (.cells cs e fr) ∧ off + n * size ≤ cs.size ∧ (cs.toList.drop off).take (n * size) = xs)

theorem ReadsRow.ofOwn {w : World} {base : Nat} {e : TypeId} {size n : Nat} {v : Value} {xs : List Value} (h : w.ownsRow base e size v n xs) : ReadsRow w e size v n xs := by
  refine ⟨h.1, h.2.imp id ?_⟩
  rintro ⟨g, cap, cur, hv, _, hh, r1, r2, r3, r4⟩
  exact ⟨g, 0, cap, cur, (0, 0), hv, r1, r2, hh, by rw [r3, Nat.zero_add]; exact Nat.mul_le_mul_right _ r1, by simpa using r4⟩
theorem ReadsRow.forms {w : World} {e : TypeId} {size n : Nat} {v : Value} {xs : List Value} (h : ReadsRow w e size v n xs) : (v = .slice none 0 0 ∧ n = 0) ∨ ∃ g off cap, v = .slice (some ⟨g, off, none⟩) n cap ∧ n ≤ cap ∧ cap ≤ maxLen := by
  rcases h.2 with h | ⟨g, off, cap, cs, fr, hv, h1, h2, _⟩
  · exact .inl h
  · exact .inr ⟨g, off, cap, hv, h1, h2⟩
theorem ReadsRow.form1 {w : World} {e : TypeId} {size n : Nat} {v : Value} {xs : List Value} (h : ReadsRow w e size v n xs) : ∃ a cap, v = .slice a n cap ∧ n ≤ cap ∧ cap ≤ maxLen := by
  rcases h.forms with ⟨rfl, rfl⟩ | ⟨g, off, cap, rfl, h1, h2⟩
  · exact ⟨none, 0, rfl, Nat.le_refl _, by unfold maxLen; omega⟩
  · exact ⟨_, cap, rfl, h1, h2⟩
theorem ReadsRow.form2 {w : World} {e : TypeId} {size n : Nat} {v : Value} {xs : List Value} (h : ReadsRow w e size v n xs) (h0 : 0 < n) : ∃ g off cap, v = .slice (some ⟨g, off, none⟩) n cap ∧ n ≤ cap ∧ cap ≤ maxLen := by
  rcases h.forms with ⟨rfl, rfl⟩ | h
  · omega
  · exact h
theorem ReadsRow.cell {w : World} {e : TypeId} {size n g off cap : Nat} {xs : List Value} (h : ReadsRow w e size (.slice (some ⟨g, off, none⟩) n cap) n xs) {j : Nat} {u : Value} (hj : xs[j]? = some u) : w.cell? ⟨g, off + j, none⟩ = some u := by
  rcases h.2 with ⟨h2, _⟩ | ⟨g', off', cap', cs, fr, hv, _, _, hh, hsz, htk⟩
  · cases h2
  · obtain ⟨⟨rfl, rfl⟩, rfl⟩ : (g = g' ∧ off = off') ∧ cap = cap' := by simpa using hv
    rw [cell_at hh, ← Array.getElem?_toList]
    rw [← htk, List.getElem?_take] at hj
    split at hj
    · rw [List.getElem?_drop] at hj; exact hj
    · cases hj
theorem ReadsRow.lt {w : World} {e : TypeId} {size n g off cap : Nat} {xs : List Value} (h : ReadsRow w e size (.slice (some ⟨g, off, none⟩) n cap) n xs) : g < w.heap.size := by
  rcases h.2 with ⟨h2, _⟩ | ⟨g', off', cap', cs, fr, hv, _, _, hh, hsz, htk⟩
  · cases h2
  · obtain ⟨⟨rfl, rfl⟩, rfl⟩ : (g = g' ∧ off = off') ∧ cap = cap' := by simpa using hv
    exact block_lt hh
/-- It reads as it did where its block is as it was. -/
theorem ReadsRow.same {w w' : World} {e : TypeId} {size n : Nat} {v : Value} {xs : List Value} (h : ReadsRow w e size v n xs) (hs : ∀ g, v.ownBlock = some g → w'.heap[g]? = w.heap[g]?) : ReadsRow w' e size v n xs := by
  refine ⟨h.1, h.2.imp id ?_⟩
  rintro ⟨g, off, cap, cs, fr, rfl, r1, r2, hh, r⟩
  exact ⟨g, off, cap, cs, fr, rfl, r1, r2, by rw [hs g rfl]; exact hh, r⟩
theorem ReadsRow.blk {w : World} {e : TypeId} {size n : Nat} {v : Value} {xs : List Value} (h : ReadsRow w e size v n xs) : ∀ g, v.ownBlock = some g → ∃ cs fr, w.heap[g]? = some (.cells cs e fr) := by
  intro g hg
  rcases h.2 with ⟨rfl, _⟩ | ⟨g', off, cap, cs, fr, rfl, r1, r2, hh, r⟩
  · cases hg
  · simp only [Value.ownBlock, Option.some.injEq] at hg; subst hg; exact ⟨cs, fr, hh⟩
theorem ReadsRow.keeps {w w' : World} {e : TypeId} {size n : Nat} {v : Value} {xs : List Value} {S : Nat → Prop} (h : ReadsRow w e size v n xs) (hk : Keeps w w' S) (hS : ∀ g, v.ownBlock = some g → ¬ S g) : ReadsRow w' e size v n xs :=
  h.same fun g hg => by obtain ⟨cs, fr, hh⟩ := h.blk g hg; exact hk.block g (block_lt hh) (hS g hg)
theorem ReadsRow.keeps0 {w w' : World} {e : TypeId} {size n : Nat} {v : Value} {xs : List Value} (h : ReadsRow w e size v n xs) (hk : Keeps w w' (fun _ => False)) : ReadsRow w' e size v n xs := h.keeps hk (fun _ _ => id)
/-- The first k elements. -/
theorem ReadsRow.take {w : World} {e : TypeId} {size n g off cap : Nat} {xs : List Value} (h : ReadsRow w e size (.slice (some ⟨g, off, none⟩) n cap) n xs) (k : Nat) (hk : k ≤ n) : ReadsRow w e size (.slice (some ⟨g, off, none⟩) k cap) k (xs.take (k * size)) := by
  have hks : k * size ≤ n * size := Nat.mul_le_mul_right _ hk
  refine ⟨by rw [List.length_take, h.1]; omega, ?_⟩
  rcases h.2 with ⟨h2, _⟩ | ⟨g', off', cap', cs, fr, hv, r1, r2, hh, hsz, htk⟩
  · cases h2
  · obtain ⟨⟨rfl, rfl⟩, rfl⟩ : (g = g' ∧ off = off') ∧ cap = cap' := by simpa using hv
    exact .inr ⟨g, off, cap, cs, fr, rfl, by omega, r2, hh, by omega, by rw [← htk, List.take_take, Nat.min_eq_left hks]⟩
/-- From element k on (k below the capacity: the address goes on). -/
theorem ReadsRow.drop {w : World} {e : TypeId} {size n g off cap : Nat} {xs : List Value} (h : ReadsRow w e size (.slice (some ⟨g, off, none⟩) n cap) n xs) (k : Nat) (hk : k ≤ n) : ReadsRow w e size (.slice (some ⟨g, off + k * size, none⟩) (n - k) (cap - k)) (n - k) (xs.drop (k * size)) := by
  have hks : k * size ≤ n * size := Nat.mul_le_mul_right _ hk
  have e1 : (n - k) * size = n * size - k * size := Nat.sub_mul ..
  refine ⟨by rw [List.length_drop, h.1, e1], ?_⟩
  rcases h.2 with ⟨h2, _⟩ | ⟨g', off', cap', cs, fr, hv, r1, r2, hh, hsz, htk⟩
  · cases h2
  · obtain ⟨⟨rfl, rfl⟩, rfl⟩ : (g = g' ∧ off = off') ∧ cap = cap' := by simpa using hv
    refine .inr ⟨g, off + k * size, cap - k, cs, fr, rfl, by omega, by omega, hh, by omega, ?_⟩
    rw [← htk, List.drop_take, List.drop_drop, e1]
/-- Nothing of it. -/
theorem ReadsRow.empty {w : World} {e : TypeId} {size n g off cap : Nat} {xs : List Value} (h : ReadsRow w e size (.slice (some ⟨g, off, none⟩) n cap) n xs) (off' cap' : Nat) (h1 : off' = off) (h2 : cap' ≤ cap) : ReadsRow w e size (.slice (some ⟨g, off', none⟩) 0 cap') 0 [] := by
  subst h1
  refine ⟨by simp, ?_⟩
  rcases h.2 with ⟨h2, _⟩ | ⟨g', off', cap', cs, fr, hv, r1, r2, hh, hsz, htk⟩
  · cases h2
  · obtain ⟨⟨rfl, rfl⟩, rfl⟩ : (g = g' ∧ _ = off') ∧ cap = cap' := by simpa using hv
    exact .inr ⟨g, _, _, cs, fr, rfl, by omega, by omega, hh, by omega, by simp⟩

/-- What is read, as the second argument of an append. -/
theorem Src.ofReads {P : Program} {w : World} {tx e e' : TypeId} {size n : Nat} {v : Value} {xs : List Value} (hk : P.underlying tx = some (.slice e')) (h : ReadsRow w e size v n xs) (h1 : ∀ u ∈ xs, u.oneCell' = true) : Src P size tx v n xs w := by
  rcases h.forms with ⟨rfl, rfl⟩ | ⟨g, off, cap, rfl, _⟩
  · obtain rfl : xs = [] := List.eq_nil_of_length_eq_zero (by simpa using h.1)
    exact Src.ofNil w hk 0
  · refine Src.ofSlice w hk _ n cap xs h.1 (fun j u hj => ?_) h1
    have e : ((⟨g, off, none⟩ : Addr).add j) = ⟨g, off + j, none⟩ := by
      unfold Addr.add; split
      · rename_i h; subst h; rfl
      · rfl
    rw [e]; exact h.cell hj

theorem setCells_heap (g : Nat) (t : TypeId) (fr : Nat × Nat) : ∀ (vs : List Value) (o : Nat) (cs : Array Value) (w : World), w.heap[g]? = some (.cells cs t fr) → o + vs.length ≤ cs.size →
    (w.setCells g o vs).heap[g]? = some (.cells (cs.toList.take o ++ vs ++ cs.toList.drop (o + vs.length)).toArray t fr) ∧ Keeps w (w.setCells g o vs) (fun j => j = g)
  | [], o, cs, w, h, hl => by simp [World.setCells, h, Keeps.refl]
  | v :: r, o, cs, w, h, hl => by
    simp only [List.length_cons] at hl
    have h1 := setCell_heap h o v
    obtain ⟨i1, i2⟩ := setCells_heap g t fr r (o + 1) _ _ h1 (by simp; omega)
    rw [World.setCells]
    refine ⟨i1.trans ?_, ((Keeps.refl w (fun j => j = g)).setCell (p := ⟨g, o, none⟩) (fun _ => rfl) v).trans i2⟩
    congr 2
    have ho : o < cs.toList.length := by rw [Array.length_toList]; omega
    rw [Array.toList_setIfInBounds, List.drop_set_of_lt (by omega), List.take_set, List.take_succ_eq_append_getElem ho, List.set_append_right _ _ (by simp; omega)]
    have e2 : o - (cs.toList.take o).length = 0 := by simp; omega
    rw [e2]
    simp only [List.set_cons_zero, List.append_assoc, List.singleton_append, List.length_cons]
    rw [show o + 1 + r.length = o + (r.length + 1) by omega]

/-- append onto a row of the call's own, of whatever is appended; where the new row's block is. -/
theorem run_append_any {P : Program} {w : World} (base : Nat) (t tx ty e : TypeId) (i : TypeInfo) (z : Value) (size bytes : Nat) (ht : P.underlying t = some (.slice e)) (hi : P.info? e = some i) (hz : i.zero = some z)
    (hsize : i.size = size) (hby : i.bytes = bytes) (hzs : z.cells.size = size)
    (v : Value) (n : Nat) (xs : List Value) (hown : w.ownsRow base e size v n xs)
    (x : Value) (m : Nat) (news : List Value) (hs : Src P size tx x m news w)
    (h63 : n + m ≤ maxLen) (hbytes : (n + m) * bytes ≤ 140737488355328) (hbase : base ≤ w.heap.size) :
    ∃ v' w', (Builtin.append_ #[t, tx] ty #[v, x]).run P w = .ok v' w' ∧ w'.ownsRow base e size v' (n + m) (xs ++ news) ∧ w.grownBy w' v.ownBlock ∧
      (v' = .slice none 0 0 ↔ v = .slice none 0 0 ∧ m = 0) ∧ (∀ g, v'.ownBlock = some g → v.ownBlock = some g ∨ w.heap.size ≤ g) := by
  subst hsize
  subst hby
  have hsmall : n + m ≤ 9223372036854775807 := by simp only [maxLen] at h63; omega
  have hlen : (xs ++ news).length = (n + m) * i.size := by rw [List.length_append, hown.1, hs.newsLen, Nat.add_mul]
  have grown : ∀ (old : Nat), old < n + m → ∀ (row : Option Nat),
      (w.drew.alloc (.cells ((xs ++ news).toArray ++ Builtin.zeroCells z.cells (grownCap w (n + m) old e - (n + m))) e)).ownsRow base e i.size
        (.slice (some ⟨w.heap.size, 0, none⟩) (n + m) (grownCap w (n + m) old e)) (n + m) (xs ++ news) ∧
      w.grownBy (w.drew.alloc (.cells ((xs ++ news).toArray ++ Builtin.zeroCells z.cells (grownCap w (n + m) old e - (n + m))) e)) row := by
    intro old ho row
    have hge := grownCap_ge w (n + m) old e
    have hcm : grownCap w (n + m) old e ≤ maxLen := grownCap_le_maxLen w (n + m) old e h63
    refine ⟨⟨hlen, .inr ⟨w.heap.size, _, _, rfl, hbase, heap_alloc_new w.drew _, hge, hcm, ?_, ?_⟩⟩, ⟨rfl, rfl, rfl, by simp, fun k hk _ => heap_alloc_old w.drew _ hk⟩⟩
    · rw [Array.size_append, List.size_toArray, size_zeroCells, hzs, hlen, ← Nat.add_mul]
      congr 1; omega
    · rw [Array.toList_append, ← hlen]
      exact List.take_left
  rcases hown.2 with ⟨rfl, rfl⟩ | ⟨g, cap, cur, rfl, hbg, hg, hnc, hcm, hcs, htake⟩
  · obtain rfl : xs = [] := List.eq_nil_of_length_eq_zero (by simpa using hown.1)
    by_cases hm : m = 0
    · subst hm
      obtain rfl : news = [] := List.eq_nil_of_length_eq_zero (by simpa using hs.newsLen)
      refine ⟨.slice none 0 0, w, ?_, World.ownsRow_nil w base e i.size, ⟨rfl, rfl, rfl, Nat.le_refl _, fun _ _ _ => rfl⟩, by simp, fun g hg => by cases hg⟩
      rcases hs.kind with ⟨e', hk⟩ | hk <;> simp [Builtin.append_, run_underlying ht, run_underlying hk, sizeOf, typeInfo, hi, hs.len, hs.cells, storeCells]
    · have hold : (Builtin.firstCells i.size 0 (.slice none 0 0)).run P w.drew = .ok ([] : List Value).toArray w.drew := run_firstCells_none w.drew i.size 0 0 0
      have hr := run_append_grow_src (P := P) w t tx ty e i z ht hi hz none 0 0 [] hold x m news hs (by omega) (by omega) (growslice_fits (by omega) hbytes)
      have hgr := grown 0 (by omega) (Value.ownBlock (.slice none 0 0))
      exact ⟨_, _, hr, hgr.1, hgr.2, by simp [hm], fun g hg => by simp only [Value.ownBlock, Option.some.injEq] at hg; subst hg; exact .inr (Nat.le_refl _)⟩
  · by_cases hroom : n + m ≤ cap
    · have hfit : n * i.size + news.length ≤ cur.size := by rw [hs.newsLen, hcs, ← Nat.add_mul]; exact Nat.mul_le_mul_right _ hroom
      have hr := run_append_room_src (P := P) w t tx ty e i ht hi g 0 n cap x m news hs hroom (fun j hj => by rw [Nat.zero_add, cell_at hg]; simp; omega) (fun j _ => free_at hg _)
      obtain ⟨k1, k2⟩ := setCells_heap g e (0, 0) news (0 + n * i.size) cur w hg (by omega)
      refine ⟨_, _, hr, ⟨hlen, .inr ⟨g, cap, _, rfl, hbg, k1, hroom, hcm, ?_, ?_⟩⟩, ⟨k2.os, k2.tape, k2.output, k2.size, fun k hk hne => k2.block k hk (fun e => hne (by simp [Value.ownBlock, e]))⟩, by simp, fun g' hg' => .inl hg'⟩
      · simp only [List.size_toArray, List.length_append, List.length_take, List.length_drop, Array.length_toList]
        omega
      · rw [Nat.zero_add, htake, ← hlen]
        exact List.take_left
    · have hold : (Builtin.firstCells i.size n (.slice (some ⟨g, 0, none⟩) n cap)).run P w.drew = .ok xs.toArray w.drew :=
        run_firstCells_some w.drew i.size n ⟨g, 0, none⟩ n cap xs hown.1 (by simpa using hown.cells (g := g) rfl)
      have hr := run_append_grow_src (P := P) w t tx ty e i z ht hi hz (some ⟨g, 0, none⟩) n cap xs hold x m news hs (by omega) (by omega) (growslice_fits (by omega) hbytes)
      have hgr := grown cap (by omega) (Value.ownBlock (.slice (some ⟨g, 0, none⟩) n cap))
      exact ⟨_, _, hr, hgr.1, hgr.2, by simp, fun g hg => by simp only [Value.ownBlock, Option.some.injEq] at hg; subst hg; exact .inr (Nat.le_refl _)⟩

/-- What an append has done. (A structure, so that the walk leaves its parts as they are.) -/
structure AppDone (base : Nat) (e : TypeId) (size : Nat) (w : World) (v : Value) (n : Nat) (xs : List Value) (m : Nat) (news : List Value) (v' : Value) (w' : World) : Prop where
  own : w'.ownsRow base e size v' (n + m) (xs ++ news)
  grown : w.grownBy w' v.ownBlock
  nil : v' = .slice none 0 0 ↔ v = .slice none 0 0 ∧ m = 0
  fresh : ∀ g, v'.ownBlock = some g → v.ownBlock = some g ∨ w.heap.size ≤ g
/-- The same, in a plain list of operations. -/
theorem wpList_append_any {P : Program} {ops : Array Oper} {rest : List Oper} {o : Oper} {a : Act} {w : World} {Q : Exit → Act → World → Prop} (hgd : o.guard = none) (s x : Operand) (t tx : TypeId)
    (ho : o.op = .call { callee := .builtin .append, args := #[s, x], argTypes := #[t, tx] })
    (e : TypeId) (i : TypeInfo) (z : Value) (size bytes : Nat) (ht : P.underlying t = some (.slice e)) (hi : P.info? e = some i) (hz : i.zero = some z)
    (hsize : i.size = size) (hby : i.bytes = bytes) (hzs : z.cells.size = size)
    (base : Nat) (v : Value) (n : Nat) (xs : List Value) (hv : a.eval s = v) (hown : w.ownsRow base e size v n xs)
    (xv : Value) (m : Nat) (news : List Value) (hx : a.eval x = xv) (hs : Src P size tx xv m news w)
    (h63 : n + m ≤ maxLen) (hbytes : (n + m) * bytes ≤ 140737488355328) (hbase : base ≤ w.heap.size)
    (h : ∀ v' w', AppDone base e size w v n xs m news v' w' → wpList P ops Q rest (a.put o.dst v') w') : wpList P ops Q (o :: rest) a w := by
  refine wpList_plain hgd fun K hK => ?_
  obtain ⟨v', w', hr, h2, h3, h4, h5⟩ := run_append_any (P := P) (w := w) base t tx o.type e i z size bytes ht hi hz hsize hby hzs v n xs hown xv m news hs h63 hbytes hbase
  unfold Oper.wp execOp
  simp only [ho, resolve, invoke, builtin, Sem.run_bind, Sem.run_pure, Result.andThen_ok, List.map_toArray, List.map_cons, List.map_nil, hv, hx, hr]
  exact hK _ _ (h v' w' ⟨h2, h3, h4, h5⟩)
/-- The same, as one step of a region that draws. -/
theorem step_append_any {P : Program} {ops : Array Oper} {o : Oper} {a : Act} {w : World} {K : Act → World → Prop} {Q : Exit → Act → World → Prop} {E : Prop} (hgd : o.guard = none) (s x : Operand) (t tx : TypeId)
    (ho : o.op = .call { callee := .builtin .append, args := #[s, x], argTypes := #[t, tx] })
    (e : TypeId) (i : TypeInfo) (z : Value) (size bytes : Nat) (ht : P.underlying t = some (.slice e)) (hi : P.info? e = some i) (hz : i.zero = some z)
    (hsize : i.size = size) (hby : i.bytes = bytes) (hzs : z.cells.size = size)
    (base : Nat) (v : Value) (n : Nat) (xs : List Value) (hv : a.eval s = v) (hown : w.ownsRow base e size v n xs)
    (xv : Value) (m : Nat) (news : List Value) (hx : a.eval x = xv) (hs : Src P size tx xv m news w)
    (h63 : n + m ≤ maxLen) (hbytes : (n + m) * bytes ≤ 140737488355328) (hbase : base ≤ w.heap.size)
    (h : ∀ v' w', AppDone base e size w v n xs m news v' w' → K (a.put o.dst v') w') :
    if Region.wanted o (yielded ops a.tmps) = true then Oper.wp P o a w K Q else E := by
  have hw : Region.wanted o (yielded ops a.tmps) = true := by simp [Region.wanted, hgd]
  rw [if_pos hw]
  obtain ⟨v', w', hr, h2, h3, h4, h5⟩ := run_append_any (P := P) (w := w) base t tx o.type e i z size bytes ht hi hz hsize hby hzs v n xs hown xv m news hs h63 hbytes hbase
  unfold Oper.wp execOp
  simp only [ho, resolve, invoke, builtin, Sem.run_bind, Sem.run_pure, Result.andThen_ok, List.map_toArray, List.map_cons, List.map_nil, hv, hx, hr]
  exact h v' w' ⟨h2, h3, h4, h5⟩
end Go.Proofs.YtdhcnmljkmodhaaDoor

/- Sets of numbers below 128, as two words of 64 bits: how the walk's bit operations read on them. -/
namespace Go.Proofs.YtdhcnmljkmodhaaDoor
set_option linter.unusedSectionVars false
set_option linter.unusedVariables false
set_option linter.unusedSimpArgs false
open Go.RowKit

theorem ofInt_toNat (a : BitVec 64) : BitVec.ofInt 64 (a.toNat : Int) = a := by
  apply BitVec.eq_of_toNat_eq
  rw [ofInt_u64 _ a.isLt]
theorem wrap_toNat (a : BitVec 64) : IntKind.u64.wrap (a.toNat : Int) = (a.toNat : Int) := by
  rw [IntKind.wrap_u64]
  have := a.isLt
  omega
@[go_sem] theorem bits_or_bv (a b : BitVec 64) : bits .or .u64 (a.toNat : Int) (b.toNat : Int) = ((a ||| b).toNat : Int) := by
  rw [u64_or_nat _ _ a.isLt b.isLt, BitVec.toNat_or]
@[go_sem] theorem bits_and_bv (a b : BitVec 64) : bits .and .u64 (a.toNat : Int) (b.toNat : Int) = ((a &&& b).toNat : Int) := by
  rw [u64_and_nat _ _ a.isLt b.isLt, BitVec.toNat_and]
@[go_sem] theorem bits_andNot_bv (a b : BitVec 64) : bits .andNot .u64 (a.toNat : Int) (b.toNat : Int) = ((a &&& ~~~b).toNat : Int) := by
  rw [u64_andNot_nat _ _ a.isLt b.isLt, BitVec.toNat_and, BitVec.toNat_not]

/-- A set: its two words. -/
structure BSet where
  lo : BitVec 64
  hi : BitVec 64
def BSet.cells (s : BSet) : Array Value := #[.int .u64 s.lo.toNat, .int .u64 s.hi.toNat]
def BSet.val (s : BSet) : Value := .agg #[.int .u64 s.lo.toNat, .int .u64 s.hi.toNat]
def BSet.has (s : BSet) (i : Nat) : Bool := if i < 64 then s.lo.getLsbD i else s.hi.getLsbD (i - 64)
def BSet.or (s t : BSet) : BSet := ⟨s.lo ||| t.lo, s.hi ||| t.hi⟩
def BSet.and (s t : BSet) : BSet := ⟨s.lo &&& t.lo, s.hi &&& t.hi⟩
def BSet.less (s t : BSet) : BSet := ⟨s.lo &&& ~~~t.lo, s.hi &&& ~~~t.hi⟩
def BSet.empty : BSet := ⟨0, 0⟩
/-- One bit. (A name that the walk leaves alone.) -/
def bitN (n : Nat) : BitVec 64 := (1 : BitVec 64) <<< n
def BSet.one (i : Nat) : BSet := if i < 64 then ⟨bitN i, 0⟩ else ⟨0, bitN (i - 64)⟩
theorem BSet.one_lo (n : Nat) (h : n < 64) : BSet.one n = ⟨bitN n, 0⟩ := by unfold BSet.one; rw [if_pos h]
theorem BSet.one_hi (n : Nat) (h : n < 64) : BSet.one (64 + n) = ⟨0, bitN n⟩ := by unfold BSet.one; rw [if_neg (by omega), Nat.add_sub_cancel_left]
theorem BSet.or_lo (s : BSet) (b : BitVec 64) : s.or ⟨b, 0⟩ = ⟨s.lo ||| b, s.hi⟩ := by simp [BSet.or]
theorem BSet.or_hi (s : BSet) (b : BitVec 64) : s.or ⟨0, b⟩ = ⟨s.lo, s.hi ||| b⟩ := by simp [BSet.or]
theorem BSet.less_lo (s : BSet) (b : BitVec 64) : s.less ⟨b, 0⟩ = ⟨s.lo &&& ~~~b, s.hi⟩ := by
  have e : ~~~(0 : BitVec 64) = BitVec.allOnes 64 := by decide
  unfold BSet.less
  simp only [e, BitVec.and_allOnes]
theorem BSet.less_hi (s : BSet) (b : BitVec 64) : s.less ⟨0, b⟩ = ⟨s.lo, s.hi &&& ~~~b⟩ := by
  have e : ~~~(0 : BitVec 64) = BitVec.allOnes 64 := by decide
  unfold BSet.less
  simp only [e, BitVec.and_allOnes]
theorem wrap_pow2 (n : Nat) (hn : n < 64) : IntKind.u64.wrap ((2 : Int) ^ n) = ((bitN n).toNat : Int) := by
  have h : (2 : Nat) ^ n < 2 ^ 64 := Nat.pow_lt_pow_right (by omega) hn
  have e : ((2 : Int) ^ n) = ((2 ^ n : Nat) : Int) := by simp
  have e2 : (bitN n).toNat = 2 ^ n := by
    unfold bitN
    rw [BitVec.toNat_shiftLeft, Nat.shiftLeft_eq]
    simp only [BitVec.ofNat_eq_ofNat, BitVec.toNat_ofNat]
    rw [show 1 % 2 ^ 64 * 2 ^ n = 2 ^ n by simp, Nat.mod_eq_of_lt h]
  rw [IntKind.wrap_u64, e, e2]
  omega
theorem has_bit (a : BitVec 64) (n : Nat) : (bits .and .u64 ((a.toNat : Int) / 2 ^ n) 1 == 1) = a.getLsbD n := by
  have e : ((a.toNat : Int) / 2 ^ n) = ((a.toNat / 2 ^ n : Nat) : Int) := by simp
  have hlt : a.toNat / 2 ^ n < 18446744073709551616 := Nat.lt_of_le_of_lt (Nat.div_le_self _ _) a.isLt
  rw [e, show (1 : Int) = ((1 : Nat) : Int) from rfl, u64_and_nat _ _ hlt (by omega), nat_mask1]
  unfold BitVec.getLsbD
  rw [Nat.testBit_eq_decide_div_mod_eq]
  rw [Bool.eq_iff_iff]
  simp
  omega
end Go.Proofs.YtdhcnmljkmodhaaDoor

/- The walks of the sets' plain functions: in, Has, With, Without, Or, And, Less, Empty, Under. -/
namespace Go.Proofs.YtdhcnmljkmodhaaDoor
set_option linter.unusedSectionVars false
set_option linter.unusedVariables false
set_option linter.unusedSimpArgs false
open Go.RowKit

@[go_sem] theorem run_eq_set (a b c d : Int) (W : World) : (Op.equalIn 10000 57 (.agg #[.int .u64 a, .int .u64 b]) (.agg #[.int .u64 c, .int .u64 d])).run Tryd.prog W = .ok (a == c && b == d) W := by
  have hag : ∀ W, (isAgg 55).run Tryd.prog W = .ok false W := fun _ => by kernel_rfl
  have heq : ∀ (x y : Int) W, (Op.equalIn 9999 55 (.int .u64 x) (.int .u64 y)).run Tryd.prog W = .ok (x == y) W := fun x y W => run_equalIn_int W 9998 55 .u64 .u64 x y Tryd.underlying55
  unfold Op.equalIn
  simp [run_underlying Tryd.underlying57, go_sem, List.range', hag, heq]
  by_cases h1 : a = c
  · by_cases h2 : b = d <;> simp [h1, h2, hag, heq]
  · simp [h1]

theorem in_any (i : Int) (w : World) : Calls Tryd.prog 48 #[.int .i64 i] w fun e w' => e = .returned (.bool (decide (0 ≤ i) && decide (i < 128))) ∧ w = w' := by
  by_cases h : 0 ≤ i
  · go_enter Tryd.func48, Tryd.ntmps48
    go_wp2
    go_ret
    simp [h]
  · have h' : i < 0 := by omega
    go_enter Tryd.func48, Tryd.ntmps48
    go_wp2
    go_ret
    simp; omega

set_option maxHeartbeats 400000 in
theorem or_any (s t : BSet) (w : World) : Calls Tryd.prog 58 #[s.val, t.val] w fun e w' => e = .returned (s.or t).val ∧ Keeps w w' (fun _ => False) := by
  unfold BSet.val
  go_enter Tryd.func58, Tryd.ntmps58
  go_wp2
  refine wp_loop_rounds 3 ?_
  rw [rounds_succ]
  go_wp2_with fail
  go_region
  go_wp2_with fail
  rw [rounds_succ]
  go_wp2_with fail
  go_region
  go_wp2_with fail
  rw [rounds_succ]
  go_wp2_with fail
  refine bodyPost_ret (v := (s.or t).val) (by simp [results, Tryd.results58, go_sem, BSet.val, BSet.or]) rfl ⟨rfl, ?_⟩
  repeat (first | exact Keeps.refl _ _ | apply Keeps.drew | refine Keeps.setCell ?_ (fun h => absurd h (by simp)) _ | apply Keeps.alloc)
set_option maxHeartbeats 400000 in
theorem and_any (s t : BSet) (w : World) : Calls Tryd.prog 43 #[s.val, t.val] w fun e w' => e = .returned (s.and t).val ∧ Keeps w w' (fun _ => False) := by
  unfold BSet.val
  go_enter Tryd.func43, Tryd.ntmps43
  go_wp2
  refine wp_loop_rounds 3 ?_
  rw [rounds_succ]
  go_wp2_with fail
  go_region
  go_wp2_with fail
  rw [rounds_succ]
  go_wp2_with fail
  go_region
  go_wp2_with fail
  rw [rounds_succ]
  go_wp2_with fail
  refine bodyPost_ret (v := (s.and t).val) (by simp [results, Tryd.results43, go_sem, BSet.val, BSet.and]) rfl ⟨rfl, ?_⟩
  repeat (first | exact Keeps.refl _ _ | apply Keeps.drew | refine Keeps.setCell ?_ (fun h => absurd h (by simp)) _ | apply Keeps.alloc)
set_option maxHeartbeats 400000 in
theorem with_lo (s : BSet) (n : Nat) (hn : n < 64) (w : World) : Calls Tryd.prog 41 #[s.val, .int .i64 (n : Int)] w fun e w' => e = .returned (s.or (BSet.one (n))).val ∧ Keeps w w' (fun _ => False) := by
  have hone : BSet.one (n) = ⟨bitN n, 0⟩ := BSet.one_lo n hn
  have Hone := Lib.hid hone
  clear hone
  have hs := wrap_pow2 n hn
  unfold BSet.val
  have h0 : (n : Int) / 64 = 0 := by omega
  have h1 : (n : Int) % 64 = n := by omega
  go_enter Tryd.func41, Tryd.ntmps41
  go_wp2_with fail
  refine (in_any (n : Int) _).mono ?_
  rintro e w' ⟨rfl, rfl⟩
  rw [decide_eq_true (by omega), decide_eq_true (by omega)]
  go_wp2_with fail
  go_region
  go_wp2
  rw [Hone.out, BSet.or_lo]
  refine bodyPost_ret (v := BSet.val ⟨s.lo ||| bitN n, s.hi⟩) (by simp [results, Tryd.results41, go_sem, BSet.val, BSet.or]) rfl ⟨rfl, ?_⟩
  repeat (first | exact Keeps.refl _ _ | apply Keeps.drew | refine Keeps.setCell ?_ (fun h => absurd h (by simp)) _ | apply Keeps.alloc)
set_option maxHeartbeats 400000 in
theorem with_hi (s : BSet) (n : Nat) (hn : n < 64) (w : World) : Calls Tryd.prog 41 #[s.val, .int .i64 (64 + (n : Int))] w fun e w' => e = .returned (s.or (BSet.one (64 + n))).val ∧ Keeps w w' (fun _ => False) := by
  have hone : BSet.one (64 + n) = ⟨0, bitN n⟩ := BSet.one_hi n hn
  have Hone := Lib.hid hone
  clear hone
  have hs := wrap_pow2 n hn
  unfold BSet.val
  have h0 : (64 + (n : Int)) / 64 = 1 := by omega
  have h1 : (64 + (n : Int)) % 64 = n := by omega
  go_enter Tryd.func41, Tryd.ntmps41
  go_wp2_with fail
  refine (in_any (64 + (n : Int)) _).mono ?_
  rintro e w' ⟨rfl, rfl⟩
  rw [decide_eq_true (by omega), decide_eq_true (by omega)]
  go_wp2_with fail
  go_region
  go_wp2
  rw [Hone.out, BSet.or_hi]
  refine bodyPost_ret (v := BSet.val ⟨s.lo, s.hi ||| bitN n⟩) (by simp [results, Tryd.results41, go_sem, BSet.val, BSet.or]) rfl ⟨rfl, ?_⟩
  repeat (first | exact Keeps.refl _ _ | apply Keeps.drew | refine Keeps.setCell ?_ (fun h => absurd h (by simp)) _ | apply Keeps.alloc)
/-- With, of any number. -/
def BSet.withN (s : BSet) (i : Int) : BSet := if 0 ≤ i ∧ i < 128 then s.or (BSet.one i.toNat) else s
theorem with_any (s : BSet) (i : Int) (w : World) : Calls Tryd.prog 41 #[s.val, .int .i64 i] w fun e w' => e = .returned (s.withN i).val ∧ Keeps w w' (fun _ => False) := by
  by_cases h : 0 ≤ i ∧ i < 128
  · unfold BSet.withN
    rw [if_pos h]
    by_cases h2 : i < 64
    · obtain ⟨n, rfl⟩ := Int.eq_ofNat_of_zero_le h.1
      exact with_lo s n (by omega) w
    · obtain ⟨n, hn⟩ := Int.eq_ofNat_of_zero_le (show 0 ≤ i - 64 by omega)
      obtain rfl : i = 64 + (n : Int) := by omega
      rw [show (64 + (n : Int)).toNat = 64 + n by omega]
      exact with_hi s n (by omega) w
  · unfold BSet.withN
    rw [if_neg h]
    have hb : (decide (0 ≤ i) && decide (i < 128)) = false := by
      simp only [Bool.and_eq_false_iff, decide_eq_false_iff_not]; omega
    have Hb := Lib.hid hb
    clear hb h
    unfold BSet.val
    go_enter Tryd.func41, Tryd.ntmps41
    go_wp2_with fail
    refine (in_any i _).mono ?_
    rintro e w' ⟨rfl, rfl⟩
    rw [Hb.out]
    go_wp2
    refine bodyPost_ret (v := s.val) (by simp [results, Tryd.results41, go_sem, BSet.val]) rfl ⟨rfl, ?_⟩
    repeat (first | exact Keeps.refl _ _ | apply Keeps.drew | refine Keeps.setCell ?_ (fun h => absurd h (by simp)) _ | apply Keeps.alloc)
set_option maxHeartbeats 400000 in
theorem without_lo (s : BSet) (n : Nat) (hn : n < 64) (w : World) : Calls Tryd.prog 56 #[s.val, .int .i64 (n : Int)] w fun e w' => e = .returned (s.less (BSet.one (n))).val ∧ Keeps w w' (fun _ => False) := by
  have hone : BSet.one (n) = ⟨bitN n, 0⟩ := BSet.one_lo n hn
  have Hone := Lib.hid hone
  clear hone
  have hs := wrap_pow2 n hn
  unfold BSet.val
  have h0 : (n : Int) / 64 = 0 := by omega
  have h1 : (n : Int) % 64 = n := by omega
  go_enter Tryd.func56, Tryd.ntmps56
  go_wp2_with fail
  refine (in_any (n : Int) _).mono ?_
  rintro e w' ⟨rfl, rfl⟩
  rw [decide_eq_true (by omega), decide_eq_true (by omega)]
  go_wp2_with fail
  go_region
  go_wp2
  rw [Hone.out, BSet.less_lo]
  refine bodyPost_ret (v := BSet.val ⟨s.lo &&& ~~~bitN n, s.hi⟩) (by simp [results, Tryd.results56, go_sem, BSet.val, BSet.less]) rfl ⟨rfl, ?_⟩
  repeat (first | exact Keeps.refl _ _ | apply Keeps.drew | refine Keeps.setCell ?_ (fun h => absurd h (by simp)) _ | apply Keeps.alloc)
set_option maxHeartbeats 400000 in
theorem without_hi (s : BSet) (n : Nat) (hn : n < 64) (w : World) : Calls Tryd.prog 56 #[s.val, .int .i64 (64 + (n : Int))] w fun e w' => e = .returned (s.less (BSet.one (64 + n))).val ∧ Keeps w w' (fun _ => False) := by
  have hone : BSet.one (64 + n) = ⟨0, bitN n⟩ := BSet.one_hi n hn
  have Hone := Lib.hid hone
  clear hone
  have hs := wrap_pow2 n hn
  unfold BSet.val
  have h0 : (64 + (n : Int)) / 64 = 1 := by omega
  have h1 : (64 + (n : Int)) % 64 = n := by omega
  go_enter Tryd.func56, Tryd.ntmps56
  go_wp2_with fail
  refine (in_any (64 + (n : Int)) _).mono ?_
  rintro e w' ⟨rfl, rfl⟩
  rw [decide_eq_true (by omega), decide_eq_true (by omega)]
  go_wp2_with fail
  go_region
  go_wp2
  rw [Hone.out, BSet.less_hi]
  refine bodyPost_ret (v := BSet.val ⟨s.lo, s.hi &&& ~~~bitN n⟩) (by simp [results, Tryd.results56, go_sem, BSet.val, BSet.less]) rfl ⟨rfl, ?_⟩
  repeat (first | exact Keeps.refl _ _ | apply Keeps.drew | refine Keeps.setCell ?_ (fun h => absurd h (by simp)) _ | apply Keeps.alloc)
/-- Without, of any number. -/
def BSet.withoutN (s : BSet) (i : Int) : BSet := if 0 ≤ i ∧ i < 128 then s.less (BSet.one i.toNat) else s
theorem without_any (s : BSet) (i : Int) (w : World) : Calls Tryd.prog 56 #[s.val, .int .i64 i] w fun e w' => e = .returned (s.withoutN i).val ∧ Keeps w w' (fun _ => False) := by
  by_cases h : 0 ≤ i ∧ i < 128
  · unfold BSet.withoutN
    rw [if_pos h]
    by_cases h2 : i < 64
    · obtain ⟨n, rfl⟩ := Int.eq_ofNat_of_zero_le h.1
      exact without_lo s n (by omega) w
    · obtain ⟨n, hn⟩ := Int.eq_ofNat_of_zero_le (show 0 ≤ i - 64 by omega)
      obtain rfl : i = 64 + (n : Int) := by omega
      rw [show (64 + (n : Int)).toNat = 64 + n by omega]
      exact without_hi s n (by omega) w
  · unfold BSet.withoutN
    rw [if_neg h]
    have hb : (decide (0 ≤ i) && decide (i < 128)) = false := by
      simp only [Bool.and_eq_false_iff, decide_eq_false_iff_not]; omega
    have Hb := Lib.hid hb
    clear hb h
    unfold BSet.val
    go_enter Tryd.func56, Tryd.ntmps56
    go_wp2_with fail
    refine (in_any i _).mono ?_
    rintro e w' ⟨rfl, rfl⟩
    rw [Hb.out]
    go_wp2
    refine bodyPost_ret (v := s.val) (by simp [results, Tryd.results56, go_sem, BSet.val]) rfl ⟨rfl, ?_⟩
    repeat (first | exact Keeps.refl _ _ | apply Keeps.drew | refine Keeps.setCell ?_ (fun h => absurd h (by simp)) _ | apply Keeps.alloc)

theorem has_lo (s : BSet) (n : Nat) (hn : n < 64) (w : World) : Calls Tryd.prog 36 #[s.val, .int .i64 (n : Int)] w fun e w' => e = .returned (.bool (s.has (n))) ∧ Keeps w w' (fun _ => False) := by
  have h0 : (n : Int) / 64 = 0 := by omega
  have h1 : (n : Int) % 64 = n := by omega
  have hh : s.has (n) = s.lo.getLsbD n := by unfold BSet.has; rw [if_pos hn]
  have Hh := Lib.hid hh
  clear hh
  unfold BSet.val
  go_enter Tryd.func36, Tryd.ntmps36
  go_wp2_with fail
  refine (in_any (n : Int) _).mono ?_
  rintro e w' ⟨rfl, rfl⟩
  rw [decide_eq_true (by omega), decide_eq_true (by omega)]
  go_wp2
  go_ret
  rw [Hh.out, ← has_bit]
  exact ⟨rfl, (Keeps.refl _ _).alloc _⟩
theorem has_hi (s : BSet) (n : Nat) (hn : n < 64) (w : World) : Calls Tryd.prog 36 #[s.val, .int .i64 (64 + (n : Int))] w fun e w' => e = .returned (.bool (s.has (64 + n))) ∧ Keeps w w' (fun _ => False) := by
  have h0 : (64 + (n : Int)) / 64 = 1 := by omega
  have h1 : (64 + (n : Int)) % 64 = n := by omega
  have hh : s.has (64 + n) = s.hi.getLsbD n := by unfold BSet.has; rw [if_neg (by omega), Nat.add_sub_cancel_left]
  have Hh := Lib.hid hh
  clear hh
  unfold BSet.val
  go_enter Tryd.func36, Tryd.ntmps36
  go_wp2_with fail
  refine (in_any (64 + (n : Int)) _).mono ?_
  rintro e w' ⟨rfl, rfl⟩
  rw [decide_eq_true (by omega), decide_eq_true (by omega)]
  go_wp2
  go_ret
  rw [Hh.out, ← has_bit]
  exact ⟨rfl, (Keeps.refl _ _).alloc _⟩
/-- Has, of any number. -/
def BSet.hasN (s : BSet) (i : Int) : Bool := decide (0 ≤ i) && decide (i < 128) && s.has i.toNat
theorem has_any (s : BSet) (i : Int) (w : World) : Calls Tryd.prog 36 #[s.val, .int .i64 i] w fun e w' => e = .returned (.bool (s.hasN i)) ∧ Keeps w w' (fun _ => False) := by
  by_cases h : 0 ≤ i ∧ i < 128
  · unfold BSet.hasN
    rw [decide_eq_true h.1, decide_eq_true h.2, Bool.true_and, Bool.true_and]
    by_cases h2 : i < 64
    · obtain ⟨n, rfl⟩ := Int.eq_ofNat_of_zero_le h.1
      exact has_lo s n (by omega) w
    · obtain ⟨n, hn⟩ := Int.eq_ofNat_of_zero_le (show 0 ≤ i - 64 by omega)
      obtain rfl : i = 64 + (n : Int) := by omega
      rw [show (64 + (n : Int)).toNat = 64 + n by omega]
      exact has_hi s n (by omega) w
  · have hb : (decide (0 ≤ i) && decide (i < 128)) = false := by
      simp only [Bool.and_eq_false_iff, decide_eq_false_iff_not]; omega
    unfold BSet.hasN
    rw [hb, Bool.false_and]
    have Hb := Lib.hid hb
    clear hb h
    unfold BSet.val
    go_enter Tryd.func36, Tryd.ntmps36
    go_wp2_with fail
    refine (in_any i _).mono ?_
    rintro e w' ⟨rfl, rfl⟩
    rw [Hb.out]
    go_wp2
    go_ret
    exact ⟨rfl, (Keeps.refl _ _).alloc _⟩

/-- Is it empty? -/
def BSet.isEmpty (s : BSet) : Bool := s.lo == 0 && s.hi == 0
theorem isEmpty_form (s : BSet) : ((s.lo.toNat : Int) == 0 && (s.hi.toNat : Int) == 0) = s.isEmpty := by
  unfold BSet.isEmpty
  have h : ∀ a : BitVec 64, ((a.toNat : Int) == 0) = (a == 0) := fun a => by
    rw [Bool.eq_iff_iff, beq_iff_eq, beq_iff_eq]
    constructor
    · intro h; apply BitVec.eq_of_toNat_eq; simp; omega
    · intro h; subst h; rfl
  rw [h, h]
theorem empty_any (s : BSet) (w : World) : Calls Tryd.prog 45 #[s.val] w fun e w' => e = .returned (.bool s.isEmpty) ∧ Keeps w w' (fun _ => False) := by
  rw [← isEmpty_form]
  unfold BSet.val
  go_enter Tryd.func45, Tryd.ntmps45
  go_wp2
  go_ret
  exact ⟨rfl, (Keeps.refl _ _).alloc _⟩
end Go.Proofs.YtdhcnmljkmodhaaDoor

/- The number of bits in a word (OnesCount64), the least one (TrailingZeros64): the mathematics and the walks. -/
namespace Go.Proofs.YtdhcnmljkmodhaaDoor
set_option linter.unusedSectionVars false
set_option linter.unusedVariables false
set_option linter.unusedSimpArgs false
open Go.RowKit

/-- The number of ones among the first n bits. -/
def pc : Nat → Nat → Nat
  | 0, _ => 0
  | n + 1, x => x % 2 + pc n (x / 2)
theorem pc_filter (n x : Nat) : ((List.range n).filter (fun i => x.testBit i)).length = pc n x := by
  induction n generalizing x with
  | zero => rfl
  | succ n ih =>
    rw [List.range_succ_eq_map, List.filter_cons, List.filter_map, pc, ← ih (x / 2)]
    have e : ((fun i => x.testBit i) ∘ Nat.succ) = (fun i => (x / 2).testBit i) := by funext i; simp [Nat.testBit_succ]
    rw [e]
    by_cases h : x.testBit 0 = true
    · rw [if_pos h]; simp [Nat.testBit_zero] at h; simp [h]; omega
    · rw [if_neg h]; simp [Nat.testBit_zero] at h; simp [h]
theorem pc_byte (n c r : Nat) (hc : c < 256) : pc (n + 8) (c + 256 * r) = pc 8 c + pc n r := by
  simp only [pc]
  have e : (c + 256 * r) / 2 / 2 / 2 / 2 / 2 / 2 / 2 / 2 = r := by omega
  rw [e]
  omega

def num : List Nat → Nat
  | [] => 0
  | c :: l => c + 256 * num l
theorem and_step (c r m M : Nat) (hc : c < 256) (hm : m < 256) : (c + 256 * r) &&& (m + 256 * M) = (c &&& m) + 256 * (r &&& M) := by
  have h1 : ((c + 256 * r) &&& (m + 256 * M)) % 2 ^ 8 = c &&& m := by
    rw [Nat.and_mod_two_pow]; congr 1 <;> omega
  have h2 : ((c + 256 * r) &&& (m + 256 * M)) / 2 ^ 8 = r &&& M := by
    rw [Nat.and_div_two_pow]; congr 1 <;> omega
  omega
theorem step55 : ∀ c, c < 256 → ∀ b, b < 2 → (c / 2 + 128 * b) &&& 85 = (c / 2) &&& 85 := by decide +kernel
theorem step33 : ∀ c, c < 256 → ∀ b, b < 4 → (c / 4 + 64 * b) &&& 51 = (c / 4) &&& 51 := by decide +kernel
theorem num_55 (l : List Nat) (h : ∀ c ∈ l, c < 256) : (num l / 2) &&& num (l.map fun _ => 85) = num (l.map fun c => (c / 2) &&& 85) := by
  induction l with
  | nil => rfl
  | cons c l ih =>
    have hc := h c (List.mem_cons_self ..)
    simp only [num, List.map_cons]
    rw [show (c + 256 * num l) / 2 = (c / 2 + 128 * (num l % 2)) + 256 * (num l / 2) by omega, and_step _ _ _ _ (by omega) (by omega), step55 c hc _ (by omega), ih (fun c hc => h c (List.mem_cons_of_mem _ hc))]
theorem num_55' (l : List Nat) (h : ∀ c ∈ l, c < 256) : num l &&& num (l.map fun _ => 85) = num (l.map fun c => c &&& 85) := by
  induction l with
  | nil => rfl
  | cons c l ih =>
    simp only [num, List.map_cons]
    rw [and_step _ _ _ _ (h c (List.mem_cons_self ..)) (by omega), ih (fun c hc => h c (List.mem_cons_of_mem _ hc))]
theorem num_33 (l : List Nat) (h : ∀ c ∈ l, c < 256) : (num l / 4) &&& num (l.map fun _ => 51) = num (l.map fun c => (c / 4) &&& 51) := by
  induction l with
  | nil => rfl
  | cons c l ih =>
    have hc := h c (List.mem_cons_self ..)
    simp only [num, List.map_cons]
    rw [show (c + 256 * num l) / 4 = (c / 4 + 64 * (num l % 4)) + 256 * (num l / 4) by omega, and_step _ _ _ _ (by omega) (by omega), step33 c hc _ (by omega), ih (fun c hc => h c (List.mem_cons_of_mem _ hc))]
theorem num_33' (l : List Nat) (h : ∀ c ∈ l, c < 256) : num l &&& num (l.map fun _ => 51) = num (l.map fun c => c &&& 51) := by
  induction l with
  | nil => rfl
  | cons c l ih =>
    simp only [num, List.map_cons]
    rw [and_step _ _ _ _ (h c (List.mem_cons_self ..)) (by omega), ih (fun c hc => h c (List.mem_cons_of_mem _ hc))]
theorem num_add (l : List Nat) (f g : Nat → Nat) : num (l.map f) + num (l.map g) = num (l.map fun c => f c + g c) := by
  induction l with
  | nil => rfl
  | cons c l ih => simp only [num, List.map_cons]; omega
theorem step0f (c b : Nat) (h1 : c / 16 ≤ 4) (h2 : c % 16 ≤ 4) (hb : b ≤ 4) : (c / 16 + 16 * b + c) &&& 15 = c / 16 + c % 16 := by
  rw [show (15 : Nat) = 2 ^ 4 - 1 by rfl, Nat.and_two_pow_sub_one_eq_mod]
  omega
theorem num_0f (l : List Nat) (h : ∀ c ∈ l, c / 16 ≤ 4 ∧ c % 16 ≤ 4) : (num l / 16 + num l) &&& num (l.map fun _ => 15) = num (l.map fun c => c / 16 + c % 16) := by
  induction l with
  | nil => rfl
  | cons c l ih =>
    have hc := h c (List.mem_cons_self ..)
    have hr : num l % 16 ≤ 4 := by
      cases l with
      | nil => simp [num]
      | cons d l => have := h d (by simp); simp only [num]; omega
    simp only [num, List.map_cons]
    rw [show (c + 256 * num l) / 16 + (c + 256 * num l) = (c / 16 + 16 * (num l % 16) + c) + 256 * (num l / 16 + num l) by omega, and_step _ _ _ _ (by omega) (by omega), step0f c _ hc.1 hc.2 hr, ih (fun c hc => h c (List.mem_cons_of_mem _ hc))]
theorem byte_pc : ∀ c, c < 256 → let a := ((c / 2) &&& 85) + (c &&& 85); let b := ((a / 4) &&& 51) + (a &&& 51); a < 256 ∧ b < 256 ∧ b / 16 ≤ 4 ∧ b % 16 ≤ 4 ∧ b / 16 + b % 16 = pc 8 c := by decide +kernel

theorem num_le (B : Nat) (l : List Nat) (h : ∀ c ∈ l, c ≤ B) : num l ≤ num (l.map fun _ => B) := by
  induction l with
  | nil => exact Nat.le_refl _
  | cons c l ih =>
    have h1 := h c (List.mem_cons_self ..)
    have h2 := ih (fun c hc => h c (List.mem_cons_of_mem _ hc))
    simp only [num, List.map_cons]; omega
theorem fold8 (d0 d1 d2 d3 d4 d5 d6 d7 x3 x4 x5 x6 : Nat) (h0 : d0 ≤ 8) (h1 : d1 ≤ 8) (h2 : d2 ≤ 8) (h3 : d3 ≤ 8) (h4 : d4 ≤ 8) (h5 : d5 ≤ 8) (h6 : d6 ≤ 8) (h7 : d7 ≤ 8)
    (e3 : x3 = num [d0, d1, d2, d3, d4, d5, d6, d7]) (e4 : x4 = x3 + x3 / 256) (e5 : x5 = x4 + x4 / 65536) (e6 : x6 = x5 + x5 / 4294967296) :
    x6 < 9223372036854775808 ∧ x6 % 128 = d0 + (d1 + (d2 + (d3 + (d4 + (d5 + (d6 + d7)))))) := by
  simp only [num] at e3
  have f4 : x4 = (d0 + d1) + 256 * (d1 + d2) + 65536 * ((d2 + d3) + 256 * (d3 + d4) + 65536 * ((d4 + d5) + 256 * (d5 + d6) + 65536 * ((d6 + d7) + 256 * d7))) := by omega
  clear e4 e3
  have f5 : x5 = (d0 + d1 + d2 + d3) + 256 * (d1 + d2 + d3 + d4) + 65536 * ((d2 + d3 + d4 + d5) + 256 * (d3 + d4 + d5 + d6)) + 4294967296 * ((d4 + d5 + d6 + d7) + 256 * (d5 + d6 + d7) + 65536 * ((d6 + d7) + 256 * d7)) := by omega
  clear e5 f4
  have f6 : x5 / 4294967296 = (d4 + d5 + d6 + d7) + 256 * (d5 + d6 + d7) + 65536 * ((d6 + d7) + 256 * d7) := by omega
  omega

/-- The three masks and the folding, on the whole word. -/
theorem swar (x : Nat) (hx : x < 18446744073709551616) :
    ∃ x1 x2 x3 x4 x5 x6 : Nat, ((x / 2) &&& 6148914691236517205) + (x &&& 6148914691236517205) = x1 ∧ x1 < 18446744073709551616 ∧
      ((x1 / 4) &&& 3689348814741910323) + (x1 &&& 3689348814741910323) = x2 ∧ x2 < 18446744073709551616 ∧ x2 / 16 + x2 < 18446744073709551616 ∧
      ((x2 / 16 + x2) &&& 1085102592571150095) = x3 ∧ x3 + x3 / 256 = x4 ∧ x4 + x4 / 65536 = x5 ∧ x5 + x5 / 4294967296 = x6 ∧ x6 < 9223372036854775808 ∧ x6 % 128 = pc 64 x := by
  obtain ⟨c0, c1, c2, c3, c4, c5, c6, c7, h0, h1, h2, h3, h4, h5, h6, h7, e⟩ : ∃ c0 c1 c2 c3 c4 c5 c6 c7, c0 < 256 ∧ c1 < 256 ∧ c2 < 256 ∧ c3 < 256 ∧ c4 < 256 ∧ c5 < 256 ∧ c6 < 256 ∧ c7 < 256 ∧ x = num [c0, c1, c2, c3, c4, c5, c6, c7] := by
    refine ⟨x % 256, x / 256 % 256, x / 65536 % 256, x / 16777216 % 256, x / 4294967296 % 256, x / 1099511627776 % 256, x / 281474976710656 % 256, x / 72057594037927936 % 256, ?_⟩
    simp only [num]
    omega
  have hall : ∀ c ∈ [c0, c1, c2, c3, c4, c5, c6, c7], c < 256 := by
    intro c hc
    simp only [List.mem_cons, List.not_mem_nil, or_false] at hc
    omega
  have m1 : (6148914691236517205 : Nat) = num ([c0, c1, c2, c3, c4, c5, c6, c7].map fun _ => 85) := by simp [num]
  have m2 : (3689348814741910323 : Nat) = num ([c0, c1, c2, c3, c4, c5, c6, c7].map fun _ => 51) := by simp [num]
  have m3 : (1085102592571150095 : Nat) = num ([c0, c1, c2, c3, c4, c5, c6, c7].map fun _ => 15) := by simp [num]
  have s1 : ((x / 2) &&& 6148914691236517205) + (x &&& 6148914691236517205) = num ([c0, c1, c2, c3, c4, c5, c6, c7].map fun c => ((c / 2) &&& 85) + (c &&& 85)) := by
    rw [m1, e, num_55 _ hall, num_55' _ hall, num_add]
  have g : ∀ c ∈ [c0, c1, c2, c3, c4, c5, c6, c7], _ := fun c hc => byte_pc c (hall c hc)
  generalize hl : [c0, c1, c2, c3, c4, c5, c6, c7] = l at *
  have s2 : num ((l.map fun c => ((c / 2) &&& 85) + (c &&& 85)).map fun c => ((c / 4) &&& 51) + (c &&& 51)) = ((num (l.map fun c => ((c / 2) &&& 85) + (c &&& 85)) / 4) &&& 3689348814741910323) + (num (l.map fun c => ((c / 2) &&& 85) + (c &&& 85)) &&& 3689348814741910323) := by
    have hb : ∀ c ∈ l.map fun c => ((c / 2) &&& 85) + (c &&& 85), c < 256 := by
      intro c hc
      obtain ⟨b, hb, rfl⟩ := List.mem_map.1 hc
      exact (g b hb).1
    have mm : (l.map fun _ => 51) = ((l.map fun c => ((c / 2) &&& 85) + (c &&& 85)).map fun _ => 51) := by rw [List.map_map]; rfl
    rw [m2, mm, num_33 _ hb, num_33' _ hb, num_add]
  have s3 : num (((l.map fun c => ((c / 2) &&& 85) + (c &&& 85)).map fun c => ((c / 4) &&& 51) + (c &&& 51)).map fun c => c / 16 + c % 16) = (num ((l.map fun c => ((c / 2) &&& 85) + (c &&& 85)).map fun c => ((c / 4) &&& 51) + (c &&& 51)) / 16 + num ((l.map fun c => ((c / 2) &&& 85) + (c &&& 85)).map fun c => ((c / 4) &&& 51) + (c &&& 51))) &&& 1085102592571150095 := by
    have hb : ∀ c ∈ (l.map fun c => ((c / 2) &&& 85) + (c &&& 85)).map fun c => ((c / 4) &&& 51) + (c &&& 51), c / 16 ≤ 4 ∧ c % 16 ≤ 4 := by
      intro c hc
      obtain ⟨b1, hb1, rfl⟩ := List.mem_map.1 hc
      obtain ⟨b, hb2, rfl⟩ := List.mem_map.1 hb1
      exact ⟨(g b hb2).2.2.1, (g b hb2).2.2.2.1⟩
    have mm : (l.map fun _ => 15) = (((l.map fun c => ((c / 2) &&& 85) + (c &&& 85)).map fun c => ((c / 4) &&& 51) + (c &&& 51)).map fun _ => 15) := by simp only [List.map_map]; rfl
    rw [m3, mm, num_0f _ hb]
  have s4 : (((l.map fun c => ((c / 2) &&& 85) + (c &&& 85)).map fun c => ((c / 4) &&& 51) + (c &&& 51)).map fun c => c / 16 + c % 16) = l.map (pc 8) := by
    rw [List.map_map, List.map_map]
    exact List.map_congr_left (fun c hc => (g c hc).2.2.2.2)
  rw [s4] at s3
  have s5 : ∀ c ∈ l.map (fun c => ((c / 2) &&& 85) + (c &&& 85)), c < 256 := by
    intro c hc
    obtain ⟨b, hb, rfl⟩ := List.mem_map.1 hc
    exact (g b hb).1
  have s6 : ∀ c ∈ (l.map fun c => ((c / 2) &&& 85) + (c &&& 85)).map (fun c => ((c / 4) &&& 51) + (c &&& 51)), c ≤ 68 := by
    intro c hc
    obtain ⟨b1, hb1, rfl⟩ := List.mem_map.1 hc
    obtain ⟨b, hb2, rfl⟩ := List.mem_map.1 hb1
    have h1 := (g b hb2).2.2.1
    have h2 := (g b hb2).2.2.2.1
    omega
  have s7 : ∀ c ∈ l.map (pc 8), c ≤ 8 := by
    intro c hc
    obtain ⟨b, hb, rfl⟩ := List.mem_map.1 hc
    have := (g b hb).2.2
    omega
  have hpc : pc 64 x = pc 8 c0 + (pc 8 c1 + (pc 8 c2 + (pc 8 c3 + (pc 8 c4 + (pc 8 c5 + (pc 8 c6 + pc 8 c7)))))) := by
    rw [e, ← hl]
    simp only [num]
    rw [pc_byte 56 c0 _ h0, pc_byte 48 c1 _ h1, pc_byte 40 c2 _ h2, pc_byte 32 c3 _ h3, pc_byte 24 c4 _ h4, pc_byte 16 c5 _ h5, pc_byte 8 c6 _ h6]
    simp
  have b1 := num_le 255 _ (fun c hc => by have := s5 c hc; omega)
  have b2 := num_le 68 _ s6
  subst hl
  simp only [List.map_cons, List.map_nil] at b1 b2
  have n1 : num [255, 255, 255, 255, 255, 255, 255, 255] = 18446744073709551615 := by simp [num]
  have n2 : num [68, 68, 68, 68, 68, 68, 68, 68] = 4919131752989213764 := by simp [num]
  rw [n1] at b1
  rw [n2] at b2
  have hf := fold8 (pc 8 c0) (pc 8 c1) (pc 8 c2) (pc 8 c3) (pc 8 c4) (pc 8 c5) (pc 8 c6) (pc 8 c7) _ _ _ _ (s7 _ (by simp)) (s7 _ (by simp)) (s7 _ (by simp)) (s7 _ (by simp)) (s7 _ (by simp)) (s7 _ (by simp)) (s7 _ (by simp)) (s7 _ (by simp)) rfl rfl rfl rfl
  refine ⟨_, _, _, _, _, _, s1, ?_, s2.symm, ?_, ?_, s3.symm, rfl, rfl, rfl, hf.1, ?_⟩
  · simp only [List.map_cons, List.map_nil]; omega
  · simp only [List.map_cons, List.map_nil]; omega
  · simp only [List.map_cons, List.map_nil]; omega
  · rw [hpc]; exact hf.2
end Go.Proofs.YtdhcnmljkmodhaaDoor
