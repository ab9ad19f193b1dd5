/- Memory: what a call may have turned ('Keeps'), a row of the call's own behind a store into one of its cells, and a store of whatever one-cell value. -/
import Derived.WalkKit
import Derived.WalkSpells
import Derived.WalkLawsBesides
import Derived.Lib.Hide
import Derived.Lib.SmallJoins
import Derived.Deep.RegionLaw
namespace Go.Proofs.YtdhcnmljkmodhaaDoor
set_option linter.unusedSectionVars false
set_option linter.unusedVariables false
set_option linter.unusedSimpArgs false
open Go.RowKit

/-- A store of a value of one cell. -/
@[go_sem] theorem run_store_one (P : Program) (w : World) (a : Addr) (v : Value) (m : Mode) (hv : v.oneCell' = true) : (store a v m).run P w = stored P w a v m := run_store P w a _ m hv

/-- The cells of a value of one cell, as the walk writes them. -/
@[go_sem] theorem cells_one (v : Value) (hv : v.oneCell' = true) : Value.cells.match_1 (fun _ => Array Value) v (fun cs => cs) (fun v => #[v]) = #[v] := by
  cases v <;> first | rfl | simp [Value.oneCell'] at hv

/-- Of what was there, only the blocks in S may have turned. -/
structure Keeps (w w' : World) (S : Nat → Prop) : Prop where
  os : w'.os = w.os
  tape : w'.tape = w.tape
  output : w'.output = w.output
  size : w.heap.size ≤ w'.heap.size
  block : ∀ k, k < w.heap.size → ¬ S k → w'.heap[k]? = w.heap[k]?

theorem Keeps.refl (w : World) (S : Nat → Prop) : Keeps w w S := ⟨rfl, rfl, rfl, Nat.le_refl _, fun _ _ _ => rfl⟩
theorem Keeps.trans {a b c : World} {S : Nat → Prop} (h : Keeps a b S) (k : Keeps b c S) : Keeps a c S :=
  ⟨k.os.trans h.os, k.tape.trans h.tape, k.output.trans h.output, Nat.le_trans h.size k.size,
   fun i hi hs => (k.block i (Nat.lt_of_lt_of_le hi h.size) hs).trans (h.block i hi hs)⟩
/-- What the second step may turn beyond what was there at the first is new. -/
theorem Keeps.trans' {a b c : World} {S T : Nat → Prop} (h : Keeps a b S) (k : Keeps b c T) (hT : ∀ j, j < a.heap.size → T j → S j) : Keeps a c S :=
  ⟨k.os.trans h.os, k.tape.trans h.tape, k.output.trans h.output, Nat.le_trans h.size k.size,
   fun i hi hs => (k.block i (Nat.lt_of_lt_of_le hi h.size) (fun t => hs (hT i hi t))).trans (h.block i hi hs)⟩
theorem Keeps.mono {a b : World} {S T : Nat → Prop} (h : Keeps a b S) (hT : ∀ j, j < a.heap.size → S j → T j) : Keeps a b T :=
  ⟨h.os, h.tape, h.output, h.size, fun i hi hs => h.block i hi (fun s => hs (hT i hi s))⟩
theorem Keeps.drew {a b : World} {S : Nat → Prop} (h : Keeps a b S) : Keeps a b.drew S := ⟨h.os, h.tape, h.output, h.size, h.block⟩
theorem Keeps.drewN {a b : World} {S : Nat → Prop} (h : Keeps a b S) (n : Nat) : Keeps a (b.drewN n) S := ⟨h.os, h.tape, h.output, h.size, h.block⟩
theorem Keeps.alloc {a b : World} {S : Nat → Prop} (h : Keeps a b S) (o : Obj) : Keeps a (b.alloc o) S :=
  h.trans ⟨rfl, rfl, rfl, by simp, fun k hk _ => Below.heap_alloc _ _ _ (by omega)⟩
theorem Keeps.setCell {a b : World} {S : Nat → Prop} (h : Keeps a b S) {p : Addr} (hp : p.block < a.heap.size → S p.block) (u : Value) : Keeps a (b.setCell p u) S :=
  h.trans' (T := fun j => j = p.block) ⟨rfl, rfl, rfl, by simp [World.setCell], fun k _ hs => Below.heap_setCell _ _ _ _ hs⟩ (fun j hj e => by subst e; exact hp hj)
theorem Keeps.grown {a b c : World} {S : Nat → Prop} {row : Option Nat} (h : Keeps a b S) (hg : b.grownBy c row) (hr : ∀ k, row = some k → k < a.heap.size → S k) : Keeps a c S :=
  h.trans' (T := fun j => row = some j) ⟨hg.os, hg.tape, hg.output, hg.size, fun k hk hs => hg.block k hk (fun e => hs e.symm)⟩ (fun j hj e => hr j e hj)
theorem Keeps.below {B : Nat} {w w' : World} (h : Below B w w') (hB : w.heap.size ≤ B) (S : Nat → Prop) : Keeps w w' S :=
  ⟨h.os, h.tape, h.output, h.size, fun k hk _ => h.block k (by omega)⟩
/-- Only blocks from B on may have turned: 'Below'. -/
theorem Keeps.toBelow {B : Nat} {w w' : World} {S : Nat → Prop} (h : Keeps w w' S) (hB : B ≤ w.heap.size) (hS : ∀ k, k < w.heap.size → S k → B ≤ k) : Below B w w' :=
  ⟨h.os, h.tape, h.output, h.size, fun k hk => h.block k (by omega) (fun s => by have := hS k (by omega) s; omega)⟩

theorem block_lt {w : World} {b : Nat} {o : Obj} (h : w.heap[b]? = some o) : b < w.heap.size := by
  rcases Nat.lt_or_ge b w.heap.size with h' | h'
  · exact h'
  · simp [Array.getElem?_eq_none h'] at h
theorem setCell_heap {w : World} {g : Nat} {cs : Array Value} {t : TypeId} {fr : Nat × Nat} (h : w.heap[g]? = some (.cells cs t fr)) (o : Nat) (v : Value) :
    (w.setCell ⟨g, o, none⟩ v).heap[g]? = some (.cells (cs.setIfInBounds o v) t fr) := by
  have hlt := block_lt h
  have h' : w.heap[g] = .cells cs t fr := by simpa [Array.getElem?_eq_getElem hlt] using h
  show (w.heap.modify g _)[g]? = _
  rw [Array.getElem?_eq_getElem (by simpa using hlt), Array.getElem_modify_self, h']
  rfl
theorem cell_at {w : World} {g : Nat} {cs : Array Value} {t : TypeId} {fr : Nat × Nat} (h : w.heap[g]? = some (.cells cs t fr)) (o : Nat) : w.cell? ⟨g, o, none⟩ = cs[o]? := by simp [World.cell?, h]
theorem free_at {w : World} {g : Nat} {cs : Array Value} {t : TypeId} (h : w.heap[g]? = some (.cells cs t (0, 0))) (o : Nat) : w.frozen? ⟨g, o, none⟩ = false := by simp [World.frozen?, h]

/-- A store into one of a row's own cells. -/
theorem ownsRow_set {w : World} {base : Nat} {e : TypeId} {size n g cap : Nat} {xs : List Value} (h : w.ownsRow base e size (.slice (some ⟨g, 0, none⟩) n cap) n xs) (j : Nat) (v : Value) :
    (w.setCell ⟨g, j, none⟩ v).ownsRow base e size (.slice (some ⟨g, 0, none⟩) n cap) n (xs.set j v) := by
  obtain ⟨h1, h2⟩ := h
  rcases h2 with ⟨h2, _⟩ | ⟨g', cap', cur, hv, hg, hh, r1, r2, r3, r4⟩
  · cases h2
  · obtain ⟨rfl, rfl⟩ : g' = g ∧ cap' = cap := by simp at hv; exact ⟨hv.1.symm, hv.2.symm⟩
    refine ⟨by simpa using h1, .inr ⟨g', cap', _, rfl, hg, setCell_heap hh j v, r1, r2, by simpa using r3, ?_⟩⟩
    rw [← r4, Array.toList_setIfInBounds, List.take_set]
/-- A row's cells. -/
theorem ownsRow_cell {w : World} {base : Nat} {e : TypeId} {size n g cap : Nat} {xs : List Value} (h : w.ownsRow base e size (.slice (some ⟨g, 0, none⟩) n cap) n xs) {j : Nat} {v : Value} (hj : xs[j]? = some v) :
    w.cell? ⟨g, j, none⟩ = some v := by
  obtain ⟨h1, h2⟩ := h
  rcases h2 with ⟨h2, _⟩ | ⟨g', cap', cur, hv, hg, hh, r1, r2, r3, r4⟩
  · cases h2
  · obtain ⟨rfl, rfl⟩ : g' = g ∧ cap' = cap := by simp at hv; exact ⟨hv.1.symm, hv.2.symm⟩
    rw [cell_at hh, ← Array.getElem?_toList]
    rw [← r4] at hj
    obtain ⟨hlt, _⟩ := List.getElem?_eq_some_iff.1 hj
    rw [List.getElem?_take] at hj
    split at hj
    · exact hj
    · cases hj
theorem ownsRow_free {w : World} {base : Nat} {e : TypeId} {size n g cap : Nat} {xs : List Value} (h : w.ownsRow base e size (.slice (some ⟨g, 0, none⟩) n cap) n xs) (j : Nat) : w.frozen? ⟨g, j, none⟩ = false := by
  obtain ⟨h1, h2⟩ := h
  rcases h2 with ⟨h2, _⟩ | ⟨g', cap', cur, hv, hg, hh, r⟩
  · cases h2
  · obtain ⟨rfl, rfl⟩ : g' = g ∧ cap' = cap := by simp at hv; exact ⟨hv.1.symm, hv.2.symm⟩
    exact free_at hh j
theorem ownsRow_lt {w : World} {base : Nat} {e : TypeId} {size n g cap : Nat} {xs : List Value} (h : w.ownsRow base e size (.slice (some ⟨g, 0, none⟩) n cap) n xs) : base ≤ g ∧ g < w.heap.size ∧ n ≤ cap ∧ cap ≤ maxLen := by
  obtain ⟨h1, h2⟩ := h
  rcases h2 with ⟨h2, _⟩ | ⟨g', cap', cur, hv, hg, hh, r⟩
  · cases h2
  · obtain ⟨rfl, rfl⟩ : g' = g ∧ cap' = cap := by simp at hv; exact ⟨hv.1.symm, hv.2.symm⟩
    exact ⟨hg, block_lt hh, r.1, r.2.1⟩
/-- A row is what its block is: in a world in which that block is the same it is owned too. -/
theorem ownsRow_same {w w' : World} {base : Nat} {e : TypeId} {size n : Nat} {v : Value} {xs : List Value} (h : w.ownsRow base e size v n xs) (hs : ∀ g, v.ownBlock = some g → w'.heap[g]? = w.heap[g]?) : w'.ownsRow base e size v n xs := by
  obtain ⟨h1, h2⟩ := h
  refine ⟨h1, ?_⟩
  rcases h2 with h2 | ⟨g', cap', cur, hv, hg, hh, r⟩
  · exact .inl h2
  · subst hv; exact .inr ⟨g', cap', cur, rfl, hg, by rw [hs g' rfl]; exact hh, r⟩
/-- A shorter slice of the row. -/
theorem ownsRow_take {w : World} {base : Nat} {e : TypeId} {size n g cap : Nat} {xs : List Value} (h : w.ownsRow base e size (.slice (some ⟨g, 0, none⟩) n cap) n xs) (k : Nat) (hk : k ≤ n) :
    w.ownsRow base e size (.slice (some ⟨g, 0, none⟩) k cap) k (xs.take (k * size)) := by
  obtain ⟨h1, h2⟩ := h
  rcases h2 with ⟨h2, _⟩ | ⟨g', cap', cur, hv, hg, hh, r1, r2, r3, r4⟩
  · cases h2
  · obtain ⟨rfl, rfl⟩ : g' = g ∧ cap' = cap := by simp at hv; exact ⟨hv.1.symm, hv.2.symm⟩
    have hks : k * size ≤ n * size := Nat.mul_le_mul_right _ hk
    refine ⟨by rw [List.length_take, h1]; omega, .inr ⟨g', cap', cur, rfl, hg, hh, by omega, r2, r3, ?_⟩⟩
    rw [← r4, List.take_take, Nat.min_eq_left hks]
/-- append onto a row of the call's own, and where the new row's block is: the old one's, or new. -/
theorem run_append_fresh {P : Program} {w : World} (base : Nat) (t ty e : TypeId) (i : TypeInfo) (z : Value) (size bytes : Nat) (ht : P.underlying t = some (.slice e)) (hi : P.info? e = some i) (hz : i.zero = some z)
    (hsize : i.size = size) (hby : i.bytes = bytes) (hzs : z.cells.size = size) (hsz : 0 < size)
    (v : Value) (n : Nat) (xs : List Value) (hown : w.ownsRow base e size v n xs)
    (a : Addr) (m c : Nat) (news : List Value) (hl : news.length = m * size) (hnews : ∀ j u, news[j]? = some u → w.cell? (a.add j) = some u) (h1 : ∀ u ∈ news, u.oneCell' = true)
    (h63 : n + m ≤ maxLen) (hbytes : (n + m) * bytes ≤ 140737488355328) (hbase : base ≤ w.heap.size) :
    ∃ v' w', (Builtin.append_ #[t, t] ty #[v, .slice (some a) m c]).run P w = .ok v' w' ∧ w'.ownsRow base e size v' (n + m) (xs ++ news) ∧ w.grownBy w' v.ownBlock ∧
      (v' = .slice none 0 0 ↔ v = .slice none 0 0 ∧ m = 0) ∧ (∀ g, v'.ownBlock = some g → v.ownBlock = some g ∨ w.heap.size ≤ g) := by
  obtain ⟨v', w', hr, h2, h3, h4⟩ := run_append_own (P := P) (w := w) base t ty e i z size bytes ht hi hz hsize hby hzs hsz v n xs hown a m c news hl hnews h1 h63 hbytes hbase
  refine ⟨v', w', hr, h2, h3, h4, ?_⟩
  intro g hg
  rcases hown.2 with ⟨rfl, rfl⟩ | ⟨g0, cap, cur, rfl, hbg, hgc, hnc, hcm, hcs, htake⟩
  · obtain rfl : xs = [] := List.eq_nil_of_length_eq_zero (by simpa using hown.1)
    obtain ⟨v2, w2, hr2, k2, _⟩ := run_append_own (P := P) (w := w) w.heap.size t ty e i z size bytes ht hi hz hsize hby hzs hsz (.slice none 0 0) 0 [] (World.ownsRow_nil w _ e size) a m c news hl hnews h1 h63 hbytes (Nat.le_refl _)
    rw [hr] at hr2
    obtain ⟨rfl, rfl⟩ : v' = v2 ∧ w' = w2 := by simpa using hr2
    exact .inr (k2.lt g hg).1
  · by_cases hroom : n + m ≤ cap
    · have hfit : n * i.size + news.length ≤ cur.size := by rw [hl, hcs, hsize, ← Nat.add_mul]; exact Nat.mul_le_mul_right _ hroom
      have hr2 := run_append_room (P := P) (w := w) t ty e i ht hi g0 n cap cur hgc a m c news (by rw [hsize]; exact hl) hnews h1 hroom hfit
      rw [hr] at hr2
      obtain ⟨rfl, _⟩ : v' = _ ∧ w' = _ := by simpa using hr2
      exact .inl hg
    · have holds : ∀ j u, xs[j]? = some u → w.cell? ((⟨g0, 0, none⟩ : Addr).add j) = some u := hown.cells (g := g0) rfl
      obtain ⟨v2, w2, hr2, k2, _⟩ := run_append_arg_grows (P := P) (w := w) t ty e i z size bytes ht hi hz hsize hby hzs hsz ⟨g0, 0, none⟩ n cap xs hown.1 holds a m c news hl hnews (by omega) h63 hbytes
      rw [hr] at hr2
      obtain ⟨rfl, rfl⟩ : v' = v2 ∧ w' = w2 := by simpa using hr2
      exact .inr (k2.lt g hg).1

/-- The same, as one step of a region that draws. -/
theorem step_append_own {P : Program} {ops : Array Oper} {o : Oper} {a : Act} {w : World} {K : Act → World → Prop} {Q : Exit → Act → World → Prop} {E : Prop}
    (hg : o.guard = none) (s x : Operand) (t : TypeId) (hop : o.op = Op.call { callee := Callee.builtin Builtin.append, args := #[s, x], argTypes := #[t, t] })
    (e : TypeId) (i : TypeInfo) (z : Value) (size bytes : Nat) (h1 : P.underlying t = some (.slice e)) (h2 : P.info? e = some i) (h3 : i.zero = some z) (h4 : i.size = size) (h5 : i.bytes = bytes) (h6 : z.cells.size = size) (h7 : 0 < size)
    (base : Nat) (v : Value) (n : Nat) (xs : List Value) (hs : a.eval s = v) (hown : w.ownsRow base e size v n xs)
    (ad : Addr) (m c : Nat) (news : List Value) (hx : a.eval x = .slice (some ad) m c) (hn : news.length = m * size) (hc : ∀ j u, news[j]? = some u → w.cell? (ad.add j) = some u) (h1c : ∀ u ∈ news, u.oneCell' = true)
    (b1 : n + m ≤ maxLen) (b2 : (n + m) * bytes ≤ 140737488355328) (b3 : base ≤ w.heap.size)
    (hK : ∀ v' w', w'.ownsRow base e size v' (n + m) (xs ++ news) → w.grownBy w' v.ownBlock → (∀ g, v'.ownBlock = some g → v.ownBlock = some g ∨ w.heap.size ≤ g) → K (a.put o.dst v') w') :
    if Region.wanted o (yielded ops a.tmps) = true then Oper.wp P o a w K Q else E := by
  have hw : Region.wanted o (yielded ops a.tmps) = true := by simp [Region.wanted, hg]
  rw [if_pos hw]
  obtain ⟨v', w', hrun, r1, r2, _, r3⟩ := run_append_fresh (P := P) (w := w) base t o.type e i z size bytes h1 h2 h3 h4 h5 h6 h7 v n xs hown ad m c news hn hc h1c b1 b2 b3
  unfold Oper.wp
  simp [execOp, hop, resolve, invoke, builtin, hs, hx, hrun, Result.andThen]
  exact hK v' w' r1 r2 r3
/-- The same, in a plain list of operations. -/
theorem wpList_append_fresh {P : Program} {ops : Array Oper} {rest : List Oper} {o : Oper} {a : Act} {w : World} {Q : Exit → Act → World → Prop} (hgd : o.guard = none) (s x : Operand) (t : TypeId)
    (ho : o.op = .call { callee := .builtin .append, args := #[s, x], argTypes := #[t, t] })
    (base : Nat) (e : TypeId) (i : TypeInfo) (z : Value) (size bytes : Nat) (ht : P.underlying t = some (.slice e)) (hi : P.info? e = some i) (hz : i.zero = some z)
    (hsize : i.size = size) (hby : i.bytes = bytes) (hzs : z.cells.size = size) (hsz : 0 < size)
    (v : Value) (n : Nat) (xs : List Value) (hs : a.eval s = v) (hown : w.ownsRow base e size v n xs)
    (ad : Addr) (m c : Nat) (news : List Value) (hx : a.eval x = .slice (some ad) m c) (hl : news.length = m * size) (hnews : ∀ j u, news[j]? = some u → w.cell? (ad.add j) = some u) (h1 : ∀ u ∈ news, u.oneCell' = true)
    (h63 : n + m ≤ maxLen) (hbytes : (n + m) * bytes ≤ 140737488355328) (hbase : base ≤ w.heap.size)
    (h : ∀ v' w', w'.ownsRow base e size v' (n + m) (xs ++ news) → w.grownBy w' v.ownBlock → (v' = .slice none 0 0 ↔ v = .slice none 0 0 ∧ m = 0) → (∀ g, v'.ownBlock = some g → v.ownBlock = some g ∨ w.heap.size ≤ g) → wpList P ops Q rest (a.put o.dst v') w') : wpList P ops Q (o :: rest) a w := by
  refine wpList_plain hgd fun K hK => ?_
  obtain ⟨v', w', hr, h2, h3, h4, h5⟩ := run_append_fresh (P := P) (w := w) base t o.type e i z size bytes ht hi hz hsize hby hzs hsz v n xs hown ad m c news hl hnews h1 h63 hbytes hbase
  unfold Oper.wp execOp
  simp only [ho, resolve, invoke, builtin, Sem.run_bind, Sem.run_pure, Result.andThen_ok, List.map_toArray, List.map_cons, List.map_nil, hs, hx, hr]
  exact hK _ _ (h v' w' h2 h3 h4 h5)
/-- A new block's cells. -/
theorem cells_new (w : World) (cs : Array Value) (t : TypeId) (fr : Nat × Nat) (xs : List Value) (hx : cs.toList = xs) : ∀ j u, xs[j]? = some u → (w.alloc (.cells cs t fr)).cell? ((⟨w.heap.size, 0, none⟩ : Addr).add j) = some u := by
  intro j u hj
  have e : ((⟨w.heap.size, 0, none⟩ : Addr).add j) = ⟨w.heap.size, j, none⟩ := by
    unfold Addr.add; split
    · rename_i h; subst h; rfl
    · simp
  rw [e, cell_at (heap_alloc_new w _), ← hj, ← hx, Array.getElem?_toList]
/-- len of an owned row whose form is not known. -/
theorem run_len_forms {P : Program} {t ty e : TypeId} {v : Value} {n : Nat} (ht : P.underlying t = some (.slice e)) (hv : (v = .slice none 0 0 ∧ n = 0) ∨ ∃ g cap, v = .slice (some ⟨g, 0, none⟩) n cap) (W : World) : (Builtin.len_ #[t] ty #[v]).run P W = .ok (.int .i64 n) W := by
  rcases hv with ⟨rfl, rfl⟩ | ⟨g, cap, rfl⟩
  · simp [Builtin.len_, run_underlying ht]; rfl
  · simp [Builtin.len_, run_underlying ht]; rfl
theorem hs_alloc (w : World) (o : Obj) : (w.alloc o).heap.size = w.heap.size + 1 := by simp
theorem hs_drew (w : World) : w.drew.heap = w.heap := rfl
theorem hs_drewN (w : World) (n : Nat) : (w.drewN n).heap = w.heap := rfl
theorem hs_setCell (w : World) (a : Addr) (v : Value) : (w.setCell a v).heap.size = w.heap.size := by simp [World.setCell]
theorem ownsRow_drew {w : World} {base : Nat} {e : TypeId} {size n : Nat} {v : Value} {xs : List Value} (h : w.ownsRow base e size v n xs) : w.drew.ownsRow base e size v n xs := ⟨h.1, h.2⟩
end Go.Proofs.YtdhcnmljkmodhaaDoor
