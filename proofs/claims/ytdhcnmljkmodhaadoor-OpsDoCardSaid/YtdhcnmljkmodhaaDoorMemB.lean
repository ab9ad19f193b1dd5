/- Memory: slices that are only read (at whatever offset), and append of whatever is read onto a row of the call's own. -/
import Derived.Test.YtdhcnmljkmodhaaDoorMem
import Derived.Deep.AppendSrc
namespace Go.Proofs.YtdhcnmljkmodhaaDoor
set_option linter.unusedSectionVars false
set_option linter.unusedVariables false
set_option linter.unusedSimpArgs false
open Go.RowKit

/-- A slice of n elements of type e, size cells each, that reads as the cells xs. -/
def ReadsRow (w : World) (e : TypeId) (size : Nat) (v : Value) (n : Nat) (xs : List Value) : Prop :=
  xs.length = n * size ∧ ((v = .slice none 0 0 ∧ n = 0) ∨
    ∃ g off cap cs fr, v = .slice (some ⟨g, off, none⟩) n cap ∧ n ≤ cap ∧ cap ≤ maxLen ∧ w.heap[g]? = some (.cells cs e fr) ∧ off + n * size ≤ cs.size ∧ (cs.toList.drop off).take (n * size) = xs)

theorem ReadsRow.ofOwn {w : World} {base : Nat} {e : TypeId} {size n : Nat} {v : Value} {xs : List Value} (h : w.ownsRow base e size v n xs) : ReadsRow w e size v n xs := by
  refine ⟨h.1, h.2.imp id ?_⟩
  rintro ⟨g, cap, cur, hv, _, hh, r1, r2, r3, r4⟩
  exact ⟨g, 0, cap, cur, (0, 0), hv, r1, r2, hh, by rw [r3, Nat.zero_add]; exact Nat.mul_le_mul_right _ r1, by simpa using r4⟩
theorem ReadsRow.forms {w : World} {e : TypeId} {size n : Nat} {v : Value} {xs : List Value} (h : ReadsRow w e size v n xs) : (v = .slice none 0 0 ∧ n = 0) ∨ ∃ g off cap, v = .slice (some ⟨g, off, none⟩) n cap ∧ n ≤ cap ∧ cap ≤ maxLen := by
  rcases h.2 with h | ⟨g, off, cap, cs, fr, hv, h1, h2, _⟩
  · exact .inl h
  · exact .inr ⟨g, off, cap, hv, h1, h2⟩
theorem ReadsRow.form1 {w : World} {e : TypeId} {size n : Nat} {v : Value} {xs : List Value} (h : ReadsRow w e size v n xs) : ∃ a cap, v = .slice a n cap ∧ n ≤ cap ∧ cap ≤ maxLen := by
  rcases h.forms with ⟨rfl, rfl⟩ | ⟨g, off, cap, rfl, h1, h2⟩
  · exact ⟨none, 0, rfl, Nat.le_refl _, by unfold maxLen; omega⟩
  · exact ⟨_, cap, rfl, h1, h2⟩
theorem ReadsRow.form2 {w : World} {e : TypeId} {size n : Nat} {v : Value} {xs : List Value} (h : ReadsRow w e size v n xs) (h0 : 0 < n) : ∃ g off cap, v = .slice (some ⟨g, off, none⟩) n cap ∧ n ≤ cap ∧ cap ≤ maxLen := by
  rcases h.forms with ⟨rfl, rfl⟩ | h
  · omega
  · exact h
theorem ReadsRow.cell {w : World} {e : TypeId} {size n g off cap : Nat} {xs : List Value} (h : ReadsRow w e size (.slice (some ⟨g, off, none⟩) n cap) n xs) {j : Nat} {u : Value} (hj : xs[j]? = some u) : w.cell? ⟨g, off + j, none⟩ = some u := by
  rcases h.2 with ⟨h2, _⟩ | ⟨g', off', cap', cs, fr, hv, _, _, hh, hsz, htk⟩
  · cases h2
  · obtain ⟨⟨rfl, rfl⟩, rfl⟩ : (g = g' ∧ off = off') ∧ cap = cap' := by simpa using hv
    rw [cell_at hh, ← Array.getElem?_toList]
    rw [← htk, List.getElem?_take] at hj
    split at hj
    · rw [List.getElem?_drop] at hj; exact hj
    · cases hj
theorem ReadsRow.lt {w : World} {e : TypeId} {size n g off cap : Nat} {xs : List Value} (h : ReadsRow w e size (.slice (some ⟨g, off, none⟩) n cap) n xs) : g < w.heap.size := by
  rcases h.2 with ⟨h2, _⟩ | ⟨g', off', cap', cs, fr, hv, _, _, hh, hsz, htk⟩
  · cases h2
  · obtain ⟨⟨rfl, rfl⟩, rfl⟩ : (g = g' ∧ off = off') ∧ cap = cap' := by simpa using hv
    exact block_lt hh
/-- It reads as it did where its block is as it was. -/
theorem ReadsRow.same {w w' : World} {e : TypeId} {size n : Nat} {v : Value} {xs : List Value} (h : ReadsRow w e size v n xs) (hs : ∀ g, v.ownBlock = some g → w'.heap[g]? = w.heap[g]?) : ReadsRow w' e size v n xs := by
  refine ⟨h.1, h.2.imp id ?_⟩
  rintro ⟨g, off, cap, cs, fr, rfl, r1, r2, hh, r⟩
  exact ⟨g, off, cap, cs, fr, rfl, r1, r2, by rw [hs g rfl]; exact hh, r⟩
theorem ReadsRow.blk {w : World} {e : TypeId} {size n : Nat} {v : Value} {xs : List Value} (h : ReadsRow w e size v n xs) : ∀ g, v.ownBlock = some g → ∃ cs fr, w.heap[g]? = some (.cells cs e fr) := by
  intro g hg
  rcases h.2 with ⟨rfl, _⟩ | ⟨g', off, cap, cs, fr, rfl, r1, r2, hh, r⟩
  · cases hg
  · simp only [Value.ownBlock, Option.some.injEq] at hg; subst hg; exact ⟨cs, fr, hh⟩
theorem ReadsRow.keeps {w w' : World} {e : TypeId} {size n : Nat} {v : Value} {xs : List Value} {S : Nat → Prop} (h : ReadsRow w e size v n xs) (hk : Keeps w w' S) (hS : ∀ g, v.ownBlock = some g → ¬ S g) : ReadsRow w' e size v n xs :=
  h.same fun g hg => by obtain ⟨cs, fr, hh⟩ := h.blk g hg; exact hk.block g (block_lt hh) (hS g hg)
theorem ReadsRow.keeps0 {w w' : World} {e : TypeId} {size n : Nat} {v : Value} {xs : List Value} (h : ReadsRow w e size v n xs) (hk : Keeps w w' (fun _ => False)) : ReadsRow w' e size v n xs := h.keeps hk (fun _ _ => id)
/-- The first k elements. -/
theorem ReadsRow.take {w : World} {e : TypeId} {size n g off cap : Nat} {xs : List Value} (h : ReadsRow w e size (.slice (some ⟨g, off, none⟩) n cap) n xs) (k : Nat) (hk : k ≤ n) : ReadsRow w e size (.slice (some ⟨g, off, none⟩) k cap) k (xs.take (k * size)) := by
  have hks : k * size ≤ n * size := Nat.mul_le_mul_right _ hk
  refine ⟨by rw [List.length_take, h.1]; omega, ?_⟩
  rcases h.2 with ⟨h2, _⟩ | ⟨g', off', cap', cs, fr, hv, r1, r2, hh, hsz, htk⟩
  · cases h2
  · obtain ⟨⟨rfl, rfl⟩, rfl⟩ : (g = g' ∧ off = off') ∧ cap = cap' := by simpa using hv
    exact .inr ⟨g, off, cap, cs, fr, rfl, by omega, r2, hh, by omega, by rw [← htk, List.take_take, Nat.min_eq_left hks]⟩
/-- From element k on (k below the capacity: the address goes on). -/
theorem ReadsRow.drop {w : World} {e : TypeId} {size n g off cap : Nat} {xs : List Value} (h : ReadsRow w e size (.slice (some ⟨g, off, none⟩) n cap) n xs) (k : Nat) (hk : k ≤ n) : ReadsRow w e size (.slice (some ⟨g, off + k * size, none⟩) (n - k) (cap - k)) (n - k) (xs.drop (k * size)) := by
  have hks : k * size ≤ n * size := Nat.mul_le_mul_right _ hk
  have e1 : (n - k) * size = n * size - k * size := Nat.sub_mul ..
  refine ⟨by rw [List.length_drop, h.1, e1], ?_⟩
  rcases h.2 with ⟨h2, _⟩ | ⟨g', off', cap', cs, fr, hv, r1, r2, hh, hsz, htk⟩
  · cases h2
  · obtain ⟨⟨rfl, rfl⟩, rfl⟩ : (g = g' ∧ off = off') ∧ cap = cap' := by simpa using hv
    refine .inr ⟨g, off + k * size, cap - k, cs, fr, rfl, by omega, by omega, hh, by omega, ?_⟩
    rw [← htk, List.drop_take, List.drop_drop, e1]
/-- Nothing of it. -/
theorem ReadsRow.empty {w : World} {e : TypeId} {size n g off cap : Nat} {xs : List Value} (h : ReadsRow w e size (.slice (some ⟨g, off, none⟩) n cap) n xs) (off' cap' : Nat) (h1 : off' = off) (h2 : cap' ≤ cap) : ReadsRow w e size (.slice (some ⟨g, off', none⟩) 0 cap') 0 [] := by
  subst h1
  refine ⟨by simp, ?_⟩
  rcases h.2 with ⟨h2, _⟩ | ⟨g', off', cap', cs, fr, hv, r1, r2, hh, hsz, htk⟩
  · cases h2
  · obtain ⟨⟨rfl, rfl⟩, rfl⟩ : (g = g' ∧ _ = off') ∧ cap = cap' := by simpa using hv
    exact .inr ⟨g, _, _, cs, fr, rfl, by omega, by omega, hh, by omega, by simp⟩

/-- What is read, as the second argument of an append. -/
theorem Src.ofReads {P : Program} {w : World} {tx e e' : TypeId} {size n : Nat} {v : Value} {xs : List Value} (hk : P.underlying tx = some (.slice e')) (h : ReadsRow w e size v n xs) (h1 : ∀ u ∈ xs, u.oneCell' = true) : Src P size tx v n xs w := by
  rcases h.forms with ⟨rfl, rfl⟩ | ⟨g, off, cap, rfl, _⟩
  · obtain rfl : xs = [] := List.eq_nil_of_length_eq_zero (by simpa using h.1)
    exact Src.ofNil w hk 0
  · refine Src.ofSlice w hk _ n cap xs h.1 (fun j u hj => ?_) h1
    have e : ((⟨g, off, none⟩ : Addr).add j) = ⟨g, off + j, none⟩ := by
      unfold Addr.add; split
      · rename_i h; subst h; rfl
      · rfl
    rw [e]; exact h.cell hj

theorem setCells_heap (g : Nat) (t : TypeId) (fr : Nat × Nat) : ∀ (vs : List Value) (o : Nat) (cs : Array Value) (w : World), w.heap[g]? = some (.cells cs t fr) → o + vs.length ≤ cs.size →
    (w.setCells g o vs).heap[g]? = some (.cells (cs.toList.take o ++ vs ++ cs.toList.drop (o + vs.length)).toArray t fr) ∧ Keeps w (w.setCells g o vs) (fun j => j = g)
  | [], o, cs, w, h, hl => by simp [World.setCells, h, Keeps.refl]
  | v :: r, o, cs, w, h, hl => by
    simp only [List.length_cons] at hl
    have h1 := setCell_heap h o v
    obtain ⟨i1, i2⟩ := setCells_heap g t fr r (o + 1) _ _ h1 (by simp; omega)
    rw [World.setCells]
    refine ⟨i1.trans ?_, ((Keeps.refl w (fun j => j = g)).setCell (p := ⟨g, o, none⟩) (fun _ => rfl) v).trans i2⟩
    congr 2
    have ho : o < cs.toList.length := by rw [Array.length_toList]; omega
    rw [Array.toList_setIfInBounds, List.drop_set_of_lt (by omega), List.take_set, List.take_succ_eq_append_getElem ho, List.set_append_right _ _ (by simp; omega)]
    have e2 : o - (cs.toList.take o).length = 0 := by simp; omega
    rw [e2]
    simp only [List.set_cons_zero, List.append_assoc, List.singleton_append, List.length_cons]
    rw [show o + 1 + r.length = o + (r.length + 1) by omega]

/-- append onto a row of the call's own, of whatever is appended; where the new row's block is. -/
theorem run_append_any {P : Program} {w : World} (base : Nat) (t tx ty e : TypeId) (i : TypeInfo) (z : Value) (size bytes : Nat) (ht : P.underlying t = some (.slice e)) (hi : P.info? e = some i) (hz : i.zero = some z)
    (hsize : i.size = size) (hby : i.bytes = bytes) (hzs : z.cells.size = size)
    (v : Value) (n : Nat) (xs : List Value) (hown : w.ownsRow base e size v n xs)
    (x : Value) (m : Nat) (news : List Value) (hs : Src P size tx x m news w)
    (h63 : n + m ≤ maxLen) (hbytes : (n + m) * bytes ≤ 140737488355328) (hbase : base ≤ w.heap.size) :
    ∃ v' w', (Builtin.append_ #[t, tx] ty #[v, x]).run P w = .ok v' w' ∧ w'.ownsRow base e size v' (n + m) (xs ++ news) ∧ w.grownBy w' v.ownBlock ∧
      (v' = .slice none 0 0 ↔ v = .slice none 0 0 ∧ m = 0) ∧ (∀ g, v'.ownBlock = some g → v.ownBlock = some g ∨ w.heap.size ≤ g) := by
  subst hsize
  subst hby
  have hsmall : n + m ≤ 9223372036854775807 := by simp only [maxLen] at h63; omega
  have hlen : (xs ++ news).length = (n + m) * i.size := by rw [List.length_append, hown.1, hs.newsLen, Nat.add_mul]
  have grown : ∀ (old : Nat), old < n + m → ∀ (row : Option Nat),
      (w.drew.alloc (.cells ((xs ++ news).toArray ++ Builtin.zeroCells z.cells (grownCap w (n + m) old e - (n + m))) e)).ownsRow base e i.size
        (.slice (some ⟨w.heap.size, 0, none⟩) (n + m) (grownCap w (n + m) old e)) (n + m) (xs ++ news) ∧
      w.grownBy (w.drew.alloc (.cells ((xs ++ news).toArray ++ Builtin.zeroCells z.cells (grownCap w (n + m) old e - (n + m))) e)) row := by
    intro old ho row
    have hge := grownCap_ge w (n + m) old e
    have hcm : grownCap w (n + m) old e ≤ maxLen := grownCap_le_maxLen w (n + m) old e h63
    refine ⟨⟨hlen, .inr ⟨w.heap.size, _, _, rfl, hbase, heap_alloc_new w.drew _, hge, hcm, ?_, ?_⟩⟩, ⟨rfl, rfl, rfl, by simp, fun k hk _ => heap_alloc_old w.drew _ hk⟩⟩
    · rw [Array.size_append, List.size_toArray, size_zeroCells, hzs, hlen, ← Nat.add_mul]
      congr 1; omega
    · rw [Array.toList_append, ← hlen]
      exact List.take_left
  rcases hown.2 with ⟨rfl, rfl⟩ | ⟨g, cap, cur, rfl, hbg, hg, hnc, hcm, hcs, htake⟩
  · obtain rfl : xs = [] := List.eq_nil_of_length_eq_zero (by simpa using hown.1)
    by_cases hm : m = 0
    · subst hm
      obtain rfl : news = [] := List.eq_nil_of_length_eq_zero (by simpa using hs.newsLen)
      refine ⟨.slice none 0 0, w, ?_, World.ownsRow_nil w base e i.size, ⟨rfl, rfl, rfl, Nat.le_refl _, fun _ _ _ => rfl⟩, by simp, fun g hg => by cases hg⟩
      rcases hs.kind with ⟨e', hk⟩ | hk <;> simp [Builtin.append_, run_underlying ht, run_underlying hk, sizeOf, typeInfo, hi, hs.len, hs.cells, storeCells]
    · have hold : (Builtin.firstCells i.size 0 (.slice none 0 0)).run P w.drew = .ok ([] : List Value).toArray w.drew := run_firstCells_none w.drew i.size 0 0 0
      have hr := run_append_grow_src (P := P) w t tx ty e i z ht hi hz none 0 0 [] hold x m news hs (by omega) (by omega) (growslice_fits (by omega) hbytes)
      have hgr := grown 0 (by omega) (Value.ownBlock (.slice none 0 0))
      exact ⟨_, _, hr, hgr.1, hgr.2, by simp [hm], fun g hg => by simp only [Value.ownBlock, Option.some.injEq] at hg; subst hg; exact .inr (Nat.le_refl _)⟩
  · by_cases hroom : n + m ≤ cap
    · have hfit : n * i.size + news.length ≤ cur.size := by rw [hs.newsLen, hcs, ← Nat.add_mul]; exact Nat.mul_le_mul_right _ hroom
      have hr := run_append_room_src (P := P) w t tx ty e i ht hi g 0 n cap x m news hs hroom (fun j hj => by rw [Nat.zero_add, cell_at hg]; simp; omega) (fun j _ => free_at hg _)
      obtain ⟨k1, k2⟩ := setCells_heap g e (0, 0) news (0 + n * i.size) cur w hg (by omega)
      refine ⟨_, _, hr, ⟨hlen, .inr ⟨g, cap, _, rfl, hbg, k1, hroom, hcm, ?_, ?_⟩⟩, ⟨k2.os, k2.tape, k2.output, k2.size, fun k hk hne => k2.block k hk (fun e => hne (by simp [Value.ownBlock, e]))⟩, by simp, fun g' hg' => .inl hg'⟩
      · simp only [List.size_toArray, List.length_append, List.length_take, List.length_drop, Array.length_toList]
        omega
      · rw [Nat.zero_add, htake, ← hlen]
        exact List.take_left
    · have hold : (Builtin.firstCells i.size n (.slice (some ⟨g, 0, none⟩) n cap)).run P w.drew = .ok xs.toArray w.drew :=
        run_firstCells_some w.drew i.size n ⟨g, 0, none⟩ n cap xs hown.1 (by simpa using hown.cells (g := g) rfl)
      have hr := run_append_grow_src (P := P) w t tx ty e i z ht hi hz (some ⟨g, 0, none⟩) n cap xs hold x m news hs (by omega) (by omega) (growslice_fits (by omega) hbytes)
      have hgr := grown cap (by omega) (Value.ownBlock (.slice (some ⟨g, 0, none⟩) n cap))
      exact ⟨_, _, hr, hgr.1, hgr.2, by simp, fun g hg => by simp only [Value.ownBlock, Option.some.injEq] at hg; subst hg; exact .inr (Nat.le_refl _)⟩

/-- What an append has done. (A structure, so that the walk leaves its parts as they are.) -/
structure AppDone (base : Nat) (e : TypeId) (size : Nat) (w : World) (v : Value) (n : Nat) (xs : List Value) (m : Nat) (news : List Value) (v' : Value) (w' : World) : Prop where
  own : w'.ownsRow base e size v' (n + m) (xs ++ news)
  grown : w.grownBy w' v.ownBlock
  nil : v' = .slice none 0 0 ↔ v = .slice none 0 0 ∧ m = 0
  fresh : ∀ g, v'.ownBlock = some g → v.ownBlock = some g ∨ w.heap.size ≤ g
/-- The same, in a plain list of operations. -/
theorem wpList_append_any {P : Program} {ops : Array Oper} {rest : List Oper} {o : Oper} {a : Act} {w : World} {Q : Exit → Act → World → Prop} (hgd : o.guard = none) (s x : Operand) (t tx : TypeId)
    (ho : o.op = .call { callee := .builtin .append, args := #[s, x], argTypes := #[t, tx] })
    (e : TypeId) (i : TypeInfo) (z : Value) (size bytes : Nat) (ht : P.underlying t = some (.slice e)) (hi : P.info? e = some i) (hz : i.zero = some z)
    (hsize : i.size = size) (hby : i.bytes = bytes) (hzs : z.cells.size = size)
    (base : Nat) (v : Value) (n : Nat) (xs : List Value) (hv : a.eval s = v) (hown : w.ownsRow base e size v n xs)
    (xv : Value) (m : Nat) (news : List Value) (hx : a.eval x = xv) (hs : Src P size tx xv m news w)
    (h63 : n + m ≤ maxLen) (hbytes : (n + m) * bytes ≤ 140737488355328) (hbase : base ≤ w.heap.size)
    (h : ∀ v' w', AppDone base e size w v n xs m news v' w' → wpList P ops Q rest (a.put o.dst v') w') : wpList P ops Q (o :: rest) a w := by
  refine wpList_plain hgd fun K hK => ?_
  obtain ⟨v', w', hr, h2, h3, h4, h5⟩ := run_append_any (P := P) (w := w) base t tx o.type e i z size bytes ht hi hz hsize hby hzs v n xs hown xv m news hs h63 hbytes hbase
  unfold Oper.wp execOp
  simp only [ho, resolve, invoke, builtin, Sem.run_bind, Sem.run_pure, Result.andThen_ok, List.map_toArray, List.map_cons, List.map_nil, hv, hx, hr]
  exact hK _ _ (h v' w' ⟨h2, h3, h4, h5⟩)
/-- The same, as one step of a region that draws. -/
theorem step_append_any {P : Program} {ops : Array Oper} {o : Oper} {a : Act} {w : World} {K : Act → World → Prop} {Q : Exit → Act → World → Prop} {E : Prop} (hgd : o.guard = none) (s x : Operand) (t tx : TypeId)
    (ho : o.op = .call { callee := .builtin .append, args := #[s, x], argTypes := #[t, tx] })
    (e : TypeId) (i : TypeInfo) (z : Value) (size bytes : Nat) (ht : P.underlying t = some (.slice e)) (hi : P.info? e = some i) (hz : i.zero = some z)
    (hsize : i.size = size) (hby : i.bytes = bytes) (hzs : z.cells.size = size)
    (base : Nat) (v : Value) (n : Nat) (xs : List Value) (hv : a.eval s = v) (hown : w.ownsRow base e size v n xs)
    (xv : Value) (m : Nat) (news : List Value) (hx : a.eval x = xv) (hs : Src P size tx xv m news w)
    (h63 : n + m ≤ maxLen) (hbytes : (n + m) * bytes ≤ 140737488355328) (hbase : base ≤ w.heap.size)
    (h : ∀ v' w', AppDone base e size w v n xs m news v' w' → K (a.put o.dst v') w') :
    if Region.wanted o (yielded ops a.tmps) = true then Oper.wp P o a w K Q else E := by
  have hw : Region.wanted o (yielded ops a.tmps) = true := by simp [Region.wanted, hgd]
  rw [if_pos hw]
  obtain ⟨v', w', hr, h2, h3, h4, h5⟩ := run_append_any (P := P) (w := w) base t tx o.type e i z size bytes ht hi hz hsize hby hzs v n xs hown xv m news hs h63 hbytes hbase
  unfold Oper.wp execOp
  simp only [ho, resolve, invoke, builtin, Sem.run_bind, Sem.run_pure, Result.andThen_ok, List.map_toArray, List.map_cons, List.map_nil, hv, hx, hr]
  exact h v' w' ⟨h2, h3, h4, h5⟩
end Go.Proofs.YtdhcnmljkmodhaaDoor
