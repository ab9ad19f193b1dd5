/- Merged for the claim, in build order: Bits7, Bits8, Ops10, Ops11, RegionF. -/
import Derived.Test.YtdhcnmljkmodhaaDoorOpsCheckM3
import Derived.Test.YtdhcnmljkmodhaaDoorOpsCheckM6
import Derived.Stop.RegionWithIn
import Derived.Orders
import Derived.Still
import Derived.Deep.QuietTactic
import Derived.BigQuiet
/- The walks of All and of its function value. -/
namespace Go.Proofs.YtdhcnmljkmodhaaDoor
set_option linter.unusedSectionVars false
set_option linter.unusedVariables false
set_option linter.unusedSimpArgs false
open Go.RowKit

theorem all_any (s : BSet) (w : World) : Calls Tryd.prog 57 #[s.val] w fun e w' => e = .returned (.func (.func 65) #[] #[.pointer (some ⟨w.heap.size, 0, none⟩)]) ∧ w' = w.alloc (.cells s.cells 57) := by
  unfold BSet.val
  go_enter Tryd.func57, Tryd.ntmps57
  go_wp2
  go_ret
  exact ⟨rfl, rfl⟩

theorem bitN_get (k j : Nat) (hk : k < 64) (hj : j < 64) : (bitN k).getLsbD j = decide (j = k) := by
  unfold bitN
  simp only [BitVec.getLsbD_shiftLeft, BitVec.getLsbD_one]
  by_cases h : j = k
  · subst h; simp [hj]
  · simp [hj, h]; try omega
theorem BSet.has_not_lo {s : BSet} {j : Nat} (h : j < 64) : s.has j = s.lo.getLsbD j := by unfold BSet.has; rw [if_pos h]
theorem BSet.has_not_hi {s : BSet} {j : Nat} (h : ¬ j < 64) : s.has j = s.hi.getLsbD (j - 64) := by unfold BSet.has; rw [if_neg h]
theorem not_and_get (a b : BitVec 64) (j : Nat) (hj : j < 64) : (a &&& ~~~b).getLsbD j = (a.getLsbD j && !b.getLsbD j) := by
  rw [BitVec.getLsbD_and, BitVec.getLsbD_not]; simp [hj]
theorem has_less_one (s : BSet) (k j : Nat) (hk : k < 128) (hj : j < 128) : (s.less (BSet.one k)).has j = (s.has j && j != k) := by
  by_cases h2 : j < 64
  · rw [BSet.has_not_lo h2, BSet.has_not_lo h2]
    unfold BSet.less
    rw [not_and_get _ _ _ h2]
    congr 1
    by_cases h1 : k < 64
    · unfold BSet.one; rw [if_pos h1]
      show (!(bitN k).getLsbD j) = _
      rw [bitN_get k j h1 h2]
      by_cases h : j = k <;> simp [h]
    · unfold BSet.one; rw [if_neg h1]
      have : (j != k) = true := by rw [bne_iff_ne]; omega
      rw [this]
      show (!(0 : BitVec 64).getLsbD j) = true
      simp
  · rw [BSet.has_not_hi h2, BSet.has_not_hi h2]
    unfold BSet.less
    rw [not_and_get _ _ _ (by omega)]
    congr 1
    by_cases h1 : k < 64
    · unfold BSet.one; rw [if_pos h1]
      have : (j != k) = true := by rw [bne_iff_ne]; omega
      rw [this]
      show (!(0 : BitVec 64).getLsbD (j - 64)) = true
      simp
    · unfold BSet.one; rw [if_neg h1]
      show (!(bitN (k - 64)).getLsbD (j - 64)) = _
      rw [bitN_get (k - 64) (j - 64) (by omega) (by omega)]
      by_cases h : j = k
      · subst h; simp
      · have : ¬ (j - 64 = k - 64) := by omega
        simp [h, this]
theorem BSet.mem_lt {s : BSet} {k : Nat} (h : k ∈ s.mem) : k < 128 := by
  unfold BSet.mem at h
  rw [List.mem_filter, List.mem_range] at h
  exact h.1
theorem BSet.mem_nodup (s : BSet) : s.mem.Nodup := List.nodup_range.filter _
/-- The first is taken out: the rest. -/
theorem mem_step (t : BSet) (k : Nat) (r : List Nat) (h : t.mem = k :: r) : t.firstN = k ∧ (t.withoutN k).mem = r := by
  have hk : k < 128 := BSet.mem_lt (by rw [h]; exact List.mem_cons_self)
  refine ⟨by unfold BSet.firstN; rw [h], ?_⟩
  unfold BSet.withoutN
  rw [if_pos (by omega), Int.toNat_natCast]
  have e : (t.less (BSet.one k)).mem = t.mem.filter (· != k) := by
    unfold BSet.mem
    rw [List.filter_filter]
    apply List.filter_congr
    intro j hj
    rw [has_less_one t k j hk (List.mem_range.1 hj), Bool.and_comm]
  rw [e, h]
  have hnd := t.mem_nodup
  rw [h, List.nodup_cons] at hnd
  rw [List.filter_cons_of_neg (by simp)]
  refine List.filter_eq_self.2 (fun a ha => ?_)
  simp only [bne_iff_ne, ne_eq]
  rintro rfl
  exact hnd.1 ha
theorem mem_empty (t : BSet) : t.isEmpty = true ↔ t.mem = [] := by
  constructor
  · intro h; rw [isEmpty_iff.1 h]; decide +kernel
  · intro h
    have hl := t.mem_length
    rw [h] at hl
    rw [isEmpty_iff]
    have h0 : ∀ a : BitVec 64, (List.range 64).filter a.getLsbD = [] → a = 0 := fun a ha => by
      by_cases hz : a = 0
      · exact hz
      · obtain ⟨k, hk, hb⟩ := word_ne_zero a hz
        have := List.filter_eq_nil_iff.1 ha k (List.mem_range.2 hk)
        exact absurd hb this
    rw [BSet.mem_split] at h
    have h' := List.append_eq_nil_iff.1 h
    have a0 := h0 t.lo h'.1
    have a1 := h0 t.hi (List.map_eq_nil_iff.1 h'.2)
    cases t
    simp only at a0 a1
    rw [a0, a1]; rfl

/-- How many are left in the box B. -/
def leftOf (B : Nat) (w : World) : Nat := match w.heap[B]? with
  | some (.cells cs _ _) => (match cs[0]?, cs[1]? with
    | some (Value.int _ a), some (Value.int _ b) => (BSet.mk (BitVec.ofInt 64 a) (BitVec.ofInt 64 b)).mem.length
    | _, _ => 0)
  | _ => 0
theorem leftOf_eq {B : Nat} {w : World} {t : BSet} {ty : TypeId} {fr : Nat × Nat} (h : w.heap[B]? = some (.cells t.cells ty fr)) : leftOf B w = t.mem.length := by
  unfold leftOf
  rw [h]
  unfold BSet.cells
  show (BSet.mk (BitVec.ofInt 64 t.lo.toNat) (BitVec.ofInt 64 t.hi.toNat)).mem.length = _
  rw [ofInt_toNat, ofInt_toNat]
theorem TabOk.same {w w' : World} (h : TabOk w) (hs : w'.heap[1]? = w.heap[1]?) : TabOk w' := fun j hj => by
  rw [← h j hj]; exact World.cell?_of_block hs
end Go.Proofs.YtdhcnmljkmodhaaDoor

/- The walk of All's function value. -/
namespace Go.Proofs.YtdhcnmljkmodhaaDoor
set_option linter.unusedSectionVars false
set_option linter.unusedVariables false
set_option linter.unusedSimpArgs false
open Go.RowKit
attribute [local go_sem] Oper.semAt_some

set_option maxHeartbeats 2000000 in
theorem all1_in (n : Nat) (hn : 1 ≤ n) (l B : Nat) (s : BSet) (J Jx : List Nat → World → Prop) (hJ : AbidesT (fun j => j = B) J) (hJx : AbidesT (fun j => j = B) Jx)
    (hY : ∀ (pre : List Nat) (x : Nat) W1, J pre W1 → pre ++ [x] <+: s.mem → YieldAt Fence.wide (n - 1) Tryd.prog l #[.int .i64 (x : Int)] W1 fun e W' =>
      (e = .returned (.bool true) ∧ J (pre ++ [x]) W' ∧ (∀ j, (j = B ∨ j = 1) → W'.heap[j]? = W1.heap[j]?) ∧ W1.heap.size ≤ W'.heap.size) ∨ (e = .returned (.bool false) ∧ Jx (pre ++ [x]) W'))
    (W : World) (hB : W.heap[B]? = some (.cells s.cells 57 (0, 0))) (hT : TabOk W) (hBg : B ≠ 1) (h0 : J [] W) :
    CallsIn Fence.wide n Tryd.prog 65 #[.func (.yield l) #[] #[], .pointer (some ⟨B, 0, none⟩)] W fun e W' => (∃ v, e = .returned v) ∧
      ((∃ xs, xs = s.mem ∧ J xs W') ∨ (∃ pre, (pre <+: s.mem ∧ pre ≠ []) ∧ Jx pre W')) := by
  have HJ := Lib.hid hJ
  have HJx := Lib.hid hJx
  have HY := Lib.hid hY
  clear hJ hJx hY
  refine callsIn_of_wp Tryd.func65 rfl trivial ?_ rfl
  simp only [Tryd.ntmps65, List.size_toArray, List.length_cons, List.length_nil, Nat.reduceAdd, Nat.reduceSub, Array.replicate_succ, Array.replicate_zero, List.push_toArray, List.append_toArray, List.nil_append, List.cons_append]
  gi_wp2
  gi_loopw [] (fun wr => ∃ (pre : List Nat) (t : BSet), wr.heap[B]? = some (.cells t.cells 57 (0, 0)) ∧ s.mem = pre ++ t.mem ∧ TabOk wr ∧ J pre wr) (fun wr => leftOf B wr)
  case atStart => exact ⟨[], s, hB, rfl, hT, h0⟩
  case round =>
    obtain ⟨pre, t, hb, hm, hTr, hj⟩ := hrel
    have x0 : wr.cell? ⟨B, 0, none⟩ = some (.int .u64 t.lo.toNat) := by rw [cell_at hb]; rfl
    have x1 : wr.cell? ⟨B, 1, none⟩ = some (.int .u64 t.hi.toNat) := by rw [cell_at hb]; rfl
    have GB := Lib.hid hb
    have GM := Lib.hid hm
    have GT := Lib.hid hTr
    have GJ := Lib.hid hj
    clear hb hm hTr hj
    gi_wp2_with fail
    refine ⟨trivial, (callsIn_wide.2 (empty_any t _)).mono ?_⟩
    rintro e w2 ⟨rfl, k2⟩
    have hsz := block_lt GB.out
    have GB2 : Hid (w2.heap[B]? = some (.cells t.cells 57 (0, 0))) := Lib.hid ((k2.block _ hsz id).trans GB.out)
    have GT2 := Lib.hid (GT.out.keeps k2)
    have GJ2 : Hid (J pre w2) := Lib.hid (HJ.out _ _ _ GJ.out (k2.mono (fun _ _ h => h.elim)))
    have y0 : w2.cell? ⟨B, 0, none⟩ = some (.int .u64 t.lo.toNat) := by rw [cell_at GB2.out]; rfl
    have y1 : w2.cell? ⟨B, 1, none⟩ = some (.int .u64 t.hi.toNat) := by rw [cell_at GB2.out]; rfl
    have GL : Hid (leftOf B wr = t.mem.length) := Lib.hid (leftOf_eq GB.out)
    clear k2 GT GJ x0 x1
    cases he : t.isEmpty
    · have hne : t.mem ≠ [] := fun h => by rw [(mem_empty t).2 h] at he; cases he
      obtain ⟨k, r, hk⟩ : ∃ k r, t.mem = k :: r := by
        cases hm : t.mem with
        | nil => exact absurd hm hne
        | cons k r => exact ⟨k, r, rfl⟩
      obtain ⟨hf, hr⟩ := mem_step t k r hk
      have HF := Lib.hid hf
      have HR := Lib.hid hr
      have HK := Lib.hid hk
      clear hf hr hk hne he
      gi_wp2_with fail
      refine ⟨trivial, (callsIn_wide.2 (first_any t _ GT2.out)).mono ?_⟩
      rintro e w3 ⟨rfl, k3⟩
      rw [HF.out]
      have hsz2 := block_lt GB2.out
      have GB3 : Hid (w3.heap[B]? = some (.cells t.cells 57 (0, 0))) := Lib.hid ((k3.block _ hsz2 id).trans GB2.out)
      have GT3 := Lib.hid (GT2.out.keeps k3)
      have GJ3 : Hid (J pre w3) := Lib.hid (HJ.out _ _ _ GJ2.out (k3.mono (fun _ _ h => h.elim)))
      clear k3 GJ2 GT2 y0 y1
      have hpre : pre ++ [k] <+: s.mem := ⟨r, by rw [GM.out, HK.out]; simp⟩
      obtain ⟨fn, tmps, assign, body, hy, hR⟩ := HY.out pre k w3 GJ3.out hpre
      have HPre := Lib.hid hpre
      clear hpre
      gi_wp2_with fail
      refine hR.mono ?_
      clear hR hy
      rintro e w4 (⟨rfl, hJ4, hk4, hs4⟩ | ⟨rfl, hJx4⟩)
      · have GB4 : Hid (w4.heap[B]? = some (.cells t.cells 57 (0, 0))) := Lib.hid ((hk4 B (.inl rfl)).trans GB3.out)
        have GT4 : Hid (TabOk w4) := Lib.hid (GT3.out.same (hk4 _ (.inr rfl)))
        have GJ4 := Lib.hid hJ4
        have z0 : w4.cell? ⟨B, 0, none⟩ = some (.int .u64 t.lo.toNat) := by rw [cell_at GB4.out]; rfl
        have z1 : w4.cell? ⟨B, 1, none⟩ = some (.int .u64 t.hi.toNat) := by rw [cell_at GB4.out]; rfl
        clear hJ4 hk4 hs4 GB3 GT3 GJ3
        gi_wp2_with fail
        refine ⟨trivial, (callsIn_wide.2 (without_any t k _)).mono ?_⟩
        rintro e w5 ⟨rfl, k5⟩
        have hsz4 := block_lt GB4.out
        have hb5 : w5.heap[B]? = some (.cells t.cells 57 (0, 0)) := (k5.block _ hsz4 id).trans GB4.out
        have q0 : w5.cell? ⟨B, 0, none⟩ = some (.int .u64 t.lo.toNat) := by rw [cell_at hb5]; rfl
        have q1 : w5.cell? ⟨B, 1, none⟩ = some (.int .u64 t.hi.toNat) := by rw [cell_at hb5]; rfl
        have qf : ∀ o, w5.frozen? ⟨B, o, none⟩ = false := free_at hb5
        have fin : ∀ W', W' = (w5.setCell ⟨B, 0, none⟩ (.int .u64 (t.withoutN k).lo.toNat)).setCell ⟨B, 1, none⟩ (.int .u64 (t.withoutN k).hi.toNat) →
            W'.heap[B]? = some (.cells (t.withoutN k).cells 57 (0, 0)) ∧ s.mem = (pre ++ [k]) ++ (t.withoutN k).mem ∧ TabOk W' ∧ J (pre ++ [k]) W' ∧ leftOf B W' < leftOf B wr := by
          rintro W' rfl
          have hbb := setCell_heap (setCell_heap hb5 0 (.int .u64 (t.withoutN k).lo.toNat)) 1 (.int .u64 (t.withoutN k).hi.toNat)
          have hkk : Keeps w4 ((w5.setCell ⟨B, 0, none⟩ (.int .u64 (t.withoutN k).lo.toNat)).setCell ⟨B, 1, none⟩ (.int .u64 (t.withoutN k).hi.toNat)) (fun j => j = B) :=
            Keeps.setCell (S := fun j => j = B) (p := ⟨B, 1, none⟩) (Keeps.setCell (S := fun j => j = B) (p := ⟨B, 0, none⟩) (k5.mono (fun _ _ h => h.elim)) (fun _ => rfl) _) (fun _ => rfl) _
          have hcc : ((w5.setCell ⟨B, 0, none⟩ (.int .u64 (t.withoutN k).lo.toNat)).setCell ⟨B, 1, none⟩ (.int .u64 (t.withoutN k).hi.toNat)).heap[B]? = some (.cells (t.withoutN k).cells 57 (0, 0)) := by rw [hbb]; rfl
          refine ⟨hcc, by rw [GM.out, HK.out, HR.out]; simp, GT4.out.same (hkk.block _ ?_ (fun e => hBg e.symm)), HJ.out _ _ _ GJ4.out hkk, ?_⟩
          · have := GT4.out 0 (by omega)
            exact World.block_lt_of_cell? w4 _ this
          · rw [leftOf_eq hcc, GL.out, HK.out, HR.out]; simp
        have Fin := Lib.hid fin
        clear fin hb5 k5 z0 z1 GJ4 GT4
        unfold BSet.val
        gi_wp2_with fail
        go_roundw
        case rel =>
          obtain ⟨f1, f2, f3, f4, _⟩ := Fin.out _ rfl
          exact ⟨pre ++ [k], _, f1, f2, f3, f4⟩
        case measure => exact (Fin.out _ rfl).2.2.2.2
      · have HX := Lib.hid hJx4
        clear hJx4
        gi_wp2_with fail
        refine bodyPost_ret (results_none rfl _ _ _) rfl ?_
        exact ⟨⟨_, rfl⟩, .inr ⟨pre ++ [k], ⟨HPre.out, by simp⟩, HX.out⟩⟩
    · have hnil := (mem_empty t).1 he
      have HN := Lib.hid hnil
      clear hnil he
      gi_wp2_with fail
      go_end0
      exact ⟨⟨_, rfl⟩, .inl ⟨pre, by rw [GM.out, HN.out, List.append_nil], GJ2.out⟩⟩
/-- The function value that All hands back. -/
theorem all_seq (n : Nat) (hn : 1 ≤ n) (B : Nat) (s : BSet) (w : World) (hB : w.heap[B]? = some (.cells s.cells 57 (0, 0))) (hT : TabOk w) (hBg : B ≠ 1) :
    SeqMut Fence.wide n Tryd.prog 65 #[.pointer (some ⟨B, 0, none⟩)] (fun x : Nat => #[.int .i64 (x : Int)]) (fun j => j = B) (fun j => j = B ∨ j = 1)
      (fun xs => xs = s.mem) (fun pre => pre <+: s.mem ∧ pre ≠ []) (fun pre x => pre ++ [x] <+: s.mem) w := fun l J Jx W hW hJ hJx hY h0 =>
  all1_in n hn l B s J Jx hJ hJx hY W ((hW.block _ (block_lt hB) id).trans hB) (hT.keeps hW) hBg h0
end Go.Proofs.YtdhcnmljkmodhaaDoor

/- known.popped, where it ranges over the kinds of the top. -/
namespace Go.Proofs.YtdhcnmljkmodhaaDoor
set_option linter.unusedSectionVars false
set_option linter.unusedVariables false
set_option linter.unusedSimpArgs false
set_option maxRecDepth 20000
open Go.RowKit
attribute [local go_sem] Oper.semAt_some

/-- Between two rounds: what lies below those gone through. -/
structure PInv (w : World) (N1 : Nat) (pre : List Nat) (W : World) : Prop where
  b : W.heap[N1]? = some (.cells (belowAll pre).cells 57 (0, 0))
  keep : Keeps w W (fun _ => False)
theorem PInv.keeps {w : World} {N1 : Nat} {pre : List Nat} {W W' : World} {T : Nat → Prop} (h : PInv w N1 pre W) (hk : Keeps W W' T) (hT : ∀ j, T j → N1 < j) (hw : w.heap.size ≤ N1) : PInv w N1 pre W' :=
  ⟨(hk.block _ (block_lt h.b) (fun e => by have := hT _ e; omega)).trans h.b, h.keep.trans' hk (fun j hj e => by have := hT _ e; omega)⟩

set_option maxRecDepth 100000 in
set_option maxHeartbeats 4000000 in
theorem popped_range (w : World) (v : Value) (s : BSet) (H : RdK w v [s]) (he : (s.withoutN 1).isEmpty = false) (hT : TabOk w) :
    Calls Tryd.prog 42 #[v] w (KnPost w (poppedL [s])) := by
  obtain ⟨a, cap, rfl, hcp, hcm⟩ := H.form
  obtain ⟨g, off, rfl, hg, c0, c1⟩ := H.cell
  have GT := Lib.hid hT
  have hpd : poppedL [s] = some [belowAll (s.withoutN 1).mem] := by
    have e : poppedL [s] = if (s.withoutN 1).isEmpty then none else some [belowAll (s.withoutN 1).mem] := rfl
    rw [e, he]; rfl
  have HPD := Lib.hid hpd
  clear H hcp hcm hT hpd
  refine (callsIn_wide (n := 5)).1 ?_
  refine callsIn_of_wp_marks Tryd.func42 rfl trivial ?_ rfl
  simp only [Tryd.ntmps42, List.size_toArray, List.length_cons, List.length_nil, Nat.reduceAdd, Nat.reduceSub, Array.replicate_succ, Array.replicate_zero, List.push_toArray, List.append_toArray, List.nil_append, List.cons_append]
  gi_wp2_with fail
  refine ⟨trivial, (callsIn_wide.2 (without_any s 1 _)).mono ?_⟩
  rintro e w1 ⟨rfl, hk1⟩
  generalize s.withoutN 1 = t at *
  clear c0 c1
  unfold BSet.val
  have K2 := Lib.hid (hk1.alloc (.cells #[.int .u64 t.lo.toNat, .int .u64 t.hi.toNat] 57))
  have B2 := heap_alloc_new w1 (.cells #[.int .u64 t.lo.toNat, .int .u64 t.hi.toNat] 57)
  clear hk1
  gi_wp2_with fail
  generalize w1.alloc (.cells #[.int .u64 t.lo.toNat, .int .u64 t.hi.toNat] 57) = W at *
  generalize w1.heap.size = N at *
  refine ⟨trivial, (callsIn_wide.2 (empty_any t _)).mono ?_⟩
  rintro e w3 ⟨rfl, hk3⟩
  rw [he]
  have K3 := Lib.hid (K2.out.trans hk3)
  have b3 : w3.heap[N]? = some (.cells #[.int .u64 t.lo.toNat, .int .u64 t.hi.toNat] 57 (0, 0)) := (hk3.block _ (block_lt B2) id).trans B2
  have p0 : (w3.alloc (.cells #[.int .u64 0, .int .u64 0] 57)).heap[N]? = some (.cells t.cells 57 (0, 0)) := (Below.heap_alloc _ _ _ (block_lt b3)).trans b3
  have y0 : (w3.alloc (.cells #[.int .u64 0, .int .u64 0] 57)).cell? ⟨N, 0, none⟩ = some (.int .u64 t.lo.toNat) := by rw [cell_at p0]; rfl
  have y1 : (w3.alloc (.cells #[.int .u64 0, .int .u64 0] 57)).cell? ⟨N, 1, none⟩ = some (.int .u64 t.hi.toNat) := by rw [cell_at p0]; rfl
  clear hk3 K2 B2 b3 p0
  gi_wp2_with fail
  refine ⟨trivial, (callsIn_wide.2 (all_any t _)).mono ?_⟩
  rintro e w4 ⟨rfl, rfl⟩
  rw [hs_alloc]
  clear y0 y1
  have B1 : Hid (((w3.alloc (.cells #[.int .u64 0, .int .u64 0] 57)).alloc (.cells t.cells 57)).heap[w3.heap.size]? = some (.cells (belowAll []).cells 57 (0, 0))) := Lib.hid ((Below.heap_alloc _ _ _ (by simp)).trans (heap_alloc_new w3 _))
  have B5 : Hid (((w3.alloc (.cells #[.int .u64 0, .int .u64 0] 57)).alloc (.cells t.cells 57)).heap[w3.heap.size + 1]? = some (.cells t.cells 57 (0, 0))) := Lib.hid (by
    have := heap_alloc_new (w3.alloc (.cells #[.int .u64 0, .int .u64 0] 57)) (.cells t.cells 57)
    rw [hs_alloc] at this; exact this)
  have HS : Hid (((w3.alloc (.cells #[.int .u64 0, .int .u64 0] 57)).alloc (.cells t.cells 57)).heap.size = w3.heap.size + 1 + 1) := Lib.hid (by rw [hs_alloc, hs_alloc])
  have K4 : Hid (Keeps w ((w3.alloc (.cells #[.int .u64 0, .int .u64 0] 57)).alloc (.cells t.cells 57)) (fun _ => False)) := Lib.hid ((K3.out.alloc _).alloc _)
  have hw3 : w.heap.size ≤ w3.heap.size := K3.out.size
  have T4 := Lib.hid (GT.out.keeps K4.out)
  have hgt : w3.heap.size + 1 ≠ 1 := by
    have h := World.block_lt_of_cell? w _ (GT.out 0 (by omega))
    have h : 1 < w.heap.size := h
    omega
  have hgw : 1 < w.heap.size := World.block_lt_of_cell? w _ (GT.out 0 (by omega))
  clear GT K3
  generalize ((w3.alloc (.cells #[.int .u64 0, .int .u64 0] 57)).alloc (.cells t.cells 57)) = L at *
  generalize w3.heap.size = N1 at *
  have I0 : Hid (PInv w N1 [] L) := Lib.hid ⟨B1.out, K4.out⟩
  gi_wp2_with fail
  refine wpIn_rangeFunc_mut rfl (by omega) (gf := 65) (lb := #[.pointer (some ⟨N1 + 1, 0, none⟩)]) rfl trivial (enters_of Tryd.func65 (by kernel_rfl) rfl)
    (all_seq 4 (by omega) (N1 + 1) t L B5.out T4.out hgt)
    (fun j e => by have e : j = N1 + 1 := e; rw [HS.out]; omega)
    (fun j e => by
      rcases e with e | e
      · rw [HS.out]; omega
      · have h := World.block_lt_of_cell? L _ (T4.out 0 (by omega)); have h : 1 < L.heap.size := h; omega)
    (fun _ => rfl)
    (fun pre W => PInv w N1 pre W)
    (fun _ _ _ => False)
    (fun pre W W' h hk => h.keeps hk (fun j e => by
      have hs := HS.out
      rcases e with e | e | e
      · have e : j = N1 + 1 := e; omega
      · omega
      · omega) hw3)
    (fun c pre W W' h hk => h)
    I0.out
    (fun x => { tmps := #[.slice (some ⟨g, off, none⟩) 1 cap, undef, .slice none 0 0, .bool false, .pointer (some ⟨N, 0, none⟩), .pointer (some ⟨N1, 0, none⟩), .int .i64 (x : Int), .slice (some ⟨g, off, none⟩) 1 cap, .pointer (some ⟨g, off, none⟩), .agg #[.int .u64 s.lo.toNat, .int .u64 s.hi.toNat], .agg #[.int .u64 t.lo.toNat, .int .u64 t.hi.toNat], .agg #[.int .u64 t.lo.toNat, .int .u64 t.hi.toNat], .bool false, .slice (some ⟨g, off, none⟩) 1 cap, .int .i64 1, .bool false, undef, undef, .agg #[.int .u64 t.lo.toNat, .int .u64 t.hi.toNat], .func (.func 65) #[] #[.pointer (some ⟨N1 + 1, 0, none⟩)], .int .i64 (x : Int), undef, undef, undef, undef, undef, undef], defers := [] }) ?assign ?body ?done ?stop
  case assign =>
    intro l x W K hK
    gi_wp2
    exact hK
  case body =>
    rintro l pre x W hI hnx hsz
    have HI := Lib.hid hI
    have c0 : W.cell? ⟨N1, 0, none⟩ = some (.int .u64 (belowAll pre).lo.toNat) := by rw [cell_at hI.b]; rfl
    have c1 : W.cell? ⟨N1, 1, none⟩ = some (.int .u64 (belowAll pre).hi.toNat) := by rw [cell_at hI.b]; rfl
    clear hI hnx
    have hlt := block_lt HI.out.b
    have hN1 : N1 < L.heap.size := by rw [HS.out]; omega
    have fin : ∀ w5, Keeps W w5 (fun _ => False) → ∀ W', W' = (w5.setCell ⟨N1, 0, none⟩ (.int .u64 ((belowAll pre).or (belowS (x : Int))).lo.toNat)).setCell ⟨N1, 0 + 1, none⟩ (.int .u64 ((belowAll pre).or (belowS (x : Int))).hi.toNat) →
        (∀ j, Mine (fun j => j = N1 + 1 ∨ j = 1) L.heap.size j → W'.heap[j]? = W.heap[j]?) ∧ W.heap.size ≤ W'.heap.size ∧ PInv w N1 (pre ++ [x]) W' := by
      rintro w5 k5 W' rfl
      have h5 := (k5.block _ hlt id).trans HI.out.b
      have kk : Keeps W ((w5.setCell ⟨N1, 0, none⟩ (.int .u64 ((belowAll pre).or (belowS (x : Int))).lo.toNat)).setCell ⟨N1, 0 + 1, none⟩ (.int .u64 ((belowAll pre).or (belowS (x : Int))).hi.toNat)) (fun j => j = N1) :=
        Keeps.setCell (S := fun j => j = N1) (p := ⟨N1, 0 + 1, none⟩) (Keeps.setCell (S := fun j => j = N1) (p := ⟨N1, 0, none⟩) (k5.mono (fun _ _ h => h.elim)) (fun _ => rfl) _) (fun _ => rfl) _
      have hs := HS.out
      refine ⟨fun j hj => kk.block j ?_ ?_, kk.size, ?_, ?_⟩
      · rcases hj with (hj | hj) | hj | hj <;> omega
      · rcases hj with (hj | hj) | hj | hj <;> omega
      · rw [belowAll_snoc, setCell_heap (setCell_heap h5 0 _) (0 + 1) _]
        rfl
      · exact HI.out.keep.trans' kk (fun j hj e => by omega)
    have Fin := Lib.hid fin
    clear fin
    gi_wp2_with fail
    have HB : Hid (∀ w5, Keeps W w5 (fun _ => False) → w5.cell? ⟨N1, 0, none⟩ = some (.int .u64 (belowAll pre).lo.toNat) ∧ w5.cell? ⟨N1, 1, none⟩ = some (.int .u64 (belowAll pre).hi.toNat) ∧ w5.frozen? ⟨N1, 0, none⟩ = false ∧ w5.frozen? ⟨N1, 1, none⟩ = false) := Lib.hid (fun w5 k5 => by
      have h := (k5.block _ (block_lt HI.out.b) id).trans HI.out.b
      exact ⟨by rw [cell_at h]; rfl, by rw [cell_at h]; rfl, free_at h 0, free_at h 1⟩)
    gi_region_with (first
      | (refine ⟨trivial, ?_⟩; gi_at_call 35; refine CallsIn.inRound l ((callsIn_wide.2 (below_any _ _)).mono ?_); rintro e w5 ⟨rfl, k5⟩; have kW : Keeps W w5 (fun _ => False) := (((Keeps.refl W (fun _ => False)).drew).trans k5); have KW := Lib.hid kW; have d0 := (HB.out w5 kW).1; have d1 := (HB.out w5 kW).2.1; clear kW k5)
      | (refine ⟨trivial, ?_⟩; gi_at_call 58; refine CallsIn.inRound l ((callsIn_wide.2 (or_any (belowAll pre) (belowS x) _)).mono ?_); rintro e w6 ⟨rfl, k6⟩; unfold BSet.val; have K6 := Lib.hid (KW.out.trans k6); have f0 := (HB.out w6 K6.out).2.2.1; have f1 := (HB.out w6 K6.out).2.2.2; have g0 := (HB.out w6 K6.out).1; have g1 := (HB.out w6 K6.out).2.1; clear k6))
    all_goals gi_wp2
    all_goals
      obtain ⟨r1, r2, r3⟩ := Fin.out _ K6.out _ rfl
      exact ⟨r1, r2, r3⟩
  case done =>
    rintro xs W rfl hI hD
    have c0 : W.cell? ⟨N1, 0, none⟩ = some (.int .u64 (belowAll t.mem).lo.toNat) := by rw [cell_at hI.b]; rfl
    have c1 : W.cell? ⟨N1, 1, none⟩ = some (.int .u64 (belowAll t.mem).hi.toNat) := by rw [cell_at hI.b]; rfl
    have HI := Lib.hid hI
    have HD := Lib.hid hD
    clear hI hD
    gi_wp2_with fail
    have hd : (W.alloc (.cells #[.int .u64 (belowAll t.mem).lo.toNat, .int .u64 (belowAll t.mem).hi.toNat] 57)).heap[L.heap.size]? = some (.deferred (some [])) := (Below.heap_alloc _ _ _ (Array.getElem?_eq_some_iff.1 HD.out).1).trans HD.out
    have hb := heap_alloc_new W (.cells #[.int .u64 (belowAll t.mem).lo.toNat, .int .u64 (belowAll t.mem).hi.toNat] 57)
    have hne : L.heap.size ≠ W.heap.size := by have := (Array.getElem?_eq_some_iff.1 HD.out).1; omega
    refine ⟨by simp, .inl ⟨_, _, rfl, run_takeDeferred hd, ?_⟩⟩
    refine ⟨.tuple #[.slice (some ⟨W.heap.size, 0, none⟩) 1 1, .bool true], by simp [results, Tryd.results42, go_sem], _, by rw [HPD.out]; rfl, ?_, fun l hl => ?_⟩
    · exact Keeps.grown (HI.out.keep.alloc _) (grownBy_putObj' _ L.heap.size _) (fun k e hk => by
        cases e
        have := K4.out.size
        omega)
    · rw [HPD.out] at hl
      obtain rfl := Option.some.inj hl
      have hb2 := (World.putObj_heap_other (o := .deferred none) (fun e => hne e.symm)).trans hb
      refine ⟨rfl, _, _, rfl, Nat.le_refl _, by unfold maxLen; decide, (fun h => by cases h), fun _ => ⟨_, _, rfl, (Array.getElem?_eq_some_iff.1 hb2).1, fun j u hj => ?_⟩⟩
      rw [Nat.zero_add, cell_at hb2, ← Array.getElem?_toList]
      exact hj
  case stop =>
    rintro c pre W _ h _
    exact h.elim
end Go.Proofs.YtdhcnmljkmodhaaDoor

/- known.popped by its contract; known.done. -/
namespace Go.Proofs.YtdhcnmljkmodhaaDoor
set_option linter.unusedSectionVars false
set_option linter.unusedVariables false
set_option linter.unusedSimpArgs false
set_option maxRecDepth 20000
open Go.RowKit

theorem popped_any (w : World) (v : Value) (s : BSet) (r : List BSet) (H : RdK w v (s :: r)) (hT : TabOk w) :
    Calls Tryd.prog 42 #[v] w (KnPost w (poppedL (s :: r))) := by
  by_cases hp : (s.withoutN 1).isEmpty = true ∨ r ≠ []
  · exact popped_plain w v s r H hp
  · have hr : r = [] := Classical.byContradiction fun h => hp (.inr h)
    have he : (s.withoutN 1).isEmpty = false := by
      cases h : (s.withoutN 1).isEmpty
      · rfl
      · exact absurd (.inl h) hp
    subst hr
    exact popped_range w v s H he hT
/-- What is known behind an op; its error. -/
def doneL : List BSet → Int → Int → Int × List BSet
  | [], _, _ => (0, [])
  | s :: r, own, kind => if kind = 1 then (match poppedL (s :: r) with | none => (9, []) | some l => (0, l))
    else if kind = 2 then (if own = 0 then (2, []) else if (s.and (ofL [own])).isEmpty then (9, []) else (0, s.and (ofL [own]) :: r))
    else if kind = 3 then (if own = 0 then (2, []) else if (s.and (belowS own)).isEmpty then (9, []) else (0, ofL [own] :: s.and (belowS own) :: r))
    else (2, [])
def DonePost (w : World) (r : Int × List BSet) (e : Ending) (w' : World) : Prop :=
  ∃ v, e = .returned (.tuple #[v, .int .i64 r.1]) ∧ Keeps w w' (fun _ => False) ∧ (r.1 = 0 → RdK w' v r.2)
theorem done_pop (w : World) (v : Value) (s : BSet) (r : List BSet) (own : Int) (H : RdK w v (s :: r)) (hT : TabOk w) :
    Calls Tryd.prog 32 #[v, .int .i64 own, .int .i64 1] w (DonePost w (doneL (s :: r) own 1)) := by
  have HH := Lib.hid H
  have GT := Lib.hid hT
  clear H hT
  go_enter Tryd.func32, Tryd.ntmps32
  go_wp2_with fail
  refine (popped_any w v s r HH.out GT.out).mono ?_
  rintro e w1 ⟨u, rfl, hk, hr⟩
  have K1 := Lib.hid hk
  have R1 := Lib.hid hr
  clear hk hr
  cases hp : poppedL (s :: r) with
  | none =>
    go_wp2_with fail
    go_ret2
    exact ⟨.slice none 0 0, by simp [doneL, hp], K1.out, fun h => by simp [doneL, hp] at h⟩
  | some l =>
    have R2 := Lib.hid (R1.out l hp)
    go_wp2_with fail
    go_ret2
    exact ⟨u, by simp [doneL, hp], K1.out, fun h => by simp [doneL, hp]; exact R2.out⟩
theorem done_none (w : World) (v : Value) (k : List BSet) (s : BSet) (r : List BSet) (hk : k = s :: r) (own kind : Int) (h : (kind ≠ 1 ∧ kind ≠ 2 ∧ kind ≠ 3) ∨ (own = 0 ∧ (kind = 2 ∨ kind = 3))) :
    Calls Tryd.prog 32 #[v, .int .i64 own, .int .i64 kind] w (DonePost w (doneL k own kind)) := by
  subst hk
  rcases h with ⟨h1, h2, h3⟩ | ⟨rfl, rfl | rfl⟩
  · have q1 : (kind == 1) = false := beq_eq_false_iff_ne.2 h1
    have q2 : (kind == 2) = false := beq_eq_false_iff_ne.2 h2
    have q3 : (kind == 3) = false := beq_eq_false_iff_ne.2 h3
    go_enter Tryd.func32, Tryd.ntmps32
    go_wp2_with fail
    go_ret2
    exact ⟨.slice none 0 0, by simp [doneL, h1, h2, h3], Keeps.refl _ _, fun h => by simp [doneL, h1, h2, h3] at h⟩
  · go_enter Tryd.func32, Tryd.ntmps32
    go_wp2_with fail
    go_ret2
    exact ⟨.slice none 0 0, by simp [doneL], Keeps.refl _ _, fun h => by simp [doneL] at h⟩
  · go_enter Tryd.func32, Tryd.ntmps32
    go_wp2_with fail
    go_ret2
    exact ⟨.slice none 0 0, by simp [doneL], Keeps.refl _ _, fun h => by simp [doneL] at h⟩
end Go.Proofs.YtdhcnmljkmodhaaDoor

/- A region that draws its order, whose operations leave what was there as it was ('Ev'), but may make memory, and whose results may hang on the world (a new slice): one walk of the lexical order serves every order. 'S': the slots of those results; 'F d v w': what is said of the result v in slot d, in the world w. -/
namespace Go.Proofs.YtdhcnmljkmodhaaDoor
set_option linter.unusedSectionVars false
set_option linter.unusedVariables false
set_option linter.unusedSimpArgs false
open Go

section
variable {P : Program} {ops : Array Oper} {Ev : World → World → Prop} {C : World → Prop} {F : Tmp → Value → World → Prop} {S : List Tmp}

@[go_sem] def opGives (P : Program) (R : Value → World → Prop) : Result Next → Prop
  | .ok (.value v) w' => R v w'
  | .ok (.enter f args) w' => Calls P f args w' (fun e w'' => ∃ v, e = .returned v ∧ R v w'')
  | _ => False
def plainUpon (w : World) (v : Value) : Result Next → Prop
  | .ok (.value u) w' => w' = w ∧ u = v
  | .ok .skip w' => w' = w ∧ v = undef
  | _ => False
def FactsFor (F : Tmp → Value → World → Prop) (ops : Array Oper) (o : Oper) (D : List (Tmp × Value)) (w : World) : Prop := ∀ p ∈ D, p.1 ∈ o.looksAt ops → F p.1 p.2 w
def Facts (F : Tmp → Value → World → Prop) (D : List (Tmp × Value)) (w : World) : Prop := ∀ p ∈ D, F p.1 p.2 w

/-- Is the result one of S? -/
def inS (S : List Tmp) (o : Oper) : Option Tmp := o.dst.filter S.contains

/-- One operation, and what is asked behind it. -/
def opF (P : Program) (ops : Array Oper) (Ev : World → World → Prop) (C : World → Prop) (F : Tmp → Value → World → Prop) (S : List Tmp) (o : Oper) (D : List (Tmp × Value)) (a : Act) (K : List (Tmp × Value) → Act → Prop) : Prop :=
  if Region.wanted o (yielded ops a.tmps) then
    match inS S o with
    | none => (∃ w, C w ∧ FactsFor F ops o D w) → ∃ v, (∀ w, C w → FactsFor F ops o D w → plainUpon w v ((execOp a.eval o).run P w)) ∧ K D (a.put o.dst v)
    | some d => (∀ w, C w → FactsFor F ops o D w → opGives P (fun v w' => Ev w w' ∧ F d v w') ((execOp a.eval o).run P w)) ∧ ∀ v, (∃ w, C w ∧ Facts F ((d, v) :: D) w) → K ((d, v) :: D) (a.put o.dst v)
  else K D (a.put o.dst undef)
/-- The lexical walk. -/
def wpF (P : Program) (ops : Array Oper) (Ev : World → World → Prop) (C : World → Prop) (F : Tmp → Value → World → Prop) (S : List Tmp) (Q : Act → World → Prop) : List Oper → List (Tmp × Value) → Act → Prop
  | [], D, a => ∀ w, C w → Facts F D w → Q a w
  | o :: l, D, a => opF P ops Ev C F S o D a (wpF P ops Ev C F S Q l)
/-- One operation in one world. -/
def front (P : Program) (ops : Array Oper) (Ev : World → World → Prop) (C : World → Prop) (F : Tmp → Value → World → Prop) (S : List Tmp) (o : Oper) (D : List (Tmp × Value)) (a : Act) (w : World) (K : List (Tmp × Value) → Act → Prop) : Prop :=
  if Region.wanted o (yielded ops a.tmps) then
    match inS S o with
    | none => ∃ v, plainUpon w v ((execOp a.eval o).run P w) ∧ K D (a.put o.dst v)
    | some d => opGives P (fun v w' => Ev w w' ∧ F d v w') ((execOp a.eval o).run P w) ∧ ∀ v, (∃ w, C w ∧ Facts F ((d, v) :: D) w) → K ((d, v) :: D) (a.put o.dst v)
  else K D (a.put o.dst undef)

theorem plainUpon_unique {w : World} {u v : Value} {r : Result Next} (h : plainUpon w u r) (k : plainUpon w v r) : u = v := by
  cases r with
  | ok n w' => cases n <;> simp only [plainUpon] at h k <;> first | (exact h.elim) | (obtain ⟨_, rfl⟩ := h; obtain ⟨_, rfl⟩ := k; rfl)
  | halt x w' => simp only [plainUpon] at h
theorem opGives_exists {R : Value → World → Prop} {r : Result Next} (h : opGives P R r) : ∃ v w, R v w := by
  cases r with
  | ok n w' =>
    cases n <;> simp only [opGives] at h <;> first | (exact h.elim) | (exact ⟨_, _, h⟩) | skip
    obtain ⟨e, w2, fr, ⟨v, _, hR⟩, _⟩ := h []
    exact ⟨v, w2, hR⟩
  | halt x w' => simp only [opGives] at h
theorem Facts.for {D : List (Tmp × Value)} {w : World} {o : Oper} (h : Facts F D w) : FactsFor F ops o D w := fun p hp _ => h p hp
theorem Facts.sub {D D' : List (Tmp × Value)} {w : World} (hD : ∀ p ∈ D, p ∈ D') (h : Facts F D' w) : Facts F D w := fun p hp => h p (hD p hp)
theorem FactsFor.sub {D D' : List (Tmp × Value)} {w : World} {o : Oper} (hD : ∀ p ∈ D, p ∈ D') (h : FactsFor F ops o D' w) : FactsFor F ops o D w := fun p hp => h p (hD p hp)
theorem cons_sub {D D' : List (Tmp × Value)} (hD : ∀ p ∈ D, p ∈ D') (x : Tmp × Value) : ∀ p ∈ x :: D, p ∈ x :: D' := fun p hp => by
  rcases List.mem_cons.1 hp with rfl | hp
  · exact List.mem_cons_self
  · exact List.mem_cons_of_mem _ (hD p hp)

theorem wpF_mono {Q : Act → World → Prop} : ∀ (l : List Oper) (D D' : List (Tmp × Value)) (a : Act), (∀ p ∈ D, p ∈ D') → wpF P ops Ev C F S Q l D a → wpF P ops Ev C F S Q l D' a
  | [], D, D', a, hD, h => fun w hw hf => h w hw (hf.sub hD)
  | o :: l, D, D', a, hD, h => by
    unfold wpF opF at *
    split
    · rename_i hw
      rw [if_pos hw] at h
      split
      · rename_i hS
        rw [hS] at h
        rintro ⟨w0, c0, f0⟩
        obtain ⟨v, h1, h2⟩ := h ⟨w0, c0, f0.sub hD⟩
        exact ⟨v, fun w hc hf => h1 w hc (hf.sub hD), wpF_mono l D D' _ hD h2⟩
      · rename_i d hS
        rw [hS] at h
        exact ⟨fun w hc hf => h.1 w hc (hf.sub hD), fun v ⟨w, hc, hf⟩ => wpF_mono l _ _ _ (cons_sub hD _) (h.2 v ⟨w, hc, hf.sub (cons_sub hD _)⟩)⟩
    · rename_i hw
      rw [if_neg hw] at h
      exact wpF_mono l D D' _ hD h

theorem put_comm' {o p : Oper} (h : ∀ d, o.dst = some d → p.dst ≠ some d) (a : Act) (u v : Value) : (a.put p.dst v).put o.dst u = (a.put o.dst u).put p.dst v :=
  (Act.put_comm a u v h).symm

/-- An operation that waits for none of those ahead of it may be taken first. -/
theorem front_of (hEv : ∀ w w', C w → Ev w w' → C w') (hF : ∀ d v w w', F d v w → Ev w w' → F d v w') {Q : Act → World → Prop} (oi : Oper) (hsi : ∀ cs b, oi.op ≠ .select cs b) (l2 : List Oper) : ∀ (l1 : List Oper) (D : List (Tmp × Value)) (a : Act) (w wv : World),
    (∀ o ∈ l1, o.apart ops oi = true ∧ ∀ cs b, o.op ≠ .select cs b) → C w → FactsFor F ops oi D w → C wv → Facts F D wv → wpF P ops Ev C F S Q (l1 ++ oi :: l2) D a →
    front P ops Ev C F S oi D a w (wpF P ops Ev C F S Q (l1 ++ l2))
  | [], D, a, w, wv, _, hC, hD, _, _, h => by
    unfold front
    rw [List.nil_append] at h
    unfold wpF opF at h
    split
    · rename_i hw
      rw [if_pos hw] at h
      split
      · rename_i hS
        rw [hS] at h
        obtain ⟨v, h1, h2⟩ := h ⟨w, hC, hD⟩
        exact ⟨v, h1 w hC hD, h2⟩
      · rename_i d hS
        rw [hS] at h
        exact ⟨h.1 w hC hD, h.2⟩
    · rename_i hw
      rw [if_neg hw] at h
      exact h
  | o :: l1, D, a, w, wv, hap, hC, hD, hCv, hDv, h => by
    obtain ⟨hapo, hso⟩ := hap o List.mem_cons_self
    have hap' : ∀ o ∈ l1, o.apart ops oi = true ∧ ∀ cs b, o.op ≠ .select cs b := fun p hp => hap p (List.mem_cons_of_mem _ hp)
    obtain ⟨p1, p2, p3⟩ := Oper.apart_spec hapo
    have wi : ∀ (a : Act) v, Region.wanted oi (yielded ops (a.put o.dst v).tmps) = Region.wanted oi (yielded ops a.tmps) := fun a v => wanted_put oi a o.dst v p1
    have ei : ∀ (a : Act) v, execOp (a.put o.dst v).eval oi = execOp a.eval oi := fun a v => execOp_put oi hsi a o.dst v p1
    have wo : ∀ (a : Act) v, Region.wanted o (yielded ops (a.put oi.dst v).tmps) = Region.wanted o (yielded ops a.tmps) := fun a v => wanted_put o a oi.dst v p3
    have eo : ∀ (a : Act) v, execOp (a.put oi.dst v).eval o = execOp a.eval o := fun a v => execOp_put o hso a oi.dst v p3
    have pc : ∀ (a : Act) (u v : Value), (a.put oi.dst v).put o.dst u = (a.put o.dst u).put oi.dst v := fun a u v => (Act.put_comm a u v p2).symm
    rw [List.cons_append] at h
    unfold wpF opF at h
    by_cases hw : Region.wanted o (yielded ops a.tmps) = true
    · rw [if_pos hw] at h
      cases hS : inS S o with
      | none =>
        rw [hS] at h
        obtain ⟨v, h1, h2⟩ := h ⟨wv, hCv, hDv.for⟩
        have ih := front_of hEv hF oi hsi l2 l1 D (a.put o.dst v) w wv hap' hC hD hCv hDv h2
        have back : ∀ D' u, (∀ p ∈ D, p ∈ D') → wpF P ops Ev C F S Q (l1 ++ l2) D' ((a.put o.dst v).put oi.dst u) → wpF P ops Ev C F S Q (o :: l1 ++ l2) D' (a.put oi.dst u) := fun D' u hD' hk => by
          rw [List.cons_append]
          unfold wpF opF
          rw [wo, if_pos hw, hS, eo]
          exact fun _ => ⟨v, fun w' hc hf => h1 w' hc (hf.sub hD'), by rw [pc]; exact hk⟩
        unfold front at ih ⊢
        rw [wi, ei] at ih
        split
        · rename_i hwi
          rw [if_pos hwi] at ih
          cases hSi : inS S oi with
          | none =>
            rw [hSi] at ih
            obtain ⟨u, i1, i2⟩ := ih
            exact ⟨u, i1, back D u (fun _ h => h) i2⟩
          | some d =>
            rw [hSi] at ih
            exact ⟨ih.1, fun u hu => back _ u (fun p hp => List.mem_cons_of_mem _ hp) (ih.2 u hu)⟩
        · rename_i hwi
          rw [if_neg hwi] at ih
          exact back D undef (fun _ h => h) ih
      | some d =>
        rw [hS] at h
        obtain ⟨h1, h2⟩ := h
        have hdo : o.dst = some d := by
          unfold inS at hS
          exact (Option.filter_eq_some_iff.1 hS).1
        have hdi : d ∉ oi.looksAt ops := p1 d hdo
        have fi : ∀ v, FactsFor F ops oi ((d, v) :: D) w := fun v p hp hl => by
          rcases List.mem_cons.1 hp with rfl | hp
          · exact absurd hl hdi
          · exact hD p hp hl
        have ih : ∀ v, (∃ w1, C w1 ∧ Facts F ((d, v) :: D) w1) → front P ops Ev C F S oi ((d, v) :: D) (a.put o.dst v) w (wpF P ops Ev C F S Q (l1 ++ l2)) := fun v ⟨w1, c1, f1⟩ =>
          front_of hEv hF oi hsi l2 l1 ((d, v) :: D) (a.put o.dst v) w w1 hap' hC (fi v) c1 f1 (h2 v ⟨w1, c1, f1⟩)
        obtain ⟨v0, w0, e0, g0⟩ := opGives_exists (h1 wv hCv hDv.for)
        have x0 : ∃ w1, C w1 ∧ Facts F ((d, v0) :: D) w1 := ⟨w0, hEv _ _ hCv e0, fun p hp => by
          rcases List.mem_cons.1 hp with rfl | hp
          · exact g0
          · exact hF _ _ _ _ (hDv p hp) e0⟩
        have ih0 := ih v0 x0
        have back : ∀ D' u, (∀ p ∈ D, p ∈ D') → (∀ v, (∃ w1, C w1 ∧ Facts F ((d, v) :: D') w1) → wpF P ops Ev C F S Q (l1 ++ l2) ((d, v) :: D') ((a.put o.dst v).put oi.dst u)) → wpF P ops Ev C F S Q (o :: l1 ++ l2) D' (a.put oi.dst u) := fun D' u hD' hk => by
          rw [List.cons_append]
          unfold wpF opF
          rw [wo, if_pos hw, hS, eo]
          exact ⟨fun w' hc hf => h1 w' hc (hf.sub hD'), fun v hv => by rw [pc]; exact hk v hv⟩
        unfold front at ih ih0 ⊢
        rw [wi, ei] at ih0
        split
        · rename_i hwi
          rw [if_pos hwi] at ih0
          cases hSi : inS S oi with
          | none =>
            rw [hSi] at ih0
            obtain ⟨u, i1, i2⟩ := ih0
            refine ⟨u, i1, back D u (fun _ h => h) (fun v hv => ?_)⟩
            have ihv := ih v hv
            rw [wi, ei, if_pos hwi, hSi] at ihv
            obtain ⟨u', j1, j2⟩ := ihv
            obtain rfl := plainUpon_unique i1 j1
            exact j2
          | some e =>
            rw [hSi] at ih0
            refine ⟨ih0.1, fun u hu => back _ u (fun p hp => List.mem_cons_of_mem _ hp) (fun v hv => ?_)⟩
            have sw : ∀ p ∈ (e, u) :: (d, v) :: D, p ∈ (d, v) :: (e, u) :: D := fun p hp => by
              simp only [List.mem_cons] at hp ⊢
              rcases hp with h | h | h
              · exact .inr (.inl h)
              · exact .inl h
              · exact .inr (.inr h)
            obtain ⟨w1, c1, f1⟩ := hv
            have ihv := ih v ⟨w1, c1, f1.sub (cons_sub (fun p hp => List.mem_cons_of_mem _ hp) _)⟩
            rw [wi, ei, if_pos hwi, hSi] at ihv
            exact wpF_mono _ _ _ _ sw (ihv.2 u ⟨w1, c1, f1.sub sw⟩)
        · rename_i hwi
          rw [if_neg hwi] at ih0
          refine back D undef (fun _ h => h) (fun v hv => ?_)
          have ihv := ih v hv
          rw [wi, if_neg hwi] at ihv
          exact ihv
    · rw [if_neg hw] at h
      have ih := front_of hEv hF oi hsi l2 l1 D (a.put o.dst undef) w wv hap' hC hD hCv hDv h
      have back : ∀ D' u, wpF P ops Ev C F S Q (l1 ++ l2) D' ((a.put o.dst undef).put oi.dst u) → wpF P ops Ev C F S Q (o :: l1 ++ l2) D' (a.put oi.dst u) := fun D' u hk => by
        rw [List.cons_append]
        unfold wpF opF
        rw [wo, if_neg hw, pc]
        exact hk
      unfold front at ih ⊢
      rw [wi, ei] at ih
      split
      · rename_i hwi
        rw [if_pos hwi] at ih
        cases hSi : inS S oi with
        | none =>
          rw [hSi] at ih
          obtain ⟨u, i1, i2⟩ := ih
          exact ⟨u, i1, back D u i2⟩
        | some d =>
          rw [hSi] at ih
          exact ⟨ih.1, fun u hu => back _ u (ih.2 u hu)⟩
      · rename_i hwi
        rw [if_neg hwi] at ih
        exact back D undef ih

/-- What is asked of a region, by looking: every operation waits for earlier ones alone, and is apart from the earlier ones for which it doesn't wait. -/
def okF (ops : Array Oper) : Bool := Region.noSelect ops && (List.range ops.size).all fun i => match ops[i]? with
  | none => true
  | some o => o.after.all (fun e => !Region.binds .any e || decide (e.on < i)) && (List.range i).all fun j => match ops[j]? with
    | none => true
    | some p => o.after.any (fun e => Region.binds .any e && e.on == j) || p.apart ops o
theorem okF_spec (h : okF ops = true) : (∀ i o, ops[i]? = some o → (∀ e ∈ o.after, Region.binds .any e = true → e.on < i) ∧ ∀ j p, j < i → ops[j]? = some p → (∀ e ∈ o.after, Region.binds .any e = true → e.on ≠ j) → p.apart ops o = true) := by
  unfold okF at h
  rw [Bool.and_eq_true] at h
  intro i o ho
  have hi : i < ops.size := (Array.getElem?_eq_some_iff.1 ho).1
  have h1 := List.all_eq_true.1 h.2 i (List.mem_range.2 hi)
  rw [ho] at h1
  simp only [Bool.and_eq_true] at h1
  refine ⟨fun e he hb => ?_, fun j p hj hp hno => ?_⟩
  · have := Array.all_eq_true_iff_forall_mem.1 h1.1 e he
    simpa [hb] using this
  · have := List.all_eq_true.1 h1.2 j (List.mem_range.2 hj)
    rw [hp] at this
    simp only [Bool.or_eq_true] at this
    rcases this with h | h
    · obtain ⟨e, he, hb⟩ := Array.any_eq_true'.1 h
      rw [Bool.and_eq_true, beq_iff_eq] at hb
      exact absurd hb.2 (hno e he hb.1)
    · exact h

/-- Those that have not come up yet. -/
def open_ (ops : Array Oper) (listed : Array Bool) : List Oper := ((List.range ops.size).filter fun k => !listed.getD k true).filterMap (ops[·]?)
theorem range_split (n i : Nat) (h : i < n) : List.range n = List.range i ++ i :: (List.range' (i + 1) (n - i - 1)) := by
  rw [List.range_eq_range', List.range_eq_range', show n = i + ((n - i - 1) + 1) by omega, ← List.range'_append_1, List.range'_succ]
  congr 2
  · omega
  · congr 1 <;> omega
theorem open_split {listed : Array Bool} {i : Nat} {oi : Oper} (hi : ops[i]? = some oi) (hl : listed.getD i true = false) :
    ∃ l1 l2, open_ ops listed = l1 ++ oi :: l2 ∧ open_ ops (listed.setIfInBounds i true) = l1 ++ l2 ∧ ∀ o ∈ l1, ∃ j, j < i ∧ ops[j]? = some o ∧ listed.getD j true = false := by
  have hlt : i < ops.size := (Array.getElem?_eq_some_iff.1 hi).1
  have hset : (listed.setIfInBounds i true).getD i true = true := by
    rcases Nat.lt_or_ge i listed.size with h | h
    · simp [h]
    · simp [Array.getElem?_eq_none (by simpa using h)]
  have hoth : ∀ k, k ≠ i → (listed.setIfInBounds i true).getD k true = listed.getD k true := fun k hk => getD_set_ne true (Ne.symm hk)
  refine ⟨((List.range i).filter fun k => !listed.getD k true).filterMap (ops[·]?), ((List.range' (i + 1) (ops.size - i - 1)).filter fun k => !listed.getD k true).filterMap (ops[·]?), ?_, ?_, ?_⟩
  · unfold open_
    rw [range_split _ _ hlt, List.filter_append, List.filter_cons_of_pos (by simp only [hl]; rfl), List.filterMap_append, List.filterMap_cons_some hi]
  · unfold open_
    rw [range_split _ _ hlt, List.filter_append, List.filter_cons_of_neg (by simp only [hset]; decide), List.filterMap_append]
    congr 2
    · exact List.filter_congr fun k hk => by rw [hoth k (by have := List.mem_range.1 hk; omega)]
    · exact List.filter_congr fun k hk => by rw [hoth k (by have := List.mem_range'_1.1 hk; omega)]
  · intro o ho
    obtain ⟨j, hj, hjo⟩ := List.mem_filterMap.1 ho
    rw [List.mem_filter, List.mem_range] at hj
    exact ⟨j, hj.1, hjo, by simpa using hj.2⟩
theorem open_head {listed : Array Bool} (h : open_ ops listed ≠ []) : ∃ k o, ops[k]? = some o ∧ listed.getD k true = false ∧ ∀ j, j < k → listed.getD j true = true := by
  have hex : ∃ k, k < ops.size ∧ listed.getD k true = false := by
    obtain ⟨o, ho⟩ := List.exists_mem_of_ne_nil _ h
    obtain ⟨k, hk, _⟩ := List.mem_filterMap.1 ho
    rw [List.mem_filter, List.mem_range] at hk
    exact ⟨k, hk.1, by simpa using hk.2⟩
  obtain ⟨k, hk⟩ : ∃ k, (k < ops.size ∧ listed.getD k true = false) ∧ ∀ j, j < k → ¬ (j < ops.size ∧ listed.getD j true = false) := by
    obtain ⟨k, hk⟩ := hex
    induction k using Nat.strongRecOn with
    | _ k ih =>
      by_cases hm : ∃ m, m < k ∧ m < ops.size ∧ listed.getD m true = false
      · obtain ⟨m, h1, h2⟩ := hm
        exact ih m h1 h2
      · exact ⟨k, hk, fun j hj hh => hm ⟨j, hj, hh⟩⟩
  refine ⟨k, ops[k]'hk.1.1, Array.getElem?_eq_getElem _, hk.1.2, fun j hj => ?_⟩
  have := hk.2 j hj
  cases hx : listed.getD j true with
  | true => rfl
  | false => exact absurd ⟨by omega, hx⟩ this

theorem wpAny_of_F (hEv : ∀ w w', C w → Ev w w' → C w') (hF : ∀ d v w w', F d v w → Ev w w' → F d v w') (hB : okF ops = true) {Q : Act → World → Prop} {Q' : Exit → Act → World → Prop} (hQ : ∀ a w, Q a w → Q' .normal a w) :
    ∀ (fuel : Nat) (listed : Array Bool) (a : Act) (w : World) (D : List (Tmp × Value)), listed.size = ops.size → (open_ ops listed).length ≤ fuel → C w → Facts F D w → wpF P ops Ev C F S Q (open_ ops listed) D a → wpAny P .any ops Q' fuel listed a w := by
  have hsel : ∀ (j : Nat) (o : Oper) cs b, ops[j]? = some o → o.op ≠ .select cs b := Region.noSelect_spec (by unfold okF at hB; exact ((Bool.and_eq_true _ _).mp hB).1)
  have hsp := okF_spec hB
  have last : ∀ (listed : Array Bool), listed.size = ops.size → Region.ready .any ops listed = [] → open_ ops listed = [] := fun listed hsz hr => by
    by_cases h : open_ ops listed = []
    · exact h
    · obtain ⟨k, o, ho, hk, hlow⟩ := open_head h
      have : k ∈ Region.ready .any ops listed := mem_ready.2 ⟨hk, o, ho, fun e he hb => by
        have hlt := (hsp k o ho).1 e he hb
        have := hlow e.on hlt
        have hks : k < ops.size := (Array.getElem?_eq_some_iff.1 ho).1
        have hes : e.on < listed.size := by omega
        simp only [Array.getD_eq_getD_getElem?, Array.getElem?_eq_getElem hes, Option.getD_some] at this ⊢
        exact this⟩
      rw [hr] at this
      cases this
  intro fuel
  induction fuel with
  | zero =>
    intro listed a w D hsz hl hC hD h
    have h0 : open_ ops listed = [] := List.eq_nil_of_length_eq_zero (by omega)
    rw [h0] at h
    refine ⟨?_, hQ _ _ (h w hC hD)⟩
    cases hr : Region.ready .any ops listed with
    | nil => rfl
    | cons i r =>
      obtain ⟨hi0, o, ho, _⟩ := mem_ready.1 (hr ▸ List.mem_cons_self : i ∈ Region.ready .any ops listed)
      obtain ⟨l1, l2, e, _⟩ := open_split ho hi0
      rw [h0] at e
      simp at e
  | succ fuel ih =>
    intro listed a w D hsz hl hC hD h
    refine ⟨fun hr => ?_, fun i hi => ?_⟩
    · have h0 := last listed hsz hr
      rw [h0] at h
      exact hQ _ _ (h w hC hD)
    · obtain ⟨hi0, oi, hoi, hall⟩ := mem_ready.1 hi
      obtain ⟨l1, l2, e1, e2, hl1⟩ := open_split hoi hi0
      rw [e1] at h hl
      have hf := front_of hEv hF oi (fun cs b => hsel i oi cs b hoi) l2 l1 D a w w (fun o ho => by
        obtain ⟨j, hj, hjo, hju⟩ := hl1 o ho
        refine ⟨(hsp i oi hoi).2 j o hj hjo (fun e he hb heq => ?_), fun cs b => hsel j o cs b hjo⟩
        have := hall e he hb
        rw [heq] at this
        rcases Nat.lt_or_ge j listed.size with h' | h'
        · simp [h'] at hju this; rw [hju] at this; cases this
        · simp [Array.getElem?_eq_none h'] at this) hC hD.for hC hD h
      have hlen : (open_ ops (listed.setIfInBounds i true)).length ≤ fuel := by rw [e2]; simp at hl ⊢; omega
      have hsz' : (listed.setIfInBounds i true).size = ops.size := by simpa using hsz
      unfold wpOp
      rw [hoi]
      unfold front at hf
      simp only
      split
      · rename_i hw
        rw [if_pos hw] at hf
        refine .inl ?_
        unfold Oper.wp
        cases hS : inS S oi with
        | none =>
          rw [hS] at hf
          obtain ⟨v, h1, h2⟩ := hf
          generalize (execOp a.eval oi).run P w = r at *
          cases r with
          | ok n w' =>
            cases n <;> simp only [plainUpon] at h1 <;> simp only [Oper.upon] <;> first | (exact h1.elim) | skip
            · obtain ⟨rfl, rfl⟩ := h1
              exact ih _ _ _ D hsz' hlen hC hD (by rw [e2]; exact h2)
            · obtain ⟨rfl, rfl⟩ := h1
              exact ih _ _ _ D hsz' hlen hC hD (by rw [e2]; exact h2)
          | halt x w' => simp only [plainUpon] at h1
        | some d =>
          rw [hS] at hf
          obtain ⟨h1, h2⟩ := hf
          have go : ∀ v w', Ev w w' ∧ F d v w' → wpAny P .any ops Q' fuel (listed.setIfInBounds i true) (a.put oi.dst v) w' := fun v w' ⟨he, hv⟩ => by
            have hD' : Facts F ((d, v) :: D) w' := fun p hp => by
              rcases List.mem_cons.1 hp with rfl | hp
              · exact hv
              · exact hF _ _ _ _ (hD p hp) he
            exact ih _ _ _ ((d, v) :: D) hsz' hlen (hEv _ _ hC he) hD' (by rw [e2]; exact h2 v ⟨w', hEv _ _ hC he, hD'⟩)
          generalize (execOp a.eval oi).run P w = r at *
          cases r with
          | ok n w' =>
            cases n <;> simp only [opGives] at h1 <;> simp only [Oper.upon] <;> first | (exact h1.elim) | skip
            · exact go _ _ h1
            · refine Calls.mono h1 ?_
              rintro e w'' ⟨v, rfl, hR⟩
              exact go _ _ hR
          | halt x w' => simp only [opGives] at h1
      · rename_i hw
        rw [if_neg hw] at hf
        exact ih _ _ _ D hsz' hlen hC hD (by rw [e2]; exact hf)

theorem list_open {α : Type} (l : List α) : (List.range l.length).filterMap (fun k => l[k]?) = l := by
  induction l with
  | nil => rfl
  | cons x r ih =>
    rw [List.length_cons, List.range_succ_eq_map, List.filterMap_cons_some (by rfl), List.filterMap_map]
    congr 1
theorem open_all : open_ ops (Array.replicate ops.size false) = ops.toList := by
  unfold open_
  rw [List.filter_eq_self.2 (fun k hk => by
    have : k < ops.size := List.mem_range.1 hk
    simp [this])]
  have := list_open ops.toList
  simpa using this
/-- THE LAW. -/
theorem wp_region_F {id : Nat} {Q : Exit → Act → World → Prop} {a : Act} {w : World} (hEv : ∀ w w', C w → Ev w w' → C w') (hF : ∀ d v w w', F d v w → Ev w w' → F d v w') (hm : P.follows .mixedOrders = true) (hB : okF ops = true) (hC : C { w with drawn := w.drawn + 1 })
    (h : wpF P ops Ev C F S (fun a' w' => Q .normal a' w') ops.toList [] a) : (Code.region id ops true).wp P Q a w :=
  wp_region_any hm (wpAny_of_F hEv hF hB (fun _ _ h => h) _ _ _ _ [] (by simp) (by rw [open_all]; simp) hC (fun p hp => by cases hp) (by rw [open_all]; exact h))
theorem wp_region_F_lit {id : Nat} {Q : Exit → Act → World → Prop} {a : Act} {w : World} {l : List Oper} (Ev : World → World → Prop) (C : World → Prop) (F : Tmp → Value → World → Prop) (S : List Tmp) (hEv : ∀ w w', C w → Ev w w' → C w') (hF : ∀ d v w w', F d v w → Ev w w' → F d v w') (hm : P.follows .mixedOrders = true) (hB : okF l.toArray = true) (hC : C { w with drawn := w.drawn + 1 })
    (h : wpF P l.toArray Ev C F S (fun a' w' => Q .normal a' w') l [] a) : (Code.region id l.toArray true).wp P Q a w :=
  wp_region_F hEv hF hm hB hC (by simpa using h)

/-- A call that enters a function of Go: none. -/
def noEnter (o : Oper) : Bool := match o.op with
  | .call c => (match c.callee with | .builtin _ => true | _ => false)
  | _ => true
theorem run_value_ne {P : Program} {w w' : World} (s : Sem Value) (f : FuncId) (args : Array Value) (h : (do let x ← s; pure (Next.value x) : Sem Next).run P w = .ok (.enter f args) w') : False := by
  rw [Sem.run_bind] at h
  cases hs : s.run P w with
  | ok v w1 => rw [hs] at h; simp [Result.andThen] at h
  | halt x w1 => rw [hs] at h; simp [Result.andThen] at h
theorem run_skip_ne {P : Program} {w w' : World} (s : Sem Unit) (f : FuncId) (args : Array Value) (h : (do s; pure Next.skip : Sem Next).run P w = .ok (.enter f args) w') : False := by
  rw [Sem.run_bind] at h
  cases hs : s.run P w with
  | ok v w1 => rw [hs] at h; simp [Result.andThen] at h
  | halt x w1 => rw [hs] at h; simp [Result.andThen] at h
/-- A value, or a halt: what most operations come to. -/
def valued (s : Sem Next) : Prop := ∀ (P : Program) (w w' : World) (f : FuncId) (args : Array Value), s.run P w ≠ .ok (.enter f args) w'
theorem valued_value (s : Sem Value) : valued (do let x ← s; pure (Next.value x)) := fun P w w' f args h => run_value_ne s f args h
theorem valued_skip (s : Sem Unit) : valued (do s; pure Next.skip) := fun P w w' f args h => run_skip_ne s f args h
theorem valued_pure (v : Value) : valued (pure (Next.value v)) := fun P w w' f args h => by simp at h
def noEnterB : Builtin → Bool
  | .len | .cap | .append | .copy | .min | .max => true
  | _ => false
def noEnter' (o : Oper) : Bool := match o.op with
  | .call c => (match c.callee with | .builtin b => noEnterB b | _ => false)
  | .nilCheck _ | .pick _ _ _ => true
  | .go _ | .defer _ | .send _ _ | .recv _ _ _ | .select _ _ => false
  | _ => true
theorem valued_bind {α : Type} (s : Sem α) (g : α → Sem Next) (hg : ∀ x, valued (g x)) : valued (s >>= g) := fun P w w' f args h => by
  rw [Sem.run_bind] at h
  cases hs : s.run P w with
  | ok v w1 => rw [hs] at h; exact hg v P _ _ _ _ h
  | halt x w1 => rw [hs] at h; simp [Result.andThen] at h
theorem valued_panic : valued (runtimePanic .nilDeref) := fun P w w' f args h => by
  simp [runtimePanic, goPanic, RuntimeError.nilDeref] at h
theorem valued_unsupported (k : Unsupported) : valued (unsupported k) := fun P w w' f args h => by
  simp [unsupported] at h
theorem valued_builtin {b : Builtin} (h : noEnterB b = true) (t : Array TypeId) (ty : TypeId) (c : Array Bool) (args : Array Value) : valued (builtin b t ty c args) := by
  cases b <;> simp only [noEnterB, Bool.false_eq_true] at h <;> exact valued_value _
theorem noEnter_spec {o : Oper} (h : noEnter' o = true) (ρ : Operand → Value) : valued (execOp ρ o) := by
  obtain ⟨dst, op, type, pos, after, guard⟩ := o
  cases op <;> simp only [noEnter', Bool.false_eq_true] at h <;> simp only [execOp] <;>
    first
      | exact valued_pure _
      | exact valued_value _
      | exact valued_skip _
      | skip
  case pick c a b => exact valued_bind _ _ (fun x => valued_pure _)
  case nilCheck x =>
    split <;> first | exact valued_panic | exact valued_pure _ | skip
    split <;> first | exact valued_panic | exact valued_pure _ | skip
    refine valued_bind _ _ (fun x => valued_bind _ _ (fun y => ?_))
    split
    · exact valued_bind _ _ (fun _ => valued_pure _)
    · exact valued_pure _
  case call c =>
    cases hc : c.callee with
    | builtin b =>
      rw [hc] at h
      have e : resolve ρ c type = pure { target := .builtin b c.argTypes type (c.args.map fun | .const _ => true | _ => false), args := c.args.map ρ } := by
        unfold resolve
        simp only [hc]
        rfl
      intro P w w' f args hr
      rw [e] at hr
      simp only [pure_bind] at hr
      exact valued_builtin h _ _ _ _ P w w' f args (by simpa [invoke] using hr)
    | invoke r n => rw [hc] at h; cases h
    | value f => rw [hc] at h; cases h

section
variable {P : Program} {ops : Array Oper} {Ev : World → World → Prop} {C : World → Prop} {F : Tmp → Value → World → Prop} {S : List Tmp} {Q : Act → World → Prop} {o : Oper} {l : List Oper} {D : List (Tmp × Value)} {a : Act}
theorem wpF_nil (h : ∀ w, C w → Facts F D w → Q a w) : wpF P ops Ev C F S Q [] D a := h
theorem wpF_skip (hw : Region.wanted o (yielded ops a.tmps) = false) (h : wpF P ops Ev C F S Q l D (a.put o.dst undef)) : wpF P ops Ev C F S Q (o :: l) D a := by
  unfold wpF opF
  rw [if_neg (by rw [hw]; exact Bool.false_ne_true)]
  exact h
/-- The worlds at an operation. -/
def AtF (C : World → Prop) (F : Tmp → Value → World → Prop) (ops : Array Oper) (o : Oper) (D : List (Tmp × Value)) : Type := { w : World // C w ∧ FactsFor F ops o D w }
def AtF.w {C : World → Prop} {F : Tmp → Value → World → Prop} {ops : Array Oper} {o : Oper} {D : List (Tmp × Value)} (x : AtF C F ops o D) : World := x.1
theorem wpF_plain (hw : Region.wanted o (yielded ops a.tmps) = true) (hS : inS S o = none) (hn : noEnter' o = true)
    (h : ∀ [Nonempty (AtF C F ops o D)] (K : Act → Prop), (∀ a', wpF P ops Ev C F S Q l D a' → K a') → o.quiet P a (fun w => ∃ x : AtF C F ops o D, w = x.w) K) : wpF P ops Ev C F S Q (o :: l) D a := by
  unfold wpF opF
  rw [if_pos hw, hS]
  rintro ⟨w0, c0, f0⟩
  haveI : Nonempty (AtF C F ops o D) := ⟨⟨w0, c0, f0⟩⟩
  obtain ⟨v, h1, h2⟩ := h _ (fun _ h => h)
  refine ⟨v, fun w hc hf => ?_, h2⟩
  have h3 := h1 w ⟨⟨w, hc, hf⟩, rfl⟩
  unfold Oper.quietAt at h3
  have hne := noEnter_spec hn a.eval P w
  generalize (execOp a.eval o).run P w = r at *
  cases r with
  | ok n w' =>
    cases n <;> simp only [Oper.quietUpon] at h3 <;> simp only [plainUpon]
    · exact h3
    · exact h3
    · exact absurd rfl (hne _ _ _)
  | halt x w' => simp only [Oper.quietUpon] at h3
theorem wpF_call {d : Tmp} (hw : Region.wanted o (yielded ops a.tmps) = true) (hS : inS S o = some d)
    (h : ∀ w, C w → FactsFor F ops o D w → opGives P (fun v w' => Ev w w' ∧ F d v w') ((execOp a.eval o).run P w)) (h2 : ∀ v, (∃ w, C w ∧ Facts F ((d, v) :: D) w) → wpF P ops Ev C F S Q l ((d, v) :: D) (a.put o.dst v)) : wpF P ops Ev C F S Q (o :: l) D a := by
  unfold wpF opF
  rw [if_pos hw, hS]
  exact ⟨h, h2⟩
end
end
end Go.Proofs.YtdhcnmljkmodhaaDoor
