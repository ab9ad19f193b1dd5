/- The walk of All's function value. -/
import Derived.Test.YtdhcnmljkmodhaaDoorBits7
namespace Go.Proofs.YtdhcnmljkmodhaaDoor
set_option linter.unusedSectionVars false
set_option linter.unusedVariables false
set_option linter.unusedSimpArgs false
open Go.RowKit
attribute [local go_sem] Oper.semAt_some

set_option maxHeartbeats 2000000 in
theorem all1_in (n : Nat) (hn : 1 ≤ n) (l B : Nat) (s : BSet) (J Jx : List Nat → World → Prop) (hJ : AbidesT (fun j => j = B) J) (hJx : AbidesT (fun j => j = B) Jx)
    (hY : ∀ (pre : List Nat) (x : Nat) W1, J pre W1 → pre ++ [x] <+: s.mem → YieldAt Fence.wide (n - 1) Tryd.prog l #[.int .i64 (x : Int)] W1 fun e W' =>
      (e = .returned (.bool true) ∧ J (pre ++ [x]) W' ∧ (∀ j, (j = B ∨ j = 1) → W'.heap[j]? = W1.heap[j]?) ∧ W1.heap.size ≤ W'.heap.size) ∨ (e = .returned (.bool false) ∧ Jx (pre ++ [x]) W'))
    (W : World) (hB : W.heap[B]? = some (.cells s.cells 57 (0, 0))) (hT : TabOk W) (hBg : B ≠ 1) (h0 : J [] W) :
    CallsIn Fence.wide n Tryd.prog 65 #[.func (.yield l) #[] #[], .pointer (some ⟨B, 0, none⟩)] W fun e W' => (∃ v, e = .returned v) ∧
      ((∃ xs, xs = s.mem ∧ J xs W') ∨ (∃ pre, (pre <+: s.mem ∧ pre ≠ []) ∧ Jx pre W')) := by
  have HJ := Lib.hid hJ
  have HJx := Lib.hid hJx
  have HY := Lib.hid hY
  clear hJ hJx hY
  refine callsIn_of_wp Tryd.func65 rfl trivial ?_ rfl
  simp only [Tryd.ntmps65, List.size_toArray, List.length_cons, List.length_nil, Nat.reduceAdd, Nat.reduceSub, Array.replicate_succ, Array.replicate_zero, List.push_toArray, List.append_toArray, List.nil_append, List.cons_append]
  gi_wp2
  gi_loopw [] (fun wr => ∃ (pre : List Nat) (t : BSet), wr.heap[B]? = some (.cells t.cells 57 (0, 0)) ∧ s.mem = pre ++ t.mem ∧ TabOk wr ∧ J pre wr) (fun wr => leftOf B wr)
  case atStart => exact ⟨[], s, hB, rfl, hT, h0⟩
  case round =>
    obtain ⟨pre, t, hb, hm, hTr, hj⟩ := hrel
    have x0 : wr.cell? ⟨B, 0, none⟩ = some (.int .u64 t.lo.toNat) := by rw [cell_at hb]; rfl
    have x1 : wr.cell? ⟨B, 1, none⟩ = some (.int .u64 t.hi.toNat) := by rw [cell_at hb]; rfl
    have GB := Lib.hid hb
    have GM := Lib.hid hm
    have GT := Lib.hid hTr
    have GJ := Lib.hid hj
    clear hb hm hTr hj
    gi_wp2_with fail
    refine ⟨trivial, (callsIn_wide.2 (empty_any t _)).mono ?_⟩
    rintro e w2 ⟨rfl, k2⟩
    have hsz := block_lt GB.out
    have GB2 : Hid (w2.heap[B]? = some (.cells t.cells 57 (0, 0))) := Lib.hid ((k2.block _ hsz id).trans GB.out)
    have GT2 := Lib.hid (GT.out.keeps k2)
    have GJ2 : Hid (J pre w2) := Lib.hid (HJ.out _ _ _ GJ.out (k2.mono (fun _ _ h => h.elim)))
    have y0 : w2.cell? ⟨B, 0, none⟩ = some (.int .u64 t.lo.toNat) := by rw [cell_at GB2.out]; rfl
    have y1 : w2.cell? ⟨B, 1, none⟩ = some (.int .u64 t.hi.toNat) := by rw [cell_at GB2.out]; rfl
    have GL : Hid (leftOf B wr = t.mem.length) := Lib.hid (leftOf_eq GB.out)
    clear k2 GT GJ x0 x1
    cases he : t.isEmpty
    · have hne : t.mem ≠ [] := fun h => by rw [(mem_empty t).2 h] at he; cases he
      obtain ⟨k, r, hk⟩ : ∃ k r, t.mem = k :: r := by
        cases hm : t.mem with
        | nil => exact absurd hm hne
        | cons k r => exact ⟨k, r, rfl⟩
      obtain ⟨hf, hr⟩ := mem_step t k r hk
      have HF := Lib.hid hf
      have HR := Lib.hid hr
      have HK := Lib.hid hk
      clear hf hr hk hne he
      gi_wp2_with fail
      refine ⟨trivial, (callsIn_wide.2 (first_any t _ GT2.out)).mono ?_⟩
      rintro e w3 ⟨rfl, k3⟩
      rw [HF.out]
      have hsz2 := block_lt GB2.out
      have GB3 : Hid (w3.heap[B]? = some (.cells t.cells 57 (0, 0))) := Lib.hid ((k3.block _ hsz2 id).trans GB2.out)
      have GT3 := Lib.hid (GT2.out.keeps k3)
      have GJ3 : Hid (J pre w3) := Lib.hid (HJ.out _ _ _ GJ2.out (k3.mono (fun _ _ h => h.elim)))
      clear k3 GJ2 GT2 y0 y1
      have hpre : pre ++ [k] <+: s.mem := ⟨r, by rw [GM.out, HK.out]; simp⟩
      obtain ⟨fn, tmps, assign, body, hy, hR⟩ := HY.out pre k w3 GJ3.out hpre
      have HPre := Lib.hid hpre
      clear hpre
      gi_wp2_with fail
      refine hR.mono ?_
      clear hR hy
      rintro e w4 (⟨rfl, hJ4, hk4, hs4⟩ | ⟨rfl, hJx4⟩)
      · have GB4 : Hid (w4.heap[B]? = some (.cells t.cells 57 (0, 0))) := Lib.hid ((hk4 B (.inl rfl)).trans GB3.out)
        have GT4 : Hid (TabOk w4) := Lib.hid (GT3.out.same (hk4 _ (.inr rfl)))
        have GJ4 := Lib.hid hJ4
        have z0 : w4.cell? ⟨B, 0, none⟩ = some (.int .u64 t.lo.toNat) := by rw [cell_at GB4.out]; rfl
        have z1 : w4.cell? ⟨B, 1, none⟩ = some (.int .u64 t.hi.toNat) := by rw [cell_at GB4.out]; rfl
        clear hJ4 hk4 hs4 GB3 GT3 GJ3
        gi_wp2_with fail
        refine ⟨trivial, (callsIn_wide.2 (without_any t k _)).mono ?_⟩
        rintro e w5 ⟨rfl, k5⟩
        have hsz4 := block_lt GB4.out
        have hb5 : w5.heap[B]? = some (.cells t.cells 57 (0, 0)) := (k5.block _ hsz4 id).trans GB4.out
        have q0 : w5.cell? ⟨B, 0, none⟩ = some (.int .u64 t.lo.toNat) := by rw [cell_at hb5]; rfl
        have q1 : w5.cell? ⟨B, 1, none⟩ = some (.int .u64 t.hi.toNat) := by rw [cell_at hb5]; rfl
        have qf : ∀ o, w5.frozen? ⟨B, o, none⟩ = false := free_at hb5
        have fin : ∀ W', W' = (w5.setCell ⟨B, 0, none⟩ (.int .u64 (t.withoutN k).lo.toNat)).setCell ⟨B, 1, none⟩ (.int .u64 (t.withoutN k).hi.toNat) →
            W'.heap[B]? = some (.cells (t.withoutN k).cells 57 (0, 0)) ∧ s.mem = (pre ++ [k]) ++ (t.withoutN k).mem ∧ TabOk W' ∧ J (pre ++ [k]) W' ∧ leftOf B W' < leftOf B wr := by
          rintro W' rfl
          have hbb := setCell_heap (setCell_heap hb5 0 (.int .u64 (t.withoutN k).lo.toNat)) 1 (.int .u64 (t.withoutN k).hi.toNat)
          have hkk : Keeps w4 ((w5.setCell ⟨B, 0, none⟩ (.int .u64 (t.withoutN k).lo.toNat)).setCell ⟨B, 1, none⟩ (.int .u64 (t.withoutN k).hi.toNat)) (fun j => j = B) :=
            Keeps.setCell (S := fun j => j = B) (p := ⟨B, 1, none⟩) (Keeps.setCell (S := fun j => j = B) (p := ⟨B, 0, none⟩) (k5.mono (fun _ _ h => h.elim)) (fun _ => rfl) _) (fun _ => rfl) _
          have hcc : ((w5.setCell ⟨B, 0, none⟩ (.int .u64 (t.withoutN k).lo.toNat)).setCell ⟨B, 1, none⟩ (.int .u64 (t.withoutN k).hi.toNat)).heap[B]? = some (.cells (t.withoutN k).cells 57 (0, 0)) := by rw [hbb]; rfl
          refine ⟨hcc, by rw [GM.out, HK.out, HR.out]; simp, GT4.out.same (hkk.block _ ?_ (fun e => hBg e.symm)), HJ.out _ _ _ GJ4.out hkk, ?_⟩
          · have := GT4.out 0 (by omega)
            exact World.block_lt_of_cell? w4 _ this
          · rw [leftOf_eq hcc, GL.out, HK.out, HR.out]; simp
        have Fin := Lib.hid fin
        clear fin hb5 k5 z0 z1 GJ4 GT4
        unfold BSet.val
        gi_wp2_with fail
        go_roundw
        case rel =>
          obtain ⟨f1, f2, f3, f4, _⟩ := Fin.out _ rfl
          exact ⟨pre ++ [k], _, f1, f2, f3, f4⟩
        case measure => exact (Fin.out _ rfl).2.2.2.2
      · have HX := Lib.hid hJx4
        clear hJx4
        gi_wp2_with fail
        refine bodyPost_ret (results_none rfl _ _ _) rfl ?_
        exact ⟨⟨_, rfl⟩, .inr ⟨pre ++ [k], ⟨HPre.out, by simp⟩, HX.out⟩⟩
    · have hnil := (mem_empty t).1 he
      have HN := Lib.hid hnil
      clear hnil he
      gi_wp2_with fail
      go_end0
      exact ⟨⟨_, rfl⟩, .inl ⟨pre, by rw [GM.out, HN.out, List.append_nil], GJ2.out⟩⟩
/-- The function value that All hands back. -/
theorem all_seq (n : Nat) (hn : 1 ≤ n) (B : Nat) (s : BSet) (w : World) (hB : w.heap[B]? = some (.cells s.cells 57 (0, 0))) (hT : TabOk w) (hBg : B ≠ 1) :
    SeqMut Fence.wide n Tryd.prog 65 #[.pointer (some ⟨B, 0, none⟩)] (fun x : Nat => #[.int .i64 (x : Int)]) (fun j => j = B) (fun j => j = B ∨ j = 1)
      (fun xs => xs = s.mem) (fun pre => pre <+: s.mem ∧ pre ≠ []) (fun pre x => pre ++ [x] <+: s.mem) w := fun l J Jx W hW hJ hJx hY h0 =>
  all1_in n hn l B s J Jx hJ hJx hY W ((hW.block _ (block_lt hB) id).trans hB) (hT.keeps hW) hBg h0
end Go.Proofs.YtdhcnmljkmodhaaDoor
