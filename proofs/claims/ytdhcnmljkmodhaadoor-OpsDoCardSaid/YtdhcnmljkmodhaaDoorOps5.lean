/- fairleadlaw10.To: a chain as the document's. -/
import Derived.Test.YtdhcnmljkmodhaaDoorOps4
import Derived.Test.YtdhcnmljkmodhaaDoorLst
namespace Go.Proofs.YtdhcnmljkmodhaaDoor
set_option linter.unusedSectionVars false
set_option linter.unusedVariables false
set_option linter.unusedSimpArgs false
set_option maxRecDepth 20000
open Go.RowKit

theorem infoRop : (Tryd.prog.info? 47).map (fun i => (i.zero, i.size, i.bytes)) = some (some (.agg #[.int .i64 0, .int .i64 0]), 2, 16) := by kernel_rfl
theorem infoRop' : ∃ i, Tryd.prog.info? 47 = some i ∧ i.zero = some (.agg #[.int .i64 0, .int .i64 0]) ∧ i.size = 2 ∧ i.bytes = 16 := by
  have h := infoRop
  cases hi : Tryd.prog.info? 47 with
  | none => rw [hi] at h; cases h
  | some i =>
    rw [hi] at h
    simp at h
    exact ⟨i, rfl, h.1, h.2.1, h.2.2⟩
theorem opC_len (l : List (Int × Int)) : (l.flatMap opC).length = l.length * 2 := flatMap_len opC 2 (fun _ => rfl) l
theorem RdO.ofOwn {w : World} {b n : Nat} {e : TypeId} {v : Value} {l : List (Int × Int)} (hn : n = l.length) (h : w.ownsRow b e 2 v n (l.flatMap opC)) : RdO w v l := by
  subst hn
  have hr := ReadsRow.ofOwn h
  refine ⟨opC_len l, ?_⟩
  rcases h.2 with ⟨rfl, h0⟩ | ⟨g, cap, cur, rfl, hbg, hg, r1, r2, r3, r4⟩
  · exact ⟨none, 0, by rw [h0], by omega, by unfold maxLen; omega, fun _ => ⟨h0, rfl⟩, fun h => by omega⟩
  · exact ⟨_, cap, rfl, r1, r2, (fun h => by cases h), fun _ => ⟨g, 0, rfl, block_lt hg, fun j u hj => hr.cell hj⟩⟩
/-- One op, as what is appended. -/
theorem Src.ofOp {w : World} {tx e : TypeId} (hk : Tryd.prog.underlying tx = some (.slice e)) (g : Nat) (o : Int × Int) (t : TypeId) (h : w.heap[g]? = some (.cells #[.int .i64 o.1, .int .i64 o.2] t (0, 0))) : Src Tryd.prog 2 tx (.slice (some ⟨g, 0, none⟩) 1 1) 1 (opC o) w := by
  refine Src.ofSlice w hk _ 1 1 (opC o) rfl (fun j u hj => ?_) (fun u hu => ?_)
  · have e : ((⟨g, 0, none⟩ : Addr).add j) = ⟨g, j, none⟩ := by
      unfold Addr.add; split
      · rename_i h; subst h; rfl
      · simp
    rw [e, cell_at h]
    unfold opC at hj
    rw [← hj]
    rw [← Array.getElem?_toList]
  · unfold opC at hu
    simp only [List.mem_cons, List.not_mem_nil, or_false] at hu
    rcases hu with rfl | rfl <;> rfl

set_option maxHeartbeats 1000000 in
theorem to_any (w : World) (vc : Value) (c : List (Int × Int)) (hl : c.length ≤ 1000) (Hc : RdO w vc c) :
    Calls Tryd.prog 10 #[vc] w fun e w' => ∃ u, e = .returned u ∧ Keeps w w' (fun _ => False) ∧ RdO w' u c := by
  obtain ⟨i0, hi, hz, hs, hb⟩ := infoRop'
  obtain ⟨ac, capc, rfl, _, hmc⟩ := Hc.form
  have GC := Lib.hid Hc
  have hZ := Lib.hid hz
  have hS := Lib.hid hs
  have hB := Lib.hid hb
  have hI := Lib.hid hi
  clear Hc hmc hz hs hb hi
  go_enter Tryd.func10, Tryd.ntmps10
  go_wp2_with fail
  go_loopw [3, 8] (fun v ti wr => ∃ (k : Nat), ti = .int .i64 k ∧ k ≤ c.length ∧ wr.ownsRow w.heap.size 47 2 v k ((c.take k).flatMap opC) ∧ Keeps w wr (fun _ => False)) (fun _ ti _ => c.length - (intOf ti).toNat)
  case atStart => exact ⟨0, rfl, Nat.zero_le _, World.ownsRow_nil _ _ _ _, Keeps.refl _ _⟩
  case round =>
    obtain ⟨k, rfl, hk, hown, hkp⟩ := hrel
    have KP := Lib.hid hkp
    have HO := Lib.hid hown
    clear hkp hown
    by_cases hlt : k < c.length
    · obtain ⟨g, off, rfl, hg, hc⟩ := (GC.out.keeps KP.out).cell k hlt
      have hc0 := (hc k hlt).1
      have hc1 := (hc k hlt).2
      have HT : Hid ((c.take (k + 1)).flatMap opC = (c.take k).flatMap opC ++ opC (c[k].1, c[k].2)) := Lib.hid (by rw [List.take_succ_eq_append_getElem hlt, List.flatMap_append]; simp)
      clear hc
      generalize c[k].1 = ok at *
      generalize c[k].2 = ox at *
      have KA : Hid (Keeps w (wr.alloc (.cells #[.int .i64 ok, .int .i64 ox] 44)) (fun _ => False)) := Lib.hid (KP.out.alloc _)
      have HO2 : Hid ((wr.alloc (.cells #[.int .i64 ok, .int .i64 ox] 44)).ownsRow w.heap.size 47 2 u3 k ((c.take k).flatMap opC)) := Lib.hid (HO.out.alloc _)
      have HSrc : Hid (Src Tryd.prog 2 28 (.slice (some ⟨wr.heap.size + 1, 0, none⟩) 1 1) 1 (opC (ok, ox)) ((wr.alloc (.cells #[.int .i64 ok, .int .i64 ox] 44)).alloc (.cells #[.int .i64 ok, .int .i64 ox] 47))) := Lib.hid (Src.ofOp Tryd.underlying28 _ (ok, ox) 47 (by
        have := heap_alloc_new (wr.alloc (.cells #[.int .i64 ok, .int .i64 ox] 44)) (.cells #[.int .i64 ok, .int .i64 ox] 47)
        simpa using this))
      have HSZ : Hid (w.heap.size ≤ ((wr.alloc (.cells #[.int .i64 ok, .int .i64 ox] 44)).alloc (.cells #[.int .i64 ok, .int .i64 ox] 47)).heap.size) := Lib.hid ((KA.out.alloc _).size)
      go_wp2_with (at_builtin; refine wpList_append_any rfl (.tmp 12) (.tmp 14) 28 28 rfl 47 i0 _ 2 16 Tryd.underlying28 hI.out hZ.out hS.out hB.out rfl w.heap.size _ k ((c.take k).flatMap opC) rfl (HO2.out.alloc _) _ 1 (opC (ok, ox)) rfl HSrc.out (by unfold maxLen; omega) (by omega) HSZ.out ?_; intro v' w2 D; have HOW := Lib.hid D.own; have HGR := Lib.hid D.grown; clear D)
      go_roundw
      case rel =>
        refine ⟨k + 1, by go_num, by omega, by rw [HT.out]; exact HOW.out, (KA.out.alloc _).grown HGR.out (fun g' hg' hlt' => ?_)⟩
        have := (own_block_ge HO.out g' hg').1
        omega
      case measure => simp [intOf]; omega
    · have hk' : k = c.length := by omega
      subst hk'
      rw [List.take_length] at HO
      go_wp2_with fail
      go_ret
      exact ⟨_, rfl, KP.out, RdO.ofOwn rfl HO.out⟩
end Go.Proofs.YtdhcnmljkmodhaaDoor
