/- The walk of the reference's Put. -/
import Derived.Test.YtmmoopikglbmbaaRows
import Derived.Test.YtmmoopikglbmbaaMemB
import Derived.RegionTactic
import Derived.BigRegion
import Derived.Deep.QuietTactic
import Derived.BigQuiet
namespace Go.Proofs.Ytmmoopikglbmbaa
set_option linter.unusedSectionVars false
set_option linter.unusedVariables false
set_option linter.unusedSimpArgs false
open Go.RowKit

/-- The reference's items, as cells. -/
def rcells (q : List (Int × ByteArray)) : List Value := q.flatMap fun x => [.int .u64 x.1, .string x.2]
theorem rcells_length (q : List (Int × ByteArray)) : (rcells q).length = q.length * 2 := by
  induction q with
  | nil => rfl
  | cons a r ih => simp only [rcells, List.flatMap_cons, List.length_append, List.length_cons, List.length_nil] at *; omega
theorem rcells_cons (a : Int × ByteArray) (r : List (Int × ByteArray)) : rcells (a :: r) = .int .u64 a.1 :: .string a.2 :: rcells r := rfl
theorem rcells_append (a b : List (Int × ByteArray)) : rcells (a ++ b) = rcells a ++ rcells b := by simp [rcells]
theorem rcells_take (q : List (Int × ByteArray)) (k : Nat) : rcells (q.take k) = (rcells q).take (k * 2) := by
  induction q generalizing k with
  | nil => simp [rcells]
  | cons a r ih =>
    cases k with
    | zero => simp [rcells]
    | succ k => rw [List.take_succ_cons, rcells_cons, rcells_cons, ih, show (k + 1) * 2 = k * 2 + 1 + 1 by omega, List.take_succ_cons, List.take_succ_cons]
theorem rcells_drop (q : List (Int × ByteArray)) (k : Nat) : rcells (q.drop k) = (rcells q).drop (k * 2) := by
  induction q generalizing k with
  | nil => simp [rcells]
  | cons a r ih =>
    cases k with
    | zero => simp [rcells]
    | succ k => rw [List.drop_succ_cons, rcells_cons, ih, show (k + 1) * 2 = k * 2 + 1 + 1 by omega, List.drop_succ_cons, List.drop_succ_cons]
theorem rcells_get (q : List (Int × ByteArray)) (k : Nat) (h : k < q.length) : (rcells q)[k * 2]? = some (.int .u64 (q[k]).1) ∧ (rcells q)[k * 2 + 1]? = some (.string (q[k]).2) := by
  induction q generalizing k with
  | nil => simp at h
  | cons a r ih =>
    cases k with
    | zero => simp [rcells_cons]
    | succ k =>
      have := ih k (by simpa using h)
      rw [rcells_cons, show (k + 1) * 2 = k * 2 + 1 + 1 by omega]
      simpa using this
theorem rcells_one (q : List (Int × ByteArray)) : ∀ u ∈ rcells q, u.oneCell' = true := by
  induction q with
  | nil => intro u hu; cases hu
  | cons a r ih =>
    intro u hu
    rw [rcells_cons] at hu
    rcases List.mem_cons.1 hu with rfl | hu
    · rfl
    · rcases List.mem_cons.1 hu with rfl | hu
      · rfl
      · exact ih u hu

theorem Try.infoRef : (Try.prog.info? 32).map (fun i => (i.zero, i.size, i.bytes)) = some (some (.agg #[.int .u64 0, .string ⟨#[]⟩]), 2, 24) := by kernel_rfl

/-- Behind the last one of no more cost. -/
def PosIs (q : List (Int × ByteArray)) (c : Int) (k : Nat) : Prop := k ≤ q.length ∧ (∀ h : k - 1 < q.length, 0 < k → (q[k - 1]).1 ≤ c) ∧ (∀ j (h : j < q.length), k ≤ j → c < (q[j]).1)

def RefPut (E : Nat) (w : World) (q : List (Int × ByteArray)) (c : Int) (x : ByteArray) (e : Ending) (w' : World) : Prop := ∃ v k, e = .returned v ∧ PosIs q c k ∧
      w'.ownsRow w.heap.size E 2 v (q.length + 1) (rcells (q.take k ++ (c, x) :: q.drop k)) ∧ Keeps w w' (fun _ => False)

set_option maxHeartbeats 1000000 in
theorem refput_some (w : World) (q : List (Int × ByteArray)) (g off cap : Nat) (hq : q.length ≤ 1000) (H : ReadsRow w 32 2 (.slice (some ⟨g, off, none⟩) q.length cap) q.length (rcells q)) (c : Int) (x : ByteArray) :
    Calls Try.prog 10 #[.slice (some ⟨g, off, none⟩) q.length cap, .agg #[.int .u64 c, .string x]] w (RefPut 32 w q c x) := by
  obtain ⟨i0, hi, hz0, hz1, hz2⟩ := info_parts Try.infoRef
  have hgs := H.lt
  have hcap : q.length ≤ cap ∧ cap ≤ maxLen := by
    rcases H.forms with ⟨h, _⟩ | ⟨_, _, _, h, h1, h2⟩
    · cases h
    · simp only [Value.slice.injEq] at h; obtain ⟨_, _, rfl⟩ := h; exact ⟨h1, h2⟩
  have GH := Lib.hid H
  clear H
  go_enter Try.func10, Try.ntmps10
  go_wp2
  have HK1 : Keeps w (w.alloc (.cells #[.int .u64 c, .string x] 32)) (fun _ => False) := (Keeps.refl w _).alloc _
  have HB1 : (w.alloc (.cells #[.int .u64 c, .string x] 32)).heap[w.heap.size]? = some (.cells #[.int .u64 c, .string x] 32 (0, 0)) := heap_alloc_new w _
  have GK1 := Lib.hid HK1
  have GB1 := Lib.hid HB1
  clear HK1 HB1
  go_loopw [5] (fun t wr => ∃ k : Nat, t = .int .i64 k ∧ k ≤ q.length ∧ (∀ j (h : j < q.length), k ≤ j → c < (q[j]).1) ∧ Keeps w wr (fun _ => False) ∧ wr.heap[w.heap.size]? = some (.cells #[.int .u64 c, .string x] 32 (0, 0))) (fun t _ => (intOf t).toNat)
  case atStart => exact ⟨q.length, rfl, Nat.le_refl _, fun j h h2 => by omega, GK1.out, GB1.out⟩
  case round =>
    obtain ⟨k, rfl, hk, hgt, hkp, hbx⟩ := hrel
    have GT := Lib.hid hgt
    have GK := Lib.hid hkp
    have GB := Lib.hid hbx
    have hbs := block_lt hbx
    have cx0 : wr.cell? ⟨w.heap.size, 0, none⟩ = some (.int .u64 c) := by rw [cell_at hbx]; rfl
    have cx1 : wr.cell? ⟨w.heap.size, 1, none⟩ = some (.string x) := by rw [cell_at hbx]; rfl
    have GR := Lib.hid (GH.out.keeps0 hkp)
    clear hgt hkp hbx
    have e0 : k = 0 ∨ ∃ m, k = m + 1 := by cases k; exact .inl rfl; exact .inr ⟨_, rfl⟩
    by_cases hgo : ∃ m, ∃ hm : m < q.length, k = m + 1 ∧ c < (q[m]).1
    · obtain ⟨m, hm, rfl, hc⟩ := hgo
      have cz := GR.out.cell (rcells_get q m hm).1
      have GZ : Hid (∀ j (h : j < q.length), m ≤ j → c < (q[j]).1) := fun j h hj => by
        rcases Nat.lt_or_ge m j with h1 | h1
        · exact GT.out j h (by omega)
        · obtain rfl : m = j := by omega
          exact hc
      generalize (q[m]).1 = cm at *
      clear e0
      have hd0 : (0 : Int) < (m : Int) + 1 := by omega
      have hd1 : (0 : Int) ≤ (m : Int) := by omega
      have hd2 : (m : Int) < (q.length : Int) := by omega
      go_wp2_with fail
      go_quiet (fail)
      go_wp2
      go_roundw
      case rel => exact ⟨m, by go_num, by omega, GZ.out, GK.out.drewN _, GB.out⟩
      case measure => simp [intOf]
    · have hpos : Hid (PosIs q c k) := ⟨hk, fun h h0 => by
          apply Int.not_lt.1
          intro hlt
          exact hgo ⟨k - 1, h, by omega, hlt⟩, fun j h hj => GT.out j h hj⟩
      rcases e0 with rfl | ⟨m, rfl⟩
      · clear hgo
        go_wp2_with fail
        go_quiet (fail)
        have G3 := Lib.hid (GR.out.keeps0 ((Keeps.refl wr _).drewN nq))
        have K3 := Lib.hid (GK.out.drewN nq)
        have B3 : Hid ((wr.drewN nq).heap[w.heap.size]? = some (.cells #[.int .u64 c, .string x] 32 (0, 0))) := GB.out
        generalize wr.drewN nq = w3 at *
        clear cx0 cx1 hbs GR GB GK GT GK1 GB1
        go_wp2_with (at_builtin; refine wpList_append_any rfl (.tmp 24) (.tmp 27) 28 28 rfl 32 i0 _ 2 24 Try.underlying28 hi hz0 hz1 hz2 rfl w.heap.size _ 0 [] rfl (World.ownsRow_nil _ _ _ _) _ (0) (rcells (q.take (0))) rfl (Src.ofReads Try.underlying28 (by rw [rcells_take]; exact G3.out.take (0) (by omega)) (rcells_one _)) (by unfold maxLen; omega) (by omega) K3.out.size ?_)
        intro v1 w4 D1
        obtain ⟨o1, g1, _, fr1⟩ := D1
        have k4 : Keeps w w4 (fun _ => False) := K3.out.grown g1 (fun k h _ => by cases h)
        have hb4 : w4.heap[w.heap.size]? = some (.cells #[.int .u64 c, .string x] 32 (0, 0)) := (g1.block _ (block_lt B3.out) (by simp [Value.ownBlock])).trans B3.out
        have cy0 : w4.cell? ⟨w.heap.size, 0, none⟩ = some (.int .u64 c) := by rw [cell_at hb4]; rfl
        have cy1 : w4.cell? ⟨w.heap.size, 1, none⟩ = some (.string x) := by rw [cell_at hb4]; rfl
        have hs4 := block_lt hb4
        have G4 := Lib.hid (GH.out.keeps0 k4)
        have K4 := Lib.hid k4
        have O1 : Hid (w4.ownsRow w.heap.size 32 2 v1 (0) (rcells (q.take (0)))) := by rw [Nat.zero_add, List.nil_append] at o1; exact o1
        have F1 : Hid (∀ g, v1.ownBlock = some g → w.heap.size ≤ g) := fun g hg => by
          rcases fr1 g hg with h | h
          · cases h
          · have := K3.out.size; omega
        clear k4 o1 g1 fr1 G3 K3 hb4 B3
        go_wp2_with (at_builtin; refine wpList_append_any rfl (.tmp 29) (.tmp 31) 28 28 rfl 32 i0 _ 2 24 Try.underlying28 hi hz0 hz1 hz2 rfl w.heap.size _ (0) (rcells (q.take (0))) rfl (O1.out.alloc _) _ 1 [.int .u64 c, .string x] rfl (Src.ofReads Try.underlying28 (ReadsRow.ofOwn (World.ownsRow_lit _ #[.int .u64 c, .string x] 1 (Nat.zero_le _) (by unfold maxLen; omega) rfl)) (by intro u hu; simp only [List.mem_cons, List.not_mem_nil, or_false] at hu; rcases hu with rfl | rfl <;> rfl)) (by unfold maxLen; omega) (by omega) (by rw [hs_alloc]; omega) ?_)
        intro v2 w5 D2
        obtain ⟨o2, g2, _, fr2⟩ := D2
        have k5 : Keeps w w5 (fun _ => False) := (K4.out.alloc _).grown g2 (fun k h hk => by have := F1.out k h; omega)
        have hs5 := k5.size
        have G5 := Lib.hid (GH.out.keeps0 k5)
        have K5 := Lib.hid k5
        have O2 : Hid (w5.ownsRow w.heap.size 32 2 v2 (0 + 1) (rcells (q.take (0) ++ [(c, x)]))) := by rw [rcells_append]; exact o2
        have F2 : Hid (∀ g, v2.ownBlock = some g → w.heap.size ≤ g) := fun g hg => by
          rcases fr2 g hg with h | h
          · exact F1.out g h
          · rw [hs_alloc] at h; omega
        clear k5 o2 g2 fr2 K4 O1 F1 G4 cy0 cy1
        go_wp2_with (at_builtin; refine wpList_append_any rfl (.tmp 33) (.tmp 36) 28 28 rfl 32 i0 _ 2 24 Try.underlying28 hi hz0 hz1 hz2 rfl w.heap.size _ (0 + 1) (rcells (q.take (0) ++ [(c, x)])) rfl O2.out _ (q.length - (0)) (rcells (q.drop (0))) rfl (Src.ofReads Try.underlying28 (by rw [List.drop_zero]; exact G5.out) (rcells_one _)) (by unfold maxLen; omega) (by omega) hs5 ?_)
        intro v3 w6 D3
        obtain ⟨o3, g3, _, _⟩ := D3
        have k6 : Keeps w w6 (fun _ => False) := K5.out.grown g3 (fun k h hk => by have := F2.out k h; omega)
        have O3 : Hid (w6.ownsRow w.heap.size 32 2 v3 (q.length + 1) (rcells (q.take (0) ++ (c, x) :: q.drop (0)))) := by
          rw [show q.take (0) ++ (c, x) :: q.drop (0) = (q.take (0) ++ [(c, x)]) ++ q.drop (0) by simp, rcells_append]
          rw [Nat.add_comm 1] at o3
          exact o3
        have K6 := Lib.hid k6
        clear o3 g3 k6
        go_wp2
        go_ret
        exact ⟨v3, 0, rfl, hpos.out, O3.out, K6.out⟩
      · have hm : m < q.length := by omega
        have cz := GR.out.cell (rcells_get q m hm).1
        have hc : ¬ c < (q[m]).1 := fun h => hgo ⟨m, hm, rfl, h⟩
        generalize (q[m]).1 = cm at *
        clear hgo
        have hd0 : (0 : Int) < (m : Int) + 1 := by omega
        have hd1 : (0 : Int) ≤ (m : Int) := by omega
        have hd2 : (m : Int) < (q.length : Int) := by omega
        go_wp2_with fail
        go_quiet (fail)
        clear hd0 hd1 hd2 cz
        have G3 := Lib.hid (GR.out.keeps0 ((Keeps.refl wr _).drewN nq))
        have K3 := Lib.hid (GK.out.drewN nq)
        have B3 : Hid ((wr.drewN nq).heap[w.heap.size]? = some (.cells #[.int .u64 c, .string x] 32 (0, 0))) := GB.out
        generalize wr.drewN nq = w3 at *
        clear cx0 cx1 hbs GR GB GK GT GK1 GB1
        go_wp2_with (at_builtin; refine wpList_append_any rfl (.tmp 24) (.tmp 27) 28 28 rfl 32 i0 _ 2 24 Try.underlying28 hi hz0 hz1 hz2 rfl w.heap.size _ 0 [] rfl (World.ownsRow_nil _ _ _ _) _ (m + 1) (rcells (q.take (m + 1))) rfl (Src.ofReads Try.underlying28 (by rw [rcells_take]; exact G3.out.take (m + 1) (by omega)) (rcells_one _)) (by unfold maxLen; omega) (by omega) K3.out.size ?_)
        intro v1 w4 D1
        obtain ⟨o1, g1, _, fr1⟩ := D1
        have k4 : Keeps w w4 (fun _ => False) := K3.out.grown g1 (fun k h _ => by cases h)
        have hb4 : w4.heap[w.heap.size]? = some (.cells #[.int .u64 c, .string x] 32 (0, 0)) := (g1.block _ (block_lt B3.out) (by simp [Value.ownBlock])).trans B3.out
        have cy0 : w4.cell? ⟨w.heap.size, 0, none⟩ = some (.int .u64 c) := by rw [cell_at hb4]; rfl
        have cy1 : w4.cell? ⟨w.heap.size, 1, none⟩ = some (.string x) := by rw [cell_at hb4]; rfl
        have hs4 := block_lt hb4
        have G4 := Lib.hid (GH.out.keeps0 k4)
        have K4 := Lib.hid k4
        have O1 : Hid (w4.ownsRow w.heap.size 32 2 v1 (m + 1) (rcells (q.take (m + 1)))) := by rw [Nat.zero_add, List.nil_append] at o1; exact o1
        have F1 : Hid (∀ g, v1.ownBlock = some g → w.heap.size ≤ g) := fun g hg => by
          rcases fr1 g hg with h | h
          · cases h
          · have := K3.out.size; omega
        clear k4 o1 g1 fr1 G3 K3 hb4 B3
        go_wp2_with (at_builtin; refine wpList_append_any rfl (.tmp 29) (.tmp 31) 28 28 rfl 32 i0 _ 2 24 Try.underlying28 hi hz0 hz1 hz2 rfl w.heap.size _ (m + 1) (rcells (q.take (m + 1))) rfl (O1.out.alloc _) _ 1 [.int .u64 c, .string x] rfl (Src.ofReads Try.underlying28 (ReadsRow.ofOwn (World.ownsRow_lit _ #[.int .u64 c, .string x] 1 (Nat.zero_le _) (by unfold maxLen; omega) rfl)) (by intro u hu; simp only [List.mem_cons, List.not_mem_nil, or_false] at hu; rcases hu with rfl | rfl <;> rfl)) (by unfold maxLen; omega) (by omega) (by rw [hs_alloc]; omega) ?_)
        intro v2 w5 D2
        obtain ⟨o2, g2, _, fr2⟩ := D2
        have k5 : Keeps w w5 (fun _ => False) := (K4.out.alloc _).grown g2 (fun k h hk => by have := F1.out k h; omega)
        have hs5 := k5.size
        have G5 := Lib.hid (GH.out.keeps0 k5)
        have K5 := Lib.hid k5
        have O2 : Hid (w5.ownsRow w.heap.size 32 2 v2 (m + 1 + 1) (rcells (q.take (m + 1) ++ [(c, x)]))) := by rw [rcells_append]; exact o2
        have F2 : Hid (∀ g, v2.ownBlock = some g → w.heap.size ≤ g) := fun g hg => by
          rcases fr2 g hg with h | h
          · exact F1.out g h
          · rw [hs_alloc] at h; omega
        clear k5 o2 g2 fr2 K4 O1 F1 G4 cy0 cy1
        by_cases hkc : m + 1 = cap
        · obtain rfl : cap = m + 1 := hkc.symm
          clear hkc
          have hql : q.length = m + 1 := by omega
          obtain ⟨hd1, hd2⟩ : (rcells (q.drop (m + 1))) = [] ∧ q.length - (m + 1) = 0 := ⟨by rw [List.drop_eq_nil_of_le (by omega)]; rfl, by omega⟩
          have HD1 := Lib.hid hd1
          have HD2 := Lib.hid hd2
          have HQL := Lib.hid hql
          clear hd1 hd2 hql
          go_wp2_with (at_builtin; refine wpList_append_any rfl (.tmp 33) (.tmp 36) 28 28 rfl 32 i0 _ 2 24 Try.underlying28 hi hz0 hz1 hz2 rfl w.heap.size _ (m + 1 + 1) (rcells (q.take (m + 1) ++ [(c, x)])) rfl O2.out _ 0 [] rfl (Src.ofReads Try.underlying28 (G5.out.empty off 0 rfl (by omega)) (by intro u hu; cases hu)) (by unfold maxLen; omega) (by omega) hs5 ?_)
          intro v3 w6 D3
          obtain ⟨o3, g3, _, _⟩ := D3
          have k6 : Keeps w w6 (fun _ => False) := K5.out.grown g3 (fun k h hk => by have := F2.out k h; omega)
          have O3 : Hid (w6.ownsRow w.heap.size 32 2 v3 (q.length + 1) (rcells (q.take (m + 1) ++ (c, x) :: q.drop (m + 1)))) := by
            rw [show q.take (m + 1) ++ (c, x) :: q.drop (m + 1) = (q.take (m + 1) ++ [(c, x)]) ++ q.drop (m + 1) by simp, rcells_append]
            rw [HD1.out, HQL.out]
            exact o3
          have K6 := Lib.hid k6
          clear o3 g3 k6
          go_wp2
          go_ret
          exact ⟨v3, m + 1, rfl, hpos.out, O3.out, K6.out⟩
        · have hkc1 : m + 1 < cap := by omega
          clear hkc
          go_wp2_with (at_builtin; refine wpList_append_any rfl (.tmp 33) (.tmp 36) 28 28 rfl 32 i0 _ 2 24 Try.underlying28 hi hz0 hz1 hz2 rfl w.heap.size _ (m + 1 + 1) (rcells (q.take (m + 1) ++ [(c, x)])) rfl O2.out _ (q.length - (m + 1)) (rcells (q.drop (m + 1))) rfl (Src.ofReads Try.underlying28 (by rw [rcells_drop]; exact G5.out.drop (m + 1) (by omega)) (rcells_one _)) (by unfold maxLen; omega) (by omega) hs5 ?_)
          intro v3 w6 D3
          obtain ⟨o3, g3, _, _⟩ := D3
          have k6 : Keeps w w6 (fun _ => False) := K5.out.grown g3 (fun k h hk => by have := F2.out k h; omega)
          have O3 : Hid (w6.ownsRow w.heap.size 32 2 v3 (q.length + 1) (rcells (q.take (m + 1) ++ (c, x) :: q.drop (m + 1)))) := by
            rw [show q.take (m + 1) ++ (c, x) :: q.drop (m + 1) = (q.take (m + 1) ++ [(c, x)]) ++ q.drop (m + 1) by simp, rcells_append]
            rw [show (m + 1) + 1 + (q.length - (m + 1)) = q.length + 1 by omega] at o3
            exact o3
          have K6 := Lib.hid k6
          clear o3 g3 k6
          go_wp2
          go_ret
          exact ⟨v3, m + 1, rfl, hpos.out, O3.out, K6.out⟩

set_option maxHeartbeats 1000000 in
theorem refput_nil (w : World) (c : Int) (x : ByteArray) :
    Calls Try.prog 10 #[.slice none 0 0, .agg #[.int .u64 c, .string x]] w (RefPut 32 w [] c x) := by
  obtain ⟨i0, hi, hz0, hz1, hz2⟩ := info_parts Try.infoRef
  go_enter Try.func10, Try.ntmps10
  go_wp2
  have HK1 : Keeps w (w.alloc (.cells #[.int .u64 c, .string x] 32)) (fun _ => False) := (Keeps.refl w _).alloc _
  have HB1 : (w.alloc (.cells #[.int .u64 c, .string x] 32)).heap[w.heap.size]? = some (.cells #[.int .u64 c, .string x] 32 (0, 0)) := heap_alloc_new w _
  have GK1 := Lib.hid HK1
  have GB1 := Lib.hid HB1
  clear HK1 HB1
  refine wp_loop_once ?_
  go_wp2_with fail
  go_quiet (fail)
  have K3 := Lib.hid (GK1.out.drewN nq)
  have B3 : Hid (((w.alloc (.cells #[.int .u64 c, .string x] 32)).drewN nq).heap[w.heap.size]? = some (.cells #[.int .u64 c, .string x] 32 (0, 0))) := GB1.out
  generalize (w.alloc (.cells #[.int .u64 c, .string x] 32)).drewN nq = w3 at *
  clear GK1 GB1
  go_wp2_with (at_builtin; refine wpList_append_any rfl (.tmp 24) (.tmp 27) 28 28 rfl 32 i0 _ 2 24 Try.underlying28 hi hz0 hz1 hz2 rfl w.heap.size _ 0 [] rfl (World.ownsRow_nil _ _ _ _) _ 0 [] rfl (Src.ofNil _ Try.underlying28 0) (by unfold maxLen; omega) (by omega) K3.out.size ?_)
  intro v1 w4 D1
  obtain ⟨o1, g1, n1, fr1⟩ := D1
  have k4 : Keeps w w4 (fun _ => False) := K3.out.grown g1 (fun k h _ => by cases h)
  have hb4 : w4.heap[w.heap.size]? = some (.cells #[.int .u64 c, .string x] 32 (0, 0)) := (g1.block _ (block_lt B3.out) (by simp [Value.ownBlock])).trans B3.out
  have cy0 : w4.cell? ⟨w.heap.size, 0, none⟩ = some (.int .u64 c) := by rw [cell_at hb4]; rfl
  have cy1 : w4.cell? ⟨w.heap.size, 1, none⟩ = some (.string x) := by rw [cell_at hb4]; rfl
  have hs4 := block_lt hb4
  have K4 := Lib.hid k4
  obtain rfl : v1 = .slice none 0 0 := n1.2 (by simp)
  clear k4 o1 g1 n1 fr1 K3 hb4 B3
  go_wp2_with (at_builtin; refine wpList_append_any rfl (.tmp 29) (.tmp 31) 28 28 rfl 32 i0 _ 2 24 Try.underlying28 hi hz0 hz1 hz2 rfl w.heap.size _ 0 [] rfl (World.ownsRow_nil _ _ _ _) _ 1 [.int .u64 c, .string x] rfl (Src.ofReads Try.underlying28 (ReadsRow.ofOwn (World.ownsRow_lit _ #[.int .u64 c, .string x] 1 (Nat.zero_le _) (by unfold maxLen; omega) rfl)) (by intro u hu; simp only [List.mem_cons, List.not_mem_nil, or_false] at hu; rcases hu with rfl | rfl <;> rfl)) (by unfold maxLen; omega) (by omega) (by rw [hs_alloc]; omega) ?_)
  intro v2 w5 D2
  obtain ⟨o2, g2, _, fr2⟩ := D2
  have k5 : Keeps w w5 (fun _ => False) := (K4.out.alloc _).grown g2 (fun k h _ => by cases h)
  have hs5 := k5.size
  have K5 := Lib.hid k5
  have O2 : Hid (w5.ownsRow w.heap.size 32 2 v2 1 (rcells [(c, x)])) := o2
  have F2 : Hid (∀ g, v2.ownBlock = some g → w.heap.size ≤ g) := fun g hg => by
    rcases fr2 g hg with h | h
    · cases h
    · rw [hs_alloc] at h; omega
  clear k5 o2 g2 fr2 K4 cy0 cy1
  go_wp2_with (at_builtin; refine wpList_append_any rfl (.tmp 33) (.tmp 36) 28 28 rfl 32 i0 _ 2 24 Try.underlying28 hi hz0 hz1 hz2 rfl w.heap.size _ 1 (rcells [(c, x)]) rfl O2.out _ 0 [] rfl (Src.ofNil _ Try.underlying28 0) (by unfold maxLen; omega) (by omega) hs5 ?_)
  intro v3 w6 D3
  obtain ⟨o3, g3, _, _⟩ := D3
  have k6 : Keeps w w6 (fun _ => False) := K5.out.grown g3 (fun k h hk => by have := F2.out k h; omega)
  have O3 : Hid (w6.ownsRow w.heap.size 32 2 v3 1 (rcells [(c, x)])) := o3
  have K6 := Lib.hid k6
  clear o3 g3 k6
  go_wp2
  go_ret
  exact ⟨v3, 0, rfl, ⟨by simp, fun h => by simp at h, fun j h => by simp at h⟩, O3.out, K6.out⟩

theorem refput_any (w : World) (q : List (Int × ByteArray)) (v : Value) (hq : q.length ≤ 1000) (H : ReadsRow w 32 2 v q.length (rcells q)) (c : Int) (x : ByteArray) :
    Calls Try.prog 10 #[v, .agg #[.int .u64 c, .string x]] w (RefPut 32 w q c x) := by
  rcases H.forms with ⟨rfl, h0⟩ | ⟨g, off, cap, rfl, _, _⟩
  · obtain rfl : q = [] := List.eq_nil_of_length_eq_zero h0
    exact refput_nil w c x
  · exact refput_some w q g off cap hq H c x
end Go.Proofs.Ytmmoopikglbmbaa
