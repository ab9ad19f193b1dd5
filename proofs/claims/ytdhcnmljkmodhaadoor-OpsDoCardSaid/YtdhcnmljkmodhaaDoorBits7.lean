/- The walks of All and of its function value. -/
import Derived.Test.YtdhcnmljkmodhaaDoorBits6
import Derived.Test.YtdhcnmljkmodhaaDoorRange
namespace Go.Proofs.YtdhcnmljkmodhaaDoor
set_option linter.unusedSectionVars false
set_option linter.unusedVariables false
set_option linter.unusedSimpArgs false
open Go.RowKit

theorem all_any (s : BSet) (w : World) : Calls Tryd.prog 57 #[s.val] w fun e w' => e = .returned (.func (.func 65) #[] #[.pointer (some ⟨w.heap.size, 0, none⟩)]) ∧ w' = w.alloc (.cells s.cells 57) := by
  unfold BSet.val
  go_enter Tryd.func57, Tryd.ntmps57
  go_wp2
  go_ret
  exact ⟨rfl, rfl⟩

theorem bitN_get (k j : Nat) (hk : k < 64) (hj : j < 64) : (bitN k).getLsbD j = decide (j = k) := by
  unfold bitN
  simp only [BitVec.getLsbD_shiftLeft, BitVec.getLsbD_one]
  by_cases h : j = k
  · subst h; simp [hj]
  · simp [hj, h]; try omega
theorem BSet.has_not_lo {s : BSet} {j : Nat} (h : j < 64) : s.has j = s.lo.getLsbD j := by unfold BSet.has; rw [if_pos h]
theorem BSet.has_not_hi {s : BSet} {j : Nat} (h : ¬ j < 64) : s.has j = s.hi.getLsbD (j - 64) := by unfold BSet.has; rw [if_neg h]
theorem not_and_get (a b : BitVec 64) (j : Nat) (hj : j < 64) : (a &&& ~~~b).getLsbD j = (a.getLsbD j && !b.getLsbD j) := by
  rw [BitVec.getLsbD_and, BitVec.getLsbD_not]; simp [hj]
theorem has_less_one (s : BSet) (k j : Nat) (hk : k < 128) (hj : j < 128) : (s.less (BSet.one k)).has j = (s.has j && j != k) := by
  by_cases h2 : j < 64
  · rw [BSet.has_not_lo h2, BSet.has_not_lo h2]
    unfold BSet.less
    rw [not_and_get _ _ _ h2]
    congr 1
    by_cases h1 : k < 64
    · unfold BSet.one; rw [if_pos h1]
      show (!(bitN k).getLsbD j) = _
      rw [bitN_get k j h1 h2]
      by_cases h : j = k <;> simp [h]
    · unfold BSet.one; rw [if_neg h1]
      have : (j != k) = true := by rw [bne_iff_ne]; omega
      rw [this]
      show (!(0 : BitVec 64).getLsbD j) = true
      simp
  · rw [BSet.has_not_hi h2, BSet.has_not_hi h2]
    unfold BSet.less
    rw [not_and_get _ _ _ (by omega)]
    congr 1
    by_cases h1 : k < 64
    · unfold BSet.one; rw [if_pos h1]
      have : (j != k) = true := by rw [bne_iff_ne]; omega
      rw [this]
      show (!(0 : BitVec 64).getLsbD (j - 64)) = true
      simp
    · unfold BSet.one; rw [if_neg h1]
      show (!(bitN (k - 64)).getLsbD (j - 64)) = _
      rw [bitN_get (k - 64) (j - 64) (by omega) (by omega)]
      by_cases h : j = k
      · subst h; simp
      · have : ¬ (j - 64 = k - 64) := by omega
        simp [h, this]
theorem BSet.mem_lt {s : BSet} {k : Nat} (h : k ∈ s.mem) : k < 128 := by
  unfold BSet.mem at h
  rw [List.mem_filter, List.mem_range] at h
  exact h.1
theorem BSet.mem_nodup (s : BSet) : s.mem.Nodup := List.nodup_range.filter _
/-- The first is taken out: the rest. -/
theorem mem_step (t : BSet) (k : Nat) (r : List Nat) (h : t.mem = k :: r) : t.firstN = k ∧ (t.withoutN k).mem = r := by
  have hk : k < 128 := BSet.mem_lt (by rw [h]; exact List.mem_cons_self)
  refine ⟨by unfold BSet.firstN; rw [h], ?_⟩
  unfold BSet.withoutN
  rw [if_pos (by omega), Int.toNat_natCast]
  have e : (t.less (BSet.one k)).mem = t.mem.filter (· != k) := by
    unfold BSet.mem
    rw [List.filter_filter]
    apply List.filter_congr
    intro j hj
    rw [has_less_one t k j hk (List.mem_range.1 hj), Bool.and_comm]
  rw [e, h]
  have hnd := t.mem_nodup
  rw [h, List.nodup_cons] at hnd
  rw [List.filter_cons_of_neg (by simp)]
  refine List.filter_eq_self.2 (fun a ha => ?_)
  simp only [bne_iff_ne, ne_eq]
  rintro rfl
  exact hnd.1 ha
theorem mem_empty (t : BSet) : t.isEmpty = true ↔ t.mem = [] := by
  constructor
  · intro h; rw [isEmpty_iff.1 h]; decide +kernel
  · intro h
    have hl := t.mem_length
    rw [h] at hl
    rw [isEmpty_iff]
    have h0 : ∀ a : BitVec 64, (List.range 64).filter a.getLsbD = [] → a = 0 := fun a ha => by
      by_cases hz : a = 0
      · exact hz
      · obtain ⟨k, hk, hb⟩ := word_ne_zero a hz
        have := List.filter_eq_nil_iff.1 ha k (List.mem_range.2 hk)
        exact absurd hb this
    rw [BSet.mem_split] at h
    have h' := List.append_eq_nil_iff.1 h
    have a0 := h0 t.lo h'.1
    have a1 := h0 t.hi (List.map_eq_nil_iff.1 h'.2)
    cases t
    simp only at a0 a1
    rw [a0, a1]; rfl

/-- How many are left in the box B. -/
def leftOf (B : Nat) (w : World) : Nat := match w.heap[B]? with
  | some (.cells cs _ _) => (match cs[0]?, cs[1]? with
    | some (Value.int _ a), some (Value.int _ b) => (BSet.mk (BitVec.ofInt 64 a) (BitVec.ofInt 64 b)).mem.length
    | _, _ => 0)
  | _ => 0
theorem leftOf_eq {B : Nat} {w : World} {t : BSet} {ty : TypeId} {fr : Nat × Nat} (h : w.heap[B]? = some (.cells t.cells ty fr)) : leftOf B w = t.mem.length := by
  unfold leftOf
  rw [h]
  unfold BSet.cells
  show (BSet.mk (BitVec.ofInt 64 t.lo.toNat) (BitVec.ofInt 64 t.hi.toNat)).mem.length = _
  rw [ofInt_toNat, ofInt_toNat]
theorem TabOk.same {w w' : World} (h : TabOk w) (hs : w'.heap[1]? = w.heap[1]?) : TabOk w' := fun j hj => by
  rw [← h j hj]; exact World.cell?_of_block hs
end Go.Proofs.YtdhcnmljkmodhaaDoor
