/- Merged for the claim, in build order: Header5, BitsOpen, HeaderOpen, Header7, Header8. -/
import Derived.Test.YtdhcnmljkmodhaaDoorOpsCheckM3
import Derived.Test.YtdhcnmljkmodhaaDoorOpsCheckM1
import Derived.Test.YtdhcnmljkmodhaaDoorOpsCheckM2
import Derived.Test.YtdhcnmljkmodhaaDoorRows
import Derived.Lib.AppendZeros
/- The walk of law 9's awake. -/
namespace Go.Proofs.YtdhcnmljkmodhaaDoor
set_option linter.unusedSectionVars false
set_option linter.unusedVariables false
set_option linter.unusedSimpArgs false
open Go.RowKit

set_option maxHeartbeats 400000 in
theorem word3 (w : World) : Calls Tryd.prog 51 #[.int .i64 3] w fun e w' => e = .returned (.string ⟨#[109, 112, 108, 115]⟩) ∧ w = w' := by
  go_enter Tryd.func51, Tryd.ntmps51
  go_wp2
  go_ret
  exact ⟨rfl, rfl⟩
theorem litI (w : World) (l : List Int) (cs : Array Value) (hcs : cs = (l.map (Value.int .i64)).toArray) (n : Nat) (hn : n = l.length) (hl : l.length ≤ 1000) : ReadsI (w.alloc (.cells cs 3)) (.slice (some ⟨w.heap.size, 0, none⟩) n n) l := by
  subst hcs hn
  exact ReadsI.lit w l _ hl

theorem awake7 (w : World) (hT : TabOk w) : Calls Tryd.prog 50 #[] w fun e w' => e = .returned (.bool true) ∧ Keeps w w' (fun _ => False) := by
  have GT := Lib.hid hT
  clear hT
  go_enter Tryd.func50, Tryd.ntmps50
  go_wp2_with fail
  refine (awake07 _ GT.out).mono ?_
  rintro e w1 ⟨rfl, k1⟩
  go_wp2
  go_ret
  exact ⟨rfl, k1⟩

set_option maxHeartbeats 1000000 in
theorem awake09 (w : World) (hT : TabOk w) : Calls Tryd.prog 39 #[] w fun e w' => e = .returned (.bool true) ∧ Keeps w w' (fun _ => False) := by
  have GT := Lib.hid hT
  have HA := Lib.hid (litI w [1, 2, 3] #[.int .i64 1, .int .i64 2, .int .i64 3] rfl 3 rfl (by simp))
  have e1 : Hid (validL [1, 2, 3] [2, 1, 0] = true) := Lib.hid (by decide)
  have e2 : Hid (validL [1, 2, 3] [2, 0] = false) := Lib.hid (by decide)
  clear hT
  go_enter Tryd.func39, Tryd.ntmps39
  go_wp2_with fail
  refine (awake7 _ (GT.out.keeps ((Keeps.refl _ _).alloc _))).mono ?_
  rintro e w1 ⟨rfl, k1⟩
  have HA1 := Lib.hid (HA.out.keeps k1)
  have K1 : Hid (Keeps w w1 (fun _ => False)) := Lib.hid (((Keeps.refl _ _).alloc _).trans k1)
  clear k1 HA
  go_wp2_with fail
  refine (valid_any _ _ _ [1, 2, 3] [2, 1, 0] (HA1.out.keeps ((Keeps.refl _ _).alloc _)) (litI w1 [2, 1, 0] _ rfl _ rfl (by simp))).mono ?_
  rintro e w2 ⟨rfl, k2⟩
  have HA2 := Lib.hid (HA1.out.keeps (((Keeps.refl _ _).alloc _).trans k2))
  have K2 : Hid (Keeps w w2 (fun _ => False)) := Lib.hid (K1.out.trans (((Keeps.refl _ _).alloc _).trans k2))
  clear k2 HA1 K1
  rw [e1.out]
  go_wp2_with fail
  refine (valid_any _ _ _ [1, 2, 3] [2, 0] (HA2.out.keeps ((Keeps.refl _ _).alloc _)) (litI w2 [2, 0] _ rfl _ rfl (by simp))).mono ?_
  rintro e w3 ⟨rfl, k3⟩
  have K3 : Hid (Keeps w w3 (fun _ => False)) := Lib.hid (K2.out.trans (((Keeps.refl _ _).alloc _).trans k3))
  clear k3 HA2 K2
  rw [e2.out]
  go_wp2_with fail
  refine (word3 _).mono ?_
  rintro e w4 ⟨rfl, rfl⟩
  go_wp2_with fail
  go_ret
  exact ⟨rfl, K3.out⟩
end Go.Proofs.YtdhcnmljkmodhaaDoor

/- A set that came in, opened. -/
namespace Go.Proofs.YtdhcnmljkmodhaaDoor
set_option linter.unusedSectionVars false
set_option linter.unusedVariables false
set_option linter.unusedSimpArgs false
open Go.RowKit Go.ChangeShapes
theorem cellsSet : Tryd.prog.cellsOf 57 = 2 := by kernel_rfl
theorem cellsU64 : Tryd.prog.cellsOf 55 = 1 := by kernel_rfl
theorem word_of (n : Int) (h : (Lit.int .u64 n).wf = true) : ∃ a : BitVec 64, n = (a.toNat : Int) := by
  simp [Lit.wf, IntKind.min, IntKind.max, IntKind.signed, IntKind.bits] at h
  refine ⟨BitVec.ofNat 64 n.toNat, ?_⟩
  rw [BitVec.toNat_ofNat]
  omega
theorem open_set {H : Type} {enc : TypeId × Value → H} {W : World} {sp : Nat → Bool} {hd : Bool} {fuel : Nat} {v : Value} {x : DataW H × List MemPlace} (h : DataW.trod enc Tryd.prog W 0 sp hd fuel 57 v.cells.toList = some x) : ∃ s : BSet, v = s.val := by
  obtain ⟨xs, m, _, _, hl, hn, hf⟩ := DataW.trod_array Tryd.underlying57 h
  rw [cellsSet] at hl
  rw [cellsU64] at hf
  obtain ⟨x0, x1, hc⟩ : ∃ x0 x1, v.cells.toList = [x0, x1] := by
    generalize v.cells.toList = cs at hl
    match cs, hl with
    | [x0, x1], _ => exact ⟨x0, x1, rfl⟩
  rw [hc] at hf
  obtain ⟨y0, y1, rfl⟩ : ∃ y0 y1, xs = [y0, y1] := by
    match xs, hn with
    | [y0, y1], _ => exact ⟨y0, y1, rfl⟩
  have h0 := hf 0 (by omega)
  have h1 := hf 1 (by omega)
  simp only [Nat.zero_mul, Nat.one_mul, List.drop_zero, List.drop_succ_cons, List.take_succ_cons, List.take_zero, List.getElem?_cons_zero, List.getElem?_cons_succ] at h0 h1
  obtain ⟨n0, e0, _, w0⟩ := DataW.trod_int Tryd.underlying55 h0
  obtain ⟨n1, e1, _, w1⟩ := DataW.trod_int Tryd.underlying55 h1
  obtain ⟨a, rfl⟩ := word_of n0 w0
  obtain ⟨b, rfl⟩ := word_of n1 w1
  simp at e0 e1
  subst e0 e1
  refine ⟨⟨a, b⟩, ?_⟩
  have hv : v.cells = #[.int .u64 a.toNat, .int .u64 b.toNat] := by
    apply Array.ext'; rw [hc]
  cases v <;> simp [Value.cells] at hv
  rw [hv]; rfl
end Go.Proofs.YtdhcnmljkmodhaaDoor

/- Lists of ints, and ints, that came in, opened. -/
namespace Go.Proofs.YtdhcnmljkmodhaaDoor
set_option linter.unusedSectionVars false
set_option linter.unusedVariables false
set_option linter.unusedSimpArgs false
set_option maxRecDepth 20000
open Go.RowKit Go.ChangeShapes Go.WideShapes
theorem cellsInt : Tryd.prog.cellsOf 3 = 1 := by kernel_rfl
theorem open_ints {H : Type} {enc : TypeId × Value → H} {W : World} {sp : Nat → Bool} {hd : Bool} {fuel : Nat} {v : Value} {x : DataW H × List MemPlace} {base : Nat}
    (hv : Value.okWide Tryd.prog W .any base 22 v) (h : DataW.trod enc Tryd.prog W 0 sp hd fuel 22 v.cells.toList = some x) : ∃ l : List Int, ReadsI W v l := by
  obtain ⟨a0, len, cap, rfl⟩ := okWide_slice Tryd.underlying22 hv
  obtain ⟨v, l, hv, HA, hR⟩ := open_list encI (fun c => True) (fun n cs y hl h => by
    obtain ⟨c, e0, _, hw⟩ := DataW.trod_int Tryd.underlying3 h
    subst e0
    exact ⟨c, rfl, trivial⟩) (fun _ => rfl) Tryd.underlying22 cellsInt (by decide) h
  obtain rfl : Value.slice a0 len cap = v := by simpa [Value.cells] using hv
  exact ⟨l, HA⟩
theorem open_int {H : Type} {enc : TypeId × Value → H} {W : World} {sp : Nat → Bool} {hd : Bool} {fuel : Nat} {v : Value} {x : DataW H × List MemPlace} {base : Nat}
    (hv : Value.okWide Tryd.prog W .any base 3 v) (h : DataW.trod enc Tryd.prog W 0 sp hd fuel 3 v.cells.toList = some x) : ∃ n : Int, v = .int .i64 n ∧ -9223372036854775808 ≤ n ∧ n ≤ 9223372036854775807 := by
  obtain ⟨m, rfl⟩ := okWide_int Tryd.underlying3 hv
  obtain ⟨n, e0, _, hw⟩ := DataW.trod_int Tryd.underlying3 h
  simp [Lit.wf, IntKind.min, IntKind.max, IntKind.signed, IntKind.bits] at hw
  simp [Value.cells] at e0
  subst e0
  exact ⟨m, rfl, by omega, by omega⟩
/-- Each end of a slice that reads as a list. -/
theorem ReadsI.drop {w : World} {g off n cap m c2 k : Nat} {l : List Int} (h : ReadsI w (.slice (some ⟨g, off, none⟩) n cap) l) (hk : k < l.length) (hm : m = l.length - k) (h2 : l.length - k ≤ c2) (h3 : c2 ≤ maxLen) :
    ReadsI w (.slice (some ⟨g, off + k, none⟩) m c2) (l.drop k) := by
  have hn := h.form
  obtain ⟨a, cap', he, _, _⟩ := hn
  simp only [Value.slice.injEq] at he
  obtain ⟨rfl, rfl, rfl⟩ := he
  subst hm
  obtain ⟨g', off', he, hg, hc⟩ := h.cell k hk
  simp only [Option.some.injEq, Addr.mk.injEq, and_true] at he
  obtain ⟨rfl, rfl⟩ := he
  have e : ∀ l : List Int, l.flatMap encI = l.map (Value.int .i64) := fun l => by
    induction l with
    | nil => rfl
    | cons a r ih => rw [List.flatMap_cons, ih]; rfl
  have hlen : (l.drop k).length = l.length - k := List.length_drop
  refine ⟨by rw [e]; simp, _, _, by rw [hlen], by omega, h3, (fun h => by cases h), fun _ => ⟨_, _, rfl, hg, fun j u hj => ?_⟩⟩
  rw [e] at hj
  simp only [List.getElem?_map, List.getElem?_drop, Option.map_eq_some_iff] at hj
  obtain ⟨x, hx, rfl⟩ := hj
  obtain ⟨hlt, rfl⟩ := List.getElem?_eq_some_iff.1 hx
  rw [Nat.add_assoc]
  exact hc (k + j) hlt
theorem open_u8 {H : Type} {enc : TypeId × Value → H} {W : World} {sp : Nat → Bool} {hd : Bool} {fuel : Nat} {v : Value} {x : DataW H × List MemPlace} {base : Nat}
    (hv : Value.okWide Tryd.prog W .any base 5 v) (h : DataW.trod enc Tryd.prog W 0 sp hd fuel 5 v.cells.toList = some x) : ∃ n : Nat, v = .int .u8 n ∧ n < 256 := by
  obtain ⟨m, rfl⟩ := okWide_int Tryd.underlying5 hv
  obtain ⟨n, e0, _, hw⟩ := DataW.trod_int Tryd.underlying5 h
  simp [Lit.wf, IntKind.min, IntKind.max, IntKind.signed, IntKind.bits] at hw
  simp [Value.cells] at e0
  subst e0
  obtain ⟨k, rfl⟩ := Int.eq_ofNat_of_zero_le (show 0 ≤ m by omega)
  exact ⟨k, rfl, by omega⟩
end Go.Proofs.YtdhcnmljkmodhaaDoor

/- The walk of header.Onto. -/
namespace Go.Proofs.YtdhcnmljkmodhaaDoor
set_option linter.unusedSectionVars false
set_option linter.unusedVariables false
set_option linter.unusedSimpArgs false
open Go.RowKit
/-- What Onto has put together ahead of the kind k. -/
def ontoT (a : Int) : Nat → BSet
  | 0 => BSet.empty
  | 1 => BSet.empty
  | k + 2 => if mayL a (k + 1 : Nat) then (ontoT a (k + 1)).withN (k + 1 : Nat) else ontoT a (k + 1)
theorem ontoT_succ (a : Int) (k : Nat) (hk : 1 ≤ k) : ontoT a (k + 1) = if mayL a k then (ontoT a k).withN k else ontoT a k := by
  match k, hk with
  | k + 1, _ => rfl
theorem onto_below (a : Int) : ontoT a 4 = belowS a := by
  by_cases h3 : a = 3
  · subst h3; kernel_rfl
  · by_cases h2 : a = 2
    · subst h2; kernel_rfl
    · have hm : ∀ b, mayL a b = false := fun b => by unfold mayL; simp [h2, h3]
      have e : belowS a = BSet.empty := by unfold belowS; rw [if_neg h3, if_neg h2]; rfl
      rw [e]
      simp [ontoT, hm]
set_option maxHeartbeats 1000000 in
theorem onto_any (a : Int) (w : World) : Calls Tryd.prog 44 #[.int .i64 a] w fun e w' => e = .returned (belowS a).val ∧ Keeps w w' (fun _ => False) := by
  rw [← onto_below a]
  have I0 := Lib.hid (upto_start w)
  have hu : (uptoM 0) = ontoT a 1 := rfl
  rw [hu] at I0
  go_enter Tryd.func44, Tryd.ntmps44
  go_wp2_with fail
  go_loopw [4] (fun t4 wr => ∃ k : Nat, t4 = .int .i64 k ∧ 1 ≤ k ∧ k ≤ 4 ∧ wr.heap[w.heap.size + 1]? = some (.cells (ontoT a k).cells 57 (0, 0)) ∧ wr.heap[w.heap.size]? = some (.cells BSet.empty.cells 57 (0, 0)) ∧ Keeps w wr (fun _ => False)) (fun t4 _ => 4 - (intOf t4).toNat)
  case atStart => exact ⟨1, rfl, by omega, by omega, I0.out⟩
  case round =>
    obtain ⟨k, rfl, hk1, hk, hb, hb0, hkp⟩ := hrel
    have GB := Lib.hid hb
    have GB0 := Lib.hid hb0
    have GK := Lib.hid hkp
    have hsz := block_lt hb
    clear hb0 hkp I0 hu
    by_cases hlt : k < 4
    · have hle : (k : Int) ≤ 3 := by omega
      have Hst := Lib.hid (ontoT_succ a k hk1)
      have hh := Lib.hid (below_has a k)
      clear hb
      go_wp2_with fail
      refine (below_any a _).mono ?_
      rintro e w2 ⟨rfl, k2⟩
      have hb2 : w2.heap[w.heap.size + 1]? = some (.cells (ontoT a k).cells 57 (0, 0)) := (k2.block _ hsz id).trans GB.out
      have hb20 : w2.heap[w.heap.size]? = some (.cells BSet.empty.cells 57 (0, 0)) := (k2.block _ (by omega) id).trans GB0.out
      have GB2 := Lib.hid hb2
      have GB20 := Lib.hid hb20
      have K2 := Lib.hid (GK.out.trans k2)
      have hsz2 := block_lt hb2
      clear hb2 hb20 k2 GB GB0 GK
      go_wp2_with fail
      refine (has_any _ _ _).mono ?_
      rintro e w3 ⟨rfl, k3⟩
      rw [hh.out]
      have hb3 : w3.heap[w.heap.size + 1]? = some (.cells (ontoT a k).cells 57 (0, 0)) := (k3.block _ hsz2 id).trans GB2.out
      have hb30 : w3.heap[w.heap.size]? = some (.cells BSet.empty.cells 57 (0, 0)) := (k3.block _ (by omega) id).trans GB20.out
      have GB3 := Lib.hid hb3
      have GB30 := Lib.hid hb30
      have K3 := Lib.hid (K2.out.trans k3)
      have hsz3 := block_lt hb3
      have x0 : w3.cell? ⟨w.heap.size + 1, 0, none⟩ = some (.int .u64 (ontoT a k).lo.toNat) := by rw [cell_at hb3]; rfl
      have x1 : w3.cell? ⟨w.heap.size + 1, 1, none⟩ = some (.int .u64 (ontoT a k).hi.toNat) := by rw [cell_at hb3]; rfl
      clear hb3 hb30 k3 GB2 GB20 K2 hh
      cases hm : mayL a k
      · have hs2 : Hid (ontoT a (k + 1) = ontoT a k) := Lib.hid (by rw [Hst.out, if_neg (by rw [hm]; decide)])
        clear Hst hm
        go_wp2_with fail
        go_roundw
        case rel => exact ⟨k + 1, by go_num, by omega, by omega, by rw [hs2.out]; exact GB3.out, GB30.out, K3.out⟩
        case measure => simp [intOf]; omega
      · have hs2 : Hid (ontoT a (k + 1) = (ontoT a k).withN k) := Lib.hid (by rw [Hst.out, if_pos hm])
        clear Hst hm
        go_wp2_with fail
        refine (with_any (ontoT a k) k _).mono ?_
        rintro e w4 ⟨rfl, k4⟩
        have hb2 : w4.heap[w.heap.size + 1]? = some (.cells (ontoT a k).cells 57 (0, 0)) := (k4.block _ hsz3 id).trans GB3.out
        have hb20 : w4.heap[w.heap.size]? = some (.cells BSet.empty.cells 57 (0, 0)) := (k4.block _ (by omega) id).trans GB30.out
        have z0 : w4.cell? ⟨w.heap.size + 1, 0, none⟩ = some (.int .u64 (ontoT a k).lo.toNat) := by rw [cell_at hb2]; rfl
        have z1 : w4.cell? ⟨w.heap.size + 1, 1, none⟩ = some (.int .u64 (ontoT a k).hi.toNat) := by rw [cell_at hb2]; rfl
        have zf : ∀ o, w4.frozen? ⟨w.heap.size + 1, o, none⟩ = false := free_at hb2
        have fin : ∀ W, W = (w4.setCell ⟨w.heap.size + 1, 0, none⟩ (.int .u64 ((ontoT a k).withN k).lo.toNat)).setCell ⟨w.heap.size + 1, 1, none⟩ (.int .u64 ((ontoT a k).withN k).hi.toNat) → W.heap[w.heap.size + 1]? = some (.cells (ontoT a (k + 1)).cells 57 (0, 0)) ∧ W.heap[w.heap.size]? = some (.cells BSet.empty.cells 57 (0, 0)) ∧ Keeps w W (fun _ => False) := by
          rintro W rfl
          refine ⟨?_, ?_, ((K3.out.trans k4).setCell (fun h => absurd h (by simp)) _).setCell (fun h => absurd h (by simp)) _⟩
          · rw [setCell_heap (setCell_heap hb2 0 _) 1 _, hs2.out]; rfl
          · rw [Below.heap_setCell _ _ _ _ (by simp), Below.heap_setCell _ _ _ _ (by simp)]; exact hb20
        have Fin := Lib.hid fin
        clear fin hb2 hb20 k4 x0 x1 GB3 GB30 K3
        unfold BSet.val
        go_wp2_with fail
        go_roundw
        case rel => exact ⟨k + 1, by go_num, by omega, by omega, Fin.out _ rfl⟩
        case measure => simp [intOf]; omega
    · obtain rfl : k = 4 := by omega
      have x0 : wr.cell? ⟨w.heap.size + 1, 0, none⟩ = some (.int .u64 (ontoT a 4).lo.toNat) := by rw [cell_at hb]; rfl
      have x1 : wr.cell? ⟨w.heap.size + 1, 1, none⟩ = some (.int .u64 (ontoT a 4).hi.toNat) := by rw [cell_at hb]; rfl
      have y0 : wr.cell? ⟨w.heap.size, 0, none⟩ = some (.int .u64 0) := by rw [cell_at GB0.out]; rfl
      have y1 : wr.cell? ⟨w.heap.size, 1, none⟩ = some (.int .u64 0) := by rw [cell_at GB0.out]; rfl
      have yf : ∀ o, wr.frozen? ⟨w.heap.size, o, none⟩ = false := free_at GB0.out
      clear hb
      go_wp2
      refine bodyPost_ret (v := (ontoT a 4).val) (by simp [results, Tryd.results44, go_sem, BSet.val, y0, y1, hsz]) rfl ⟨rfl, ?_⟩
      exact (GK.out.setCell (fun h => absurd h (by simp)) _).setCell (fun h => absurd h (by simp)) _
end Go.Proofs.YtdhcnmljkmodhaaDoor

/- The walks of slices.Grow and slices.Concat over ints. -/
namespace Go.Proofs.YtdhcnmljkmodhaaDoor
set_option linter.unusedSectionVars false
set_option linter.unusedVariables false
set_option linter.unusedSimpArgs false
set_option maxRecDepth 20000
open Go.RowKit

theorem underI : Tryd.prog.underlying 3 = some (.int .i64) := Tryd.underlying3
theorem infoInt : (Tryd.prog.info? 3).map (fun i => (i.zero, i.size, i.bytes)) = some (some (.int .i64 0), 1, 8) := by kernel_rfl
theorem infoInt' : ∃ i, Tryd.prog.info? 3 = some i ∧ i.zero = some (.int .i64 0) ∧ i.size = 1 ∧ i.bytes = 8 := by
  have h := infoInt
  cases hi : Tryd.prog.info? 3 with
  | none => rw [hi] at h; cases h
  | some i =>
    rw [hi] at h
    simp at h
    exact ⟨i, rfl, h.1, h.2.1, h.2.2⟩

/-- A row of the call's own, with what it holds. -/
def OwnPost (w : World) (xs : List Int) (e : Ending) (w' : World) : Prop :=
  ∃ v, e = .returned v ∧ w'.ownsRow w.heap.size 3 1 v xs.length (xs.map (Value.int .i64)) ∧ Keeps w w' (fun _ => False)

set_option maxHeartbeats 400000 in
theorem grow_any (w : World) (n : Nat) (h0 : 0 < n) (hn : n ≤ 1000) : Calls Tryd.prog 60 #[.slice none 0 0, .int .i64 n] w (OwnPost w []) := by
  obtain ⟨i, hi, hz, hs, hb⟩ := infoInt'
  have hr := Lib.run_append_nil_zeros (P := Tryd.prog) w 22 3 22 3 i (.int .i64 0) .i64 .i64 Tryd.underlying22 Tryd.underlying3 hi hz n h0 (by omega) (by omega) (by rw [hb]; omega)
  have HR := Lib.hid hr
  have hge := grownCap_ge w n 0 3
  have hcm : grownCap w n 0 3 ≤ maxLen := grownCap_le_maxLen w n 0 3 (by unfold maxLen; omega)
  have hblk := heap_alloc_new w.drew (.cells (Builtin.zeroCells (Value.int .i64 0).cells n ++ Builtin.zeroCells (Value.int .i64 0).cells (grownCap w n 0 3 - n)) 3)
  have hown : ((w.drew.alloc (.cells (Builtin.zeroCells (Value.int .i64 0).cells n ++ Builtin.zeroCells (Value.int .i64 0).cells (grownCap w n 0 3 - n)) 3))).ownsRow w.heap.size 3 1 (.slice (some ⟨w.heap.size, 0, none⟩) 0 (grownCap w n 0 3)) 0 [] := by
    refine ⟨rfl, .inr ⟨_, _, _, rfl, Nat.le_refl _, hblk, Nat.zero_le _, hcm, ?_, by simp⟩⟩
    rw [Array.size_append, size_zeroCells, size_zeroCells]
    simp [Value.cells]
    omega
  have HO := Lib.hid hown
  have HK : Hid (Keeps w (w.drew.alloc (.cells (Builtin.zeroCells (Value.int .i64 0).cells n ++ Builtin.zeroCells (Value.int .i64 0).cells (grownCap w n 0 3 - n)) 3)) (fun _ => False)) := Lib.hid (((Keeps.refl _ _).drew).alloc _)
  clear hr hown hblk hi hz hs hb hcm
  generalize w.drew.alloc (.cells (Builtin.zeroCells (Value.int .i64 0).cells n ++ Builtin.zeroCells (Value.int .i64 0).cells (grownCap w n 0 3 - n)) 3) = w2 at *
  generalize grownCap w n 0 3 = cp at *
  have hneg : ¬ ((n : Int) < 0) := by omega
  have hpos : (0 < (n : Int)) := by omega
  go_enter Tryd.func60, Tryd.ntmps60
  go_wp2_with (at_builtin; refine Lib.wpList_append_run _ rfl _ _ _ _ rfl _ _ rfl rfl _ _ HR.out ?_)
  refine bodyPost_ret (v := .slice (some ⟨w.heap.size, 0, none⟩) 0 cp) (by simp [results, Tryd.results60, go_sem]) rfl ⟨_, rfl, HO.out, HK.out⟩
/-- What is read as a list of ints, as the second argument of an append. -/
theorem Src.ofReadsI {w : World} {v : Value} {l : List Int} (h : ReadsI w v l) : Src Tryd.prog 1 22 v l.length (l.map (Value.int .i64)) w := by
  obtain ⟨_, a, cap, rfl, _, _, hn, h6⟩ := h
  match l with
  | [] =>
    cases a with
    | none => exact Src.ofNil _ Tryd.underlying22 cap
    | some a => exact Src.ofSlice _ Tryd.underlying22 a 0 cap [] rfl (fun j u hj => by simp at hj) (fun u hu => by cases hu)
  | x :: r =>
    obtain ⟨g, off, rfl, hg, hc⟩ := h6 (by simp)
    have e : ∀ l : List Int, l.flatMap encI = l.map (Value.int .i64) := fun l => by
      induction l with
      | nil => rfl
      | cons a r ih => rw [List.flatMap_cons, ih]; rfl
    rw [e] at hc
    refine Src.ofSlice _ Tryd.underlying22 _ _ cap _ (by simp) (fun j u hj => ?_) (fun u hu => ?_)
    · have e : ((⟨g, off, none⟩ : Addr).add j) = ⟨g, off + j, none⟩ := by
        unfold Addr.add; split
        · rename_i h; subst h; rfl
        · rfl
      rw [e]; exact hc j u hj
    · obtain ⟨_, _, rfl⟩ := List.mem_map.1 hu; rfl
/-- A row of the call's own reads as its list. -/
theorem ReadsI.ofOwn {w : World} {b n : Nat} {v : Value} {l : List Int} (hn : n = l.length) (h : w.ownsRow b 3 1 v n (l.map (Value.int .i64))) : ReadsI w v l := by
  subst hn
  have e : ∀ l : List Int, l.flatMap encI = l.map (Value.int .i64) := fun l => by
    induction l with
    | nil => rfl
    | cons a r ih => rw [List.flatMap_cons, ih]; rfl
  have hr := ReadsRow.ofOwn h
  refine ⟨by rw [e]; simp, ?_⟩
  rcases h.2 with ⟨rfl, h0⟩ | ⟨g, cap, cur, rfl, hbg, hg, r1, r2, r3, r4⟩
  · have hl : l.length = 0 := h0
    exact ⟨none, 0, by rw [hl], by omega, by unfold maxLen; omega, fun _ => ⟨hl, rfl⟩, fun h => by omega⟩
  · refine ⟨_, cap, rfl, r1, r2, (fun h => by cases h), fun _ => ⟨g, 0, rfl, block_lt hg, fun j u hj => ?_⟩⟩
    rw [e] at hj
    exact hr.cell hj

set_option maxHeartbeats 1000000 in
theorem concat_any (w : World) (x : Int) (h : List Int) (hl : h.length ≤ 100) (g : Nat) (vx vh : Value) (Hx : ReadsI w vx [x]) (Hh : ReadsI w vh h) (c0 : w.cell? ⟨g, 0, none⟩ = some vx) (c1 : w.cell? ⟨g, 1, none⟩ = some vh) :
    Calls Tryd.prog 47 #[.slice (some ⟨g, 0, none⟩) 2 2] w (OwnPost w (x :: h)) := by
  obtain ⟨i0, hi, hz, hs, hb⟩ := infoInt'
  obtain ⟨ax, capx, rfl, _, _⟩ := Hx.form
  obtain ⟨ah, caph, rfl, _, _⟩ := Hh.form
  have GX := Lib.hid Hx
  have GH := Lib.hid Hh
  have C0 := Lib.hid c0
  have C1 := Lib.hid c1
  have bb : ¬ ((1 : Int) + (h.length : Int) < 0) := by omega
  have bb2 : ¬ ((h.length : Int) + 1 < 0) := by omega
  have ecast : (1 : Int) + (h.length : Int) = ((h.length + 1 : Nat) : Int) := by omega
  have HE := Lib.hid ecast
  clear Hx Hh ecast
  go_enter Tryd.func47, Tryd.ntmps47
  go_wp2_with fail
  refine wp_loop_rounds 3 ?_
  rw [rounds_succ]
  go_wp2_with fail
  rw [rounds_succ]
  go_wp2_with fail
  rw [rounds_succ]
  go_wp2_with fail
  rw [HE.out]
  refine (grow_any w (h.length + 1) (by omega) (by omega)).mono ?_
  rintro e w1 ⟨v0, rfl, o0, k0⟩
  have O0 := Lib.hid o0
  have K0 := Lib.hid k0
  have d0 : w1.cell? ⟨g, 0, none⟩ = some (.slice ax [x].length capx) := by rw [← C0.out]; exact World.cell?_of_block (k0.block _ (World.block_lt_of_cell? w _ C0.out) id)
  have d1 : w1.cell? ⟨g, 1, none⟩ = some (.slice ah h.length caph) := by rw [← C1.out]; exact World.cell?_of_block (k0.block _ (World.block_lt_of_cell? w _ C1.out) id)
  have hgl := World.block_lt_of_cell? w _ C0.out
  have GX1 := Lib.hid (GX.out.keeps k0)
  have GH1 := Lib.hid (GH.out.keeps k0)
  have FR0 : Hid (∀ k, v0.ownBlock = some k → w.heap.size ≤ k) := Lib.hid (fun k hk => by
    rcases o0.2 with ⟨rfl, _⟩ | ⟨g', cap, cur, rfl, hbg, _⟩
    · cases hk
    · simp only [Value.ownBlock, Option.some.injEq] at hk; omega)
  clear o0 k0 c0 c1 GX
  go_wp2_with fail
  refine wp_loop_rounds 3 ?_
  rw [rounds_succ]
  go_wp2_with (at_builtin; refine wpList_append_any rfl (.tmp 31) (.tmp 32) 22 22 rfl 3 i0 _ 1 8 Tryd.underlying22 hi hz hs hb rfl w.heap.size _ 0 [] rfl O0.out _ 1 [.int .i64 x] rfl (Src.ofReadsI GX1.out) (by unfold maxLen; omega) (by omega) K0.out.size ?_)
  intro v1 w2 D1
  obtain ⟨o1, g1, _, fr1⟩ := D1
  have k1 : Keeps w w2 (fun _ => False) := K0.out.grown g1 (fun k hk hlt => by have := FR0.out k hk; omega)
  have O1 : Hid (w2.ownsRow w.heap.size 3 1 v1 (0 + 1) [.int .i64 x]) := Lib.hid (by simpa using o1)
  have FR1 : Hid (∀ k, v1.ownBlock = some k → w.heap.size ≤ k) := Lib.hid (fun k hk => by
    rcases o1.2 with ⟨rfl, _⟩ | ⟨g', cap, cur, rfl, hbg, _⟩
    · cases hk
    · simp only [Value.ownBlock, Option.some.injEq] at hk; omega)
  have K1 := Lib.hid k1
  have d1' : w2.cell? ⟨g, 1, none⟩ = some (.slice ah h.length caph) := by rw [← C1.out]; exact World.cell?_of_block (k1.block _ hgl id)
  have GH2 := Lib.hid (GH.out.keeps k1)
  clear o1 g1 fr1 k1 O0 FR0 d0 d1 GX1 GH1 K0 GH
  go_wp2_with fail
  rw [rounds_succ]
  go_wp2_with (at_builtin; refine wpList_append_any rfl (.tmp 31) (.tmp 32) 22 22 rfl 3 i0 _ 1 8 Tryd.underlying22 hi hz hs hb rfl w.heap.size _ (0 + 1) [.int .i64 x] rfl O1.out _ h.length (h.map (Value.int .i64)) rfl (Src.ofReadsI GH2.out) (by unfold maxLen; omega) (by omega) K1.out.size ?_)
  intro v2 w3 D2
  obtain ⟨o2, g2, _, fr2⟩ := D2
  have K2 : Hid (Keeps w w3 (fun _ => False)) := Lib.hid (K1.out.grown g2 (fun k hk hlt => by have := FR1.out k hk; omega))
  have O2 : Hid (w3.ownsRow w.heap.size 3 1 v2 (x :: h).length ((x :: h).map (Value.int .i64))) := Lib.hid (by
    have e : 0 + 1 + h.length = (x :: h).length := by simp only [List.length_cons]; omega
    rw [e] at o2
    exact o2)
  clear o2 g2 fr2 FR1 O1 d1' GH2 K1
  go_wp2_with fail
  rw [rounds_succ]
  go_wp2
  go_ret
  exact ⟨_, rfl, O2.out, K2.out⟩
end Go.Proofs.YtdhcnmljkmodhaaDoor
