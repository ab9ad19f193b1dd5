/- HeapPlays returns true for every script of acts: behind any puts and takes each is answered, and what comes first is, as the reference says. No condition. -/
import Derived.Test.YtmmoopikglbmbaaHeapAw
import Derived.Test.YtmmoopikglbmbaaHeapRef
import Derived.Test.YtmmoopikglbmbaaOpen
namespace Go.Proofs.Ytmmoopikglbmbaa.heapPlays
set_option linter.unusedSectionVars false
set_option linter.unusedVariables false
set_option linter.unusedSimpArgs false
open Go.ChangeShapes Go.WideShapes Go.ChangeAt Go.RowKit HM

structure Act3 where
  take : Bool
  cost : Int
  text : ByteArray
def enc3 (a : Act3) : List Value := [.bool a.take, .int .u64 a.cost, .string a.text]
/-- The reference's list of a sorted list. -/
def refOf (q : List (Itm ByteArray)) : List (Int × ByteArray) := q.map fun a => (a.c, a.x)

theorem ref_ins (it : Itm ByteArray) (q : List (Itm ByteArray)) (hs : Sorted q) (k : Nat) (hk : PosIs (refOf q) it.c k) : (refOf q).take k ++ (it.c, it.x) :: (refOf q).drop k = refOf (ins it q) := by
  induction q generalizing k with
  | nil =>
    have : k = 0 := by have := hk.1; simpa [refOf] using this
    subst this; rfl
  | cons a r ih =>
    obtain ⟨h1, h2, h3⟩ := hk
    have hlen : (refOf (a :: r)).length = r.length + 1 := by simp [refOf]
    unfold ins
    cases k with
    | zero =>
      have := h3 0 (by omega) (Nat.le_refl _)
      rw [if_neg (by simp [refOf] at this; omega)]
      rfl
    | succ k =>
      have hac : a.c ≤ it.c := by
        have hsort : ∀ b ∈ a :: r, a.c ≤ b.c := fun b hb => by
          have := sorted_head_le a r hs b hb
          unfold le lt at this; omega
        have hkl : k < (refOf (a :: r)).length := by omega
        have := h2 (by simpa using hkl) (by omega)
        have hm : (a :: r)[k]'(by simpa [refOf] using hkl) ∈ a :: r := List.getElem_mem _
        have h4 := hsort _ hm
        have e : ((refOf (a :: r))[k + 1 - 1]'(by simpa using hkl)).1 = ((a :: r)[k]'(by simpa [refOf] using hkl)).c := by simp only [Nat.add_sub_cancel]; unfold refOf; rw [List.getElem_map]
        omega
      rw [if_pos hac]
      have hr : PosIs (refOf r) it.c k := by
        have hlr : (refOf r).length = r.length := by simp [refOf]
        refine ⟨by omega, fun h h0 => ?_, fun j h hj => ?_⟩
        · have := h2 (by omega) (by omega)
          simp only [Nat.add_sub_cancel] at this
          obtain ⟨m, rfl⟩ : ∃ m, k = m + 1 := ⟨k - 1, by omega⟩
          simpa [refOf] using this
        · have := h3 (j + 1) (by omega) (by omega)
          simpa [refOf] using this
      have := ih hs.2 k hr
      show (a.c, a.x) :: ((refOf r).take k ++ (it.c, it.x) :: (refOf r).drop k) = (a.c, a.x) :: refOf (ins it r)
      rw [this]

/-- The reference's row lies in no block that the heap may turn. -/
theorem row_apart {w : World} {B b n : Nat} {v : Value} {xs : List Value} {f : ByteArray → Value} {q : List (Itm ByteArray)} {nx : Int} (hv : ReadsRow w 32 2 v n xs) (H : HeapQS B f w b q nx) : ∀ g, v.ownBlock = some g → ¬ MayS B w b g := by
  intro g hg hm
  obtain ⟨cs, fr, hh⟩ := hv.blk g hg
  rcases hm with rfl | ⟨_, cs', fr', hh'⟩
  · obtain ⟨l, sl, h1, _⟩ := H
    rw [h1.hd] at hh; simp at hh
  · rw [hh'] at hh; simp at hh

/-- What holds at the head of the loop. -/
structure Inv (W0 : World) (b : Nat) (k : Nat) (vq : Value) (w : World) (q : List (Itm ByteArray)) (nx : Int) : Prop where
  heap : HeapQS W0.heap.size strV w b q nx
  row : ReadsRow w 32 2 vq q.length (rcells (refOf q))
  len : q.length ≤ k
  nx1 : nx ≤ k
  keep : Keeps W0 w (fun _ => False)
  bb : W0.heap.size ≤ b


theorem Inv.put {W0 : World} {b k : Nat} {vq v' : Value} {w w2 w3 w4 : World} {q : List (Itm ByteArray)} {nx : Int} {it : Itm ByteArray} {kp : Nat} (hI : Inv W0 b k vq w q nx) (hw : it.w = nx) (k2 : Keeps w w2 (fun _ => False))
    (h3 : HeapQS W0.heap.size strV w3 b (ins it q) (nx + 1)) (k3 : Keeps w2 w3 (MayS W0.heap.size w2 b)) (hpos : PosIs (refOf q) it.c kp)
    (ho : w4.ownsRow w3.heap.size 32 2 v' ((refOf q).length + 1) (rcells ((refOf q).take kp ++ (it.c, it.x) :: (refOf q).drop kp))) (k4 : Keeps w3 w4 (fun _ => False)) :
    Inv W0 b (k + 1) v' w4 (ins it q) (nx + 1) := by
  have hs : Sorted q := by obtain ⟨l, sl, _, _, h, _⟩ := hI.heap; exact h
  have hlq : (ins it q).length = (refOf q).length + 1 := by rw [(ins_perm it q).length_eq]; simp [refOf]
  refine ⟨h3.keeps k4 (fun _ h => h.elim), ?_, ?_, ?_, ?_, hI.bb⟩
  · rw [hlq, ← ref_ins it q hs kp hpos]; exact ReadsRow.ofOwn ho
  · rw [hlq]; have := hI.len; simp only [refOf, List.length_map]; omega
  · have := hI.nx1; omega
  · refine ((hI.keep.trans k2).trans' k3 (fun j hj h => ?_)).trans k4
    rcases h with h | ⟨h, _⟩
    · have := hI.bb; omega
    · omega

theorem Inv.same {W0 : World} {b k : Nat} {vq : Value} {w w2 : World} {q : List (Itm ByteArray)} {nx : Int} (hI : Inv W0 b k vq w q nx) (k2 : Keeps w w2 (fun _ => False)) : Inv W0 b (k + 1) vq w2 q nx :=
  ⟨hI.heap.keeps k2 (fun _ h => h.elim), hI.row.keeps0 k2, by have := hI.len; omega, by have := hI.nx1; omega, hI.keep.trans k2, hI.bb⟩
theorem Inv.took {W0 : World} {b k : Nat} {vq v' : Value} {w w2 w3 : World} {a : Itm ByteArray} {q : List (Itm ByteArray)} {nx : Int} (hI : Inv W0 b k vq w (a :: q) nx) (k2 : Keeps w w2 (fun _ => False))
    (h3 : HeapQS W0.heap.size strV w3 b q nx) (k3 : Keeps w2 w3 (MayS W0.heap.size w2 b)) (hr : ReadsRow w3 32 2 v' q.length (rcells (refOf q))) : Inv W0 b (k + 1) v' w3 q nx := by
  refine ⟨h3, hr, ?_, ?_, ?_, hI.bb⟩
  · have := hI.len; simp at this; omega
  · have := hI.nx1; omega
  · refine (hI.keep.trans k2).trans' k3 (fun j hj h => ?_)
    rcases h with h | ⟨h, _⟩
    · have := hI.bb; omega
    · omega
theorem act_apart {w : World} {B b j : Nat} {cs : Array Value} {fr : Nat × Nat} {f : ByteArray → Value} {q : List (Itm ByteArray)} {nx : Int} (hh : w.heap[j]? = some (.cells cs 30 fr)) (H : HeapQS B f w b q nx) : ¬ MayS B w b j := by
  intro hm
  rcases hm with rfl | ⟨_, cs', fr', hh'⟩
  · obtain ⟨l, sl, h1, _⟩ := H
    rw [h1.hd] at hh; simp at hh
  · rw [hh'] at hh; simp at hh
theorem ref_apart {w : World} {B b j : Nat} {cs : Array Value} {fr : Nat × Nat} {f : ByteArray → Value} {q : List (Itm ByteArray)} {nx : Int} (hh : w.heap[j]? = some (.cells cs 32 fr)) (H : HeapQS B f w b q nx) : ¬ MayS B w b j := by
  intro hm
  rcases hm with rfl | ⟨_, cs', fr', hh'⟩
  · obtain ⟨l, sl, h1, _⟩ := H
    rw [h1.hd] at hh; simp at hh
  · rw [hh'] at hh; simp at hh

set_option maxRecDepth 100000 in
set_option maxHeartbeats 2000000 in
theorem walk (w : World) (v : Value) (acts : List Act3) (HA : ReadsC w 3 v acts.length (acts.flatMap enc3)) : Calls Try.prog 3 #[v] w fun e w' => e = .returned (.bool true) ∧ Below w.heap.size w w' := by
  obtain ⟨_, a, cap, rfl, hcap, hmax, _, _⟩ := id HA
  have GA := Lib.hid HA
  clear HA
  go_enter Try.func3, Try.ntmps3
  go_wp2_with fail
  refine (awake_any _).mono ?_
  rintro e w1 ⟨rfl, k1⟩
  have K1 := Lib.hid k1
  clear k1
  by_cases hlong : (200 : Int) < acts.length
  · go_wp2_with fail
    go_ret
    exact ⟨rfl, K1.out.toBelow (Nat.le_refl _) (fun _ _ h => h.elim)⟩
  · have H1 := heapQ_startS (B := w.heap.size) (f := strV) w1 K1.out.size
    have I0 : Hid (Inv w w1.heap.size 0 (.slice none 0 0) (w1.alloc (.cells #[.slice none 0 0, .int .u64 0] 27)) [] 0) :=
      ⟨H1, ReadsRow.ofOwn (World.ownsRow_nil _ 0 _ _), Nat.le_refl _, by simp, K1.out.alloc _, K1.out.size⟩
    clear H1
    go_wp2_with fail
    go_loopw [4, 22] (fun t4 t22 wr => ∃ (k : Nat) (q : List (Itm ByteArray)) (nx : Int), t22 = .int .i64 k ∧ k ≤ acts.length ∧ Inv w w1.heap.size k t4 wr q nx) (fun _ t22 _ => acts.length - (intOf t22).toNat)
    case atStart => exact ⟨0, [], 0, rfl, Nat.zero_le _, I0.out⟩
    case round =>
      obtain ⟨k, q, nx, rfl, hk, hI⟩ := hrel
      have GI := Lib.hid hI
      clear hI I0
      have hl200 : acts.length ≤ 200 := by omega
      by_cases hlt : k < acts.length
      · obtain ⟨g, off, rfl, hg, hcs⟩ : ∃ g off, a = some ⟨g, off, none⟩ ∧ g < wr.heap.size ∧ ∀ j u, (acts.flatMap enc3)[j]? = some u → wr.cell? ⟨g, off + j, none⟩ = some u := by
          obtain ⟨_, a', cap', hv, _, _, _, h6⟩ := GA.out.keeps GI.out.keep
          simp only [Value.slice.injEq] at hv
          obtain ⟨rfl, _, rfl⟩ := hv
          exact h6 (by omega)
        have c0 := hcs (k * 3 + 0) (.bool acts[k].take) (by rw [flatMap_get enc3 3 (fun _ => rfl) acts k 0 hlt (by omega)]; rfl)
        have c1 := hcs (k * 3 + 1) (.int .u64 acts[k].cost) (by rw [flatMap_get enc3 3 (fun _ => rfl) acts k 1 hlt (by omega)]; rfl)
        have c2 := hcs (k * 3 + 2) (.string acts[k].text) (by rw [flatMap_get enc3 3 (fun _ => rfl) acts k 2 hlt (by omega)]; rfl)
        rw [Nat.add_zero] at c0
        rw [← Nat.add_assoc] at c1 c2
        clear hcs hlong
        generalize acts[k] = act at c0 c1 c2
        obtain ⟨tk, cost, text⟩ := act
        simp only at c0 c1 c2
        cases q with
        | nil =>
          obtain ⟨aq, capq, hvq, _, _⟩ := GI.out.row.form1
          simp only [List.length_nil] at hvq
          subst hvq
          go_wp2_with fail
          refine (peek_noneQS (GI.out.heap.keeps (((Keeps.refl _ (fun _ => False)).alloc _).alloc _) (fun _ h => h.elim))).mono ?_
          rintro e w2 ⟨rfl, rfl⟩
          go_wp2_with fail
          refine (len_QS (GI.out.heap.keeps (((Keeps.refl _ (fun _ => False)).alloc _).alloc _) (fun _ h => h.elim))).mono ?_
          rintro e w2 ⟨rfl, rfl⟩
          rw [List.length_nil]
          cases tk
          · have HH : Hid (HeapQS w.heap.size strV ((wr.alloc (.cells #[.bool false, .int .u64 cost, .string text] 30)).alloc (.cells #[.int .u64 0, .string ⟨#[]⟩] 32)) w1.heap.size ([] : List (Itm ByteArray)) nx) := GI.out.heap.keeps (((Keeps.refl _ (fun _ => False)).alloc _).alloc _) (fun _ h => h.elim)
            have GK2 : Hid (Keeps wr ((wr.alloc (.cells #[.bool false, .int .u64 cost, .string text] 30)).alloc (.cells #[.int .u64 0, .string ⟨#[]⟩] 32)) (fun _ => False)) := ((Keeps.refl _ (fun _ => False)).alloc _).alloc _
            have GB : Hid (((wr.alloc (.cells #[.bool false, .int .u64 cost, .string text] 30)).alloc (.cells #[.int .u64 0, .string ⟨#[]⟩] 32)).heap[wr.heap.size]? = some (.cells #[.bool false, .int .u64 cost, .string text] 30 (0, 0))) := (Below.heap_alloc _ _ _ (by simp)).trans (heap_alloc_new wr _)
            have HB : ([] : List (Itm ByteArray)).length ≤ 1000 := by simp
            go_wp2_with fail
            refine (put_QS strV_one HH.out HB (by have := GI.out.nx1; omega) cost text).mono ?_
            rintro e w3 ⟨rfl, h3, k3⟩
            have hrow3 := GI.out.row.keeps (GK2.out) (fun _ _ h => h)
            have H3 := Lib.hid h3
            have K3 := Lib.hid k3
            have R3 := Lib.hid (hrow3.keeps k3 (row_apart hrow3 HH.out))
            have hb3 : w3.heap[wr.heap.size]? = some (.cells #[.bool false, .int .u64 cost, .string text] 30 (0, 0)) := (k3.block _ (block_lt GB.out) (act_apart GB.out HH.out)).trans GB.out
            have x1 : w3.cell? ⟨wr.heap.size, 1, none⟩ = some (.int .u64 cost) := by rw [cell_at hb3]; rfl
            have x2 : w3.cell? ⟨wr.heap.size, 2, none⟩ = some (.string text) := by rw [cell_at hb3]; rfl
            clear h3 k3 hrow3
            go_wp2_with fail
            refine (refput_any _ (refOf ([] : List (Itm ByteArray))) _ (by simp only [refOf, List.length_map]; exact HB) (by simpa only [refOf, List.length_map, List.length_cons, List.length_nil] using R3.out) cost text).mono ?_
            rintro e w4 ⟨v', kp, rfl, hpos, ho, k4⟩
            have hI4 : Hid (Inv w w1.heap.size (k + 1) v' w4 (ins ⟨cost, nx, text⟩ ([] : List (Itm ByteArray))) (nx + 1)) := GI.out.put rfl GK2.out H3.out K3.out hpos ho k4
            clear hpos ho k4
            go_wp2_with fail
            go_roundw
            case rel => exact ⟨k + 1, ins ⟨cost, nx, text⟩ ([] : List (Itm ByteArray)), nx + 1, by go_num, by omega, hI4.out⟩
            case measure => simp [intOf]; omega
          · have hI4 : Hid (Inv w w1.heap.size (k + 1) (.slice aq 0 capq) ((wr.alloc (.cells #[.bool true, .int .u64 cost, .string text] 30)).alloc (.cells #[.int .u64 0, .string ⟨#[]⟩] 32)) [] nx) := GI.out.same (((Keeps.refl _ (fun _ => False)).alloc _).alloc _)
            go_wp2_with fail
            refine (take_noneQS (GI.out.heap.keeps (((Keeps.refl _ (fun _ => False)).alloc _).alloc _) (fun _ h => h.elim))).mono ?_
            rintro e w2 ⟨rfl, rfl⟩
            go_wp2_with fail
            go_roundw
            case rel => exact ⟨k + 1, [], nx, by go_num, by omega, hI4.out⟩
            case measure => simp [intOf]; omega
        | cons a r =>
          obtain ⟨gq, offq, capq, hvq, hcq, hmq⟩ := GI.out.row.form2 (by simp)
          simp only [List.length_cons] at hvq hcq
          subst hvq
          have hrow := GI.out.row
          have hr0 : (rcells (refOf (a :: r)))[0]? = some (.int .u64 a.c) := rfl
          have hr1 : (rcells (refOf (a :: r)))[1]? = some (.string a.x) := rfl
          have d0 := hrow.cell hr0
          have d1 := hrow.cell hr1
          rw [Nat.add_zero] at d0
          have hgq := hrow.lt
          clear hrow hr0 hr1
          have hrl : r.length + 1 ≤ 200 := by have := GI.out.len; simp at this; omega
          go_wp2_with fail
          have GK2 : Hid (Keeps wr ((wr.alloc (.cells #[.bool tk, .int .u64 cost, .string text] 30)).alloc (.cells #[.int .u64 a.c, .string a.x] 32)) (fun _ => False)) := ((Keeps.refl _ (fun _ => False)).alloc _).alloc _
          have GB : Hid (((wr.alloc (.cells #[.bool tk, .int .u64 cost, .string text] 30)).alloc (.cells #[.int .u64 a.c, .string a.x] 32)).heap[wr.heap.size]? = some (.cells #[.bool tk, .int .u64 cost, .string text] 30 (0, 0))) := (Below.heap_alloc _ _ _ (by simp)).trans (heap_alloc_new wr _)
          have GC : Hid (((wr.alloc (.cells #[.bool tk, .int .u64 cost, .string text] 30)).alloc (.cells #[.int .u64 a.c, .string a.x] 32)).heap[wr.heap.size + 1]? = some (.cells #[.int .u64 a.c, .string a.x] 32 (0, 0))) := by have := heap_alloc_new (wr.alloc (.cells #[.bool tk, .int .u64 cost, .string text] 30)) (.cells #[.int .u64 a.c, .string a.x] 32); rw [hs_alloc] at this; exact this
          clear c0 c1 c2 d0 d1
          generalize ((wr.alloc (.cells #[.bool tk, .int .u64 cost, .string text] 30)).alloc (.cells #[.int .u64 a.c, .string a.x] 32)) = w2 at *
          refine (peek_someQS (GI.out.heap.keeps GK2.out (fun _ h => h.elim))).mono ?_
          rintro e w2' ⟨rfl, kk⟩
          have GK2' : Hid (Keeps wr w2' (fun _ => False)) := GK2.out.trans kk
          have GB' := Lib.hid ((kk.block _ (block_lt GB.out) id).trans GB.out)
          have GC' := Lib.hid ((kk.block _ (block_lt GC.out) id).trans GC.out)
          clear kk GK2 GB GC
          have HH := Lib.hid (GI.out.heap.keeps GK2'.out (fun _ h => h.elim))
          have y0 : w2'.cell? ⟨wr.heap.size, 0, none⟩ = some (.bool tk) := by rw [cell_at GB'.out]; rfl
          have y1 : w2'.cell? ⟨wr.heap.size, 1, none⟩ = some (.int .u64 cost) := by rw [cell_at GB'.out]; rfl
          have y2 : w2'.cell? ⟨wr.heap.size, 2, none⟩ = some (.string text) := by rw [cell_at GB'.out]; rfl
          have z0 : w2'.cell? ⟨wr.heap.size + 1, 0, none⟩ = some (.int .u64 a.c) := by rw [cell_at GC'.out]; rfl
          have z1 : w2'.cell? ⟨wr.heap.size + 1, 1, none⟩ = some (.string a.x) := by rw [cell_at GC'.out]; rfl
          rw [show strV a.x = .string a.x from rfl]
          go_wp2_with fail
          refine (len_QS HH.out).mono ?_
          rintro e w3' ⟨rfl, rfl⟩
          rw [List.length_cons]
          cases tk
          · have GB := GB'
            have GK2 := GK2'
            have HB : (a :: r).length ≤ 1000 := by simp; omega
            go_wp2_with fail
            refine (put_QS strV_one HH.out HB (by have := GI.out.nx1; omega) cost text).mono ?_
            rintro e w3 ⟨rfl, h3, k3⟩
            have hrow3 := GI.out.row.keeps (GK2.out) (fun _ _ h => h)
            have H3 := Lib.hid h3
            have K3 := Lib.hid k3
            have R3 := Lib.hid (hrow3.keeps k3 (row_apart hrow3 HH.out))
            have hb3 : w3.heap[wr.heap.size]? = some (.cells #[.bool false, .int .u64 cost, .string text] 30 (0, 0)) := (k3.block _ (block_lt GB.out) (act_apart GB.out HH.out)).trans GB.out
            have x1 : w3.cell? ⟨wr.heap.size, 1, none⟩ = some (.int .u64 cost) := by rw [cell_at hb3]; rfl
            have x2 : w3.cell? ⟨wr.heap.size, 2, none⟩ = some (.string text) := by rw [cell_at hb3]; rfl
            clear h3 k3 hrow3
            go_wp2_with fail
            refine (refput_any _ (refOf (a :: r)) _ (by simp only [refOf, List.length_map]; exact HB) (by simpa only [refOf, List.length_map, List.length_cons, List.length_nil] using R3.out) cost text).mono ?_
            rintro e w4 ⟨v', kp, rfl, hpos, ho, k4⟩
            have hI4 : Hid (Inv w w1.heap.size (k + 1) v' w4 (ins ⟨cost, nx, text⟩ (a :: r)) (nx + 1)) := GI.out.put rfl GK2.out H3.out K3.out hpos ho k4
            clear hpos ho k4
            go_wp2_with fail
            go_roundw
            case rel => exact ⟨k + 1, ins ⟨cost, nx, text⟩ (a :: r), nx + 1, by go_num, by omega, hI4.out⟩
            case measure => simp [intOf]; omega
          · go_wp2_with fail
            refine (take_someQS strV_one HH.out (by simp; omega)).mono ?_
            rintro e w3 ⟨rfl, h3, k3⟩
            have hb3 : w3.heap[wr.heap.size + 1]? = some (.cells #[.int .u64 a.c, .string a.x] 32 (0, 0)) := (k3.block _ (block_lt GC'.out) (ref_apart GC'.out HH.out)).trans GC'.out
            have x1 : w3.cell? ⟨wr.heap.size + 1, 0, none⟩ = some (.int .u64 a.c) := by rw [cell_at hb3]; rfl
            have x2 : w3.cell? ⟨wr.heap.size + 1, 1, none⟩ = some (.string a.x) := by rw [cell_at hb3]; rfl
            have hrow2 := GI.out.row.keeps (GK2'.out) (fun _ _ h => h)
            have R3 := Lib.hid (hrow2.keeps k3 (row_apart hrow2 HH.out))
            have H3 := Lib.hid h3
            have K3 := Lib.hid k3
            clear h3 k3 hb3 hrow2
            rw [show strV a.x = .string a.x from rfl]
            by_cases hc1 : capq = 1
            · subst hc1
              obtain rfl : r = [] := List.eq_nil_of_length_eq_zero (by omega)
              have hI4 : Hid (Inv w w1.heap.size (k + 1) (.slice (some ⟨gq, offq, none⟩) 0 0) w3 [] nx) := GI.out.took GK2'.out H3.out K3.out (R3.out.empty offq 0 rfl (by omega))
              go_wp2_with fail
              go_roundw
              case rel => exact ⟨k + 1, [], nx, by go_num, by omega, hI4.out⟩
              case measure => simp [intOf]; omega
            · have hc2 : 1 < capq := by omega
              clear hc1
              have hI4 : Hid (Inv w w1.heap.size (k + 1) (.slice (some ⟨gq, offq + 2, none⟩) r.length (capq - 1)) w3 r nx) := GI.out.took GK2'.out H3.out K3.out (R3.out.drop 1 (by simp))
              go_wp2_with fail
              go_roundw
              case rel => exact ⟨k + 1, r, nx, by go_num, by omega, hI4.out⟩
              case measure => simp [intOf]; omega
      · have hke : k = acts.length := by omega
        obtain ⟨aq, capq, rfl, _, _⟩ := GI.out.row.form1
        clear hlong
        go_wp2_with fail
        refine (len_QS GI.out.heap).mono ?_
        rintro e w2 ⟨rfl, rfl⟩
        go_wp2_with fail
        go_ret
        exact ⟨rfl, GI.out.keep.toBelow (Nat.le_refl _) (fun _ _ h => h.elim)⟩
theorem cells30a : Try.prog.cellsOf 30 = 3 := by kernel_rfl
theorem cells1b : Try.prog.cellsOf 4 = 1 := by kernel_rfl
theorem cells1u : Try.prog.cellsOf 25 = 1 := by kernel_rfl
theorem cells1s : Try.prog.cellsOf 9 = 1 := by kernel_rfl
theorem own : ownKnob Try.prog.godebug = none := by kernel_rfl
theorem contract (H : Type) (enc : TypeId × Value → H) (W : World) (base : Nat) (args : Array Value) (ds gs : List (DataW H)) (before : List MemPlace)
    (hval : ∀ (j : Nat) t v, Try.f3.params[j]? = some t → args[j]? = some v → Value.okWide Try.prog W .any base t v)
    (hW : DataW.Whole enc Try.prog Try.f3.params.toList Rows.heapPlaysSpec.vars false W args.toList ds gs before) :
    Calls Try.prog 3 args W fun e W' => ∃ v, e = .returned v ∧ Rows.heapPlaysSpec.post enc Try.prog Try.f3 false true false false W args v W' := by
  have hW0 := hW
  obtain ⟨p, q, hA, hV, rfl, hfz, hnd⟩ := hW
  rw [Try.params3] at hA hval
  obtain ⟨v0, vs0, d0, ds0, p0, q0, hargs0, rfl, rfl, h0, r0⟩ := trodAll_cons hA
  obtain ⟨rfl, rfl, rfl⟩ := trodAll_nil r0
  obtain rfl : args = #[v0] := by cases args; simp_all
  obtain ⟨rfl, rfl⟩ := trodVars_none hV
  obtain ⟨a0, len, cap, rfl⟩ := okWide_slice Try.underlying22 (hval 0 22 v0 rfl rfl)
  obtain ⟨fuel, hf⟩ := h0
  obtain ⟨v, acts, hv, HA, _⟩ := open_list enc3 (fun _ => True) (fun n cs y hl h => by
    match cs, hl with
    | [x0, x1, x2], _ =>
      obtain ⟨y0, y1, y2, m, _, _, t0, t1, t2⟩ := Go.Deep.trod_struct3 Try.underlying30 h
      obtain ⟨b, e0, _⟩ := DataW.trod_bool Try.underlying4 t0
      obtain ⟨c, e1, _, _⟩ := DataW.trod_int Try.underlying25 t1
      obtain ⟨s, e2, _, _⟩ := DataW.trod_string Try.underlying9 t2
      simp [cells1b, cells1u, cells1s] at e0 e1 e2
      subst e0 e1 e2
      exact ⟨⟨b, c, s⟩, rfl, trivial⟩) (fun _ => rfl) Try.underlying22 cells30a (by decide) hf
  obtain rfl : Value.slice a0 len cap = v := by simpa [Value.cells] using hv
  refine (walk W _ acts HA).mono fun e W' ⟨he, hb⟩ => ⟨_, he, ?_⟩
  exact law_post (by kernel_rfl) (by kernel_rfl) (by kernel_rfl) rfl Try.underlying4 hW0 hb rfl

set_option maxRecDepth 100000 in
theorem lifted (os : Os) (started : os.Started) (H : Type) (enc : TypeId × Value → H) :
    ReturnsInHanded {} Try.checked os 3 .any (Rows.heapPlaysSpec.pre6 enc Try.prog Try.f3 Rows.heapPlaysRow.domain false) (Rows.heapPlaysSpec.post enc Try.prog Try.f3 false true false false) := by
  refine returnsInHanded_of_change (C := Try.checked) own started (by kernel_rfl) Try.func3
    (ChangeSpec.witness6 (enc := enc) (C := Try.checked) false ⟨#[], #[.slice none 0 0], []⟩ 8 (by kernel_rfl) (by kernel_rfl) (by kernel_rfl) (by kernel_rfl)) ?_
  intro W base args ds gs before hval hW _ _
  exact contract H enc W base args ds gs before hval hW

theorem over : Rows.heapPlaysRow.holds Try.pinned (OpenSpec.ofChange Rows.heapPlaysSpec) :=
  OpenClaim.holds_of_wide 3 Try.f3 rfl rfl rfl rfl rfl rfl rfl ⟨rfl, rfl, rfl, rfl, rfl⟩ rfl rfl rfl rfl rfl (by kernel_rfl) Try.func3 (by kernel_rfl)
    (of_decide_eq_true (by kernel_rfl)) (by unfold Func.isWrapper; first | (rw [if_pos (by decide +kernel)]; kernel_rfl) | (rw [if_neg (by decide +kernel)]; exact ⟨rfl, rfl⟩))
    (fun os started H enc _ => lifted os started H enc)

theorem proved : Rows.HeapPlaysSaid :=
  over
end Go.Proofs.Ytmmoopikglbmbaa.heapPlays
