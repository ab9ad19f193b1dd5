/- fairleadlaw01.of by its contract. -/
import Derived.Test.YtjjokjdhllgohaaDoorOops7
namespace Go.Proofs.YtjjokjdhllgohaaDoor
set_option linter.unusedSectionVars false
set_option linter.unusedVariables false
set_option linter.unusedSimpArgs false
open Go.RowKit Go.Extern.Stop Go.Stop Go.Extern

theorem ChainOk.keepsS {w w' : World} {S : Nat → Prop} {l : List (Nat × ByteArray)} {g : Nat} {c a : Int} (h : ChainOk w l (.fault g c a)) (hk : Keeps w w' S) (hS : ∀ x ∈ l, ¬ S x.1) (hg : ¬ S g) : ChainOk w' l (.fault g c a) := by
  have cell : ∀ (j o : Nat) (v : Value), w.cell? ⟨j, o, none⟩ = some v → ¬ S j → w'.cell? ⟨j, o, none⟩ = some v := fun j o v h hs => by
    rw [← h]; exact World.cell?_of_block (hk.block j (World.block_lt_of_cell? w _ h) hs)
  induction l with
  | nil => exact ⟨cell _ _ _ h.1 hg, cell _ _ _ h.2 hg⟩
  | cons x r ih =>
    obtain ⟨p, s⟩ := x
    exact ⟨cell _ _ _ h.1 (hS (p, s) List.mem_cons_self), cell _ _ _ h.2.1 (hS (p, s) List.mem_cons_self), ih h.2.2 (fun y hy => hS y (List.mem_cons_of_mem _ hy))⟩
def ixV : Nat → Value
  | 0 => .int .i64 (-1)
  | j + 1 => .int .i64 (j : Int)
theorem ixV_eq (j : Nat) : Value.int .i64 ((j : Int) - 1) = ixV j := by
  cases j with
  | zero => rfl
  | succ j => unfold ixV; congr 1; omega

/-- An error of these words over a fault. -/
def OfPost (w : World) (c a : Int) (ws : List ByteArray) (v : Value) (e : Ending) (w' : World) : Prop :=
  ∃ l g, e = .returned (.tuple #[chainV l (.fault g c a), .agg #[.int .i64 c, .int .i64 a, v]]) ∧ l.map (·.2) = ws ∧ ChainOk w' l (.fault g c a) ∧ Keeps w w' (fun _ => False)
/-- Between two rounds. -/
structure OInv (w w1 : World) (g : Nat) (c a : Int) (ws : List ByteArray) (k : Nat) (v8 v9 : Value) (wr : World) : Prop where
  go : ∃ j l, j ≤ ws.length ∧ v9 = ixV j ∧ l.map (fun (x : Nat × ByteArray) => x.2) = ws.drop j ∧ v8 = chainV l (.fault g c a) ∧ ChainOk wr l (.fault g c a) ∧ (∀ x ∈ l, w.heap.size < x.1) ∧ j < k
  keep : Keeps w1 wr (fun _ => False)

set_option maxHeartbeats 4000000 in
theorem of_some (c a : Int) (hc : (c == 0) = false) (ws : List ByteArray) (v : Value) (w : World) (hws : RdV w v (ws.map Value.string)) (hl : ws.length ≤ 20) :
    Calls Tryd.prog 9 #[.int .i64 c, .int .i64 a, v] w (OfPost w c a ws v) := by
  obtain ⟨ad, cap, e1, hcap, _⟩ := hws.form
  rw [List.length_map] at e1 hcap
  subst e1
  have HW := Lib.hid hws
  have HCc := Lib.hid hc
  have hc0 : ¬ (c = 0) := by simpa using hc
  clear hws
  go_enter Tryd.func9, Tryd.ntmps9
  go_wp2_with fail
  refine (new_some c a hc _).mono ?_
  rintro e w1 ⟨rfl, hw1⟩
  have hsz : (w.alloc (.cells #[.int .i64 0, .int .i64 0, .slice none 0 0] 28)).heap.size = w.heap.size + 1 := by simp
  have HSZ := Lib.hid hsz
  rw [hsz]
  have K1 : Hid (Keeps w w1 (fun _ => False)) := Lib.hid (by rw [hw1]; exact ((Keeps.refl _ _).alloc _).alloc _)
  have C1 : Hid (ChainOk w1 [] (.fault (w.heap.size + 1) c a)) := Lib.hid (by
    have h := ChainOk.fault (w.alloc (.cells #[.int .i64 0, .int .i64 0, .slice none 0 0] 28)) c a 44
    rw [HSZ.out] at h
    rw [hw1]
    exact h)
  have B1 : Hid (w1.heap[w.heap.size]? = some (.cells #[.int .i64 0, .int .i64 0, .slice none 0 0] 28 (0, 0))) := Lib.hid (by
    rw [hw1]; exact (Below.heap_alloc _ _ _ (by simp)).trans (heap_alloc_new w _))
  clear hw1 hc hsz
  go_wp2_with fail
  go_loopg [8, 9] (ws.length + 1) (fun k v8 v9 wr => OInv w w1 (w.heap.size + 1) c a ws k v8 v9 wr)
  case atStart =>
    exact ⟨⟨ws.length, [], Nat.le_refl _, ixV_eq _, by simp, rfl, C1.out, (fun x hx => by cases hx), by omega⟩, Keeps.refl _ _⟩
  case round =>
    obtain ⟨⟨j, l, hj, rfl, hmap, rfl, hch, hgt, hk⟩, hkw⟩ := hrel
    have HM := Lib.hid hmap
    have HC := Lib.hid hch
    have HGT := Lib.hid hgt
    have HK := Lib.hid hkw
    have HKK := Lib.hid hk
    clear hmap hch hgt hkw hk
    cases j with
    | zero =>
      rw [show ixV 0 = .int .i64 (-1) from rfl]
      have hb := (HK.out.block _ (block_lt B1.out) id).trans B1.out
      have c0 : wr.cell? ⟨w.heap.size, 0, none⟩ = some (.int .i64 0) := by rw [cell_at hb]; rfl
      have c1 : wr.cell? ⟨w.heap.size, 1, none⟩ = some (.int .i64 0) := by rw [cell_at hb]; rfl
      have c2 : wr.cell? ⟨w.heap.size, 2, none⟩ = some (.slice none 0 0) := by rw [cell_at hb]; rfl
      have f0 : ∀ o, wr.frozen? ⟨w.heap.size, o, none⟩ = false := free_at hb
      clear hb
      go_wp2_with fail
      have fin : ∀ w', w' = ((wr.setCell ⟨w.heap.size, 0, none⟩ (.int .i64 c)).setCell ⟨w.heap.size, 1, none⟩ (.int .i64 a)).setCell ⟨w.heap.size, 2, none⟩ (.slice ad ws.length cap) →
          Keeps w w' (fun _ => False) ∧ ChainOk w' l (.fault (w.heap.size + 1) c a) := fun w' hw' => by
        have kk : Keeps wr w' (fun j => j = w.heap.size) := by
          rw [hw']
          exact Keeps.setCell (S := fun j => j = w.heap.size) (p := ⟨w.heap.size, 2, none⟩) (Keeps.setCell (S := fun j => j = w.heap.size) (p := ⟨w.heap.size, 1, none⟩) (Keeps.setCell (S := fun j => j = w.heap.size) (p := ⟨w.heap.size, 0, none⟩) (Keeps.refl _ _) (fun _ => rfl) _) (fun _ => rfl) _) (fun _ => rfl) _
        exact ⟨(K1.out.trans HK.out).trans' kk (fun j hj e => by omega), HC.out.keepsS kk (fun x hx e => by have := HGT.out x hx; omega) (by omega)⟩
      refine bodyPost_ret (v := .tuple #[chainV l (.fault (w.heap.size + 1) c a), .agg #[.int .i64 c, .int .i64 a, .slice ad ws.length cap]]) (by simp [results, Tryd.results9, go_sem, c0, c1, c2, f0]) rfl ⟨l, w.heap.size + 1, rfl, by rw [HM.out]; rfl, (fin _ rfl).2, (fin _ rfl).1⟩
    | succ j =>
      rw [show ixV (j + 1) = .int .i64 (j : Int) from rfl]
      obtain ⟨gw, off, rfl, -, hgw, hcell⟩ := HW.out.at (by simp; omega)
      have hjl : j < ws.length := by omega
      obtain ⟨s, hs⟩ : ∃ s, ws[j] = s := ⟨_, rfl⟩
      have x0 : wr.cell? ⟨gw, off + j, none⟩ = some (.string s) := by
        have h := hcell j (.string s) (by simp [hjl, hs])
        rw [← h]
        exact World.cell?_of_block ((K1.out.trans HK.out).block gw hgw id)
      have HS := Lib.hid hs
      clear hcell hgw hs
      go_wp2_with fail
      refine (in_some _ _ _ _).mono ?_
      rintro e w2 ⟨rfl, hw2⟩
      have K2 : Hid (Keeps wr w2 (fun _ => False)) := Lib.hid (by rw [hw2]; exact (Keeps.refl _ _).alloc _)
      have C2 : Hid (ChainOk w2 ((wr.heap.size, s) :: l) (.fault (w.heap.size + 1) c a)) := Lib.hid (by rw [hw2]; exact HC.out.cons _ _)
      clear hw2 x0
      go_wp2_with fail
      go_roundg (gk - 1)
      case measure => have := HKK.out; omega
      case rel =>
        refine ⟨⟨j, (wr.heap.size, s) :: l, by omega, ixV_eq _, ?_, rfl, C2.out, ?_, by have := HKK.out; omega⟩, HK.out.trans K2.out⟩
        · rw [List.map_cons, HM.out, ← HS.out]
          exact (List.drop_eq_getElem_cons (by omega)).symm
        · intro x hx
          rcases List.mem_cons.1 hx with rfl | hx
          · have := HK.out.size
            have := block_lt B1.out
            show w.heap.size < wr.heap.size
            omega
          · exact HGT.out x hx

set_option maxHeartbeats 4000000 in
theorem of_zero (a : Int) (ws : List ByteArray) (v : Value) (w : World) (hws : RdV w v (ws.map Value.string)) (hl : ws.length ≤ 20) :
    Calls Tryd.prog 9 #[.int .i64 0, .int .i64 a, v] w fun e w' => e = .returned (.tuple #[.nilIface, .agg #[.int .i64 0, .int .i64 0, .slice none 0 0]]) ∧ Keeps w w' (fun _ => False) := by
  obtain ⟨ad, cap, e1, hcap, _⟩ := hws.form
  rw [List.length_map] at e1 hcap
  subst e1
  have HW := Lib.hid hws
  clear hws
  go_enter Tryd.func9, Tryd.ntmps9
  go_wp2_with fail
  refine (new_zero a _).mono ?_
  rintro e w1 ⟨rfl, hw1⟩
  have B1 : Hid (w1.heap[w.heap.size]? = some (.cells #[.int .i64 0, .int .i64 0, .slice none 0 0] 28 (0, 0))) := Lib.hid (by
    rw [← hw1]; exact heap_alloc_new w _)
  have K1 : Hid (Keeps w w1 (fun _ => False)) := Lib.hid (by rw [← hw1]; exact (Keeps.refl _ _).alloc _)
  clear hw1
  go_wp2_with fail
  go_loopg [8, 9] (ws.length + 1) (fun k v8 v9 wr => ∃ j, j ≤ ws.length ∧ v9 = ixV j ∧ v8 = .nilIface ∧ wr = w1 ∧ j < k)
  case atStart =>
    exact ⟨ws.length, Nat.le_refl _, ixV_eq _, rfl, rfl, by omega⟩
  case round =>
    obtain ⟨j, hj, rfl, rfl, rfl, hk⟩ := hrel
    have HKK := Lib.hid hk
    clear hk
    cases j with
    | zero =>
      rw [show ixV 0 = .int .i64 (-1) from rfl]
      have hb := B1.out
      have c0 : wr.cell? ⟨w.heap.size, 0, none⟩ = some (.int .i64 0) := by rw [cell_at hb]; rfl
      have c1 : wr.cell? ⟨w.heap.size, 1, none⟩ = some (.int .i64 0) := by rw [cell_at hb]; rfl
      have c2 : wr.cell? ⟨w.heap.size, 2, none⟩ = some (.slice none 0 0) := by rw [cell_at hb]; rfl
      have f0 : ∀ o, wr.frozen? ⟨w.heap.size, o, none⟩ = false := free_at hb
      clear hb
      go_wp2_with fail
      refine bodyPost_ret (v := .tuple #[.nilIface, .agg #[.int .i64 0, .int .i64 0, .slice none 0 0]]) (by simp [results, Tryd.results9, go_sem, c0, c1, c2, f0]) rfl ⟨rfl, ?_⟩
      have kk := Keeps.setCell (S := fun j => j = w.heap.size) (p := ⟨w.heap.size, 2, none⟩) (Keeps.setCell (S := fun j => j = w.heap.size) (p := ⟨w.heap.size, 1, none⟩) (Keeps.setCell (S := fun j => j = w.heap.size) (p := ⟨w.heap.size, 0, none⟩) (Keeps.refl wr _) (fun _ => rfl) (.int .i64 0)) (fun _ => rfl) (.int .i64 0)) (fun _ => rfl) (.slice none 0 0)
      exact K1.out.trans' kk (fun j hj e => by omega)
    | succ j =>
      rw [show ixV (j + 1) = .int .i64 (j : Int) from rfl]
      obtain ⟨gw, off, rfl, -, hgw, hcell⟩ := HW.out.at (by simp; omega)
      have hjl : j < ws.length := by omega
      obtain ⟨s, hs⟩ : ∃ s, ws[j] = s := ⟨_, rfl⟩
      have x0 : wr.cell? ⟨gw, off + j, none⟩ = some (.string s) := by
        have h := hcell j (.string s) (by simp [hjl, hs])
        rw [← h]
        exact World.cell?_of_block (K1.out.block gw hgw id)
      clear hcell hgw hs
      go_wp2_with fail
      refine (in_nil _ _).mono ?_
      rintro e w2 ⟨rfl, rfl⟩
      clear x0
      go_wp2_with fail
      go_roundg (gk - 1)
      case measure => have := HKK.out; omega
      case rel => exact ⟨j, by omega, ixV_eq _, rfl, rfl, by have := HKK.out; omega⟩
end Go.Proofs.YtjjokjdhllgohaaDoor
