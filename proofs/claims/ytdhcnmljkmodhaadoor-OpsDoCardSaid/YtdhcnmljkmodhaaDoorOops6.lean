/- oops.Words by its contract. -/
import Derived.Test.YtdhcnmljkmodhaaDoorOops5
import Derived.Test.YtdhcnmljkmodhaaDoorLst
import Derived.Deep.LoopGhost
namespace Go.Proofs.YtdhcnmljkmodhaaDoor
set_option linter.unusedSectionVars false
set_option linter.unusedVariables false
set_option linter.unusedSimpArgs false
open Go.RowKit Go.Extern.Stop Go.Stop Go.Extern

theorem infoStr : (Tryd.prog.info? 9).map (fun i => (i.zero, i.size, i.bytes)) = some (some (.string .empty), 1, 16) := by kernel_rfl
theorem infoStr' : ∃ i, Tryd.prog.info? 9 = some i ∧ i.zero = some (.string .empty) ∧ i.size = 1 ∧ i.bytes = 16 := by
  have h := infoStr
  cases hi : Tryd.prog.info? 9 with
  | none => rw [hi] at h; cases h
  | some i =>
    rw [hi] at h
    simp at h
    exact ⟨i, rfl, h.1, h.2.1, h.2.2⟩
/-- The words of a chain. -/
def wordsV (l : List (Nat × ByteArray)) : List Value := l.map (fun x => Value.string x.2)
theorem wordsV_snoc (l : List (Nat × ByteArray)) (x : Nat × ByteArray) : wordsV (l ++ [x]) = wordsV l ++ [.string x.2] := by unfold wordsV; simp

/-- Between two rounds. -/
structure WInv (w : World) (l : List (Nat × ByteArray)) (b : EB) (k : Nat) (v0 v3 : Value) (wr : World) : Prop where
  go : ∃ done rest, l = done ++ rest ∧ v0 = chainV rest b ∧ wr.ownsRow w.heap.size 9 1 v3 done.length (wordsV done) ∧ rest.length < k ∧ (∀ x ∈ rest, x.1 < w.heap.size)
  keep : Keeps w wr (fun _ => False)
theorem chain_lt {w : World} {l : List (Nat × ByteArray)} {b : EB} (h : ChainOk w l b) : ∀ x ∈ l, x.1 < w.heap.size := by
  induction l with
  | nil => intro x hx; cases hx
  | cons y r ih =>
    obtain ⟨p, s⟩ := y
    intro x hx
    rcases List.mem_cons.1 hx with rfl | hx
    · exact World.block_lt_of_cell? w _ h.1
    · exact ih h.2.2 x hx
theorem chain_drop {w : World} {b : EB} : ∀ (d r : List (Nat × ByteArray)), ChainOk w (d ++ r) b → ChainOk w r b
  | [], r, h => h
  | (p, s) :: d, r, h => chain_drop d r h.2.2

set_option maxHeartbeats 4000000 in
theorem words_any (l : List (Nat × ByteArray)) (b : EB) (w : World) (hg : ErrT w) (hok : ChainOk w l b) (hl : l.length ≤ 1000) :
    Calls Tryd.prog 28 #[chainV l b] w (OwnV 9 w (wordsV l)) := by
  have HG := Lib.hid hg
  have HO := Lib.hid hok
  have hlt := chain_lt hok
  clear hg hok
  obtain ⟨i0, hi, hz0, hz1, hz2⟩ := infoStr'
  have HI := Lib.hid hi
  have HZ0 := Lib.hid hz0
  have HZ1 := Lib.hid hz1
  have HZ2 := Lib.hid hz2
  have HLT := Lib.hid hlt
  clear hi hz0 hz1 hz2 hlt
  go_enter Tryd.func28, Tryd.ntmps28
  go_wp2
  go_loopg [0, 3] (l.length + 1) (fun k v0 v3 wr => WInv w l b k v0 v3 wr)
  case atStart => exact ⟨⟨[], l, rfl, rfl, World.ownsRow_nil _ _ _ _, by omega, HLT.out⟩, Keeps.refl _ _⟩
  case round =>
    obtain ⟨⟨done, rest, hdr, rfl, hrow, hk, hrl⟩, hkw⟩ := hrel
    have HDR := Lib.hid hdr
    have HR := Lib.hid hrow
    have HK := Lib.hid hkw
    have HKK := Lib.hid hk
    have HRL := Lib.hid hrl
    have HC : Hid (ChainOk (wr.alloc (.cells #[.pointer none] 74)) rest b) := Lib.hid ((chain_drop done rest (HDR.out ▸ HO.out)).keeps (hkw.alloc _))
    have HG2 : Hid (ErrT (wr.alloc (.cells #[.pointer none] 74))) := Lib.hid (HG.out.keeps (hkw.alloc _))
    have hdl : done.length ≤ 1000 := by have := congrArg List.length hdr; simp at this; omega
    clear hdr hrow hkw hk hrl
    cases rest with
    | nil =>
      go_wp2_with fail
      refine (As_place_miss b _ _ HG2.out HC.out).mono ?_
      rintro e w1 ⟨x, rfl, rfl, hk1⟩
      have K1 := Lib.hid hk1
      clear hk1
      go_wp2_with fail
      go_ret
      have hd : l = done := by rw [HDR.out, List.append_nil]
      refine ⟨_, rfl, ?_, (HK.out.alloc _).trans K1.out⟩
      have h1 := own_keeps HR.out (((Keeps.refl wr (fun _ => False)).alloc _).trans K1.out) (fun j h => h.elim)
      rw [hd]
      have e : (wordsV done).length = done.length := by unfold wordsV; simp
      rw [e]
      exact h1
    | cons y r =>
      obtain ⟨p, s⟩ := y
      go_wp2_with fail
      refine (As_place_hit p s r b _ (.pointer none) _ HG2.out (by simp) (by simp)).mono ?_
      rintro e w1 ⟨x, rfl, rfl, hk1, hc1⟩
      have K1 := Lib.hid hk1
      obtain ⟨q0, q1, q2⟩ := HC.out
      have hpl : p < w.heap.size := HRL.out (p, s) List.mem_cons_self
      have hwl := HK.out.size
      have hplr : p < wr.heap.size + 1 := by omega
      have hpne : p ≠ wr.heap.size := by omega
      have x0 : w1.cell? ⟨p, 0, none⟩ = some (.string s) := by rw [← q0]; exact World.cell?_of_block (hk1.block p (by simpa using hplr) hpne)
      have x1 : w1.cell? ⟨p, 1, none⟩ = some (chainV r b) := by rw [← q1]; exact World.cell?_of_block (hk1.block p (by simpa using hplr) hpne)
      have KW : Hid (Keeps w w1 (fun _ => False)) := Lib.hid ((HK.out.alloc _).trans' hk1 (fun j hj e => by have e : j = wr.heap.size := e; omega))
      have KR : Hid (Keeps wr w1 (fun _ => False)) := Lib.hid (((Keeps.refl wr (fun _ => False)).alloc _).trans' hk1 (fun j hj e => by have e : j = wr.heap.size := e; omega))
      have HR1 := Lib.hid (own_keeps HR.out KR.out (fun j h => h.elim))
      have c1 := chainV_one r b
      have hsz1 : wr.heap.size + 1 ≤ w1.heap.size := by have := K1.out.size; simpa using this
      clear hk1 q0 q1 q2 HG2 HC
      go_wp2_with (at_builtin; refine wpList_append_own _ rfl _ _ 52 rfl w.heap.size 9 i0 _ 1 16 Tryd.underlying52 HI.out HZ0.out HZ1.out HZ2.out rfl (by decide) _ done.length _ rfl (HR1.out.alloc _) ⟨w1.heap.size, 0, none⟩ 1 1 [.string s] rfl rfl (cell_one_new _ _ _) (by simp [Value.oneCell']) (by unfold maxLen; omega) (by omega) (by have := KW.out.size; simp; omega) ?_; intro v' w2 hown' hgrow _; have HO2 := Lib.hid hown'; have HG3 := Lib.hid hgrow; have K2 : Hid (Keeps w1 w2 (fun j => j < wr.heap.size ∧ w.heap.size ≤ j)) := Lib.hid (Keeps.grown ((Keeps.refl w1 _).alloc _) hgrow (fun k hk _ => ⟨(own_block_ge HR.out k hk).2, (own_block_ge HR.out k hk).1⟩)); have y0 : w2.cell? ⟨p, 1, none⟩ = some (chainV r b) := (by rw [← x1]; exact World.cell?_of_block (K2.out.block p (by omega) (by show ¬ (p < wr.heap.size ∧ w.heap.size ≤ p); omega))); have y1 : w2.cell? ⟨wr.heap.size, 0, none⟩ = some (.pointer (some ⟨p, 0, none⟩)) := (by rw [← hc1]; exact World.cell?_of_block (K2.out.block _ (by show wr.heap.size < _; omega) (by show ¬ (wr.heap.size < wr.heap.size ∧ w.heap.size ≤ wr.heap.size); omega))); clear hown' hgrow x0 x1 hc1)
      go_roundg (gk - 1)
      case measure =>
        have := HKK.out
        simp at this
        omega
      case rel =>
        refine ⟨⟨done ++ [(p, s)], r, by rw [HDR.out]; simp, rfl, ?_, ?_, fun x hx => HRL.out x (List.mem_cons_of_mem _ hx)⟩, KW.out.trans' K2.out (fun j hj e => by omega)⟩
        · have h := HO2.out
          rw [List.length_append, wordsV_snoc]
          exact h
        · have := HKK.out
          simp at this
          omega
end Go.Proofs.YtdhcnmljkmodhaaDoor
