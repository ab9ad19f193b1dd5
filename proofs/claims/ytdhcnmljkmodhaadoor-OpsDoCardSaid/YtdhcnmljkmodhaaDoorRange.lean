/- A range over a function whose value writes cells of its own (a captured variable): the law, after the kit's own ones (Derived/RangeFuncWrites.lean), with 'T': the blocks that the iterator may turn between two rounds, and that the body keeps. -/
import Derived.Test.YtdhcnmljkmodhaaDoorMem
import Derived.RangeFuncNested
import Derived.RangeFuncBound
import Derived.RangeFuncCalls
import Derived.RangeFuncLeaves
import Derived.Shelf.Abstract
import Derived.Shelf.RegionOpen
import Derived.WalkKit
import Derived.OwnWalkIn
import Derived.TacticsInMore
import Derived.LoopNIn
import Derived.LoopIn
namespace Go.Proofs.YtdhcnmljkmodhaaDoor
set_option linter.unusedSectionVars false
set_option linter.unusedVariables false
set_option linter.unusedSimpArgs false
open Go.RowKit Go

/-- What is said stays so while the blocks T alone turn. -/
def AbidesT {β : Type} (T : Nat → Prop) (J : β → World → Prop) : Prop := ∀ s W W', J s W → Keeps W W' T → J s W'

/-- The contract of a function value that is ranged over. S: what has come when it is at its end; Sp: what has come when a round has said 'no more'; Nx pre x: x may come behind pre. -/
def SeqMut {α : Type} (F : Fence) (n : Nat) (P : Program) (g : Nat) (lb : Array Value) (encs : α → Array Value) (T U : Nat → Prop) (S Sp : List α → Prop) (Nx : List α → α → Prop) (w : World) : Prop :=
  ∀ (l : Nat) (J Jx : List α → World → Prop) (W : World), Keeps w W (fun _ => False) → AbidesT T J → AbidesT T Jx →
    (∀ pre x W1, J pre W1 → Nx pre x → YieldAt F (n - 1) P l (encs x) W1 fun e W' =>
      (e = .returned (.bool true) ∧ J (pre ++ [x]) W' ∧ (∀ j, U j → W'.heap[j]? = W1.heap[j]?) ∧ W1.heap.size ≤ W'.heap.size) ∨ (e = .returned (.bool false) ∧ Jx (pre ++ [x]) W')) →
    J [] W →
    CallsIn F n P g (#[.func (.yield l) #[] #[]] ++ lb) W fun e W' => (∃ v, e = .returned v) ∧ ((∃ xs, S xs ∧ J xs W') ∨ (∃ pre, Sp pre ∧ Jx pre W'))

/-- The blocks that the loop itself lays: the rounds' deferred calls, the loop's record. -/
def Mine (T : Nat → Prop) (D : Nat) (j : Nat) : Prop := T j ∨ j = D ∨ j = D + 1

/-- How the body may be left. -/
def mutPost {α : Type} (U : Nat → Prop) (D : Nat) (I : List α → World → Prop) (Ix : Code → List α → World → Prop) (xs : List α) (W : World) : Exit → Act → World → Prop
  | .normal, _, W' => (∀ j, Mine U D j → W'.heap[j]? = W.heap[j]?) ∧ W.heap.size ≤ W'.heap.size ∧ I xs W'
  | .ret, _, W' => (∀ j, Mine U D j → W'.heap[j]? = W.heap[j]?) ∧ Ix .ret xs W'
  | .exit id, _, W' => (∀ j, Mine U D j → W'.heap[j]? = W.heap[j]?) ∧ Ix (.exit id) xs W'
  | .goto t, _, W' => (∀ j, Mine U D j → W'.heap[j]? = W.heap[j]?) ∧ Ix (.goto t) xs W'
  | .panic _, _, _ => False
  | .outgrown, _, _ => False

theorem Keeps.putObj {W W0 : World} {T : Nat → Prop} {l : Nat} (o : Obj) (h : Keeps W0 W T) (hl : T l) : Keeps W0 (W.putObj l o) T :=
  h.grown (grownBy_putObj' W l o) (fun k e _ => by cases e; exact hl)

variable {F : Fence} {n : Nat} {P : Program}
theorem wpIn_rangeFunc_mut {α : Type} {g : Operand} {ps : Array Tmp} {assign body : Code} {Q : Exit → Act → World → Prop} {a : Act} {w : World}
    (hro : F.round = none) (h1 : 1 ≤ n) {gf : Nat} {lb : Array Value} (hg : a.eval g = .func (.func gf) #[] lb) (hFg : F.fn gf) (eg : ∀ args w, (callFunc gf args).run P w = .ok (.enter gf args) w)
    {encs : α → Array Value} {T U : Nat → Prop} {S Sp : List α → Prop} {Nx : List α → α → Prop} (hseq : SeqMut F (n - 1) P gf lb encs T U S Sp Nx w) (hT : ∀ j, T j → j < w.heap.size) (hU : ∀ j, U j → j < w.heap.size)
    (hps : ∀ x, (encs x).size = ps.size)
    (I : List α → World → Prop) (Ix : Code → List α → World → Prop) (hI : AbidesT (Mine T w.heap.size) I) (hIx : ∀ c, AbidesT (Mine T w.heap.size) (Ix c)) (h0 : I [] w) (a₁ : α → Act)
    (hassign : ∀ (l : Nat) (x : α) (W : World) (K : Act → World → Prop), K (a₁ x) W →
      assign.wpIn (F.inRound l) (n - 1 - 1) P (Exit.then K (fun _ _ _ => False)) { tmps := (ps.zip (encs x)).foldl (fun t (p, v) => t.setIfInBounds p v) a.tmps, defers := [] } W)
    (hbody : ∀ (l : Nat) (pre : List α) (x : α) (W : World), I pre W → Nx pre x → w.heap.size + 2 ≤ W.heap.size → body.wpIn (F.inRound l) (n - 1 - 1) P (mutPost U w.heap.size I Ix (pre ++ [x]) W) (a₁ x) W)
    (hdone : ∀ (xs : List α) (W : World), S xs → I xs W → W.heap[w.heap.size]? = some (.deferred (some [])) → Q .normal { a with defers := { target := .collected w.heap.size, args := #[] } :: a.defers } W)
    (hstop : ∀ (c : Code) (pre : List α) (W : World), Sp pre → Ix c pre W → W.heap[w.heap.size]? = some (.deferred (some [])) → c.wpIn F n P Q { a with defers := { target := .collected w.heap.size, args := #[] } :: a.defers } W) :
    (Code.rangeFunc g ps assign body).wpIn F n P Q a w := by
  refine wpIn_rangeFunc ?_
  intro fn hfn
  rw [hro]
  obtain ⟨rec, hrec⟩ : ∃ rec : LoopState → Option Code → Loop, rec = fun st pe => { state := st, pending := pe, fn, tmps := a.tmps, params := ps, assign, body, defers := w.heap.size } := ⟨_, rfl⟩
  obtain ⟨W1, hW1⟩ : ∃ W1, (w.alloc (.deferred (some []))).alloc (.loop (rec .ready none)) = W1 := ⟨_, rfl⟩
  have hL1 : W1.heap[w.heap.size + 1]? = some (.loop (rec .ready none)) := by
    rw [← hW1]; have := World.alloc_heap_new (w.alloc (.deferred (some []))) (.loop (rec .ready none)); rwa [World.size_alloc] at this
  have hK1 : W1.heap[w.heap.size]? = some (.deferred (some [])) := by
    rw [← hW1]; exact (Below.heap_alloc _ _ _ (by simp)).trans (World.alloc_heap_new w _)
  have hk1 : ∀ S : Nat → Prop, Keeps w W1 S := fun S => by rw [← hW1]; exact ((Keeps.refl w S).alloc _).alloc _
  have hI1 : I [] W1 := hI _ _ _ h0 (hk1 _)
  have nU1 : ¬ U (w.heap.size + 1) := fun h => by have := hU _ h; omega
  have nT0 : ¬ T w.heap.size := fun h => by have := hT _ h; omega
  have nT1 : ¬ T (w.heap.size + 1) := fun h => by have := hT _ h; omega
  refine ⟨w.heap.size + 1, [{ target := .collected w.heap.size, args := #[] }], W1, { target := .fn (.func gf) lb, args := #[.func (.yield (w.heap.size + 1)) #[] #[]] }, W1, gf,
    #[.func (.yield (w.heap.size + 1)) #[] #[]] ++ lb, W1, ?_, ?_, ?_, ?_, fun _ => h1, ?_⟩
  · rw [← hW1, hrec]; exact run_enterLoop_outer _ _ _ _ _
  · simp only [resolve, hg]
    simp [go_sem]
  · intro f' hf'; simp [Target.leads] at hf'; subst hf'; exact hFg
  · simp [invoke, go_sem, eg]
  · have keepT : ∀ {A B : World} {j : Nat} {o : Obj}, A.heap[j]? = some o → ¬ T j → Keeps A B T → B.heap[j]? = some o :=
      fun h hn hk => (hk.block _ (Array.getElem?_eq_some_iff.1 h).1 hn).trans h
    have mono : ∀ {A B : World}, Keeps A B T → Keeps A B (Mine T w.heap.size) := fun h => h.mono (fun _ _ h => .inl h)
    refine (hseq (w.heap.size + 1)
      (fun pre W => I pre W ∧ W.heap[w.heap.size + 1]? = some (.loop (rec .ready none)) ∧ W.heap[w.heap.size]? = some (.deferred (some [])))
      (fun pre W => ∃ c, Ix c pre W ∧ W.heap[w.heap.size + 1]? = some (.loop (rec .done (some c))) ∧ W.heap[w.heap.size]? = some (.deferred (some [])))
      W1 (hk1 _)
      (fun s A B hs hk => ⟨hI s A B hs.1 (mono hk), keepT hs.2.1 nT1 hk, keepT hs.2.2 nT0 hk⟩)
      (fun s A B hs hk => by
        obtain ⟨c, hc, hl, hd⟩ := hs
        exact ⟨c, hIx c s A B hc (mono hk), keepT hl nT1 hk, keepT hd nT0 hk⟩)
      ?_ ⟨hI1, hL1, hK1⟩).mono ?_
    · rintro pre x W ⟨hi, hl, hk⟩ hnx
      have hlt : w.heap.size + 1 < W.heap.size := (Array.getElem?_eq_some_iff.1 hl).1
      have hy := run_yield (P := P) (args := encs x) hl (by rw [hrec]; exact hps x)
      rw [hrec] at hy
      refine ⟨fn, _, assign, body, hy, roundIn_of_wpIn hfn (hassign _ x W _ ⟨_, run_beginRound hl (by rw [hrec]), ?_⟩)⟩
      refine (?_ : ∀ W2, W.putObj (w.heap.size + 1) (.loop { rec .ready none with state := .busy }) = W2 → body.wpIn _ _ _ _ _ W2) _ (by rw [hrec])
      intro W2 hW2
      have hl2 : W2.heap[w.heap.size + 1]? = some (.loop { rec .ready none with state := .busy }) := by rw [← hW2]; exact World.putObj_heap_same hlt
      have hk2 : W2.heap[w.heap.size]? = some (.deferred (some [])) := by rw [← hW2]; exact (World.putObj_heap_other (by omega)).trans hk
      have hT2 : ∀ j, U j → W2.heap[j]? = W.heap[j]? := fun j hj => by rw [← hW2]; exact World.putObj_heap_other (fun e => nU1 (e ▸ hj))
      have hs2 : W2.heap.size = W.heap.size := by rw [← hW2]; simp
      have hi2 : I pre W2 := hI _ _ _ hi (by rw [← hW2]; exact (Keeps.refl W _).putObj _ (.inr (.inr rfl)))
      refine wpIn_mono (hbody _ pre x _ hi2 hnx (by omega)) ?_
      have fin : ∀ (jump : Option Code) (W3 : World), (∀ j, Mine U w.heap.size j → W3.heap[j]? = W2.heap[j]?) →
          (Instr.endRound (w.heap.size + 1) jump).run P W3 = .ok (.bool jump.isNone) (W3.putObj (w.heap.size + 1) (.loop (rec (if jump.isNone then .ready else .done) jump))) ∧
          (W3.putObj (w.heap.size + 1) (.loop (rec (if jump.isNone then .ready else .done) jump))).heap[w.heap.size + 1]? = some (.loop (rec (if jump.isNone then .ready else .done) jump)) ∧
          (W3.putObj (w.heap.size + 1) (.loop (rec (if jump.isNone then .ready else .done) jump))).heap[w.heap.size]? = some (.deferred (some [])) := fun jump W3 hk3 => by
        have hl3 := (hk3 (w.heap.size + 1) (.inr (.inr rfl))).trans hl2
        have := run_endRound (P := P) jump hl3
        rw [hrec] at this ⊢
        exact ⟨this, World.putObj_heap_same (Array.getElem?_eq_some_iff.1 hl3).1, (World.putObj_heap_other (by omega)).trans ((hk3 _ (.inr (.inl rfl))).trans hk2)⟩
      rintro e a3 W3 hp
      cases e with
      | normal =>
        obtain ⟨hk3, hsz3, hi3⟩ := hp
        obtain ⟨hr, hl4, hk4⟩ := fin none W3 hk3
        exact ⟨_, _, hr, .inl ⟨rfl, ⟨hI _ _ _ hi3 ((Keeps.refl W3 _).putObj _ (.inr (.inr rfl))), hl4, hk4⟩, fun j hj => (show (W3.putObj (w.heap.size + 1) (.loop (rec (if (none : Option Code).isNone then .ready else .done) none))).heap[j]? = W3.heap[j]? from World.putObj_heap_other (fun e => nU1 (e ▸ hj))).trans ((hk3 j (.inl hj)).trans (hT2 j hj)), by simp; omega⟩⟩
      | ret =>
        obtain ⟨hk3, hi3⟩ := hp
        obtain ⟨hr, hl4, hk4⟩ := fin (some .ret) W3 hk3
        exact ⟨_, _, hr, .inr ⟨rfl, .ret, hIx _ _ _ _ hi3 ((Keeps.refl W3 _).putObj _ (.inr (.inr rfl))), hl4, hk4⟩⟩
      | exit id =>
        obtain ⟨hk3, hi3⟩ := hp
        obtain ⟨hr, hl4, hk4⟩ := fin (some (.exit id)) W3 hk3
        exact ⟨_, _, hr, .inr ⟨rfl, .exit id, hIx _ _ _ _ hi3 ((Keeps.refl W3 _).putObj _ (.inr (.inr rfl))), hl4, hk4⟩⟩
      | goto t =>
        obtain ⟨hk3, hi3⟩ := hp
        obtain ⟨hr, hl4, hk4⟩ := fin (some (.goto t)) W3 hk3
        exact ⟨_, _, hr, .inr ⟨rfl, .goto t, hIx _ _ _ _ hi3 ((Keeps.refl W3 _).putObj _ (.inr (.inr rfl))), hl4, hk4⟩⟩
      | panic ch => exact hp.elim
      | outgrown => exact hp.elim
    · rintro e W2 ⟨⟨v, rfl⟩, (⟨xs, hS, hi, hl, hk⟩ | ⟨pre, hSp, c, hi, hl, hk⟩)⟩
      · exact ⟨none, _, by have := run_endLoop (P := P) hl (by rw [hrec]; simp); rw [hrec] at this; exact this, hdone xs _ hS (hI _ _ _ hi ((Keeps.refl W2 _).putObj _ (.inr (.inr rfl)))) ((World.putObj_heap_other (by omega)).trans hk)⟩
      · exact ⟨some c, _, by have := run_endLoop (P := P) hl (by rw [hrec]; simp); rw [hrec] at this; exact this, hstop c pre _ hSp (hIx c _ _ _ hi ((Keeps.refl W2 _).putObj _ (.inr (.inr rfl)))) ((World.putObj_heap_other (by omega)).trans hk)⟩
end Go.Proofs.YtdhcnmljkmodhaaDoor
