/- A range over a function whose iterator keeps its state in one block of cells, b: what the loop does, from the iterator's word and the body's. No function of the program stands here. -/
import Derived.Test.YtnppdcegpojmbaaGreatDoorRow
import Derived.RangeFuncNested
namespace Go.Proofs.YtnppdcegpojmbaaGreatDoor
open Go Go.RowKit
/-- What a round leaves as it was: block b, what lies at or behind N, and what is no cells and lies at or behind B. -/
structure Kept (B b N : Nat) (W W' : World) : Prop where
  size : W.heap.size ≤ W'.heap.size
  same : ∀ k o, W.heap[k]? = some o → (k = b ∨ N ≤ k ∨ (B ≤ k ∧ o.isCells = false)) → W'.heap[k]? = some o
/-- An iterator that has its state in block b, and yields all of xs: each round leaves b as it was. -/
def IterState {α : Type} (F : Fence) (n : Nat) (P : Program) (g : Nat) (lb : Array Value) (encs : α → Array Value) (b : Nat) (T : World → Prop) (xs : List α) (w : World) : Prop :=
  ∀ (l : Nat) (J : List α → World → Prop) (W : World), Off None w W → (∀ pre W1 W2, J pre W1 → Off (Only b) W1 W2 → J pre W2) → (∀ pre W1, J pre W1 → T W1) →
    (∀ pre x post W0 W1, xs = pre ++ x :: post → J pre W0 → Off (Only b) W0 W1 → YieldAt F (n - 1) P l (encs x) W1 fun e W' =>
      e = .returned (.bool true) ∧ J (pre ++ [x]) W' ∧ ∀ k o, W1.heap[k]? = some o → (k = b ∨ W0.heap.size ≤ k) → W'.heap[k]? = some o) →
    J [] W → CallsIn F n P g (#[.func (.yield l) #[] #[]] ++ lb) W fun e W' => (∃ v, e = .returned v) ∧ J xs W'
theorem off_putObj {w : World} {l : Nat} (o : Obj) : Off (Only l) w (w.putObj l o) :=
  ⟨rfl, rfl, rfl, by simp [World.putObj], fun k _ hn => World.putObj_heap_other (fun e => hn e)⟩
variable {F : Fence} {n : Nat} {P : Program}
theorem wpIn_rangeFunc_state {α : Type} {g : Operand} {ps : Array Tmp} {assign body : Code} {Q : Exit → Act → World → Prop} {a : Act} {w : World}
    (hro : F.round = none) (h1 : 1 ≤ n) {gf : Nat} {lb : Array Value} (hg : a.eval g = .func (.func gf) #[] lb) (hFg : F.fn gf) (eg : ∀ args w, (callFunc gf args).run P w = .ok (.enter gf args) w)
    {encs : α → Array Value} {b : Nat} {T : World → Prop} {xs : List α} (hbl : b < w.heap.size) (hseq : IterState F (n - 1) P gf lb encs b T xs w) (hps : ∀ x, (encs x).size = ps.size)
    (I : Nat → List α → World → Prop)
    (hI : ∀ N pre W1 W2 k, I N pre W1 → (k = b ∨ (w.heap.size ≤ k ∧ ∃ o, W1.heap[k]? = some o ∧ o.isCells = false)) → Off (Only k) W1 W2 → I N pre W2) (hIn : ∀ N pre W1 o, I N pre W1 → I N pre (W1.alloc o))
    (hN : ∀ N pre W1, I N pre W1 → I W1.heap.size pre W1) (hT : ∀ N pre W1, I N pre W1 → T W1) (h0 : I w.heap.size [] w)
    (Ax : Nat → α → Act → World → Prop) (hAx : ∀ N x a' W1 W2 k, Ax N x a' W1 → (∃ o, W1.heap[k]? = some o ∧ o.isCells = false) → Off (Only k) W1 W2 → Ax N x a' W2)
    (hassign : ∀ (l N : Nat) (pre : List α) (x : α) (W : World) (K : Act → World → Prop), N ≤ W.heap.size → I N pre W → (∀ a' W', Off None W W' → I N pre W' → Ax N x a' W' → K a' W') →
      assign.wpIn (F.inRound l) (n - 1 - 1) P (Exit.then K (fun _ _ _ => False)) { tmps := (ps.zip (encs x)).foldl (fun t (p, v) => t.setIfInBounds p v) a.tmps, defers := [] } W)
    (hbody : ∀ (l N : Nat) (pre : List α) (x : α) (post : List α) (a' : Act) (W : World), w.heap.size ≤ l → w.heap.size ≤ N → N ≤ W.heap.size → xs = pre ++ x :: post → I N pre W → Ax N x a' W →
      body.wpIn (F.inRound l) (n - 1 - 1) P (fun e _ W' => e = .normal ∧ Kept w.heap.size b N W W' ∧ I W'.heap.size (pre ++ [x]) W') a' W)
    (hdone : ∀ (D : Nat) (W : World), w.heap.size ≤ D → I W.heap.size xs W → W.heap[D]? = some (.deferred (some [])) → Q .normal { a with defers := { target := .collected D, args := #[] } :: a.defers } W) :
    (Code.rangeFunc g ps assign body).wpIn F n P Q a w := by
  refine wpIn_rangeFunc ?_
  intro fn hfn
  rw [hro]
  obtain ⟨rec, hrec⟩ : ∃ rec : LoopState → Option Code → Loop, rec = fun st pe => { state := st, pending := pe, fn, tmps := a.tmps, params := ps, assign, body, defers := w.heap.size } := ⟨_, rfl⟩
  obtain ⟨W1, hW1⟩ : ∃ W1, (w.alloc (.deferred (some []))).alloc (.loop (rec .ready none)) = W1 := ⟨_, rfl⟩
  have hL1 : W1.heap[w.heap.size + 1]? = some (.loop (rec .ready none)) := by
    rw [← hW1]; have := World.alloc_heap_new (w.alloc (.deferred (some []))) (.loop (rec .ready none)); rwa [World.size_alloc] at this
  have hK1 : W1.heap[w.heap.size]? = some (.deferred (some [])) := by
    rw [← hW1]; exact Heap.alloc_old (Heap.alloc_new w _) _
  have hI1 : I W1.heap.size [] W1 := hN w.heap.size _ _ (by rw [← hW1]; exact hIn _ _ _ _ (hIn _ _ _ _ h0))
  have ho1 : Off None w W1 := by rw [← hW1]; exact ((Off.refl None w).alloc _).alloc _
  refine ⟨w.heap.size + 1, [{ target := .collected w.heap.size, args := #[] }], W1, { target := .fn (.func gf) lb, args := #[.func (.yield (w.heap.size + 1)) #[] #[]] }, W1, gf,
    #[.func (.yield (w.heap.size + 1)) #[] #[]] ++ lb, W1, ?_, ?_, ?_, ?_, fun _ => h1, ?_⟩
  · rw [← hW1, hrec]; exact run_enterLoop_outer _ _ _ _ _
  · simp only [resolve, hg]
    simp [go_sem]
  · intro f' hf'; simp [Target.leads] at hf'; subst hf'; exact hFg
  · simp [invoke, go_sem, eg]
  · refine (hseq (w.heap.size + 1)
      (fun pre W => I W.heap.size pre W ∧ W.heap[w.heap.size + 1]? = some (.loop (rec .ready none)) ∧ W.heap[w.heap.size]? = some (.deferred (some [])))
      W1 ho1
      (fun pre A B hs ho => ⟨hN _ _ _ (hI _ pre A B b hs.1 (.inl rfl) ho), ho.at_ hs.2.1 (fun e => by have : w.heap.size + 1 = b := e; omega), ho.at_ hs.2.2 (fun e => by have : w.heap.size = b := e; omega)⟩)
      (fun pre A hs => hT _ _ _ hs.1)
      ?_ ⟨hI1, hL1, hK1⟩).mono ?_
    · rintro pre x post W0 W hx ⟨hi, hl, hk⟩ ho0
      have hNb : w.heap.size ≤ W0.heap.size := by have := Heap.lt hk; omega
      have hlN' : ¬ W0.heap.size ≤ w.heap.size + 1 := by have := Heap.lt hl; omega
      obtain ⟨N, hNe⟩ : ∃ N, N = W0.heap.size := ⟨_, rfl⟩
      have hNW : N ≤ W.heap.size := by rw [hNe]; exact ho0.size
      rw [← hNe] at hi hNb hlN' ⊢
      replace hi := hI _ _ _ _ _ hi (.inl rfl) ho0
      replace hl := ho0.at_ hl (fun e => by have : w.heap.size + 1 = b := e; omega)
      replace hk := ho0.at_ hk (fun e => by have : w.heap.size = b := e; omega)
      clear ho0 hNe
      have hy := run_yield (P := P) (args := encs x) hl (by rw [hrec]; exact hps x)
      rw [hrec] at hy
      refine ⟨fn, _, assign, body, hy, roundIn_of_wpIn hfn (hassign _ N pre x W _ hNW hi ?_)⟩
      clear hy
      intro a' Wa hoa hia hax
      have hkeep : ∀ k o, W.heap[k]? = some o → Wa.heap[k]? = some o := fun k o hko => hoa.at_ hko (fun h => h)
      replace hl := hoa.at_ hl (fun h => h)
      replace hk := hoa.at_ hk (fun h => h)
      have hNa : N ≤ Wa.heap.size := Nat.le_trans hNW hoa.size
      clear hoa hi
      have hlt : w.heap.size + 1 < Wa.heap.size := Heap.lt hl
      refine ⟨_, run_beginRound hl (by rw [hrec]), ?_⟩
      have hl2 : (Wa.putObj (w.heap.size + 1) (.loop { rec .ready none with state := .busy })).heap[w.heap.size + 1]? = some (.loop { rec .ready none with state := .busy }) := World.putObj_heap_same hlt
      have hk2 : (Wa.putObj (w.heap.size + 1) (.loop { rec .ready none with state := .busy })).heap[w.heap.size]? = some (.deferred (some [])) := (World.putObj_heap_other (by omega)).trans hk
      have hi2 := hI _ _ _ _ _ hia (.inr ⟨by omega, _, hl, rfl⟩) (off_putObj (l := w.heap.size + 1) (.loop { rec .ready none with state := .busy }))
      have hx2 := hAx _ _ _ _ _ _ hax ⟨_, hl, rfl⟩ (off_putObj (l := w.heap.size + 1) (.loop { rec .ready none with state := .busy }))
      have hsz2 : (Wa.putObj (w.heap.size + 1) (.loop { rec .ready none with state := .busy })).heap.size = Wa.heap.size := by simp [World.putObj]
      refine wpIn_mono (hbody (w.heap.size + 1) N pre x post a' _ (by omega) hNb (by rw [hsz2]; exact hNa) hx hi2 hx2) ?_
      rintro e a3 W3 ⟨rfl, hk3, hi3⟩
      have hl3 := hk3.same _ _ hl2 (.inr (.inr ⟨by omega, rfl⟩))
      have hD3 := hk3.same _ _ hk2 (.inr (.inr ⟨Nat.le_refl _, rfl⟩))
      have hr := run_endRound (P := P) none hl3
      rw [hrec] at hr hl3
      have hl4 : (W3.putObj (w.heap.size + 1) (.loop (rec .ready none))).heap[w.heap.size + 1]? = some (.loop (rec .ready none)) := World.putObj_heap_same (Heap.lt hl3)
      refine ⟨_, _, hr, rfl, ⟨hN _ _ _ (hI _ _ _ _ _ hi3 (.inr ⟨by omega, _, hl3, rfl⟩) (off_putObj (l := w.heap.size + 1) _)), ?_, ?_⟩, ?_⟩
      · rw [hrec] at hl4 ⊢; exact hl4
      · exact (World.putObj_heap_other (by omega)).trans hD3
      · intro k o hko hkk
        have hka := hkeep k o hko
        have hkl : k ≠ w.heap.size + 1 := by
          rcases hkk with rfl | hkk
          · omega
          · intro e; exact hlN' (by rw [← e]; exact hkk)
        have := hk3.same k o ((World.putObj_heap_other hkl).trans hka) (hkk.imp id .inl)
        exact (World.putObj_heap_other hkl).trans this
    · rintro e W2 ⟨⟨v, rfl⟩, hi, hl, hk⟩
      exact ⟨none, _, by have := run_endLoop (P := P) hl (by rw [hrec]; simp); rw [hrec] at this; exact this, hdone _ _ (Nat.le_refl _) (hN _ _ _ (hI _ _ _ _ _ hi (.inr ⟨by omega, _, hl, rfl⟩) (off_putObj (l := w.heap.size + 1) _))) ((World.putObj_heap_other (by omega)).trans hk)⟩
end Go.Proofs.YtnppdcegpojmbaaGreatDoor
