/- A range over a function whose iterator keeps its state in one block of cells, b: what the loop does, from the iterator's word and the body's. No function of the program stands here. · frame.Scan: all frames that bytes begin with. -/
import Derived.Test.YtndgnlblbjpogaaGreatDoorRow
import Derived.RangeFuncNested
import Derived.Test.YtndgnlblbjpogaaGreatDoorFrame2
import Derived.RangeFuncBound
import Derived.RangeFuncCalls
import Derived.RangeFuncLeaves
import Derived.Shelf.Abstract
import Derived.Shelf.RegionOpen
import Derived.OwnWalkIn
import Derived.TacticsInMore
import Derived.LoopNIn
import Derived.LoopIn
import Derived.Shelf.SlIter.Collect
namespace Go.Proofs.YtndgnlblbjpogaaGreatDoor
open Go Go.RowKit
/-- What a round leaves as it was: block b, what lies at or behind N, and what is no cells and lies at or behind B. -/
structure Kept (B b N : Nat) (W W' : World) : Prop where
  size : W.heap.size ≤ W'.heap.size
  same : ∀ k o, W.heap[k]? = some o → (k = b ∨ N ≤ k ∨ (B ≤ k ∧ o.isCells = false)) → W'.heap[k]? = some o
/-- An iterator that has its state in block b, and yields all of xs: each round leaves b as it was. -/
def IterState {α : Type} (F : Fence) (n : Nat) (P : Program) (g : Nat) (lb : Array Value) (encs : α → Array Value) (b : Nat) (T : World → Prop) (xs : List α) (w : World) : Prop :=
  ∀ (l : Nat) (J : List α → World → Prop) (W : World), Off None w W → (∀ pre W1 W2, J pre W1 → Off (Only b) W1 W2 → J pre W2) → (∀ pre W1, J pre W1 → T W1) →
    (∀ pre x post W0 W1, xs = pre ++ x :: post → J pre W0 → Off (Only b) W0 W1 → YieldAt F (n - 1) P l (encs x) W1 fun e W' =>
      e = .returned (.bool true) ∧ J (pre ++ [x]) W' ∧ ∀ k o, W1.heap[k]? = some o → (k = b ∨ W0.heap.size ≤ k) → W'.heap[k]? = some o) →
    J [] W → CallsIn F n P g (#[.func (.yield l) #[] #[]] ++ lb) W fun e W' => (∃ v, e = .returned v) ∧ J xs W'
theorem off_putObj {w : World} {l : Nat} (o : Obj) : Off (Only l) w (w.putObj l o) :=
  ⟨rfl, rfl, rfl, by simp [World.putObj], fun k _ hn => World.putObj_heap_other (fun e => hn e)⟩
variable {F : Fence} {n : Nat} {P : Program}
theorem wpIn_rangeFunc_state {α : Type} {g : Operand} {ps : Array Tmp} {assign body : Code} {Q : Exit → Act → World → Prop} {a : Act} {w : World}
    (hro : F.round = none) (h1 : 1 ≤ n) {gf : Nat} {lb : Array Value} (hg : a.eval g = .func (.func gf) #[] lb) (hFg : F.fn gf) (eg : ∀ args w, (callFunc gf args).run P w = .ok (.enter gf args) w)
    {encs : α → Array Value} {b : Nat} {T : World → Prop} {xs : List α} (hbl : b < w.heap.size) (hseq : IterState F (n - 1) P gf lb encs b T xs w) (hps : ∀ x, (encs x).size = ps.size)
    (I : Nat → List α → World → Prop)
    (hI : ∀ N pre W1 W2 k, I N pre W1 → (k = b ∨ (w.heap.size ≤ k ∧ ∃ o, W1.heap[k]? = some o ∧ o.isCells = false)) → Off (Only k) W1 W2 → I N pre W2) (hIn : ∀ N pre W1 o, I N pre W1 → I N pre (W1.alloc o))
    (hN : ∀ N pre W1, I N pre W1 → I W1.heap.size pre W1) (hT : ∀ N pre W1, I N pre W1 → T W1) (h0 : I w.heap.size [] w)
    (Ax : Nat → α → Act → World → Prop) (hAx : ∀ N x a' W1 W2 k, Ax N x a' W1 → (∃ o, W1.heap[k]? = some o ∧ o.isCells = false) → Off (Only k) W1 W2 → Ax N x a' W2)
    (hassign : ∀ (l N : Nat) (pre : List α) (x : α) (W : World) (K : Act → World → Prop), N ≤ W.heap.size → I N pre W → (∀ a' W', Off None W W' → I N pre W' → Ax N x a' W' → K a' W') →
      assign.wpIn (F.inRound l) (n - 1 - 1) P (Exit.then K (fun _ _ _ => False)) { tmps := (ps.zip (encs x)).foldl (fun t (p, v) => t.setIfInBounds p v) a.tmps, defers := [] } W)
    (hbody : ∀ (l N : Nat) (pre : List α) (x : α) (post : List α) (a' : Act) (W : World), w.heap.size ≤ l → w.heap.size ≤ N → N ≤ W.heap.size → xs = pre ++ x :: post → I N pre W → Ax N x a' W →
      body.wpIn (F.inRound l) (n - 1 - 1) P (fun e _ W' => e = .normal ∧ Kept w.heap.size b N W W' ∧ I W'.heap.size (pre ++ [x]) W') a' W)
    (hdone : ∀ (D : Nat) (W : World), w.heap.size ≤ D → I W.heap.size xs W → W.heap[D]? = some (.deferred (some [])) → Q .normal { a with defers := { target := .collected D, args := #[] } :: a.defers } W) :
    (Code.rangeFunc g ps assign body).wpIn F n P Q a w := by
  refine wpIn_rangeFunc ?_
  intro fn hfn
  rw [hro]
  obtain ⟨rec, hrec⟩ : ∃ rec : LoopState → Option Code → Loop, rec = fun st pe => { state := st, pending := pe, fn, tmps := a.tmps, params := ps, assign, body, defers := w.heap.size } := ⟨_, rfl⟩
  obtain ⟨W1, hW1⟩ : ∃ W1, (w.alloc (.deferred (some []))).alloc (.loop (rec .ready none)) = W1 := ⟨_, rfl⟩
  have hL1 : W1.heap[w.heap.size + 1]? = some (.loop (rec .ready none)) := by
    rw [← hW1]; have := World.alloc_heap_new (w.alloc (.deferred (some []))) (.loop (rec .ready none)); rwa [World.size_alloc] at this
  have hK1 : W1.heap[w.heap.size]? = some (.deferred (some [])) := by
    rw [← hW1]; exact Heap.alloc_old (Heap.alloc_new w _) _
  have hI1 : I W1.heap.size [] W1 := hN w.heap.size _ _ (by rw [← hW1]; exact hIn _ _ _ _ (hIn _ _ _ _ h0))
  have ho1 : Off None w W1 := by rw [← hW1]; exact ((Off.refl None w).alloc _).alloc _
  refine ⟨w.heap.size + 1, [{ target := .collected w.heap.size, args := #[] }], W1, { target := .fn (.func gf) lb, args := #[.func (.yield (w.heap.size + 1)) #[] #[]] }, W1, gf,
    #[.func (.yield (w.heap.size + 1)) #[] #[]] ++ lb, W1, ?_, ?_, ?_, ?_, fun _ => h1, ?_⟩
  · rw [← hW1, hrec]; exact run_enterLoop_outer _ _ _ _ _
  · simp only [resolve, hg]
    simp [go_sem]
  · intro f' hf'; simp [Target.leads] at hf'; subst hf'; exact hFg
  · simp [invoke, go_sem, eg]
  · refine (hseq (w.heap.size + 1)
      (fun pre W => I W.heap.size pre W ∧ W.heap[w.heap.size + 1]? = some (.loop (rec .ready none)) ∧ W.heap[w.heap.size]? = some (.deferred (some [])))
      W1 ho1
      (fun pre A B hs ho => ⟨hN _ _ _ (hI _ pre A B b hs.1 (.inl rfl) ho), ho.at_ hs.2.1 (fun e => by have : w.heap.size + 1 = b := e; omega), ho.at_ hs.2.2 (fun e => by have : w.heap.size = b := e; omega)⟩)
      (fun pre A hs => hT _ _ _ hs.1)
      ?_ ⟨hI1, hL1, hK1⟩).mono ?_
    · rintro pre x post W0 W hx ⟨hi, hl, hk⟩ ho0
      have hNb : w.heap.size ≤ W0.heap.size := by have := Heap.lt hk; omega
      have hlN' : ¬ W0.heap.size ≤ w.heap.size + 1 := by have := Heap.lt hl; omega
      obtain ⟨N, hNe⟩ : ∃ N, N = W0.heap.size := ⟨_, rfl⟩
      have hNW : N ≤ W.heap.size := by rw [hNe]; exact ho0.size
      rw [← hNe] at hi hNb hlN' ⊢
      replace hi := hI _ _ _ _ _ hi (.inl rfl) ho0
      replace hl := ho0.at_ hl (fun e => by have : w.heap.size + 1 = b := e; omega)
      replace hk := ho0.at_ hk (fun e => by have : w.heap.size = b := e; omega)
      clear ho0 hNe
      have hy := run_yield (P := P) (args := encs x) hl (by rw [hrec]; exact hps x)
      rw [hrec] at hy
      refine ⟨fn, _, assign, body, hy, roundIn_of_wpIn hfn (hassign _ N pre x W _ hNW hi ?_)⟩
      clear hy
      intro a' Wa hoa hia hax
      have hkeep : ∀ k o, W.heap[k]? = some o → Wa.heap[k]? = some o := fun k o hko => hoa.at_ hko (fun h => h)
      replace hl := hoa.at_ hl (fun h => h)
      replace hk := hoa.at_ hk (fun h => h)
      have hNa : N ≤ Wa.heap.size := Nat.le_trans hNW hoa.size
      clear hoa hi
      have hlt : w.heap.size + 1 < Wa.heap.size := Heap.lt hl
      refine ⟨_, run_beginRound hl (by rw [hrec]), ?_⟩
      have hl2 : (Wa.putObj (w.heap.size + 1) (.loop { rec .ready none with state := .busy })).heap[w.heap.size + 1]? = some (.loop { rec .ready none with state := .busy }) := World.putObj_heap_same hlt
      have hk2 : (Wa.putObj (w.heap.size + 1) (.loop { rec .ready none with state := .busy })).heap[w.heap.size]? = some (.deferred (some [])) := (World.putObj_heap_other (by omega)).trans hk
      have hi2 := hI _ _ _ _ _ hia (.inr ⟨by omega, _, hl, rfl⟩) (off_putObj (l := w.heap.size + 1) (.loop { rec .ready none with state := .busy }))
      have hx2 := hAx _ _ _ _ _ _ hax ⟨_, hl, rfl⟩ (off_putObj (l := w.heap.size + 1) (.loop { rec .ready none with state := .busy }))
      have hsz2 : (Wa.putObj (w.heap.size + 1) (.loop { rec .ready none with state := .busy })).heap.size = Wa.heap.size := by simp [World.putObj]
      refine wpIn_mono (hbody (w.heap.size + 1) N pre x post a' _ (by omega) hNb (by rw [hsz2]; exact hNa) hx hi2 hx2) ?_
      rintro e a3 W3 ⟨rfl, hk3, hi3⟩
      have hl3 := hk3.same _ _ hl2 (.inr (.inr ⟨by omega, rfl⟩))
      have hD3 := hk3.same _ _ hk2 (.inr (.inr ⟨Nat.le_refl _, rfl⟩))
      have hr := run_endRound (P := P) none hl3
      rw [hrec] at hr hl3
      have hl4 : (W3.putObj (w.heap.size + 1) (.loop (rec .ready none))).heap[w.heap.size + 1]? = some (.loop (rec .ready none)) := World.putObj_heap_same (Heap.lt hl3)
      refine ⟨_, _, hr, rfl, ⟨hN _ _ _ (hI _ _ _ _ _ hi3 (.inr ⟨by omega, _, hl3, rfl⟩) (off_putObj (l := w.heap.size + 1) _)), ?_, ?_⟩, ?_⟩
      · rw [hrec] at hl4 ⊢; exact hl4
      · exact (World.putObj_heap_other (by omega)).trans hD3
      · intro k o hko hkk
        have hka := hkeep k o hko
        have hkl : k ≠ w.heap.size + 1 := by
          rcases hkk with rfl | hkk
          · omega
          · intro e; exact hlN' (by rw [← e]; exact hkk)
        have := hk3.same k o ((World.putObj_heap_other hkl).trans hka) (hkk.imp id .inl)
        exact (World.putObj_heap_other hkl).trans this
    · rintro e W2 ⟨⟨v, rfl⟩, hi, hl, hk⟩
      exact ⟨none, _, by have := run_endLoop (P := P) hl (by rw [hrec]; simp); rw [hrec] at this; exact this, hdone _ _ (Nat.le_refl _) (hN _ _ _ (hI _ _ _ _ _ hi (.inr ⟨by omega, _, hl, rfl⟩) (off_putObj (l := w.heap.size + 1) _))) ((World.putObj_heap_other (by omega)).trans hk)⟩
end Go.Proofs.YtndgnlblbjpogaaGreatDoor
namespace Go.Proofs.YtndgnlblbjpogaaGreatDoor
open Go Go.RowKit Go.Shelf
attribute [local go_sem] Oper.semAt_some
/-- append of one element, in a round. -/
theorem wpListIn_push {F : Fence} {m : Nat} {P : Program} {ops : Array Oper} {rest : List Oper} {o : Oper} {a : Act} {Q : Exit → Act → World → Prop} {W : World} {st e : TypeId} {size bytes : Nat}
    (hgd : o.guard = none) (s x : Operand) (ho : o.op = .call { callee := .builtin .append, args := #[s, x], argTypes := #[st, st] }) (E : ElemOk P st e size bytes)
    (base : Nat) (v : Value) (n : Nat) (xs : List Value) (hs : a.eval s = v) (hown : W.ownsRow base e size v n xs) (news : Array Value) (hx : a.eval x = .slice (some ⟨W.heap.size, 0, none⟩) 1 1)
    (hl : news.toList.length = size) (h1 : ∀ u ∈ news.toList, u.oneCell' = true) (hn : n ≤ 1099511627776) (hbase : base ≤ W.heap.size)
    (h : ∀ g cap w', w'.ownsRow base e size (.slice (some ⟨g, 0, none⟩) (n + 1) cap) (n + 1) (xs ++ news.toList) → (∀ b o, W.heap[b]? = some o → v.ownBlock ≠ some b → w'.heap[b]? = some o) → Off (fun k => v.ownBlock = some k) W w' →
      wpListIn F m P ops Q rest (a.put o.dst (.slice (some ⟨g, 0, none⟩) (n + 1) cap)) w') :
    wpListIn F m P ops Q (o :: rest) a (W.alloc (.cells news e)) := by
  obtain ⟨i, z, hi, hz, h2, h3, h4⟩ := E.info
  have hf := E.few
  have hrow : (W.alloc (.cells news e)).ownsRow base e size v n xs := ((Off.refl None W).alloc _).row hown (fun _ _ h => h)
  refine wpListIn_append_own _ hgd s x st ho base e i z size bytes E.ht hi hz h2 h3 h4 E.pos v n xs hs hrow ⟨W.heap.size, 0, none⟩ 1 1 news.toList hx (by rw [hl, Nat.one_mul]) (Heap.news W news e _ rfl) h1 (by unfold maxLen; omega) ?_ (by rw [Heap.alloc_size]; omega) (fun v' w' r1 r2 r3 => ?_)
  · exact Nat.le_trans (Nat.mul_le_mul_left _ hf) (by omega)
  · obtain ⟨g, cap, rfl⟩ := ownsRow_succ r1
    exact h g cap w' r1 (fun b o hb hn => Heap.grown r2 (Heap.alloc_old hb _) hn) (((Off.refl _ W).alloc _).grown r2 (fun k hk => .inl hk))
namespace Frame
theorem firstL_size {l : List UInt8} {f : FrameV} (h : firstL l = some f) : 0 < f.size ∧ f.size ≤ l.length ∧ f.body.length ≤ MaxBody ∧ f.seq < 18446744073709551616 := by
  unfold firstL at h
  split at h
  · cases h
  · rename_i n r h1
    have hl1 := Num.take_lt h1
    split at h
    · cases h
    · rename_i hn
      split at h
      · cases h
      · rename_i q r2 h2
        have hl2 := Num.take_lt h2
        split at h
        · cases h
        · rename_i h4
          split at h
          · cases h
            refine ⟨by dsimp only; omega, by dsimp only; omega, ?_, hl2.1⟩
            show ((r2.drop 4).take n).length ≤ MaxBody
            rw [List.length_take]; omega
          · cases h
def scanL (l : List UInt8) : List FrameV :=
  match _h : firstL l with
  | none => []
  | some f => f :: scanL (l.drop f.size)
termination_by l.length
decreasing_by have := firstL_size _h; rw [List.length_drop]; omega
theorem scanL_none {l : List UInt8} (h : firstL l = none) : scanL l = [] := by rw [scanL]; split <;> simp_all
theorem scanL_some {l : List UInt8} {f : FrameV} (h : firstL l = some f) : scanL l = f :: scanL (l.drop f.size) := by
  rw [scanL]; split
  · rename_i h'; rw [h] at h'; cases h'
  · rename_i f' h'; rw [h] at h'; cases h'; rfl
def strLen : Option Value → Nat
  | some (.string t) => t.size
  | _ => 0
def encF (f : FrameV) : Value := .agg #[.int .u64 f.seq, .string ⟨f.body.toArray⟩, .int .i64 f.size]
theorem firstR_none {s : ByteArray} (h : firstL s.data.toList = none) : firstR s = .tuple #[.agg #[.int .u64 0, .string ⟨#[]⟩, .int .i64 0], .int .i64 2] := by unfold firstR; rw [h]
theorem firstR_some {s : ByteArray} {f : FrameV} (h : firstL s.data.toList = some f) : firstR s = .tuple #[.agg #[.int .u64 f.seq, .string ⟨f.body.toArray⟩, .int .i64 f.size], .int .i64 0] := by unfold firstR; rw [h]
set_option maxHeartbeats 1000000 in
set_option maxRecDepth 100000 in
theorem frames_iter (w : World) (b : Nat) (s : ByteArray) (hs : s.size ≤ 1099511627776) (hb : w.heap[b]? = some (.cells #[.string s] 9 (0, 0))) (n : Nat) (hn : 2 ≤ n) :
    IterState Fence.wide n Tryz.prog 165 #[.pointer (some ⟨b, 0, none⟩)] (fun f => #[encF f]) b Crc.TabOk (scanL s.data.toList) w := by
  intro l J W hoW hJ hJT hY h0
  have hbW := hoW.at_ hb (fun h => h)
  refine callsIn_of_wp Tryz.func165 rfl trivial ?_ rfl
  simp only [Tryz.ntmps165, List.size_toArray, List.length_cons, List.length_nil, Nat.reduceAdd, Nat.reduceSub, Array.replicate_succ, Array.replicate_zero, List.push_toArray, List.append_toArray, List.nil_append, List.cons_append]
  gi_wp2
  gi_loopw [4] (fun _ wr => ∃ (pre : List FrameV) (t : ByteArray), scanL s.data.toList = pre ++ scanL t.data.toList ∧ t.size ≤ 1099511627776 ∧ wr.heap[b]? = some (.cells #[.string t] 9 (0, 0)) ∧ J pre wr) (fun _ wr => strLen (wr.cell? ⟨b, 0, none⟩))
  case atStart => exact ⟨[], s, rfl, hs, hbW, h0⟩
  case round =>
    obtain ⟨pre, t, hsc, hts, hbr, hjr⟩ := hrel
    have c0 : wr.cell? ⟨b, 0, none⟩ = some (.string t) := Heap.cell hbr 0
    have hfF : Fence.wide.fn 166 := trivial
    have hT := hJT _ _ hjr
    have hfirst := callsIn_wide (n := n - 1).2 (first_any wr t hts hT)
    cases h1 : firstL t.data.toList with
    | none =>
      rw [firstR_none h1] at hfirst
      gi_wp2
      refine ⟨fun _ => by omega, hfirst.mono ?_⟩
      rintro e w2 ⟨rfl, ho2⟩
      gi_wp2
      refine ⟨fun _ h => (by cases h), ?_⟩
      gi_wp2
      refine bodyPost_ret (results_none rfl _ _ _) rfl ?_
      refine ⟨⟨_, rfl⟩, ?_⟩
      rw [hsc, scanL_none h1, List.append_nil]
      exact hJ _ _ _ hjr ((Off.mono ho2 (fun _ _ h => h.elim)).alloc _)
    | some f =>
      rw [firstR_some h1] at hfirst
      have hsz := firstL_size h1
      gi_wp2
      refine ⟨fun _ => by omega, hfirst.mono ?_⟩
      rintro e w2 ⟨rfl, ho2⟩
      have ho3 : Off None wr (w2.alloc (.cells #[.int .u64 f.seq, .string ⟨f.body.toArray⟩, .int .i64 f.size] 138)) := ho2.alloc _
      obtain ⟨fn, tmps, assign, body, hy, hR⟩ := hY pre f (scanL (t.data.toList.drop f.size)) wr _ (by rw [hsc, scanL_some h1]) hjr (Off.mono ho3 (fun _ _ h => h.elim) : Off (Only b) _ _)
      have hHR := Lib.hid hR; clear hR
      have hbx : w2.heap.size < (w2.alloc (.cells #[.int .u64 f.seq, .string ⟨f.body.toArray⟩, .int .i64 f.size] 138)).heap.size := by rw [Heap.alloc_size]; omega
      dsimp only [encF] at hy
      gi_wp2
      refine ⟨fun _ => by omega, hHR.out.mono ?_⟩
      rintro e w3 ⟨rfl, hj3, hk3⟩
      have hb3 := hk3 b _ (ho3.at_ hbr (fun h => h)) (.inl rfl)
      have hx3 := hk3 w2.heap.size _ (Heap.alloc_new w2 _) (.inr ho2.size)
      clear hk3 hy
      have d0 : w3.cell? ⟨b, 0, none⟩ = some (.string t) := Heap.cell hb3 0
      have d1 : w3.frozen? ⟨b, 0, none⟩ = false := Heap.frozen hb3 0
      have d2 : w3.cell? ⟨w2.heap.size, 2, none⟩ = some (.int .i64 f.size) := Heap.cell hx3 2
      have hlt3 : w2.heap.size < w3.heap.size := Heap.lt hx3
      have hsl : t.data.toList.length = t.size := Array.length_toList
      have hf1 : (0 : Int) ≤ f.size := by omega
      have hf2 : (f.size : Int) ≤ t.size := by omega
      gi_wp2
      have hext : (t.extract f.size t.size).data.toList = t.data.toList.drop f.size := by rw [Num.extract_drop]
      have hexs : (t.extract f.size t.size).size = t.size - f.size := by rw [ByteArray.size_extract]; omega
      have hb4 := (Heap.set hb3 0 (.string (t.extract f.size t.size))).trans (show _ = some (.cells #[.string (t.extract f.size t.size)] 9 (0, 0)) from rfl)
      refine ⟨⟨pre ++ [f], t.extract f.size t.size, ?_, by omega, hb4, hJ _ _ _ hj3 ((Off.refl (Only b) w3).set 0 _)⟩, ?_⟩
      · rw [hext, hsc, scanL_some h1]; simp
      · rw [Heap.cell hb4 0, c0]
        show (t.extract f.size t.size).size < t.size
        omega
def frameCells (f : FrameV) : List Value := [.int .u64 f.seq, .string ⟨f.body.toArray⟩, .int .i64 f.size]
def sizes (l : List FrameV) : Nat := (l.map (·.size)).sum
theorem infoFrameE : (Tryz.prog.info? 138).map (fun i => (i.zero, i.size, i.bytes)) = some (some (.agg #[.int .u64 0, .string ByteArray.empty, .int .i64 0]), 3, 32) := by kernel_rfl
theorem elemFrame : ElemOk Tryz.prog 134 138 3 32 := .of Tryz.underlying134 infoFrameE rfl (by decide) (by decide)
theorem frames_any (w : World) (s : ByteArray) (n : Nat) : CallsIn Fence.wide n Tryz.prog 126 #[.string s] w fun e w' => e = .returned (.func (.func 165) #[] #[.pointer (some ⟨w.heap.size, 0, none⟩)]) ∧ w' = w.alloc (.cells #[.string s] 9) := by
  refine callsIn_of_wp Tryz.func126 rfl trivial ?_ rfl
  simp only [Tryz.ntmps126, List.size_toArray, List.length_cons, List.length_nil, Nat.reduceAdd, Nat.reduceSub, Array.replicate_succ, Array.replicate_zero, List.push_toArray, List.append_toArray, List.nil_append, List.cons_append]
  gi_wp2
  go_ret
  exact ⟨rfl, rfl⟩
theorem sizes_le (n : Nat) : ∀ l : List UInt8, l.length ≤ n → sizes (scanL l) ≤ l.length ∧ (scanL l).length ≤ l.length := by
  induction n with
  | zero =>
    intro l hl
    cases h : firstL l with
    | none => rw [scanL_none h]; simp [sizes]
    | some f => have := firstL_size h; omega
  | succ n ih =>
    intro l hl
    cases h : firstL l with
    | none => rw [scanL_none h]; simp [sizes]
    | some f =>
      have hf := firstL_size h
      have := ih (l.drop f.size) (by rw [List.length_drop]; omega)
      rw [List.length_drop] at this
      rw [scanL_some h]
      simp only [sizes, List.map_cons, List.sum_cons, List.length_cons] at this ⊢
      omega
/-- What holds of Scan's own variables between two rounds. -/
structure ScanI (w : World) (N : Nat) (pre : List FrameV) (W : World) : Prop where
  out : ∃ v, W.heap[w.heap.size]? = some (.cells #[v] 134 (0, 0)) ∧ W.ownsRow (w.heap.size + 3) 138 3 v pre.length (pre.flatMap frameCells) ∧ ∀ k, v.ownBlock = some k → k < N
  sum : W.heap[w.heap.size + 1]? = some (.cells #[.int .i64 (sizes pre)] 3 (0, 0))
  off : Off None w W
theorem ScanI.turn {w W1 W2 : World} {N k : Nat} {pre : List FrameV} (h : ScanI w N pre W1) (hk : k = w.heap.size + 2 ∨ (w.heap.size + 3 ≤ k ∧ ∃ o, W1.heap[k]? = some o ∧ o.isCells = false)) (ho : Off (Only k) W1 W2) : ScanI w N pre W2 := by
  have hge : w.heap.size + 2 ≤ k := by rcases hk with h | h <;> omega
  obtain ⟨⟨v, h1, h2, h3⟩, h4, h5⟩ := h
  refine ⟨⟨v, ho.at_ h1 (fun e => by have : w.heap.size = k := e; omega), ho.row h2 (fun g hg e => ?_), h3⟩, ho.at_ h4 (fun e => by have : w.heap.size + 1 = k := e; omega), h5.trans ho (fun b hb e => by have : b = k := e; omega)⟩
  have e : g = k := e
  subst e
  have hb := (World.ownsRow.lt h2 g hg).1
  rcases hk with hk | ⟨_, o, ho1, ho2⟩
  · omega
  · obtain ⟨_, ⟨rfl, _⟩ | ⟨g', cap, cur, rfl, _, hh, _⟩⟩ := h2
    · cases hg
    · cases hg
      rw [hh] at ho1
      cases ho1
      cases ho2
theorem ScanI.more {w W1 : World} {N : Nat} {pre : List FrameV} (h : ScanI w N pre W1) (o : Obj) : ScanI w N pre (W1.alloc o) := by
  obtain ⟨⟨v, h1, h2, h3⟩, h4, h5⟩ := h
  exact ⟨⟨v, Heap.alloc_old h1 o, ((Off.refl None W1).alloc o).row h2 (fun _ _ h => h), h3⟩, Heap.alloc_old h4 o, h5.alloc o⟩
theorem row_obj {W : World} {base n size : Nat} {e : TypeId} {v : Value} {xs : List Value} {k : Nat} (h : W.ownsRow base e size v n xs) (hk : v.ownBlock = some k) : ∃ cur, W.heap[k]? = some (.cells cur e (0, 0)) := by
  obtain ⟨_, ⟨rfl, _⟩ | ⟨g', cap, cur, rfl, _, hh, _⟩⟩ := h
  · cases hk
  · cases hk; exact ⟨cur, hh⟩
theorem ScanI.none {w W1 W2 : World} {N : Nat} {pre : List FrameV} (h : ScanI w N pre W1) (ho : Off None W1 W2) : ScanI w N pre W2 := by
  obtain ⟨⟨v, h1, h2, h3⟩, h4, h5⟩ := h
  exact ⟨⟨v, ho.at_ h1 (fun h => h), ho.row h2 (fun _ _ h => h), h3⟩, ho.at_ h4 (fun h => h), h5.trans ho (fun _ _ h => h)⟩
theorem ScanI.size {w W1 : World} {N : Nat} {pre : List FrameV} (h : ScanI w N pre W1) : ScanI w W1.heap.size pre W1 := by
  obtain ⟨⟨v, h1, h2, h3⟩, h4, h5⟩ := h
  exact ⟨⟨v, h1, h2, fun k hk => row_lt h2 hk⟩, h4, h5⟩
set_option maxHeartbeats 1000000 in
set_option maxRecDepth 100000 in
theorem scan_any (w : World) (s : ByteArray) (hs : s.size ≤ 1099511627776) (hT : Crc.TabOk w) :
    Calls Tryz.prog 97 #[.string s] w fun e w' => ∃ v, e = .returned (.tuple #[v, .int .i64 (sizes (scanL s.data.toList))]) ∧
      w'.ownsRow w.heap.size 138 3 v (scanL s.data.toList).length ((scanL s.data.toList).flatMap frameCells) ∧ Off None w w' := by
  have HT := Lib.hid hT; clear hT
  refine (callsIn_wide (n := 8)).1 ?_
  have hf1 : Fence.wide.fn 126 := trivial
  refine callsIn_of_wp_marks Tryz.func97 rfl trivial ?_ rfl
  simp only [Tryz.ntmps97, List.size_toArray, List.length_cons, List.length_nil, Nat.reduceAdd, Nat.reduceSub, Array.replicate_succ, Array.replicate_zero, List.push_toArray, List.append_toArray, List.nil_append, List.cons_append]
  gi_wp2
  refine (frames_any _ s _).mono ?_
  rintro e w' ⟨rfl, rfl⟩
  have hs1 : (w.alloc (.cells #[.slice none 0 0] 134)).heap.size = w.heap.size + 1 := Heap.alloc_size _ _
  have hs2 : ((w.alloc (.cells #[.slice none 0 0] 134)).alloc (.cells #[.int .i64 0] 3)).heap.size = w.heap.size + 2 := by rw [Heap.alloc_size, hs1]
  obtain ⟨w0, hw0⟩ : ∃ w0, w0 = ((w.alloc (.cells #[.slice none 0 0] 134)).alloc (.cells #[.int .i64 0] 3)).alloc (.cells #[.string s] 9) := ⟨_, rfl⟩
  have hs3 : w0.heap.size = w.heap.size + 3 := by rw [hw0, Heap.alloc_size, hs2]
  have hb0 : w0.heap[w.heap.size]? = some (.cells #[.slice none 0 0] 134 (0, 0)) := by rw [hw0]; exact Heap.alloc_old (Heap.alloc_old (Heap.alloc_new w _) _) _
  have hb1 : w0.heap[w.heap.size + 1]? = some (.cells #[.int .i64 0] 3 (0, 0)) := by
    have h := Heap.alloc_new (w.alloc (.cells #[.slice none 0 0] 134)) (.cells #[.int .i64 0] 3)
    rw [hs1] at h; rw [hw0]; exact Heap.alloc_old h _
  have hb2 : w0.heap[w.heap.size + 2]? = some (.cells #[.string s] 9 (0, 0)) := by
    have h := Heap.alloc_new ((w.alloc (.cells #[.slice none 0 0] 134)).alloc (.cells #[.int .i64 0] 3)) (.cells #[.string s] 9)
    rw [hs2] at h; rw [hw0]; exact h
  have ho0 : Off None w w0 := by rw [hw0]; exact (((Off.refl None w).alloc _).alloc _).alloc _
  have hI0 : ScanI w w0.heap.size [] w0 := ⟨⟨_, hb0, World.ownsRow_nil _ _ _ _, fun k hk => by cases hk⟩, hb1, ho0⟩
  have hlen : s.data.toList.length = s.size := Array.length_toList
  have hsz := sizes_le s.size s.data.toList (by omega)
  have HI0 := Lib.hid hI0
  clear hI0 hb0 hb1 ho0
  gi_wp2
  rw [← hw0]
  clear hw0
  refine wpIn_rangeFunc_state rfl (by omega) (gf := 165) (lb := #[.pointer (some ⟨w.heap.size + 2, 0, none⟩)]) rfl trivial (enters_of Tryz.func165 (by kernel_rfl) rfl) (b := w.heap.size + 2) (T := Crc.TabOk) (xs := scanL s.data.toList) (encs := fun f => #[encF f])
    (by rw [hs3]; omega) (frames_iter w0 _ s hs hb2 _ (by omega)) (fun _ => rfl) (ScanI w) ?hI (fun N pre W1 o h => h.more o) (fun N pre W1 h => h.size) (fun N pre W1 h => HT.out.off h.off (fun h => h)) HI0.out
    (fun N x a' W => ∃ Bx, W.heap[Bx]? = some (.cells #[.int .u64 x.seq, .string ⟨x.body.toArray⟩, .int .i64 x.size] 138 (0, 0)) ∧ N ≤ Bx ∧
      a' = { tmps := #[.string s, undef, .slice none 0 0, .int .i64 0, .pointer (some ⟨w.heap.size, 0, none⟩), .pointer (some ⟨w.heap.size + 1, 0, none⟩), .pointer (some ⟨Bx, 0, none⟩), .string s, .func (.func 165) #[] #[.pointer (some ⟨w.heap.size + 2, 0, none⟩)], encF x, undef, undef, undef, undef, undef, undef, undef, undef, undef, undef], defers := [] }) ?hAx ?assign ?body ?done
  case hI => exact fun N pre W1 W2 k h hk ho => h.turn (by rwa [hs3] at hk) ho
  case hAx =>
    rintro N x a' W1 W2 k ⟨Bx, h1, h2, rfl⟩ ⟨o, h3, h4⟩ ho
    refine ⟨Bx, ho.at_ h1 (fun e => ?_), h2, rfl⟩
    rw [show Bx = k from e, h3] at h1; cases h1; cases h4
  case assign =>
    intro l N pre x W K hNW hi hK
    have hge := hi.off.size
    dsimp only [encF]
    gi_wp2
    exact hK _ _ ((Off.refl None W).alloc _) (hi.more _) ⟨W.heap.size, Heap.alloc_new W _, hNW, rfl⟩
  case body =>
    rintro l N pre x post a' W hl hN1 hN2 hx hi ⟨Bx, hbx, hgx, rfl⟩
    obtain ⟨⟨v, hv1, hv2, hv3⟩, hv4, hv5⟩ := hi
    have hge := hv5.size
    have e0 : W.cell? ⟨Bx, 0, none⟩ = some (.int .u64 x.seq) := Heap.cell hbx 0
    have e1 : W.cell? ⟨Bx, 1, none⟩ = some (.string ⟨x.body.toArray⟩) := Heap.cell hbx 1
    have e2 : W.cell? ⟨Bx, 2, none⟩ = some (.int .i64 x.size) := Heap.cell hbx 2
    have o0 : W.cell? ⟨w.heap.size, 0, none⟩ = some v := Heap.cell hv1 0
    have hltx : Bx < W.heap.size := Heap.lt hbx
    have n0 : v.ownBlock ≠ some w.heap.size := fun e => by have := (World.ownsRow.lt hv2 _ e).1; omega
    have n1 : v.ownBlock ≠ some (w.heap.size + 1) := fun e => by have := (World.ownsRow.lt hv2 _ e).1; omega
    have nx : v.ownBlock ≠ some Bx := fun e => by have := hv3 _ e; omega
    have hsum : sizes pre + x.size ≤ s.size := by
      have := hsz.1; rw [hx] at this; simp [sizes] at this; unfold sizes; omega
    have hpl : pre.length ≤ 1099511627776 := by
      have := hsz.2; rw [hx] at this; simp at this; omega
    dsimp only [encF]
    gi_wp2_with (gi_at_builtin; refine wpListIn_push rfl _ _ rfl elemFrame (w.heap.size + 3) v pre.length (pre.flatMap frameCells) rfl hv2 #[.int .u64 x.seq, .string ⟨x.body.toArray⟩, .int .i64 x.size] rfl rfl (by intro u hu; simp at hu; rcases hu with rfl | rfl | rfl <;> rfl) hpl (by omega) ?_; intro g cap w5 hrow5 hkeep5 hoff5; have p0 : w5.cell? ⟨w.heap.size, 0, none⟩ = some v := Heap.cell (hkeep5 _ _ hv1 n0) 0; have q0 := Heap.frozen (hkeep5 _ _ hv1 n0) 0; have p1 : w5.cell? ⟨w.heap.size + 1, 0, none⟩ = some (.int .i64 (sizes pre)) := Heap.cell (hkeep5 _ _ hv4 n1) 0; have q1 := Heap.frozen (hkeep5 _ _ hv4 n1) 0; have p2 : w5.cell? ⟨Bx, 2, none⟩ = some (.int .i64 x.size) := Heap.cell (hkeep5 _ _ hbx nx) 2)
    obtain ⟨v', hv'⟩ : ∃ v', v' = Value.slice (some ⟨g, 0, none⟩) (pre.length + 1) cap := ⟨_, rfl⟩
    have hog : v'.ownBlock = some g := by rw [hv']; rfl
    rw [← hv'] at hrow5 ⊢
    have hne : ∀ k, w.heap.size ≤ k → v.ownBlock = some k → w.heap.size + 3 ≤ k := fun k _ hk => (World.ownsRow.lt hv2 k hk).1
    have hgb := (World.ownsRow.lt hrow5 g hog).1
    refine ⟨⟨?_, fun k o hk hkk => ?_⟩, ⟨v', ?_, ?_, fun k hk => row_lt hrow5 hk⟩, ?_, ?_⟩
    · rw [Heap.set_size, Heap.set_size]; exact hoff5.size
    · have h1 : v.ownBlock ≠ some k := by
        intro e
        rcases hkk with h | h | ⟨_, h⟩
        · have := hne k (by omega) e; omega
        · have := hv3 k e; omega
        · obtain ⟨cur, hc⟩ := row_obj hv2 e
          rw [hk] at hc; cases hc; cases h
      have h2 : w.heap.size + 2 ≤ k := by rcases hkk with h | h | ⟨h, _⟩ <;> omega
      rw [Heap.set_far (by omega), Heap.set_far (by omega)]
      exact hkeep5 k o hk h1
    · rw [Heap.set_far (by omega)]
      exact (Heap.set (hkeep5 _ _ hv1 n0) 0 v').trans rfl
    · have h1 := ((Off.refl (fun k => k = w.heap.size ∨ k = w.heap.size + 1) w5).setCell (p := ⟨w.heap.size, 0, none⟩) (.inl (.inl rfl)) v').setCell (p := ⟨w.heap.size + 1, 0, none⟩) (.inl (.inr rfl)) (.int .i64 ((sizes pre : Int) + x.size))
      have h2 := h1.row hrow5 (fun k hk e => by rw [hog] at hk; cases hk; omega)
      simpa [List.flatMap_append, frameCells] using h2
    · have h1 := (Heap.set ((Heap.set_far (w := w5) (i := 0) (show w.heap.size + 1 ≠ w.heap.size by omega) v').trans (hkeep5 _ _ hv4 n1)) 0 (.int .i64 ((sizes pre : Int) + x.size)))
      rw [h1]
      simp [sizes]
    · exact ((hv5.trans hoff5 (fun b hb e => by have := hne b; have := (World.ownsRow.lt hv2 b e).1; omega)).setCell (p := ⟨w.heap.size, 0, none⟩) (.inr (Nat.le_refl _)) _).setCell (p := ⟨w.heap.size + 1, 0, none⟩) (.inr (by show w.heap.size ≤ w.heap.size + 1; omega)) _
  case done =>
    intro D W hD hi hK
    obtain ⟨⟨v, hv1, hv2, hv3⟩, hv4, hv5⟩ := hi
    have c0 : W.cell? ⟨w.heap.size, 0, none⟩ = some v := Heap.cell hv1 0
    have c1 : W.cell? ⟨w.heap.size + 1, 0, none⟩ = some (.int .i64 (sizes (scanL s.data.toList))) := Heap.cell hv4 0
    gi_wp2
    gi_region
    all_goals gi_wp2
    have hKd : W.drew.heap[D]? = some (.deferred (some [])) := hK
    have hop : Off (Only D) W (W.drew.putObj D (.deferred none)) := ((Off.refl (Only D) W).drew).trans (off_putObj _) (fun _ _ h => h)
    have hrow := hop.row hv2 (fun k hk e => by
      have e : k = D := e
      subst e
      obtain ⟨cur, hc⟩ := row_obj hv2 hk
      rw [hK] at hc; cases hc)
    all_goals refine ⟨by simp, .inl ⟨_, _, rfl, run_takeDeferred hKd, ?_⟩⟩
    all_goals exact ⟨_, results_tmp2 rfl _ _ _, v, rfl, ownsRow_base_a hrow (by omega), hv5.trans hop (fun b hb e => by have e : b = D := e; omega)⟩
end Frame
end Go.Proofs.YtndgnlblbjpogaaGreatDoor
