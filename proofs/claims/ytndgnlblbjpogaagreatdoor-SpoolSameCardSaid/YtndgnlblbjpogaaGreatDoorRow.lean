/- Small laws of memory, a block at a time: what a block holds, and what a store, or a new block, leaves of it. No program stands here. · What a call leaves of memory: 'Off G w w'': of what there was only blocks in G have turned. 'Grow G w w'': G, and the blocks that are new. No program stands here. · One element behind a row: what append leaves, in this chapter's words. No program stands here. -/
import Derived.WalkKit
import Derived.Lib.Hide
import Derived.Maps.OwnSet
import Derived.Laws.OwnMore
import Derived.Deep.Draws
import Derived.Deep.AppendLies
import Derived.Deep.RegionLaw
namespace Go.Proofs.YtndgnlblbjpogaaGreatDoor
open Go Go.RowKit
namespace Heap
variable {w : World} {b i : Nat} {cs : Array Value} {t : TypeId} {fr : Nat × Nat} {o : Obj}
theorem lt (h : w.heap[b]? = some o) : b < w.heap.size := (Array.getElem?_eq_some_iff.1 h).1
theorem block_lt {a : Addr} {v : Value} (h : w.cell? a = some v) : a.block < w.heap.size := by
  unfold World.cell? at h
  cases hb : w.heap[a.block]? with
  | none => simp [hb] at h
  | some o => exact lt hb
theorem cell (h : w.heap[b]? = some (.cells cs t fr)) (i : Nat) : w.cell? ⟨b, i, none⟩ = cs[i]? := by
  unfold World.cell?
  simp [h]
theorem frozen (h : w.heap[b]? = some (.cells cs t (0, 0))) (i : Nat) : w.frozen? ⟨b, i, none⟩ = false := by
  unfold World.frozen?
  simp [h]
theorem set (h : w.heap[b]? = some (.cells cs t fr)) (i : Nat) (v : Value) : (w.setCell ⟨b, i, none⟩ v).heap[b]? = some (.cells (cs.setIfInBounds i v) t fr) := by
  simp only [World.setCell, Array.getElem?_modify, ↓reduceIte, h, Option.map_some]; rfl
theorem set_far {b' : Nat} (hne : b ≠ b') (v : Value) : (w.setCell ⟨b', i, none⟩ v).heap[b]? = w.heap[b]? := by
  simp only [World.setCell, Array.getElem?_modify]
  rw [if_neg (by exact fun h => hne h.symm)]
theorem set_size (a : Addr) (v : Value) : (w.setCell a v).heap.size = w.heap.size := by simp [World.setCell]
theorem alloc_new (w : World) (o : Obj) : (w.alloc o).heap[w.heap.size]? = some o := by
  show (w.heap.push o)[w.heap.size]? = _
  simp
theorem alloc_old (h : w.heap[b]? = some o) (o' : Obj) : (w.alloc o').heap[b]? = some o := by
  have := lt h
  show (w.heap.push o')[b]? = _
  rw [Array.getElem?_push, if_neg (by omega), h]
theorem alloc_size (w : World) (o : Obj) : (w.alloc o).heap.size = w.heap.size + 1 := by show (w.heap.push o).size = _; simp
theorem news (w : World) (cs : Array Value) (t : TypeId) (n : Nat) (hn : n = w.heap.size) : ∀ (j : Nat) (u : Value), cs.toList[j]? = some u → (w.alloc (.cells cs t)).cell? ((⟨n, 0, none⟩ : Addr).add j) = some u := by
  intro j u hu
  subst hn
  have ea : (⟨w.heap.size, 0, none⟩ : Addr).add j = ⟨w.heap.size, j, none⟩ := by unfold Addr.add; split <;> simp_all
  rw [ea, cell (alloc_new w (.cells cs t))]
  simpa using hu
theorem grown {w' : World} {row : Option Nat} (hg : w.grownBy w' row) (h : w.heap[b]? = some o) (hr : row ≠ some b) : w'.heap[b]? = some o := by
  rw [hg.block b (lt h) hr.symm, h]
theorem toList_data (s : ByteArray) : s.toList = s.data.toList := by
  cases s with
  | mk d => have := ByteArray.toList_mk d.toList; simpa using this
theorem str_nil {s : ByteArray} (h : s.size = 0) : s.toList = [] := by
  rw [toList_data]; exact List.eq_nil_of_length_eq_zero (by simpa using h)
theorem str_ne {s : ByteArray} (h : s.size ≠ 0) : (!s.toList.isEmpty) = true := by
  rw [toList_data, Bool.not_eq_true', Bool.eq_false_iff, ne_eq, List.isEmpty_iff]
  intro h0
  exact h (by have := congrArg List.length h0; simpa using this)
end Heap
end Go.Proofs.YtndgnlblbjpogaaGreatDoor
namespace Go.Proofs.YtndgnlblbjpogaaGreatDoor
open Go Go.RowKit
structure Off (G : Nat → Prop) (w w' : World) : Prop where
  os : w'.os = w.os
  tape : w'.tape = w.tape
  output : w'.output = w.output
  size : w.heap.size ≤ w'.heap.size
  block : ∀ b, b < w.heap.size → ¬ G b → w'.heap[b]? = w.heap[b]?
def Grow (G : Nat → Prop) (w w' : World) : Nat → Prop := fun b => G b ∨ (w.heap.size ≤ b ∧ b < w'.heap.size)
abbrev Only (b : Nat) : Nat → Prop := fun k => k = b
abbrev None : Nat → Prop := fun _ => False
namespace Off
variable {G G' : Nat → Prop} {w w' w'' : World} {b : Nat} {o : Obj}
theorem refl (G : Nat → Prop) (w : World) : Off G w w := ⟨rfl, rfl, rfl, Nat.le_refl _, fun _ _ _ => rfl⟩
theorem mono (h : Off G w w') (hg : ∀ b, b < w.heap.size → G b → G' b) : Off G' w w' := ⟨h.os, h.tape, h.output, h.size, fun b hb hn => h.block b hb (fun h' => hn (hg b hb h'))⟩
theorem trans (h : Off G w w') (h' : Off G' w' w'') (hg : ∀ b, b < w.heap.size → G' b → G b) : Off G w w'' :=
  ⟨h'.os.trans h.os, h'.tape.trans h.tape, h'.output.trans h.output, Nat.le_trans h.size h'.size,
   fun b hb hn => (h'.block b (Nat.lt_of_lt_of_le hb h.size) (fun x => hn (hg b hb x))).trans (h.block b hb hn)⟩
theorem trans_grow (h : Off G w w') (h' : Off (Grow G w w') w' w'') : Off G w w'' := h.trans h' fun b hb x => x.elim id fun x => absurd x.1 (by omega)
theorem at_ (h : Off G w w') (hb : w.heap[b]? = some o) (hn : ¬ G b) : w'.heap[b]? = some o := (h.block b (Heap.lt hb) hn).trans hb
theorem drew (h : Off G w w') : Off G w w'.drew := ⟨h.os, h.tape, h.output, h.size, h.block⟩
theorem drewN (h : Off G w w') (n : Nat) : Off G w (w'.drewN n) := ⟨h.os, h.tape, h.output, h.size, h.block⟩
theorem alloc (h : Off G w w') (o : Obj) : Off G w (w'.alloc o) :=
  ⟨h.os, h.tape, h.output, by rw [Heap.alloc_size]; exact Nat.le_succ_of_le h.size, fun b hb hn => by
    have := h.size
    show (w'.heap.push o)[b]? = _
    rw [Array.getElem?_push, if_neg (by omega), h.block b hb hn]⟩
theorem setCell (h : Off G w w') {p : Addr} (hp : G p.block ∨ w.heap.size ≤ p.block) (v : Value) : Off G w (w'.setCell p v) :=
  ⟨h.os, h.tape, h.output, by rw [Heap.set_size]; exact h.size, fun b hb hn => by
    have hne : b ≠ p.block := fun e => hp.elim (fun x => hn (e ▸ x)) (fun x => by omega)
    rw [← h.block b hb hn]
    obtain ⟨pb, po, ps⟩ := p
    simp only [World.setCell, Array.getElem?_modify]
    rw [if_neg (by exact fun h => hne h.symm)]⟩
theorem set (h : Off (Only b) w w') (i : Nat) (v : Value) : Off (Only b) w (w'.setCell ⟨b, i, none⟩ v) := h.setCell (p := ⟨b, i, none⟩) (.inl rfl) v
theorem grown {row : Option Nat} (h : Off G w w') (hg : w'.grownBy w'' row) (hr : ∀ k, row = some k → G k ∨ w.heap.size ≤ k) : Off G w w'' :=
  ⟨hg.os.trans h.os, hg.tape.trans h.tape, hg.output.trans h.output, Nat.le_trans h.size hg.size, fun b hb hn => by
    have hs := h.size
    refine (hg.block b (by omega) ?_).trans (h.block b hb hn)
    intro e
    rcases hr b e.symm with x | x
    · exact hn x
    · omega⟩
theorem below {w0 : World} (h0 : Below w0.heap.size w0 w) (h : Off G w w') (hG : ∀ b, G b → w0.heap.size ≤ b) : Below w0.heap.size w0 w' :=
  ⟨h.os.trans h0.os, h.tape.trans h0.tape, h.output.trans h0.output, Nat.le_trans h0.size h.size, fun b hb => (h.block b (Nat.lt_of_lt_of_le hb h0.size) (fun x => by have := hG b x; omega)).trans (h0.block b hb)⟩
theorem of_below (h : Below w.heap.size w w') : Off G w w' := ⟨h.os, h.tape, h.output, h.size, fun b hb _ => h.block b hb⟩
theorem cell (h : Off G w w') {a : Addr} (hl : a.block < w.heap.size) (hn : ¬ G a.block) : w'.cell? a = w.cell? a := World.cell?_of_block (h.block _ hl hn)
theorem row {base : Nat} {e : TypeId} {size : Nat} {v : Value} {n : Nat} {xs : List Value} (h : Off G w w') (hr : w.ownsRow base e size v n xs) (hn : ∀ k, v.ownBlock = some k → ¬ G k) : w'.ownsRow base e size v n xs := by
  obtain ⟨h1, h2⟩ := hr
  refine ⟨h1, h2.imp id ?_⟩
  rintro ⟨g, cap, cur, rfl, hb, hh, r⟩
  exact ⟨g, cap, cur, rfl, hb, h.at_ hh (hn g rfl), r⟩
theorem map {H : Type} {P : Program} {k : TypeId} {R : Value → Option (DataW H × List MemPlace)} {n : Nat} {D : DataW H} (h : Off G w w') (hm : w.ownsMap P k R b n D) (hn : ¬ G b) : w'.ownsMap P k R b n D := by
  obtain ⟨es, clock, hb, r⟩ := hm
  exact ⟨es, clock, h.at_ hb hn, r⟩
theorem turned (h : Off G w w') (ht : w'.mapTurned w'' b) (hb : G b ∨ w.heap.size ≤ b) : Off G w w'' := h.grown ht.grown (by intro k hk; cases hk; exact hb)
end Off
theorem row_lt {w : World} {base : Nat} {e : TypeId} {size : Nat} {v : Value} {n : Nat} {xs : List Value} (h : w.ownsRow base e size v n xs) {k : Nat} (hk : v.ownBlock = some k) : k < w.heap.size := (h.lt k hk).2
end Go.Proofs.YtndgnlblbjpogaaGreatDoor
namespace Go.Proofs.YtndgnlblbjpogaaGreatDoor
open Go Go.RowKit
/-- A slice type and its element: size in cells, bytes. -/
structure ElemOk (P : Program) (st e : TypeId) (size bytes : Nat) : Prop where
  ht : P.underlying st = some (.slice e)
  info : ∃ i z, P.info? e = some i ∧ i.zero = some z ∧ i.size = size ∧ i.bytes = bytes ∧ z.cells.size = size
  pos : 0 < size
  few : bytes ≤ 64
theorem ElemOk.of {P : Program} {st e : TypeId} {size bytes : Nat} {z : Value} (ht : P.underlying st = some (.slice e)) (h : (P.info? e).map (fun i => (i.zero, i.size, i.bytes)) = some (some z, size, bytes)) (hz : z.cells.size = size) (hp : 0 < size) (hb : bytes ≤ 64) : ElemOk P st e size bytes := by
  refine ⟨ht, ?_, hp, hb⟩
  cases hi : P.info? e with
  | none => simp [hi] at h
  | some i =>
    simp only [hi, Option.map_some, Option.some.injEq, Prod.mk.injEq] at h
    exact ⟨i, z, rfl, h.1, h.2.1, h.2.2, hz⟩
structure Pushed (W w' : World) (v : Value) (g : Nat) : Prop where
  off : Off (fun k => v.ownBlock = some k) W w'
  keep : ∀ b o, W.heap[b]? = some o → v.ownBlock ≠ some b → w'.heap[b]? = some o
  from_ : v.ownBlock = some g ∨ W.heap.size < g
  lt : g < w'.heap.size
section
variable {P : Program} {ops : Array Oper} {rest : List Oper} {o : Oper} {a : Act} {Q : Exit → Act → World → Prop} {W : World} {st e : TypeId} {size bytes : Nat}
theorem pushed_of {v : Value} {news : Array Value} {w' : World} {g : Nat} (h2 : (W.alloc (.cells news e)).grownBy w' v.ownBlock) (h3 : v.ownBlock = some g ∨ g = W.heap.size + 1) (h4 : g < w'.heap.size) : Pushed W w' v g :=
  ⟨((Off.refl _ W).alloc _).grown h2 (fun k hk => .inl hk), fun b o hb hn => Heap.grown h2 (Heap.alloc_old hb _) hn, h3.imp id (fun h => by omega), h4⟩
theorem wpList_push (hgd : o.guard = none) (s x : Operand) (ho : o.op = .call { callee := .builtin .append, args := #[s, x], argTypes := #[st, st] }) (E : ElemOk P st e size bytes)
    (base : Nat) (v : Value) (n : Nat) (xs : List Value) (hs : a.eval s = v) (hown : W.ownsRow base e size v n xs) (news : Array Value) (hx : a.eval x = .slice (some ⟨W.heap.size, 0, none⟩) 1 1)
    (hl : news.toList.length = size) (h1 : ∀ u ∈ news.toList, u.oneCell' = true) (hn : n ≤ 1099511627776) (hbase : base ≤ W.heap.size)
    (h : ∀ g cap w', w'.ownsRow base e size (.slice (some ⟨g, 0, none⟩) (n + 1) cap) (n + 1) (xs ++ news.toList) → Pushed W w' v g → wpList P ops Q rest (a.put o.dst (.slice (some ⟨g, 0, none⟩) (n + 1) cap)) w') :
    wpList P ops Q (o :: rest) a (W.alloc (.cells news e)) := by
  obtain ⟨i, z, hi, hz, h2, h3, h4⟩ := E.info
  have hf := E.few
  have hrow : (W.alloc (.cells news e)).ownsRow base e size v n xs := ((Off.refl None W).alloc _).row hown (fun _ _ h => h)
  refine wpList_append_lies _ hgd s x st ho base e i z size bytes E.ht hi hz h2 h3 h4 E.pos v n xs hs hrow ⟨W.heap.size, 0, none⟩ 1 1 news.toList hx (by rw [hl, Nat.one_mul]) (Heap.news W news e _ rfl) h1 (by decide) (by unfold maxLen; omega) ?_ (by rw [Heap.alloc_size]; omega) (W.heap.size + 1) (Heap.alloc_size _ _) (fun g cap w' r1 r2 r3 r4 => h g cap w' r1 (pushed_of r2 r3 r4))
  exact Nat.le_trans (Nat.mul_le_mul_left _ hf) (by omega)
theorem step_push {K : Act → World → Prop} {X : Prop} (hgd : o.guard = none) (s x : Operand) (ho : o.op = .call { callee := .builtin .append, args := #[s, x], argTypes := #[st, st] }) (E : ElemOk P st e size bytes)
    (base : Nat) (v : Value) (n : Nat) (xs : List Value) (hs : a.eval s = v) (hown : W.ownsRow base e size v n xs) (news : Array Value) (hx : a.eval x = .slice (some ⟨W.heap.size, 0, none⟩) 1 1)
    (hl : news.toList.length = size) (h1 : ∀ u ∈ news.toList, u.oneCell' = true) (hn : n ≤ 1099511627776) (hbase : base ≤ W.heap.size)
    (h : ∀ g cap w', w'.ownsRow base e size (.slice (some ⟨g, 0, none⟩) (n + 1) cap) (n + 1) (xs ++ news.toList) → Pushed W w' v g → K (a.put o.dst (.slice (some ⟨g, 0, none⟩) (n + 1) cap)) w') :
    if Region.wanted o (yielded ops a.tmps) = true then Oper.wp P o a (W.alloc (.cells news e)) K Q else X := by
  obtain ⟨i, z, hi, hz, h2, h3, h4⟩ := E.info
  have hf := E.few
  have hrow : (W.alloc (.cells news e)).ownsRow base e size v n xs := ((Off.refl None W).alloc _).row hown (fun _ _ h => h)
  refine step_append_lies _ hgd s x st ho base e i z size bytes E.ht hi hz h2 h3 h4 E.pos v n xs hs hrow ⟨W.heap.size, 0, none⟩ 1 1 news.toList hx (by rw [hl, Nat.one_mul]) (Heap.news W news e _ rfl) h1 (by decide) (by unfold maxLen; omega) ?_ (by rw [Heap.alloc_size]; omega) (W.heap.size + 1) (Heap.alloc_size _ _) (fun g cap w' r1 r2 r3 r4 => h g cap w' r1 (pushed_of r2 r3 r4))
  exact Nat.le_trans (Nat.mul_le_mul_left _ hf) (by omega)
end
end Go.Proofs.YtndgnlblbjpogaaGreatDoor
