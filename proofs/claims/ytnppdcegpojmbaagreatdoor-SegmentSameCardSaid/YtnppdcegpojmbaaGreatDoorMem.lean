/- What a call leaves of memory: 'Off G w w'': of what there was only blocks in G have turned. 'Grow G w w'': G, and the blocks that are new. No program stands here. -/
import Derived.Test.YtnppdcegpojmbaaGreatDoorHeap
import Derived.Maps.OwnSet
import Derived.Laws.OwnMore
import Derived.Deep.Draws
namespace Go.Proofs.YtnppdcegpojmbaaGreatDoor
open Go Go.RowKit
structure Off (G : Nat → Prop) (w w' : World) : Prop where
  os : w'.os = w.os
  tape : w'.tape = w.tape
  output : w'.output = w.output
  size : w.heap.size ≤ w'.heap.size
  block : ∀ b, b < w.heap.size → ¬ G b → w'.heap[b]? = w.heap[b]?
def Grow (G : Nat → Prop) (w w' : World) : Nat → Prop := fun b => G b ∨ (w.heap.size ≤ b ∧ b < w'.heap.size)
abbrev Only (b : Nat) : Nat → Prop := fun k => k = b
abbrev None : Nat → Prop := fun _ => False
namespace Off
variable {G G' : Nat → Prop} {w w' w'' : World} {b : Nat} {o : Obj}
theorem refl (G : Nat → Prop) (w : World) : Off G w w := ⟨rfl, rfl, rfl, Nat.le_refl _, fun _ _ _ => rfl⟩
theorem mono (h : Off G w w') (hg : ∀ b, b < w.heap.size → G b → G' b) : Off G' w w' := ⟨h.os, h.tape, h.output, h.size, fun b hb hn => h.block b hb (fun h' => hn (hg b hb h'))⟩
theorem trans (h : Off G w w') (h' : Off G' w' w'') (hg : ∀ b, b < w.heap.size → G' b → G b) : Off G w w'' :=
  ⟨h'.os.trans h.os, h'.tape.trans h.tape, h'.output.trans h.output, Nat.le_trans h.size h'.size,
   fun b hb hn => (h'.block b (Nat.lt_of_lt_of_le hb h.size) (fun x => hn (hg b hb x))).trans (h.block b hb hn)⟩
theorem trans_grow (h : Off G w w') (h' : Off (Grow G w w') w' w'') : Off G w w'' := h.trans h' fun b hb x => x.elim id fun x => absurd x.1 (by omega)
theorem at_ (h : Off G w w') (hb : w.heap[b]? = some o) (hn : ¬ G b) : w'.heap[b]? = some o := (h.block b (Heap.lt hb) hn).trans hb
theorem drew (h : Off G w w') : Off G w w'.drew := ⟨h.os, h.tape, h.output, h.size, h.block⟩
theorem drewN (h : Off G w w') (n : Nat) : Off G w (w'.drewN n) := ⟨h.os, h.tape, h.output, h.size, h.block⟩
theorem alloc (h : Off G w w') (o : Obj) : Off G w (w'.alloc o) :=
  ⟨h.os, h.tape, h.output, by rw [Heap.alloc_size]; exact Nat.le_succ_of_le h.size, fun b hb hn => by
    have := h.size
    show (w'.heap.push o)[b]? = _
    rw [Array.getElem?_push, if_neg (by omega), h.block b hb hn]⟩
theorem setCell (h : Off G w w') {p : Addr} (hp : G p.block ∨ w.heap.size ≤ p.block) (v : Value) : Off G w (w'.setCell p v) :=
  ⟨h.os, h.tape, h.output, by rw [Heap.set_size]; exact h.size, fun b hb hn => by
    have hne : b ≠ p.block := fun e => hp.elim (fun x => hn (e ▸ x)) (fun x => by omega)
    rw [← h.block b hb hn]
    obtain ⟨pb, po, ps⟩ := p
    simp only [World.setCell, Array.getElem?_modify]
    rw [if_neg (by exact fun h => hne h.symm)]⟩
theorem set (h : Off (Only b) w w') (i : Nat) (v : Value) : Off (Only b) w (w'.setCell ⟨b, i, none⟩ v) := h.setCell (p := ⟨b, i, none⟩) (.inl rfl) v
theorem grown {row : Option Nat} (h : Off G w w') (hg : w'.grownBy w'' row) (hr : ∀ k, row = some k → G k ∨ w.heap.size ≤ k) : Off G w w'' :=
  ⟨hg.os.trans h.os, hg.tape.trans h.tape, hg.output.trans h.output, Nat.le_trans h.size hg.size, fun b hb hn => by
    have hs := h.size
    refine (hg.block b (by omega) ?_).trans (h.block b hb hn)
    intro e
    rcases hr b e.symm with x | x
    · exact hn x
    · omega⟩
theorem below {w0 : World} (h0 : Below w0.heap.size w0 w) (h : Off G w w') (hG : ∀ b, G b → w0.heap.size ≤ b) : Below w0.heap.size w0 w' :=
  ⟨h.os.trans h0.os, h.tape.trans h0.tape, h.output.trans h0.output, Nat.le_trans h0.size h.size, fun b hb => (h.block b (Nat.lt_of_lt_of_le hb h0.size) (fun x => by have := hG b x; omega)).trans (h0.block b hb)⟩
theorem of_below (h : Below w.heap.size w w') : Off G w w' := ⟨h.os, h.tape, h.output, h.size, fun b hb _ => h.block b hb⟩
theorem cell (h : Off G w w') {a : Addr} (hl : a.block < w.heap.size) (hn : ¬ G a.block) : w'.cell? a = w.cell? a := World.cell?_of_block (h.block _ hl hn)
theorem row {base : Nat} {e : TypeId} {size : Nat} {v : Value} {n : Nat} {xs : List Value} (h : Off G w w') (hr : w.ownsRow base e size v n xs) (hn : ∀ k, v.ownBlock = some k → ¬ G k) : w'.ownsRow base e size v n xs := by
  obtain ⟨h1, h2⟩ := hr
  refine ⟨h1, h2.imp id ?_⟩
  rintro ⟨g, cap, cur, rfl, hb, hh, r⟩
  exact ⟨g, cap, cur, rfl, hb, h.at_ hh (hn g rfl), r⟩
theorem map {H : Type} {P : Program} {k : TypeId} {R : Value → Option (DataW H × List MemPlace)} {n : Nat} {D : DataW H} (h : Off G w w') (hm : w.ownsMap P k R b n D) (hn : ¬ G b) : w'.ownsMap P k R b n D := by
  obtain ⟨es, clock, hb, r⟩ := hm
  exact ⟨es, clock, h.at_ hb hn, r⟩
theorem turned (h : Off G w w') (ht : w'.mapTurned w'' b) (hb : G b ∨ w.heap.size ≤ b) : Off G w w'' := h.grown ht.grown (by intro k hk; cases hk; exact hb)
end Off
theorem row_lt {w : World} {base : Nat} {e : TypeId} {size : Nat} {v : Value} {n : Nat} {xs : List Value} (h : w.ownsRow base e size v n xs) {k : Nat} (hk : v.ownBlock = some k) : k < w.heap.size := (h.lt k hk).2
end Go.Proofs.YtnppdcegpojmbaaGreatDoor
