/- One element behind a row: what append leaves, in this chapter's words. No program stands here. -/
import Derived.Test.YtnppdcegpojmbaaGreatDoorMem
import Derived.Deep.AppendLies
import Derived.Deep.RegionLaw
namespace Go.Proofs.YtnppdcegpojmbaaGreatDoor
open Go Go.RowKit
/-- A slice type and its element: size in cells, bytes. -/
structure ElemOk (P : Program) (st e : TypeId) (size bytes : Nat) : Prop where
  ht : P.underlying st = some (.slice e)
  info : ∃ i z, P.info? e = some i ∧ i.zero = some z ∧ i.size = size ∧ i.bytes = bytes ∧ z.cells.size = size
  pos : 0 < size
  few : bytes ≤ 64
theorem ElemOk.of {P : Program} {st e : TypeId} {size bytes : Nat} {z : Value} (ht : P.underlying st = some (.slice e)) (h : (P.info? e).map (fun i => (i.zero, i.size, i.bytes)) = some (some z, size, bytes)) (hz : z.cells.size = size) (hp : 0 < size) (hb : bytes ≤ 64) : ElemOk P st e size bytes := by
  refine ⟨ht, ?_, hp, hb⟩
  cases hi : P.info? e with
  | none => simp [hi] at h
  | some i =>
    simp only [hi, Option.map_some, Option.some.injEq, Prod.mk.injEq] at h
    exact ⟨i, z, rfl, h.1, h.2.1, h.2.2, hz⟩
structure Pushed (W w' : World) (v : Value) (g : Nat) : Prop where
  off : Off (fun k => v.ownBlock = some k) W w'
  keep : ∀ b o, W.heap[b]? = some o → v.ownBlock ≠ some b → w'.heap[b]? = some o
  from_ : v.ownBlock = some g ∨ W.heap.size < g
  lt : g < w'.heap.size
section
variable {P : Program} {ops : Array Oper} {rest : List Oper} {o : Oper} {a : Act} {Q : Exit → Act → World → Prop} {W : World} {st e : TypeId} {size bytes : Nat}
theorem pushed_of {v : Value} {news : Array Value} {w' : World} {g : Nat} (h2 : (W.alloc (.cells news e)).grownBy w' v.ownBlock) (h3 : v.ownBlock = some g ∨ g = W.heap.size + 1) (h4 : g < w'.heap.size) : Pushed W w' v g :=
  ⟨((Off.refl _ W).alloc _).grown h2 (fun k hk => .inl hk), fun b o hb hn => Heap.grown h2 (Heap.alloc_old hb _) hn, h3.imp id (fun h => by omega), h4⟩
theorem wpList_push (hgd : o.guard = none) (s x : Operand) (ho : o.op = .call { callee := .builtin .append, args := #[s, x], argTypes := #[st, st] }) (E : ElemOk P st e size bytes)
    (base : Nat) (v : Value) (n : Nat) (xs : List Value) (hs : a.eval s = v) (hown : W.ownsRow base e size v n xs) (news : Array Value) (hx : a.eval x = .slice (some ⟨W.heap.size, 0, none⟩) 1 1)
    (hl : news.toList.length = size) (h1 : ∀ u ∈ news.toList, u.oneCell' = true) (hn : n ≤ 1099511627776) (hbase : base ≤ W.heap.size)
    (h : ∀ g cap w', w'.ownsRow base e size (.slice (some ⟨g, 0, none⟩) (n + 1) cap) (n + 1) (xs ++ news.toList) → Pushed W w' v g → wpList P ops Q rest (a.put o.dst (.slice (some ⟨g, 0, none⟩) (n + 1) cap)) w') :
    wpList P ops Q (o :: rest) a (W.alloc (.cells news e)) := by
  obtain ⟨i, z, hi, hz, h2, h3, h4⟩ := E.info
  have hf := E.few
  have hrow : (W.alloc (.cells news e)).ownsRow base e size v n xs := ((Off.refl None W).alloc _).row hown (fun _ _ h => h)
  refine wpList_append_lies _ hgd s x st ho base e i z size bytes E.ht hi hz h2 h3 h4 E.pos v n xs hs hrow ⟨W.heap.size, 0, none⟩ 1 1 news.toList hx (by rw [hl, Nat.one_mul]) (Heap.news W news e _ rfl) h1 (by decide) (by unfold maxLen; omega) ?_ (by rw [Heap.alloc_size]; omega) (W.heap.size + 1) (Heap.alloc_size _ _) (fun g cap w' r1 r2 r3 r4 => h g cap w' r1 (pushed_of r2 r3 r4))
  exact Nat.le_trans (Nat.mul_le_mul_left _ hf) (by omega)
theorem step_push {K : Act → World → Prop} {X : Prop} (hgd : o.guard = none) (s x : Operand) (ho : o.op = .call { callee := .builtin .append, args := #[s, x], argTypes := #[st, st] }) (E : ElemOk P st e size bytes)
    (base : Nat) (v : Value) (n : Nat) (xs : List Value) (hs : a.eval s = v) (hown : W.ownsRow base e size v n xs) (news : Array Value) (hx : a.eval x = .slice (some ⟨W.heap.size, 0, none⟩) 1 1)
    (hl : news.toList.length = size) (h1 : ∀ u ∈ news.toList, u.oneCell' = true) (hn : n ≤ 1099511627776) (hbase : base ≤ W.heap.size)
    (h : ∀ g cap w', w'.ownsRow base e size (.slice (some ⟨g, 0, none⟩) (n + 1) cap) (n + 1) (xs ++ news.toList) → Pushed W w' v g → K (a.put o.dst (.slice (some ⟨g, 0, none⟩) (n + 1) cap)) w') :
    if Region.wanted o (yielded ops a.tmps) = true then Oper.wp P o a (W.alloc (.cells news e)) K Q else X := by
  obtain ⟨i, z, hi, hz, h2, h3, h4⟩ := E.info
  have hf := E.few
  have hrow : (W.alloc (.cells news e)).ownsRow base e size v n xs := ((Off.refl None W).alloc _).row hown (fun _ _ h => h)
  refine step_append_lies _ hgd s x st ho base e i z size bytes E.ht hi hz h2 h3 h4 E.pos v n xs hs hrow ⟨W.heap.size, 0, none⟩ 1 1 news.toList hx (by rw [hl, Nat.one_mul]) (Heap.news W news e _ rfl) h1 (by decide) (by unfold maxLen; omega) ?_ (by rw [Heap.alloc_size]; omega) (W.heap.size + 1) (Heap.alloc_size _ _) (fun g cap w' r1 r2 r3 r4 => h g cap w' r1 (pushed_of r2 r3 r4))
  exact Nat.le_trans (Nat.mul_le_mul_left _ hf) (by omega)
end
end Go.Proofs.YtnppdcegpojmbaaGreatDoor
