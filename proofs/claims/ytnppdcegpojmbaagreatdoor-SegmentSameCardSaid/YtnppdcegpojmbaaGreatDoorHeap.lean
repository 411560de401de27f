/- Small laws of memory, a block at a time: what a block holds, and what a store, or a new block, leaves of it. No program stands here. -/
import Derived.WalkKit
import Derived.Lib.Hide
namespace Go.Proofs.YtnppdcegpojmbaaGreatDoor
open Go Go.RowKit
namespace Heap
variable {w : World} {b i : Nat} {cs : Array Value} {t : TypeId} {fr : Nat × Nat} {o : Obj}
theorem lt (h : w.heap[b]? = some o) : b < w.heap.size := (Array.getElem?_eq_some_iff.1 h).1
theorem block_lt {a : Addr} {v : Value} (h : w.cell? a = some v) : a.block < w.heap.size := by
  unfold World.cell? at h
  cases hb : w.heap[a.block]? with
  | none => simp [hb] at h
  | some o => exact lt hb
theorem cell (h : w.heap[b]? = some (.cells cs t fr)) (i : Nat) : w.cell? ⟨b, i, none⟩ = cs[i]? := by
  unfold World.cell?
  simp [h]
theorem frozen (h : w.heap[b]? = some (.cells cs t (0, 0))) (i : Nat) : w.frozen? ⟨b, i, none⟩ = false := by
  unfold World.frozen?
  simp [h]
theorem set (h : w.heap[b]? = some (.cells cs t fr)) (i : Nat) (v : Value) : (w.setCell ⟨b, i, none⟩ v).heap[b]? = some (.cells (cs.setIfInBounds i v) t fr) := by
  simp only [World.setCell, Array.getElem?_modify, ↓reduceIte, h, Option.map_some]; rfl
theorem set_far {b' : Nat} (hne : b ≠ b') (v : Value) : (w.setCell ⟨b', i, none⟩ v).heap[b]? = w.heap[b]? := by
  simp only [World.setCell, Array.getElem?_modify]
  rw [if_neg (by exact fun h => hne h.symm)]
theorem set_size (a : Addr) (v : Value) : (w.setCell a v).heap.size = w.heap.size := by simp [World.setCell]
theorem alloc_new (w : World) (o : Obj) : (w.alloc o).heap[w.heap.size]? = some o := by
  show (w.heap.push o)[w.heap.size]? = _
  simp
theorem alloc_old (h : w.heap[b]? = some o) (o' : Obj) : (w.alloc o').heap[b]? = some o := by
  have := lt h
  show (w.heap.push o')[b]? = _
  rw [Array.getElem?_push, if_neg (by omega), h]
theorem alloc_size (w : World) (o : Obj) : (w.alloc o).heap.size = w.heap.size + 1 := by show (w.heap.push o).size = _; simp
theorem news (w : World) (cs : Array Value) (t : TypeId) (n : Nat) (hn : n = w.heap.size) : ∀ (j : Nat) (u : Value), cs.toList[j]? = some u → (w.alloc (.cells cs t)).cell? ((⟨n, 0, none⟩ : Addr).add j) = some u := by
  intro j u hu
  subst hn
  have ea : (⟨w.heap.size, 0, none⟩ : Addr).add j = ⟨w.heap.size, j, none⟩ := by unfold Addr.add; split <;> simp_all
  rw [ea, cell (alloc_new w (.cells cs t))]
  simpa using hu
theorem grown {w' : World} {row : Option Nat} (hg : w.grownBy w' row) (h : w.heap[b]? = some o) (hr : row ≠ some b) : w'.heap[b]? = some o := by
  rw [hg.block b (lt h) hr.symm, h]
theorem toList_data (s : ByteArray) : s.toList = s.data.toList := by
  cases s with
  | mk d => have := ByteArray.toList_mk d.toList; simpa using this
theorem str_nil {s : ByteArray} (h : s.size = 0) : s.toList = [] := by
  rw [toList_data]; exact List.eq_nil_of_length_eq_zero (by simpa using h)
theorem str_ne {s : ByteArray} (h : s.size ≠ 0) : (!s.toList.isEmpty) = true := by
  rw [toList_data, Bool.not_eq_true', Bool.eq_false_iff, ne_eq, List.isEmpty_iff]
  intro h0
  exact h (by have := congrArg List.length h0; simpa using this)
end Heap
end Go.Proofs.YtnppdcegpojmbaaGreatDoor
