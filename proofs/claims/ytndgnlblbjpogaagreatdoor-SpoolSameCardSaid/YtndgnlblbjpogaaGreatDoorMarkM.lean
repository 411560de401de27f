/- A ledger as bytes, plain: what mark.Put lays, and that it is short. No program stands here. -/
import Derived.Test.YtndgnlblbjpogaaGreatDoorLedgerR
import Derived.Test.YtndgnlblbjpogaaGreatDoorFrame2
namespace Go.Proofs.YtndgnlblbjpogaaGreatDoor
namespace Mark
def numsL (l : List Nat) : List UInt8 := l.flatMap Num.putL
def textL (s : ByteArray) : List UInt8 := Num.putL s.size ++ s.data.toList
def diffs : Nat → List Nat → List Nat
  | _, [] => []
  | last, x :: r => (x - last) :: diffs x r
def destL (d : DestV) : List UInt8 := textL d.name ++ numsL [d.since, d.low, d.acked, d.evicted, d.rejected, d.above.length] ++ numsL (diffs d.low d.above)
def markL (l : LedgerV) : List UInt8 := numsL [l.first, l.next, l.dests.length] ++ l.dests.flatMap destL
def markB (l : LedgerV) : ByteArray := ⟨(markL l).toArray⟩
theorem numsL_cons (n : Nat) (l : List Nat) : numsL (n :: l) = Num.putL n ++ numsL l := rfl
theorem numsL_nil : numsL [] = [] := rfl
theorem numsL_append (a b : List Nat) : numsL (a ++ b) = numsL a ++ numsL b := List.flatMap_append
theorem diffs_length (l : List Nat) : ∀ a, (diffs a l).length = l.length := by
  induction l with
  | nil => intro a; rfl
  | cons x r ih => intro a; show (diffs x r).length + 1 = r.length + 1; rw [ih]
theorem diffs_le (l : List Nat) (m : Nat) (h : ∀ x ∈ l, x ≤ m) : ∀ a, ∀ y ∈ diffs a l, y ≤ m := by
  induction l with
  | nil => intro a y hy; cases hy
  | cons x r ih =>
    intro a y hy
    rcases List.mem_cons.1 hy with rfl | hy
    · have := h x (by simp); omega
    · exact ih (fun z hz => h z (by simp [hz])) x y hy
theorem diffs_append (l r : List Nat) : ∀ a, diffs a (l ++ r) = diffs a l ++ diffs (l.getLastD a) r := by
  induction l with
  | nil => intro a; rfl
  | cons x t ih =>
    intro a
    show (x - a) :: diffs x (t ++ r) = (x - a) :: (diffs x t ++ diffs ((x :: t).getLastD a) r)
    rw [ih x]
    congr 2
    cases t <;> rfl
/-- Numbers below 128 * 128 have two bytes at most. -/
theorem numsL_len (l : List Nat) (h : ∀ x ∈ l, x < 16384) : (numsL l).length ≤ 2 * l.length := by
  induction l with
  | nil => exact Nat.le_refl _
  | cons x r ih =>
    rw [numsL_cons, List.length_append, List.length_cons]
    have h1 := Num.putL_length 1 x (by have := h x (by simp); omega)
    have h2 := ih (fun y hy => h y (by simp [hy]))
    omega
theorem markL_len (l : LedgerV) (m : Nat) (hm : m < 16384) (hf : l.first ≤ m) (hn : l.next ≤ m) (hd : l.dests.length ≤ 4) (he : ∀ d ∈ l.dests, d.name.size ≤ 20 ∧ d.since ≤ m ∧ d.low ≤ m ∧ d.acked ≤ m ∧ d.evicted ≤ m ∧ d.rejected ≤ m ∧ d.above.length ≤ m ∧ ∀ s ∈ d.above, s ≤ m) :
    (markL l).length ≤ 6 + 4 * (34 + 2 * m) := by
  have key : ∀ ds : List DestV, (∀ d ∈ ds, d.name.size ≤ 20 ∧ d.since ≤ m ∧ d.low ≤ m ∧ d.acked ≤ m ∧ d.evicted ≤ m ∧ d.rejected ≤ m ∧ d.above.length ≤ m ∧ ∀ s ∈ d.above, s ≤ m) → (ds.flatMap destL).length ≤ ds.length * (34 + 2 * m) := by
    intro ds
    induction ds with
    | nil => intro _; exact Nat.zero_le _
    | cons d r ih =>
      intro h
      rw [List.flatMap_cons, List.length_append, List.length_cons]
      obtain ⟨h1, h2, h3, h4, h5, h6, h7, h8⟩ := h d (by simp)
      have h9 := ih (fun x hx => h x (by simp [hx]))
      have hx : (destL d).length ≤ 34 + 2 * m := by
        unfold destL textL
        rw [List.length_append, List.length_append, List.length_append]
        have a1 := Num.putL_length 0 d.name.size (by omega)
        have a2 := numsL_len [d.since, d.low, d.acked, d.evicted, d.rejected, d.above.length] (by intro x hx; simp at hx; omega)
        have a3 := numsL_len (diffs d.low d.above) (fun x hx => by have := diffs_le d.above m h8 d.low x hx; omega)
        rw [diffs_length] at a3
        have a4 : d.name.data.toList.length = d.name.size := Array.length_toList
        simp only [List.length_cons, List.length_nil] at a2
        omega
      rw [Nat.add_mul]
      omega
  unfold markL
  rw [List.length_append]
  have b1 := numsL_len [l.first, l.next, l.dests.length] (by intro x hx; simp at hx; omega)
  simp only [List.length_cons, List.length_nil] at b1
  have b2 := key l.dests he
  have b3 : l.dests.length * (34 + 2 * m) ≤ 4 * (34 + 2 * m) := Nat.mul_le_mul_right _ hd
  omega
end Mark
end Go.Proofs.YtndgnlblbjpogaaGreatDoor
