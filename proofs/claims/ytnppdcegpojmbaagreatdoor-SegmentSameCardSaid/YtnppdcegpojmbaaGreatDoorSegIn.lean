/- A log: its plain form, and how it lies in memory. -/
import Derived.Test.YtnppdcegpojmbaaGreatDoorSeg1
import Derived.Test.YtnppdcegpojmbaaGreatDoorDisk9
import Derived.Deep.QuietTactic
namespace Go.Proofs.YtnppdcegpojmbaaGreatDoor
open Go Go.RowKit
structure SegV where
  first : Nat
  many : Nat
  size : Nat
def SegV.end_ (s : SegV) : Nat := s.first + s.many
structure LogV where
  full : List SegV
  act : SegV
  durable : SegV
def LogV.segs (L : LogV) : List SegV := L.full ++ [L.act]
theorem LogV.len (L : LogV) : L.segs.length = L.full.length + 1 := by simp [LogV.segs]
def segCells (s : SegV) : List Value := [.int .u64 s.first, .int .i64 s.many, .int .i64 s.size]
def segAgg (s : SegV) : Value := .agg #[.int .u64 s.first, .int .i64 s.many, .int .i64 s.size]
def logCells (d : Nat) (sv : Value) (s : SegV) : Array Value := #[.pointer (some ⟨d, 0, none⟩), sv, .int .u64 s.first, .int .i64 s.many, .int .i64 s.size]
structure SegRow (w : World) (g off cap : Nat) (xs : List SegV) (cur : Array Value) : Prop where
  blk : w.heap[g]? = some (.cells cur 42 (0, 0))
  size : cur.size = (off + cap) * 3
  le : xs.length ≤ cap
  max : cap ≤ maxLen
  at_ : ∀ i s, xs[i]? = some s → cur[(off + i) * 3]? = some (.int .u64 s.first) ∧ cur[(off + i) * 3 + 1]? = some (.int .i64 s.many) ∧ cur[(off + i) * 3 + 2]? = some (.int .i64 s.size)
structure LogAt (w : World) (lg d : Nat) (L : LogV) (g off cap : Nat) : Prop where
  core : w.heap[lg]? = some (.cells (logCells d (.slice (some ⟨g, off * 3, none⟩) L.segs.length cap) L.durable) 84 (0, 0))
  row : ∃ cur, SegRow w g off cap L.segs cur
  ne : g ≠ lg
/-- Numbers that Go's types bear. -/
structure SegV.Ok (s : SegV) : Prop where
  sum : s.first + s.many < 18446744073709551616
  many : s.many ≤ 1099511627776
  size : s.size ≤ 1099511627776
structure LogV.Ok (L : LogV) : Prop where
  segs : ∀ s ∈ L.segs, s.Ok
  durable : L.durable.Ok
theorem LogV.Ok.act {L : LogV} (h : L.Ok) : L.act.Ok := h.segs _ (by simp [LogV.segs])
theorem SegRow.off {w w' : World} {g off cap : Nat} {xs : List SegV} {cur : Array Value} {G : Nat → Prop} (h : SegRow w g off cap xs cur) (ho : Off G w w') (hg : ¬ G g) : SegRow w' g off cap xs cur :=
  ⟨ho.at_ h.blk hg, h.size, h.le, h.max, h.at_⟩
theorem LogAt.off {w w' : World} {lg d : Nat} {L : LogV} {g off cap : Nat} {G : Nat → Prop} (h : LogAt w lg d L g off cap) (ho : Off G w w') (hl : ¬ G lg) (hg : ¬ G g) : LogAt w' lg d L g off cap :=
  ⟨ho.at_ h.core hl, h.row.imp fun _ hr => hr.off ho hg, h.ne⟩
/-- The active segment's cells. -/
theorem LogAt.act {w : World} {lg d : Nat} {L : LogV} {g off cap : Nat} (h : LogAt w lg d L g off cap) :
    w.cell? ⟨g, off * 3 + L.full.length * 3, none⟩ = some (.int .u64 L.act.first) ∧ w.cell? ⟨g, off * 3 + L.full.length * 3 + 1, none⟩ = some (.int .i64 L.act.many) ∧ w.cell? ⟨g, off * 3 + L.full.length * 3 + 2, none⟩ = some (.int .i64 L.act.size) ∧ ∀ i, w.frozen? ⟨g, i, none⟩ = false := by
  obtain ⟨cur, hr⟩ := h.row
  have h1 := hr.at_ L.full.length L.act (by simp [LogV.segs])
  rw [Nat.add_mul] at h1
  exact ⟨(Heap.cell hr.blk _).trans h1.1, (Heap.cell hr.blk _).trans h1.2.1, (Heap.cell hr.blk _).trans h1.2.2, fun i => Heap.frozen hr.blk i⟩
/-- The active segment's numbers have turned. -/
theorem LogAt.setAct {w w' : World} {lg d : Nat} {L : LogV} {g off cap : Nat} (h : LogAt w lg d L g off cap) (a : SegV) (hl : w'.heap[lg]? = w.heap[lg]?)
    (hb : ∀ cur, w.heap[g]? = some (.cells cur 42 (0, 0)) → w'.heap[g]? = some (.cells (((cur.setIfInBounds (off * 3 + L.full.length * 3) (.int .u64 a.first)).setIfInBounds (off * 3 + L.full.length * 3 + 1) (.int .i64 a.many)).setIfInBounds (off * 3 + L.full.length * 3 + 2) (.int .i64 a.size)) 42 (0, 0))) :
    LogAt w' lg d { L with act := a } g off cap := by
  obtain ⟨cur, hr⟩ := h.row
  have hlen := L.len
  have hle := hr.le
  have hsz := hr.size
  refine ⟨?_, ⟨_, hb cur hr.blk, by simp [hr.size], by rw [LogV.len] at hle ⊢; exact hle, hr.max, ?_⟩, h.ne⟩
  · rw [hl, h.core, LogV.len, LogV.len]
  · intro i s hi
    by_cases hc : i < L.full.length
    · have hs : L.segs[i]? = some s := by
        have : (L.full ++ [a])[i]? = some s := hi
        rw [List.getElem?_append_left hc] at this
        show (L.full ++ [L.act])[i]? = _
        rw [List.getElem?_append_left hc]; exact this
      have h1 := hr.at_ i s hs
      have e : (off + i) * 3 = off * 3 + i * 3 := Nat.add_mul ..
      rw [e] at h1 ⊢
      simp only [Array.getElem?_setIfInBounds]
      refine ⟨?_, ?_, ?_⟩
      · rw [if_neg (by omega), if_neg (by omega), if_neg (by omega)]; exact h1.1
      · rw [if_neg (by omega), if_neg (by omega), if_neg (by omega)]; exact h1.2.1
      · rw [if_neg (by omega), if_neg (by omega), if_neg (by omega)]; exact h1.2.2
    · have hi' : (L.full ++ [a])[i]? = some s := hi
      rw [List.getElem?_append_right (by omega)] at hi'
      have e0 : i = L.full.length := by
        rcases Nat.lt_or_ge (i - L.full.length) 1 with h1 | h1
        · omega
        · rw [List.getElem?_eq_none (by simpa using h1)] at hi'; cases hi'
      subst e0
      rw [Nat.sub_self] at hi'
      cases hi'
      have e : (off + L.full.length) * 3 = off * 3 + L.full.length * 3 := Nat.add_mul ..
      have hb3 : off * 3 + L.full.length * 3 + 2 < cur.size := by rw [hsz]; omega
      rw [e]
      simp only [Array.getElem?_setIfInBounds, Array.size_setIfInBounds]
      refine ⟨?_, ?_, ?_⟩
      · rw [if_neg (by omega), if_neg (by omega), if_pos trivial, if_pos (by omega)]
      · rw [if_neg (by omega), if_pos trivial, if_pos (by omega)]
      · rw [if_pos trivial, if_pos (by omega)]
namespace Seg
theorem end_any (w : World) (s : SegV) (h : s.Ok) : Calls Tryz.prog 46 #[segAgg s] w fun e w' => e = .returned (.int .u64 s.end_) ∧ Off None w w' := by
  have h1 := h.sum
  have h2 := h.many
  unfold segAgg
  go_enter Tryz.func46, Tryz.ntmps46
  go_wp2
  go_ret
  refine ⟨?_, (Off.refl None w).alloc _⟩
  unfold SegV.end_
  push_cast
  rfl
theorem active_any (w : World) (lg d : Nat) (L : LogV) (g off cap : Nat) (h : LogAt w lg d L g off cap) :
    Calls Tryz.prog 49 #[.pointer (some ⟨lg, 0, none⟩)] w fun e w' => e = .returned (.pointer (some ⟨g, off * 3 + L.full.length * 3, none⟩)) ∧ Off None w w' := by
  have c1 : w.cell? ⟨lg, 1, none⟩ = some (.slice (some ⟨g, off * 3, none⟩) L.segs.length cap) := Heap.cell h.core 1
  obtain ⟨cur, hr⟩ := h.row
  have hlen := L.len
  have hle := hr.le
  have hmx : cap ≤ 2 ^ 63 - 1 := hr.max
  clear h
  obtain ⟨k, hk⟩ : ∃ k, L.segs.length = k := ⟨_, rfl⟩
  have hf : L.full.length = k - 1 := by omega
  rw [hf]
  rw [hk] at c1 hle hlen
  have hk0 : 0 < k := by omega
  clear hk hf hlen
  have hwr : IntKind.i64.wrap ((k : Int) - 1) = (k : Int) - 1 := IntWalk.i64_in _ (by omega)
  have hi0 : (0 : Int) ≤ (k : Int) - 1 := by omega
  have hi1 : (k : Int) - 1 < (k : Int) := by omega
  go_enter Tryz.func49, Tryz.ntmps49
  go_wp2
  go_quiet (fail)
  go_wp2
  go_ret
  exact ⟨rfl, (Off.refl None w).drewN nq⟩
theorem next_any (w : World) (lg d : Nat) (L : LogV) (g off cap : Nat) (h : LogAt w lg d L g off cap) (hk : L.Ok) :
    Calls Tryz.prog 21 #[.pointer (some ⟨lg, 0, none⟩)] w fun e w' => e = .returned (.int .u64 L.act.end_) ∧ Off None w w' := by
  have H := Lib.hid h; clear h
  have hok := hk.act
  go_enter Tryz.func21, Tryz.ntmps21
  go_wp2_with fail
  refine (active_any _ lg d L g off cap H.out).mono ?_
  rintro e w1 ⟨rfl, ho1⟩
  obtain ⟨c0, c1, c2, f0⟩ := (H.out.off ho1 (fun h => h) (fun h => h)).act
  have HO := Lib.hid ho1; clear ho1
  go_wp2_with fail
  refine (end_any _ L.act hok).mono ?_
  rintro e w2 ⟨rfl, ho2⟩
  go_wp2
  go_ret
  exact ⟨rfl, HO.out.trans ho2 (fun _ _ h => h)⟩
theorem durable_any (w : World) (lg d : Nat) (L : LogV) (g off cap : Nat) (h : LogAt w lg d L g off cap) (hk : L.Ok) :
    Calls Tryz.prog 22 #[.pointer (some ⟨lg, 0, none⟩)] w fun e w' => e = .returned (.int .u64 L.durable.end_) ∧ Off None w w' := by
  have c2 : w.cell? ⟨lg, 2, none⟩ = some (.int .u64 L.durable.first) := Heap.cell h.core 2
  have c3 : w.cell? ⟨lg, 3, none⟩ = some (.int .i64 L.durable.many) := Heap.cell h.core 3
  have c4 : w.cell? ⟨lg, 4, none⟩ = some (.int .i64 L.durable.size) := Heap.cell h.core 4
  have hok := hk.durable
  clear h
  go_enter Tryz.func22, Tryz.ntmps22
  go_wp2_with fail
  refine (end_any _ L.durable hok).mono ?_
  rintro e w2 ⟨rfl, ho2⟩
  go_wp2
  go_ret
  exact ⟨rfl, ho2⟩
end Seg
end Go.Proofs.YtnppdcegpojmbaaGreatDoor
