/- The walk of List. -/
import Derived.Test.YtnppdcegpojmbaaGreatDoorDisk8
import Derived.Sort.KeysCollected
namespace Go.Proofs.YtnppdcegpojmbaaGreatDoor
open Go Go.RowKit Go.Maps Go.Sort Go.Shelf
def DiskV.list (D : DiskV) : List Bytes := (D.names.map (·.1)).mergeSort leB
theorem strKeys_toD (m : NMap) : strKeys m.toD = m.map (·.1) := by
  show (m.map _).map _ = _
  rw [List.map_map]
  rfl
namespace DiskW
set_option maxRecDepth 100000 in
theorem list_any (w : World) (d : Nat) (D : DiskV) (F : Nat → Prop) (h : DiskIn w d D F) (hm : D.names.length ≤ 1099511627776) :
    Calls Tryz.prog 18 #[.pointer (some ⟨d, 0, none⟩)] w fun e w' =>
      ∃ v, e = .returned v ∧ w'.ownsRow w.heap.size 9 1 v D.list.length (D.list.map encStr) ∧ Below w.heap.size w w' := by
  obtain ⟨R, h, hF⟩ := h
  clear hF
  have c2 : w.cell? ⟨d, 2, none⟩ = some (.map (some R.nm)) := Heap.cell h.core 2
  have hlt := Heap.lt h.core
  have hsz : Maps.size D.names.toD ≤ 1099511627776 := by rw [NMap.size_toD]; exact hm
  have cS := Tryz.slices_Sorted_keys_52_53 R.nm D.names.length D.names.toD (Go.plainElem Tryz.prog 3) w h.names (by unfold maxLen; omega) (by omega)
  have HS := Lib.hid cS
  clear cS h hsz
  refine (callsIn_wide (n := 6)).1 ?_
  have hfK : Fence.wide.fn 53 := trivial
  have hfS : Fence.wide.fn 52 := trivial
  refine callsIn_of_wp Tryz.func18 rfl trivial ?_ rfl
  simp only [Tryz.ntmps18, List.size_toArray, List.length_cons, List.length_nil, Nat.reduceAdd, Nat.reduceSub, Array.replicate_succ, Array.replicate_zero, List.push_toArray, List.append_toArray, List.nil_append, List.cons_append]
  gi_wp2_with (first
    | (gi_at_call 53; refine (Tryz.maps_Keys_53 _ _).mono ?_; rintro e w' ⟨rfl, rfl⟩)
    | (gi_at_call 52; refine HS.out.mono ?_; rintro e w' ⟨v, ss, rfl, hS, hrow, hnil, hb⟩))
  go_ret
  refine ⟨v, rfl, ?_, ((Below.refl _ w).alloc (Nat.le_refl _) _).trans (hb.mono (by simp))⟩
  rw [strKeys_toD] at hS
  have e1 : ss.mergeSort (fun x y => decide (x ≤ y)) = D.list := mergeSort_of_perm hS
  have e2 : ss.length = D.list.length := by rw [← e1, List.length_mergeSort]
  rw [e1, e2] at hrow
  exact ownsRow_base_a hrow (by simp)
end DiskW
end Go.Proofs.YtnppdcegpojmbaaGreatDoor
