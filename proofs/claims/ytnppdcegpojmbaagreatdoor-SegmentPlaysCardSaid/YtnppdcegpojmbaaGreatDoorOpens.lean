/- The arguments of the laws' rows, opened: slices of texts, of numbers, of truths. -/
import Derived.Test.YtnppdcegpojmbaaGreatDoorLaw3
import Derived.WalkKit
import Derived.ProofKit
import Derived.OpenShut
import Derived.ShutString
import Derived.LaidMore
import Derived.Lay
import Derived.Lib.LaidTab
import Derived.SizedLaws
import Derived.MakeChecks
import Derived.Stop.Joined
import Derived.Deep.Strs
import Derived.Deep.Grids
namespace Go.Proofs.YtnppdcegpojmbaaGreatDoor.Opens
open Go Go.ChangeShapes Go.WideShapes Go.ChangeAt Go.RowKit
theorem c9 : Tryz.prog.cellsOf 9 = 1 := by kernel_rfl
theorem b16 : (16 : Nat) = Tryz.prog.bytesOf 9 := by kernel_rfl
theorem reach_eq : reachBytes = 140737488351232 := by decide
theorem sized_all {H : Type} {P : Program} {ts : List TypeId} {ds : List (DataW H)} (h : (DataW.weightsEach P ts ds).all (· ≤ reachBytes) = true) : ∀ n ∈ DataW.weightsEach P ts ds, n ≤ reachBytes := by
  intro n hn
  simpa using List.all_eq_true.1 h n hn
theorem strs_weight {H : Type} {P : Program} {e : TypeId} (l : List ByteArray) {s : ByteArray} (hs : s ∈ l) : s.data.toList.length ∈ DataW.weightsAll (H := H) P e (strs l) := by
  induction l with
  | nil => cases hs
  | cons x r ih =>
    rw [strs, List.map_cons, DataW.weightsAll]
    rcases List.mem_cons.1 hs with rfl | h
    · exact List.mem_append_left _ (by rw [DataW.weights]; exact List.mem_singleton.2 rfl)
    · exact List.mem_append_right _ (ih h)
set_option maxRecDepth 100000 in
theorem texts_list {H : Type} {enc : TypeId × Value → H} {W : World} {A : Option Addr} {l c f : Nat} {x : DataW H × List MemPlace} (h : DataW.trod enc Tryz.prog W 0 (fun _ => true) true f 22 (Value.slice A l c).cells.toList = some x)
    (hw : ∀ n ∈ x.1.weights Tryz.prog 22, n ≤ reachBytes) :
    l ≤ 140737488355328 ∧ ∃ T : List ByteArray, l = T.length ∧ (∀ t ∈ T, t.size ≤ 140737488355328) ∧ Words.Reads W W.heap.size 1 A T.length (Law.cellsT T) := by
  rcases open_strings Tryz.underlying22 Tryz.underlying9 (by kernel_rfl) h with ⟨hcs, _⟩ | ⟨a, len', cap', ss, hcs, _, hl, hm, hz, hx, hcell, _⟩
  · simp [Value.cells] at hcs
    obtain ⟨rfl, rfl, rfl⟩ := hcs
    exact ⟨Nat.zero_le _, [], rfl, fun _ h => by (cases h), Words.Reads.none_⟩
  · simp [Value.cells] at hcs
    obtain ⟨rfl, rfl, rfl⟩ := hcs
    simp only [if_true] at hz
    rw [hx, DataW.weights, Tryz.underlying22] at hw
    have hlen : (ss.take l).length = l := by rw [List.length_take]; omega
    have hwt : ∀ s ∈ ss.take l, s.data.toList.length ≤ reachBytes := fun s hs => hw _ (List.mem_cons_of_mem _ (List.mem_append_left _ (strs_weight _ hs)))
    have hwl : l * 16 ≤ reachBytes := by
      refine Nat.le_trans (Nat.le_trans ?_ (Nat.le_of_eq (congrArg (fun b => ((strs (H := H) (ss.take l)).length + (strs (H := H) (ss.drop l)).length) * b) b16))) (hw _ List.mem_cons_self)
      refine Nat.mul_le_mul_right _ ?_
      rw [strs, List.length_map, hlen]
      omega
    have hr := reach_eq
    refine ⟨by omega, ss.take l, hlen.symm, fun t ht => ?_, by rw [Law.cellsT_len, hlen, Nat.mul_one], fun h0 => ⟨a, rfl, ?_, fun j u hu => ?_⟩⟩
    · have := hwt t ht
      rw [show t.data.toList.length = t.size by simp] at this
      omega
    · have := hcell 0 (by rw [hlen] at h0; omega)
      have := Heap.block_lt this
      rwa [Words.block_of_add] at this
    · have hj : j < (ss.take l).length := by rw [← Law.cellsT_len]; exact (List.getElem?_eq_some_iff.1 hu).1
      rw [Law.cellsT_at hj hu]
      have hj2 : j < l := by rw [hlen] at hj; exact hj
      rw [hcell j (by omega), List.getElem_take, List.getD_eq_getElem?_getD, List.getElem?_eq_getElem (by omega)]
      rfl
theorem bools_of {H : Type} {enc : TypeId × Value → H} {W : World} {A : Option Addr} {l c f : Nat} {x : DataW H × List MemPlace} (h : DataW.trod enc Tryz.prog W 0 (fun _ => true) true f 45 (Value.slice A l c).cells.toList = some x) :
    l ≤ maxLen ∧ ∃ B : Nat → Bool, ∀ i, i < l → ∃ a, A = some a ∧ W.cell? (a.add i) = some (.bool (B i)) := by
  rcases Go.Deep.open_bools Tryz.underlying45 Tryz.underlying4 (by kernel_rfl) h with ⟨hcs, _⟩ | ⟨a, len', cap', B, hcs, _, hl, hm, _, hcell⟩
  · simp [Value.cells] at hcs
    obtain ⟨rfl, rfl, rfl⟩ := hcs
    exact ⟨Nat.zero_le _, fun _ => false, fun i hi => absurd hi (by omega)⟩
  · simp [Value.cells] at hcs
    obtain ⟨rfl, rfl, rfl⟩ := hcs
    exact ⟨Nat.le_trans hl hm, B, fun i hi => ⟨a, rfl, hcell i (by omega)⟩⟩
theorem ints_of {H : Type} {enc : TypeId × Value → H} {W : World} {A : Option Addr} {l c f : Nat} {x : DataW H × List MemPlace} (h : DataW.trod enc Tryz.prog W 0 (fun _ => true) true f 23 (Value.slice A l c).cells.toList = some x) :
    l ≤ maxLen ∧ ∃ B : Nat → Int, (∀ i, i < l → (Lit.int .i64 (B i)).wf = true) ∧ ∀ i, i < l → ∃ a, A = some a ∧ W.cell? (a.add i) = some (.int .i64 (B i)) := by
  rcases open_ints Tryz.underlying23 Tryz.underlying3 (by kernel_rfl) h with ⟨hcs, _⟩ | ⟨a, len', cap', zs, hcs, _, hl, hm, hz, _, hcell, hwf⟩
  · simp [Value.cells] at hcs
    obtain ⟨rfl, rfl, rfl⟩ := hcs
    exact ⟨Nat.zero_le _, fun _ => 0, fun i hi => absurd hi (by omega), fun i hi => absurd hi (by omega)⟩
  · simp [Value.cells] at hcs
    obtain ⟨rfl, rfl, rfl⟩ := hcs
    simp only [if_true] at hz
    refine ⟨Nat.le_trans hl hm, fun i => zs.getD i 0, fun i hi => ?_, fun i hi => ⟨a, rfl, hcell i (by omega)⟩⟩
    show (Lit.int .i64 (zs.getD i 0)).wf = true
    rw [List.getD_eq_getElem?_getD, List.getElem?_eq_getElem (by omega : i < zs.length)]
    exact hwf _ (List.getElem_mem _)
end Go.Proofs.YtnppdcegpojmbaaGreatDoor.Opens
