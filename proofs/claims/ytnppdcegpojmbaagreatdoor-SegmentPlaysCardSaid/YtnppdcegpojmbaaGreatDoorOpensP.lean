/- The argument of SegmentPlays, opened: a slice of acts, each with all its numbers. -/
import Derived.Test.YtnppdcegpojmbaaGreatDoorOpensK
namespace Go.Proofs.YtnppdcegpojmbaaGreatDoor.Opens
open Go Go.ChangeShapes Go.WideShapes Go.ChangeAt Go.RowKit
set_option maxRecDepth 100000 in
theorem acts3_of {H : Type} {enc : TypeId × Value → H} {W : World} {A : Option Addr} {l c f : Nat} {x : DataW H × List MemPlace} (h : DataW.trod enc Tryz.prog W 0 (fun _ => true) true f 61 (Value.slice A l c).cells.toList = some x)
    (hw : ∀ n ∈ x.1.weights Tryz.prog 61, n ≤ reachBytes) :
    l ≤ 140737488355328 ∧ ∃ (O M : Nat → Int) (T : Nat → ByteArray), (∀ i, i < l → (Lit.int .i64 (O i)).wf = true) ∧ (∀ i, i < l → (T i).size ≤ 140737488355328) ∧
      ∀ i, i < l → ∃ a, A = some a ∧ W.cell? (a.add (i * 3)) = some (.int .i64 (O i)) ∧ W.cell? ⟨(a.add (i * 3)).block, (a.add (i * 3)).off + 1, none⟩ = some (.int .i64 (M i)) ∧ W.cell? ⟨(a.add (i * 3)).block, (a.add (i * 3)).off + 2, none⟩ = some (.string (T i)) := by
  have hr := reach_eq
  rcases Go.Deep.open_slice Tryz.underlying61 h with ⟨hcs, _⟩ | ⟨a, len, cap, m, n, D, Pl, hcs, _, hl, _, hm, hx, hel⟩
  · simp [Value.cells] at hcs
    obtain ⟨rfl, rfl, rfl⟩ := hcs
    exact ⟨Nat.zero_le _, fun _ => 0, fun _ => 0, fun _ => ByteArray.empty, fun i hi => absurd hi (by omega), fun i hi => absurd hi (by omega), fun i hi => absurd hi (by omega)⟩
  · simp [Value.cells] at hcs
    obtain ⟨rfl, rfl, rfl⟩ := hcs
    rw [hx] at hw
    rw [DataW.weights, Tryz.underlying61] at hw
    dsimp only at hw
    simp only [if_true] at hm
    have hlen : l * 32 ≤ reachBytes := by
      have h1 := hw _ List.mem_cons_self
      rw [act_bytes, List.length_map, List.length_range] at h1
      refine Nat.le_trans (Nat.mul_le_mul_right 32 ?_) h1
      omega
    obtain ⟨f0, f1, f2, hu, o0, o1, o2, t0, t1, t2⟩ := act_fields
    have each : ∀ i, i < l → ∃ q : Int × ByteArray × Int, W.cell? (a.add (i * 3)) = some (.int .i64 q.1) ∧ W.cell? ((a.add (i * 3)).add 2) = some (.string q.2.1) ∧ (Lit.int .i64 q.1).wf = true ∧ q.2.1.data.toList.length ≤ reachBytes ∧ W.cell? ((a.add (i * 3)).add 1) = some (.int .i64 q.2.2) := by
      intro i hi
      obtain ⟨cs', h1, h2⟩ := hel i (by omega)
      rw [act_cells] at h1
      obtain ⟨_, hlen, hcell⟩ := World.cells?_some h1
      obtain ⟨y0, y1, y2, k, hxy, _, g0, g1, g2⟩ := Go.Deep.trod_struct3 hu h2
      match cs', hlen with
      | [v0, v1, v2], _ =>
        rw [t0, o0, int_cells] at g0
        rw [t1, o1, int_cells] at g1
        rw [t2, o2, c9] at g2
        have g0' : DataW.trod enc Tryz.prog W 0 (fun _ => true) true k 3 [v0] = some y0 := g0
        have g1' : DataW.trod enc Tryz.prog W 0 (fun _ => true) true k 3 [v1] = some y1 := g1
        have g2' : DataW.trod enc Tryz.prog W 0 (fun _ => true) true k 9 [v2] = some y2 := g2
        obtain ⟨z, e1, _, e3⟩ := DataW.trod_int Tryz.underlying3 g0'
        obtain ⟨z1, e6, _, _⟩ := DataW.trod_int Tryz.underlying3 g1'
        obtain ⟨s, e4, e5, _⟩ := DataW.trod_string Tryz.underlying9 g2'
        have c0 := hcell 0 (by omega)
        have c1 := hcell 1 (by omega)
        have c2 := hcell 2 (by omega)
        refine ⟨(z, s, z1), ?_, ?_, e3, ?_, ?_⟩
        · rw [show (a.add (i * 3)).add 0 = a.add (i * 3) from by unfold Addr.add; rfl] at c0
          rw [c0]
          show some v0 = _
          rw [(List.cons.inj e1).1]
        · rw [c2]
          show some v2 = _
          rw [(List.cons.inj e4).1]
        · refine hw _ (List.mem_cons_of_mem _ (List.mem_append_left _ (weights_all (List.mem_map.2 ⟨i, List.mem_range.2 hi, rfl⟩) ?_)))
          simp only [Prod.mk.injEq] at hxy
          rw [hxy.1, e5, DataW.weights, hu]
          dsimp only
          show s.data.toList.length ∈ DataW.weightsEach _ [f0.type, f1.type, f2.type] _
          rw [DataW.weightsEach, DataW.weightsEach, DataW.weightsEach, DataW.weights]
          exact List.mem_append_right _ (List.mem_append_right _ (List.mem_append_left _ (List.mem_singleton.2 rfl)))
        · rw [c1]
          show some v1 = _
          rw [(List.cons.inj e6).1]
    have ch : ∀ i, ∃ q : Int × ByteArray × Int, i < l → W.cell? (a.add (i * 3)) = some (.int .i64 q.1) ∧ W.cell? ((a.add (i * 3)).add 2) = some (.string q.2.1) ∧ (Lit.int .i64 q.1).wf = true ∧ q.2.1.data.toList.length ≤ reachBytes ∧ W.cell? ((a.add (i * 3)).add 1) = some (.int .i64 q.2.2) := fun i => by
      by_cases hi : i < l
      · obtain ⟨q, hq⟩ := each i hi
        exact ⟨q, fun _ => hq⟩
      · exact ⟨(0, ByteArray.empty, 0), fun h => absurd h hi⟩
    obtain ⟨q, hq⟩ := Classical.axiomOfChoice ch
    refine ⟨by omega, fun i => (q i).1, fun i => (q i).2.2, fun i => (q i).2.1, fun i hi => (hq i hi).2.2.1, fun i hi => ?_, fun i hi => ⟨a, rfl, (hq i hi).1, ?_, ?_⟩⟩
    · have h1 := (hq i hi).2.2.2.1
      rw [show (q i).2.1.data.toList.length = (q i).2.1.size by simp] at h1
      show (q i).2.1.size ≤ _
      omega
    · have h1 := (hq i hi).2.2.2.2
      unfold Addr.add at h1
      exact h1
    · have h1 := (hq i hi).2.1
      unfold Addr.add at h1
      exact h1
end Go.Proofs.YtnppdcegpojmbaaGreatDoor.Opens
