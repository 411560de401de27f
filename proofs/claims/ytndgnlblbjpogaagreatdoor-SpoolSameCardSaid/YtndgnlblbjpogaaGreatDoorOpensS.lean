/- The arguments of the spool's laws, opened: a slice of acts, each with its four numbers. -/
import Derived.Test.YtndgnlblbjpogaaGreatDoorLawS6
import Derived.WalkKit
import Derived.ProofKit
import Derived.OpenShut
import Derived.ShutString
import Derived.LaidMore
import Derived.Lay
import Derived.Lib.LaidTab
import Derived.SizedLaws
import Derived.MakeChecks
import Derived.Stop.Joined
import Derived.Deep.Strs
import Derived.Deep.Grids
import Derived.Deep.Slices
import Derived.Lib.SmallJoins
namespace Go.Proofs.YtndgnlblbjpogaaGreatDoor.Opens
open Go Go.ChangeShapes Go.WideShapes Go.ChangeAt Go.RowKit
theorem reach_eq : reachBytes = 140737488351232 := by decide
theorem sized_all {H : Type} {P : Program} {ts : List TypeId} {ds : List (DataW H)} (h : (DataW.weightsEach P ts ds).all (· ≤ reachBytes) = true) : ∀ n ∈ DataW.weightsEach P ts ds, n ≤ reachBytes := by
  intro n hn
  simpa using List.all_eq_true.1 h n hn
theorem act_fields : ∃ f0 f1 f2 f3 : Field, Tryz.prog.underlying 30 = some (.struct #[f0, f1, f2, f3]) ∧ (f0.offset = 0 ∧ f1.offset = 1 ∧ f2.offset = 2 ∧ f3.offset = 3) ∧ f0.type = 3 ∧ f1.type = 3 ∧ f2.type = 3 ∧ f3.type = 3 :=
  ⟨_, _, _, _, Tryz.underlying30, ⟨rfl, rfl, rfl, rfl⟩, rfl, rfl, rfl, rfl⟩
theorem act_cells : Tryz.prog.cellsOf 30 = 4 := by kernel_rfl
theorem act_bytes : Tryz.prog.bytesOf 30 = 32 := by kernel_rfl
theorem int_cells : Tryz.prog.cellsOf 3 = 1 := by kernel_rfl
theorem i64_of {x : Int} (h : (Lit.int .i64 x).wf = true) : I64 x := by
  simpa [Lit.wf, IntKind.min, IntKind.max, IntKind.bits, IntKind.signed, I64] using h
set_option maxRecDepth 100000 in
theorem acts4_of {H : Type} {enc : TypeId × Value → H} {W : World} {A : Option Addr} {l c f : Nat} {x : DataW H × List MemPlace} (h : DataW.trod enc Tryz.prog W 0 (fun _ => true) true f 22 (Value.slice A l c).cells.toList = some x)
    (hw : ∀ n ∈ x.1.weights Tryz.prog 22, n ≤ reachBytes) :
    l ≤ 140737488355328 ∧ ∃ T : Nat → ActV, (∀ i, i < l → (T i).Ok) ∧ ActsAt W A l T := by
  have hr := reach_eq
  rcases Go.Deep.open_slice Tryz.underlying22 h with ⟨hcs, _⟩ | ⟨a, len, cap, m, n, D, Pl, hcs, _, hl, _, hm, hx, hel⟩
  · simp [Value.cells] at hcs
    obtain ⟨rfl, rfl, rfl⟩ := hcs
    exact ⟨Nat.zero_le _, fun _ => ⟨0, 0, 0, 0⟩, fun i hi => absurd hi (by omega), fun i hi => absurd hi (by omega)⟩
  · simp [Value.cells] at hcs
    obtain ⟨rfl, rfl, rfl⟩ := hcs
    rw [hx] at hw
    rw [DataW.weights, Tryz.underlying22] at hw
    dsimp only at hw
    simp only [if_true] at hm
    have hlen : l * 32 ≤ reachBytes := by
      have h1 := hw _ List.mem_cons_self
      rw [act_bytes, List.length_map, List.length_range] at h1
      refine Nat.le_trans (Nat.mul_le_mul_right 32 ?_) h1
      omega
    obtain ⟨f0, f1, f2, f3, hu, ⟨o0, o1, o2, o3⟩, t0, t1, t2, t3⟩ := act_fields
    have each : ∀ i, i < l → ∃ q : ActV, q.Ok ∧ W.cell? (a.add (i * 4)) = some (.int .i64 q.op) ∧ W.cell? ((a.add (i * 4)).add 1) = some (.int .i64 q.name) ∧ W.cell? ((a.add (i * 4)).add 2) = some (.int .i64 q.n) ∧ W.cell? ((a.add (i * 4)).add 3) = some (.int .i64 q.long) := by
      intro i hi
      obtain ⟨cs', h1, h2⟩ := hel i (by omega)
      rw [act_cells] at h1
      obtain ⟨_, hlen, hcell⟩ := World.cells?_some h1
      obtain ⟨xs, k, _, _, _, hxl, hf⟩ := DataW.trod_struct hu h2
      match xs, hxl, cs', hlen with
      | [y0, y1, y2, y3], _, [v0, v1, v2, v3], _ =>
        have g0 := hf 0 f0 rfl
        have g1 := hf 1 f1 rfl
        have g2 := hf 2 f2 rfl
        have g3 := hf 3 f3 rfl
        rw [t0, o0, int_cells] at g0
        rw [t1, o1, int_cells] at g1
        rw [t2, o2, int_cells] at g2
        rw [t3, o3, int_cells] at g3
        have g0' : DataW.trod enc Tryz.prog W 0 (fun _ => true) true k 3 [v0] = some y0 := g0
        have g1' : DataW.trod enc Tryz.prog W 0 (fun _ => true) true k 3 [v1] = some y1 := g1
        have g2' : DataW.trod enc Tryz.prog W 0 (fun _ => true) true k 3 [v2] = some y2 := g2
        have g3' : DataW.trod enc Tryz.prog W 0 (fun _ => true) true k 3 [v3] = some y3 := g3
        obtain ⟨z0, e0, _, b0⟩ := DataW.trod_int Tryz.underlying3 g0'
        obtain ⟨z1, e1, _, b1⟩ := DataW.trod_int Tryz.underlying3 g1'
        obtain ⟨z2, e2, _, b2⟩ := DataW.trod_int Tryz.underlying3 g2'
        obtain ⟨z3, e3, _, b3⟩ := DataW.trod_int Tryz.underlying3 g3'
        have c0 := hcell 0 (by omega)
        have c1 := hcell 1 (by omega)
        have c2 := hcell 2 (by omega)
        have c3 := hcell 3 (by omega)
        refine ⟨⟨z0, z1, z2, z3⟩, ⟨i64_of b0, i64_of b1, i64_of b2, i64_of b3⟩, ?_, ?_, ?_, ?_⟩
        · rw [show (a.add (i * 4)).add 0 = a.add (i * 4) from by unfold Addr.add; rfl] at c0
          rw [c0]
          show some v0 = _
          rw [(List.cons.inj e0).1]
        · rw [c1]
          show some v1 = _
          rw [(List.cons.inj e1).1]
        · rw [c2]
          show some v2 = _
          rw [(List.cons.inj e2).1]
        · rw [c3]
          show some v3 = _
          rw [(List.cons.inj e3).1]
    have ch : ∀ i, ∃ q : ActV, i < l → q.Ok ∧ W.cell? (a.add (i * 4)) = some (.int .i64 q.op) ∧ W.cell? ((a.add (i * 4)).add 1) = some (.int .i64 q.name) ∧ W.cell? ((a.add (i * 4)).add 2) = some (.int .i64 q.n) ∧ W.cell? ((a.add (i * 4)).add 3) = some (.int .i64 q.long) := fun i => by
      by_cases hi : i < l
      · obtain ⟨q, hq⟩ := each i hi
        exact ⟨q, fun _ => hq⟩
      · exact ⟨⟨0, 0, 0, 0⟩, fun h => absurd h hi⟩
    obtain ⟨q, hq⟩ := Classical.axiomOfChoice ch
    refine ⟨by omega, q, fun i hi => (hq i hi).1, fun i hi => ⟨a, rfl, (hq i hi).2.1, ?_, ?_, ?_⟩⟩
    · have h1 := (hq i hi).2.2.1
      unfold Addr.add at h1
      exact h1
    · have h1 := (hq i hi).2.2.2.1
      unfold Addr.add at h1
      exact h1
    · have h1 := (hq i hi).2.2.2.2
      unfold Addr.add at h1
      exact h1
end Go.Proofs.YtndgnlblbjpogaaGreatDoor.Opens
