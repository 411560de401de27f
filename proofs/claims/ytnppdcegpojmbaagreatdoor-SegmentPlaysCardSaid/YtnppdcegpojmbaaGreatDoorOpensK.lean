/- The arguments of SegmentKeeps, opened: a slice of acts; what is left when the power goes. -/
import Derived.Test.YtnppdcegpojmbaaGreatDoorOpens
import Derived.Deep.Slices
import Derived.Lib.SmallJoins
namespace Go.Proofs.YtnppdcegpojmbaaGreatDoor.Opens
open Go Go.ChangeShapes Go.WideShapes Go.ChangeAt Go.RowKit
theorem act_fields : ∃ f0 f1 f2 : Field, Tryz.prog.underlying 68 = some (.struct #[f0, f1, f2]) ∧ f0.offset = 0 ∧ f1.offset = 1 ∧ f2.offset = 2 ∧ f0.type = 3 ∧ f1.type = 3 ∧ f2.type = 9 :=
  ⟨_, _, _, Tryz.underlying68, rfl, rfl, rfl, rfl, rfl, rfl⟩
theorem act_cells : Tryz.prog.cellsOf 68 = 3 := by kernel_rfl
theorem act_bytes : Tryz.prog.bytesOf 68 = 32 := by kernel_rfl
theorem int_cells : Tryz.prog.cellsOf 3 = 1 := by kernel_rfl
theorem weights_all {H : Type} {P : Program} {e : TypeId} {l : List (DataW H)} {d : DataW H} (hd : d ∈ l) {n : Nat} (hn : n ∈ d.weights P e) : n ∈ DataW.weightsAll P e l := by
  induction l with
  | nil => cases hd
  | cons x r ih =>
    rw [DataW.weightsAll]
    rcases List.mem_cons.1 hd with rfl | h
    · exact List.mem_append_left _ hn
    · exact List.mem_append_right _ (ih h)
set_option maxRecDepth 100000 in
theorem acts_of {H : Type} {enc : TypeId × Value → H} {W : World} {A : Option Addr} {l c f : Nat} {x : DataW H × List MemPlace} (h : DataW.trod enc Tryz.prog W 0 (fun _ => true) true f 61 (Value.slice A l c).cells.toList = some x)
    (hw : ∀ n ∈ x.1.weights Tryz.prog 61, n ≤ reachBytes) :
    l ≤ 140737488355328 ∧ ∃ (O : Nat → Int) (T : Nat → ByteArray), (∀ i, i < l → (Lit.int .i64 (O i)).wf = true) ∧ (∀ i, i < l → (T i).size ≤ 140737488355328) ∧
      ∀ i, i < l → ∃ a, A = some a ∧ W.cell? (a.add (i * 3)) = some (.int .i64 (O i)) ∧ W.cell? ⟨(a.add (i * 3)).block, (a.add (i * 3)).off + 2, none⟩ = some (.string (T i)) := by
  have hr := reach_eq
  rcases Go.Deep.open_slice Tryz.underlying61 h with ⟨hcs, _⟩ | ⟨a, len, cap, m, n, D, Pl, hcs, _, hl, _, hm, hx, hel⟩
  · simp [Value.cells] at hcs
    obtain ⟨rfl, rfl, rfl⟩ := hcs
    exact ⟨Nat.zero_le _, fun _ => 0, fun _ => ByteArray.empty, fun i hi => absurd hi (by omega), fun i hi => absurd hi (by omega), fun i hi => absurd hi (by omega)⟩
  · simp [Value.cells] at hcs
    obtain ⟨rfl, rfl, rfl⟩ := hcs
    rw [hx] at hw
    rw [DataW.weights, Tryz.underlying61] at hw
    dsimp only at hw
    simp only [if_true] at hm
    have hlen : l * 32 ≤ reachBytes := by
      have h1 := hw _ List.mem_cons_self
      rw [act_bytes, List.length_map, List.length_range] at h1
      refine Nat.le_trans (Nat.mul_le_mul_right 32 ?_) h1
      omega
    obtain ⟨f0, f1, f2, hu, o0, o1, o2, t0, t1, t2⟩ := act_fields
    have each : ∀ i, i < l → ∃ q : Int × ByteArray, W.cell? (a.add (i * 3)) = some (.int .i64 q.1) ∧ W.cell? ((a.add (i * 3)).add 2) = some (.string q.2) ∧ (Lit.int .i64 q.1).wf = true ∧ q.2.data.toList.length ≤ reachBytes := by
      intro i hi
      obtain ⟨cs', h1, h2⟩ := hel i (by omega)
      rw [act_cells] at h1
      obtain ⟨_, hlen, hcell⟩ := World.cells?_some h1
      obtain ⟨y0, y1, y2, k, hxy, _, g0, g1, g2⟩ := Go.Deep.trod_struct3 hu h2
      match cs', hlen with
      | [v0, v1, v2], _ =>
        rw [t0, o0, int_cells] at g0
        rw [t2, o2, c9] at g2
        have g0' : DataW.trod enc Tryz.prog W 0 (fun _ => true) true k 3 [v0] = some y0 := g0
        have g2' : DataW.trod enc Tryz.prog W 0 (fun _ => true) true k 9 [v2] = some y2 := g2
        obtain ⟨z, e1, _, e3⟩ := DataW.trod_int Tryz.underlying3 g0'
        obtain ⟨s, e4, e5, _⟩ := DataW.trod_string Tryz.underlying9 g2'
        have c0 := hcell 0 (by omega)
        have c2 := hcell 2 (by omega)
        refine ⟨(z, s), ?_, ?_, e3, ?_⟩
        · rw [show (a.add (i * 3)).add 0 = a.add (i * 3) from by unfold Addr.add; rfl] at c0
          rw [c0]
          show some v0 = _
          rw [(List.cons.inj e1).1]
        · rw [c2]
          show some v2 = _
          rw [(List.cons.inj e4).1]
        · refine hw _ (List.mem_cons_of_mem _ (List.mem_append_left _ (weights_all (List.mem_map.2 ⟨i, List.mem_range.2 hi, rfl⟩) ?_)))
          simp only [Prod.mk.injEq] at hxy
          rw [hxy.1, e5, DataW.weights, hu]
          dsimp only
          show s.data.toList.length ∈ DataW.weightsEach _ [f0.type, f1.type, f2.type] _
          rw [DataW.weightsEach, DataW.weightsEach, DataW.weightsEach, DataW.weights]
          exact List.mem_append_right _ (List.mem_append_right _ (List.mem_append_left _ (List.mem_singleton.2 rfl)))
    have ch : ∀ i, ∃ q : Int × ByteArray, i < l → W.cell? (a.add (i * 3)) = some (.int .i64 q.1) ∧ W.cell? ((a.add (i * 3)).add 2) = some (.string q.2) ∧ (Lit.int .i64 q.1).wf = true ∧ q.2.data.toList.length ≤ reachBytes := fun i => by
      by_cases hi : i < l
      · obtain ⟨q, hq⟩ := each i hi
        exact ⟨q, fun _ => hq⟩
      · exact ⟨(0, ByteArray.empty), fun h => absurd h hi⟩
    obtain ⟨q, hq⟩ := Classical.axiomOfChoice ch
    refine ⟨by omega, fun i => (q i).1, fun i => (q i).2, fun i hi => (hq i hi).2.2.1, fun i hi => ?_, fun i hi => ⟨a, rfl, (hq i hi).1, ?_⟩⟩
    · have h1 := (hq i hi).2.2.2
      rw [show (q i).2.data.toList.length = (q i).2.size by simp] at h1
      show (q i).2.size ≤ _
      omega
    · have h1 := (hq i hi).2.1
      unfold Addr.add at h1
      exact h1
theorem keep_fields : ∃ f0 f1 : Field, Tryz.prog.underlying 63 = some (.struct #[f0, f1]) ∧ f0.type = 3 ∧ f1.type = 23 ∧ Go.Deep.oneCellFields Tryz.prog #[f0, f1] = true :=
  ⟨_, _, Tryz.underlying63, rfl, rfl, by kernel_rfl⟩
theorem keep_cells : Tryz.prog.cellsOf 63 = 2 := by kernel_rfl
set_option maxRecDepth 100000 in
theorem keep_of {H : Type} {enc : TypeId × Value → H} {W : World} {b0 : Nat} {v : Value} {d : DataW H} {p : List MemPlace} (hv : Value.okWide Tryz.prog W .any b0 63 v) (h : DataW.Trod enc Tryz.prog W 0 (fun _ => true) true 63 v d p) :
    ∃ (kd : Int) (Af : Option Addr) (cf : Nat) (fs : List Int), v = .agg #[.int .i64 kd, .slice Af fs.length cf] ∧ (∀ i (hi : i < fs.length), ∃ a, Af = some a ∧ W.cell? (a.add i) = some (.int .i64 fs[i])) ∧ ∀ x ∈ fs, -9223372036854775808 ≤ x ∧ x ≤ 9223372036854775807 := by
  obtain ⟨f0, f1, hu, t0, t1, hone⟩ := keep_fields
  obtain ⟨v0, v1, y0, y1, n, rfl, _, _, g0, g1⟩ := Go.Joins.open_agg2 hu hone keep_cells hv h
  rw [t0] at g0
  rw [t1] at g1
  obtain ⟨kd, e1, _, _⟩ := DataW.trod_int Tryz.underlying3 g0
  obtain rfl : v0 = .int .i64 kd := by simpa using e1
  rcases open_ints Tryz.underlying23 Tryz.underlying3 (by kernel_rfl) g1 with ⟨hcs, _⟩ | ⟨a, len, cap, zs, hcs, _, hl, _, hz, _, hcell, hwf⟩
  · obtain rfl : v1 = .slice none 0 0 := by simpa using hcs
    exact ⟨kd, none, 0, [], rfl, fun i hi => absurd hi (by simp), fun x hx => by cases hx⟩
  · obtain rfl : v1 = .slice (some a) len cap := by simpa using hcs
    simp only [if_true] at hz
    have hlen : (zs.take len).length = len := by rw [List.length_take]; omega
    refine ⟨kd, some a, cap, zs.take len, by rw [hlen], fun i hi => ⟨a, rfl, ?_⟩, fun x hx => ?_⟩
    · rw [hlen] at hi
      rw [hcell i (by omega), List.getElem_take, List.getD_eq_getElem?_getD, List.getElem?_eq_getElem (by omega)]
      rfl
    · have := hwf x (List.mem_of_mem_take hx)
      simpa [Lit.wf, IntKind.min, IntKind.max, IntKind.bits, IntKind.signed] using this
end Go.Proofs.YtnppdcegpojmbaaGreatDoor.Opens
