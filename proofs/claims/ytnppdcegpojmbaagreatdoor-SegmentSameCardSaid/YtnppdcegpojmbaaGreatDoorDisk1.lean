/- The walks of the disk's small parts: begin, fails, Ops, Fail, Stop. -/
import Derived.Test.YtnppdcegpojmbaaGreatDoorDiskIn
import Derived.WalkSpells
import Derived.WalkLawsBesides
namespace Go.Proofs.YtnppdcegpojmbaaGreatDoor
open Go Go.RowKit
namespace DiskW
theorem ret_int {k : IntKind} {a b : Int} (h : a = b) : Ending.returned (.int k a) = .returned (.int k b) := by rw [h]
theorem wrap_in (x : Int) : -9223372036854775808 ≤ wrap64 x ∧ wrap64 x ≤ 9223372036854775807 := by
  unfold wrap64; omega
theorem begin_wf {D : DiskV} (h : D.Wf) : D.begin.1.Wf := by
  unfold DiskV.begin
  split
  · exact h
  · refine ⟨h.room, wrap_in _, h.fail, ?_, h.names, h.base, h.moves⟩
    have := h.left
    show _ ≤ (if 0 < D.left then D.left - 1 else D.left) ∧ (if 0 < D.left then D.left - 1 else D.left) ≤ _
    split <;> omega
theorem begin_any (w : World) (d : Nat) (D : DiskV) (R : DiskRep) (h : DiskAt w d D R) :
    Calls Tryz.prog 106 #[.pointer (some ⟨d, 0, none⟩)] w fun e w' => e = .returned (.int .i64 D.begin.2) ∧ DiskAt w' d D.begin.1 R ∧ Off (Only d) w w' := by
  have c5 : w.cell? ⟨d, 5, none⟩ = some (.int .i64 D.ops) := Heap.cell h.core 5
  have c7 : w.cell? ⟨d, 7, none⟩ = some (.int .i64 D.left) := Heap.cell h.core 7
  have f5 : w.frozen? ⟨d, 5, none⟩ = false := Heap.frozen h.core 5
  have f7 : w.frozen? ⟨d, 7, none⟩ = false := Heap.frozen h.core 7
  have hl := h.wf.left
  have H := Lib.hid h; clear h
  rcases Int.lt_trichotomy D.left 0 with hlt | heq | hgt
  · have t1 : (D.left == 0) = false := by rw [beq_eq_false_iff_ne]; omega
    have t2 : ¬ 0 < D.left := by omega
    have e : D.begin = ({ D with left := D.left, ops := wrap64 (D.ops + 1) }, 0) := by unfold DiskV.begin; rw [if_neg (by omega), if_neg t2]
    have E := Lib.hid e; clear e
    go_enter Tryz.func106, Tryz.ntmps106
    go_wp2
    go_ret
    have hw := begin_wf H.out.wf
    rw [E.out] at hw ⊢
    have ho : Off (Only d) w (w.setCell ⟨d, 5, none⟩ (.int .i64 (wrap64 (D.ops + 1)))) := (Off.refl _ _).set 5 _
    exact ⟨rfl, H.out.core' ho ((Heap.set H.out.core 5 _).trans rfl) hw rfl rfl rfl rfl, ho⟩
  · have t1 : (D.left == 0) = true := by rw [beq_iff_eq]; omega
    have e : D.begin = (D, 11) := by unfold DiskV.begin; rw [if_pos (by omega)]
    have E := Lib.hid e; clear e heq
    go_enter Tryz.func106, Tryz.ntmps106
    go_wp2
    go_ret
    rw [E.out]
    exact ⟨rfl, H.out, Off.refl _ _⟩
  · have t1 : (D.left == 0) = false := by rw [beq_eq_false_iff_ne]; omega
    have e : D.begin = ({ D with left := D.left - 1, ops := wrap64 (D.ops + 1) }, 0) := by unfold DiskV.begin; rw [if_neg (by omega), if_pos hgt]
    have E := Lib.hid e; clear e
    go_enter Tryz.func106, Tryz.ntmps106
    go_wp2
    go_ret
    have hw := begin_wf H.out.wf
    rw [E.out] at hw ⊢
    have ho : Off (Only d) w ((w.setCell ⟨d, 7, none⟩ (.int .i64 (D.left - 1))).setCell ⟨d, 5, none⟩ (.int .i64 (wrap64 (D.ops + 1)))) :=
      ((Off.refl _ _).set 7 _).set 5 _
    exact ⟨rfl, H.out.core' ho ((Heap.set (Heap.set H.out.core 7 _) 5 _).trans rfl) hw rfl rfl rfl rfl, ho⟩
theorem fails_wf {D : DiskV} (h : D.Wf) : D.fails.1.Wf := by
  unfold DiskV.fails
  split
  · exact h
  · have := h.fail
    exact ⟨h.room, h.ops, ⟨by show 0 ≤ D.fail - 1; omega, by show D.fail - 1 ≤ _; omega⟩, h.left, h.names, h.base, h.moves⟩
theorem fails_any (w : World) (d : Nat) (D : DiskV) (R : DiskRep) (h : DiskAt w d D R) :
    Calls Tryz.prog 68 #[.pointer (some ⟨d, 0, none⟩)] w fun e w' => e = .returned (.bool D.fails.2) ∧ DiskAt w' d D.fails.1 R ∧ Off (Only d) w w' := by
  have c6 : w.cell? ⟨d, 6, none⟩ = some (.int .i64 D.fail) := Heap.cell h.core 6
  have f6 : w.frozen? ⟨d, 6, none⟩ = false := Heap.frozen h.core 6
  have hl := h.wf.fail
  have H := Lib.hid h; clear h
  by_cases hlt : D.fail < 1
  · have e : D.fails = (D, false) := by unfold DiskV.fails; rw [if_pos hlt]
    have E := Lib.hid e; clear e
    go_enter Tryz.func68, Tryz.ntmps68
    go_wp2
    go_ret
    rw [E.out]
    exact ⟨rfl, H.out, Off.refl _ _⟩
  · have e : D.fails = ({ D with fail := D.fail - 1 }, decide (D.fail = 1)) := by unfold DiskV.fails; rw [if_neg hlt]
    have E := Lib.hid e; clear e
    go_enter Tryz.func68, Tryz.ntmps68
    go_wp2
    go_ret
    have hw := fails_wf H.out.wf
    rw [E.out] at hw ⊢
    have ho : Off (Only d) w (w.setCell ⟨d, 6, none⟩ (.int .i64 (D.fail - 1))) := (Off.refl _ _).set 6 _
    refine ⟨?_, H.out.core' ho ((Heap.set H.out.core 6 _).trans rfl) hw rfl rfl rfl rfl, ho⟩
    refine congrArg (fun b => Ending.returned (.bool b)) ?_
    show ((D.fail - 1 == 0) : Bool) = decide (D.fail = 1)
    rw [Bool.eq_iff_iff, beq_iff_eq, decide_eq_true_eq]; omega
theorem ops_any (w : World) (d : Nat) (D : DiskV) (R : DiskRep) (h : DiskAt w d D R) :
    Calls Tryz.prog 73 #[.pointer (some ⟨d, 0, none⟩)] w fun e w' => e = .returned (.int .i64 D.ops) ∧ w = w' := by
  have c5 : w.cell? ⟨d, 5, none⟩ = some (.int .i64 D.ops) := Heap.cell h.core 5
  clear h
  go_enter Tryz.func73, Tryz.ntmps73
  go_wp2
  go_ret
  exact ⟨rfl, rfl⟩
end DiskW
end Go.Proofs.YtnppdcegpojmbaaGreatDoor
