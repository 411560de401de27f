/- The walks of Stop and Fail of a disk. -/
import Derived.Test.YtnppdcegpojmbaaGreatDoorSeg5
namespace Go.Proofs.YtnppdcegpojmbaaGreatDoor
open Go Go.RowKit
namespace DiskV
def stop (D : DiskV) (n : Int) : DiskV := { D with left := max n (-1) }
def failAt (D : DiskV) (n : Int) : DiskV := { D with fail := max n 0 }
end DiskV
namespace DiskW
theorem stop_any (w : World) (d : Nat) (D : DiskV) (F : Nat → Prop) (h : DiskIn w d D F) (n : Int) (hn : -9223372036854775808 ≤ n) (hn2 : n ≤ 9223372036854775807) :
    Calls Tryz.prog 37 #[.pointer (some ⟨d, 0, none⟩), .int .i64 n] w fun e w' => e = .returned (.tuple #[]) ∧ DiskIn w' d (D.stop n) F ∧ Off F w w' := by
  obtain ⟨R, h, hF⟩ := h
  have HF := Lib.hid hF; clear hF
  have c7 : w.cell? ⟨d, 7, none⟩ = some (.int .i64 D.left) := Heap.cell h.core 7
  have f7 : w.frozen? ⟨d, 7, none⟩ = false := Heap.frozen h.core 7
  have hlt : d < w.heap.size := Heap.lt h.core
  have H := Lib.hid h; clear h
  go_enter Tryz.func37, Tryz.ntmps37
  go_wp2
  go_end0
  have ho : Off (Only d) w (w.setCell ⟨d, 7, none⟩ (.int .i64 (max n (-1)))) := (Off.refl _ _).set 7 _
  have hwf := H.out.wf
  refine ⟨rfl, ⟨R, H.out.core' (D' := D.stop n) ho ((Heap.set H.out.core 7 _).trans rfl) ⟨hwf.room, hwf.ops, hwf.fail, ?_, hwf.names, hwf.base, hwf.moves⟩ rfl rfl rfl rfl, HF.out⟩, ho.mono (fun b _ e => by rw [show b = d from e]; exact HF.out d (by rw [H.out.rD]; omega))⟩
  show -1 ≤ max n (-1) ∧ max n (-1) ≤ 9223372036854775807
  omega
theorem fail_any (w : World) (d : Nat) (D : DiskV) (F : Nat → Prop) (h : DiskIn w d D F) (n : Int) (hn : -9223372036854775808 ≤ n) (hn2 : n ≤ 9223372036854775807) :
    Calls Tryz.prog 89 #[.pointer (some ⟨d, 0, none⟩), .int .i64 n] w fun e w' => e = .returned (.tuple #[]) ∧ DiskIn w' d (D.failAt n) F ∧ Off F w w' := by
  obtain ⟨R, h, hF⟩ := h
  have HF := Lib.hid hF; clear hF
  have c6 : w.cell? ⟨d, 6, none⟩ = some (.int .i64 D.fail) := Heap.cell h.core 6
  have f6 : w.frozen? ⟨d, 6, none⟩ = false := Heap.frozen h.core 6
  have hlt : d < w.heap.size := Heap.lt h.core
  have H := Lib.hid h; clear h
  go_enter Tryz.func89, Tryz.ntmps89
  go_wp2
  go_end0
  have ho : Off (Only d) w (w.setCell ⟨d, 6, none⟩ (.int .i64 (max n 0))) := (Off.refl _ _).set 6 _
  have hwf := H.out.wf
  refine ⟨rfl, ⟨R, H.out.core' (D' := D.failAt n) ho ((Heap.set H.out.core 6 _).trans rfl) ⟨hwf.room, hwf.ops, ?_, hwf.left, hwf.names, hwf.base, hwf.moves⟩ rfl rfl rfl rfl, HF.out⟩, ho.mono (fun b _ e => by rw [show b = d from e]; exact HF.out d (by rw [H.out.rD]; omega))⟩
  show 0 ≤ max n 0 ∧ max n 0 ≤ 9223372036854775807
  omega
end DiskW
end Go.Proofs.YtnppdcegpojmbaaGreatDoor
