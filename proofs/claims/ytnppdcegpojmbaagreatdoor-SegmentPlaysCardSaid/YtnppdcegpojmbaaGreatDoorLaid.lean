/- The tables that the rows lay: Glob out of them. -/
import Derived.Test.YtnppdcegpojmbaaGreatDoorSegIn
import Derived.Test.YtnppdcegpojmbaaGreatDoorRows
import Derived.Lib.LaidTab
import Derived.LaidSub
import Derived.MakeChecks
namespace Go.Proofs.YtnppdcegpojmbaaGreatDoor
open Go Go.RowKit
namespace Laid
theorem gTab : Tryz.prog.globalNamed "postroom/crc.table" = some 1 := by kernel_rfl
theorem tTab : (Tryz.prog.globals[1]?).map (·.type) = some 240 := by kernel_rfl
theorem tPow : (Tryz.prog.globals[0]?).map (·.type) = some 220 := by kernel_rfl
theorem c22 : Tryz.prog.cellsOf 176 = 1 := by kernel_rfl
theorem c35 : Tryz.prog.cellsOf 240 = 16 := by kernel_rfl
theorem c64 : Tryz.prog.cellsOf 31 = 1 := by kernel_rfl
theorem c20 : Tryz.prog.cellsOf 220 = 20 := by kernel_rfl
theorem tab_of {W : World} (h : laidMetH Tryz.prog [("postroom/crc.table", Rows.laid_postroom_crc_table)] W) : Crc.TabOk W := by
  rw [MakeChecks.laidMetH_plain _ _ _ (by kernel_rfl)] at h
  have hT := Lib.tabIs_of_head (k := .u32) (zs := Crc.tabL.map fun (n : Nat) => (n : Int)) gTab tTab Tryz.underlying240 Tryz.underlying176 c22 c35 h
  intro i hi
  have := hT.cell gTab i (by simpa [Crc.tabL] using hi)
  rw [this, Crc.tabAt]
  have e : ∀ j : Fin 16, (Crc.tabL.map fun (n : Nat) => (n : Int)).getD j.val 0 = ((Crc.tabL.getD j.val 0 : Nat) : Int) := by decide
  rw [e ⟨i, hi⟩]
theorem pow_of {W : World} (h : laidMetH Tryz.prog [("internal/strconv.uint64pow10", Rows.laid_internal_strconv_uint64pow10)] W) : Pow W := by
  rw [MakeChecks.laidMetH_plain _ _ _ (by kernel_rfl)] at h
  exact Lib.tabIs_of_head (k := .u64) (zs := Lib.pow10Tab) powNamed tPow Tryz.underlying220 Tryz.underlying31 c64 c20 h
theorem glob_of {W : World} {l : List (String × DataW Unit)} (h : laidMetH Tryz.prog l W)
    (h1 : l.filter (fun x => x.1 == "postroom/crc.table") = [("postroom/crc.table", Rows.laid_postroom_crc_table)])
    (h2 : l.filter (fun x => x.1 == "internal/strconv.uint64pow10") = [("internal/strconv.uint64pow10", Rows.laid_internal_strconv_uint64pow10)]) : Glob W.heap.size W := by
  have ht := tab_of (by have := h.filter (fun x => x.1 == "postroom/crc.table"); rw [h1] at this; exact this)
  have hp := pow_of (by have := h.filter (fun x => x.1 == "internal/strconv.uint64pow10"); rw [h2] at this; exact this)
  exact ⟨ht, hp, Heap.block_lt (ht 0 (by omega)), Heap.block_lt (hp.cell powNamed 0 (by decide))⟩
end Laid
end Go.Proofs.YtnppdcegpojmbaaGreatDoor
