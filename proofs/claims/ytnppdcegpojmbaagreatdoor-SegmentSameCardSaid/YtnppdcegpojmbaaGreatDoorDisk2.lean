/- The walks of find, Read, Sync's and Cut's kin. -/
import Derived.Test.YtnppdcegpojmbaaGreatDoorDisk1
import Derived.Test.YtnppdcegpojmbaaGreatDoorNames
namespace Go.Proofs.YtnppdcegpojmbaaGreatDoor
open Go Go.RowKit
namespace DiskW
/-- The pointer that find hands back. -/
def fptr (R : DiskRep) : Option Nat → Value
  | none => .pointer none
  | some i => match R.fbs[i]? with | some b => .pointer (some ⟨b, 0, none⟩) | none => .pointer none
theorem frow_cell {w : World} {d : Nat} {D : DiskV} {R : DiskRep} (h : DiskAt w d D R) (i : Nat) (hi : i < D.files.length) :
    ∃ g cap b, R.fv = .slice (some ⟨g, 0, none⟩) D.files.length cap ∧ R.fbs[i]? = some b ∧ w.cell? ⟨g, i, none⟩ = some (.pointer (some ⟨b, 0, none⟩)) := by
  obtain ⟨h1, h2 | ⟨g, cap, cur, hv, _, hb, hle, _, hs, ht⟩⟩ := h.frow
  · omega
  · have hl := h.len
    refine ⟨g, cap, R.fbs[i], hv, List.getElem?_eq_getElem (by omega), ?_⟩
    rw [Heap.cell hb, ← Array.getElem?_toList, ← List.getElem?_take_of_lt (j := D.files.length * 1) (by omega), ht, List.getElem?_map, List.getElem?_eq_getElem (by omega)]
    rfl
theorem file_cell {w : World} {d : Nat} {D : DiskV} {R : DiskRep} (h : DiskAt w d D R) {i : Nat} {f : FileV} (hf : D.files[i]? = some f) {b : Nat} (hb : R.fbs[i]? = some b) : w.cell? ⟨b, 1, none⟩ = some (.string f.now) := by
  obtain ⟨b', cv, h1, h2, h3, _⟩ := h.each i f hf
  cases h1.symm.trans hb
  exact Heap.cell h3.blk 1
theorem find_eq (D : DiskV) (name : ByteArray) (h : D.left ≠ 0) : D.find name = match D.names.get (bytesOf name) with | none => (D.begin.1, none, 5) | some i => (D.begin.1, some i, 0) := by
  unfold DiskV.find; rw [if_neg h]; cases D.names.get (bytesOf name) <;> rfl
theorem begin_left (D : DiskV) (h : D.left ≠ 0) : D.begin.2 = 0 := by unfold DiskV.begin; rw [if_neg h]
theorem begin_names (D : DiskV) : D.begin.1.names = D.names ∧ D.begin.1.files = D.files ∧ D.begin.1.base = D.base ∧ D.begin.1.moves = D.moves ∧ D.begin.1.room = D.room ∧ D.begin.1.fail = D.fail := by
  unfold DiskV.begin; split <;> exact ⟨rfl, rfl, rfl, rfl, rfl, rfl⟩
theorem find_any (w : World) (d : Nat) (D : DiskV) (R : DiskRep) (h : DiskAt w d D R) (name : ByteArray) (hn : name.size ≤ maxLen) :
    Calls Tryz.prog 59 #[.pointer (some ⟨d, 0, none⟩), .string name] w fun e w' =>
      e = .returned (.tuple #[fptr R (D.find name).2.1, .int .i64 (D.find name).2.2]) ∧ DiskAt w' d (D.find name).1 R ∧ Off (Only d) w w' := by
  have H := Lib.hid h; clear h
  have HN := Lib.hid hn; clear hn
  by_cases hl : D.left = 0
  · have e : D.find name = (D, none, 11) := by unfold DiskV.find; rw [if_pos hl]
    have e2 : D.begin = (D, 11) := by unfold DiskV.begin; rw [if_pos hl]
    have E := Lib.hid e; clear e hl
    have E2 := Lib.hid e2; clear e2
    go_enter Tryz.func59, Tryz.ntmps59
    go_wp2_with fail
    refine (begin_any _ _ _ _ H.out).mono ?_
    rw [E2.out]
    rintro e w' ⟨rfl, h1, ho⟩
    have H1 := Lib.hid h1; clear h1
    have HO := Lib.hid ho; clear ho
    go_wp2
    go_ret2
    rw [E.out]
    exact ⟨rfl, H1.out, HO.out⟩
  · have e2 := begin_left D hl
    have E := Lib.hid (find_eq D name hl)
    have E2 := Lib.hid e2; clear e2 hl
    go_enter Tryz.func59, Tryz.ntmps59
    go_wp2_with fail
    refine (begin_any _ _ _ _ H.out).mono ?_
    rw [E2.out]
    rintro e w1 ⟨rfl, h1, ho⟩
    have c2 : w1.cell? ⟨d, 2, none⟩ = some (.map (some R.nm)) := Heap.cell h1.core 2
    have c1 : w1.cell? ⟨d, 1, none⟩ = some R.fv := Heap.cell h1.core 1
    have hlook := map_look h1.names name HN.out
    rw [(begin_names D).1] at hlook
    have H1 := Lib.hid h1; clear h1
    have HO := Lib.hid ho; clear ho
    cases hg : D.names.get (bytesOf name) with
    | none =>
      have HG := Lib.hid hg
      rw [hg] at hlook
      simp only [Option.isSome_none] at hlook
      clear hg
      go_wp2
      go_ret2
      rw [E.out, HG.out]
      exact ⟨rfl, H1.out, HO.out⟩
    | some i =>
      have HG := Lib.hid hg
      have hi : i < D.files.length := H.out.wf.names _ (NMap.get_mem hg)
      have hgi : D.names.getI (bytesOf name) = (i : Int) := by unfold NMap.getI; rw [hg]; rfl
      rw [hgi, hg] at hlook
      simp only [Option.isSome_some] at hlook
      clear hg hgi
      obtain ⟨g, cap, b, hfv, hfb, hcell⟩ := frow_cell H1.out i (by rw [(begin_names D).2.1]; exact hi)
      rw [(begin_names D).2.1] at hfv
      rw [hfv] at c1
      clear hfv
      have HFB := Lib.hid hfb; clear hfb
      go_wp2
      go_ret2
      rw [E.out, HG.out]
      refine ⟨?_, H1.out, HO.out⟩
      show _ = Ending.returned (.tuple #[fptr R (some i), .int .i64 0])
      rw [fptr, HFB.out]; rfl
end DiskW
end Go.Proofs.YtnppdcegpojmbaaGreatDoor
