/- The walks of the disk's small parts: begin, fails, Ops, Fail, Stop. · A map of names in memory: looked into, put to, deleted from. · The walks of find, Read, Sync's and Cut's kin. -/
import Derived.Test.YtnppdcegpojmbaaGreatDoorDiskIn
import Derived.WalkSpells
import Derived.WalkLawsBesides
import Derived.Maps.Keyed
import Derived.StringKeys
namespace Go.Proofs.YtnppdcegpojmbaaGreatDoor
open Go Go.RowKit
namespace DiskW
theorem ret_int {k : IntKind} {a b : Int} (h : a = b) : Ending.returned (.int k a) = .returned (.int k b) := by rw [h]
theorem wrap_in (x : Int) : -9223372036854775808 ≤ wrap64 x ∧ wrap64 x ≤ 9223372036854775807 := by
  unfold wrap64; omega
theorem begin_wf {D : DiskV} (h : D.Wf) : D.begin.1.Wf := by
  unfold DiskV.begin
  split
  · exact h
  · refine ⟨h.room, wrap_in _, h.fail, ?_, h.names, h.base, h.moves⟩
    have := h.left
    show _ ≤ (if 0 < D.left then D.left - 1 else D.left) ∧ (if 0 < D.left then D.left - 1 else D.left) ≤ _
    split <;> omega
theorem begin_any (w : World) (d : Nat) (D : DiskV) (R : DiskRep) (h : DiskAt w d D R) :
    Calls Tryz.prog 106 #[.pointer (some ⟨d, 0, none⟩)] w fun e w' => e = .returned (.int .i64 D.begin.2) ∧ DiskAt w' d D.begin.1 R ∧ Off (Only d) w w' := by
  have c5 : w.cell? ⟨d, 5, none⟩ = some (.int .i64 D.ops) := Heap.cell h.core 5
  have c7 : w.cell? ⟨d, 7, none⟩ = some (.int .i64 D.left) := Heap.cell h.core 7
  have f5 : w.frozen? ⟨d, 5, none⟩ = false := Heap.frozen h.core 5
  have f7 : w.frozen? ⟨d, 7, none⟩ = false := Heap.frozen h.core 7
  have hl := h.wf.left
  have H := Lib.hid h; clear h
  rcases Int.lt_trichotomy D.left 0 with hlt | heq | hgt
  · have t1 : (D.left == 0) = false := by rw [beq_eq_false_iff_ne]; omega
    have t2 : ¬ 0 < D.left := by omega
    have e : D.begin = ({ D with left := D.left, ops := wrap64 (D.ops + 1) }, 0) := by unfold DiskV.begin; rw [if_neg (by omega), if_neg t2]
    have E := Lib.hid e; clear e
    go_enter Tryz.func106, Tryz.ntmps106
    go_wp2
    go_ret
    have hw := begin_wf H.out.wf
    rw [E.out] at hw ⊢
    have ho : Off (Only d) w (w.setCell ⟨d, 5, none⟩ (.int .i64 (wrap64 (D.ops + 1)))) := (Off.refl _ _).set 5 _
    exact ⟨rfl, H.out.core' ho ((Heap.set H.out.core 5 _).trans rfl) hw rfl rfl rfl rfl, ho⟩
  · have t1 : (D.left == 0) = true := by rw [beq_iff_eq]; omega
    have e : D.begin = (D, 11) := by unfold DiskV.begin; rw [if_pos (by omega)]
    have E := Lib.hid e; clear e heq
    go_enter Tryz.func106, Tryz.ntmps106
    go_wp2
    go_ret
    rw [E.out]
    exact ⟨rfl, H.out, Off.refl _ _⟩
  · have t1 : (D.left == 0) = false := by rw [beq_eq_false_iff_ne]; omega
    have e : D.begin = ({ D with left := D.left - 1, ops := wrap64 (D.ops + 1) }, 0) := by unfold DiskV.begin; rw [if_neg (by omega), if_pos hgt]
    have E := Lib.hid e; clear e
    go_enter Tryz.func106, Tryz.ntmps106
    go_wp2
    go_ret
    have hw := begin_wf H.out.wf
    rw [E.out] at hw ⊢
    have ho : Off (Only d) w ((w.setCell ⟨d, 7, none⟩ (.int .i64 (D.left - 1))).setCell ⟨d, 5, none⟩ (.int .i64 (wrap64 (D.ops + 1)))) :=
      ((Off.refl _ _).set 7 _).set 5 _
    exact ⟨rfl, H.out.core' ho ((Heap.set (Heap.set H.out.core 7 _) 5 _).trans rfl) hw rfl rfl rfl rfl, ho⟩
theorem fails_wf {D : DiskV} (h : D.Wf) : D.fails.1.Wf := by
  unfold DiskV.fails
  split
  · exact h
  · have := h.fail
    exact ⟨h.room, h.ops, ⟨by show 0 ≤ D.fail - 1; omega, by show D.fail - 1 ≤ _; omega⟩, h.left, h.names, h.base, h.moves⟩
theorem fails_any (w : World) (d : Nat) (D : DiskV) (R : DiskRep) (h : DiskAt w d D R) :
    Calls Tryz.prog 68 #[.pointer (some ⟨d, 0, none⟩)] w fun e w' => e = .returned (.bool D.fails.2) ∧ DiskAt w' d D.fails.1 R ∧ Off (Only d) w w' := by
  have c6 : w.cell? ⟨d, 6, none⟩ = some (.int .i64 D.fail) := Heap.cell h.core 6
  have f6 : w.frozen? ⟨d, 6, none⟩ = false := Heap.frozen h.core 6
  have hl := h.wf.fail
  have H := Lib.hid h; clear h
  by_cases hlt : D.fail < 1
  · have e : D.fails = (D, false) := by unfold DiskV.fails; rw [if_pos hlt]
    have E := Lib.hid e; clear e
    go_enter Tryz.func68, Tryz.ntmps68
    go_wp2
    go_ret
    rw [E.out]
    exact ⟨rfl, H.out, Off.refl _ _⟩
  · have e : D.fails = ({ D with fail := D.fail - 1 }, decide (D.fail = 1)) := by unfold DiskV.fails; rw [if_neg hlt]
    have E := Lib.hid e; clear e
    go_enter Tryz.func68, Tryz.ntmps68
    go_wp2
    go_ret
    have hw := fails_wf H.out.wf
    rw [E.out] at hw ⊢
    have ho : Off (Only d) w (w.setCell ⟨d, 6, none⟩ (.int .i64 (D.fail - 1))) := (Off.refl _ _).set 6 _
    refine ⟨?_, H.out.core' ho ((Heap.set H.out.core 6 _).trans rfl) hw rfl rfl rfl rfl, ho⟩
    refine congrArg (fun b => Ending.returned (.bool b)) ?_
    show ((D.fail - 1 == 0) : Bool) = decide (D.fail = 1)
    rw [Bool.eq_iff_iff, beq_iff_eq, decide_eq_true_eq]; omega
theorem ops_any (w : World) (d : Nat) (D : DiskV) (R : DiskRep) (h : DiskAt w d D R) :
    Calls Tryz.prog 73 #[.pointer (some ⟨d, 0, none⟩)] w fun e w' => e = .returned (.int .i64 D.ops) ∧ w = w' := by
  have c5 : w.cell? ⟨d, 5, none⟩ = some (.int .i64 D.ops) := Heap.cell h.core 5
  clear h
  go_enter Tryz.func73, Tryz.ntmps73
  go_wp2
  go_ret
  exact ⟨rfl, rfl⟩
end DiskW
end Go.Proofs.YtnppdcegpojmbaaGreatDoor
namespace Go.Proofs.YtnppdcegpojmbaaGreatDoor
open Go Go.RowKit Go.Maps Go.WideShapes Go.WideMaps
theorem keyedS : Keyed Tryz.prog 9 := string_keyed Tryz.underlying9
theorem key_string (s : ByteArray) (hs : s.size ≤ maxLen) : keyOf Tryz.prog 9 (.string s) = some (.string s.data.toList) := keyOf_string_mk Tryz.underlying9 hs
def NMap.getI (m : NMap) (k : Bytes) : Int := (((m.get k).getD 0 : Nat) : Int)
theorem map_look {w : World} {b : Nat} {m : NMap} (h : MapAt w b m) (s : ByteArray) (hs : s.size ≤ maxLen) :
    (Instr.lookup 76 (.map (some b)) (.string s) true).run Tryz.prog w = .ok (.tuple #[.int .i64 (m.getI (bytesOf s)), .bool (m.get (bytesOf s)).isSome]) w := by
  have hz : (zeroValue 3).run Tryz.prog w = .ok (.int .i64 0) w := by kernel_rfl
  obtain ⟨v, ps, hrun, hv⟩ := h.look_ok keyedS Tryz.underlying76 hz (Go.plainElem_int Tryz.underlying3 (by decide)) (key_string s hs)
  obtain ⟨a, rfl, ha, _⟩ := Go.plainElem_int_inv Tryz.underlying3 hv
  rw [hrun, NMap.has_toD]
  rw [NMap.atKey_toD] at ha
  have e : a = m.getI (bytesOf s) := by
    unfold NMap.getI
    show a = (((m.get s.data.toList).getD 0 : Nat) : Int)
    cases hg : m.get s.data.toList with
    | none => rw [hg] at ha; simp at ha; rw [← ha.1]; rfl
    | some i => rw [hg] at ha; simp at ha; rw [← ha.1]; rfl
  rw [e]; rfl
theorem map_put {w : World} {b : Nat} {m : NMap} (h : MapAt w b m) (s : ByteArray) (hs : s.size ≤ maxLen) (i : Nat) (hi : i ≤ 9223372036854775807) (hm : m.length < maxLen) :
    ∃ w', (Instr.mapUpdate 76 (.map (some b)) (.string s) (.int .i64 i)).run Tryz.prog w = .ok () w' ∧ MapAt w' b (m.put (bytesOf s) i) ∧ w.mapTurned w' b := by
  have hwf : (Lit.int .i64 (i : Int)).wf = true := by simp [Lit.wf, IntKind.min, IntKind.max, IntKind.bits, IntKind.signed]; omega
  obtain ⟨w', hrun, hown, ht⟩ := h.store keyedS Tryz.underlying76 hm (key_string s hs) (Go.plainElem_int Tryz.underlying3 hwf)
  rw [NMap.toD_put] at hown
  exact ⟨w', hrun, map_tight hown, ht⟩
theorem map_del {w : World} {b : Nat} {m : NMap} (h : MapAt w b m) (s : ByteArray) (hs : s.size ≤ maxLen) (ty : TypeId) :
    ∃ w', (Builtin.delete_ #[76, 9] ty #[.map (some b), .string s]).run Tryz.prog w = .ok (.tuple #[]) w' ∧ MapAt w' b (m.del (bytesOf s)) ∧ w.mapTurned w' b := by
  obtain ⟨w', hrun, hown, ht⟩ := h.drop keyedS Tryz.underlying76 (key_string s hs) ty
  rw [NMap.toD_del] at hown
  exact ⟨w', hrun, map_tight hown, ht⟩
end Go.Proofs.YtnppdcegpojmbaaGreatDoor
namespace Go.Proofs.YtnppdcegpojmbaaGreatDoor
open Go Go.RowKit
namespace DiskW
/-- The pointer that find hands back. -/
def fptr (R : DiskRep) : Option Nat → Value
  | none => .pointer none
  | some i => match R.fbs[i]? with | some b => .pointer (some ⟨b, 0, none⟩) | none => .pointer none
theorem frow_cell {w : World} {d : Nat} {D : DiskV} {R : DiskRep} (h : DiskAt w d D R) (i : Nat) (hi : i < D.files.length) :
    ∃ g cap b, R.fv = .slice (some ⟨g, 0, none⟩) D.files.length cap ∧ R.fbs[i]? = some b ∧ w.cell? ⟨g, i, none⟩ = some (.pointer (some ⟨b, 0, none⟩)) := by
  obtain ⟨h1, h2 | ⟨g, cap, cur, hv, _, hb, hle, _, hs, ht⟩⟩ := h.frow
  · omega
  · have hl := h.len
    refine ⟨g, cap, R.fbs[i], hv, List.getElem?_eq_getElem (by omega), ?_⟩
    rw [Heap.cell hb, ← Array.getElem?_toList, ← List.getElem?_take_of_lt (j := D.files.length * 1) (by omega), ht, List.getElem?_map, List.getElem?_eq_getElem (by omega)]
    rfl
theorem file_cell {w : World} {d : Nat} {D : DiskV} {R : DiskRep} (h : DiskAt w d D R) {i : Nat} {f : FileV} (hf : D.files[i]? = some f) {b : Nat} (hb : R.fbs[i]? = some b) : w.cell? ⟨b, 1, none⟩ = some (.string f.now) := by
  obtain ⟨b', cv, h1, h2, h3, _⟩ := h.each i f hf
  cases h1.symm.trans hb
  exact Heap.cell h3.blk 1
theorem find_eq (D : DiskV) (name : ByteArray) (h : D.left ≠ 0) : D.find name = match D.names.get (bytesOf name) with | none => (D.begin.1, none, 5) | some i => (D.begin.1, some i, 0) := by
  unfold DiskV.find; rw [if_neg h]; cases D.names.get (bytesOf name) <;> rfl
theorem begin_left (D : DiskV) (h : D.left ≠ 0) : D.begin.2 = 0 := by unfold DiskV.begin; rw [if_neg h]
theorem begin_names (D : DiskV) : D.begin.1.names = D.names ∧ D.begin.1.files = D.files ∧ D.begin.1.base = D.base ∧ D.begin.1.moves = D.moves ∧ D.begin.1.room = D.room ∧ D.begin.1.fail = D.fail := by
  unfold DiskV.begin; split <;> exact ⟨rfl, rfl, rfl, rfl, rfl, rfl⟩
theorem find_any (w : World) (d : Nat) (D : DiskV) (R : DiskRep) (h : DiskAt w d D R) (name : ByteArray) (hn : name.size ≤ maxLen) :
    Calls Tryz.prog 59 #[.pointer (some ⟨d, 0, none⟩), .string name] w fun e w' =>
      e = .returned (.tuple #[fptr R (D.find name).2.1, .int .i64 (D.find name).2.2]) ∧ DiskAt w' d (D.find name).1 R ∧ Off (Only d) w w' := by
  have H := Lib.hid h; clear h
  have HN := Lib.hid hn; clear hn
  by_cases hl : D.left = 0
  · have e : D.find name = (D, none, 11) := by unfold DiskV.find; rw [if_pos hl]
    have e2 : D.begin = (D, 11) := by unfold DiskV.begin; rw [if_pos hl]
    have E := Lib.hid e; clear e hl
    have E2 := Lib.hid e2; clear e2
    go_enter Tryz.func59, Tryz.ntmps59
    go_wp2_with fail
    refine (begin_any _ _ _ _ H.out).mono ?_
    rw [E2.out]
    rintro e w' ⟨rfl, h1, ho⟩
    have H1 := Lib.hid h1; clear h1
    have HO := Lib.hid ho; clear ho
    go_wp2
    go_ret2
    rw [E.out]
    exact ⟨rfl, H1.out, HO.out⟩
  · have e2 := begin_left D hl
    have E := Lib.hid (find_eq D name hl)
    have E2 := Lib.hid e2; clear e2 hl
    go_enter Tryz.func59, Tryz.ntmps59
    go_wp2_with fail
    refine (begin_any _ _ _ _ H.out).mono ?_
    rw [E2.out]
    rintro e w1 ⟨rfl, h1, ho⟩
    have c2 : w1.cell? ⟨d, 2, none⟩ = some (.map (some R.nm)) := Heap.cell h1.core 2
    have c1 : w1.cell? ⟨d, 1, none⟩ = some R.fv := Heap.cell h1.core 1
    have hlook := map_look h1.names name HN.out
    rw [(begin_names D).1] at hlook
    have H1 := Lib.hid h1; clear h1
    have HO := Lib.hid ho; clear ho
    cases hg : D.names.get (bytesOf name) with
    | none =>
      have HG := Lib.hid hg
      rw [hg] at hlook
      simp only [Option.isSome_none] at hlook
      clear hg
      go_wp2
      go_ret2
      rw [E.out, HG.out]
      exact ⟨rfl, H1.out, HO.out⟩
    | some i =>
      have HG := Lib.hid hg
      have hi : i < D.files.length := H.out.wf.names _ (NMap.get_mem hg)
      have hgi : D.names.getI (bytesOf name) = (i : Int) := by unfold NMap.getI; rw [hg]; rfl
      rw [hgi, hg] at hlook
      simp only [Option.isSome_some] at hlook
      clear hg hgi
      obtain ⟨g, cap, b, hfv, hfb, hcell⟩ := frow_cell H1.out i (by rw [(begin_names D).2.1]; exact hi)
      rw [(begin_names D).2.1] at hfv
      rw [hfv] at c1
      clear hfv
      have HFB := Lib.hid hfb; clear hfb
      go_wp2
      go_ret2
      rw [E.out, HG.out]
      refine ⟨?_, H1.out, HO.out⟩
      show _ = Ending.returned (.tuple #[fptr R (some i), .int .i64 0])
      rw [fptr, HFB.out]; rfl
end DiskW
end Go.Proofs.YtnppdcegpojmbaaGreatDoor
