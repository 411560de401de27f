/- A map of names in memory: looked into, put to, deleted from. -/
import Derived.Test.YtnppdcegpojmbaaGreatDoorDiskIn
import Derived.Maps.Keyed
import Derived.StringKeys
namespace Go.Proofs.YtnppdcegpojmbaaGreatDoor
open Go Go.RowKit Go.Maps Go.WideShapes Go.WideMaps
theorem keyedS : Keyed Tryz.prog 9 := string_keyed Tryz.underlying9
theorem key_string (s : ByteArray) (hs : s.size ≤ maxLen) : keyOf Tryz.prog 9 (.string s) = some (.string s.data.toList) := keyOf_string_mk Tryz.underlying9 hs
def NMap.getI (m : NMap) (k : Bytes) : Int := (((m.get k).getD 0 : Nat) : Int)
theorem map_look {w : World} {b : Nat} {m : NMap} (h : MapAt w b m) (s : ByteArray) (hs : s.size ≤ maxLen) :
    (Instr.lookup 76 (.map (some b)) (.string s) true).run Tryz.prog w = .ok (.tuple #[.int .i64 (m.getI (bytesOf s)), .bool (m.get (bytesOf s)).isSome]) w := by
  have hz : (zeroValue 3).run Tryz.prog w = .ok (.int .i64 0) w := by kernel_rfl
  obtain ⟨v, ps, hrun, hv⟩ := h.look_ok keyedS Tryz.underlying76 hz (Go.plainElem_int Tryz.underlying3 (by decide)) (key_string s hs)
  obtain ⟨a, rfl, ha, _⟩ := Go.plainElem_int_inv Tryz.underlying3 hv
  rw [hrun, NMap.has_toD]
  rw [NMap.atKey_toD] at ha
  have e : a = m.getI (bytesOf s) := by
    unfold NMap.getI
    show a = (((m.get s.data.toList).getD 0 : Nat) : Int)
    cases hg : m.get s.data.toList with
    | none => rw [hg] at ha; simp at ha; rw [← ha.1]; rfl
    | some i => rw [hg] at ha; simp at ha; rw [← ha.1]; rfl
  rw [e]; rfl
theorem map_put {w : World} {b : Nat} {m : NMap} (h : MapAt w b m) (s : ByteArray) (hs : s.size ≤ maxLen) (i : Nat) (hi : i ≤ 9223372036854775807) (hm : m.length < maxLen) :
    ∃ w', (Instr.mapUpdate 76 (.map (some b)) (.string s) (.int .i64 i)).run Tryz.prog w = .ok () w' ∧ MapAt w' b (m.put (bytesOf s) i) ∧ w.mapTurned w' b := by
  have hwf : (Lit.int .i64 (i : Int)).wf = true := by simp [Lit.wf, IntKind.min, IntKind.max, IntKind.bits, IntKind.signed]; omega
  obtain ⟨w', hrun, hown, ht⟩ := h.store keyedS Tryz.underlying76 hm (key_string s hs) (Go.plainElem_int Tryz.underlying3 hwf)
  rw [NMap.toD_put] at hown
  exact ⟨w', hrun, map_tight hown, ht⟩
theorem map_del {w : World} {b : Nat} {m : NMap} (h : MapAt w b m) (s : ByteArray) (hs : s.size ≤ maxLen) (ty : TypeId) :
    ∃ w', (Builtin.delete_ #[76, 9] ty #[.map (some b), .string s]).run Tryz.prog w = .ok (.tuple #[]) w' ∧ MapAt w' b (m.del (bytesOf s)) ∧ w.mapTurned w' b := by
  obtain ⟨w', hrun, hown, ht⟩ := h.drop keyedS Tryz.underlying76 (key_string s hs) ty
  rw [NMap.toD_del] at hown
  exact ⟨w', hrun, map_tight hown, ht⟩
end Go.Proofs.YtnppdcegpojmbaaGreatDoor
