/- The walk of CrcJoins: it returns true at every two texts and every sum, and makes no more than new memory. -/
import Derived.Test.YtbopalllpdpcbaaDoorCrcSumsWalk
namespace Go.Proofs.YtbopalllpdpcbaaDoor.crcJoins
open Go Go.RowKit
theorem bytes_append (s t : ByteArray) : (s ++ t).data.toList = s.data.toList ++ t.data.toList := by simp
theorem walk (s t : ByteArray) (n : Int) (hz : s.size ≤ 140737488351232) (hzt : t.size ≤ 140737488351232) (hn : (Lit.int .u32 n).wf = true) (w : World) (hT : Crc.TabOk w) :
    Calls Tryd.prog 4 #[.string s, .string t, .int .u32 n] w fun e w' => e = .returned (.bool true) ∧ Below w.heap.size w w' := by
  obtain ⟨a, ha, rfl⟩ := crcSums.u32_of_wf hn
  have HT := Lib.hid hT; clear hT
  have hs : s.size ≤ maxLen := by unfold maxLen; omega
  have ht : t.size ≤ maxLen := by unfold maxLen; omega
  by_cases hl : s.size + t.size ≤ 3000
  · have e1 := Lib.hid (show Crc.addN 0 (s ++ t).data.toList = Crc.addN (Crc.addN 0 s.data.toList) t.data.toList by rw [bytes_append, Crc.addN_append])
    have e2 := Lib.hid (show Crc.addN a (s ++ t).data.toList = Crc.addN (Crc.addN a s.data.toList) t.data.toList by rw [bytes_append, Crc.addN_append])
    have e3 : Crc.addN a (ByteArray.mk #[]).data.toList = a := Crc.addN_nil a
    have hst : (s ++ t).size ≤ maxLen := by rw [ByteArray.size_append]; unfold maxLen; omega
    have hl' : ¬ (3000 < (s.size : Int) + (t.size : Int)) := by omega
    go_enter Tryd.func4, Tryd.ntmps4
    go_wp2_with fail
    refine (Crc.shown_any _ HT.out).mono ?_
    rintro e w' ⟨rfl, rfl⟩
    go_wp2_with fail
    refine (Crc.sum_any _ _ hst HT.out).mono ?_
    rintro e w' ⟨rfl, rfl⟩
    rw [e1.out]
    go_wp2_with fail
    refine (Crc.sum_any _ _ hs HT.out).mono ?_
    rintro e w' ⟨rfl, rfl⟩
    go_wp2_with fail
    refine (Crc.add_any _ _ _ ht (Crc.addN_lt (by omega) _) HT.out).mono ?_
    rintro e w' ⟨rfl, rfl⟩
    go_wp2_with fail
    refine (Crc.add_any _ _ _ hst ha HT.out).mono ?_
    rintro e w' ⟨rfl, rfl⟩
    rw [e2.out]
    go_wp2_with fail
    refine (Crc.add_any _ _ _ hs ha HT.out).mono ?_
    rintro e w' ⟨rfl, rfl⟩
    go_wp2_with fail
    refine (Crc.add_any _ _ _ ht (Crc.addN_lt ha _) HT.out).mono ?_
    rintro e w' ⟨rfl, rfl⟩
    go_wp2_with fail
    refine (Crc.add_any _ _ _ (by decide) ha HT.out).mono ?_
    rintro e w' ⟨rfl, rfl⟩
    rw [e3]
    go_wp2
    go_ret
    exact ⟨rfl, Below.refl _ _⟩
  · have hl' : 3000 < (s.size : Int) + (t.size : Int) := by omega
    go_enter Tryd.func4, Tryd.ntmps4
    go_wp2_with fail
    refine (Crc.shown_any _ HT.out).mono ?_
    rintro e w' ⟨rfl, rfl⟩
    go_wp2
    go_ret
    exact ⟨rfl, Below.refl _ _⟩
end Go.Proofs.YtbopalllpdpcbaaDoor.crcJoins
