/- The walk of CrcSums: it returns true at every text and every sum, and makes no more than new memory. -/
import Derived.Test.YtbopalllpdpcbaaDoorCrcWalk2
import Derived.RowKit3
namespace Go.Proofs.YtbopalllpdpcbaaDoor.crcSums
open Go Go.RowKit
theorem u32_of_wf {n : Int} (h : (Lit.int .u32 n).wf = true) : ∃ m : Nat, m < 4294967296 ∧ n = m := by
  have h' : 0 ≤ n ∧ n ≤ 4294967295 := by
    simpa [Lit.wf, IntKind.min, IntKind.max, IntKind.bits, IntKind.signed] using h
  exact ⟨n.toNat, by omega, by omega⟩
theorem walk (s : ByteArray) (n : Int) (hz : s.size ≤ 140737488351232) (hn : (Lit.int .u32 n).wf = true) (w : World) (hT : Crc.TabOk w) :
    Calls Tryd.prog 3 #[.string s, .int .u32 n] w fun e w' => e = .returned (.bool true) ∧ Below w.heap.size w w' := by
  obtain ⟨m, hm, rfl⟩ := u32_of_wf hn
  have HT := Lib.hid hT; clear hT
  have hs : s.size ≤ maxLen := by unfold maxLen; omega
  by_cases hl : s.size ≤ 3000
  · have e1 := Lib.hid (Crc.addN_eq (sum := 0) (by omega) s.data.toList)
    have e2 := Lib.hid (Crc.addN_eq hm s.data.toList)
    have hl' : ¬ (3000 < (s.size : Int)) := by omega
    go_enter Tryd.func3, Tryd.ntmps3
    go_wp2_with fail
    refine (Crc.shown_any _ HT.out).mono ?_
    rintro e w' ⟨rfl, rfl⟩
    go_wp2_with fail
    refine (Crc.sum_any _ _ hs HT.out).mono ?_
    rintro e w' ⟨rfl, rfl⟩
    rw [e1.out]
    go_wp2_with fail
    refine (Crc.rsum_any _ _ hs).mono ?_
    rintro e w' ⟨rfl, rfl⟩
    go_wp2_with fail
    refine (Crc.add_any m _ _ hs hm HT.out).mono ?_
    rintro e w' ⟨rfl, rfl⟩
    rw [e2.out]
    go_wp2_with fail
    refine (Crc.radd_any m _ _ hs hm).mono ?_
    rintro e w' ⟨rfl, rfl⟩
    go_wp2
    go_ret
    exact ⟨rfl, Below.refl _ _⟩
  · have hl' : 3000 < (s.size : Int) := by omega
    go_enter Tryd.func3, Tryd.ntmps3
    go_wp2_with fail
    refine (Crc.shown_any _ HT.out).mono ?_
    rintro e w' ⟨rfl, rfl⟩
    go_wp2
    go_ret
    exact ⟨rfl, Below.refl _ _⟩
end Go.Proofs.YtbopalllpdpcbaaDoor.crcSums
