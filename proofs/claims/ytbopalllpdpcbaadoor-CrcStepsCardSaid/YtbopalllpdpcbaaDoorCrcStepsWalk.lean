/- The walk of CrcSteps: it returns true at every text and every two sums, and makes no more than new memory. -/
import Derived.Test.YtbopalllpdpcbaaDoorCrcSumsWalk
namespace Go.Proofs.YtbopalllpdpcbaaDoor.crcSteps
open Go Go.RowKit
theorem walk (s : ByteArray) (n1 n2 : Int) (hz : s.size ≤ 140737488351232) (hn1 : (Lit.int .u32 n1).wf = true) (hn2 : (Lit.int .u32 n2).wf = true) (w : World) (hT : Crc.TabOk w) :
    Calls Tryd.prog 8 #[.string s, .int .u32 n1, .int .u32 n2] w fun e w' => e = .returned (.bool true) ∧ Below w.heap.size w w' := by
  obtain ⟨a, ha, rfl⟩ := crcSums.u32_of_wf hn1
  obtain ⟨b, hb, rfl⟩ := crcSums.u32_of_wf hn2
  have HT := Lib.hid hT; clear hT
  have hs : s.size ≤ maxLen := by unfold maxLen; omega
  by_cases hl : s.size ≤ 2000
  · have hst := Crc.addN_steps ha hb s.data.toList
    have hl' : ¬ (2000 < (s.size : Int)) := by omega
    have e3 : ((((Crc.addN a s.data.toList : Nat) : Int) == ((Crc.addN b s.data.toList : Nat) : Int)) == ((a : Int) == (b : Int))) = true := by
      have : (((Crc.addN a s.data.toList : Nat) : Int) == ((Crc.addN b s.data.toList : Nat) : Int)) = ((a : Int) == (b : Int)) := by
        rw [Bool.eq_iff_iff, beq_iff_eq, beq_iff_eq, Int.ofNat_inj, Int.ofNat_inj]; exact hst
      rw [this, beq_self_eq_true]
    have E3 := Lib.hid e3
    clear hst e3
    go_enter Tryd.func8, Tryd.ntmps8
    go_wp2_with fail
    refine (Crc.shown_any _ HT.out).mono ?_
    rintro e w' ⟨rfl, rfl⟩
    go_wp2_with fail
    refine (Crc.add_any a _ _ hs ha HT.out).mono ?_
    rintro e w' ⟨rfl, rfl⟩
    go_wp2_with fail
    refine (Crc.add_any b _ _ hs hb HT.out).mono ?_
    rintro e w' ⟨rfl, rfl⟩
    go_wp2
    go_ret
    refine ⟨?_, Below.refl _ _⟩
    exact congrArg (fun x => Ending.returned (.bool x)) E3.out
  · have hl' : 2000 < (s.size : Int) := by omega
    go_enter Tryd.func8, Tryd.ntmps8
    go_wp2_with fail
    refine (Crc.shown_any _ HT.out).mono ?_
    rintro e w' ⟨rfl, rfl⟩
    go_wp2
    go_ret
    exact ⟨rfl, Below.refl _ _⟩
end Go.Proofs.YtbopalllpdpcbaaDoor.crcSteps
