/- The walks of crc.Add and crc.Sum: for every text and every sum they return the plain law's number, and change nothing. Condition: the table reads as its initialiser lays it. -/
import Derived.Test.YtnppdcegpojmbaaGreatDoorRows
import Derived.Test.YtnppdcegpojmbaaGreatDoorCrcPlain
import Derived.WalkKit
import Derived.WalkSpells
import Derived.Lib.Hide
namespace Go.Proofs.YtnppdcegpojmbaaGreatDoor
open Go Go.RowKit
namespace Crc
theorem ret_int {k : IntKind} {a b : Int} (h : a = b) : Ending.returned (.int k a) = .returned (.int k b) := by rw [h]
theorem take_snoc (s : ByteArray) (k : Nat) (h : k < s.size) : s.data.toList.take (k + 1) = s.data.toList.take k ++ [s[k]] := by
  rw [List.take_succ_eq_append_getElem (by simpa using h)]; rfl
/-- The table's cells. -/
def TabOk (w : World) : Prop := ∀ i, i < 16 → w.cell? ⟨1, i, none⟩ = some (.int .u32 (tabAt i))
set_option maxHeartbeats 400000 in
theorem add_any (sum : Nat) (s : ByteArray) (w : World) (hs : s.size ≤ maxLen) (hsm : sum < 4294967296) (hT : TabOk w) :
    Calls Tryz.prog 154 #[.int .u32 sum, .string s] w fun e w' => e = .returned (.int .u32 (addN sum s.data.toList)) ∧ w = w' := by
  unfold maxLen at hs
  unfold TabOk at hT
  have HT := Lib.hid hT; clear hT
  have H0 := Lib.hid (u32_xor_nat 4294967295 sum (by omega) hsm)
  go_enter Tryz.func154, Tryz.ntmps154
  go_wp2
  go_loop [5, 11] (fun r i => ∃ k : Nat, k ≤ s.size ∧ i = .int .i64 k ∧ r = .int .u32 (regN (4294967295 ^^^ sum) (s.data.toList.take k))) (fun _ i => s.size - (intOf i).toNat)
  case atStart => exact ⟨0, Nat.zero_le _, rfl, by simpa [IntKind.max, IntKind.bits, IntKind.signed, regN] using congrArg (Value.int .u32) H0.out⟩
  case round =>
    obtain ⟨k, hk, rfl, rfl⟩ := hrel
    have hr := regN_lt (xor_lt32 (by omega : 4294967295 < 4294967296) hsm) (s.data.toList.take k)
    by_cases hlt : k < s.size
    · have HS := Lib.hid (take_snoc s k hlt)
      have hb := s[k].toNat_lt
      have H1 := Lib.hid (u32_xor_nat _ _ hr (show s[k].toNat < 4294967296 by omega))
      have HN := Lib.hid (regN_snoc (4294967295 ^^^ sum) (s.data.toList.take k) s[k])
      go_wp2
      generalize hR : regN (4294967295 ^^^ sum) (s.data.toList.take k) = R at *
      have HR := Lib.hid hR; clear hR
      have hx := xor_lt32 hr (show s[k].toNat < 4294967296 by omega)
      go_loop [5, 20] (fun r j => ∃ (j' : Nat) (R' : Nat), R' < 4294967296 ∧ j' ≤ 2 ∧ j = .int .i64 j' ∧ r = .int .u32 R' ∧ (nib (nib (R ^^^ s[k].toNat)) = if j' = 0 then nib (nib R') else if j' = 1 then nib R' else R')) (fun _ j => 2 - (intOf j).toNat)
      case atStart => exact ⟨0, _, hx, by omega, rfl, by rw [H1.out], by simp⟩
      case round =>
        obtain ⟨j', R', hR', hj', rfl, rfl, hq⟩ := hrel
        have HQ := Lib.hid hq; clear hq
        by_cases hj : j' < 2
        · have hc := HT.out (R' % 16) (by omega)
          have hand : bits .and .u32 (R' : Int) 15 = ((R' % 16 : Nat) : Int) := by
            have := u32_and_nat R' 15 hR' (by omega)
            rw [← nat_mask4]; simpa using this
          go_wp2
          go_round
          case rel =>
            refine ⟨j' + 1, nib R', nib_lt hR', by omega, by go_num, ?_, ?_⟩
            · rw [show ((R' : Int) / 16) = ((R' / 16 : Nat) : Int) from by omega, u32_xor_nat _ _ (by omega) (tabAt_lt _)]; rfl
            · rw [HQ.out]; rcases (show j' = 0 ∨ j' = 1 by omega) with rfl | rfl <;> simp
          case measure => simp [intOf]; omega
        · go_wp2
          go_round
          case rel =>
            refine ⟨k + 1, by omega, by go_num, ?_⟩
            rw [HS.out, HN.out, HQ.out, if_neg (by omega), if_neg (by omega)]
          case measure => simp [intOf]; omega
    · go_wp2
      go_ret
      have hk' : s.data.toList.take k = s.data.toList := List.take_of_length_le (by simp; omega)
      rw [hk'] at hr ⊢
      have H1 := u32_xor_nat 4294967295 _ (by omega) hr
      exact ⟨ret_int (by simpa [IntKind.max, IntKind.bits, IntKind.signed, addN] using H1), rfl⟩
theorem sum_any (s : ByteArray) (w : World) (hs : s.size ≤ maxLen) (hT : TabOk w) :
    Calls Tryz.prog 125 #[.string s] w fun e w' => e = .returned (.int .u32 (addN 0 s.data.toList)) ∧ w = w' := by
  have HT := Lib.hid hT; clear hT
  go_enter Tryz.func125, Tryz.ntmps125
  go_wp2_with (go_at_call 154; refine (add_any 0 _ _ hs (by omega) HT.out).mono ?_; rintro e w' ⟨rfl, rfl⟩)
  go_ret
  exact ⟨rfl, rfl⟩
end Crc
end Go.Proofs.YtnppdcegpojmbaaGreatDoor
