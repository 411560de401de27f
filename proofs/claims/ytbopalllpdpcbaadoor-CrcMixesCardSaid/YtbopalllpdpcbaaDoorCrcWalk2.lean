/- The walks of the reference's Add and Sum, of pick and of the chapter's examples. -/
import Derived.Test.YtbopalllpdpcbaaDoorCrcWalk
namespace Go.Proofs.YtbopalllpdpcbaaDoor
open Go Go.RowKit
namespace Crc
set_option maxHeartbeats 400000 in
theorem radd_any (sum : Nat) (s : ByteArray) (w : World) (hs : s.size ≤ maxLen) (hsm : sum < 4294967296) :
    Calls Tryd.prog 13 #[.int .u32 sum, .string s] w fun e w' => e = .returned (.int .u32 (addR sum s.data.toList)) ∧ w = w' := by
  unfold maxLen at hs
  have H0 := Lib.hid (u32_xor_nat sum 4294967295 hsm (by omega))
  go_enter Tryd.func13, Tryd.ntmps13
  go_wp2
  go_loop [5, 6] (fun r i => ∃ k : Nat, k ≤ s.size ∧ i = .int .i64 k ∧ r = .int .u32 (regR (sum ^^^ 4294967295) (s.data.toList.take k))) (fun _ i => s.size - (intOf i).toNat)
  case atStart => exact ⟨0, Nat.zero_le _, rfl, by simpa [regR] using congrArg (Value.int .u32) H0.out⟩
  case round =>
    obtain ⟨k, hk, rfl, rfl⟩ := hrel
    have hr := regR_lt (xor_lt32 hsm (by omega : 4294967295 < 4294967296)) (s.data.toList.take k)
    by_cases hlt : k < s.size
    · have HS := Lib.hid (take_snoc s k hlt)
      have hb := s[k].toNat_lt
      have H1 := Lib.hid (u32_xor_nat _ _ hr (show s[k].toNat < 4294967296 by omega))
      have HN := Lib.hid (regR_snoc (sum ^^^ 4294967295) (s.data.toList.take k) s[k])
      go_wp2
      generalize hR : regR (sum ^^^ 4294967295) (s.data.toList.take k) = R at *
      have HR := Lib.hid hR; clear hR
      have hx := xor_lt32 hr (show s[k].toNat < 4294967296 by omega)
      go_loop [5, 7] (fun r j => ∃ (j' : Nat) (R' : Nat), R' < 4294967296 ∧ j' ≤ 8 ∧ j = .int .i64 j' ∧ r = .int .u32 R' ∧ halfs 8 (R ^^^ s[k].toNat) = halfs (8 - j') R') (fun _ j => 8 - (intOf j).toNat)
      case atStart => exact ⟨0, _, hx, by omega, rfl, by rw [H1.out], rfl⟩
      case round =>
        obtain ⟨j', R', hR', hj', rfl, rfl, hq⟩ := hrel
        have HQ := Lib.hid hq; clear hq
        by_cases hj : j' < 8
        · have hstep : halfs (8 - j') R' = halfs (8 - (j' + 1)) (half R') := by
            rw [show 8 - j' = (8 - (j' + 1)) + 1 by omega]; rfl
          have HST := Lib.hid hstep; clear hstep
          by_cases ho : R' % 2 = 1
          · have hh : half R' = (R' / 2) ^^^ 2197175160 := by unfold half; rw [if_pos ho]
            have HH := Lib.hid hh; clear hh
            have ht : ((R' : Int) % 2 == 1) = true := by rw [beq_iff_eq]; omega
            go_wp2
            go_round
            case rel =>
              refine ⟨j' + 1, half R', half_lt hR', by omega, by go_num, ?_, ?_⟩
              · rw [HH.out, show ((R' : Int) / 2) = ((R' / 2 : Nat) : Int) from by omega]
                have := u32_xor_nat (R' / 2) 2197175160 (by omega) (by omega)
                simpa using this
              · rw [HQ.out, HST.out]
            case measure => simp [intOf]; omega
          · have hh : half R' = R' / 2 := by unfold half; rw [if_neg ho]
            have HH := Lib.hid hh; clear hh
            have ht : ((R' : Int) % 2 == 1) = false := by rw [beq_eq_false_iff_ne]; omega
            go_wp2
            go_round
            case rel =>
              refine ⟨j' + 1, half R', half_lt hR', by omega, by go_num, ?_, ?_⟩
              · rw [HH.out]; rfl
              · rw [HQ.out, HST.out]
            case measure => simp [intOf]; omega
        · go_wp2
          go_round
          case rel =>
            refine ⟨k + 1, by omega, by go_num, ?_⟩
            rw [HS.out, HN.out, HQ.out, show 8 - j' = 0 by omega]; rfl
          case measure => simp [intOf]; omega
    · go_wp2
      go_ret
      have hk' : s.data.toList.take k = s.data.toList := List.take_of_length_le (by simp; omega)
      rw [hk'] at hr ⊢
      have H1 := u32_xor_nat _ 4294967295 hr (by omega)
      exact ⟨ret_int (by simpa [addR] using H1), rfl⟩
theorem rsum_any (s : ByteArray) (w : World) (hs : s.size ≤ maxLen) :
    Calls Tryd.prog 11 #[.string s] w fun e w' => e = .returned (.int .u32 (addR 0 s.data.toList)) ∧ w = w' := by
  go_enter Tryd.func11, Tryd.ntmps11
  go_wp2_with (go_at_call 13; refine (radd_any 0 _ _ hs (by omega)).mono ?_; rintro e w' ⟨rfl, rfl⟩)
  go_ret
  exact ⟨rfl, rfl⟩
theorem shown_any (w : World) (hT : TabOk w) : Calls Tryd.prog 9 #[] w fun e w' => e = .returned (.bool true) ∧ w = w' := by
  have HT := Lib.hid hT; clear hT
  have e1 : addN 0 (ByteArray.mk #[49, 50, 51, 52, 53, 54, 55, 56, 57]).data.toList = 3808858755 := addN_shown
  have e2 : addN 0 (ByteArray.mk #[]).data.toList = 0 := addN_nil 0
  go_enter Tryd.func9, Tryd.ntmps9
  go_wp2_with fail
  refine (sum_any _ _ (by decide) HT.out).mono ?_
  rintro e w' ⟨rfl, rfl⟩
  rw [e1]
  go_wp2_with fail
  refine (sum_any _ _ (by decide) HT.out).mono ?_
  rintro e w' ⟨rfl, rfl⟩
  rw [e2]
  go_wp2
  go_ret
  exact ⟨rfl, rfl⟩
end Crc
end Go.Proofs.YtbopalllpdpcbaaDoor
