/- The walks of the reference's Add and Sum. · The reference's numbers as bytes (Put, Take): what they compute is what the program's do. · The reference's frames (Put, First, Scan): what they compute is what the program's do. -/
import Derived.Test.YtnppdcegpojmbaaGreatDoorCrcWalk
import Derived.Test.YtnppdcegpojmbaaGreatDoorFrame2
import Derived.BigQuiet
import Derived.Test.YtnppdcegpojmbaaGreatDoorSeg9
import Derived.Test.YtnppdcegpojmbaaGreatDoorFrame3
import Derived.Test.YtnppdcegpojmbaaGreatDoorPlain7
namespace Go.Proofs.YtnppdcegpojmbaaGreatDoor
open Go Go.RowKit
namespace Crc
set_option maxHeartbeats 400000 in
theorem radd_any (sum : Nat) (s : ByteArray) (w : World) (hs : s.size ≤ maxLen) (hsm : sum < 4294967296) :
    Calls Tryz.prog 173 #[.int .u32 sum, .string s] w fun e w' => e = .returned (.int .u32 (addR sum s.data.toList)) ∧ w = w' := by
  unfold maxLen at hs
  have H0 := Lib.hid (u32_xor_nat sum 4294967295 hsm (by omega))
  go_enter Tryz.func173, Tryz.ntmps173
  go_wp2
  go_loop [5, 6] (fun r i => ∃ k : Nat, k ≤ s.size ∧ i = .int .i64 k ∧ r = .int .u32 (regR (sum ^^^ 4294967295) (s.data.toList.take k))) (fun _ i => s.size - (intOf i).toNat)
  case atStart => exact ⟨0, Nat.zero_le _, rfl, by simpa [regR] using congrArg (Value.int .u32) H0.out⟩
  case round =>
    obtain ⟨k, hk, rfl, rfl⟩ := hrel
    have hr := regR_lt (xor_lt32 hsm (by omega : 4294967295 < 4294967296)) (s.data.toList.take k)
    by_cases hlt : k < s.size
    · have HS := Lib.hid (take_snoc s k hlt)
      have hb := s[k].toNat_lt
      have H1 := Lib.hid (u32_xor_nat _ _ hr (show s[k].toNat < 4294967296 by omega))
      have HN := Lib.hid (regR_snoc (sum ^^^ 4294967295) (s.data.toList.take k) s[k])
      go_wp2
      generalize hR : regR (sum ^^^ 4294967295) (s.data.toList.take k) = R at *
      have HR := Lib.hid hR; clear hR
      have hx := xor_lt32 hr (show s[k].toNat < 4294967296 by omega)
      go_loop [5, 7] (fun r j => ∃ (j' : Nat) (R' : Nat), R' < 4294967296 ∧ j' ≤ 8 ∧ j = .int .i64 j' ∧ r = .int .u32 R' ∧ halfs 8 (R ^^^ s[k].toNat) = halfs (8 - j') R') (fun _ j => 8 - (intOf j).toNat)
      case atStart => exact ⟨0, _, hx, by omega, rfl, by rw [H1.out], rfl⟩
      case round =>
        obtain ⟨j', R', hR', hj', rfl, rfl, hq⟩ := hrel
        have HQ := Lib.hid hq; clear hq
        by_cases hj : j' < 8
        · have hstep : halfs (8 - j') R' = halfs (8 - (j' + 1)) (half R') := by
            rw [show 8 - j' = (8 - (j' + 1)) + 1 by omega]; rfl
          have HST := Lib.hid hstep; clear hstep
          by_cases ho : R' % 2 = 1
          · have hh : half R' = (R' / 2) ^^^ 2197175160 := by unfold half; rw [if_pos ho]
            have HH := Lib.hid hh; clear hh
            have ht : ((R' : Int) % 2 == 1) = true := by rw [beq_iff_eq]; omega
            go_wp2
            go_round
            case rel =>
              refine ⟨j' + 1, half R', half_lt hR', by omega, by go_num, ?_, ?_⟩
              · rw [HH.out, show ((R' : Int) / 2) = ((R' / 2 : Nat) : Int) from by omega]
                have := u32_xor_nat (R' / 2) 2197175160 (by omega) (by omega)
                simpa using this
              · rw [HQ.out, HST.out]
            case measure => simp [intOf]; omega
          · have hh : half R' = R' / 2 := by unfold half; rw [if_neg ho]
            have HH := Lib.hid hh; clear hh
            have ht : ((R' : Int) % 2 == 1) = false := by rw [beq_eq_false_iff_ne]; omega
            go_wp2
            go_round
            case rel =>
              refine ⟨j' + 1, half R', half_lt hR', by omega, by go_num, ?_, ?_⟩
              · rw [HH.out]; rfl
              · rw [HQ.out, HST.out]
            case measure => simp [intOf]; omega
        · go_wp2
          go_round
          case rel =>
            refine ⟨k + 1, by omega, by go_num, ?_⟩
            rw [HS.out, HN.out, HQ.out, show 8 - j' = 0 by omega]; rfl
          case measure => simp [intOf]; omega
    · go_wp2
      go_ret
      have hk' : s.data.toList.take k = s.data.toList := List.take_of_length_le (by simp; omega)
      rw [hk'] at hr ⊢
      have H1 := u32_xor_nat _ 4294967295 hr (by omega)
      exact ⟨ret_int (by simpa [addR] using H1), rfl⟩
theorem rsum_any (s : ByteArray) (w : World) (hs : s.size ≤ maxLen) :
    Calls Tryz.prog 140 #[.string s] w fun e w' => e = .returned (.int .u32 (addR 0 s.data.toList)) ∧ w = w' := by
  go_enter Tryz.func140, Tryz.ntmps140
  go_wp2_with (go_at_call 173; refine (radd_any 0 _ _ hs (by omega)).mono ?_; rintro e w' ⟨rfl, rfl⟩)
  go_ret
  exact ⟨rfl, rfl⟩
end Crc
end Go.Proofs.YtnppdcegpojmbaaGreatDoor
namespace Go.Proofs.YtnppdcegpojmbaaGreatDoor
open Go Go.RowKit Go.Shelf Go.Sort
namespace Num
theorem putL_shape (n : Nat) : ∃ init last, putL n = init ++ [last] ∧ (∀ b ∈ init, 128 ≤ b.toNat) ∧ last.toNat < 128 := by
  induction n using Nat.strongRecOn with
  | _ n ih =>
    by_cases h : n < 128
    · exact ⟨[], UInt8.ofNat n, by rw [putL_small h]; rfl, fun b hb => (by cases hb), by rw [UInt8.toNat_ofNat']; omega⟩
    · obtain ⟨i, l, h1, h2, h3⟩ := ih (n / 128) (by omega)
      refine ⟨UInt8.ofNat (n % 128 + 128) :: i, l, by rw [putL_more h, h1]; rfl, fun b hb => ?_, h3⟩
      rcases List.mem_cons.1 hb with rfl | hb
      · have : (UInt8.ofNat (n % 128 + 128)).toNat = n % 128 + 128 := by rw [UInt8.toNat_ofNat']; omega
        omega
      · exact h2 b hb
theorem takeL_inv (l : List UInt8) : ∀ (i a n : Nat) (r : List UInt8), takeL i a l = some (n, r) → ∃ m, n = a + m * 128 ^ i ∧ l = putL m ++ r ∧ (0 < i → 0 < m) := by
  induction l with
  | nil => intro i a n r h; cases h
  | cons c t ih =>
    intro i a n r h
    rw [takeL] at h
    split at h
    · cases h
    · rename_i hno
      split at h
      · rename_i hc
        have hc : c.toNat < 128 := hc
        cases h
        refine ⟨c.toNat, rfl, ?_, fun hi => ?_⟩
        · rw [putL_small hc]
          simp
        · rcases Nat.eq_zero_or_pos c.toNat with h0 | h0
          · exact absurd (.inr ⟨hi, h0⟩) hno
          · exact h0
      · rename_i hc
        have hc : ¬ c.toNat < 128 := hc
        obtain ⟨m, h1, h2, h3⟩ := ih _ _ _ _ h
        have hm := h3 (by omega)
        have hb := c.toNat_lt
        refine ⟨(c.toNat - 128) + 128 * m, ?_, ?_, fun _ => by omega⟩
        · rw [h1, Nat.pow_succ, Nat.add_mul, Nat.add_assoc, Nat.mul_comm (128 ^ i) 128, ← Nat.mul_assoc, Nat.mul_comm m 128]
        · rw [putL_more (by omega), show ((c.toNat - 128) + 128 * m) % 128 + 128 = c.toNat by omega, show ((c.toNat - 128) + 128 * m) / 128 = m by omega, h2]
          simp
theorem take_inv {l r : List UInt8} {n : Nat} (h : takeL 0 0 l = some (n, r)) : l = putL n ++ r ∧ n < 18446744073709551616 := by
  obtain ⟨m, h1, h2, _⟩ := takeL_inv l 0 0 n r h
  have : n = m := by simpa using h1
  subst this
  exact ⟨h2, (take_lt h).1⟩
def valB : List UInt8 → Nat
  | [] => 0
  | b :: r => b.toNat % 128 + 128 * valB r
theorem valB_put (n : Nat) : valB (putL n) = n := by
  induction n using Nat.strongRecOn with
  | _ n ih =>
    by_cases h : n < 128
    · rw [putL_small h]
      show (UInt8.ofNat n).toNat % 128 + 128 * 0 = n
      rw [UInt8.toNat_ofNat']
      omega
    · rw [putL_more h]
      show (UInt8.ofNat (n % 128 + 128)).toNat % 128 + 128 * valB (putL (n / 128)) = n
      rw [ih (n / 128) (by omega), UInt8.toNat_ofNat']
      omega
/-- Where a number of l ends: its last byte is the first one below 128. -/
theorem put_end {l r : List UInt8} {n k : Nat} (h : l = putL n ++ r) (hn : n < 18446744073709551616) (hall : ∀ i (hi : i < l.length), i < k → 128 ≤ l[i].toNat) : k < l.length ∧ k < 10 ∧ (∀ hk : k < l.length, l[k].toNat < 128 → l.take (k + 1) = putL n) := by
  obtain ⟨init, last, h1, h2, h3⟩ := putL_shape n
  have hlen := putL_len hn
  rw [h1, List.length_append, List.length_singleton] at hlen
  have hl : l = init ++ (last :: r) := by rw [h, h1, List.append_assoc]; rfl
  have hll : init.length < l.length := by rw [hl]; simp
  have hlast : l[init.length]'hll = last := by
    simp only [hl]
    rw [List.getElem_append_right (Nat.le_refl _)]
    simp
  have hk : k ≤ init.length := by
    rcases Nat.lt_or_ge init.length k with h4 | h4
    · have := hall init.length hll h4
      rw [hlast] at this
      omega
    · exact h4
  refine ⟨by omega, by omega, fun hkl h4 => ?_⟩
  have hke : k = init.length := by
    rcases Nat.lt_or_ge k init.length with h5 | h5
    · have h6 : l[k]'hkl = init[k]'h5 := by
        simp only [hl]
        rw [List.getElem_append_left h5]
      have := h2 _ (List.getElem_mem h5)
      rw [h6] at h4
      omega
    · omega
  rw [hke, h1, hl, List.take_append, List.take_of_length_le (by omega), show init.length + 1 - init.length = 1 by omega]
  rfl
theorem take_end {l : List UInt8} {k : Nat} (hall : ∀ i (hi : i < l.length), i < k → 128 ≤ l[i].toNat) (hk : l.length ≤ k ∨ 10 ≤ k) : takeL 0 0 l = none := by
  cases h : takeL 0 0 l with
  | none => rfl
  | some p =>
    obtain ⟨n, r⟩ := p
    have h1 := take_inv h
    have h2 := put_end h1.1 h1.2 hall
    omega
theorem take_at {l : List UInt8} {k : Nat} (hall : ∀ i (hi : i < l.length), i < k → 128 ≤ l[i].toNat) (hk : k < l.length) (h128 : l[k].toNat < 128) :
    takeL 0 0 l = if putL (valB (l.take (k + 1)) % 18446744073709551616) = l.take (k + 1) then some (valB (l.take (k + 1)) % 18446744073709551616, l.drop (k + 1)) else none := by
  split
  · rename_i h
    have h1 := take_put (valB (l.take (k + 1)) % 18446744073709551616) (l.drop (k + 1)) (Nat.mod_lt _ (by omega))
    rw [h, List.take_append_drop] at h1
    exact h1
  · rename_i h
    cases ht : takeL 0 0 l with
    | none => rfl
    | some p =>
      exfalso
      obtain ⟨n, r⟩ := p
      have h1 := take_inv ht
      have h2 := (put_end h1.1 h1.2 hall).2.2 hk h128
      apply h
      rw [h2, valB_put, Nat.mod_eq_of_lt h1.2]
set_option maxRecDepth 100000 in
theorem rput_any (w : World) (n : Nat) (hn : n < 18446744073709551616) :
    Calls Tryz.prog 141 #[.int .u64 n] w fun e w' => e = .returned (.string ⟨(putL n).toArray⟩) ∧ Off None w w' := by
  go_enter Tryz.func141, Tryz.ntmps141
  go_wp2
  go_loopw [0, 3] (fun nv x wr => ∃ (m : Nat) (pre : List UInt8) (bv : Value), bv = x ∧ m < 18446744073709551616 ∧ pre.length + (putL m).length ≤ 10 ∧ nv = .int .u64 m ∧ putL n = pre ++ putL m ∧ wr.ownsRow w.heap.size 5 1 bv pre.length (byteCells pre) ∧ Off None w wr) (fun nv _ _ => (intOf nv).toNat)
  case atStart => exact ⟨n, [], _, rfl, hn, by have := putL_len hn; simpa using this, rfl, rfl, World.ownsRow_nil _ _ _ _, Off.refl _ _⟩
  case round =>
    obtain ⟨m, pre, bv, rfl, hm, hlen, rfl, hput, hrow, ho⟩ := hrel
    have HROW := Lib.hid hrow; clear hrow
    have HO := Lib.hid ho; clear ho
    have HP := Lib.hid hput; clear hput
    by_cases hs : m < 128
    · have e1 : ((m : Int) / 128 == 0) = true := by rw [beq_iff_eq]; omega
      have e2 : (m : Int) % 128 = (m : Int) := by omega
      go_wp2_with (at_builtin; refine wpList_push rfl _ _ rfl elemByte w.heap.size bv pre.length (byteCells pre) rfl HROW.out #[.int .u8 m] rfl rfl (by intro u hu; simp at hu; subst hu; rfl) (by omega) HO.out.size ?_; intro g cap w' hrow hp)
      have hrow2 : w'.ownsRow w.heap.size 5 1 (.slice (some ⟨g, 0, none⟩) (pre.length + 1) cap) (pre.length + 1) (byteCells (pre ++ [UInt8.ofNat m])) := by
        rw [← byteCells_snoc pre m (by omega)]; exact hrow
      have hcv := conv_row hrow2
      have HOFF := Lib.hid (HO.out.trans hp.off (fun b hb h => absurd (World.ownsRow.lt HROW.out b h).1 (by omega)))
      clear hrow hrow2 hp
      rw [hcv]
      go_wp2
      go_ret
      rw [HP.out, putL_small hs]
      exact ⟨rfl, HOFF.out⟩
    · have e1 : ((m : Int) / 128 == 0) = false := by rw [beq_eq_false_iff_ne]; omega
      have e3 : IntKind.u8.wrap (128 + (m : Int) % 128) = ((m % 128 + 128 : Nat) : Int) := by simp [IntKind.wrap, IntKind.bits, IntKind.signed]; omega
      go_wp2_with (at_builtin; refine wpList_push rfl _ _ rfl elemByte w.heap.size bv pre.length (byteCells pre) rfl HROW.out #[.int .u8 ((m % 128 + 128 : Nat) : Int)] rfl rfl (by intro u hu; simp at hu; subst hu; rfl) (by omega) HO.out.size ?_; intro g cap w' hrow hp)
      go_round
      case rel =>
        have hrow2 : w'.ownsRow w.heap.size 5 1 (.slice (some ⟨g, 0, none⟩) (pre.length + 1) cap) (pre.length + 1) (byteCells (pre ++ [UInt8.ofNat (m % 128 + 128)])) := by
          rw [← byteCells_snoc pre _ (by omega)]; exact hrow
        refine ⟨m / 128, pre ++ [UInt8.ofNat (m % 128 + 128)], _, rfl, by omega, ?_, by go_num, ?_, by simpa using hrow2, HO.out.trans hp.off (fun b hb h => absurd (World.ownsRow.lt HROW.out b h).1 (by omega))⟩
        · rw [putL_more hs] at hlen; simp at hlen ⊢; omega
        · rw [HP.out, putL_more hs]; simp
      case measure => simp [intOf]; omega
theorem valB_step {l : List UInt8} {k j : Nat} (hj : j ≤ k) (hk : k < l.length) : valB ((l.take (k + 1)).drop j) = l[j].toNat % 128 + 128 * valB ((l.take (k + 1)).drop (j + 1)) := by
  have h : j < (l.take (k + 1)).length := by rw [List.length_take]; omega
  rw [List.drop_eq_getElem_cons h, valB, List.getElem_take]
set_option maxHeartbeats 1000000 in
set_option maxRecDepth 100000 in
theorem rtake_any (w : World) (s : ByteArray) (hs : s.size ≤ maxLen) :
    Calls Tryz.prog 174 #[.string s] w fun e w' => e = .returned (takeR s) ∧ Off None w w' := by
  unfold maxLen at hs
  have hll : s.data.toList.length = s.size := by simp
  go_enter Tryz.func174, Tryz.ntmps174
  go_wp2
  go_loop [5] (fun kv => ∃ j : Nat, j ≤ s.size ∧ j ≤ 10 ∧ kv = .int .i64 j ∧ Aside (∀ i (hi : i < s.data.toList.length), i < j → 128 ≤ s.data.toList[i].toNat)) (fun kv => s.size - (intOf kv).toNat)
  case atStart => exact ⟨0, Nat.zero_le _, Nat.zero_le _, rfl, fun i _ h => absurd h (by omega)⟩
  case round =>
    obtain ⟨j, hj, h10, rfl, A⟩ := hrel
    by_cases hlt : j < s.size
    · by_cases hjt : j < 10
      · have j0 : (0 : Int) ≤ (j : Int) := by omega
        have j1 : (j : Int) < (s.size : Int) := by omega
        have j2 : (j : Int) < 10 := by omega
        by_cases hc : 128 ≤ s[j].toNat
        · have hci : (128 : Int) ≤ (s[j].toNat : Int) := by omega
          have hn : ∀ i (hi : i < s.data.toList.length), i < j + 1 → 128 ≤ s.data.toList[i].toNat := fun i hi h => by
            rcases Nat.lt_or_ge i j with h1 | h1
            · exact A.out i hi h1
            · obtain rfl : i = j := by omega
              exact hc
          have HN := Lib.hid hn; clear hn A
          go_wp2
          go_round
          case rel => exact ⟨j + 1, by omega, by omega, by go_num, HN.out⟩
          case measure => simp [intOf]; omega
        · have hci : ¬ ((128 : Int) ≤ (s[j].toNat : Int)) := by omega
          have j3 : ¬ ((s.size : Int) ≤ (j : Int)) := by omega
          have j4 : ¬ ((10 : Int) ≤ (j : Int)) := by omega
          have htk := take_at A.out (by omega : j < s.data.toList.length) (show s.data.toList[j].toNat < 128 by show s[j].toNat < 128; omega)
          have HTK := Lib.hid htk; clear htk A
          go_wp2
          go_loop [6, 7] (fun nv iv => ∃ m : Nat, m ≤ j + 1 ∧ iv = .int .i64 ((m : Int) - 1) ∧ nv = .int .u64 ((valB ((s.data.toList.take (j + 1)).drop m) % 18446744073709551616 : Nat) : Int)) (fun _ iv => (intOf iv + 1).toNat)
          case atStart => exact ⟨j + 1, Nat.le_refl _, by go_num, by rw [List.drop_of_length_le (by rw [List.length_take]; omega)]; rfl⟩
          case round =>
            obtain ⟨m, hm, rfl, rfl⟩ := hrel
            by_cases hm0 : 0 < m
            · have hst := valB_step (l := s.data.toList) (k := j) (j := m - 1) (by omega) (by omega)
              rw [show m - 1 + 1 = m by omega] at hst
              obtain ⟨V, hV⟩ : ∃ V, V = valB ((s.data.toList.take (j + 1)).drop m) := ⟨_, rfl⟩
              rw [← hV] at hst ⊢
              have m0 : (0 : Int) ≤ (m : Int) - 1 := by omega
              have m1 : (m : Int) - 1 < (s.size : Int) := by omega
              have m2 : ((m : Int) - 1).toNat = m - 1 := by omega
              go_wp2
              case roundEnd =>
                refine ⟨⟨m - 1, by omega, by congr 1; omega, ?_⟩, by simp [intOf]; omega⟩
                rw [← hV, hst, IntKind.wrap_u64, IntKind.wrap_u64]
                refine congrArg _ ?_
                rw [show s.data.toList[m - 1] = s[m - 1] from rfl]
                generalize valB ((s.data.toList.take (j + 1)).drop m) = X
                generalize s[m - 1].toNat = b
                omega
            · obtain rfl : m = 0 := by omega
              have m0 : ¬ (0 : Int) ≤ ((0 : Nat) : Int) - 1 := by omega
              rw [List.drop_zero]
              obtain ⟨v, hv⟩ : ∃ v, v = valB (s.data.toList.take (j + 1)) % 18446744073709551616 := ⟨_, rfl⟩
              have hvl : v < 18446744073709551616 := by rw [hv]; exact Nat.mod_lt _ (by omega)
              have htk := HTK.out
              rw [← hv] at htk ⊢
              obtain ⟨P, hP⟩ : ∃ P : ByteArray, P = ⟨(putL v).toArray⟩ := ⟨_, rfl⟩
              have cP : ∀ dd os, Calls Tryz.prog 141 #[.int .u64 v] (grow (redrawn w dd) os) fun e w'' => e = .returned (.string P) ∧ ∃ p : Regrown, w'' = grow (redrawn w p.d) p.os := fun dd os => by
                rw [hP]; exact Calls.quietly (rput_any _ v hvl)
              have j5 : (j : Int) + 1 ≤ (s.size : Int) := by omega
              have HP := Lib.hid hP; have HV := Lib.hid hv; have HTK2 := Lib.hid htk
              clear hP hv htk HTK
              go_wp2
              refine wp_region_quiet_below (by kernel_rfl) (by kernel_rfl) ?_
              repeat (go_big_quiet_step (first | exact cP _ _))
              refine wpQuiet_nil ?_
              intro w14 hw'
              have ho14 : Off None w w14 := by
                obtain ⟨⟨dq, osq⟩, rfl⟩ := hw'
                exact Off.of_below (below_regrown w dq osq)
              have HO14 := Lib.hid ho14
              clear hw' ho14 cP
              have hex : (s.extract 0 (j + 1)).toList = s.data.toList.take (j + 1) := by
                rw [Heap.toList_data, ByteArray.data_extract, Array.toList_extract, List.extract_eq_take_drop]
                rfl
              have hpl : P.toList = putL v := by rw [HP.out, Heap.toList_data]
              by_cases hp : putL v = s.data.toList.take (j + 1)
              · have e1 : (!(P.toList == (s.extract 0 (j + 1)).toList)) = false := by rw [hex, hpl, hp]; simp
                have htk : takeL 0 0 s.data.toList = some (v, s.data.toList.drop (j + 1)) := by rw [HTK2.out, if_pos hp]
                have HTK3 := Lib.hid htk
                clear hex hpl hp htk HTK2
                go_wp2
                · rename_i h
                  rw [e1] at h
                  cases h
                have h0 : (0 : Int) ≤ (j : Int) + 1 := by omega
                go_quiet (fail)
                go_wp2
                go_ret3
                exact ⟨ret_take HTK3.out rfl (extract_drop s (j + 1)), HO14.out.drewN nq⟩
              · have e1 : (!(P.toList == (s.extract 0 (j + 1)).toList)) = true := by rw [hex, hpl]; simpa using hp
                have htk : takeL 0 0 s.data.toList = none := by rw [HTK2.out, if_neg hp]
                have HTK3 := Lib.hid htk
                clear hex hpl hp htk HTK2
                go_wp2
                · go_ret3
                  exact ⟨by rw [takeR_none HTK3.out]; rfl, HO14.out⟩
                · rename_i h _ _
                  rw [e1] at h
                  cases h
      · have j2 : ¬ (j : Int) < 10 := by omega
        have j3 : ¬ ((s.size : Int) ≤ (j : Int)) := by omega
        have j4 : (10 : Int) ≤ (j : Int) := by omega
        have htk := take_end A.out (.inr (by omega))
        have HTK := Lib.hid htk; clear htk A
        go_wp2
        go_ret3
        exact ⟨by rw [takeR_none HTK.out]; rfl, Off.refl _ _⟩
    · have j1 : ¬ (j : Int) < (s.size : Int) := by omega
      have j3 : (s.size : Int) ≤ (j : Int) := by omega
      have htk := take_end A.out (.inl (by omega))
      have HTK := Lib.hid htk; clear htk A
      go_wp2
      go_ret3
      exact ⟨by rw [takeR_none HTK.out]; rfl, Off.refl _ _⟩
end Num
end Go.Proofs.YtnppdcegpojmbaaGreatDoor
namespace Go.Proofs.YtnppdcegpojmbaaGreatDoor
open Go Go.RowKit Go.Shelf Go.Sort
namespace Frame
set_option maxHeartbeats 1000000 in
set_option maxRecDepth 100000 in
theorem rput_any (w : World) (seq : Nat) (body : ByteArray) (hq : seq < 18446744073709551616) (hb : body.size ≤ 140737488355328) :
    Calls Tryz.prog 107 #[.int .u64 seq, .string body] w fun e w' =>
      e = .returned (if MaxBody < body.size then .tuple #[.string ⟨#[]⟩, .int .i64 7] else .tuple #[.string ⟨(putF seq body.data.toList).toArray⟩, .int .i64 0]) ∧ Off None w w' := by
  unfold MaxBody
  by_cases hm : 2000 < body.size
  · rw [if_pos hm]
    go_enter Tryz.func107, Tryz.ntmps107
    go_wp2
    go_ret2
    exact ⟨rfl, Off.refl _ _⟩
  · rw [if_neg hm]
    have hp10 := Num.putL_len hq
    have hpb : (Num.putL body.size).length ≤ 10 := Num.putL_len (by omega)
    obtain ⟨P, hP⟩ : ∃ P : ByteArray, P = ⟨(Num.putL seq).toArray⟩ := ⟨_, rfl⟩
    have hPl : P.data.toList = Num.putL seq := by rw [hP]
    have hPs : P.size = (Num.putL seq).length := by rw [hP]; rfl
    obtain ⟨N, hN⟩ : ∃ N, N = Crc.addR 0 (P ++ body).data.toList := ⟨_, rfl⟩
    have hN32 : N < 4294967296 := by
      rw [hN, ← Crc.addN_eq (sum := 0) (by omega)]
      exact Crc.addN_lt (by omega) _
    have hNN : sumL seq body.data.toList = fourL N := by
      unfold sumL
      rw [hN, ← Crc.addN_eq (sum := 0) (by omega), show (P ++ body).data.toList = P.data.toList ++ body.data.toList by simp, hPl]
    have hsm := fun W => Crc.rsum_any (P ++ body) W (by rw [ByteArray.size_append]; unfold maxLen; omega)
    rw [← hN] at hsm
    have hrp := Num.rput_any w seq hq
    rw [← hP] at hrp
    have HRP := Lib.hid hrp; have HSM := Lib.hid hsm; have HNN := Lib.hid hNN; have HP := Lib.hid hP
    clear hsm hN hNN hPl hrp hP
    go_enter Tryz.func107, Tryz.ntmps107
    go_wp2_with fail
    refine HRP.out.mono ?_
    rintro e w1 ⟨rfl, ho1⟩
    go_wp2_with fail
    refine (HSM.out w1).mono ?_
    rintro e w2 ⟨rfl, rfl⟩
    have HO1 := Lib.hid ho1; clear ho1
    have hcells : ([.int .u8 ((N : Int) % 256), .int .u8 ((N : Int) / 256 % 256), .int .u8 ((N : Int) / 65536 % 256), .int .u8 ((N : Int) / 16777216)] : List Value) = Num.byteCells (fourL N) := by
      unfold Num.byteCells fourL
      simp only [List.map_cons, List.map_nil, UInt8.toNat_ofNat']
      have e1 : (N : Int) % 256 = ((N % 2 ^ 8 : Nat) : Int) := by omega
      have e2 : (N : Int) / 256 % 256 = ((N / 256 % 2 ^ 8 : Nat) : Int) := by omega
      have e3 : (N : Int) / 65536 % 256 = ((N / 65536 % 2 ^ 8 : Nat) : Int) := by omega
      have e4 : (N : Int) / 16777216 = ((N / 16777216 % 2 ^ 8 : Nat) : Int) := by omega
      rw [e1, e2, e3, e4]
    have hrow : (w1.alloc (.cells #[.int .u8 ((N : Int) % 256), .int .u8 ((N : Int) / 256 % 256), .int .u8 ((N : Int) / 65536 % 256), .int .u8 ((N : Int) / 16777216)] 5)).ownsRow 0 5 1 (.slice (some ⟨w1.heap.size, 0, none⟩) 4 4) 4 (Num.byteCells (fourL N)) :=
      ⟨rfl, .inr ⟨w1.heap.size, 4, _, rfl, Nat.zero_le _, Heap.alloc_new w1 _, Nat.le_refl _, by decide, rfl, hcells⟩⟩
    have hcv := Num.conv_row hrow
    have HCV := Lib.hid hcv
    clear hrow hcv hcells
    go_wp2_with fail
    rw [HCV.out]
    obtain ⟨w2, hw2⟩ : ∃ w2, w2 = w1.alloc (.cells #[.int .u8 ((N : Int) % 256), .int .u8 ((N : Int) / 256 % 256), .int .u8 ((N : Int) / 65536 % 256), .int .u8 ((N : Int) / 16777216)] 5) := ⟨_, rfl⟩
    rw [← hw2]
    have HO2 := Lib.hid (by rw [hw2]; exact HO1.out.alloc _ : Off None w w2)
    clear hw2 HCV
    go_wp2_with fail
    refine (Num.rput_any w2 body.size (by omega)).mono ?_
    rintro e w3 ⟨rfl, ho3⟩
    go_wp2_with fail
    refine (Num.rput_any w3 seq hq).mono ?_
    rintro e w4 ⟨rfl, ho4⟩
    have HO4 := Lib.hid ((HO2.out.trans ho3 (fun _ _ h => h)).trans ho4 (fun _ _ h => h))
    have h4 : (fourL N).length = 4 := rfl
    have hsl : (⟨(fourL N).toArray⟩ : ByteArray).size = 4 := rfl
    clear ho3 ho4
    go_wp2
    go_ret2
    refine ⟨?_, HO4.out⟩
    have e : (⟨(Num.putL body.size).toArray⟩ ++ ⟨(Num.putL seq).toArray⟩ ++ ⟨(fourL N).toArray⟩ ++ body : ByteArray) = ⟨(putF seq body.data.toList).toArray⟩ := by
      refine str_of ?_
      have ha : ∀ a b : ByteArray, (a ++ b).data.toList = a.data.toList ++ b.data.toList := fun a b => by simp
      rw [ha, ha, ha]
      show Num.putL body.size ++ Num.putL seq ++ fourL N ++ body.data.toList = putF seq body.data.toList
      unfold putF
      rw [show body.data.toList.length = body.size from Array.length_toList, HNN.out]
    show Ending.returned (.tuple #[.string (⟨(Num.putL body.size).toArray⟩ ++ ⟨(Num.putL seq).toArray⟩ ++ ⟨(fourL N).toArray⟩ ++ body : ByteArray), .int .i64 0]) = _
    rw [e]
theorem infoRFrame : (Tryz.prog.info? 168).map (·.size) = some 3 := by kernel_rfl
/-- The reference's test: a frame's bytes, laid anew, are the first ones. -/
theorem rfirst_plain {l r r2 : List UInt8} {n q : Nat} (h1 : Num.takeL 0 0 l = some (n, r)) (hn : ¬ 2000 < n) (h2 : Num.takeL 0 0 r = some (q, r2)) (hl : ¬ r2.length < 4 + n) :
    (putF q ((r2.drop 4).take n)).length ≤ l.length ∧ firstL l = if l.take (putF q ((r2.drop 4).take n)).length = putF q ((r2.drop 4).take n) then some ⟨q, (r2.drop 4).take n, (putF q ((r2.drop 4).take n)).length⟩ else none := by
  obtain ⟨e1, _⟩ := Num.take_inv h1
  obtain ⟨e2, _⟩ := Num.take_inv h2
  obtain ⟨b, hb⟩ : ∃ b, b = (r2.drop 4).take n := ⟨_, rfl⟩
  have hbl : b.length = n := by rw [hb, List.length_take, List.length_drop]; omega
  have hpf : putF q b = Num.putL n ++ (Num.putL q ++ (sumL q b ++ b)) := by unfold putF; rw [hbl]; simp [List.append_assoc]
  have hle : l = Num.putL n ++ (Num.putL q ++ r2) := by rw [e1, e2]
  have hlen : (putF q b).length = (Num.putL n).length + ((Num.putL q).length + (4 + n)) := by rw [hpf, List.length_append, List.length_append, List.length_append, sumL_length, hbl]
  have hll : l.length = (Num.putL n).length + ((Num.putL q).length + r2.length) := by rw [hle, List.length_append, List.length_append]
  have hrl : r.length = (Num.putL q).length + r2.length := by rw [e2, List.length_append]
  have htk : l.take (putF q b).length = Num.putL n ++ (Num.putL q ++ (r2.take 4 ++ b)) := by
    rw [hlen, hle, List.take_length_add_append, List.take_length_add_append, hb, ← List.take_add]
  rw [← hb]
  refine ⟨by omega, ?_⟩
  unfold firstL
  rw [h1]
  dsimp only
  rw [if_neg hn, h2]
  dsimp only
  rw [if_neg hl, ← hb, htk, hpf]
  have hiff : (Num.putL n ++ (Num.putL q ++ (r2.take 4 ++ b)) = Num.putL n ++ (Num.putL q ++ (sumL q b ++ b))) ↔ r2.take 4 = sumL q b := by
    rw [List.append_cancel_left_eq, List.append_cancel_left_eq, List.append_cancel_right_eq]
  by_cases h : r2.take 4 = sumL q b
  · rw [if_pos h, if_pos (hiff.2 h)]
    congr 2
    rw [← hpf, hlen, hll]
    omega
  · rw [if_neg h, if_neg (fun x => h (hiff.1 x))]
set_option maxHeartbeats 2000000 in
set_option maxRecDepth 100000 in
theorem rfirst_any (w : World) (s : ByteArray) (hs : s.size ≤ 1099511627776) :
    Calls Tryz.prog 142 #[.string s] w fun e w' => e = .returned (firstR s) ∧ Off None w w' := by
  have ht := fun w => Num.rtake_any w s (Nat.le_trans hs (by decide))
  obtain ⟨wb, hwb⟩ : ∃ wb, wb = w.alloc (.cells #[.int .u64 0, .string ⟨#[]⟩, .int .i64 0] 168) := ⟨_, rfl⟩
  have hbox : wb.heap[w.heap.size]? = some (.cells #[.int .u64 0, .string ⟨#[]⟩, .int .i64 0] 168 (0, 0)) := by rw [hwb]; exact Heap.alloc_new _ _
  have hob : Off None w wb := by rw [hwb]; exact (Off.refl _ _).alloc _
  cases h1 : Num.takeL 0 0 s.data.toList with
  | none =>
    have ht := fun w => Num.takeR_none h1 ▸ ht w
    have HTA := Lib.hid ht; clear ht
    have H1 := Lib.hid h1; clear h1
    go_enter Tryz.func142, Tryz.ntmps142
    go_wp2_with fail
    rw [← hwb]
    refine (HTA.out wb).mono ?_
    rintro e w1 ⟨rfl, ho1⟩
    have hb1 := ho1.at_ hbox (fun h => h)
    have c0 : w1.cell? ⟨w.heap.size, 0, none⟩ = some (.int .u64 0) := Heap.cell hb1 0
    have c1 : w1.cell? ⟨w.heap.size, 1, none⟩ = some (.string ⟨#[]⟩) := Heap.cell hb1 1
    have c2 : w1.cell? ⟨w.heap.size, 2, none⟩ = some (.int .i64 0) := Heap.cell hb1 2
    have f0 : w1.frozen? ⟨w.heap.size, 0, none⟩ = false := Heap.frozen hb1 0
    have f1 : w1.frozen? ⟨w.heap.size, 1, none⟩ = false := Heap.frozen hb1 1
    have f2 : w1.frozen? ⟨w.heap.size, 2, none⟩ = false := Heap.frozen hb1 2
    have HO := Lib.hid (hob.trans ho1 (fun _ _ h => h))
    go_wp2
    refine bodyPost_ret_by (results_row_tmp rfl _ _ w.heap.size _ _ _ _ rfl (box3 hb1 _ _ _) Tryz.underlying168 rfl infoRFrame) rfl ⟨?_, ?_⟩
    · unfold firstR firstL; rw [H1.out]; rfl
    · exact ((HO.out.setCell (p := ⟨w.heap.size, 0, none⟩) (.inr (Nat.le_refl _)) _).setCell (p := ⟨w.heap.size, 1, none⟩) (.inr (Nat.le_refl _)) _).setCell (p := ⟨w.heap.size, 2, none⟩) (.inr (Nat.le_refl _)) _
  | some p =>
    obtain ⟨n, r⟩ := p
    have hl1 := Num.take_lt h1
    have hsl : s.data.toList.length = s.size := Array.length_toList
    have ht2 := fun w => Num.takeR_some h1 ▸ ht w
    have HTA := Lib.hid ht2; clear ht ht2
    have H1 := Lib.hid h1; clear h1
    have hrs : (⟨r.toArray⟩ : ByteArray).size = r.length := rfl
    by_cases hn : 2000 < n
    · have hn' : (2000 : Int) < n := by omega
      go_enter Tryz.func142, Tryz.ntmps142
      go_wp2_with fail
      rw [← hwb]
      refine (HTA.out wb).mono ?_
      rintro e w1 ⟨rfl, ho1⟩
      have hb1 := ho1.at_ hbox (fun h => h)
      have c0 : w1.cell? ⟨w.heap.size, 0, none⟩ = some (.int .u64 0) := Heap.cell hb1 0
      have c1 : w1.cell? ⟨w.heap.size, 1, none⟩ = some (.string ⟨#[]⟩) := Heap.cell hb1 1
      have c2 : w1.cell? ⟨w.heap.size, 2, none⟩ = some (.int .i64 0) := Heap.cell hb1 2
      have f0 : w1.frozen? ⟨w.heap.size, 0, none⟩ = false := Heap.frozen hb1 0
      have f1 : w1.frozen? ⟨w.heap.size, 1, none⟩ = false := Heap.frozen hb1 1
      have f2 : w1.frozen? ⟨w.heap.size, 2, none⟩ = false := Heap.frozen hb1 2
      have HO := Lib.hid (hob.trans ho1 (fun _ _ h => h))
      go_wp2
      refine bodyPost_ret_by (results_row_tmp rfl _ _ w.heap.size _ _ _ _ rfl (box3 hb1 _ _ _) Tryz.underlying168 rfl infoRFrame) rfl ⟨?_, ?_⟩
      · unfold firstR firstL; rw [H1.out]; dsimp only; rw [if_pos hn]; rfl
      · exact ((HO.out.setCell (p := ⟨w.heap.size, 0, none⟩) (.inr (Nat.le_refl _)) _).setCell (p := ⟨w.heap.size, 1, none⟩) (.inr (Nat.le_refl _)) _).setCell (p := ⟨w.heap.size, 2, none⟩) (.inr (Nat.le_refl _)) _
    · have hn' : ¬ ((2000 : Int) < n) := by omega
      have ht := fun w => Num.rtake_any w ⟨r.toArray⟩ (by rw [hrs]; unfold maxLen; omega)
      cases h2 : Num.takeL 0 0 r with
      | none =>
        have ht := fun w => Num.takeR_none (s := ⟨r.toArray⟩) h2 ▸ ht w
        have HTB := Lib.hid ht; clear ht
        have H2 := Lib.hid h2; clear h2
        go_enter Tryz.func142, Tryz.ntmps142
        go_wp2_with fail
        rw [← hwb]
        refine (HTA.out wb).mono ?_
        rintro e w0 ⟨rfl, ho0⟩
        go_wp2_with fail
        refine (HTB.out w0).mono ?_
        rintro e w1 ⟨rfl, ho1⟩
        have ho01 := ho0.trans ho1 (fun _ _ h => h)
        have hb1 := ho01.at_ hbox (fun h => h)
        have HO := Lib.hid (hob.trans ho01 (fun _ _ h => h))
        clear ho0 ho1 ho01
        have c0 : w1.cell? ⟨w.heap.size, 0, none⟩ = some (.int .u64 0) := Heap.cell hb1 0
        have c1 : w1.cell? ⟨w.heap.size, 1, none⟩ = some (.string ⟨#[]⟩) := Heap.cell hb1 1
        have c2 : w1.cell? ⟨w.heap.size, 2, none⟩ = some (.int .i64 0) := Heap.cell hb1 2
        have f0 : w1.frozen? ⟨w.heap.size, 0, none⟩ = false := Heap.frozen hb1 0
        have f1 : w1.frozen? ⟨w.heap.size, 1, none⟩ = false := Heap.frozen hb1 1
        have f2 : w1.frozen? ⟨w.heap.size, 2, none⟩ = false := Heap.frozen hb1 2
        go_wp2
        refine bodyPost_ret_by (results_row_tmp rfl _ _ w.heap.size _ _ _ _ rfl (box3 hb1 _ _ _) Tryz.underlying168 rfl infoRFrame) rfl ⟨?_, ?_⟩
        · unfold firstR firstL; rw [H1.out]; dsimp only; rw [if_neg hn, H2.out]; rfl
        · exact ((HO.out.setCell (p := ⟨w.heap.size, 0, none⟩) (.inr (Nat.le_refl _)) _).setCell (p := ⟨w.heap.size, 1, none⟩) (.inr (Nat.le_refl _)) _).setCell (p := ⟨w.heap.size, 2, none⟩) (.inr (Nat.le_refl _)) _
      | some p2 =>
        obtain ⟨q, r2⟩ := p2
        have hl2 := Num.take_lt h2
        have ht := fun w => Num.takeR_some (s := ⟨r.toArray⟩) h2 ▸ ht w
        have HTB := Lib.hid ht; clear ht
        have H2 := Lib.hid h2; clear h2
        have hrs2 : (⟨r2.toArray⟩ : ByteArray).size = r2.length := rfl
        by_cases h4 : r2.length < 4 + n
        · have h4' : (r2.length : Int) < (n : Int) + 4 := by omega
          go_enter Tryz.func142, Tryz.ntmps142
          go_wp2_with fail
          rw [← hwb]
          refine (HTA.out wb).mono ?_
          rintro e w0 ⟨rfl, ho0⟩
          go_wp2_with fail
          refine (HTB.out w0).mono ?_
          rintro e w1 ⟨rfl, ho1⟩
          have ho01 := ho0.trans ho1 (fun _ _ h => h)
          have hb1 := ho01.at_ hbox (fun h => h)
          have HO := Lib.hid (hob.trans ho01 (fun _ _ h => h))
          clear ho0 ho1 ho01
          have c0 : w1.cell? ⟨w.heap.size, 0, none⟩ = some (.int .u64 0) := Heap.cell hb1 0
          have c1 : w1.cell? ⟨w.heap.size, 1, none⟩ = some (.string ⟨#[]⟩) := Heap.cell hb1 1
          have c2 : w1.cell? ⟨w.heap.size, 2, none⟩ = some (.int .i64 0) := Heap.cell hb1 2
          have f0 : w1.frozen? ⟨w.heap.size, 0, none⟩ = false := Heap.frozen hb1 0
          have f1 : w1.frozen? ⟨w.heap.size, 1, none⟩ = false := Heap.frozen hb1 1
          have f2 : w1.frozen? ⟨w.heap.size, 2, none⟩ = false := Heap.frozen hb1 2
          go_wp2
          refine bodyPost_ret_by (results_row_tmp rfl _ _ w.heap.size _ _ _ _ rfl (box3 hb1 _ _ _) Tryz.underlying168 rfl infoRFrame) rfl ⟨?_, ?_⟩
          · unfold firstR firstL; rw [H1.out]; dsimp only; rw [if_neg hn, H2.out]; dsimp only; rw [if_pos h4]; rfl
          · exact ((HO.out.setCell (p := ⟨w.heap.size, 0, none⟩) (.inr (Nat.le_refl _)) _).setCell (p := ⟨w.heap.size, 1, none⟩) (.inr (Nat.le_refl _)) _).setCell (p := ⟨w.heap.size, 2, none⟩) (.inr (Nat.le_refl _)) _
        · have h4' : ¬ ((r2.length : Int) < (n : Int) + 4) := by omega
          go_enter Tryz.func142, Tryz.ntmps142
          go_wp2_with fail
          rw [← hwb]
          refine (HTA.out wb).mono ?_
          rintro e w0 ⟨rfl, ho0⟩
          go_wp2_with fail
          refine (HTB.out w0).mono ?_
          rintro e w1 ⟨rfl, ho1⟩
          have ho01 := ho0.trans ho1 (fun _ _ h => h)
          have hb1 := ho01.at_ hbox (fun h => h)
          have HO := Lib.hid (hob.trans ho01 (fun _ _ h => h))
          clear ho0 ho1 ho01
          go_wp2_with fail
          have hbl : ((⟨r2.toArray⟩ : ByteArray).extract 4 (4 + n)).data.toList = (r2.drop 4).take n := by
            rw [ByteArray.data_extract, Array.toList_extract, List.extract_eq_take_drop, Nat.add_sub_cancel_left]
          have hbs : ((⟨r2.toArray⟩ : ByteArray).extract 4 (4 + n)).size ≤ 2000 := by
            rw [ByteArray.size_extract, hrs2]; omega
          have hrp := rput_any w1 q ((⟨r2.toArray⟩ : ByteArray).extract 4 (4 + n)) hl2.1 (by omega)
          rw [if_neg (by unfold MaxBody; omega), hbl] at hrp
          obtain ⟨bd, hbd⟩ : ∃ bd, bd = (r2.drop 4).take n := ⟨_, rfl⟩
          obtain ⟨t, htt⟩ : ∃ t : ByteArray, t = ⟨(putF q bd).toArray⟩ := ⟨_, rfl⟩
          have hpl := rfirst_plain H1.out hn H2.out h4
          rw [← hbd] at hrp hpl
          rw [← htt] at hrp
          have htl : t.toList = putF q bd := by rw [htt, Heap.toList_data]
          have hts : t.size = (putF q bd).length := by rw [htt]; rfl
          have hex : (s.extract 0 t.size).toList = s.data.toList.take (putF q bd).length := by
            rw [Heap.toList_data, ByteArray.data_extract, Array.toList_extract, List.extract_eq_take_drop, hts]
            rfl
          have t1 : (t.size : Int) ≤ (s.size : Int) := by rw [hts]; have := hpl.1; omega
          have hvb : ((⟨r2.toArray⟩ : ByteArray).extract 4 (4 + n)) = ⟨bd.toArray⟩ := str_of (by rw [hbd]; exact hbl)
          have HRP := Lib.hid hrp; have HPL := Lib.hid hpl.2; have HVB := Lib.hid hvb; have HTS := Lib.hid hts; have HB1 := Lib.hid hb1
          clear hrp hpl hvb hbl hbd htt hts hb1 hbs
          refine HRP.out.mono ?_
          rintro e w2 ⟨rfl, ho2⟩
          have hb2 := ho2.at_ HB1.out (fun h => h)
          have c0 : w2.cell? ⟨w.heap.size, 0, none⟩ = some (.int .u64 0) := Heap.cell hb2 0
          have c1 : w2.cell? ⟨w.heap.size, 1, none⟩ = some (.string ⟨#[]⟩) := Heap.cell hb2 1
          have c2 : w2.cell? ⟨w.heap.size, 2, none⟩ = some (.int .i64 0) := Heap.cell hb2 2
          have f0 : w2.frozen? ⟨w.heap.size, 0, none⟩ = false := Heap.frozen hb2 0
          have f1 : w2.frozen? ⟨w.heap.size, 1, none⟩ = false := Heap.frozen hb2 1
          have f2 : w2.frozen? ⟨w.heap.size, 2, none⟩ = false := Heap.frozen hb2 2
          have HO2 := Lib.hid (HO.out.trans ho2 (fun _ _ h => h))
          have HB2 := Lib.hid hb2; clear hb2 ho2
          by_cases heq : s.data.toList.take (putF q bd).length = putF q bd
          · have e1 : (!((s.extract 0 t.size).toList == t.toList)) = false := by rw [hex, htl, heq]; simp
            have HQ := Lib.hid heq; clear heq htl hex
            go_wp2
            all_goals try (rename_i h; rw [e1] at h; cases h)
            rw [HVB.out, HTS.out]
            refine bodyPost_ret_by (results_row_tmp rfl _ _ w.heap.size _ _ _ _ rfl (box3 HB2.out _ _ _) Tryz.underlying168 rfl infoRFrame) rfl ⟨?_, ?_⟩
            · unfold firstR; rw [HPL.out, if_pos HQ.out]; rfl
            · exact ((HO2.out.setCell (p := ⟨w.heap.size, 0, none⟩) (.inr (Nat.le_refl _)) _).setCell (p := ⟨w.heap.size, 1, none⟩) (.inr (Nat.le_refl _)) _).setCell (p := ⟨w.heap.size, 2, none⟩) (.inr (Nat.le_refl _)) _
          · have e1 : (!((s.extract 0 t.size).toList == t.toList)) = true := by rw [hex, htl]; simpa using heq
            have HQ := Lib.hid heq; clear heq htl hex
            go_wp2
            all_goals try (rename_i h; rw [e1] at h; cases h)
            refine bodyPost_ret_by (results_row_tmp rfl _ _ w.heap.size _ _ _ _ rfl (box3 HB2.out _ _ _) Tryz.underlying168 rfl infoRFrame) rfl ⟨?_, ?_⟩
            · unfold firstR; rw [HPL.out, if_neg HQ.out]; rfl
            · exact ((HO2.out.setCell (p := ⟨w.heap.size, 0, none⟩) (.inr (Nat.le_refl _)) _).setCell (p := ⟨w.heap.size, 1, none⟩) (.inr (Nat.le_refl _)) _).setCell (p := ⟨w.heap.size, 2, none⟩) (.inr (Nat.le_refl _)) _
theorem infoRFrameE : (Tryz.prog.info? 168).map (fun i => (i.zero, i.size, i.bytes)) = some (some (.agg #[.int .u64 0, .string ByteArray.empty, .int .i64 0]), 3, 32) := by kernel_rfl
theorem elemRFrame : ElemOk Tryz.prog 165 168 3 32 := .of Tryz.underlying165 infoRFrameE rfl (by decide) (by decide)
set_option maxHeartbeats 1000000 in
set_option maxRecDepth 100000 in
theorem rscan_any (w : World) (s : ByteArray) (hs : s.size ≤ 1099511627776) :
    Calls Tryz.prog 113 #[.string s] w fun e w' => ∃ v, e = .returned (.tuple #[v, .int .i64 (sizes (scanL s.data.toList))]) ∧
      w'.ownsRow w.heap.size 168 3 v (scanL s.data.toList).length ((scanL s.data.toList).flatMap frameCells) ∧ Off None w w' := by
  have hll : s.data.toList.length = s.size := by simp
  have hcnt := sizes_le s.data.toList.length s.data.toList (Nat.le_refl _)
  go_enter Tryz.func113, Tryz.ntmps113
  go_wp2
  go_loopw [4, 5] (fun o nv wr => ∃ (ov : Value) (pre : List FrameV) (k : Nat), ov = o ∧ nv = .int .i64 k ∧ k ≤ s.size ∧ k = sizes pre ∧ scanL s.data.toList = pre ++ scanL (s.data.toList.drop k) ∧ wr.ownsRow w.heap.size 168 3 ov pre.length (pre.flatMap frameCells) ∧ Off None w wr) (fun _ nv _ => s.size - (intOf nv).toNat)
  case atStart => exact ⟨_, [], 0, rfl, rfl, Nat.zero_le _, rfl, by rw [List.drop_zero]; rfl, World.ownsRow_nil _ _ _ _, Off.refl _ _⟩
  case round =>
    obtain ⟨ov, pre, k, rfl, rfl, hk, hks, hsc, hrow, ho⟩ := hrel
    have HROW := Lib.hid hrow; have HO := Lib.hid ho; have HSC := Lib.hid hsc; have HKS := Lib.hid hks
    have hpl : pre.length ≤ s.size := by
      have := congrArg List.length hsc
      rw [List.length_append] at this
      omega
    clear hrow ho hsc hks
    obtain ⟨sk, hsk⟩ : ∃ sk : ByteArray, sk = s.extract k s.size := ⟨_, rfl⟩
    have hskl : sk.data.toList = s.data.toList.drop k := by rw [hsk, Num.extract_drop]
    have hf := rfirst_any wr sk (by rw [hsk, ByteArray.size_extract]; omega)
    rw [hsk] at hf
    have k0 : (0 : Int) ≤ (k : Int) := by omega
    have k1 : (k : Int) ≤ (s.size : Int) := by omega
    cases h1 : firstL (s.data.toList.drop k) with
    | none =>
      have hfr : firstR (s.extract k s.size) = .tuple #[.agg #[.int .u64 0, .string ⟨#[]⟩, .int .i64 0], .int .i64 2] := by
        rw [← hsk]; exact firstR_none (by rw [hskl]; exact h1)
      rw [hfr] at hf
      have HF := Lib.hid hf
      have hend : scanL s.data.toList = pre := by rw [HSC.out, scanL_none h1, List.append_nil]
      have HEND := Lib.hid hend
      clear hf hfr hskl hsk hend
      go_wp2_with fail
      refine HF.out.mono ?_
      rintro e w1 ⟨rfl, ho1⟩
      have HO1 := Lib.hid (HO.out.trans ho1 (fun _ _ h => h))
      have hr1 := ho1.row HROW.out (fun _ _ h => h)
      have HR1 := Lib.hid hr1
      clear ho1 hr1
      go_wp2
      go_ret2
      refine ⟨ov, ?_, ?_, HO1.out.alloc _⟩
      · rw [HEND.out, ← HKS.out]
        rfl
      · rw [HEND.out]
        exact ((Off.refl None w1).alloc _).row HR1.out (fun _ _ h => h)
    | some f =>
      have hfr : firstR (s.extract k s.size) = .tuple #[.agg #[.int .u64 f.seq, .string ⟨f.body.toArray⟩, .int .i64 f.size], .int .i64 0] := by
        rw [← hsk]; exact firstR_some (by rw [hskl]; exact h1)
      rw [hfr] at hf
      have HF := Lib.hid hf
      have hfs := firstL_size h1
      rw [List.length_drop] at hfs
      have hnx : scanL s.data.toList = (pre ++ [f]) ++ scanL (s.data.toList.drop (k + f.size)) := by
        rw [HSC.out, scanL_some h1, List.drop_drop, List.append_assoc]; rfl
      have HNX := Lib.hid hnx
      obtain ⟨fs, hfse⟩ : ∃ fs, fs = f.size := ⟨_, rfl⟩
      obtain ⟨fb, hfb⟩ : ∃ fb : ByteArray, fb = ⟨f.body.toArray⟩ := ⟨_, rfl⟩
      rw [← hfse] at hfs
      rw [← hfse, ← hfb] at HF
      have HFS := Lib.hid hfse; have HFB := Lib.hid hfb
      clear hf hfr hskl hsk hnx hfse hfb
      go_wp2_with fail
      refine HF.out.mono ?_
      rintro e w1 ⟨rfl, ho1⟩
      have HO1 := Lib.hid (HO.out.trans ho1 (fun _ _ h => h))
      have hr1 := ho1.row HROW.out (fun _ _ h => h)
      obtain ⟨w2, hw2⟩ : ∃ w2, w2 = w1.alloc (.cells #[.int .u64 f.seq, .string fb, .int .i64 fs] 168) := ⟨_, rfl⟩
      have hr2 : w2.ownsRow w.heap.size 168 3 ov pre.length (pre.flatMap frameCells) := by rw [hw2]; exact ((Off.refl None w1).alloc _).row hr1 (fun _ _ h => h)
      have hb2 : w2.heap[w1.heap.size]? = some (.cells #[.int .u64 f.seq, .string fb, .int .i64 fs] 168 (0, 0)) := by rw [hw2]; exact Heap.alloc_new w1 _
      have hov : ∀ k, ov.ownBlock = some k → k < w1.heap.size := fun k hk => row_lt hr1 hk
      have HOV := Lib.hid hov; clear hov
      have HR2 := Lib.hid hr2; have HB2 := Lib.hid hb2; have HW2 := Lib.hid hw2
      have HO2 := Lib.hid (by rw [hw2]; exact HO1.out.alloc _ : Off None w w2)
      have hsz2 : w2.heap.size = w1.heap.size + 1 := by rw [hw2, Heap.alloc_size]
      clear ho1 hr1 hr2 hb2 hw2
      go_wp2_with (at_builtin; rw [← HW2.out]; refine wpList_push rfl (.tmp 19) (.tmp 21) rfl elemRFrame w.heap.size ov pre.length (pre.flatMap frameCells) rfl HR2.out #[.int .u64 f.seq, .string fb, .int .i64 fs] ?hx rfl ?c1 ?c2 ?c3 ?_)
      case hx => rw [hsz2]; rfl
      case c1 => first | exact ⟨rfl, rfl, rfl⟩ | (intro u hu; simp at hu; rcases hu with rfl | rfl | rfl <;> rfl)
      case c2 => omega
      case c3 => exact HO2.out.size
      intro g cap w3 hrow3 hp3
      have hb3 := hp3.keep _ _ HB2.out (fun e => by have := HOV.out _ e; omega)
      have q2 : w3.cell? ⟨w1.heap.size, 2, none⟩ = some (.int .i64 fs) := Heap.cell hb3 2
      have HROW3 := Lib.hid hrow3
      have HO3 := Lib.hid (HO2.out.trans hp3.off (fun b hb h => absurd (World.ownsRow.lt HR2.out b h).1 (by omega)))
      clear hrow3 hp3 hb3
      go_wp2_with fail
      case roundEnd =>
        refine ⟨⟨_, pre ++ [f], k + fs, rfl, by push_cast; rfl, by omega, ?_, by rw [HFS.out]; exact HNX.out, ?_, HO3.out⟩, by simp [intOf]; omega⟩
        · unfold sizes
          rw [List.map_append, List.sum_append, HKS.out, HFS.out]
          simp [sizes]
        · have := HROW3.out
          rw [List.length_append, List.flatMap_append]
          simp only [List.length_singleton, List.flatMap_cons, List.flatMap_nil, List.append_nil]
          unfold frameCells
          rw [← HFS.out, ← HFB.out]
          exact this
end Frame
end Go.Proofs.YtnppdcegpojmbaaGreatDoor
