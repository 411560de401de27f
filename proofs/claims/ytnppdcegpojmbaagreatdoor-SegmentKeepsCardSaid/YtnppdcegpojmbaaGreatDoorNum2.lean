/- Numbers as bytes, seven bits a byte, the least ahead: what Put and Take of package num compute. No program stands here. · The walk of num.Put. · The walk of num.Take. -/
import Derived.RowKit
import Derived.Test.YtnppdcegpojmbaaGreatDoorRows
import Derived.Test.YtnppdcegpojmbaaGreatDoorRow
import Derived.Laws.IdiomStrings
import Derived.Laws.BitsAllLaws
import Derived.Lib.VarintBits
import Derived.WalkMore
import Derived.OwnWalk
import Derived.Deep.LoopGhost
import Derived.Deep.RegionHeld3
namespace Go.Proofs.YtnppdcegpojmbaaGreatDoor
open Go Go.RowKit
namespace Num
def putL (n : Nat) : List UInt8 := if h : n < 128 then [UInt8.ofNat n] else UInt8.ofNat (n % 128 + 128) :: putL (n / 128)
termination_by n
decreasing_by omega
theorem putL_small {n : Nat} (h : n < 128) : putL n = [UInt8.ofNat n] := by rw [putL, dif_pos h]
theorem putL_more {n : Nat} (h : ¬ n < 128) : putL n = UInt8.ofNat (n % 128 + 128) :: putL (n / 128) := by rw [putL, dif_neg h]
theorem putL_length (k : Nat) : ∀ n, n < 128 ^ (k + 1) → (putL n).length ≤ k + 1 := by
  induction k with
  | zero => intro n h; rw [putL_small (by simpa using h)]; simp
  | succ k ih =>
    intro n h
    by_cases hs : n < 128
    · rw [putL_small hs]; simp
    · rw [putL_more hs, List.length_cons]
      have := ih (n / 128) (by rw [Nat.div_lt_iff_lt_mul (by omega)]; rwa [Nat.pow_succ] at h)
      omega
theorem putL_len {n : Nat} (h : n < 18446744073709551616) : (putL n).length ≤ 10 := putL_length 9 n (by omega)
theorem putL_pos (n : Nat) : 0 < (putL n).length := by
  by_cases hs : n < 128
  · rw [putL_small hs]; simp
  · rw [putL_more hs]; simp
/-- The number that bytes begin with, of which i were taken, with the number n: and how many bytes it has. -/
def takeL (i n : Nat) : List UInt8 → Option (Nat × List UInt8)
  | [] => none
  | c :: r =>
    if (i = 9 ∧ 1 < c.toNat) ∨ (0 < i ∧ c.toNat = 0) then none
    else if c.toNat < 128 then some (n + c.toNat * 128 ^ i, r)
    else takeL (i + 1) (n + (c.toNat - 128) * 128 ^ i) r
theorem takeL_put (k : Nat) : ∀ (n i a : Nat) (r : List UInt8), n < 128 ^ (k + 1) → i + k ≤ 9 → (0 < i → 0 < n) → (i + k = 9 → n < 2 * 128 ^ k) → takeL i a (putL n ++ r) = some (a + n * 128 ^ i, r) := by
  induction k with
  | zero =>
    intro n i a r h hi h0 h9
    have hn : n < 128 := by simpa using h
    rw [putL_small hn, List.singleton_append, takeL]
    have e : (UInt8.ofNat n).toNat = n := by simp; omega
    rw [e, if_neg, if_pos hn]
    rintro (⟨h1, h2⟩ | ⟨h1, h2⟩)
    · have := h9 (by omega); simp at this; omega
    · have := h0 h1; omega
  | succ k ih =>
    intro n i a r h hi h0 h9
    by_cases hs : n < 128
    · have e : (UInt8.ofNat n).toNat = n := by simp; omega
      rw [putL_small hs, List.singleton_append, takeL, e, if_neg, if_pos hs]
      rintro (⟨h1, h2⟩ | ⟨h1, h2⟩)
      · omega
      · have := h0 h1; omega
    · have e : (UInt8.ofNat (n % 128 + 128)).toNat = n % 128 + 128 := by simp; omega
      rw [putL_more hs, List.cons_append, takeL, e, if_neg (by rintro (⟨h1, h2⟩ | ⟨h1, h2⟩) <;> omega), if_neg (by omega), Nat.add_sub_cancel]
      rw [ih (n / 128) (i + 1) _ r (by rw [Nat.div_lt_iff_lt_mul (by omega)]; rwa [Nat.pow_succ] at h) (by omega) (fun _ => Nat.div_pos (by omega) (by omega)) (fun h' => by
        have := h9 (by omega)
        rw [Nat.div_lt_iff_lt_mul (by omega), Nat.mul_assoc, ← Nat.pow_succ]; exact this)]
      have h1 := Nat.div_add_mod n 128
      have h2 : n * 128 ^ i = (n % 128) * 128 ^ i + (n / 128) * 128 ^ (i + 1) := by
        rw [Nat.pow_succ, Nat.mul_comm (128 ^ i) 128, ← Nat.mul_assoc, ← Nat.add_mul]
        congr 1
        omega
      rw [h2, Nat.add_assoc]
theorem take_put (n : Nat) (r : List UInt8) (h : n < 18446744073709551616) : takeL 0 0 (putL n ++ r) = some (n, r) := by
  rw [takeL_put 9 n 0 0 r (by omega) (by omega) (fun h => absurd h (by omega)) (fun _ => by omega)]
  simp
theorem takeL_lt (l : List UInt8) : ∀ (i a n : Nat) (r : List UInt8), i ≤ 9 → a < 128 ^ i → takeL i a l = some (n, r) → n < 18446744073709551616 ∧ r.length < l.length := by
  induction l with
  | nil => intro i a n r _ _ h; simp [takeL] at h
  | cons c t ih =>
    intro i a n r hi ha h
    rw [takeL] at h
    have hp : (128 : Nat) ^ i ≤ 128 ^ 9 := Nat.pow_le_pow_right (by decide) hi
    split at h
    · cases h
    · rename_i hno
      split at h
      · rename_i hc
        cases h
        refine ⟨?_, by simp⟩
        by_cases h9 : i = 9
        · subst h9
          have : ¬ 1 < c.toNat := fun h1 => hno (.inl ⟨rfl, h1⟩)
          have h2 : c.toNat * 128 ^ 9 ≤ 1 * 128 ^ 9 := Nat.mul_le_mul_right _ (by omega)
          omega
        · have hp8 : (128 : Nat) ^ i ≤ 128 ^ 8 := Nat.pow_le_pow_right (by decide) (by omega)
          have h2 : c.toNat * 128 ^ i ≤ 127 * 128 ^ 8 := Nat.mul_le_mul (by omega) hp8
          omega
      · rename_i hc
        by_cases h9 : i = 9
        · subst h9
          exact absurd (.inl ⟨rfl, by omega⟩) hno
        · have hb := c.toNat_lt
          have h2 : (c.toNat - 128) * 128 ^ i ≤ 127 * 128 ^ i := Nat.mul_le_mul_right _ (by omega)
          have h3 := ih (i + 1) _ n r (by omega) (by rw [Nat.pow_succ]; omega) h
          exact ⟨h3.1, by rw [List.length_cons]; omega⟩
theorem take_lt {l r : List UInt8} {n : Nat} (h : takeL 0 0 l = some (n, r)) : n < 18446744073709551616 ∧ r.length < l.length := takeL_lt l 0 0 n r (by omega) (by decide) h
end Num
end Go.Proofs.YtnppdcegpojmbaaGreatDoor
namespace Go.Proofs.YtnppdcegpojmbaaGreatDoor
open Go Go.RowKit
namespace Num
theorem infoByte : (Tryz.prog.info? 5).map (fun i => (i.zero, i.size, i.bytes)) = some (some (.int .u8 0), 1, 1) := by kernel_rfl
theorem elemByte : ElemOk Tryz.prog 157 5 1 1 := .of Tryz.underlying157 infoByte rfl (by decide) (by decide)
def byteCells (l : List UInt8) : List Value := l.map fun b => .int .u8 (b.toNat : Int)
theorem conv_row {w : World} {base g cap n : Nat} {l : List UInt8} (h : w.ownsRow base 5 1 (.slice (some ⟨g, 0, none⟩) n cap) n (byteCells l)) :
    (convert 157 9 (.slice (some ⟨g, 0, none⟩) n cap)).run Tryz.prog w = .ok (.string ⟨l.toArray⟩) w := by
  have hl : n = l.length := by have := h.1; simp [byteCells] at this; omega
  subst hl
  refine run_convert_bytes_back w _ _ 5 ⟨g, 0, none⟩ cap l Tryz.underlying157 Tryz.underlying5 Tryz.underlying9 (fun j hj => ?_)
  refine h.cells (by rfl) j _ ?_
  simp [byteCells, hj]
theorem byteCells_snoc (pre : List UInt8) (m : Nat) (h : m < 256) : byteCells pre ++ [.int .u8 (m : Int)] = byteCells (pre ++ [UInt8.ofNat m]) := by
  have e : (UInt8.ofNat m).toNat = m := by simp; omega
  simp [byteCells, e]
set_option maxRecDepth 100000 in
theorem or128 (m : Nat) : bits BinOp.or IntKind.u8 ((m : Int) % 256) 128 = ((m % 128 + 128 : Nat) : Int) := by
  have h := u8_or_nat (m % 256) 128 (by omega) (by omega)
  have e : m % 256 ||| 128 = m % 128 + 128 := by
    have : ∀ a < 256, a ||| 128 = a % 128 + 128 := by decide
    rw [this _ (Nat.mod_lt _ (by omega)), Nat.mod_mod_of_dvd _ (by decide)]
  rw [e] at h
  simpa using h
set_option maxRecDepth 100000 in
theorem put_any (w : World) (n : Nat) (hn : n < 18446744073709551616) :
    Calls Tryz.prog 93 #[.int .u64 n] w fun e w' => e = .returned (.string ⟨(putL n).toArray⟩) ∧ Off None w w' := by
  go_enter Tryz.func93, Tryz.ntmps93
  go_wp2
  go_loopw [0, 3] (fun nv x wr => ∃ (m : Nat) (pre : List UInt8) (bv : Value), bv = x ∧ m < 18446744073709551616 ∧ pre.length + (putL m).length ≤ 10 ∧ nv = .int .u64 m ∧ putL n = pre ++ putL m ∧ wr.ownsRow w.heap.size 5 1 bv pre.length (byteCells pre) ∧ Off None w wr) (fun nv _ _ => (intOf nv).toNat)
  case atStart => exact ⟨n, [], _, rfl, hn, by have := putL_len hn; simpa using this, rfl, rfl, World.ownsRow_nil _ _ _ _, Off.refl _ _⟩
  case round =>
    obtain ⟨m, pre, bv, rfl, hm, hlen, rfl, hput, hrow, ho⟩ := hrel
    have HROW := Lib.hid hrow; clear hrow
    have HO := Lib.hid ho; clear ho
    have HP := Lib.hid hput; clear hput
    by_cases hs : m < 128
    · go_wp2_with (at_builtin; refine wpList_push rfl _ _ rfl elemByte w.heap.size bv pre.length (byteCells pre) rfl HROW.out #[.int .u8 m] rfl rfl (by intro u hu; simp at hu; subst hu; rfl) (by omega) HO.out.size ?_; intro g cap w' hrow hp)
      have hrow2 : w'.ownsRow w.heap.size 5 1 (.slice (some ⟨g, 0, none⟩) (pre.length + 1) cap) (pre.length + 1) (byteCells (pre ++ [UInt8.ofNat m])) := by
        rw [← byteCells_snoc pre m (by omega)]; exact hrow
      have hcv := conv_row hrow2
      have HOFF := Lib.hid (HO.out.trans hp.off (fun b hb h => absurd (World.ownsRow.lt HROW.out b h).1 (by omega)))
      clear hrow hrow2 hp
      rw [hcv]
      go_wp2
      go_ret
      rw [HP.out, putL_small hs]
      exact ⟨rfl, HOFF.out⟩
    · go_wp2_with (at_builtin; refine wpList_push rfl _ _ rfl elemByte w.heap.size bv pre.length (byteCells pre) rfl HROW.out #[.int .u8 (bits BinOp.or IntKind.u8 (m % 256) 128)] rfl rfl (by intro u hu; simp at hu; subst hu; rfl) (by omega) HO.out.size ?_; intro g cap w' hrow hp)
      go_round
      case rel =>
        have hrow2 : w'.ownsRow w.heap.size 5 1 (.slice (some ⟨g, 0, none⟩) (pre.length + 1) cap) (pre.length + 1) (byteCells (pre ++ [UInt8.ofNat (m % 128 + 128)])) := by
          rw [← byteCells_snoc pre _ (by omega), ← or128]; exact hrow
        refine ⟨m / 128, pre ++ [UInt8.ofNat (m % 128 + 128)], _, rfl, by omega, ?_, by go_num, ?_, by simpa using hrow2, HO.out.trans hp.off (fun b hb h => absurd (World.ownsRow.lt HROW.out b h).1 (by omega))⟩
        · rw [putL_more hs] at hlen; simp at hlen ⊢; omega
        · rw [HP.out, putL_more hs]; simp
      case measure => simp [intOf]; omega
end Num
end Go.Proofs.YtnppdcegpojmbaaGreatDoor
namespace Go.Proofs.YtnppdcegpojmbaaGreatDoor
open Go Go.RowKit
namespace Num
/-- Bytes behind the first k. -/
theorem extract_drop (s : ByteArray) (k : Nat) : s.extract k s.size = ⟨(s.data.toList.drop k).toArray⟩ := by
  apply ByteArray.ext
  rw [ByteArray.data_extract]
  apply Array.ext'
  rw [Array.toList_extract, List.extract_eq_take_drop]
  refine List.take_of_length_le ?_
  rw [List.length_drop]
  exact Nat.le_refl _
/-- What Take returns. -/
def takeR (s : ByteArray) : Value :=
  match takeL 0 0 s.data.toList with
  | some (n, r) => .tuple #[.int .u64 n, .string ⟨r.toArray⟩, .int .i64 0]
  | none => .tuple #[.int .u64 0, .string ByteArray.empty, .int .i64 2]
theorem takeR_none {s : ByteArray} (h : takeL 0 0 s.data.toList = none) : takeR s = .tuple #[.int .u64 0, .string ⟨#[]⟩, .int .i64 2] := by
  unfold takeR; rw [h]; rfl
theorem takeR_some {s : ByteArray} {n : Nat} {r : List UInt8} (h : takeL 0 0 s.data.toList = some (n, r)) : takeR s = .tuple #[.int .u64 n, .string ⟨r.toArray⟩, .int .i64 0] := by
  unfold takeR; rw [h]
theorem ret_take {s : ByteArray} {n : Nat} {r : List UInt8} {X : Int} {Y : ByteArray} (h : takeL 0 0 s.data.toList = some (n, r)) (hx : X = (n : Int)) (hy : Y = ⟨r.toArray⟩) :
    Ending.returned (.tuple #[.int .u64 X, .string Y, .int .i64 0]) = .returned (takeR s) := by rw [takeR_some h, hx, hy]
theorem pow128 (j : Nat) : (2 : Nat) ^ (7 * j) = 128 ^ j := by rw [Nat.pow_mul]
theorem or_shift (j a c : Nat) (hj : j ≤ 8) (ha : a < 128 ^ j) (hc : c < 128) : bits BinOp.or IntKind.u64 (a : Int) (IntKind.u64.wrap ((c : Int) * 2 ^ (7 * j))) = ((a + c * 128 ^ j : Nat) : Int) := by
  have hp : (128 : Nat) ^ j ≤ 72057594037927936 := Nat.pow_le_pow_right (n := 128) (by decide) hj
  have hx : c * 128 ^ j < 18446744073709551616 := by
    have := Nat.mul_lt_mul_of_lt_of_le hc hp (show 0 < 72057594037927936 by decide)
    omega
  have e : (c : Int) * 2 ^ (7 * j) = ((c * 128 ^ j : Nat) : Int) := by rw [← pow128]; push_cast; rfl
  rw [e, IntKind.wrap_u64, Int.emod_eq_of_lt (by omega) (by omega)]
  have h := bits_join_low .u64 64 (by decide) wraps_u64 (7 * j) (a : Int) ((c * 128 ^ j : Nat) : Int) (by omega) (by
    rw [show ((2 : Int) ^ (7 * j)) = ((2 ^ (7 * j) : Nat) : Int) from by push_cast; rfl, pow128]; omega) (by omega) (by omega) (by
    rw [show ((2 : Int) ^ (7 * j)) = ((2 ^ (7 * j) : Nat) : Int) from by push_cast; rfl, pow128, ← Int.natCast_emod, Nat.mul_mod_left]; rfl) (by omega)
  rw [h]
  push_cast
  rfl
theorem and127 (c : Nat) (h : c < 256) (hs : ¬ c < 128) : bits BinOp.and IntKind.u64 (c : Int) 127 = ((c - 128 : Nat) : Int) := by
  have e := u64_and_nat c 127 (by omega) (by omega)
  have e2 : c &&& 127 = c % 128 := Nat.and_two_pow_sub_one_eq_mod c 7
  rw [e2, show c % 128 = c - 128 from by omega] at e
  exact e
theorem take_step (l : List UInt8) (j a : Nat) (h : j < l.length) : takeL j a (l.drop j) = (if (j = 9 ∧ 1 < l[j].toNat) ∨ (0 < j ∧ l[j].toNat = 0) then none
    else if l[j].toNat < 128 then some (a + l[j].toNat * 128 ^ j, l.drop (j + 1)) else takeL (j + 1) (a + (l[j].toNat - 128) * 128 ^ j) (l.drop (j + 1))) := by
  rw [List.drop_eq_getElem_cons h, takeL]
set_option maxRecDepth 100000 in
theorem take_any (w : World) (s : ByteArray) (hs : s.size ≤ maxLen) :
    Calls Tryz.prog 166 #[.string s] w fun e w' => e = .returned (takeR s) ∧ Off None w w' := by
  unfold maxLen at hs
  go_enter Tryz.func166, Tryz.ntmps166
  go_wp2
  go_step3
  go_wp2
  go_step3
  go_wp2
  go_loop [5, 6, 11] (fun n k i => ∃ (j a : Nat), j ≤ s.size ∧ j ≤ 9 ∧ a < 128 ^ j ∧ n = .int .u64 a ∧ k = .int .i64 (-1) ∧ i = .int .i64 j ∧ Aside (takeL 0 0 s.data.toList = takeL j a (s.data.toList.drop j))) (fun _ _ i => s.size - (intOf i).toNat)
  case atStart => exact ⟨0, 0, Nat.zero_le _, Nat.zero_le _, by decide, rfl, rfl, rfl, by simp [Aside]⟩
  case round =>
    obtain ⟨j, a, hj, h9, ha, rfl, rfl, rfl, A⟩ := hrel
    by_cases hlt : j < s.size
    · have hb := s[j].toNat_lt
      have hst := take_step s.data.toList j a (by simpa using hlt)
      have hg : s.data.toList[j]'(by simpa using hlt) = s[j] := rfl
      rw [hg, ← A.out] at hst
      have HST := Lib.hid hst
      clear hst A hg
      have h0 : (0 : Int) ≤ j + 1 := by omega
      by_cases hj9 : j = 9
      · subst hj9
        by_cases h1 : s[9].toNat ≤ 1
        · by_cases hz : s[9].toNat = 0
          · have e1 : ((s[9].toNat : Int) == 0) = true := by rw [hz]; rfl
            go_wp2
            go_ret3
            exact ⟨by rw [takeR_none (by rw [HST.out, if_pos (.inr ⟨by omega, hz⟩)])]; rfl, Off.refl _ _⟩
          · have hone : s[9].toNat = 1 := by omega
            have hor : bits BinOp.or IntKind.u64 (a : Int) 9223372036854775808 = ((a + 9223372036854775808 : Nat) : Int) := by
              have h := u64_orv63 (a : Int) 9223372036854775808 (by omega) (by omega) (by omega) (by omega) (by omega)
              rw [h]; omega
            have HOR := Lib.hid hor; clear hor
            go_wp2
            have hk1 : (10 : Int) ≤ (s.size : Int) := by omega
            go_region_held3 (fun _ => True) (trivial) (fail)
            go_wp2
            rw [Exit.noGoto_ret]
            go_ret3
            exact ⟨ret_take (by rw [HST.out, if_neg (by rintro (⟨_, h⟩ | ⟨_, h⟩) <;> omega), if_pos (by omega)]) (by rw [HOR.out, hone]) (extract_drop s 10), (Off.refl None w).drew⟩
        · have e1 : (1 : Int) < s[9].toNat := by omega
          go_wp2
          go_ret3
          exact ⟨by rw [takeR_none (by rw [HST.out, if_pos (.inl ⟨trivial, by omega⟩)])]; rfl, Off.refl _ _⟩
      · have k9 : ¬ ((j : Int) = 9) := by omega
        by_cases hz : 0 < j ∧ s[j].toNat = 0
        · have e1 : ((s[j].toNat : Int) == 0) = true := by rw [hz.2]; rfl
          have e2 := hz.1
          go_wp2
          go_ret3
          exact ⟨by rw [takeR_none (by rw [HST.out, if_pos (.inr hz)])]; rfl, Off.refl _ _⟩
        · have e2 : ¬ (0 < j) ∨ ((s[j].toNat : Int) == 0) = false := by
            by_cases h : 0 < j
            · exact .inr (by rw [beq_eq_false_iff_ne]; have : s[j].toNat ≠ 0 := fun h' => hz ⟨h, h'⟩; omega)
            · exact .inl h
          have hno : ¬ ((j = 9 ∧ 1 < s[j].toNat) ∨ (0 < j ∧ s[j].toNat = 0)) := by rintro (⟨h, _⟩ | h); exact hj9 h; exact hz h
          by_cases hs : s[j].toNat < 128
          · have hor := or_shift j a s[j].toNat (by omega) ha hs
            have HOR := Lib.hid hor; clear hor
            rcases e2 with e2 | e2
            · go_wp2
              have hk1 : (j : Int) + 1 ≤ (s.size : Int) := by omega
              go_region_held3 (fun _ => True) (trivial) (fail)
              go_wp2
              rw [Exit.noGoto_ret]
              go_ret3
              exact ⟨ret_take (by rw [HST.out, if_neg hno, if_pos hs]) HOR.out (extract_drop s (j + 1)), (Off.refl None w).drew⟩
            · by_cases e3 : 0 < j
              · go_wp2
                have hk1 : (j : Int) + 1 ≤ (s.size : Int) := by omega
                go_region_held3 (fun _ => True) (trivial) (fail)
                go_wp2
                rw [Exit.noGoto_ret]
                go_ret3
                exact ⟨ret_take (by rw [HST.out, if_neg hno, if_pos hs]) HOR.out (extract_drop s (j + 1)), (Off.refl None w).drew⟩
              · go_wp2
                have hk1 : (j : Int) + 1 ≤ (s.size : Int) := by omega
                go_region_held3 (fun _ => True) (trivial) (fail)
                go_wp2
                rw [Exit.noGoto_ret]
                go_ret3
                exact ⟨ret_take (by rw [HST.out, if_neg hno, if_pos hs]) HOR.out (extract_drop s (j + 1)), (Off.refl None w).drew⟩
          · have hs' : ¬ ((s[j].toNat : Int) < 128) := by omega
            have hcm : s[j].toNat % 128 = s[j].toNat - 128 := by omega
            have hor := or_shift j a (s[j].toNat - 128) (by omega) ha (by omega)
            have HOR := Lib.hid hor; clear hor
            have hpl : a + (s[j].toNat - 128) * 128 ^ j < 128 ^ (j + 1) := by
              have h1 : (s[j].toNat - 128) * 128 ^ j ≤ 127 * 128 ^ j := Nat.mul_le_mul_right _ (by omega)
              rw [Nat.pow_succ]; omega
            have HLT := Lib.hid hpl; clear hpl
            rcases e2 with e2 | e2
            · go_wp2
              go_round
              case rel =>
                refine ⟨j + 1, a + (s[j].toNat - 128) * 128 ^ j, by omega, by omega, HLT.out, ?_, rfl, by go_num, ?_⟩
                · rw [and127 _ (by omega) hs, HOR.out]
                · show _ = _
                  rw [HST.out, if_neg hno, if_neg hs]
              case measure => simp [intOf]; omega
            · by_cases e3 : 0 < j
              · go_wp2
                go_round
                case rel =>
                  refine ⟨j + 1, a + (s[j].toNat - 128) * 128 ^ j, by omega, by omega, HLT.out, ?_, rfl, by go_num, ?_⟩
                  · rw [and127 _ (by omega) hs, HOR.out]
                  · show _ = _
                    rw [HST.out, if_neg hno, if_neg hs]
                case measure => simp [intOf]; omega
              · go_wp2
                go_round
                case rel =>
                  refine ⟨j + 1, a + (s[j].toNat - 128) * 128 ^ j, by omega, by omega, HLT.out, ?_, rfl, by go_num, ?_⟩
                  · rw [and127 _ (by omega) hs, HOR.out]
                  · show _ = _
                    rw [HST.out, if_neg hno, if_neg hs]
                case measure => simp [intOf]; omega
    · go_wp2
      go_ret3
      have := A.out
      rw [List.drop_of_length_le (by simp; omega), takeL] at this
      exact ⟨by rw [takeR_none this]; rfl, Off.refl _ _⟩
end Num
end Go.Proofs.YtnppdcegpojmbaaGreatDoor
