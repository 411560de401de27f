/- Numbers as bytes, seven bits a byte, the least ahead: what Put and Take of package num compute. No program stands here. · The walk of num.Put. · The walk of num.Take. · The walk of frame.sum. · The walks of frame.Put, frame.First, frame.Size. -/
import Derived.RowKit
import Derived.Test.YtndgnlblbjpogaaGreatDoorRows
import Derived.Test.YtndgnlblbjpogaaGreatDoorRow
import Derived.Laws.IdiomStrings
import Derived.Laws.BitsAllLaws
import Derived.Lib.VarintBits
import Derived.WalkMore
import Derived.OwnWalk
import Derived.Deep.LoopGhost
import Derived.Deep.RegionHeld3
import Derived.Test.YtndgnlblbjpogaaGreatDoorCrcWalk
import Derived.Laws.ResultCell
import Derived.Laws.Rows
import Derived.Laws.NewBlocks
namespace Go.Proofs.YtndgnlblbjpogaaGreatDoor
open Go Go.RowKit
namespace Num
def putL (n : Nat) : List UInt8 := if h : n < 128 then [UInt8.ofNat n] else UInt8.ofNat (n % 128 + 128) :: putL (n / 128)
termination_by n
decreasing_by omega
theorem putL_small {n : Nat} (h : n < 128) : putL n = [UInt8.ofNat n] := by rw [putL, dif_pos h]
theorem putL_more {n : Nat} (h : ¬ n < 128) : putL n = UInt8.ofNat (n % 128 + 128) :: putL (n / 128) := by rw [putL, dif_neg h]
theorem putL_length (k : Nat) : ∀ n, n < 128 ^ (k + 1) → (putL n).length ≤ k + 1 := by
  induction k with
  | zero => intro n h; rw [putL_small (by simpa using h)]; simp
  | succ k ih =>
    intro n h
    by_cases hs : n < 128
    · rw [putL_small hs]; simp
    · rw [putL_more hs, List.length_cons]
      have := ih (n / 128) (by rw [Nat.div_lt_iff_lt_mul (by omega)]; rwa [Nat.pow_succ] at h)
      omega
theorem putL_len {n : Nat} (h : n < 18446744073709551616) : (putL n).length ≤ 10 := putL_length 9 n (by omega)
theorem putL_pos (n : Nat) : 0 < (putL n).length := by
  by_cases hs : n < 128
  · rw [putL_small hs]; simp
  · rw [putL_more hs]; simp
/-- The number that bytes begin with, of which i were taken, with the number n: and how many bytes it has. -/
def takeL (i n : Nat) : List UInt8 → Option (Nat × List UInt8)
  | [] => none
  | c :: r =>
    if (i = 9 ∧ 1 < c.toNat) ∨ (0 < i ∧ c.toNat = 0) then none
    else if c.toNat < 128 then some (n + c.toNat * 128 ^ i, r)
    else takeL (i + 1) (n + (c.toNat - 128) * 128 ^ i) r
theorem takeL_put (k : Nat) : ∀ (n i a : Nat) (r : List UInt8), n < 128 ^ (k + 1) → i + k ≤ 9 → (0 < i → 0 < n) → (i + k = 9 → n < 2 * 128 ^ k) → takeL i a (putL n ++ r) = some (a + n * 128 ^ i, r) := by
  induction k with
  | zero =>
    intro n i a r h hi h0 h9
    have hn : n < 128 := by simpa using h
    rw [putL_small hn, List.singleton_append, takeL]
    have e : (UInt8.ofNat n).toNat = n := by simp; omega
    rw [e, if_neg, if_pos hn]
    rintro (⟨h1, h2⟩ | ⟨h1, h2⟩)
    · have := h9 (by omega); simp at this; omega
    · have := h0 h1; omega
  | succ k ih =>
    intro n i a r h hi h0 h9
    by_cases hs : n < 128
    · have e : (UInt8.ofNat n).toNat = n := by simp; omega
      rw [putL_small hs, List.singleton_append, takeL, e, if_neg, if_pos hs]
      rintro (⟨h1, h2⟩ | ⟨h1, h2⟩)
      · omega
      · have := h0 h1; omega
    · have e : (UInt8.ofNat (n % 128 + 128)).toNat = n % 128 + 128 := by simp; omega
      rw [putL_more hs, List.cons_append, takeL, e, if_neg (by rintro (⟨h1, h2⟩ | ⟨h1, h2⟩) <;> omega), if_neg (by omega), Nat.add_sub_cancel]
      rw [ih (n / 128) (i + 1) _ r (by rw [Nat.div_lt_iff_lt_mul (by omega)]; rwa [Nat.pow_succ] at h) (by omega) (fun _ => Nat.div_pos (by omega) (by omega)) (fun h' => by
        have := h9 (by omega)
        rw [Nat.div_lt_iff_lt_mul (by omega), Nat.mul_assoc, ← Nat.pow_succ]; exact this)]
      have h1 := Nat.div_add_mod n 128
      have h2 : n * 128 ^ i = (n % 128) * 128 ^ i + (n / 128) * 128 ^ (i + 1) := by
        rw [Nat.pow_succ, Nat.mul_comm (128 ^ i) 128, ← Nat.mul_assoc, ← Nat.add_mul]
        congr 1
        omega
      rw [h2, Nat.add_assoc]
theorem take_put (n : Nat) (r : List UInt8) (h : n < 18446744073709551616) : takeL 0 0 (putL n ++ r) = some (n, r) := by
  rw [takeL_put 9 n 0 0 r (by omega) (by omega) (fun h => absurd h (by omega)) (fun _ => by omega)]
  simp
theorem takeL_lt (l : List UInt8) : ∀ (i a n : Nat) (r : List UInt8), i ≤ 9 → a < 128 ^ i → takeL i a l = some (n, r) → n < 18446744073709551616 ∧ r.length < l.length := by
  induction l with
  | nil => intro i a n r _ _ h; simp [takeL] at h
  | cons c t ih =>
    intro i a n r hi ha h
    rw [takeL] at h
    have hp : (128 : Nat) ^ i ≤ 128 ^ 9 := Nat.pow_le_pow_right (by decide) hi
    split at h
    · cases h
    · rename_i hno
      split at h
      · rename_i hc
        cases h
        refine ⟨?_, by simp⟩
        by_cases h9 : i = 9
        · subst h9
          have : ¬ 1 < c.toNat := fun h1 => hno (.inl ⟨rfl, h1⟩)
          have h2 : c.toNat * 128 ^ 9 ≤ 1 * 128 ^ 9 := Nat.mul_le_mul_right _ (by omega)
          omega
        · have hp8 : (128 : Nat) ^ i ≤ 128 ^ 8 := Nat.pow_le_pow_right (by decide) (by omega)
          have h2 : c.toNat * 128 ^ i ≤ 127 * 128 ^ 8 := Nat.mul_le_mul (by omega) hp8
          omega
      · rename_i hc
        by_cases h9 : i = 9
        · subst h9
          exact absurd (.inl ⟨rfl, by omega⟩) hno
        · have hb := c.toNat_lt
          have h2 : (c.toNat - 128) * 128 ^ i ≤ 127 * 128 ^ i := Nat.mul_le_mul_right _ (by omega)
          have h3 := ih (i + 1) _ n r (by omega) (by rw [Nat.pow_succ]; omega) h
          exact ⟨h3.1, by rw [List.length_cons]; omega⟩
theorem take_lt {l r : List UInt8} {n : Nat} (h : takeL 0 0 l = some (n, r)) : n < 18446744073709551616 ∧ r.length < l.length := takeL_lt l 0 0 n r (by omega) (by decide) h
end Num
end Go.Proofs.YtndgnlblbjpogaaGreatDoor
namespace Go.Proofs.YtndgnlblbjpogaaGreatDoor
open Go Go.RowKit
namespace Num
theorem infoByte : (Tryz.prog.info? 5).map (fun i => (i.zero, i.size, i.bytes)) = some (some (.int .u8 0), 1, 1) := by kernel_rfl
theorem elemByte : ElemOk Tryz.prog 78 5 1 1 := .of Tryz.underlying78 infoByte rfl (by decide) (by decide)
def byteCells (l : List UInt8) : List Value := l.map fun b => .int .u8 (b.toNat : Int)
theorem conv_row {w : World} {base g cap n : Nat} {l : List UInt8} (h : w.ownsRow base 5 1 (.slice (some ⟨g, 0, none⟩) n cap) n (byteCells l)) :
    (convert 78 9 (.slice (some ⟨g, 0, none⟩) n cap)).run Tryz.prog w = .ok (.string ⟨l.toArray⟩) w := by
  have hl : n = l.length := by have := h.1; simp [byteCells] at this; omega
  subst hl
  refine run_convert_bytes_back w _ _ 5 ⟨g, 0, none⟩ cap l Tryz.underlying78 Tryz.underlying5 Tryz.underlying9 (fun j hj => ?_)
  refine h.cells (by rfl) j _ ?_
  simp [byteCells, hj]
theorem byteCells_snoc (pre : List UInt8) (m : Nat) (h : m < 256) : byteCells pre ++ [.int .u8 (m : Int)] = byteCells (pre ++ [UInt8.ofNat m]) := by
  have e : (UInt8.ofNat m).toNat = m := by simp; omega
  simp [byteCells, e]
set_option maxRecDepth 100000 in
theorem or128 (m : Nat) : bits BinOp.or IntKind.u8 ((m : Int) % 256) 128 = ((m % 128 + 128 : Nat) : Int) := by
  have h := u8_or_nat (m % 256) 128 (by omega) (by omega)
  have e : m % 256 ||| 128 = m % 128 + 128 := by
    have : ∀ a < 256, a ||| 128 = a % 128 + 128 := by decide
    rw [this _ (Nat.mod_lt _ (by omega)), Nat.mod_mod_of_dvd _ (by decide)]
  rw [e] at h
  simpa using h
set_option maxRecDepth 100000 in
theorem put_any (w : World) (n : Nat) (hn : n < 18446744073709551616) :
    Calls Tryz.prog 118 #[.int .u64 n] w fun e w' => e = .returned (.string ⟨(putL n).toArray⟩) ∧ Off None w w' := by
  go_enter Tryz.func118, Tryz.ntmps118
  go_wp2
  go_loopw [0, 3] (fun nv x wr => ∃ (m : Nat) (pre : List UInt8) (bv : Value), bv = x ∧ m < 18446744073709551616 ∧ pre.length + (putL m).length ≤ 10 ∧ nv = .int .u64 m ∧ putL n = pre ++ putL m ∧ wr.ownsRow w.heap.size 5 1 bv pre.length (byteCells pre) ∧ Off None w wr) (fun nv _ _ => (intOf nv).toNat)
  case atStart => exact ⟨n, [], _, rfl, hn, by have := putL_len hn; simpa using this, rfl, rfl, World.ownsRow_nil _ _ _ _, Off.refl _ _⟩
  case round =>
    obtain ⟨m, pre, bv, rfl, hm, hlen, rfl, hput, hrow, ho⟩ := hrel
    have HROW := Lib.hid hrow; clear hrow
    have HO := Lib.hid ho; clear ho
    have HP := Lib.hid hput; clear hput
    by_cases hs : m < 128
    · go_wp2_with (at_builtin; refine wpList_push rfl _ _ rfl elemByte w.heap.size bv pre.length (byteCells pre) rfl HROW.out #[.int .u8 m] rfl rfl (by intro u hu; simp at hu; subst hu; rfl) (by omega) HO.out.size ?_; intro g cap w' hrow hp)
      have hrow2 : w'.ownsRow w.heap.size 5 1 (.slice (some ⟨g, 0, none⟩) (pre.length + 1) cap) (pre.length + 1) (byteCells (pre ++ [UInt8.ofNat m])) := by
        rw [← byteCells_snoc pre m (by omega)]; exact hrow
      have hcv := conv_row hrow2
      have HOFF := Lib.hid (HO.out.trans hp.off (fun b hb h => absurd (World.ownsRow.lt HROW.out b h).1 (by omega)))
      clear hrow hrow2 hp
      rw [hcv]
      go_wp2
      go_ret
      rw [HP.out, putL_small hs]
      exact ⟨rfl, HOFF.out⟩
    · go_wp2_with (at_builtin; refine wpList_push rfl _ _ rfl elemByte w.heap.size bv pre.length (byteCells pre) rfl HROW.out #[.int .u8 (bits BinOp.or IntKind.u8 (m % 256) 128)] rfl rfl (by intro u hu; simp at hu; subst hu; rfl) (by omega) HO.out.size ?_; intro g cap w' hrow hp)
      go_round
      case rel =>
        have hrow2 : w'.ownsRow w.heap.size 5 1 (.slice (some ⟨g, 0, none⟩) (pre.length + 1) cap) (pre.length + 1) (byteCells (pre ++ [UInt8.ofNat (m % 128 + 128)])) := by
          rw [← byteCells_snoc pre _ (by omega), ← or128]; exact hrow
        refine ⟨m / 128, pre ++ [UInt8.ofNat (m % 128 + 128)], _, rfl, by omega, ?_, by go_num, ?_, by simpa using hrow2, HO.out.trans hp.off (fun b hb h => absurd (World.ownsRow.lt HROW.out b h).1 (by omega))⟩
        · rw [putL_more hs] at hlen; simp at hlen ⊢; omega
        · rw [HP.out, putL_more hs]; simp
      case measure => simp [intOf]; omega
end Num
end Go.Proofs.YtndgnlblbjpogaaGreatDoor
namespace Go.Proofs.YtndgnlblbjpogaaGreatDoor
open Go Go.RowKit
namespace Num
/-- Bytes behind the first k. -/
theorem extract_drop (s : ByteArray) (k : Nat) : s.extract k s.size = ⟨(s.data.toList.drop k).toArray⟩ := by
  apply ByteArray.ext
  rw [ByteArray.data_extract]
  apply Array.ext'
  rw [Array.toList_extract, List.extract_eq_take_drop]
  refine List.take_of_length_le ?_
  rw [List.length_drop]
  exact Nat.le_refl _
/-- What Take returns. -/
def takeR (s : ByteArray) : Value :=
  match takeL 0 0 s.data.toList with
  | some (n, r) => .tuple #[.int .u64 n, .string ⟨r.toArray⟩, .int .i64 0]
  | none => .tuple #[.int .u64 0, .string ByteArray.empty, .int .i64 2]
theorem takeR_none {s : ByteArray} (h : takeL 0 0 s.data.toList = none) : takeR s = .tuple #[.int .u64 0, .string ⟨#[]⟩, .int .i64 2] := by
  unfold takeR; rw [h]; rfl
theorem takeR_some {s : ByteArray} {n : Nat} {r : List UInt8} (h : takeL 0 0 s.data.toList = some (n, r)) : takeR s = .tuple #[.int .u64 n, .string ⟨r.toArray⟩, .int .i64 0] := by
  unfold takeR; rw [h]
theorem ret_take {s : ByteArray} {n : Nat} {r : List UInt8} {X : Int} {Y : ByteArray} (h : takeL 0 0 s.data.toList = some (n, r)) (hx : X = (n : Int)) (hy : Y = ⟨r.toArray⟩) :
    Ending.returned (.tuple #[.int .u64 X, .string Y, .int .i64 0]) = .returned (takeR s) := by rw [takeR_some h, hx, hy]
theorem pow128 (j : Nat) : (2 : Nat) ^ (7 * j) = 128 ^ j := by rw [Nat.pow_mul]
theorem or_shift (j a c : Nat) (hj : j ≤ 8) (ha : a < 128 ^ j) (hc : c < 128) : bits BinOp.or IntKind.u64 (a : Int) (IntKind.u64.wrap ((c : Int) * 2 ^ (7 * j))) = ((a + c * 128 ^ j : Nat) : Int) := by
  have hp : (128 : Nat) ^ j ≤ 72057594037927936 := Nat.pow_le_pow_right (n := 128) (by decide) hj
  have hx : c * 128 ^ j < 18446744073709551616 := by
    have := Nat.mul_lt_mul_of_lt_of_le hc hp (show 0 < 72057594037927936 by decide)
    omega
  have e : (c : Int) * 2 ^ (7 * j) = ((c * 128 ^ j : Nat) : Int) := by rw [← pow128]; push_cast; rfl
  rw [e, IntKind.wrap_u64, Int.emod_eq_of_lt (by omega) (by omega)]
  have h := bits_join_low .u64 64 (by decide) wraps_u64 (7 * j) (a : Int) ((c * 128 ^ j : Nat) : Int) (by omega) (by
    rw [show ((2 : Int) ^ (7 * j)) = ((2 ^ (7 * j) : Nat) : Int) from by push_cast; rfl, pow128]; omega) (by omega) (by omega) (by
    rw [show ((2 : Int) ^ (7 * j)) = ((2 ^ (7 * j) : Nat) : Int) from by push_cast; rfl, pow128, ← Int.natCast_emod, Nat.mul_mod_left]; rfl) (by omega)
  rw [h]
  push_cast
  rfl
theorem and127 (c : Nat) (h : c < 256) (hs : ¬ c < 128) : bits BinOp.and IntKind.u64 (c : Int) 127 = ((c - 128 : Nat) : Int) := by
  have e := u64_and_nat c 127 (by omega) (by omega)
  have e2 : c &&& 127 = c % 128 := Nat.and_two_pow_sub_one_eq_mod c 7
  rw [e2, show c % 128 = c - 128 from by omega] at e
  exact e
theorem take_step (l : List UInt8) (j a : Nat) (h : j < l.length) : takeL j a (l.drop j) = (if (j = 9 ∧ 1 < l[j].toNat) ∨ (0 < j ∧ l[j].toNat = 0) then none
    else if l[j].toNat < 128 then some (a + l[j].toNat * 128 ^ j, l.drop (j + 1)) else takeL (j + 1) (a + (l[j].toNat - 128) * 128 ^ j) (l.drop (j + 1))) := by
  rw [List.drop_eq_getElem_cons h, takeL]
set_option maxRecDepth 100000 in
theorem take_any (w : World) (s : ByteArray) (hs : s.size ≤ maxLen) :
    Calls Tryz.prog 169 #[.string s] w fun e w' => e = .returned (takeR s) ∧ Off None w w' := by
  unfold maxLen at hs
  go_enter Tryz.func169, Tryz.ntmps169
  go_wp2
  go_step3
  go_wp2
  go_step3
  go_wp2
  go_loop [5, 6, 11] (fun n k i => ∃ (j a : Nat), j ≤ s.size ∧ j ≤ 9 ∧ a < 128 ^ j ∧ n = .int .u64 a ∧ k = .int .i64 (-1) ∧ i = .int .i64 j ∧ Aside (takeL 0 0 s.data.toList = takeL j a (s.data.toList.drop j))) (fun _ _ i => s.size - (intOf i).toNat)
  case atStart => exact ⟨0, 0, Nat.zero_le _, Nat.zero_le _, by decide, rfl, rfl, rfl, by simp [Aside]⟩
  case round =>
    obtain ⟨j, a, hj, h9, ha, rfl, rfl, rfl, A⟩ := hrel
    by_cases hlt : j < s.size
    · have hb := s[j].toNat_lt
      have hst := take_step s.data.toList j a (by simpa using hlt)
      have hg : s.data.toList[j]'(by simpa using hlt) = s[j] := rfl
      rw [hg, ← A.out] at hst
      have HST := Lib.hid hst
      clear hst A hg
      have h0 : (0 : Int) ≤ j + 1 := by omega
      by_cases hj9 : j = 9
      · subst hj9
        by_cases h1 : s[9].toNat ≤ 1
        · by_cases hz : s[9].toNat = 0
          · have e1 : ((s[9].toNat : Int) == 0) = true := by rw [hz]; rfl
            go_wp2
            go_ret3
            exact ⟨by rw [takeR_none (by rw [HST.out, if_pos (.inr ⟨by omega, hz⟩)])]; rfl, Off.refl _ _⟩
          · have hone : s[9].toNat = 1 := by omega
            have hor : bits BinOp.or IntKind.u64 (a : Int) 9223372036854775808 = ((a + 9223372036854775808 : Nat) : Int) := by
              have h := u64_orv63 (a : Int) 9223372036854775808 (by omega) (by omega) (by omega) (by omega) (by omega)
              rw [h]; omega
            have HOR := Lib.hid hor; clear hor
            go_wp2
            have hk1 : (10 : Int) ≤ (s.size : Int) := by omega
            go_region_held3 (fun _ => True) (trivial) (fail)
            go_wp2
            rw [Exit.noGoto_ret]
            go_ret3
            exact ⟨ret_take (by rw [HST.out, if_neg (by rintro (⟨_, h⟩ | ⟨_, h⟩) <;> omega), if_pos (by omega)]) (by rw [HOR.out, hone]) (extract_drop s 10), (Off.refl None w).drew⟩
        · have e1 : (1 : Int) < s[9].toNat := by omega
          go_wp2
          go_ret3
          exact ⟨by rw [takeR_none (by rw [HST.out, if_pos (.inl ⟨trivial, by omega⟩)])]; rfl, Off.refl _ _⟩
      · have k9 : ¬ ((j : Int) = 9) := by omega
        by_cases hz : 0 < j ∧ s[j].toNat = 0
        · have e1 : ((s[j].toNat : Int) == 0) = true := by rw [hz.2]; rfl
          have e2 := hz.1
          go_wp2
          go_ret3
          exact ⟨by rw [takeR_none (by rw [HST.out, if_pos (.inr hz)])]; rfl, Off.refl _ _⟩
        · have e2 : ¬ (0 < j) ∨ ((s[j].toNat : Int) == 0) = false := by
            by_cases h : 0 < j
            · exact .inr (by rw [beq_eq_false_iff_ne]; have : s[j].toNat ≠ 0 := fun h' => hz ⟨h, h'⟩; omega)
            · exact .inl h
          have hno : ¬ ((j = 9 ∧ 1 < s[j].toNat) ∨ (0 < j ∧ s[j].toNat = 0)) := by rintro (⟨h, _⟩ | h); exact hj9 h; exact hz h
          by_cases hs : s[j].toNat < 128
          · have hor := or_shift j a s[j].toNat (by omega) ha hs
            have HOR := Lib.hid hor; clear hor
            rcases e2 with e2 | e2
            · go_wp2
              have hk1 : (j : Int) + 1 ≤ (s.size : Int) := by omega
              go_region_held3 (fun _ => True) (trivial) (fail)
              go_wp2
              rw [Exit.noGoto_ret]
              go_ret3
              exact ⟨ret_take (by rw [HST.out, if_neg hno, if_pos hs]) HOR.out (extract_drop s (j + 1)), (Off.refl None w).drew⟩
            · by_cases e3 : 0 < j
              · go_wp2
                have hk1 : (j : Int) + 1 ≤ (s.size : Int) := by omega
                go_region_held3 (fun _ => True) (trivial) (fail)
                go_wp2
                rw [Exit.noGoto_ret]
                go_ret3
                exact ⟨ret_take (by rw [HST.out, if_neg hno, if_pos hs]) HOR.out (extract_drop s (j + 1)), (Off.refl None w).drew⟩
              · go_wp2
                have hk1 : (j : Int) + 1 ≤ (s.size : Int) := by omega
                go_region_held3 (fun _ => True) (trivial) (fail)
                go_wp2
                rw [Exit.noGoto_ret]
                go_ret3
                exact ⟨ret_take (by rw [HST.out, if_neg hno, if_pos hs]) HOR.out (extract_drop s (j + 1)), (Off.refl None w).drew⟩
          · have hs' : ¬ ((s[j].toNat : Int) < 128) := by omega
            have hcm : s[j].toNat % 128 = s[j].toNat - 128 := by omega
            have hor := or_shift j a (s[j].toNat - 128) (by omega) ha (by omega)
            have HOR := Lib.hid hor; clear hor
            have hpl : a + (s[j].toNat - 128) * 128 ^ j < 128 ^ (j + 1) := by
              have h1 : (s[j].toNat - 128) * 128 ^ j ≤ 127 * 128 ^ j := Nat.mul_le_mul_right _ (by omega)
              rw [Nat.pow_succ]; omega
            have HLT := Lib.hid hpl; clear hpl
            rcases e2 with e2 | e2
            · go_wp2
              go_round
              case rel =>
                refine ⟨j + 1, a + (s[j].toNat - 128) * 128 ^ j, by omega, by omega, HLT.out, ?_, rfl, by go_num, ?_⟩
                · rw [and127 _ (by omega) hs, HOR.out]
                · show _ = _
                  rw [HST.out, if_neg hno, if_neg hs]
              case measure => simp [intOf]; omega
            · by_cases e3 : 0 < j
              · go_wp2
                go_round
                case rel =>
                  refine ⟨j + 1, a + (s[j].toNat - 128) * 128 ^ j, by omega, by omega, HLT.out, ?_, rfl, by go_num, ?_⟩
                  · rw [and127 _ (by omega) hs, HOR.out]
                  · show _ = _
                    rw [HST.out, if_neg hno, if_neg hs]
                case measure => simp [intOf]; omega
              · go_wp2
                go_round
                case rel =>
                  refine ⟨j + 1, a + (s[j].toNat - 128) * 128 ^ j, by omega, by omega, HLT.out, ?_, rfl, by go_num, ?_⟩
                  · rw [and127 _ (by omega) hs, HOR.out]
                  · show _ = _
                    rw [HST.out, if_neg hno, if_neg hs]
                case measure => simp [intOf]; omega
    · go_wp2
      go_ret3
      have := A.out
      rw [List.drop_of_length_le (by simp; omega), takeL] at this
      exact ⟨by rw [takeR_none this]; rfl, Off.refl _ _⟩
end Num
end Go.Proofs.YtndgnlblbjpogaaGreatDoor
namespace Go.Proofs.YtndgnlblbjpogaaGreatDoor
open Go Go.RowKit
theorem addr_add (b o j : Nat) : (⟨b, o, none⟩ : Addr).add j = ⟨b, o + j, none⟩ := by unfold Addr.add; split <;> simp_all
theorem Crc.TabOk.off {G : Nat → Prop} {w w' : World} (h : Crc.TabOk w) (ho : Off G w w') (hn : ¬ G 2) : Crc.TabOk w' := fun i hi => by
  rw [ho.cell (a := ⟨2, i, none⟩) (Heap.block_lt (h i hi)) hn]
  exact h i hi
namespace Frame
/-- A sum as four bytes. -/
def fourL (n : Nat) : List UInt8 := [UInt8.ofNat n, UInt8.ofNat (n / 256), UInt8.ofNat (n / 65536), UInt8.ofNat (n / 16777216)]
def sumL (seq : Nat) (body : List UInt8) : List UInt8 := fourL (Crc.addN 0 (Num.putL seq ++ body))
def dig (n k : Nat) : Value := .int .u8 ((n / 256 ^ k % 256 : Nat) : Int)
def zb : Value := .int .u8 0
def cellsAt (n : Nat) : Nat → Array Value
  | 0 => #[zb, zb, zb, zb]
  | 1 => #[dig n 0, zb, zb, zb]
  | 2 => #[dig n 0, dig n 1, zb, zb]
  | 3 => #[dig n 0, dig n 1, dig n 2, zb]
  | _ => #[dig n 0, dig n 1, dig n 2, dig n 3]
theorem cellsAt_end (n : Nat) : (cellsAt n 4).toList = Num.byteCells (fourL n) := by
  have e : ∀ m : Nat, (UInt8.ofNat m).toNat = m % 256 := fun m => by simp
  simp only [cellsAt, dig, fourL, Num.byteCells, List.map_cons, List.map_nil, e]
  simp
theorem cellsAt_step (n j : Nat) (h : j < 4) : (cellsAt n j).setIfInBounds j (dig n j) = cellsAt n (j + 1) := by
  rcases (show j = 0 ∨ j = 1 ∨ j = 2 ∨ j = 3 by omega) with rfl | rfl | rfl | rfl <;> rfl
theorem cellsAt_zero (n j : Nat) (h : j < 4) : (cellsAt n j)[j]? = some zb := by
  rcases (show j = 0 ∨ j = 1 ∨ j = 2 ∨ j = 3 by omega) with rfl | rfl | rfl | rfl <;> rfl
set_option maxRecDepth 100000 in
theorem sum_any (w : World) (seq : Nat) (body : ByteArray) (hq : seq < 18446744073709551616) (hb : body.size ≤ 1099511627776) (hT : Crc.TabOk w) :
    Calls Tryz.prog 119 #[.int .u64 seq, .string body] w fun e w' => e = .returned (.string ⟨(sumL seq body.data.toList).toArray⟩) ∧ Off None w w' := by
  have HT := Lib.hid hT; clear hT
  have hp10 := Num.putL_len hq
  have hsz : (⟨(Num.putL seq).toArray⟩ : ByteArray).size = (Num.putL seq).length := rfl
  go_enter Tryz.func119, Tryz.ntmps119
  go_wp2_with fail
  refine (Num.put_any w seq hq).mono ?_
  rintro e w1 ⟨rfl, ho1⟩
  go_wp2_with fail
  have hadd : (⟨(Num.putL seq).toArray⟩ ++ body : ByteArray).data.toList = Num.putL seq ++ body.data.toList := by simp
  have hsz2 : (⟨(Num.putL seq).toArray⟩ ++ body : ByteArray).size ≤ maxLen := by rw [ByteArray.size_append, hsz]; unfold maxLen; omega
  refine (Crc.sum_any _ w1 hsz2 (HT.out.off ho1 (fun h => h))).mono ?_
  rintro e w2 ⟨rfl, rfl⟩
  rw [hadd]
  have hlt : Crc.addN 0 (Num.putL seq ++ body.data.toList) < 4294967296 := Crc.addN_lt (by omega) _
  generalize hn : Crc.addN 0 (Num.putL seq ++ body.data.toList) = n at *
  have HN := Lib.hid hn; clear hn
  go_wp2_with fail
  obtain ⟨H, hH⟩ : ∃ H, H = w1.heap.size := ⟨_, rfl⟩
  have hge : w.heap.size ≤ H := by rw [hH]; exact ho1.size
  go_loopw [13] (fun i wr => ∃ j : Nat, j ≤ 4 ∧ i = .int .i64 j ∧ wr.heap[H]? = some (.cells (cellsAt n j) 211 (0, 0)) ∧ Off None w wr) (fun i _ => 4 - (intOf i).toNat)
  case atStart => exact ⟨0, by omega, rfl, by rw [hH]; exact Heap.alloc_new _ _, ho1.alloc _⟩
  case round =>
    obtain ⟨j, hj, rfl, hblk, ho⟩ := hrel
    rw [← hH] at *
    by_cases h4 : j < 4
    · have c0 : wr.cell? ⟨H, j, none⟩ = some (.int .u8 0) := by rw [Heap.cell hblk, cellsAt_zero n j h4]; rfl
      have f0 : wr.frozen? ⟨H, j, none⟩ = false := Heap.frozen hblk j
      go_wp2
      go_round
      case rel =>
        have ev : (Value.int IntKind.u8 ((n : Int) / 2 ^ (8 * j) % 256)) = dig n j := by
          unfold dig
          have e1 : (2 : Int) ^ (8 * j) = ((256 ^ j : Nat) : Int) := by rw [Int.pow_mul]; push_cast; rfl
          rw [e1]
          push_cast
          rfl
        rw [ev]
        refine ⟨j + 1, by omega, by go_num, ?_, ho.setCell (p := ⟨H, j, none⟩) (.inr hge) _⟩
        rw [Heap.set hblk j, cellsAt_step n j h4]
      case measure => simp [intOf]; omega
    · have e4 : j = 4 := by omega
      subst e4
      go_wp2
      have hcv : (convert 78 9 (.slice (some ⟨H, 0, none⟩) 4 4)).run Tryz.prog wr = .ok (.string ⟨(fourL n).toArray⟩) wr := by
        refine run_convert_bytes_back wr _ _ 5 ⟨H, 0, none⟩ 4 (fourL n) Tryz.underlying78 Tryz.underlying5 Tryz.underlying9 (fun j hj => ?_)
        rw [addr_add, Nat.zero_add, Heap.cell hblk, ← Array.getElem?_toList, cellsAt_end]
        simp [Num.byteCells, hj]
      rw [hcv]
      go_wp2
      go_ret
      refine ⟨?_, ho⟩
      unfold sumL
      rw [HN.out]
      rfl
end Frame
end Go.Proofs.YtndgnlblbjpogaaGreatDoor
namespace Go.Proofs.YtndgnlblbjpogaaGreatDoor
open Go Go.RowKit
theorem str_of {s : ByteArray} {l : List UInt8} (h : s.data.toList = l) : s = ⟨l.toArray⟩ := by
  apply ByteArray.ext; apply Array.ext'; exact h
namespace Frame
abbrev MaxBody : Nat := 2000
def putF (seq : Nat) (body : List UInt8) : List UInt8 := Num.putL body.length ++ Num.putL seq ++ sumL seq body ++ body
structure FrameV where
  seq : Nat
  body : List UInt8
  size : Nat
/-- The frame that bytes begin with. -/
def firstL (l : List UInt8) : Option FrameV :=
  match Num.takeL 0 0 l with
  | none => none
  | some (n, r) =>
    if MaxBody < n then none
    else match Num.takeL 0 0 r with
      | none => none
      | some (q, r2) =>
        if r2.length < 4 + n then none
        else if r2.take 4 = sumL q ((r2.drop 4).take n) then some ⟨q, (r2.drop 4).take n, l.length - r2.length + 4 + n⟩
        else none
theorem sumL_length (q : Nat) (b : List UInt8) : (sumL q b).length = 4 := rfl
theorem first_put (q : Nat) (b r : List UInt8) (hb : b.length ≤ MaxBody) (hq : q < 18446744073709551616) : firstL (putF q b ++ r) = some ⟨q, b, (putF q b).length⟩ := by
  have e1 : putF q b ++ r = Num.putL b.length ++ (Num.putL q ++ (sumL q b ++ (b ++ r))) := by simp [putF, List.append_assoc]
  have hb64 : b.length < 18446744073709551616 := by unfold MaxBody at hb; omega
  unfold firstL
  rw [e1, Num.take_put _ _ hb64]
  dsimp only
  rw [if_neg (by omega), Num.take_put _ _ hq]
  dsimp only
  have e2 : (sumL q b ++ (b ++ r)).take 4 = sumL q b := by rw [← sumL_length q b, List.take_left]
  have e3 : (sumL q b ++ (b ++ r)).drop 4 = b ++ r := by rw [← sumL_length q b, List.drop_left]
  rw [if_neg (by simp [sumL_length]), e2, e3, List.take_left, if_pos rfl]
  congr 2
  simp only [List.length_append, sumL_length, putF]
  omega
set_option maxRecDepth 100000 in
theorem put_any (w : World) (seq : Nat) (body : ByteArray) (hq : seq < 18446744073709551616) (hb : body.size ≤ 140737488355328) (hT : Crc.TabOk w) :
    Calls Tryz.prog 87 #[.int .u64 seq, .string body] w fun e w' =>
      e = .returned (if MaxBody < body.size then .tuple #[.string ⟨#[]⟩, .int .i64 7] else .tuple #[.string ⟨(putF seq body.data.toList).toArray⟩, .int .i64 0]) ∧ Off None w w' := by
  have HT := Lib.hid hT; clear hT
  unfold MaxBody
  by_cases hm : 2000 < body.size
  · rw [if_pos hm]
    go_enter Tryz.func87, Tryz.ntmps87
    go_wp2
    go_ret2
    exact ⟨rfl, Off.refl _ _⟩
  · rw [if_neg hm]
    have hp10 := Num.putL_len hq
    have hpb : (Num.putL body.size).length ≤ 10 := Num.putL_len (by omega)
    have hsl : (⟨(sumL seq body.data.toList).toArray⟩ : ByteArray).size = 4 := rfl
    have h4 : (sumL seq body.data.toList).length = 4 := rfl
    go_enter Tryz.func87, Tryz.ntmps87
    go_wp2_with fail
    refine (Num.put_any _ body.size (by omega)).mono ?_
    rintro e w1 ⟨rfl, ho1⟩
    go_wp2_with fail
    refine (Num.put_any _ seq hq).mono ?_
    rintro e w2 ⟨rfl, ho2⟩
    go_wp2_with fail
    refine (sum_any _ seq body hq (by omega) (HT.out.off (ho1.trans ho2 (fun _ _ h => h)) (fun h => h))).mono ?_
    rintro e w3 ⟨rfl, ho3⟩
    have HO := Lib.hid ((ho1.trans ho2 (fun _ _ h => h)).trans ho3 (fun _ _ h => h))
    clear ho1 ho2 ho3
    go_wp2
    go_ret2
    refine ⟨?_, HO.out⟩
    have e : (⟨(Num.putL body.size).toArray⟩ ++ ⟨(Num.putL seq).toArray⟩ ++ ⟨(sumL seq body.data.toList).toArray⟩ ++ body : ByteArray) = ⟨(putF seq body.data.toList).toArray⟩ := by
      refine str_of ?_
      have ha : ∀ a b : ByteArray, (a ++ b).data.toList = a.data.toList ++ b.data.toList := fun a b => by simp
      rw [ha, ha, ha]
      show Num.putL body.size ++ Num.putL seq ++ sumL seq body.data.toList ++ body.data.toList = putF seq body.data.toList
      unfold putF
      rw [show body.data.toList.length = body.size from Array.length_toList]
    show Ending.returned (.tuple #[.string (⟨(Num.putL body.size).toArray⟩ ++ ⟨(Num.putL seq).toArray⟩ ++ ⟨(sumL seq body.data.toList).toArray⟩ ++ body : ByteArray), .int .i64 0]) = _
    rw [e]
theorem putF_len (seq : Nat) (body : List UInt8) (hq : seq < 18446744073709551616) (hb : body.length ≤ MaxBody) : (putF seq body).length ≤ body.length + 24 := by
  have h1 := Num.putL_len hq
  have h2 := Num.putL_len (n := body.length) (by unfold MaxBody at hb; omega)
  simp only [putF, List.length_append, sumL_length]
  omega
set_option maxRecDepth 100000 in
theorem size_any (w : World) (seq : Nat) (body : ByteArray) (hq : seq < 18446744073709551616) (hb : body.size ≤ MaxBody) (hT : Crc.TabOk w) :
    Calls Tryz.prog 55 #[.int .u64 seq, .string body] w fun e w' => e = .returned (.int .i64 ((putF seq body.data.toList).length : Nat)) ∧ Off None w w' := by
  have hp := put_any w seq body hq (Nat.le_trans hb (by decide)) hT
  rw [if_neg (by omega)] at hp
  have HP := Lib.hid hp; clear hp hT
  have hl := putF_len seq body.data.toList hq (by simpa using hb)
  have hsz : (⟨(putF seq body.data.toList).toArray⟩ : ByteArray).size = (putF seq body.data.toList).length := rfl
  go_enter Tryz.func55, Tryz.ntmps55
  go_wp2_with fail
  refine HP.out.mono ?_
  rintro e w1 ⟨rfl, ho1⟩
  have HO := Lib.hid ho1; clear ho1
  go_wp2
  go_ret
  exact ⟨rfl, HO.out⟩
theorem results_row_tmp {P : Program} {fn : Func} {p u : Tmp} {ty : TypeId} (h : fn.results = #[.cell p ty, .tmp u]) (tmps : Array Value) (w : World) (g : Nat) (t : TypeId) (cs : Array Value) (fr : Nat × Nat) (d : TypeDesc)
    (hp : tmps.getD p undef = .pointer (some ⟨g, 0, none⟩)) (hg : w.heap[g]? = some (.cells cs t fr))
    (hu : P.underlying ty = some d) (hd : (match d with | .struct _ | .array _ _ => true | _ => false) = true) (hi : (P.info? ty).map (·.size) = some cs.size) :
    (results fn tmps).run P w = .ok (.tuple #[.agg cs, tmps.getD u undef]) w := by
  rw [results_cell_tmp h, hp]
  simp [asAddr, Result.andThen, run_loadVar_row w g t ty cs fr d hg hu hd hi]
theorem infoFrame : (Tryz.prog.info? 138).map (·.size) = some 3 := by kernel_rfl
theorem box3 {w : World} {b : Nat} {a0 a1 a2 : Value} {t : TypeId} {fr : Nat × Nat} (h : w.heap[b]? = some (.cells #[a0, a1, a2] t fr)) (v0 v1 v2 : Value) :
    (((w.setCell ⟨b, 0, none⟩ v0).setCell ⟨b, 1, none⟩ v1).setCell ⟨b, 2, none⟩ v2).heap[b]? = some (.cells #[v0, v1, v2] t fr) :=
  (Heap.set (Heap.set (Heap.set h 0 v0) 1 v1) 2 v2).trans rfl
/-- What First returns. -/
def firstR (s : ByteArray) : Value :=
  match firstL s.data.toList with
  | some f => .tuple #[.agg #[.int .u64 f.seq, .string ⟨f.body.toArray⟩, .int .i64 f.size], .int .i64 0]
  | none => .tuple #[.agg #[.int .u64 0, .string ⟨#[]⟩, .int .i64 0], .int .i64 2]
set_option maxHeartbeats 2000000 in
set_option maxRecDepth 100000 in
theorem first_any (w : World) (s : ByteArray) (hs : s.size ≤ 1099511627776) (hT : Crc.TabOk w) :
    Calls Tryz.prog 166 #[.string s] w fun e w' => e = .returned (firstR s) ∧ Off None w w' := by
  have HT := Lib.hid hT; clear hT
  have ht := fun w => Num.take_any w s (Nat.le_trans hs (by decide))
  obtain ⟨wb, hwb⟩ : ∃ wb, wb = w.alloc (.cells #[.int .u64 0, .string ⟨#[]⟩, .int .i64 0] 138) := ⟨_, rfl⟩
  have hbox : wb.heap[w.heap.size]? = some (.cells #[.int .u64 0, .string ⟨#[]⟩, .int .i64 0] 138 (0, 0)) := by rw [hwb]; exact Heap.alloc_new _ _
  have hob : Off None w wb := by rw [hwb]; exact (Off.refl _ _).alloc _
  cases h1 : Num.takeL 0 0 s.data.toList with
  | none =>
    have ht := fun w => Num.takeR_none h1 ▸ ht w
    have HTA := Lib.hid ht; clear ht
    have H1 := Lib.hid h1; clear h1
    go_enter Tryz.func166, Tryz.ntmps166
    go_wp2_with fail
    rw [← hwb]
    refine (HTA.out wb).mono ?_
    rintro e w1 ⟨rfl, ho1⟩
    have hb1 := ho1.at_ hbox (fun h => h)
    have c0 : w1.cell? ⟨w.heap.size, 0, none⟩ = some (.int .u64 0) := Heap.cell hb1 0
    have c1 : w1.cell? ⟨w.heap.size, 1, none⟩ = some (.string ⟨#[]⟩) := Heap.cell hb1 1
    have c2 : w1.cell? ⟨w.heap.size, 2, none⟩ = some (.int .i64 0) := Heap.cell hb1 2
    have f0 : w1.frozen? ⟨w.heap.size, 0, none⟩ = false := Heap.frozen hb1 0
    have f1 : w1.frozen? ⟨w.heap.size, 1, none⟩ = false := Heap.frozen hb1 1
    have f2 : w1.frozen? ⟨w.heap.size, 2, none⟩ = false := Heap.frozen hb1 2
    have HO := Lib.hid (hob.trans ho1 (fun _ _ h => h))
    go_wp2
    refine bodyPost_ret_by (results_row_tmp rfl _ _ w.heap.size _ _ _ _ rfl (box3 hb1 _ _ _) Tryz.underlying138 rfl infoFrame) rfl ⟨?_, ?_⟩
    · unfold firstR firstL; rw [H1.out]; rfl
    · exact ((HO.out.setCell (p := ⟨w.heap.size, 0, none⟩) (.inr (Nat.le_refl _)) _).setCell (p := ⟨w.heap.size, 1, none⟩) (.inr (Nat.le_refl _)) _).setCell (p := ⟨w.heap.size, 2, none⟩) (.inr (Nat.le_refl _)) _
  | some p =>
    obtain ⟨n, r⟩ := p
    have hl1 := Num.take_lt h1
    have hsl : s.data.toList.length = s.size := Array.length_toList
    have ht2 := fun w => Num.takeR_some h1 ▸ ht w
    have HTA := Lib.hid ht2; clear ht ht2
    have H1 := Lib.hid h1; clear h1
    have hrs : (⟨r.toArray⟩ : ByteArray).size = r.length := rfl
    by_cases hn : 2000 < n
    · have hn' : (2000 : Int) < n := by omega
      go_enter Tryz.func166, Tryz.ntmps166
      go_wp2_with fail
      rw [← hwb]
      refine (HTA.out wb).mono ?_
      rintro e w1 ⟨rfl, ho1⟩
      have hb1 := ho1.at_ hbox (fun h => h)
      have c0 : w1.cell? ⟨w.heap.size, 0, none⟩ = some (.int .u64 0) := Heap.cell hb1 0
      have c1 : w1.cell? ⟨w.heap.size, 1, none⟩ = some (.string ⟨#[]⟩) := Heap.cell hb1 1
      have c2 : w1.cell? ⟨w.heap.size, 2, none⟩ = some (.int .i64 0) := Heap.cell hb1 2
      have f0 : w1.frozen? ⟨w.heap.size, 0, none⟩ = false := Heap.frozen hb1 0
      have f1 : w1.frozen? ⟨w.heap.size, 1, none⟩ = false := Heap.frozen hb1 1
      have f2 : w1.frozen? ⟨w.heap.size, 2, none⟩ = false := Heap.frozen hb1 2
      have HO := Lib.hid (hob.trans ho1 (fun _ _ h => h))
      go_wp2
      refine bodyPost_ret_by (results_row_tmp rfl _ _ w.heap.size _ _ _ _ rfl (box3 hb1 _ _ _) Tryz.underlying138 rfl infoFrame) rfl ⟨?_, ?_⟩
      · unfold firstR firstL; rw [H1.out]; dsimp only; rw [if_pos hn]; rfl
      · exact ((HO.out.setCell (p := ⟨w.heap.size, 0, none⟩) (.inr (Nat.le_refl _)) _).setCell (p := ⟨w.heap.size, 1, none⟩) (.inr (Nat.le_refl _)) _).setCell (p := ⟨w.heap.size, 2, none⟩) (.inr (Nat.le_refl _)) _
    · have hn' : ¬ ((2000 : Int) < n) := by omega
      have ht := fun w => Num.take_any w ⟨r.toArray⟩ (by rw [hrs]; unfold maxLen; omega)
      cases h2 : Num.takeL 0 0 r with
      | none =>
        have ht := fun w => Num.takeR_none (s := ⟨r.toArray⟩) h2 ▸ ht w
        have HTB := Lib.hid ht; clear ht
        have H2 := Lib.hid h2; clear h2
        go_enter Tryz.func166, Tryz.ntmps166
        go_wp2_with fail
        rw [← hwb]
        refine (HTA.out wb).mono ?_
        rintro e w0 ⟨rfl, ho0⟩
        go_wp2_with fail
        refine (HTB.out w0).mono ?_
        rintro e w1 ⟨rfl, ho1⟩
        have ho01 := ho0.trans ho1 (fun _ _ h => h)
        have hb1 := ho01.at_ hbox (fun h => h)
        have HO := Lib.hid (hob.trans ho01 (fun _ _ h => h))
        clear ho0 ho1 ho01
        have c0 : w1.cell? ⟨w.heap.size, 0, none⟩ = some (.int .u64 0) := Heap.cell hb1 0
        have c1 : w1.cell? ⟨w.heap.size, 1, none⟩ = some (.string ⟨#[]⟩) := Heap.cell hb1 1
        have c2 : w1.cell? ⟨w.heap.size, 2, none⟩ = some (.int .i64 0) := Heap.cell hb1 2
        have f0 : w1.frozen? ⟨w.heap.size, 0, none⟩ = false := Heap.frozen hb1 0
        have f1 : w1.frozen? ⟨w.heap.size, 1, none⟩ = false := Heap.frozen hb1 1
        have f2 : w1.frozen? ⟨w.heap.size, 2, none⟩ = false := Heap.frozen hb1 2
        go_wp2
        refine bodyPost_ret_by (results_row_tmp rfl _ _ w.heap.size _ _ _ _ rfl (box3 hb1 _ _ _) Tryz.underlying138 rfl infoFrame) rfl ⟨?_, ?_⟩
        · unfold firstR firstL; rw [H1.out]; dsimp only; rw [if_neg hn, H2.out]; rfl
        · exact ((HO.out.setCell (p := ⟨w.heap.size, 0, none⟩) (.inr (Nat.le_refl _)) _).setCell (p := ⟨w.heap.size, 1, none⟩) (.inr (Nat.le_refl _)) _).setCell (p := ⟨w.heap.size, 2, none⟩) (.inr (Nat.le_refl _)) _
      | some p2 =>
        obtain ⟨q, r2⟩ := p2
        have hl2 := Num.take_lt h2
        have ht := fun w => Num.takeR_some (s := ⟨r.toArray⟩) h2 ▸ ht w
        have HTB := Lib.hid ht; clear ht
        have H2 := Lib.hid h2; clear h2
        have hrs2 : (⟨r2.toArray⟩ : ByteArray).size = r2.length := rfl
        by_cases h4 : r2.length < 4 + n
        · have h4' : (r2.length : Int) < 4 + n := by omega
          go_enter Tryz.func166, Tryz.ntmps166
          go_wp2_with fail
          rw [← hwb]
          refine (HTA.out wb).mono ?_
          rintro e w0 ⟨rfl, ho0⟩
          go_wp2_with fail
          refine (HTB.out w0).mono ?_
          rintro e w1 ⟨rfl, ho1⟩
          have ho01 := ho0.trans ho1 (fun _ _ h => h)
          have hb1 := ho01.at_ hbox (fun h => h)
          have HO := Lib.hid (hob.trans ho01 (fun _ _ h => h))
          clear ho0 ho1 ho01
          have c0 : w1.cell? ⟨w.heap.size, 0, none⟩ = some (.int .u64 0) := Heap.cell hb1 0
          have c1 : w1.cell? ⟨w.heap.size, 1, none⟩ = some (.string ⟨#[]⟩) := Heap.cell hb1 1
          have c2 : w1.cell? ⟨w.heap.size, 2, none⟩ = some (.int .i64 0) := Heap.cell hb1 2
          have f0 : w1.frozen? ⟨w.heap.size, 0, none⟩ = false := Heap.frozen hb1 0
          have f1 : w1.frozen? ⟨w.heap.size, 1, none⟩ = false := Heap.frozen hb1 1
          have f2 : w1.frozen? ⟨w.heap.size, 2, none⟩ = false := Heap.frozen hb1 2
          go_wp2
          refine bodyPost_ret_by (results_row_tmp rfl _ _ w.heap.size _ _ _ _ rfl (box3 hb1 _ _ _) Tryz.underlying138 rfl infoFrame) rfl ⟨?_, ?_⟩
          · unfold firstR firstL; rw [H1.out]; dsimp only; rw [if_neg hn, H2.out]; dsimp only; rw [if_pos h4]; rfl
          · exact ((HO.out.setCell (p := ⟨w.heap.size, 0, none⟩) (.inr (Nat.le_refl _)) _).setCell (p := ⟨w.heap.size, 1, none⟩) (.inr (Nat.le_refl _)) _).setCell (p := ⟨w.heap.size, 2, none⟩) (.inr (Nat.le_refl _)) _
        · have h4' : ¬ ((r2.length : Int) < 4 + n) := by omega
          go_enter Tryz.func166, Tryz.ntmps166
          go_wp2_with fail
          rw [← hwb]
          refine (HTA.out wb).mono ?_
          rintro e w0 ⟨rfl, ho0⟩
          go_wp2_with fail
          refine (HTB.out w0).mono ?_
          rintro e w1 ⟨rfl, ho1⟩
          have ho01 := ho0.trans ho1 (fun _ _ h => h)
          have hb1 := ho01.at_ hbox (fun h => h)
          have HO := Lib.hid (hob.trans ho01 (fun _ _ h => h))
          clear ho0 ho1 ho01
          go_wp2_with fail
          have hbody : ((⟨r2.toArray⟩ : ByteArray).extract 4 (4 + n)).data.toList = (r2.drop 4).take n := by
            rw [ByteArray.data_extract, Array.toList_extract, List.extract_eq_take_drop, Nat.add_sub_cancel_left]
          have hfour : (⟨r2.toArray⟩ : ByteArray).extract 0 4 = ⟨(r2.take 4).toArray⟩ := str_of (by
            rw [ByteArray.data_extract, Array.toList_extract, List.extract_eq_take_drop]; rfl)
          have hbs : ((⟨r2.toArray⟩ : ByteArray).extract 4 (4 + n)).size ≤ 1099511627776 := by
            rw [ByteArray.size_extract, hrs2]; omega
          have hsm := fun W (h : Crc.TabOk W) => sum_any W q ((⟨r2.toArray⟩ : ByteArray).extract 4 (4 + n)) hl2.1 hbs h
          rw [hbody] at hsm
          have HSM := Lib.hid hsm; clear hsm
          have HB := Lib.hid hbody; clear hbody
          have HF := Lib.hid hfour; clear hfour
          have HB1 := Lib.hid hb1; clear hb1
          have h44 : (4 : Int) ≤ (r2.length : Int) := by omega
          go_region_held3 (fun _ => True) (trivial) (first | (go_at_call 119; refine (HSM.out _ (HT.out.off HO.out.drew (fun h => h))).mono ?_; rintro e w2 ⟨rfl, ho2⟩))
          rw [HF.out]
          have hb2 := ho2.at_ (w := w1.drew) HB1.out (fun h => h)
          have c0 : w2.cell? ⟨w.heap.size, 0, none⟩ = some (.int .u64 0) := Heap.cell hb2 0
          have c1 : w2.cell? ⟨w.heap.size, 1, none⟩ = some (.string ⟨#[]⟩) := Heap.cell hb2 1
          have c2 : w2.cell? ⟨w.heap.size, 2, none⟩ = some (.int .i64 0) := Heap.cell hb2 2
          have f0 : w2.frozen? ⟨w.heap.size, 0, none⟩ = false := Heap.frozen hb2 0
          have f1 : w2.frozen? ⟨w.heap.size, 1, none⟩ = false := Heap.frozen hb2 1
          have f2 : w2.frozen? ⟨w.heap.size, 2, none⟩ = false := Heap.frozen hb2 2
          have HO2 := Lib.hid (HO.out.trans (Off.trans ((Off.refl None w1).drew) ho2 (fun _ _ h => h)) (fun _ _ h => h))
          have HB2 := Lib.hid hb2; clear hb2 ho2
          have htl : (⟨(r2.take 4).toArray⟩ : ByteArray).toList = r2.take 4 := by rw [Heap.toList_data]
          by_cases heq : r2.take 4 = sumL q ((r2.drop 4).take n)
          · have e1 : (!(⟨(r2.take 4).toArray⟩ : ByteArray).toList == sumL q ((r2.drop 4).take n)) = false := by rw [htl, heq]; simp
            have HQ := Lib.hid heq; clear heq htl
            go_wp2
            all_goals try (rename_i h; rw [e1] at h; cases h)
            have hvb : ((⟨r2.toArray⟩ : ByteArray).extract 4 (4 + n)) = ⟨((r2.drop 4).take n).toArray⟩ := str_of HB.out
            have hvs : ((s.size : Int) - r2.length + 4 + n) = ((s.data.toList.length - r2.length + 4 + n : Nat) : Int) := by omega
            rw [hvb, hvs]
            refine bodyPost_ret_by (results_row_tmp rfl _ _ w.heap.size _ _ _ _ rfl (box3 HB2.out _ _ _) Tryz.underlying138 rfl infoFrame) rfl ⟨?_, ?_⟩
            · unfold firstR firstL; rw [H1.out]; dsimp only; rw [if_neg hn, H2.out]; dsimp only; rw [if_neg h4, if_pos HQ.out]; rfl
            · exact ((HO2.out.setCell (p := ⟨w.heap.size, 0, none⟩) (.inr (Nat.le_refl _)) _).setCell (p := ⟨w.heap.size, 1, none⟩) (.inr (Nat.le_refl _)) _).setCell (p := ⟨w.heap.size, 2, none⟩) (.inr (Nat.le_refl _)) _
          · have e1 : (!(⟨(r2.take 4).toArray⟩ : ByteArray).toList == sumL q ((r2.drop 4).take n)) = true := by rw [htl]; simpa using heq
            have HQ := Lib.hid heq; clear heq htl
            go_wp2
            all_goals try (rename_i h; rw [e1] at h; cases h)
            refine bodyPost_ret_by (results_row_tmp rfl _ _ w.heap.size _ _ _ _ rfl (box3 HB2.out _ _ _) Tryz.underlying138 rfl infoFrame) rfl ⟨?_, ?_⟩
            · unfold firstR firstL; rw [H1.out]; dsimp only; rw [if_neg hn, H2.out]; dsimp only; rw [if_neg h4, if_neg HQ.out]; rfl
            · exact ((HO2.out.setCell (p := ⟨w.heap.size, 0, none⟩) (.inr (Nat.le_refl _)) _).setCell (p := ⟨w.heap.size, 1, none⟩) (.inr (Nat.le_refl _)) _).setCell (p := ⟨w.heap.size, 2, none⟩) (.inr (Nat.le_refl _)) _
end Frame
end Go.Proofs.YtndgnlblbjpogaaGreatDoor
