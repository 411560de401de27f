/- The plain law of the sums of 32 bits: the table's way (four bits at a time) is the bit's way; a sum is linear, and one to one in the register. No program stands here. · The walks of crc.Add and crc.Sum: for every text and every sum they return the plain law's number, and change nothing. Condition: the table reads as its initialiser lays it. -/
import Derived.Test.YtndgnlblbjpogaaGreatDoorRows
import Derived.WalkKit
import Derived.WalkSpells
import Derived.Lib.Hide
namespace Go.Proofs.YtndgnlblbjpogaaGreatDoor
namespace Crc
def tabL : List Nat := [0, 274646895, 549293790, 820201905, 1098587580, 1361435347, 1640403810, 1905808397, 2197175160, 2460548119, 2722870694, 2987750089, 3280807620, 3553878443, 3811616794, 4084100981]
def tabAt (i : Nat) : Nat := tabL.getD i 0
theorem tabAt_lt (i : Nat) : tabAt i < 4294967296 := by
  unfold tabAt
  by_cases h : i < 16
  · have : ∀ j : Fin 16, tabL.getD j.val 0 < 4294967296 := by decide
    exact this ⟨i, h⟩
  · rw [List.getD_eq_getElem?_getD, List.getElem?_eq_none (by simp [tabL]; omega)]; decide
def nib (r : Nat) : Nat := (r / 16) ^^^ tabAt (r % 16)
theorem xor_lt32 {a b : Nat} (ha : a < 4294967296) (hb : b < 4294967296) : a ^^^ b < 4294967296 := Nat.xor_lt_two_pow (n := 32) ha hb
theorem nib_lt {r : Nat} (h : r < 4294967296) : nib r < 4294967296 := xor_lt32 (by omega) (tabAt_lt _)
def byteStep (r : Nat) (b : UInt8) : Nat := nib (nib (r ^^^ b.toNat))
theorem byte_lt (b : UInt8) : b.toNat < 4294967296 := by have := b.toNat_lt; omega
theorem byteStep_lt {r : Nat} (h : r < 4294967296) (b : UInt8) : byteStep r b < 4294967296 := nib_lt (nib_lt (xor_lt32 h (byte_lt b)))
def regN (r : Nat) (l : List UInt8) : Nat := l.foldl byteStep r
theorem regN_lt {r : Nat} (h : r < 4294967296) (l : List UInt8) : regN r l < 4294967296 := by
  induction l generalizing r with
  | nil => exact h
  | cons b l ih => exact ih (byteStep_lt h b)
theorem regN_snoc (r : Nat) (l : List UInt8) (b : UInt8) : regN r (l ++ [b]) = nib (nib (regN r l ^^^ b.toNat)) := by simp [regN, byteStep]
def addN (sum : Nat) (l : List UInt8) : Nat := 4294967295 ^^^ regN (4294967295 ^^^ sum) l
theorem addN_lt {sum : Nat} (h : sum < 4294967296) (l : List UInt8) : addN sum l < 4294967296 := xor_lt32 (by omega) (regN_lt (xor_lt32 (by omega) h) l)
/- The document's way: a bit at a time. -/
def half (r : Nat) : Nat := if r % 2 = 1 then (r / 2) ^^^ 2197175160 else r / 2
def halfs : Nat → Nat → Nat
  | 0, r => r
  | k + 1, r => halfs k (half r)
theorem halfs_succ (k r : Nat) : half (halfs k r) = halfs (k + 1) r := by
  induction k generalizing r with
  | zero => rfl
  | succ k ih => exact ih (half r)
theorem half_lt {r : Nat} (h : r < 4294967296) : half r < 4294967296 := by
  unfold half; split
  · exact xor_lt32 (by omega) (by omega)
  · omega
theorem halfs_lt {r : Nat} (k : Nat) (h : r < 4294967296) : halfs k r < 4294967296 := by
  induction k generalizing r with
  | zero => exact h
  | succ k ih => exact ih (half_lt h)
def regR (r : Nat) (l : List UInt8) : Nat := l.foldl (fun r b => halfs 8 (r ^^^ b.toNat)) r
theorem regR_lt {r : Nat} (h : r < 4294967296) (l : List UInt8) : regR r l < 4294967296 := by
  induction l generalizing r with
  | nil => exact h
  | cons b l ih => exact ih (halfs_lt 8 (xor_lt32 h (byte_lt b)))
theorem regR_snoc (r : Nat) (l : List UInt8) (b : UInt8) : regR r (l ++ [b]) = halfs 8 (regR r l ^^^ b.toNat) := by simp [regR]
def addR (sum : Nat) (l : List UInt8) : Nat := regR (sum ^^^ 4294967295) l ^^^ 4294967295

/- Linear, over numbers of bits. -/
def halfB (r : BitVec 32) : BitVec 32 := if r.getLsbD 0 then (r >>> 1) ^^^ 2197175160#32 else r >>> 1
theorem halfB_toNat (r : BitVec 32) : (halfB r).toNat = half r.toNat := by
  unfold halfB half
  have h0 : r.getLsbD 0 = decide (r.toNat % 2 = 1) := by simp [BitVec.getLsbD, Nat.testBit]; rfl
  rw [h0]
  by_cases h : r.toNat % 2 = 1
  · simp [h, BitVec.toNat_ushiftRight, Nat.shiftRight_succ]
  · simp [h, BitVec.toNat_ushiftRight, Nat.shiftRight_succ]
theorem halfB_xor (a b : BitVec 32) : halfB (a ^^^ b) = halfB a ^^^ halfB b := by
  unfold halfB
  rw [BitVec.getLsbD_xor, BitVec.ushiftRight_xor_distrib]
  have e : ∀ x y p : BitVec 32, x ^^^ y = (x ^^^ p) ^^^ (y ^^^ p) := by
    intro x y p
    rw [show (x ^^^ p) ^^^ (y ^^^ p) = (x ^^^ y) ^^^ (p ^^^ p) from by ac_rfl, BitVec.xor_self, BitVec.xor_zero]
  cases a.getLsbD 0 <;> cases b.getLsbD 0
  · simp
  · simp [BitVec.xor_assoc]
  · simp only [Bool.true_xor, Bool.not_false, if_true, Bool.false_eq_true, if_false]; ac_rfl
  · simpa using e _ _ _
theorem halfB_zero : halfB 0#32 = 0#32 := by decide
theorem halfB_eq_zero {x : BitVec 32} (h : halfB x = 0#32) : x = 0#32 := by
  unfold halfB at h
  by_cases h0 : x.getLsbD 0 = true
  · rw [if_pos h0] at h
    have := congrArg (fun v : BitVec 32 => v.getLsbD 31) h
    simp at this
  · rw [if_neg h0] at h
    apply BitVec.eq_of_getLsbD_eq
    intro i hi
    cases i with
    | zero => simpa using h0
    | succ i =>
      have := congrArg (fun v : BitVec 32 => v.getLsbD i) h
      simp at this
      simpa [Nat.add_comm] using this
theorem halfB_inj {a b : BitVec 32} (h : halfB a = halfB b) : a = b := by
  have : halfB (a ^^^ b) = 0#32 := by rw [halfB_xor, h, BitVec.xor_self]
  have := halfB_eq_zero this
  have h2 := congrArg (· ^^^ b) this
  simpa [BitVec.xor_assoc] using h2
theorem halfB_shift {x : BitVec 32} (h : x.getLsbD 31 = false) : halfB (x <<< 1) = x := by
  unfold halfB
  rw [if_neg (by simp)]
  apply BitVec.eq_of_getLsbD_eq
  intro i hi
  simp
  by_cases h31 : i = 31
  · subst h31; simpa using h.symm
  · have : 1 + i < 32 := by omega
    simp [this]
def halfsB : Nat → BitVec 32 → BitVec 32
  | 0, r => r
  | k + 1, r => halfsB k (halfB r)
theorem halfsB_toNat (k : Nat) (r : BitVec 32) : (halfsB k r).toNat = halfs k r.toNat := by
  induction k generalizing r with
  | zero => rfl
  | succ k ih => rw [halfsB, ih, halfB_toNat]; rfl
theorem halfsB_xor (k : Nat) (a b : BitVec 32) : halfsB k (a ^^^ b) = halfsB k a ^^^ halfsB k b := by
  induction k generalizing a b with
  | zero => rfl
  | succ k ih => simp only [halfsB]; rw [halfB_xor, ih]
theorem halfsB_inj (k : Nat) {a b : BitVec 32} (h : halfsB k a = halfsB k b) : a = b := by
  induction k generalizing a b with
  | zero => exact h
  | succ k ih => exact halfB_inj (ih h)
theorem halfsB_zero (k : Nat) : halfsB k 0#32 = 0#32 := by
  induction k with
  | zero => rfl
  | succ k ih => simp only [halfsB]; rw [halfB_zero, ih]
theorem halfsB_add (j k : Nat) (r : BitVec 32) : halfsB (j + k) r = halfsB k (halfsB j r) := by
  induction j generalizing r with
  | zero => simp [halfsB]
  | succ j ih => rw [Nat.succ_add]; exact ih (halfB r)
theorem halfsB_shift (k : Nat) (x : BitVec 32) (h : ∀ i, 32 - k ≤ i → x.getLsbD i = false) (hk : k ≤ 32) : halfsB k (x <<< k) = x := by
  induction k with
  | zero => simp [halfsB]
  | succ k ih =>
    have e : x <<< (k + 1) = (x <<< k) <<< 1 := by rw [BitVec.shiftLeft_add]
    rw [e, halfsB, halfB_shift, ih (fun i hi => h i (by omega)) (by omega)]
    simp only [BitVec.getLsbD_shiftLeft]
    by_cases hk' : 31 < k
    · omega
    · have := h (31 - k) (by omega)
      simp [this]
def nibB (r : BitVec 32) : BitVec 32 := (r >>> 4) ^^^ BitVec.ofNat 32 (tabAt (r.toNat % 16))
theorem tab_halfs : ∀ j : Fin 16, halfsB 4 (BitVec.ofNat 32 j.val) = BitVec.ofNat 32 (tabAt j.val) := by decide
theorem nibB_eq (r : BitVec 32) : nibB r = halfsB 4 r := by
  have e : r = ((r >>> 4) <<< 4) ^^^ BitVec.ofNat 32 (r.toNat % 16) := by
    apply BitVec.eq_of_getLsbD_eq
    intro i hi
    simp only [BitVec.getLsbD_xor, BitVec.getLsbD_shiftLeft, BitVec.getLsbD_ushiftRight, BitVec.getLsbD_ofNat]
    rw [show (16 : Nat) = 2 ^ 4 from rfl, Nat.testBit_mod_two_pow]
    by_cases h4 : i < 4
    · simp [h4, hi, BitVec.getLsbD]
    · simp [h4, hi, show 4 + (i - 4) = i by omega]
  conv => rhs; rw [e]
  rw [halfsB_xor, halfsB_shift 4 _ (by intro i hi; rw [BitVec.getLsbD_ushiftRight]; exact BitVec.getLsbD_of_ge _ _ (by omega)) (by omega), tab_halfs ⟨r.toNat % 16, by omega⟩]
  rfl
theorem nibB_toNat (r : BitVec 32) : (nibB r).toNat = nib r.toNat := by
  unfold nibB nib
  rw [BitVec.toNat_xor, BitVec.toNat_ushiftRight, BitVec.toNat_ofNat, Nat.mod_eq_of_lt (tabAt_lt _), Nat.shiftRight_eq_div_pow]
theorem nib_half {r : Nat} (h : r < 4294967296) : nib r = halfs 4 r := by
  have := congrArg BitVec.toNat (nibB_eq (BitVec.ofNat 32 r))
  rwa [nibB_toNat, halfsB_toNat, BitVec.toNat_ofNat, Nat.mod_eq_of_lt h] at this
theorem halfs_add (j k r : Nat) : halfs (j + k) r = halfs k (halfs j r) := by
  induction j generalizing r with
  | zero => simp [halfs]
  | succ j ih => rw [Nat.succ_add]; exact ih (half r)
theorem byteStep_half {r : Nat} (h : r < 4294967296) (b : UInt8) : byteStep r b = halfs 8 (r ^^^ b.toNat) := by
  have h1 := xor_lt32 h (byte_lt b)
  unfold byteStep
  rw [nib_half h1, nib_half (halfs_lt 4 h1), ← halfs_add]
theorem regN_eq {r : Nat} (h : r < 4294967296) (l : List UInt8) : regN r l = regR r l := by
  induction l generalizing r with
  | nil => rfl
  | cons b l ih =>
    have := ih (byteStep_lt h b)
    rw [byteStep_half h b] at this
    simpa [regN, regR, byteStep_half h b] using this
/-- The table's way is the bit's way. -/
theorem addN_eq {sum : Nat} (h : sum < 4294967296) (l : List UInt8) : addN sum l = addR sum l := by
  unfold addN addR
  rw [regN_eq (xor_lt32 (by omega) h), Nat.xor_comm 4294967295 sum, Nat.xor_comm]
/- The sum over numbers of bits. -/
def byteB (b : UInt8) : BitVec 32 := BitVec.ofNat 32 b.toNat
def regB (r : BitVec 32) (l : List UInt8) : BitVec 32 := l.foldl (fun r b => halfsB 8 (r ^^^ byteB b)) r
theorem regB_toNat (r : BitVec 32) (l : List UInt8) : (regB r l).toNat = regR r.toNat l := by
  induction l generalizing r with
  | nil => rfl
  | cons b l ih =>
    have := ih (halfsB 8 (r ^^^ byteB b))
    simp only [regB, regR, List.foldl_cons] at this ⊢
    rw [this, halfsB_toNat, BitVec.toNat_xor]
    simp [byteB, Nat.mod_eq_of_lt (byte_lt b)]
theorem regB_append (r : BitVec 32) (a b : List UInt8) : regB r (a ++ b) = regB (regB r a) b := by simp [regB]
theorem regB_inj (l : List UInt8) {a b : BitVec 32} (h : regB a l = regB b l) : a = b := by
  induction l generalizing a b with
  | nil => exact h
  | cons c l ih =>
    have := halfsB_inj 8 (ih h)
    have h2 := congrArg (· ^^^ byteB c) this
    simpa [BitVec.xor_assoc] using h2
def ofSum (sum : Nat) : BitVec 32 := BitVec.ofNat 32 (4294967295 ^^^ sum)
theorem addN_regB {sum : Nat} (h : sum < 4294967296) (l : List UInt8) : addN sum l = 4294967295 ^^^ (regB (ofSum sum) l).toNat := by
  have h1 : 4294967295 ^^^ sum < 4294967296 := xor_lt32 (by omega) h
  rw [regB_toNat, ofSum, BitVec.toNat_ofNat, Nat.mod_eq_of_lt h1, ← regN_eq h1]; rfl
theorem xor_cancel {a x y : Nat} (h : a ^^^ x = a ^^^ y) : x = y := by
  have := congrArg (a ^^^ ·) h
  simpa [← Nat.xor_assoc] using this
theorem addN_inj {l m : List UInt8} {a b : Nat} (ha : a < 4294967296) (hb : b < 4294967296) : addN a l = addN b m ↔ regB (ofSum a) l = regB (ofSum b) m := by
  rw [addN_regB ha, addN_regB hb]
  exact ⟨fun h => BitVec.eq_of_toNat_eq (xor_cancel h), fun h => by rw [h]⟩
theorem ofSum_inj {a b : Nat} (ha : a < 4294967296) (hb : b < 4294967296) (h : ofSum a = ofSum b) : a = b := by
  have h1 : 4294967295 ^^^ a < 4294967296 := xor_lt32 (by omega) ha
  have h2 : 4294967295 ^^^ b < 4294967296 := xor_lt32 (by omega) hb
  have := congrArg BitVec.toNat h
  simp only [ofSum, BitVec.toNat_ofNat, Nat.reducePow, Nat.mod_eq_of_lt h1, Nat.mod_eq_of_lt h2] at this
  exact xor_cancel this
/-- Of no bytes nothing is added. -/
theorem addN_nil (sum : Nat) : addN sum [] = sum := by simp [addN, regN, ← Nat.xor_assoc]
/-- The sum of two texts. -/
theorem addN_append (sum : Nat) (a b : List UInt8) : addN sum (a ++ b) = addN (addN sum a) b := by
  simp [addN, regN, ← Nat.xor_assoc]
/-- The same text behind two sums. -/
theorem addN_steps {a b : Nat} (ha : a < 4294967296) (hb : b < 4294967296) (l : List UInt8) : addN a l = addN b l ↔ a = b :=
  ⟨fun h => ofSum_inj ha hb (regB_inj l ((addN_inj ha hb).1 h)), fun h => by rw [h]⟩
theorem byteB_inj {a b : UInt8} (h : byteB a = byteB b) : a = b := by
  have := congrArg BitVec.toNat h
  simp only [byteB, BitVec.toNat_ofNat, Nat.reducePow, Nat.mod_eq_of_lt (byte_lt a), Nat.mod_eq_of_lt (byte_lt b)] at this
  exact UInt8.toNat_inj.1 this
/-- One byte that is changed changes the sum. -/
theorem addN_finds {sum : Nat} (h : sum < 4294967296) (l m : List UInt8) {a b : UInt8} (hab : a ≠ b) : addN sum (l ++ a :: m) ≠ addN sum (l ++ b :: m) := by
  intro he
  have h1 := (addN_inj h h).1 he
  rw [regB_append, regB_append] at h1
  have h2 : halfsB 8 (regB (ofSum sum) l ^^^ byteB a) = halfsB 8 (regB (ofSum sum) l ^^^ byteB b) := regB_inj m h1
  have h3 := congrArg (regB (ofSum sum) l ^^^ ·) (halfsB_inj 8 h2)
  simp only [← BitVec.xor_assoc, BitVec.xor_self, BitVec.zero_xor] at h3
  exact hab (byteB_inj h3)
def xor3 : List UInt8 → List UInt8 → List UInt8 → List UInt8
  | a :: l, b :: m, c :: n => (a ^^^ b ^^^ c) :: xor3 l m n
  | _, _, _ => []
theorem byteB_xor (a b : UInt8) : byteB (a ^^^ b) = byteB a ^^^ byteB b := by
  apply BitVec.eq_of_toNat_eq
  have h := xor_lt32 (byte_lt a) (byte_lt b)
  simp only [byteB, BitVec.toNat_xor, BitVec.toNat_ofNat, Nat.reducePow, Nat.mod_eq_of_lt (byte_lt a), Nat.mod_eq_of_lt (byte_lt b), UInt8.toNat_xor, Nat.mod_eq_of_lt h]
theorem regB_xor3 (a b c : BitVec 32) (l m n : List UInt8) (h1 : l.length = m.length) (h2 : m.length = n.length) :
    regB (a ^^^ b ^^^ c) (xor3 l m n) = regB a l ^^^ regB b m ^^^ regB c n := by
  induction l generalizing a b c m n with
  | nil =>
    cases m with
    | nil => cases n with
      | nil => rfl
      | cons => simp at h2
    | cons => simp at h1
  | cons x l ih =>
    cases m with
    | nil => simp at h1
    | cons y m => cases n with
      | nil => simp at h2
      | cons z n =>
        have := ih (halfsB 8 (a ^^^ byteB x)) (halfsB 8 (b ^^^ byteB y)) (halfsB 8 (c ^^^ byteB z)) m n (by simpa using h1) (by simpa using h2)
        simp only [regB, xor3, List.foldl_cons] at this ⊢
        rw [← this]
        congr 1
        rw [← halfsB_xor, ← halfsB_xor, byteB_xor, byteB_xor]
        congr 1
        ac_rfl
/-- Of three texts of one length. -/
theorem addN_mixes (l m n : List UInt8) (h1 : l.length = m.length) (h2 : m.length = n.length) : addN 0 (xor3 l m n) = addN 0 l ^^^ addN 0 m ^^^ addN 0 n := by
  have e : ofSum 0 = ofSum 0 ^^^ ofSum 0 ^^^ ofSum 0 := by simp
  rw [addN_regB (by omega), addN_regB (by omega), addN_regB (by omega), addN_regB (by omega), e, regB_xor3 _ _ _ _ _ _ h1 h2, ← e]
  simp only [BitVec.toNat_xor]
  generalize (regB (ofSum 0) l).toNat = x
  generalize (regB (ofSum 0) m).toNat = y
  generalize (regB (ofSum 0) n).toNat = z
  apply Nat.eq_of_testBit_eq
  intro i
  simp only [Nat.testBit_xor]
  cases Nat.testBit 4294967295 i <;> cases x.testBit i <;> cases y.testBit i <;> cases z.testBit i <;> rfl
/- Four bytes, one behind the other. -/
def four (x : Nat) : List UInt8 := [UInt8.ofNat x, UInt8.ofNat (x / 256), UInt8.ofNat (x / 65536), UInt8.ofNat (x / 16777216)]
theorem byteB_ofNat (x k : Nat) (h : x < 4294967296) : byteB (UInt8.ofNat (x / 2 ^ k)) = (BitVec.ofNat 32 x >>> k) &&& 255#32 := by
  apply BitVec.eq_of_toNat_eq
  have h3 : x / 2 ^ k % 256 < 4294967296 := by omega
  simp only [byteB, BitVec.toNat_ofNat, UInt8.toNat_ofNat', Nat.reducePow, BitVec.toNat_and, BitVec.toNat_ushiftRight, Nat.shiftRight_eq_div_pow, Nat.mod_eq_of_lt h, Nat.mod_eq_of_lt h3]
  rw [Nat.mod_eq_of_lt (by omega : (255 : Nat) < 4294967296), show (255 : Nat) = 2 ^ 8 - 1 from rfl, Nat.and_two_pow_sub_one_eq_mod]
theorem low (v : BitVec 32) (k i : Nat) (hi : 8 ≤ i) : ((v >>> k) &&& 255#32).getLsbD i = false := by
  simp only [BitVec.getLsbD_and, BitVec.getLsbD_ofNat]
  have : Nat.testBit 255 i = false := Nat.testBit_lt_two_pow (Nat.lt_of_lt_of_le (by decide : 255 < 2 ^ 8) (Nat.pow_le_pow_right (by omega) hi))
  simp [this]
theorem test255 (j : Nat) : Nat.testBit 255 j = decide (j < 8) := by
  by_cases hj : j < 8
  · have : ∀ j : Fin 8, Nat.testBit 255 j.val = true := by decide
    simp [hj, this ⟨j, hj⟩]
  · simp [hj, Nat.testBit_lt_two_pow (Nat.lt_of_lt_of_le (by decide : 255 < 2 ^ 8) (Nat.pow_le_pow_right (by omega) (by omega : 8 ≤ j)))]
theorem apart4 (v : BitVec 32) : v = ((v >>> 0) &&& 255#32) ^^^ (((v >>> 8) &&& 255#32) <<< 8) ^^^ (((v >>> 16) &&& 255#32) <<< 16) ^^^ (((v >>> 24) &&& 255#32) <<< 24) := by
  apply BitVec.eq_of_getLsbD_eq
  intro i hi
  simp only [BitVec.getLsbD_xor, BitVec.getLsbD_shiftLeft, BitVec.getLsbD_and, BitVec.getLsbD_ushiftRight, BitVec.getLsbD_ofNat, test255]
  rcases (show i < 8 ∨ (8 ≤ i ∧ i < 16) ∨ (16 ≤ i ∧ i < 24) ∨ 24 ≤ i by omega) with h | ⟨h, h'⟩ | ⟨h, h'⟩ | h
  · simp [h, show i < 16 by omega, show i < 24 by omega, hi]
  · simp [h', show ¬ i < 8 by omega, show i < 24 by omega, hi, show i - 8 < 8 by omega, show i - 8 < 32 by omega, show 8 + (i - 8) = i by omega]
  · simp [h', show ¬ i < 8 by omega, show ¬ i < 16 by omega, hi, show ¬ i - 8 < 8 by omega, show i - 16 < 8 by omega, show i - 16 < 32 by omega, show 16 + (i - 16) = i by omega]
  · simp [show ¬ i < 8 by omega, show ¬ i < 16 by omega, show ¬ i < 24 by omega, hi, show ¬ i - 8 < 8 by omega, show ¬ i - 16 < 8 by omega, show i - 24 < 8 by omega, show i - 24 < 32 by omega, show 24 + (i - 24) = i by omega]
theorem moved (v : BitVec 32) (k : Nat) (hk : k ≤ 24) : halfsB k (((v >>> k) &&& 255#32) <<< k) = (v >>> k) &&& 255#32 :=
  halfsB_shift k _ (fun i hi => low v k i (by omega)) (by omega)
attribute [local irreducible] halfsB
theorem halfs16 (y : BitVec 32) : halfsB 8 (halfsB 8 y) = halfsB 16 y := (halfsB_add 8 8 y).symm
theorem halfs24 (y : BitVec 32) : halfsB 8 (halfsB 16 y) = halfsB 24 y := (halfsB_add 16 8 y).symm
theorem halfs32 (y : BitVec 32) : halfsB 8 (halfsB 24 y) = halfsB 32 y := (halfsB_add 24 8 y).symm
theorem fold4 (r b0 b1 b2 b3 c1 c2 c3 : BitVec 32) (h1 : halfsB 8 c1 = b1) (h2 : halfsB 16 c2 = b2) (h3 : halfsB 24 c3 = b3) :
    halfsB 8 (halfsB 8 (halfsB 8 (halfsB 8 (r ^^^ b0) ^^^ b1) ^^^ b2) ^^^ b3) = halfsB 32 (r ^^^ (b0 ^^^ c1 ^^^ c2 ^^^ c3)) := by
  rw [← h1, ← halfsB_xor, halfs16, ← h2, ← halfsB_xor, halfs24, ← h3, ← halfsB_xor, halfs32]
  congr 1
  ac_rfl
theorem regB_four (r : BitVec 32) (x : Nat) (h : x < 4294967296) : regB r (four x) = halfsB 32 (r ^^^ BitVec.ofNat 32 x) := by
  have e0 := byteB_ofNat x 0 h
  have e1 := byteB_ofNat x 8 h
  have e2 := byteB_ofNat x 16 h
  have e3 := byteB_ofNat x 24 h
  simp only [Nat.pow_zero, Nat.div_one, Nat.reducePow] at e0 e1 e2 e3
  have e : regB r (four x) = halfsB 8 (halfsB 8 (halfsB 8 (halfsB 8 (r ^^^ byteB (UInt8.ofNat x)) ^^^ byteB (UInt8.ofNat (x / 256))) ^^^ byteB (UInt8.ofNat (x / 65536))) ^^^ byteB (UInt8.ofNat (x / 16777216))) := rfl
  rw [e, e0, e1, e2, e3]
  generalize BitVec.ofNat 32 x = v
  rw [fold4 r _ _ _ _ _ _ _ (moved v 8 (by omega)) (moved v 16 (by omega)) (moved v 24 (by omega)), ← apart4 v]
/-- Four bytes that are changed. -/
theorem addN_bursts {sum x y : Nat} (h : sum < 4294967296) (hx : x < 4294967296) (hy : y < 4294967296) (s t : List UInt8) :
    addN sum (s ++ four x ++ t) = addN sum (s ++ four y ++ t) ↔ x = y := by
  rw [addN_inj h h, regB_append, regB_append, regB_append, regB_append]
  constructor
  · intro he
    have h1 := regB_inj t he
    rw [regB_four _ _ hx, regB_four _ _ hy] at h1
    have h2 := congrArg (regB (ofSum sum) s ^^^ ·) (halfsB_inj 32 h1)
    simp only [← BitVec.xor_assoc, BitVec.xor_self, BitVec.zero_xor] at h2
    have h3 := congrArg BitVec.toNat h2
    simpa only [BitVec.toNat_ofNat, Nat.reducePow, Nat.mod_eq_of_lt hx, Nat.mod_eq_of_lt hy] using h3
  · intro he; rw [he]
theorem addN_shown : addN 0 [49, 50, 51, 52, 53, 54, 55, 56, 57] = 3808858755 := by decide
end Crc
end Go.Proofs.YtndgnlblbjpogaaGreatDoor
namespace Go.Proofs.YtndgnlblbjpogaaGreatDoor
open Go Go.RowKit
namespace Crc
theorem ret_int {k : IntKind} {a b : Int} (h : a = b) : Ending.returned (.int k a) = .returned (.int k b) := by rw [h]
theorem take_snoc (s : ByteArray) (k : Nat) (h : k < s.size) : s.data.toList.take (k + 1) = s.data.toList.take k ++ [s[k]] := by
  rw [List.take_succ_eq_append_getElem (by simpa using h)]; rfl
/-- The table's cells. -/
def TabOk (w : World) : Prop := ∀ i, i < 16 → w.cell? ⟨2, i, none⟩ = some (.int .u32 (tabAt i))
set_option maxHeartbeats 400000 in
theorem add_any (sum : Nat) (s : ByteArray) (w : World) (hs : s.size ≤ maxLen) (hsm : sum < 4294967296) (hT : TabOk w) :
    Calls Tryz.prog 194 #[.int .u32 sum, .string s] w fun e w' => e = .returned (.int .u32 (addN sum s.data.toList)) ∧ w = w' := by
  unfold maxLen at hs
  unfold TabOk at hT
  have HT := Lib.hid hT; clear hT
  have H0 := Lib.hid (u32_xor_nat 4294967295 sum (by omega) hsm)
  go_enter Tryz.func194, Tryz.ntmps194
  go_wp2
  go_loop [5, 11] (fun r i => ∃ k : Nat, k ≤ s.size ∧ i = .int .i64 k ∧ r = .int .u32 (regN (4294967295 ^^^ sum) (s.data.toList.take k))) (fun _ i => s.size - (intOf i).toNat)
  case atStart => exact ⟨0, Nat.zero_le _, rfl, by simpa [IntKind.max, IntKind.bits, IntKind.signed, regN] using congrArg (Value.int .u32) H0.out⟩
  case round =>
    obtain ⟨k, hk, rfl, rfl⟩ := hrel
    have hr := regN_lt (xor_lt32 (by omega : 4294967295 < 4294967296) hsm) (s.data.toList.take k)
    by_cases hlt : k < s.size
    · have HS := Lib.hid (take_snoc s k hlt)
      have hb := s[k].toNat_lt
      have H1 := Lib.hid (u32_xor_nat _ _ hr (show s[k].toNat < 4294967296 by omega))
      have HN := Lib.hid (regN_snoc (4294967295 ^^^ sum) (s.data.toList.take k) s[k])
      go_wp2
      generalize hR : regN (4294967295 ^^^ sum) (s.data.toList.take k) = R at *
      have HR := Lib.hid hR; clear hR
      have hx := xor_lt32 hr (show s[k].toNat < 4294967296 by omega)
      go_loop [5, 20] (fun r j => ∃ (j' : Nat) (R' : Nat), R' < 4294967296 ∧ j' ≤ 2 ∧ j = .int .i64 j' ∧ r = .int .u32 R' ∧ (nib (nib (R ^^^ s[k].toNat)) = if j' = 0 then nib (nib R') else if j' = 1 then nib R' else R')) (fun _ j => 2 - (intOf j).toNat)
      case atStart => exact ⟨0, _, hx, by omega, rfl, by rw [H1.out], by simp⟩
      case round =>
        obtain ⟨j', R', hR', hj', rfl, rfl, hq⟩ := hrel
        have HQ := Lib.hid hq; clear hq
        by_cases hj : j' < 2
        · have hc := HT.out (R' % 16) (by omega)
          have hand : bits .and .u32 (R' : Int) 15 = ((R' % 16 : Nat) : Int) := by
            have := u32_and_nat R' 15 hR' (by omega)
            rw [← nat_mask4]; simpa using this
          go_wp2
          go_round
          case rel =>
            refine ⟨j' + 1, nib R', nib_lt hR', by omega, by go_num, ?_, ?_⟩
            · rw [show ((R' : Int) / 16) = ((R' / 16 : Nat) : Int) from by omega, u32_xor_nat _ _ (by omega) (tabAt_lt _)]; rfl
            · rw [HQ.out]; rcases (show j' = 0 ∨ j' = 1 by omega) with rfl | rfl <;> simp
          case measure => simp [intOf]; omega
        · go_wp2
          go_round
          case rel =>
            refine ⟨k + 1, by omega, by go_num, ?_⟩
            rw [HS.out, HN.out, HQ.out, if_neg (by omega), if_neg (by omega)]
          case measure => simp [intOf]; omega
    · go_wp2
      go_ret
      have hk' : s.data.toList.take k = s.data.toList := List.take_of_length_le (by simp; omega)
      rw [hk'] at hr ⊢
      have H1 := u32_xor_nat 4294967295 _ (by omega) hr
      exact ⟨ret_int (by simpa [IntKind.max, IntKind.bits, IntKind.signed, addN] using H1), rfl⟩
theorem sum_any (s : ByteArray) (w : World) (hs : s.size ≤ maxLen) (hT : TabOk w) :
    Calls Tryz.prog 162 #[.string s] w fun e w' => e = .returned (.int .u32 (addN 0 s.data.toList)) ∧ w = w' := by
  have HT := Lib.hid hT; clear hT
  go_enter Tryz.func162, Tryz.ntmps162
  go_wp2_with (go_at_call 194; refine (add_any 0 _ _ hs (by omega) HT.out).mono ?_; rintro e w' ⟨rfl, rfl⟩)
  go_ret
  exact ⟨rfl, rfl⟩
end Crc
end Go.Proofs.YtndgnlblbjpogaaGreatDoor
