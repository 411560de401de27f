/- Numbers as bytes, seven bits a byte, the least ahead: what Put and Take of package num compute. No program stands here. -/
import Derived.RowKit
namespace Go.Proofs.YtnppdcegpojmbaaGreatDoor
open Go Go.RowKit
namespace Num
def putL (n : Nat) : List UInt8 := if h : n < 128 then [UInt8.ofNat n] else UInt8.ofNat (n % 128 + 128) :: putL (n / 128)
termination_by n
decreasing_by omega
theorem putL_small {n : Nat} (h : n < 128) : putL n = [UInt8.ofNat n] := by rw [putL, dif_pos h]
theorem putL_more {n : Nat} (h : ¬ n < 128) : putL n = UInt8.ofNat (n % 128 + 128) :: putL (n / 128) := by rw [putL, dif_neg h]
theorem putL_length (k : Nat) : ∀ n, n < 128 ^ (k + 1) → (putL n).length ≤ k + 1 := by
  induction k with
  | zero => intro n h; rw [putL_small (by simpa using h)]; simp
  | succ k ih =>
    intro n h
    by_cases hs : n < 128
    · rw [putL_small hs]; simp
    · rw [putL_more hs, List.length_cons]
      have := ih (n / 128) (by rw [Nat.div_lt_iff_lt_mul (by omega)]; rwa [Nat.pow_succ] at h)
      omega
theorem putL_len {n : Nat} (h : n < 18446744073709551616) : (putL n).length ≤ 10 := putL_length 9 n (by omega)
theorem putL_pos (n : Nat) : 0 < (putL n).length := by
  by_cases hs : n < 128
  · rw [putL_small hs]; simp
  · rw [putL_more hs]; simp
/-- The number that bytes begin with, of which i were taken, with the number n: and how many bytes it has. -/
def takeL (i n : Nat) : List UInt8 → Option (Nat × List UInt8)
  | [] => none
  | c :: r =>
    if (i = 9 ∧ 1 < c.toNat) ∨ (0 < i ∧ c.toNat = 0) then none
    else if c.toNat < 128 then some (n + c.toNat * 128 ^ i, r)
    else takeL (i + 1) (n + (c.toNat - 128) * 128 ^ i) r
theorem takeL_put (k : Nat) : ∀ (n i a : Nat) (r : List UInt8), n < 128 ^ (k + 1) → i + k ≤ 9 → (0 < i → 0 < n) → (i + k = 9 → n < 2 * 128 ^ k) → takeL i a (putL n ++ r) = some (a + n * 128 ^ i, r) := by
  induction k with
  | zero =>
    intro n i a r h hi h0 h9
    have hn : n < 128 := by simpa using h
    rw [putL_small hn, List.singleton_append, takeL]
    have e : (UInt8.ofNat n).toNat = n := by simp; omega
    rw [e, if_neg, if_pos hn]
    rintro (⟨h1, h2⟩ | ⟨h1, h2⟩)
    · have := h9 (by omega); simp at this; omega
    · have := h0 h1; omega
  | succ k ih =>
    intro n i a r h hi h0 h9
    by_cases hs : n < 128
    · have e : (UInt8.ofNat n).toNat = n := by simp; omega
      rw [putL_small hs, List.singleton_append, takeL, e, if_neg, if_pos hs]
      rintro (⟨h1, h2⟩ | ⟨h1, h2⟩)
      · omega
      · have := h0 h1; omega
    · have e : (UInt8.ofNat (n % 128 + 128)).toNat = n % 128 + 128 := by simp; omega
      rw [putL_more hs, List.cons_append, takeL, e, if_neg (by rintro (⟨h1, h2⟩ | ⟨h1, h2⟩) <;> omega), if_neg (by omega), Nat.add_sub_cancel]
      rw [ih (n / 128) (i + 1) _ r (by rw [Nat.div_lt_iff_lt_mul (by omega)]; rwa [Nat.pow_succ] at h) (by omega) (fun _ => Nat.div_pos (by omega) (by omega)) (fun h' => by
        have := h9 (by omega)
        rw [Nat.div_lt_iff_lt_mul (by omega), Nat.mul_assoc, ← Nat.pow_succ]; exact this)]
      have h1 := Nat.div_add_mod n 128
      have h2 : n * 128 ^ i = (n % 128) * 128 ^ i + (n / 128) * 128 ^ (i + 1) := by
        rw [Nat.pow_succ, Nat.mul_comm (128 ^ i) 128, ← Nat.mul_assoc, ← Nat.add_mul]
        congr 1
        omega
      rw [h2, Nat.add_assoc]
theorem take_put (n : Nat) (r : List UInt8) (h : n < 18446744073709551616) : takeL 0 0 (putL n ++ r) = some (n, r) := by
  rw [takeL_put 9 n 0 0 r (by omega) (by omega) (fun h => absurd h (by omega)) (fun _ => by omega)]
  simp
theorem takeL_lt (l : List UInt8) : ∀ (i a n : Nat) (r : List UInt8), i ≤ 9 → a < 128 ^ i → takeL i a l = some (n, r) → n < 18446744073709551616 ∧ r.length < l.length := by
  induction l with
  | nil => intro i a n r _ _ h; simp [takeL] at h
  | cons c t ih =>
    intro i a n r hi ha h
    rw [takeL] at h
    have hp : (128 : Nat) ^ i ≤ 128 ^ 9 := Nat.pow_le_pow_right (by decide) hi
    split at h
    · cases h
    · rename_i hno
      split at h
      · rename_i hc
        cases h
        refine ⟨?_, by simp⟩
        by_cases h9 : i = 9
        · subst h9
          have : ¬ 1 < c.toNat := fun h1 => hno (.inl ⟨rfl, h1⟩)
          have h2 : c.toNat * 128 ^ 9 ≤ 1 * 128 ^ 9 := Nat.mul_le_mul_right _ (by omega)
          omega
        · have hp8 : (128 : Nat) ^ i ≤ 128 ^ 8 := Nat.pow_le_pow_right (by decide) (by omega)
          have h2 : c.toNat * 128 ^ i ≤ 127 * 128 ^ 8 := Nat.mul_le_mul (by omega) hp8
          omega
      · rename_i hc
        by_cases h9 : i = 9
        · subst h9
          exact absurd (.inl ⟨rfl, by omega⟩) hno
        · have hb := c.toNat_lt
          have h2 : (c.toNat - 128) * 128 ^ i ≤ 127 * 128 ^ i := Nat.mul_le_mul_right _ (by omega)
          have h3 := ih (i + 1) _ n r (by omega) (by rw [Nat.pow_succ]; omega) h
          exact ⟨h3.1, by rw [List.length_cons]; omega⟩
theorem take_lt {l r : List UInt8} {n : Nat} (h : takeL 0 0 l = some (n, r)) : n < 18446744073709551616 ∧ r.length < l.length := takeL_lt l 0 0 n r (by omega) (by decide) h
end Num
end Go.Proofs.YtnppdcegpojmbaaGreatDoor
