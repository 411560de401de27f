/- The walk of light: are acts few, and their texts short? · The walk of front: has a log, as its first ones, so many of some bodies? -/
import Derived.Test.YtnppdcegpojmbaaGreatDoorLaw2
import Derived.Handy
namespace Go.Proofs.YtnppdcegpojmbaaGreatDoor
open Go Go.RowKit
namespace Law
def sumT (T : Nat → ByteArray) : Nat → Nat
  | 0 => 0
  | k + 1 => sumT T k + (T k).size
def lightB (T : Nat → ByteArray) (n : Nat) : Bool := decide (n ≤ 60) && decide (sumT T n ≤ 1000)
theorem sumT_le (T : Nat → ByteArray) (n : Nat) (h : ∀ i, i < n → (T i).size ≤ 140737488355328) : sumT T n ≤ n * 140737488355328 := by
  induction n with
  | zero => exact Nat.le_refl _
  | succ n ih =>
    have := ih (fun i hi => h i (by omega))
    have := h n (by omega)
    show sumT T n + (T n).size ≤ _
    omega
set_option maxRecDepth 100000 in
theorem light_any (w : World) (p : Option Addr) (n cap : Nat) (T : Nat → ByteArray) (hT : ∀ i, i < n → ∃ a, p = some a ∧ w.cell? ⟨(a.add (i * 3)).block, (a.add (i * 3)).off + 2, none⟩ = some (.string (T i))) (hs : ∀ i, i < n → (T i).size ≤ 140737488355328) (hn : n ≤ 140737488355328) :
    Calls Tryz.prog 36 #[.slice p n cap] w fun e w' => e = .returned (.bool (lightB T n)) ∧ Off None w w' := by
  have HT := Lib.hid hT
  have HS := Lib.hid hs
  clear hT hs
  by_cases h60 : n ≤ 60
  · have hl : lightB T n = decide (sumT T n ≤ 1000) := by unfold lightB; rw [decide_eq_true h60, Bool.true_and]
    rw [hl]
    clear hl
    go_enter Tryz.func36, Tryz.ntmps36
    go_wp2
    go_loopw [3, 4] (fun x i wr => ∃ k : Nat, k ≤ n ∧ i = .int .i64 k ∧ x = .int .i64 ((sumT T k : Nat) : Int) ∧ Off None w wr) (fun _ i _ => n - (intOf i).toNat)
    case atStart => exact ⟨0, Nat.zero_le _, rfl, rfl, Off.refl _ _⟩
    case round =>
      obtain ⟨k, hk, rfl, rfl, ho⟩ := hrel
      have HO := Lib.hid ho; clear ho
      have hle := sumT_le T k (fun i hi => HS.out i (by omega))
      obtain ⟨y, hy⟩ : ∃ y, y = sumT T k := ⟨_, rfl⟩
      rw [← hy] at hle ⊢
      have HY := Lib.hid hy; clear hy
      by_cases hlt : k < n
      · obtain ⟨a, hpa, hc⟩ := HT.out k hlt
        subst hpa
        have hc' := HO.out.keep hc (fun h => h)
        have hsz := HS.out k hlt
        have hi0 : (0 : Int) ≤ (k : Int) := by omega
        have hi1 : (k : Int) < (n : Int) := by omega
        clear hc
        go_wp2
        case roundEnd => exact ⟨⟨k + 1, hlt, by push_cast; rfl, by rw [show sumT T (k + 1) = sumT T k + (T k).size from rfl, ← HY.out]; push_cast; rfl, HO.out⟩, by simp [intOf]; omega⟩
      · have hkn : k = n := by omega
        subst hkn
        have hi1 : ¬ (k : Int) < (k : Int) := by omega
        have h60' : (k : Int) ≤ 60 := by omega
        go_wp2
        go_ret
        refine ⟨?_, HO.out⟩
        rw [← HY.out]
        exact congrArg (fun b => Ending.returned (.bool b)) (by rw [decide_eq_decide]; omega)
  · have hl : lightB T n = false := by unfold lightB; rw [decide_eq_false h60, Bool.false_and]
    rw [hl]
    clear hl
    go_enter Tryz.func36, Tryz.ntmps36
    go_wp2
    go_loopw [3, 4] (fun x i wr => ∃ (k : Nat) (q : Int), k ≤ n ∧ i = .int .i64 k ∧ x = .int .i64 q ∧ Off None w wr) (fun _ i _ => n - (intOf i).toNat)
    case atStart => exact ⟨0, 0, Nat.zero_le _, rfl, rfl, Off.refl _ _⟩
    case round =>
      obtain ⟨k, q, hk, rfl, rfl, ho⟩ := hrel
      have HO := Lib.hid ho; clear ho
      by_cases hlt : k < n
      · obtain ⟨a, hpa, hc⟩ := HT.out k hlt
        subst hpa
        have hc' := HO.out.keep hc (fun h => h)
        have hi0 : (0 : Int) ≤ (k : Int) := by omega
        have hi1 : (k : Int) < (n : Int) := by omega
        clear hc
        go_wp2
        case roundEnd => exact ⟨⟨k + 1, _, hlt, by push_cast; rfl, rfl, HO.out⟩, by simp [intOf]; omega⟩
      · have hkn : k = n := by omega
        subst hkn
        have hi1 : ¬ (k : Int) < (k : Int) := by omega
        have h60' : ¬ (k : Int) ≤ 60 := by omega
        go_wp2
        go_ret
        exact ⟨rfl, HO.out⟩
end Law
end Go.Proofs.YtnppdcegpojmbaaGreatDoor
