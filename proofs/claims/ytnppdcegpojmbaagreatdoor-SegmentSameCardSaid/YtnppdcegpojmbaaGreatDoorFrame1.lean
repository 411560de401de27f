/- The walk of frame.sum. -/
import Derived.Test.YtnppdcegpojmbaaGreatDoorNum2
import Derived.Test.YtnppdcegpojmbaaGreatDoorCrcWalk
namespace Go.Proofs.YtnppdcegpojmbaaGreatDoor
open Go Go.RowKit
theorem addr_add (b o j : Nat) : (⟨b, o, none⟩ : Addr).add j = ⟨b, o + j, none⟩ := by unfold Addr.add; split <;> simp_all
theorem Crc.TabOk.off {G : Nat → Prop} {w w' : World} (h : Crc.TabOk w) (ho : Off G w w') (hn : ¬ G 1) : Crc.TabOk w' := fun i hi => by
  rw [ho.cell (a := ⟨1, i, none⟩) (Heap.block_lt (h i hi)) hn]
  exact h i hi
namespace Frame
/-- A sum as four bytes. -/
def fourL (n : Nat) : List UInt8 := [UInt8.ofNat n, UInt8.ofNat (n / 256), UInt8.ofNat (n / 65536), UInt8.ofNat (n / 16777216)]
def sumL (seq : Nat) (body : List UInt8) : List UInt8 := fourL (Crc.addN 0 (Num.putL seq ++ body))
def dig (n k : Nat) : Value := .int .u8 ((n / 256 ^ k % 256 : Nat) : Int)
def zb : Value := .int .u8 0
def cellsAt (n : Nat) : Nat → Array Value
  | 0 => #[zb, zb, zb, zb]
  | 1 => #[dig n 0, zb, zb, zb]
  | 2 => #[dig n 0, dig n 1, zb, zb]
  | 3 => #[dig n 0, dig n 1, dig n 2, zb]
  | _ => #[dig n 0, dig n 1, dig n 2, dig n 3]
theorem cellsAt_end (n : Nat) : (cellsAt n 4).toList = Num.byteCells (fourL n) := by
  have e : ∀ m : Nat, (UInt8.ofNat m).toNat = m % 256 := fun m => by simp
  simp only [cellsAt, dig, fourL, Num.byteCells, List.map_cons, List.map_nil, e]
  simp
theorem cellsAt_step (n j : Nat) (h : j < 4) : (cellsAt n j).setIfInBounds j (dig n j) = cellsAt n (j + 1) := by
  rcases (show j = 0 ∨ j = 1 ∨ j = 2 ∨ j = 3 by omega) with rfl | rfl | rfl | rfl <;> rfl
theorem cellsAt_zero (n j : Nat) (h : j < 4) : (cellsAt n j)[j]? = some zb := by
  rcases (show j = 0 ∨ j = 1 ∨ j = 2 ∨ j = 3 by omega) with rfl | rfl | rfl | rfl <;> rfl
set_option maxRecDepth 100000 in
theorem sum_any (w : World) (seq : Nat) (body : ByteArray) (hq : seq < 18446744073709551616) (hb : body.size ≤ 1099511627776) (hT : Crc.TabOk w) :
    Calls Tryz.prog 94 #[.int .u64 seq, .string body] w fun e w' => e = .returned (.string ⟨(sumL seq body.data.toList).toArray⟩) ∧ Off None w w' := by
  have HT := Lib.hid hT; clear hT
  have hp10 := Num.putL_len hq
  have hsz : (⟨(Num.putL seq).toArray⟩ : ByteArray).size = (Num.putL seq).length := rfl
  go_enter Tryz.func94, Tryz.ntmps94
  go_wp2_with fail
  refine (Num.put_any w seq hq).mono ?_
  rintro e w1 ⟨rfl, ho1⟩
  go_wp2_with fail
  have hadd : (⟨(Num.putL seq).toArray⟩ ++ body : ByteArray).data.toList = Num.putL seq ++ body.data.toList := by simp
  have hsz2 : (⟨(Num.putL seq).toArray⟩ ++ body : ByteArray).size ≤ maxLen := by rw [ByteArray.size_append, hsz]; unfold maxLen; omega
  refine (Crc.sum_any _ w1 hsz2 (HT.out.off ho1 (fun h => h))).mono ?_
  rintro e w2 ⟨rfl, rfl⟩
  rw [hadd]
  have hlt : Crc.addN 0 (Num.putL seq ++ body.data.toList) < 4294967296 := Crc.addN_lt (by omega) _
  generalize hn : Crc.addN 0 (Num.putL seq ++ body.data.toList) = n at *
  have HN := Lib.hid hn; clear hn
  go_wp2_with fail
  obtain ⟨H, hH⟩ : ∃ H, H = w1.heap.size := ⟨_, rfl⟩
  have hge : w.heap.size ≤ H := by rw [hH]; exact ho1.size
  go_loopw [13] (fun i wr => ∃ j : Nat, j ≤ 4 ∧ i = .int .i64 j ∧ wr.heap[H]? = some (.cells (cellsAt n j) 178 (0, 0)) ∧ Off None w wr) (fun i _ => 4 - (intOf i).toNat)
  case atStart => exact ⟨0, by omega, rfl, by rw [hH]; exact Heap.alloc_new _ _, ho1.alloc _⟩
  case round =>
    obtain ⟨j, hj, rfl, hblk, ho⟩ := hrel
    rw [← hH] at *
    by_cases h4 : j < 4
    · have c0 : wr.cell? ⟨H, j, none⟩ = some (.int .u8 0) := by rw [Heap.cell hblk, cellsAt_zero n j h4]; rfl
      have f0 : wr.frozen? ⟨H, j, none⟩ = false := Heap.frozen hblk j
      go_wp2
      go_round
      case rel =>
        have ev : (Value.int IntKind.u8 ((n : Int) / 2 ^ (8 * j) % 256)) = dig n j := by
          unfold dig
          have e1 : (2 : Int) ^ (8 * j) = ((256 ^ j : Nat) : Int) := by rw [Int.pow_mul]; push_cast; rfl
          rw [e1]
          push_cast
          rfl
        rw [ev]
        refine ⟨j + 1, by omega, by go_num, ?_, ho.setCell (p := ⟨H, j, none⟩) (.inr hge) _⟩
        rw [Heap.set hblk j, cellsAt_step n j h4]
      case measure => simp [intOf]; omega
    · have e4 : j = 4 := by omega
      subst e4
      go_wp2
      have hcv : (convert 157 9 (.slice (some ⟨H, 0, none⟩) 4 4)).run Tryz.prog wr = .ok (.string ⟨(fourL n).toArray⟩) wr := by
        refine run_convert_bytes_back wr _ _ 5 ⟨H, 0, none⟩ 4 (fourL n) Tryz.underlying157 Tryz.underlying5 Tryz.underlying9 (fun j hj => ?_)
        rw [addr_add, Nat.zero_add, Heap.cell hblk, ← Array.getElem?_toList, cellsAt_end]
        simp [Num.byteCells, hj]
      rw [hcv]
      go_wp2
      go_ret
      refine ⟨?_, ho⟩
      unfold sumL
      rw [HN.out]
      rfl
end Frame
end Go.Proofs.YtnppdcegpojmbaaGreatDoor
