/- The walk of frame.sum. · The walks of frame.Put, frame.First, frame.Size. -/
import Derived.Test.YtnppdcegpojmbaaGreatDoorNum2
import Derived.Test.YtnppdcegpojmbaaGreatDoorCrcWalk
import Derived.Laws.ResultCell
import Derived.Laws.Rows
import Derived.Laws.NewBlocks
namespace Go.Proofs.YtnppdcegpojmbaaGreatDoor
open Go Go.RowKit
theorem addr_add (b o j : Nat) : (⟨b, o, none⟩ : Addr).add j = ⟨b, o + j, none⟩ := by unfold Addr.add; split <;> simp_all
theorem Crc.TabOk.off {G : Nat → Prop} {w w' : World} (h : Crc.TabOk w) (ho : Off G w w') (hn : ¬ G 1) : Crc.TabOk w' := fun i hi => by
  rw [ho.cell (a := ⟨1, i, none⟩) (Heap.block_lt (h i hi)) hn]
  exact h i hi
namespace Frame
/-- A sum as four bytes. -/
def fourL (n : Nat) : List UInt8 := [UInt8.ofNat n, UInt8.ofNat (n / 256), UInt8.ofNat (n / 65536), UInt8.ofNat (n / 16777216)]
def sumL (seq : Nat) (body : List UInt8) : List UInt8 := fourL (Crc.addN 0 (Num.putL seq ++ body))
def dig (n k : Nat) : Value := .int .u8 ((n / 256 ^ k % 256 : Nat) : Int)
def zb : Value := .int .u8 0
def cellsAt (n : Nat) : Nat → Array Value
  | 0 => #[zb, zb, zb, zb]
  | 1 => #[dig n 0, zb, zb, zb]
  | 2 => #[dig n 0, dig n 1, zb, zb]
  | 3 => #[dig n 0, dig n 1, dig n 2, zb]
  | _ => #[dig n 0, dig n 1, dig n 2, dig n 3]
theorem cellsAt_end (n : Nat) : (cellsAt n 4).toList = Num.byteCells (fourL n) := by
  have e : ∀ m : Nat, (UInt8.ofNat m).toNat = m % 256 := fun m => by simp
  simp only [cellsAt, dig, fourL, Num.byteCells, List.map_cons, List.map_nil, e]
  simp
theorem cellsAt_step (n j : Nat) (h : j < 4) : (cellsAt n j).setIfInBounds j (dig n j) = cellsAt n (j + 1) := by
  rcases (show j = 0 ∨ j = 1 ∨ j = 2 ∨ j = 3 by omega) with rfl | rfl | rfl | rfl <;> rfl
theorem cellsAt_zero (n j : Nat) (h : j < 4) : (cellsAt n j)[j]? = some zb := by
  rcases (show j = 0 ∨ j = 1 ∨ j = 2 ∨ j = 3 by omega) with rfl | rfl | rfl | rfl <;> rfl
set_option maxRecDepth 100000 in
theorem sum_any (w : World) (seq : Nat) (body : ByteArray) (hq : seq < 18446744073709551616) (hb : body.size ≤ 1099511627776) (hT : Crc.TabOk w) :
    Calls Tryz.prog 94 #[.int .u64 seq, .string body] w fun e w' => e = .returned (.string ⟨(sumL seq body.data.toList).toArray⟩) ∧ Off None w w' := by
  have HT := Lib.hid hT; clear hT
  have hp10 := Num.putL_len hq
  have hsz : (⟨(Num.putL seq).toArray⟩ : ByteArray).size = (Num.putL seq).length := rfl
  go_enter Tryz.func94, Tryz.ntmps94
  go_wp2_with fail
  refine (Num.put_any w seq hq).mono ?_
  rintro e w1 ⟨rfl, ho1⟩
  go_wp2_with fail
  have hadd : (⟨(Num.putL seq).toArray⟩ ++ body : ByteArray).data.toList = Num.putL seq ++ body.data.toList := by simp
  have hsz2 : (⟨(Num.putL seq).toArray⟩ ++ body : ByteArray).size ≤ maxLen := by rw [ByteArray.size_append, hsz]; unfold maxLen; omega
  refine (Crc.sum_any _ w1 hsz2 (HT.out.off ho1 (fun h => h))).mono ?_
  rintro e w2 ⟨rfl, rfl⟩
  rw [hadd]
  have hlt : Crc.addN 0 (Num.putL seq ++ body.data.toList) < 4294967296 := Crc.addN_lt (by omega) _
  generalize hn : Crc.addN 0 (Num.putL seq ++ body.data.toList) = n at *
  have HN := Lib.hid hn; clear hn
  go_wp2_with fail
  obtain ⟨H, hH⟩ : ∃ H, H = w1.heap.size := ⟨_, rfl⟩
  have hge : w.heap.size ≤ H := by rw [hH]; exact ho1.size
  go_loopw [13] (fun i wr => ∃ j : Nat, j ≤ 4 ∧ i = .int .i64 j ∧ wr.heap[H]? = some (.cells (cellsAt n j) 178 (0, 0)) ∧ Off None w wr) (fun i _ => 4 - (intOf i).toNat)
  case atStart => exact ⟨0, by omega, rfl, by rw [hH]; exact Heap.alloc_new _ _, ho1.alloc _⟩
  case round =>
    obtain ⟨j, hj, rfl, hblk, ho⟩ := hrel
    rw [← hH] at *
    by_cases h4 : j < 4
    · have c0 : wr.cell? ⟨H, j, none⟩ = some (.int .u8 0) := by rw [Heap.cell hblk, cellsAt_zero n j h4]; rfl
      have f0 : wr.frozen? ⟨H, j, none⟩ = false := Heap.frozen hblk j
      go_wp2
      go_round
      case rel =>
        have ev : (Value.int IntKind.u8 ((n : Int) / 2 ^ (8 * j) % 256)) = dig n j := by
          unfold dig
          have e1 : (2 : Int) ^ (8 * j) = ((256 ^ j : Nat) : Int) := by rw [Int.pow_mul]; push_cast; rfl
          rw [e1]
          push_cast
          rfl
        rw [ev]
        refine ⟨j + 1, by omega, by go_num, ?_, ho.setCell (p := ⟨H, j, none⟩) (.inr hge) _⟩
        rw [Heap.set hblk j, cellsAt_step n j h4]
      case measure => simp [intOf]; omega
    · have e4 : j = 4 := by omega
      subst e4
      go_wp2
      have hcv : (convert 157 9 (.slice (some ⟨H, 0, none⟩) 4 4)).run Tryz.prog wr = .ok (.string ⟨(fourL n).toArray⟩) wr := by
        refine run_convert_bytes_back wr _ _ 5 ⟨H, 0, none⟩ 4 (fourL n) Tryz.underlying157 Tryz.underlying5 Tryz.underlying9 (fun j hj => ?_)
        rw [addr_add, Nat.zero_add, Heap.cell hblk, ← Array.getElem?_toList, cellsAt_end]
        simp [Num.byteCells, hj]
      rw [hcv]
      go_wp2
      go_ret
      refine ⟨?_, ho⟩
      unfold sumL
      rw [HN.out]
      rfl
end Frame
end Go.Proofs.YtnppdcegpojmbaaGreatDoor
namespace Go.Proofs.YtnppdcegpojmbaaGreatDoor
open Go Go.RowKit
theorem str_of {s : ByteArray} {l : List UInt8} (h : s.data.toList = l) : s = ⟨l.toArray⟩ := by
  apply ByteArray.ext; apply Array.ext'; exact h
namespace Frame
abbrev MaxBody : Nat := 2000
def putF (seq : Nat) (body : List UInt8) : List UInt8 := Num.putL body.length ++ Num.putL seq ++ sumL seq body ++ body
structure FrameV where
  seq : Nat
  body : List UInt8
  size : Nat
/-- The frame that bytes begin with. -/
def firstL (l : List UInt8) : Option FrameV :=
  match Num.takeL 0 0 l with
  | none => none
  | some (n, r) =>
    if MaxBody < n then none
    else match Num.takeL 0 0 r with
      | none => none
      | some (q, r2) =>
        if r2.length < 4 + n then none
        else if r2.take 4 = sumL q ((r2.drop 4).take n) then some ⟨q, (r2.drop 4).take n, l.length - r2.length + 4 + n⟩
        else none
theorem sumL_length (q : Nat) (b : List UInt8) : (sumL q b).length = 4 := rfl
theorem first_put (q : Nat) (b r : List UInt8) (hb : b.length ≤ MaxBody) (hq : q < 18446744073709551616) : firstL (putF q b ++ r) = some ⟨q, b, (putF q b).length⟩ := by
  have e1 : putF q b ++ r = Num.putL b.length ++ (Num.putL q ++ (sumL q b ++ (b ++ r))) := by simp [putF, List.append_assoc]
  have hb64 : b.length < 18446744073709551616 := by unfold MaxBody at hb; omega
  unfold firstL
  rw [e1, Num.take_put _ _ hb64]
  dsimp only
  rw [if_neg (by omega), Num.take_put _ _ hq]
  dsimp only
  have e2 : (sumL q b ++ (b ++ r)).take 4 = sumL q b := by rw [← sumL_length q b, List.take_left]
  have e3 : (sumL q b ++ (b ++ r)).drop 4 = b ++ r := by rw [← sumL_length q b, List.drop_left]
  rw [if_neg (by simp [sumL_length]), e2, e3, List.take_left, if_pos rfl]
  congr 2
  simp only [List.length_append, sumL_length, putF]
  omega
set_option maxRecDepth 100000 in
theorem put_any (w : World) (seq : Nat) (body : ByteArray) (hq : seq < 18446744073709551616) (hb : body.size ≤ 140737488355328) (hT : Crc.TabOk w) :
    Calls Tryz.prog 50 #[.int .u64 seq, .string body] w fun e w' =>
      e = .returned (if MaxBody < body.size then .tuple #[.string ⟨#[]⟩, .int .i64 7] else .tuple #[.string ⟨(putF seq body.data.toList).toArray⟩, .int .i64 0]) ∧ Off None w w' := by
  have HT := Lib.hid hT; clear hT
  unfold MaxBody
  by_cases hm : 2000 < body.size
  · rw [if_pos hm]
    go_enter Tryz.func50, Tryz.ntmps50
    go_wp2
    go_ret2
    exact ⟨rfl, Off.refl _ _⟩
  · rw [if_neg hm]
    have hp10 := Num.putL_len hq
    have hpb : (Num.putL body.size).length ≤ 10 := Num.putL_len (by omega)
    have hsl : (⟨(sumL seq body.data.toList).toArray⟩ : ByteArray).size = 4 := rfl
    have h4 : (sumL seq body.data.toList).length = 4 := rfl
    go_enter Tryz.func50, Tryz.ntmps50
    go_wp2_with fail
    refine (Num.put_any _ body.size (by omega)).mono ?_
    rintro e w1 ⟨rfl, ho1⟩
    go_wp2_with fail
    refine (Num.put_any _ seq hq).mono ?_
    rintro e w2 ⟨rfl, ho2⟩
    go_wp2_with fail
    refine (sum_any _ seq body hq (by omega) (HT.out.off (ho1.trans ho2 (fun _ _ h => h)) (fun h => h))).mono ?_
    rintro e w3 ⟨rfl, ho3⟩
    have HO := Lib.hid ((ho1.trans ho2 (fun _ _ h => h)).trans ho3 (fun _ _ h => h))
    clear ho1 ho2 ho3
    go_wp2
    go_ret2
    refine ⟨?_, HO.out⟩
    have e : (⟨(Num.putL body.size).toArray⟩ ++ ⟨(Num.putL seq).toArray⟩ ++ ⟨(sumL seq body.data.toList).toArray⟩ ++ body : ByteArray) = ⟨(putF seq body.data.toList).toArray⟩ := by
      refine str_of ?_
      have ha : ∀ a b : ByteArray, (a ++ b).data.toList = a.data.toList ++ b.data.toList := fun a b => by simp
      rw [ha, ha, ha]
      show Num.putL body.size ++ Num.putL seq ++ sumL seq body.data.toList ++ body.data.toList = putF seq body.data.toList
      unfold putF
      rw [show body.data.toList.length = body.size from Array.length_toList]
    show Ending.returned (.tuple #[.string (⟨(Num.putL body.size).toArray⟩ ++ ⟨(Num.putL seq).toArray⟩ ++ ⟨(sumL seq body.data.toList).toArray⟩ ++ body : ByteArray), .int .i64 0]) = _
    rw [e]
theorem putF_len (seq : Nat) (body : List UInt8) (hq : seq < 18446744073709551616) (hb : body.length ≤ MaxBody) : (putF seq body).length ≤ body.length + 24 := by
  have h1 := Num.putL_len hq
  have h2 := Num.putL_len (n := body.length) (by unfold MaxBody at hb; omega)
  simp only [putF, List.length_append, sumL_length]
  omega
set_option maxRecDepth 100000 in
theorem size_any (w : World) (seq : Nat) (body : ByteArray) (hq : seq < 18446744073709551616) (hb : body.size ≤ MaxBody) (hT : Crc.TabOk w) :
    Calls Tryz.prog 14 #[.int .u64 seq, .string body] w fun e w' => e = .returned (.int .i64 ((putF seq body.data.toList).length : Nat)) ∧ Off None w w' := by
  have hp := put_any w seq body hq (Nat.le_trans hb (by decide)) hT
  rw [if_neg (by omega)] at hp
  have HP := Lib.hid hp; clear hp hT
  have hl := putF_len seq body.data.toList hq (by simpa using hb)
  have hsz : (⟨(putF seq body.data.toList).toArray⟩ : ByteArray).size = (putF seq body.data.toList).length := rfl
  go_enter Tryz.func14, Tryz.ntmps14
  go_wp2_with fail
  refine HP.out.mono ?_
  rintro e w1 ⟨rfl, ho1⟩
  have HO := Lib.hid ho1; clear ho1
  go_wp2
  go_ret
  exact ⟨rfl, HO.out⟩
theorem results_row_tmp {P : Program} {fn : Func} {p u : Tmp} {ty : TypeId} (h : fn.results = #[.cell p ty, .tmp u]) (tmps : Array Value) (w : World) (g : Nat) (t : TypeId) (cs : Array Value) (fr : Nat × Nat) (d : TypeDesc)
    (hp : tmps.getD p undef = .pointer (some ⟨g, 0, none⟩)) (hg : w.heap[g]? = some (.cells cs t fr))
    (hu : P.underlying ty = some d) (hd : (match d with | .struct _ | .array _ _ => true | _ => false) = true) (hi : (P.info? ty).map (·.size) = some cs.size) :
    (results fn tmps).run P w = .ok (.tuple #[.agg cs, tmps.getD u undef]) w := by
  rw [results_cell_tmp h, hp]
  simp [asAddr, Result.andThen, run_loadVar_row w g t ty cs fr d hg hu hd hi]
theorem infoFrame : (Tryz.prog.info? 109).map (·.size) = some 3 := by kernel_rfl
theorem box3 {w : World} {b : Nat} {a0 a1 a2 : Value} {t : TypeId} {fr : Nat × Nat} (h : w.heap[b]? = some (.cells #[a0, a1, a2] t fr)) (v0 v1 v2 : Value) :
    (((w.setCell ⟨b, 0, none⟩ v0).setCell ⟨b, 1, none⟩ v1).setCell ⟨b, 2, none⟩ v2).heap[b]? = some (.cells #[v0, v1, v2] t fr) :=
  (Heap.set (Heap.set (Heap.set h 0 v0) 1 v1) 2 v2).trans rfl
/-- What First returns. -/
def firstR (s : ByteArray) : Value :=
  match firstL s.data.toList with
  | some f => .tuple #[.agg #[.int .u64 f.seq, .string ⟨f.body.toArray⟩, .int .i64 f.size], .int .i64 0]
  | none => .tuple #[.agg #[.int .u64 0, .string ⟨#[]⟩, .int .i64 0], .int .i64 2]
set_option maxHeartbeats 2000000 in
set_option maxRecDepth 100000 in
theorem first_any (w : World) (s : ByteArray) (hs : s.size ≤ 1099511627776) (hT : Crc.TabOk w) :
    Calls Tryz.prog 130 #[.string s] w fun e w' => e = .returned (firstR s) ∧ Off None w w' := by
  have HT := Lib.hid hT; clear hT
  have ht := fun w => Num.take_any w s (Nat.le_trans hs (by decide))
  obtain ⟨wb, hwb⟩ : ∃ wb, wb = w.alloc (.cells #[.int .u64 0, .string ⟨#[]⟩, .int .i64 0] 109) := ⟨_, rfl⟩
  have hbox : wb.heap[w.heap.size]? = some (.cells #[.int .u64 0, .string ⟨#[]⟩, .int .i64 0] 109 (0, 0)) := by rw [hwb]; exact Heap.alloc_new _ _
  have hob : Off None w wb := by rw [hwb]; exact (Off.refl _ _).alloc _
  cases h1 : Num.takeL 0 0 s.data.toList with
  | none =>
    have ht := fun w => Num.takeR_none h1 ▸ ht w
    have HTA := Lib.hid ht; clear ht
    have H1 := Lib.hid h1; clear h1
    go_enter Tryz.func130, Tryz.ntmps130
    go_wp2_with fail
    rw [← hwb]
    refine (HTA.out wb).mono ?_
    rintro e w1 ⟨rfl, ho1⟩
    have hb1 := ho1.at_ hbox (fun h => h)
    have c0 : w1.cell? ⟨w.heap.size, 0, none⟩ = some (.int .u64 0) := Heap.cell hb1 0
    have c1 : w1.cell? ⟨w.heap.size, 1, none⟩ = some (.string ⟨#[]⟩) := Heap.cell hb1 1
    have c2 : w1.cell? ⟨w.heap.size, 2, none⟩ = some (.int .i64 0) := Heap.cell hb1 2
    have f0 : w1.frozen? ⟨w.heap.size, 0, none⟩ = false := Heap.frozen hb1 0
    have f1 : w1.frozen? ⟨w.heap.size, 1, none⟩ = false := Heap.frozen hb1 1
    have f2 : w1.frozen? ⟨w.heap.size, 2, none⟩ = false := Heap.frozen hb1 2
    have HO := Lib.hid (hob.trans ho1 (fun _ _ h => h))
    go_wp2
    refine bodyPost_ret_by (results_row_tmp rfl _ _ w.heap.size _ _ _ _ rfl (box3 hb1 _ _ _) Tryz.underlying109 rfl infoFrame) rfl ⟨?_, ?_⟩
    · unfold firstR firstL; rw [H1.out]; rfl
    · exact ((HO.out.setCell (p := ⟨w.heap.size, 0, none⟩) (.inr (Nat.le_refl _)) _).setCell (p := ⟨w.heap.size, 1, none⟩) (.inr (Nat.le_refl _)) _).setCell (p := ⟨w.heap.size, 2, none⟩) (.inr (Nat.le_refl _)) _
  | some p =>
    obtain ⟨n, r⟩ := p
    have hl1 := Num.take_lt h1
    have hsl : s.data.toList.length = s.size := Array.length_toList
    have ht2 := fun w => Num.takeR_some h1 ▸ ht w
    have HTA := Lib.hid ht2; clear ht ht2
    have H1 := Lib.hid h1; clear h1
    have hrs : (⟨r.toArray⟩ : ByteArray).size = r.length := rfl
    by_cases hn : 2000 < n
    · have hn' : (2000 : Int) < n := by omega
      go_enter Tryz.func130, Tryz.ntmps130
      go_wp2_with fail
      rw [← hwb]
      refine (HTA.out wb).mono ?_
      rintro e w1 ⟨rfl, ho1⟩
      have hb1 := ho1.at_ hbox (fun h => h)
      have c0 : w1.cell? ⟨w.heap.size, 0, none⟩ = some (.int .u64 0) := Heap.cell hb1 0
      have c1 : w1.cell? ⟨w.heap.size, 1, none⟩ = some (.string ⟨#[]⟩) := Heap.cell hb1 1
      have c2 : w1.cell? ⟨w.heap.size, 2, none⟩ = some (.int .i64 0) := Heap.cell hb1 2
      have f0 : w1.frozen? ⟨w.heap.size, 0, none⟩ = false := Heap.frozen hb1 0
      have f1 : w1.frozen? ⟨w.heap.size, 1, none⟩ = false := Heap.frozen hb1 1
      have f2 : w1.frozen? ⟨w.heap.size, 2, none⟩ = false := Heap.frozen hb1 2
      have HO := Lib.hid (hob.trans ho1 (fun _ _ h => h))
      go_wp2
      refine bodyPost_ret_by (results_row_tmp rfl _ _ w.heap.size _ _ _ _ rfl (box3 hb1 _ _ _) Tryz.underlying109 rfl infoFrame) rfl ⟨?_, ?_⟩
      · unfold firstR firstL; rw [H1.out]; dsimp only; rw [if_pos hn]; rfl
      · exact ((HO.out.setCell (p := ⟨w.heap.size, 0, none⟩) (.inr (Nat.le_refl _)) _).setCell (p := ⟨w.heap.size, 1, none⟩) (.inr (Nat.le_refl _)) _).setCell (p := ⟨w.heap.size, 2, none⟩) (.inr (Nat.le_refl _)) _
    · have hn' : ¬ ((2000 : Int) < n) := by omega
      have ht := fun w => Num.take_any w ⟨r.toArray⟩ (by rw [hrs]; unfold maxLen; omega)
      cases h2 : Num.takeL 0 0 r with
      | none =>
        have ht := fun w => Num.takeR_none (s := ⟨r.toArray⟩) h2 ▸ ht w
        have HTB := Lib.hid ht; clear ht
        have H2 := Lib.hid h2; clear h2
        go_enter Tryz.func130, Tryz.ntmps130
        go_wp2_with fail
        rw [← hwb]
        refine (HTA.out wb).mono ?_
        rintro e w0 ⟨rfl, ho0⟩
        go_wp2_with fail
        refine (HTB.out w0).mono ?_
        rintro e w1 ⟨rfl, ho1⟩
        have ho01 := ho0.trans ho1 (fun _ _ h => h)
        have hb1 := ho01.at_ hbox (fun h => h)
        have HO := Lib.hid (hob.trans ho01 (fun _ _ h => h))
        clear ho0 ho1 ho01
        have c0 : w1.cell? ⟨w.heap.size, 0, none⟩ = some (.int .u64 0) := Heap.cell hb1 0
        have c1 : w1.cell? ⟨w.heap.size, 1, none⟩ = some (.string ⟨#[]⟩) := Heap.cell hb1 1
        have c2 : w1.cell? ⟨w.heap.size, 2, none⟩ = some (.int .i64 0) := Heap.cell hb1 2
        have f0 : w1.frozen? ⟨w.heap.size, 0, none⟩ = false := Heap.frozen hb1 0
        have f1 : w1.frozen? ⟨w.heap.size, 1, none⟩ = false := Heap.frozen hb1 1
        have f2 : w1.frozen? ⟨w.heap.size, 2, none⟩ = false := Heap.frozen hb1 2
        go_wp2
        refine bodyPost_ret_by (results_row_tmp rfl _ _ w.heap.size _ _ _ _ rfl (box3 hb1 _ _ _) Tryz.underlying109 rfl infoFrame) rfl ⟨?_, ?_⟩
        · unfold firstR firstL; rw [H1.out]; dsimp only; rw [if_neg hn, H2.out]; rfl
        · exact ((HO.out.setCell (p := ⟨w.heap.size, 0, none⟩) (.inr (Nat.le_refl _)) _).setCell (p := ⟨w.heap.size, 1, none⟩) (.inr (Nat.le_refl _)) _).setCell (p := ⟨w.heap.size, 2, none⟩) (.inr (Nat.le_refl _)) _
      | some p2 =>
        obtain ⟨q, r2⟩ := p2
        have hl2 := Num.take_lt h2
        have ht := fun w => Num.takeR_some (s := ⟨r.toArray⟩) h2 ▸ ht w
        have HTB := Lib.hid ht; clear ht
        have H2 := Lib.hid h2; clear h2
        have hrs2 : (⟨r2.toArray⟩ : ByteArray).size = r2.length := rfl
        by_cases h4 : r2.length < 4 + n
        · have h4' : (r2.length : Int) < 4 + n := by omega
          go_enter Tryz.func130, Tryz.ntmps130
          go_wp2_with fail
          rw [← hwb]
          refine (HTA.out wb).mono ?_
          rintro e w0 ⟨rfl, ho0⟩
          go_wp2_with fail
          refine (HTB.out w0).mono ?_
          rintro e w1 ⟨rfl, ho1⟩
          have ho01 := ho0.trans ho1 (fun _ _ h => h)
          have hb1 := ho01.at_ hbox (fun h => h)
          have HO := Lib.hid (hob.trans ho01 (fun _ _ h => h))
          clear ho0 ho1 ho01
          have c0 : w1.cell? ⟨w.heap.size, 0, none⟩ = some (.int .u64 0) := Heap.cell hb1 0
          have c1 : w1.cell? ⟨w.heap.size, 1, none⟩ = some (.string ⟨#[]⟩) := Heap.cell hb1 1
          have c2 : w1.cell? ⟨w.heap.size, 2, none⟩ = some (.int .i64 0) := Heap.cell hb1 2
          have f0 : w1.frozen? ⟨w.heap.size, 0, none⟩ = false := Heap.frozen hb1 0
          have f1 : w1.frozen? ⟨w.heap.size, 1, none⟩ = false := Heap.frozen hb1 1
          have f2 : w1.frozen? ⟨w.heap.size, 2, none⟩ = false := Heap.frozen hb1 2
          go_wp2
          refine bodyPost_ret_by (results_row_tmp rfl _ _ w.heap.size _ _ _ _ rfl (box3 hb1 _ _ _) Tryz.underlying109 rfl infoFrame) rfl ⟨?_, ?_⟩
          · unfold firstR firstL; rw [H1.out]; dsimp only; rw [if_neg hn, H2.out]; dsimp only; rw [if_pos h4]; rfl
          · exact ((HO.out.setCell (p := ⟨w.heap.size, 0, none⟩) (.inr (Nat.le_refl _)) _).setCell (p := ⟨w.heap.size, 1, none⟩) (.inr (Nat.le_refl _)) _).setCell (p := ⟨w.heap.size, 2, none⟩) (.inr (Nat.le_refl _)) _
        · have h4' : ¬ ((r2.length : Int) < 4 + n) := by omega
          go_enter Tryz.func130, Tryz.ntmps130
          go_wp2_with fail
          rw [← hwb]
          refine (HTA.out wb).mono ?_
          rintro e w0 ⟨rfl, ho0⟩
          go_wp2_with fail
          refine (HTB.out w0).mono ?_
          rintro e w1 ⟨rfl, ho1⟩
          have ho01 := ho0.trans ho1 (fun _ _ h => h)
          have hb1 := ho01.at_ hbox (fun h => h)
          have HO := Lib.hid (hob.trans ho01 (fun _ _ h => h))
          clear ho0 ho1 ho01
          go_wp2_with fail
          have hbody : ((⟨r2.toArray⟩ : ByteArray).extract 4 (4 + n)).data.toList = (r2.drop 4).take n := by
            rw [ByteArray.data_extract, Array.toList_extract, List.extract_eq_take_drop, Nat.add_sub_cancel_left]
          have hfour : (⟨r2.toArray⟩ : ByteArray).extract 0 4 = ⟨(r2.take 4).toArray⟩ := str_of (by
            rw [ByteArray.data_extract, Array.toList_extract, List.extract_eq_take_drop]; rfl)
          have hbs : ((⟨r2.toArray⟩ : ByteArray).extract 4 (4 + n)).size ≤ 1099511627776 := by
            rw [ByteArray.size_extract, hrs2]; omega
          have hsm := fun W (h : Crc.TabOk W) => sum_any W q ((⟨r2.toArray⟩ : ByteArray).extract 4 (4 + n)) hl2.1 hbs h
          rw [hbody] at hsm
          have HSM := Lib.hid hsm; clear hsm
          have HB := Lib.hid hbody; clear hbody
          have HF := Lib.hid hfour; clear hfour
          have HB1 := Lib.hid hb1; clear hb1
          have h44 : (4 : Int) ≤ (r2.length : Int) := by omega
          go_region_held3 (fun _ => True) (trivial) (first | (go_at_call 94; refine (HSM.out _ (HT.out.off HO.out.drew (fun h => h))).mono ?_; rintro e w2 ⟨rfl, ho2⟩))
          rw [HF.out]
          have hb2 := ho2.at_ (w := w1.drew) HB1.out (fun h => h)
          have c0 : w2.cell? ⟨w.heap.size, 0, none⟩ = some (.int .u64 0) := Heap.cell hb2 0
          have c1 : w2.cell? ⟨w.heap.size, 1, none⟩ = some (.string ⟨#[]⟩) := Heap.cell hb2 1
          have c2 : w2.cell? ⟨w.heap.size, 2, none⟩ = some (.int .i64 0) := Heap.cell hb2 2
          have f0 : w2.frozen? ⟨w.heap.size, 0, none⟩ = false := Heap.frozen hb2 0
          have f1 : w2.frozen? ⟨w.heap.size, 1, none⟩ = false := Heap.frozen hb2 1
          have f2 : w2.frozen? ⟨w.heap.size, 2, none⟩ = false := Heap.frozen hb2 2
          have HO2 := Lib.hid (HO.out.trans (Off.trans ((Off.refl None w1).drew) ho2 (fun _ _ h => h)) (fun _ _ h => h))
          have HB2 := Lib.hid hb2; clear hb2 ho2
          have htl : (⟨(r2.take 4).toArray⟩ : ByteArray).toList = r2.take 4 := by rw [Heap.toList_data]
          by_cases heq : r2.take 4 = sumL q ((r2.drop 4).take n)
          · have e1 : (!(⟨(r2.take 4).toArray⟩ : ByteArray).toList == sumL q ((r2.drop 4).take n)) = false := by rw [htl, heq]; simp
            have HQ := Lib.hid heq; clear heq htl
            go_wp2
            all_goals try (rename_i h; rw [e1] at h; cases h)
            have hvb : ((⟨r2.toArray⟩ : ByteArray).extract 4 (4 + n)) = ⟨((r2.drop 4).take n).toArray⟩ := str_of HB.out
            have hvs : ((s.size : Int) - r2.length + 4 + n) = ((s.data.toList.length - r2.length + 4 + n : Nat) : Int) := by omega
            rw [hvb, hvs]
            refine bodyPost_ret_by (results_row_tmp rfl _ _ w.heap.size _ _ _ _ rfl (box3 HB2.out _ _ _) Tryz.underlying109 rfl infoFrame) rfl ⟨?_, ?_⟩
            · unfold firstR firstL; rw [H1.out]; dsimp only; rw [if_neg hn, H2.out]; dsimp only; rw [if_neg h4, if_pos HQ.out]; rfl
            · exact ((HO2.out.setCell (p := ⟨w.heap.size, 0, none⟩) (.inr (Nat.le_refl _)) _).setCell (p := ⟨w.heap.size, 1, none⟩) (.inr (Nat.le_refl _)) _).setCell (p := ⟨w.heap.size, 2, none⟩) (.inr (Nat.le_refl _)) _
          · have e1 : (!(⟨(r2.take 4).toArray⟩ : ByteArray).toList == sumL q ((r2.drop 4).take n)) = true := by rw [htl]; simpa using heq
            have HQ := Lib.hid heq; clear heq htl
            go_wp2
            all_goals try (rename_i h; rw [e1] at h; cases h)
            refine bodyPost_ret_by (results_row_tmp rfl _ _ w.heap.size _ _ _ _ rfl (box3 HB2.out _ _ _) Tryz.underlying109 rfl infoFrame) rfl ⟨?_, ?_⟩
            · unfold firstR firstL; rw [H1.out]; dsimp only; rw [if_neg hn, H2.out]; dsimp only; rw [if_neg h4, if_neg HQ.out]; rfl
            · exact ((HO2.out.setCell (p := ⟨w.heap.size, 0, none⟩) (.inr (Nat.le_refl _)) _).setCell (p := ⟨w.heap.size, 1, none⟩) (.inr (Nat.le_refl _)) _).setCell (p := ⟨w.heap.size, 2, none⟩) (.inr (Nat.le_refl _)) _
end Frame
end Go.Proofs.YtnppdcegpojmbaaGreatDoor
