/- The walk of pick and of shown, at the head of the segment laws. -/
import Derived.Test.YtnppdcegpojmbaaGreatDoorHeld
namespace Go.Proofs.YtnppdcegpojmbaaGreatDoor
open Go Go.RowKit
namespace Law
theorem name3 : Seg.nameB 3 = ⟨#[115, 48, 48, 48, 48, 48, 48, 48, 48, 48, 48, 48, 48, 48, 48, 48, 48, 48, 48, 48, 51]⟩ := by kernel_rfl
theorem ret_int {a b : Int} (h : a = b) : Ending.returned (.int .i64 a) = Ending.returned (.int .i64 b) := by rw [h]
def pickI (c n : Int) : Int := (if c < 0 then -(c + 1) else c) % n
theorem pickI_bd (c n : Int) (hn : 0 < n) : 0 ≤ pickI c n ∧ pickI c n < n := ⟨Int.emod_nonneg _ (by omega), Int.emod_lt_of_pos _ hn⟩
theorem pick_any (c n : Int) (hc : -9223372036854775808 ≤ c) (hc' : c ≤ 9223372036854775807) (hn : 0 < n) (hn' : n ≤ 9223372036854775807) (w : World) :
    Calls Tryz.prog 15 #[.int .i64 c, .int .i64 n] w fun e w' => e = .returned (.int .i64 (pickI c n)) ∧ w = w' := by
  by_cases h : c < 0
  · have e : pickI c n = (-(c + 1)) % n := by unfold pickI; rw [if_pos h]
    have E := Lib.hid e; clear e
    go_enter Tryz.func15, Tryz.ntmps15
    go_wp2
    go_ret
    exact ⟨by rw [E.out]; exact ret_int (by rw [← Int.tmod_eq_emod_of_nonneg (by omega : 0 ≤ -(c + 1)), Int.neg_tmod]), rfl⟩
  · have e : pickI c n = c % n := by unfold pickI; rw [if_neg h]
    have E := Lib.hid e; clear e
    go_enter Tryz.func15, Tryz.ntmps15
    go_wp2
    go_ret
    exact ⟨by rw [E.out]; rfl, rfl⟩
theorem pick_nat (c : Int) (n : Nat) (hc : (Lit.int .i64 c).wf = true) (hn : 0 < n) (hn' : n ≤ 9223372036854775807) :
    ∃ p : Nat, p < n ∧ ∀ w : World, Calls Tryz.prog 15 #[.int .i64 c, .int .i64 n] w fun e w' => e = .returned (.int .i64 p) ∧ w' = w := by
  have hb := pickI_bd c n (by omega)
  have hw : -9223372036854775808 ≤ c ∧ c ≤ 9223372036854775807 := by
    simpa [Lit.wf, IntKind.min, IntKind.max, IntKind.bits, IntKind.signed] using hc
  refine ⟨(pickI c n).toNat, by omega, fun w => ?_⟩
  refine (pick_any c n hw.1 hw.2 (by omega) (by omega) w).mono ?_
  rintro e w' ⟨rfl, rfl⟩
  exact ⟨ret_int (by omega), rfl⟩
theorem strA : (⟨#[97]⟩ : ByteArray).data.toList = [97] := rfl
theorem one_len (q : Nat) (hq : q < 100) (x : UInt8) : (Frame.putF q [x]).length ≤ 25 := Frame.putF_len q [x] (by omega) (show (1 : Nat) ≤ 2000 by omega)
theorem sum_nil (f : Nat) : GoodLog.sum [⟨f, []⟩] = 0 := rfl
theorem sum_snoc (full : List Grp) (f : Nat) (bs : List (List UInt8)) (b : List UInt8) : GoodLog.sum (full ++ [⟨f, bs ++ [b]⟩]) = GoodLog.sum (full ++ [⟨f, bs⟩]) + (Frame.putF (f + bs.length) b).length := by
  unfold GoodLog.sum
  rw [List.map_append, List.map_append, List.sum_append, List.sum_append]
  simp only [List.map_cons, List.map_nil, List.sum_cons, List.sum_nil, Grp.txt, framesL_snoc, List.length_append]
  omega
theorem sum_roll (G : List Grp) (f : Nat) : GoodLog.sum (G ++ [⟨f, []⟩]) = GoodLog.sum G := by
  unfold GoodLog.sum
  rw [List.map_append, List.sum_append]
  rfl
theorem off_rest {n : Nat} {w0 w w' : World} (hw : w0.heap.size ≤ n) (h : Off (fun b => w0.heap.size ≤ b) w0 w) (h' : Off (Rest n None) w w') : Off (fun b => w0.heap.size ≤ b) w0 w' :=
  h.trans h' (fun _ _ hb => Nat.le_trans hw hb.1)
set_option maxHeartbeats 1000000 in
set_option maxRecDepth 100000 in
theorem shown_any (w : World) (n : Nat) (hG : Glob n w) (hn : n ≤ w.heap.size) :
    Calls Tryz.prog 10 #[] w fun e w' => e = .returned (.bool true) ∧ Off (fun b => w.heap.size ≤ b) w w' := by
  have HG := Lib.hid (⟨hG.crc, hG.pow, ⟨Nat.lt_of_lt_of_le hG.le.1 hn, Nat.lt_of_lt_of_le hG.le.2 hn⟩⟩ : Glob w.heap.size w); clear hG hn
  go_enter Tryz.func10, Tryz.ntmps10
  go_wp2_with fail
  refine (DiskW.new_any w 100 (by omega)).mono ?_
  rintro e w1 ⟨d, rfl, hd, ho1⟩
  have HD := Lib.hid hd; clear hd
  have HO1 := Lib.hid ho1; clear ho1
  go_wp2_with fail
  refine (Held.open_new (R := 100) w1 d w.heap.size _ HD.out (by omega) (fun b hb => hb) (HG.out.none HO1.out) HO1.out.size).mono ?_
  rintro e w2 ⟨lg, rfl, h2, ho2⟩
  have H2 := Lib.hid h2; clear h2
  have HO2 := Lib.hid ((HO1.out.mono (fun _ _ h => h.elim)).trans ho2 (fun b _ hb => hb.1) : Off (fun b => w.heap.size ≤ b) w w2); clear HO1 ho2
  have l1 := one_len 1 (by omega) 97
  have l2 := one_len 2 (by omega) 98
  have l3 := one_len 3 (by omega) 99
  have s1 : GoodLog.sum [⟨1, [[97]]⟩] = (Frame.putF 1 [97]).length := (sum_snoc [] 1 [] [97]).trans (by rw [List.nil_append, sum_nil, Nat.zero_add]; rfl)
  have s2 : GoodLog.sum [⟨1, [[97], [98]]⟩] = (Frame.putF 1 [97]).length + (Frame.putF 2 [98]).length := (sum_snoc [] 1 [[97]] [98]).trans (by rw [List.nil_append, s1]; rfl)
  have s3 : GoodLog.sum [⟨1, [[97], [98]]⟩, ⟨3, []⟩] = (Frame.putF 1 [97]).length + (Frame.putF 2 [98]).length := (sum_roll [⟨1, [[97], [98]]⟩] 3).trans s2
  go_wp2_with fail
  have a1 : Calls Tryz.prog 13 #[.pointer (some ⟨lg, 0, none⟩), .string ⟨#[97]⟩] w2 fun e w' =>
      e = .returned (.tuple #[.int .u64 1, .int .i64 0]) ∧ Held 100 w.heap.size 3 None w' lg d 0 1 [] ⟨1, [[97]]⟩ 0 ∧ Off (Rest w.heap.size None) w2 w' :=
    H2.out.append ⟨#[97]⟩ (by decide) (by show GoodLog.sum [⟨1, []⟩] + (Frame.putF 1 [97]).length ≤ 100; rw [sum_nil]; omega) (by decide) (by omega)
  refine a1.mono ?_
  clear a1 H2 HD
  rintro e w3 ⟨rfl, h3, ho3⟩
  have H3 := Lib.hid h3; clear h3
  have HO3 := Lib.hid (off_rest (Nat.le_refl _) HO2.out ho3); clear HO2 ho3
  go_wp2_with fail
  have a2 : Calls Tryz.prog 13 #[.pointer (some ⟨lg, 0, none⟩), .string ⟨#[98]⟩] w3 fun e w' =>
      e = .returned (.tuple #[.int .u64 2, .int .i64 0]) ∧ Held 100 w.heap.size 4 None w' lg d 0 1 [] ⟨1, [[97], [98]]⟩ 0 ∧ Off (Rest w.heap.size None) w3 w' :=
    H3.out.append ⟨#[98]⟩ (by decide) (by show GoodLog.sum [⟨1, [[97]]⟩] + (Frame.putF 2 [98]).length ≤ 100; rw [s1]; omega) (by decide) (by omega)
  refine a2.mono ?_
  clear a2 H3
  rintro e w4 ⟨rfl, h4, ho4⟩
  have H4 := Lib.hid h4; clear h4
  have HO4 := Lib.hid (off_rest (Nat.le_refl _) HO3.out ho4); clear HO3 ho4
  go_wp2_with fail
  have a3 : Calls Tryz.prog 16 #[.pointer (some ⟨lg, 0, none⟩)] w4 fun e w' =>
      e = .returned (.int .i64 0) ∧ Held 100 w.heap.size 6 None w' lg d 0 1 [⟨1, [[97], [98]]⟩] ⟨3, []⟩ 0 ∧ Off (Rest w.heap.size None) w4 w' :=
    H4.out.roll (by simp) (by omega) (by decide)
  refine a3.mono ?_
  clear a3 H4
  rintro e w5 ⟨rfl, h5, ho5⟩
  have H5 := Lib.hid h5; clear h5
  have HO5 := Lib.hid (off_rest (Nat.le_refl _) HO4.out ho5); clear HO4 ho5
  go_wp2_with fail
  have a4 : Calls Tryz.prog 13 #[.pointer (some ⟨lg, 0, none⟩), .string ⟨#[99]⟩] w5 fun e w' =>
      e = .returned (.tuple #[.int .u64 3, .int .i64 0]) ∧ Held 100 w.heap.size 7 None w' lg d 0 1 [⟨1, [[97], [98]]⟩] ⟨3, [[99]]⟩ 0 ∧ Off (Rest w.heap.size None) w5 w' :=
    H5.out.append ⟨#[99]⟩ (by decide) (by show GoodLog.sum [⟨1, [[97], [98]]⟩, ⟨3, []⟩] + (Frame.putF 3 [99]).length ≤ 100; rw [s3]; omega) (by decide) (by omega)
  refine a4.mono ?_
  clear a4 H5
  rintro e w6 ⟨rfl, h6, ho6⟩
  have H6 := Lib.hid h6; clear h6
  have HO6 := Lib.hid (off_rest (Nat.le_refl _) HO5.out ho6); clear HO5 ho6
  go_wp2_with fail
  have a5 : Calls Tryz.prog 17 #[.pointer (some ⟨lg, 0, none⟩)] w6 fun e w' => ∃ v, e = .returned v ∧ w'.ownsRow w6.heap.size 42 3 v 2 ([(⟨1, [[97], [98]]⟩ : Grp).seg, (⟨3, [[99]]⟩ : Grp).seg].flatMap segCells) ∧ Off None w6 w' :=
    H6.out.segs (by decide)
  refine a5.mono ?_
  clear a5
  rintro e w7 ⟨v, rfl, hr, ho7⟩
  obtain ⟨_, ⟨_, h0⟩ | ⟨g, cap, cur, rfl, hg, hb, hle, hmx, hsz, ht⟩⟩ := hr
  · exact absurd h0 (by decide)
  have hlim : (2 : Nat) ≤ cap := hle
  have hat : ∀ j, j < 6 → w7.cell? ⟨g, j, none⟩ = ([(⟨1, [[97], [98]]⟩ : Grp).seg, (⟨3, [[99]]⟩ : Grp).seg].flatMap segCells)[j]? := by
    intro j hj
    rw [Heap.cell hb, ← ht, List.getElem?_take_of_lt (by omega), Array.getElem?_toList]
  have c3 : w7.cell? ⟨g, 3, none⟩ = some (.int .u64 3) := hat 3 (by omega)
  have c4 : w7.cell? ⟨g, 4, none⟩ = some (.int .i64 1) := hat 4 (by omega)
  clear hat ht hb hg
  have HG7 := Lib.hid (HG.out.off (HO6.out.trans (ho7.mono (fun _ _ h => h.elim)) (fun _ _ h => h) : Off (fun b => w.heap.size ≤ b) w w7) (fun _ h => h))
  have HO7 := Lib.hid (HO6.out.trans (ho7.mono (fun _ _ h => h.elim)) (fun _ _ h => h) : Off (fun b => w.heap.size ≤ b) w w7)
  clear H6 HO6 ho7 l1 l2 l3 s1 s2 s3
  go_wp2_with fail
  have a6 := Seg.name_any w7 3 (by omega) HG7.out.pow
  rw [name3] at a6
  refine a6.mono ?_
  clear a6 HG7
  rintro e w8 ⟨rfl, ho8⟩
  have HO8 := Lib.hid (HO7.out.trans (ho8.mono (fun _ _ h => h.elim)) (fun _ _ h => h) : Off (fun b => w.heap.size ≤ b) w w8)
  clear HO7 ho8 c3 c4
  go_wp2
  go_ret
  exact ⟨rfl, HO8.out⟩
end Law
end Go.Proofs.YtnppdcegpojmbaaGreatDoor
