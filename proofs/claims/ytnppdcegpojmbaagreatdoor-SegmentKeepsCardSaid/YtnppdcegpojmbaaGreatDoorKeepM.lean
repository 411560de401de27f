/- A front of frames' bytes is scanned as a front of the frames. No walk stands here. · What a segment's file may be behind a power cut: a front of the bytes of a row that stood there. No walk stands here. -/
import Derived.Test.YtnppdcegpojmbaaGreatDoorPlain7
import Derived.Test.YtnppdcegpojmbaaGreatDoorCrashM
namespace Go.Proofs.YtnppdcegpojmbaaGreatDoor
namespace Num
theorem take_short (n : Nat) : ∀ (j i a : Nat), j < (putL n).length → takeL i a ((putL n).take j) = none := by
  induction n using Nat.strongRecOn with
  | ind n ih =>
    intro j i a hj
    cases j with
    | zero => rw [List.take_zero, takeL]
    | succ j =>
      by_cases h : n < 128
      · rw [putL_small h] at hj
        exact absurd hj (by simp)
      · rw [putL_more h, List.length_cons] at hj
        rw [putL_more h, List.take_succ_cons, takeL]
        have hc : (UInt8.ofNat (n % 128 + 128)).toNat = n % 128 + 128 := by rw [UInt8.toNat_ofNat']; omega
        split
        · rfl
        · rw [hc, if_neg (by omega)]
          exact ih (n / 128) (by omega) j _ _ (by omega)
end Num
namespace Frame
theorem first_short (q : Nat) (b : List UInt8) (hb : b.length ≤ MaxBody) (hq : q < 18446744073709551616) {n : Nat} (hn : n < (putF q b).length) : firstL ((putF q b).take n) = none := by
  have e1 : putF q b = Num.putL b.length ++ (Num.putL q ++ (sumL q b ++ b)) := by simp [putF, List.append_assoc]
  have hb64 : b.length < 18446744073709551616 := by unfold MaxBody at hb; omega
  rw [e1] at hn ⊢
  rw [List.length_append, List.length_append, List.length_append, sumL_length] at hn
  unfold firstL
  rw [List.take_append]
  by_cases h1 : n < (Num.putL b.length).length
  · rw [show n - (Num.putL b.length).length = 0 by omega, List.take_zero, List.append_nil, Num.take_short _ _ _ _ h1]
  · rw [List.take_of_length_le (by omega : (Num.putL b.length).length ≤ n), Num.take_put _ _ hb64]
    dsimp only
    rw [if_neg (by omega), List.take_append]
    by_cases h2 : n - (Num.putL b.length).length < (Num.putL q).length
    · rw [show n - (Num.putL b.length).length - (Num.putL q).length = 0 by omega, List.take_zero, List.append_nil, Num.take_short _ _ _ _ h2]
    · rw [List.take_of_length_le (by omega : (Num.putL q).length ≤ n - (Num.putL b.length).length), Num.take_put _ _ hq]
      dsimp only
      rw [if_pos]
      rw [List.length_take, List.length_append, sumL_length]
      omega
end Frame
/-- A front of the bytes of some frames: the frames that are there whole. -/
theorem scan_cut (bs : List (List UInt8)) (hb : ∀ b ∈ bs, b.length ≤ 2000) : ∀ (f n : Nat), f + bs.length ≤ 18446744073709551616 → n ≤ (framesL f bs).length →
    ∃ j, j ≤ bs.length ∧ (framesL f (bs.take j)).length ≤ n ∧ (j < bs.length → n < (framesL f (bs.take (j + 1))).length) ∧ Frame.scanL ((framesL f bs).take n) = Frame.scanL (framesL f (bs.take j)) := by
  induction bs with
  | nil =>
    intro f n _ _
    exact ⟨0, Nat.le_refl _, Nat.zero_le _, fun h => absurd h (by simp), by rw [framesL, List.take_nil]; rfl⟩
  | cons b r ih =>
    intro f n hf hn
    rw [List.length_cons] at hf
    have hb0 := hb b (by simp)
    rw [framesL] at hn ⊢
    rw [List.length_append] at hn
    by_cases h : n < (Frame.putF f b).length
    · refine ⟨0, Nat.zero_le _, by rw [List.take_zero, framesL]; exact Nat.zero_le _, fun _ => ?_, ?_⟩
      · rw [List.take_succ_cons, List.take_zero, framesL, framesL, List.append_nil]; exact h
      · rw [List.take_append, show n - (Frame.putF f b).length = 0 by omega, List.take_zero, List.append_nil, Frame.scanL_none (Frame.first_short f b hb0 (by omega) h), List.take_zero, framesL, Frame.scanL_none firstL_nil]
    · obtain ⟨j, j1, j2, j3, j4⟩ := ih (fun x hx => hb x (by simp [hx])) (f + 1) (n - (Frame.putF f b).length) (by omega) (by omega)
      refine ⟨j + 1, by rw [List.length_cons]; omega, ?_, fun hj => ?_, ?_⟩
      · rw [List.take_succ_cons, framesL, List.length_append]; omega
      · have := j3 (by rw [List.length_cons] at hj; omega)
        rw [List.take_succ_cons, framesL, List.length_append]; omega
      · have e1 := Frame.first_put f b ((framesL (f + 1) r).take (n - (Frame.putF f b).length)) hb0 (by omega)
        have e2 := Frame.first_put f b (framesL (f + 1) (r.take j)) hb0 (by omega)
        rw [List.take_append, List.take_of_length_le (by omega : (Frame.putF f b).length ≤ n), Frame.scanL_some e1, List.take_succ_cons, framesL, Frame.scanL_some e2]
        have d1 : (Frame.putF f b ++ (framesL (f + 1) r).take (n - (Frame.putF f b).length)).drop (Frame.putF f b).length = (framesL (f + 1) r).take (n - (Frame.putF f b).length) := List.drop_left
        have d2 : (Frame.putF f b ++ framesL (f + 1) (r.take j)).drop (Frame.putF f b).length = framesL (f + 1) (r.take j) := List.drop_left
        rw [d1, d2, j4]
end Go.Proofs.YtnppdcegpojmbaaGreatDoor
namespace Go.Proofs.YtnppdcegpojmbaaGreatDoor
/-- What is done to the active segment since it was durable: a body more, or all since taken away. -/
inductive Ev where
  | app (b : List UInt8)
  | cut
def chgsOf (f : Nat) (bs0 : List (List UInt8)) : List (List UInt8) → List Ev → List Chg
  | _, [] => []
  | es, .app b :: r => ⟨⟨(Frame.putF (f + (bs0 ++ es).length) b).toArray⟩, -1⟩ :: chgsOf f bs0 (es ++ [b]) r
  | _, .cut :: r => ⟨ByteArray.empty, ((framesL f bs0).length : Nat)⟩ :: chgsOf f bs0 [] r
/-- All rows that stood there. -/
def rowsOf : List (List UInt8) → List Ev → List (List (List UInt8))
  | es, [] => [es]
  | es, .app b :: r => es :: rowsOf (es ++ [b]) r
  | es, .cut :: r => es :: rowsOf [] r
theorem rowsOf_head (es : List (List UInt8)) (evs : List Ev) : es ∈ rowsOf es evs := by
  cases evs with
  | nil => exact List.mem_singleton.2 rfl
  | cons e r => cases e <;> exact List.mem_cons_self
theorem framesL_append (a b : List (List UInt8)) : ∀ f, framesL f (a ++ b) = framesL f a ++ framesL (f + a.length) b := by
  induction a with
  | nil => intro f; rfl
  | cons x r ih =>
    intro f
    rw [List.cons_append, framesL, framesL, ih, List.append_assoc, List.length_cons, show f + 1 + r.length = f + (r.length + 1) by omega]
theorem atGo_stop (s : ByteArray) (l : List Chg) : atGo s l 0 = s := by
  cases l with
  | nil => rfl
  | cons c r => unfold atGo; rw [if_pos (Int.le_refl _)]
theorem at_rows (f : Nat) (bs0 : List (List UInt8)) (evs : List Ev) : ∀ (es : List (List UInt8)) (m : Int) (s : ByteArray), s.data.toList = framesL f (bs0 ++ es) →
    ∃ row, row ∈ rowsOf es evs ∧ ∃ n, (framesL f bs0).length ≤ n ∧ n ≤ (framesL f (bs0 ++ row)).length ∧ (atGo s (chgsOf f bs0 es evs) m).data.toList = (framesL f (bs0 ++ row)).take n := by
  induction evs with
  | nil =>
    intro es m s hs
    refine ⟨es, rowsOf_head _ _, (framesL f (bs0 ++ es)).length, ?_, Nat.le_refl _, ?_⟩
    · rw [framesL_append, List.length_append]; omega
    · rw [List.take_length]; exact hs
  | cons e r ih =>
    intro es m s hs
    have hlen : (framesL f bs0).length ≤ (framesL f (bs0 ++ es)).length := by rw [framesL_append, List.length_append]; omega
    have hsz : s.size = (framesL f (bs0 ++ es)).length := by rw [← hs]; simp
    by_cases hm : m ≤ 0
    · refine ⟨es, rowsOf_head _ _, (framesL f (bs0 ++ es)).length, hlen, Nat.le_refl _, ?_⟩
      rw [List.take_length, ← hs]
      cases e <;> (unfold chgsOf atGo; rw [if_pos hm])
    · cases e with
      | app b =>
        obtain ⟨fr, hfr⟩ : ∃ fr : ByteArray, fr = ⟨(Frame.putF (f + (bs0 ++ es).length) b).toArray⟩ := ⟨_, rfl⟩
        have hfl : fr.data.toList = Frame.putF (f + (bs0 ++ es).length) b := by rw [hfr]
        have hfs : fr.size = (Frame.putF (f + (bs0 ++ es).length) b).length := by rw [← hfl]; simp
        have hnew : framesL f (bs0 ++ (es ++ [b])) = framesL f (bs0 ++ es) ++ Frame.putF (f + (bs0 ++ es).length) b := by
          rw [← List.append_assoc]; exact framesL_snoc (bs0 ++ es) b f
        have hstep : atGo s (chgsOf f bs0 es (.app b :: r)) m = atGo (s ++ fr.extract 0 (min m fr.size).toNat) (chgsOf f bs0 (es ++ [b]) r) (m - min m fr.size) := by
          rw [chgsOf, atGo, if_neg hm, if_neg (by simp), ← hfr]
        rw [hstep]
        have hdata : (s ++ fr.extract 0 (min m fr.size).toNat).data.toList = framesL f (bs0 ++ es) ++ (Frame.putF (f + (bs0 ++ es).length) b).take (min m fr.size).toNat := by
          rw [← hs, ← hfl]
          simp
        by_cases hk : (fr.size : Int) ≤ m
        · have e1 : (min m (fr.size : Int)).toNat = (Frame.putF (f + (bs0 ++ es).length) b).length := by rw [← hfs]; omega
          rw [e1, List.take_length, ← hnew] at hdata
          obtain ⟨row, h1, n, h2, h3, h4⟩ := ih (es ++ [b]) (m - min m fr.size) (s ++ fr.extract 0 (min m (fr.size : Int)).toNat) (by rw [e1]; exact hdata)
          exact ⟨row, List.mem_cons_of_mem _ h1, n, h2, h3, h4⟩
        · have e2 : m - min m (fr.size : Int) = 0 := by omega
          rw [e2, atGo_stop]
          refine ⟨es ++ [b], List.mem_cons_of_mem _ (rowsOf_head _ _), (framesL f (bs0 ++ es)).length + (min m (fr.size : Int)).toNat, by omega, ?_, ?_⟩
          · rw [hnew, List.length_append, ← hfs]; omega
          · rw [hdata, hnew, List.take_append, List.take_of_length_le (l := framesL f (bs0 ++ es)) (by omega), Nat.add_sub_cancel_left]
      | cut =>
        have hstep : atGo s (chgsOf f bs0 es (.cut :: r)) m = atGo (s.extract 0 ((framesL f bs0).length : Int).toNat) (chgsOf f bs0 [] r) (m - 1) := by
          rw [chgsOf, atGo, if_neg hm, if_pos (by show ((framesL f bs0).length : Int) ≠ -1; omega)]
        rw [hstep]
        obtain ⟨row, h1, n, h2, h3, h4⟩ := ih [] (m - 1) (s.extract 0 ((framesL f bs0).length : Int).toNat) (by
          rw [ByteArray.data_extract, Array.toList_extract, List.extract_eq_take_drop, List.append_nil, hs, framesL_append]
          show ((framesL f bs0 ++ _).take (((framesL f bs0).length : Int).toNat - 0)) = _
          rw [Int.toNat_natCast, Nat.sub_zero, List.take_left])
        exact ⟨row, List.mem_cons_of_mem _ h1, n, h2, h3, h4⟩
/-- The frames that are scanned of it: all that were durable, and a front of the others of a row that stood. -/
theorem keep_scan (f : Nat) (bs0 : List (List UInt8)) (row : List (List UInt8)) (hb : ∀ b ∈ bs0 ++ row, b.length ≤ 2000) (hf : f + (bs0 ++ row).length ≤ 18446744073709551616) (n : Nat) (h1 : (framesL f bs0).length ≤ n) (h2 : n ≤ (framesL f (bs0 ++ row)).length) :
    ∃ j, j ≤ row.length ∧ Frame.scanL ((framesL f (bs0 ++ row)).take n) = Frame.scanL (framesL f (bs0 ++ row.take j)) := by
  obtain ⟨j, j1, j2, j3, j4⟩ := scan_cut (bs0 ++ row) hb f n hf h2
  rw [List.length_append] at j1 j3
  have hj : bs0.length ≤ j := by
    rcases Nat.lt_or_ge j bs0.length with h | h
    · exfalso
      have h3 := j3 (by omega)
      have h4 : (bs0 ++ row).take (j + 1) = bs0.take (j + 1) := List.take_append_of_le_length (by omega)
      rw [h4] at h3
      have h5 : (framesL f bs0).length = (framesL f (bs0.take (j + 1))).length + (framesL (f + (bs0.take (j + 1)).length) (bs0.drop (j + 1))).length := by
        rw [← List.length_append, ← framesL_append, List.take_append_drop]
      omega
    · exact h
  refine ⟨j - bs0.length, by omega, ?_⟩
  rw [j4, List.take_append, List.take_of_length_le hj]
end Go.Proofs.YtnppdcegpojmbaaGreatDoor
