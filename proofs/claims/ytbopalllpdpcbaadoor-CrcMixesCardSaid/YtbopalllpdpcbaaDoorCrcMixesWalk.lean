/- The walk of CrcMixes: it returns true at every three texts, and makes no more than new memory. -/
import Derived.Test.YtbopalllpdpcbaaDoorCrcSumsWalk
import Derived.Test.YtbopalllpdpcbaaDoorCrcFindsWalk
import Derived.Laws.Cover1
import Derived.OwnWalk
import Derived.StillTailTactics
import Derived.Deep.QuietTactic
import Derived.BigQuiet
import Derived.Deep.RegionWith
import Derived.Test.YtbopalllpdpcbaaDoorHeap
namespace Go.Proofs.YtbopalllpdpcbaaDoor.crcMixes
open Go Go.RowKit
theorem info5 : (Tryd.prog.info? 5).map (fun i => (i.zero, i.size, i.bytes)) = some (some (.int .u8 0), 1, 1) := by kernel_rfl
/-- The block of the new bytes: the first k of them are told. -/
def RowIs (wr : World) (B n k : Nat) (f : Nat → Nat) : Prop := ∃ cur : Array Value, wr.heap[B]? = some (.cells cur 5 (0, 0)) ∧ cur.size = n ∧ ∀ j, j < k → cur[j]? = some (.int .u8 (f j))
theorem rowIs_next {wr : World} {B n k : Nat} {f : Nat → Nat} (h : RowIs wr B n k f) (hk : k < n) : RowIs (wr.setCell ⟨B, k, none⟩ (.int .u8 (f k))) B n (k + 1) f := by
  obtain ⟨cur, h1, h2, h3⟩ := h
  refine ⟨_, Heap.set h1 k _, by simp [h2], fun j hj => ?_⟩
  by_cases e : j = k
  · subst e; simp [h2, hk]
  · rw [Array.getElem?_setIfInBounds_ne (by omega)]; exact h3 j (by omega)
theorem rowIs_cell {wr : World} {B n k : Nat} {f : Nat → Nat} (h : RowIs wr B n k f) (hk : k < n) : (∃ c, wr.cell? ⟨B, k, none⟩ = some c) ∧ wr.frozen? ⟨B, k, none⟩ = false := by
  obtain ⟨cur, h1, h2, h3⟩ := h
  exact ⟨⟨cur[k], by rw [Heap.cell h1]; exact Array.getElem?_eq_getElem (by omega)⟩, Heap.frozen h1 k⟩
def f3 (s t u : ByteArray) (j : Nat) : Nat := (s.data.toList.getD j 0 ^^^ t.data.toList.getD j 0 ^^^ u.data.toList.getD j 0).toNat
theorem f3_at (s t u : ByteArray) (j : Nat) (hs : j < s.size) (ht : j < t.size) (hu : j < u.size) :
    bits .xor .u8 (bits .xor .u8 (s[j].toNat : Int) (t[j].toNat : Int)) (u[j].toNat : Int) = (f3 s t u j : Int) := by
  have h1 := s[j].toNat_lt
  have h2 := t[j].toNat_lt
  have h3 := u[j].toNat_lt
  have e1 : s.data.toList.getD j 0 = s[j] := by simp [List.getD, List.getElem?_eq_getElem (show j < s.data.toList.length by simpa using hs)]; rfl
  have e2 : t.data.toList.getD j 0 = t[j] := by simp [List.getD, List.getElem?_eq_getElem (show j < t.data.toList.length by simpa using ht)]; rfl
  have e3 : u.data.toList.getD j 0 = u[j] := by simp [List.getD, List.getElem?_eq_getElem (show j < u.data.toList.length by simpa using hu)]; rfl
  rw [u8_xor_nat _ _ (by omega) (by omega), u8_xor_nat _ _ (Nat.xor_lt_two_pow (n := 8) (by omega) (by omega)) (by omega), f3, e1, e2, e3, UInt8.toNat_xor, UInt8.toNat_xor]
theorem xor3_list : ∀ (a b c : List UInt8) (n : Nat), n ≤ a.length → n ≤ b.length → n ≤ c.length →
    Crc.xor3 (a.take n) (b.take n) (c.take n) = (List.range n).map fun j => a.getD j 0 ^^^ b.getD j 0 ^^^ c.getD j 0
  | _, _, _, 0, _, _, _ => by simp [Crc.xor3]
  | a :: l, b :: m, c :: r, n + 1, h1, h2, h3 => by
    have ih := xor3_list l m r n (by simpa using h1) (by simpa using h2) (by simpa using h3)
    rw [List.take_succ_cons, List.take_succ_cons, List.take_succ_cons, Crc.xor3, ih, List.range_succ_eq_map]
    simp [List.getD]
  | [], _, _, n + 1, h1, _, _ => by simp at h1
  | _ :: _, [], _, n + 1, _, h2, _ => by simp at h2
  | _ :: _, _ :: _, [], n + 1, _, _, h3 => by simp at h3
theorem below_drewN {B : Nat} {a w : World} (h : Below B a w) : ∀ n, Below B a (w.drewN n) := fun _ => ⟨h.os, h.tape, h.output, h.size, h.block⟩
theorem walk (s t u : ByteArray) (hz : s.size ≤ 140737488351232) (hzt : t.size ≤ 140737488351232) (hzu : u.size ≤ 140737488351232) (w : World) (hT : Crc.TabOk w) :
    Calls Tryd.prog 6 #[.string s, .string t, .string u] w fun e w' => e = .returned (.bool true) ∧ Below w.heap.size w w' := by
  have HT := Lib.hid hT; clear hT
  by_cases hl : s.size + t.size + u.size ≤ 3000
  · have hl' : ¬ (3000 < (s.size : Int) + (t.size : Int) + (u.size : Int)) := by omega
    obtain ⟨i0, hi, hz0, hz1, hz2⟩ := info_parts info5
    obtain ⟨n, hn⟩ : ∃ n, n = min s.size (min t.size u.size) := ⟨_, rfl⟩
    have hns : n ≤ s.size := by omega
    have hnt : n ≤ t.size := by omega
    have hnu : n ≤ u.size := by omega
    have hmin : ∀ w : World, (Builtin.min_ #[3, 3, 3] 3 #[.int .i64 s.size, .int .i64 t.size, .int .i64 u.size]).run Tryd.prog w = .ok (.int .i64 n) w := by
      intro w
      rw [run_min_int3]
      congr 2
      split <;> split <;> omega
    have HN := Lib.hid hn; clear hn
    go_enter Tryd.func6, Tryd.ntmps6
    go_wp2_with fail
    refine (Crc.shown_any _ HT.out).mono ?_
    rintro e w' ⟨rfl, rfl⟩
    go_wp2_with (at_make; refine wpList_make_full _ rfl _ _ 28 rfl w.heap.size 5 i0 (.int .u8 0) 1 Tryd.underlying28 hi hz0 hz1 _ _ _ _ n rfl rfl rfl rfl ?c1 ?c2 (Nat.le_refl _) ?_)
    case c1 => rw [hz2]; omega
    case c2 => unfold maxLen; omega
    intro w1 hown hgrow
    have hrow : RowIs w1 w.heap.size n 0 (f3 s t u) := by
      obtain ⟨_, h | ⟨g, cap, cur, h1, h2, h3, h4, h5, h6, h7⟩⟩ := hown
      · exact absurd h.1 (by intro h; cases h)
      · injection h1 with h1 h1' h1''
        injection h1 with h1
        injection h1 with h1
        subst h1; subst h1''
        exact ⟨cur, h3, by simpa using h6, fun j hj => by omega⟩
    have hbel : Below w.heap.size w w1 := (Below.refl _ _).grown hgrow (Nat.le_refl _) (by intro k hk; cases hk)
    clear hown hgrow
    go_wp2_with fail
    go_loopw [10] (fun i wr => ∃ k : Nat, k ≤ n ∧ i = .int .i64 k ∧ Below w.heap.size w wr ∧ RowIs wr w.heap.size n k (f3 s t u)) (fun i _ => n - (intOf i).toNat)
    case atStart => exact ⟨0, Nat.zero_le _, rfl, hbel, hrow⟩
    case round =>
      clear hrow hbel
      obtain ⟨k, hk, rfl, hbel, hrow⟩ := hrel
      have HB := Lib.hid hbel; clear hbel
      have HR := Lib.hid hrow; clear hrow
      by_cases hlt : k < n
      · obtain ⟨⟨c, hc⟩, hf⟩ := rowIs_cell HR.out hlt
        have hx := f3_at s t u k (by omega) (by omega) (by omega)
        have hks : k < s.size := by omega
        have hkt : k < t.size := by omega
        have hku : k < u.size := by omega
        go_wp2_with fail
        refine wp_region_still_tail 14 (by kernel_rfl) (by kernel_rfl) ?_
        simp only [List.take_succ_cons, List.take_zero, List.drop_succ_cons, List.drop_zero]
        change wpStill _ _ wr.drew (fun a' => wpList _ _ _ _ a' wr.drew) _ _
        repeat still_step
        refine wpStill_nil ?_
        go_wp2_with fail
        go_roundw
        case rel => exact ⟨k + 1, by omega, by go_num, HB.out.drew.setCell (p := ⟨w.heap.size, k, none⟩) (Nat.le_refl _) _, rowIs_next HR.out hlt⟩
        case measure => simp [intOf]; omega
      · obtain rfl : k = n := by omega
        have hTr : ∀ q, Crc.TabOk (wr.drewN q) := by
          intro q i hi
          have h0 := HT.out i hi
          have := HB.out.cell (p := ⟨0, i, none⟩) (Heap.block_lt h0)
          exact this.trans h0
        have HTR := Lib.hid hTr; clear hTr
        have hback : ∃ Y : ByteArray, Y.data.toList = Crc.xor3 (s.data.toList.take k) (t.data.toList.take k) (u.data.toList.take k) ∧ ∀ q, (convert 28 9 (.slice (some ⟨w.heap.size, 0, none⟩) k k)).run Tryd.prog (wr.drewN q) = .ok (.string Y) (wr.drewN q) := by
          obtain ⟨cur, h1, h2, h3⟩ := HR.out
          have e := xor3_list s.data.toList t.data.toList u.data.toList k (by simpa using hns) (by simpa using hnt) (by simpa using hnu)
          refine ⟨⟨(Crc.xor3 (s.data.toList.take k) (t.data.toList.take k) (u.data.toList.take k)).toArray⟩, by simp, fun q => ?_⟩
          have hlen : (Crc.xor3 (s.data.toList.take k) (t.data.toList.take k) (u.data.toList.take k)).length = k := by rw [e]; simp
          have := run_convert_bytes_back (P := Tryd.prog) (wr.drewN q) 28 9 5 ⟨w.heap.size, 0, none⟩ k (Crc.xor3 (s.data.toList.take k) (t.data.toList.take k) (u.data.toList.take k)) Tryd.underlying28 Tryd.underlying5 Tryd.underlying9
            (fun j hj => by
              have ea : (⟨w.heap.size, 0, none⟩ : Addr).add j = ⟨w.heap.size, j, none⟩ := by unfold Addr.add; split <;> simp_all
              have hj' : j < k := by omega
              rw [ea]
              show wr.cell? _ = _
              rw [Heap.cell h1, h3 j hj', f3]
              simp only [e, List.getElem_map, List.getElem_range])
          rwa [hlen] at this
        obtain ⟨Y, hY, hback⟩ := hback
        have hYs : Y.size ≤ maxLen := by
          have : Y.data.toList.length = k := by rw [hY, xor3_list _ _ _ _ (by simpa using hns) (by simpa using hnt) (by simpa using hnu)]; simp
          have : Y.size = k := by simpa using this
          unfold maxLen; omega
        have HY := Lib.hid hY; clear hY
        have HYS := Lib.hid hYs; clear hYs
        go_wp2_with fail
        go_quiet (first
          | (go_at_call_of 10 (Value.string Y); exact (Crc.sum_any _ _ HYS.out (HTR.out _)).mono (fun _ _ h => ⟨h.1, _, h.2.symm⟩))
          | (go_at_call 10; exact (Crc.sum_any _ _ (by simp [maxLen]; omega) (HTR.out _)).mono (fun _ _ h => ⟨h.1, _, h.2.symm⟩)))
        go_wp2
        go_ret
        refine ⟨?_, below_drewN HB.out nq⟩
        have hs0 := Crc.addN_lt (by omega : 0 < 4294967296) (s.data.toList.take k)
        have ht0 := Crc.addN_lt (by omega : 0 < 4294967296) (t.data.toList.take k)
        have hu0 := Crc.addN_lt (by omega : 0 < 4294967296) (u.data.toList.take k)
        have hfin : (((Crc.addN 0 Y.data.toList : Nat) : Int) == bits .xor .u32 (bits .xor .u32 (Crc.addN 0 (s.data.toList.take k) : Int) (Crc.addN 0 (t.data.toList.take k) : Int)) (Crc.addN 0 (u.data.toList.take k) : Int)) = true := by
          rw [u32_xor_nat _ _ hs0 ht0, u32_xor_nat _ _ (Crc.xor_lt32 hs0 ht0) hu0, HY.out, Crc.addN_mixes _ _ _ (by simp; omega) (by simp; omega), beq_self_eq_true]
        exact congrArg (fun x => Ending.returned (.bool x)) hfin
  · have hl' : 3000 < (s.size : Int) + (t.size : Int) + (u.size : Int) := by omega
    go_enter Tryd.func6, Tryd.ntmps6
    go_wp2_with fail
    refine (Crc.shown_any _ HT.out).mono ?_
    rintro e w' ⟨rfl, rfl⟩
    go_wp2
    go_ret
    exact ⟨rfl, Below.refl _ _⟩
end Go.Proofs.YtbopalllpdpcbaaDoor.crcMixes
