/- The walks of mark.numbers, num.PutText, num.TakeText, reader.number. · The walk of mark.Put, of a ledger that is right. · The walk of reader.dest, of a destination that was put. · The walk of mark.Take, of a ledger that was put. -/
import Derived.Test.YtndgnlblbjpogaaGreatDoorMarkM
import Derived.Test.YtndgnlblbjpogaaGreatDoorLedK
import Derived.Test.YtndgnlblbjpogaaGreatDoorShelf
import Derived.Deep.QuietTactic
import Derived.BigQuiet
import Derived.Test.YtndgnlblbjpogaaGreatDoorSpoolN
import Derived.Deep.RegionHeld3
import Derived.Deep.RegionLaw
import Derived.Deep.AppendLies
namespace Go.Proofs.YtndgnlblbjpogaaGreatDoor
open Go Go.RowKit Go.Shelf
theorem lays166 : Lays.n166 Tryz.prog Tryz.lays105_ren := { Tryz.lays105 with }
theorem write_any (B b : Nat) (bs : List Value) (s : ByteArray) (w : World) (h : Lib.IsBuilder 193 5 B b bs w) (hlen : bs.length + s.size ≤ 140737488355328) (hBw : B ≤ w.heap.size) :
    Calls Tryz.prog 147 #[.pointer (some ⟨b, 0, none⟩), .string s] w fun e w' => e = .returned (.tuple #[.int .i64 s.size, .nilIface]) ∧ (Lib.BuilderAt 193 5 B b (.pointer (some ⟨b, 0, none⟩)) (bs ++ Lib.strCells s) w' ∧ Below B w w') :=
  Any.Builder_WriteString lays166 Tryz.Builder_Extra_105 B b bs s w h hlen hBw
namespace Mark
theorem numsL_take {l : List Nat} {k : Nat} (hk : k < l.length) : numsL (l.take (k + 1)) = numsL (l.take k) ++ Num.putL l[k] := by
  rw [List.take_succ_eq_append_getElem hk, numsL_append]
  congr 1
  exact List.append_nil _
theorem numsL_take_le (l : List Nat) (h : ∀ x ∈ l, x < 18446744073709551616) (k : Nat) : (numsL (l.take k)).length ≤ 10 * k := by
  induction k with
  | zero => simp [numsL]
  | succ k ih =>
    by_cases hk : k < l.length
    · rw [numsL_take hk, List.length_append]
      have := Num.putL_len (h _ (List.getElem_mem hk))
      omega
    · rw [List.take_of_length_le (by omega)] at ih ⊢
      omega
set_option maxRecDepth 100000 in
theorem numbers_any (w : World) (S : Nat → Prop) (v : Value) (l : List Nat) (h : SliceAt w S 1 v l.length (numCells l)) (hn : l.length ≤ 1000000) (hb : ∀ x ∈ l, x < 18446744073709551616) :
    Calls Tryz.prog 122 #[v] w fun e w' => e = .returned (.string ⟨(numsL l).toArray⟩) ∧ Off None w w' := by
  obtain ⟨A, c, hA⟩ := h.form
  subst hA
  obtain ⟨w1, hw1, ho1, hb1, hs1⟩ := boxed w #[.pointer none, .slice none 0 0] 193
  obtain ⟨q, hq⟩ : ∃ q, q = w.heap.size := ⟨_, rfl⟩
  rw [← hq] at hb1
  have hbu : Lib.IsBuilder 193 5 w.heap.size q (Lib.byteCells []) w1 := .inl ⟨by omega, _, hb1, World.ownsRow_nil _ _ _ _, fun h => by cases h⟩
  obtain ⟨n, hn0⟩ : ∃ n, n = l.length := ⟨_, rfl⟩
  have HN := Lib.hid hn0
  have HR := Lib.hid h
  have HO := Lib.hid ho1
  have HBU := Lib.hid hbu
  have HB := Lib.hid hb
  rw [← hn0] at hn ⊢
  clear h ho1 hb1 hs1 hbu hb hn0
  go_enter Tryz.func122, Tryz.ntmps122
  go_wp2_with fail
  rw [← hw1, ← hq]
  clear hw1 hq
  go_loopg [8] n (fun gg s8 wr => ∃ (k g : Nat), g = gg ∧ k + g = n ∧ s8 = .int .i64 k ∧ Lib.IsBuilder 193 5 w.heap.size q (Lib.byteCells (numsL (l.take k))) wr ∧ Off None w wr)
  case atStart => exact ⟨0, n, rfl, by omega, rfl, by rw [List.take_zero]; exact HBU.out, HO.out⟩
  case round =>
    obtain ⟨k, g, hgg, hkg, rfl, hbu, ho⟩ := hrel
    have HG := Lib.hid hgg
    have HBR := Lib.hid hbu
    have HOR := Lib.hid ho
    clear hgg hbu ho
    by_cases hk : k < n
    · have hkl : k < l.length := by have := HN.out; omega
      obtain ⟨b, o, rfl, k1, k2, k3, k4, k5⟩ := Led.above_cell (HR.out.quiet HOR.out) hkl
      rw [← HN.out] at k1
      obtain ⟨x, hx⟩ : ∃ x, x = l[k] := ⟨_, rfl⟩
      rw [← hx] at k5
      have hxb : x < 18446744073709551616 := by rw [hx]; exact HB.out _ (List.getElem_mem hkl)
      have HX := Lib.hid hx
      have hlen : (numsL (l.take k)).length ≤ 10 * k := numsL_take_le l HB.out k
      unfold maxLen at k2
      clear hx k3 k4
      go_wp2_with fail
      refine (Num.put_any wr x hxb).mono ?_
      rintro e w2 ⟨rfl, ho2⟩
      have hpl := Num.putL_len hxb
      have hbu2 : Lib.IsBuilder 193 5 w.heap.size q (Lib.byteCells (numsL (l.take k))) w2 := by
        rcases HBR.out with ⟨h1, v, h2, h3, h4⟩ | ⟨h1, v, h2, h3, h4⟩
        · exact .inl ⟨h1, v, ho2.at_ h2 (fun h => h), ho2.row h3 (fun _ _ h => h), h4⟩
        · exact .inr ⟨h1, v, ho2.at_ h2 (fun h => h), ho2.row h3 (fun _ _ h => h), h4⟩
      have HO2 := Lib.hid (HOR.out.quiet_trans ho2)
      have hwr := write_any w.heap.size q _ ⟨(Num.putL x).toArray⟩ w2 hbu2 (by rw [Lib.byteCells_length]; show _ + (Num.putL x).length ≤ _; omega) HO2.out.size
      have HWR := Lib.hid hwr
      clear hbu2 ho2 hwr k5
      go_wp2_with fail
      refine HWR.out.mono ?_
      rintro e w3 ⟨rfl, hb3, hbel⟩
      have HB3 := Lib.hid hb3
      have HO3 := Lib.hid (show Off None w w3 from ⟨hbel.os.trans HO2.out.os, hbel.tape.trans HO2.out.tape, hbel.output.trans HO2.out.output, Nat.le_trans HO2.out.size hbel.size, fun b hb hn => (hbel.block b hb).trans (HO2.out.block b hb hn)⟩)
      clear hb3 hbel
      go_wp2_with fail
      go_roundg (g - 1)
      case measure => have := HG.out; omega
      case rel =>
        refine ⟨k + 1, g - 1, rfl, by omega, by go_num, ?_, HO3.out⟩
        rw [numsL_take hkl, ← HX.out, Lib.byteCells_append]
        exact .inr HB3.out
    · have hkn : k = n := by omega
      have hst := Tryz.Builder_String_any w.heap.size q _ wr HBR.out HOR.out.size
      have HST := Lib.hid hst
      clear hst
      go_wp2_with fail
      refine HST.out.mono ?_
      rintro e w2 ⟨rfl, hbel⟩
      have HO2 := Lib.hid (show Off None w w2 from ⟨hbel.os.trans HOR.out.os, hbel.tape.trans HOR.out.tape, hbel.output.trans HOR.out.output, Nat.le_trans HOR.out.size hbel.size, fun b hb hn => (hbel.block b hb).trans (HOR.out.block b hb hn)⟩)
      clear hbel
      go_wp2_with fail
      go_ret
      refine ⟨?_, HO2.out⟩
      rw [HN.out, List.take_length]
      rfl
/-- num.PutText: a text's length, and the text. -/
theorem puttext_any (w : World) (s : ByteArray) (hs : s.size ≤ 1000000) :
    Calls Tryz.prog 123 #[.string s] w fun e w' => e = .returned (.string ⟨(textL s).toArray⟩) ∧ Off None w w' := by
  have hp := Num.put_any w s.size (by omega)
  have hpl := Num.putL_len (n := s.size) (by omega)
  have HP := Lib.hid hp
  have h1 : (s.size : Int) ≤ 1000000 := by omega
  clear hp
  go_enter Tryz.func123, Tryz.ntmps123
  go_wp2_with fail
  refine HP.out.mono ?_
  rintro e w2 ⟨rfl, ho2⟩
  have hsz : (⟨(Num.putL s.size).toArray⟩ : ByteArray).size ≤ 10 := by show (Num.putL s.size).length ≤ 10; exact hpl
  have HO2 := Lib.hid ho2
  clear ho2
  go_wp2_with fail
  go_ret
  refine ⟨?_, HO2.out⟩
  have e : ((⟨(Num.putL s.size).toArray⟩ : ByteArray) ++ s) = ⟨(textL s).toArray⟩ := by
    refine str_of ?_
    unfold textL
    simp
  rw [e]
  rfl
theorem textL_take (s : ByteArray) (r : List UInt8) (hs : s.size < 18446744073709551616) : Num.takeL 0 0 (textL s ++ r) = some (s.size, s.data.toList ++ r) := by
  unfold textL
  rw [List.append_assoc, Num.take_put _ _ hs]
/-- num.TakeText of a text that was put, with something behind it. -/
theorem taketext_any (w : World) (s : ByteArray) (r : List UInt8) (hs : s.size ≤ 20) (hr : r.length ≤ 1000000) :
    Calls Tryz.prog 170 #[.string ⟨(textL s ++ r).toArray⟩, .int .i64 20] w fun e w' => e = .returned (.tuple #[.string s, .string ⟨r.toArray⟩, .int .i64 0]) ∧ Off None w w' := by
  have hlen : (textL s ++ r).length ≤ 1000040 := by
    unfold textL
    have := Num.putL_len (n := s.size) (by omega)
    have h2 : s.data.toList.length = s.size := Array.length_toList
    simp only [List.length_append]
    omega
  have ht := Num.take_any w ⟨(textL s ++ r).toArray⟩ (by show (textL s ++ r).length ≤ _; unfold maxLen; omega)
  have htk := textL_take s r (by omega)
  have e1 : Num.takeR ⟨(textL s ++ r).toArray⟩ = .tuple #[.int .u64 s.size, .string ⟨(s.data.toList ++ r).toArray⟩, .int .i64 0] := by
    exact Num.takeR_some (s := ⟨(textL s ++ r).toArray⟩) htk
  rw [e1] at ht
  have HT := Lib.hid ht
  have hsz : (⟨(s.data.toList ++ r).toArray⟩ : ByteArray).size = s.size + r.length := by
    show (s.data.toList ++ r).length = _
    rw [List.length_append]
    congr 1
  obtain ⟨t, ht0⟩ : ∃ t : ByteArray, t = ⟨(s.data.toList ++ r).toArray⟩ := ⟨_, rfl⟩
  have hsl : s.data.toList.length = s.size := Array.length_toList
  have x1 : t.extract 0 s.size = s := by
    rw [ht0]
    have h1 : ((⟨(s.data.toList ++ r).toArray⟩ : ByteArray).extract 0 s.size).data.toList = s.data.toList := by
      rw [ByteArray.data_extract, Array.toList_extract, List.extract_eq_take_drop]
      show (((s.data.toList ++ r).drop 0).take (s.size - 0)) = _
      rw [List.drop_zero, Nat.sub_zero, ← hsl, List.take_left]
    exact (str_of h1).trans rfl
  have x2 : t.extract s.size (s.size + r.length) = ⟨r.toArray⟩ := by
    rw [ht0]
    refine str_of ?_
    rw [ByteArray.data_extract, Array.toList_extract, List.extract_eq_take_drop]
    show (((s.data.toList ++ r).drop s.size).take (s.size + r.length - s.size)) = _
    rw [← hsl, List.drop_left, Nat.add_sub_cancel_left, List.take_length]
  rw [← ht0] at hsz HT
  obtain ⟨t0, ht1⟩ : ∃ t0 : ByteArray, t0 = ⟨(textL s ++ r).toArray⟩ := ⟨_, rfl⟩
  rw [← ht1] at HT ⊢
  have X := Lib.hid (And.intro x1 x2)
  have HSZ := Lib.hid hsz
  have hsz2 : (t.size : Int) = s.size + r.length := by omega
  obtain ⟨m, hm⟩ : ∃ m, m = t.size := ⟨_, rfl⟩
  have h3 : s.size ≤ t.size := by omega
  have h5 : t.size ≤ 1000020 := by omega
  clear ht htk e1 hlen ht0 hsl x1 x2 hsz ht1 hsz2 hm
  go_enter Tryz.func170, Tryz.ntmps170
  go_wp2_with fail
  refine HT.out.mono ?_
  rintro e w2 ⟨rfl, ho2⟩
  have HO2 := Lib.hid ho2
  clear ho2
  go_wp2_with fail
  go_quiet (fail)
  go_wp2_with fail
  refine bodyPost_ret (v := .tuple #[.string s, .string ⟨r.toArray⟩, .int .i64 0]) ?_ rfl ⟨rfl, HO2.out.drewN nq⟩
  rw [HSZ.out, X.out.1, X.out.2]
  simp [results, Tryz.results170, go_sem]
/-- A reader in memory: what is left to be read, and that nothing was wrong. -/
def ReadAt (w : World) (rb : Nat) (t : List UInt8) : Prop := w.heap[rb]? = some (.cells #[.string ⟨t.toArray⟩, .bool false] 175 (0, 0))
/-- reader.number, of a number that was put, with something behind it. -/
theorem number_any (w : World) (rb n : Nat) (t : List UInt8) (h : ReadAt w rb (Num.putL n ++ t)) (hn : n < 18446744073709551616) (ht : t.length ≤ 1000000) :
    Calls Tryz.prog 131 #[.pointer (some ⟨rb, 0, none⟩)] w fun e w' => e = .returned (.int .u64 n) ∧ ReadAt w' rb t ∧ Off (Only rb) w w' := by
  unfold ReadAt at h
  have hpl := Num.putL_len hn
  obtain ⟨t0, ht1⟩ : ∃ t0 : ByteArray, t0 = ⟨(Num.putL n ++ t).toArray⟩ := ⟨_, rfl⟩
  have htk := Num.take_any w t0 (by rw [ht1]; show (Num.putL n ++ t).length ≤ _; rw [List.length_append]; unfold maxLen; omega)
  have e1 : Num.takeR t0 = .tuple #[.int .u64 n, .string ⟨t.toArray⟩, .int .i64 0] := by
    rw [ht1]
    exact Num.takeR_some (s := ⟨(Num.putL n ++ t).toArray⟩) (Num.take_put n t hn)
  rw [e1] at htk
  rw [← ht1] at h
  have HT := Lib.hid htk
  have H := Lib.hid h
  have c0 : w.cell? ⟨rb, 0, none⟩ = some (.string t0) := Heap.cell h 0
  clear htk e1 ht1 hpl h
  go_enter Tryz.func131, Tryz.ntmps131
  go_wp2_with fail
  refine HT.out.mono ?_
  rintro e w2 ⟨rfl, ho2⟩
  have h2 := ho2.at_ H.out (fun h => h)
  have HO2 := Lib.hid ho2
  have H2 := Lib.hid h2
  have d0 : w2.cell? ⟨rb, 0, none⟩ = some (.string t0) := Heap.cell h2 0
  have d1 : w2.cell? ⟨rb, 1, none⟩ = some (.bool false) := Heap.cell h2 1
  have f0 := Heap.frozen h2 0
  have f1 := Heap.frozen h2 1
  clear ho2 h2 c0
  go_wp2_with fail
  go_ret
  refine ⟨rfl, ?_, ?_⟩
  · exact (Heap.set (Heap.set H2.out 0 _) 1 _).trans (by simp)
  · exact ((HO2.out.mono (G' := Only rb) (fun _ _ h => h.elim)).setCell (p := ⟨rb, 0, none⟩) (.inl rfl) _).setCell (p := ⟨rb, 1, none⟩) (.inl rfl) _
end Mark
end Go.Proofs.YtndgnlblbjpogaaGreatDoor
namespace Go.Proofs.YtndgnlblbjpogaaGreatDoor
open Go Go.RowKit Go.Shelf
namespace Mark
theorem nums_slice (w : World) (l : List Nat) (hl : l.length ≤ 1000000) : SliceAt (w.alloc (.cells (numCells l).toArray 31)) (fun _ => True) 1 (.slice (some ⟨w.heap.size, 0, none⟩) l.length l.length) l.length (numCells l) := by
  refine ⟨by rw [numCells_len, Nat.mul_one], by omega, .inr ⟨w.heap.size, 0, l.length, rfl, Nat.le_refl _, by unfold maxLen; omega, trivial, by rw [Heap.alloc_size]; omega, fun j u hu => ?_⟩⟩
  rw [Nat.zero_add, Heap.cell (Heap.alloc_new w _)]
  simpa using hu
/-- What is laid ahead of a destination's numbers. -/
def headL (d : DestV) : List UInt8 := textL d.name ++ numsL [d.since, d.low, d.acked, d.evicted, d.rejected, d.above.length]
theorem destL_eq (d : DestV) : destL d = headL d ++ numsL (diffs d.low d.above) := by unfold destL headL; rw [List.append_assoc]
def lastTo (d : DestV) (j : Nat) : Nat := (d.above.take j).getLastD d.low
theorem lastTo_succ {d : DestV} {j : Nat} (h : j < d.above.length) : lastTo d (j + 1) = d.above[j] := by
  unfold lastTo
  rw [List.take_succ_eq_append_getElem h, List.getLastD_concat]
theorem diffs_take {d : DestV} {j : Nat} (h : j < d.above.length) : diffs d.low (d.above.take (j + 1)) = diffs d.low (d.above.take j) ++ [d.above[j] - lastTo d j] := by
  rw [List.take_succ_eq_append_getElem h, diffs_append]
  rfl
theorem last_lt {d : DestV} {first next : Nat} (h : d.Right first next) {j : Nat} (hj : j < d.above.length) : lastTo d j < d.above[j] := by
  cases j with
  | zero => exact (h.above _ (List.getElem_mem hj)).1
  | succ i =>
    rw [lastTo_succ (by omega)]
    exact List.pairwise_iff_getElem.1 h.rising i (i + 1) (by omega) hj (by omega)
theorem app_str (a b : List UInt8) : (⟨a.toArray⟩ : ByteArray) ++ ⟨b.toArray⟩ = ⟨(a ++ b).toArray⟩ := str_of (by simp)
theorem len_str (a : List UInt8) : (⟨a.toArray⟩ : ByteArray).size = a.length := rfl
theorem nums6 (W0 W : World) (a b c d e f : Nat) (h : ∀ x ∈ [a, b, c, d, e, f], x < 16384) (hW : Off None (W0.alloc (.cells #[.int .u64 a, .int .u64 b, .int .u64 c, .int .u64 d, .int .u64 e, .int .u64 f] 31)) W) :
    Calls Tryz.prog 122 #[.slice (some ⟨W0.heap.size, 0, none⟩) 6 6] W fun x w' => x = .returned (.string ⟨(numsL [a, b, c, d, e, f]).toArray⟩) ∧ Off None W w' :=
  numbers_any W _ _ [a, b, c, d, e, f] ((nums_slice W0 [a, b, c, d, e, f] (by simp)).quiet hW) (by simp) (fun x hx => Nat.lt_trans (h x hx) (by decide))
theorem nums1 (W : World) (a : Nat) (h : a < 16384) :
    Calls Tryz.prog 122 #[.slice (some ⟨W.heap.size, 0, none⟩) 1 1] (W.alloc (.cells #[.int .u64 a] 31)) fun x w' => x = .returned (.string ⟨(numsL [a]).toArray⟩) ∧ Off None (W.alloc (.cells #[.int .u64 a] 31)) w' :=
  numbers_any _ _ _ [a] (nums_slice W [a] (by simp)) (by simp) (fun x hx => by rw [List.mem_singleton.1 hx]; omega)
set_option maxHeartbeats 4000000 in
set_option maxRecDepth 100000 in
theorem put_any (w : World) (S : Nat → Prop) (lv : Value) (l : LedgerV) (h : LedgerAt w S lv l) (hr : l.Right nmOk) (hM : l.next ≤ 700) :
    Calls Tryz.prog 92 #[lv] w fun e w' => e = .returned (.tuple #[.string (markB l), .int .i64 0]) ∧ Off None w w' := by
  have h0 := h
  obtain ⟨sv, ds, rfl, hds, hd, hf, hn⟩ := h
  obtain ⟨A, c, hA⟩ := hd.row.form
  obtain ⟨n, hn0⟩ : ∃ n, n = ds.length := ⟨_, rfl⟩
  rw [← hn0] at hA
  subst hA
  have hnl : l.dests.length = n := by rw [← hds, List.length_map, hn0]
  have hn4 := hr.few
  rw [hnl] at hn4
  have hle := hr.le
  obtain ⟨w1, hw1, ho1, hb1, hs1⟩ := boxed w #[.int .u64 l.first, .int .u64 l.next, .slice A n c] 34
  obtain ⟨p, hp⟩ : ∃ p, p = w.heap.size := ⟨_, rfl⟩
  rw [← hp] at hb1
  have HB := Lib.hid hb1
  have HO := Lib.hid ho1
  have HD := Lib.hid (And.intro (hd.quiet ho1) (And.intro hds (And.intro hn0 hnl)))
  have HR := Lib.hid (And.intro hr hM)
  have HRI := Lib.hid (Led.right_any w1 S _ l (h0.quiet ho1) hr)
  have e0 : w1.cell? ⟨p, 0, none⟩ = some (.int .u64 l.first) := Heap.cell hb1 0
  have e1 : w1.cell? ⟨p, 1, none⟩ = some (.int .u64 l.next) := Heap.cell hb1 1
  have e2 : w1.cell? ⟨p, 2, none⟩ = some (.slice A n c) := Heap.cell hb1 2
  clear hd hds hn0 hr ho1 hb1 hs1 hnl h0
  unfold big at hf hn
  go_enter Tryz.func92, Tryz.ntmps92
  go_wp2_with fail
  rw [← hw1, ← hp]
  clear hw1 hp
  go_wp2_with fail
  refine HRI.out.mono ?_
  rintro e w2 ⟨rfl, ho2⟩
  have hp2 := ho2.at_ HB.out (fun h => h)
  have HO2 := Lib.hid ho2
  have e0' : w2.cell? ⟨p, 0, none⟩ = some (.int .u64 l.first) := Heap.cell hp2 0
  have e1' : w2.cell? ⟨p, 1, none⟩ = some (.int .u64 l.next) := Heap.cell hp2 1
  have e2' : w2.cell? ⟨p, 2, none⟩ = some (.slice A n c) := Heap.cell hp2 2
  have HP2 := Lib.hid hp2
  clear ho2 hp2 e0 e1 e2
  go_wp2_with fail
  refine (numbers_any _ _ _ [l.first, l.next, n] (nums_slice w2 [l.first, l.next, n] (by simp)) (by simp) (by intro x hx; simp at hx; omega)).mono ?_
  rintro e w3 ⟨rfl, ho3⟩
  have ho3 := ((Off.refl None w2).alloc _).quiet_trans ho3
  have hp3 := ho3.at_ HP2.out (fun h => h)
  have HO3 := Lib.hid (HO2.out.quiet_trans ho3)
  have f2 : w3.cell? ⟨p, 2, none⟩ = some (.slice A n c) := Heap.cell hp3 2
  clear e0' e1' e2' hp3 ho3
  obtain ⟨cs, hcs⟩ : ∃ cs : ByteArray, cs = ⟨(numsL [l.first, l.next, n]).toArray⟩ := ⟨_, rfl⟩
  rw [← hcs]
  have HCS := Lib.hid hcs
  clear hcs
  go_wp2_with fail
  clear f2
  have hcs0 : cs.size ≤ 60 := by
    rw [HCS.out]
    have := numsL_len [l.first, l.next, n] (by intro x hx; simp at hx; omega)
    show (numsL [l.first, l.next, n]).length ≤ 60
    simp only [List.length_cons, List.length_nil] at this
    omega
  have HC0 := Lib.hid hcs0
  clear hcs0
  go_loopg [4, 26] n (fun gg s4 s26 wr => ∃ (k g : Nat) (t : ByteArray), g = gg ∧ k + g = n ∧ s26 = .int .i64 k ∧ s4 = .string t ∧ t.size ≤ 60 + 100000 * k ∧ Off None w1 wr ∧ Aside (t = ⟨(numsL [l.first, l.next, n] ++ (l.dests.take k).flatMap destL).toArray⟩))
  case atStart => exact ⟨0, n, cs, rfl, by omega, rfl, rfl, HC0.out, HO3.out, by rw [HCS.out, List.take_zero, List.flatMap_nil, List.append_nil]; exact rfl⟩
  case round =>
    obtain ⟨k, g, t, hgg, hkg, rfl, rfl, hts, ho, I⟩ := hrel
    have HG := Lib.hid hgg; clear hgg
    have HOR := Lib.hid ho; clear ho
    by_cases hk : k < n
    · have hdq := HD.out.1.quiet HOR.out
      obtain ⟨b, off, dd, B, cb, rfl, h1, h2, h3, h4, h5, h6, h7, c0, c1, c2, c3, c4, c5, c6⟩ := hdq.at_ hk
      have hdk : l.dests[k]? = some dd := by rw [← HD.out.2.1, List.getElem?_map, h6]; rfl
      have hmem := List.mem_of_getElem? hdk
      obtain ⟨b1, b2, b3, b4, b5, b6, b7, b8⟩ := HR.out.1.nums HR.out.2 dd hmem
      have hri := (HR.out.1.each dd hmem).2
      obtain ⟨w4, hw4, ho4, hb4, hs4⟩ := boxed wr (destCells dd (.slice B dd.above.length cb)).toArray 47
      obtain ⟨q, hq⟩ : ∃ q, q = wr.heap.size := ⟨_, rfl⟩
      rw [← hq] at hb4
      obtain ⟨m, hm⟩ : ∃ m, m = dd.above.length := ⟨_, rfl⟩
      have hm7 : m ≤ 700 := by omega
      have HM := Lib.hid hm
      obtain ⟨q0, q1, q2, q3, q4, q5, q6⟩ := dest_cells hb4
      rw [← hm] at q3
      have HB4 := Lib.hid hb4
      have HDA := Lib.hid (And.intro (h7.quiet ho4) (And.intro hdk hri))
      have HO4 := Lib.hid (HOR.out.quiet_trans ho4)
      have HNB := Lib.hid (show ∀ x ∈ [dd.since, dd.low, dd.acked, dd.evicted, dd.rejected, m], x < 16384 by intro x hx; simp at hx; omega)
      have hx2 : (⟨(numsL [dd.since, dd.low, dd.acked, dd.evicted, dd.rejected, m]).toArray⟩ : ByteArray).size ≤ 12 := by
        have := numsL_len [dd.since, dd.low, dd.acked, dd.evicted, dd.rejected, m] HNB.out
        rw [len_str]
        simp only [List.length_cons, List.length_nil] at this
        omega
      have hx1 : (⟨(textL dd.name).toArray⟩ : ByteArray).size ≤ 30 := by
        rw [len_str]
        unfold textL
        have := Num.putL_len (n := dd.name.size) (by omega)
        have h8 : dd.name.data.toList.length = dd.name.size := Array.length_toList
        rw [List.length_append]
        omega
      unfold maxLen at h2
      unfold destCells at hw4
      rw [← hm] at c3 hw4
      clear hdq h6 h7 h3 hdk h4 h5 hmem ho4 hb4 hs4 hri b2 b3 b4 b5 b6 b7 b8 hm
      go_wp2_with fail
      rw [← hw4, ← hq]
      clear hw4 hq c0 c1 c2 c3 c4 c5 c6
      have hwm : IntKind.u64.wrap (m : Int) = m := by rw [IntKind.wrap_u64]; omega
      have nq := World.new_ne w4 _ q0
      have dq0 := (show w4.drew.cell? _ = _ from q0)
      have dq1 := (show w4.drew.cell? _ = _ from q1)
      have dq2 := (show w4.drew.cell? _ = _ from q2)
      have dq3 := (show w4.drew.cell? _ = _ from q3)
      have dq4 := (show w4.drew.cell? _ = _ from q4)
      have dq5 := (show w4.drew.cell? _ = _ from q5)
      have dq6 := (show w4.drew.cell? _ = _ from q6)
      have hpt := fun W => puttext_any W dd.name (by omega)
      have hnt := fun W0 W (hW : Off None (W0.alloc (.cells #[.int .u64 dd.since, .int .u64 dd.low, .int .u64 dd.acked, .int .u64 dd.evicted, .int .u64 dd.rejected, .int .u64 m] 31)) W) => nums6 W0 W dd.since dd.low dd.acked dd.evicted dd.rejected m HNB.out hW
      obtain ⟨ts, hts0⟩ : ∃ ts : ByteArray, ts = ⟨(textL dd.name).toArray⟩ := ⟨_, rfl⟩
      obtain ⟨ns, hns0⟩ : ∃ ns : ByteArray, ns = ⟨(numsL [dd.since, dd.low, dd.acked, dd.evicted, dd.rejected, m]).toArray⟩ := ⟨_, rfl⟩
      rw [← hts0] at hx1 hpt
      rw [← hns0] at hx2 hnt
      have hx3 : ¬ (9223372036854775807 < ts.size + ns.size) := by omega
      have hx4 : ¬ (9223372036854775807 < t.size + (ts.size + ns.size)) := by omega
      have HTS := Lib.hid hts0
      have HNS := Lib.hid hns0
      have HPT := Lib.hid hpt
      have HNT := Lib.hid hnt
      clear hts0 hns0 hpt hnt
      go_region_held3 (fun W => W.cell? ⟨q, 0, none⟩ = some (.string dd.name) ∧ W.cell? ⟨q, 1, none⟩ = some (.int .u64 dd.since) ∧ W.cell? ⟨q, 2, none⟩ = some (.int .u64 dd.low) ∧ W.cell? ⟨q, 3, none⟩ = some (.slice B m cb) ∧ W.cell? ⟨q, 4, none⟩ = some (.int .u64 dd.acked) ∧ W.cell? ⟨q, 5, none⟩ = some (.int .u64 dd.evicted) ∧ W.cell? ⟨q, 6, none⟩ = some (.int .u64 dd.rejected))
        (first
          | with_reducible exact ⟨dq0, dq1, dq2, dq3, dq4, dq5, dq6⟩
          | with_reducible exact ⟨y0, y1, y2, y3, y4, y5, y6⟩
          | with_reducible exact ⟨x0, x1, x2, x3, x4, x5, x6⟩
          | go_keep)
        (first
          | (go_at_call 123; refine (HPT.out _).mono ?_; rintro e wP ⟨rfl, hoP⟩; first
              | (have ho4P : Off None w4 wP := (by with_reducible exact ((Off.refl None w4).drew).quiet_trans hoP); have x0 := ho4P.stay q0 (fun h => h); have x1 := ho4P.stay q1 (fun h => h); have x2 := ho4P.stay q2 (fun h => h); have x3 := ho4P.stay q3 (fun h => h); have x4 := ho4P.stay q4 (fun h => h); have x5 := ho4P.stay q5 (fun h => h); have x6 := ho4P.stay q6 (fun h => h); have nP := World.new_ne wP _ x0)
              | (have ho4P : Off None w4 wP := (by with_reducible exact ((Off.refl None w4).alloc _).drew.quiet_trans hoP); have x0 := ho4P.stay q0 (fun h => h); have x1 := ho4P.stay q1 (fun h => h); have x2 := ho4P.stay q2 (fun h => h); have x3 := ho4P.stay q3 (fun h => h); have x4 := ho4P.stay q4 (fun h => h); have x5 := ho4P.stay q5 (fun h => h); have x6 := ho4P.stay q6 (fun h => h); have nP := World.new_ne wP _ x0)
              | (have ho4P : Off None w4 wP := (by with_reducible exact ((Off.refl None w4).alloc _).quiet_trans hoP); have x0 := ho4P.stay q0 (fun h => h); have x1 := ho4P.stay q1 (fun h => h); have x2 := ho4P.stay q2 (fun h => h); have x3 := ho4P.stay q3 (fun h => h); have x4 := ho4P.stay q4 (fun h => h); have x5 := ho4P.stay q5 (fun h => h); have x6 := ho4P.stay q6 (fun h => h); have nP := World.new_ne wP _ x0)
              | (have ho4P : Off None w4 wP := (by with_reducible exact ho4N.quiet_trans hoP); have y0 := ho4P.stay q0 (fun h => h); have y1 := ho4P.stay q1 (fun h => h); have y2 := ho4P.stay q2 (fun h => h); have y3 := ho4P.stay q3 (fun h => h); have y4 := ho4P.stay q4 (fun h => h); have y5 := ho4P.stay q5 (fun h => h); have y6 := ho4P.stay q6 (fun h => h)))
          | (go_at_call 122; first
              | ((with_reducible refine (HNT.out wP _ (Off.refl _ _)).mono ?_); rintro e wN ⟨rfl, hoN⟩; have ho4N := (ho4P.alloc _).quiet_trans hoN; have y0 := ho4N.stay q0 (fun h => h); have y1 := ho4N.stay q1 (fun h => h); have y2 := ho4N.stay q2 (fun h => h); have y3 := ho4N.stay q3 (fun h => h); have y4 := ho4N.stay q4 (fun h => h); have y5 := ho4N.stay q5 (fun h => h); have y6 := ho4N.stay q6 (fun h => h))
              | ((with_reducible refine (HNT.out w4 wP ((Off.refl _ _).drew.quiet_trans hoP)).mono ?_); rintro e wN ⟨rfl, hoN⟩; have ho4N := ho4P.quiet_trans hoN; have y0 := ho4N.stay q0 (fun h => h); have y1 := ho4N.stay q1 (fun h => h); have y2 := ho4N.stay q2 (fun h => h); have y3 := ho4N.stay q3 (fun h => h); have y4 := ho4N.stay q4 (fun h => h); have y5 := ho4N.stay q5 (fun h => h); have y6 := ho4N.stay q6 (fun h => h))
              | ((with_reducible refine (HNT.out w4 wP hoP).mono ?_); rintro e wN ⟨rfl, hoN⟩; have ho4N := ho4P.quiet_trans hoN; have y0 := ho4N.stay q0 (fun h => h); have y1 := ho4N.stay q1 (fun h => h); have y2 := ho4N.stay q2 (fun h => h); have y3 := ho4N.stay q3 (fun h => h); have y4 := ho4N.stay q4 (fun h => h); have y5 := ho4N.stay q5 (fun h => h); have y6 := ho4N.stay q6 (fun h => h))
              | ((with_reducible refine (HNT.out w4 _ ((Off.refl _ _).drew)).mono ?_); rintro e wN ⟨rfl, hoN⟩; have ho4N := ((Off.refl None w4).alloc _).drew.quiet_trans hoN; have x0 := ho4N.stay q0 (fun h => h); have x1 := ho4N.stay q1 (fun h => h); have x2 := ho4N.stay q2 (fun h => h); have x3 := ho4N.stay q3 (fun h => h); have x4 := ho4N.stay q4 (fun h => h); have x5 := ho4N.stay q5 (fun h => h); have x6 := ho4N.stay q6 (fun h => h); have nN := World.new_ne wN _ x0)
              | ((with_reducible refine (HNT.out w4 _ (Off.refl _ _)).mono ?_); rintro e wN ⟨rfl, hoN⟩; have ho4N := ((Off.refl None w4).alloc _).quiet_trans hoN; have x0 := ho4N.stay q0 (fun h => h); have x1 := ho4N.stay q1 (fun h => h); have x2 := ho4N.stay q2 (fun h => h); have x3 := ho4N.stay q3 (fun h => h); have x4 := ho4N.stay q4 (fun h => h); have x5 := ho4N.stay q5 (fun h => h); have x6 := ho4N.stay q6 (fun h => h); have nN := World.new_ne wN _ x0)))
      all_goals
        first
          | (show Exit.then _ _ Exit.normal _ wN
             obtain ⟨w5, hw5, ho5⟩ : ∃ w5, w5 = wN ∧ Off None w4 w5 := ⟨wN, rfl, ho4N⟩
             rw [← hw5])
          | (show Exit.then _ _ Exit.normal _ wP
             obtain ⟨w5, hw5, ho5⟩ : ∃ w5, w5 = wP ∧ Off None w4 w5 := ⟨wP, rfl, ho4P⟩
             rw [← hw5])
        have hq5 := ho5.at_ HB4.out (fun h => h)
        have HQ5 := Lib.hid hq5
        have HO5 := Lib.hid (HO4.out.quiet_trans ho5)
        have HRW := Lib.hid (HDA.out.1.row.quiet ho5)
        have e2 := (dest_cells hq5).2.2.1
        have e3 := (dest_cells hq5).2.2.2.1
        rw [← HM.out] at e3
        obtain ⟨u, hu⟩ : ∃ u : ByteArray, u = t ++ (ts ++ ns) := ⟨_, rfl⟩
        rw [← hu]
        have hus : u.size ≤ 60 + 100000 * k + 42 := by rw [hu, ByteArray.size_append, ByteArray.size_append]; omega
        have HU := Lib.hid (show u = ⟨((numsL [l.first, l.next, n] ++ (l.dests.take k).flatMap destL) ++ headL dd).toArray⟩ by
          rw [hu, I.out, HTS.out, HNS.out, app_str, app_str]
          unfold headL
          rw [HM.out])
        clear hw5 ho5 hq5 hu hx1 hx2 hx3 hx4 nq x0 x1 x2 x3 x4 x5 x6 y0 y1 y2 y3 y4 y5 y6 dq0 dq1 dq2 dq3 dq4 dq5 dq6 q0 q1 q2 q3 q4 q5 q6
        go_wp2_with fail
        clear e2 e3
        go_loopg [4, 7, 57] m (fun ii s4 s7 s57 wr2 => ∃ (j g2 la : Nat) (v : ByteArray), g2 = ii ∧ j + g2 = m ∧ s57 = .int .i64 j ∧ s7 = .int .u64 la ∧ s4 = .string v ∧ v.size ≤ 60 + 100000 * k + 42 + 10 * j ∧ Off None w5 wr2 ∧
          Aside (la = lastTo dd j ∧ v = ⟨(((numsL [l.first, l.next, n] ++ (l.dests.take k).flatMap destL) ++ headL dd) ++ numsL (diffs dd.low (dd.above.take j))).toArray⟩))
        case atStart => exact ⟨0, m, dd.low, u, rfl, by omega, rfl, rfl, rfl, by omega, Off.refl _ _, ⟨rfl, by rw [HU.out]; simp [diffs, numsL]⟩⟩
        case round =>
          obtain ⟨j, g2, la, v, hgg2, hjg, rfl, rfl, rfl, hvs, ho6, I2⟩ := hrel
          have HG2 := Lib.hid hgg2; clear hgg2
          have HO6 := Lib.hid ho6; clear ho6
          by_cases hj : j < m
          · have hjl : j < dd.above.length := by have := HM.out; omega
            obtain ⟨b', o', rfl, k1, k2, k3, k4, k5⟩ := Led.above_cell (HRW.out.quiet HO6.out) hjl
            rw [← HM.out] at k1
            obtain ⟨x, hx⟩ : ∃ x, x = dd.above[j] := ⟨_, rfl⟩
            rw [← hx] at k5
            have hlt : la < x := by rw [I2.out.1, hx]; exact last_lt HDA.out.2.2 hjl
            have hxb : x < 16384 := by have h8 := (HDA.out.2.2.above _ (List.getElem_mem hjl)).2; rw [← hx] at h8; omega
            have HX := Lib.hid hx
            unfold maxLen at k2
            clear hx k3 k4
            go_wp2_with fail
            rw [show ((x : Int) - (la : Int)) = ((x - la : Nat) : Int) by omega]
            obtain ⟨D, hD⟩ : ∃ D, D = x - la := ⟨_, rfl⟩
            rw [← hD]
            have hDb : D < 16384 := by omega
            have HDD := Lib.hid (show D = dd.above[j] - lastTo dd j by rw [hD, HX.out, I2.out.1])
            obtain ⟨ds1, hds1⟩ : ∃ ds1 : ByteArray, ds1 = ⟨(numsL [D]).toArray⟩ := ⟨_, rfl⟩
            have HDS1 := Lib.hid hds1
            have hd1 : ds1.size ≤ 2 := by
              rw [hds1, len_str]
              have := numsL_len [D] (by intro y hy; simp at hy; omega)
              simpa using this
            have hnum := nums1 wr D hDb
            rw [← hds1] at hnum
            refine hnum.mono ?_
            rintro e w7 ⟨rfl, ho7⟩
            have HO7 := Lib.hid (HO6.out.quiet_trans (((Off.refl None wr).alloc _).quiet_trans ho7))
            have hv2 : (v ++ ds1).size ≤ 60 + 100000 * k + 42 + 10 * (j + 1) := by rw [ByteArray.size_append]; omega
            have HV2 := Lib.hid hv2
            clear ho7 hnum hds1 hD k5 hv2
            go_wp2_with fail
            go_roundg (g2 - 1)
            case measure => have := HG2.out; omega
            case rel =>
              refine ⟨j + 1, g2 - 1, x, v ++ ds1, rfl, by omega, by go_num, rfl, rfl, HV2.out, HO7.out, ?_, ?_⟩
              · rw [lastTo_succ hjl]; exact HX.out
              · rw [I2.out.2, HDS1.out, app_str, diffs_take hjl, numsL_append, HDD.out, List.append_assoc (_ ++ headL dd)]
          · have hjm : j = m := by omega
            go_wp2_with fail
            go_roundg (g - 1)
            case measure => have := HG.out; omega
            case rel =>
              have hkl : k < l.dests.length := (List.getElem?_eq_some_iff.1 HDA.out.2.1).1
              refine ⟨k + 1, g - 1, v, rfl, by omega, by go_num, rfl, by omega, HO5.out.quiet_trans HO6.out, ?_⟩
              rw [I2.out.2, hjm, HM.out, List.take_length, List.append_assoc, ← destL_eq, List.take_succ_eq_append_getElem hkl, List.flatMap_append, (List.getElem?_eq_some_iff.1 HDA.out.2.1).2, List.flatMap_cons, List.flatMap_nil, List.append_nil, List.append_assoc]
              exact rfl
    · have hkn : k = n := by omega
      go_wp2_with fail
      go_ret2
      refine ⟨?_, HO.out.quiet_trans HOR.out⟩
      rw [I.out, hkn, ← HD.out.2.2.2, List.take_length]
      rfl
end Mark
end Go.Proofs.YtndgnlblbjpogaaGreatDoor
namespace Go.Proofs.YtndgnlblbjpogaaGreatDoor
open Go Go.RowKit Go.Shelf
namespace Mark
theorem diffs_drop {d : DestV} {j : Nat} (h : j < d.above.length) : (diffs d.low d.above).drop j = (d.above[j] - lastTo d j) :: (diffs d.low d.above).drop (j + 1) := by
  have hl := diffs_length d.above d.low
  rw [List.drop_eq_getElem_cons (by omega)]
  congr 1
  have h1 : diffs d.low d.above = diffs d.low (d.above.take (j + 1)) ++ diffs ((d.above.take (j + 1)).getLastD d.low) (d.above.drop (j + 1)) := by
    rw [← diffs_append, List.take_append_drop]
  have h2 : (diffs d.low (d.above.take (j + 1)))[j]? = some (d.above[j] - lastTo d j) := by
    rw [diffs_take h, List.getElem?_append_right (by rw [diffs_length, List.length_take]; omega), diffs_length, List.length_take, Nat.min_eq_left (by omega), Nat.sub_self]
    rfl
  have h3 : (diffs d.low d.above)[j]? = some (d.above[j] - lastTo d j) := by
    rw [h1, List.getElem?_append_left (by rw [diffs_length, List.length_take]; omega)]
    exact h2
  exact (List.getElem?_eq_some_iff.1 h3).2
theorem off7x {G : Nat → Prop} {w w' : World} {b : Nat} (h : Off G w w') (hb : G b ∨ w.heap.size ≤ b) (v0 v1 v2 v3 v4 v5 v6 : Value) :
    Off G w (((((((w'.setCell ⟨b, 0, none⟩ v0).setCell ⟨b, 1, none⟩ v1).setCell ⟨b, 2, none⟩ v2).setCell ⟨b, 3, none⟩ v3).setCell ⟨b, 4, none⟩ v4).setCell ⟨b, 5, none⟩ v5).setCell ⟨b, 6, none⟩ v6) :=
  ((((((h.setCell (p := ⟨b, 0, none⟩) hb _).setCell (p := ⟨b, 1, none⟩) hb _).setCell (p := ⟨b, 2, none⟩) hb _).setCell (p := ⟨b, 3, none⟩) hb _).setCell (p := ⟨b, 4, none⟩) hb _).setCell (p := ⟨b, 5, none⟩) hb _).setCell (p := ⟨b, 6, none⟩) hb _
theorem read_cells {w : World} {rb : Nat} {t : List UInt8} (h : ReadAt w rb t) : w.cell? ⟨rb, 0, none⟩ = some (.string ⟨t.toArray⟩) ∧ w.cell? ⟨rb, 1, none⟩ = some (.bool false) ∧ w.frozen? ⟨rb, 0, none⟩ = false ∧ w.frozen? ⟨rb, 1, none⟩ = false :=
  ⟨Heap.cell h 0, Heap.cell h 1, Heap.frozen h 0, Heap.frozen h 1⟩
theorem ReadAt.off {G : Nat → Prop} {w w' : World} {rb : Nat} {t : List UInt8} (h : ReadAt w rb t) (ho : Off G w w') (hn : ¬ G rb) : ReadAt w' rb t := ho.at_ h hn
theorem numsL_len64 (l : List Nat) (h : ∀ x ∈ l, x < 18446744073709551616) : (numsL l).length ≤ 10 * l.length := by
  have := numsL_take_le l h l.length
  rwa [List.take_length] at this
set_option maxHeartbeats 4000000 in
set_option maxRecDepth 100000 in
theorem dest_any (w : World) (rb : Nat) (d : DestV) (first next : Nat) (t : List UInt8) (h : ReadAt w rb (destL d ++ t)) (hr : d.Right first next) (hnm : d.name.size ≤ 20) (hM : next ≤ 700) (ht : t.length ≤ 100000) :
    Calls Tryz.prog 132 #[.pointer (some ⟨rb, 0, none⟩)] w fun e w' => ∃ av, e = .returned (destAgg d av) ∧ SliceAt w' (fun b => w.heap.size ≤ b) 1 av d.above.length (numCells d.above) ∧ ReadAt w' rb t ∧ Off (Only rb) w w' := by
  have hm := hr.many
  have r2 := hr.sle
  have r3 := hr.lle
  have r4 := hr.sum
  obtain ⟨T1, hT1⟩ : ∃ T1, T1 = numsL (diffs d.low d.above) ++ t := ⟨_, rfl⟩
  have hdl : ∀ x ∈ diffs d.low d.above, x < 18446744073709551616 := fun x hx => by
    have := diffs_le d.above 700 (fun y hy => by have := (hr.above y hy).2; omega) d.low x hx
    omega
  have hT1l : T1.length ≤ 110000 := by
    have := numsL_len64 _ hdl
    rw [diffs_length] at this
    rw [hT1, List.length_append]
    omega
  have e0 : destL d ++ t = textL d.name ++ (Num.putL d.since ++ (Num.putL d.low ++ (Num.putL d.acked ++ (Num.putL d.evicted ++ (Num.putL d.rejected ++ (Num.putL d.above.length ++ T1)))))) := by
    rw [hT1]
    unfold destL numsL
    simp only [List.flatMap_cons, List.flatMap_nil, List.append_nil, List.append_assoc]
  obtain ⟨R6, hR6⟩ : ∃ R6, R6 = Num.putL d.above.length ++ T1 := ⟨_, rfl⟩
  obtain ⟨R5, hR5⟩ : ∃ R5, R5 = Num.putL d.rejected ++ R6 := ⟨_, rfl⟩
  obtain ⟨R4, hR4⟩ : ∃ R4, R4 = Num.putL d.evicted ++ R5 := ⟨_, rfl⟩
  obtain ⟨R3, hR3⟩ : ∃ R3, R3 = Num.putL d.acked ++ R4 := ⟨_, rfl⟩
  obtain ⟨R2, hR2⟩ : ∃ R2, R2 = Num.putL d.low ++ R3 := ⟨_, rfl⟩
  obtain ⟨R1, hR1⟩ : ∃ R1, R1 = Num.putL d.since ++ R2 := ⟨_, rfl⟩
  rw [← hR6, ← hR5, ← hR4, ← hR3, ← hR2, ← hR1] at e0
  have b1 : d.since < 18446744073709551616 := by omega
  have b2 : d.low < 18446744073709551616 := by omega
  have b3 : d.acked < 18446744073709551616 := by omega
  have b4 : d.evicted < 18446744073709551616 := by omega
  have b5 : d.rejected < 18446744073709551616 := by omega
  have b6 : d.above.length < 18446744073709551616 := by omega
  have l6 : R6.length ≤ 110010 := by have := Num.putL_len b6; rw [hR6, List.length_append]; omega
  have l5 : R5.length ≤ 110020 := by have := Num.putL_len b5; rw [hR5, List.length_append]; omega
  have l4 : R4.length ≤ 110030 := by have := Num.putL_len b4; rw [hR4, List.length_append]; omega
  have l3 : R3.length ≤ 110040 := by have := Num.putL_len b3; rw [hR3, List.length_append]; omega
  have l2 : R2.length ≤ 110050 := by have := Num.putL_len b2; rw [hR2, List.length_append]; omega
  have l1 : R1.length ≤ 110060 := by have := Num.putL_len b1; rw [hR1, List.length_append]; omega
  rw [e0] at h
  obtain ⟨w1, hw1, ho1, hb1, hs1⟩ := boxed w Led.zeroDest 47
  obtain ⟨q0, hq0⟩ : ∃ q0, q0 = w.heap.size := ⟨_, rfl⟩
  rw [← hq0] at hb1
  have hrbl := Heap.lt h
  have hrq0 : rb ≠ q0 := by omega
  have hqw : w.heap.size ≤ q0 := by omega
  have h1 := h.off ho1 (fun h => h)
  have c0 := (read_cells h1).1
  have HH := Lib.hid (And.intro h1 (And.intro hb1 ho1))
  have HTT := Lib.hid (taketext_any w1 d.name R1 hnm (by omega))
  have HR := Lib.hid hr
  have HRE := Lib.hid (And.intro hR1 (And.intro hR2 (And.intro hR3 (And.intro hR4 (And.intro hR5 (And.intro hR6 hT1))))))
  have HDL := Lib.hid hdl
  unfold Led.zeroDest at hw1
  rw [hw1] at c0
  clear h h1 hb1 ho1 hs1 hr e0 hR1 hR2 hR3 hR4 hR5 hR6 hT1 hdl
  go_enter Tryz.func132, Tryz.ntmps132
  go_wp2_with fail
  rw [← hw1, ← hq0]
  clear hw1 hq0
  refine HTT.out.mono ?_
  rintro e w2 ⟨rfl, ho2⟩
  have h2 := HH.out.1.off ho2 (fun h => h)
  obtain ⟨d0, d1, d2, d3⟩ := read_cells h2
  have H2 := Lib.hid (And.intro h2 (And.intro (ho2.at_ HH.out.2.1 (fun h => h)) (HH.out.2.2.quiet_trans ho2)))
  clear ho2 h2 c0
  go_wp2_with fail
  obtain ⟨w3, hw3⟩ : ∃ w3, w3 = (w2.setCell ⟨rb, 0, none⟩ (.string ⟨R1.toArray⟩)).setCell ⟨rb, 1, none⟩ (.bool false) := ⟨_, rfl⟩
  rw [← hw3]
  have hx : ReadAt w3 rb R1 := by rw [hw3]; exact (Heap.set (Heap.set H2.out.1 0 _) 1 _).trans (by simp)
  have ho23 : Off (Only rb) w2 w3 := by rw [hw3]; exact ((Off.refl (Only rb) w2).setCell (p := ⟨rb, 0, none⟩) (.inl rfl) _).setCell (p := ⟨rb, 1, none⟩) (.inl rfl) _
  have hb3 := ho23.at_ H2.out.2.1 (fun h => hrq0 h.symm)
  have HO3 := Lib.hid (show Off (Only rb) w w3 from (H2.out.2.2.mono (fun _ _ h => h.elim)).trans ho23 (fun _ _ h => h))
  have HB3 := Lib.hid hb3
  rw [HRE.out.1] at hx
  have HX0 := Lib.hid hx
  clear hw3 hx ho23 hb3 d0 d1 d2 d3
  refine (number_any _ rb d.since R2 HX0.out b1 (by omega)).mono ?_
  rintro e w4 ⟨rfl, hx0, ho4⟩
  have hb0 := ho4.at_ HB3.out (fun h => hrq0 h.symm)
  have HO4 := Lib.hid ((show Off (Only rb) w w4 from HO3.out.trans ho4 (fun _ _ h => h)))
  have HB10 := Lib.hid hb0
  rw [HRE.out.2.1] at hx0
  have HX1 := Lib.hid hx0
  clear hx0 ho4 hb0
  go_wp2_with fail
  refine (number_any _ rb d.low R3 HX1.out b2 (by omega)).mono ?_
  rintro e w5 ⟨rfl, hx1, ho5⟩
  have hb1 := ho5.at_ HB10.out (fun h => hrq0 h.symm)
  have HO5 := Lib.hid ((show Off (Only rb) w w5 from HO4.out.trans ho5 (fun _ _ h => h)))
  have HB11 := Lib.hid hb1
  rw [HRE.out.2.2.1] at hx1
  have HX2 := Lib.hid hx1
  clear hx1 ho5 hb1
  go_wp2_with fail
  refine (number_any _ rb d.acked R4 HX2.out b3 (by omega)).mono ?_
  rintro e w6 ⟨rfl, hx2, ho6⟩
  have hb2 := ho6.at_ HB11.out (fun h => hrq0 h.symm)
  have HO6 := Lib.hid ((show Off (Only rb) w w6 from HO5.out.trans ho6 (fun _ _ h => h)))
  have HB12 := Lib.hid hb2
  rw [HRE.out.2.2.2.1] at hx2
  have HX3 := Lib.hid hx2
  clear hx2 ho6 hb2
  go_wp2_with fail
  refine (number_any _ rb d.evicted R5 HX3.out b4 (by omega)).mono ?_
  rintro e w7 ⟨rfl, hx3, ho7⟩
  have hb3 := ho7.at_ HB12.out (fun h => hrq0 h.symm)
  have HO7 := Lib.hid ((show Off (Only rb) w w7 from HO6.out.trans ho7 (fun _ _ h => h)))
  have HB13 := Lib.hid hb3
  rw [HRE.out.2.2.2.2.1] at hx3
  have HX4 := Lib.hid hx3
  clear hx3 ho7 hb3
  go_wp2_with fail
  refine (number_any _ rb d.rejected R6 HX4.out b5 (by omega)).mono ?_
  rintro e w8 ⟨rfl, hx4, ho8⟩
  have hb4 := ho8.at_ HB13.out (fun h => hrq0 h.symm)
  have HO8 := Lib.hid ((show Off (Only rb) w w8 from HO7.out.trans ho8 (fun _ _ h => h)))
  have HB14 := Lib.hid hb4
  have HX5 := Lib.hid hx4
  clear hx4 ho8 hb4
  go_wp2_with fail
  have hx5 := HX5.out
  rw [HRE.out.2.2.2.2.2.1] at hx5
  obtain ⟨w9, hw9⟩ : ∃ w9, w9 = w8.alloc (.cells #[.string d.name, .int .u64 d.since, .int .u64 d.low, .slice none 0 0, .int .u64 d.acked, .int .u64 d.evicted, .int .u64 d.rejected] 47) := ⟨_, rfl⟩
  obtain ⟨q6, hq6⟩ : ∃ q6, q6 = w8.heap.size := ⟨_, rfl⟩
  have hb9 : w9.heap[q6]? = some (.cells (destCells d (.slice none 0 0)).toArray 47 (0, 0)) := by rw [hw9, hq6]; exact Heap.alloc_new w8 _
  have ho89 : Off None w8 w9 := by rw [hw9]; exact (Off.refl None w8).alloc _
  rw [← hw9, ← hq6]
  have hwq6 : w.heap.size ≤ q6 := by rw [hq6]; exact HO8.out.size
  have hq06 : q0 ≠ q6 := by have := Heap.lt HB14.out; omega
  have hrq6 : rb ≠ q6 := by have := Heap.lt hx5; omega
  have hx9 := hx5.off ho89 (fun h => h)
  have hz9 := ho89.at_ HB14.out (fun h => h)
  have HO9 := Lib.hid (HO8.out.quiet_trans ho89)
  have HB9 := Lib.hid (And.intro hb9 hz9)
  have HX9 := Lib.hid hx9
  clear hw9 hq6 hb9 ho89 hx9 hz9 hx5
  refine (number_any _ rb d.above.length T1 HX9.out b6 (by omega)).mono ?_
  rintro e w10 ⟨rfl, hx10, ho10⟩
  rw [HRE.out.2.2.2.2.2.2] at hx10
  have hq10 := ho10.at_ HB9.out.1 (fun h => hrq6 h.symm)
  have hz10 := ho10.at_ HB9.out.2 (fun h => hrq0 h.symm)
  have H10 := Lib.hid (And.intro hx10 (And.intro hq10 (And.intro hz10 (HO9.out.trans ho10 (fun _ _ h => h)))))
  obtain ⟨m, hm0⟩ : ∃ m, m = d.above.length := ⟨_, rfl⟩
  have HM := Lib.hid hm0
  rw [← hm0]
  have hm7 : m ≤ 700 := by omega
  clear ho10 hx10 hq10 hz10 hm0
  go_wp2_with fail
  go_loopg [7, 8] m (fun gg s7 s8 wr => ∃ (j g la : Nat) (v : Value), g = gg ∧ j + g = m ∧ s8 = .int .u64 g ∧ s7 = .int .u64 la ∧ la ≤ 700 ∧ ReadAt wr rb (numsL ((diffs d.low d.above).drop j) ++ t) ∧ wr.heap[q6]? = some (.cells (destCells d v).toArray 47 (0, 0)) ∧
    wr.heap[q0]? = some (.cells Led.zeroDest 47 (0, 0)) ∧ wr.ownsRow w10.heap.size 31 1 v j (numCells (d.above.take j)) ∧ Off (Only rb) w wr ∧ w10.heap.size ≤ wr.heap.size ∧ Aside (la = lastTo d j))
  case atStart => exact ⟨0, m, d.low, _, rfl, by omega, rfl, rfl, by omega, by rw [List.drop_zero]; exact H10.out.1, H10.out.2.1, H10.out.2.2.1, by rw [List.take_zero]; exact World.ownsRow_nil _ _ _ _, H10.out.2.2.2, Nat.le_refl _, rfl⟩
  case round =>
    obtain ⟨j, g, la, v, hgg, hjg, rfl, rfl, hla, hx, hb6r, hz, hrow, ho, hsz, I⟩ := hrel
    have HG := Lib.hid hgg; clear hgg
    have HXR := Lib.hid hx
    have HR6 := Lib.hid (And.intro hb6r (And.intro hz hrow))
    have HOR := Lib.hid (And.intro ho hsz)
    obtain ⟨A, c, hv⟩ := Led.own_form hrow
    subst hv
    by_cases hj : j < m
    · have hgp : (0 : Int) < (g : Int) := by omega
      have hgp2 : 0 < g := by omega
      have hjl : j < d.above.length := by have := HM.out; omega
      obtain ⟨r0, r1, r2, r3⟩ := read_cells hx
      have hdr := diffs_drop hjl
      obtain ⟨x, hx0⟩ : ∃ x, x = d.above[j] := ⟨_, rfl⟩
      have hlt : la < x := by rw [I.out, hx0]; exact last_lt HR.out hjl
      have hx7 : x ≤ 700 := by have := (HR.out.above _ (List.getElem_mem hjl)).2; rw [← hx0] at this; omega
      rw [← hx0, ← I.out] at hdr
      have hx1 := hx
      rw [hdr, numsL_cons, List.append_assoc] at hx1
      have HX1 := Lib.hid hx1
      have HX := Lib.hid hx0
      have htl : (numsL ((diffs d.low d.above).drop (j + 1)) ++ t).length ≤ 120000 := by
        have := numsL_len64 _ (fun y hy => HDL.out y (List.mem_of_mem_drop hy) : ∀ y ∈ (diffs d.low d.above).drop (j + 1), _)
        rw [List.length_drop, diffs_length] at this
        rw [List.length_append]
        omega
      have HTL := Lib.hid htl
      clear hx hb6r hz hrow ho hsz hdr hx1 hx0 htl
      go_wp2_with fail
      refine (number_any _ rb (x - la) _ HX1.out (by omega) (by have := HTL.out; omega)).mono ?_
      rintro e w12 ⟨rfl, hx12, ho12⟩
      rw [show ((x - la : Nat) : Int) = (x : Int) - (la : Int) by omega]
      have hq12 := ho12.at_ HR6.out.1 (fun h => hrq6 h.symm)
      have hz12 := ho12.at_ HR6.out.2.1 (fun h => hrq0 h.symm)
      have hrb10 := Heap.lt H10.out.1
      have hrow12 := ho12.row HR6.out.2.2 (fun k hk h => by have h1 := (HR6.out.2.2.lt k hk).1; have h2 : k = rb := h; omega)
      have h3 : w12.cell? ⟨q6, 3, none⟩ = some (.slice A j c) := Heap.cell hq12 3
      have f3 : w12.frozen? ⟨q6, 3, none⟩ = false := Heap.frozen hq12 3
      have H12 := Lib.hid (And.intro hx12 (And.intro hq12 (And.intro hz12 (And.intro hrow12 (And.intro (HOR.out.1.trans ho12 (fun _ _ h => h)) (Nat.le_trans HOR.out.2 ho12.size))))))
      have HQ10 := Lib.hid (And.intro hrb10 (And.intro (Heap.lt H10.out.2.1) (Heap.lt H10.out.2.2.1)))
      clear hx12 hq12 hz12 hrow12 ho12 r0 r1 r2 r3 hrb10
      have hsum : (la : Int) + ((x : Int) - (la : Int)) = (x : Int) := by omega
      have hsep : ∀ k, (Value.slice A j c).ownBlock = some k → w10.heap.size ≤ k := fun k hk => (H12.out.2.2.2.1.lt k hk).1
      have hk6 : (Value.slice A j c).ownBlock ≠ some q6 := fun h => by have := hsep q6 h; have := HQ10.out; omega
      have HSEP := Lib.hid (And.intro hsep hk6)
      clear h3 f3 hsep hk6
      have h3 : w12.cell? ⟨q6, 3, none⟩ = some (.slice A j c) := Heap.cell H12.out.2.1 3
      go_wp2_with (at_builtin; refine wpList_push rfl _ _ rfl Nums.u64Ok w10.heap.size (.slice A j c) j (numCells (d.above.take j)) rfl H12.out.2.2.2.1 #[.int .u64 x] rfl rfl (by intro u hu; simp at hu; subst hu; rfl) (by omega) H12.out.2.2.2.2.2 ?_; intro g5 cap5 w13 hrow13 hp13; have hq13 := hp13.keep q6 _ H12.out.2.1 HSEP.out.2; have h3' : w13.cell? ⟨q6, 3, none⟩ = some (.slice A j c) := Heap.cell hq13 3; have f3' : w13.frozen? ⟨q6, 3, none⟩ = false := Heap.frozen hq13 3)
      have hz13 := hp13.keep q0 _ H12.out.2.2.1 (fun h => by have := HSEP.out.1 q0 h; have := HQ10.out; omega)
      have hx13 : ReadAt w13 rb _ := hp13.keep rb _ H12.out.1 (fun h => by have := HSEP.out.1 rb h; have := HQ10.out; omega)
      have ho13 : Off (Only rb) w w13 := H12.out.2.2.2.2.1.trans hp13.off (fun b hb h => absurd hb (by have h1 := HSEP.out.1 b h; have h2 := H10.out.2.2.2.size; omega))
      have hg5 := (hrow13.lt g5 rfl).1
      go_roundg (g - 1)
      case measure => have := HG.out; omega
      case rel =>
        have hqw10 := HQ10.out
        refine ⟨j + 1, g - 1, x, .slice (some ⟨g5, 0, none⟩) (j + 1) cap5, rfl, by omega, ?_, rfl, hx7, ?_, ?_, ?_, ?_, ?_, ?_, ?_⟩
        · exact congrArg _ (by omega)
        · exact ReadAt.off hx13 ((Off.refl (Only q6) w13).setCell (p := ⟨q6, 3, none⟩) (.inl rfl) _) hrq6
        · exact (Heap.set hq13 3 _).trans (by simp [destCells])
        · exact (Heap.set_far hq06 _).trans hz13
        · rw [List.take_succ_eq_append_getElem hjl, Nums.numCells_append]
          refine ((Off.refl (Only q6) w13).setCell (p := ⟨q6, 3, none⟩) (.inl rfl) _).row ?_ (fun k hk h => by cases hk; have e2 : g5 = q6 := h; omega)
          rw [← HX.out]
          exact hrow13
        · exact ho13.setCell (p := ⟨q6, 3, none⟩) (.inr hwq6) _
        · rw [Heap.set_size]; exact Nat.le_trans H12.out.2.2.2.2.2 hp13.off.size
        · show x = lastTo d (j + 1)
          rw [lastTo_succ hjl]; exact HX.out
    · have hjm : j = m := by omega
      have hg0 : g = 0 := by omega
      subst hg0
      have HOO := Lib.hid (And.intro hx (And.intro hrow ho))
      obtain ⟨e0, e1, e2, e3, e4, e5, e6⟩ := dest_cells hb6r
      have z0 : wr.cell? ⟨q0, 0, none⟩ = some (.string ⟨#[]⟩) := Heap.cell hz 0
      have z1 : wr.cell? ⟨q0, 1, none⟩ = some (.int .u64 0) := Heap.cell hz 1
      have z2 : wr.cell? ⟨q0, 2, none⟩ = some (.int .u64 0) := Heap.cell hz 2
      have z3 : wr.cell? ⟨q0, 3, none⟩ = some (.slice none 0 0) := Heap.cell hz 3
      have z4 : wr.cell? ⟨q0, 4, none⟩ = some (.int .u64 0) := Heap.cell hz 4
      have z5 : wr.cell? ⟨q0, 5, none⟩ = some (.int .u64 0) := Heap.cell hz 5
      have z6 : wr.cell? ⟨q0, 6, none⟩ = some (.int .u64 0) := Heap.cell hz 6
      have y0 := Heap.frozen hz 0
      have y1 := Heap.frozen hz 1
      have y2 := Heap.frozen hz 2
      have y3 := Heap.frozen hz 3
      have y4 := Heap.frozen hz 4
      have y5 := Heap.frozen hz 5
      have y6 := Heap.frozen hz 6
      clear hx hb6r hz hrow ho hsz
      go_wp2_with fail
      have hsep : ∀ k, (Value.slice A m c).ownBlock = some k → w10.heap.size ≤ k := fun k hk => by
        have h1 := (HR6.out.2.2.lt k (by rw [hjm]; exact hk)).1
        exact h1
      have hz10 := Heap.lt H10.out.2.2.1
      have hoF : Off (Only q0) wr _ := off7x (Off.refl (Only q0) wr) (.inl rfl) (.string d.name) (.int .u64 d.since) (.int .u64 d.low) (.slice A m c) (.int .u64 d.acked) (.int .u64 d.evicted) (.int .u64 d.rejected)
      rw [hjm] at HOO
      have hbx := Led.box7 HR6.out.2.1 (.string d.name) (.int .u64 d.since) (.int .u64 d.low) (.slice A m c) (.int .u64 d.acked) (.int .u64 d.evicted) (.int .u64 d.rejected)
      refine bodyPost_ret_by (results_cell_row rfl _ _ q0 _ _ _ _ rfl hbx Tryz.underlying47 rfl Led.sizeDest) rfl ⟨.slice A m c, rfl, ?_, ?_, ?_⟩
      · rw [← HM.out]
        have hown := HOO.out.2.1
        rw [HM.out, List.take_length, ← HM.out] at hown
        refine ((SliceAt.of_own (S := fun b => w10.heap.size ≤ b) hown (by omega) hsep).off hoF (fun b hb _ h => ?_)).mono (fun b hb _ => Nat.le_trans H10.out.2.2.2.size hb)
        have e1 : b = q0 := h
        omega
      · have hx := HOO.out.1
        rw [HM.out, List.drop_of_length_le (by rw [diffs_length]; exact Nat.le_refl _)] at hx
        exact hx.off hoF (fun h => hrq0 h)
      · exact HOO.out.2.2.trans hoF (fun b hb h => absurd hb (by have e1 : b = q0 := h; omega))
end Mark
end Go.Proofs.YtndgnlblbjpogaaGreatDoor
namespace Go.Proofs.YtndgnlblbjpogaaGreatDoor
open Go Go.RowKit Go.Shelf
namespace Mark
theorem zeros3 {w : World} {q : Nat} (h : w.heap[q]? = some (.cells Led.zLed 34 (0, 0))) : w.cell? ⟨q, 0, none⟩ = some (.int .u64 0) ∧ w.cell? ⟨q, 1, none⟩ = some (.int .u64 0) ∧ w.cell? ⟨q, 2, none⟩ = some (.slice none 0 0) ∧ w.frozen? ⟨q, 0, none⟩ = false ∧ w.frozen? ⟨q, 1, none⟩ = false ∧ w.frozen? ⟨q, 2, none⟩ = false :=
  ⟨Heap.cell h 0, Heap.cell h 1, Heap.cell h 2, Heap.frozen h 0, Heap.frozen h 1, Heap.frozen h 2⟩
theorem flat_len (l : LedgerV) (hr : l.Right nmOk) (hM : l.next ≤ 700) (k : Nat) : ((l.dests.drop k).flatMap destL).length ≤ 6000 := by
  have h1 := hr.mark hM
  have h2 : (markL l).length ≤ 6000 := h1
  unfold markL at h2
  rw [List.length_append] at h2
  have h3 : (l.dests.flatMap destL) = (l.dests.take k).flatMap destL ++ (l.dests.drop k).flatMap destL := by rw [← List.flatMap_append, List.take_append_drop]
  rw [h3, List.length_append] at h2
  omega
theorem one7 (d : DestV) (B : Option Addr) (n c : Nat) : ∀ u ∈ destCells d (.slice B n c), u.oneCell' = true := by
  intro u hu
  simp [destCells] at hu
  rcases hu with rfl | rfl | rfl | rfl | rfl | rfl | rfl <;> rfl
set_option maxHeartbeats 4000000 in
set_option maxRecDepth 100000 in
theorem take_any (w : World) (l : LedgerV) (hr : l.Right nmOk) (hM : l.next ≤ 700) :
    Calls Tryz.prog 101 #[.string (markB l)] w fun e w' => ∃ lv, e = .returned (.tuple #[lv, .int .i64 0]) ∧ LedgerAt w' (fun b => w.heap.size ≤ b) lv l ∧ Off None w w' := by
  have hle := hr.le
  have h4 := hr.few
  obtain ⟨R3, hR3⟩ : ∃ R3, R3 = l.dests.flatMap destL := ⟨_, rfl⟩
  obtain ⟨R2, hR2⟩ : ∃ R2, R2 = Num.putL l.dests.length ++ R3 := ⟨_, rfl⟩
  obtain ⟨R1, hR1⟩ : ∃ R1, R1 = Num.putL l.next ++ R2 := ⟨_, rfl⟩
  have l3 : R3.length ≤ 6000 := by rw [hR3]; have := flat_len l hr hM 0; rwa [List.drop_zero] at this
  have l2 : R2.length ≤ 6010 := by have := Num.putL_len (n := l.dests.length) (by omega); rw [hR2, List.length_append]; omega
  have l1 : R1.length ≤ 6020 := by have := Num.putL_len (n := l.next) (by omega); rw [hR1, List.length_append]; omega
  have e0 : markL l = Num.putL l.first ++ R1 := by
    rw [hR1, hR2, hR3]
    unfold markL numsL
    simp only [List.flatMap_cons, List.flatMap_nil, List.append_nil, List.append_assoc]
  obtain ⟨s0, hs0⟩ : ∃ s0, s0 = markB l := ⟨_, rfl⟩
  rw [← hs0]
  obtain ⟨w1, hw1, ho1, hb1, hs1⟩ := boxed w Led.zLed 34
  obtain ⟨w2, hw2, ho2, hb2, hs2⟩ := boxed w1 #[.string s0, .bool false] 175
  obtain ⟨q, hq⟩ : ∃ q, q = w.heap.size := ⟨_, rfl⟩
  obtain ⟨rb, hrb⟩ : ∃ rb, rb = w1.heap.size := ⟨_, rfl⟩
  have hq1 : rb = q + 1 := by omega
  rw [← hq] at hb1
  rw [← hrb] at hb2
  have hrq : rb ≠ q := by omega
  have hqw : w.heap.size ≤ q ∧ w.heap.size ≤ rb ∧ q < w2.heap.size := by omega
  have hx2 : ReadAt w2 rb (Num.putL l.first ++ R1) := by
    unfold ReadAt
    rw [hb2, hs0, ← e0]
    rfl
  have HX2 := Lib.hid hx2
  have HB2 := Lib.hid (ho2.at_ hb1 (fun h => h))
  have HO2 := Lib.hid (And.intro (ho1.quiet_trans ho2) hqw)
  have HR := Lib.hid (And.intro hr (And.intro hM (And.intro hR1 (And.intro hR2 hR3))))
  have HS := Lib.hid hs0
  unfold Led.zLed at hw1
  clear hx2 hb1 hb2 ho1 ho2 hs1 hs2 hr hR1 hR2 hR3 e0 hs0 hqw
  go_enter Tryz.func101, Tryz.ntmps101
  go_wp2_with fail
  rw [← hw1, ← hw2, ← hq, ← hq1]
  clear hw1 hw2 hq hq1 hrb
  refine (number_any _ rb l.first R1 HX2.out (by omega) (by omega)).mono ?_
  rintro e w3 ⟨rfl, hx3, ho3⟩
  rw [HR.out.2.2.1] at hx3
  have HX3 := Lib.hid hx3
  have HB3 := Lib.hid (ho3.at_ HB2.out (fun h => hrq h.symm))
  have HO3 := Lib.hid ((show Off (Only rb) w2 w3 from ho3))
  clear hx3 ho3
  go_wp2_with fail
  refine (number_any _ rb l.next R2 HX3.out (by omega) (by omega)).mono ?_
  rintro e w4 ⟨rfl, hx4, ho4⟩
  rw [HR.out.2.2.2.1] at hx4
  have HX4 := Lib.hid hx4
  have HB4 := Lib.hid (ho4.at_ HB3.out (fun h => hrq h.symm))
  have HO4 := Lib.hid (HO3.out.trans ho4 (fun _ _ h => h))
  clear hx4 ho4
  go_wp2_with fail
  obtain ⟨w5, hw5, ho5, hb5, hs5⟩ := boxed w4 #[.int .u64 l.first, .int .u64 l.next, .slice none 0 0] 34
  obtain ⟨p, hp⟩ : ∃ p, p = w4.heap.size := ⟨_, rfl⟩
  rw [← hp] at hb5
  rw [← hw5, ← hp]
  have hpq : q ≠ p := by have := Heap.lt HB4.out; omega
  have hpr : rb ≠ p := by have := Heap.lt HX4.out; omega
  have hpw : w.heap.size ≤ p := by have := HO2.out.1.size; have := HO4.out.size; omega
  have HPW2 := Lib.hid (show w2.heap.size ≤ p by have := HO4.out.size; omega)
  have HX5 := Lib.hid (ReadAt.off HX4.out ho5 (fun h => h))
  have HB5 := Lib.hid (And.intro hb5 (And.intro (ho5.at_ HB4.out (fun h => h)) (HO4.out.quiet_trans ho5)))
  clear hw5 hp hb5 ho5 hs5
  refine (number_any _ rb l.dests.length R3 HX5.out (by omega) (by omega)).mono ?_
  rintro e w6 ⟨rfl, hx6, ho6⟩
  rw [HR.out.2.2.2.2] at hx6
  have H6 := Lib.hid (And.intro hx6 (And.intro (ho6.at_ HB5.out.1 (fun h => hpr h.symm)) (And.intro (ho6.at_ HB5.out.2.1 (fun h => hrq h.symm)) (HB5.out.2.2.trans ho6 (fun _ _ h => h)))))
  obtain ⟨n, hn⟩ : ∃ n, n = l.dests.length := ⟨_, rfl⟩
  have HN := Lib.hid hn
  rw [← hn] at h4 ⊢
  clear hx6 ho6 hn
  go_wp2_with fail
  go_loopg [6] n (fun gg s6 wr => ∃ (k g : Nat) (dk : List DestIn) (v : Value), g = gg ∧ k + g = n ∧ s6 = .int .u64 g ∧ ReadAt wr rb ((l.dests.drop k).flatMap destL) ∧ wr.heap[p]? = some (.cells #[.int .u64 l.first, .int .u64 l.next, v] 34 (0, 0)) ∧
    wr.heap[q]? = some (.cells Led.zLed 34 (0, 0)) ∧ wr.ownsRow w6.heap.size 47 7 v k (destsCells dk) ∧ Off (Only rb) w2 wr ∧ w6.heap.size ≤ wr.heap.size ∧
    Aside (dk.length = k ∧ dk.map (·.1) = l.dests.take k ∧ ∀ y ∈ dk, DestAt wr (fun b => w6.heap.size ≤ b ∧ v.ownBlock ≠ some b) y))
  case atStart => exact ⟨0, n, [], _, rfl, by omega, rfl, by rw [List.drop_zero]; exact H6.out.1, H6.out.2.1, H6.out.2.2.1, World.ownsRow_nil _ _ _ _, H6.out.2.2.2, Nat.le_refl _, ⟨rfl, rfl, fun y hy => by cases hy⟩⟩
  case round =>
    obtain ⟨k, g, dk, v, hgg, hkg, rfl, hx, hpb, hqb, hrow, ho, hsz, I⟩ := hrel
    have HG := Lib.hid hgg; clear hgg
    obtain ⟨A, c, hv⟩ := Led.own_form hrow
    subst hv
    have HX := Lib.hid hx
    have HPQ := Lib.hid (And.intro hpb (And.intro hqb (And.intro hrow (And.intro ho hsz))))
    by_cases hk : k < n
    · have hgp : (0 : Int) < (g : Int) := by omega
      have hgp2 : 0 < g := by omega
      have hkl : k < l.dests.length := by have := HN.out; omega
      obtain ⟨dd, hdd⟩ : ∃ dd, dd = l.dests[k] := ⟨_, rfl⟩
      have hmem : dd ∈ l.dests := by rw [hdd]; exact List.getElem_mem hkl
      have hdr := (HR.out.1.each dd hmem).2
      obtain ⟨b1, _, _, _, _, _, _, _⟩ := HR.out.1.nums HR.out.2.1 dd hmem
      have hx1 := hx
      rw [List.drop_eq_getElem_cons hkl, List.flatMap_cons, ← hdd] at hx1
      have hfl := flat_len l HR.out.1 HR.out.2.1 (k + 1)
      have HDEST := Lib.hid (fun W (hW : Off None wr W) => dest_any W rb dd l.first l.next _ (hx1.off hW (fun h => h)) hdr b1 HR.out.2.1 (by omega))
      have HDD := Lib.hid (And.intro hdd hmem)
      obtain ⟨r0, r1, r2, r3⟩ := read_cells hx
      have c2 : wr.cell? ⟨p, 2, none⟩ = some (.slice A k c) := Heap.cell hpb 2
      have c2d : wr.drew.cell? ⟨p, 2, none⟩ = some (.slice A k c) := c2
      have hsm := HR.out.1.small HR.out.2.1 (by omega) dd hmem
      have HSM := Lib.hid hsm
      obtain ⟨i0, hi, hz0, hz1, hz2⟩ := info_parts Led.infoDest
      have I0 := Lib.hid hi; have Z0 := Lib.hid hz0; have Z1 := Lib.hid hz1; have Z2 := Lib.hid hz2
      have HK2 := Lib.hid (show k + 1 ≤ maxLen by unfold maxLen; omega)
      have HK3 := Lib.hid (show (k + 1) * 80 ≤ 140737488355328 by omega)
      have HFR := Lib.hid (show rb < w6.heap.size ∧ p < w6.heap.size ∧ q < w6.heap.size from ⟨Heap.lt H6.out.1, Heap.lt H6.out.2.1, Heap.lt H6.out.2.2.1⟩)
      clear hx hpb hqb hrow ho hsz hx1 hdd hmem hdr hfl hsm hi hz0 hz1 hz2 b1
      go_wp2_with fail
      go_region_law (first
        | (refine step_call (by rfl) 132 _ _ (by rfl) (enters_of Tryz.func132 (by kernel_rfl) rfl) #[.pointer (some ⟨rb, 0, none⟩)] (by rfl) (HDEST.out _ ((Off.refl None wr).drew)) ?_
           rintro e w7 ⟨av, rfl, hrow7, hx7, ho7⟩
           obtain ⟨B', cb', hB'⟩ := SliceAt.form hrow7
           subst hB'
           refine ⟨_, rfl, ?_⟩
           unfold destAgg
           have ho7 := ((Off.refl None wr).drew.mono (G' := Only rb) (fun _ _ h => h.elim)).trans ho7 (fun _ _ h => h)
           have k2 : w7.cell? ⟨p, 2, none⟩ = some (.slice A k c) := ho7.stay c2 (fun h => hpr h.symm)
           have k2a := ((Off.refl None w7).alloc (.cells #[.string dd.name, .int .u64 dd.since, .int .u64 dd.low, .slice B' dd.above.length cb', .int .u64 dd.acked, .int .u64 dd.evicted, .int .u64 dd.rejected] 47)).stay k2 (fun h => h)
           have hown7 := ho7.row HPQ.out.2.2.1 (fun k hk h => by have h1 := (HPQ.out.2.2.1.lt k hk).1; have h2 : k = rb := h; have h3 := HFR.out; omega))
        | (refine step_append_lies (w7.alloc (.cells #[.string dd.name, .int .u64 dd.since, .int .u64 dd.low, .slice B' dd.above.length cb', .int .u64 dd.acked, .int .u64 dd.evicted, .int .u64 dd.rejected] 47)) (by rfl) _ _ 32 (by rfl) w6.heap.size 47 i0 _ 7 80 Tryz.underlying32 I0.out Z0.out Z1.out Z2.out (by rfl) (by decide) (.slice A k c) k (destsCells dk) (by rfl) (hown7.alloc _) ⟨w7.heap.size, 0, none⟩ 1 1 (destCells dd (.slice B' dd.above.length cb')) (by rfl) (by rfl) (Heap.news w7 _ _ _ rfl) (one7 _ _ _ _) (by decide) HK2.out HK3.out (Nat.le_trans (Nat.le_trans HPQ.out.2.2.2.2 ho7.size) ((Off.refl None w7).alloc _).size) _ rfl ?_
           intro g5 cap5 w8 q1 q2 q3 q4
           have hp7 := ho7.at_ HPQ.out.1 (fun h => hpr h.symm)
           have hp8 := Heap.grown q2 (Heap.alloc_old hp7 _) (fun h => by have h1 := (HPQ.out.2.2.1.lt p h).1; have h3 := HFR.out; omega)
           have jf : w8.frozen? ⟨p, 2, none⟩ = false := Heap.frozen hp8 2
           have j2 : w8.cell? ⟨p, 2, none⟩ = some (.slice A k c) := Heap.cell hp8 2))
      all_goals
        have ho8 : Off (fun b => (Value.slice A k c).ownBlock = some b) w7 w8 := ((Off.refl _ w7).alloc _).grown q2 (fun _ h => .inl h)
        have hsep : ∀ b, (Value.slice A k c).ownBlock = some b → w6.heap.size ≤ b ∧ b < wr.heap.size := fun b hb => HPQ.out.2.2.1.lt b hb
        have hq8 := ho8.at_ (ho7.at_ HPQ.out.2.1 (fun h => hrq h.symm)) (fun h => by have := hsep q h; have := HFR.out; omega)
        have hx8 := hx7.off ho8 (fun h => by have := hsep rb h; have := HFR.out; omega)
        have hg5 : w6.heap.size ≤ g5 := (q1.lt g5 rfl).1
        have hgn : (Value.slice A k c).ownBlock = some g5 ∨ w7.heap.size ≤ g5 := q3.imp id (fun h => by rw [h, Heap.alloc_size]; omega)
        have hs7 := ho7.size
        have ho28 : Off (Only rb) w2 w8 := (HPQ.out.2.2.2.1.trans ho7 (fun _ _ h => h)).trans ho8 (fun b hb h => absurd hb (by have h1 := hsep b h; have h2 := H6.out.2.2.2.size; omega))
        have hset : Off (Only p) w8 (w8.setCell ⟨p, 2, none⟩ (.slice (some ⟨g5, 0, none⟩) (k + 1) cap5)) := (Off.refl (Only p) w8).setCell (p := ⟨p, 2, none⟩) (.inl rfl) _
        have HF := Lib.hid (And.intro hp8 (And.intro hq8 (And.intro hx8 (And.intro q1 (And.intro ho28 (And.intro hset (And.intro hgn hg5)))))))
        have HOLD := Lib.hid (show ∀ y ∈ dk, DestAt (w8.setCell ⟨p, 2, none⟩ (.slice (some ⟨g5, 0, none⟩) (k + 1) cap5)) (fun b => w6.heap.size ≤ b ∧ (Value.slice (some ⟨g5, 0, none⟩) (k + 1) cap5).ownBlock ≠ some b) y from fun y hy => by
          have h1 := (I.out.2.2 y hy).mono (T := fun b => (w6.heap.size ≤ b ∧ (Value.slice A k c).ownBlock ≠ some b) ∧ b < wr.heap.size) (fun b hb hl => ⟨hb, hl⟩)
          have h2 := h1.off ho7 (fun b hb _ h => by have e1 : b = rb := h; have := HFR.out; omega)
          have h3 := h2.off ho8 (fun b hb _ h => hb.1.2 h)
          have h4 := h3.off hset (fun b hb _ h => by have e1 : b = p := h; have := HFR.out; omega)
          refine h4.mono (fun b hb _ => ⟨hb.1.1, fun h => ?_⟩)
          cases h
          rcases hgn with h | h
          · exact hb.1.2 h
          · have h9 : g5 < wr.heap.size := hb.2
            omega)
        have HNEW := Lib.hid (show DestAt (w8.setCell ⟨p, 2, none⟩ (.slice (some ⟨g5, 0, none⟩) (k + 1) cap5)) (fun b => w6.heap.size ≤ b ∧ (Value.slice (some ⟨g5, 0, none⟩) (k + 1) cap5).ownBlock ≠ some b) (dd, .slice B' dd.above.length cb') from by
          refine ⟨?_, HSM.out⟩
          have h1 := hrow7.mono (T := fun b => wr.heap.size ≤ b ∧ b < w7.heap.size) (fun b hb hl => ⟨hb, hl⟩)
          have h2 := h1.off ho8 (fun b hb _ h => by have := hsep b h; omega)
          have h3 := h2.off hset (fun b hb _ h => by have e1 : b = p := h; have h4 := HFR.out; have h5 := HPQ.out.2.2.2.2; omega)
          refine h3.mono (fun b hb _ => ⟨Nat.le_trans HPQ.out.2.2.2.2 hb.1, fun h => ?_⟩)
          cases h
          have h9 : wr.heap.size ≤ g5 ∧ g5 < w7.heap.size := hb
          rcases hgn with h | h
          · have := hsep _ h; omega
          · omega)
        have hsz8 : w6.heap.size ≤ w8.heap.size := Nat.le_trans (Nat.le_trans HPQ.out.2.2.2.2 hs7) ho8.size
        clear hrow7 hx7 ho7 k2 k2a hown7 q1 q2 q3 q4 hp7 hp8 jf j2 ho8 hsep hq8 hx8 hg5 hgn hs7 ho28 hset c2 c2d r0 r1 r2 r3
        go_wp2_with fail
        go_roundg (g - 1)
        case measure => have := HG.out; omega
        case rel =>
          refine ⟨k + 1, g - 1, dk ++ [(dd, .slice B' dd.above.length cb')], .slice (some ⟨g5, 0, none⟩) (k + 1) cap5, rfl, by omega, by exact congrArg _ (by omega), HF.out.2.2.1.off HF.out.2.2.2.2.2.1 (fun h => hpr h), (Heap.set HF.out.1 2 _).trans (by simp), (Heap.set_far (fun h => hpq h) _).trans HF.out.2.1, ?_, ?_, ?_, ?_⟩
          · refine HF.out.2.2.2.2.2.1.row ?_ (fun k hk h => by cases hk; have e2 : g5 = p := h; have := HFR.out; have := HF.out.2.2.2.2.2.2.2; omega)
            rw [destsCells_snoc]
            exact HF.out.2.2.2.1
          · exact HF.out.2.2.2.2.1.trans HF.out.2.2.2.2.2.1 (fun b hb h => absurd hb (by have e1 : b = p := h; have h1 := HPW2.out; omega))
          · rw [Heap.set_size]; exact hsz8
          · refine ⟨by rw [List.length_append, I.out.1]; rfl, ?_, fun y hy => ?_⟩
            · rw [List.map_append, I.out.2.1, List.take_succ_eq_append_getElem hkl, ← HDD.out.1]; rfl
            · rcases List.mem_append.1 hy with hy | hy
              · exact HOLD.out y hy
              · rw [List.mem_singleton.1 hy]; exact HNEW.out
    · have hkn : k = n := by omega
      have hg0 : g = 0 := by omega
      subst hg0
      have hw6 : w.heap.size ≤ w6.heap.size := Nat.le_trans HO2.out.1.size H6.out.2.2.2.size
      have hda : LedgerAt wr (fun b => w6.heap.size ≤ b) (.agg #[.int .u64 l.first, .int .u64 l.next, .slice A k c]) l := by
        refine ⟨.slice A k c, dk, rfl, ?_, ⟨?_, fun y hy => (I.out.2.2 y hy).mono (fun b hb _ => hb.1)⟩, by unfold big; omega, by unfold big; omega⟩
        · rw [I.out.2.1, hkn, HN.out, List.take_length]
        · rw [I.out.1]
          exact SliceAt.of_own hrow (by omega) (fun b hb => (hrow.lt b hb).1)
      have hput := put_any wr _ _ l hda HR.out.1 HR.out.2.1
      rw [← HS.out] at hput
      have HPUT := Lib.hid hput
      have HDA := Lib.hid hda
      have p0 : wr.cell? ⟨p, 0, none⟩ = some (.int .u64 l.first) := Heap.cell hpb 0
      have p1 : wr.cell? ⟨p, 1, none⟩ = some (.int .u64 l.next) := Heap.cell hpb 1
      have p2 : wr.cell? ⟨p, 2, none⟩ = some (.slice A k c) := Heap.cell hpb 2
      clear hda hput hpb hrow hx hqb ho hsz hkn
      go_wp2_with fail
      refine HPUT.out.mono ?_
      rintro e w7 ⟨rfl, ho7⟩
      have hx7 := HX.out.off ho7 (fun h => h)
      obtain ⟨r0, r1, r2, r3⟩ := read_cells hx7
      have hpb7 := ho7.at_ HPQ.out.1 (fun h => h)
      have hqb7 := ho7.at_ HPQ.out.2.1 (fun h => h)
      have HQ7 := Lib.hid hqb7
      obtain ⟨z0, z1, z2, y0, y1, y2⟩ := zeros3 hqb7
      have p0' : w7.cell? ⟨p, 0, none⟩ = some (.int .u64 l.first) := Heap.cell hpb7 0
      have p1' : w7.cell? ⟨p, 1, none⟩ = some (.int .u64 l.next) := Heap.cell hpb7 1
      have p2' : w7.cell? ⟨p, 2, none⟩ = some (.slice A k c) := Heap.cell hpb7 2
      have HF := Lib.hid (And.intro (HDA.out.quiet ho7) (And.intro (HPQ.out.2.2.2.1.quiet_trans ho7) hw6))
      have hFR : q < w6.heap.size := Heap.lt H6.out.2.2.1
      clear hx7 hpb7 hqb7 ho7 p0 p1 p2 hw6
      go_wp2_with fail
      have hoq : Off (Only q) w7 _ := Led.off3 (G := Only q) (Off.refl (Only q) w7) (.inl rfl) (.int .u64 l.first) (.int .u64 l.next) (.slice A k c)
      refine bodyPost_ret_by (Led.results_row_tmp' rfl _ _ q _ _ _ _ rfl (Led.box3' HQ7.out _ _ _) Tryz.underlying34 rfl Led.infoLed) rfl ⟨_, rfl, ?_, ?_⟩
      · refine (HF.out.1.off hoq (fun b hb _ h => ?_)).mono (fun b hb _ => Nat.le_trans HF.out.2.2 hb)
        have e1 : b = q := h
        omega
      · exact (HO2.out.1.trans (HF.out.2.1) (fun b hb h => absurd hb (by have e1 : b = rb := h; have := HO2.out.2; omega))).trans hoq (fun b hb h => absurd hb (by have e1 : b = q := h; have := HO2.out.2; omega))
end Mark
end Go.Proofs.YtndgnlblbjpogaaGreatDoor
