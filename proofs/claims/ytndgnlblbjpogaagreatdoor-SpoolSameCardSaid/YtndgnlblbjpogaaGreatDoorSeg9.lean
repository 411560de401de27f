/- The walks of Bytes, Segs, Drop of a log. · The walk of Drop of a log. · The walk of Get of a log. · The walk of Open of a log, on a disk that has no name. -/
import Derived.Test.YtndgnlblbjpogaaGreatDoorSeg5
import Derived.Lib.QuietBelow
namespace Go.Proofs.YtndgnlblbjpogaaGreatDoor
open Go Go.RowKit Go.Shelf
def LogV.bytes (L : LogV) : Nat := (L.segs.map (·.size)).sum
theorem SegRow.cell {w : World} {g off cap : Nat} {xs : List SegV} {cur : Array Value} (h : SegRow w g off cap xs cur) {i : Nat} {s : SegV} (hi : xs[i]? = some s) :
    w.cell? ⟨g, off * 3 + i * 3, none⟩ = some (.int .u64 s.first) ∧ w.cell? ⟨g, off * 3 + i * 3 + 1, none⟩ = some (.int .i64 s.many) ∧ w.cell? ⟨g, off * 3 + i * 3 + 2, none⟩ = some (.int .i64 s.size) := by
  have h1 := h.at_ i s hi
  rw [Nat.add_mul] at h1
  exact ⟨(Heap.cell h.blk _).trans h1.1, (Heap.cell h.blk _).trans h1.2.1, (Heap.cell h.blk _).trans h1.2.2⟩
theorem SegRow.flat {w : World} {g off cap : Nat} {xs : List SegV} {cur : Array Value} (h : SegRow w g off cap xs cur) (j : Nat) (u : Value) (hj : (xs.flatMap segCells)[j]? = some u) : w.cell? ⟨g, off * 3 + j, none⟩ = some u := by
  have hlt : j < xs.length * 3 := by
    rcases Nat.lt_or_ge j (xs.length * 3) with h1 | h1
    · exact h1
    · rw [List.getElem?_eq_none (by rw [flat_len]; exact h1)] at hj; cases hj
  have hi : j / 3 < xs.length := by omega
  have hc := h.cell (List.getElem?_eq_getElem hi)
  have hf := flat_at xs (j / 3) xs[j / 3] (List.getElem?_eq_getElem hi)
  rcases (show j = j / 3 * 3 ∨ j = j / 3 * 3 + 1 ∨ j = j / 3 * 3 + 2 by omega) with e | e | e
  · rw [e] at hj ⊢; rw [hf.1] at hj; cases hj; exact hc.1
  · rw [e] at hj ⊢; rw [hf.2.1] at hj; cases hj; exact hc.2.1
  · rw [e] at hj ⊢; rw [hf.2.2] at hj; cases hj; exact hc.2.2
theorem flat_one (xs : List SegV) : ∀ u ∈ xs.flatMap segCells, u.oneCell' = true := by
  intro u hu
  obtain ⟨s, _, hs⟩ := List.mem_flatMap.1 hu
  simp [segCells] at hs
  rcases hs with rfl | rfl | rfl <;> rfl
def sumTo (xs : List SegV) (k : Nat) : Nat := ((xs.take k).map (·.size)).sum
theorem sumTo_succ {xs : List SegV} {k : Nat} {s : SegV} (h : xs[k]? = some s) : sumTo xs (k + 1) = sumTo xs k + s.size := by
  unfold sumTo
  obtain ⟨hlt, rfl⟩ := List.getElem?_eq_some_iff.1 h
  rw [List.take_succ_eq_append_getElem hlt, List.map_append, List.sum_append]
  simp
theorem sumTo_le (xs : List SegV) (k : Nat) : sumTo xs k ≤ (xs.map (·.size)).sum := by
  have h := List.take_append_drop k xs
  conv => rhs; rw [← h]
  rw [List.map_append, List.sum_append]
  exact Nat.le_add_right _ _
namespace Seg
set_option maxHeartbeats 1000000 in
set_option maxRecDepth 100000 in
theorem bytes_any (w : World) (lg d : Nat) (L : LogV) (g off cap : Nat) (h : LogAt w lg d L g off cap) (hb : L.bytes ≤ 9223372036854775807) :
    Calls Tryz.prog 37 #[.pointer (some ⟨lg, 0, none⟩)] w fun e w' => e = .returned (.int .i64 L.bytes) ∧ Off None w w' := by
  have p1 := h.own.2.1
  obtain ⟨cur, hr⟩ := h.row
  have HR := Lib.hid hr; clear hr h
  have hle := HR.out.le
  have hmx : cap ≤ 2 ^ 63 - 1 := HR.out.max
  have HB := Lib.hid hb; clear hb
  go_enter Tryz.func37, Tryz.ntmps37
  go_wp2
  obtain ⟨k0, hk0⟩ : ∃ k0, L.segs.length = k0 := ⟨_, rfl⟩
  have HK := Lib.hid hk0
  rw [hk0]
  rw [hk0] at p1 hle
  clear hk0
  go_loopw [3, 12] (fun n i wr => ∃ k : Nat, k ≤ k0 ∧ i = .int .i64 k ∧ n = .int .i64 (sumTo L.segs k) ∧ Off None w wr) (fun _ i _ => k0 - (intOf i).toNat)
  case atStart => exact ⟨0, Nat.zero_le _, rfl, rfl, Off.refl _ _⟩
  case round =>
    obtain ⟨k, hk, rfl, rfl, ho⟩ := hrel
    by_cases hlt : k < k0
    · have hs : L.segs[k]? = some (L.segs[k]'(by rw [HK.out]; exact hlt)) := List.getElem?_eq_getElem _
      obtain ⟨c0, c1, c2⟩ := (HR.out.off ho (fun h => h)).cell hs
      have HO := Lib.hid ho; clear ho
      generalize L.segs[k]'(by rw [HK.out]; exact hlt) = x at *
      have hsum := sumTo_succ hs
      have hle2 := sumTo_le L.segs (k + 1)
      have hbb : (L.segs.map (·.size)).sum ≤ 9223372036854775807 := HB.out
      have hsm : sumTo L.segs k + x.size ≤ 9223372036854775807 := by omega
      have HSUM := Lib.hid hsum
      clear hs hsum hle2 hbb
      have hi0 : (0 : Int) ≤ (k : Int) := by omega
      have hi1 : (k : Int) < (k0 : Int) := by omega
      go_wp2
      go_round
      case rel =>
        refine ⟨k + 1, by omega, by go_num, ?_, HO.out.alloc _⟩
        rw [HSUM.out]
        push_cast
        rfl
      case measure => simp [intOf]; omega
    · go_wp2
      go_ret
      have e : k = L.segs.length := by rw [HK.out]; omega
      refine ⟨?_, ho⟩
      rw [e]
      unfold LogV.bytes sumTo
      rw [List.take_length]
      rfl
set_option maxRecDepth 100000 in
theorem segs_any (w : World) (lg d : Nat) (L : LogV) (g off cap : Nat) (h : LogAt w lg d L g off cap) (hn : L.segs.length ≤ 1000000) :
    Calls Tryz.prog 45 #[.pointer (some ⟨lg, 0, none⟩)] w fun e w' => ∃ v, e = .returned v ∧ w'.ownsRow w.heap.size 81 3 v L.segs.length (L.segs.flatMap segCells) ∧ Off None w w' := by
  have p1 := h.own.2.1
  obtain ⟨cur, hr⟩ := h.row
  have HR := Lib.hid hr; clear hr h
  go_enter Tryz.func45, Tryz.ntmps45
  go_wp2_with fail
  obtain ⟨i0, hi, hz0, hz1, hz2⟩ := info_parts infoSeg
  refine (AnyE.slices_Clone Tryz.cloneSegs i0 _ 3 24 hi hz0 hz1 hz2 rfl (by decide) (fun _ => Tryz.sizeOf81 _) g (off * 3) L.segs.length cap (L.segs.flatMap segCells) w (flat_len _) (by unfold maxLen; omega) (by omega) HR.out.flat (flat_one _)).mono ?_
  rintro e w1 ⟨v, rfl, hrow, _, hb⟩
  go_wp2
  go_ret
  exact ⟨v, rfl, hrow, Off.of_below hb⟩
end Seg
end Go.Proofs.YtndgnlblbjpogaaGreatDoor
namespace Go.Proofs.YtndgnlblbjpogaaGreatDoor
open Go Go.RowKit Go.Shelf
namespace LogV
/-- What Drop does. -/
def drop (L : LogV) (D : DiskV) : LogV × DiskV × Int :=
  match L.full with
  | [] => (L, D, 13)
  | s :: r =>
    match D.remove (Seg.nameB s.first) with
    | (D1, e) => if e = 0 then (⟨r, L.act, L.durable⟩, D1.syncDir.1, D1.syncDir.2) else (L, D1, e)
end LogV
/-- The first segment is gone. -/
theorem LogAt.tail {w : World} {lg d : Nat} {L : LogV} {g off cap : Nat} {s : SegV} {r : List SegV} (h : LogAt w lg d L g off cap) (hf : L.full = s :: r) :
    LogAt (w.setCell ⟨lg, 1, none⟩ (.slice (some ⟨g, (off + 1) * 3, none⟩) (r.length + 1) (cap - 1))) lg d ⟨r, L.act, L.durable⟩ g (off + 1) (cap - 1) := by
  obtain ⟨cur, hr⟩ := h.row
  have hl : L.segs = s :: (r ++ [L.act]) := by unfold LogV.segs; rw [hf]; rfl
  have hle := hr.le
  rw [hl] at hle hr
  simp at hle
  have hsz := hr.size
  refine ⟨?_, ⟨cur, (Heap.set_far (Ne.symm (Ne.symm h.ne)) _).trans hr.blk, by rw [hsz]; omega, by rw [LogV.len]; show r.length + 1 ≤ _; omega, by have := hr.max; omega, fun i x hi => ?_⟩, h.ne⟩
  · rw [LogV.len]
    exact (Heap.set h.core 1 _).trans rfl
  · have := hr.at_ (i + 1) x (by have hi : (r ++ [L.act])[i]? = some x := hi; simpa using hi)
    rw [show off + (i + 1) = off + 1 + i by omega] at this
    exact this
namespace Seg
set_option maxHeartbeats 2000000 in
set_option maxRecDepth 100000 in
theorem drop_any (w : World) (lg d n N : Nat) (L : LogV) (D : DiskV) (F : Nat → Prop) (off : Nat) (h : Store w lg d L D F off) (hG : Glob n w) (hF : ∀ b, F b → n ≤ b) (hok : L.Ok) (hl : Lim N D) :
    Calls Tryz.prog 71 #[.pointer (some ⟨lg, 0, none⟩)] w fun e w' =>
      e = .returned (.int .i64 (L.drop D).2.2) ∧ (∃ off', Store w' lg d (L.drop D).1 (L.drop D).2.1 (Grow F w w') off') ∧ Off F w w' := by
  obtain ⟨g, cap, Fd, hst⟩ := h
  obtain ⟨p0, p1, _⟩ := hst.log.own
  obtain ⟨cur, hr⟩ := hst.log.row
  have HR := Lib.hid hr; clear hr
  have HST := Lib.hid hst; clear hst
  have HGL := Lib.hid hG; clear hG
  have HFN := Lib.hid hF; clear hF
  have HOK := Lib.hid hok; clear hok
  have HL := Lib.hid hl; clear hl
  have hle := HR.out.le
  have hmx : cap ≤ 2 ^ 63 - 1 := HR.out.max
  have hlen := L.len
  cases hfull : L.full with
  | nil =>
    have hsp : L.drop D = (L, D, 13) := by unfold LogV.drop; rw [hfull]
    have HSP := Lib.hid hsp; clear hsp
    rw [hfull] at hlen
    have hlen : L.segs.length = 1 := hlen
    rw [hlen] at p1
    clear hlen hle hfull
    go_enter Tryz.func71, Tryz.ntmps71
    go_wp2
    go_ret
    rw [HSP.out]
    exact ⟨rfl, ⟨off, g, cap, Fd, HST.out.log, HST.out.disk, HST.out.sepL, HST.out.sepG, .inl HST.out.inL, .inl HST.out.inG, fun b hb => .inl (HST.out.inD b hb)⟩, Off.refl _ _⟩
  | cons s r =>
    have hs0 : L.segs[0]? = some s := by unfold LogV.segs; rw [hfull]; rfl
    obtain ⟨c0, c1, c2⟩ := HR.out.cell hs0
    have hsok : s.Ok := HOK.out.segs s (List.mem_of_getElem? hs0)
    have hfst : s.first < 18446744073709551616 := by have := hsok.sum; omega
    have HFU := Lib.hid hfull
    rw [hfull] at hlen
    have hlen : L.segs.length = r.length + 2 := by rw [hlen]; simp
    rw [hlen] at p1 hle
    clear hlen hfull hs0
    have hname := fun W (hW : Off None w W) => name_any W s.first hfst (HGL.out.none hW).pow
    have HNM := Lib.hid hname; clear hname
    have hdk := fun W (hW : Off None w W) => DiskW.remove_any W d D Fd (HST.out.disk.off hW (fun _ _ _ h => h)) (nameB s.first) (by rw [nameB_size hfst]; decide) (by have := HL.out.names; have := HL.out.le; unfold maxLen; omega) (by have := HL.out.moves; have := HL.out.le; omega)
    have HDK := Lib.hid hdk; clear hdk
    have hsl := HST.out.sepL
    have hsg := HST.out.sepG
    rw [Nat.zero_mul, Nat.add_zero] at c0
    go_enter Tryz.func71, Tryz.ntmps71
    go_wp2_with fail
    have hb0 : (0 : Int) < (r.length : Int) + 2 := by omega
    have hb1 : (1 : Int) ≤ (r.length : Int) + 2 := by omega
    go_region_held3 (fun W => W.cell? ⟨lg, 0, none⟩ = some (.pointer (some ⟨d, 0, none⟩)) ∧ W.cell? ⟨lg, 1, none⟩ = some (.slice (some ⟨g, off * 3, none⟩) (r.length + 2) cap) ∧ W.cell? ⟨g, off * 3, none⟩ = some (.int .u64 s.first))
      (first | exact ⟨p0, p1, c0⟩ | exact ⟨l1, l2, l3⟩ | exact ⟨k1, k2, k3⟩)
      (first
        | (go_at_call 80; refine (HNM.out _ ((Off.refl None w).drew)).mono ?_; rintro e w4 ⟨rfl, ho4⟩; have k1 : w4.cell? ⟨lg, 0, none⟩ = some (.pointer (some ⟨d, 0, none⟩)) := ho4.keep p0 (fun h => h); have k2 : w4.cell? ⟨lg, 1, none⟩ = some (.slice (some ⟨g, off * 3, none⟩) (r.length + 2) cap) := ho4.keep p1 (fun h => h); have k3 : w4.cell? ⟨g, off * 3, none⟩ = some (.int .u64 s.first) := ho4.keep c0 (fun h => h); have ho14 : Off None w w4 := ((Off.refl None w).drew).trans ho4 (fun _ _ h => h); clear ho4)
        | (go_at_call 99; refine (HDK.out w4 ho14).mono ?_; rintro e w5 ⟨rfl, hd5, ho5⟩; have l1 : w5.cell? ⟨lg, 0, none⟩ = some (.pointer (some ⟨d, 0, none⟩)) := ho5.keep k1 hsl; have l2 : w5.cell? ⟨lg, 1, none⟩ = some (.slice (some ⟨g, off * 3, none⟩) (r.length + 2) cap) := ho5.keep k2 hsl; have l3 : w5.cell? ⟨g, off * 3, none⟩ = some (.int .u64 s.first) := ho5.keep k3 hsg))
    have hst5 := (HST.out.quiet ho14).disk' hd5 ho5
    have hoF : Off F w w5 := (ho14.mono (fun _ _ h => h.elim) : Off F w w4).trans ((HST.out.quiet ho14).offF ho5) (fun _ _ h => h)
    have hsz4 : w.heap.size ≤ w4.heap.size := ho14.size
    have HST5 := Lib.hid hst5
    have HOF := Lib.hid hoF
    have HS5 := Lib.hid ho5.size
    have f1 : w5.frozen? ⟨lg, 1, none⟩ = false := Heap.frozen hst5.log.core 1
    have m1 := l1
    have m2 := l2
    clear hst5 hoF ho14 hd5 l1 l2 l3 k1 k2 k3 p0 p1 c0 c1 c2 ho5
    obtain ⟨D', er, hda⟩ : ∃ D' er, D.remove (nameB s.first) = (D', er) := ⟨_, _, rfl⟩
    rw [hda] at HST5 ⊢
    dsimp only at HST5 ⊢
    have HDA := Lib.hid hda; clear hda
    by_cases he : er = 0
    · subst he
      have hsp : L.drop D = (⟨r, L.act, L.durable⟩, D'.syncDir.1, D'.syncDir.2) := by
        unfold LogV.drop; rw [HFU.out]; dsimp only; rw [HDA.out]; dsimp only; rw [if_pos rfl]
      have HSP := Lib.hid hsp; clear hsp
      go_wp2_with fail
      have hlog6 := HST5.out.log.tail HFU.out
      rw [show (off + 1) * 3 = off * 3 + 3 by omega] at hlog6
      have ho6 : Off (Only lg) w5 (w5.setCell ⟨lg, 1, none⟩ (.slice (some ⟨g, off * 3 + 3, none⟩) (r.length + 1) (cap - 1))) := (Off.refl (Only lg) w5).set 1 _
      have hst6 : StoreAt (w5.setCell ⟨lg, 1, none⟩ (.slice (some ⟨g, off * 3 + 3, none⟩) (r.length + 1) (cap - 1))) lg d ⟨r, L.act, L.durable⟩ D' (Grow F w4 w5) g (off + 1) (cap - 1) (Grow Fd w4 w5) :=
        ⟨hlog6, HST5.out.disk.off ho6 (fun b _ hb e => HST5.out.sepL (by rw [← show b = lg from e]; exact hb)), HST5.out.sepL, HST5.out.sepG, HST5.out.inL, HST5.out.inG, HST5.out.inD⟩
      have HST6 := Lib.hid hst6; have HO6 := Lib.hid ho6
      clear hst6 hlog6 ho6
      refine (DiskW.syncDir_any _ d D' _ HST6.out.disk).mono ?_
      rintro e w9 ⟨rfl, hd9, ho9⟩
      have hst9 := HST6.out.disk' hd9 ho9
      have HST9 := Lib.hid hst9; have HO9 := Lib.hid ho9
      clear hst9 hd9 ho9
      go_wp2
      go_ret
      rw [HSP.out]
      have hs6 : w5.heap.size = (w5.setCell ⟨lg, 1, none⟩ (.slice (some ⟨g, off * 3 + 3, none⟩) (r.length + 1) (cap - 1))).heap.size := (Heap.set_size _ _).symm
      have hs9 := HO9.out.size
      have hs5 : w4.heap.size ≤ w5.heap.size := HS5.out
      have hup : ∀ b, Grow (Grow F w4 w5) (w5.setCell ⟨lg, 1, none⟩ (.slice (some ⟨g, off * 3 + 3, none⟩) (r.length + 1) (cap - 1))) w9 b → Grow F w w9 b := fun b hb => by
        rcases hb with (hb | hb) | hb
        · exact .inl hb
        · exact .inr ⟨by omega, by omega⟩
        · exact .inr ⟨by omega, hb.2⟩
      refine ⟨rfl, ⟨off + 1, g, cap - 1, _, HST9.out.log, HST9.out.disk, HST9.out.sepL, HST9.out.sepG, hup _ HST9.out.inL, hup _ HST9.out.inG, fun b hb => hup b (HST9.out.inD b hb)⟩, ?_⟩
      refine (HOF.out.trans (HO6.out.mono (fun b _ e => by rw [show b = lg from e]; exact HST.out.inL) : Off F w5 _) (fun _ _ h => h)).trans HO9.out (fun b hb h => ?_)
      rcases h with h | h
      · exact HST.out.inD b h
      · omega
    · have hsp : L.drop D = (L, D', er) := by
        unfold LogV.drop; rw [HFU.out]; dsimp only; rw [HDA.out]; dsimp only; rw [if_neg he]
      have HSP := Lib.hid hsp; clear hsp
      have t1 : (er != 0) = true := by rw [bne_iff_ne]; exact he
      go_wp2
      go_ret
      rw [HSP.out]
      refine ⟨rfl, ⟨off, g, cap, _, HST5.out.log, HST5.out.disk, HST5.out.sepL, HST5.out.sepG, .inl HST.out.inL, .inl HST.out.inG, fun b hb => ?_⟩, HOF.out⟩
      rcases hb with hb | hb
      · exact .inl (HST.out.inD b hb)
      · exact .inr ⟨by omega, hb.2⟩
end Seg
end Go.Proofs.YtndgnlblbjpogaaGreatDoor
namespace Go.Proofs.YtndgnlblbjpogaaGreatDoor
open Go Go.RowKit Go.Shelf Go.Sort
theorem Off.toBelow {w w' : World} (h : Off None w w') : Below w.heap.size w w' := ⟨h.os, h.tape, h.output, h.size, fun b hb => h.block b hb (fun h => h)⟩
/-- A callee that turns nothing, met in a world of the class. -/
theorem Calls.quietly {P : Program} {f : FuncId} {args : Array Value} {w : World} {d : Nat} {os : Array Obj} {v : Value} (h : Calls P f args (grow (redrawn w d) os) fun e w' => e = .returned v ∧ Off None (grow (redrawn w d) os) w') :
    Calls P f args (grow (redrawn w d) os) fun e w'' => e = .returned v ∧ ∃ p : Regrown, w'' = grow (redrawn w p.d) p.os :=
  Calls.regrown_of (h.mono fun _ _ h => ⟨h.1, h.2.toBelow⟩)
abbrev SegOk := { s : SegV // s.Ok }
instance : Inhabited SegOk := ⟨⟨⟨0, 0, 0⟩, ⟨by decide, by decide, by decide⟩⟩⟩
/-- Has a segment this number? -/
def SegV.has (seq : Nat) (s : SegV) : Bool := decide (s.first ≤ seq) && decide (seq < s.end_)
namespace Seg
theorem pred_any (W : World) (s : SegV) (h : s.Ok) (seq b : Nat) (hb : W.cell? ⟨b, 0, none⟩ = some (.int .u64 seq)) :
    Calls Tryz.prog 95 #[.agg #[.int .u64 s.first, .int .i64 s.many, .int .i64 s.size], .pointer (some ⟨b, 0, none⟩)] W fun e w' => e = .returned (.bool (s.has seq)) ∧ Off None W w' := by
  have hbl := Heap.block_lt hb
  obtain ⟨w1, hw1⟩ : ∃ w1, w1 = W.alloc (.cells #[.int .u64 s.first, .int .i64 s.many, .int .i64 s.size] 81) := ⟨_, rfl⟩
  have ho1 : Off None W w1 := by rw [hw1]; exact (Off.refl None W).alloc _
  have hbx : w1.heap[W.heap.size]? = some (.cells #[.int .u64 s.first, .int .i64 s.many, .int .i64 s.size] 81 (0, 0)) := by rw [hw1]; exact Heap.alloc_new W _
  have c0 : w1.cell? ⟨W.heap.size, 0, none⟩ = some (.int .u64 s.first) := Heap.cell hbx 0
  have c1 : w1.cell? ⟨W.heap.size, 1, none⟩ = some (.int .i64 s.many) := Heap.cell hbx 1
  have c2 : w1.cell? ⟨W.heap.size, 2, none⟩ = some (.int .i64 s.size) := Heap.cell hbx 2
  have cb : w1.cell? ⟨b, 0, none⟩ = some (.int .u64 seq) := ho1.keep hb (fun h => h)
  have HO1 := Lib.hid ho1
  have cE : ∀ d os, Calls Tryz.prog 86 #[.agg #[.int .u64 s.first, .int .i64 s.many, .int .i64 s.size]] (grow (redrawn w1 d) os) fun e w'' => e = .returned (.int .u64 s.end_) ∧ ∃ p : Regrown, w'' = grow (redrawn w1 p.d) p.os := fun d os => Calls.quietly (end_any _ s h)
  have k0 := cell_regrown c0
  have k1 := cell_regrown c1
  have k2 := cell_regrown c2
  have kb := cell_regrown cb
  go_enter Tryz.func95, Tryz.ntmps95
  go_wp2_with fail
  rw [← hw1]
  clear hw1 hb hbl ho1 hbx c0 c1 c2 cb
  by_cases hf : s.first ≤ seq
  · have hf' : (s.first : Int) ≤ seq := by omega
    refine wp_region_quiet_below (by kernel_rfl) (by kernel_rfl) ?_
    repeat (quiet_step (first | exact cE _ _))
    refine wpQuiet_nil ?_
    intro _ hw'
    obtain ⟨⟨dq, osq⟩, hw''⟩ := hw'
    subst hw''
    go_wp2
    go_ret
    refine ⟨?_, HO1.out.trans (Off.of_below (below_regrown w1 dq osq) : Off None w1 _) (fun _ _ h => h)⟩
    show Ending.returned (.bool (decide (seq < s.end_))) = _
    unfold SegV.has
    rw [decide_eq_true hf, Bool.true_and]
  · have hf' : ¬ ((s.first : Int) ≤ seq) := by omega
    refine wp_region_quiet_below (by kernel_rfl) (by kernel_rfl) ?_
    repeat (quiet_step (first | exact cE _ _))
    refine wpQuiet_nil ?_
    intro _ hw'
    obtain ⟨⟨dq, osq⟩, hw''⟩ := hw'
    subst hw''
    go_wp2
    go_ret
    refine ⟨?_, HO1.out.trans (Off.of_below (below_regrown w1 dq osq) : Off None w1 _) (fun _ _ h => h)⟩
    show Ending.returned (.bool false) = _
    unfold SegV.has
    rw [decide_eq_false hf, Bool.false_and]
theorem idx_none (seq : Nat) : ∀ (l : List SegOk) (i : Nat), (l.map (·.1)).find? (SegV.has seq) = none → Lib.idxByFrom (fun _ y => SegV.has seq y.1) (default : SegOk) l i = -1 := by
  intro l
  induction l with
  | nil => intro i _; rfl
  | cons x r ih =>
    intro i h
    rw [List.map_cons, List.find?_cons] at h
    split at h
    · cases h
    · rename_i hx
      rw [Lib.idxByFrom, if_neg (by rw [hx]; decide), ih _ h]
theorem idx_some (seq : Nat) : ∀ (l : List SegOk) (i : Nat) (s : SegV), (l.map (·.1)).find? (SegV.has seq) = some s → ∃ k : Nat, (l.map (·.1))[k]? = some s ∧ Lib.idxByFrom (fun _ y => SegV.has seq y.1) (default : SegOk) l i = ((i + k : Nat) : Int) := by
  intro l
  induction l with
  | nil => intro i s h; simp at h
  | cons x r ih =>
    intro i s h
    rw [List.map_cons, List.find?_cons] at h
    split at h
    · rename_i hx
      cases h
      exact ⟨0, rfl, by rw [Lib.idxByFrom, if_pos hx]; rfl⟩
    · rename_i hx
      obtain ⟨k, h1, h2⟩ := ih (i + 1) s h
      exact ⟨k + 1, by simpa using h1, by rw [Lib.idxByFrom, if_neg (by rw [hx]; decide), h2]; congr 1; omega⟩
theorem withOk (l : List SegV) (h : ∀ s ∈ l, s.Ok) : ∃ zs : List SegOk, zs.map (·.1) = l := by
  induction l with
  | nil => exact ⟨[], rfl⟩
  | cons x r ih =>
    obtain ⟨zs, hz⟩ := ih (fun s hs => h s (by simp [hs]))
    exact ⟨⟨x, h x (by simp)⟩ :: zs, by simp [hz]⟩
theorem index_any (w : World) (g off cap : Nat) (xs : List SegV) (cur : Array Value) (hr : SegRow w g off cap xs cur) (hok : ∀ s ∈ xs, s.Ok) (seq b : Nat) (hb : w.cell? ⟨b, 0, none⟩ = some (.int .u64 seq)) :
    Calls Tryz.prog 94 #[.slice (some ⟨g, off * 3, none⟩) xs.length cap, .func (.func 95) #[] #[.pointer (some ⟨b, 0, none⟩)]] w fun e w' =>
      ∃ r : Int, e = .returned (.int .i64 r) ∧ Off None w w' ∧ ((xs.find? (SegV.has seq) = none ∧ r = -1) ∨ ∃ s, ∃ k : Nat, xs.find? (SegV.has seq) = some s ∧ xs[k]? = some s ∧ r = k) := by
  obtain ⟨zs, hz⟩ := withOk xs hok
  have hzl : zs.length = xs.length := by rw [← hz, List.length_map]
  have hle := hr.le
  have hmx := hr.max
  have hp : PredBelow Tryz.prog 95 #[.pointer (some ⟨b, 0, none⟩)] (fun x : SegOk => .agg (segCells x.1).toArray) (fun x => SegV.has seq x.1) w := fun W x hW =>
    (pred_any W x.1 x.2 seq b ((hW.cell (Heap.block_lt hb)).trans hb)).mono fun _ _ h => ⟨h.1, hW.trans (h.2.toBelow.mono hW.size)⟩
  refine (AnyQ.slices_IndexFunc Tryz.indexSegs 3 (fun _ => Tryz.isAgg81 _) (fun _ => Tryz.sizeOf81 _) (fun x : SegOk => segCells x.1) (fun _ => rfl) (fun x => SegV.has seq x.1) 95 #[.pointer (some ⟨b, 0, none⟩)] (enters_of Tryz.func95 (by kernel_rfl) rfl) g (off * 3) xs.length cap zs w hp (by omega) (by unfold maxLen at hmx; omega) (Heap.lt hr.blk) ?_).mono ?_
  · intro j hj i v hv
    have hjx : xs[j]? = some (zs[j]!).1 := by rw [← hz, List.getElem?_map, List.getElem?_eq_getElem hj, getElem!_pos zs j hj]; rfl
    have hi : i < 3 := by
      rcases Nat.lt_or_ge i 3 with h | h
      · exact h
      · rw [List.getElem?_eq_none (by show 3 ≤ i; exact h)] at hv; cases hv
    obtain ⟨c0, c1, c2⟩ := hr.cell hjx
    rcases (show i = 0 ∨ i = 1 ∨ i = 2 by omega) with rfl | rfl | rfl
    · cases hv; exact c0
    · cases hv; exact c1
    · cases hv; exact c2
  · rintro e w' ⟨rfl, hbel⟩
    refine ⟨_, rfl, Off.of_below hbel, ?_⟩
    have ht : zs.take xs.length = zs := List.take_of_length_le (by omega)
    rw [ht]
    cases hf : xs.find? (SegV.has seq) with
    | none => exact .inl ⟨rfl, idx_none seq zs 0 (by rw [hz]; exact hf)⟩
    | some s =>
      obtain ⟨k, h1, h2⟩ := idx_some seq zs 0 s (by rw [hz]; exact hf)
      rw [hz] at h1
      exact .inr ⟨s, k, rfl, h1, by rw [Lib.idxBy, h2, Nat.zero_add]⟩
end Seg
namespace LogV
/-- What Get returns. -/
def get (L : LogV) (D : DiskV) (seq : Nat) : ByteArray × Int :=
  match L.segs.find? (SegV.has seq) with
  | none => (ByteArray.empty, 5)
  | some s =>
    match D.read (Seg.nameB s.first) with
    | (t, e) =>
      if e = 0 then
        match (Frame.scanL t.data.toList)[seq - s.first]? with
        | none => (ByteArray.empty, 2)
        | some f => (⟨f.body.toArray⟩, 0)
      else (ByteArray.empty, e)
end LogV
theorem read_size {N : Nat} {D : DiskV} (h : Lim N D) (name : ByteArray) : (D.read name).1.size ≤ N * 3000 := by
  unfold DiskV.read
  split
  · exact Nat.zero_le _
  · split
    · exact Nat.zero_le _
    · rename_i i _
      dsimp only
      cases hf : D.files[i]? with
      | none => exact Nat.zero_le _
      | some f => exact (h.each f (List.mem_of_getElem? hf)).2
theorem read_err (D : DiskV) (name : ByteArray) (h : (D.read name).2 ≠ 0) : (D.read name).1 = ByteArray.empty := by
  unfold DiskV.read at h ⊢
  split
  · rfl
  · rename_i hl
    rw [if_neg hl] at h
    split
    · rfl
    · rename_i i hi
      rw [hi] at h
      exact absurd rfl h
theorem frame_at (xs : List Frame.FrameV) : ∀ i f, xs[i]? = some f → (xs.flatMap Frame.frameCells)[i * 3 + 1]? = some (.string ⟨f.body.toArray⟩) ∧ i * 3 + 1 < (xs.flatMap Frame.frameCells).length := by
  induction xs with
  | nil => intro i s h; simp at h
  | cons x r ih =>
    intro i s h
    have e : (x :: r).flatMap Frame.frameCells = [.int .u64 x.seq, .string ⟨x.body.toArray⟩, .int .i64 x.size] ++ r.flatMap Frame.frameCells := rfl
    cases i with
    | zero => simp at h; subst h; exact ⟨rfl, by rw [e]; simp⟩
    | succ i =>
      have h' : r[i]? = some s := by simpa using h
      have := ih i s h'
      rw [e]
      refine ⟨?_, by rw [List.length_append]; show _ < 3 + _; omega⟩
      rw [List.getElem?_append_right (by simp; omega), show (i + 1) * 3 + 1 - [Value.int .u64 x.seq, .string ⟨x.body.toArray⟩, .int .i64 x.size].length = i * 3 + 1 by simp; omega]
      exact this.1
theorem frame_len (xs : List Frame.FrameV) : (xs.flatMap Frame.frameCells).length = xs.length * 3 := by
  induction xs with
  | nil => rfl
  | cons x r ih => rw [List.flatMap_cons, List.length_append, ih, List.length_cons]; simp [Frame.frameCells]; omega
namespace Seg
set_option maxHeartbeats 2000000 in
set_option maxRecDepth 100000 in
theorem get_any (w : World) (lg d n N : Nat) (L : LogV) (D : DiskV) (F : Nat → Prop) (off : Nat) (h : Store w lg d L D F off) (hG : Glob n w) (hok : L.Ok) (hl : Lim N D) (seq : Nat) (hq : seq < 18446744073709551616) :
    Calls Tryz.prog 64 #[.pointer (some ⟨lg, 0, none⟩), .int .u64 seq] w fun e w' => e = .returned (.tuple #[.string (L.get D seq).1, .int .i64 (L.get D seq).2]) ∧ Off None w w' := by
  obtain ⟨g, cap, Fd, hst⟩ := h
  have HST := Lib.hid hst; clear hst
  have HGL := Lib.hid hG; clear hG
  have HOK := Lib.hid hok; clear hok
  have HL := Lib.hid hl; clear hl
  obtain ⟨wb, hwb⟩ : ∃ wb, wb = w.alloc (.cells #[.int .u64 seq] 31) := ⟨_, rfl⟩
  have hob : Off None w wb := by rw [hwb]; exact (Off.refl None w).alloc _
  have hbx : wb.cell? ⟨w.heap.size, 0, none⟩ = some (.int .u64 seq) := by rw [hwb]; exact Heap.cell (Heap.alloc_new w _) 0
  have hstb := HST.out.quiet hob
  have p0 : wb.cell? ⟨lg, 0, none⟩ = some (.pointer (some ⟨d, 0, none⟩)) := hstb.log.own.1
  have p1 : wb.cell? ⟨lg, 1, none⟩ = some (.slice (some ⟨g, off * 3, none⟩) L.segs.length cap) := hstb.log.own.2.1
  have HSB := Lib.hid hstb; have HOB := Lib.hid hob
  clear hstb hob
  rw [hwb] at p0 p1 hbx
  go_enter Tryz.func64, Tryz.ntmps64
  go_wp2_with fail
  rw [← hwb]
  rw [← hwb] at p0 p1 hbx
  clear hwb
  obtain ⟨cur, hr⟩ := HSB.out.log.row
  refine (index_any wb g off cap L.segs cur hr HOK.out.segs seq w.heap.size hbx).mono ?_
  have HR := Lib.hid hr; clear hr
  rintro e w1 ⟨r, rfl, ho1, hcase⟩
  have q0 : w1.cell? ⟨lg, 0, none⟩ = some (.pointer (some ⟨d, 0, none⟩)) := ho1.keep p0 (fun h => h)
  have q1 : w1.cell? ⟨lg, 1, none⟩ = some (.slice (some ⟨g, off * 3, none⟩) L.segs.length cap) := ho1.keep p1 (fun h => h)
  have qb : w1.cell? ⟨w.heap.size, 0, none⟩ = some (.int .u64 seq) := ho1.keep hbx (fun h => h)
  have HS1 := Lib.hid (HSB.out.quiet ho1)
  have HR1 := Lib.hid (HR.out.off ho1 (fun h => h))
  have HO1 := Lib.hid (HOB.out.trans ho1 (fun _ _ h => h))
  clear p0 p1 hbx ho1
  rcases hcase with ⟨hf, rfl⟩ | ⟨s, k, hf, hk, rfl⟩
  · have hsp : L.get D seq = (ByteArray.empty, 5) := by unfold LogV.get; rw [hf]
    have HSP := Lib.hid hsp; clear hsp hf
    go_wp2
    go_ret2
    rw [HSP.out]
    exact ⟨rfl, HO1.out⟩
  · have hlt : k < L.segs.length := (List.getElem?_eq_some_iff.1 hk).1
    have hsok : s.Ok := HOK.out.segs s (List.mem_of_getElem? hk)
    have hfst : s.first < 18446744073709551616 := by have := hsok.sum; omega
    have hhas : SegV.has seq s = true := List.find?_some hf
    obtain ⟨c0, c1, c2⟩ := HR1.out.cell hk
    obtain ⟨R, hda, _⟩ := HS1.out.disk
    have HDA := Lib.hid hda; clear hda
    obtain ⟨t, er, hrd⟩ : ∃ t er, D.read (nameB s.first) = (t, er) := ⟨_, _, rfl⟩
    have cN : ∀ d os, Calls Tryz.prog 80 #[.int .u64 s.first] (grow (redrawn w1 d) os) fun e w'' => e = .returned (.string (nameB s.first)) ∧ ∃ p : Regrown, w'' = grow (redrawn w1 p.d) p.os := fun d os =>
      Calls.quietly (name_any _ s.first hfst ((HGL.out.none HO1.out).none (Off.of_below (below_regrown w1 d os) : Off None w1 _)).pow)
    have cR : ∀ dd os, Calls Tryz.prog 96 #[.pointer (some ⟨d, 0, none⟩), .string (nameB s.first)] (grow (redrawn w1 dd) os) fun e w'' => e = .returned (.tuple #[.string t, .int .i64 er]) ∧ ∃ p : Regrown, w'' = grow (redrawn w1 p.d) p.os := fun dd os =>
      Calls.quietly ((DiskW.read_any _ d D R (HDA.out.off (Off.of_below (below_regrown w1 dd os) : Off None w1 _) (fun _ _ h => h)) (nameB s.first) (by rw [nameB_size hfst]; decide)).mono fun _ _ h => ⟨by rw [h.1, hrd], by rw [h.2]; exact Off.refl _ _⟩)
    have k0 := cell_regrown q0
    have k1 := cell_regrown q1
    have k2 := cell_regrown c0
    have HRD := Lib.hid hrd; have HF := Lib.hid hf; have HH := Lib.hid hhas
    obtain ⟨m, hm⟩ : ∃ m, L.segs.length = m := ⟨_, rfl⟩
    rw [hm] at k1 q1 hlt
    clear hrd hf hhas hm hk c1 c2
    have hi0 : (0 : Int) ≤ (k : Int) := by omega
    have hi1 : (k : Int) < (m : Int) := by omega
    go_wp2_with fail
    refine wp_region_quiet_below (by kernel_rfl) (by kernel_rfl) ?_
    repeat (quiet_step (first | exact cN _ _ | exact cR _ _))
    refine wpQuiet_nil ?_
    intro w2 hw'
    have ho2 : Off None w1 w2 := by
      obtain ⟨⟨dq, osq⟩, rfl⟩ := hw'
      exact Off.of_below (below_regrown w1 dq osq)
    clear hw' k0 k1 k2 cN cR
    have HO2 := Lib.hid (HO1.out.trans ho2 (fun _ _ h => h))
    have r0 := ho2.keep q0 (fun h => h)
    have r1 := ho2.keep q1 (fun h => h)
    have rb := ho2.keep qb (fun h => h)
    have rc := ho2.keep c0 (fun h => h)
    clear q0 q1 qb c0 ho2
    by_cases he : er = 0
    · subst he
      have hts : t.size ≤ 1099511627776 := by
        have h1 := read_size HL.out (nameB s.first)
        rw [HRD.out] at h1
        have := HL.out.le
        have h1 : t.size ≤ N * 3000 := h1
        omega
      have hT := (HGL.out.none HO2.out).crc
      have HSC := Lib.hid (Frame.scan_any w2 t hts hT)
      clear hT
      go_wp2_with fail
      refine HSC.out.mono ?_
      rintro e w3 ⟨v, rfl, hrow, ho3⟩
      have s1 := ho3.keep r1 (fun h => h)
      have sb := ho3.keep rb (fun h => h)
      have sc := ho3.keep rc (fun h => h)
      have HO3 := Lib.hid (HO2.out.trans ho3 (fun _ _ h => h))
      clear r0 r1 rb rc ho3
      have hle : s.first ≤ seq := by have := HH.out; unfold SegV.has at this; simp at this; exact this.1
      have hsub : (s.first : Int) ≤ (seq : Int) := by omega
      obtain ⟨fs, hfs⟩ : ∃ fs, Frame.scanL t.data.toList = fs := ⟨_, rfl⟩
      rw [hfs] at hrow ⊢
      have HFS := Lib.hid hfs; clear hfs
      have hu64 : (seq : Int) - s.first < 18446744073709551616 := by omega
      obtain ⟨j, hj⟩ : ∃ j : Nat, seq = s.first + j := ⟨seq - s.first, by omega⟩
      have hsj : (seq : Int) - s.first = (j : Int) := by omega
      have HJ : seq - s.first = j := by omega
      have HJ := Lib.hid HJ
      clear hj
      obtain ⟨hfl, ⟨rfl, hf0⟩ | ⟨g', cap', cur', rfl, _, hh, hle', hmx', hsz', ht'⟩⟩ := hrow
      · have hsp : L.get D seq = (ByteArray.empty, 2) := by
          unfold LogV.get; rw [HF.out]; dsimp only; rw [HRD.out]; dsimp only; rw [if_pos rfl, HFS.out, List.eq_nil_of_length_eq_zero hf0]; rfl
        have HSP := Lib.hid hsp; clear hsp
        go_wp2_with fail
        go_quiet (fail)
        have hdr : Off None w (w3.drewN nq) := HO3.out.drewN nq
        have HDR := Lib.hid hdr; clear hdr
        go_wp2
        all_goals try (exfalso; omega)
        go_ret2
        rw [HSP.out]
        exact ⟨rfl, HDR.out⟩
      · have hwl : IntKind.u64.wrap (fs.length : Int) = (fs.length : Int) := by
          unfold maxLen at hmx'
          rw [IntKind.wrap_u64]; exact Int.emod_eq_of_lt (by omega) (by omega)
        by_cases hjl : j < fs.length
        · have hfj : fs[j]? = some fs[j] := List.getElem?_eq_getElem hjl
          have hfr := frame_at fs j _ hfj
          have hsp : L.get D seq = (⟨fs[j].body.toArray⟩, 0) := by
            unfold LogV.get; rw [HF.out]; dsimp only; rw [HRD.out]; dsimp only; rw [if_pos rfl, HFS.out, HJ.out, hfj]
          have HSP := Lib.hid hsp; clear hsp
          have e1 : w3.cell? ⟨g', j * 3 + 1, none⟩ = some (.string ⟨fs[j].body.toArray⟩) := by
            rw [Heap.cell hh, ← Array.getElem?_toList, ← List.getElem?_take_of_lt (j := fs.length * 3) (by omega), ht']; exact hfr.1
          have hj0 : (0 : Int) ≤ (j : Int) := by omega
          have hj1 : (j : Int) < (fs.length : Int) := by omega
          have hj2 : ¬ ((fs.length : Int) ≤ (j : Int)) := by omega
          go_wp2_with fail
          go_quiet (fail)
          have hdr : Off None w (w3.drewN nq) := HO3.out.drewN nq
          have HDR := Lib.hid hdr; clear hdr
          go_wp2
          all_goals try (exfalso; omega)
          go_ret2
          rw [HSP.out]
          exact ⟨rfl, HDR.out⟩
        · have hsp : L.get D seq = (ByteArray.empty, 2) := by
            unfold LogV.get; rw [HF.out]; dsimp only; rw [HRD.out]; dsimp only; rw [if_pos rfl, HFS.out, HJ.out, List.getElem?_eq_none (by omega)]
          have HSP := Lib.hid hsp; clear hsp
          have hj2 : (fs.length : Int) ≤ (j : Int) := by omega
          go_wp2_with fail
          go_quiet (fail)
          have hdr : Off None w (w3.drewN nq) := HO3.out.drewN nq
          have HDR := Lib.hid hdr; clear hdr
          go_wp2
          all_goals try (exfalso; omega)
          go_ret2
          rw [HSP.out]
          exact ⟨rfl, HDR.out⟩
    · have hemp : t = ByteArray.empty := by
        have h1 := read_err D (nameB s.first) (by rw [HRD.out]; exact he)
        rw [HRD.out] at h1; exact h1
      have hsp : L.get D seq = (ByteArray.empty, er) := by unfold LogV.get; rw [HF.out]; dsimp only; rw [HRD.out]; dsimp only; rw [if_neg he]
      have HSP := Lib.hid hsp; clear hsp
      have t1 : (er != 0) = true := by rw [bne_iff_ne]; exact he
      go_wp2
      go_ret2
      rw [HSP.out]
      exact ⟨rfl, HO2.out⟩
end Seg
end Go.Proofs.YtndgnlblbjpogaaGreatDoor
namespace Go.Proofs.YtndgnlblbjpogaaGreatDoor
open Go Go.RowKit Go.Shelf Go.Sort
namespace Seg
theorem infoU64 : (Tryz.prog.info? 31).map (fun i => (i.zero, i.size, i.bytes)) = some (some (.int .u64 0), 1, 8) := by kernel_rfl
set_option maxRecDepth 100000 in
theorem firsts_none (w : World) (d : Nat) (D : DiskV) (F : Nat → Prop) (h : DiskIn w d D F) (hn : D.names = []) :
    Calls Tryz.prog 103 #[.pointer (some ⟨d, 0, none⟩)] w fun e w' => e = .returned (.slice none 0 0) ∧ Off None w w' := by
  have hl := DiskW.list_any w d D F h (by rw [hn]; exact Nat.zero_le _)
  have e : D.list = [] := by unfold DiskV.list; rw [hn]; exact List.mergeSort_nil
  rw [e] at hl
  have HL := Lib.hid hl; clear hl
  go_enter Tryz.func103, Tryz.ntmps103
  go_wp2_with fail
  refine HL.out.mono ?_
  rintro e w1 ⟨v, rfl, hrow, hb⟩
  have HO := Lib.hid (Off.of_below hb : Off None w w1)
  obtain ⟨_, ⟨rfl, _⟩ | ⟨g, cap, cur, rfl, _⟩⟩ := hrow
  · go_wp2
    refine wp_loop_once ?_
    go_wp2
    go_ret
    exact ⟨rfl, HO.out⟩
  · go_wp2
    refine wp_loop_once ?_
    go_wp2
    go_ret
    exact ⟨rfl, HO.out⟩
def emptyLog : SegV := ⟨0, 0, 0⟩
/-- What Open does on a disk that has no name. -/
def openNew (D : DiskV) : DiskV × Int := ((D.started 1).1, (D.started 1).2.1)
set_option maxHeartbeats 1000000 in
set_option maxRecDepth 100000 in
theorem open_none (w : World) (d n N : Nat) (D : DiskV) (F : Nat → Prop) (h : DiskIn w d D F) (hn : D.names = []) (hG : Glob n w) (hl : Lim N D) (hok : (D.started 1).2.2 = true ∧ (D.started 1).2.1 = 0) :
    Calls Tryz.prog 68 #[.pointer (some ⟨d, 0, none⟩)] w fun e w' =>
      ∃ lg, e = .returned (.tuple #[.pointer (some ⟨lg, 0, none⟩), .int .i64 0]) ∧ Store w' lg d ⟨[], ⟨1, 0, 0⟩, ⟨1, 0, 0⟩⟩ (D.started 1).1 (Grow F w w') 0 ∧ Off F w w' := by
  have HD := Lib.hid h; clear h
  have HGL := Lib.hid hG; clear hG
  have HL := Lib.hid hl; clear hl
  go_enter Tryz.func68, Tryz.ntmps68
  go_wp2_with fail
  obtain ⟨w0, hw0⟩ : ∃ w0, w0 = w.alloc (.cells #[.pointer (some ⟨d, 0, none⟩), .slice none 0 0, .int .u64 0, .int .i64 0, .int .i64 0] 112) := ⟨_, rfl⟩
  rw [← hw0]
  have ho0 : Off None w w0 := by rw [hw0]; exact (Off.refl None w).alloc _
  have hcore : w0.heap[w.heap.size]? = some (.cells (logCells d (.slice none 0 0) emptyLog) 112 (0, 0)) := by rw [hw0]; exact Heap.alloc_new w _
  have hd0 : DiskIn w0 d D (fun b => F b ∧ b < w.heap.size) := (HD.out.mono (fun b hb h => ⟨h, hb⟩) : DiskIn w d D (fun b => F b ∧ b < w.heap.size)).off ho0 (fun _ _ _ h => h)
  have hpre : PreAt w0 w.heap.size d [] emptyLog (.slice none 0 0) := ⟨hcore, World.ownsRow_nil _ _ _ _, fun e => by cases e⟩
  clear hw0 hcore
  refine (firsts_none w0 d D _ hd0 hn).mono ?_
  rintro e w1 ⟨rfl, ho1⟩
  have ho01 := ho0.trans ho1 (fun _ _ h => h)
  have hs0 : w.heap.size < w0.heap.size := Heap.lt hpre.core
  have hbeg := begin_any w1 w.heap.size d n N [] emptyLog (.slice none 0 0) D (fun b => F b ∧ b < w.heap.size) (hpre.off ho1 (fun h => h) (fun _ _ h => h)) (hd0.off ho1 (fun _ _ _ h => h)) (fun h => absurd h.2 (by omega)) (fun k hk => by cases hk)
    (HGL.out.none ho01) (fun b h => Nat.lt_of_lt_of_le h.2 ho01.size) HL.out (Nat.zero_le _) 1 (by omega)
  have HB := Lib.hid hbeg; have HO := Lib.hid ho01; have HS1 := Lib.hid (Nat.lt_of_lt_of_le hs0 ho1.size)
  clear hbeg ho0 ho1 ho01 hd0 hpre hs0
  go_wp2_with fail
  refine HB.out.mono ?_
  rintro e w2 ⟨rfl, hd2, ho2, hyes, _⟩
  obtain ⟨g, cap, Fd', hl2, hg2, hd2', hsl2, hsg2, hup2⟩ := hyes hok.1
  have HLG := Lib.hid hl2; have HD2 := Lib.hid hd2'; have HO2 := Lib.hid ho2; have HG2 := Lib.hid hg2; have HUP := Lib.hid hup2; have HSL := Lib.hid hsl2; have HSG := Lib.hid hsg2
  clear hd2 ho2 hyes hl2 hg2 hd2' hsl2 hsg2 hup2
  rw [hok.2]
  clear hok
  go_wp2
  go_ret2
  have hs1 := HS1.out
  have hs2 := HO2.out.size
  refine ⟨w.heap.size, rfl, ⟨g, cap, Fd', HLG.out, HD2.out, HSL.out, HSG.out, .inr ⟨Nat.le_refl _, by omega⟩, ?_, fun b hb => ?_⟩, ?_⟩
  · rcases HG2.out with h | h
    · cases h
    · exact .inr ⟨by omega, h.2⟩
  · rcases HUP.out b hb with h | h
    · exact .inl h.1
    · exact .inr ⟨by omega, h.2⟩
  · refine (HO.out.mono (fun _ _ h => h.elim) : Off F w w1).trans HO2.out (fun b hb h => ?_)
    rcases h with h | h | h
    · exact h.1
    · omega
    · cases h
end Seg
end Go.Proofs.YtndgnlblbjpogaaGreatDoor
