/- The walks of Bytes, Segs, Drop of a log. · The walk of Drop of a log. -/
import Derived.Test.YtnppdcegpojmbaaGreatDoorSeg5
namespace Go.Proofs.YtnppdcegpojmbaaGreatDoor
open Go Go.RowKit Go.Shelf
def LogV.bytes (L : LogV) : Nat := (L.segs.map (·.size)).sum
theorem SegRow.cell {w : World} {g off cap : Nat} {xs : List SegV} {cur : Array Value} (h : SegRow w g off cap xs cur) {i : Nat} {s : SegV} (hi : xs[i]? = some s) :
    w.cell? ⟨g, off * 3 + i * 3, none⟩ = some (.int .u64 s.first) ∧ w.cell? ⟨g, off * 3 + i * 3 + 1, none⟩ = some (.int .i64 s.many) ∧ w.cell? ⟨g, off * 3 + i * 3 + 2, none⟩ = some (.int .i64 s.size) := by
  have h1 := h.at_ i s hi
  rw [Nat.add_mul] at h1
  exact ⟨(Heap.cell h.blk _).trans h1.1, (Heap.cell h.blk _).trans h1.2.1, (Heap.cell h.blk _).trans h1.2.2⟩
theorem SegRow.flat {w : World} {g off cap : Nat} {xs : List SegV} {cur : Array Value} (h : SegRow w g off cap xs cur) (j : Nat) (u : Value) (hj : (xs.flatMap segCells)[j]? = some u) : w.cell? ⟨g, off * 3 + j, none⟩ = some u := by
  have hlt : j < xs.length * 3 := by
    rcases Nat.lt_or_ge j (xs.length * 3) with h1 | h1
    · exact h1
    · rw [List.getElem?_eq_none (by rw [flat_len]; exact h1)] at hj; cases hj
  have hi : j / 3 < xs.length := by omega
  have hc := h.cell (List.getElem?_eq_getElem hi)
  have hf := flat_at xs (j / 3) xs[j / 3] (List.getElem?_eq_getElem hi)
  rcases (show j = j / 3 * 3 ∨ j = j / 3 * 3 + 1 ∨ j = j / 3 * 3 + 2 by omega) with e | e | e
  · rw [e] at hj ⊢; rw [hf.1] at hj; cases hj; exact hc.1
  · rw [e] at hj ⊢; rw [hf.2.1] at hj; cases hj; exact hc.2.1
  · rw [e] at hj ⊢; rw [hf.2.2] at hj; cases hj; exact hc.2.2
theorem flat_one (xs : List SegV) : ∀ u ∈ xs.flatMap segCells, u.oneCell' = true := by
  intro u hu
  obtain ⟨s, _, hs⟩ := List.mem_flatMap.1 hu
  simp [segCells] at hs
  rcases hs with rfl | rfl | rfl <;> rfl
def sumTo (xs : List SegV) (k : Nat) : Nat := ((xs.take k).map (·.size)).sum
theorem sumTo_succ {xs : List SegV} {k : Nat} {s : SegV} (h : xs[k]? = some s) : sumTo xs (k + 1) = sumTo xs k + s.size := by
  unfold sumTo
  obtain ⟨hlt, rfl⟩ := List.getElem?_eq_some_iff.1 h
  rw [List.take_succ_eq_append_getElem hlt, List.map_append, List.sum_append]
  simp
theorem sumTo_le (xs : List SegV) (k : Nat) : sumTo xs k ≤ (xs.map (·.size)).sum := by
  have h := List.take_append_drop k xs
  conv => rhs; rw [← h]
  rw [List.map_append, List.sum_append]
  exact Nat.le_add_right _ _
namespace Seg
set_option maxHeartbeats 1000000 in
set_option maxRecDepth 100000 in
theorem bytes_any (w : World) (lg d : Nat) (L : LogV) (g off cap : Nat) (h : LogAt w lg d L g off cap) (hb : L.bytes ≤ 9223372036854775807) :
    Calls Tryz.prog 19 #[.pointer (some ⟨lg, 0, none⟩)] w fun e w' => e = .returned (.int .i64 L.bytes) ∧ Off None w w' := by
  have p1 := h.own.2.1
  obtain ⟨cur, hr⟩ := h.row
  have HR := Lib.hid hr; clear hr h
  have hle := HR.out.le
  have hmx : cap ≤ 2 ^ 63 - 1 := HR.out.max
  have HB := Lib.hid hb; clear hb
  go_enter Tryz.func19, Tryz.ntmps19
  go_wp2
  obtain ⟨k0, hk0⟩ : ∃ k0, L.segs.length = k0 := ⟨_, rfl⟩
  have HK := Lib.hid hk0
  rw [hk0]
  rw [hk0] at p1 hle
  clear hk0
  go_loopw [3, 12] (fun n i wr => ∃ k : Nat, k ≤ k0 ∧ i = .int .i64 k ∧ n = .int .i64 (sumTo L.segs k) ∧ Off None w wr) (fun _ i _ => k0 - (intOf i).toNat)
  case atStart => exact ⟨0, Nat.zero_le _, rfl, rfl, Off.refl _ _⟩
  case round =>
    obtain ⟨k, hk, rfl, rfl, ho⟩ := hrel
    by_cases hlt : k < k0
    · have hs : L.segs[k]? = some (L.segs[k]'(by rw [HK.out]; exact hlt)) := List.getElem?_eq_getElem _
      obtain ⟨c0, c1, c2⟩ := (HR.out.off ho (fun h => h)).cell hs
      have HO := Lib.hid ho; clear ho
      generalize L.segs[k]'(by rw [HK.out]; exact hlt) = x at *
      have hsum := sumTo_succ hs
      have hle2 := sumTo_le L.segs (k + 1)
      have hbb : (L.segs.map (·.size)).sum ≤ 9223372036854775807 := HB.out
      have hsm : sumTo L.segs k + x.size ≤ 9223372036854775807 := by omega
      have HSUM := Lib.hid hsum
      clear hs hsum hle2 hbb
      have hi0 : (0 : Int) ≤ (k : Int) := by omega
      have hi1 : (k : Int) < (k0 : Int) := by omega
      go_wp2
      go_round
      case rel =>
        refine ⟨k + 1, by omega, by go_num, ?_, HO.out.alloc _⟩
        rw [HSUM.out]
        push_cast
        rfl
      case measure => simp [intOf]; omega
    · go_wp2
      go_ret
      have e : k = L.segs.length := by rw [HK.out]; omega
      refine ⟨?_, ho⟩
      rw [e]
      unfold LogV.bytes sumTo
      rw [List.take_length]
      rfl
set_option maxRecDepth 100000 in
theorem segs_any (w : World) (lg d : Nat) (L : LogV) (g off cap : Nat) (h : LogAt w lg d L g off cap) (hn : L.segs.length ≤ 1000000) :
    Calls Tryz.prog 17 #[.pointer (some ⟨lg, 0, none⟩)] w fun e w' => ∃ v, e = .returned v ∧ w'.ownsRow w.heap.size 42 3 v L.segs.length (L.segs.flatMap segCells) ∧ Off None w w' := by
  have p1 := h.own.2.1
  obtain ⟨cur, hr⟩ := h.row
  have HR := Lib.hid hr; clear hr h
  go_enter Tryz.func17, Tryz.ntmps17
  go_wp2_with fail
  obtain ⟨i0, hi, hz0, hz1, hz2⟩ := info_parts infoSeg
  refine (AnyE.slices_Clone Tryz.cloneSegs i0 _ 3 24 hi hz0 hz1 hz2 rfl (by decide) (fun _ => Tryz.sizeOf42 _) g (off * 3) L.segs.length cap (L.segs.flatMap segCells) w (flat_len _) (by unfold maxLen; omega) (by omega) HR.out.flat (flat_one _)).mono ?_
  rintro e w1 ⟨v, rfl, hrow, _, hb⟩
  go_wp2
  go_ret
  exact ⟨v, rfl, hrow, Off.of_below hb⟩
end Seg
end Go.Proofs.YtnppdcegpojmbaaGreatDoor
namespace Go.Proofs.YtnppdcegpojmbaaGreatDoor
open Go Go.RowKit Go.Shelf
namespace LogV
/-- What Drop does. -/
def drop (L : LogV) (D : DiskV) : LogV × DiskV × Int :=
  match L.full with
  | [] => (L, D, 13)
  | s :: r =>
    match D.remove (Seg.nameB s.first) with
    | (D1, e) => if e = 0 then (⟨r, L.act, L.durable⟩, D1.syncDir.1, D1.syncDir.2) else (L, D1, e)
end LogV
/-- The first segment is gone. -/
theorem LogAt.tail {w : World} {lg d : Nat} {L : LogV} {g off cap : Nat} {s : SegV} {r : List SegV} (h : LogAt w lg d L g off cap) (hf : L.full = s :: r) :
    LogAt (w.setCell ⟨lg, 1, none⟩ (.slice (some ⟨g, (off + 1) * 3, none⟩) (r.length + 1) (cap - 1))) lg d ⟨r, L.act, L.durable⟩ g (off + 1) (cap - 1) := by
  obtain ⟨cur, hr⟩ := h.row
  have hl : L.segs = s :: (r ++ [L.act]) := by unfold LogV.segs; rw [hf]; rfl
  have hle := hr.le
  rw [hl] at hle hr
  simp at hle
  have hsz := hr.size
  refine ⟨?_, ⟨cur, (Heap.set_far (Ne.symm (Ne.symm h.ne)) _).trans hr.blk, by rw [hsz]; omega, by rw [LogV.len]; show r.length + 1 ≤ _; omega, by have := hr.max; omega, fun i x hi => ?_⟩, h.ne⟩
  · rw [LogV.len]
    exact (Heap.set h.core 1 _).trans rfl
  · have := hr.at_ (i + 1) x (by have hi : (r ++ [L.act])[i]? = some x := hi; simpa using hi)
    rw [show off + (i + 1) = off + 1 + i by omega] at this
    exact this
namespace Seg
set_option maxHeartbeats 2000000 in
set_option maxRecDepth 100000 in
theorem drop_any (w : World) (lg d n N : Nat) (L : LogV) (D : DiskV) (F : Nat → Prop) (off : Nat) (h : Store w lg d L D F off) (hG : Glob n w) (hF : ∀ b, F b → n ≤ b) (hok : L.Ok) (hl : Lim N D) :
    Calls Tryz.prog 33 #[.pointer (some ⟨lg, 0, none⟩)] w fun e w' =>
      e = .returned (.int .i64 (L.drop D).2.2) ∧ (∃ off', Store w' lg d (L.drop D).1 (L.drop D).2.1 (Grow F w w') off') ∧ Off F w w' := by
  obtain ⟨g, cap, Fd, hst⟩ := h
  obtain ⟨p0, p1, _⟩ := hst.log.own
  obtain ⟨cur, hr⟩ := hst.log.row
  have HR := Lib.hid hr; clear hr
  have HST := Lib.hid hst; clear hst
  have HGL := Lib.hid hG; clear hG
  have HFN := Lib.hid hF; clear hF
  have HOK := Lib.hid hok; clear hok
  have HL := Lib.hid hl; clear hl
  have hle := HR.out.le
  have hmx : cap ≤ 2 ^ 63 - 1 := HR.out.max
  have hlen := L.len
  cases hfull : L.full with
  | nil =>
    have hsp : L.drop D = (L, D, 13) := by unfold LogV.drop; rw [hfull]
    have HSP := Lib.hid hsp; clear hsp
    rw [hfull] at hlen
    have hlen : L.segs.length = 1 := hlen
    rw [hlen] at p1
    clear hlen hle hfull
    go_enter Tryz.func33, Tryz.ntmps33
    go_wp2
    go_ret
    rw [HSP.out]
    exact ⟨rfl, ⟨off, g, cap, Fd, HST.out.log, HST.out.disk, HST.out.sepL, HST.out.sepG, .inl HST.out.inL, .inl HST.out.inG, fun b hb => .inl (HST.out.inD b hb)⟩, Off.refl _ _⟩
  | cons s r =>
    have hs0 : L.segs[0]? = some s := by unfold LogV.segs; rw [hfull]; rfl
    obtain ⟨c0, c1, c2⟩ := HR.out.cell hs0
    have hsok : s.Ok := HOK.out.segs s (List.mem_of_getElem? hs0)
    have hfst : s.first < 18446744073709551616 := by have := hsok.sum; omega
    have HFU := Lib.hid hfull
    rw [hfull] at hlen
    have hlen : L.segs.length = r.length + 2 := by rw [hlen]; simp
    rw [hlen] at p1 hle
    clear hlen hfull hs0
    have hname := fun W (hW : Off None w W) => name_any W s.first hfst (HGL.out.none hW).pow
    have HNM := Lib.hid hname; clear hname
    have hdk := fun W (hW : Off None w W) => DiskW.remove_any W d D Fd (HST.out.disk.off hW (fun _ _ _ h => h)) (nameB s.first) (by rw [nameB_size hfst]; decide) (by have := HL.out.names; have := HL.out.le; unfold maxLen; omega) (by have := HL.out.moves; have := HL.out.le; omega)
    have HDK := Lib.hid hdk; clear hdk
    have hsl := HST.out.sepL
    have hsg := HST.out.sepG
    rw [Nat.zero_mul, Nat.add_zero] at c0
    go_enter Tryz.func33, Tryz.ntmps33
    go_wp2_with fail
    have hb0 : (0 : Int) < (r.length : Int) + 2 := by omega
    have hb1 : (1 : Int) ≤ (r.length : Int) + 2 := by omega
    go_region_held3 (fun W => W.cell? ⟨lg, 0, none⟩ = some (.pointer (some ⟨d, 0, none⟩)) ∧ W.cell? ⟨lg, 1, none⟩ = some (.slice (some ⟨g, off * 3, none⟩) (r.length + 2) cap) ∧ W.cell? ⟨g, off * 3, none⟩ = some (.int .u64 s.first))
      (first | exact ⟨p0, p1, c0⟩ | exact ⟨l1, l2, l3⟩ | exact ⟨k1, k2, k3⟩)
      (first
        | (go_at_call 25; refine (HNM.out _ ((Off.refl None w).drew)).mono ?_; rintro e w4 ⟨rfl, ho4⟩; have k1 : w4.cell? ⟨lg, 0, none⟩ = some (.pointer (some ⟨d, 0, none⟩)) := ho4.keep p0 (fun h => h); have k2 : w4.cell? ⟨lg, 1, none⟩ = some (.slice (some ⟨g, off * 3, none⟩) (r.length + 2) cap) := ho4.keep p1 (fun h => h); have k3 : w4.cell? ⟨g, off * 3, none⟩ = some (.int .u64 s.first) := ho4.keep c0 (fun h => h); have ho14 : Off None w w4 := ((Off.refl None w).drew).trans ho4 (fun _ _ h => h); clear ho4)
        | (go_at_call 77; refine (HDK.out w4 ho14).mono ?_; rintro e w5 ⟨rfl, hd5, ho5⟩; have l1 : w5.cell? ⟨lg, 0, none⟩ = some (.pointer (some ⟨d, 0, none⟩)) := ho5.keep k1 hsl; have l2 : w5.cell? ⟨lg, 1, none⟩ = some (.slice (some ⟨g, off * 3, none⟩) (r.length + 2) cap) := ho5.keep k2 hsl; have l3 : w5.cell? ⟨g, off * 3, none⟩ = some (.int .u64 s.first) := ho5.keep k3 hsg))
    have hst5 := (HST.out.quiet ho14).disk' hd5 ho5
    have hoF : Off F w w5 := (ho14.mono (fun _ _ h => h.elim) : Off F w w4).trans ((HST.out.quiet ho14).offF ho5) (fun _ _ h => h)
    have hsz4 : w.heap.size ≤ w4.heap.size := ho14.size
    have HST5 := Lib.hid hst5
    have HOF := Lib.hid hoF
    have HS5 := Lib.hid ho5.size
    have f1 : w5.frozen? ⟨lg, 1, none⟩ = false := Heap.frozen hst5.log.core 1
    have m1 := l1
    have m2 := l2
    clear hst5 hoF ho14 hd5 l1 l2 l3 k1 k2 k3 p0 p1 c0 c1 c2 ho5
    obtain ⟨D', er, hda⟩ : ∃ D' er, D.remove (nameB s.first) = (D', er) := ⟨_, _, rfl⟩
    rw [hda] at HST5 ⊢
    dsimp only at HST5 ⊢
    have HDA := Lib.hid hda; clear hda
    by_cases he : er = 0
    · subst he
      have hsp : L.drop D = (⟨r, L.act, L.durable⟩, D'.syncDir.1, D'.syncDir.2) := by
        unfold LogV.drop; rw [HFU.out]; dsimp only; rw [HDA.out]; dsimp only; rw [if_pos rfl]
      have HSP := Lib.hid hsp; clear hsp
      go_wp2_with fail
      have hlog6 := HST5.out.log.tail HFU.out
      rw [show (off + 1) * 3 = off * 3 + 3 by omega] at hlog6
      have ho6 : Off (Only lg) w5 (w5.setCell ⟨lg, 1, none⟩ (.slice (some ⟨g, off * 3 + 3, none⟩) (r.length + 1) (cap - 1))) := (Off.refl (Only lg) w5).set 1 _
      have hst6 : StoreAt (w5.setCell ⟨lg, 1, none⟩ (.slice (some ⟨g, off * 3 + 3, none⟩) (r.length + 1) (cap - 1))) lg d ⟨r, L.act, L.durable⟩ D' (Grow F w4 w5) g (off + 1) (cap - 1) (Grow Fd w4 w5) :=
        ⟨hlog6, HST5.out.disk.off ho6 (fun b _ hb e => HST5.out.sepL (by rw [← show b = lg from e]; exact hb)), HST5.out.sepL, HST5.out.sepG, HST5.out.inL, HST5.out.inG, HST5.out.inD⟩
      have HST6 := Lib.hid hst6; have HO6 := Lib.hid ho6
      clear hst6 hlog6 ho6
      refine (DiskW.syncDir_any _ d D' _ HST6.out.disk).mono ?_
      rintro e w9 ⟨rfl, hd9, ho9⟩
      have hst9 := HST6.out.disk' hd9 ho9
      have HST9 := Lib.hid hst9; have HO9 := Lib.hid ho9
      clear hst9 hd9 ho9
      go_wp2
      go_ret
      rw [HSP.out]
      have hs6 : w5.heap.size = (w5.setCell ⟨lg, 1, none⟩ (.slice (some ⟨g, off * 3 + 3, none⟩) (r.length + 1) (cap - 1))).heap.size := (Heap.set_size _ _).symm
      have hs9 := HO9.out.size
      have hs5 : w4.heap.size ≤ w5.heap.size := HS5.out
      have hup : ∀ b, Grow (Grow F w4 w5) (w5.setCell ⟨lg, 1, none⟩ (.slice (some ⟨g, off * 3 + 3, none⟩) (r.length + 1) (cap - 1))) w9 b → Grow F w w9 b := fun b hb => by
        rcases hb with (hb | hb) | hb
        · exact .inl hb
        · exact .inr ⟨by omega, by omega⟩
        · exact .inr ⟨by omega, hb.2⟩
      refine ⟨rfl, ⟨off + 1, g, cap - 1, _, HST9.out.log, HST9.out.disk, HST9.out.sepL, HST9.out.sepG, hup _ HST9.out.inL, hup _ HST9.out.inG, fun b hb => hup b (HST9.out.inD b hb)⟩, ?_⟩
      refine (HOF.out.trans (HO6.out.mono (fun b _ e => by rw [show b = lg from e]; exact HST.out.inL) : Off F w5 _) (fun _ _ h => h)).trans HO9.out (fun b hb h => ?_)
      rcases h with h | h
      · exact HST.out.inD b h
      · omega
    · have hsp : L.drop D = (L, D', er) := by
        unfold LogV.drop; rw [HFU.out]; dsimp only; rw [HDA.out]; dsimp only; rw [if_neg he]
      have HSP := Lib.hid hsp; clear hsp
      have t1 : (er != 0) = true := by rw [bne_iff_ne]; exact he
      go_wp2
      go_ret
      rw [HSP.out]
      refine ⟨rfl, ⟨off, g, cap, _, HST5.out.log, HST5.out.disk, HST5.out.sepL, HST5.out.sepG, .inl HST.out.inL, .inl HST.out.inG, fun b hb => ?_⟩, HOF.out⟩
      rcases hb with hb | hb
      · exact .inl (HST.out.inD b hb)
      · exact .inr ⟨by omega, hb.2⟩
end Seg
end Go.Proofs.YtnppdcegpojmbaaGreatDoor
