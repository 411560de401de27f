/- The walk of begin of a log. -/
import Derived.Test.YtnppdcegpojmbaaGreatDoorSeg3
namespace Go.Proofs.YtnppdcegpojmbaaGreatDoor
open Go Go.RowKit
theorem flat_at (xs : List SegV) : ∀ i s, xs[i]? = some s → (xs.flatMap segCells)[i * 3]? = some (.int .u64 s.first) ∧ (xs.flatMap segCells)[i * 3 + 1]? = some (.int .i64 s.many) ∧ (xs.flatMap segCells)[i * 3 + 2]? = some (.int .i64 s.size) := by
  induction xs with
  | nil => intro i s h; simp at h
  | cons x r ih =>
    intro i s h
    cases i with
    | zero => simp at h; subst h; simp [segCells]
    | succ i =>
      have h' : r[i]? = some s := by simpa using h
      have := ih i s h'
      have e : (x :: r).flatMap segCells = [.int .u64 x.first, .int .i64 x.many, .int .i64 x.size] ++ r.flatMap segCells := rfl
      rw [e]
      refine ⟨?_, ?_, ?_⟩
      · rw [List.getElem?_append_right (by simp; omega), show (i + 1) * 3 - [Value.int .u64 x.first, .int .i64 x.many, .int .i64 x.size].length = i * 3 by simp; omega]; exact this.1
      · rw [List.getElem?_append_right (by simp; omega), show (i + 1) * 3 + 1 - [Value.int .u64 x.first, .int .i64 x.many, .int .i64 x.size].length = i * 3 + 1 by simp; omega]; exact this.2.1
      · rw [List.getElem?_append_right (by simp; omega), show (i + 1) * 3 + 2 - [Value.int .u64 x.first, .int .i64 x.many, .int .i64 x.size].length = i * 3 + 2 by simp; omega]; exact this.2.2
theorem flat_len (xs : List SegV) : (xs.flatMap segCells).length = xs.length * 3 := by
  induction xs with
  | nil => rfl
  | cons x r ih => rw [List.flatMap_cons, List.length_append, ih, List.length_cons]; simp [segCells]; omega
/-- A log that has perhaps no segment yet. -/
structure PreAt (w : World) (lg d : Nat) (xs : List SegV) (dur : SegV) (sv : Value) : Prop where
  core : w.heap[lg]? = some (.cells (logCells d sv dur) 84 (0, 0))
  row : w.ownsRow 0 42 3 sv xs.length (xs.flatMap segCells)
  ne : sv.ownBlock ≠ some lg
theorem PreAt.off {w w' : World} {lg d : Nat} {xs : List SegV} {dur : SegV} {sv : Value} {G : Nat → Prop} (h : PreAt w lg d xs dur sv) (ho : Off G w w') (hl : ¬ G lg) (hg : ∀ k, sv.ownBlock = some k → ¬ G k) : PreAt w' lg d xs dur sv :=
  ⟨ho.at_ h.core hl, ho.row h.row hg, h.ne⟩
theorem segRow_of {w : World} {g cap : Nat} {xs : List SegV} (h : w.ownsRow 0 42 3 (.slice (some ⟨g, 0, none⟩) xs.length cap) xs.length (xs.flatMap segCells)) (hp : xs ≠ []) : ∃ cur, SegRow w g 0 cap xs cur := by
  obtain ⟨h1, ⟨h2, h3⟩ | ⟨g', cap', cur, hv, _, hh, hle, hmx, hsz, ht⟩⟩ := h
  · exact absurd (List.eq_nil_of_length_eq_zero h3) hp
  · cases hv
    refine ⟨cur, hh, by rw [Nat.zero_add]; exact hsz, hle, hmx, ?_⟩
    intro i s hi
    have hlt : i < xs.length := (List.getElem?_eq_some_iff.1 hi).1
    have hf := flat_at xs i s hi
    rw [← ht] at hf
    rw [Nat.zero_add]
    simp only [← Array.getElem?_toList]
    rw [List.getElem?_take_of_lt (by omega), List.getElem?_take_of_lt (by omega), List.getElem?_take_of_lt (by omega)] at hf
    exact hf
theorem row_of_seg {w : World} {g cap : Nat} {xs : List SegV} {cur : Array Value} (h : SegRow w g 0 cap xs cur) : w.ownsRow 0 42 3 (.slice (some ⟨g, 0, none⟩) xs.length cap) xs.length (xs.flatMap segCells) := by
  have hsz := h.size
  rw [Nat.zero_add] at hsz
  refine ⟨flat_len xs, .inr ⟨g, cap, cur, rfl, Nat.zero_le _, h.blk, h.le, h.max, hsz, ?_⟩⟩
  apply List.ext_getElem?
  intro j
  by_cases hj : j < xs.length * 3
  · rw [List.getElem?_take_of_lt hj, Array.getElem?_toList]
    have hi : j / 3 < xs.length := by omega
    have hs := h.at_ (j / 3) xs[j / 3] (List.getElem?_eq_getElem hi)
    have hf := flat_at xs (j / 3) xs[j / 3] (List.getElem?_eq_getElem hi)
    rw [Nat.zero_add] at hs
    rcases (show j = j / 3 * 3 ∨ j = j / 3 * 3 + 1 ∨ j = j / 3 * 3 + 2 by omega) with e | e | e
    · rw [e]; exact hs.1.trans hf.1.symm
    · rw [e]; exact hs.2.1.trans hf.2.1.symm
    · rw [e]; exact hs.2.2.trans hf.2.2.symm
  · rw [List.getElem?_eq_none (by simp; omega), List.getElem?_eq_none (by rw [flat_len]; omega)]
theorem LogAt.pre {w : World} {lg d : Nat} {L : LogV} {g cap : Nat} (h : LogAt w lg d L g 0 cap) : PreAt w lg d L.segs L.durable (.slice (some ⟨g, 0, none⟩) L.segs.length cap) := by
  obtain ⟨cur, hr⟩ := h.row
  exact ⟨h.core, row_of_seg hr, fun e => by cases e; exact h.ne rfl⟩
theorem PreAt.log {w : World} {lg d g cap : Nat} {xs : List SegV} {a dur : SegV} (h : PreAt w lg d (xs ++ [a]) dur (.slice (some ⟨g, 0, none⟩) (xs.length + 1) cap)) : LogAt w lg d ⟨xs, a, dur⟩ g 0 cap := by
  have hl : (xs ++ [a]).length = xs.length + 1 := by simp
  have hr := h.row
  refine ⟨?_, segRow_of (xs := xs ++ [a]) (by rw [hl] at hr ⊢; exact hr) (by simp), fun e => h.ne (by rw [e]; rfl)⟩
  rw [LogV.len]; exact h.core
theorem PreAt.setDur {w : World} {lg d : Nat} {xs : List SegV} {dur : SegV} {sv : Value} (h : PreAt w lg d xs dur sv) (a : SegV) :
    PreAt (((w.setCell ⟨lg, 2, none⟩ (.int .u64 a.first)).setCell ⟨lg, 3, none⟩ (.int .i64 a.many)).setCell ⟨lg, 4, none⟩ (.int .i64 a.size)) lg d xs a sv :=
  ⟨(Heap.set (Heap.set (Heap.set h.core 2 _) 3 _) 4 _).trans rfl, ((((Off.refl (Only lg) w).set 2 (.int .u64 a.first)).set 3 (.int .i64 a.many)).set 4 (.int .i64 a.size)).row h.row (fun k hk e => h.ne (by rw [hk, show k = lg from e])), h.ne⟩
/-- What begin does: the disk, what errs, and whether the segment stands. -/
def DiskV.started (D : DiskV) (first : Nat) : DiskV × Int × Bool :=
  match D.create (Seg.nameB first) with
  | (D1, e) => if e = 0 then (D1.syncDir.1, D1.syncDir.2, true) else (D1, e, false)
theorem infoSeg : (Tryz.prog.info? 42).map (fun i => (i.zero, i.size, i.bytes)) = some (some (.agg #[.int .u64 0, .int .i64 0, .int .i64 0]), 3, 24) := by kernel_rfl
theorem elemSeg : ElemOk Tryz.prog 37 42 3 24 := .of Tryz.underlying37 infoSeg rfl (by decide) (by decide)
namespace Seg
set_option maxHeartbeats 1000000 in
set_option maxRecDepth 100000 in
theorem begin_any (w : World) (lg d n N : Nat) (xs : List SegV) (dur : SegV) (sv : Value) (D : DiskV) (Fd : Nat → Prop) (h : PreAt w lg d xs dur sv) (hd : DiskIn w d D Fd) (hsl : ¬ Fd lg) (hsg : ∀ k, sv.ownBlock = some k → ¬ Fd k)
    (hG : Glob n w) (hFb : ∀ b, Fd b → b < w.heap.size) (hl : Lim N D) (hx : xs.length ≤ 1000000) (first : Nat) (hf : first < 18446744073709551616) :
    Calls Tryz.prog 44 #[.pointer (some ⟨lg, 0, none⟩), .int .u64 first] w fun e w' =>
      e = .returned (.int .i64 (D.started first).2.1) ∧ DiskIn w' d (D.started first).1 (Grow Fd w w') ∧ Off (fun b => Fd b ∨ b = lg ∨ sv.ownBlock = some b) w w' ∧
      ((D.started first).2.2 = true → ∃ g cap Fd', LogAt w' lg d ⟨xs, ⟨first, 0, 0⟩, ⟨first, 0, 0⟩⟩ g 0 cap ∧ (sv.ownBlock = some g ∨ (w.heap.size ≤ g ∧ g < w'.heap.size)) ∧ DiskIn w' d (D.started first).1 Fd' ∧ ¬ Fd' lg ∧ ¬ Fd' g ∧ ∀ b, Fd' b → Grow Fd w w' b) ∧
      ((D.started first).2.2 = false → PreAt w' lg d xs dur sv) := by
  have HP := Lib.hid h; clear h
  have HD := Lib.hid hd; clear hd
  have HG := Lib.hid hG; clear hG
  have HL := Lib.hid hl; clear hl
  obtain ⟨D1, er, hcr⟩ : ∃ D1 er, D.create (nameB first) = (D1, er) := ⟨_, _, rfl⟩
  have p0 : w.cell? ⟨lg, 0, none⟩ = some (.pointer (some ⟨d, 0, none⟩)) := Heap.cell HP.out.core 0
  have hname := fun W (hW : Off None w W) => name_any W first hf (HG.out.none hW).pow
  have HNM := Lib.hid hname; clear hname
  have hdk := fun W (hW : Off None w W) => DiskW.create_any W d D Fd (HD.out.off hW (fun _ _ _ h => h)) (nameB first) (by rw [nameB_size hf]; decide) (by have := HL.out.names; have := HL.out.le; unfold maxLen; omega) (by have := HL.out.moves; have := HL.out.le; omega) (by have := HL.out.files; have := HL.out.le; omega)
  rw [hcr] at hdk
  have HDK := Lib.hid hdk; clear hdk
  have HCR := Lib.hid hcr; clear hcr
  go_enter Tryz.func44, Tryz.ntmps44
  go_wp2_with fail
  go_region_held3 (fun W => W.cell? ⟨lg, 0, none⟩ = some (.pointer (some ⟨d, 0, none⟩)))
    (first | exact p0 | exact l1 | exact k1)
    (first
      | (go_at_call 25; refine (HNM.out _ ((Off.refl None w).drew)).mono ?_; rintro e w4 ⟨rfl, ho4⟩; have k1 : w4.cell? ⟨lg, 0, none⟩ = some (.pointer (some ⟨d, 0, none⟩)) := ho4.keep p0 (fun h => h))
      | (go_at_call 26; refine (HDK.out w4 (((Off.refl None w).drew).trans ho4 (fun _ _ h => h))).mono ?_; rintro e w5 ⟨rfl, hd5, ho5⟩; have l1 : w5.cell? ⟨lg, 0, none⟩ = some (.pointer (some ⟨d, 0, none⟩)) := ho5.keep k1 hsl))
  have ho04 : Off None w w4 := ((Off.refl None w).drew).trans ho4 (fun _ _ h => h)
  have hp5 : PreAt w5 lg d xs dur sv := (HP.out.off ho04 (fun h => h) (fun _ _ h => h)).off ho5 hsl hsg
  have hof5 : Off Fd w w5 := (ho04.mono (fun _ _ h => h.elim) : Off Fd w w4).trans ho5 (fun _ _ h => h)
  have hd5' : DiskIn w5 d D1 (Grow Fd w w5) := hd5.mono (fun b _ hb => hb.imp id (fun x => ⟨Nat.le_trans ho04.size x.1, x.2⟩))
  have HP5 := Lib.hid hp5; have HO5 := Lib.hid hof5; have HD5 := Lib.hid hd5'
  clear hp5 hof5 hd5' hd5 ho5 ho04 ho4 k1 p0
  by_cases he : er = 0
  · subst he
    have hsp : D.started first = (D1.syncDir.1, D1.syncDir.2, true) := by unfold DiskV.started; rw [HCR.out]; dsimp only; rw [if_pos rfl]
    have HSP := Lib.hid hsp; clear hsp
    have q1 : w5.cell? ⟨lg, 1, none⟩ = some sv := Heap.cell HP5.out.core 1
    have q2 : w5.cell? ⟨lg, 2, none⟩ = some (.int .u64 dur.first) := Heap.cell HP5.out.core 2
    have q3 : w5.cell? ⟨lg, 3, none⟩ = some (.int .i64 dur.many) := Heap.cell HP5.out.core 3
    have q4 : w5.cell? ⟨lg, 4, none⟩ = some (.int .i64 dur.size) := Heap.cell HP5.out.core 4
    have f1 : w5.frozen? ⟨lg, 1, none⟩ = false := Heap.frozen HP5.out.core 1
    have f2 : w5.frozen? ⟨lg, 2, none⟩ = false := Heap.frozen HP5.out.core 2
    have f3 : w5.frozen? ⟨lg, 3, none⟩ = false := Heap.frozen HP5.out.core 3
    have f4 : w5.frozen? ⟨lg, 4, none⟩ = false := Heap.frozen HP5.out.core 4
    have hlt : lg < w5.heap.size := Heap.lt HP5.out.core
    go_wp2_with fail
    have hp6 := HP5.out.setDur ⟨first, 0, 0⟩
    have ho56 : Off (Only lg) w5 _ := (((Off.refl (Only lg) w5).set 2 (.int .u64 first)).set 3 (.int .i64 0)).set 4 (.int .i64 0)
    obtain ⟨w6, hw6⟩ : ∃ w6, w6 = ((w5.setCell ⟨lg, 2, none⟩ (.int .u64 first)).setCell ⟨lg, 3, none⟩ (.int .i64 0)).setCell ⟨lg, 4, none⟩ (.int .i64 0) := ⟨_, rfl⟩
    have hp6 : PreAt w6 lg d xs ⟨first, 0, 0⟩ sv := by rw [hw6]; exact hp6
    rw [← hw6] at ho56 ⊢
    have HP6 := Lib.hid hp6; have HO6 := Lib.hid ho56
    clear hw6 hp6 ho56 q1 q2 q3 q4 f1 f2 f3 f4
    have q1 : w6.cell? ⟨lg, 1, none⟩ = some sv := Heap.cell HP6.out.core 1
    have q2 : w6.cell? ⟨lg, 2, none⟩ = some (.int .u64 first) := Heap.cell HP6.out.core 2
    have q3 : w6.cell? ⟨lg, 3, none⟩ = some (.int .i64 0) := Heap.cell HP6.out.core 3
    have q4 : w6.cell? ⟨lg, 4, none⟩ = some (.int .i64 0) := Heap.cell HP6.out.core 4
    have qa : (w6.alloc (.cells #[.int .u64 first, .int .i64 0, .int .i64 0] 42)).cell? ⟨lg, 1, none⟩ = some sv := Heap.cell (Heap.alloc_old HP6.out.core _) 1
    have hrow := HP6.out.row
    have HR := Lib.hid hrow; clear hrow
    go_region_law ((refine step_push (W := w6.drew) (by rfl) _ _ (by rfl) elemSeg 0 sv xs.length (xs.flatMap segCells) (by rfl) HR.out #[.int .u64 first, .int .i64 0, .int .i64 0] (by rfl) rfl (by intro u hu; simp at hu; rcases hu with rfl | rfl <;> rfl) (by omega) (Nat.zero_le _) ?_; intro g cap w7 hrow7 hp7; have c7 : w7.cell? ⟨lg, 1, none⟩ = some sv := Heap.cell (hp7.keep _ _ HP6.out.core HP6.out.ne) 1; have f7 : w7.frozen? ⟨lg, 1, none⟩ = false := Heap.frozen (hp7.keep _ _ HP6.out.core HP6.out.ne) 1))
    all_goals
      have hlg7 := hp7.keep _ _ HP6.out.core HP6.out.ne
      have hlg8 : (w7.setCell ⟨lg, 1, none⟩ (.slice (some ⟨g, 0, none⟩) (xs.length + 1) cap)).heap[lg]? = some (.cells (logCells d (.slice (some ⟨g, 0, none⟩) (xs.length + 1) cap) ⟨first, 0, 0⟩) 84 (0, 0)) := (Heap.set hlg7 1 _).trans rfl
      have p8 : (w7.setCell ⟨lg, 1, none⟩ (.slice (some ⟨g, 0, none⟩) (xs.length + 1) cap)).cell? ⟨lg, 0, none⟩ = some (.pointer (some ⟨d, 0, none⟩)) := Heap.cell hlg8 0
      have hgl : g ≠ lg := by
        rcases hp7.from_ with h | h
        · intro e; exact HP6.out.ne (by rw [h, e])
        · have h1 : w6.heap.size < g := h; have := Heap.lt HP6.out.core; omega
      have hpa8 : PreAt (w7.setCell ⟨lg, 1, none⟩ (.slice (some ⟨g, 0, none⟩) (xs.length + 1) cap)) lg d (xs ++ [⟨first, 0, 0⟩]) ⟨first, 0, 0⟩ (.slice (some ⟨g, 0, none⟩) (xs.length + 1) cap) := by
        refine ⟨hlg8, ?_, fun e => hgl (by cases e; rfl)⟩
        have h := ((Off.refl (Only lg) w7).set 1 (.slice (some ⟨g, 0, none⟩) (xs.length + 1) cap)).row hrow7 (fun k hk e => by cases hk; exact hgl e)
        simpa [segCells] using h
      have ho68 : Off (fun b => b = lg ∨ sv.ownBlock = some b) w6 (w7.setCell ⟨lg, 1, none⟩ (.slice (some ⟨g, 0, none⟩) (xs.length + 1) cap)) :=
        ((((Off.refl _ w6).drew).trans hp7.off (fun _ _ h => h)).mono (fun _ _ h => .inr h)).setCell (p := ⟨lg, 1, none⟩) (.inl (.inl rfl)) _
      have hd8 : DiskIn (w7.setCell ⟨lg, 1, none⟩ (.slice (some ⟨g, 0, none⟩) (xs.length + 1) cap)) d D1 (Grow Fd w w5) :=
        (HD5.out.off HO6.out (fun b hb1 hb e => by
          have e : b = lg := e
          subst e
          rcases hb with hb | hb
          · exact hsl hb
          · have := Heap.lt HP.out.core; omega)).off ho68 (fun b hb1 hb e => by
          have hlgw := Heap.lt HP.out.core
          rcases e with e | e
          · subst e
            rcases hb with hb | hb
            · exact hsl hb
            · omega
          · have h2 := row_lt HP.out.row e
            rcases hb with hb | hb
            · exact hsg b e hb
            · omega)
      have HPA := Lib.hid hpa8; have HO8 := Lib.hid ho68; have HD8 := Lib.hid hd8
      clear hlg7 hlg8 hpa8 ho68 hd8
      go_wp2_with fail
      refine (DiskW.syncDir_any _ d D1 _ HD8.out).mono ?_
      rintro e w9 ⟨rfl, hd9, ho9⟩
      have HD9 := Lib.hid hd9; have HO9 := Lib.hid ho9
      clear hd9 ho9
      go_wp2
      go_ret
      rw [HSP.out]
      have hlgw := Heap.lt HP.out.core
      have hs5 := HO5.out.size
      have hs6 := HO6.out.size
      have hs8 := HO8.out.size
      have hs9 := HO9.out.size
      have hgw : sv.ownBlock = some g ∨ w5.heap.size < g := hp7.from_.imp id (fun h => by have h : w6.heap.size < g := h; omega)
      have hgl8 : g < (w7.setCell ⟨lg, 1, none⟩ (.slice (some ⟨g, 0, none⟩) (xs.length + 1) cap)).heap.size := by rw [Heap.set_size]; exact hp7.lt
      have hFl : ¬ Grow Fd w w5 lg := fun h => h.elim hsl (fun h => by omega)
      have hFg : ¬ Grow Fd w w5 g := fun h => by
        rcases hgw with h1 | h1
        · have := row_lt HP.out.row h1
          exact h.elim (hsg g h1) (fun h => by omega)
        · rcases h with h | h
          · have := hFb g h; omega
          · omega
      have hup : ∀ b, Grow (Grow Fd w w5) (w7.setCell ⟨lg, 1, none⟩ (.slice (some ⟨g, 0, none⟩) (xs.length + 1) cap)) w9 b → Grow Fd w w9 b := fun b hb => by
        rcases hb with (hb | hb) | hb
        · exact .inl hb
        · exact .inr ⟨hb.1, by omega⟩
        · exact .inr ⟨by omega, hb.2⟩
      have hpre9 := HPA.out.off HO9.out hFl (fun k hk => by cases hk; exact hFg)
      refine ⟨rfl, HD9.out.mono (fun b _ hb => hup b hb), ?_, fun _ => ⟨g, cap, _, hpre9.log, hp7.from_.imp id (fun h => ?_), HD9.out, fun h => h.elim hFl (fun h => by omega), fun h => h.elim hFg (fun h => by omega), hup⟩, fun h => by cases h⟩
      · refine ((HO5.out.mono (fun _ _ h => .inl h)).trans ((HO6.out.mono (fun _ _ h => .inr (.inl h)) : Off (fun b => Fd b ∨ b = lg ∨ sv.ownBlock = some b) w5 w6).trans (HO8.out.mono (fun _ _ h => .inr h)) (fun _ _ h => h)) (fun _ _ h => h)).trans HO9.out (fun b hb h => ?_)
        rcases h with h | h
        · exact .inl h
        · omega
      · have h : w6.heap.size < g := h
        exact ⟨by omega, by omega⟩
  · have hsp : D.started first = (D1, er, false) := by unfold DiskV.started; rw [HCR.out]; dsimp only; rw [if_neg he]
    have HSP := Lib.hid hsp; clear hsp
    have t1 : (er != 0) = true := by rw [bne_iff_ne]; exact he
    go_wp2
    go_ret
    rw [HSP.out]
    exact ⟨rfl, HD5.out, HO5.out.mono (fun _ _ h => .inl h), (fun h => by cases h), fun _ => HP5.out⟩
end Seg
end Go.Proofs.YtnppdcegpojmbaaGreatDoor
