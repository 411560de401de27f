/- Roll of a log whose segments do not begin at their block's head (behind Drop). -/
import Derived.Test.YtnppdcegpojmbaaGreatDoorSeg5
import Derived.Test.YtnppdcegpojmbaaGreatDoorSubRow
namespace Go.Proofs.YtnppdcegpojmbaaGreatDoor
open Go Go.RowKit
/-- A log that has perhaps no segment yet; its row may lie anywhere in its block. -/
structure PreO (w : World) (lg d : Nat) (xs : List SegV) (dur : SegV) (sv : Value) : Prop where
  core : w.heap[lg]? = some (.cells (logCells d sv dur) 84 (0, 0))
  row : SubRow w 42 3 sv xs.length (xs.flatMap segCells)
  ne : sv.ownBlock ≠ some lg
theorem PreO.off {w w' : World} {lg d : Nat} {xs : List SegV} {dur : SegV} {sv : Value} {G : Nat → Prop} (h : PreO w lg d xs dur sv) (ho : Off G w w') (hl : ¬ G lg) (hg : ∀ k, sv.ownBlock = some k → ¬ G k) : PreO w' lg d xs dur sv :=
  ⟨ho.at_ h.core hl, h.row.off ho hg, h.ne⟩
theorem LogAt.preO {w : World} {lg d : Nat} {L : LogV} {g off cap : Nat} (h : LogAt w lg d L g off cap) : PreO w lg d L.segs L.durable (.slice (some ⟨g, off * 3, none⟩) L.segs.length cap) := by
  obtain ⟨cur, hr⟩ := h.row
  refine ⟨h.core, ⟨flat_len _, .inr ⟨g, off, cap, cur, rfl, hr.blk, hr.le, hr.max, hr.size, fun i hi => ?_⟩⟩, fun e => by cases e; exact h.ne rfl⟩
  have hj : i / 3 < L.segs.length := by omega
  have hs := hr.at_ (i / 3) L.segs[i / 3] (List.getElem?_eq_getElem hj)
  have hf := flat_at L.segs (i / 3) L.segs[i / 3] (List.getElem?_eq_getElem hj)
  rw [Nat.add_mul] at hs
  rcases (show i = i / 3 * 3 ∨ i = i / 3 * 3 + 1 ∨ i = i / 3 * 3 + 2 by omega) with e | e | e
  · rw [e]; exact hs.1.trans hf.1.symm
  · rw [e, ← Nat.add_assoc]; exact hs.2.1.trans hf.2.1.symm
  · rw [e, ← Nat.add_assoc]; exact hs.2.2.trans hf.2.2.symm
theorem PreO.log {w : World} {lg d g o cap : Nat} {xs : List SegV} {a dur : SegV} (h : PreO w lg d (xs ++ [a]) dur (.slice (some ⟨g, o, none⟩) (xs.length + 1) cap)) : ∃ off, LogAt w lg d ⟨xs, a, dur⟩ g off cap := by
  have hl : (xs ++ [a]).length = xs.length + 1 := by simp
  have hrow := h.row
  rw [hl] at hrow
  obtain ⟨_, ⟨hv, _⟩ | ⟨g', m, cap', cur, hv, hb, hle, hmx, hsz, ht⟩⟩ := hrow
  · cases hv
  · cases hv
    refine ⟨m, ?_, ⟨cur, hb, hsz, by rw [show (⟨xs, a, dur⟩ : LogV).segs = xs ++ [a] from rfl, hl]; exact hle, hmx, fun i s hi => ?_⟩, fun e => h.ne (by rw [e]; rfl)⟩
    · rw [LogV.len]; exact h.core
    · have hi : (xs ++ [a])[i]? = some s := hi
      have hj : i < (xs ++ [a]).length := (List.getElem?_eq_some_iff.1 hi).1
      have hf := flat_at (xs ++ [a]) i s hi
      rw [Nat.add_mul]
      rw [hl] at hj
      refine ⟨(ht (i * 3) (by omega)).trans hf.1, ?_, ?_⟩
      · rw [Nat.add_assoc]; exact (ht (i * 3 + 1) (by omega)).trans hf.2.1
      · rw [Nat.add_assoc]; exact (ht (i * 3 + 2) (by omega)).trans hf.2.2
theorem PreO.setDur {w : World} {lg d : Nat} {xs : List SegV} {dur : SegV} {sv : Value} (h : PreO w lg d xs dur sv) (a : SegV) :
    PreO (((w.setCell ⟨lg, 2, none⟩ (.int .u64 a.first)).setCell ⟨lg, 3, none⟩ (.int .i64 a.many)).setCell ⟨lg, 4, none⟩ (.int .i64 a.size)) lg d xs a sv :=
  ⟨(Heap.set (Heap.set (Heap.set h.core 2 _) 3 _) 4 _).trans rfl, h.row.off ((((Off.refl (Only lg) w).set 2 (.int .u64 a.first)).set 3 (.int .i64 a.many)).set 4 (.int .i64 a.size)) (fun k hk e => h.ne (by rw [hk, show k = lg from e])), h.ne⟩
namespace Seg
set_option maxHeartbeats 1000000 in
set_option maxRecDepth 100000 in
theorem begin_o (w : World) (lg d n N : Nat) (xs : List SegV) (dur : SegV) (sv : Value) (D : DiskV) (Fd : Nat → Prop) (h : PreO w lg d xs dur sv) (hd : DiskIn w d D Fd) (hsl : ¬ Fd lg) (hsg : ∀ k, sv.ownBlock = some k → ¬ Fd k)
    (hG : Glob n w) (hFb : ∀ b, Fd b → b < w.heap.size) (hl : Lim N D) (hx : xs.length ≤ 1000000) (first : Nat) (hf : first < 18446744073709551616) :
    Calls Tryz.prog 44 #[.pointer (some ⟨lg, 0, none⟩), .int .u64 first] w fun e w' =>
      e = .returned (.int .i64 (D.started first).2.1) ∧ DiskIn w' d (D.started first).1 (Grow Fd w w') ∧ Off (fun b => Fd b ∨ b = lg ∨ sv.ownBlock = some b) w w' ∧
      ((D.started first).2.2 = true → ∃ g off cap Fd', LogAt w' lg d ⟨xs, ⟨first, 0, 0⟩, ⟨first, 0, 0⟩⟩ g off cap ∧ (sv.ownBlock = some g ∨ (w.heap.size ≤ g ∧ g < w'.heap.size)) ∧ DiskIn w' d (D.started first).1 Fd' ∧ ¬ Fd' lg ∧ ¬ Fd' g ∧ ∀ b, Fd' b → Grow Fd w w' b) ∧
      ((D.started first).2.2 = false → PreO w' lg d xs dur sv) := by
  have HP := Lib.hid h; clear h
  have HD := Lib.hid hd; clear hd
  have HG := Lib.hid hG; clear hG
  have HL := Lib.hid hl; clear hl
  obtain ⟨D1, er, hcr⟩ : ∃ D1 er, D.create (nameB first) = (D1, er) := ⟨_, _, rfl⟩
  have p0 : w.cell? ⟨lg, 0, none⟩ = some (.pointer (some ⟨d, 0, none⟩)) := Heap.cell HP.out.core 0
  have hname := fun W (hW : Off None w W) => name_any W first hf (HG.out.none hW).pow
  have HNM := Lib.hid hname; clear hname
  have hdk := fun W (hW : Off None w W) => DiskW.create_any W d D Fd (HD.out.off hW (fun _ _ _ h => h)) (nameB first) (by rw [nameB_size hf]; decide) (by have := HL.out.names; have := HL.out.le; unfold maxLen; omega) (by have := HL.out.moves; have := HL.out.le; omega) (by have := HL.out.files; have := HL.out.le; omega)
  rw [hcr] at hdk
  have HDK := Lib.hid hdk; clear hdk
  have HCR := Lib.hid hcr; clear hcr
  go_enter Tryz.func44, Tryz.ntmps44
  go_wp2_with fail
  go_region_held3 (fun W => W.cell? ⟨lg, 0, none⟩ = some (.pointer (some ⟨d, 0, none⟩)))
    (first | exact p0 | exact l1 | exact k1)
    (first
      | (go_at_call 25; refine (HNM.out _ ((Off.refl None w).drew)).mono ?_; rintro e w4 ⟨rfl, ho4⟩; have k1 : w4.cell? ⟨lg, 0, none⟩ = some (.pointer (some ⟨d, 0, none⟩)) := ho4.keep p0 (fun h => h))
      | (go_at_call 26; refine (HDK.out w4 (((Off.refl None w).drew).trans ho4 (fun _ _ h => h))).mono ?_; rintro e w5 ⟨rfl, hd5, ho5⟩; have l1 : w5.cell? ⟨lg, 0, none⟩ = some (.pointer (some ⟨d, 0, none⟩)) := ho5.keep k1 hsl))
  have ho04 : Off None w w4 := ((Off.refl None w).drew).trans ho4 (fun _ _ h => h)
  have hp5 : PreO w5 lg d xs dur sv := (HP.out.off ho04 (fun h => h) (fun _ _ h => h)).off ho5 hsl hsg
  have hof5 : Off Fd w w5 := (ho04.mono (fun _ _ h => h.elim) : Off Fd w w4).trans ho5 (fun _ _ h => h)
  have hd5' : DiskIn w5 d D1 (Grow Fd w w5) := hd5.mono (fun b _ hb => hb.imp id (fun x => ⟨Nat.le_trans ho04.size x.1, x.2⟩))
  have HP5 := Lib.hid hp5; have HO5 := Lib.hid hof5; have HD5 := Lib.hid hd5'
  clear hp5 hof5 hd5' hd5 ho5 ho04 ho4 k1 p0
  by_cases he : er = 0
  · subst he
    have hsp : D.started first = (D1.syncDir.1, D1.syncDir.2, true) := by unfold DiskV.started; rw [HCR.out]; dsimp only; rw [if_pos rfl]
    have HSP := Lib.hid hsp; clear hsp
    have q1 : w5.cell? ⟨lg, 1, none⟩ = some sv := Heap.cell HP5.out.core 1
    have q2 : w5.cell? ⟨lg, 2, none⟩ = some (.int .u64 dur.first) := Heap.cell HP5.out.core 2
    have q3 : w5.cell? ⟨lg, 3, none⟩ = some (.int .i64 dur.many) := Heap.cell HP5.out.core 3
    have q4 : w5.cell? ⟨lg, 4, none⟩ = some (.int .i64 dur.size) := Heap.cell HP5.out.core 4
    have f1 : w5.frozen? ⟨lg, 1, none⟩ = false := Heap.frozen HP5.out.core 1
    have f2 : w5.frozen? ⟨lg, 2, none⟩ = false := Heap.frozen HP5.out.core 2
    have f3 : w5.frozen? ⟨lg, 3, none⟩ = false := Heap.frozen HP5.out.core 3
    have f4 : w5.frozen? ⟨lg, 4, none⟩ = false := Heap.frozen HP5.out.core 4
    have hlt : lg < w5.heap.size := Heap.lt HP5.out.core
    go_wp2_with fail
    have hp6 := HP5.out.setDur ⟨first, 0, 0⟩
    have ho56 : Off (Only lg) w5 _ := (((Off.refl (Only lg) w5).set 2 (.int .u64 first)).set 3 (.int .i64 0)).set 4 (.int .i64 0)
    obtain ⟨w6, hw6⟩ : ∃ w6, w6 = ((w5.setCell ⟨lg, 2, none⟩ (.int .u64 first)).setCell ⟨lg, 3, none⟩ (.int .i64 0)).setCell ⟨lg, 4, none⟩ (.int .i64 0) := ⟨_, rfl⟩
    have hp6 : PreO w6 lg d xs ⟨first, 0, 0⟩ sv := by rw [hw6]; exact hp6
    rw [← hw6] at ho56 ⊢
    have HP6 := Lib.hid hp6; have HO6 := Lib.hid ho56
    clear hw6 hp6 ho56 q1 q2 q3 q4 f1 f2 f3 f4
    have q1 : w6.cell? ⟨lg, 1, none⟩ = some sv := Heap.cell HP6.out.core 1
    have q2 : w6.cell? ⟨lg, 2, none⟩ = some (.int .u64 first) := Heap.cell HP6.out.core 2
    have q3 : w6.cell? ⟨lg, 3, none⟩ = some (.int .i64 0) := Heap.cell HP6.out.core 3
    have q4 : w6.cell? ⟨lg, 4, none⟩ = some (.int .i64 0) := Heap.cell HP6.out.core 4
    have qa : (w6.alloc (.cells #[.int .u64 first, .int .i64 0, .int .i64 0] 42)).cell? ⟨lg, 1, none⟩ = some sv := Heap.cell (Heap.alloc_old HP6.out.core _) 1
    have hrow := HP6.out.row
    have HR := Lib.hid hrow; clear hrow
    go_region_law ((refine step_push_sub (W := w6.drew) (by rfl) _ _ (by rfl) elemSeg sv xs.length (xs.flatMap segCells) (by rfl) HR.out #[.int .u64 first, .int .i64 0, .int .i64 0] (by rfl) rfl (by intro u hu; simp at hu; rcases hu with rfl | rfl <;> rfl) (by omega) ?_; intro g oo cap w7 hrow7 hp7; have c7 : w7.cell? ⟨lg, 1, none⟩ = some sv := Heap.cell (hp7.keep _ _ HP6.out.core HP6.out.ne) 1; have f7 : w7.frozen? ⟨lg, 1, none⟩ = false := Heap.frozen (hp7.keep _ _ HP6.out.core HP6.out.ne) 1))
    all_goals
      have hlg7 := hp7.keep _ _ HP6.out.core HP6.out.ne
      have hlg8 : (w7.setCell ⟨lg, 1, none⟩ (.slice (some ⟨g, oo, none⟩) (xs.length + 1) cap)).heap[lg]? = some (.cells (logCells d (.slice (some ⟨g, oo, none⟩) (xs.length + 1) cap) ⟨first, 0, 0⟩) 84 (0, 0)) := (Heap.set hlg7 1 _).trans rfl
      have p8 : (w7.setCell ⟨lg, 1, none⟩ (.slice (some ⟨g, oo, none⟩) (xs.length + 1) cap)).cell? ⟨lg, 0, none⟩ = some (.pointer (some ⟨d, 0, none⟩)) := Heap.cell hlg8 0
      have hgl : g ≠ lg := by
        rcases hp7.from_ with h | h
        · intro e; exact HP6.out.ne (by rw [h, e])
        · have h1 : w6.heap.size < g := h; have := Heap.lt HP6.out.core; omega
      have hpa8 : PreO (w7.setCell ⟨lg, 1, none⟩ (.slice (some ⟨g, oo, none⟩) (xs.length + 1) cap)) lg d (xs ++ [⟨first, 0, 0⟩]) ⟨first, 0, 0⟩ (.slice (some ⟨g, oo, none⟩) (xs.length + 1) cap) := by
        refine ⟨hlg8, ?_, fun e => hgl (by cases e; rfl)⟩
        have h := hrow7.off ((Off.refl (Only lg) w7).set 1 (.slice (some ⟨g, oo, none⟩) (xs.length + 1) cap)) (fun k hk e => by cases hk; exact hgl e)
        simpa [segCells] using h
      have ho68 : Off (fun b => b = lg ∨ sv.ownBlock = some b) w6 (w7.setCell ⟨lg, 1, none⟩ (.slice (some ⟨g, oo, none⟩) (xs.length + 1) cap)) :=
        ((((Off.refl _ w6).drew).trans hp7.off (fun _ _ h => h)).mono (fun _ _ h => .inr h)).setCell (p := ⟨lg, 1, none⟩) (.inl (.inl rfl)) _
      have hd8 : DiskIn (w7.setCell ⟨lg, 1, none⟩ (.slice (some ⟨g, oo, none⟩) (xs.length + 1) cap)) d D1 (Grow Fd w w5) :=
        (HD5.out.off HO6.out (fun b hb1 hb e => by
          have e : b = lg := e
          subst e
          rcases hb with hb | hb
          · exact hsl hb
          · have := Heap.lt HP.out.core; omega)).off ho68 (fun b hb1 hb e => by
          have hlgw := Heap.lt HP.out.core
          rcases e with e | e
          · subst e
            rcases hb with hb | hb
            · exact hsl hb
            · omega
          · have h2 := HP.out.row.lt e
            rcases hb with hb | hb
            · exact hsg b e hb
            · omega)
      have HPA := Lib.hid hpa8; have HO8 := Lib.hid ho68; have HD8 := Lib.hid hd8
      clear hlg7 hlg8 hpa8 ho68 hd8
      go_wp2_with fail
      refine (DiskW.syncDir_any _ d D1 _ HD8.out).mono ?_
      rintro e w9 ⟨rfl, hd9, ho9⟩
      have HD9 := Lib.hid hd9; have HO9 := Lib.hid ho9
      clear hd9 ho9
      go_wp2
      go_ret
      rw [HSP.out]
      have hlgw := Heap.lt HP.out.core
      have hs5 := HO5.out.size
      have hs6 := HO6.out.size
      have hs8 := HO8.out.size
      have hs9 := HO9.out.size
      have hgw : sv.ownBlock = some g ∨ w5.heap.size < g := hp7.from_.imp id (fun h => by have h : w6.heap.size < g := h; omega)
      have hgl8 : g < (w7.setCell ⟨lg, 1, none⟩ (.slice (some ⟨g, oo, none⟩) (xs.length + 1) cap)).heap.size := by rw [Heap.set_size]; exact hp7.lt
      have hFl : ¬ Grow Fd w w5 lg := fun h => h.elim hsl (fun h => by omega)
      have hFg : ¬ Grow Fd w w5 g := fun h => by
        rcases hgw with h1 | h1
        · have := HP.out.row.lt h1
          exact h.elim (hsg g h1) (fun h => by omega)
        · rcases h with h | h
          · have := hFb g h; omega
          · omega
      have hup : ∀ b, Grow (Grow Fd w w5) (w7.setCell ⟨lg, 1, none⟩ (.slice (some ⟨g, oo, none⟩) (xs.length + 1) cap)) w9 b → Grow Fd w w9 b := fun b hb => by
        rcases hb with (hb | hb) | hb
        · exact .inl hb
        · exact .inr ⟨hb.1, by omega⟩
        · exact .inr ⟨by omega, hb.2⟩
      have hpre9 := HPA.out.off HO9.out hFl (fun k hk => by cases hk; exact hFg)
      refine ⟨rfl, HD9.out.mono (fun b _ hb => hup b hb), ?_, fun _ => ⟨g, _, cap, _, hpre9.log.choose_spec, hp7.from_.imp id (fun h => ?_), HD9.out, fun h => h.elim hFl (fun h => by omega), fun h => h.elim hFg (fun h => by omega), hup⟩, fun h => by cases h⟩
      · refine ((HO5.out.mono (fun _ _ h => .inl h)).trans ((HO6.out.mono (fun _ _ h => .inr (.inl h)) : Off (fun b => Fd b ∨ b = lg ∨ sv.ownBlock = some b) w5 w6).trans (HO8.out.mono (fun _ _ h => .inr h)) (fun _ _ h => h)) (fun _ _ h => h)).trans HO9.out (fun b hb h => ?_)
        rcases h with h | h
        · exact .inl h
        · omega
      · have h : w6.heap.size < g := h
        exact ⟨by omega, by omega⟩
  · have hsp : D.started first = (D1, er, false) := by unfold DiskV.started; rw [HCR.out]; dsimp only; rw [if_neg he]
    have HSP := Lib.hid hsp; clear hsp
    have t1 : (er != 0) = true := by rw [bne_iff_ne]; exact he
    go_wp2
    go_ret
    rw [HSP.out]
    exact ⟨rfl, HD5.out, HO5.out.mono (fun _ _ h => .inl h), (fun h => by cases h), fun _ => HP5.out⟩
set_option maxHeartbeats 2000000 in
set_option maxRecDepth 100000 in
theorem roll_o (w : World) (lg d n N : Nat) (L : LogV) (D : DiskV) (F : Nat → Prop) (off : Nat) (h : Store w lg d L D F off) (hG : Glob n w) (hF : ∀ b, F b → n ≤ b) (hok : L.Ok) (hl : Lim N D) (hx : L.segs.length ≤ 1000000) :
    Calls Tryz.prog 16 #[.pointer (some ⟨lg, 0, none⟩)] w fun e w' =>
      e = .returned (.int .i64 (L.roll D).2.2) ∧ (∃ off', Store w' lg d (L.roll D).1 (L.roll D).2.1 (Grow F w w') off') ∧ Off F w w' := by
  obtain ⟨g, cap, Fd, hst⟩ := h
  have HST := Lib.hid hst; clear hst
  have HGL := Lib.hid hG; clear hG
  have HFN := Lib.hid hF; clear hF
  have HOK := Lib.hid hok; clear hok
  have HL := Lib.hid hl; clear hl
  go_enter Tryz.func16, Tryz.ntmps16
  go_wp2_with fail
  refine (active_any _ lg d L g off cap HST.out.log).mono ?_
  rintro e w1 ⟨rfl, ho1⟩
  have hst1 := HST.out.quiet ho1
  obtain ⟨q0, q1, q2, qf⟩ := hst1.log.act
  have p0 : w1.cell? ⟨lg, 0, none⟩ = some (.pointer (some ⟨d, 0, none⟩)) := hst1.log.own.1
  have HST1 := Lib.hid hst1; have HO1 := Lib.hid ho1
  clear hst1 ho1
  by_cases hm : L.act.many = 0
  · have hsp : L.roll D = (L, D, 0) := by unfold LogV.roll; rw [if_pos hm]
    have HSP := Lib.hid hsp; clear hsp
    rw [hm] at q1
    go_wp2
    go_ret
    rw [HSP.out]
    exact ⟨rfl, ⟨off, g, cap, Fd, HST1.out.log, HST1.out.disk, HST1.out.sepL, HST1.out.sepG, .inl HST1.out.inL, .inl HST1.out.inG, fun b hb => .inl (HST1.out.inD b hb)⟩, HO1.out.mono (fun _ _ h => h.elim)⟩
  · have t0 : ((L.act.many : Int) == 0) = false := by rw [beq_eq_false_iff_ne]; omega
    go_wp2_with fail
    have hfst : L.act.first < 18446744073709551616 := by have := HOK.out.act.sum; omega
    have hac := fun W (hW : Off None w1 W) => active_any W lg d L g off cap (HST1.out.quiet hW).log
    have HAC := Lib.hid hac; clear hac
    have hname := fun W (hW : Off None w1 W) => name_any W L.act.first hfst ((HGL.out.none HO1.out).none hW).pow
    have HNM := Lib.hid hname; clear hname
    have hdk := fun W (hW : Off None w1 W) => DiskW.sync_any W d D Fd (HST1.out.disk.off hW (fun _ _ _ h => h)) (nameB L.act.first) (by rw [nameB_size hfst]; decide)
    have HDK := Lib.hid hdk; clear hdk
    have hsl := HST1.out.sepL
    have hsg := HST1.out.sepG
    clear q1 q2 qf t0
    go_region_held3 (fun W => W.cell? ⟨lg, 0, none⟩ = some (.pointer (some ⟨d, 0, none⟩)) ∧ W.cell? ⟨g, off * 3 + L.full.length * 3, none⟩ = some (.int .u64 L.act.first))
      (first | exact ⟨p0, q0⟩ | exact ⟨l1, l2⟩ | exact ⟨k1, k2⟩ | exact ⟨j1, j2⟩)
      (first
        | (go_at_call 49; refine (HAC.out _ ((Off.refl None w1).drew)).mono ?_; rintro e w3 ⟨rfl, ho3⟩; have j1 : w3.cell? ⟨lg, 0, none⟩ = some (.pointer (some ⟨d, 0, none⟩)) := ho3.keep p0 (fun h => h); have j2 : w3.cell? ⟨g, off * 3 + L.full.length * 3, none⟩ = some (.int .u64 L.act.first) := ho3.keep q0 (fun h => h); have ho13 : Off None w1 w3 := ((Off.refl None w1).drew).trans ho3 (fun _ _ h => h); clear ho3)
        | (go_at_call 25; refine (HNM.out w3 ho13).mono ?_; rintro e w4 ⟨rfl, ho4⟩; have k1 : w4.cell? ⟨lg, 0, none⟩ = some (.pointer (some ⟨d, 0, none⟩)) := ho4.keep j1 (fun h => h); have k2 : w4.cell? ⟨g, off * 3 + L.full.length * 3, none⟩ = some (.int .u64 L.act.first) := ho4.keep j2 (fun h => h); have ho14 : Off None w1 w4 := ho13.trans ho4 (fun _ _ h => h); clear ho4 ho13)
        | (go_at_call 48; refine (HDK.out w4 ho14).mono ?_; rintro e w5 ⟨rfl, hd5, ho5⟩; have l1 : w5.cell? ⟨lg, 0, none⟩ = some (.pointer (some ⟨d, 0, none⟩)) := ho5.keep k1 hsl; have l2 : w5.cell? ⟨g, off * 3 + L.full.length * 3, none⟩ = some (.int .u64 L.act.first) := ho5.keep k2 hsg))
    have hst5 := (HST1.out.quiet ho14).disk' hd5 ho5
    have hoF : Off F w w5 := (HO1.out.mono (fun _ _ h => h.elim)).trans ((ho14.mono (fun _ _ h => h.elim) : Off F w1 w4).trans ((HST1.out.quiet ho14).offF ho5) (fun _ _ h => h)) (fun _ _ h => h)
    have hsz4 : w.heap.size ≤ w4.heap.size := Nat.le_trans HO1.out.size ho14.size
    have HST5 := Lib.hid hst5
    have HOF := Lib.hid hoF
    have HS5 := Lib.hid ho5.size
    clear hst5 hoF ho14 hd5 l1 l2 k1 k2 j1 j2 p0 q0 ho5
    obtain ⟨D', er, hda⟩ : ∃ D' er, D.sync (nameB L.act.first) = (D', er) := ⟨_, _, rfl⟩
    have hlim := lim_sync HL.out (nameB L.act.first)
    rw [hda] at HST5 hlim ⊢
    dsimp only at HST5 hlim ⊢
    have HLM := Lib.hid hlim; clear hlim
    have HDA := Lib.hid hda; clear hda
    by_cases he : er = 0
    · subst he
      go_wp2_with fail
      refine (active_any _ lg d L g off cap HST5.out.log).mono ?_
      rintro e w6 ⟨rfl, ho6⟩
      have hst6 := HST5.out.quiet ho6
      obtain ⟨q0, q1, q2, qf⟩ := hst6.log.act
      obtain ⟨p0, p1, p2, p3, p4, pf⟩ := hst6.log.own
      have pf2 := pf 2
      have pf3 := pf 3
      have pf4 := pf 4
      have hst7 := hst6.setDur L.act
      obtain ⟨w7, hw7⟩ : ∃ w7, w7 = ((w6.setCell ⟨lg, 2, none⟩ (.int .u64 L.act.first)).setCell ⟨lg, 3, none⟩ (.int .i64 L.act.many)).setCell ⟨lg, 4, none⟩ (.int .i64 L.act.size) := ⟨_, rfl⟩
      have ho67 : Off (Only lg) w6 w7 := by rw [hw7]; exact (((Off.refl (Only lg) w6).set 2 _).set 3 _).set 4 _
      rw [← hw7] at hst7
      have hok7 : ({ L with durable := L.act } : LogV).Ok := ⟨HOK.out.segs, HOK.out.act⟩
      have HST6 := Lib.hid hst6; have HO6 := Lib.hid ho6; have HST7 := Lib.hid hst7; have HO7 := Lib.hid ho67; have HW7 := Lib.hid hw7; have HOK7 := Lib.hid hok7
      clear hst6 ho6 hst7 ho67 hw7 hok7 pf p0 p1
      go_wp2_with fail
      rw [← HW7.out]
      refine (next_any _ lg d { L with durable := L.act } g off cap HST7.out.log HOK7.out).mono ?_
      rintro e w8 ⟨rfl, ho8⟩
      have HO8 := Lib.hid ho8
      have HST8 := Lib.hid (HST7.out.quiet ho8)
      clear ho8 q0 q1 q2 qf p2 p3 p4 pf2 pf3 pf4
      go_wp2_with fail
      have hst8 := HST8.out
      have hd8 : DiskIn w8 d D' (fun b => Grow Fd w4 w5 b ∧ b < w8.heap.size) := hst8.disk.mono (fun b hb h => ⟨h, hb⟩)
      have hlt8 := hst8.log.lts
      have hglob8 : Glob n w8 := HGL.out.off (((HOF.out.trans (HO6.out.mono (fun _ _ h => h.elim) : Off F w5 w6) (fun _ _ h => h)).trans (HO7.out.mono (fun b _ e => by rw [show b = lg from e]; exact HST1.out.inL) : Off F w6 w7) (fun _ _ h => h)).trans (HO8.out.mono (fun _ _ h => h.elim) : Off F w7 w8) (fun _ _ h => h)) HFN.out
      have hbeg := begin_o w8 lg d n N L.segs L.act _ D' _ hst8.log.preO hd8 (fun h => hst8.sepL h.1) (fun k hk h => by cases hk; exact hst8.sepG h.1) hglob8 (fun b h => h.2) HLM.out hx L.act.end_ HOK.out.act.sum
      refine hbeg.mono ?_
      rintro e w9 ⟨rfl, hd9, ho9, hyes, hno⟩
      have HD9 := Lib.hid hd9; have HO9 := Lib.hid ho9; have HY := Lib.hid hyes; have HNO := Lib.hid hno; have HL8 := Lib.hid hlt8; have HS8 := Lib.hid hst8
      clear hd9 ho9 hyes hno hbeg hd8 hglob8 hlt8 hst8
      obtain ⟨D2, e2, st, hst⟩ : ∃ D2 e2 st, D'.started L.act.end_ = (D2, e2, st) := ⟨_, _, _, rfl⟩
      rw [hst] at HD9 HY HNO ⊢
      dsimp only at HD9 HY HNO ⊢
      have HSTA := Lib.hid hst; clear hst
      go_wp2
      go_ret
      have hoF9 : Off F w w9 := by
        refine (((HOF.out.trans (HO6.out.mono (fun _ _ h => h.elim) : Off F w5 w6) (fun _ _ h => h)).trans (HO7.out.mono (fun b _ e => by rw [show b = lg from e]; exact HST1.out.inL) : Off F w6 w7) (fun _ _ h => h)).trans (HO8.out.mono (fun _ _ h => h.elim) : Off F w7 w8) (fun _ _ h => h)).trans HO9.out (fun b hb h => ?_)
        rcases h with h | h | h
        · rcases h.1 with h | h
          · exact HST1.out.inD b h
          · omega
        · rw [h]; exact HST1.out.inL
        · cases h; exact HST1.out.inG
      have hs49 : w4.heap.size ≤ w5.heap.size ∧ w5.heap.size ≤ w8.heap.size ∧ w8.heap.size ≤ w9.heap.size := ⟨HS5.out, Nat.le_trans HO6.out.size (Nat.le_trans HO7.out.size HO8.out.size), HO9.out.size⟩
      have hupF : ∀ b, Grow (fun b => Grow Fd w4 w5 b ∧ b < w8.heap.size) w8 w9 b → Grow F w w9 b := fun b hb => by
        rcases hb with ⟨hb, hb2⟩ | hb
        · rcases hb with hb | hb
          · exact .inl (HST1.out.inD b hb)
          · exact .inr ⟨by omega, by omega⟩
        · exact .inr ⟨by omega, hb.2⟩
      cases st with
      | true =>
        have hsp : L.roll D = (⟨L.segs, ⟨L.act.end_, 0, 0⟩, ⟨L.act.end_, 0, 0⟩⟩, D2, e2) := by
          unfold LogV.roll; rw [if_neg hm, HDA.out]; dsimp only; rw [if_pos rfl, HSTA.out]; dsimp only; rw [if_pos rfl]
        rw [hsp]
        obtain ⟨g', off', cap', Fd', hl9, hg9, hd9, hsl9, hsg9, hup9⟩ := HY.out rfl
        refine ⟨rfl, ⟨off', g', cap', Fd', hl9, hd9, hsl9, hsg9, .inl HST1.out.inL, ?_, fun b hb => hupF b (hup9 b hb)⟩, hoF9⟩
        rcases hg9 with h | h
        · cases h; exact .inl HST1.out.inG
        · exact .inr ⟨by omega, h.2⟩
      | false =>
        have hsp : L.roll D = ({ L with durable := L.act }, D2, e2) := by
          unfold LogV.roll; rw [if_neg hm, HDA.out]; dsimp only; rw [if_pos rfl, HSTA.out]; dsimp only; rw [if_neg (by decide)]
        rw [hsp]
        have hp9 := HNO.out rfl
        rw [LogV.len] at hp9
        obtain ⟨off9, hl9⟩ : ∃ off9, LogAt w9 lg d { L with durable := L.act } g off9 cap := hp9.log
        refine ⟨rfl, ⟨off9, g, cap, _, hl9, HD9.out, ?_, ?_, .inl HST1.out.inL, .inl HST1.out.inG, hupF⟩, hoF9⟩
        · intro h
          rcases h with h | h
          · exact HS8.out.sepL h.1
          · have := HL8.out.1; omega
        · intro h
          rcases h with h | h
          · exact HS8.out.sepG h.1
          · have := HL8.out.2; omega
    · have hsp : L.roll D = (L, D', er) := by
        unfold LogV.roll; rw [if_neg hm, HDA.out]; dsimp only; rw [if_neg he]
      have HSP := Lib.hid hsp; clear hsp
      have t1 : (er != 0) = true := by rw [bne_iff_ne]; exact he
      go_wp2
      go_ret
      rw [HSP.out]
      refine ⟨rfl, ⟨off, g, cap, _, HST5.out.log, HST5.out.disk, HST5.out.sepL, HST5.out.sepG, .inl HST1.out.inL, .inl HST1.out.inG, fun b hb => ?_⟩, HOF.out⟩
      rcases hb with hb | hb
      · exact .inl (HST1.out.inD b hb)
      · exact .inr ⟨by omega, hb.2⟩
end Seg
end Go.Proofs.YtnppdcegpojmbaaGreatDoor
