/- The walks of Sync and Undo of a log. -/
import Derived.Test.YtnppdcegpojmbaaGreatDoorSeg2
namespace Go.Proofs.YtnppdcegpojmbaaGreatDoor
open Go Go.RowKit
namespace LogV
def same (L : LogV) : Prop := L.durable.first = L.act.first ∧ L.durable.many = L.act.many ∧ L.durable.size = L.act.size
instance (L : LogV) : Decidable L.same := by unfold same; infer_instance
/-- What Sync does. -/
def sync (L : LogV) (D : DiskV) : LogV × DiskV × Int :=
  if L.same then (L, D, 0)
  else match D.sync (Seg.nameB L.durable.first) with
    | (D', e) => if e = 0 then ({ L with durable := L.act }, D', 0) else (L, D', e)
/-- What Undo does. -/
def undo (L : LogV) (D : DiskV) : LogV × DiskV × Int :=
  if L.same then (L, D, 0)
  else match D.cut (Seg.nameB L.durable.first) L.durable.size with
    | (D', e) => if e = 0 then ({ L with act := L.durable }, D', 0) else (L, D', e)
end LogV
/-- The cells of a log's own block. -/
theorem LogAt.own {w : World} {lg d : Nat} {L : LogV} {g off cap : Nat} (h : LogAt w lg d L g off cap) :
    w.cell? ⟨lg, 0, none⟩ = some (.pointer (some ⟨d, 0, none⟩)) ∧ w.cell? ⟨lg, 1, none⟩ = some (.slice (some ⟨g, off * 3, none⟩) L.segs.length cap) ∧ w.cell? ⟨lg, 2, none⟩ = some (.int .u64 L.durable.first) ∧ w.cell? ⟨lg, 3, none⟩ = some (.int .i64 L.durable.many) ∧ w.cell? ⟨lg, 4, none⟩ = some (.int .i64 L.durable.size) ∧ ∀ i, w.frozen? ⟨lg, i, none⟩ = false :=
  ⟨Heap.cell h.core 0, Heap.cell h.core 1, Heap.cell h.core 2, Heap.cell h.core 3, Heap.cell h.core 4, fun i => Heap.frozen h.core i⟩
/-- What is durable has turned. -/
theorem LogAt.setDur {w : World} {lg d : Nat} {L : LogV} {g off cap : Nat} (h : LogAt w lg d L g off cap) (a : SegV) :
    LogAt (((w.setCell ⟨lg, 2, none⟩ (.int .u64 a.first)).setCell ⟨lg, 3, none⟩ (.int .i64 a.many)).setCell ⟨lg, 4, none⟩ (.int .i64 a.size)) lg d { L with durable := a } g off cap :=
  ⟨(Heap.set (Heap.set (Heap.set h.core 2 _) 3 _) 4 _).trans rfl, h.row.imp fun _ hr => hr.off ((((Off.refl (Only lg) w).set 2 (.int .u64 a.first)).set 3 (.int .i64 a.many)).set 4 (.int .i64 a.size)) h.ne, h.ne⟩
theorem StoreAt.setDur {w : World} {lg d : Nat} {L : LogV} {D : DiskV} {F : Nat → Prop} {g off cap : Nat} {Fd : Nat → Prop} (h : StoreAt w lg d L D F g off cap Fd) (a : SegV) :
    StoreAt (((w.setCell ⟨lg, 2, none⟩ (.int .u64 a.first)).setCell ⟨lg, 3, none⟩ (.int .i64 a.many)).setCell ⟨lg, 4, none⟩ (.int .i64 a.size)) lg d { L with durable := a } D F g off cap Fd :=
  ⟨h.log.setDur a, h.disk.off ((((Off.refl (Only lg) w).set 2 (.int .u64 a.first)).set 3 (.int .i64 a.many)).set 4 (.int .i64 a.size)) (fun b _ hb e => h.sepL (by rw [← show b = lg from e]; exact hb)), h.sepL, h.sepG, h.inL, h.inG, h.inD⟩
theorem keep_set3 {W : World} {g i j k : Nat} {a : Addr} {v x y z : Value} (h : W.cell? a = some v) (hne : a.block ≠ g) : (((W.setCell ⟨g, i, Option.none⟩ x).setCell ⟨g, j, Option.none⟩ y).setCell ⟨g, k, Option.none⟩ z).cell? a = some v :=
  ((((Off.refl (Only g) W).set i x).set j y).set k z).keep h hne
/-- The active segment has turned. -/
theorem StoreAt.setAct {w : World} {lg d : Nat} {L : LogV} {D : DiskV} {F : Nat → Prop} {g off cap : Nat} {Fd : Nat → Prop} (h : StoreAt w lg d L D F g off cap Fd) (a : SegV) :
    StoreAt (((w.setCell ⟨g, off * 3 + L.full.length * 3, Option.none⟩ (.int .u64 a.first)).setCell ⟨g, off * 3 + L.full.length * 3 + 1, Option.none⟩ (.int .i64 a.many)).setCell ⟨g, off * 3 + L.full.length * 3 + 2, Option.none⟩ (.int .i64 a.size)) lg d { L with act := a } D F g off cap Fd := by
  have ho := (((Off.refl (Only g) w).set (off * 3 + L.full.length * 3) (.int .u64 a.first)).set (off * 3 + L.full.length * 3 + 1) (.int .i64 a.many)).set (off * 3 + L.full.length * 3 + 2) (.int .i64 a.size)
  refine ⟨h.log.setAct a ?_ (fun cur hc => Heap.set (Heap.set (Heap.set hc _ _) _ _) _ _), h.disk.off ho (fun b _ hb e => h.sepG (by rw [← show b = g from e]; exact hb)), h.sepL, h.sepG, h.inL, h.inG, h.inD⟩
  exact ho.block lg h.log.lts.1 (fun e => h.log.ne (show g = lg from e.symm))
/-- What Sync and Undo read of a log. -/
theorem LogAt.facts {w : World} {lg d : Nat} {L : LogV} {g off cap : Nat} (h : LogAt w lg d L g off cap) :
    w.cell? ⟨lg, 2, none⟩ = some (.int .u64 L.durable.first) ∧ w.cell? ⟨lg, 3, none⟩ = some (.int .i64 L.durable.many) ∧ w.cell? ⟨lg, 4, none⟩ = some (.int .i64 L.durable.size) ∧
    w.cell? ⟨g, off * 3 + L.full.length * 3, none⟩ = some (.int .u64 L.act.first) ∧ w.cell? ⟨g, off * 3 + L.full.length * 3 + 1, none⟩ = some (.int .i64 L.act.many) ∧ w.cell? ⟨g, off * 3 + L.full.length * 3 + 2, none⟩ = some (.int .i64 L.act.size) :=
  ⟨h.own.2.2.1, h.own.2.2.2.1, h.own.2.2.2.2.1, h.act.1, h.act.2.1, h.act.2.2.1⟩
namespace Seg
theorem eql_seg (a b c a' b' c' : Nat) (W : World) : (binOp .eql 42 (.agg #[.int .u64 a, .int .i64 b, .int .i64 c]) (.agg #[.int .u64 a', .int .i64 b', .int .i64 c'])).run Tryz.prog W = .ok (.bool (decide (a = a' ∧ b = b' ∧ c = c'))) W := by
  go_simp
  by_cases h1 : a = a' <;> by_cases h2 : b = b' <;> by_cases h3 : c = c' <;> simp [h1, h2, h3] <;> omega
set_option maxHeartbeats 1000000 in
set_option maxRecDepth 100000 in
theorem sync_any (w : World) (lg d n N : Nat) (L : LogV) (D : DiskV) (F : Nat → Prop) (off : Nat) (h : Store w lg d L D F off) (hG : Glob n w) (hF : ∀ b, F b → n ≤ b) (hok : L.Ok) (hl : Lim N D) :
    Calls Tryz.prog 34 #[.pointer (some ⟨lg, 0, none⟩)] w fun e w' =>
      e = .returned (.int .i64 (L.sync D).2.2) ∧ Store w' lg d (L.sync D).1 (L.sync D).2.1 (Grow F w w') off ∧ Off F w w' := by
  obtain ⟨g, cap, Fd, hst⟩ := h
  obtain ⟨p0, p1, p2, p3, p4, pf⟩ := hst.log.own
  obtain ⟨q0, q1, q2, qf⟩ := hst.log.act
  have HST := Lib.hid hst; clear hst
  have HGL := Lib.hid hG; clear hG
  have HFN := Lib.hid hF; clear hF
  have HOK := Lib.hid hok; clear hok
  have HL := Lib.hid hl; clear hl
  have hact := fun W (hW : Off None w W) => active_any W lg d L g off cap (HST.out.quiet hW).log
  have HAC := Lib.hid hact; clear hact
  obtain ⟨sm, hsmd⟩ : ∃ sm, sm = decide (L.durable.first = L.act.first ∧ L.durable.many = L.act.many ∧ L.durable.size = L.act.size) := ⟨_, rfl⟩
  have heq := fun W => eql_seg L.durable.first L.durable.many L.durable.size L.act.first L.act.many L.act.size W
  rw [← hsmd] at heq
  have HSD := Lib.hid hsmd; clear hsmd
  go_enter Tryz.func34, Tryz.ntmps34
  go_wp2_with fail
  go_region_held3 (fun W => W.cell? ⟨lg, 2, none⟩ = some (.int .u64 L.durable.first) ∧ W.cell? ⟨lg, 3, none⟩ = some (.int .i64 L.durable.many) ∧ W.cell? ⟨lg, 4, none⟩ = some (.int .i64 L.durable.size) ∧
    W.cell? ⟨g, off * 3 + L.full.length * 3, none⟩ = some (.int .u64 L.act.first) ∧ W.cell? ⟨g, off * 3 + L.full.length * 3 + 1, none⟩ = some (.int .i64 L.act.many) ∧ W.cell? ⟨g, off * 3 + L.full.length * 3 + 2, none⟩ = some (.int .i64 L.act.size))
    (first | exact LogAt.facts (HST.out.quiet ((Off.refl None w).drew)).log | exact LogAt.facts (HST.out.quiet (((Off.refl None w).drew).trans ho1 (fun _ _ h => h))).log)
    (first | (go_at_call 49; refine (HAC.out _ ((Off.refl None w).drew)).mono ?_; rintro e w1 ⟨rfl, ho1⟩))
  have ho01 : Off None w w1 := ((Off.refl None w).drew).trans ho1 (fun _ _ h => h)
  have HO := Lib.hid ho01; clear ho1 ho01
  have HST1 := Lib.hid (HST.out.quiet HO.out)
  clear heq p0 p1 p2 p3 p4 pf q0 q1 q2 qf HAC
  by_cases hsm : L.same
  · have hsp : L.sync D = (L, D, 0) := by unfold LogV.sync; rw [if_pos hsm]
    have HSP := Lib.hid hsp; clear hsp
    have t1 : sm = true := by rw [HSD.out]; exact decide_eq_true hsm
    clear hsm
    subst t1
    go_wp2
    go_ret
    rw [HSP.out]
    exact ⟨rfl, ⟨g, cap, Fd, HST1.out.log, HST1.out.disk, HST1.out.sepL, HST1.out.sepG, .inl HST1.out.inL, .inl HST1.out.inG, fun b hb => .inl (HST1.out.inD b hb)⟩, HO.out.mono (fun _ _ h => h.elim)⟩
  · have t1 : sm = false := by rw [HSD.out]; exact decide_eq_false hsm
    have HSM := Lib.hid hsm; clear hsm
    subst t1
    go_wp2_with fail
    obtain ⟨p0, _, p2, p3, p4, pf⟩ := HST1.out.log.own
    have hname := fun W (hW : Off None w1 W) => name_any W L.durable.first (by have := HOK.out.durable.sum; omega) ((HGL.out.none HO.out).none hW).pow
    have HNM := Lib.hid hname; clear hname
    have hdk := fun W (hW : Off None w1 W) => DiskW.sync_any W d D Fd (HST1.out.disk.off hW (fun _ _ _ h => h)) (nameB L.durable.first) (by rw [nameB_size (by have := HOK.out.durable.sum; omega)]; decide)
    have HDK := Lib.hid hdk; clear hdk
    have hsl := HST1.out.sepL
    go_region_held3 (fun W => W.cell? ⟨lg, 0, none⟩ = some (.pointer (some ⟨d, 0, none⟩)) ∧ W.cell? ⟨lg, 2, none⟩ = some (.int .u64 L.durable.first))
      (first | exact ⟨p0, p2⟩ | exact ⟨l1, l2⟩ | exact ⟨k1, k2⟩)
      (first
        | (go_at_call 25; refine (HNM.out _ ((Off.refl None w1).drew)).mono ?_; rintro e w4 ⟨rfl, ho4⟩; have k1 : w4.cell? ⟨lg, 0, none⟩ = some (.pointer (some ⟨d, 0, none⟩)) := ho4.keep p0 (fun h => h); have k2 : w4.cell? ⟨lg, 2, none⟩ = some (.int .u64 L.durable.first) := ho4.keep p2 (fun h => h))
        | (go_at_call 48; refine (HDK.out w4 (((Off.refl None w1).drew).trans ho4 (fun _ _ h => h))).mono ?_; rintro e w5 ⟨rfl, hd5, ho5⟩; have l1 : w5.cell? ⟨lg, 0, none⟩ = some (.pointer (some ⟨d, 0, none⟩)) := ho5.keep k1 hsl; have l2 : w5.cell? ⟨lg, 2, none⟩ = some (.int .u64 L.durable.first) := ho5.keep k2 hsl))
    have ho14 : Off None w1 w4 := ((Off.refl None w1).drew).trans ho4 (fun _ _ h => h)
    have hst5 := (HST1.out.quiet ho14).disk' hd5 ho5
    have hoF : Off F w w5 := (HO.out.mono (fun _ _ h => h.elim)).trans ((ho14.mono (fun _ _ h => h.elim) : Off F w1 w4).trans ((HST1.out.quiet ho14).offF ho5) (fun _ _ h => h)) (fun _ _ h => h)
    have hsz4 : w.heap.size ≤ w4.heap.size := Nat.le_trans HO.out.size ho14.size
    have HST5 := Lib.hid hst5
    have HOF := Lib.hid hoF
    clear hst5 hoF ho14 hd5 l1 l2 k1 k2 ho4 p0 p2 p3 p4 pf ho5
    obtain ⟨D', er, hda⟩ : ∃ D' er, D.sync (nameB L.durable.first) = (D', er) := ⟨_, _, rfl⟩
    rw [hda] at HST5 ⊢
    have HDA := Lib.hid hda; clear hda
    dsimp only at HST5 ⊢
    by_cases he : er = 0
    · subst he
      have hsp : L.sync D = ({ L with durable := L.act }, D', 0) := by
        unfold LogV.sync; rw [if_neg HSM.out, HDA.out]; dsimp only; rw [if_pos rfl]
      have HSP := Lib.hid hsp; clear hsp
      go_wp2_with fail
      refine (active_any _ lg d L g off cap HST5.out.log).mono ?_
      rintro e w6 ⟨rfl, ho6⟩
      have hst6 := HST5.out.quiet ho6
      obtain ⟨q0, q1, q2, qf⟩ := hst6.log.act
      obtain ⟨p0, p1, p2, p3, p4, pf⟩ := hst6.log.own
      have pf2 := pf 2
      have pf3 := pf 3
      have pf4 := pf 4
      have HST6 := Lib.hid hst6; have HO6 := Lib.hid ho6
      clear hst6 ho6 pf p0 p1
      go_wp2
      go_ret
      rw [HSP.out]
      have hst7 := HST6.out.setDur L.act
      have ho7 : Off F w6 _ := (((Off.refl F w6).setCell (p := ⟨lg, 2, none⟩) (.inl HST1.out.inL) (.int .u64 L.act.first)).setCell (p := ⟨lg, 3, none⟩) (.inl HST1.out.inL) (.int .i64 L.act.many)).setCell (p := ⟨lg, 4, none⟩) (.inl HST1.out.inL) (.int .i64 L.act.size)
      have hs6 := HO6.out.size
      refine ⟨rfl, ⟨g, cap, _, hst7.log, hst7.disk, hst7.sepL, hst7.sepG, .inl HST1.out.inL, .inl HST1.out.inG, fun b hb => ?_⟩, (HOF.out.trans (HO6.out.mono (fun _ _ h => h.elim)) (fun _ _ h => h)).trans ho7 (fun _ _ h => h)⟩
      rw [Grow, Heap.set_size, Heap.set_size, Heap.set_size]
      rcases hb with hb | hb
      · exact .inl (HST1.out.inD b hb)
      · exact .inr ⟨by omega, by omega⟩
    · have hsp : L.sync D = (L, D', er) := by
        unfold LogV.sync; rw [if_neg HSM.out, HDA.out]; dsimp only; rw [if_neg he]
      have HSP := Lib.hid hsp; clear hsp
      have t1 : (er != 0) = true := by rw [bne_iff_ne]; exact he
      go_wp2
      go_ret
      rw [HSP.out]
      refine ⟨rfl, ⟨g, cap, _, HST5.out.log, HST5.out.disk, HST5.out.sepL, HST5.out.sepG, .inl HST1.out.inL, .inl HST1.out.inG, fun b hb => ?_⟩, HOF.out⟩
      rcases hb with hb | hb
      · exact .inl (HST1.out.inD b hb)
      · exact .inr ⟨by omega, hb.2⟩
set_option maxHeartbeats 1000000 in
set_option maxRecDepth 100000 in
theorem undo_any (w : World) (lg d n N : Nat) (L : LogV) (D : DiskV) (F : Nat → Prop) (off : Nat) (h : Store w lg d L D F off) (hG : Glob n w) (hF : ∀ b, F b → n ≤ b) (hok : L.Ok) (hl : Lim N D) :
    Calls Tryz.prog 35 #[.pointer (some ⟨lg, 0, none⟩)] w fun e w' =>
      e = .returned (.int .i64 (L.undo D).2.2) ∧ Store w' lg d (L.undo D).1 (L.undo D).2.1 (Grow F w w') off ∧ Off F w w' := by
  obtain ⟨g, cap, Fd, hst⟩ := h
  obtain ⟨p0, p1, p2, p3, p4, pf⟩ := hst.log.own
  obtain ⟨q0, q1, q2, qf⟩ := hst.log.act
  have HST := Lib.hid hst; clear hst
  have HGL := Lib.hid hG; clear hG
  have HFN := Lib.hid hF; clear hF
  have HOK := Lib.hid hok; clear hok
  have HL := Lib.hid hl; clear hl
  have hact := fun W (hW : Off None w W) => active_any W lg d L g off cap (HST.out.quiet hW).log
  have HAC := Lib.hid hact; clear hact
  obtain ⟨sm, hsmd⟩ : ∃ sm, sm = decide (L.durable.first = L.act.first ∧ L.durable.many = L.act.many ∧ L.durable.size = L.act.size) := ⟨_, rfl⟩
  have heq := fun W => eql_seg L.durable.first L.durable.many L.durable.size L.act.first L.act.many L.act.size W
  rw [← hsmd] at heq
  have HSD := Lib.hid hsmd; clear hsmd
  go_enter Tryz.func35, Tryz.ntmps35
  go_wp2_with fail
  go_region_held3 (fun W => W.cell? ⟨lg, 2, none⟩ = some (.int .u64 L.durable.first) ∧ W.cell? ⟨lg, 3, none⟩ = some (.int .i64 L.durable.many) ∧ W.cell? ⟨lg, 4, none⟩ = some (.int .i64 L.durable.size) ∧
    W.cell? ⟨g, off * 3 + L.full.length * 3, none⟩ = some (.int .u64 L.act.first) ∧ W.cell? ⟨g, off * 3 + L.full.length * 3 + 1, none⟩ = some (.int .i64 L.act.many) ∧ W.cell? ⟨g, off * 3 + L.full.length * 3 + 2, none⟩ = some (.int .i64 L.act.size))
    (first | exact LogAt.facts (HST.out.quiet ((Off.refl None w).drew)).log | exact LogAt.facts (HST.out.quiet (((Off.refl None w).drew).trans ho1 (fun _ _ h => h))).log)
    (first | (go_at_call 49; refine (HAC.out _ ((Off.refl None w).drew)).mono ?_; rintro e w1 ⟨rfl, ho1⟩))
  have ho01 : Off None w w1 := ((Off.refl None w).drew).trans ho1 (fun _ _ h => h)
  have HO := Lib.hid ho01; clear ho1 ho01
  have HST1 := Lib.hid (HST.out.quiet HO.out)
  clear heq p0 p1 p2 p3 p4 pf q0 q1 q2 qf HAC
  by_cases hsm : L.same
  · have hsp : L.undo D = (L, D, 0) := by unfold LogV.undo; rw [if_pos hsm]
    have HSP := Lib.hid hsp; clear hsp
    have t1 : sm = true := by rw [HSD.out]; exact decide_eq_true hsm
    clear hsm
    subst t1
    go_wp2
    go_ret
    rw [HSP.out]
    exact ⟨rfl, ⟨g, cap, Fd, HST1.out.log, HST1.out.disk, HST1.out.sepL, HST1.out.sepG, .inl HST1.out.inL, .inl HST1.out.inG, fun b hb => .inl (HST1.out.inD b hb)⟩, HO.out.mono (fun _ _ h => h.elim)⟩
  · have t1 : sm = false := by rw [HSD.out]; exact decide_eq_false hsm
    have HSM := Lib.hid hsm; clear hsm
    subst t1
    go_wp2_with fail
    obtain ⟨p0, _, p2, p3, p4, pf⟩ := HST1.out.log.own
    have hname := fun W (hW : Off None w1 W) => name_any W L.durable.first (by have := HOK.out.durable.sum; omega) ((HGL.out.none HO.out).none hW).pow
    have HNM := Lib.hid hname; clear hname
    have hdk := fun W (hW : Off None w1 W) => DiskW.cut_any W d D Fd (HST1.out.disk.off hW (fun _ _ _ h => h)) (nameB L.durable.first) L.durable.size (by rw [nameB_size (by have := HOK.out.durable.sum; omega)]; decide) (by have := HOK.out.durable.size; unfold maxLen; omega) (fun f hf => by have := HL.out.each f hf; have := HL.out.le; unfold maxLen; omega)
    have HDK := Lib.hid hdk; clear hdk
    have hsl := HST1.out.sepL
    go_region_held3 (fun W => W.cell? ⟨lg, 0, none⟩ = some (.pointer (some ⟨d, 0, none⟩)) ∧ W.cell? ⟨lg, 2, none⟩ = some (.int .u64 L.durable.first) ∧ W.cell? ⟨lg, 4, none⟩ = some (.int .i64 L.durable.size))
      (first | exact ⟨p0, p2, p4⟩ | exact ⟨l1, l2, l3⟩ | exact ⟨k1, k2, k3⟩)
      (first
        | (go_at_call 25; refine (HNM.out _ ((Off.refl None w1).drew)).mono ?_; rintro e w4 ⟨rfl, ho4⟩; have k1 : w4.cell? ⟨lg, 0, none⟩ = some (.pointer (some ⟨d, 0, none⟩)) := ho4.keep p0 (fun h => h); have k2 : w4.cell? ⟨lg, 2, none⟩ = some (.int .u64 L.durable.first) := ho4.keep p2 (fun h => h); have k3 : w4.cell? ⟨lg, 4, none⟩ = some (.int .i64 L.durable.size) := ho4.keep p4 (fun h => h))
        | (go_at_call 47; refine (HDK.out w4 (((Off.refl None w1).drew).trans ho4 (fun _ _ h => h))).mono ?_; rintro e w5 ⟨rfl, hd5, ho5⟩; have l1 : w5.cell? ⟨lg, 0, none⟩ = some (.pointer (some ⟨d, 0, none⟩)) := ho5.keep k1 hsl; have l2 : w5.cell? ⟨lg, 2, none⟩ = some (.int .u64 L.durable.first) := ho5.keep k2 hsl; have l3 : w5.cell? ⟨lg, 4, none⟩ = some (.int .i64 L.durable.size) := ho5.keep k3 hsl))
    have ho14 : Off None w1 w4 := ((Off.refl None w1).drew).trans ho4 (fun _ _ h => h)
    have hst5 := (HST1.out.quiet ho14).disk' hd5 ho5
    have hoF : Off F w w5 := (HO.out.mono (fun _ _ h => h.elim)).trans ((ho14.mono (fun _ _ h => h.elim) : Off F w1 w4).trans ((HST1.out.quiet ho14).offF ho5) (fun _ _ h => h)) (fun _ _ h => h)
    have hsz4 : w.heap.size ≤ w4.heap.size := Nat.le_trans HO.out.size ho14.size
    have HST5 := Lib.hid hst5
    have HOF := Lib.hid hoF
    clear hst5 hoF ho14 hd5 l1 l2 l3 k1 k2 k3 ho4 p0 p2 p3 p4 pf ho5
    obtain ⟨D', er, hda⟩ : ∃ D' er, D.cut (nameB L.durable.first) L.durable.size = (D', er) := ⟨_, _, rfl⟩
    rw [hda] at HST5 ⊢
    have HDA := Lib.hid hda; clear hda
    dsimp only at HST5 ⊢
    by_cases he : er = 0
    · subst he
      have hsp : L.undo D = ({ L with act := L.durable }, D', 0) := by
        unfold LogV.undo; rw [if_neg HSM.out, HDA.out]; dsimp only; rw [if_pos rfl]
      have HSP := Lib.hid hsp; clear hsp
      go_wp2_with fail
      obtain ⟨_, _, p2, p3, p4, _⟩ := HST5.out.log.own
      have hgl : lg ≠ g := fun e => HST5.out.log.ne e.symm
      have hac := fun W (hW : Off None w5 W) => active_any W lg d L g off cap (HST5.out.quiet hW).log
      have HAC := Lib.hid hac; clear hac
      go_region_held3 (fun W => W.cell? ⟨lg, 2, none⟩ = some (.int .u64 L.durable.first) ∧ W.cell? ⟨lg, 3, none⟩ = some (.int .i64 L.durable.many) ∧ W.cell? ⟨lg, 4, none⟩ = some (.int .i64 L.durable.size))
        (first | exact ⟨p2, p3, p4⟩ | exact ⟨keep_set3 k2 hgl, keep_set3 k3 hgl, keep_set3 k4 hgl⟩ | exact ⟨k2, k3, k4⟩)
        (first | (go_at_call 49; refine (HAC.out _ ((Off.refl None w5).drew)).mono ?_; rintro e w6 ⟨rfl, ho6⟩; have k2 : w6.cell? ⟨lg, 2, none⟩ = some (.int .u64 L.durable.first) := ho6.keep p2 (fun h => h); have k3 : w6.cell? ⟨lg, 3, none⟩ = some (.int .i64 L.durable.many) := ho6.keep p3 (fun h => h); have k4 : w6.cell? ⟨lg, 4, none⟩ = some (.int .i64 L.durable.size) := ho6.keep p4 (fun h => h); have hst6 := HST5.out.quiet (((Off.refl None w5).drew).trans ho6 (fun _ _ h => h)); have q0 := hst6.log.act.1; have q1 := hst6.log.act.2.1; have q2 := hst6.log.act.2.2.1; have f0 := hst6.log.act.2.2.2 (off * 3 + L.full.length * 3); have f1 := hst6.log.act.2.2.2 (off * 3 + L.full.length * 3 + 1); have f2 := hst6.log.act.2.2.2 (off * 3 + L.full.length * 3 + 2); have HST6 := Lib.hid hst6; clear hst6))
      have ho56 : Off None w5 w6 := ((Off.refl None w5).drew).trans ho6 (fun _ _ h => h)
      have HO6 := Lib.hid ho56
      clear ho56 ho6 k2 k3 k4 p2 p3 p4 q0 q1 q2 f0 f1 f2
      go_wp2
      go_ret
      rw [HSP.out]
      have hst7 := HST6.out.setAct L.durable
      have ho7 : Off F w6 _ := (((Off.refl F w6).setCell (p := ⟨g, off * 3 + L.full.length * 3, none⟩) (.inl HST1.out.inG) (.int .u64 L.durable.first)).setCell (p := ⟨g, off * 3 + L.full.length * 3 + 1, none⟩) (.inl HST1.out.inG) (.int .i64 L.durable.many)).setCell (p := ⟨g, off * 3 + L.full.length * 3 + 2, none⟩) (.inl HST1.out.inG) (.int .i64 L.durable.size)
      have hs6 := HO6.out.size
      refine ⟨rfl, ⟨g, cap, _, hst7.log, hst7.disk, hst7.sepL, hst7.sepG, .inl HST1.out.inL, .inl HST1.out.inG, fun b hb => ?_⟩, (HOF.out.trans (HO6.out.mono (fun _ _ h => h.elim)) (fun _ _ h => h)).trans ho7 (fun _ _ h => h)⟩
      rw [Grow, Heap.set_size, Heap.set_size, Heap.set_size]
      rcases hb with hb | hb
      · exact .inl (HST1.out.inD b hb)
      · exact .inr ⟨by omega, by omega⟩
    · have hsp : L.undo D = (L, D', er) := by
        unfold LogV.undo; rw [if_neg HSM.out, HDA.out]; dsimp only; rw [if_neg he]
      have HSP := Lib.hid hsp; clear hsp
      have t1 : (er != 0) = true := by rw [bne_iff_ne]; exact he
      go_wp2
      go_ret
      rw [HSP.out]
      refine ⟨rfl, ⟨g, cap, _, HST5.out.log, HST5.out.disk, HST5.out.sepL, HST5.out.sepG, .inl HST1.out.inL, .inl HST1.out.inG, fun b hb => ?_⟩, HOF.out⟩
      rcases hb with hb | hb
      · exact .inl (HST1.out.inD b hb)
      · exact .inr ⟨by omega, hb.2⟩
end Seg
end Go.Proofs.YtnppdcegpojmbaaGreatDoor
