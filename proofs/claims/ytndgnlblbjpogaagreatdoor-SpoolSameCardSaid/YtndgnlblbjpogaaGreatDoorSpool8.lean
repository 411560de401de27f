/- A spool in memory; the closures of Add and of Reclaim. · A spool in memory; the walk of Reclaim. -/
import Derived.Test.YtndgnlblbjpogaaGreatDoorSpool5
namespace Go.Proofs.YtndgnlblbjpogaaGreatDoor
open Go Go.RowKit Go.Shelf Led
namespace Spool
variable {w w0 w1 : World} {n sp d : Nat} {F : Nat → Prop} {P : SpoolV}
set_option maxRecDepth 100000 in
theorem add1_any (w : World) (sp d bx : Nat) (F : Nat → Prop) (P : SpoolV) (h : SpoolAt w sp d P F) (hb : P.log.bytes ≤ 9223372036854775807) (c0 : w.cell? ⟨bx, 0, none⟩ = some (.pointer (some ⟨sp, 0, none⟩))) :
    Calls Tryz.prog 53 #[.pointer (some ⟨bx, 0, none⟩)] w fun e w' => e = .returned (.bool P.full) ∧ Off None w w' := by
  have HF := Lib.hid (full_any w sp d F P h hb)
  clear h
  go_enter Tryz.func53, Tryz.ntmps53
  go_wp2_with fail
  refine HF.out.mono ?_
  rintro e w1 ⟨rfl, ho⟩
  have HO := Lib.hid ho
  clear ho
  go_wp2_with fail
  go_ret
  exact ⟨rfl, HO.out⟩
set_option maxRecDepth 100000 in
theorem add2_any (w : World) (sp d bx : Nat) (F : Nat → Prop) (P : SpoolV) (h : SpoolAt w sp d P F) (hb : P.log.bytes ≤ 9223372036854775807) (c0 : w.cell? ⟨bx, 0, none⟩ = some (.pointer (some ⟨sp, 0, none⟩))) :
    Calls Tryz.prog 60 #[.pointer (some ⟨bx, 0, none⟩)] w fun e w' => e = .returned (.bool P.full) ∧ Off None w w' := by
  have HF := Lib.hid (full_any w sp d F P h hb)
  clear h
  go_enter Tryz.func60, Tryz.ntmps60
  go_wp2_with fail
  refine HF.out.mono ?_
  rintro e w1 ⟨rfl, ho⟩
  have HO := Lib.hid ho
  clear ho
  go_wp2_with fail
  go_ret
  exact ⟨rfl, HO.out⟩
set_option maxHeartbeats 4000000 in
set_option maxRecDepth 100000 in
theorem reclaim1_any (w : World) (sp d bx : Nat) (F : Nat → Prop) (P : SpoolV) (h : SpoolAt w sp d P F) (hn : P.log.segs.length ≤ 1000000) (hf : P.log.full ≠ []) (c0 : w.cell? ⟨bx, 0, none⟩ = some (.pointer (some ⟨sp, 0, none⟩))) :
    Calls Tryz.prog 44 #[.pointer (some ⟨bx, 0, none⟩)] w fun e w' => e = .returned (.bool P.idle) ∧ Off None w w' := by
  obtain ⟨lg, off, sv, Fs, S, hin⟩ := h
  obtain ⟨_, _, _, c3, c4, c5, c6, _⟩ := hin.cells
  have hsg : ∀ W, Off None w W → Calls Tryz.prog 45 #[.pointer (some ⟨lg, 0, none⟩)] W fun e w' => ∃ v, e = .returned v ∧ w'.ownsRow W.heap.size 81 3 v P.log.segs.length (P.log.segs.flatMap segCells) ∧ Off None W w' := by
    obtain ⟨g, cap, Fd, hst⟩ := hin.st
    exact fun W hW => Seg.segs_any W lg d P.log g off cap (hst.quiet hW).log hn
  have hfr : ∀ W, Off None w W → Calls Tryz.prog 19 #[.agg #[.int .u64 P.led.first, .int .u64 P.led.next, sv]] W fun e w' => e = .returned (.int .u64 P.led.free) ∧ Off None W w' :=
    fun W hW => Led.free_any W S (ledAgg P.led sv) P.led (hin.led.quiet hW)
  have HSG := Lib.hid hsg
  have HFR := Lib.hid hfr
  have HLEN := Lib.hid (LogV.second_get P.log hf)
  have hid : P.idle = decide ((P.log.second : Int) ≤ (P.led.free : Int)) := by unfold SpoolV.idle; rw [Bool.eq_iff_iff, decide_eq_true_iff, decide_eq_true_iff]; omega
  have HID := Lib.hid hid
  clear hsg hfr hin hf hid
  go_enter Tryz.func44, Tryz.ntmps44
  go_wp2_with fail
  go_region_law (first
    | (refine step_call (by rfl) 45 _ _ (by rfl) (enters_of Tryz.func45 (by kernel_rfl) rfl) #[.pointer (some ⟨lg, 0, none⟩)] (by rfl) (HSG.out _ ?oc) ?_
       (case oc => first | exact (Off.refl None w).drew | exact ho2)
       rintro e w3 ⟨v, rfl, hr3, ho3⟩
       refine ⟨_, rfl, ?_⟩
       have ho3' : Off None w w3 := (by first | exact ((Off.refl None w).drew).quiet_trans ho3 | exact ho2.quiet_trans ho3)
       obtain ⟨A3, cc3, rfl, hm3, hc3⟩ := rows hr3
       obtain ⟨hl1, hl2⟩ := HLEN.out
       obtain ⟨g3, rfl, _, _, e1, hrest⟩ := hc3 1 hl1
       rw [hl2] at e1
       clear hrest hc3 hr3 hl2
       have b0 := ho3'.stay c0 (fun x => x)
       have b3 := ho3'.stay c3 (fun x => x)
       have b4 := ho3'.stay c4 (fun x => x)
       have b5 := ho3'.stay c5 (fun x => x)
       have b6 := ho3'.stay c6 (fun x => x)
       have hi1 : (1 : Int) < (P.log.segs.length : Int) := (by omega))
    | (refine step_call (by rfl) 19 _ _ (by rfl) (enters_of Tryz.func19 (by kernel_rfl) rfl) #[.agg #[.int .u64 P.led.first, .int .u64 P.led.next, sv]] (by rfl) (HFR.out _ ?oc) ?_
       (case oc => first | exact (Off.refl None w).drew | exact ho3')
       rintro e w2 ⟨rfl, ho20⟩
       refine ⟨_, rfl, ?_⟩
       have ho2 : Off None w w2 := (by first | exact ((Off.refl None w).drew).quiet_trans ho20 | exact ho3'.quiet_trans ho20)
       try have e2 := ho20.stay e1 (fun x => x)
       have d0 := ho2.stay c0 (fun x => x)
       have d3 := ho2.stay c3 (fun x => x)
       have d4 := ho2.stay c4 (fun x => x)
       have d5 := ho2.stay c5 (fun x => x)
       have d6 := ho2.stay c6 (fun x => x)))
  all_goals
    go_wp2_with fail
    go_ret
    rw [HID.out]
    refine ⟨?_, by first | exact ho2 | exact ho3'⟩
    simp [Act.put, Array.setIfInBounds]
end Spool
end Go.Proofs.YtndgnlblbjpogaaGreatDoor
namespace Go.Proofs.YtndgnlblbjpogaaGreatDoor
open Go Go.RowKit Go.Shelf Led
/-- What began behind new blocks that the spool does not own. -/
theorem Sp.behind {w0 w w1 : World} {n sp d : Nat} {F : Nat → Prop} {P : SpoolV} (h : Sp w0 n sp d F P w) (ho : Off None w w1) : Sp w1 n sp d (fun b => Grow F w0 w b ∧ b < w.heap.size) P w1 := by
  have hl := h.lowG
  exact Sp.start ((h.at_.mono fun b hb x => ⟨x, hb⟩).quiet ho) (h.glob.none ho) (fun b x => hl b x.1)
theorem Sp.back {w0 w w1 w' : World} {n sp d : Nat} {F : Nat → Prop} {P P' : SpoolV} (h : Sp w0 n sp d F P w) (ho : Off None w w1) (h' : Sp w1 n sp d (fun b => Grow F w0 w b ∧ b < w.heap.size) P' w') : Sp w0 n sp d F P' w' := by
  have s0 := h.off.size
  have s1 := ho.size
  have s2 := h'.off.size
  refine ⟨h'.at_.mono fun b _ x => ?_, h.off.trans_grow ((ho.mono fun _ _ x => x.elim : Off (Grow F w0 w) w w1).trans (h'.off.mono fun b _ x => x.1) (fun _ _ x => x)), h'.glob, h.low, h.sp_, h.spl⟩
  rcases x with x | x
  · exact x.1.imp id (fun y => ⟨y.1, by omega⟩)
  · exact .inr ⟨by omega, x.2⟩
namespace SpoolV
def reclaim (P : SpoolV) : SpoolV × Int := P.gone idle
end SpoolV
theorem SpoolV.Wk.gone {M N : Nat} {P : SpoolV} (h : P.Wk M N) (cond : SpoolV → Bool) (hN : N + 12 ≤ 900000) : (P.gone cond).1.Wk M (N + 12) := SpoolV.Wk.evict cond _ h hN
namespace Spool
set_option maxHeartbeats 1000000 in
set_option maxRecDepth 100000 in
theorem reclaim_any (w0 w : World) (n sp d M N : Nat) (F : Nat → Prop) (P : SpoolV) (h : Sp w0 n sp d F P w) (hk : P.Wk M N) (hN : N + 12 ≤ 900000) :
    Calls Tryz.prog 17 #[.pointer (some ⟨sp, 0, none⟩)] w fun e w' => e = .returned (.int .i64 P.reclaim.2) ∧ Sp w0 n sp d F P.reclaim.1 w' := by
  obtain ⟨w1, hw1, ho1, hb1, hs1⟩ := boxed w #[.pointer (some ⟨sp, 0, none⟩)] 25
  obtain ⟨q, hq⟩ : ∃ q, q = w.heap.size := ⟨_, rfl⟩
  rw [← hq] at hb1
  have hsp1 := h.behind ho1
  have hqF : ¬ (Grow F w0 w q ∧ q < w.heap.size) := fun x => by have := x.2; omega
  have b0 : w1.cell? ⟨q, 0, none⟩ = some (.pointer (some ⟨sp, 0, none⟩)) := Heap.cell hb1 0
  have hev := evict_any w1 w1 n sp d M N 44 q _ P SpoolV.idle hsp1 hk hN (enters_of Tryz.func44 (by kernel_rfl) rfl)
    (fun W P' hW hk' hf' => reclaim1_any W sp d q _ P' hW.at_ (by have := hk'.few; omega) hf' (hW.off.keep b0 hqF))
  have HEV := Lib.hid hev
  have HH := Lib.hid (And.intro h ho1)
  have HW1 := Lib.hid (And.intro hw1 hq)
  clear h hk hev hsp1 hqF b0 hb1 ho1 hs1
  go_enter Tryz.func17, Tryz.ntmps17
  clear hw1 hq
  go_wp2_with fail
  rw [← HW1.out.1, ← HW1.out.2]
  refine HEV.out.mono ?_
  rintro e w2 ⟨rfl, h2⟩
  have H2 := Lib.hid (HH.out.1.back HH.out.2 h2)
  clear h2
  go_wp2_with fail
  go_ret
  exact ⟨rfl, H2.out⟩
end Spool
end Go.Proofs.YtndgnlblbjpogaaGreatDoor
