/- The walk of Open of a log, on a disk that has no name. -/
import Derived.Test.YtnppdcegpojmbaaGreatDoorSeg8
namespace Go.Proofs.YtnppdcegpojmbaaGreatDoor
open Go Go.RowKit Go.Shelf Go.Sort
namespace Seg
theorem infoU64 : (Tryz.prog.info? 31).map (fun i => (i.zero, i.size, i.bytes)) = some (some (.int .u64 0), 1, 8) := by kernel_rfl
set_option maxRecDepth 100000 in
theorem firsts_none (w : World) (d : Nat) (D : DiskV) (F : Nat → Prop) (h : DiskIn w d D F) (hn : D.names = []) :
    Calls Tryz.prog 43 #[.pointer (some ⟨d, 0, none⟩)] w fun e w' => e = .returned (.slice none 0 0) ∧ Off None w w' := by
  have hl := DiskW.list_any w d D F h (by rw [hn]; exact Nat.zero_le _)
  have e : D.list = [] := by unfold DiskV.list; rw [hn]; exact List.mergeSort_nil
  rw [e] at hl
  have HL := Lib.hid hl; clear hl
  go_enter Tryz.func43, Tryz.ntmps43
  go_wp2_with fail
  refine HL.out.mono ?_
  rintro e w1 ⟨v, rfl, hrow, hb⟩
  have HO := Lib.hid (Off.of_below hb : Off None w w1)
  obtain ⟨_, ⟨rfl, _⟩ | ⟨g, cap, cur, rfl, _⟩⟩ := hrow
  · go_wp2
    refine wp_loop_once ?_
    go_wp2
    go_ret
    exact ⟨rfl, HO.out⟩
  · go_wp2
    refine wp_loop_once ?_
    go_wp2
    go_ret
    exact ⟨rfl, HO.out⟩
def emptyLog : SegV := ⟨0, 0, 0⟩
/-- What Open does on a disk that has no name. -/
def openNew (D : DiskV) : DiskV × Int := ((D.started 1).1, (D.started 1).2.1)
set_option maxHeartbeats 1000000 in
set_option maxRecDepth 100000 in
theorem open_none (w : World) (d n N : Nat) (D : DiskV) (F : Nat → Prop) (h : DiskIn w d D F) (hn : D.names = []) (hG : Glob n w) (hl : Lim N D) (hok : (D.started 1).2.2 = true ∧ (D.started 1).2.1 = 0) :
    Calls Tryz.prog 12 #[.pointer (some ⟨d, 0, none⟩)] w fun e w' =>
      ∃ lg, e = .returned (.tuple #[.pointer (some ⟨lg, 0, none⟩), .int .i64 0]) ∧ Store w' lg d ⟨[], ⟨1, 0, 0⟩, ⟨1, 0, 0⟩⟩ (D.started 1).1 (Grow F w w') 0 ∧ Off F w w' := by
  have HD := Lib.hid h; clear h
  have HGL := Lib.hid hG; clear hG
  have HL := Lib.hid hl; clear hl
  go_enter Tryz.func12, Tryz.ntmps12
  go_wp2_with fail
  obtain ⟨w0, hw0⟩ : ∃ w0, w0 = w.alloc (.cells #[.pointer (some ⟨d, 0, none⟩), .slice none 0 0, .int .u64 0, .int .i64 0, .int .i64 0] 84) := ⟨_, rfl⟩
  rw [← hw0]
  have ho0 : Off None w w0 := by rw [hw0]; exact (Off.refl None w).alloc _
  have hcore : w0.heap[w.heap.size]? = some (.cells (logCells d (.slice none 0 0) emptyLog) 84 (0, 0)) := by rw [hw0]; exact Heap.alloc_new w _
  have hd0 : DiskIn w0 d D (fun b => F b ∧ b < w.heap.size) := (HD.out.mono (fun b hb h => ⟨h, hb⟩) : DiskIn w d D (fun b => F b ∧ b < w.heap.size)).off ho0 (fun _ _ _ h => h)
  have hpre : PreAt w0 w.heap.size d [] emptyLog (.slice none 0 0) := ⟨hcore, World.ownsRow_nil _ _ _ _, fun e => by cases e⟩
  clear hw0 hcore
  refine (firsts_none w0 d D _ hd0 hn).mono ?_
  rintro e w1 ⟨rfl, ho1⟩
  have ho01 := ho0.trans ho1 (fun _ _ h => h)
  have hs0 : w.heap.size < w0.heap.size := Heap.lt hpre.core
  have hbeg := begin_any w1 w.heap.size d n N [] emptyLog (.slice none 0 0) D (fun b => F b ∧ b < w.heap.size) (hpre.off ho1 (fun h => h) (fun _ _ h => h)) (hd0.off ho1 (fun _ _ _ h => h)) (fun h => absurd h.2 (by omega)) (fun k hk => by cases hk)
    (HGL.out.none ho01) (fun b h => Nat.lt_of_lt_of_le h.2 ho01.size) HL.out (Nat.zero_le _) 1 (by omega)
  have HB := Lib.hid hbeg; have HO := Lib.hid ho01; have HS1 := Lib.hid (Nat.lt_of_lt_of_le hs0 ho1.size)
  clear hbeg ho0 ho1 ho01 hd0 hpre hs0
  go_wp2_with fail
  refine HB.out.mono ?_
  rintro e w2 ⟨rfl, hd2, ho2, hyes, _⟩
  obtain ⟨g, cap, Fd', hl2, hg2, hd2', hsl2, hsg2, hup2⟩ := hyes hok.1
  have HLG := Lib.hid hl2; have HD2 := Lib.hid hd2'; have HO2 := Lib.hid ho2; have HG2 := Lib.hid hg2; have HUP := Lib.hid hup2; have HSL := Lib.hid hsl2; have HSG := Lib.hid hsg2
  clear hd2 ho2 hyes hl2 hg2 hd2' hsl2 hsg2 hup2
  rw [hok.2]
  clear hok
  go_wp2
  go_ret2
  have hs1 := HS1.out
  have hs2 := HO2.out.size
  refine ⟨w.heap.size, rfl, ⟨g, cap, Fd', HLG.out, HD2.out, HSL.out, HSG.out, .inr ⟨Nat.le_refl _, by omega⟩, ?_, fun b hb => ?_⟩, ?_⟩
  · rcases HG2.out with h | h
    · cases h
    · exact .inr ⟨by omega, h.2⟩
  · rcases HUP.out b hb with h | h
    · exact .inl h.1
    · exact .inr ⟨by omega, h.2⟩
  · refine (HO.out.mono (fun _ _ h => h.elim) : Off F w w1).trans HO2.out (fun b hb h => ?_)
    rcases h with h | h | h
    · exact h.1
    · omega
    · cases h
end Seg
end Go.Proofs.YtnppdcegpojmbaaGreatDoor
