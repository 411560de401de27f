/- Roll of a log whose first segments were dropped: append to a slice that begins amid its block. · A spool in memory; the walks of more, first, Bytes, full, Durable, Get, Sync. · A spool in memory; the walk of keep. -/
import Derived.Test.YtndgnlblbjpogaaGreatDoorSeg9
import Derived.Test.YtndgnlblbjpogaaGreatDoorLedL
import Derived.ArgAppend
import Derived.Test.YtndgnlblbjpogaaGreatDoorSwap
import Derived.Test.YtndgnlblbjpogaaGreatDoorMark4
import Derived.Test.YtndgnlblbjpogaaGreatDoorLedK
import Derived.Test.YtndgnlblbjpogaaGreatDoorLedE
namespace Go.Proofs.YtndgnlblbjpogaaGreatDoor
open Go Go.RowKit
/-- A segment behind others, laid into the room that is there. -/
theorem segRow_room {w : World} {g off cap : Nat} {xs : List SegV} {cur : Array Value} (h : SegRow w g off cap xs cur) (hr : xs.length + 1 ≤ cap) (y : SegV) :
    ∃ cur', SegRow (w.setCells g (off * 3 + xs.length * 3) (segCells y)) g off cap (xs ++ [y]) cur' := by
  have hsz := h.size
  have hl : (segCells y).length = 3 := rfl
  have hh := setCells_heap (segCells y) (off * 3 + xs.length * 3) w cur h.blk (by rw [hl, hsz]; have : (off + cap) * 3 = off * 3 + cap * 3 := Nat.add_mul _ _ _; omega)
  refine ⟨_, hh, ?_, by rw [List.length_append]; exact hr, h.max, ?_⟩
  · have hc : cur.toList.length = (off + cap) * 3 := by rw [Array.length_toList, hsz]
    have : (off + cap) * 3 = off * 3 + cap * 3 := Nat.add_mul _ _ _
    show (List.take (off * 3 + xs.length * 3) cur.toList ++ segCells y ++ List.drop (off * 3 + xs.length * 3 + (segCells y).length) cur.toList).length = _
    rw [List.length_append, List.length_append, List.length_take, List.length_drop, hl, hc]
    omega
  · intro i s hi
    obtain ⟨L, hL⟩ : ∃ L, L = cur.toList := ⟨_, rfl⟩
    have hLl : L.length = off * 3 + cap * 3 := by rw [hL, Array.length_toList, hsz, Nat.add_mul]
    rw [← hL]
    simp only [List.getElem?_toArray]
    rcases Nat.lt_or_ge i xs.length with hlt | hge
    · rw [List.getElem?_append_left hlt] at hi
      have ha := h.at_ i s hi
      simp only [← Array.getElem?_toList, ← hL] at ha
      have k : ∀ j, j < 3 → (L.take (off * 3 + xs.length * 3) ++ segCells y ++ L.drop (off * 3 + xs.length * 3 + (segCells y).length))[(off + i) * 3 + j]? = L[(off + i) * 3 + j]? := by
        intro j hj
        rw [List.append_assoc, List.getElem?_append_left (by rw [List.length_take]; omega), List.getElem?_take_of_lt (by omega)]
      exact ⟨(k 0 (by omega)).trans ha.1, (k 1 (by omega)).trans ha.2.1, (k 2 (by omega)).trans ha.2.2⟩
    · rw [List.getElem?_append_right hge] at hi
      have hi0 : i = xs.length := by
        have := (List.getElem?_eq_some_iff.1 hi).1
        simp at this; omega
      rw [hi0, Nat.sub_self] at hi
      cases hi
      have k : ∀ j, j < 3 → (L.take (off * 3 + xs.length * 3) ++ segCells y ++ L.drop (off * 3 + xs.length * 3 + (segCells y).length))[(off + i) * 3 + j]? = (segCells y)[j]? := by
        intro j hj
        rw [List.append_assoc, List.getElem?_append_right (by rw [List.length_take]; omega), List.length_take, List.getElem?_append_left (by rw [hl]; omega), show (off + i) * 3 + j - min (off * 3 + xs.length * 3) L.length = j by omega]
      exact ⟨k 0 (by omega), k 1 (by omega), k 2 (by omega)⟩
theorem segRow_cells {w : World} {g off cap : Nat} {xs : List SegV} {cur : Array Value} (h : SegRow w g off cap xs cur) : ∀ j u, (xs.flatMap segCells)[j]? = some u → w.cell? ((⟨g, off * 3, none⟩ : Addr).add j) = some u := by
  intro j u hj
  have hlt : j < xs.length * 3 := by rw [← flat_len]; exact (List.getElem?_eq_some_iff.1 hj).1
  have hi : j / 3 < xs.length := by omega
  have ha := h.at_ (j / 3) xs[j / 3] (List.getElem?_eq_getElem hi)
  have hf := flat_at xs (j / 3) xs[j / 3] (List.getElem?_eq_getElem hi)
  rw [Addr.add_lit, Heap.cell h.blk]
  rcases (show j = j / 3 * 3 ∨ j = j / 3 * 3 + 1 ∨ j = j / 3 * 3 + 2 by omega) with e | e | e
  · rw [e] at hj; rw [show off * 3 + j = (off + j / 3) * 3 by omega]; exact ha.1.trans (hf.1.symm.trans hj)
  · rw [e] at hj; rw [show off * 3 + j = (off + j / 3) * 3 + 1 by omega]; exact ha.2.1.trans (hf.2.1.symm.trans hj)
  · rw [e] at hj; rw [show off * 3 + j = (off + j / 3) * 3 + 2 by omega]; exact ha.2.2.trans (hf.2.2.symm.trans hj)
section
variable {ops : Array Oper} {o : Oper} {a : Act} {Q : Exit → Act → World → Prop} {W : World}
theorem step_push_seg {K : Act → World → Prop} {X : Prop} (hgd : o.guard = none) (s x : Operand) (ho : o.op = .call { callee := .builtin .append, args := #[s, x], argTypes := #[82, 82] })
    (g off cap : Nat) (xs : List SegV) (cur : Array Value) (hs : a.eval s = .slice (some ⟨g, off * 3, none⟩) xs.length cap) (hrow : SegRow W g off cap xs cur) (y : SegV) (news : Array Value) (hnw : news = (segCells y).toArray)
    (hx : a.eval x = .slice (some ⟨W.heap.size, 0, none⟩) 1 1) (hn : xs.length ≤ 1000000)
    (h : ∀ g' off' cap' w', (∃ cur', SegRow w' g' off' cap' (xs ++ [y]) cur') → Off (Only g) W w' → (g' = g ∨ W.heap.size < g') → g' < w'.heap.size → K (a.put o.dst (.slice (some ⟨g', off' * 3, none⟩) (xs.length + 1) cap')) w') :
    if Region.wanted o (yielded ops a.tmps) = true then Oper.wp Tryz.prog o a (W.alloc (.cells news 81)) K Q else X := by
  have hw : Region.wanted o (yielded ops a.tmps) = true := by simp [Region.wanted, hgd]
  rw [if_pos hw]
  obtain ⟨i, z, hi, hz, h2, h3, h4⟩ := elemSeg.info
  subst hnw
  have hal : Off None W (W.alloc (.cells (segCells y).toArray 81)) := (Off.refl _ W).alloc _
  have hrow1 := hrow.off hal (fun h => h)
  have hnews : ∀ j u, (segCells y)[j]? = some u → (W.alloc (.cells (segCells y).toArray 81)).cell? ((⟨W.heap.size, 0, none⟩ : Addr).add j) = some u := Heap.news W (segCells y).toArray 81 _ rfl
  have h1 : ∀ u ∈ segCells y, u.oneCell' = true := by
    intro u hu
    simp [segCells] at hu
    rcases hu with rfl | rfl | rfl <;> rfl
  have hg1 := Heap.lt hrow.blk
  by_cases hr : xs.length + 1 ≤ cap
  · have hsz := hrow1.size
    have e1 : (off + cap) * 3 = off * 3 + cap * 3 := Nat.add_mul _ _ _
    have hrun := run_append_room_cells (P := Tryz.prog) (W.alloc (.cells (segCells y).toArray 81)) 82 o.type 81 i elemSeg.ht hi g (off * 3) xs.length cap ⟨W.heap.size, 0, none⟩ 1 1 (segCells y) (by rw [h2]; rfl) hnews h1 hr
      (fun j hj => by have hj : j < 3 := hj; rw [h2, Heap.cell hrow1.blk, Array.getElem?_eq_getElem (by omega)]; rfl) (fun j _ => by rw [h2]; exact Heap.frozen hrow1.blk _)
    rw [h2] at hrun
    have hrr := segRow_room hrow1 hr y
    have ho2 : Off (Only g) W ((W.alloc (.cells (segCells y).toArray 81)).setCells g (off * 3 + xs.length * 3) (segCells y)) := Off.setCells _ _ (hal.mono (fun _ _ h => h.elim)) (.inl rfl)
    unfold Oper.wp
    simp [execOp, ho, resolve, invoke, builtin, hs, hx, hrun, Result.andThen]
    exact h g off cap _ hrr ho2 (.inl rfl) (Nat.lt_of_lt_of_le hg1 ho2.size)
  · obtain ⟨v', w', hrun, r1, r2⟩ := run_append_arg_grows (P := Tryz.prog) (W.alloc (.cells (segCells y).toArray 81)) 82 o.type 81 i z 3 24 elemSeg.ht hi hz h2 h3 h4 (by decide) ⟨g, off * 3, none⟩ xs.length cap (xs.flatMap segCells) (flat_len xs) (segRow_cells hrow1) ⟨W.heap.size, 0, none⟩ 1 1 (segCells y) rfl hnews (by omega) (by unfold maxLen; omega) (by omega)
    obtain ⟨g', cap', rfl, hg2, hg3⟩ := r1.form (by omega)
    have ho2 : Off (Only g) W w' := (hal.mono (fun _ _ h => h.elim) : Off (Only g) W _).grown r2 (fun k hk => by cases hk)
    have hrow2 : ∃ cur', SegRow w' g' 0 cap' (xs ++ [y]) cur' := by
      have hb := ownsRow_base_a r1 (Nat.zero_le _)
      refine segRow_of (xs := xs ++ [y]) ?_ (by simp)
      rw [List.length_append, List.flatMap_append]
      simpa [segCells] using hb
    rw [Heap.alloc_size] at hg2
    unfold Oper.wp
    simp [execOp, ho, resolve, invoke, builtin, hs, hx, hrun, Result.andThen]
    exact h g' 0 cap' _ hrow2 ho2 (.inr (by omega)) hg3
end
namespace Seg
set_option maxHeartbeats 1000000 in
set_option maxRecDepth 100000 in
theorem begin_off (w : World) (lg d n N : Nat) (L : LogV) (g0 off0 cap0 : Nat) (D : DiskV) (Fd : Nat → Prop) (h : LogAt w lg d L g0 off0 cap0) (hd : DiskIn w d D Fd) (hsl : ¬ Fd lg) (hsg : ¬ Fd g0)
    (hG : Glob n w) (hFb : ∀ b, Fd b → b < w.heap.size) (hl : Lim N D) (hx : L.segs.length ≤ 1000000) (first : Nat) (hf : first < 18446744073709551616) :
    Calls Tryz.prog 88 #[.pointer (some ⟨lg, 0, none⟩), .int .u64 first] w fun e w' =>
      e = .returned (.int .i64 (D.started first).2.1) ∧ DiskIn w' d (D.started first).1 (Grow Fd w w') ∧ Off (fun b => Fd b ∨ b = lg ∨ b = g0) w w' ∧
      ((D.started first).2.2 = true → ∃ g off cap Fd', LogAt w' lg d ⟨L.segs, ⟨first, 0, 0⟩, ⟨first, 0, 0⟩⟩ g off cap ∧ (g = g0 ∨ (w.heap.size ≤ g ∧ g < w'.heap.size)) ∧ DiskIn w' d (D.started first).1 Fd' ∧ ¬ Fd' lg ∧ ¬ Fd' g ∧ ∀ b, Fd' b → Grow Fd w w' b) ∧
      ((D.started first).2.2 = false → LogAt w' lg d L g0 off0 cap0) := by
  have HP := Lib.hid h; clear h
  have HD := Lib.hid hd; clear hd
  have HG := Lib.hid hG; clear hG
  have HL := Lib.hid hl; clear hl
  obtain ⟨D1, er, hcr⟩ : ∃ D1 er, D.create (nameB first) = (D1, er) := ⟨_, _, rfl⟩
  have p0 : w.cell? ⟨lg, 0, none⟩ = some (.pointer (some ⟨d, 0, none⟩)) := Heap.cell HP.out.core 0
  have hname := fun W (hW : Off None w W) => name_any W first hf (HG.out.none hW).pow
  have HNM := Lib.hid hname; clear hname
  have hdk := fun W (hW : Off None w W) => DiskW.create_any W d D Fd (HD.out.off hW (fun _ _ _ h => h)) (nameB first) (by rw [nameB_size hf]; decide) (by have := HL.out.names; have := HL.out.le; unfold maxLen; omega) (by have := HL.out.moves; have := HL.out.le; omega) (by have := HL.out.files; have := HL.out.le; omega)
  rw [hcr] at hdk
  have HDK := Lib.hid hdk; clear hdk
  have HCR := Lib.hid hcr; clear hcr
  go_enter Tryz.func88, Tryz.ntmps88
  go_wp2_with fail
  go_region_held3 (fun W => W.cell? ⟨lg, 0, none⟩ = some (.pointer (some ⟨d, 0, none⟩)))
    (first | exact p0 | exact l1 | exact k1)
    (first
      | (go_at_call 80; refine (HNM.out _ ((Off.refl None w).drew)).mono ?_; rintro e w4 ⟨rfl, ho4⟩; have k1 : w4.cell? ⟨lg, 0, none⟩ = some (.pointer (some ⟨d, 0, none⟩)) := ho4.keep p0 (fun h => h))
      | (go_at_call 120; refine (HDK.out w4 (((Off.refl None w).drew).trans ho4 (fun _ _ h => h))).mono ?_; rintro e w5 ⟨rfl, hd5, ho5⟩; have l1 : w5.cell? ⟨lg, 0, none⟩ = some (.pointer (some ⟨d, 0, none⟩)) := ho5.keep k1 hsl))
  have ho04 : Off None w w4 := ((Off.refl None w).drew).trans ho4 (fun _ _ h => h)
  have hp5 : LogAt w5 lg d L g0 off0 cap0 := (HP.out.off ho04 (fun h => h) (fun h => h)).off ho5 hsl hsg
  have hof5 : Off Fd w w5 := (ho04.mono (fun _ _ h => h.elim) : Off Fd w w4).trans ho5 (fun _ _ h => h)
  have hd5' : DiskIn w5 d D1 (Grow Fd w w5) := hd5.mono (fun b _ hb => hb.imp id (fun x => ⟨Nat.le_trans ho04.size x.1, x.2⟩))
  have HP5 := Lib.hid hp5; have HO5 := Lib.hid hof5; have HD5 := Lib.hid hd5'
  clear hp5 hof5 hd5' hd5 ho5 ho04 ho4 k1 p0
  by_cases he : er = 0
  · subst he
    have hsp : D.started first = (D1.syncDir.1, D1.syncDir.2, true) := by unfold DiskV.started; rw [HCR.out]; dsimp only; rw [if_pos rfl]
    have HSP := Lib.hid hsp; clear hsp
    have q1 : w5.cell? ⟨lg, 1, none⟩ = some (.slice (some ⟨g0, off0 * 3, none⟩) L.segs.length cap0) := Heap.cell HP5.out.core 1
    have q2 : w5.cell? ⟨lg, 2, none⟩ = some (.int .u64 L.durable.first) := Heap.cell HP5.out.core 2
    have q3 : w5.cell? ⟨lg, 3, none⟩ = some (.int .i64 L.durable.many) := Heap.cell HP5.out.core 3
    have q4 : w5.cell? ⟨lg, 4, none⟩ = some (.int .i64 L.durable.size) := Heap.cell HP5.out.core 4
    have f1 : w5.frozen? ⟨lg, 1, none⟩ = false := Heap.frozen HP5.out.core 1
    have f2 : w5.frozen? ⟨lg, 2, none⟩ = false := Heap.frozen HP5.out.core 2
    have f3 : w5.frozen? ⟨lg, 3, none⟩ = false := Heap.frozen HP5.out.core 3
    have f4 : w5.frozen? ⟨lg, 4, none⟩ = false := Heap.frozen HP5.out.core 4
    have hlt : lg < w5.heap.size := Heap.lt HP5.out.core
    go_wp2_with fail
    have hp6 := HP5.out.setDur ⟨first, 0, 0⟩
    have ho56 : Off (Only lg) w5 _ := (((Off.refl (Only lg) w5).set 2 (.int .u64 first)).set 3 (.int .i64 0)).set 4 (.int .i64 0)
    obtain ⟨w6, hw6⟩ : ∃ w6, w6 = ((w5.setCell ⟨lg, 2, none⟩ (.int .u64 first)).setCell ⟨lg, 3, none⟩ (.int .i64 0)).setCell ⟨lg, 4, none⟩ (.int .i64 0) := ⟨_, rfl⟩
    have hp6 : LogAt w6 lg d { L with durable := ⟨first, 0, 0⟩ } g0 off0 cap0 := by rw [hw6]; exact hp6
    rw [← hw6] at ho56 ⊢
    have HP6 := Lib.hid hp6; have HO6 := Lib.hid ho56
    clear hw6 hp6 ho56 q1 q2 q3 q4 f1 f2 f3 f4
    have q1 : w6.cell? ⟨lg, 1, none⟩ = some (.slice (some ⟨g0, off0 * 3, none⟩) L.segs.length cap0) := Heap.cell HP6.out.core 1
    have q2 : w6.cell? ⟨lg, 2, none⟩ = some (.int .u64 first) := Heap.cell HP6.out.core 2
    have q3 : w6.cell? ⟨lg, 3, none⟩ = some (.int .i64 0) := Heap.cell HP6.out.core 3
    have q4 : w6.cell? ⟨lg, 4, none⟩ = some (.int .i64 0) := Heap.cell HP6.out.core 4
    have qa : (w6.alloc (.cells #[.int .u64 first, .int .i64 0, .int .i64 0] 81)).cell? ⟨lg, 1, none⟩ = some (.slice (some ⟨g0, off0 * 3, none⟩) L.segs.length cap0) := Heap.cell (Heap.alloc_old HP6.out.core _) 1
    obtain ⟨cur6, hrow⟩ := HP6.out.row
    have HR := Lib.hid hrow; clear hrow
    go_region_law ((refine step_push_seg (W := w6.drew) (by rfl) _ _ (by rfl) g0 off0 cap0 L.segs cur6 (by rfl) (HR.out.off ((Off.refl None w6).drew) (fun h => h)) ⟨first, 0, 0⟩ #[.int .u64 first, .int .i64 0, .int .i64 0] (by rfl) (by rfl) hx ?_; intro g off cap w7 hrow7 ho7 hfr7 hlt7; have hlg7 : w7.heap[lg]? = some (.cells (logCells d (.slice (some ⟨g0, off0 * 3, none⟩) L.segs.length cap0) ⟨first, 0, 0⟩) 112 (0, 0)) := ho7.at_ (b := lg) (((Off.refl None w6).drew).at_ HP6.out.core (fun h => h)) (fun e => HP6.out.ne e.symm); have c7 : w7.cell? ⟨lg, 1, none⟩ = some (.slice (some ⟨g0, off0 * 3, none⟩) L.segs.length cap0) := Heap.cell hlg7 1; have f7 : w7.frozen? ⟨lg, 1, none⟩ = false := Heap.frozen hlg7 1))
    all_goals
      have hlg8 : (w7.setCell ⟨lg, 1, none⟩ (.slice (some ⟨g, off * 3, none⟩) (L.segs.length + 1) cap)).heap[lg]? = some (.cells (logCells d (.slice (some ⟨g, off * 3, none⟩) (L.segs.length + 1) cap) ⟨first, 0, 0⟩) 112 (0, 0)) := (Heap.set hlg7 1 _).trans rfl
      have p8 : (w7.setCell ⟨lg, 1, none⟩ (.slice (some ⟨g, off * 3, none⟩) (L.segs.length + 1) cap)).cell? ⟨lg, 0, none⟩ = some (.pointer (some ⟨d, 0, none⟩)) := Heap.cell hlg8 0
      have hgl : g ≠ lg := by
        rcases hfr7 with h | h
        · intro e; exact HP6.out.ne (by rw [← h, e])
        · have h1 : w6.heap.size < g := h; have := Heap.lt HP6.out.core; omega
      have hpa8 : LogAt (w7.setCell ⟨lg, 1, none⟩ (.slice (some ⟨g, off * 3, none⟩) (L.segs.length + 1) cap)) lg d ⟨L.segs, ⟨first, 0, 0⟩, ⟨first, 0, 0⟩⟩ g off cap := by
        refine ⟨?_, hrow7.imp fun _ h => h.off ((Off.refl (Only lg) w7).set 1 (.slice (some ⟨g, off * 3, none⟩) (L.segs.length + 1) cap)) hgl, hgl⟩
        rw [LogV.len ⟨L.segs, ⟨first, 0, 0⟩, ⟨first, 0, 0⟩⟩]
        exact hlg8
      have ho68 : Off (fun b => b = lg ∨ b = g0) w6 (w7.setCell ⟨lg, 1, none⟩ (.slice (some ⟨g, off * 3, none⟩) (L.segs.length + 1) cap)) :=
        ((((Off.refl _ w6).drew).trans ho7 (fun _ _ h => h)).mono (fun _ _ h => .inr h)).setCell (p := ⟨lg, 1, none⟩) (.inl (.inl rfl)) _
      have hd8 : DiskIn (w7.setCell ⟨lg, 1, none⟩ (.slice (some ⟨g, off * 3, none⟩) (L.segs.length + 1) cap)) d D1 (Grow Fd w w5) :=
        (HD5.out.off HO6.out (fun b hb1 hb e => by
          have e : b = lg := e
          subst e
          rcases hb with hb | hb
          · exact hsl hb
          · have := HP.out.lts; omega)).off ho68 (fun b hb1 hb e => by
          have hlgw := HP.out.lts
          rcases e with e | e
          · subst e
            rcases hb with hb | hb
            · exact hsl hb
            · omega
          · subst e
            rcases hb with hb | hb
            · exact hsg hb
            · omega)
      have HPA := Lib.hid hpa8; have HO8 := Lib.hid ho68; have HD8 := Lib.hid hd8
      clear hlg7 hlg8 hpa8 ho68 hd8
      go_wp2_with fail
      refine (DiskW.syncDir_any _ d D1 _ HD8.out).mono ?_
      rintro e w9 ⟨rfl, hd9, ho9⟩
      have HD9 := Lib.hid hd9; have HO9 := Lib.hid ho9
      clear hd9 ho9
      go_wp2
      go_ret
      rw [HSP.out]
      have hlgw := HP.out.lts
      have hs5 := HO5.out.size
      have hs6 := HO6.out.size
      have hs8 := HO8.out.size
      have hs9 := HO9.out.size
      have hgw : g = g0 ∨ w5.heap.size < g := hfr7.imp id (fun h => by have h : w6.heap.size < g := h; omega)
      have hgl8 : g < (w7.setCell ⟨lg, 1, none⟩ (.slice (some ⟨g, off * 3, none⟩) (L.segs.length + 1) cap)).heap.size := by rw [Heap.set_size]; exact hlt7
      have hFl : ¬ Grow Fd w w5 lg := fun h => h.elim hsl (fun h => by omega)
      have hFg : ¬ Grow Fd w w5 g := fun h => by
        rcases hgw with h1 | h1
        · rw [h1] at h
          exact h.elim hsg (fun h => by omega)
        · rcases h with h | h
          · have := hFb g h; omega
          · omega
      have hup : ∀ b, Grow (Grow Fd w w5) (w7.setCell ⟨lg, 1, none⟩ (.slice (some ⟨g, off * 3, none⟩) (L.segs.length + 1) cap)) w9 b → Grow Fd w w9 b := fun b hb => by
        rcases hb with (hb | hb) | hb
        · exact .inl hb
        · exact .inr ⟨hb.1, by omega⟩
        · exact .inr ⟨by omega, hb.2⟩
      have hpre9 := HPA.out.off HO9.out hFl hFg
      refine ⟨rfl, HD9.out.mono (fun b _ hb => hup b hb), ?_, fun _ => ⟨g, off, cap, _, hpre9, hfr7.imp id (fun h => ?_), HD9.out, fun h => h.elim hFl (fun h => by omega), fun h => h.elim hFg (fun h => by omega), hup⟩, fun h => by cases h⟩
      · refine ((HO5.out.mono (fun _ _ h => .inl h)).trans ((HO6.out.mono (fun _ _ h => .inr (.inl h)) : Off (fun b => Fd b ∨ b = lg ∨ b = g0) w5 w6).trans (HO8.out.mono (fun _ _ h => .inr h)) (fun _ _ h => h)) (fun _ _ h => h)).trans HO9.out (fun b hb h => ?_)
        rcases h with h | h
        · exact .inl h
        · omega
      · have h : w6.heap.size < g := h
        exact ⟨by omega, by omega⟩
  · have hsp : D.started first = (D1, er, false) := by unfold DiskV.started; rw [HCR.out]; dsimp only; rw [if_neg he]
    have HSP := Lib.hid hsp; clear hsp
    have t1 : (er != 0) = true := by rw [bne_iff_ne]; exact he
    go_wp2
    go_ret
    rw [HSP.out]
    exact ⟨rfl, HD5.out, HO5.out.mono (fun _ _ h => .inl h), (fun h => by cases h), fun _ => HP5.out⟩
set_option maxHeartbeats 2000000 in
set_option maxRecDepth 100000 in
theorem roll_off (w : World) (lg d n N : Nat) (L : LogV) (D : DiskV) (F : Nat → Prop) (off : Nat) (h : Store w lg d L D F off) (hG : Glob n w) (hF : ∀ b, F b → n ≤ b) (hok : L.Ok) (hl : Lim N D) (hx : L.segs.length ≤ 1000000) :
    Calls Tryz.prog 57 #[.pointer (some ⟨lg, 0, none⟩)] w fun e w' =>
      e = .returned (.int .i64 (L.roll D).2.2) ∧ (∃ off', Store w' lg d (L.roll D).1 (L.roll D).2.1 (Grow F w w') off') ∧ Off F w w' := by
  obtain ⟨g, cap, Fd, hst⟩ := h
  have HST := Lib.hid hst; clear hst
  have HGL := Lib.hid hG; clear hG
  have HFN := Lib.hid hF; clear hF
  have HOK := Lib.hid hok; clear hok
  have HL := Lib.hid hl; clear hl
  go_enter Tryz.func57, Tryz.ntmps57
  go_wp2_with fail
  refine (active_any _ lg d L g off cap HST.out.log).mono ?_
  rintro e w1 ⟨rfl, ho1⟩
  have hst1 := HST.out.quiet ho1
  obtain ⟨q0, q1, q2, qf⟩ := hst1.log.act
  have p0 : w1.cell? ⟨lg, 0, none⟩ = some (.pointer (some ⟨d, 0, none⟩)) := hst1.log.own.1
  have HST1 := Lib.hid hst1; have HO1 := Lib.hid ho1
  clear hst1 ho1
  by_cases hm : L.act.many = 0
  · have hsp : L.roll D = (L, D, 0) := by unfold LogV.roll; rw [if_pos hm]
    have HSP := Lib.hid hsp; clear hsp
    rw [hm] at q1
    go_wp2
    go_ret
    rw [HSP.out]
    exact ⟨rfl, ⟨off, g, cap, Fd, HST1.out.log, HST1.out.disk, HST1.out.sepL, HST1.out.sepG, .inl HST1.out.inL, .inl HST1.out.inG, fun b hb => .inl (HST1.out.inD b hb)⟩, HO1.out.mono (fun _ _ h => h.elim)⟩
  · have t0 : ((L.act.many : Int) == 0) = false := by rw [beq_eq_false_iff_ne]; omega
    go_wp2_with fail
    have hfst : L.act.first < 18446744073709551616 := by have := HOK.out.act.sum; omega
    have hac := fun W (hW : Off None w1 W) => active_any W lg d L g off cap (HST1.out.quiet hW).log
    have HAC := Lib.hid hac; clear hac
    have hname := fun W (hW : Off None w1 W) => name_any W L.act.first hfst ((HGL.out.none HO1.out).none hW).pow
    have HNM := Lib.hid hname; clear hname
    have hdk := fun W (hW : Off None w1 W) => DiskW.sync_any W d D Fd (HST1.out.disk.off hW (fun _ _ _ h => h)) (nameB L.act.first) (by rw [nameB_size hfst]; decide)
    have HDK := Lib.hid hdk; clear hdk
    have hsl := HST1.out.sepL
    have hsg := HST1.out.sepG
    clear q1 q2 qf t0
    go_region_held3 (fun W => W.cell? ⟨lg, 0, none⟩ = some (.pointer (some ⟨d, 0, none⟩)) ∧ W.cell? ⟨g, off * 3 + L.full.length * 3, none⟩ = some (.int .u64 L.act.first))
      (first | exact ⟨p0, q0⟩ | exact ⟨l1, l2⟩ | exact ⟨k1, k2⟩ | exact ⟨j1, j2⟩)
      (first
        | (go_at_call 78; refine (HAC.out _ ((Off.refl None w1).drew)).mono ?_; rintro e w3 ⟨rfl, ho3⟩; have j1 : w3.cell? ⟨lg, 0, none⟩ = some (.pointer (some ⟨d, 0, none⟩)) := ho3.keep p0 (fun h => h); have j2 : w3.cell? ⟨g, off * 3 + L.full.length * 3, none⟩ = some (.int .u64 L.act.first) := ho3.keep q0 (fun h => h); have ho13 : Off None w1 w3 := ((Off.refl None w1).drew).trans ho3 (fun _ _ h => h); clear ho3)
        | (go_at_call 80; refine (HNM.out w3 ho13).mono ?_; rintro e w4 ⟨rfl, ho4⟩; have k1 : w4.cell? ⟨lg, 0, none⟩ = some (.pointer (some ⟨d, 0, none⟩)) := ho4.keep j1 (fun h => h); have k2 : w4.cell? ⟨g, off * 3 + L.full.length * 3, none⟩ = some (.int .u64 L.act.first) := ho4.keep j2 (fun h => h); have ho14 : Off None w1 w4 := ho13.trans ho4 (fun _ _ h => h); clear ho4 ho13)
        | (go_at_call 79; refine (HDK.out w4 ho14).mono ?_; rintro e w5 ⟨rfl, hd5, ho5⟩; have l1 : w5.cell? ⟨lg, 0, none⟩ = some (.pointer (some ⟨d, 0, none⟩)) := ho5.keep k1 hsl; have l2 : w5.cell? ⟨g, off * 3 + L.full.length * 3, none⟩ = some (.int .u64 L.act.first) := ho5.keep k2 hsg))
    have hst5 := (HST1.out.quiet ho14).disk' hd5 ho5
    have hoF : Off F w w5 := (HO1.out.mono (fun _ _ h => h.elim)).trans ((ho14.mono (fun _ _ h => h.elim) : Off F w1 w4).trans ((HST1.out.quiet ho14).offF ho5) (fun _ _ h => h)) (fun _ _ h => h)
    have hsz4 : w.heap.size ≤ w4.heap.size := Nat.le_trans HO1.out.size ho14.size
    have HST5 := Lib.hid hst5
    have HOF := Lib.hid hoF
    have HS5 := Lib.hid ho5.size
    clear hst5 hoF ho14 hd5 l1 l2 k1 k2 j1 j2 p0 q0 ho5
    obtain ⟨D', er, hda⟩ : ∃ D' er, D.sync (nameB L.act.first) = (D', er) := ⟨_, _, rfl⟩
    have hlim := lim_sync HL.out (nameB L.act.first)
    rw [hda] at HST5 hlim ⊢
    dsimp only at HST5 hlim ⊢
    have HLM := Lib.hid hlim; clear hlim
    have HDA := Lib.hid hda; clear hda
    by_cases he : er = 0
    · subst he
      go_wp2_with fail
      refine (active_any _ lg d L g off cap HST5.out.log).mono ?_
      rintro e w6 ⟨rfl, ho6⟩
      have hst6 := HST5.out.quiet ho6
      obtain ⟨q0, q1, q2, qf⟩ := hst6.log.act
      obtain ⟨p0, p1, p2, p3, p4, pf⟩ := hst6.log.own
      have pf2 := pf 2
      have pf3 := pf 3
      have pf4 := pf 4
      have hst7 := hst6.setDur L.act
      obtain ⟨w7, hw7⟩ : ∃ w7, w7 = ((w6.setCell ⟨lg, 2, none⟩ (.int .u64 L.act.first)).setCell ⟨lg, 3, none⟩ (.int .i64 L.act.many)).setCell ⟨lg, 4, none⟩ (.int .i64 L.act.size) := ⟨_, rfl⟩
      have ho67 : Off (Only lg) w6 w7 := by rw [hw7]; exact (((Off.refl (Only lg) w6).set 2 _).set 3 _).set 4 _
      rw [← hw7] at hst7
      have hok7 : ({ L with durable := L.act } : LogV).Ok := ⟨HOK.out.segs, HOK.out.act⟩
      have HST6 := Lib.hid hst6; have HO6 := Lib.hid ho6; have HST7 := Lib.hid hst7; have HO7 := Lib.hid ho67; have HW7 := Lib.hid hw7; have HOK7 := Lib.hid hok7
      clear hst6 ho6 hst7 ho67 hw7 hok7 pf p0 p1
      go_wp2_with fail
      rw [← HW7.out]
      refine (next_any _ lg d { L with durable := L.act } g off cap HST7.out.log HOK7.out).mono ?_
      rintro e w8 ⟨rfl, ho8⟩
      have HO8 := Lib.hid ho8
      have HST8 := Lib.hid (HST7.out.quiet ho8)
      clear ho8 q0 q1 q2 qf p2 p3 p4 pf2 pf3 pf4
      go_wp2_with fail
      have hst8 := HST8.out
      have hd8 : DiskIn w8 d D' (fun b => Grow Fd w4 w5 b ∧ b < w8.heap.size) := hst8.disk.mono (fun b hb h => ⟨h, hb⟩)
      have hlt8 := hst8.log.lts
      have hglob8 : Glob n w8 := HGL.out.off (((HOF.out.trans (HO6.out.mono (fun _ _ h => h.elim) : Off F w5 w6) (fun _ _ h => h)).trans (HO7.out.mono (fun b _ e => by rw [show b = lg from e]; exact HST1.out.inL) : Off F w6 w7) (fun _ _ h => h)).trans (HO8.out.mono (fun _ _ h => h.elim) : Off F w7 w8) (fun _ _ h => h)) HFN.out
      have hbeg := begin_off w8 lg d n N { L with durable := L.act } g off cap D' _ hst8.log hd8 (fun h => hst8.sepL h.1) (fun h => hst8.sepG h.1) hglob8 (fun b h => h.2) HLM.out hx L.act.end_ HOK.out.act.sum
      refine hbeg.mono ?_
      rintro e w9 ⟨rfl, hd9, ho9, hyes, hno⟩
      have HD9 := Lib.hid hd9; have HO9 := Lib.hid ho9; have HY := Lib.hid hyes; have HNO := Lib.hid hno; have HL8 := Lib.hid hlt8; have HS8 := Lib.hid hst8
      clear hd9 ho9 hyes hno hbeg hd8 hglob8 hlt8 hst8
      obtain ⟨D2, e2, st, hst⟩ : ∃ D2 e2 st, D'.started L.act.end_ = (D2, e2, st) := ⟨_, _, _, rfl⟩
      rw [hst] at HD9 HY HNO ⊢
      dsimp only at HD9 HY HNO ⊢
      have HSTA := Lib.hid hst; clear hst
      go_wp2
      go_ret
      have hoF9 : Off F w w9 := by
        refine (((HOF.out.trans (HO6.out.mono (fun _ _ h => h.elim) : Off F w5 w6) (fun _ _ h => h)).trans (HO7.out.mono (fun b _ e => by rw [show b = lg from e]; exact HST1.out.inL) : Off F w6 w7) (fun _ _ h => h)).trans (HO8.out.mono (fun _ _ h => h.elim) : Off F w7 w8) (fun _ _ h => h)).trans HO9.out (fun b hb h => ?_)
        rcases h with h | h | h
        · rcases h.1 with h | h
          · exact HST1.out.inD b h
          · omega
        · rw [h]; exact HST1.out.inL
        · cases h; exact HST1.out.inG
      have hs49 : w4.heap.size ≤ w5.heap.size ∧ w5.heap.size ≤ w8.heap.size ∧ w8.heap.size ≤ w9.heap.size := ⟨HS5.out, Nat.le_trans HO6.out.size (Nat.le_trans HO7.out.size HO8.out.size), HO9.out.size⟩
      have hupF : ∀ b, Grow (fun b => Grow Fd w4 w5 b ∧ b < w8.heap.size) w8 w9 b → Grow F w w9 b := fun b hb => by
        rcases hb with ⟨hb, hb2⟩ | hb
        · rcases hb with hb | hb
          · exact .inl (HST1.out.inD b hb)
          · exact .inr ⟨by omega, by omega⟩
        · exact .inr ⟨by omega, hb.2⟩
      cases st with
      | true =>
        have hsp : L.roll D = (⟨L.segs, ⟨L.act.end_, 0, 0⟩, ⟨L.act.end_, 0, 0⟩⟩, D2, e2) := by
          unfold LogV.roll; rw [if_neg hm, HDA.out]; dsimp only; rw [if_pos rfl, HSTA.out]; dsimp only; rw [if_pos rfl]
        rw [hsp]
        obtain ⟨g', off', cap', Fd', hl9, hg9, hd9, hsl9, hsg9, hup9⟩ := HY.out rfl
        refine ⟨rfl, ⟨off', g', cap', Fd', hl9, hd9, hsl9, hsg9, .inl HST1.out.inL, ?_, fun b hb => hupF b (hup9 b hb)⟩, hoF9⟩
        rcases hg9 with h | h
        · rw [h]; exact .inl HST1.out.inG
        · exact .inr ⟨by omega, h.2⟩
      | false =>
        have hsp : L.roll D = ({ L with durable := L.act }, D2, e2) := by
          unfold LogV.roll; rw [if_neg hm, HDA.out]; dsimp only; rw [if_pos rfl, HSTA.out]; dsimp only; rw [if_neg (by decide)]
        rw [hsp]
        have hp9 := HNO.out rfl
        refine ⟨rfl, ⟨off, g, cap, _, hp9, HD9.out, ?_, ?_, .inl HST1.out.inL, .inl HST1.out.inG, hupF⟩, hoF9⟩
        · intro h
          rcases h with h | h
          · exact HS8.out.sepL h.1
          · have := HL8.out.1; omega
        · intro h
          rcases h with h | h
          · exact HS8.out.sepG h.1
          · have := HL8.out.2; omega
    · have hsp : L.roll D = (L, D', er) := by
        unfold LogV.roll; rw [if_neg hm, HDA.out]; dsimp only; rw [if_neg he]
      have HSP := Lib.hid hsp; clear hsp
      have t1 : (er != 0) = true := by rw [bne_iff_ne]; exact he
      go_wp2
      go_ret
      rw [HSP.out]
      refine ⟨rfl, ⟨off, g, cap, _, HST5.out.log, HST5.out.disk, HST5.out.sepL, HST5.out.sepG, .inl HST1.out.inL, .inl HST1.out.inG, fun b hb => ?_⟩, HOF.out⟩
      rcases hb with hb | hb
      · exact .inl (HST1.out.inD b hb)
      · exact .inr ⟨by omega, hb.2⟩
end Seg
end Go.Proofs.YtndgnlblbjpogaaGreatDoor
namespace Go.Proofs.YtndgnlblbjpogaaGreatDoor
open Go Go.RowKit Go.Shelf
/-- The first segment's number. -/
def LogV.first0 (L : LogV) : Nat := match L.full with
  | [] => L.act.first
  | s :: _ => s.first
theorem LogV.first0_get (L : LogV) (h : 0 < L.segs.length) : (L.segs[0]'h).first = L.first0 := by
  obtain ⟨full, act, dur⟩ := L
  cases full <;> rfl
def ledAgg (l : LedgerV) (sv : Value) : Value := .agg #[.int .u64 l.first, .int .u64 l.next, sv]
def spoolCells (d lg : Nat) (P : SpoolV) (sv : Value) : Array Value := #[.pointer (some ⟨d, 0, none⟩), .int .i64 P.budget, .int .i64 P.segm, .pointer (some ⟨lg, 0, none⟩), .int .u64 P.led.first, .int .u64 P.led.next, sv]
/-- A spool in memory, with all names told. -/
structure SpoolIn (w : World) (sp d : Nat) (P : SpoolV) (F : Nat → Prop) (lg off : Nat) (sv : Value) (Fs S : Nat → Prop) : Prop where
  core : w.heap[sp]? = some (.cells (spoolCells d lg P sv) 72 (0, 0))
  st : Store w lg d P.log P.disk Fs off
  led : LedgerAt w S (ledAgg P.led sv) P.led
  sepF : ¬ Fs sp
  sepS : ¬ S sp
  sep : ∀ b, Fs b → ¬ S b
  inP : F sp
  inF : ∀ b, Fs b → F b
  inS : ∀ b, S b → F b
  lowF : ∀ b, Fs b → b < w.heap.size
  lowS : ∀ b, S b → b < w.heap.size
def SpoolAt (w : World) (sp d : Nat) (P : SpoolV) (F : Nat → Prop) : Prop := ∃ lg off sv Fs S, SpoolIn w sp d P F lg off sv Fs S
theorem Store.low {w : World} {lg d off : Nat} {L : LogV} {D : DiskV} {F : Nat → Prop} (h : Store w lg d L D F off) : Store w lg d L D (fun b => F b ∧ b < w.heap.size) off := by
  obtain ⟨g, cap, Fd, h⟩ := h
  have hl := h.log.lts
  exact ⟨g, cap, fun b => Fd b ∧ b < w.heap.size, h.log, h.disk.mono fun b hb x => ⟨x, hb⟩, fun x => h.sepL x.1, fun x => h.sepG x.1, ⟨h.inL, hl.1⟩, ⟨h.inG, hl.2⟩, fun b x => ⟨h.inD b x.1, x.2⟩⟩
theorem Store.mono {w : World} {lg d off : Nat} {L : LogV} {D : DiskV} {F F' : Nat → Prop} (h : Store w lg d L D F off) (hF : ∀ b, F b → F' b) : Store w lg d L D F' off := by
  obtain ⟨g, cap, Fd, h⟩ := h
  exact ⟨g, cap, Fd, h.log, h.disk, h.sepL, h.sepG, hF _ h.inL, hF _ h.inG, fun b x => hF b (h.inD b x)⟩
theorem Store.off {w w' : World} {lg d off : Nat} {L : LogV} {D : DiskV} {F G : Nat → Prop} (h : Store w lg d L D F off) (ho : Off G w w') (hG : ∀ b, F b → ¬ G b) : Store w' lg d L D F off := by
  obtain ⟨g, cap, Fd, h⟩ := h
  exact ⟨g, cap, Fd, h.log.off ho (hG _ h.inL) (hG _ h.inG), h.disk.off ho (fun b _ x => hG b (h.inD b x)), h.sepL, h.sepG, h.inL, h.inG, h.inD⟩
namespace SpoolIn
variable {w w' : World} {sp d lg off : Nat} {P : SpoolV} {F G Fs S : Nat → Prop} {sv : Value}
theorem off_ (h : SpoolIn w sp d P F lg off sv Fs S) (ho : Off G w w') (hG : ∀ b, b < w.heap.size → F b → ¬ G b) : SpoolIn w' sp d P F lg off sv Fs S :=
  ⟨ho.at_ h.core (hG _ (Heap.lt h.core) h.inP), h.st.off ho (fun b x => hG b (h.lowF b x) (h.inF b x)), h.led.off ho (fun b x hb => hG b hb (h.inS b x)), h.sepF, h.sepS, h.sep, h.inP, h.inF, h.inS, fun b x => Nat.lt_of_lt_of_le (h.lowF b x) ho.size, fun b x => Nat.lt_of_lt_of_le (h.lowS b x) ho.size⟩
theorem quiet (h : SpoolIn w sp d P F lg off sv Fs S) (ho : Off None w w') : SpoolIn w' sp d P F lg off sv Fs S := h.off_ ho fun _ _ _ x => x
theorem mono {F' : Nat → Prop} (h : SpoolIn w sp d P F lg off sv Fs S) (hF : ∀ b, b < w.heap.size → F b → F' b) : SpoolIn w sp d P F' lg off sv Fs S :=
  ⟨h.core, h.st, h.led, h.sepF, h.sepS, h.sep, hF _ (Heap.lt h.core) h.inP, fun b x => hF b (h.lowF b x) (h.inF b x), fun b x => hF b (h.lowS b x) (h.inS b x), h.lowF, h.lowS⟩
/-- The cells of a spool. -/
theorem cells (h : SpoolIn w sp d P F lg off sv Fs S) :
    w.cell? ⟨sp, 0, none⟩ = some (.pointer (some ⟨d, 0, none⟩)) ∧ w.cell? ⟨sp, 1, none⟩ = some (.int .i64 P.budget) ∧ w.cell? ⟨sp, 2, none⟩ = some (.int .i64 P.segm) ∧ w.cell? ⟨sp, 3, none⟩ = some (.pointer (some ⟨lg, 0, none⟩)) ∧
    w.cell? ⟨sp, 4, none⟩ = some (.int .u64 P.led.first) ∧ w.cell? ⟨sp, 5, none⟩ = some (.int .u64 P.led.next) ∧ w.cell? ⟨sp, 6, none⟩ = some sv ∧ ∀ i, w.frozen? ⟨sp, i, none⟩ = false :=
  ⟨Heap.cell h.core 0, Heap.cell h.core 1, Heap.cell h.core 2, Heap.cell h.core 3, Heap.cell h.core 4, Heap.cell h.core 5, Heap.cell h.core 6, Heap.frozen h.core⟩
/-- Behind an operation of the log's. -/
theorem stored_in {L' : LogV} {D' : DiskV} {off' : Nat} (h : SpoolIn w sp d P F lg off sv Fs S) (hs : Store w' lg d L' D' (Grow Fs w w') off') (ho : Off Fs w w') :
    SpoolIn w' sp d { P with log := L', disk := D' } (Grow F w w') lg off' sv (fun b => Grow Fs w w' b ∧ b < w'.heap.size) S :=
  ⟨ho.at_ h.core h.sepF, hs.low, h.led.off ho (fun b x _ y => h.sep b y x), fun x => x.1.elim h.sepF (fun y => by have := Heap.lt h.core; omega), h.sepS,
    fun b x y => x.1.elim (fun z => h.sep b z y) (fun z => by have := h.lowS b y; omega), .inl h.inP, fun b x => x.1.imp (h.inF b) id, fun b x => .inl (h.inS b x), fun b x => x.2, fun b x => Nat.lt_of_lt_of_le (h.lowS b x) ho.size⟩
theorem stored {L' : LogV} {D' : DiskV} {off' : Nat} (h : SpoolIn w sp d P F lg off sv Fs S) (hs : Store w' lg d L' D' (Grow Fs w w') off') (ho : Off Fs w w') :
    SpoolAt w' sp d { P with log := L', disk := D' } (Grow F w w') ∧ Off F w w' :=
  ⟨⟨_, _, _, _, _, h.stored_in hs ho⟩, ho.mono fun b _ x => h.inF b x⟩
end SpoolIn
namespace SpoolAt
variable {w w' : World} {sp d : Nat} {P : SpoolV} {F G : Nat → Prop}
theorem off_ (h : SpoolAt w sp d P F) (ho : Off G w w') (hG : ∀ b, b < w.heap.size → F b → ¬ G b) : SpoolAt w' sp d P F := by
  obtain ⟨lg, off, sv, Fs, S, h⟩ := h
  exact ⟨lg, off, sv, Fs, S, h.off_ ho hG⟩
theorem quiet (h : SpoolAt w sp d P F) (ho : Off None w w') : SpoolAt w' sp d P F := h.off_ ho fun _ _ _ x => x
theorem mono {F' : Nat → Prop} (h : SpoolAt w sp d P F) (hF : ∀ b, b < w.heap.size → F b → F' b) : SpoolAt w sp d P F' := by
  obtain ⟨lg, off, sv, Fs, S, h⟩ := h
  exact ⟨lg, off, sv, Fs, S, h.mono hF⟩
theorem lt (h : SpoolAt w sp d P F) : sp < w.heap.size ∧ F sp := by
  obtain ⟨lg, off, sv, Fs, S, h⟩ := h
  exact ⟨Heap.lt h.core, h.inP⟩
end SpoolAt
/-- A spool behind some operations that began at w. -/
structure Sp (w : World) (n sp d : Nat) (F : Nat → Prop) (P : SpoolV) (w' : World) : Prop where
  at_ : SpoolAt w' sp d P (Grow F w w')
  off : Off F w w'
  glob : Glob n w'
  low : ∀ b, F b → n ≤ b
  sp_ : F sp
  spl : sp < w.heap.size
namespace Sp
variable {w w1 w2 : World} {n sp d : Nat} {F : Nat → Prop} {P P' : SpoolV}
theorem start (h : SpoolAt w sp d P F) (hG : Glob n w) (hF : ∀ b, F b → n ≤ b) : Sp w n sp d F P w := ⟨h.mono (fun _ _ x => .inl x), Off.refl _ _, hG, hF, h.lt.2, h.lt.1⟩
theorem lowG (h : Sp w n sp d F P w1) : ∀ b, Grow F w w1 b → n ≤ b := fun b x => x.elim (h.low b) (fun y => by have := h.low sp h.sp_; have := h.spl; omega)
theorem next (h : Sp w n sp d F P w1) (h' : SpoolAt w2 sp d P' (Grow (Grow F w w1) w1 w2)) (ho : Off (Grow F w w1) w1 w2) : Sp w n sp d F P' w2 :=
  ⟨h'.mono (fun b _ hb => grow2 h.off.size ho.size b hb), h.off.trans_grow ho, h.glob.off ho h.lowG, h.low, h.sp_, h.spl⟩
theorem quiet (h : Sp w n sp d F P w1) (ho : Off None w1 w2) : Sp w n sp d F P w2 :=
  ⟨(h.at_.quiet ho).mono (fun _ _ hb => hb.imp id (fun x => ⟨x.1, Nat.lt_of_lt_of_le x.2 ho.size⟩)), h.off.quiet_trans ho, h.glob.none ho, h.low, h.sp_, h.spl⟩
end Sp
namespace Spool
variable {w w1 : World} {n sp d : Nat} {F : Nat → Prop} {P : SpoolV}
theorem rows {w : World} {base n : Nat} {v : Value} {xs : List SegV} (h : w.ownsRow base 81 3 v n (xs.flatMap segCells)) :
    ∃ A c, v = .slice A xs.length c ∧ (xs.length : Int) ≤ 9223372036854775807 ∧ ∀ k (hk : k < xs.length), ∃ g, A = some ⟨g, 0, none⟩ ∧ base ≤ g ∧ g < w.heap.size ∧ w.cell? ⟨g, k * 3, none⟩ = some (.int .u64 (xs[k].first : Int)) ∧ w.cell? ⟨g, k * 3 + 1, none⟩ = some (.int .i64 (xs[k].many : Int)) ∧ w.cell? ⟨g, k * 3 + 2, none⟩ = some (.int .i64 (xs[k].size : Int)) := by
  have hfl := flat_len xs
  obtain ⟨hl, ⟨rfl, h0⟩ | ⟨g, cap, cur, rfl, hg, hb, hle, hmx, hsz, ht⟩⟩ := h
  · exact ⟨none, 0, by rw [show xs.length = 0 by omega], by omega, fun k hk => absurd hk (by omega)⟩
  · have hmx2 : cap ≤ 2 ^ 63 - 1 := hmx
    have hn : n = xs.length := by omega
    subst hn
    refine ⟨_, _, rfl, by omega, fun k hk => ⟨g, rfl, hg, Heap.lt hb, ?_⟩⟩
    have hf := flat_at xs k xs[k] (List.getElem?_eq_getElem hk)
    rw [← ht] at hf
    rw [List.getElem?_take_of_lt (by omega), List.getElem?_take_of_lt (by omega), List.getElem?_take_of_lt (by omega)] at hf
    simp only [Array.getElem?_toList] at hf
    rw [Heap.cell hb, Heap.cell hb, Heap.cell hb]
    exact hf
/-- What Segs answers, of a spool's log. -/
theorem segs_of (h : SpoolAt w sp d P F) (hn : P.log.segs.length ≤ 1000000) : ∃ lg, w.cell? ⟨sp, 3, none⟩ = some (.pointer (some ⟨lg, 0, none⟩)) ∧ ∀ W, Off None w W →
    Calls Tryz.prog 45 #[.pointer (some ⟨lg, 0, none⟩)] W fun e w' => ∃ v, e = .returned v ∧ w'.ownsRow W.heap.size 81 3 v P.log.segs.length (P.log.segs.flatMap segCells) ∧ Off None W w' := by
  obtain ⟨lg, off, sv, Fs, S, h⟩ := h
  obtain ⟨g, cap, Fd, hst⟩ := h.st
  exact ⟨lg, h.cells.2.2.2.1, fun W hW => Seg.segs_any W lg d P.log g off cap (hst.quiet hW).log hn⟩
set_option maxHeartbeats 1000000 in
set_option maxRecDepth 100000 in
theorem more_any (w : World) (sp d : Nat) (F : Nat → Prop) (P : SpoolV) (h : SpoolAt w sp d P F) (hn : P.log.segs.length ≤ 1000000) :
    Calls Tryz.prog 69 #[.pointer (some ⟨sp, 0, none⟩)] w fun e w' => e = .returned (.bool (!decide (P.log.full = []))) ∧ Off None w w' := by
  obtain ⟨lg, c3, hsg⟩ := segs_of h hn
  have HSG := Lib.hid hsg
  clear hsg h
  go_enter Tryz.func69, Tryz.ntmps69
  go_wp2_with fail
  refine (HSG.out _ (Off.refl _ _)).mono ?_
  rintro e w1 ⟨v, rfl, hr, ho⟩
  obtain ⟨A, c, rfl, _, _⟩ := rows hr
  have HO := Lib.hid ho
  clear hr ho
  have hd : decide (1 < (P.log.segs.length : Int)) = !decide (P.log.full = []) := by
    rw [LogV.len P.log]
    cases P.log.full with
    | nil => rfl
    | cons x r => simp; omega
  go_wp2_with fail
  go_ret
  exact ⟨rfl, HO.out⟩
set_option maxHeartbeats 1000000 in
set_option maxRecDepth 100000 in
theorem first_any (w : World) (sp d : Nat) (F : Nat → Prop) (P : SpoolV) (h : SpoolAt w sp d P F) (hn : P.log.segs.length ≤ 1000000) :
    Calls Tryz.prog 70 #[.pointer (some ⟨sp, 0, none⟩)] w fun e w' => e = .returned (.int .u64 P.log.first0) ∧ Off None w w' := by
  obtain ⟨lg, c3, hsg⟩ := segs_of h hn
  have HSG := Lib.hid hsg
  clear hsg h
  go_enter Tryz.func70, Tryz.ntmps70
  go_wp2_with fail
  refine (HSG.out _ (Off.refl _ _)).mono ?_
  rintro e w1 ⟨v, rfl, hr, ho⟩
  obtain ⟨A, c, rfl, hfl, hcell⟩ := rows hr
  have hl := LogV.len P.log
  obtain ⟨g, rfl, _, _, c0, hrest⟩ := hcell 0 (by omega)
  clear hrest
  have HO := Lib.hid ho
  clear hr ho hcell
  have hlt : (0 : Int) < (P.log.segs.length : Int) := by omega
  have hh : P.log.first0 = (P.log.segs[0]'(by omega)).first := by
    rw [LogV.first0_get]
  rw [← hh] at c0
  clear hh
  go_wp2_with fail
  go_ret
  exact ⟨rfl, HO.out⟩
/-- The parts of a spool's log, behind what turned nothing. -/
theorem log_of (h : SpoolAt w sp d P F) : ∃ lg g off cap, w.cell? ⟨sp, 3, none⟩ = some (.pointer (some ⟨lg, 0, none⟩)) ∧ LogAt w lg d P.log g off cap := by
  obtain ⟨lg, off, sv, Fs, S, h⟩ := h
  obtain ⟨g, cap, Fd, hst⟩ := h.st
  exact ⟨lg, g, off, cap, h.cells.2.2.2.1, hst.log⟩
set_option maxRecDepth 100000 in
theorem bytes_any (w : World) (sp d : Nat) (F : Nat → Prop) (P : SpoolV) (h : SpoolAt w sp d P F) (hb : P.log.bytes ≤ 9223372036854775807) :
    Calls Tryz.prog 13 #[.pointer (some ⟨sp, 0, none⟩)] w fun e w' => e = .returned (.int .i64 P.log.bytes) ∧ Off None w w' := by
  obtain ⟨lg, g, off, cap, c3, hl⟩ := log_of h
  have HL := Lib.hid (Seg.bytes_any w lg d P.log g off cap hl hb)
  clear h hl
  go_enter Tryz.func13, Tryz.ntmps13
  go_wp2_with fail
  refine HL.out.mono ?_
  rintro e w1 ⟨rfl, ho⟩
  have HO := Lib.hid ho
  clear ho
  go_wp2_with fail
  go_ret
  exact ⟨rfl, HO.out⟩
set_option maxRecDepth 100000 in
theorem full_any (w : World) (sp d : Nat) (F : Nat → Prop) (P : SpoolV) (h : SpoolAt w sp d P F) (hb : P.log.bytes ≤ 9223372036854775807) :
    Calls Tryz.prog 54 #[.pointer (some ⟨sp, 0, none⟩)] w fun e w' => e = .returned (.bool P.full) ∧ Off None w w' := by
  have HB := Lib.hid (fun W hW => bytes_any W sp d F P (h.quiet (hW : Off None w W)) hb)
  have c1 : w.cell? ⟨sp, 1, none⟩ = some (.int .i64 P.budget) := by
    obtain ⟨lg, off, sv, Fs, S, h⟩ := h
    exact h.cells.2.1
  unfold SpoolV.full
  clear h
  go_enter Tryz.func54, Tryz.ntmps54
  go_wp2_with fail
  go_region_held3 (fun W => W.cell? ⟨sp, 1, none⟩ = some (.int .i64 P.budget))
    (first | exact c1 | exact d1)
    (first | (go_at_call 13; refine (HB.out _ ((Off.refl None w).drew)).mono ?_; rintro e w1 ⟨rfl, ho⟩; have d1 : w1.cell? ⟨sp, 1, none⟩ = some (.int .i64 P.budget) := ho.keep c1 (fun h => h)))
  all_goals
    go_wp2_with fail
    go_ret
    exact ⟨rfl, ((Off.refl None w).drew).quiet_trans ho⟩
set_option maxRecDepth 100000 in
theorem durable_any (w : World) (sp d : Nat) (F : Nat → Prop) (P : SpoolV) (h : SpoolAt w sp d P F) (hk : P.log.Ok) :
    Calls Tryz.prog 23 #[.pointer (some ⟨sp, 0, none⟩)] w fun e w' => e = .returned (.int .u64 P.log.durable.end_) ∧ Off None w w' := by
  obtain ⟨lg, g, off, cap, c3, hl⟩ := log_of h
  have HL := Lib.hid (Seg.durable_any w lg d P.log g off cap hl hk)
  clear h hl
  go_enter Tryz.func23, Tryz.ntmps23
  go_wp2_with fail
  refine HL.out.mono ?_
  rintro e w1 ⟨rfl, ho⟩
  have HO := Lib.hid ho
  clear ho
  go_wp2_with fail
  go_ret
  exact ⟨rfl, HO.out⟩
set_option maxRecDepth 100000 in
theorem get_any (w : World) (n sp d M N : Nat) (F : Nat → Prop) (P : SpoolV) (h : SpoolAt w sp d P F) (hG : Glob n w) (hk : P.Wk M N) (seq : Nat) (hq : seq < 18446744073709551616) :
    Calls Tryz.prog 28 #[.pointer (some ⟨sp, 0, none⟩), .int .u64 seq] w fun e w' => e = .returned (.tuple #[.string (P.log.get P.disk seq).1, .int .i64 (P.log.get P.disk seq).2]) ∧ Off None w w' := by
  obtain ⟨lg, off, sv, Fs, S, h⟩ := h
  have c3 := h.cells.2.2.2.1
  have HL := Lib.hid (Seg.get_any w lg d n N P.log P.disk Fs off h.st hG hk.ok hk.limN seq hq)
  clear h hk hG
  go_enter Tryz.func28, Tryz.ntmps28
  go_wp2_with fail
  refine HL.out.mono ?_
  rintro e w1 ⟨rfl, ho⟩
  have HO := Lib.hid ho
  clear ho
  go_wp2_with fail
  go_ret2
  exact ⟨rfl, HO.out⟩
/-- What the log's functions do, of a spool. -/
theorem inner (h : SpoolAt w sp d P F) (hF : ∀ b, F b → n ≤ b) : ∃ lg off Fs, w.cell? ⟨sp, 3, none⟩ = some (.pointer (some ⟨lg, 0, none⟩)) ∧ Store w lg d P.log P.disk Fs off ∧ (∀ b, Fs b → n ≤ b) ∧ ¬ Fs sp ∧
    ∀ w' L' D' off', Store w' lg d L' D' (Grow Fs w w') off' → Off Fs w w' → SpoolAt w' sp d { P with log := L', disk := D' } (Grow F w w') ∧ Off F w w' := by
  obtain ⟨lg, off, sv, Fs, S, h⟩ := h
  exact ⟨lg, off, Fs, h.cells.2.2.2.1, h.st, fun b hb => hF b (h.inF b hb), h.sepF, fun w' L' D' off' h1 h2 => h.stored h1 h2⟩
set_option maxRecDepth 100000 in
theorem sync_any (w w0 : World) (n sp d M N : Nat) (F : Nat → Prop) (P : SpoolV) (h : Sp w0 n sp d F P w) (hk : P.Wk M N) :
    Calls Tryz.prog 18 #[.pointer (some ⟨sp, 0, none⟩)] w fun e w' => e = .returned (.int .i64 P.sync.2) ∧ Sp w0 n sp d F P.sync.1 w' := by
  obtain ⟨lg, off, Fs, c3, hst, hfn, hns, hout⟩ := inner h.at_ h.lowG
  have HL := Lib.hid (Seg.sync_any w lg d n N P.log P.disk Fs off hst h.glob hfn hk.ok hk.limN)
  have HH := Lib.hid (And.intro h hout)
  clear h hst hfn hout hk
  go_enter Tryz.func18, Tryz.ntmps18
  go_wp2_with fail
  refine HL.out.mono ?_
  rintro e w1 ⟨rfl, hst1, ho⟩
  obtain ⟨h1, h2⟩ := HH.out.2 _ _ _ _ hst1 ho
  have H1 := Lib.hid (HH.out.1.next h1 h2)
  clear ho hst1 h1 h2
  go_wp2_with fail
  go_ret
  exact ⟨rfl, H1.out⟩
end Spool
end Go.Proofs.YtndgnlblbjpogaaGreatDoor
namespace Go.Proofs.YtndgnlblbjpogaaGreatDoor
open Go Go.RowKit Go.Shelf
theorem Store.disk' {w : World} {lg d off : Nat} {L : LogV} {D : DiskV} {F : Nat → Prop} (h : Store w lg d L D F off) : ∃ Fd : Nat → Prop, DiskIn w d D Fd ∧ (∀ b, Fd b → F b) ∧ ∀ w' D', DiskIn w' d D' (Grow Fd w w') → Off Fd w w' → Store w' lg d L D' (Grow F w w') off ∧ Off F w w' := by
  obtain ⟨g, cap, Fd, h⟩ := h
  exact ⟨Fd, h.disk, h.inD, fun w' D' hd ho => ⟨⟨g, cap, _, h.disk' hd ho⟩, h.offF ho⟩⟩
/-- A spool in memory, and a ledger that may be its next. -/
def SpoolWith (w : World) (sp d : Nat) (P : SpoolV) (F : Nat → Prop) (lv : Value) (l : LedgerV) : Prop := ∃ lg off sv Fs S, SpoolIn w sp d P F lg off sv Fs S ∧ LedgerAt w S lv l
namespace SpoolIn
variable {w w' : World} {sp d lg off : Nat} {P : SpoolV} {F G Fs S : Nat → Prop} {sv : Value}
/-- A new ledger, of what the old one had, and of new blocks. -/
theorem with_ (h : SpoolIn w sp d P F lg off sv Fs S) {lv : Value} {l : LedgerV} (hl : LedgerAt w' (And_ S w) lv l) (ho : Off None w w') : SpoolWith w' sp d P (Grow F w w') lv l := by
  have h' := h.quiet ho
  have hsp := Heap.lt h.core
  refine ⟨lg, off, sv, Fs, fun b => And_ S w b ∧ b < w'.heap.size, ⟨h'.core, h'.st, h'.led.mono fun b x hb => ⟨.inl x, hb⟩, h.sepF, fun x => x.1.elim h.sepS (fun y => by omega), fun b x y => y.1.elim (h.sep b x) (fun z => by have := h.lowF b x; omega), .inl h.inP, fun b x => .inl (h.inF b x), fun b x => x.1.imp (h.inS b) (fun y => ⟨y, x.2⟩), h'.lowF, fun b x => x.2⟩, hl.mono fun b x hb => ⟨x, hb⟩⟩
theorem setLed (h : SpoolIn w sp d P F lg off sv Fs S) {sv' : Value} {l : LedgerV} (hl : LedgerAt w S (ledAgg l sv') l) :
    SpoolIn (((w.setCell ⟨sp, 4, none⟩ (.int .u64 l.first)).setCell ⟨sp, 5, none⟩ (.int .u64 l.next)).setCell ⟨sp, 6, none⟩ sv') sp d { P with led := l } F lg off sv' Fs S := by
  have ho : Off (Only sp) w (((w.setCell ⟨sp, 4, none⟩ (.int .u64 l.first)).setCell ⟨sp, 5, none⟩ (.int .u64 l.next)).setCell ⟨sp, 6, none⟩ sv') := (((Off.refl (Only sp) w).set 4 _).set 5 _).set 6 _
  have hc := (Heap.set (Heap.set (Heap.set h.core 4 (.int .u64 l.first)) 5 (.int .u64 l.next)) 6 sv').trans rfl
  exact ⟨hc, h.st.off ho (fun b x e => h.sepF (by rw [← show b = sp from e]; exact x)), hl.off ho (fun b x _ e => h.sepS (by rw [← show b = sp from e]; exact x)), h.sepF, h.sepS, h.sep, h.inP, h.inF, h.inS, fun b x => Nat.lt_of_lt_of_le (h.lowF b x) ho.size, fun b x => Nat.lt_of_lt_of_le (h.lowS b x) ho.size⟩
end SpoolIn
theorem SpoolWith.at_ {w : World} {sp d : Nat} {P : SpoolV} {F : Nat → Prop} {lv : Value} {l : LedgerV} (h : SpoolWith w sp d P F lv l) : SpoolAt w sp d P F := by
  obtain ⟨lg, off, sv, Fs, S, h, _⟩ := h
  exact ⟨lg, off, sv, Fs, S, h⟩
theorem SpoolWith.quiet {w w' : World} {sp d : Nat} {P : SpoolV} {F : Nat → Prop} {lv : Value} {l : LedgerV} (h : SpoolWith w sp d P F lv l) (ho : Off None w w') : SpoolWith w' sp d P F lv l := by
  obtain ⟨lg, off, sv, Fs, S, h, hl⟩ := h
  exact ⟨lg, off, sv, Fs, S, h.quiet ho, hl.quiet ho⟩
theorem SpoolWith.mono {w : World} {sp d : Nat} {P : SpoolV} {F F' : Nat → Prop} {lv : Value} {l : LedgerV} (h : SpoolWith w sp d P F lv l) (hF : ∀ b, b < w.heap.size → F b → F' b) : SpoolWith w sp d P F' lv l := by
  obtain ⟨lg, off, sv, Fs, S, h, hl⟩ := h
  exact ⟨lg, off, sv, Fs, S, h.mono hF, hl⟩
/-- The spool's own ledger. -/
theorem SpoolAt.own {w : World} {sp d : Nat} {P : SpoolV} {F : Nat → Prop} (h : SpoolAt w sp d P F) : ∃ sv, w.cell? ⟨sp, 4, none⟩ = some (.int .u64 P.led.first) ∧ w.cell? ⟨sp, 5, none⟩ = some (.int .u64 P.led.next) ∧ w.cell? ⟨sp, 6, none⟩ = some sv ∧ SpoolWith w sp d P F (ledAgg P.led sv) P.led := by
  obtain ⟨lg, off, sv, Fs, S, h⟩ := h
  exact ⟨sv, h.cells.2.2.2.2.1, h.cells.2.2.2.2.2.1, h.cells.2.2.2.2.2.2.1, lg, off, sv, Fs, S, h, h.led⟩
namespace Spool
variable {w w0 w1 : World} {n sp d : Nat} {F : Nat → Prop} {P : SpoolV}
/-- Of a spool and a ledger: the disk; the ledger's value; what an operation of the disk leaves; the ledger set in. -/
theorem parts {lv : Value} {l : LedgerV} (h : SpoolWith w sp d P F lv l) : ∃ A k c Fd S, lv = ledAgg l (.slice A k c) ∧ w.cell? ⟨sp, 0, none⟩ = some (.pointer (some ⟨d, 0, none⟩)) ∧ DiskIn w d P.disk Fd ∧ (∀ b, Fd b → b < w.heap.size) ∧ ¬ Fd sp ∧ LedgerAt w S lv l ∧
    ∀ w' D', DiskIn w' d D' (Grow Fd w w') → Off Fd w w' → SpoolAt w' sp d { P with disk := D' } (Grow F w w') ∧ Off F w w' ∧
      SpoolAt (((w'.setCell ⟨sp, 4, none⟩ (.int .u64 l.first)).setCell ⟨sp, 5, none⟩ (.int .u64 l.next)).setCell ⟨sp, 6, none⟩ (.slice A k c)) sp d { P with disk := D', led := l } (Grow F w w') := by
  obtain ⟨lg, off, sv0, Fs, S, h, hl⟩ := h
  obtain ⟨Fd, hd, hdF, hst⟩ := h.st.disk'
  have h0 := hl
  obtain ⟨sv, ds, e1, h2, h3, h4⟩ := hl
  obtain ⟨A, c, rfl⟩ := h3.row.form
  refine ⟨A, ds.length, c, Fd, S, e1, h.cells.1, hd, fun b x => h.lowF b (hdF b x), fun x => h.sepF (hdF _ x), h0, fun w' D' hd' ho' => ?_⟩
  obtain ⟨s1, s2⟩ := hst w' D' hd' ho'
  have hin := h.stored_in s1 s2
  have hl' : LedgerAt w' S (ledAgg l (.slice A ds.length c)) l := by rw [e1] at h0; exact h0.off s2 (fun b x _ y => h.sep b y x)
  exact ⟨⟨_, _, _, _, _, hin⟩, s2.mono (fun b _ x => h.inF b x), ⟨_, _, _, _, _, hin.setLed hl'⟩⟩
set_option maxHeartbeats 1000000 in
set_option maxRecDepth 100000 in
theorem keep_any (w0 w : World) (n sp d M N : Nat) (F : Nat → Prop) (P : SpoolV) (lv : Value) (l : LedgerV) (h : Sp w0 n sp d F P w) (hw : SpoolWith w sp d P (Grow F w0 w) lv l) (hk : P.Wk M N) (hr : l.Right nmOk) (hn : l.next ≤ M) :
    Calls Tryz.prog 62 #[.pointer (some ⟨sp, 0, none⟩), lv] w fun e w' => e = .returned (.int .i64 (P.keep l).2) ∧ Sp w0 n sp d F (P.keep l).1 w' := by
  obtain ⟨A, ka, ca, Fd, S, rfl, c0, hd, hdl, hds, hl, hout⟩ := parts hw
  obtain ⟨w1, hw1, ho1, hb1, hs1⟩ := boxed w #[.int .u64 l.first, .int .u64 l.next, .slice A ka ca] 34
  have hM : l.next ≤ 700 := Nat.le_trans hn hk.le
  have hpt := Mark.put_any w1 S (ledAgg l (.slice A ka ca)) l (hl.quiet ho1) hr hM
  have c1 : w1.cell? ⟨sp, 0, none⟩ = some (.pointer (some ⟨d, 0, none⟩)) := ho1.keep c0 (fun h => h)
  have b0 : w1.cell? ⟨w.heap.size, 0, none⟩ = some (.int .u64 l.first) := Heap.cell hb1 0
  have b1 : w1.cell? ⟨w.heap.size, 1, none⟩ = some (.int .u64 l.next) := Heap.cell hb1 1
  have b2 : w1.cell? ⟨w.heap.size, 2, none⟩ = some (.slice A ka ca) := Heap.cell hb1 2
  obtain ⟨q, hq⟩ : ∃ q, q = w.heap.size := ⟨_, rfl⟩
  rw [← hq] at b0 b1 b2
  have hqd : ¬ Fd q := fun x => by have := hdl q x; omega
  have hmk := hr.mark (Nat.le_trans hn hk.le)
  have hwr := fun W (hW : Off None w W) => Swap.write_any W d N Fd P.disk (hd.off hW (fun _ _ _ h => h)) hk.limN (by have := hk.leN; omega) (Mark.markB l) hmk
  obtain ⟨D3, e3, hsw⟩ : ∃ D3 e3, P.disk.swap (Mark.markB l) = (D3, e3) := ⟨_, _, rfl⟩
  have hkp : P.keep l = if e3 = 0 then ({ P with disk := D3, led := l }, 0) else ({ P with disk := D3 }, e3) := by unfold SpoolV.keep; rw [hsw]
  have HKP := Lib.hid hkp
  rw [hsw] at hwr
  dsimp only at hwr
  have HPT := Lib.hid hpt
  have HO1 := Lib.hid ho1
  have HW1 := Lib.hid hw1
  have HQ := Lib.hid hq
  have HWR := Lib.hid hwr
  have HH := Lib.hid (And.intro h hout)
  clear h hk hr hn hw hb1 ho1 hpt hd hl hout c0 hM hs1 hw1 hwr hmk hdl hq hsw hkp hds
  unfold ledAgg at HPT
  unfold ledAgg
  go_enter Tryz.func62, Tryz.ntmps62
  go_wp2_with fail
  rw [← HW1.out, ← HQ.out]
  refine HPT.out.mono ?_
  rintro e w2 ⟨rfl, ho2⟩
  have d0 : w2.cell? ⟨q, 0, none⟩ = some (.int .u64 l.first) := ho2.keep b0 (fun h => h)
  have d1 : w2.cell? ⟨q, 1, none⟩ = some (.int .u64 l.next) := ho2.keep b1 (fun h => h)
  have d2 : w2.cell? ⟨q, 2, none⟩ = some (.slice A ka ca) := ho2.keep b2 (fun h => h)
  have d3 : w2.cell? ⟨sp, 0, none⟩ = some (.pointer (some ⟨d, 0, none⟩)) := ho2.keep c1 (fun h => h)
  have HO2 := Lib.hid (HO1.out.trans ho2 (fun _ _ h => h))
  clear ho2 b0 b1 b2 c1 HPT HW1
  go_wp2_with fail
  refine (HWR.out _ HO2.out).mono ?_
  rintro e w3 ⟨rfl, ha⟩
  have ho23 : Off Fd w2 w3 := ha.off
  have k0 : w3.cell? ⟨q, 0, none⟩ = some (.int .u64 l.first) := ho23.keep d0 hqd
  have k1 : w3.cell? ⟨q, 1, none⟩ = some (.int .u64 l.next) := ho23.keep d1 hqd
  have k2 : w3.cell? ⟨q, 2, none⟩ = some (.slice A ka ca) := ho23.keep d2 hqd
  obtain ⟨r1, r2, r3⟩ := HH.out.2 w3 D3 (ha.disk.mono (fun b _ x => x.imp id (fun y => ⟨Nat.le_trans HO2.out.size y.1, y.2⟩))) ((HO2.out.mono (fun _ _ x => x.elim) : Off Fd w w2).trans ho23 (fun _ _ x => x))
  have R := Lib.hid (And.intro r2 (And.intro (HH.out.1.next r1 r2) r3))
  have hsp3 : sp < w3.heap.size := Nat.lt_of_lt_of_le HH.out.1.at_.lt.1 r2.size
  have f4 : w3.frozen? ⟨sp, 4, none⟩ = false := by obtain ⟨_, _, _, _, _, r1⟩ := r1; exact r1.cells.2.2.2.2.2.2.2 4
  have f5 : w3.frozen? ⟨sp, 5, none⟩ = false := by obtain ⟨_, _, _, _, _, r1⟩ := r1; exact r1.cells.2.2.2.2.2.2.2 5
  have f6 : w3.frozen? ⟨sp, 6, none⟩ = false := by obtain ⟨_, _, _, _, _, r1⟩ := r1; exact r1.cells.2.2.2.2.2.2.2 6
  obtain ⟨sv9, s4, s5, s6, _⟩ := r1.own
  clear ha ho23 r1 r2 r3 d0 d1 d2 d3 HWR
  by_cases hz : e3 = 0
  · subst hz
    go_wp2_with fail
    go_ret
    rw [HKP.out, if_pos trivial]
    have ho5 : Off (Only sp) w3 (((w3.setCell ⟨sp, 4, none⟩ (.int .u64 l.first)).setCell ⟨sp, 5, none⟩ (.int .u64 l.next)).setCell ⟨sp, 6, none⟩ (.slice A ka ca)) := (((Off.refl (Only sp) w3).set 4 _).set 5 _).set 6 _
    have hF := HH.out.1.sp_
    refine ⟨rfl, HH.out.1.next (R.out.2.2.mono fun b _ x => x.imp id (fun y => ⟨y.1, Nat.lt_of_lt_of_le y.2 ho5.size⟩)) (R.out.1.trans (ho5.mono fun b _ x => ?_ : Off (Grow F w0 w) w3 _) (fun _ _ x => x))⟩
    rw [show b = sp from x]
    exact .inl hF
  · have k1 : (e3 == 0) = false := by simpa using hz
    go_wp2_with fail
    go_ret
    rw [HKP.out, if_neg hz]
    exact ⟨rfl, R.out.2.1⟩
end Spool
end Go.Proofs.YtndgnlblbjpogaaGreatDoor
