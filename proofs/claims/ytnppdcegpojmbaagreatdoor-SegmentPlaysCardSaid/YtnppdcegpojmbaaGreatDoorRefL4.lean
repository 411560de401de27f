/- The reference's log: the walk of begin. · The reference's log: the walks of number at other names, and of Get. -/
import Derived.Test.YtnppdcegpojmbaaGreatDoorRefLim
import Derived.Test.YtnppdcegpojmbaaGreatDoorRefD8
import Derived.Test.YtnppdcegpojmbaaGreatDoorTwin3
namespace Go.Proofs.YtnppdcegpojmbaaGreatDoor
open Go Go.RowKit Go.Sort
namespace RefL
set_option maxHeartbeats 1000000 in
set_option maxRecDepth 100000 in
theorem begin_any (w : World) (q r synced N : Nat) (rows : List RRow) (lv : Value) (A : Nat → Prop) (X : RefV) (Fr F : Nat → Prop) (h : RStoreAt w q r rows synced lv A X Fr F) (hl : RLim N X) (hx : rows.length ≤ 1000000) (first : Nat) (hf : first < 18446744073709551616) :
    Calls Tryz.prog 110 #[.pointer (some ⟨q, 0, none⟩), .int .u64 first] w fun e w' =>
      e = .returned (.int .i64 (X.started first).2.1) ∧ Off F w w' ∧ ∃ lv' Fr', RStoreAt w' q r (X.rowsAfter first rows) (X.syncedAfter first synced) lv' A (X.started first).1 Fr' (Grow F w w') := by
  have HP := Lib.hid h; clear h
  obtain ⟨X1, er, hcr⟩ : ∃ X1 er, X.create (Seg.nameB first) = (X1, er) := ⟨_, _, rfl⟩
  have p0 : w.cell? ⟨q, 0, none⟩ = some (.pointer (some ⟨r, 0, none⟩)) := Heap.cell HP.out.pre.core 0
  have HNM := Lib.hid (fun W => name_any W first hf)
  have hN := hl.le
  have hdk := fun W (hW : Off None w W) => RefW.create_any W r X Fr (HP.out.quiet hW).disk (Seg.nameB first) (by rw [show (Seg.nameB first).size = 21 from Seg.nameL_length hf]; decide) (Nat.le_trans hl.now hN) (Nat.le_trans hl.dirs (by omega)) (Nat.le_trans hl.files (by omega))
  rw [hcr] at hdk
  have HDK := Lib.hid hdk; clear hdk
  have HCR := Lib.hid hcr; clear hcr hl
  have hsl := HP.out.sepQ
  go_enter Tryz.func110, Tryz.ntmps110
  go_wp2_with fail
  go_region_held3 (fun W => W.cell? ⟨q, 0, none⟩ = some (.pointer (some ⟨r, 0, none⟩)))
    (first | exact p0 | exact l1 | exact k1)
    (first
      | (go_at_call 112; refine (HNM.out _).mono ?_; rintro e w4 ⟨rfl, ho4⟩; have k1 : w4.cell? ⟨q, 0, none⟩ = some (.pointer (some ⟨r, 0, none⟩)) := ho4.keep p0 (fun h => h))
      | (go_at_call 27; refine (HDK.out w4 (((Off.refl None w).drew).trans ho4 (fun _ _ h => h))).mono ?_; rintro e w5 ⟨rfl, hd5, ho5⟩; have l1 : w5.cell? ⟨q, 0, none⟩ = some (.pointer (some ⟨r, 0, none⟩)) := ho5.keep k1 hsl))
  have ho04 : Off None w w4 := ((Off.refl None w).drew).trans ho4 (fun _ _ h => h)
  have hp5 := (HP.out.quiet ho04).turned hd5 ho5
  have hof5 : Off F w w5 := (ho04.mono (fun _ _ h => h.elim) : Off F w w4).trans ((HP.out.quiet ho04).off_disk ho5) (fun _ _ h => h)
  have hp5 : RStoreAt w5 q r rows synced lv A X1 (Grow Fr w4 w5) (Grow F w w5) := hp5.mono (fun b _ hb => hb.imp id (fun x => ⟨Nat.le_trans ho04.size x.1, x.2⟩))
  have HP5 := Lib.hid hp5; have HO5 := Lib.hid hof5
  clear hp5 hof5 hd5 ho5 ho04 ho4 k1 p0 l1
  by_cases he : er = 0
  · subst he
    have hsp : X.started first = (X1.syncDir.1, X1.syncDir.2, true) := by unfold RefV.started; rw [HCR.out]; dsimp only; rw [if_pos rfl]
    have HSP := Lib.hid hsp; clear hsp
    have q1 : w5.cell? ⟨q, 1, none⟩ = some lv := Heap.cell HP5.out.pre.core 1
    have q2 : w5.cell? ⟨q, 2, none⟩ = some (.int .i64 synced) := Heap.cell HP5.out.pre.core 2
    have f1 : w5.frozen? ⟨q, 1, none⟩ = false := Heap.frozen HP5.out.pre.core 1
    have f2 : w5.frozen? ⟨q, 2, none⟩ = false := Heap.frozen HP5.out.pre.core 2
    have hlt : q < w5.heap.size := Heap.lt HP5.out.pre.core
    have qa : (w5.alloc (.cells #[.int .u64 first, .int .i64 0, .int .i64 0, .slice none 0 0] 136)).cell? ⟨q, 1, none⟩ = some lv := Heap.cell (Heap.alloc_old HP5.out.pre.core _) 1
    have HR := Lib.hid HP5.out.pre.row
    go_wp2_with (at_builtin; refine wpList_push_sub (W := w5) rfl (.tmp 20) (.tmp 23) rfl elemRSeg lv rows.length (rows.flatMap rsegCells) rfl HR.out #[.int .u64 first, .int .i64 0, .int .i64 0, .slice none 0 0] rfl rfl ?c1 ?c2 ?_)
    case c1 => first | exact ⟨rfl, rfl, rfl⟩ | (intro u hu; simp at hu; rcases hu with rfl | rfl | rfl <;> rfl)
    case c2 => omega
    intro g oo cap w7 hrow7 hp7
    have c7 : w7.cell? ⟨q, 1, none⟩ = some lv := Heap.cell (hp7.keep _ _ HP5.out.pre.core HP5.out.pre.ne) 1
    have f7 : w7.frozen? ⟨q, 1, none⟩ = false := Heap.frozen (hp7.keep _ _ HP5.out.pre.core HP5.out.pre.ne) 1
    obtain ⟨h8, ho8⟩ := HP5.out.pushed (x := (⟨first, 0, []⟩, .slice none 0 0)) ⟨none, 0, rfl, Nat.le_refl _, by decide, fun i hi => absurd hi (by simp)⟩ hrow7 hp7.toDrew
    obtain ⟨w8, hw8⟩ : ∃ w8, w8 = w7.setCell ⟨q, 1, none⟩ (.slice (some ⟨g, oo, none⟩) (rows.length + 1) cap) := ⟨_, rfl⟩
    rw [← hw8] at h8 ho8
    have hsz8 : w8.heap.size = w7.heap.size := by rw [hw8, Heap.set_size]
    have H8 := Lib.hid h8; have HO8 := Lib.hid ho8; have HW8 := Lib.hid hw8; have HSZ := Lib.hid hsz8
    clear h8 ho8 hw8 hrow7 hp7 qa q1 q2 f1 f2 hsz8
    have c8 : w8.cell? ⟨q, 2, none⟩ = some (.int .i64 synced) := Heap.cell H8.out.pre.core 2
    have f8 : w8.frozen? ⟨q, 2, none⟩ = false := Heap.frozen H8.out.pre.core 2
    have c9 : w8.cell? ⟨q, 0, none⟩ = some (.pointer (some ⟨r, 0, none⟩)) := Heap.cell H8.out.pre.core 0
    have hq8 : q < w8.heap.size := Heap.lt H8.out.pre.core
    go_wp2_with (rw [← HW8.out])
    have h9 := H8.out.setSynced 0
    have ho9 := H8.out.off_own ((Off.refl (Only q) w8).set 2 (.int .i64 (0 : Nat)))
    obtain ⟨w9, hw9⟩ : ∃ w9, w9 = w8.setCell ⟨q, 2, none⟩ (.int .i64 (0 : Nat)) := ⟨_, rfl⟩
    rw [← hw9] at h9 ho9
    rw [show w8.setCell ⟨q, 2, none⟩ (.int .i64 0) = w9 from hw9.symm]
    have hsz9 : w9.heap.size = w8.heap.size := by rw [hw9, Heap.set_size]
    have H9 := Lib.hid h9; have HO9 := Lib.hid ho9
    clear h9 ho9 hw9 c7 c8 c9 f7 f8
    refine (RefW.syncDir_any w9 r X1 _ H9.out.disk).mono ?_
    rintro e w10 ⟨rfl, hd10, ho10⟩
    have h10 := H9.out.turned hd10 ho10
    have hd := H9.out.off_disk ho10
    have HT := Lib.hid h10; have HO10 := Lib.hid hd
    clear h10 hd hd10 ho10
    go_wp2
    go_ret
    have hs5 := HO5.out.size; have hs8 := HO8.out.size; have hs9 := HO9.out.size; have hs10 := HO10.out.size; have hsz := HSZ.out
    have hup : ∀ b, Grow (Grow (Grow F w w5) w5 w7) w9 w10 b → Grow F w w10 b := fun b hb => by
      rcases hb with ((hb | hb) | hb) | hb
      · exact .inl hb
      · exact .inr ⟨hb.1, by omega⟩
      · exact .inr ⟨by omega, by omega⟩
      · exact .inr ⟨by omega, hb.2⟩
    have e1 : X.rowsAfter first rows = rows ++ [(⟨first, 0, []⟩, .slice none 0 0)] := by unfold RefV.rowsAfter; rw [HSP.out]; rfl
    have e2 : X.syncedAfter first synced = 0 := by unfold RefV.syncedAfter; rw [HSP.out]; rfl
    rw [e1, e2, HSP.out]
    refine ⟨rfl, ?_, ?_⟩
    · refine ((HO5.out.trans HO8.out (fun b hb h => h.elim id (fun h => by omega))).trans HO9.out (fun b hb h => ?_)).trans HO10.out (fun b hb h => ?_)
      · rcases h with (h | h) | h
        · exact h
        · omega
        · omega
      · rcases h with (h | h) | h
        · exact h
        · omega
        · omega
    · exact ⟨_, _, HT.out.mono (fun b _ hb => hup b hb)⟩
  · have hsp : X.started first = (X1, er, false) := by unfold RefV.started; rw [HCR.out]; dsimp only; rw [if_neg he]
    have HSP := Lib.hid hsp; clear hsp
    have t1 : (er != 0) = true := by rw [bne_iff_ne]; exact he
    go_wp2
    go_ret
    have e1 : X.rowsAfter first rows = rows := by unfold RefV.rowsAfter; rw [HSP.out]; rfl
    have e2 : X.syncedAfter first synced = synced := by unfold RefV.syncedAfter; rw [HSP.out]; rfl
    rw [e1, e2, HSP.out]
    refine ⟨rfl, HO5.out, ?_⟩
    exact ⟨lv, _, HP5.out⟩
end RefL
end Go.Proofs.YtnppdcegpojmbaaGreatDoor
namespace Go.Proofs.YtnppdcegpojmbaaGreatDoor
open Go Go.RowKit Go.Sort
namespace RefL
set_option maxHeartbeats 1000000 in
set_option maxRecDepth 100000 in
theorem number_other (w : World) (s : ByteArray) (hs : s.size ≠ 21) :
    Calls Tryz.prog 109 #[.string s] w fun e w' => e = .returned (.tuple #[.int .u64 0, .bool false]) ∧ Off None w w' := by
  have h1 : ((s.size : Int) != 21) = true := by rw [bne_iff_ne]; omega
  go_enter Tryz.func109, Tryz.ntmps109
  go_wp2
  go_ret2
  exact ⟨rfl, Off.refl _ _⟩
/-- A segment of the log, copied into a block of its own. -/
theorem copied {w w1 : World} {p : Option Addr} {u b z c : Nat} (hw : w1 = ((((w.alloc (.cells #[.int .u64 0, .int .i64 0, .int .i64 0, .slice none 0 0] 136)).setCell ⟨w.heap.size, 0, none⟩ (.int .u64 u)).setCell ⟨w.heap.size, 1, none⟩ (.int .i64 b)).setCell ⟨w.heap.size, 2, none⟩ (.int .i64 z)).setCell ⟨w.heap.size, 3, none⟩ (.slice p b c)) :
    w1.heap[w.heap.size]? = some (.cells #[.int .u64 u, .int .i64 b, .int .i64 z, .slice p b c] 136 (0, 0)) ∧ Off None w w1 := by
  have h0 := Heap.alloc_new w (.cells #[.int .u64 0, .int .i64 0, .int .i64 0, .slice none 0 0] 136 (0, 0))
  subst hw
  refine ⟨(Heap.set (Heap.set (Heap.set (Heap.set h0 0 _) 1 _) 2 _) 3 _).trans rfl, ?_⟩
  exact ((((((Off.refl None w).alloc _).setCell (p := ⟨w.heap.size, 0, none⟩) (.inr (Nat.le_refl _)) _).setCell (p := ⟨w.heap.size, 1, none⟩) (.inr (Nat.le_refl _)) _).setCell (p := ⟨w.heap.size, 2, none⟩) (.inr (Nat.le_refl _)) _).setCell (p := ⟨w.heap.size, 3, none⟩) (.inr (Nat.le_refl _)) _)
set_option maxHeartbeats 1000000 in
set_option maxRecDepth 100000 in
theorem get_any (w : World) (q r synced : Nat) (rows : List RRow) (lv : Value) (A : Nat → Prop) (X : RefV) (Fr F : Nat → Prop) (h : RStoreAt w q r rows synced lv A X Fr F) (hok : ∀ x ∈ rows, x.1.end_ < 9223372036854775808) (hn : rows.length ≤ 1000000) (seq : Nat) (hq : seq < 18446744073709551616) :
    Calls Tryz.prog 76 #[.pointer (some ⟨q, 0, none⟩), .int .u64 seq] w fun e w' => e = .returned (.tuple #[.string (rget X (rows.map (·.1)) seq).1, .int .i64 (rget X (rows.map (·.1)) seq).2]) ∧ Off None w w' := by
  have H := Lib.hid h; clear h
  have HOK := Lib.hid hok; clear hok
  obtain ⟨pl, cl, hlv⟩ := H.out.pre.row.shape
  subst hlv
  have c1 : w.cell? ⟨q, 1, none⟩ = some (.slice pl rows.length cl) := Heap.cell H.out.pre.core 1
  have C1 := Lib.hid c1; clear c1
  obtain ⟨n, hne⟩ : ∃ n, n = rows.length := ⟨_, rfl⟩
  rw [← hne] at C1 hn
  have HN := Lib.hid hne; clear hne
  go_enter Tryz.func76, Tryz.ntmps76
  go_wp2_with fail
  go_loopw [6] (fun i wr => ∃ k : Nat, k ≤ n ∧ i = .int .i64 k ∧ (rows.map (·.1)).find? (RSeg.has seq) = ((rows.drop k).map (·.1)).find? (RSeg.has seq) ∧ Off None w wr) (fun i _ => n - (intOf i).toNat)
  case atStart => exact ⟨0, Nat.zero_le _, rfl, by rw [List.drop_zero], Off.refl _ _⟩
  case round =>
    obtain ⟨k, hk, rfl, hfd, ho⟩ := hrel
    have HO := Lib.hid ho; have HF := Lib.hid hfd; clear ho hfd
    have e1 := HO.out.keep C1.out (fun h => h)
    by_cases hlt : k < n
    · have hi0 : (0 : Int) ≤ (k : Int) := by omega
      have hi1 : (k : Int) < (n : Int) := by omega
      have hkr : k < rows.length := by rw [← HN.out]; exact hlt
      obtain ⟨g, o, c, hpl, hg, _, _, hcell⟩ := H.out.pre.cells (by omega)
      cases hpl
      obtain ⟨d0, d1, d2, d3⟩ := hcell k hkr
      obtain ⟨x, hx⟩ : ∃ x, x = rows[k] := ⟨_, rfl⟩
      rw [← hx] at d0 d1 d2 d3
      obtain ⟨px, cx, hx2, hxl, hxm, hlies⟩ := H.out.pre.each x (by rw [hx]; exact List.getElem_mem _)
      have hend := HOK.out x (by rw [hx]; exact List.getElem_mem _)
      unfold RSeg.end_ at hend
      rw [hx2] at d3
      obtain ⟨u, hu⟩ : ∃ u, u = x.1.first := ⟨_, rfl⟩
      obtain ⟨b, hb⟩ : ∃ b, b = x.1.bodies.length := ⟨_, rfl⟩
      obtain ⟨z, hz⟩ : ∃ z, z = x.1.size := ⟨_, rfl⟩
      rw [← hu] at d0 hend; rw [← hb] at d1 d3 hxl hend; rw [← hz] at d2
      have f0 := HO.out.keep d0 (fun h => h); have f1 := HO.out.keep d1 (fun h => h); have f2 := HO.out.keep d2 (fun h => h); have f3 := HO.out.keep d3 (fun h => h)
      have HLI := Lib.hid hlies; have HX := Lib.hid hx; have HX2 := Lib.hid hx2; have HU := Lib.hid hu; have HB := Lib.hid hb; have HZ := Lib.hid hz
      clear d0 d1 d2 d3 hcell hlies hx hx2 hu hb hz
      have hst : ∀ (p : Bool), RSeg.has seq x.1 = p → (rows.map (·.1)).find? (RSeg.has seq) = if p then some x.1 else ((rows.drop (k + 1)).map (·.1)).find? (RSeg.has seq) := by
        intro p hp
        rw [HF.out, List.drop_eq_getElem_cons hkr, List.map_cons, List.find?_cons, ← HX.out, hp]
        cases p <;> rfl
      have HST := Lib.hid hst; clear hst
      have hhas : RSeg.has seq x.1 = (decide (u ≤ seq) && decide (seq < u + b)) := by unfold RSeg.has RSeg.end_; rw [← HU.out, ← HB.out]
      have HHAS := Lib.hid hhas; clear hhas
      obtain ⟨t, er, hte⟩ : ∃ t er, X.read (Seg.nameB u) = (t, er) := ⟨_, _, rfl⟩
      have HTE := Lib.hid hte; clear hte
      go_wp2_with fail
      case roundEnd =>
        refine ⟨⟨k + 1, hlt, by push_cast; rfl, ?_, HO.out.alloc _⟩, by simp [intOf]; omega⟩
        rw [HST.out false (by rw [HHAS.out, decide_eq_false (show ¬ seq < u + b by omega), Bool.and_false])]; rfl
      case roundEnd =>
        refine ⟨⟨k + 1, hlt, by push_cast; rfl, ?_, HO.out.alloc _⟩, by simp [intOf]; omega⟩
        rw [HST.out false (by rw [HHAS.out, decide_eq_false (show ¬ u ≤ seq by omega), Bool.false_and])]; rfl
      have h1 : u ≤ seq := by omega
      have hin : seq - u < b := by omega
      have hfs := HST.out true (by rw [HHAS.out, decide_eq_true h1, decide_eq_true (show seq < u + b by omega)]; rfl)
      have HFS := Lib.hid hfs; clear hfs HST HHAS
      obtain ⟨wa, hwa⟩ : ∃ wa, wa = wr.alloc (.cells #[.int .u64 u, .int .i64 b, .int .i64 z, .slice px b cx] 136) := ⟨_, rfl⟩
      obtain ⟨bx, hbx⟩ : ∃ bx, bx = wr.heap.size := ⟨_, rfl⟩
      have hba : wa.heap[bx]? = some (.cells #[.int .u64 u, .int .i64 b, .int .i64 z, .slice px b cx] 136 (0, 0)) := by rw [hwa, hbx]; exact Heap.alloc_new wr _
      have hoa : Off None w wa := by rw [hwa]; exact HO.out.alloc _
      rw [← hwa, ← hbx]
      have HBA := Lib.hid hba; have HOA := Lib.hid hoa
      clear hwa hbx hba hoa f0 f1 f2 f3 e1
      have cN : ∀ dd os, Calls Tryz.prog 112 #[.int .u64 u] (Sort.grow (redrawn wa dd) os) fun e w'' => e = .returned (.string (Seg.nameB u)) ∧ ∃ p : Regrown, w'' = Sort.grow (redrawn wa p.d) p.os := fun dd os => Calls.quietly (name_any _ u (by omega))
      have cR : ∀ dd os, Calls Tryz.prog 111 #[.pointer (some ⟨r, 0, none⟩), .string (Seg.nameB u)] (Sort.grow (redrawn wa dd) os) fun e w'' => e = .returned (.tuple #[.string t, .int .i64 er]) ∧ ∃ p : Regrown, w'' = Sort.grow (redrawn wa p.d) p.os := fun dd os => Calls.quietly (by
        obtain ⟨R, g1, _⟩ := (H.out.quiet (HOA.out.trans (Off.of_below (below_regrown wa dd os) : Off None wa _) (fun _ _ h => h))).disk
        have := RefW.read_any _ r X R g1 (Seg.nameB u)
        rw [HTE.out] at this
        exact this)
      have k0 := cell_regrown (show wa.cell? ⟨q, 0, none⟩ = some (.pointer (some ⟨r, 0, none⟩)) from HOA.out.keep (Heap.cell H.out.pre.core 0) (fun h => h))
      have k1 := cell_regrown (show wa.cell? ⟨bx, 0, none⟩ = some (.int .u64 u) from Heap.cell HBA.out 0)
      refine wp_region_quiet_below (by kernel_rfl) (by kernel_rfl) ?_
      repeat (quiet_step (first | exact cN _ _ | exact cR _ _))
      refine wpQuiet_nil ?_
      intro w3 hw'
      have ho3 : Off None wa w3 := by
        obtain ⟨⟨dq, osq⟩, rfl⟩ := hw'
        exact Off.of_below (below_regrown wa dq osq)
      have HO3 := Lib.hid (HOA.out.trans ho3 (fun _ _ h => h))
      have hb3 := ho3.at_ HBA.out (fun h => h)
      have j0 : w3.cell? ⟨bx, 0, none⟩ = some (.int .u64 u) := Heap.cell hb3 0
      have j3 : w3.cell? ⟨bx, 3, none⟩ = some (.slice px b cx) := Heap.cell hb3 3
      clear hw' k0 k1 cN cR ho3 hb3
      by_cases he : er = 0
      · subst he
        have hil : seq - u < x.1.bodies.length := by rw [← HB.out]; exact hin
        obtain ⟨gb, hpx, _, _, hcb⟩ := HLI.out (seq - u) hil
        subst hpx
        have jb := HO3.out.keep hcb (fun h => h)
        obtain ⟨i, hi⟩ : ∃ i, i = seq - u := ⟨_, rfl⟩
        obtain ⟨bd, hbd⟩ : ∃ bd, bd = x.1.bodies[seq - u] := ⟨_, rfl⟩
        have hres : rget X (rows.map (·.1)) seq = (bd, 0) := by
          unfold rget
          rw [HFS.out, if_pos rfl]
          dsimp only
          rw [← HU.out, HTE.out, if_neg (fun hn => hn rfl), List.getElem?_eq_getElem hil, hbd]
          rfl
        rw [← hbd, ← hi] at jb
        have HRES := Lib.hid hres
        have hi2 : (seq : Int) - (u : Int) = (i : Int) := by omega
        have hi3 : i < b := by omega
        have w1 : IntKind.u64.wrap ((seq : Int) - (u : Int)) = (i : Int) := by rw [hi2]; exact IntWalk.u64_in _ (by omega)
        clear hres hbd hi hcb HLI
        go_wp2_with fail
        go_ret2
        rw [HRES.out]
        exact ⟨rfl, HO3.out⟩
      · have hres : rget X (rows.map (·.1)) seq = (ByteArray.empty, er) := by
          unfold rget
          rw [HFS.out, if_pos rfl]
          dsimp only
          rw [← HU.out, HTE.out, if_pos he]
        have HRES := Lib.hid hres
        have t1 : (er != 0) = true := by rw [bne_iff_ne]; exact he
        clear hres
        go_wp2_with fail
        go_ret2
        rw [HRES.out]
        exact ⟨rfl, HO3.out⟩
    · have hkn : k = n := by omega
      subst hkn
      have hi1 : ¬ (k : Int) < (k : Int) := by omega
      have hres : rget X (rows.map (·.1)) seq = (ByteArray.empty, 5) := by
        unfold rget
        rw [HF.out, HN.out, List.drop_length]
        rfl
      have HRES := Lib.hid hres
      clear hres
      go_wp2_with fail
      go_ret2
      rw [HRES.out]
      exact ⟨rfl, HO.out⟩
end RefL
end Go.Proofs.YtnppdcegpojmbaaGreatDoor
