/- The walk of Rename of a disk. · The walks of swap.fits and swap.Write, of the spool's file. -/
import Derived.Test.YtndgnlblbjpogaaGreatDoorFLog
import Derived.Test.YtndgnlblbjpogaaGreatDoorSpoolN
namespace Go.Proofs.YtndgnlblbjpogaaGreatDoor
open Go Go.RowKit Go.Maps Go.WideShapes Go.WideMaps
theorem map_look1 {w : World} {b : Nat} {m : NMap} (h : MapAt w b m) (s : ByteArray) (hs : s.size ≤ maxLen) :
    (Instr.lookup 93 (.map (some b)) (.string s) false).run Tryz.prog w = .ok (.int .i64 (m.getI (bytesOf s))) w := by
  have hz : (zeroValue 3).run Tryz.prog w = .ok (.int .i64 0) w := by kernel_rfl
  obtain ⟨v, ps, hrun, hv⟩ := h.lookup keyedS Tryz.underlying93 hz (Go.plainElem_int Tryz.underlying3 (by decide)) (key_string s hs)
  obtain ⟨a, rfl, ha, _⟩ := Go.plainElem_int_inv Tryz.underlying3 hv
  rw [hrun]
  rw [NMap.atKey_toD] at ha
  have e : a = m.getI (bytesOf s) := by
    unfold NMap.getI
    show a = (((m.get s.data.toList).getD 0 : Nat) : Int)
    cases hg : m.get s.data.toList with
    | none => rw [hg] at ha; simp at ha; rw [← ha.1]; rfl
    | some i => rw [hg] at ha; simp at ha; rw [← ha.1]; rfl
  rw [e]
namespace DiskW
set_option maxHeartbeats 1000000 in
theorem rename_any (w : World) (d : Nat) (D : DiskV) (F : Nat → Prop) (h : DiskIn w d D F) (src dst : ByteArray) (hn : src.size ≤ maxLen) (hn2 : dst.size ≤ maxLen) (hm : D.names.length < maxLen) (hb : D.moves.length ≤ 1099511627776) (hfl : D.files.length ≤ 1099511627776) :
    Calls Tryz.prog 125 #[.pointer (some ⟨d, 0, none⟩), .string src, .string dst] w fun e w' =>
      e = .returned (.int .i64 (D.rename src dst).2) ∧ DiskIn w' d (D.rename src dst).1 (Grow F w w') ∧ Off F w w' := by
  obtain ⟨R, h, hF⟩ := h
  have HF := Lib.hid hF; clear hF
  rcases find_cases D h.wf src with ⟨D1, er, her, hfd, _⟩ | ⟨i, f, hfd, hf, hin⟩
  · have H := Lib.hid h; clear h
    have hsp : D.rename src dst = (D1, er) := by unfold DiskV.rename; rw [hfd]
    have hfa := find_any w d D R H.out src hn
    rw [hfd, show fptr R none = .pointer none from rfl] at hfa
    have HFA := Lib.hid hfa
    have HS := Lib.hid hsp
    have t1 : (er != 0) = true := by rw [bne_iff_ne]; exact her
    clear hfa hsp hfd her hb hfl
    go_enter Tryz.func125, Tryz.ntmps125
    go_wp2_with fail
    refine HFA.out.mono ?_
    rintro e w1 ⟨rfl, h1, ho⟩
    have H1 := Lib.hid h1; clear h1
    have HO := Lib.hid ho; clear ho
    go_wp2
    go_ret
    rw [HS.out]
    exact ⟨rfl, ⟨R, H1.out, fun b hb => .inl (HF.out b hb)⟩, off_core H.out HF.out HO.out⟩
  · have H := Lib.hid h; clear h
    have hgi : D.names.get (bytesOf src) = some i := by
      unfold DiskV.find at hfd
      split at hfd
      · exact absurd (congrArg (fun x => x.2.1) hfd) (by simp)
      · split at hfd
        · exact absurd (congrArg (fun x => x.2.1) hfd) (by simp)
        · rename_i _ _ hg
          rw [hg]
          exact congrArg (fun x => x.2.1) hfd
    have hgI : D.begin.1.names.getI (bytesOf src) = (i : Int) := by unfold NMap.getI; rw [(begin_len D).1, hgi]; rfl
    have hil : i < D.files.length := (List.getElem?_eq_some_iff.1 hf).1
    have hfa := find_any w d D R H.out src hn
    obtain ⟨b, cv, e1, e2, e3, e4, e5⟩ := H.out.each i f hf
    rw [hfd, show fptr R (some i) = .pointer (some ⟨b, 0, none⟩) from by rw [fptr, e1]] at hfa
    have HFA := Lib.hid hfa
    have HGI := Lib.hid hgI
    have HIL := Lib.hid hil
    have hm' : D.begin.1.names.length < maxLen := by rw [(begin_len D).1]; exact hm
    have hb' : D.begin.1.moves.length ≤ 1099511627776 := by rw [(begin_len D).2.2]; exact hb
    have HM := Lib.hid hm'
    have HB := Lib.hid hb'
    have HFL := Lib.hid hfl
    cases hnm : DiskV.named dst with
    | false =>
      have hsp : D.rename src dst = (D.begin.1, 3) := by unfold DiskV.rename; rw [hfd]; simp only [hnm, if_true]
      have HS := Lib.hid hsp
      clear hfa hsp hfd hf e1 e2 e3 e4 e5 hb hm hm' hb' hgi hgI hil hfl hin
      go_enter Tryz.func125, Tryz.ntmps125
      go_wp2_with fail
      refine HFA.out.mono ?_
      rintro e w1 ⟨rfl, h1, ho⟩
      have H1 := Lib.hid h1; clear h1
      have HO := Lib.hid ho; clear ho
      go_wp2_with fail
      refine (named_any _ dst hn2).mono ?_
      rintro e w2 ⟨rfl, rfl⟩
      rw [hnm]
      go_wp2
      go_ret
      rw [HS.out]
      exact ⟨rfl, ⟨R, H1.out, fun b hb => .inl (HF.out b hb)⟩, off_core H.out HF.out HO.out⟩
    | true =>
      have hsp : D.rename src dst = (D.begin.1.moved ⟨src, dst, i⟩, 0) := by unfold DiskV.rename; rw [hfd]; simp only [hnm, Bool.true_eq_false, if_false]
      have HS := Lib.hid hsp
      clear hfa hsp hfd hf e1 e2 e3 e4 e5 hb hm hm' hb' hgi hgI hil hfl hin
      go_enter Tryz.func125, Tryz.ntmps125
      go_wp2_with fail
      refine HFA.out.mono ?_
      rintro e w1 ⟨rfl, h1, ho⟩
      have hlt := Heap.lt h1.core
      have c2 : w1.cell? ⟨d, 2, none⟩ = some (.map (some R.nm)) := Heap.cell h1.core 2
      have hlook := map_look1 h1.names src hn
      rw [HGI.out] at hlook
      have H1 := Lib.hid h1; clear h1
      have HO := Lib.hid ho; clear ho
      go_wp2_with fail
      refine (named_any _ dst hn2).mono ?_
      rintro e w2 ⟨rfl, rfl⟩
      rw [hnm]
      go_wp2_with fail
      refine (moved_any _ d D.begin.1 F ⟨R, H1.out, HF.out⟩ ⟨src, dst, i⟩ hn hn2 HM.out (by have := HIL.out; have := HFL.out; show i ≤ _; omega) (fun _ => by rw [(begin_len D).2.1]; exact HIL.out) HB.out).mono ?_
      rintro e w2 ⟨rfl, h2, ho2⟩
      have H2 := Lib.hid h2; clear h2
      have HO2 := Lib.hid ho2; clear ho2
      go_wp2
      go_ret
      rw [HS.out]
      have hoF := off_core H.out HF.out HO.out
      exact ⟨rfl, H2.out.mono (fun b _ hb => Grow.left hoF b hb), off_trans hoF HO2.out⟩
end DiskW
end Go.Proofs.YtndgnlblbjpogaaGreatDoor
namespace Go.Proofs.YtndgnlblbjpogaaGreatDoor
open Go Go.RowKit Go.Shelf
theorem grow2 {F : Nat → Prop} {w w1 w2 : World} (s1 : w.heap.size ≤ w1.heap.size) (s2 : w1.heap.size ≤ w2.heap.size) : ∀ b, Grow (Grow F w w1) w1 w2 b → Grow F w w2 b := by
  intro b h
  rcases h with (h | h) | h
  · exact .inl h
  · exact .inr ⟨h.1, Nat.lt_of_lt_of_le h.2 s2⟩
  · exact .inr ⟨Nat.le_trans s1 h.1, h.2⟩
/-- A disk behind some operations that began at w. -/
structure After (w : World) (d : Nat) (F : Nat → Prop) (D : DiskV) (w' : World) : Prop where
  disk : DiskIn w' d D (Grow F w w')
  off : Off F w w'
namespace After
variable {w w1 w2 : World} {d : Nat} {F : Nat → Prop} {D D' : DiskV}
theorem next (h : After w d F D w1) (h' : DiskIn w2 d D' (Grow (Grow F w w1) w1 w2)) (ho : Off (Grow F w w1) w1 w2) : After w d F D' w2 :=
  ⟨h'.mono (fun b _ hb => grow2 h.off.size ho.size b hb), h.off.trans_grow ho⟩
theorem start (h : DiskIn w d D F) : After w d F D w := ⟨h.mono (fun _ _ hb => .inl hb), Off.refl _ _⟩
theorem quiet (h : After w d F D w1) (ho : Off None w1 w2) : After w d F D w2 :=
  ⟨(h.disk.off ho (fun _ _ _ h => h)).mono (fun _ _ hb => hb.imp id (fun x => ⟨x.1, Nat.lt_of_lt_of_le x.2 ho.size⟩)), h.off.quiet_trans ho⟩
/-- What was made before, and is not the disk's, counts as begun at w. -/
theorem wide (h : After w1 d (fun b => F b ∧ b < w.heap.size) D w2) (ho : Off None w w1) : After w d F D w2 :=
  ⟨h.disk.mono fun _ _ hb => hb.imp (fun x => x.1) (fun x => ⟨Nat.le_trans ho.size x.1, x.2⟩), (ho.mono (fun _ _ x => x.elim) : Off F w w1).trans (h.off.mono fun _ _ x => x.1) (fun _ _ x => x)⟩
end After
theorem ckT_len : ckT.size ≤ maxLen := by unfold maxLen; decide
theorem ckB_len : ckB.size ≤ maxLen := by unfold maxLen; decide
namespace Swap
variable {w w1 : World} {d N : Nat} {F : Nat → Prop} {D : DiskV}
theorem remove (h : After w d F D w1) (hl : Lim N D) : Calls Tryz.prog 99 #[.pointer (some ⟨d, 0, none⟩), .string ckT] w1 fun e w' => e = .returned (.int .i64 (D.remove ckT).2) ∧ After w d F (D.remove ckT).1 w' :=
  (DiskW.remove_any w1 d D _ h.disk ckT ckT_len (by have := hl.names; have := hl.le; unfold maxLen; omega) (by have := hl.moves; have := hl.le; omega)).mono fun _ _ hh => ⟨hh.1, h.next hh.2.1 hh.2.2⟩
theorem create (h : After w d F D w1) (hl : Lim N D) : Calls Tryz.prog 120 #[.pointer (some ⟨d, 0, none⟩), .string ckT] w1 fun e w' => e = .returned (.int .i64 (D.create ckT).2) ∧ After w d F (D.create ckT).1 w' :=
  (DiskW.create_any w1 d D _ h.disk ckT ckT_len (by have := hl.names; have := hl.le; unfold maxLen; omega) (by have := hl.moves; have := hl.le; omega) (by have := hl.files; have := hl.le; omega)).mono fun _ _ hh => ⟨hh.1, h.next hh.2.1 hh.2.2⟩
theorem append (h : After w d F D w1) (hl : Lim N D) (s : ByteArray) (hs : s.size ≤ 6000) : Calls Tryz.prog 121 #[.pointer (some ⟨d, 0, none⟩), .string ckT, .string s] w1 fun e w' => e = .returned (.int .i64 (D.append ckT s).2) ∧ After w d F (D.append ckT s).1 w' :=
  (DiskW.append_any w1 d D _ h.disk ckT s ckT_len (by unfold maxLen; omega) hl.used (fun f hf => by have := hl.each f hf; have := hl.le; unfold maxLen; exact ⟨by omega, by omega⟩)).mono fun _ _ hh => ⟨hh.1, h.next hh.2.1 hh.2.2⟩
theorem sync (h : After w d F D w1) : Calls Tryz.prog 79 #[.pointer (some ⟨d, 0, none⟩), .string ckT] w1 fun e w' => e = .returned (.int .i64 (D.sync ckT).2) ∧ After w d F (D.sync ckT).1 w' :=
  (DiskW.sync_any w1 d D _ h.disk ckT ckT_len).mono fun _ _ hh => ⟨hh.1, h.next hh.2.1 hh.2.2⟩
theorem rename (h : After w d F D w1) (hl : Lim N D) : Calls Tryz.prog 125 #[.pointer (some ⟨d, 0, none⟩), .string ckT, .string ckB] w1 fun e w' => e = .returned (.int .i64 (D.rename ckT ckB).2) ∧ After w d F (D.rename ckT ckB).1 w' :=
  (DiskW.rename_any w1 d D _ h.disk ckT ckB ckT_len ckB_len (by have := hl.names; have := hl.le; unfold maxLen; omega) (by have := hl.moves; have := hl.le; omega) (by have := hl.files; have := hl.le; omega)).mono fun _ _ hh => ⟨hh.1, h.next hh.2.1 hh.2.2⟩
theorem syncDir (h : After w d F D w1) : Calls Tryz.prog 100 #[.pointer (some ⟨d, 0, none⟩)] w1 fun e w' => e = .returned (.int .i64 D.syncDir.2) ∧ After w d F D.syncDir.1 w' :=
  (DiskW.syncDir_any w1 d D _ h.disk).mono fun _ _ hh => ⟨hh.1, h.next hh.2.1 hh.2.2⟩
theorem ck_suffix : Lib.hasSuffix ckB.data.toList [126] = false := by decide
theorem fits_any (W : World) : Calls Tryz.prog 124 #[.string ckB] W fun e w' => e = .returned (.bool true) ∧ w' = W := by
  have hsf := Tryz.strings_HasSuffix ckB ⟨#[126]⟩ W (by decide)
  rw [show (⟨#[126]⟩ : ByteArray).data.toList = [126] from rfl, ck_suffix] at hsf
  have HSF := Lib.hid hsf
  clear hsf
  have hz : ckB.size = 2 := rfl
  have h0 : ckB.toList.isEmpty = false := by rw [Heap.toList_data]; rfl
  have h1 : (!ckB.toList.isEmpty) = true := by rw [h0]; rfl
  have b0 : ckB[0] = 99 := rfl
  have b1 : ckB[1] = 107 := rfl
  go_enter Tryz.func124, Tryz.ntmps124
  go_wp2_with fail
  go_loopg [6] 2 (fun gg s6 wr => ∃ (k g : Nat), g = gg ∧ k + g = 2 ∧ s6 = .int .i64 k ∧ wr = W)
  case atStart => exact ⟨0, 2, rfl, rfl, rfl, rfl⟩
  case round =>
    obtain ⟨k, g, hgg, hkg, rfl, rfl⟩ := hrel
    have HG := Lib.hid hgg; clear hgg
    rcases (show k = 0 ∨ k = 1 ∨ k = 2 by omega) with rfl | rfl | rfl
    · go_wp2_with fail
      go_roundg 1
      case measure => have := HG.out; omega
      case rel => exact ⟨1, 1, rfl, rfl, rfl, rfl⟩
    · go_wp2_with fail
      go_roundg 0
      case measure => have := HG.out; omega
      case rel => exact ⟨2, 0, rfl, rfl, rfl, rfl⟩
    · go_wp2_with fail
      refine HSF.out.mono ?_
      rintro e w' ⟨rfl, rfl⟩
      go_wp2_with fail
      go_ret
      exact ⟨rfl, rfl⟩
theorem ck_app : ckB ++ ⟨#[126]⟩ = ckT := by decide
set_option maxHeartbeats 4000000 in
set_option maxRecDepth 100000 in
theorem write_any (w : World) (d N : Nat) (F : Nat → Prop) (D : DiskV) (h : DiskIn w d D F) (hl : Lim N D) (hN : N + 6 ≤ 1000000) (s : ByteArray) (hs : s.size ≤ 6000) :
    Calls Tryz.prog 93 #[.pointer (some ⟨d, 0, none⟩), .string ckB, .string s] w fun e w' => e = .returned (.int .i64 (D.swap s).2) ∧ After w d F (D.swap s).1 w' := by
  have h0 := After.start h
  have H0 := Lib.hid h0
  have HL := Lib.hid hl
  have HS := Lib.hid hs
  have hz : ckB.size = 2 := rfl
  have hap := ck_app
  clear h h0 hl hs
  go_enter Tryz.func93, Tryz.ntmps93
  go_wp2_with fail
  refine (fits_any w).mono ?_
  rintro e w' ⟨rfl, he⟩
  obtain rfl := he.symm
  go_wp2_with fail
  refine (remove H0.out HL.out).mono ?_
  obtain ⟨D1, e1, h1e⟩ : ∃ D1 e1, D.remove ckT = (D1, e1) := ⟨_, _, rfl⟩
  rw [h1e]
  rintro e w1 ⟨rfl, h1⟩
  have l1 : Lim (N + 1) D1 := by have := lim_remove HL.out ckT (by omega); rwa [h1e] at this
  have hQ : D.swap s = if e1 ≠ 0 ∧ e1 ≠ 5 then (D1, e1) else
      let b := D1.create ckT
      if b.2 ≠ 0 then b
      else
        let c := b.1.append ckT s
        let e := if c.2 = 0 then c.1.sync ckT else c
        if e.2 ≠ 0 then ((e.1.remove ckT).1, e.2)
        else
          let f := e.1.rename ckT ckB
          if f.2 ≠ 0 then f else f.1.syncDir := by unfold DiskV.swap; rw [h1e]
  have H1 := Lib.hid (And.intro h1 l1)
  have HQ := Lib.hid hQ
  clear hQ h1 l1 h1e
  by_cases hx : e1 ≠ 0 ∧ e1 ≠ 5
  · obtain ⟨hx1, hx2⟩ := hx
    have k1 : (e1 != 0) = true := by simpa using hx1
    have k2 : (e1 != 5) = true := by simpa using hx2
    have k3 : (e1 != 0 && e1 != 5) = true := by rw [k1, k2]; rfl
    go_wp2_with fail
    go_ret
    rw [HQ.out, if_pos ⟨hx1, hx2⟩]
    exact ⟨rfl, H1.out.1⟩
  · have hQ := HQ.out
    rw [if_neg hx] at hQ
    clear HQ
    have HQ := Lib.hid hQ
    clear hQ
    have hx' : e1 = 0 ∨ e1 = 5 := by omega
    clear hx
    rcases hx' with rfl | rfl
    all_goals
      go_wp2_with fail
      obtain ⟨h1, l1⟩ := H1.out
      have hQ := HQ.out
      clear HQ H1
      try dsimp only at hQ
      refine (create h1 l1).mono ?_
      have l2 := lim_create l1 ckT (by omega)
      revert hQ l2
      generalize D1.create ckT = b
      obtain ⟨D2, e2⟩ := b
      intro hQ l2
      try dsimp only at hQ
      try dsimp only at l2
      rintro e w2 ⟨rfl, h2⟩
      try dsimp only at h2 ⊢
      have HQ := Lib.hid hQ
      have H2 := Lib.hid (And.intro h2 l2)
      clear hQ h2 l2 h1 l1
      by_cases hx : e2 = 0
      case neg =>
        have k1 : (e2 != 0) = true := by simpa using hx
        go_wp2_with fail
        go_ret
        rw [HQ.out, if_pos hx]
        exact ⟨rfl, H2.out.1⟩
      have hQ := HQ.out
      rw [if_neg (by simpa using hx)] at hQ
      clear HQ
      have HQ := Lib.hid hQ
      clear hQ
      obtain rfl := hx
      go_wp2_with fail
      obtain ⟨h2, l2⟩ := H2.out
      have hQ := HQ.out
      clear HQ H2
      refine (append h2 l2 s HS.out).mono ?_
      have l3 := lim_append2 l2 ckT s HS.out (by omega)
      revert hQ l3
      generalize D2.append ckT s = b
      obtain ⟨D3, e3⟩ := b
      intro hQ l3
      try dsimp only at hQ
      try dsimp only at l3
      rintro e w3 ⟨rfl, h3⟩
      try dsimp only at h3 ⊢
      have HQ := Lib.hid hQ
      have H3 := Lib.hid (And.intro h3 l3)
      clear hQ h3 l3 h2 l2
      by_cases hx : e3 = 0
      case neg =>
        have k1 : (e3 != 0) = true := by simpa using hx
        have k2 : (e3 == 0) = false := by simpa using hx
        go_wp2_with fail
        have hQ := HQ.out
        rw [if_neg hx] at hQ
        try dsimp only at hQ
        rw [if_pos hx] at hQ
        refine (remove H3.out.1 H3.out.2).mono ?_
        rintro e w4 ⟨rfl, h4⟩
        have H4 := Lib.hid h4
        have HQ2 := Lib.hid hQ
        clear h4 hQ HQ
        go_wp2_with fail
        go_ret
        rw [HQ2.out]
        exact ⟨rfl, H4.out⟩
      have hQ := HQ.out
      rw [if_pos hx] at hQ
      clear HQ
      have HQ := Lib.hid hQ
      clear hQ
      obtain rfl := hx
      go_wp2_with fail
      obtain ⟨h3, l3⟩ := H3.out
      have hQ := HQ.out
      clear HQ H3
      refine (sync h3).mono ?_
      have l4 := lim_sync l3 ckT
      revert hQ l4
      generalize D3.sync ckT = b
      obtain ⟨D4, e4⟩ := b
      intro hQ l4
      try dsimp only at hQ
      try dsimp only at l4
      rintro e w4 ⟨rfl, h4⟩
      try dsimp only at h4 ⊢
      have HQ := Lib.hid hQ
      have H4 := Lib.hid (And.intro h4 l4)
      clear hQ h4 l4 h3 l3
      by_cases hx : e4 = 0
      case neg =>
        have k1 : (e4 != 0) = true := by simpa using hx
        go_wp2_with fail
        have hQ := HQ.out
        rw [if_pos hx] at hQ
        refine (remove H4.out.1 H4.out.2).mono ?_
        rintro e w5 ⟨rfl, h5⟩
        have H5 := Lib.hid h5
        have HQ2 := Lib.hid hQ
        clear h5 hQ HQ
        go_wp2_with fail
        go_ret
        rw [HQ2.out]
        exact ⟨rfl, H5.out⟩
      have hQ := HQ.out
      rw [if_neg (by simpa using hx)] at hQ
      clear HQ
      have HQ := Lib.hid hQ
      clear hQ
      obtain rfl := hx
      go_wp2_with fail
      obtain ⟨h4, l4⟩ := H4.out
      have hQ := HQ.out
      clear HQ H4
      refine (rename h4 l4).mono ?_
      have l5 := lim_rename l4 ckT ckB (by omega)
      revert hQ l5
      generalize D4.rename ckT ckB = b
      obtain ⟨D5, e5⟩ := b
      intro hQ l5
      try dsimp only at hQ
      try dsimp only at l5
      rintro e w5 ⟨rfl, h5⟩
      try dsimp only at h5 ⊢
      have HQ := Lib.hid hQ
      have H5 := Lib.hid (And.intro h5 l5)
      clear hQ h5 l5 h4 l4
      by_cases hx : e5 = 0
      case neg =>
        have k1 : (e5 != 0) = true := by simpa using hx
        go_wp2_with fail
        go_ret
        rw [HQ.out, if_pos hx]
        exact ⟨rfl, H5.out.1⟩
      have hQ := HQ.out
      rw [if_neg (by simpa using hx)] at hQ
      clear HQ
      have HQ := Lib.hid hQ
      clear hQ
      obtain rfl := hx
      go_wp2_with fail
      refine (syncDir H5.out.1).mono ?_
      rintro e w6 ⟨rfl, h6⟩
      have H6 := Lib.hid h6
      clear h6
      go_wp2_with fail
      go_ret
      rw [HQ.out]
      exact ⟨rfl, H6.out⟩
theorem cleanGo_cons (D : DiskV) (s : Bytes) (r : List Bytes) : D.cleanGo (s :: r) = if s.getLast? = some 126 then (if (D.remove ⟨s.toArray⟩).2 ≠ 0 then D.remove ⟨s.toArray⟩ else (D.remove ⟨s.toArray⟩).1.cleanGo r) else D.cleanGo r := rfl
theorem mark_suffix (l : Bytes) : Lib.hasSuffix l [126] = decide (l.getLast? = some 126) := by
  unfold Lib.hasSuffix
  rcases List.eq_nil_or_concat l with rfl | ⟨r, x, rfl⟩
  · rfl
  · rw [List.concat_eq_append, List.getLast?_concat, Bool.eq_iff_iff, List.isSuffixOf_iff_suffix, decide_eq_true_iff]
    constructor
    · rintro ⟨t, ht⟩
      have := congrArg List.getLast? ht
      rw [List.getLast?_concat, List.getLast?_append] at this
      simpa using this.symm
    · intro h
      cases h
      exact ⟨r, rfl⟩
set_option maxHeartbeats 4000000 in
set_option maxRecDepth 100000 in
theorem clean_any (w : World) (d N : Nat) (F : Nat → Prop) (D : DiskV) (h : DiskIn w d D F) (hl : Lim N D) (hN : N + N ≤ 1000000) (hn : ∀ s ∈ D.list, s.length ≤ 1000) :
    Calls Tryz.prog 66 #[.pointer (some ⟨d, 0, none⟩)] w fun e w' => e = .returned (.int .i64 D.clean.2) ∧ After w d F D.clean.1 w' := by
  have hlen : D.list.length ≤ N := by rw [list_len]; exact hl.names
  have HLI := Lib.hid (DiskW.list_any w d D (fun b => F b ∧ b < w.heap.size) (h.mono (fun b hb hF => ⟨hF, hb⟩)) (by have := hl.names; omega))
  have H0 := Lib.hid h
  have HL := Lib.hid hl
  have HN := Lib.hid hn
  unfold DiskV.clean
  obtain ⟨l, hl⟩ : ∃ l, l = D.list := ⟨_, rfl⟩
  rw [← hl] at HLI HN hlen ⊢
  clear h hl hn
  go_enter Tryz.func66, Tryz.ntmps66
  go_wp2_with fail
  refine HLI.out.mono ?_
  rintro e w1 ⟨v, rfl, hrow, hb⟩
  have HO := Lib.hid (Off.of_below hb : Off None w w1)
  obtain ⟨A, c, rfl, hfl, hcell⟩ := Seg.str_row hrow
  have HCELL := Lib.hid hcell
  clear hrow hcell hb HLI
  go_wp2_with fail
  have HA := Lib.hid (After.start ((H0.out.mono (fun b hb hF => ⟨hF, hb⟩)).off HO.out (fun _ _ _ h => h) : DiskIn w1 d D (fun b => F b ∧ b < w.heap.size)))
  go_loopg [9] l.length (fun gg s9 wr => ∃ (k : Nat) (Dk : DiskV), gg + k = l.length ∧ s9 = .int .i64 k ∧ After w1 d (fun b => F b ∧ b < w.heap.size) Dk wr ∧ Lim (N + k) Dk ∧ D.cleanGo l = Dk.cleanGo (l.drop k))
  case atStart => exact ⟨0, D, by omega, rfl, HA.out, HL.out, rfl⟩
  case round =>
    obtain ⟨k, Dk, hgg, rfl, ha, hlk, hq⟩ := hrel
    have HGG := Lib.hid hgg
    have HAK := Lib.hid (And.intro ha hlk)
    have HQ := Lib.hid hq
    have hsz : w1.heap.size ≤ wr.heap.size := ha.off.size
    by_cases hlt : k < l.length
    · obtain ⟨g, hA, hg1, hg2, c0⟩ := HCELL.out k hlt
      subst hA
      have hi0 : (0 : Int) ≤ (k : Int) := by omega
      have hi1 : (k : Int) < (l.length : Int) := by omega
      have d1 : wr.cell? ⟨g, k, none⟩ = some (encStr l[k]) := ha.off.keep c0 (fun h => absurd h.2 (Nat.not_lt.2 hg1))
      have hx1 := HN.out _ (List.getElem_mem hlt)
      have hdr := List.drop_eq_getElem_cons hlt
      obtain ⟨x, hx⟩ : ∃ x, x = l[k] := ⟨_, rfl⟩
      rw [← hx] at d1 hx1 hdr
      rw [hdr] at hq
      have d0 : wr.cell? ⟨g, k, none⟩ = some (.string ⟨x.toArray⟩) := d1
      have hsf := Tryz.strings_HasSuffix ⟨x.toArray⟩ ⟨#[126]⟩ wr (by show x.length ≤ _; omega)
      rw [show (⟨#[126]⟩ : ByteArray).data.toList = [126] from rfl, show (⟨x.toArray⟩ : ByteArray).data.toList = x from by simp, mark_suffix] at hsf
      have HSF := Lib.hid hsf
      have HQ2 := Lib.hid hq
      have HX1 := Lib.hid hx1
      clear hsf hx hdr c0 d1 hq HQ ha hlk hx1 hgg hg1 hg2
      by_cases hm : x.getLast? = some 126
      · rw [decide_eq_true hm] at HSF
        have hq := HQ2.out
        rw [cleanGo_cons, if_pos hm] at hq
        have HQ := Lib.hid hq
        clear hq HQ2 hm
        go_wp2_with fail
        refine HSF.out.mono ?_
        rintro e w3 ⟨rfl, he⟩
        obtain rfl := he.symm
        clear HSF
        go_wp2_with fail
        have hrm := DiskW.remove_any wr d Dk _ HAK.out.1.disk ⟨x.toArray⟩ (by have := HX1.out; unfold maxLen; show x.length ≤ _; omega) (by have := HAK.out.2.names; have := HAK.out.2.le; unfold maxLen; omega) (by have := HAK.out.2.moves; have := HAK.out.2.le; omega)
        have hli := lim_remove HAK.out.2 ⟨x.toArray⟩ (by omega)
        have hq := HQ.out
        clear HQ
        revert hrm hli hq
        generalize Dk.remove ⟨x.toArray⟩ = b
        obtain ⟨D2, e2⟩ := b
        intro hrm hli hq
        refine hrm.mono ?_
        rintro e w4 ⟨rfl, hd4, ho4⟩
        have h4 := HAK.out.1.next hd4 ho4
        have H4 := Lib.hid (And.intro h4 hli)
        have HQ := Lib.hid hq
        clear hrm hli hq hd4 ho4 h4
        by_cases hz : e2 = 0
        · have hq := HQ.out
          rw [if_neg (by simpa using hz)] at hq
          have HQ2 := Lib.hid hq
          clear hq HQ
          obtain rfl := hz
          go_wp2_with fail
          go_roundg (l.length - (k + 1))
          case measure => have := HGG.out; omega
          case rel => exact ⟨k + 1, D2, by omega, by push_cast; rfl, H4.out.1, H4.out.2, HQ2.out⟩
        · have k1 : (e2 != 0) = true := by simpa using hz
          go_wp2_with fail
          go_ret
          have hq := HQ.out
          rw [if_pos hz] at hq
          rw [hq]
          exact ⟨rfl, H4.out.1.wide HO.out⟩
      · rw [decide_eq_false hm] at HSF
        have hq := HQ2.out
        rw [cleanGo_cons, if_neg hm] at hq
        have HQ := Lib.hid hq
        clear hq HQ2 hm
        go_wp2_with fail
        refine HSF.out.mono ?_
        rintro e w3 ⟨rfl, he⟩
        obtain rfl := he.symm
        clear HSF
        go_wp2_with fail
        go_roundg (l.length - (k + 1))
        case measure => have := HGG.out; omega
        case rel => exact ⟨k + 1, Dk, by omega, by push_cast; rfl, HAK.out.1, HAK.out.2.mono (by omega) (by omega), HQ.out⟩
    · have hkl : k = l.length := by have := HGG.out; omega
      subst hkl
      have hi1 : ¬ (l.length : Int) < (l.length : Int) := by omega
      have hq := HQ.out
      rw [List.drop_length] at hq
      have HQ2 := Lib.hid hq
      clear HQ hq ha hlk hgg
      go_wp2_with fail
      refine (syncDir HAK.out.1).mono ?_
      rintro e w4 ⟨rfl, h4⟩
      have H4 := Lib.hid h4
      clear h4
      go_wp2_with fail
      go_ret
      rw [HQ2.out]
      exact ⟨rfl, H4.out.wide HO.out⟩
end Swap
end Go.Proofs.YtndgnlblbjpogaaGreatDoor
