/- The walks of Append and Cut. · The walks of done, moved, Remove, Create, named. -/
import Derived.Test.YtnppdcegpojmbaaGreatDoorDisk4
import Derived.Deep.RegionHeld3
import Derived.Deep.AppendLies
import Derived.StillTailTactics
import Derived.Deep.RegionLaw
namespace Go.Proofs.YtnppdcegpojmbaaGreatDoor
open Go Go.RowKit
theorem infoChg : (Tryz.prog.info? 128).map (fun i => (i.zero, i.size, i.bytes)) = some (some (.agg #[.string ByteArray.empty, .int .i64 0]), 2, 24) := by kernel_rfl
namespace DiskW
theorem own_ne {w : World} {d : Nat} {D : DiskV} {R : DiskRep} (h : DiskAt w d D R) {i : Nat} {f : FileV} (hf : D.files[i]? = some f) {b : Nat} {cv : Value} (hb : R.fbs[i]? = some b) (hc : R.cvs[i]? = some cv) : cv.ownBlock ≠ some b := by
  obtain ⟨b', cv', h1, h2, _, h4, h5⟩ := h.each i f hf
  cases h1.symm.trans hb
  cases h2.symm.trans hc
  intro e
  have := h5 b e
  omega
theorem append_any (w : World) (d : Nat) (D : DiskV) (F : Nat → Prop) (h : DiskIn w d D F) (name s : ByteArray) (hn : name.size ≤ maxLen) (hs : s.size ≤ maxLen) (hu : D.used ≤ 9223372036854775807)
    (hb : ∀ f ∈ D.files, f.chgs.length ≤ 1099511627776 ∧ f.now.size + s.size ≤ maxLen) :
    Calls Tryz.prog 29 #[.pointer (some ⟨d, 0, none⟩), .string name, .string s] w fun e w' =>
      e = .returned (.int .i64 (D.append name s).2) ∧ DiskIn w' d (D.append name s).1 (Grow F w w') ∧ Off F w w' := by
  obtain ⟨R, h, hF⟩ := h
  have HF := Lib.hid hF; clear hF
  have hs' : s.size ≤ 2 ^ 63 - 1 := hs
  rcases find_cases D h.wf name with ⟨D1, er, her, hfd, _⟩ | ⟨i, f, hfd, hf, _⟩
  · have H := Lib.hid h; clear h
    have hsp : D.append name s = (D1, er) := by unfold DiskV.append; rw [hfd]
    have hfa := find_any w d D R H.out name hn
    rw [hfd, show fptr R none = .pointer none from rfl] at hfa
    have HFA := Lib.hid hfa
    have HS := Lib.hid hsp
    have t1 : (er != 0) = true := by rw [bne_iff_ne]; exact her
    clear hfa hsp hfd her hb
    go_enter Tryz.func29, Tryz.ntmps29
    go_wp2_with fail
    refine HFA.out.mono ?_
    rintro e w1 ⟨rfl, h1, ho⟩
    have H1 := Lib.hid h1; clear h1
    have HO := Lib.hid ho; clear ho
    go_wp2
    go_ret
    rw [HS.out]
    exact ⟨rfl, ⟨R, H1.out, fun b hb => .inl (HF.out b hb)⟩, off_core H.out HF.out HO.out⟩
  · have H := Lib.hid h; clear h
    have hfa := find_any w d D R H.out name hn
    obtain ⟨b, cv, e1, e2, e3, e4, e5⟩ := H.out.each i f hf
    rw [hfd, show fptr R (some i) = .pointer (some ⟨b, 0, none⟩) from by rw [fptr, e1]] at hfa
    have HFA := Lib.hid hfa
    have HFD := Lib.hid hfd
    have HFF := Lib.hid hf
    have E1 := Lib.hid e1
    have E2 := Lib.hid e2
    have hmem : f ∈ D.files := List.mem_of_getElem? hf
    have hb1 := (hb f hmem).1
    have hb2 : f.now.size + s.size ≤ 2 ^ 63 - 1 := (hb f hmem).2
    have hused : D.begin.1.used = D.used := by unfold DiskV.used DiskV.sizeAt; rw [(begin_names D).1, (begin_names D).2.1]
    have HU : Hid (D.begin.1.used ≤ 9223372036854775807) := Lib.hid (by rw [hused]; exact hu)
    have hroom := (begin_wf H.out.wf).room
    have hus : (D.begin.1.used : Int) ≤ 9223372036854775807 := by rw [hused]; omega
    have HUS := Lib.hid hused
    clear hfa hfd hf e3 e4 e5 e2 e1 hb hmem hused hu
    go_enter Tryz.func29, Tryz.ntmps29
    go_wp2_with fail
    refine HFA.out.mono ?_
    rintro e w1 ⟨rfl, h1, ho⟩
    have c0 : w1.cell? ⟨d, 0, none⟩ = some (.int .i64 D.begin.1.room) := Heap.cell h1.core 0
    have H1 := Lib.hid h1; clear h1
    have HO := Lib.hid ho; clear ho
    go_wp2_with fail
    have hwr : IntKind.i64.wrap (D.begin.1.room - (D.begin.1.used : Int)) = D.begin.1.room - (D.begin.1.used : Int) := IntWalk.i64_in _ (by omega)
    go_region_held3 (fun W => W.cell? ⟨d, 0, none⟩ = some (.int .i64 D.begin.1.room)) (first | assumption | exact c0)
      (first | (go_at_call 20; refine (used_any _ d D.begin.1 R (H1.out.off ((Off.refl None _).drew) (fun _ _ h => h)) HU.out).mono ?_; rintro e w2 ⟨rfl, ho2⟩; have c02 : w2.cell? ⟨d, 0, none⟩ = some (.int .i64 D.begin.1.room) := (ho2.cell (a := ⟨d, 0, none⟩) (Heap.block_lt c0) (fun h => h)).trans c0))
    have HO2 := Lib.hid ho2; clear ho2
    clear c0 hwr
    have h2 := H1.out.off (Off.trans ((Off.refl None w1).drew) HO2.out (fun _ _ h => h)) (fun _ _ h => h)
    have H2 := Lib.hid h2; clear h2
    by_cases hrm : D.begin.1.room - D.begin.1.used < s.size
    · have hsp : D.append name s = (D.begin.1, 9) := by unfold DiskV.append; rw [HFD.out]; simp only [if_pos hrm]
      have HS := Lib.hid hsp; clear hsp
      go_wp2
      go_ret
      rw [HS.out]
      have hoF := off_trans (off_core H.out HF.out HO.out) (Off.mono (Off.trans ((Off.refl None w1).drew) HO2.out (fun _ _ h => h)) (fun _ _ h => h.elim))
      exact ⟨rfl, ⟨R, H2.out, fun b hb => .inl (HF.out b hb)⟩, hoF⟩
    · go_wp2_with fail
      refine (fails_any _ _ _ _ H2.out).mono ?_
      rintro e w3 ⟨rfl, h3, ho3⟩
      have hfile : D.begin.1.fails.1.files[i]? = some f := by rw [(fails_same _).2.1, (begin_names D).2.1]; exact HFF.out
      have hfat := file_at h3 hfile E1.out E2.out
      have hbk := hfat.blk
      have c1 : w3.cell? ⟨b, 1, none⟩ = some (.string f.now) := Heap.cell hbk 1
      have c2 : w3.cell? ⟨b, 2, none⟩ = some cv := Heap.cell hbk 2
      have f1 : w3.frozen? ⟨b, 1, none⟩ = false := Heap.frozen hbk 1
      have hlt : b < w3.heap.size := Heap.lt hbk
      have hbc : cv.ownBlock ≠ some b := own_ne h3 hfile E1.out E2.out
      have HBC := Lib.hid hbc; clear hbc
      have HFAT := Lib.hid hfat; clear hfat hbk
      have HFI := Lib.hid hfile; clear hfile
      have H3 := Lib.hid h3; clear h3
      have HO3 := Lib.hid ho3; clear ho3
      have hoF := off_trans (off_trans (off_core H.out HF.out HO.out) (Off.mono (Off.trans ((Off.refl None w1).drew) HO2.out (fun _ _ h => h)) (fun _ _ h => h.elim))) (off_core H2.out HF.out HO3.out)
      have HOF := Lib.hid hoF; clear hoF
      cases hbf : D.begin.1.fails.2 with
      | true =>
        have HBF := Lib.hid hbf; clear hbf
        have hsp : D.append name s = (D.begin.1.fails.1, 10) := by unfold DiskV.append; rw [HFD.out]; simp only [if_neg (Int.not_lt.2 hrm), HBF.out, if_true]
        have HS := Lib.hid hsp; clear hsp
        go_wp2
        go_ret
        rw [HS.out]
        exact ⟨rfl, ⟨R, H3.out, fun b hb => .inl (HF.out b hb)⟩, HOF.out⟩
      | false =>
        have HBF := Lib.hid hbf; clear hbf
        have hsp : D.append name s = (D.begin.1.fails.1.setFile i ⟨f.base, f.now ++ s, f.chgs ++ [⟨s, -1⟩]⟩, 0) := by
          unfold DiskV.append; rw [HFD.out]; simp only [if_neg (Int.not_lt.2 hrm), HBF.out, Bool.false_eq_true, if_false]; rw [(begin_names D).2.1, HFF.out]
        have HS := Lib.hid hsp; clear hsp
        obtain ⟨i0, hi, hz0, hz1, hz2⟩ := info_parts infoChg
        have hrow4 : ∀ o, ((w3.setCell ⟨b, 1, none⟩ (.string (f.now ++ s))).alloc o).ownsRow 0 128 2 cv f.chgs.length (f.chgs.flatMap chgCells) := fun o =>
          (((Off.refl (Only b) w3).set 1 (.string (f.now ++ s))).alloc o).row HFAT.out.row (fun k hk e => HBC.out (by rw [hk, show k = b from e]))
        have HR4 := Lib.hid hrow4; clear hrow4
        go_wp2_with (at_builtin; refine wpList_append_lies _ rfl _ _ 99 rfl 0 128 i0 _ 2 24 Tryz.underlying99 hi hz0 hz1 hz2 rfl (by decide) cv f.chgs.length (f.chgs.flatMap chgCells) rfl (HR4.out _) ⟨w3.heap.size, 0, none⟩ 1 1 [.string s, .int .i64 (-1)] rfl rfl ?c1 ?c2 (by decide) ?c3 ?c4 (Nat.zero_le _) (w3.heap.size + 1) ?c5 ?_)
        case c1 => exact Heap.news _ _ _ _ (Heap.set_size _ _).symm
        case c2 => intro u hu; simp at hu; rcases hu with rfl | rfl <;> rfl
        case c3 => unfold maxLen; omega
        case c4 => omega
        case c5 => rw [Heap.alloc_size, Heap.set_size]
        intro g cap w5 hrow5 hg5 hgb _
        have hge : cv.ownBlock = some g ∨ w3.heap.size ≤ g := hgb.imp id (fun h => by omega)
        have HGE := Lib.hid hge; clear hge hgb
        have hoff5 : Off (fun k => k = b ∨ cv.ownBlock = some k) w3 w5 :=
          (((Off.refl _ w3).setCell (p := ⟨b, 1, none⟩) (.inl (.inl rfl)) (.string (f.now ++ s))).alloc _).grown hg5 (fun k hk => .inl (.inr hk))
        have hb5 : w5.heap[b]? = some (.cells #[.string f.base, .string (f.now ++ s), cv] 101 (0, 0)) := by
          have h4 := (Heap.alloc_old (Heap.set HFAT.out.blk 1 (.string (f.now ++ s))) (.cells #[.string s, .int .i64 (-1)] 128)).trans rfl
          rw [hg5.block b (Heap.lt h4) (fun e => HBC.out e.symm)]
          exact h4
        have c5 : w5.cell? ⟨b, 2, none⟩ = some cv := Heap.cell hb5 2
        have f5 : w5.frozen? ⟨b, 2, none⟩ = false := Heap.frozen hb5 2
        have HB5 := Lib.hid hb5; clear hb5
        have HROW := Lib.hid hrow5; clear hrow5
        have HG5 := Lib.hid hg5; clear hg5
        have HOFF := Lib.hid hoff5; clear hoff5
        go_wp2
        go_ret
        rw [HS.out]
        obtain ⟨v', hv'⟩ : ∃ v', v' = Value.slice (some ⟨g, 0, none⟩) (f.chgs.length + 1) cap := ⟨_, rfl⟩
        rw [← hv']
        have hrow := HROW.out
        rw [← hv'] at hrow
        have hog : v'.ownBlock = some g := by rw [hv']; rfl
        have ho6 := HOFF.out.setCell (p := ⟨b, 2, none⟩) (.inl (.inl rfl)) v'
        have hne : v'.ownBlock ≠ some b := by
          rw [hog]
          rcases HGE.out with h | h
          · rw [← h]; exact HBC.out
          · intro e; cases e; omega
        have hfat6 : FileAt (w5.setCell ⟨b, 2, none⟩ v') b v' ⟨f.base, f.now ++ s, f.chgs ++ [⟨s, -1⟩]⟩ :=
          ⟨(Heap.set HB5.out 2 v').trans rfl, ((Off.refl (Only b) w5).set 2 v').row (by simpa [chgCells] using hrow) (fun k hk e => hne (by rw [hk, show k = b from e]))⟩
        have h6 := H3.out.setFile HFI.out E1.out E2.out ho6 hfat6 (by rw [hog]; intro k hk; cases hk; exact HGE.out)
        refine ⟨rfl, ⟨_, h6, fun b hb => Grow.left HOF.out b (DiskRep.setCv_in HF.out (fun k hk => ?_) b hb)⟩, off_trans HOF.out (off_file H3.out HF.out HFI.out E1.out E2.out ho6)⟩
        exact row_lt hfat6.row hk
set_option maxRecDepth 100000 in
theorem cut_any (w : World) (d : Nat) (D : DiskV) (F : Nat → Prop) (h : DiskIn w d D F) (name : ByteArray) (n : Nat) (hn : name.size ≤ maxLen) (hs : n ≤ maxLen)
    (hb : ∀ f ∈ D.files, f.chgs.length ≤ 1099511627776 ∧ f.now.size ≤ maxLen) :
    Calls Tryz.prog 47 #[.pointer (some ⟨d, 0, none⟩), .string name, .int .i64 n] w fun e w' =>
      e = .returned (.int .i64 (D.cut name n).2) ∧ DiskIn w' d (D.cut name n).1 (Grow F w w') ∧ Off F w w' := by
  obtain ⟨R, h, hF⟩ := h
  have HF := Lib.hid hF; clear hF
  have hs' : n ≤ 2 ^ 63 - 1 := hs
  rcases find_cases D h.wf name with ⟨D1, er, her, hfd, _⟩ | ⟨i, f, hfd, hf, _⟩
  · have H := Lib.hid h; clear h
    have hsp : D.cut name n = (D1, er) := by unfold DiskV.cut; rw [hfd]
    have hfa := find_any w d D R H.out name hn
    rw [hfd, show fptr R none = .pointer none from rfl] at hfa
    have HFA := Lib.hid hfa
    have HS := Lib.hid hsp
    have t1 : (er != 0) = true := by rw [bne_iff_ne]; exact her
    clear hfa hsp hfd her hb
    go_enter Tryz.func47, Tryz.ntmps47
    go_wp2_with fail
    refine HFA.out.mono ?_
    rintro e w1 ⟨rfl, h1, ho⟩
    have H1 := Lib.hid h1; clear h1
    have HO := Lib.hid ho; clear ho
    go_wp2
    go_ret
    rw [HS.out]
    exact ⟨rfl, ⟨R, H1.out, fun b hb => .inl (HF.out b hb)⟩, off_core H.out HF.out HO.out⟩
  · have H := Lib.hid h; clear h
    have hfa := find_any w d D R H.out name hn
    obtain ⟨b, cv, e1, e2, e3, e4, e5⟩ := H.out.each i f hf
    rw [hfd, show fptr R (some i) = .pointer (some ⟨b, 0, none⟩) from by rw [fptr, e1]] at hfa
    have HFA := Lib.hid hfa
    have HFD := Lib.hid hfd
    have HFF := Lib.hid hf
    have E1 := Lib.hid e1
    have E2 := Lib.hid e2
    have hmem : f ∈ D.files := List.mem_of_getElem? hf
    have hb1 := (hb f hmem).1
    have hb2 : f.now.size ≤ 2 ^ 63 - 1 := (hb f hmem).2
    clear hfa hfd hf e3 e4 e5 e2 e1 hb hmem
    go_enter Tryz.func47, Tryz.ntmps47
    go_wp2_with fail
    refine HFA.out.mono ?_
    rintro e w1 ⟨rfl, h1, ho⟩
    have hfile : D.begin.1.files[i]? = some f := by rw [(begin_names D).2.1]; exact HFF.out
    have hfat := file_at h1 hfile E1.out E2.out
    have hbk := hfat.blk
    have c1 : w1.cell? ⟨b, 1, none⟩ = some (.string f.now) := Heap.cell hbk 1
    have c2 : w1.cell? ⟨b, 2, none⟩ = some cv := Heap.cell hbk 2
    have f1 : w1.frozen? ⟨b, 1, none⟩ = false := Heap.frozen hbk 1
    have hlt : b < w1.heap.size := Heap.lt hbk
    have hbc : cv.ownBlock ≠ some b := own_ne h1 hfile E1.out E2.out
    have HBC := Lib.hid hbc; clear hbc
    have HFAT := Lib.hid hfat; clear hfat hbk
    have HFI := Lib.hid hfile; clear hfile
    have hoF := off_core H.out HF.out ho
    have H1 := Lib.hid h1; clear h1
    have HO := Lib.hid ho; clear ho
    have HOF := Lib.hid hoF; clear hoF
    have t0 : ¬ ((n : Int) < 0) := by omega
    by_cases hrm : (f.now.size : Int) < n
    · have hsp : D.cut name n = (D.begin.1, 1) := by unfold DiskV.cut; rw [HFD.out]; simp only [(begin_names D).2.1, HFF.out]; rw [if_pos (by omega)]
      have HS := Lib.hid hsp; clear hsp
      go_wp2
      go_ret
      rw [HS.out]
      exact ⟨rfl, ⟨R, H1.out, fun b hb => .inl (HF.out b hb)⟩, HOF.out⟩
    · have hsp : D.cut name n = (D.begin.1.setFile i ⟨f.base, f.now.extract 0 n, f.chgs ++ [⟨ByteArray.empty, n⟩]⟩, 0) := by
        unfold DiskV.cut; rw [HFD.out]; simp only [(begin_names D).2.1, HFF.out]; rw [if_neg (by omega)]; rfl
      have HS := Lib.hid hsp; clear hsp
      obtain ⟨i0, hi, hz0, hz1, hz2⟩ := info_parts infoChg
      have hrow4 : ∀ o, ((w1.setCell ⟨b, 1, none⟩ (.string (f.now.extract 0 n))).alloc o).ownsRow 0 128 2 cv f.chgs.length (f.chgs.flatMap chgCells) := fun o =>
        (((Off.refl (Only b) w1).set 1 (.string (f.now.extract 0 n))).alloc o).row HFAT.out.row (fun k hk e => HBC.out (by rw [hk, show k = b from e]))
      have HR4 := Lib.hid hrow4; clear hrow4
      go_wp2_with (at_builtin; refine wpList_append_lies _ rfl _ _ 99 rfl 0 128 i0 _ 2 24 Tryz.underlying99 hi hz0 hz1 hz2 rfl (by decide) cv f.chgs.length (f.chgs.flatMap chgCells) rfl (HR4.out _) ⟨w1.heap.size, 0, none⟩ 1 1 [.string ⟨#[]⟩, .int .i64 n] rfl rfl ?c1 ?c2 (by decide) ?c3 ?c4 (Nat.zero_le _) (w1.heap.size + 1) ?c5 ?_)
      case c1 => exact Heap.news _ _ _ _ (Heap.set_size _ _).symm
      case c2 => intro u hu; simp at hu; rcases hu with rfl | rfl <;> rfl
      case c3 => unfold maxLen; omega
      case c4 => omega
      case c5 => rw [Heap.alloc_size, Heap.set_size]
      intro g cap w5 hrow5 hg5 hgb _
      have hge : cv.ownBlock = some g ∨ w1.heap.size ≤ g := hgb.imp id (fun h => by omega)
      have HGE := Lib.hid hge; clear hge hgb
      have hoff5 : Off (fun k => k = b ∨ cv.ownBlock = some k) w1 w5 :=
        (((Off.refl _ w1).setCell (p := ⟨b, 1, none⟩) (.inl (.inl rfl)) (.string (f.now.extract 0 n))).alloc _).grown hg5 (fun k hk => .inl (.inr hk))
      have hb5 : w5.heap[b]? = some (.cells #[.string f.base, .string (f.now.extract 0 n), cv] 101 (0, 0)) := by
        have h4 := (Heap.alloc_old (Heap.set HFAT.out.blk 1 (.string (f.now.extract 0 n))) (.cells #[.string ⟨#[]⟩, .int .i64 n] 128)).trans rfl
        rw [hg5.block b (Heap.lt h4) (fun e => HBC.out e.symm)]
        exact h4
      have c5 : w5.cell? ⟨b, 2, none⟩ = some cv := Heap.cell hb5 2
      have f5 : w5.frozen? ⟨b, 2, none⟩ = false := Heap.frozen hb5 2
      have HB5 := Lib.hid hb5; clear hb5
      have HROW := Lib.hid hrow5; clear hrow5
      have HG5 := Lib.hid hg5; clear hg5
      have HOFF := Lib.hid hoff5; clear hoff5
      go_wp2
      go_ret
      rw [HS.out]
      obtain ⟨v', hv'⟩ : ∃ v', v' = Value.slice (some ⟨g, 0, none⟩) (f.chgs.length + 1) cap := ⟨_, rfl⟩
      rw [← hv']
      have hrow := HROW.out
      rw [← hv'] at hrow
      have hog : v'.ownBlock = some g := by rw [hv']; rfl
      have ho6 := HOFF.out.setCell (p := ⟨b, 2, none⟩) (.inl (.inl rfl)) v'
      have hne : v'.ownBlock ≠ some b := by
        rw [hog]
        rcases HGE.out with h | h
        · rw [← h]; exact HBC.out
        · intro e; cases e; omega
      have hfat6 : FileAt (w5.setCell ⟨b, 2, none⟩ v') b v' ⟨f.base, f.now.extract 0 n, f.chgs ++ [⟨ByteArray.empty, n⟩]⟩ :=
        ⟨(Heap.set HB5.out 2 v').trans rfl, ((Off.refl (Only b) w5).set 2 v').row (by simp only [List.length_append, List.length_cons, List.length_nil, List.flatMap_append, List.flatMap_cons, List.flatMap_nil, List.append_nil, Nat.zero_add]; exact hrow) (fun k hk e => hne (by rw [hk, show k = b from e]))⟩
      have h6 := H1.out.setFile HFI.out E1.out E2.out ho6 hfat6 (by rw [hog]; intro k hk; cases hk; exact HGE.out)
      refine ⟨rfl, ⟨_, h6, fun b hb => Grow.left HOF.out b (DiskRep.setCv_in HF.out (fun k hk => ?_) b hb)⟩, off_trans HOF.out (off_file H1.out HF.out HFI.out E1.out E2.out ho6)⟩
      exact row_lt hfat6.row hk
end DiskW
end Go.Proofs.YtnppdcegpojmbaaGreatDoor
namespace Go.Proofs.YtnppdcegpojmbaaGreatDoor
open Go Go.RowKit
namespace DiskW
theorem done_any (w : World) (b : Nat) (m : NMap) (mv : Move) (h : MapAt w b m) (hs : mv.src.size ≤ maxLen) (hd : mv.dst.size ≤ maxLen) (hm : m.length < maxLen) (hf : mv.file ≤ 9223372036854775807) :
    Calls Tryz.prog 80 #[.agg #[.string mv.src, .string mv.dst, .int .i64 mv.file], .map (some b)] w fun e w' =>
      e = .returned (.tuple #[]) ∧ MapAt w' b (DiskV.done mv m) ∧ Off (Only b) w w' := by
  have ho1 : Off (Only b) w (w.alloc (.cells #[.string mv.src, .string mv.dst, .int .i64 mv.file] 120)) := (Off.refl _ _).alloc _
  have h1 : MapAt (w.alloc (.cells #[.string mv.src, .string mv.dst, .int .i64 mv.file] 120)) b m := ((Off.refl None w).alloc _).map h (fun h => h)
  obtain ⟨w2, hdel, h2, ht2⟩ := map_del h1 mv.src hs 0
  have hbl : b < w.heap.size := by obtain ⟨es, clock, hb, _⟩ := h; exact Heap.lt hb
  have hbox : w2.heap[w.heap.size]? = some (.cells #[.string mv.src, .string mv.dst, .int .i64 mv.file] 120 (0, 0)) := by
    rw [ht2.grown.block w.heap.size (by rw [Heap.alloc_size]; omega) (by intro e; cases e; omega), Heap.alloc_new]
  have d1 : w2.cell? ⟨w.heap.size, 1, none⟩ = some (.string mv.dst) := Heap.cell hbox 1
  have d2 : w2.cell? ⟨w.heap.size, 2, none⟩ = some (.int .i64 mv.file) := Heap.cell hbox 2
  have ho2 := ho1.turned ht2 (.inl rfl)
  have HO2 := Lib.hid ho2
  have H2 := Lib.hid h2
  clear ho1 h1 ht2 hbox ho2 h2 hbl
  by_cases hz : mv.dst.size = 0
  · have e : DiskV.done mv m = m.del (bytesOf mv.src) := by unfold DiskV.done; rw [if_pos hz]
    have E := Lib.hid e; clear e
    have t1 : mv.dst.toList = [] := Heap.str_nil hz
    clear hz
    go_enter Tryz.func80, Tryz.ntmps80
    go_wp2
    go_end0
    rw [E.out]
    exact ⟨rfl, H2.out, HO2.out⟩
  · have e : DiskV.done mv m = (m.del (bytesOf mv.src)).put (bytesOf mv.dst) mv.file := by unfold DiskV.done; rw [if_neg hz]
    have E := Lib.hid e; clear e
    have t2 : (!mv.dst.toList.isEmpty) = true := Heap.str_ne hz
    clear hz
    have hlen : (m.del (bytesOf mv.src)).length < maxLen := Nat.lt_of_le_of_lt (List.length_filter_le _ _) hm
    obtain ⟨w3, hput, h3, ht3⟩ := map_put H2.out mv.dst hd mv.file hf hlen
    have HO3 := Lib.hid (HO2.out.turned ht3 (.inl rfl))
    have H3 := Lib.hid h3
    clear ht3 h3 hlen
    go_enter Tryz.func80, Tryz.ntmps80
    go_wp2
    go_end0
    rw [E.out]
    exact ⟨rfl, H3.out, HO3.out⟩
end DiskW
theorem done_file {m : NMap} {mv : Move} {n : Nat} (h : ∀ p ∈ m, p.2 < n) (hf : mv.dst.size ≠ 0 → mv.file < n) : ∀ p ∈ DiskV.done mv m, p.2 < n := by
  have hdel : ∀ p ∈ m.del (bytesOf mv.src), p.2 < n := fun p hp => h p ((List.mem_filter.1 hp).1)
  have hins : ∀ (x : Bytes × Nat) (l : NMap), x.2 < n → (∀ p ∈ l, p.2 < n) → ∀ p ∈ NMap.ins x l, p.2 < n := by
    intro x l hx
    induction l with
    | nil => intro _ p hp; simp [NMap.ins] at hp; rw [hp]; exact hx
    | cons y r ih =>
      intro hl p hp
      unfold NMap.ins at hp
      split at hp
      · rcases List.mem_cons.1 hp with rfl | hp
        · exact hx
        · exact hl p hp
      · rcases List.mem_cons.1 hp with rfl | hp
        · exact hl _ (by simp)
        · exact ih (fun q hq => hl q (by simp [hq])) p hp
  unfold DiskV.done
  split
  · exact hdel
  · rename_i hz
    exact hins _ _ (hf hz) (fun p hp => hdel p ((List.mem_filter.1 hp).1))
/-- The names have turned, and nothing else of the disk has. -/
theorem DiskAt.setNames {w w' : World} {d : Nat} {D : DiskV} {R : DiskRep} (h : DiskAt w d D R) (m : NMap) (ho : Off (Only R.nm) w w') (hm : MapAt w' R.nm m) (hf : ∀ p ∈ m, p.2 < D.files.length) : DiskAt w' d { D with names := m } R where
  wf := ⟨h.wf.room, h.wf.ops, h.wf.fail, h.wf.left, hf, h.wf.base, h.wf.moves⟩
  core := ho.at_ h.core (fun e => by have h1 := h.rN; have h2 := h.rD; rw [show d = R.nm from e] at h2; omega)
  frow := ho.row h.frow (fun k hk e => by have h1 := h.rF k hk; have h2 := h.rN; rw [show k = R.nm from e] at h1; omega)
  each := fun i f hi => by
    obtain ⟨b, cv, h1, h2, h3, h4, h5⟩ := h.each i f hi
    refine ⟨b, cv, h1, h2, h3.off ho (fun e => ?_) (fun k hk e => ?_), h4, h5⟩
    · have h2 := h.rN; rw [show b = R.nm from e] at h4; omega
    · have h1 := h5 k hk; have h2 := h.rN; rw [show k = R.nm from e] at h1; omega
  clen := h.clen
  names := hm
  base := ho.map h.base (fun e => by have h1 := h.rB; have h2 := h.rN; rw [show R.bm = R.nm from e] at h1; omega)
  mrow := ho.row h.mrow (fun k hk e => by have h1 := h.rM k hk; have h2 := h.rN; rw [show k = R.nm from e] at h1; omega)
  rD := h.rD
  rN := h.rN
  rB := h.rB
  rF := h.rF
  rM := h.rM
  old := fun b hb => Nat.lt_of_lt_of_le (h.old b hb) ho.size
def DiskRep.setMv (R : DiskRep) (mv : Value) (n : Nat) : DiskRep :=
  { R with mv := mv, role := fun k => if k < n then R.role k else if mv.ownBlock = some k then 5 else 0 }
/-- The row of moves has turned, and the disk's own block, which names it. -/
theorem DiskAt.setMoves {w w' : World} {d : Nat} {D : DiskV} {R : DiskRep} (h : DiskAt w d D R) (ms : List Move) (mv' : Value) (ho : Off (fun k => k = d ∨ R.mv.ownBlock = some k) w w')
    (hc : w'.heap[d]? = some (.cells (coreCells { D with moves := ms } (R.setMv mv' w.heap.size)) 80 (0, 0)))
    (hr : w'.ownsRow 0 120 3 mv' ms.length (ms.flatMap moveCells)) (hmv : ∀ k, mv'.ownBlock = some k → R.mv.ownBlock = some k ∨ w.heap.size ≤ k)
    (hf : ∀ m ∈ ms, m.dst.size ≠ 0 → m.file < D.files.length) : DiskAt w' d { D with moves := ms } (R.setMv mv' w.heap.size) := by
  have hro : ∀ k, R.role k ≠ 0 → (R.setMv mv' w.heap.size).role k = R.role k := fun k hk => by
    show (if k < w.heap.size then _ else _) = _
    rw [if_pos (h.old k hk)]
  have far : ∀ k, R.role k ≠ 0 → R.role k ≠ 1 → R.role k ≠ 5 → ¬ (k = d ∨ R.mv.ownBlock = some k) := by
    intro k h0 h1 h2 hk
    rcases hk with rfl | hk
    · exact h1 h.rD
    · exact h2 (h.rM k hk)
  refine { wf := ⟨h.wf.room, h.wf.ops, h.wf.fail, h.wf.left, h.wf.names, h.wf.base, hf⟩, core := hc, frow := ?_, each := ?_, clen := h.clen, names := ?_, base := ?_, mrow := hr, rD := ?_, rN := ?_, rB := ?_, rF := ?_, rM := ?_, old := ?_ }
  · exact ho.row h.frow (fun k hk => far k (by rw [h.rF k hk]; omega) (by rw [h.rF k hk]; omega) (by rw [h.rF k hk]; omega))
  · intro j g hj
    obtain ⟨b1, cv1, g1, g2, g3, g4, g5⟩ := h.each j g hj
    exact ⟨b1, cv1, g1, g2, g3.off ho (far b1 (by omega) (by omega) (by omega)) (fun k hk => far k (by rw [g5 k hk]; omega) (by rw [g5 k hk]; omega) (by rw [g5 k hk]; omega)), by rw [hro b1 (by omega), g4], fun k hk => by rw [hro k (by rw [g5 k hk]; omega), g5 k hk]⟩
  · exact ho.map h.names (far R.nm (by rw [h.rN]; omega) (by rw [h.rN]; omega) (by rw [h.rN]; omega))
  · exact ho.map h.base (far R.bm (by rw [h.rB]; omega) (by rw [h.rB]; omega) (by rw [h.rB]; omega))
  · rw [hro d (by rw [h.rD]; omega), h.rD]
  · show (R.setMv mv' w.heap.size).role R.nm = 2
    rw [hro _ (by rw [h.rN]; omega), h.rN]
  · show (R.setMv mv' w.heap.size).role R.bm = 3
    rw [hro _ (by rw [h.rB]; omega), h.rB]
  · intro k hk
    rw [hro k (by rw [h.rF k hk]; omega), h.rF k hk]
  · intro k hk
    show (if k < w.heap.size then R.role k else if mv'.ownBlock = some k then 5 else 0) = 5
    rcases hmv k hk with h' | h'
    · rw [if_pos (row_lt h.mrow h'), h.rM k h']
    · rw [if_neg (by omega), if_pos (show mv'.ownBlock = some k from hk)]
  · intro k hk
    have hs := ho.size
    by_cases hlt : k < w.heap.size
    · omega
    · have hk' : (if k < w.heap.size then R.role k else if mv'.ownBlock = some k then 5 else 0) ≠ 0 := hk
      rw [if_neg hlt] at hk'
      split at hk'
      · rename_i hk2; exact row_lt hr hk2
      · exact absurd rfl hk'
theorem DiskRep.setMv_in {R : DiskRep} {F : Nat → Prop} {mv : Value} {w w' : World} (hF : ∀ b, R.role b ≠ 0 → F b) (hmv : ∀ k, mv.ownBlock = some k → k < w'.heap.size) :
    ∀ b, (R.setMv mv w.heap.size).role b ≠ 0 → Grow F w w' b := by
  intro b hb
  by_cases hlt : b < w.heap.size
  · refine .inl (hF b ?_)
    have hb' : (if b < w.heap.size then R.role b else _) ≠ 0 := hb
    rwa [if_pos hlt] at hb'
  · have hb' : (if b < w.heap.size then R.role b else if mv.ownBlock = some b then 5 else 0) ≠ 0 := hb
    rw [if_neg hlt] at hb'
    split at hb'
    · rename_i h2; exact .inr ⟨by omega, hmv b h2⟩
    · exact absurd rfl hb'
/-- The names have turned, a move was appended, and the disk's own block names the new row. -/
theorem DiskAt.moved {w w1 w2 w5 : World} {d : Nat} {D : DiskV} {R : DiskRep} {F : Nat → Prop} {o : Obj} {g cap : Nat} (h : DiskAt w d D R) (hF : ∀ b, R.role b ≠ 0 → F b) (mv : Move)
    (ho1 : Off None w w1) (ho2 : Off (Only R.nm) w1.drew w2) (h2 : DiskAt w2 d { D with names := DiskV.done mv D.names } R) (hff : mv.dst.size ≠ 0 → mv.file < D.files.length)
    (hr : w5.ownsRow 0 120 3 (.slice (some ⟨g, 0, none⟩) (D.moves.length + 1) cap) (D.moves.length + 1) (D.moves.flatMap moveCells ++ moveCells mv))
    (hg : (w2.alloc o).drew.grownBy w5 R.mv.ownBlock) (hgb : R.mv.ownBlock = some g ∨ w2.heap.size ≤ g) (hgl : g < w5.heap.size) :
    DiskIn (w5.setCell ⟨d, 4, none⟩ (.slice (some ⟨g, 0, none⟩) (D.moves.length + 1) cap)) d (D.moved mv) (Grow F w (w5.setCell ⟨d, 4, none⟩ (.slice (some ⟨g, 0, none⟩) (D.moves.length + 1) cap))) ∧
      Off F w (w5.setCell ⟨d, 4, none⟩ (.slice (some ⟨g, 0, none⟩) (D.moves.length + 1) cap)) := by
  obtain ⟨v', hv⟩ : ∃ v', v' = Value.slice (some ⟨g, 0, none⟩) (D.moves.length + 1) cap := ⟨_, rfl⟩
  rw [← hv] at hr ⊢
  have hog : v'.ownBlock = some g := by rw [hv]; rfl
  clear hv
  have hne : R.mv.ownBlock ≠ some d := fun e => by have h3 := h.rM d e; have h4 := h.rD; omega
  have hgd : g ≠ d := by
    rcases hgb with h' | h'
    · intro e; exact hne (by rw [h', e])
    · have := Heap.lt h2.core; omega
  have c5 := Heap.grown hg (Heap.alloc_old (w := w2) h2.core o) hne
  have ho5 : Off (fun k => k = d ∨ R.mv.ownBlock = some k) w2 w5 := (((Off.refl _ w2).alloc o).drew).grown hg (fun k hk => .inl (.inr hk))
  have ho6 := ho5.setCell (p := ⟨d, 4, none⟩) (.inl (.inl rfl)) v'
  have h6 := h2.setMoves (D.moves ++ [mv]) v' ho6 ((Heap.set c5 4 v').trans rfl)
    (by
      have := ((Off.refl (Only d) w5).set 4 v').row hr (fun k hk e => by rw [hog] at hk; cases hk; exact hgd e)
      simpa using this)
    (fun k hk => by rw [hog] at hk; cases hk; exact hgb)
    (fun m hm hz => by
      rcases List.mem_append.1 hm with hm | hm
      · exact h.wf.moves m hm hz
      · rw [List.mem_singleton.1 hm]; rw [List.mem_singleton.1 hm] at hz; exact hff hz)
  have ho12 : Off F w w2 := DiskW.off_trans (ho1.mono (fun _ _ h => h.elim)) (Off.mono (Off.trans ((Off.refl (Only R.nm) w1).drew) ho2 (fun _ _ h => h)) (fun b _ e => by rw [show b = R.nm from e]; exact hF _ (by rw [h.rN]; omega)))
  have ho26 : Off F w2 _ := ho6.mono (fun b _ e => e.elim (fun e => by rw [e]; exact hF _ (by rw [h.rD]; omega)) (fun e => hF _ (by rw [h.rM b e]; omega)))
  refine ⟨⟨_, h6, fun b hb => Grow.left ho12 b (DiskRep.setMv_in hF (fun k hk => ?_) b hb)⟩, DiskW.off_trans ho12 ho26⟩
  rw [hog] at hk; cases hk
  rw [Heap.set_size]; exact hgl
theorem infoMove : (Tryz.prog.info? 120).map (fun i => (i.zero, i.size, i.bytes)) = some (some (.agg #[.string ByteArray.empty, .string ByteArray.empty, .int .i64 0]), 3, 40) := by kernel_rfl
namespace DiskW
set_option maxRecDepth 100000 in
theorem moved_any (w : World) (d : Nat) (D : DiskV) (F : Nat → Prop) (h : DiskIn w d D F) (mv : Move) (hs : mv.src.size ≤ maxLen) (hd : mv.dst.size ≤ maxLen) (hm : D.names.length < maxLen) (hf : mv.file ≤ 9223372036854775807)
    (hff : mv.dst.size ≠ 0 → mv.file < D.files.length) (hb : D.moves.length ≤ 1099511627776) :
    Calls Tryz.prog 61 #[.pointer (some ⟨d, 0, none⟩), .agg #[.string mv.src, .string mv.dst, .int .i64 mv.file]] w fun e w' =>
      e = .returned (.tuple #[]) ∧ DiskIn w' d (D.moved mv) (Grow F w w') ∧ Off F w w' := by
  obtain ⟨R, h, hF⟩ := h
  have HF := Lib.hid hF; clear hF
  have c2 : w.cell? ⟨d, 2, none⟩ = some (.map (some R.nm)) := Heap.cell h.core 2
  have hlt : d < w.heap.size := Heap.lt h.core
  have H := Lib.hid h; clear h
  go_enter Tryz.func61, Tryz.ntmps61
  go_wp2_with fail
  refine wp_region_still_tail 5 (by kernel_rfl) (by kernel_rfl) ?_
  simp only [List.take_succ_cons, List.take_zero, List.drop_succ_cons, List.drop_zero]
  change wpStill _ _ (w.alloc (.cells #[.string mv.src, .string mv.dst, .int .i64 mv.file] 120)).drew (fun a' => wpList _ _ _ _ a' (w.alloc (.cells #[.string mv.src, .string mv.dst, .int .i64 mv.file] 120)).drew) _ _
  repeat still_step
  refine wpStill_nil ?_
  go_wp2_with fail
  obtain ⟨w1, hw1⟩ : ∃ w1, w1 = w.alloc (.cells #[.string mv.src, .string mv.dst, .int .i64 mv.file] 120) := ⟨_, rfl⟩
  have ho1 : Off None w w1 := by rw [hw1]; exact (Off.refl _ _).alloc _
  have hbx : w1.heap[w.heap.size]? = some (.cells #[.string mv.src, .string mv.dst, .int .i64 mv.file] 120 (0, 0)) := by rw [hw1, Heap.alloc_new]
  have hsz : w1.heap.size = w.heap.size + 1 := by rw [hw1, Heap.alloc_size]
  rw [← hw1]
  have h1 := H.out.off ho1.drew (fun _ _ h => h)
  refine (done_any _ R.nm D.names mv h1.names hs hd hm hf).mono ?_
  rintro e w2 ⟨rfl, hm2, ho2⟩
  have h2 := h1.setNames _ ho2 hm2 (done_file h1.wf.names hff)
  have hbx2 : w2.heap[w.heap.size]? = some (.cells #[.string mv.src, .string mv.dst, .int .i64 mv.file] 120 (0, 0)) :=
    ho2.at_ hbx (fun e => by have h3 := H.out.old R.nm (by rw [H.out.rN]; omega); rw [← show w.heap.size = R.nm from e] at h3; omega)
  have c4 : w2.cell? ⟨d, 4, none⟩ = some R.mv := Heap.cell h2.core 4
  have f4 : w2.frozen? ⟨d, 4, none⟩ = false := Heap.frozen h2.core 4
  have d0 : w2.cell? ⟨w.heap.size, 0, none⟩ = some (.string mv.src) := Heap.cell hbx2 0
  have d1 : w2.cell? ⟨w.heap.size, 1, none⟩ = some (.string mv.dst) := Heap.cell hbx2 1
  have d2 : w2.cell? ⟨w.heap.size, 2, none⟩ = some (.int .i64 mv.file) := Heap.cell hbx2 2
  have H2 := Lib.hid h2
  have HO1 := Lib.hid ho1
  have HO2 := Lib.hid ho2
  have HB2 := Lib.hid hbx2
  clear h1 h2 ho1 ho2 hm2 hbx hbx2 hw1 c2
  go_wp2_with fail
  obtain ⟨i0, hi, hz0, hz1, hz2⟩ := info_parts infoMove
  have hrow4 : ∀ o, (w2.drew.alloc o).ownsRow 0 120 3 R.mv D.moves.length (D.moves.flatMap moveCells) := fun o =>
    (((Off.refl None w2).drew).alloc o).row H2.out.mrow (fun k hk e => e)
  have HR4 := Lib.hid hrow4; clear hrow4
  have hbm : D.moves.length + 1 ≤ maxLen := by unfold maxLen; omega
  have HBM := Lib.hid hbm; clear hbm
  have hd2 : w2.drew.heap[d]? = some (.cells (coreCells { D with names := DiskV.done mv D.names } R) 80 (0, 0)) := H2.out.core
  have HD2 := Lib.hid hd2; clear hd2
  have c4a : (w2.alloc (.cells #[.string mv.src, .string mv.dst, .int .i64 mv.file] 120)).cell? ⟨d, 4, none⟩ = some R.mv := Heap.cell (Heap.alloc_old H2.out.core _) 4
  have hne : R.mv.ownBlock ≠ some d := fun e => by have h3 := H.out.rM d e; have h4 := H.out.rD; omega
  have HNE := Lib.hid hne; clear hne
  go_region_law ((refine step_append_lies _ (by rfl) _ _ 78 (by rfl) 0 120 i0 _ 3 40 Tryz.underlying78 hi hz0 hz1 hz2 rfl (by decide) R.mv D.moves.length (D.moves.flatMap moveCells) (by rfl) (HR4.out _) ⟨w2.heap.size, 0, none⟩ 1 1 (moveCells mv) (by rfl) (by rfl) (Heap.news _ _ _ _ rfl) (by intro u hu; simp [moveCells] at hu; rcases hu with rfl | rfl | rfl <;> rfl) (by decide) HBM.out (by omega) (Nat.zero_le _) (w2.heap.size + 1) (by exact Heap.alloc_size _ _) ?_; intro g cap w5 hrow5 hg5 hgb hgl; have c5 : w5.cell? ⟨d, 4, none⟩ = some R.mv := Heap.cell (Heap.grown hg5 (Heap.alloc_old HD2.out _) HNE.out) 4; have f5 := Heap.frozen (Heap.grown hg5 (Heap.alloc_old HD2.out _) HNE.out) 4))
  all_goals go_wp2
  all_goals go_end0
  all_goals
    have hmv := DiskAt.moved H.out HF.out mv HO1.out HO2.out H2.out hff hrow5 hg5 (hgb.imp id (fun h => by omega)) hgl
    exact ⟨rfl, hmv⟩
end DiskW
end Go.Proofs.YtnppdcegpojmbaaGreatDoor
