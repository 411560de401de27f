/- The walks of Append and Cut. -/
import Derived.Test.YtnppdcegpojmbaaGreatDoorDisk4
import Derived.Deep.RegionHeld3
import Derived.Deep.AppendLies
namespace Go.Proofs.YtnppdcegpojmbaaGreatDoor
open Go Go.RowKit
theorem infoChg : (Tryz.prog.info? 128).map (fun i => (i.zero, i.size, i.bytes)) = some (some (.agg #[.string ByteArray.empty, .int .i64 0]), 2, 24) := by kernel_rfl
namespace DiskW
theorem own_ne {w : World} {d : Nat} {D : DiskV} {R : DiskRep} (h : DiskAt w d D R) {i : Nat} {f : FileV} (hf : D.files[i]? = some f) {b : Nat} {cv : Value} (hb : R.fbs[i]? = some b) (hc : R.cvs[i]? = some cv) : cv.ownBlock ≠ some b := by
  obtain ⟨b', cv', h1, h2, _, h4, h5⟩ := h.each i f hf
  cases h1.symm.trans hb
  cases h2.symm.trans hc
  intro e
  have := h5 b e
  omega
theorem append_any (w : World) (d : Nat) (D : DiskV) (F : Nat → Prop) (h : DiskIn w d D F) (name s : ByteArray) (hn : name.size ≤ maxLen) (hs : s.size ≤ maxLen) (hu : D.used ≤ 9223372036854775807)
    (hb : ∀ f ∈ D.files, f.chgs.length ≤ 1099511627776 ∧ f.now.size + s.size ≤ maxLen) :
    Calls Tryz.prog 29 #[.pointer (some ⟨d, 0, none⟩), .string name, .string s] w fun e w' =>
      e = .returned (.int .i64 (D.append name s).2) ∧ DiskIn w' d (D.append name s).1 (Grow F w w') ∧ Off F w w' := by
  obtain ⟨R, h, hF⟩ := h
  have HF := Lib.hid hF; clear hF
  have hs' : s.size ≤ 2 ^ 63 - 1 := hs
  rcases find_cases D h.wf name with ⟨D1, er, her, hfd, _⟩ | ⟨i, f, hfd, hf, _⟩
  · have H := Lib.hid h; clear h
    have hsp : D.append name s = (D1, er) := by unfold DiskV.append; rw [hfd]
    have hfa := find_any w d D R H.out name hn
    rw [hfd, show fptr R none = .pointer none from rfl] at hfa
    have HFA := Lib.hid hfa
    have HS := Lib.hid hsp
    have t1 : (er != 0) = true := by rw [bne_iff_ne]; exact her
    clear hfa hsp hfd her hb
    go_enter Tryz.func29, Tryz.ntmps29
    go_wp2_with fail
    refine HFA.out.mono ?_
    rintro e w1 ⟨rfl, h1, ho⟩
    have H1 := Lib.hid h1; clear h1
    have HO := Lib.hid ho; clear ho
    go_wp2
    go_ret
    rw [HS.out]
    exact ⟨rfl, ⟨R, H1.out, fun b hb => .inl (HF.out b hb)⟩, off_core H.out HF.out HO.out⟩
  · have H := Lib.hid h; clear h
    have hfa := find_any w d D R H.out name hn
    obtain ⟨b, cv, e1, e2, e3, e4, e5⟩ := H.out.each i f hf
    rw [hfd, show fptr R (some i) = .pointer (some ⟨b, 0, none⟩) from by rw [fptr, e1]] at hfa
    have HFA := Lib.hid hfa
    have HFD := Lib.hid hfd
    have HFF := Lib.hid hf
    have E1 := Lib.hid e1
    have E2 := Lib.hid e2
    have hmem : f ∈ D.files := List.mem_of_getElem? hf
    have hb1 := (hb f hmem).1
    have hb2 : f.now.size + s.size ≤ 2 ^ 63 - 1 := (hb f hmem).2
    have hused : D.begin.1.used = D.used := by unfold DiskV.used DiskV.sizeAt; rw [(begin_names D).1, (begin_names D).2.1]
    have HU : Hid (D.begin.1.used ≤ 9223372036854775807) := Lib.hid (by rw [hused]; exact hu)
    have hroom := (begin_wf H.out.wf).room
    have hus : (D.begin.1.used : Int) ≤ 9223372036854775807 := by rw [hused]; omega
    have HUS := Lib.hid hused
    clear hfa hfd hf e3 e4 e5 e2 e1 hb hmem hused hu
    go_enter Tryz.func29, Tryz.ntmps29
    go_wp2_with fail
    refine HFA.out.mono ?_
    rintro e w1 ⟨rfl, h1, ho⟩
    have c0 : w1.cell? ⟨d, 0, none⟩ = some (.int .i64 D.begin.1.room) := Heap.cell h1.core 0
    have H1 := Lib.hid h1; clear h1
    have HO := Lib.hid ho; clear ho
    go_wp2_with fail
    have hwr : IntKind.i64.wrap (D.begin.1.room - (D.begin.1.used : Int)) = D.begin.1.room - (D.begin.1.used : Int) := IntWalk.i64_in _ (by omega)
    go_region_held3 (fun W => W.cell? ⟨d, 0, none⟩ = some (.int .i64 D.begin.1.room)) (first | assumption | exact c0)
      (first | (go_at_call 20; refine (used_any _ d D.begin.1 R (H1.out.off ((Off.refl None _).drew) (fun _ _ h => h)) HU.out).mono ?_; rintro e w2 ⟨rfl, ho2⟩; have c02 : w2.cell? ⟨d, 0, none⟩ = some (.int .i64 D.begin.1.room) := (ho2.cell (a := ⟨d, 0, none⟩) (Heap.block_lt c0) (fun h => h)).trans c0))
    have HO2 := Lib.hid ho2; clear ho2
    clear c0 hwr
    have h2 := H1.out.off (Off.trans ((Off.refl None w1).drew) HO2.out (fun _ _ h => h)) (fun _ _ h => h)
    have H2 := Lib.hid h2; clear h2
    by_cases hrm : D.begin.1.room - D.begin.1.used < s.size
    · have hsp : D.append name s = (D.begin.1, 9) := by unfold DiskV.append; rw [HFD.out]; simp only [if_pos hrm]
      have HS := Lib.hid hsp; clear hsp
      go_wp2
      go_ret
      rw [HS.out]
      have hoF := off_trans (off_core H.out HF.out HO.out) (Off.mono (Off.trans ((Off.refl None w1).drew) HO2.out (fun _ _ h => h)) (fun _ _ h => h.elim))
      exact ⟨rfl, ⟨R, H2.out, fun b hb => .inl (HF.out b hb)⟩, hoF⟩
    · go_wp2_with fail
      refine (fails_any _ _ _ _ H2.out).mono ?_
      rintro e w3 ⟨rfl, h3, ho3⟩
      have hfile : D.begin.1.fails.1.files[i]? = some f := by rw [(fails_same _).2.1, (begin_names D).2.1]; exact HFF.out
      have hfat := file_at h3 hfile E1.out E2.out
      have hbk := hfat.blk
      have c1 : w3.cell? ⟨b, 1, none⟩ = some (.string f.now) := Heap.cell hbk 1
      have c2 : w3.cell? ⟨b, 2, none⟩ = some cv := Heap.cell hbk 2
      have f1 : w3.frozen? ⟨b, 1, none⟩ = false := Heap.frozen hbk 1
      have hlt : b < w3.heap.size := Heap.lt hbk
      have hbc : cv.ownBlock ≠ some b := own_ne h3 hfile E1.out E2.out
      have HBC := Lib.hid hbc; clear hbc
      have HFAT := Lib.hid hfat; clear hfat hbk
      have HFI := Lib.hid hfile; clear hfile
      have H3 := Lib.hid h3; clear h3
      have HO3 := Lib.hid ho3; clear ho3
      have hoF := off_trans (off_trans (off_core H.out HF.out HO.out) (Off.mono (Off.trans ((Off.refl None w1).drew) HO2.out (fun _ _ h => h)) (fun _ _ h => h.elim))) (off_core H2.out HF.out HO3.out)
      have HOF := Lib.hid hoF; clear hoF
      cases hbf : D.begin.1.fails.2 with
      | true =>
        have HBF := Lib.hid hbf; clear hbf
        have hsp : D.append name s = (D.begin.1.fails.1, 10) := by unfold DiskV.append; rw [HFD.out]; simp only [if_neg (Int.not_lt.2 hrm), HBF.out, if_true]
        have HS := Lib.hid hsp; clear hsp
        go_wp2
        go_ret
        rw [HS.out]
        exact ⟨rfl, ⟨R, H3.out, fun b hb => .inl (HF.out b hb)⟩, HOF.out⟩
      | false =>
        have HBF := Lib.hid hbf; clear hbf
        have hsp : D.append name s = (D.begin.1.fails.1.setFile i ⟨f.base, f.now ++ s, f.chgs ++ [⟨s, -1⟩]⟩, 0) := by
          unfold DiskV.append; rw [HFD.out]; simp only [if_neg (Int.not_lt.2 hrm), HBF.out, Bool.false_eq_true, if_false]; rw [(begin_names D).2.1, HFF.out]
        have HS := Lib.hid hsp; clear hsp
        obtain ⟨i0, hi, hz0, hz1, hz2⟩ := info_parts infoChg
        have hrow4 : ∀ o, ((w3.setCell ⟨b, 1, none⟩ (.string (f.now ++ s))).alloc o).ownsRow 0 128 2 cv f.chgs.length (f.chgs.flatMap chgCells) := fun o =>
          (((Off.refl (Only b) w3).set 1 (.string (f.now ++ s))).alloc o).row HFAT.out.row (fun k hk e => HBC.out (by rw [hk, show k = b from e]))
        have HR4 := Lib.hid hrow4; clear hrow4
        go_wp2_with (at_builtin; refine wpList_append_lies _ rfl _ _ 99 rfl 0 128 i0 _ 2 24 Tryz.underlying99 hi hz0 hz1 hz2 rfl (by decide) cv f.chgs.length (f.chgs.flatMap chgCells) rfl (HR4.out _) ⟨w3.heap.size, 0, none⟩ 1 1 [.string s, .int .i64 (-1)] rfl rfl ?c1 ?c2 (by decide) ?c3 ?c4 (Nat.zero_le _) (w3.heap.size + 1) ?c5 ?_)
        case c1 => exact Heap.news _ _ _ _ (Heap.set_size _ _).symm
        case c2 => intro u hu; simp at hu; rcases hu with rfl | rfl <;> rfl
        case c3 => unfold maxLen; omega
        case c4 => omega
        case c5 => rw [Heap.alloc_size, Heap.set_size]
        intro g cap w5 hrow5 hg5 hgb _
        have hge : cv.ownBlock = some g ∨ w3.heap.size ≤ g := hgb.imp id (fun h => by omega)
        have HGE := Lib.hid hge; clear hge hgb
        have hoff5 : Off (fun k => k = b ∨ cv.ownBlock = some k) w3 w5 :=
          (((Off.refl _ w3).setCell (p := ⟨b, 1, none⟩) (.inl (.inl rfl)) (.string (f.now ++ s))).alloc _).grown hg5 (fun k hk => .inl (.inr hk))
        have hb5 : w5.heap[b]? = some (.cells #[.string f.base, .string (f.now ++ s), cv] 101 (0, 0)) := by
          have h4 := (Heap.alloc_old (Heap.set HFAT.out.blk 1 (.string (f.now ++ s))) (.cells #[.string s, .int .i64 (-1)] 128)).trans rfl
          rw [hg5.block b (Heap.lt h4) (fun e => HBC.out e.symm)]
          exact h4
        have c5 : w5.cell? ⟨b, 2, none⟩ = some cv := Heap.cell hb5 2
        have f5 : w5.frozen? ⟨b, 2, none⟩ = false := Heap.frozen hb5 2
        have HB5 := Lib.hid hb5; clear hb5
        have HROW := Lib.hid hrow5; clear hrow5
        have HG5 := Lib.hid hg5; clear hg5
        have HOFF := Lib.hid hoff5; clear hoff5
        go_wp2
        go_ret
        rw [HS.out]
        obtain ⟨v', hv'⟩ : ∃ v', v' = Value.slice (some ⟨g, 0, none⟩) (f.chgs.length + 1) cap := ⟨_, rfl⟩
        rw [← hv']
        have hrow := HROW.out
        rw [← hv'] at hrow
        have hog : v'.ownBlock = some g := by rw [hv']; rfl
        have ho6 := HOFF.out.setCell (p := ⟨b, 2, none⟩) (.inl (.inl rfl)) v'
        have hne : v'.ownBlock ≠ some b := by
          rw [hog]
          rcases HGE.out with h | h
          · rw [← h]; exact HBC.out
          · intro e; cases e; omega
        have hfat6 : FileAt (w5.setCell ⟨b, 2, none⟩ v') b v' ⟨f.base, f.now ++ s, f.chgs ++ [⟨s, -1⟩]⟩ :=
          ⟨(Heap.set HB5.out 2 v').trans rfl, ((Off.refl (Only b) w5).set 2 v').row (by simpa [chgCells] using hrow) (fun k hk e => hne (by rw [hk, show k = b from e]))⟩
        have h6 := H3.out.setFile HFI.out E1.out E2.out ho6 hfat6 (by rw [hog]; intro k hk; cases hk; exact HGE.out)
        refine ⟨rfl, ⟨_, h6, fun b hb => Grow.left HOF.out b (DiskRep.setCv_in HF.out (fun k hk => ?_) b hb)⟩, off_trans HOF.out (off_file H3.out HF.out HFI.out E1.out E2.out ho6)⟩
        exact row_lt hfat6.row hk
set_option maxRecDepth 100000 in
theorem cut_any (w : World) (d : Nat) (D : DiskV) (F : Nat → Prop) (h : DiskIn w d D F) (name : ByteArray) (n : Nat) (hn : name.size ≤ maxLen) (hs : n ≤ maxLen)
    (hb : ∀ f ∈ D.files, f.chgs.length ≤ 1099511627776 ∧ f.now.size ≤ maxLen) :
    Calls Tryz.prog 47 #[.pointer (some ⟨d, 0, none⟩), .string name, .int .i64 n] w fun e w' =>
      e = .returned (.int .i64 (D.cut name n).2) ∧ DiskIn w' d (D.cut name n).1 (Grow F w w') ∧ Off F w w' := by
  obtain ⟨R, h, hF⟩ := h
  have HF := Lib.hid hF; clear hF
  have hs' : n ≤ 2 ^ 63 - 1 := hs
  rcases find_cases D h.wf name with ⟨D1, er, her, hfd, _⟩ | ⟨i, f, hfd, hf, _⟩
  · have H := Lib.hid h; clear h
    have hsp : D.cut name n = (D1, er) := by unfold DiskV.cut; rw [hfd]
    have hfa := find_any w d D R H.out name hn
    rw [hfd, show fptr R none = .pointer none from rfl] at hfa
    have HFA := Lib.hid hfa
    have HS := Lib.hid hsp
    have t1 : (er != 0) = true := by rw [bne_iff_ne]; exact her
    clear hfa hsp hfd her hb
    go_enter Tryz.func47, Tryz.ntmps47
    go_wp2_with fail
    refine HFA.out.mono ?_
    rintro e w1 ⟨rfl, h1, ho⟩
    have H1 := Lib.hid h1; clear h1
    have HO := Lib.hid ho; clear ho
    go_wp2
    go_ret
    rw [HS.out]
    exact ⟨rfl, ⟨R, H1.out, fun b hb => .inl (HF.out b hb)⟩, off_core H.out HF.out HO.out⟩
  · have H := Lib.hid h; clear h
    have hfa := find_any w d D R H.out name hn
    obtain ⟨b, cv, e1, e2, e3, e4, e5⟩ := H.out.each i f hf
    rw [hfd, show fptr R (some i) = .pointer (some ⟨b, 0, none⟩) from by rw [fptr, e1]] at hfa
    have HFA := Lib.hid hfa
    have HFD := Lib.hid hfd
    have HFF := Lib.hid hf
    have E1 := Lib.hid e1
    have E2 := Lib.hid e2
    have hmem : f ∈ D.files := List.mem_of_getElem? hf
    have hb1 := (hb f hmem).1
    have hb2 : f.now.size ≤ 2 ^ 63 - 1 := (hb f hmem).2
    clear hfa hfd hf e3 e4 e5 e2 e1 hb hmem
    go_enter Tryz.func47, Tryz.ntmps47
    go_wp2_with fail
    refine HFA.out.mono ?_
    rintro e w1 ⟨rfl, h1, ho⟩
    have hfile : D.begin.1.files[i]? = some f := by rw [(begin_names D).2.1]; exact HFF.out
    have hfat := file_at h1 hfile E1.out E2.out
    have hbk := hfat.blk
    have c1 : w1.cell? ⟨b, 1, none⟩ = some (.string f.now) := Heap.cell hbk 1
    have c2 : w1.cell? ⟨b, 2, none⟩ = some cv := Heap.cell hbk 2
    have f1 : w1.frozen? ⟨b, 1, none⟩ = false := Heap.frozen hbk 1
    have hlt : b < w1.heap.size := Heap.lt hbk
    have hbc : cv.ownBlock ≠ some b := own_ne h1 hfile E1.out E2.out
    have HBC := Lib.hid hbc; clear hbc
    have HFAT := Lib.hid hfat; clear hfat hbk
    have HFI := Lib.hid hfile; clear hfile
    have hoF := off_core H.out HF.out ho
    have H1 := Lib.hid h1; clear h1
    have HO := Lib.hid ho; clear ho
    have HOF := Lib.hid hoF; clear hoF
    have t0 : ¬ ((n : Int) < 0) := by omega
    by_cases hrm : (f.now.size : Int) < n
    · have hsp : D.cut name n = (D.begin.1, 1) := by unfold DiskV.cut; rw [HFD.out]; simp only [(begin_names D).2.1, HFF.out]; rw [if_pos (by omega)]
      have HS := Lib.hid hsp; clear hsp
      go_wp2
      go_ret
      rw [HS.out]
      exact ⟨rfl, ⟨R, H1.out, fun b hb => .inl (HF.out b hb)⟩, HOF.out⟩
    · have hsp : D.cut name n = (D.begin.1.setFile i ⟨f.base, f.now.extract 0 n, f.chgs ++ [⟨ByteArray.empty, n⟩]⟩, 0) := by
        unfold DiskV.cut; rw [HFD.out]; simp only [(begin_names D).2.1, HFF.out]; rw [if_neg (by omega)]; rfl
      have HS := Lib.hid hsp; clear hsp
      obtain ⟨i0, hi, hz0, hz1, hz2⟩ := info_parts infoChg
      have hrow4 : ∀ o, ((w1.setCell ⟨b, 1, none⟩ (.string (f.now.extract 0 n))).alloc o).ownsRow 0 128 2 cv f.chgs.length (f.chgs.flatMap chgCells) := fun o =>
        (((Off.refl (Only b) w1).set 1 (.string (f.now.extract 0 n))).alloc o).row HFAT.out.row (fun k hk e => HBC.out (by rw [hk, show k = b from e]))
      have HR4 := Lib.hid hrow4; clear hrow4
      go_wp2_with (at_builtin; refine wpList_append_lies _ rfl _ _ 99 rfl 0 128 i0 _ 2 24 Tryz.underlying99 hi hz0 hz1 hz2 rfl (by decide) cv f.chgs.length (f.chgs.flatMap chgCells) rfl (HR4.out _) ⟨w1.heap.size, 0, none⟩ 1 1 [.string ⟨#[]⟩, .int .i64 n] rfl rfl ?c1 ?c2 (by decide) ?c3 ?c4 (Nat.zero_le _) (w1.heap.size + 1) ?c5 ?_)
      case c1 => exact Heap.news _ _ _ _ (Heap.set_size _ _).symm
      case c2 => intro u hu; simp at hu; rcases hu with rfl | rfl <;> rfl
      case c3 => unfold maxLen; omega
      case c4 => omega
      case c5 => rw [Heap.alloc_size, Heap.set_size]
      intro g cap w5 hrow5 hg5 hgb _
      have hge : cv.ownBlock = some g ∨ w1.heap.size ≤ g := hgb.imp id (fun h => by omega)
      have HGE := Lib.hid hge; clear hge hgb
      have hoff5 : Off (fun k => k = b ∨ cv.ownBlock = some k) w1 w5 :=
        (((Off.refl _ w1).setCell (p := ⟨b, 1, none⟩) (.inl (.inl rfl)) (.string (f.now.extract 0 n))).alloc _).grown hg5 (fun k hk => .inl (.inr hk))
      have hb5 : w5.heap[b]? = some (.cells #[.string f.base, .string (f.now.extract 0 n), cv] 101 (0, 0)) := by
        have h4 := (Heap.alloc_old (Heap.set HFAT.out.blk 1 (.string (f.now.extract 0 n))) (.cells #[.string ⟨#[]⟩, .int .i64 n] 128)).trans rfl
        rw [hg5.block b (Heap.lt h4) (fun e => HBC.out e.symm)]
        exact h4
      have c5 : w5.cell? ⟨b, 2, none⟩ = some cv := Heap.cell hb5 2
      have f5 : w5.frozen? ⟨b, 2, none⟩ = false := Heap.frozen hb5 2
      have HB5 := Lib.hid hb5; clear hb5
      have HROW := Lib.hid hrow5; clear hrow5
      have HG5 := Lib.hid hg5; clear hg5
      have HOFF := Lib.hid hoff5; clear hoff5
      go_wp2
      go_ret
      rw [HS.out]
      obtain ⟨v', hv'⟩ : ∃ v', v' = Value.slice (some ⟨g, 0, none⟩) (f.chgs.length + 1) cap := ⟨_, rfl⟩
      rw [← hv']
      have hrow := HROW.out
      rw [← hv'] at hrow
      have hog : v'.ownBlock = some g := by rw [hv']; rfl
      have ho6 := HOFF.out.setCell (p := ⟨b, 2, none⟩) (.inl (.inl rfl)) v'
      have hne : v'.ownBlock ≠ some b := by
        rw [hog]
        rcases HGE.out with h | h
        · rw [← h]; exact HBC.out
        · intro e; cases e; omega
      have hfat6 : FileAt (w5.setCell ⟨b, 2, none⟩ v') b v' ⟨f.base, f.now.extract 0 n, f.chgs ++ [⟨ByteArray.empty, n⟩]⟩ :=
        ⟨(Heap.set HB5.out 2 v').trans rfl, ((Off.refl (Only b) w5).set 2 v').row (by simp only [List.length_append, List.length_cons, List.length_nil, List.flatMap_append, List.flatMap_cons, List.flatMap_nil, List.append_nil, Nat.zero_add]; exact hrow) (fun k hk e => hne (by rw [hk, show k = b from e]))⟩
      have h6 := H1.out.setFile HFI.out E1.out E2.out ho6 hfat6 (by rw [hog]; intro k hk; cases hk; exact HGE.out)
      refine ⟨rfl, ⟨_, h6, fun b hb => Grow.left HOF.out b (DiskRep.setCv_in HF.out (fun k hk => ?_) b hb)⟩, off_trans HOF.out (off_file H1.out HF.out HFI.out E1.out E2.out ho6)⟩
      exact row_lt hfat6.row hk
end DiskW
end Go.Proofs.YtnppdcegpojmbaaGreatDoor
