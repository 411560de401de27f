/- The walk of Roll of a log. -/
import Derived.Test.YtnppdcegpojmbaaGreatDoorSeg4
namespace Go.Proofs.YtnppdcegpojmbaaGreatDoor
open Go Go.RowKit
namespace LogV
/-- What Roll does. -/
def roll (L : LogV) (D : DiskV) : LogV × DiskV × Int :=
  if L.act.many = 0 then (L, D, 0)
  else match D.sync (Seg.nameB L.act.first) with
    | (D1, e) =>
      if e = 0 then
        match D1.started L.act.end_ with
        | (D2, e2, st) => if st = true then (⟨L.segs, ⟨L.act.end_, 0, 0⟩, ⟨L.act.end_, 0, 0⟩⟩, D2, e2) else ({ L with durable := L.act }, D2, e2)
      else (L, D1, e)
end LogV
theorem lim_begin {N : Nat} {D : DiskV} (h : Lim N D) : Lim N D.begin.1 := by
  have h1 := DiskW.begin_len D
  exact ⟨h.le, by rw [h1.2.1]; exact h.files, by rw [h1.1]; exact h.names, by rw [h1.2.2]; exact h.moves, by rw [h1.2.1]; exact h.each⟩
theorem lim_sync {N : Nat} {D : DiskV} (h : Lim N D) (name : ByteArray) : Lim N (D.sync name).1 := by
  have h1 := DiskW.find_len D name
  unfold DiskV.sync
  obtain ⟨D1, oi, er, hfd⟩ : ∃ D1 oi er, D.find name = (D1, oi, er) := ⟨_, _, _, rfl⟩
  rw [hfd] at h1 ⊢
  dsimp only at h1
  have hD1 : Lim N D1 := ⟨h.le, by rw [h1.2.1]; exact h.files, by rw [h1.1]; exact h.names, by rw [h1.2.2]; exact h.moves, by rw [h1.2.1]; exact h.each⟩
  have hfs := DiskW.fails_same D1
  have hDf : Lim N D1.fails.1 := ⟨h.le, by rw [hfs.2.1]; exact hD1.files, by rw [hfs.1]; exact hD1.names, by rw [hfs.2.2.2.1]; exact hD1.moves, by rw [hfs.2.1]; exact hD1.each⟩
  cases oi with
  | none => exact hD1
  | some i =>
    dsimp only
    split
    · exact hDf
    · cases hf : D1.files[i]? with
      | none => exact hD1
      | some f =>
        dsimp only
        refine ⟨h.le, by show (D1.fails.1.files.set i _).length ≤ N; rw [List.length_set]; exact hDf.files, hDf.names, hDf.moves, ?_⟩
        intro f' hf'
        have hf' : f' ∈ D1.fails.1.files.set i ⟨f.now, f.now, []⟩ := hf'
        rcases List.mem_or_eq_of_mem_set hf' with hm | hm
        · exact hDf.each f' hm
        · subst hm
          exact ⟨Nat.zero_le _, (hD1.each f (List.mem_of_getElem? hf)).2⟩
namespace Seg
set_option maxHeartbeats 2000000 in
set_option maxRecDepth 100000 in
theorem roll_any (w : World) (lg d n N : Nat) (L : LogV) (D : DiskV) (F : Nat → Prop) (h : Store w lg d L D F 0) (hG : Glob n w) (hF : ∀ b, F b → n ≤ b) (hok : L.Ok) (hl : Lim N D) (hx : L.segs.length ≤ 1000000) :
    Calls Tryz.prog 16 #[.pointer (some ⟨lg, 0, none⟩)] w fun e w' =>
      e = .returned (.int .i64 (L.roll D).2.2) ∧ Store w' lg d (L.roll D).1 (L.roll D).2.1 (Grow F w w') 0 ∧ Off F w w' := by
  obtain ⟨off, hoff⟩ : ∃ off : Nat, off = 0 := ⟨0, rfl⟩
  rw [← hoff] at h
  have H0 := Lib.hid hoff; clear hoff
  obtain ⟨g, cap, Fd, hst⟩ := h
  have HST := Lib.hid hst; clear hst
  have HGL := Lib.hid hG; clear hG
  have HFN := Lib.hid hF; clear hF
  have HOK := Lib.hid hok; clear hok
  have HL := Lib.hid hl; clear hl
  go_enter Tryz.func16, Tryz.ntmps16
  go_wp2_with fail
  refine (active_any _ lg d L g off cap HST.out.log).mono ?_
  rintro e w1 ⟨rfl, ho1⟩
  have hst1 := HST.out.quiet ho1
  obtain ⟨q0, q1, q2, qf⟩ := hst1.log.act
  have p0 : w1.cell? ⟨lg, 0, none⟩ = some (.pointer (some ⟨d, 0, none⟩)) := hst1.log.own.1
  have HST1 := Lib.hid hst1; have HO1 := Lib.hid ho1
  clear hst1 ho1
  by_cases hm : L.act.many = 0
  · have hsp : L.roll D = (L, D, 0) := by unfold LogV.roll; rw [if_pos hm]
    have HSP := Lib.hid hsp; clear hsp
    rw [hm] at q1
    go_wp2
    go_ret
    rw [HSP.out]
    rw [← H0.out]
    exact ⟨rfl, ⟨g, cap, Fd, HST1.out.log, HST1.out.disk, HST1.out.sepL, HST1.out.sepG, .inl HST1.out.inL, .inl HST1.out.inG, fun b hb => .inl (HST1.out.inD b hb)⟩, HO1.out.mono (fun _ _ h => h.elim)⟩
  · have t0 : ((L.act.many : Int) == 0) = false := by rw [beq_eq_false_iff_ne]; omega
    go_wp2_with fail
    have hfst : L.act.first < 18446744073709551616 := by have := HOK.out.act.sum; omega
    have hac := fun W (hW : Off None w1 W) => active_any W lg d L g off cap (HST1.out.quiet hW).log
    have HAC := Lib.hid hac; clear hac
    have hname := fun W (hW : Off None w1 W) => name_any W L.act.first hfst ((HGL.out.none HO1.out).none hW).pow
    have HNM := Lib.hid hname; clear hname
    have hdk := fun W (hW : Off None w1 W) => DiskW.sync_any W d D Fd (HST1.out.disk.off hW (fun _ _ _ h => h)) (nameB L.act.first) (by rw [nameB_size hfst]; decide)
    have HDK := Lib.hid hdk; clear hdk
    have hsl := HST1.out.sepL
    have hsg := HST1.out.sepG
    clear q1 q2 qf t0
    go_region_held3 (fun W => W.cell? ⟨lg, 0, none⟩ = some (.pointer (some ⟨d, 0, none⟩)) ∧ W.cell? ⟨g, off * 3 + L.full.length * 3, none⟩ = some (.int .u64 L.act.first))
      (first | exact ⟨p0, q0⟩ | exact ⟨l1, l2⟩ | exact ⟨k1, k2⟩ | exact ⟨j1, j2⟩)
      (first
        | (go_at_call 49; refine (HAC.out _ ((Off.refl None w1).drew)).mono ?_; rintro e w3 ⟨rfl, ho3⟩; have j1 : w3.cell? ⟨lg, 0, none⟩ = some (.pointer (some ⟨d, 0, none⟩)) := ho3.keep p0 (fun h => h); have j2 : w3.cell? ⟨g, off * 3 + L.full.length * 3, none⟩ = some (.int .u64 L.act.first) := ho3.keep q0 (fun h => h); have ho13 : Off None w1 w3 := ((Off.refl None w1).drew).trans ho3 (fun _ _ h => h); clear ho3)
        | (go_at_call 25; refine (HNM.out w3 ho13).mono ?_; rintro e w4 ⟨rfl, ho4⟩; have k1 : w4.cell? ⟨lg, 0, none⟩ = some (.pointer (some ⟨d, 0, none⟩)) := ho4.keep j1 (fun h => h); have k2 : w4.cell? ⟨g, off * 3 + L.full.length * 3, none⟩ = some (.int .u64 L.act.first) := ho4.keep j2 (fun h => h); have ho14 : Off None w1 w4 := ho13.trans ho4 (fun _ _ h => h); clear ho4 ho13)
        | (go_at_call 48; refine (HDK.out w4 ho14).mono ?_; rintro e w5 ⟨rfl, hd5, ho5⟩; have l1 : w5.cell? ⟨lg, 0, none⟩ = some (.pointer (some ⟨d, 0, none⟩)) := ho5.keep k1 hsl; have l2 : w5.cell? ⟨g, off * 3 + L.full.length * 3, none⟩ = some (.int .u64 L.act.first) := ho5.keep k2 hsg))
    have hst5 := (HST1.out.quiet ho14).disk' hd5 ho5
    have hoF : Off F w w5 := (HO1.out.mono (fun _ _ h => h.elim)).trans ((ho14.mono (fun _ _ h => h.elim) : Off F w1 w4).trans ((HST1.out.quiet ho14).offF ho5) (fun _ _ h => h)) (fun _ _ h => h)
    have hsz4 : w.heap.size ≤ w4.heap.size := Nat.le_trans HO1.out.size ho14.size
    have HST5 := Lib.hid hst5
    have HOF := Lib.hid hoF
    have HS5 := Lib.hid ho5.size
    clear hst5 hoF ho14 hd5 l1 l2 k1 k2 j1 j2 p0 q0 ho5
    obtain ⟨D', er, hda⟩ : ∃ D' er, D.sync (nameB L.act.first) = (D', er) := ⟨_, _, rfl⟩
    have hlim := lim_sync HL.out (nameB L.act.first)
    rw [hda] at HST5 hlim ⊢
    dsimp only at HST5 hlim ⊢
    have HLM := Lib.hid hlim; clear hlim
    have HDA := Lib.hid hda; clear hda
    by_cases he : er = 0
    · subst he
      go_wp2_with fail
      refine (active_any _ lg d L g off cap HST5.out.log).mono ?_
      rintro e w6 ⟨rfl, ho6⟩
      have hst6 := HST5.out.quiet ho6
      obtain ⟨q0, q1, q2, qf⟩ := hst6.log.act
      obtain ⟨p0, p1, p2, p3, p4, pf⟩ := hst6.log.own
      have pf2 := pf 2
      have pf3 := pf 3
      have pf4 := pf 4
      have hst7 := hst6.setDur L.act
      obtain ⟨w7, hw7⟩ : ∃ w7, w7 = ((w6.setCell ⟨lg, 2, none⟩ (.int .u64 L.act.first)).setCell ⟨lg, 3, none⟩ (.int .i64 L.act.many)).setCell ⟨lg, 4, none⟩ (.int .i64 L.act.size) := ⟨_, rfl⟩
      have ho67 : Off (Only lg) w6 w7 := by rw [hw7]; exact (((Off.refl (Only lg) w6).set 2 _).set 3 _).set 4 _
      rw [← hw7] at hst7
      have hok7 : ({ L with durable := L.act } : LogV).Ok := ⟨HOK.out.segs, HOK.out.act⟩
      have HST6 := Lib.hid hst6; have HO6 := Lib.hid ho6; have HST7 := Lib.hid hst7; have HO7 := Lib.hid ho67; have HW7 := Lib.hid hw7; have HOK7 := Lib.hid hok7
      clear hst6 ho6 hst7 ho67 hw7 hok7 pf p0 p1
      go_wp2_with fail
      rw [← HW7.out]
      refine (next_any _ lg d { L with durable := L.act } g off cap HST7.out.log HOK7.out).mono ?_
      rintro e w8 ⟨rfl, ho8⟩
      have HO8 := Lib.hid ho8
      have HST8 := Lib.hid (HST7.out.quiet ho8)
      clear ho8 q0 q1 q2 qf p2 p3 p4 pf2 pf3 pf4
      go_wp2_with fail
      have hst8 := HST8.out
      have hoff := H0.out
      subst hoff
      have hd8 : DiskIn w8 d D' (fun b => Grow Fd w4 w5 b ∧ b < w8.heap.size) := hst8.disk.mono (fun b hb h => ⟨h, hb⟩)
      have hlt8 := hst8.log.lts
      have hglob8 : Glob n w8 := HGL.out.off (((HOF.out.trans (HO6.out.mono (fun _ _ h => h.elim) : Off F w5 w6) (fun _ _ h => h)).trans (HO7.out.mono (fun b _ e => by rw [show b = lg from e]; exact HST1.out.inL) : Off F w6 w7) (fun _ _ h => h)).trans (HO8.out.mono (fun _ _ h => h.elim) : Off F w7 w8) (fun _ _ h => h)) HFN.out
      have hbeg := begin_any w8 lg d n N L.segs L.act _ D' _ hst8.log.pre hd8 (fun h => hst8.sepL h.1) (fun k hk h => by cases hk; exact hst8.sepG h.1) hglob8 (fun b h => h.2) HLM.out hx L.act.end_ HOK.out.act.sum
      refine hbeg.mono ?_
      rintro e w9 ⟨rfl, hd9, ho9, hyes, hno⟩
      have HD9 := Lib.hid hd9; have HO9 := Lib.hid ho9; have HY := Lib.hid hyes; have HNO := Lib.hid hno; have HL8 := Lib.hid hlt8; have HS8 := Lib.hid hst8
      clear hd9 ho9 hyes hno hbeg hd8 hglob8 hlt8 hst8
      obtain ⟨D2, e2, st, hst⟩ : ∃ D2 e2 st, D'.started L.act.end_ = (D2, e2, st) := ⟨_, _, _, rfl⟩
      rw [hst] at HD9 HY HNO ⊢
      dsimp only at HD9 HY HNO ⊢
      have HSTA := Lib.hid hst; clear hst
      go_wp2
      go_ret
      have hoF9 : Off F w w9 := by
        refine (((HOF.out.trans (HO6.out.mono (fun _ _ h => h.elim) : Off F w5 w6) (fun _ _ h => h)).trans (HO7.out.mono (fun b _ e => by rw [show b = lg from e]; exact HST1.out.inL) : Off F w6 w7) (fun _ _ h => h)).trans (HO8.out.mono (fun _ _ h => h.elim) : Off F w7 w8) (fun _ _ h => h)).trans HO9.out (fun b hb h => ?_)
        rcases h with h | h | h
        · rcases h.1 with h | h
          · exact HST1.out.inD b h
          · omega
        · rw [h]; exact HST1.out.inL
        · cases h; exact HST1.out.inG
      have hs49 : w4.heap.size ≤ w5.heap.size ∧ w5.heap.size ≤ w8.heap.size ∧ w8.heap.size ≤ w9.heap.size := ⟨HS5.out, Nat.le_trans HO6.out.size (Nat.le_trans HO7.out.size HO8.out.size), HO9.out.size⟩
      have hupF : ∀ b, Grow (fun b => Grow Fd w4 w5 b ∧ b < w8.heap.size) w8 w9 b → Grow F w w9 b := fun b hb => by
        rcases hb with ⟨hb, hb2⟩ | hb
        · rcases hb with hb | hb
          · exact .inl (HST1.out.inD b hb)
          · exact .inr ⟨by omega, by omega⟩
        · exact .inr ⟨by omega, hb.2⟩
      cases st with
      | true =>
        have hsp : L.roll D = (⟨L.segs, ⟨L.act.end_, 0, 0⟩, ⟨L.act.end_, 0, 0⟩⟩, D2, e2) := by
          unfold LogV.roll; rw [if_neg hm, HDA.out]; dsimp only; rw [if_pos rfl, HSTA.out]; dsimp only; rw [if_pos rfl]
        rw [hsp]
        obtain ⟨g', cap', Fd', hl9, hg9, hd9, hsl9, hsg9, hup9⟩ := HY.out rfl
        refine ⟨rfl, ⟨g', cap', Fd', hl9, hd9, hsl9, hsg9, .inl HST1.out.inL, ?_, fun b hb => hupF b (hup9 b hb)⟩, hoF9⟩
        rcases hg9 with h | h
        · cases h; exact .inl HST1.out.inG
        · exact .inr ⟨by omega, h.2⟩
      | false =>
        have hsp : L.roll D = ({ L with durable := L.act }, D2, e2) := by
          unfold LogV.roll; rw [if_neg hm, HDA.out]; dsimp only; rw [if_pos rfl, HSTA.out]; dsimp only; rw [if_neg (by decide)]
        rw [hsp]
        have hp9 := HNO.out rfl
        rw [LogV.len] at hp9
        have hl9 : LogAt w9 lg d { L with durable := L.act } g 0 cap := hp9.log
        refine ⟨rfl, ⟨g, cap, _, hl9, HD9.out, ?_, ?_, .inl HST1.out.inL, .inl HST1.out.inG, hupF⟩, hoF9⟩
        · intro h
          rcases h with h | h
          · exact HS8.out.sepL h.1
          · have := HL8.out.1; omega
        · intro h
          rcases h with h | h
          · exact HS8.out.sepG h.1
          · have := HL8.out.2; omega
    · have hsp : L.roll D = (L, D', er) := by
        unfold LogV.roll; rw [if_neg hm, HDA.out]; dsimp only; rw [if_neg he]
      have HSP := Lib.hid hsp; clear hsp
      have t1 : (er != 0) = true := by rw [bne_iff_ne]; exact he
      go_wp2
      go_ret
      rw [HSP.out]
      rw [← H0.out]
      refine ⟨rfl, ⟨g, cap, _, HST5.out.log, HST5.out.disk, HST5.out.sepL, HST5.out.sepG, .inl HST1.out.inL, .inl HST1.out.inG, fun b hb => ?_⟩, HOF.out⟩
      rcases hb with hb | hb
      · exact .inl (HST1.out.inD b hb)
      · exact .inr ⟨by omega, hb.2⟩
end Seg
end Go.Proofs.YtnppdcegpojmbaaGreatDoor
