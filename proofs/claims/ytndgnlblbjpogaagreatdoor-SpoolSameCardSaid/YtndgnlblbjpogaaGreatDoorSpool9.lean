/- A spool in memory; the walk of put. · A spool in memory; the walk of Add. -/
import Derived.Test.YtndgnlblbjpogaaGreatDoorSpool4
import Derived.Test.YtndgnlblbjpogaaGreatDoorSpool8
namespace Go.Proofs.YtndgnlblbjpogaaGreatDoor
open Go Go.RowKit Go.Shelf Led
namespace Spool
variable {w w0 w1 : World} {n sp d : Nat} {F : Nat → Prop} {P : SpoolV}
set_option maxHeartbeats 1000000 in
set_option maxRecDepth 100000 in
theorem put_any (w0 w : World) (n sp d M N : Nat) (F : Nat → Prop) (P : SpoolV) (h : Sp w0 n sp d F P w) (hk : P.Wk M N) (hM : M + 1 ≤ 700) (hN : N + 2 ≤ 900000) (body : ByteArray) (hb : body.size ≤ 140737488355328) (s : Bool) :
    Calls Tryz.prog 58 #[.pointer (some ⟨sp, 0, none⟩), .string body, .bool s] w fun e w' => e = .returned (.tuple #[.int .u64 (P.put body s).2.1, .int .i64 (P.put body s).2.2]) ∧ Sp w0 n sp d F (P.put body s).1 w' := by
  obtain ⟨lg, off, Fs, c3, hst, hfn, hns, hout⟩ := inner h.at_ h.lowG
  have hact := hk.nums.act
  have hMl := hk.le
  cases s with
  | false =>
    have hq : P.put body false = P.append body := rfl
    have HQ := Lib.hid hq
    have HA := Lib.hid (Seg.append_any w lg d n N P.log P.disk Fs off hst h.glob hfn hk.ok hk.limN (by have := hact.1; unfold SegV.end_ at this; omega) (by have := hact.1; unfold SegV.end_ at this; have := hact.2; omega) (by have := hact.1; unfold SegV.end_ at this; omega) body hb)
    have HH := Lib.hid (And.intro h hout)
    clear h hk hst hfn hns hout hq hact
    go_enter Tryz.func58, Tryz.ntmps58
    go_wp2_with fail
    refine HA.out.mono ?_
    rintro e w1 ⟨rfl, hst1, ho1⟩
    obtain ⟨s1, s2⟩ := HH.out.2 _ _ _ _ hst1 ho1
    have HS := Lib.hid (HH.out.1.next s1 s2)
    clear hst1 ho1 s1 s2
    go_wp2_with fail
    go_ret2
    rw [HQ.out]
    exact ⟨rfl, HS.out⟩
  | true =>
    have hq : P.put body true = if P.sync.2 ≠ 0 then (P.sync.1, 0, P.sync.2) else if (P.sync.1.append body).2.2 ≠ 0 then ((P.sync.1.append body).1, 0, (P.sync.1.append body).2.2) else if (P.sync.1.append body).1.sync.2 ≠ 0 then ((P.sync.1.append body).1.sync.1.undo.1, 0, (P.sync.1.append body).1.sync.2) else ((P.sync.1.append body).1.sync.1, (P.sync.1.append body).2.1, 0) := rfl
    have HQ := Lib.hid hq
    have HA := Lib.hid (Seg.sync_any w lg d n N P.log P.disk Fs off hst h.glob hfn hk.ok hk.limN)
    have HH := Lib.hid (And.intro h hout)
    have hk1 := hk.sync
    have hk2 := hk1.append body hM (by omega)
    have HK := Lib.hid (And.intro hk1 (And.intro hk2 hk2.sync))
    clear h hk hst hfn hns hout hq hact hk1 hk2
    go_enter Tryz.func58, Tryz.ntmps58
    go_wp2_with fail
    refine HA.out.mono ?_
    rintro e w1 ⟨rfl, hst1, ho1⟩
    obtain ⟨s1, s2⟩ := HH.out.2 _ _ _ _ hst1 ho1
    have hs1 : Sp w0 n sp d F P.sync.1 w1 := HH.out.1.next s1 s2
    obtain ⟨lg1, off1, Fs1, c31, hst1', hfn1, _, hout1⟩ := inner hs1.at_ hs1.lowG
    obtain ⟨e1, he1⟩ : ∃ e1, e1 = P.sync.2 := ⟨_, rfl⟩
    rw [show (P.log.sync P.disk).2.2 = e1 from he1.symm]
    have HE1 := Lib.hid he1
    have HS1 := Lib.hid hs1
    have HO1 := Lib.hid hout1
    have hact := HK.out.1.nums.act
    have HAP := Lib.hid (Seg.append_any w1 lg1 d n N P.sync.1.log P.sync.1.disk Fs1 off1 hst1' hs1.glob hfn1 HK.out.1.ok HK.out.1.limN (by have := hact.1; unfold SegV.end_ at this; omega) (by have := hact.1; unfold SegV.end_ at this; have := hact.2; omega) (by have := hact.1; unfold SegV.end_ at this; omega) body hb)
    clear hst1 ho1 s1 s2 hs1 hst1' hfn1 hout1 he1 hact HA
    by_cases hz1 : e1 = 0
    case neg =>
      have k1 : (e1 != 0) = true := by simpa using hz1
      go_wp2_with fail
      go_ret2
      rw [HQ.out, if_pos (by rw [← HE1.out]; exact hz1), ← HE1.out]
      exact ⟨rfl, HS1.out⟩
    subst hz1
    go_wp2_with fail
    refine HAP.out.mono ?_
    rintro e w2 ⟨rfl, hst2, ho2⟩
    obtain ⟨s1, s2⟩ := HO1.out _ _ _ _ hst2 ho2
    have hs2 : Sp w0 n sp d F (P.sync.1.append body).1 w2 := HS1.out.next s1 s2
    obtain ⟨lg2, off2, Fs2, c32, hst2', hfn2, _, hout2⟩ := inner hs2.at_ hs2.lowG
    obtain ⟨e2, he2⟩ : ∃ e2, e2 = (P.sync.1.append body).2.2 := ⟨_, rfl⟩
    rw [show (P.sync.1.log.append P.sync.1.disk body).2.2.2 = e2 from he2.symm, show (P.sync.1.log.append P.sync.1.disk body).2.2.1 = (P.sync.1.append body).2.1 from rfl]
    have HE2 := Lib.hid he2
    have HS2 := Lib.hid hs2
    have HO2 := Lib.hid hout2
    have HSY := Lib.hid (Seg.sync_any w2 lg2 d n (N + 1) (P.sync.1.append body).1.log (P.sync.1.append body).1.disk Fs2 off2 hst2' hs2.glob hfn2 HK.out.2.1.ok HK.out.2.1.limN)
    clear hst2 ho2 s1 s2 hs2 hst2' hfn2 hout2 he2 HAP HO1 c31
    by_cases hz2 : e2 = 0
    case neg =>
      have k1 : (e2 != 0) = true := by simpa using hz2
      go_wp2_with fail
      go_ret2
      rw [HQ.out, if_neg (by rw [← HE1.out]; exact fun x => x rfl), if_pos (by rw [← HE2.out]; exact hz2), ← HE2.out]
      exact ⟨rfl, HS2.out⟩
    subst hz2
    go_wp2_with fail
    refine HSY.out.mono ?_
    rintro e w3 ⟨rfl, hst3, ho3⟩
    obtain ⟨s1, s2⟩ := HO2.out _ _ _ _ hst3 ho3
    have hs3 : Sp w0 n sp d F (P.sync.1.append body).1.sync.1 w3 := HS2.out.next s1 s2
    obtain ⟨lg3, off3, Fs3, c33, hst3', hfn3, _, hout3⟩ := inner hs3.at_ hs3.lowG
    obtain ⟨e3, he3⟩ : ∃ e3, e3 = (P.sync.1.append body).1.sync.2 := ⟨_, rfl⟩
    rw [show ((P.sync.1.append body).1.log.sync (P.sync.1.append body).1.disk).2.2 = e3 from he3.symm]
    have HE3 := Lib.hid he3
    have HS3 := Lib.hid hs3
    have HO3 := Lib.hid hout3
    have HUN := Lib.hid (Seg.undo_any w3 lg3 d n (N + 1) (P.sync.1.append body).1.sync.1.log (P.sync.1.append body).1.sync.1.disk Fs3 off3 hst3' hs3.glob hfn3 HK.out.2.2.ok HK.out.2.2.limN)
    clear hst3 ho3 s1 s2 hs3 hst3' hfn3 hout3 he3 HSY HO2 c32
    by_cases hz3 : e3 = 0
    case neg =>
      have k1 : (e3 != 0) = true := by simpa using hz3
      go_wp2_with fail
      refine HUN.out.mono ?_
      rintro e w4 ⟨rfl, hst4, ho4⟩
      obtain ⟨s1, s2⟩ := HO3.out _ _ _ _ hst4 ho4
      have HS4 := Lib.hid (HS3.out.next s1 s2)
      clear hst4 ho4 s1 s2
      go_wp2_with fail
      go_ret2
      rw [HQ.out, if_neg (by rw [← HE1.out]; exact fun x => x rfl), if_neg (by rw [← HE2.out]; exact fun x => x rfl), if_pos (by rw [← HE3.out]; exact hz3), ← HE3.out]
      exact ⟨rfl, HS4.out⟩
    subst hz3
    go_wp2_with fail
    go_ret2
    rw [HQ.out, if_neg (by rw [← HE1.out]; exact fun x => x rfl), if_neg (by rw [← HE2.out]; exact fun x => x rfl), if_neg (by rw [← HE3.out]; exact fun x => x rfl)]
    exact ⟨rfl, HS3.out⟩
end Spool
end Go.Proofs.YtndgnlblbjpogaaGreatDoor
namespace Go.Proofs.YtndgnlblbjpogaaGreatDoor
open Go Go.RowKit Go.Shelf Go.Sort Led
theorem LogV.act_get (L : LogV) (h : L.full.length < L.segs.length) : L.segs[L.full.length]'h = L.act := by
  obtain ⟨full, act, dur⟩ := L
  simp [LogV.segs]
namespace Spool
set_option maxHeartbeats 4000000 in
set_option maxRecDepth 100000 in
theorem add_any (w0 w : World) (n sp d M N : Nat) (F : Nat → Prop) (P : SpoolV) (h : Sp w0 n sp d F P w) (hk : P.Wk M N) (hM : M + 1 ≤ 700) (hN : N + 40 ≤ 900000) (body : ByteArray) (hb : body.size ≤ 140737488355328) (s : Bool) :
    Calls Tryz.prog 24 #[.pointer (some ⟨sp, 0, none⟩), .string body, .bool s] w fun e w' => e = .returned (.tuple #[.int .u64 (P.add body s).2.1, .int .i64 (P.add body s).2.2]) ∧ Sp w0 n sp d F (P.add body s).1 w' := by
  obtain ⟨w1, hw1, ho1, hb1, hs1⟩ := boxed w #[.pointer (some ⟨sp, 0, none⟩)] 25
  obtain ⟨q, hq⟩ : ∃ q, q = w.heap.size := ⟨_, rfl⟩
  rw [← hq] at hb1
  have hsp1 := h.behind ho1
  obtain ⟨F1, hF1⟩ : ∃ F1, F1 = fun b => Grow F w0 w b ∧ b < w.heap.size := ⟨_, rfl⟩
  rw [← hF1] at hsp1
  have hqF : ¬ F1 q := fun x => by rw [hF1] at x; have := x.2; omega
  have b0 : w1.cell? ⟨q, 0, none⟩ = some (.pointer (some ⟨sp, 0, none⟩)) := Heap.cell hb1 0
  have hby : ∀ (M' N' : Nat) (P' : SpoolV), P'.Wk M' N' → P'.log.bytes ≤ 9223372036854775807 := fun _ _ _ hk' => hk'.nums.bytes (by have := hk'.le; omega) (by have := hk'.few; omega)
  have hev := evict_any w1 w1 n sp d M N 53 q _ P SpoolV.full hsp1 hk (by omega) (enters_of Tryz.func53 (by kernel_rfl) rfl)
    (fun W P' hW hk' _ => add1_any W sp d q _ P' hW.at_ (hby _ _ _ hk') (hW.off.keep b0 hqF))
  have HEV := Lib.hid hev
  have HH := Lib.hid (And.intro h (And.intro ho1 hF1))
  have HW1 := Lib.hid (And.intro hw1 hq)
  have HS1 := Lib.hid hsp1
  have HBX := Lib.hid (And.intro b0 hqF)
  have HBY := Lib.hid hby
  have HK2 := Lib.hid (hk.gone SpoolV.full (by omega))
  have hend : ∀ (P' : SpoolV) (w' : World), Sp w1 n sp d F1 P' w' → Sp w0 n sp d F P' w' := fun _ _ x => h.back ho1 (by rw [← hF1]; exact x)
  have HEND := Lib.hid hend
  clear h hk hev hsp1 hqF b0 hb1 ho1 hs1 hF1 hend hby
  by_cases hlong : 2000 < body.size
  · have hQ := Lib.hid (show P.add body s = (P, 0, 7) from by unfold SpoolV.add; rw [if_pos hlong])
    have hl' : (2000 : Int) < (body.size : Int) := by omega
    go_enter Tryz.func24, Tryz.ntmps24
    clear hw1 hq
    go_wp2_with fail
    go_ret2
    rw [hQ.out, ← HW1.out.1]
    exact ⟨rfl, HEND.out _ _ HS1.out⟩
  · have hQ : P.add body s = (let a := P.gone SpoolV.full
      if a.2 ≠ 0 then (a.1, 0, a.2)
      else
        let b := a.1.rolled body
        if b.2 ≠ 0 then (b.1, 0, b.2)
        else
          let c := b.1.put body s
          if c.2.2 ≠ 0 then (c.1, 0, c.2.2)
          else ((({ c.1 with led := c.1.led.add } : SpoolV).gone SpoolV.full).1, c.2.1, 0)) := by unfold SpoolV.add; rw [if_neg hlong]
    have hl' : ¬ (2000 : Int) < (body.size : Int) := by omega
    have HQ := Lib.hid hQ
    clear hQ
    go_enter Tryz.func24, Tryz.ntmps24
    clear hw1 hq
    go_wp2_with fail
    rw [← HW1.out.1, ← HW1.out.2]
    refine HEV.out.mono ?_
    have hk2 := HK2.out
    have hQ := HQ.out
    revert hk2 hQ
    generalize P.gone SpoolV.full = G2
    obtain ⟨P2, e2⟩ := G2
    intro hk2 hQ
    dsimp only at hk2 hQ
    rintro e w2 ⟨rfl, h2⟩
    have HS2 := Lib.hid (And.intro h2 hk2)
    have HQ2 := Lib.hid hQ
    clear h2 hk2 hQ HEV HQ
    by_cases hz2 : e2 = 0
    case neg =>
      have k1 : (e2 != 0) = true := by simpa using hz2
      go_wp2_with fail
      go_ret2
      rw [HQ2.out, if_pos hz2]
      exact ⟨rfl, HEND.out _ _ HS2.out.1⟩
    subst hz2
    have hQ := HQ2.out
    rw [if_neg (fun x => x rfl)] at hQ
    have HQ := Lib.hid hQ
    clear hQ HQ2
    have bx2 : w2.cell? ⟨q, 0, none⟩ = some (.pointer (some ⟨sp, 0, none⟩)) := HS2.out.1.off.keep HBX.out.1 HBX.out.2
    obtain ⟨lg, c3, hsg⟩ := segs_of (P := P2) HS2.out.1.at_ (by have := HS2.out.2.few; omega)
    have HSG := Lib.hid hsg
    clear hsg
    go_wp2_with fail
    refine (HSG.out _ (Off.refl _ _)).mono ?_
    rintro e w3 ⟨v3, rfl, hr3, ho3⟩
    obtain ⟨A3, cc3, rfl, hfl3, hc3⟩ := rows hr3
    have hll := LogV.len P2.log
    obtain ⟨g3, rfl, hg1, hg2, e0, e1, e2⟩ := hc3 P2.log.full.length (by omega)
    rw [LogV.act_get] at e0 e1 e2
    rw [hll] at hfl3 ⊢
    obtain ⟨m, hm⟩ : ∃ m, m = P2.log.full.length := ⟨_, rfl⟩
    rw [← hm] at e0 e1 e2 hfl3 ⊢
    have HS3 := Lib.hid (And.intro (HS2.out.1.quiet ho3) HS2.out.2)
    have bx3 : w3.cell? ⟨q, 0, none⟩ = some (.pointer (some ⟨sp, 0, none⟩)) := ho3.keep bx2 (fun x => x)
    have c33 : w3.cell? ⟨sp, 3, none⟩ = some (.pointer (some ⟨lg, 0, none⟩)) := ho3.keep c3 (fun x => x)
    clear hr3 ho3 hc3 hll hm bx2 c3 HSG HS2 HK2 HS1 HW1
    have hi0 : (0 : Int) ≤ (m : Int) := by omega
    have hi1 : (m : Int) < (m : Int) + 1 := by omega
    have hi2 : ((m : Int) + 1 - 1) = (m : Int) := by omega
    go_wp2_with fail
    obtain ⟨w4, hw4, ho4, hb4, hs4⟩ := boxed w3 #[.int .u64 P2.log.act.first, .int .i64 P2.log.act.many, .int .i64 P2.log.act.size] 81
    obtain ⟨r, hr⟩ : ∃ r, r = w3.heap.size := ⟨_, rfl⟩
    rw [← hr] at hb4
    rw [← hw4, ← hr]
    have hsp4 := HS3.out.1.quiet ho4
    have c24 : w4.cell? ⟨sp, 2, none⟩ = some (.int .i64 P2.segm) := by
      obtain ⟨_, _, _, _, _, hin⟩ := hsp4.at_
      exact hin.cells.2.2.1
    have c34 : w4.cell? ⟨sp, 3, none⟩ = some (.pointer (some ⟨lg, 0, none⟩)) := ho4.keep c33 (fun x => x)
    have bx4 : w4.cell? ⟨q, 0, none⟩ = some (.pointer (some ⟨sp, 0, none⟩)) := ho4.keep bx3 (fun x => x)
    have r0 : w4.cell? ⟨r, 0, none⟩ = some (.int .u64 P2.log.act.first) := Heap.cell hb4 0
    have r1 : w4.cell? ⟨r, 1, none⟩ = some (.int .i64 P2.log.act.many) := Heap.cell hb4 1
    have r2 : w4.cell? ⟨r, 2, none⟩ = some (.int .i64 P2.log.act.size) := Heap.cell hb4 2
    have hnx : ∀ W, Off None w4 W → Calls Tryz.prog 56 #[.pointer (some ⟨lg, 0, none⟩)] W fun e w' => e = .returned (.int .u64 P2.log.act.end_) ∧ Off None W w' := by
      obtain ⟨lg', g', off', cap', c3', hl'⟩ := log_of hsp4.at_
      have e : lg' = lg := by rw [c34] at c3'; injection c3' with c3'; injection c3' with c3'; injection c3' with c3'; injection c3' with c3'; exact c3'.symm
      subst e
      exact fun W hW => Seg.next_any W lg' d P2.log g' off' cap' (hl'.off hW (fun x => x) (fun x => x)) HS3.out.2.ok
    have hfz : ∀ W, Off None w4 W → Calls Tryz.prog 55 #[.int .u64 P2.log.act.end_, .string body] W fun e w' => e = .returned (.int .i64 ((Frame.putF P2.log.act.end_ body.data.toList).length : Nat)) ∧ Off None W w' :=
      fun W hW => Frame.size_any W P2.log.act.end_ body (by have := HS3.out.2.nums.act.1; have := HS3.out.2.le; omega) (by show body.size ≤ 2000; omega) (hsp4.glob.none hW).crc
    have hti : P2.tight body = (decide (0 < P2.log.act.many) && decide (P2.segm < ((P2.log.act.size + (Frame.putF P2.log.act.end_ body.data.toList).length : Nat) : Int))) := rfl
    obtain ⟨z, hz⟩ : ∃ z, z = (Frame.putF P2.log.act.end_ body.data.toList).length := ⟨_, rfl⟩
    have hzb : z ≤ 2100 := by
      have h1 := Frame.putF_len P2.log.act.end_ body.data.toList (by have := HS3.out.2.nums.act.1; have := HS3.out.2.le; omega) (by show body.data.toList.length ≤ 2000; simp; omega)
      have h2 : body.data.toList.length = body.size := by simp
      omega
    rw [← hz] at hfz hti
    have hacb := HS3.out.2.nums.act
    have hle2 := HS3.out.2.le
    have HNX := Lib.hid hnx
    have HFZ := Lib.hid hfz
    have HTI := Lib.hid hti
    have HS4 := Lib.hid (And.intro hsp4 HS3.out.2)
    have HZ := Lib.hid (And.intro hzb (And.intro hacb hle2))
    clear hw4 ho4 hb4 hs4 hr hsp4 hnx hfz hti hz hzb hacb hle2 bx3 c33 e0 e1 e2 HS3
    obtain ⟨tb, htb⟩ : ∃ tb, tb = P2.tight body := ⟨_, rfl⟩
    have HTB := Lib.hid htb
    clear htb
    go_cut [54] from 34 to 84 (fun s wx => s = .bool tb ∧ Off None w4 wx)
    case first =>
      by_cases hm0 : P2.log.act.many = 0
      · have htf : tb = false := by rw [HTB.out, HTI.out, hm0]; rfl
        have hd : decide ((0 : Int) < ((P2.log.act.many : Nat) : Int)) = false := decide_eq_false (by omega)
        go_quiet (fail)
        try go_wp2_with fail
        go_meet
        exact ⟨by rw [htf], (Off.refl None w4).drewN nq⟩
      · have hd : 0 < P2.log.act.many := by omega
        have hd2 : decide (0 < P2.log.act.many) = true := decide_eq_true hd
        have cN : ∀ dd os, Calls Tryz.prog 56 #[.pointer (some ⟨lg, 0, none⟩)] (grow (redrawn w4 dd) os) fun e w'' => e = .returned (.int .u64 P2.log.act.end_) ∧ ∃ p : Regrown, w'' = grow (redrawn w4 p.d) p.os := fun dd os =>
          Calls.quietly (HNX.out _ (Off.of_below (below_regrown w4 dd os)))
        have cF : ∀ dd os, Calls Tryz.prog 55 #[.int .u64 P2.log.act.end_, .string body] (grow (redrawn w4 dd) os) fun e w'' => e = .returned (.int .i64 (z : Nat)) ∧ ∃ p : Regrown, w'' = grow (redrawn w4 p.d) p.os := fun dd os =>
          Calls.quietly (HFZ.out _ (Off.of_below (below_regrown w4 dd os)))
        have k1 := cell_regrown r1
        have k2 := cell_regrown r2
        have k3 := cell_regrown bx4
        have k4 := cell_regrown c34
        have k5 := cell_regrown c24
        obtain ⟨z1, ⟨z2, z3⟩, z4⟩ := HZ.out
        have hme : P2.log.act.many ≤ P2.log.act.end_ := by unfold SegV.end_; omega
        have hs1 : ((P2.log.act.size : Nat) : Int) + ((z : Nat) : Int) ≤ 9223372036854775807 := by omega
        have hs0 : (-9223372036854775808 : Int) ≤ ((P2.log.act.size : Nat) : Int) + ((z : Nat) : Int) := by omega
        refine wp_region_quiet_below (by kernel_rfl) (by kernel_rfl) ?_
        repeat (quiet_step (first | exact cN _ _ | exact cF _ _))
        refine wpQuiet_nil ?_
        intro w5 hw'
        have ho5 : Off None w4 w5 := by
          obtain ⟨⟨dq, osq⟩, rfl⟩ := hw'
          exact Off.of_below (below_regrown w4 dq osq)
        try go_wp2_with fail
        go_meet
        refine ⟨?_, ho5⟩
        rw [HTB.out, HTI.out, decide_eq_true (by omega : 0 < P2.log.act.many), Bool.true_and]
        have hwr : IntKind.i64.wrap (((P2.log.act.size : Nat) : Int) + ((z : Nat) : Int)) = ((P2.log.act.size + z : Nat) : Int) := by simp [IntKind.wrap, IntKind.bits, IntKind.signed]; omega
        rw [hwr]
    case rest =>
      obtain ⟨rfl, ho5⟩ := hcut
      have hs5 := HS4.out.1.quiet ho5
      have bx5 : wc.cell? ⟨q, 0, none⟩ = some (.pointer (some ⟨sp, 0, none⟩)) := ho5.keep bx4 (fun x => x)
      obtain ⟨B2, eB, hB⟩ : ∃ B2 eB, P2.rolled body = (B2, eB) := ⟨_, _, rfl⟩
      have hkB : B2.Wk M (N + 26) := by
        have hk := HS4.out.2
        have : (P2.rolled body).1.Wk M (N + 26) := by
          unfold SpoolV.rolled
          split
          · exact hk.roll (by omega)
          · exact hk.mono (Nat.le_refl _) (by omega) hk.le (by omega)
        rw [hB] at this
        exact this
      have hQ := HQ.out
      rw [hB] at hQ
      dsimp only at hQ
      have HQ2 := Lib.hid hQ
      have HKB := Lib.hid hkB
      obtain ⟨lg5, off5, Fs5, c5, hst5, hfn5, hns5, hout5⟩ := inner hs5.at_ hs5.lowG
      have HRL := Lib.hid (Seg.roll_off wc lg5 d n (N + 12) P2.log P2.disk Fs5 off5 hst5 hs5.glob hfn5 HS4.out.2.ok HS4.out.2.limN (by have := HS4.out.2.few; omega))
      have HO5 := Lib.hid hout5
      have HS5 := Lib.hid hs5
      have HRB := Lib.hid (And.intro hB (show P2.rolled body = if P2.tight body = true then P2.roll else (P2, 0) from rfl))
      clear HQ hB hkB hQ hst5 hfn5 hns5 hout5 hs5 ho5 bx4 c24 c34 r0 r1 r2 HNX HFZ HTI HS4 HZ
      go_upto_if 54 with fail
      go_cut [] from 55 to 84 (fun wx => eB = 0 ∧ Sp w1 n sp d F1 B2 wx)
      case first =>
        cases tb with
        | false =>
          have hr := HRB.out.2
          rw [← HTB.out, if_neg (by decide), HRB.out.1] at hr
          injection hr with hr1 hr2
          go_wp2_with fail
          go_meet
          exact ⟨hr2, by rw [hr1]; exact HS5.out⟩
        | true =>
          have hr := HRB.out.2
          rw [← HTB.out, if_pos rfl, HRB.out.1] at hr
          have HR := Lib.hid hr
          clear hr
          go_wp2_with fail
          refine HRL.out.mono ?_
          rintro e w6 ⟨rfl, ⟨off6, hst6⟩, ho6⟩
          obtain ⟨s1, s2⟩ := HO5.out _ _ _ _ hst6 ho6
          have hs6 : Sp w1 n sp d F1 P2.roll.1 w6 := HS5.out.next s1 s2
          have heq : (P2.log.roll P2.disk).2.2 = eB := by
            have h1 : P2.roll.2 = (P2.log.roll P2.disk).2.2 := rfl
            rw [← h1, ← HR.out]
          rw [← HR.out] at hs6
          rw [heq]
          have HS6 := Lib.hid hs6
          clear hst6 ho6 s1 s2 hs6 heq c5
          by_cases hz : eB = 0
          · subst hz
            go_wp2_with fail
            go_meet
            exact ⟨trivial, HS6.out⟩
          · have k1 : (eB != 0) = true := by simpa using hz
            go_wp2_with fail
            go_ret2
            rw [HQ2.out, if_pos hz]
            exact ⟨rfl, HEND.out _ _ HS6.out⟩
      case rest =>
        obtain ⟨hz, hs7⟩ := hcut
        subst hz
        have hQ := HQ2.out
        rw [if_neg (fun x => x rfl)] at hQ
        have bx7 : wc.cell? ⟨q, 0, none⟩ = some (.pointer (some ⟨sp, 0, none⟩)) := hs7.off.keep HBX.out.1 HBX.out.2
        have hpu := put_any w1 wc n sp d M (N + 26) F1 B2 hs7 HKB.out hM (by omega) body hb s
        have hkC := HKB.out.put body s hM (by omega)
        have hled := SpoolV.Wk.put_led B2 body s
        have hnx := HKB.out.next
        rw [← hled] at hnx
        clear hled HRB HO5 HRL HS5 HQ2
        revert hQ hkC hnx hpu
        generalize B2.put body s = C3
        obtain ⟨C, qC, eC⟩ := C3
        intro hQ hpu hkC hnx
        dsimp only at hQ hkC hnx hpu
        have HPU := Lib.hid hpu
        have HQ3 := Lib.hid hQ
        have HKC := Lib.hid (And.intro hkC hnx)
        clear hQ hkC hpu hs7 hnx HKB bx5 c5
        go_wp2_with fail
        refine HPU.out.mono ?_
        rintro e w8 ⟨rfl, hs8⟩
        have bx8 : w8.cell? ⟨q, 0, none⟩ = some (.pointer (some ⟨sp, 0, none⟩)) := hs8.off.keep HBX.out.1 HBX.out.2
        have HS8 := Lib.hid hs8
        clear hs8 bx7 HPU
        by_cases hz3 : eC = 0
        case neg =>
          have k1 : (eC != 0) = true := by simpa using hz3
          go_wp2_with fail
          go_ret2
          rw [HQ3.out, if_pos hz3]
          exact ⟨rfl, HEND.out _ _ HS8.out⟩
        subst hz3
        obtain ⟨lg8, off8, sv8, Fs8, S8, hin8⟩ := HS8.out.at_
        obtain ⟨_, _, _, _, d4, d5, d6, _⟩ := hin8.cells
        have hadd := fun W (hW : Off None w8 W) => Led.add_any W S8 (ledAgg C.led sv8) C.led (hin8.led.quiet hW) (by have := HKC.out.2; have := HKC.out.1.le; unfold big; omega)
        have HADD := Lib.hid hadd
        have HIN := Lib.hid hin8
        unfold ledAgg at HADD
        clear hadd hin8
        go_upto_region 15 with fail
        go_cut [] from 73 to 84 (fun wx => Sp w1 n sp d F1 { C with led := C.led.add } wx)
        case first =>
          go_region_law (first
            | (refine step_call (by rfl) 59 _ _ (by rfl) (enters_of Tryz.func59 (by kernel_rfl) rfl) #[.agg #[.int .u64 C.led.first, .int .u64 C.led.next, sv8]] (by rfl) (HADD.out _ ((Off.refl None w8).drew)) ?_
               rintro e w9 ⟨lv9, rfl, hl9, ho9⟩
               have hl9' := hl9
               obtain ⟨sv9, ds9, rfl, _, hd9, _, _⟩ := hl9'
               obtain ⟨A9, c9, rfl⟩ := hd9.row.form
               refine ⟨_, rfl, ?_⟩
               have ho89 : Off None w8 w9 := ((Off.refl None w8).drew).quiet_trans ho9
               have bx9 : w9.cell? ⟨q, 0, none⟩ = some (.pointer (some ⟨sp, 0, none⟩)) := ho89.keep bx8 (fun x => x)
               have g4 := ho89.stay d4 (fun x => x)
               have g5 := ho89.stay d5 (fun x => x)
               have g6 := ho89.stay d6 (fun x => x)
               have f4 := (HIN.out.quiet ho89).cells.2.2.2.2.2.2.2 4
               have f5 := (HIN.out.quiet ho89).cells.2.2.2.2.2.2.2 5
               have f6 := (HIN.out.quiet ho89).cells.2.2.2.2.2.2.2 6))
          all_goals
            have hwt : SpoolWith w9 sp d C (Grow F1 w1 w9) (.agg #[.int .u64 C.led.add.first, .int .u64 C.led.add.next, .slice A9 ds9.length c9]) C.led.add := (HIN.out.with_ (hl9.mono (fun b x _ => x)) ho89).mono (fun b _ x => grow2 HS8.out.off.size ho89.size b x)
            have hss := set_sp (HS8.out.quiet ho89) hwt
            clear hl9 hd9 g4 g5 g6 f4 f5 f6 bx9 hwt
            go_wp2_with fail
            go_meet
            exact hss
        case rest =>
          have hs10 := hcut
          have bx10 : wc.cell? ⟨q, 0, none⟩ = some (.pointer (some ⟨sp, 0, none⟩)) := hs10.off.keep HBX.out.1 HBX.out.2
          have hk4 : ({ C with led := C.led.add } : SpoolV).Wk (M + 1) (N + 28) := by
            obtain ⟨h3, hx⟩ := HKC.out
            obtain ⟨k, hk, hle⟩ := h3.lim
            refine ⟨hM, by omega, h3.right.add, ?_, h3.nums, k, hk, by omega⟩
            show C.led.next + 1 ≤ M + 1
            omega
          have hev := evict_any w1 wc n sp d (M + 1) (N + 28) 60 q F1 { C with led := C.led.add } SpoolV.full hs10 hk4 (by omega) (enters_of Tryz.func60 (by kernel_rfl) rfl)
            (fun W P' hW hk' _ => add2_any W sp d q _ P' hW.at_ (HBY.out _ _ _ hk') (hW.off.keep HBX.out.1 HBX.out.2))
          have HEV := Lib.hid hev
          have hQ := HQ3.out
          rw [if_neg (fun x => x rfl)] at hQ
          have HQ4 := Lib.hid hQ
          clear hQ hev hs10 hk4 hcut HQ3 HADD HIN HS8 d4 d5 d6 bx8
          go_wp2_with fail
          refine HEV.out.mono ?_
          rintro e w11 ⟨rfl, h11⟩
          have H11 := Lib.hid h11
          clear h11
          go_wp2_with fail
          go_ret2
          rw [HQ4.out]
          exact ⟨rfl, HEND.out _ _ H11.out⟩
end Spool
end Go.Proofs.YtndgnlblbjpogaaGreatDoor
