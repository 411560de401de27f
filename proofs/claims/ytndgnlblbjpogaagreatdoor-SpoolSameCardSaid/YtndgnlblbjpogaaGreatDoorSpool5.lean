/- A spool in memory; the walk of evict. -/
import Derived.Test.YtndgnlblbjpogaaGreatDoorSpool4
namespace Go.Proofs.YtndgnlblbjpogaaGreatDoor
open Go Go.RowKit Go.Shelf Led
theorem DestV.Right.small {d : DestV} {first next M : Nat} (h : d.Right first next) (hn : d.name.size ≤ 20) (hM : next ≤ M) (hM2 : M ≤ 1000000) : d.Small := by
  have hm := h.many
  have h3 := h.sum
  have h4 := h.lle
  have h5 := h.sle
  have hbig : big = 549755813888 := rfl
  exact ⟨by unfold maxLen; omega, by omega, by omega, by omega, by omega, by omega, fun s hs => by have := (h.above s hs).2; omega, by omega⟩
theorem LedgerV.Right.evict_small {l : LedgerV} {M : Nat} (h : l.Right nmOk) (hn : l.next ≤ M) (hM : M ≤ 1000000) (tt : Nat) : ∀ e ∈ (l.evict tt).dests, e.Small := by
  intro e he
  obtain ⟨d, hd, rfl⟩ := List.mem_map.1 he
  obtain ⟨h1, hr⟩ := h.each d hd
  have hdo := DestV.done_of hr 0 tt
  obtain ⟨c1, c2, c3⟩ := hdo.counts
  have := hdo.right hr (first' := 0) (a := (d.done 0 tt l.next).1.acked) (v := (d.done 0 tt l.next).1.evicted + (d.done 0 tt l.next).2) (r := (d.done 0 tt l.next).1.rejected) (by rw [c1, c2, c3]; omega) (.inr (Nat.zero_le _))
  exact this.small (by show (d.done 0 tt l.next).1.name.size ≤ 20; rw [hdo.name]; exact nameOk_size h1) hn hM
theorem LogV.second_get (L : LogV) (hf : L.full ≠ []) : ∃ h : 1 < L.segs.length, (L.segs[1]'h).first = L.second := by
  obtain ⟨full, act, dur⟩ := L
  cases full with
  | nil => exact absurd rfl hf
  | cons s r =>
    refine ⟨by simp [LogV.segs], ?_⟩
    cases r <;> rfl
namespace Spool
variable {w w0 w1 : World} {n sp d : Nat} {F : Nat → Prop} {P : SpoolV}
theorem ev_new {w2 W w4 : World} {S : Nat → Prop} {er a b : Int} {A : Option Addr} {k c : Nat} {l : LedgerV} (ho : Off None w2 w4) (hW : w2.heap.size ≤ W.heap.size) (h0 : er = 0 → LedgerAt w4 (And_ S W) (.agg #[.int .u64 a, .int .u64 b, .slice A k c]) l) :
    ∃ w5 q, (w5 = w4.alloc (.cells #[.int .u64 a, .int .u64 b, .slice A k c] 34) ∧ q = w4.heap.size) ∧ w5.heap[q]? = some (.cells #[.int .u64 a, .int .u64 b, .slice A k c] 34 (0, 0)) ∧ Off None w2 w5 ∧ (er = 0 → LedgerAt w5 (And_ S w2) (.agg #[.int .u64 a, .int .u64 b, .slice A k c]) l) := by
  refine ⟨_, _, ⟨rfl, rfl⟩, Heap.alloc_new _ _, ho.alloc _, fun hz => ?_⟩
  exact ((h0 hz).quiet ((Off.refl None w4).alloc _)).mono fun b x _ => x.imp id (fun y => Nat.le_trans hW y)
theorem ev_old {w2 W w4 : World} {S : Nat → Prop} {er a b : Int} {A : Option Addr} {k c q : Nat} {l : LedgerV} (ho : Off None w2 w4) (hW : w2.heap.size ≤ W.heap.size) (hS : ∀ b, S b → b < w2.heap.size) (hq : w2.heap.size ≤ q) (hqW : q < W.heap.size)
    (hz : w4.heap[q]? = some (.cells #[.int .u64 0, .int .u64 0, .slice none 0 0] 34 (0, 0))) (h0 : er = 0 → LedgerAt w4 (And_ S W) (.agg #[.int .u64 a, .int .u64 b, .slice A k c]) l) :
    ∃ w5 q', (w5 = ((w4.setCell ⟨q, 0, none⟩ (.int .u64 a)).setCell ⟨q, 1, none⟩ (.int .u64 b)).setCell ⟨q, 2, none⟩ (.slice A k c) ∧ q' = q) ∧ w5.heap[q']? = some (.cells #[.int .u64 a, .int .u64 b, .slice A k c] 34 (0, 0)) ∧ Off None w2 w5 ∧ (er = 0 → LedgerAt w5 (And_ S w2) (.agg #[.int .u64 a, .int .u64 b, .slice A k c]) l) := by
  refine ⟨_, _, ⟨rfl, rfl⟩, box3' hz _ _ _, off3 ho (.inr hq) _ _ _, fun he => ?_⟩
  refine ((h0 he).off (off3 (Off.refl (Only q) w4) (.inl rfl) _ _ _) (fun b x _ e => ?_)).mono fun b x _ => x.imp id (fun y => Nat.le_trans hW y)
  have e : b = q := e
  subst e
  rcases x with x | x
  · have := hS b x; omega
  · have x : W.heap.size ≤ b := x; omega
theorem evict_step (cond : SpoolV → Bool) (P : SpoolV) (k : Nat) (hk : k = P.log.full.length) (hf : P.log.full ≠ []) :
    SpoolV.evict cond k P = if cond P = true then (if P.evictOne.2 ≠ 0 then P.evictOne else SpoolV.evict cond (k - 1) P.evictOne.1) else (P, 0) := by
  cases k with
  | zero => exact absurd (List.eq_nil_of_length_eq_zero hk.symm) hf
  | succ k =>
    rw [SpoolV.evict, if_neg hf]
    rfl
theorem evict_none (cond : SpoolV → Bool) (P : SpoolV) (k : Nat) (hf : P.log.full = []) : SpoolV.evict cond k P = (P, 0) := by
  cases k with
  | zero => rfl
  | succ k => rw [SpoolV.evict, if_pos hf]
set_option maxHeartbeats 4000000 in
set_option maxRecDepth 100000 in
theorem evict_any (w0 w : World) (n sp d M N fn bx : Nat) (F : Nat → Prop) (P : SpoolV) (cond : SpoolV → Bool) (h : Sp w0 n sp d F P w) (hk : P.Wk M N) (hN : N + 12 ≤ 900000) (hen : Enters Tryz.prog fn)
    (hc : ∀ W P', Sp w0 n sp d F P' W → P'.Wk M N → P'.log.full ≠ [] → Calls Tryz.prog fn #[.pointer (some ⟨bx, 0, none⟩)] W fun e w' => e = .returned (.bool (cond P')) ∧ Off None W w') :
    Calls Tryz.prog 43 #[.pointer (some ⟨sp, 0, none⟩), .func (.func fn) #[] #[.pointer (some ⟨bx, 0, none⟩)]] w fun e w' => e = .returned (.int .i64 (P.gone cond).2) ∧ Sp w0 n sp d F (P.gone cond).1 w' := by
  have HC := Lib.hid hc
  have HH := Lib.hid (And.intro h hk)
  unfold SpoolV.gone
  obtain ⟨K, hK⟩ : ∃ K, K = P.log.full.length := ⟨_, rfl⟩
  rw [← hK]
  have HK := Lib.hid hK
  have HEN := Lib.hid hen
  clear h hk hc hK hen
  go_enter Tryz.func43, Tryz.ntmps43
  go_wp2_with fail
  go_loopg [6] K (fun gg s6 wr => ∃ Q : SpoolV, gg = Q.log.full.length ∧ s6 = s6 ∧ Sp w0 n sp d F Q wr ∧ Q.Wk M N ∧ SpoolV.evict cond K P = SpoolV.evict cond gg Q)
  case atStart => exact ⟨P, HK.out, rfl, HH.out.1, HH.out.2, rfl⟩
  case round =>
    obtain ⟨Q, hgg, _, hsp, hwk, hq⟩ := hrel
    have HMO := Lib.hid (more_any wr sp d _ Q hsp.at_ (by have := hwk.few; omega))
    have HR := Lib.hid (And.intro hgg (And.intro hsp hwk))
    have HQ := Lib.hid hq
    clear hgg hsp hwk hq
    go_wp2_with fail
    refine HMO.out.mono ?_
    rintro e w1 ⟨rfl, ho1⟩
    have hsp1 := HR.out.2.1.quiet ho1
    have HS1 := Lib.hid hsp1
    clear hsp1 ho1 HMO
    by_cases hf : Q.log.full = []
    · rw [decide_eq_true hf]
      have HF := Lib.hid hf
      clear hf
      go_wp2_with fail
      go_ret
      rw [HQ.out, evict_none cond Q _ HF.out]
      exact ⟨rfl, HS1.out⟩
    · rw [decide_eq_false hf]
      have HF := Lib.hid hf
      clear hf
      go_wp2_with fail
      rw [HEN.out, Oper.upon_enter]
      refine (HC.out w1 Q HS1.out HR.out.2.2 HF.out).mono ?_
      rintro e w2 ⟨rfl, ho2⟩
      have HS2 := Lib.hid (HS1.out.quiet ho2)
      clear ho2 HS1
      obtain ⟨cv, hcv⟩ : ∃ cv, cv = cond Q := ⟨_, rfl⟩
      rw [← hcv]
      have HCV := Lib.hid hcv
      clear hcv
      have hq := HQ.out
      rw [evict_step cond Q _ HR.out.1 HF.out] at hq
      have HQ2 := Lib.hid hq
      clear hq HQ
      cases cv with
      | false =>
        have hq := HQ2.out
        rw [if_neg (by rw [← HCV.out]; decide)] at hq
        have HQ := Lib.hid hq
        clear hq HQ2
        go_wp2_with fail
        go_ret
        rw [HQ.out]
        exact ⟨rfl, HS2.out⟩
      | true =>
        have hq := HQ2.out
        rw [if_pos HCV.out.symm] at hq
        have HQ := Lib.hid hq
        clear hq HQ2
        obtain ⟨lg, off, sv, Fs, S, hin⟩ := HS2.out.at_
        obtain ⟨_, _, _, c3, c4, c5, c6, _⟩ := hin.cells
        have hsg : ∀ W, Off None w2 W → Calls Tryz.prog 45 #[.pointer (some ⟨lg, 0, none⟩)] W fun e w' => ∃ v, e = .returned v ∧ w'.ownsRow W.heap.size 81 3 v Q.log.segs.length (Q.log.segs.flatMap segCells) ∧ Off None W w' := by
          obtain ⟨g, cap, Fd, hst⟩ := hin.st
          exact fun W hW => Seg.segs_any W lg d Q.log g off cap (hst.quiet hW).log (by have := HR.out.2.2.few; omega)
        have hlen := LogV.second_get Q.log HF.out
        have hev : ∀ W, Off None w2 W → Calls Tryz.prog 76 #[.agg #[.int .u64 Q.led.first, .int .u64 Q.led.next, sv], .int .u64 Q.log.second] W (Ledged W S (Q.led.evict Q.log.second) (Q.led.evictErr Q.log.second)) := by
          intro W hW
          have hwk := HR.out.2.2
          have hM := hwk.le
          exact Led.evict_any W S (ledAgg Q.led sv) Q.led (hin.led.quiet hW) Q.log.second (by have := hwk.nums.second; have : big = 549755813888 := rfl; omega) (fun d hd => (hwk.right.each d hd).2.rising) (hwk.right.evict_small hwk.next (by omega) _)
        have HSG := Lib.hid hsg
        have HEV := Lib.hid hev
        have HIN := Lib.hid hin
        have HLEN := Lib.hid hlen
        clear hsg hev hin hlen
        go_wp2_with fail
        have a3 : (w2.alloc (.cells #[.int .u64 0, .int .u64 0, .slice none 0 0] 34)).cell? ⟨sp, 3, none⟩ = some (.pointer (some ⟨lg, 0, none⟩)) := cell_new c3
        have a4 : (w2.alloc (.cells #[.int .u64 0, .int .u64 0, .slice none 0 0] 34)).cell? ⟨sp, 4, none⟩ = some (.int .u64 Q.led.first) := cell_new c4
        have a5 : (w2.alloc (.cells #[.int .u64 0, .int .u64 0, .slice none 0 0] 34)).cell? ⟨sp, 5, none⟩ = some (.int .u64 Q.led.next) := cell_new c5
        have a6 : (w2.alloc (.cells #[.int .u64 0, .int .u64 0, .slice none 0 0] 34)).cell? ⟨sp, 6, none⟩ = some sv := cell_new c6
        go_region_law (first
          | (refine step_call (by rfl) 45 _ _ (by rfl) (enters_of Tryz.func45 (by kernel_rfl) rfl) #[.pointer (some ⟨lg, 0, none⟩)] (by rfl) (HSG.out _ ?oc) ?_
             (case oc => first | exact (Off.refl None w2).drew | exact ((Off.refl None w2).drew).alloc _)
             rintro e w3 ⟨v, rfl, hr3, ho3⟩
             refine ⟨_, rfl, ?_⟩
             have ho23 : Off None w2 w3 := (by first | exact ((Off.refl None w2).drew).quiet_trans ho3 | exact (((Off.refl None w2).drew).alloc _).quiet_trans ho3)
             obtain ⟨A3, cc3, rfl, hm3, hc3⟩ := rows hr3
             obtain ⟨hl1, hl2⟩ := HLEN.out
             obtain ⟨g3, rfl, _, _, e1, hrest⟩ := hc3 1 hl1
             rw [hl2] at e1
             clear hrest hc3 hr3 hl2
             have b4 := ho23.stay c4 (fun x => x)
             have b5 := ho23.stay c5 (fun x => x)
             have b6 := ho23.stay c6 (fun x => x)
             have bb4 : (w3.alloc (.cells #[.int .u64 0, .int .u64 0, .slice none 0 0] 34)).cell? ⟨sp, 4, none⟩ = some (.int .u64 Q.led.first) := cell_new b4
             have bb5 : (w3.alloc (.cells #[.int .u64 0, .int .u64 0, .slice none 0 0] 34)).cell? ⟨sp, 5, none⟩ = some (.int .u64 Q.led.next) := cell_new b5
             have bb6 : (w3.alloc (.cells #[.int .u64 0, .int .u64 0, .slice none 0 0] 34)).cell? ⟨sp, 6, none⟩ = some sv := cell_new b6
             have ee1 : (w3.alloc (.cells #[.int .u64 0, .int .u64 0, .slice none 0 0] 34)).cell? ⟨g3, 3, none⟩ = some (.int .u64 Q.log.second) := cell_new e1
             have hi1 : (1 : Int) < (Q.log.segs.length : Int) := (by omega)
             try have hz3 : w3.heap[w2.heap.size]? = some (.cells #[.int .u64 0, .int .u64 0, .slice none 0 0] 34 (0, 0)) := ho3.at_ (Heap.alloc_new w2.drew _) (fun x => x))
          | (refine step_call (by rfl) 76 _ _ (by rfl) (enters_of Tryz.func76 (by kernel_rfl) rfl) #[.agg #[.int .u64 Q.led.first, .int .u64 Q.led.next, sv], .int .u64 Q.log.second] (by rfl) (HEV.out _ ?oc) ?_
             (case oc => first | exact ho23 | exact ho23.alloc _)
             rintro e w4 ⟨lv, rfl, ⟨a, b, A, k, c, rfl⟩, h0, ho4⟩
             refine ⟨_, rfl, ?_⟩
             have ho24 : Off None w2 w4 := (by first | exact ho23.quiet_trans ho4 | exact (ho23.alloc _).quiet_trans ho4)
             first
               | (have hz4 : w4.heap[w2.heap.size]? = some (.cells #[.int .u64 0, .int .u64 0, .slice none 0 0] 34 (0, 0)) := ho4.at_ hz3 (fun x => x)
                  have z0 := Heap.cell hz4 0
                  have z1 := Heap.cell hz4 1
                  have z2 := Heap.cell hz4 2
                  have y0 := Heap.frozen hz4 0
                  have y1 := Heap.frozen hz4 1
                  have y2 := Heap.frozen hz4 2)
               | (have hz4 : w4.heap[w3.heap.size]? = some (.cells #[.int .u64 0, .int .u64 0, .slice none 0 0] 34 (0, 0)) := ho4.at_ (Heap.alloc_new w3 _) (fun x => x)
                  have z0 := Heap.cell hz4 0
                  have z1 := Heap.cell hz4 1
                  have z2 := Heap.cell hz4 2
                  have y0 := Heap.frozen hz4 0
                  have y1 := Heap.frozen hz4 1
                  have y2 := Heap.frozen hz4 2)
               | skip))
        all_goals
          have hS := HIN.out.lowS
          have hs24 := ho23.size
          first
            | (obtain ⟨w5, q, ⟨hw5, hq5⟩, hb5, ho5, hl5⟩ := ev_new ho24 hs24 h0
               rw [← hw5, ← hq5])
            | (obtain ⟨w5, q, ⟨hw5, hq5⟩, hb5, ho5, hl5⟩ := ev_old (q := w2.heap.size) ho24 hs24 hS (Nat.le_refl _) (Nat.lt_of_lt_of_le (Heap.lt (Heap.alloc_new w2.drew (.cells #[.int .u64 0, .int .u64 0, .slice none 0 0] 34))) ho3.size) hz4 h0
               rw [← hw5, ← hq5])
            | (obtain ⟨w5, q, ⟨hw5, hq5⟩, hb5, ho5, hl5⟩ := ev_old (q := w3.heap.size) ho24 (Nat.le_trans hs24 ((Off.refl None w3).alloc _).size) hS hs24 (Heap.lt (Heap.alloc_new w3 _)) hz4 h0
               rw [← hw5, ← hq5])
          have q0 := Heap.cell hb5 0
          have q1 := Heap.cell hb5 1
          have q2 := Heap.cell hb5 2
          have hG25 : ∀ b, Grow (Grow F w0 w2) w2 w5 b → Grow F w0 w5 b := grow2 HS2.out.off.size ho5.size
          have hsp5 := HS2.out.quiet ho5
          have hwt : Q.led.evictErr Q.log.second = 0 → SpoolWith w5 sp d Q (Grow F w0 w5) (.agg #[.int .u64 a, .int .u64 b, .slice A k c]) (Q.led.evict Q.log.second) := fun he => ((HIN.out.with_ (hl5 he) ho5).mono fun b _ x => hG25 b x)
          have H5 := Lib.hid (And.intro hsp5 hwt)
          have hone : Q.evictOne = if Q.led.evictErr Q.log.second ≠ 0 then (Q, Q.led.evictErr Q.log.second) else if (Q.keep (Q.led.evict Q.log.second)).2 ≠ 0 then Q.keep (Q.led.evict Q.log.second) else (Q.keep (Q.led.evict Q.log.second)).1.drop := rfl
          have HONE := Lib.hid hone
          obtain ⟨er, her⟩ : ∃ er, er = Q.led.evictErr Q.log.second := ⟨_, rfl⟩
          rw [← her]
          have HER := Lib.hid her
          clear hb5 ho5 hl5 hw5 hq5 hS hs24 ho24 ho4 h0 hi1 ee1 bb4 bb5 bb6 b4 b5 b6 e1 ho23 ho3 c3 c4 c5 c6 a3 a4 a5 a6 hsp5 hwt hone hG25 her
          try clear z0 z1 z2 y0 y1 y2
          by_cases hz : er = 0
          · subst hz
            have hin := HR.out.2.2.evict_in HER.out.symm
            have hkp := keep_any w0 w5 n sp d M N F Q _ _ H5.out.1 (H5.out.2 HER.out.symm) HR.out.2.2 hin.1 hin.2
            have hone := HONE.out
            rw [← HER.out, if_neg (fun x => x rfl)] at hone
            have hwk6 := HR.out.2.2.evictOne hN HF.out
            have hlim6 : (Q.keep (Q.led.evict Q.log.second)).1.Wk M (N + 6) := HR.out.2.2.keep1 hin.1 hin.2 (by omega)
            revert hkp hone hlim6
            generalize Q.keep (Q.led.evict Q.log.second) = KQ
            obtain ⟨Q6, e6⟩ := KQ
            intro hkp hone hlim6
            have HKP := Lib.hid hkp
            have HONE := Lib.hid hone
            have HWK := Lib.hid (And.intro hwk6 hlim6)
            clear hkp hone hwk6 hin hlim6
            go_wp2_with fail
            refine HKP.out.mono ?_
            rintro e w6 ⟨rfl, hsp6⟩
            have HS6 := Lib.hid hsp6
            clear hsp6
            by_cases hz6 : e6 = 0
            · subst hz6
              obtain ⟨lg6, off6, Fs6, c36, hst6, hfn6, hns6, hout6⟩ := inner HS6.out.at_ HS6.out.lowG
              have HDR := Lib.hid (Seg.drop_any w6 lg6 d n (N + 6) Q6.log Q6.disk Fs6 off6 hst6 HS6.out.glob hfn6 HWK.out.2.ok HWK.out.2.limN)
              have HOUT := Lib.hid hout6
              clear hst6 hfn6 hns6 hout6
              go_wp2_with fail
              refine HDR.out.mono ?_
              rintro e w7 ⟨rfl, ⟨off7, hst7⟩, ho7⟩
              obtain ⟨s1, s2⟩ := HOUT.out _ _ _ _ hst7 ho7
              have HS7 := Lib.hid (HS6.out.next s1 s2)
              have hone := HONE.out
              rw [if_neg (fun x => x rfl)] at hone
              have HONE2 := Lib.hid hone
              obtain ⟨e7, he7⟩ : ∃ e7, e7 = (Q6.log.drop Q6.disk).2.2 := ⟨_, rfl⟩
              rw [← he7]
              have HE7 := Lib.hid he7
              clear hst7 ho7 s1 s2 hone he7 HONE HOUT HDR c36
              by_cases hz7 : e7 = 0
              · subst hz7
                have h2 : Q.evictOne.2 = 0 := by rw [HONE2.out]; exact HE7.out.symm
                have hw := HWK.out.1.2 h2
                have hq := HQ.out
                rw [if_neg (fun x => x h2)] at hq
                have hsv : Sp w0 n sp d F Q.evictOne.1 w7 := by rw [HONE2.out]; exact HS7.out
                have HFIN := Lib.hid (And.intro hw (And.intro hq hsv))
                clear h2 hw hq hsv
                go_wp2_with fail
                go_roundg (gk - 1)
                case measure =>
                  have h1 := HR.out.1
                  have h2 := HFIN.out.1.2
                  omega
                case rel =>
                  exact ⟨Q.evictOne.1, by have h1 := HR.out.1; have h2 := HFIN.out.1.2; omega, trivial, HFIN.out.2.2, HFIN.out.1.1, HFIN.out.2.1⟩
              · have k1 : (e7 != 0) = true := by simpa using hz7
                have h2 : Q.evictOne.2 ≠ 0 := by rw [HONE2.out]; show (Q6.log.drop Q6.disk).2.2 ≠ 0; rw [← HE7.out]; exact hz7
                have hq := HQ.out
                rw [if_pos h2, HONE2.out] at hq
                have HFIN := Lib.hid hq
                clear h2 hq
                go_wp2_with fail
                go_ret
                rw [HFIN.out]
                exact ⟨by rw [HE7.out]; rfl, HS7.out⟩
            · have k1 : (e6 != 0) = true := by simpa using hz6
              have k2 : (e6 == 0) = false := by simpa using hz6
              have hone := HONE.out
              rw [if_pos hz6] at hone
              have hq := HQ.out
              rw [if_pos (by rw [hone]; exact hz6), hone] at hq
              have HFIN := Lib.hid hq
              clear hone hq
              go_wp2_with fail
              go_ret
              rw [HFIN.out]
              exact ⟨rfl, HS6.out⟩
          · have k1 : (er != 0) = true := by simpa using hz
            have k2 : (er == 0) = false := by simpa using hz
            have hone := HONE.out
            rw [← HER.out, if_pos hz] at hone
            have hq := HQ.out
            rw [if_pos (by rw [hone]; exact hz), hone] at hq
            have HFIN := Lib.hid hq
            clear hone hq
            go_wp2_with fail
            go_ret
            rw [HFIN.out]
            exact ⟨rfl, H5.out.1⟩
end Spool
end Go.Proofs.YtndgnlblbjpogaaGreatDoor
