/- The walk of SpoolRoom. -/
import Derived.Test.YtndgnlblbjpogaaGreatDoorPlayS
namespace Go.Proofs.YtndgnlblbjpogaaGreatDoor
open Go Go.RowKit Go.Shelf Led
namespace LawS
set_option maxHeartbeats 2000000 in
set_option maxRecDepth 100000 in
theorem room_walk (w : World) (b s : Int) (p : Option Addr) (l cap : Nat) (T : Nat → ActV) (hb : I64 b) (hs : I64 s) (hT : ActsAt w p l T) (hok : ∀ i, i < l → (T i).Ok) (hl : l ≤ 9223372036854775807) (hG : Glob w.heap.size w) :
    Calls Tryz.prog 3 #[.int .i64 b, .int .i64 s, .slice p l cap] w fun e w' => e = .returned (.bool true) ∧ Below w.heap.size w w' := by
  obtain ⟨P0, hg0, hbu0, hsg0, _, hby0, hbg⟩ := begun_any 100 (by omega) b s hb hs
  have hb3 := pickN_lt b (n := 3000) (by omega)
  have hs2 := pickN_lt s (n := 2000) (by omega)
  have hP3 := fun W => pick_any b 3000 hb (by omega) (by omega) W
  obtain ⟨x, hx⟩ : ∃ x, x = pickN b 3000 := ⟨_, rfl⟩
  rw [← hx] at hb3 hP3 hbu0
  have HT := Lib.hid (And.intro hT hok)
  have HBG := Lib.hid hbg
  have HG := Lib.hid hG
  have HG0 := Lib.hid (And.intro hg0 (And.intro hbu0 (And.intro (show P0.segm ≤ 2016 + (x : Int) by rw [hsg0]; omega) hby0)))
  have HP3 := Lib.hid hP3
  clear hT hok hG hbg hg0 hP3 hx hbu0 hsg0 hby0 hs2
  go_enter Tryz.func3, Tryz.ntmps3
  go_wp2_with fail
  refine (shown_any w w.heap.size (Nat.le_refl _) HG.out).mono ?_
  rintro e w0 ⟨rfl, ho0⟩
  have HO0 := Lib.hid ho0
  clear ho0
  go_wp2_with fail
  refine (HBG.out w0 w.heap.size HO0.out.size (HG.out.none HO0.out)).mono ?_
  rintro e w1 ⟨d, sp, rfl, hsh, ho1⟩
  have HO1 := Lib.hid (HO0.out.quiet_trans ho1)
  have HS1 := Lib.hid hsh
  clear hsh ho1 HO0 HBG
  by_cases h60 : (60 : Int) < (l : Int)
  · go_wp2_with fail
    go_ret
    exact ⟨rfl, off_belowS (HO1.out.mono (fun _ _ x => x.elim))⟩
  have hl60 : l ≤ 60 := by omega
  go_wp2_with (go_at_call 11; refine (HP3.out _).mono ?_; rintro e w' ⟨rfl, rfl⟩)
  go_loopg [11] l (fun gg s11 wr => ∃ k g0 : Nat, g0 = gg ∧ k + g0 = l ∧ s11 = .int .i64 k ∧ Aside (∃ P full act ck, Play w.heap.size k (fun _ => False) wr sp d P full act ck ∧ P.budget = 2016 + (x : Int) ∧ P.segm ≤ 2016 + (x : Int) ∧ (P.log.bytes : Int) ≤ 2016 + (x : Int) ∧ Off (fun b => w.heap.size ≤ b) w wr))
  case atStart => exact ⟨0, l, rfl, by omega, rfl, P0, [], ⟨1, []⟩, none, ⟨HS1.out, HG0.out.1, Nat.le_refl _⟩, HG0.out.2.1, HG0.out.2.2.1, by rw [HG0.out.2.2.2]; omega, HO1.out.mono (fun _ _ x => x.elim)⟩
  case round =>
    obtain ⟨k, g0, hgg, hk, rfl, I⟩ := hrel
    obtain ⟨P, full, act, ck, hp, hbu, hsg, hby, ho⟩ := I.out
    have HGG := Lib.hid hgg
    have HP := Lib.hid hp
    have HBU := Lib.hid (And.intro hbu (And.intro hsg hby))
    have HO := Lib.hid ho
    clear hgg hp ho I HS1 HG0 HO1 hbu hsg hby
    by_cases hkl : k < l
    · obtain ⟨a, hpa, c0, c1, c2, c3⟩ := HT.out.1 k hkl
      subst hpa
      have e0 := HO.out.stay c0 (fun x => by have h1 := Heap.block_lt c0; have h2 : w.heap.size ≤ _ := x; omega)
      have hpk := fun W => pick_any (T k).op 15 (HT.out.2 k hkl).op (by omega) (by omega) W
      have hj15 := pickN_lt (T k).op (n := 15) (by omega)
      obtain ⟨j, hj⟩ : ∃ j, j = pickN (T k).op 15 := ⟨_, rfl⟩
      rw [← hj] at hpk hj15
      have HPK := Lib.hid hpk
      have HJ := Lib.hid hj
      have HC := Lib.hid (And.intro c0 (And.intro c1 (And.intro c2 c3)))
      have hi0 : (0 : Int) ≤ (k : Int) := by omega
      have hi1 : (k : Int) < (l : Int) := by omega
      clear c0 c1 c2 c3 hpk hj
      by_cases h14 : j = 14
      · subst h14
        go_wp2_with (go_at_call 11; refine (HPK.out _).mono ?_; rintro e w' ⟨rfl, rfl⟩)
        go_roundg (g0 - 1)
        case measure => have := HGG.out; omega
        case rel => exact ⟨k + 1, g0 - 1, rfl, by omega, by go_num, P, full, act, ck, ⟨HP.out.held.up (by omega) (by omega) (by omega) (by omega), HP.out.good, by have := HP.out.end_; omega⟩, HBU.out.1, HBU.out.2.1, HBU.out.2.2, HO.out⟩
      · have k1 : ((j : Int) == 14) = false := by simp; omega
        have HLE := Lib.hid HP.out.held.ledger
        go_wp2_with (go_at_call 11; refine (HPK.out _).mono ?_; rintro e w' ⟨rfl, rfl⟩)
        refine HLE.out.mono ?_
        rintro e w2 ⟨lv, rfl, hl2, ho2⟩
        obtain ⟨sv, ds, rfl, _, hd2, _⟩ := hl2
        obtain ⟨A2, cc2, rfl⟩ := hd2.row.form
        obtain ⟨m2, hm2⟩ : ∃ m2, m2 = ds.length := ⟨_, rfl⟩
        rw [← hm2]
        obtain ⟨w3, hw3, ho3, hb3', hs3⟩ := boxed w2 #[.int .u64 P.led.first, .int .u64 P.led.next, .slice A2 m2 cc2] 34
        obtain ⟨q1, hq1⟩ : ∃ q1, q1 = w2.heap.size := ⟨_, rfl⟩
        rw [← hq1] at hb3'
        have hp3 : Play w.heap.size k (fun b => b = q1) w3 sp d P full act ck := (HP.out.quiet ho2).fresh ho3 (fun b hb => .inr (by omega))
        have HP3' := Lib.hid hp3
        have HO3 := Lib.hid ((HO.out.quiet_trans ho2).quiet_trans ho3)
        have HB3 := Lib.hid hb3'
        have HBY := Lib.hid hp3.held.bytes
        clear hp3 ho2 ho3 hb3' hs3 HLE e0 hm2 hd2
        go_wp2_with fail
        rw [← hw3, ← hq1]
        clear hw3 hq1
        refine HBY.out.mono ?_
        rintro e w4 ⟨rfl, ho4⟩
        have HP4 := Lib.hid (HP3'.out.quiet ho4)
        have HO4 := Lib.hid (HO3.out.quiet_trans ho4)
        have HB4 := Lib.hid (ho4.at_ HB3.out (fun x => x))
        obtain ⟨c0, c1, c2, c3⟩ := HC.out
        have e0 := HO4.out.stay c0 (fun x => by have h1 := Heap.block_lt c0; have h2 : w.heap.size ≤ _ := x; omega)
        have e1 := HO4.out.stay c1 (fun x => by have h1 := Heap.block_lt c1; have h2 : w.heap.size ≤ _ := x; omega)
        have e2 := HO4.out.stay c2 (fun x => by have h1 := Heap.block_lt c2; have h2 : w.heap.size ≤ _ := x; omega)
        have e3 := HO4.out.stay c3 (fun x => by have h1 := Heap.block_lt c3; have h2 : w.heap.size ≤ _ := x; omega)
        have hrun := HP4.out.run (by omega) (T k) (HT.out.2 k hkl)
        unfold actAgg at hrun
        have hroom := HP4.out.good.room bears_begun (by have := HP4.out.end_; omega) (by rw [HBU.out.1]; exact HBU.out.2.2) (by rw [HBU.out.1]; exact HBU.out.2.1) (by rw [HBU.out.1]; omega) (T k) (by rw [← HJ.out]; exact h14)
        obtain ⟨_, _, _, _, hbu', hsg', _⟩ := HP4.out.good.run bears_begun (T k) (by have := HP4.out.end_; omega)
        rw [HBU.out.1, ← HJ.out] at hroom
        rw [HBU.out.1] at hbu'
        have hsg2 := HBU.out.2.1
        rw [← hsg'] at hsg2
        obtain ⟨bs, hbs⟩ : ∃ bs, bs = P.log.bytes := ⟨_, rfl⟩
        have hbs0 : (bs : Int) ≤ 2016 + (x : Int) := by rw [hbs]; exact HBU.out.2.2
        rw [← hbs] at hroom
        rw [← hbs]
        generalize (runV P (T k)) = RV at hrun hroom hbu' hsg' hsg2
        obtain ⟨P', sq, er⟩ := RV
        dsimp only at hrun hroom hbu' hsg2
        have HRUN := Lib.hid hrun
        have HROOM := Lib.hid hroom
        have HBU' := Lib.hid (And.intro hbu' hsg2)
        clear hrun hroom hbu' hsg' hsg2 hbs c0 c1 c2 c3 ho4 HBY HB3 HP3' HO3
        go_wp2_with fail
        refine HRUN.out.mono ?_
        rintro e w5 ⟨rfl, ⟨f', a', c', hp5⟩, ho5⟩
        have HP5 := Lib.hid hp5
        have HO5 := Lib.hid (HO4.out.trans ho5 (fun b _ x => x.1))
        have HB5 := Lib.hid (ho5.at_ HB4.out (fun x => x.2 rfl))
        have HLE5 := Lib.hid hp5.held.ledger
        clear hp5 ho5 HRUN e0 e1 e2 e3 HB4 HP4 HO4
        go_wp2_with fail
        refine HLE5.out.mono ?_
        rintro e w6 ⟨lv6, rfl, hl6, ho6⟩
        have hl6' := hl6
        obtain ⟨sv6, ds6, rfl, _, hd6, _⟩ := hl6'
        obtain ⟨A6, cc6, rfl⟩ := hd6.row.form
        obtain ⟨m6, hm6⟩ : ∃ m6, m6 = ds6.length := ⟨_, rfl⟩
        rw [← hm6]
        rw [← hm6] at hl6
        obtain ⟨w7, hw7, ho7, hb7, hs7⟩ := boxed w6 #[.int .u64 P'.led.first, .int .u64 P'.led.next, .slice A6 m6 cc6] 34
        obtain ⟨q2, hq2⟩ : ∃ q2, q2 = w6.heap.size := ⟨_, rfl⟩
        rw [← hq2] at hb7
        have ho67 := ho6.quiet_trans ho7
        have HP7 := Lib.hid (HP5.out.quiet ho67)
        have HO7 := Lib.hid (HO5.out.quiet_trans ho67)
        have hb57 := ho67.at_ HB5.out (fun x => x)
        have HB7 := Lib.hid (And.intro hb7 hb57)
        have HRI := Lib.hid (fun W (hW : Off None w7 W) => right_any W _ _ _ ((hl6.quiet ho7).quiet hW) HP5.out.good.right)
        have HBYT := Lib.hid (fun W (hW : Off None w7 W) => ((HP5.out.quiet ho67).quiet hW).held.bytes)
        clear hl6 ho6 ho7 hb7 hs7 ho67 hb57 HLE5 HB5 hm6 hd6
        go_wp2_with fail
        rw [← hw7, ← hq2]
        clear hw7 hq2
        refine (HBYT.out w7 (Off.refl _ _)).mono ?_
        rintro e w8 ⟨rfl, ho8⟩
        have HO8 := Lib.hid ho8
        have hb8 := ho8.at_ HB7.out.1 (fun x => x)
        have hb8' := ho8.at_ HB7.out.2 (fun x => x)
        have f0 := Heap.cell hb8 0
        have f1 := Heap.cell hb8 1
        have f2 := Heap.cell hb8 2
        have hk2 : ¬ (2016 + (x : Int) + 2016 < (P'.log.bytes : Int)) := by have := HROOM.out.1; omega
        clear hb8 hb8' ho8
        go_wp2_with fail
        refine (HRI.out w8 HO8.out).mono ?_
        rintro e w9 ⟨rfl, ho9⟩
        have HO9 := Lib.hid (HO8.out.quiet_trans ho9)
        have hb9 := HO9.out.at_ HB7.out.1 (fun x => x)
        have hb9' := HO9.out.at_ HB7.out.2 (fun x => x)
        have g0 := Heap.cell hb9 0
        have h0 := Heap.cell hb9' 0
        have hk3 : ¬ ((P'.led.first : Int) < (P.led.first : Int)) := by have := HROOM.out.2.1; omega
        clear hb9 hb9' ho9 f0 f1 f2 HO8 HRI
        go_wp2_with fail
        refine (HBYT.out w9 HO9.out).mono ?_
        rintro e w10 ⟨rfl, ho10⟩
        have HO10 := Lib.hid (HO9.out.quiet_trans ho10)
        have hb10 := HO10.out.at_ HB7.out.1 (fun x => x)
        have hb10' := HO10.out.at_ HB7.out.2 (fun x => x)
        have i0 := Heap.cell hb10 0
        have j0 := Heap.cell hb10' 0
        have hk4 : ¬ (2016 + (x : Int) < (P'.log.bytes : Int)) := by have := HROOM.out.1; omega
        have HOE := Lib.hid (HO7.out.quiet_trans HO10.out)
        clear hb10 hb10' ho10 g0 h0 hk2 HO9
        by_cases hlt : P.led.first < P'.led.first
        · obtain ⟨hj6, hbig⟩ := HROOM.out.2.2 hlt
          have hlt' : (P.led.first : Int) < (P'.led.first : Int) := by omega
          have hj6' : ¬ (6 : Int) ≤ (j : Int) := by omega
          have hfit : ¬ ((bs : Int) + ((bodyV (T k)).size : Int) + 16 ≤ 2016 + (x : Int)) := by push_cast at hbig; omega
          have hbz := bodyV_le (T k)
          have hbody := fun W => body_any W (T k) (HT.out.2 k hkl)
          unfold actAgg at hbody
          have hbs63 : (bs : Int) ≤ 9000000 := by omega
          generalize bodyV (T k) = bd at hfit hbz hbody hbig
          have HBODY := Lib.hid hbody
          obtain ⟨c0, c1, c2, c3⟩ := HC.out
          have e0 := HOE.out.stay c0 (fun x => by have h1 := Heap.block_lt c0; have h2 : w.heap.size ≤ _ := x; omega)
          have e1 := HOE.out.stay c1 (fun x => by have h1 := Heap.block_lt c1; have h2 : w.heap.size ≤ _ := x; omega)
          have e2 := HOE.out.stay c2 (fun x => by have h1 := Heap.block_lt c2; have h2 : w.heap.size ≤ _ := x; omega)
          have e3 := HOE.out.stay c3 (fun x => by have h1 := Heap.block_lt c3; have h2 : w.heap.size ≤ _ := x; omega)
          clear c0 c1 c2 c3 hbody hbig hlt
          go_wp2_with fail
          refine (HBODY.out w10).mono ?_
          rintro e w11 ⟨rfl, ho11⟩
          have HO11 := Lib.hid ho11
          clear ho11 e0 e1 e2 e3
          go_wp2_with fail
          go_roundg (g0 - 1)
          case measure => have := HGG.out; omega
          case rel => exact ⟨k + 1, g0 - 1, rfl, by omega, by go_num, P', f', a', c', ((HP7.out.quiet HO10.out).quiet HO11.out).less (fun _ x => x.elim), HBU'.out.1, HBU'.out.2, HROOM.out.1, HOE.out.quiet_trans HO11.out⟩
        · have hlt' : ¬ (P.led.first : Int) < (P'.led.first : Int) := by omega
          clear hlt
          go_wp2_with fail
          go_roundg (g0 - 1)
          case measure => have := HGG.out; omega
          case rel => exact ⟨k + 1, g0 - 1, rfl, by omega, by go_num, P', f', a', c', (HP7.out.quiet HO10.out).less (fun _ x => x.elim), HBU'.out.1, HBU'.out.2, HROOM.out.1, HOE.out⟩
    · have hkn : k = l := by omega
      subst hkn
      go_wp2_with fail
      go_ret
      exact ⟨rfl, off_belowS HO.out⟩
end LawS
end Go.Proofs.YtndgnlblbjpogaaGreatDoor
