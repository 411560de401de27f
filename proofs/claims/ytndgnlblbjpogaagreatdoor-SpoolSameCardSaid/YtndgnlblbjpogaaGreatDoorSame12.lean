/- The walk of SpoolSame. -/
import Derived.Test.YtndgnlblbjpogaaGreatDoorReopS
namespace Go.Proofs.YtndgnlblbjpogaaGreatDoor
open Go Go.RowKit Go.Shelf Go.Sort Led
namespace LawS
set_option maxHeartbeats 2000000 in
set_option maxRecDepth 100000 in
theorem same_walk (w : World) (b s : Int) (p : Option Addr) (l cap : Nat) (T : Nat → ActV) (hb : I64 b) (hs : I64 s) (hT : ActsAt w p l T) (hok : ∀ i, i < l → (T i).Ok) (hl : l ≤ 9223372036854775807) (hG : Glob w.heap.size w) :
    Calls Tryz.prog 8 #[.int .i64 b, .int .i64 s, .slice p l cap] w fun e w' => e = .returned (.bool true) ∧ Below w.heap.size w w' := by
  obtain ⟨P0, hg0, _, _, _, _, hbg⟩ := begun_any 100 (by omega) b s hb hs
  have hpk1 : ∀ W, Calls Tryz.prog 11 #[.int .i64 b, .int .i64 3000] W fun e w' => e = .returned (.int .i64 (pickN b 3000)) ∧ W = w' := fun W => pick_any b 3000 hb (by omega) (by omega) W
  have hpk2 : ∀ W, Calls Tryz.prog 11 #[.int .i64 s, .int .i64 2000] W fun e w' => e = .returned (.int .i64 (pickN s 2000)) ∧ W = w' := fun W => pick_any s 2000 hs (by omega) (by omega) W
  have hpb := pickN_lt b (n := 3000) (by omega)
  have hps := pickN_lt s (n := 2000) (by omega)
  obtain ⟨pb, hpbe⟩ : ∃ pb, pb = pickN b 3000 := ⟨_, rfl⟩
  obtain ⟨ps, hpse⟩ : ∃ ps, ps = pickN s 2000 := ⟨_, rfl⟩
  rw [← hpbe] at hpk1 hpb
  rw [← hpse] at hpk2 hps
  have hck : checkV (2016 + (pb : Int)) (1 + (ps : Int)) = 0 := by
    unfold checkV
    rw [if_neg (by omega), if_neg (by omega), if_neg (by omega)]
  have HPK := Lib.hid (And.intro hpk1 hpk2)
  have HCK := Lib.hid hck
  have HT := Lib.hid (And.intro hT hok)
  have HBG := Lib.hid hbg
  have HG := Lib.hid hG
  have HG0 := Lib.hid hg0
  clear hT hok hG hbg hg0 hpk1 hpk2 hck hpbe hpse
  go_enter Tryz.func8, Tryz.ntmps8
  go_wp2_with fail
  refine (shown_any w w.heap.size (Nat.le_refl _) HG.out).mono ?_
  rintro e w0 ⟨rfl, ho0⟩
  have HO0 := Lib.hid ho0
  clear ho0
  go_wp2_with fail
  refine (HBG.out w0 w.heap.size HO0.out.size (HG.out.none HO0.out)).mono ?_
  rintro e w1 ⟨d, sp, rfl, hsh, ho1⟩
  have HO1 := Lib.hid (HO0.out.quiet_trans ho1)
  have HS1 := Lib.hid hsh
  clear hsh ho1 HO0 HBG
  by_cases h60 : (60 : Int) < (l : Int)
  · go_wp2_with fail
    go_ret
    exact ⟨rfl, off_belowS (HO1.out.mono (fun _ _ x => x.elim))⟩
  have hl60 : l ≤ 60 := by omega
  go_wp2_with fail
  go_loopg [10] l (fun gg s10 wr => ∃ k g0 : Nat, g0 = gg ∧ k + g0 = l ∧ s10 = .int .i64 k ∧ Aside (∃ P full act ck, Play w.heap.size k (fun _ => False) wr sp d P full act ck ∧ Off (fun b => w.heap.size ≤ b) w wr))
  case atStart => exact ⟨0, l, rfl, by omega, rfl, P0, [], ⟨1, []⟩, none, ⟨HS1.out, HG0.out, Nat.le_refl _⟩, HO1.out.mono (fun _ _ x => x.elim)⟩
  case round =>
    obtain ⟨k, g0, hgg, hk, rfl, I⟩ := hrel
    obtain ⟨P, full, act, ck, hp, ho⟩ := I.out
    have HGG := Lib.hid hgg
    have HP := Lib.hid hp
    have HO := Lib.hid ho
    clear hgg hp ho I HS1 HG0
    by_cases hkl : k < l
    · obtain ⟨a, hpa, c0, c1, c2, c3⟩ := HT.out.1 k hkl
      subst hpa
      have e0 := HO.out.stay c0 (fun x => by have h1 := Heap.block_lt c0; have h2 : w.heap.size ≤ _ := x; omega)
      have e1 := HO.out.stay c1 (fun x => by have h1 := Heap.block_lt c1; have h2 : w.heap.size ≤ _ := x; omega)
      have e2 := HO.out.stay c2 (fun x => by have h1 := Heap.block_lt c2; have h2 : w.heap.size ≤ _ := x; omega)
      have e3 := HO.out.stay c3 (fun x => by have h1 := Heap.block_lt c3; have h2 : w.heap.size ≤ _ := x; omega)
      have hrun := HP.out.run (by omega) (T k) (HT.out.2 k hkl)
      unfold actAgg at hrun
      have HRUN := Lib.hid hrun
      have hi0 : (0 : Int) ≤ (k : Int) := by omega
      have hi1 : (k : Int) < (l : Int) := by omega
      clear c0 c1 c2 c3 hrun
      go_wp2_with fail
      refine HRUN.out.mono ?_
      rintro e w2 ⟨rfl, ⟨f', a', c', hp2⟩, ho2⟩
      have HP2 := Lib.hid (And.intro hp2 (HO.out.trans ho2 (fun b _ x => x.1)))
      clear hp2 ho2 HRUN HP HO e0 e1 e2 e3
      go_wp2_with fail
      go_roundg (g0 - 1)
      case measure => have := HGG.out; omega
      case rel => exact ⟨k + 1, g0 - 1, rfl, by omega, by go_num, _, f', a', c', HP2.out.1, HP2.out.2⟩
    · have hkn : k = l := by omega
      subst hkn
      clear hkl
      have HSV := Lib.hid (HP.out.save (by omega))
      go_wp2_with fail
      refine HSV.out.mono ?_
      rintro e w2 ⟨rfl, ⟨P1, hp1, _, _⟩, ho2⟩
      have HO2 := Lib.hid (HO.out.trans ho2 (fun b _ x => x.1))
      have HOP := Lib.hid (hp1.twins (by omega) (2016 + (pb : Int)) (1 + (ps : Int)) HCK.out)
      have hfl := hp1.good.right.le
      obtain ⟨L, hL⟩ : ∃ L, L = P1.led := ⟨_, rfl⟩
      rw [← hL] at hfl
      have HFL := Lib.hid hfl
      clear hfl
      rw [← hL] at HOP
      clear hp1 ho2 HSV hL
      go_wp2_with fail
      refine (HPK.out.1 _).mono ?_
      rintro e w' ⟨rfl, rfl⟩
      go_wp2_with fail
      refine (HPK.out.2 _).mono ?_
      rintro e w' ⟨rfl, rfl⟩
      go_wp2_with fail
      refine HOP.out.mono ?_
      rintro e w3 ⟨⟨x, rfl, X, E, ht⟩, ho3⟩
      have HO3 := Lib.hid (HO2.out.trans ho3 (fun b _ x => x.1))
      have HTW := Lib.hid ht
      have HBX := Lib.hid ht.bytesX
      clear ht ho3 HOP
      obtain ⟨bs, hbs⟩ : ∃ bs, bs = X.log.bytes := ⟨_, rfl⟩
      rw [← hbs] at HBX
      have HBS := Lib.hid hbs
      have hne : ((bs : Int) != (bs : Int)) = false := by simp
      have hnl : ((L.next : Int) != (L.next : Int)) = false := by simp
      clear hbs
      go_wp2_with fail
      refine HBX.out.mono ?_
      rintro e w4 ⟨rfl, ho4⟩
      have HO4 := Lib.hid ho4
      have HBE := Lib.hid (HTW.out.quiet ho4).bytesE
      rw [← HBS.out] at HBE
      clear ho4 HBX
      go_wp2_with fail
      refine HBE.out.mono ?_
      rintro e w5 ⟨rfl, ho5⟩
      have HO5 := Lib.hid (HO4.out.quiet_trans ho5)
      have HDX := Lib.hid (HTW.out.quiet HO5.out).durX
      clear ho5 HBE
      go_wp2_with fail
      refine HDX.out.mono ?_
      rintro e w6 ⟨rfl, ho6⟩
      have HO6 := Lib.hid (HO5.out.quiet_trans ho6)
      have HLE := Lib.hid (HTW.out.quiet HO6.out).ledE
      clear ho6 HDX
      go_wp2_with fail
      refine HLE.out.mono ?_
      rintro e w7 ⟨lv, rfl, hl7, ho7⟩
      have HO7 := Lib.hid (HO6.out.quiet_trans ho7)
      obtain ⟨sv, ds, rfl, _⟩ := hl7
      have HLX := Lib.hid (HTW.out.quiet HO7.out).ledX
      clear ho7 HLE
      go_wp2_with fail
      rw [led_field1]
      go_wp2_with fail
      refine HLX.out.mono ?_
      rintro e w8 ⟨lv8, rfl, hl8, ho8⟩
      have HO8 := Lib.hid (HO7.out.quiet_trans ho8)
      have HAX := Lib.hid (asLedger_any w8 _ lv8 L hl8)
      clear ho8 hl8 HLX
      go_wp2_with fail
      refine HAX.out.mono ?_
      rintro e w9 ⟨⟨lv9, rfl, hl9⟩, ho9⟩
      have HO9 := Lib.hid (HO8.out.quiet_trans ho9)
      have HL9 := Lib.hid hl9
      have HLE := Lib.hid (HTW.out.quiet HO9.out).ledE
      clear ho9 hl9 HAX
      go_wp2_with fail
      refine HLE.out.mono ?_
      rintro e wa ⟨lva, rfl, hla, hoa⟩
      have HOA := Lib.hid hoa
      have HAE := Lib.hid (asLedger_any wa _ lva L hla)
      clear hoa hla HLE
      go_wp2_with fail
      refine HAE.out.mono ?_
      rintro e wb ⟨⟨lvb, rfl, hlb⟩, hob⟩
      have HOB := Lib.hid (HOA.out.quiet_trans hob)
      have HSM := Lib.hid (same_any wb _ _ lv9 lvb L (HL9.out.quiet HOB.out) hlb)
      clear hob hlb HAE
      go_wp2_with fail
      refine HSM.out.mono ?_
      rintro e wc ⟨rfl, hoc⟩
      have HOC := Lib.hid ((HO9.out.quiet_trans HOB.out).quiet_trans hoc)
      have HLE := Lib.hid (HTW.out.quiet HOC.out).ledE
      clear hoc HSM
      go_wp2_with fail
      refine HLE.out.mono ?_
      rintro e wd ⟨lvd, rfl, hld, hod⟩
      obtain ⟨svd, dsd, rfl, _, hdd, _⟩ := hld
      obtain ⟨Ad, cd, rfl⟩ := hdd.row.form
      clear hdd
      obtain ⟨md, hmd⟩ : ∃ md, md = dsd.length := ⟨_, rfl⟩
      rw [← hmd]
      clear hmd
      obtain ⟨we, hwe, hoe, hbe, hse⟩ := boxed wd #[.int .u64 L.first, .int .u64 L.next, .slice Ad md cd] 34
      obtain ⟨q, hq⟩ : ∃ q, q = wd.heap.size := ⟨_, rfl⟩
      rw [← hq] at hbe
      have hoce := (HOC.out.quiet_trans hod).quiet_trans hoe
      have HOE := Lib.hid hoce
      have HBE' := Lib.hid hbe
      have v0 : we.cell? ⟨q, 0, none⟩ = some (.int .u64 L.first) := Heap.cell hbe 0
      have v1 : we.cell? ⟨q, 1, none⟩ = some (.int .u64 L.next) := Heap.cell hbe 1
      obtain ⟨nx, hnx⟩ : ∃ nx, nx = L.next := ⟨_, rfl⟩
      obtain ⟨fs, hfs⟩ : ∃ fs, fs = L.first := ⟨_, rfl⟩
      have hnx1 : nx ≤ 100 := by rw [hnx]; exact HTW.out.low
      have hfn : fs ≤ nx := by rw [hnx, hfs]; exact HFL.out
      rw [← hnx] at v1 hwe ⊢
      rw [← hfs] at v0 hwe ⊢
      have HNX := Lib.hid (And.intro hnx hfs)
      clear hod hoe hse hbe hoce HLE hnx hfs
      go_wp2_with fail
      rw [← hwe, ← hq]
      clear hwe hq
      go_wp2_with fail
      go_loopg [14] (nx - fs) (fun gg s14 wr => ∃ z g0 : Nat, g0 = gg ∧ z + g0 = nx ∧ fs ≤ z ∧ s14 = .int .u64 z ∧ Off None we wr)
      case atStart => exact ⟨fs, nx - fs, rfl, by omega, Nat.le_refl _, rfl, Off.refl _ _⟩
      case round =>
        obtain ⟨z, g1, hg1, hz, hfz, rfl, hor⟩ := hrel
        have HG1 := Lib.hid hg1
        have HOR := Lib.hid hor
        have x0 := hor.stay v0 (fun y => y)
        have x1 := hor.stay v1 (fun y => y)
        clear hg1
        by_cases hzn : z < nx
        · obtain ⟨t, ht1, ht2⟩ := (HTW.out.quiet (HOE.out.quiet_trans hor)).got (z := z) (by rw [← HNX.out.2]; exact hfz) (by rw [← HNX.out.1]; exact hzn)
          have HT1 := Lib.hid (ht1 _ (Off.refl _ _))
          have HT2 := Lib.hid ht2
          have hzi : (z : Int) < (nx : Int) := by omega
          clear ht1 ht2 hor v0 v1
          go_wp2_with fail
          refine HT1.out.mono ?_
          rintro e wf ⟨rfl, hof⟩
          have HOF := Lib.hid hof
          have HT3 := Lib.hid (HT2.out wf hof)
          clear hof HT1 x0 x1
          go_wp2_with fail
          refine HT3.out.mono ?_
          rintro e wg ⟨rfl, hog⟩
          have HOG := Lib.hid (HOF.out.quiet_trans hog)
          clear hog HT3 HT2
          go_wp2_with fail
          go_roundg (g1 - 1)
          case measure => have := HG1.out; omega
          case rel => exact ⟨z + 1, g1 - 1, rfl, by omega, by omega, by go_num, HOR.out.quiet_trans HOG.out⟩
        · have hzi : ¬ (z : Int) < (nx : Int) := by omega
          clear hor v0 v1
          go_wp2_with fail
          go_ret
          exact ⟨rfl, off_belowS (((HO3.out.quiet_trans HOE.out).quiet_trans HOR.out))⟩
end LawS
end Go.Proofs.YtndgnlblbjpogaaGreatDoor
