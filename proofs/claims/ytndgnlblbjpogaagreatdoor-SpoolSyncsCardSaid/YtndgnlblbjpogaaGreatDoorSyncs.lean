/- The walk of SpoolSyncs. -/
import Derived.Test.YtndgnlblbjpogaaGreatDoorLawS6
namespace Go.Proofs.YtndgnlblbjpogaaGreatDoor
open Go Go.RowKit Go.Shelf Led
namespace LawS
set_option maxHeartbeats 2000000 in
set_option maxRecDepth 100000 in
theorem syncs_walk (w : World) (b s long : Int) (p : Option Addr) (l cap : Nat) (T : Nat → ActV) (hb : I64 b) (hs : I64 s) (hlg : I64 long) (hT : ActsAt w p l T) (hok : ∀ i, i < l → (T i).Ok) (hl : l ≤ 9223372036854775807) (hG : Glob w.heap.size w) :
    Calls Tryz.prog 5 #[.int .i64 b, .int .i64 s, .slice p l cap, .int .i64 long] w fun e w' => e = .returned (.bool true) ∧ Below w.heap.size w w' := by
  obtain ⟨P0, hg0, _, _, _, _, hbg⟩ := begun_any 100 (by omega) b s hb hs
  have HT := Lib.hid (And.intro hT hok)
  have HBG := Lib.hid hbg
  have HG := Lib.hid hG
  have HG0 := Lib.hid hg0
  clear hT hok hG hbg hg0
  go_enter Tryz.func5, Tryz.ntmps5
  go_wp2_with fail
  refine (shown_any w w.heap.size (Nat.le_refl _) HG.out).mono ?_
  rintro e w0 ⟨rfl, ho0⟩
  have HO0 := Lib.hid ho0
  clear ho0
  go_wp2_with fail
  refine (HBG.out w0 w.heap.size HO0.out.size (HG.out.none HO0.out)).mono ?_
  rintro e w1 ⟨d, sp, rfl, hsh, ho1⟩
  have HO1 := Lib.hid (HO0.out.quiet_trans ho1)
  have HS1 := Lib.hid hsh
  clear hsh ho1 HO0 HBG
  by_cases h60 : (60 : Int) < (l : Int)
  · go_wp2_with fail
    go_ret
    exact ⟨rfl, off_belowS (HO1.out.mono (fun _ _ x => x.elim))⟩
  have hl60 : l ≤ 60 := by omega
  go_wp2_with fail
  go_loopg [12] l (fun gg s12 wr => ∃ k g0 : Nat, g0 = gg ∧ k + g0 = l ∧ s12 = .int .i64 k ∧ Aside (∃ P full act ck, Play w.heap.size k (fun _ => False) wr sp d P full act ck ∧ Off (fun b => w.heap.size ≤ b) w wr))
  case atStart => exact ⟨0, l, rfl, by omega, rfl, P0, [], ⟨1, []⟩, none, ⟨HS1.out, HG0.out, Nat.le_refl _⟩, HO1.out.mono (fun _ _ x => x.elim)⟩
  case round =>
    obtain ⟨k, g0, hgg, hk, rfl, I⟩ := hrel
    obtain ⟨P, full, act, ck, hp, ho⟩ := I.out
    have HGG := Lib.hid hgg
    have HP := Lib.hid hp
    have HO := Lib.hid ho
    clear hgg hp ho I HS1 HG0
    by_cases hkl : k < l
    · obtain ⟨a, hpa, c0, c1, c2, c3⟩ := HT.out.1 k hkl
      subst hpa
      have e0 := HO.out.stay c0 (fun x => by have h1 := Heap.block_lt c0; have h2 : w.heap.size ≤ _ := x; omega)
      have e1 := HO.out.stay c1 (fun x => by have h1 := Heap.block_lt c1; have h2 : w.heap.size ≤ _ := x; omega)
      have e2 := HO.out.stay c2 (fun x => by have h1 := Heap.block_lt c2; have h2 : w.heap.size ≤ _ := x; omega)
      have e3 := HO.out.stay c3 (fun x => by have h1 := Heap.block_lt c3; have h2 : w.heap.size ≤ _ := x; omega)
      have hrun := HP.out.run (by omega) (T k) (HT.out.2 k hkl)
      unfold actAgg at hrun
      have HRUN := Lib.hid hrun
      have hi0 : (0 : Int) ≤ (k : Int) := by omega
      have hi1 : (k : Int) < (l : Int) := by omega
      clear c0 c1 c2 c3 hrun
      go_wp2_with fail
      refine HRUN.out.mono ?_
      rintro e w2 ⟨rfl, ⟨f', a', c', hp2⟩, ho2⟩
      have HP2 := Lib.hid (And.intro hp2 (HO.out.trans ho2 (fun b _ x => x.1)))
      clear hp2 ho2 HRUN HP HO e0 e1 e2 e3
      go_wp2_with fail
      go_roundg (g0 - 1)
      case measure => have := HGG.out; omega
      case rel => exact ⟨k + 1, g0 - 1, rfl, by omega, by go_num, _, f', a', c', HP2.out.1, HP2.out.2⟩
    · have hkn : k = l := by omega
      subst hkn
      clear hkl
      have HD := Lib.hid HP.out.held.durable
      obtain ⟨x, hx⟩ : ∃ x, x = act.end_ := ⟨_, rfl⟩
      have hxb : x ≤ 61 := by have := HP.out.end_; omega
      have hbo : (bodyV ⟨0, 0, 0, long⟩).size ≤ 2000 := by have := bodyV_le ⟨0, 0, 0, long⟩; omega
      obtain ⟨bd, hbd⟩ : ∃ bd, bd = bodyV ⟨0, 0, 0, long⟩ := ⟨_, rfl⟩
      have z0 : I64 0 := by constructor <;> decide
      have hB := fun W => body_any W ⟨0, 0, 0, long⟩ ⟨z0, z0, z0, hlg⟩
      unfold actAgg at hB
      rw [← hbd] at hB hbo
      dsimp only at hB
      have HB := Lib.hid hB
      have HX := Lib.hid hx
      clear hB hbd hx
      go_wp2_with fail
      refine HD.out.mono ?_
      rintro e w2 ⟨rfl, ho2⟩
      have HP2 := Lib.hid (HP.out.quiet ho2)
      have HO2 := Lib.hid (HO.out.quiet_trans ho2)
      clear ho2 HD
      go_wp2_with fail
      refine (HB.out w2).mono ?_
      rintro e w3 ⟨rfl, ho3⟩
      have HA := Lib.hid ((HP2.out.quiet ho3).add (by omega) bd hbo false)
      have HO3 := Lib.hid (HO2.out.quiet_trans ho3)
      clear ho3
      go_wp2_with fail
      refine HA.out.mono ?_
      rintro e w4 ⟨rfl, P1, f1, a1, k1, hp1, hv1, ho4⟩
      have HP4 := Lib.hid hp1
      have HV4 := Lib.hid hv1
      have HO4 := Lib.hid (HO3.out.trans ho4 (fun b _ x => x.1))
      have HD4 := Lib.hid hp1.held.durable
      clear hp1 hv1 ho4 HA
      rw [← HX.out]
      go_wp2_with fail
      refine HD4.out.mono ?_
      rintro e w5 ⟨rfl, ho5⟩
      have HP5 := Lib.hid (HP4.out.quiet ho5)
      have HO5 := Lib.hid (HO4.out.quiet_trans ho5)
      have hd0 := HV4.out.dur0 rfl
      have hnx := HV4.out.next
      rw [HP.out.good.next, ← HX.out] at hnx
      rw [← HX.out] at hd0
      have HLE := Lib.hid HP5.out.held.ledger
      obtain ⟨q0, hq0⟩ : ∃ q0, q0 = P.log.durable.end_ := ⟨_, rfl⟩
      obtain ⟨q1, hq1⟩ : ∃ q1, q1 = P1.log.durable.end_ := ⟨_, rfl⟩
      rw [← hq0, ← hq1] at hd0
      rw [← hq0, ← hq1]
      have HQ := Lib.hid (And.intro hq0 hq1)
      obtain ⟨hd1, hd2⟩ := hd0
      have k1' : ¬ (q1 : Int) < (q0 : Int) := by omega
      have k2' : ¬ (x : Int) < (q1 : Int) := by omega
      clear ho5 hq0 hq1 HD4
      go_wp2_with fail
      refine HLE.out.mono ?_
      rintro e w6 ⟨lv, rfl, hl6, ho6⟩
      obtain ⟨sv, ds, rfl, _⟩ := hl6
      have HP6 := Lib.hid (HP5.out.quiet ho6)
      have HO6 := Lib.hid (HO5.out.quiet_trans ho6)
      clear ho6 HLE
      rw [hnx]
      have k3' : (((x + 1 : Nat) : Int) != (x : Int) + 1) = false := by simp
      have HBB := Lib.hid (HB.out w6)
      go_wp2_with fail
      rw [led_field1]
      go_wp2_with fail
      refine HBB.out.mono ?_
      rintro e w7 ⟨rfl, ho7⟩
      have HA7 := Lib.hid ((HP6.out.quiet ho7).add (by omega) bd hbo true)
      have HO7 := Lib.hid (HO6.out.quiet_trans ho7)
      have hx1 := HV4.out.end_
      rw [← HX.out] at hx1
      clear ho7 HBB k1' k2' k3'
      go_wp2_with fail
      refine HA7.out.mono ?_
      rintro e w8 ⟨rfl, P2, f2, a2, c2, hp2, hv2, ho8⟩
      have HP8 := Lib.hid hp2
      have HV8 := Lib.hid hv2
      have HO8 := Lib.hid (HO7.out.trans ho8 (fun b _ x => x.1))
      have HD8 := Lib.hid hp2.held.durable
      rw [hx1]
      have hd8 := hv2.dur1 rfl
      rw [hx1] at hd8
      have hx2 := hv2.end_
      rw [hx1] at hx2
      rw [hd8] at HD8
      clear hp2 hv2 ho8 HA7
      have k1' : (((x + 1 : Nat) : Int) != (x : Int) + 1) = false := by simp
      have k2' : (((x + 1 + 1 : Nat) : Int) != ((x + 1 : Nat) : Int) + 1) = false := by simp
      go_wp2_with fail
      refine HD8.out.mono ?_
      rintro e w9 ⟨rfl, ho9⟩
      have HP9 := Lib.hid (HP8.out.quiet ho9)
      have HO9 := Lib.hid (HO8.out.quiet_trans ho9)
      have HA9 := Lib.hid (HP9.out.add (by omega) ⟨#[]⟩ (show 0 ≤ 2000 by omega) false)
      clear ho9 HD8
      go_wp2_with fail
      refine HA9.out.mono ?_
      rintro e w10 ⟨rfl, P3, f3, a3, c3, hp3, hv3, ho10⟩
      have HP10 := Lib.hid hp3
      have HO10 := Lib.hid (HO9.out.trans ho10 (fun b _ x => x.1))
      have hd10 := hv3.dur0 rfl
      rw [hd8, hx2] at hd10
      have hdd : P3.log.durable.end_ = x + 1 + 1 := by omega
      have hd3 := hp3.held.durable
      rw [hdd] at hd3
      have HD10 := Lib.hid hd3
      have hx3 := hv3.end_
      rw [hx2] at hx3
      rw [hx2]
      clear hp3 hv3 ho10 HA9 hd10 hdd hd3
      have k3' : (((x + 1 + 1 : Nat) : Int) == ((x + 1 : Nat) : Int) + 1) = true := by simp
      go_wp2_with fail
      refine HD10.out.mono ?_
      rintro e w11 ⟨rfl, ho11⟩
      have HS11 := Lib.hid (HP10.out.quiet ho11).sync
      have HO11 := Lib.hid (HO10.out.quiet_trans ho11)
      clear ho11 HD10
      go_wp2_with fail
      refine HS11.out.mono ?_
      rintro e w12 ⟨rfl, P4, hp4, hd4, _, ho12⟩
      have HO12 := Lib.hid (HO11.out.trans ho12 (fun b _ x => x.1))
      have hd12 := hp4.held.durable
      rw [hd4, hx3] at hd12
      have HD12 := Lib.hid hd12
      clear hp4 hd4 ho12 hd12 HS11
      have k4' : (((x + 1 + 1 + 1 : Nat) : Int) == ((x + 1 + 1 : Nat) : Int) + 1) = true := by simp
      go_wp2_with fail
      refine HD12.out.mono ?_
      rintro e w13 ⟨rfl, ho13⟩
      have HO13 := Lib.hid (HO12.out.quiet_trans ho13)
      clear ho13 HD12
      go_wp2_with fail
      go_ret
      exact ⟨rfl, off_belowS HO13.out⟩
end LawS
end Go.Proofs.YtndgnlblbjpogaaGreatDoor
