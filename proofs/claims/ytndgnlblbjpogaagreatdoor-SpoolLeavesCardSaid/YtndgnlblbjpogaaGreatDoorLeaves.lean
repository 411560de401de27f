/- The walk of SpoolLeaves. -/
import Derived.Test.YtndgnlblbjpogaaGreatDoorPlayS
namespace Go.Proofs.YtndgnlblbjpogaaGreatDoor
open Go Go.RowKit Go.Shelf Led
theorem leave_first (l : LedgerV) (x : DestV) (r : List DestV) (h : l.dests = x :: r) : l.leaveErr x.name = 0 ∧ (l.leave x.name).dests = r := by
  have hp : LedgerV.place l.dests x.name = some 0 := by
    unfold LedgerV.place
    rw [h, List.findIdx?_cons, if_pos (by simp)]
  constructor
  · unfold LedgerV.leaveErr
    rw [hp]
    rfl
  · unfold LedgerV.leave
    rw [hp]
    show l.dests.eraseIdx 0 = r
    rw [h]
    rfl
theorem join_empty (l : LedgerV) (h : l.dests = []) : l.joinErr nmA = 0 ∧ (l.joined nmA).dests = [⟨nmA, l.next, l.next, [], 0, 0, 0⟩] := by
  constructor
  · unfold LedgerV.joinErr
    rw [h]
    decide
  · unfold LedgerV.joined
    rw [h]
    rfl
theorem pend_one (l : LedgerV) (nx : Nat) (h : l.dests = [⟨nmA, nx, nx, [], 0, 0, 0⟩]) (hn : l.next = nx + 1) : (l.pending nmA).length = 1 := by
  have hf : l.find nmA = some ⟨nmA, nx, nx, [], 0, 0, 0⟩ := by
    unfold LedgerV.find
    rw [h]
    rfl
  unfold LedgerV.pending
  rw [hf]
  show (LedgerV.pendingOf _ l.next).length = 1
  unfold LedgerV.pendingOf
  rw [hn]
  show (List.filter _ (List.map _ (List.range (nx + 1 - nx)))).length = 1
  rw [show nx + 1 - nx = 1 by omega]
  show (List.filter _ [nx + 0]).length = 1
  rw [List.filter_cons, if_pos (by unfold DestV.waits; simp)]
  rfl
namespace LawS
set_option maxHeartbeats 2000000 in
set_option maxRecDepth 100000 in
theorem leaves_walk (w : World) (b s : Int) (p : Option Addr) (l cap : Nat) (T : Nat → ActV) (hb : I64 b) (hs : I64 s) (hT : ActsAt w p l T) (hok : ∀ i, i < l → (T i).Ok) (hl : l ≤ 9223372036854775807) (hG : Glob w.heap.size w) :
    Calls Tryz.prog 6 #[.int .i64 b, .int .i64 s, .slice p l cap] w fun e w' => e = .returned (.bool true) ∧ Below w.heap.size w w' := by
  obtain ⟨P0, hg0, _, _, _, _, hbg⟩ := begun_any 100 (by omega) b s hb hs
  have HT := Lib.hid (And.intro hT hok)
  have HBG := Lib.hid hbg
  have HG := Lib.hid hG
  have HG0 := Lib.hid hg0
  clear hT hok hG hbg hg0
  go_enter Tryz.func6, Tryz.ntmps6
  go_wp2_with fail
  refine (shown_any w w.heap.size (Nat.le_refl _) HG.out).mono ?_
  rintro e w0 ⟨rfl, ho0⟩
  have HO0 := Lib.hid ho0
  clear ho0
  go_wp2_with fail
  refine (HBG.out w0 w.heap.size HO0.out.size (HG.out.none HO0.out)).mono ?_
  rintro e w1 ⟨d, sp, rfl, hsh, ho1⟩
  have HO1 := Lib.hid (HO0.out.quiet_trans ho1)
  have HS1 := Lib.hid hsh
  clear hsh ho1 HO0 HBG
  by_cases h60 : (60 : Int) < (l : Int)
  · go_wp2_with fail
    go_ret
    exact ⟨rfl, off_belowS (HO1.out.mono (fun _ _ x => x.elim))⟩
  have hl60 : l ≤ 60 := by omega
  go_wp2_with fail
  go_loopg [10] l (fun gg s10 wr => ∃ k g0 : Nat, g0 = gg ∧ k + g0 = l ∧ s10 = .int .i64 k ∧ Aside (∃ P full act ck, Play w.heap.size k (fun _ => False) wr sp d P full act ck ∧ Off (fun b => w.heap.size ≤ b) w wr))
  case atStart => exact ⟨0, l, rfl, by omega, rfl, P0, [], ⟨1, []⟩, none, ⟨HS1.out, HG0.out, Nat.le_refl _⟩, HO1.out.mono (fun _ _ x => x.elim)⟩
  case round =>
    obtain ⟨k, g0, hgg, hk, rfl, I⟩ := hrel
    obtain ⟨P, full, act, ck, hp, ho⟩ := I.out
    have HGG := Lib.hid hgg
    have HP := Lib.hid hp
    have HO := Lib.hid ho
    clear hgg hp ho I HS1 HG0
    by_cases hkl : k < l
    · obtain ⟨a, hpa, c0, c1, c2, c3⟩ := HT.out.1 k hkl
      subst hpa
      have e0 := HO.out.stay c0 (fun x => by have h1 := Heap.block_lt c0; have h2 : w.heap.size ≤ _ := x; omega)
      have e1 := HO.out.stay c1 (fun x => by have h1 := Heap.block_lt c1; have h2 : w.heap.size ≤ _ := x; omega)
      have e2 := HO.out.stay c2 (fun x => by have h1 := Heap.block_lt c2; have h2 : w.heap.size ≤ _ := x; omega)
      have e3 := HO.out.stay c3 (fun x => by have h1 := Heap.block_lt c3; have h2 : w.heap.size ≤ _ := x; omega)
      have hrun := HP.out.run (by omega) (T k) (HT.out.2 k hkl)
      unfold actAgg at hrun
      have HRUN := Lib.hid hrun
      have hi0 : (0 : Int) ≤ (k : Int) := by omega
      have hi1 : (k : Int) < (l : Int) := by omega
      clear c0 c1 c2 c3 hrun
      go_wp2_with fail
      refine HRUN.out.mono ?_
      rintro e w2 ⟨rfl, ⟨f', a', c', hp2⟩, ho2⟩
      have HP2 := Lib.hid (And.intro hp2 (HO.out.trans ho2 (fun b _ x => x.1)))
      clear hp2 ho2 HRUN HP HO e0 e1 e2 e3
      go_wp2_with fail
      go_roundg (g0 - 1)
      case measure => have := HGG.out; omega
      case rel => exact ⟨k + 1, g0 - 1, rfl, by omega, by go_num, _, f', a', c', HP2.out.1, HP2.out.2⟩
    · have hkn : k = l := by omega
      subst hkn
      clear hkl
      have HLE := Lib.hid HP.out.held.ledger
      go_wp2_with fail
      refine HLE.out.mono ?_
      rintro e w2 ⟨lv, rfl, hl2, ho2⟩
      have hl2' := hl2
      obtain ⟨sv, ds, rfl, hds, hd2, _, _⟩ := hl2'
      obtain ⟨A2, c2, rfl⟩ := hd2.row.form
      obtain ⟨m, hm⟩ : ∃ m, m = ds.length := ⟨_, rfl⟩
      rw [← hm]
      rw [← hm] at hl2
      have hm4 : m ≤ 4 := by rw [hm]; have := HP.out.good.right.few; rw [← hds, List.length_map] at this; exact this
      obtain ⟨w3, hw3, ho3, hb3, hs3⟩ := boxed w2 #[.int .u64 P.led.first, .int .u64 P.led.next, .slice A2 m c2] 34
      obtain ⟨q, hq⟩ : ∃ q, q = w2.heap.size := ⟨_, rfl⟩
      rw [← hq] at hb3
      obtain ⟨B, hB⟩ : ∃ B : Nat → Prop, B = fun b => wr.heap.size ≤ b ∧ b < w3.heap.size := ⟨_, rfl⟩
      have hp3 : Play w.heap.size k B w3 sp d P full act ck := HP.out.fresh (ho2.quiet_trans ho3) (fun b hb => by rw [hB] at hb; exact .inr hb)
      have hBq : B q := by rw [hB]; exact ⟨by have := ho2.size; omega, by omega⟩
      have hl3 := hl2.quiet ho3
      have hlen : P.led.dests.length = m := by rw [← hds, List.length_map, hm]
      have HL3 := Lib.hid (And.intro hl3 (And.intro hb3 (And.intro hBq (And.intro hlen hds))))
      have HBB := Lib.hid hB
      have HP3 := Lib.hid hp3
      have HO3 := Lib.hid ((HO.out.quiet_trans ho2).quiet_trans ho3)
      clear hl2 hd2 hds hm ho2 ho3 hb3 hs3 hp3 hBq hl3 hB HLE hlen
      go_wp2_with fail
      rw [← hw3, ← hq]
      clear hw3 hq
      go_loopg [12] m (fun gg s12 wv => ∃ i g0 : Nat, g0 = gg ∧ i + g0 = m ∧ s12 = .int .i64 i ∧ Aside (∃ Q ck', Play w.heap.size (k + i) B wv sp d Q full act ck' ∧ Q.led.dests = P.led.dests.drop i ∧ Off (Spare w.heap.size B) w3 wv))
      case atStart => exact ⟨0, m, rfl, by omega, rfl, P, ck, HP3.out, rfl, Off.refl _ _⟩
      case round =>
        obtain ⟨i, g0, hg0, hi, rfl, J⟩ := hrel
        obtain ⟨Q, ck', hpq, hdq, hov⟩ := J.out
        have HG0' := Lib.hid hg0
        have HPQ := Lib.hid hpq
        have HDQ := Lib.hid hdq
        have HOV := Lib.hid hov
        have hqv := hov.at_ HL3.out.2.1 (fun x => x.2 HL3.out.2.2.1)
        have v2 := Heap.cell hqv 2
        have v0 := Heap.cell hqv 0
        have v1 := Heap.cell hqv 1
        clear hg0 hpq hdq J hqv
        by_cases him : i < m
        · have hlv : LedgerAt wr _ _ _ := HL3.out.1.off hov (fun b x hb y => y.2 (by rw [HBB.out]; exact ⟨x, hb⟩))
          obtain ⟨sv', ds', ee, hds', hd', _, _⟩ := hlv
          have hsv : sv' = .slice A2 m c2 := by
            injection ee with ee
            injection ee with ee
            injection ee with _ ee
            injection ee with _ ee
            injection ee with ee _
            exact ee.symm
          subst hsv
          obtain ⟨bb, off, dd, B7, cb, rfl, hmc, hcm, hml, _, _, hdd, _, ⟨x0, _⟩⟩ := hd'.at_ him
          have hdP : P.led.dests[i]? = some dd := by rw [← hds', List.getElem?_map, hdd]; rfl
          have hcons : Q.led.dests = dd :: P.led.dests.drop (i + 1) := by
            rw [HDQ.out, List.drop_eq_getElem_cons (by rw [HL3.out.2.2.2.1]; exact him)]
            congr 1
            exact (List.getElem?_eq_some_iff.1 hdP).2
          obtain ⟨he0, hl0⟩ := leave_first Q.led dd _ hcons
          have hlv := HPQ.out.leave (by omega) dd.name
          rw [he0] at hlv
          have HLV := Lib.hid hlv
          have HL0 := Lib.hid hl0
          have hi0 : (0 : Int) ≤ (i : Int) := by omega
          have hi1 : (i : Int) < (m : Int) := by omega
          have hcm' : c2 ≤ 9223372036854775807 := by unfold maxLen at hcm; exact hcm
          clear ee hds' hd' hdd hdP hcons he0 hl0 hlv hov hml
          go_wp2_with fail
          refine HLV.out.mono ?_
          rintro e w5 ⟨rfl, ⟨Q', ck2, hp5, hl5⟩, ho5⟩
          have hl5 := hl5 (by trivial)
          have H5 := Lib.hid (And.intro hp5 (And.intro (hl5.trans rfl) ho5))
          have hd5 : Q'.led.dests = P.led.dests.drop (i + 1) := by rw [hl5]; exact HL0.out
          have HD5 := Lib.hid hd5
          clear hp5 hl5 ho5 hd5 HLV
          go_wp2_with fail
          go_roundg (g0 - 1)
          case measure => have := HG0'.out; omega
          case rel => exact ⟨i + 1, g0 - 1, rfl, by omega, by go_num, Q', ck2, H5.out.1, HD5.out, HOV.out.trans H5.out.2.2 (fun _ _ x => x)⟩
        · have him' : i = m := by omega
          subst him'
          have hnil : Q.led.dests = [] := by rw [HDQ.out]; exact List.drop_eq_nil_of_le (by rw [HL3.out.2.2.2.1]; exact Nat.le_refl _)
          have HNIL := Lib.hid hnil
          have HLE := Lib.hid HPQ.out.held.ledger
          have hOV : Off (fun b => w.heap.size ≤ b) w wr := HO3.out.trans HOV.out (fun b _ x => x.1)
          have HOW := Lib.hid hOV
          clear hov hnil hOV him
          go_wp2_with fail
          refine HLE.out.mono ?_
          rintro e w4 ⟨lv, rfl, hl4, ho4⟩
          obtain ⟨sv4, ds4, rfl, _⟩ := hl4
          have HP4 := Lib.hid (HPQ.out.quiet ho4)
          have HO4 := Lib.hid (HOW.out.quiet_trans ho4)
          obtain ⟨hje, hjd⟩ := join_empty Q.led HNIL.out
          have hjn := HP4.out.join (by omega) nmA (show 1 ≤ maxLen by unfold maxLen; omega)
          rw [hje] at hjn
          have HJN := Lib.hid hjn
          obtain ⟨nx, hnx⟩ : ∃ nx, nx = Q.led.next := ⟨_, rfl⟩
          rw [← hnx] at hjd ⊢
          have HJD := Lib.hid (And.intro hjd hnx)
          clear ho4 hje hjn hjd hnx HLE v0 v1 v2
          go_wp2_with fail
          rw [led_field1]
          go_wp2_with fail
          refine HJN.out.mono ?_
          rintro e w5 ⟨rfl, ⟨P5, ck5, hp5, hl5⟩, ho5⟩
          obtain ⟨hl5, hd5⟩ := hl5 (by trivial)
          have hds5 : P5.led.dests = [⟨nmA, nx, nx, [], 0, 0, 0⟩] := by rw [hl5]; exact HJD.out.1
          have hnx5 : P5.led.next = nx := by rw [hl5]; exact HJD.out.2.symm
          have hrc := hp5.reclaim_all (by omega) (fun x hx => by rw [hds5] at hx; rw [List.mem_singleton.1 hx, hnx5])
          have HRC := Lib.hid hrc
          have HO5 := Lib.hid (HO4.out.trans ho5 (fun b _ x => x.1))
          have hae : act.end_ = nx := by rw [← hp5.good.next]; exact hnx5
          rw [hae] at hd5
          have H5 := Lib.hid (And.intro hds5 (And.intro hnx5 (And.intro hd5 hae)))
          clear hp5 hl5 hd5 hds5 hnx5 hrc ho5 hae HJN
          go_wp2_with fail
          refine HRC.out.mono ?_
          rintro e w6 ⟨rfl, ⟨P6, ck6, hp6, hdu6, hnx6, hds6, _⟩, ho6⟩
          have HP6 := Lib.hid hp6
          have HO6 := Lib.hid (HO5.out.trans ho6 (fun b _ x => x.1))
          have HLS := Lib.hid hp6.list
          have hdu : P6.log.durable.end_ = nx := by rw [hdu6]; exact H5.out.2.2.1
          have hnx' : P6.led.next = nx := by rw [hnx6]; exact H5.out.2.1
          have hds' : P6.led.dests = [⟨nmA, nx, nx, [], 0, 0, 0⟩] := by rw [hds6]; exact H5.out.1
          have H6 := Lib.hid (And.intro hdu (And.intro hnx' hds'))
          clear hp6 hdu6 hnx6 hds6 ho6 hdu hnx' hds' HRC
          go_wp2_with fail
          refine HLS.out.mono ?_
          rintro e w7 ⟨⟨A7, m7, c7, rfl, hm7⟩, ho7⟩
          have hdb := (HP6.out.quiet ho7).held.durable
          rw [H6.out.1] at hdb
          have HDB := Lib.hid hdb
          have HP7 := Lib.hid (HP6.out.quiet ho7)
          have HO7 := Lib.hid (HO6.out.quiet_trans ho7)
          have hm7' : ¬ (2 : Int) < (m7 : Int) := by omega
          clear ho7 hdb HLS
          go_wp2_with fail
          refine HDB.out.mono ?_
          rintro e w8 ⟨rfl, ho8⟩
          have HP8 := Lib.hid (HP7.out.quiet ho8)
          have HO8 := Lib.hid (HO7.out.quiet_trans ho8)
          have HL8 := Lib.hid (HP7.out.quiet ho8).held.ledger
          clear ho8 HDB hm7'
          go_wp2_with fail
          refine HL8.out.mono ?_
          rintro e w9 ⟨lv9, rfl, hl9, ho9⟩
          have hl9' := hl9
          obtain ⟨sv9, ds9, rfl, hds9, hd9, _, _⟩ := hl9'
          obtain ⟨A9, c9, rfl⟩ := hd9.row.form
          have h1 : ds9.length = 1 := by rw [← List.length_map (f := Prod.fst), hds9, H6.out.2.2]; rfl
          obtain ⟨w10, hw10, ho10, hb10, hs10⟩ := boxed w9 #[.int .u64 P6.led.first, .int .u64 P6.led.next, .slice A9 1 c9] 34
          obtain ⟨q9, hq9⟩ : ∃ q9, q9 = w9.heap.size := ⟨_, rfl⟩
          rw [← hq9] at hb10
          obtain ⟨B9, hB9⟩ : ∃ B9 : Nat → Prop, B9 = fun b => w8.heap.size ≤ b ∧ b < w10.heap.size := ⟨_, rfl⟩
          rw [h1] at hl9 hd9
          obtain ⟨bb, off, dd, B7, cb, rfl, hmc, hcm, hml9, hbb, hbb2, hdd, _, ⟨_, x1, _⟩⟩ := hd9.at_ (i := 0) (by omega)
          clear hml9
          have hdd' : dd = ⟨nmA, nx, nx, [], 0, 0, 0⟩ := by
            have h2 : (ds9.map (·.1))[0]? = some dd := by rw [List.getElem?_map, hdd]; rfl
            rw [hds9, H6.out.2.2] at h2
            exact (Option.some.inj h2).symm
          have x1' : w9.cell? ⟨bb, off + 1, none⟩ = some (.int .u64 nx) := by rw [hdd'] at x1; simpa using x1
          have hbb' : w8.heap.size ≤ bb := hbb
          have hBb : B9 bb := by rw [hB9]; exact ⟨hbb', by omega⟩
          have hBq9 : B9 q9 := by rw [hB9]; exact ⟨by have := ho9.size; omega, by omega⟩
          have hp10 : Play w.heap.size (k + i + 1 + 1) B9 w10 sp d P6 [] act ck6 := HP8.out.fresh (ho9.quiet_trans ho10) (fun b hb => by rw [hB9] at hb; exact .inr hb)
          have had := hp10.add (by omega) bodyX (show 1 ≤ 2000 by omega) true
          rw [H5.out.2.2.2] at had
          have HAD := Lib.hid had
          have y1 := ho10.stay x1' (fun x => x)
          have HY := Lib.hid (And.intro y1 (And.intro hb10 (And.intro hBb hBq9)))
          have HO10 := Lib.hid ((HO8.out.quiet_trans ho9).quiet_trans ho10)
          have hcm9 : c9 ≤ 9223372036854775807 := by unfold maxLen at hcm; exact hcm
          rw [h1]
          clear hl9 hd9 hds9 hdd hdd' x1 x1' hbb hbb2 hbb' hBb hBq9 hp10 had y1 ho9 ho10 hb10 hs10 hB9 h1 HL8 hcm
          go_wp2_with fail
          rw [← hw10, ← hq9]
          clear hw10 hq9
          refine HAD.out.mono ?_
          rintro e w11 ⟨rfl, P7, f7, a7, c7', hp7, hv7, ho11⟩
          have z1 := ho11.stay HY.out.1 (fun x => x.2 HY.out.2.2.1)
          have hb11 := ho11.at_ HY.out.2.1 (fun x => x.2 HY.out.2.2.2)
          have z2 := Heap.cell hb11 2
          have hds7 : P7.led.dests = [⟨nmA, nx, nx, [], 0, 0, 0⟩] := by
            rw [hv7.dests (fun x hx => by rw [H6.out.2.2] at hx; rw [List.mem_singleton.1 hx, H6.out.2.1]; exact Nat.le_refl _)]
            exact H6.out.2.2
          have hnx7 : P7.led.next = nx + 1 := by rw [hv7.next, H6.out.2.1]
          have hpo := pend_one P7.led nx hds7 hnx7
          have HLE := Lib.hid hp7.held.ledger
          have HRIS := Lib.hid (fun x hx => (hp7.held.wk.right.each x hx).2.rising)
          have HPO := Lib.hid hpo
          have HO11 := Lib.hid (HO10.out.trans ho11 (fun b _ x => x.1))
          clear hp7 hv7 ho11 hb11 hds7 hnx7 hpo HAD
          go_wp2_with fail
          refine HLE.out.mono ?_
          rintro e w12 ⟨lv12, rfl, hl12, ho12⟩
          have HPE := Lib.hid (pending_any w12 _ lv12 _ hl12 HRIS.out nmA)
          have HO12 := Lib.hid (HO11.out.quiet_trans ho12)
          clear hl12 ho12 HLE z1 z2
          go_wp2_with fail
          refine HPE.out.mono ?_
          rintro e w13 ⟨v13, rfl, hown13, ho13⟩
          have HO13 := Lib.hid (HO12.out.quiet_trans ho13)
          obtain ⟨A13, c13, rfl⟩ := own_form hown13
          rw [HPO.out]
          clear hown13 ho13 HPE
          go_wp2_with fail
          go_ret
          exact ⟨rfl, off_belowS HO13.out⟩
end LawS
end Go.Proofs.YtndgnlblbjpogaaGreatDoor
