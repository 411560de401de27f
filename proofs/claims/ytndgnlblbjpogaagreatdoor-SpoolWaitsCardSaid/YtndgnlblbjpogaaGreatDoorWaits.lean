/- The walk of SpoolWaits. -/
import Derived.Test.YtndgnlblbjpogaaGreatDoorPlayS
import Derived.Test.YtndgnlblbjpogaaGreatDoorLawS8
namespace Go.Proofs.YtndgnlblbjpogaaGreatDoor
open Go Go.RowKit Go.Shelf Led
namespace Play
variable {n k : Nat} {A : Nat → Prop} {w w' : World} {sp d : Nat} {P : SpoolV} {full : List Grp} {act : Grp} {ck : Option (List UInt8)}
/-- What an act leaves of the bodies that are there. -/
structure Told (P : SpoolV) (act : Grp) (Bt : List ByteArray) (a : ActV) (sq : Nat) (er : Int) (P' : SpoolV) (full' : List Grp) (act' : Grp) : Prop where
  add : pickN a.op 15 < 6 → sq = act.end_ ∧ er = 0 ∧ Shelved P' full' act' (setV Bt act.end_ (bodyV a)) ∧ P'.led.next = act.end_ + 1
  other : 6 ≤ pickN a.op 15 → Shelved P' full' act' Bt
theorem runs (h : Play n k A w sp d P full act ck) (hk : k ≤ 80) (a : ActV) (ha : a.Ok) {Bt : List ByteArray} (hsh : Shelved P full act Bt) :
    Calls Tryz.prog 14 #[.pointer (some ⟨sp, 0, none⟩), actAgg a] w fun e w' => (∃ (sq : Nat) (er : Int), e = .returned (.tuple #[.int .u64 sq, .int .i64 er]) ∧ ∃ P' full' act' ck', Play n (k + 1) A w' sp d P' full' act' ck' ∧ Told P act Bt a sq er P' full' act') ∧ Off (Spare n A) w w' := by
  have hM : act.end_ + 1 ≤ 100 := by have := h.end_; omega
  have hc := LawS.run_any _ _ n A w sp d P h.held (by omega) (by omega) a ha
  by_cases h6 : pickN a.op 15 < 6
  · obtain ⟨P', f', a', c', e0, hg, hv⟩ := h.good.run_add bears_begun a h6 hM
    rw [e0] at hc
    refine hc.mono ?_
    rintro e w' ⟨rfl, hs, ho⟩
    exact ⟨⟨_, _, rfl, P', f', a', c', ⟨hs.up (by omega) (by omega) (by omega) (by omega), hg, by have := h.end_; have := hv.end_; omega⟩, ⟨fun _ => ⟨rfl, rfl, hsh.add h.good hv (by omega), by rw [hv.next, h.good.next]⟩, fun x => by omega⟩⟩, ho⟩
  by_cases h14 : pickN a.op 15 = 14
  · obtain ⟨P', f', c', e0, hg, hv, _⟩ := h.good.run_idle bears_begun a h14
    rw [e0] at hc
    refine hc.mono ?_
    rintro e w' ⟨rfl, hs, ho⟩
    exact ⟨⟨_, _, rfl, P', f', act, c', ⟨hs.up (by omega) (by omega) (by omega) (by omega), hg, by have := h.end_; omega⟩, ⟨fun x => absurd x h6, fun _ => hsh.gone hv⟩⟩, ho⟩
  · obtain ⟨⟨c', hg⟩, hv⟩ := h.good.run_calm bears_begun a (by omega) h14
    refine hc.mono ?_
    rintro e w' ⟨rfl, hs, ho⟩
    exact ⟨⟨_, _, rfl, _, full, act, c', ⟨hs.up (by omega) (by omega) (by omega) (by omega), hg, by have := h.end_; omega⟩, ⟨fun x => absurd x h6, fun _ => hsh.calm hv.first⟩⟩, ho⟩
theorem get (h : Play n k A w sp d P full act ck) (seq : Nat) (hq : seq < 18446744073709551616) :
    Calls Tryz.prog 28 #[.pointer (some ⟨sp, 0, none⟩), .int .u64 seq] w fun e w' => e = .returned (.tuple #[.string (P.log.get P.disk seq).1, .int .i64 (P.log.get P.disk seq).2]) ∧ Off None w w' := h.held.get seq hq
end Play
namespace LawS
set_option maxHeartbeats 2000000 in
set_option maxRecDepth 100000 in
theorem waits_walk (w : World) (b s : Int) (p : Option Addr) (l cap : Nat) (T : Nat → ActV) (hb : I64 b) (hs : I64 s) (hT : ActsAt w p l T) (hok : ∀ i, i < l → (T i).Ok) (hl : l ≤ 9223372036854775807) (hG : Glob w.heap.size w) :
    Calls Tryz.prog 7 #[.int .i64 b, .int .i64 s, .slice p l cap] w fun e w' => e = .returned (.bool true) ∧ Below w.heap.size w w' := by
  obtain ⟨P0, hg0, _, _, hle0, _, hbg⟩ := begun_any 100 (by omega) b s hb hs
  have hsh0 : Shelved P0 [] ⟨1, []⟩ [] := Shelved.new (by rw [hle0]; rfl) rfl
  have HT := Lib.hid (And.intro hT hok)
  have HBG := Lib.hid hbg
  have HG := Lib.hid hG
  have HG0 := Lib.hid (And.intro hg0 hsh0)
  clear hT hok hG hbg hg0 hsh0 hle0
  go_enter Tryz.func7, Tryz.ntmps7
  go_wp2_with fail
  refine (shown_any w w.heap.size (Nat.le_refl _) HG.out).mono ?_
  rintro e w0 ⟨rfl, ho0⟩
  have HO0 := Lib.hid ho0
  clear ho0
  go_wp2_with fail
  refine (HBG.out w0 w.heap.size HO0.out.size (HG.out.none HO0.out)).mono ?_
  rintro e w1 ⟨d, sp, rfl, hsh, ho1⟩
  have HO1 := Lib.hid (HO0.out.quiet_trans ho1)
  have HS1 := Lib.hid hsh
  clear hsh ho1 HO0 HBG
  by_cases h60 : (60 : Int) < (l : Int)
  · go_wp2_with fail
    go_ret
    exact ⟨rfl, off_belowS (HO1.out.mono (fun _ _ x => x.elim))⟩
  have hl60 : l ≤ 60 := by omega
  go_wp2_with fail
  go_loopg [10, 11] l (fun gg s10 s11 wr => ∃ k g0 : Nat, g0 = gg ∧ k + g0 = l ∧ s11 = .int .i64 k ∧ Aside (∃ P full act ck Bt, Play w.heap.size k (fun b => s10.ownBlock = some b) wr sp d P full act ck ∧ Shelved P full act Bt ∧ wr.ownsRow 0 9 1 s10 Bt.length (textsV Bt) ∧ Off (fun b => w.heap.size ≤ b) w wr))
  case atStart => exact ⟨0, l, rfl, by omega, rfl, P0, [], ⟨1, []⟩, none, [], ⟨HS1.out.fresh (Off.refl _ _) (fun b hb => by cases hb), HG0.out.1, Nat.le_refl _⟩, HG0.out.2, World.ownsRow_nil _ _ _ _, HO1.out.mono (fun _ _ x => x.elim)⟩
  case round =>
    obtain ⟨k, g0, hgg, hk, rfl, I⟩ := hrel
    obtain ⟨P, full, act, ck, Bt, hp, hsh, hrow, ho⟩ := I.out
    obtain ⟨AB, cB, hv10⟩ := own_form hrow
    subst hv10
    have HGG := Lib.hid hgg
    have HP := Lib.hid hp
    have HSH := Lib.hid hsh
    have HROW := Lib.hid hrow
    have HO := Lib.hid ho
    clear hgg hp hsh hrow ho I HS1 HG0 HO1
    by_cases hkl : k < l
    · obtain ⟨a, hpa, c0, c1, c2, c3⟩ := HT.out.1 k hkl
      subst hpa
      have e0 := HO.out.stay c0 (fun x => by have h1 := Heap.block_lt c0; have h2 : w.heap.size ≤ _ := x; omega)
      have e1 := HO.out.stay c1 (fun x => by have h1 := Heap.block_lt c1; have h2 : w.heap.size ≤ _ := x; omega)
      have e2 := HO.out.stay c2 (fun x => by have h1 := Heap.block_lt c2; have h2 : w.heap.size ≤ _ := x; omega)
      have e3 := HO.out.stay c3 (fun x => by have h1 := Heap.block_lt c3; have h2 : w.heap.size ≤ _ := x; omega)
      have hrun := HP.out.runs (by omega) (T k) (HT.out.2 k hkl) HSH.out
      unfold actAgg at hrun
      have HRUN := Lib.hid hrun
      have HC := Lib.hid (And.intro c0 (And.intro c1 (And.intro c2 c3)))
      have hpk := fun W => pick_any (T k).op 15 (HT.out.2 k hkl).op (by omega) (by omega) W
      have hj15 := pickN_lt (T k).op (n := 15) (by omega)
      obtain ⟨j, hj⟩ : ∃ j, j = pickN (T k).op 15 := ⟨_, rfl⟩
      rw [← hj] at hpk hj15
      have HPK := Lib.hid hpk
      have HJ := Lib.hid hj
      have hi0 : (0 : Int) ≤ (k : Int) := by omega
      have hi1 : (k : Int) < (l : Int) := by omega
      obtain ⟨m, hm⟩ : ∃ m, m = Bt.length := ⟨_, rfl⟩
      rw [← hm]
      have HM := Lib.hid hm
      clear c0 c1 c2 c3 hrun hpk hj hm
      go_wp2_with fail
      refine HRUN.out.mono ?_
      rintro e w2 ⟨⟨sq, er, rfl, P', f', a', c', hp2, htl⟩, ho2⟩
      have HP2 := Lib.hid hp2
      have HO2 := Lib.hid (HO.out.trans ho2 (fun b _ x => x.1))
      have HROW2 := Lib.hid (ho2.row HROW.out (fun k hk hG => hG.2 hk))
      have HTL := Lib.hid htl
      have x0 := HO2.out.stay HC.out.1 (fun x => by have h1 := Heap.block_lt HC.out.1; have h2 : w.heap.size ≤ _ := x; omega)
      clear hp2 ho2 htl HRUN e0 e1 e2 e3
      by_cases hj6 : j < 6
      · obtain ⟨rfl, rfl, hsh2, hnx2⟩ := HTL.out.add (by rw [← HJ.out]; exact hj6)
        have hj6' : (j : Int) < 6 := by omega
        have HLE := Lib.hid HP2.out.held.ledger
        have HSH2 := Lib.hid hsh2
        obtain ⟨q, hq⟩ : ∃ q, q = act.end_ := ⟨_, rfl⟩
        rw [← hq] at hnx2 ⊢
        have HQ := Lib.hid hq
        have hqb : q ≤ 100 := by have := HP.out.end_; omega
        clear hsh2 hq
        go_wp2_with (go_at_call 11; refine (HPK.out _).mono ?_; rintro e w' ⟨rfl, rfl⟩)
        refine HLE.out.mono ?_
        rintro e w3 ⟨lv, rfl, hl3, ho3⟩
        obtain ⟨sv, ds, rfl, _⟩ := hl3
        have HP3 := Lib.hid (HP2.out.quiet ho3)
        have HO3 := Lib.hid (HO2.out.quiet_trans ho3)
        have HROW3 := Lib.hid (ho3.row HROW2.out (fun _ _ x => x))
        rw [hnx2]
        have hne : ((q : Int) + 1 != ((q + 1 : Nat) : Int)) = false := by simp
        clear ho3 HLE x0 hnx2
        obtain ⟨c0, c1, c2, c3⟩ := HC.out
        have e0 := HO3.out.stay c0 (fun x => by have h1 := Heap.block_lt c0; have h2 : w.heap.size ≤ _ := x; omega)
        have e1 := HO3.out.stay c1 (fun x => by have h1 := Heap.block_lt c1; have h2 : w.heap.size ≤ _ := x; omega)
        have e2 := HO3.out.stay c2 (fun x => by have h1 := Heap.block_lt c2; have h2 : w.heap.size ≤ _ := x; omega)
        have e3 := HO3.out.stay c3 (fun x => by have h1 := Heap.block_lt c3; have h2 : w.heap.size ≤ _ := x; omega)
        have hbody := fun W => body_any W (T k) (HT.out.2 k hkl)
        unfold actAgg at hbody
        have HBODY := Lib.hid hbody
        clear c0 c1 c2 c3 hbody
        go_wp2_with fail
        rw [led_field1]
        go_wp2_with fail
        refine (HBODY.out w3).mono ?_
        rintro e w4 ⟨rfl, ho4⟩
        have HROW4 := Lib.hid (ho4.row HROW3.out (fun _ _ x => x))
        have hst := set_any w4 0 _ Bt q (bodyV (T k)) HROW4.out (by omega) (by rw [HQ.out]; exact HSH.out.len)
        rw [← HM.out] at hst
        have HST := Lib.hid hst
        have HO4 := Lib.hid ho4
        clear ho4 hst e0 e1 e2 e3 hne
        go_wp2_with fail
        refine HST.out.mono ?_
        rintro e w5 ⟨v5, rfl, hown5, ho5⟩
        have HR5 := Lib.hid (And.intro hown5 ho5)
        have HSH3 := HSH2.out
        rw [← HQ.out] at HSH3
        have HS5 := Lib.hid HSH3
        clear hown5 ho5 HST HSH3
        go_wp2_with fail
        go_roundg (g0 - 1)
        case measure => have := HGG.out; omega
        case rel =>
          have ho45 := HO4.out.quiet_trans HR5.out.2
          refine ⟨k + 1, g0 - 1, rfl, by omega, by go_num, P', f', a', c', _, (HP3.out.less (A := fun _ => False) (fun _ x => x.elim)).fresh ho45 (fun b hb => .inr ⟨?_, (HR5.out.1.lt b hb).2⟩), HS5.out, own_mono HR5.out.1 (Nat.zero_le _), HO3.out.quiet_trans ho45⟩
          exact Nat.le_trans HO4.out.size (HR5.out.1.lt b hb).1
      · have hj6' : ¬ (j : Int) < 6 := by omega
        have hsh2 := HTL.out.other (by rw [← HJ.out]; omega)
        have HSH2 := Lib.hid hsh2
        clear hsh2
        go_wp2_with (go_at_call 11; refine (HPK.out _).mono ?_; rintro e w' ⟨rfl, rfl⟩)
        go_roundg (g0 - 1)
        case measure => have := HGG.out; omega
        case rel =>
          have hm := HM.out
          subst hm
          exact ⟨k + 1, g0 - 1, rfl, by omega, by go_num, P', f', a', c', Bt, HP2.out, HSH2.out, HROW2.out, HO2.out⟩
    · have hkn : k = l := by omega
      subst hkn
      clear hkl
      have HLE := Lib.hid HP.out.held.ledger
      go_wp2_with fail
      refine HLE.out.mono ?_
      rintro e w2 ⟨lv, rfl, hl2, ho2⟩
      have hl2' := hl2
      obtain ⟨sv, ds, rfl, hds, hd2, _, _⟩ := hl2'
      obtain ⟨A2, c2, rfl⟩ := hd2.row.form
      obtain ⟨m, hm⟩ : ∃ m, m = ds.length := ⟨_, rfl⟩
      rw [← hm]
      rw [← hm] at hl2
      obtain ⟨w3, hw3, ho3, hb3, hs3⟩ := boxed w2 #[.int .u64 P.led.first, .int .u64 P.led.next, .slice A2 m c2] 34
      obtain ⟨q, hq⟩ : ∃ q, q = w2.heap.size := ⟨_, rfl⟩
      rw [← hq] at hb3
      have ho23 := ho2.quiet_trans ho3
      have hlen : P.led.dests.length = m := by rw [← hds, List.length_map, hm]
      have HL3 := Lib.hid (And.intro (hl2.quiet ho3) (And.intro hb3 hlen))
      have HP3 := Lib.hid (HP.out.quiet ho23)
      have HO3 := Lib.hid (HO.out.quiet_trans ho23)
      have HROW3 := Lib.hid (ho23.row HROW.out (fun _ _ x => x))
      obtain ⟨mb, hmb⟩ : ∃ mb, mb = Bt.length := ⟨_, rfl⟩
      rw [← hmb]
      have HMB := Lib.hid hmb
      clear hl2 hd2 hds hm ho2 ho3 hb3 hs3 HLE hlen ho23 hmb
      go_wp2_with fail
      rw [← hw3, ← hq]
      clear hw3 hq
      go_loopg [15] m (fun gg s15 wr => ∃ i g0 : Nat, g0 = gg ∧ i + g0 = m ∧ s15 = .int .i64 i ∧ Off None w3 wr)
      case atStart => exact ⟨0, m, rfl, by omega, rfl, Off.refl _ _⟩
      case round =>
        obtain ⟨i, g0, hg0, hi, rfl, hov⟩ := hrel
        have HG0' := Lib.hid hg0
        have HOV := Lib.hid hov
        have hqv := hov.at_ HL3.out.2.1 (fun x => x)
        have v0 := Heap.cell hqv 0
        have v1 := Heap.cell hqv 1
        have v2 := Heap.cell hqv 2
        clear hg0 hqv
        by_cases him : i < m
        · have hlv := HL3.out.1.quiet hov
          have hlv' := hlv
          obtain ⟨sv', ds', ee, hds', hd', _, _⟩ := hlv'
          have hsv : sv' = .slice A2 m c2 := by
            injection ee with ee
            injection ee with ee
            injection ee with _ ee
            injection ee with _ ee
            injection ee with ee _
            exact ee.symm
          subst hsv
          obtain ⟨bb, off, dd, B7, cb, rfl, hmc, hcm, hml, _, _, hdd, _, ⟨x0, _⟩⟩ := hd'.at_ him
          have hdP : P.led.dests[i]? = some dd := by rw [← hds', List.getElem?_map, hdd]; rfl
          have hpn : P.led.pending dd.name = LedgerV.pendingOf dd P.led.next := by
            unfold LedgerV.pending
            rw [find_at HP3.out.good.right.apart hdP]
          have hpl : (LedgerV.pendingOf dd P.led.next).length ≤ 100 := by
            have h1 := pend_len P.led dd.name
            rw [hpn] at h1
            have h2 := HP3.out.good.next
            have h3 := HP3.out.end_
            omega
          have hpin : ∀ z ∈ LedgerV.pendingOf dd P.led.next, P.led.first ≤ z ∧ z < act.end_ := fun z hz => HP3.out.good.pend_in (List.mem_of_getElem? hdP) hz
          have hpe := fun W (hW : Off None wr W) => pending_any W _ _ P.led (hlv.quiet hW) (fun x hx => (HP3.out.good.right.each x hx).2.rising) dd.name
          rw [hpn] at hpe
          generalize LedgerV.pendingOf dd P.led.next = pl at hpe hpl hpin
          have HPE := Lib.hid hpe
          have HPIN := Lib.hid hpin
          have hi0 : (0 : Int) ≤ (i : Int) := by omega
          have hi1 : (i : Int) < (m : Int) := by omega
          have hcm' : c2 ≤ 9223372036854775807 := by unfold maxLen at hcm; exact hcm
          clear ee hds' hd' hdd hdP hml hpn hlv hpe hpin hov hcm
          go_upto_region 18 with fail
          go_cut [16] from 89 to 130 (fun v wx => wx.ownsRow 0 31 1 v pl.length (numCells pl) ∧ Off None wr wx)
          case first =>
            go_region_held3 (fun W => (W.cell? ⟨q, 0, none⟩ = some (.int .u64 P.led.first) ∧ W.cell? ⟨q, 1, none⟩ = some (.int .u64 P.led.next) ∧ W.cell? ⟨q, 2, none⟩ = some (.slice (some ⟨bb, off, none⟩) m c2)) ∧ W.cell? ⟨bb, off + i * 7, none⟩ = some (.string dd.name))
              (first | exact ⟨⟨v0, v1, v2⟩, x0⟩ | exact d6)
              (first
                | (go_at_call 20; refine (HPE.out _ ((Off.refl None wr).drew)).mono ?_; rintro e w6 ⟨v6, rfl, hown6, ho6⟩; have ho26 : Off None wr w6 := ((Off.refl None wr).drew).quiet_trans ho6; have d6 : (w6.cell? ⟨q, 0, none⟩ = some (.int .u64 P.led.first) ∧ w6.cell? ⟨q, 1, none⟩ = some (.int .u64 P.led.next) ∧ w6.cell? ⟨q, 2, none⟩ = some (.slice (some ⟨bb, off, none⟩) m c2)) ∧ w6.cell? ⟨bb, off + i * 7, none⟩ = some (.string dd.name) := ⟨⟨ho26.stay v0 (fun x => x), ho26.stay v1 (fun x => x), ho26.stay v2 (fun x => x)⟩, ho26.stay x0 (fun x => x)⟩))
            all_goals
              go_wp2_with fail
              go_meet
              exact ⟨own_mono hown6 (Nat.zero_le _), ho26⟩
          case rest =>
            obtain ⟨hown, hoc⟩ := hcut
            obtain ⟨A16, c16, hv16⟩ := own_form hown
            subst hv16
            have HOWN := Lib.hid hown
            have HOC := Lib.hid (HOV.out.quiet_trans hoc)
            obtain ⟨np, hnp⟩ : ∃ np, np = pl.length := ⟨_, rfl⟩
            rw [← hnp] at hpl ⊢
            have HNP := Lib.hid hnp
            clear hown hoc HPE v0 v1 v2 x0 hnp
            go_wp2_with fail
            go_loopg [17] np (fun gg s17 wr => ∃ k2 g1 : Nat, g1 = gg ∧ k2 + g1 = np ∧ s17 = .int .i64 k2 ∧ Off None wc wr)
            case atStart => exact ⟨0, np, rfl, by omega, rfl, Off.refl _ _⟩
            case round =>
              obtain ⟨k2, g1, hg1, hk2, rfl, hor⟩ := hrel
              have HG1 := Lib.hid hg1
              have HOR := Lib.hid hor
              clear hg1
              by_cases hkn2 : k2 < np
              · have hklt : k2 < pl.length := by rw [← HNP.out]; exact hkn2
                obtain ⟨g16, cp16, hv, _, _⟩ := HOWN.out.form (by omega)
                cases hv
                have hcc : pl.length ≤ c16 ∧ c16 ≤ maxLen := by
                  rcases HOWN.out.2 with ⟨hv, _⟩ | ⟨g', cap', cur, hv, _, hblk, hcc, hmx, _⟩
                  · cases hv
                  · cases hv; exact ⟨hcc, hmx⟩
                have hown' := hor.row HOWN.out (fun _ _ x => x)
                obtain ⟨z, hz⟩ : ∃ z, z = pl[k2] := ⟨_, rfl⟩
                have ez : wr.cell? ⟨g16, k2, none⟩ = some (.int .u64 z) := by
                  have h1 := hown'.cells (g := g16) rfl k2 (.int .u64 z) (by unfold numCells; rw [List.getElem?_map, List.getElem?_eq_getElem hklt, hz]; rfl)
                  rw [Addr.add_lit, Nat.zero_add] at h1
                  exact h1
                obtain ⟨hz1, hz2⟩ := HPIN.out z (by rw [hz]; exact List.getElem_mem hklt)
                have hgot := HSH.out.got HP3.out.good hz1 hz2
                have hzb : z < Bt.length := by
                  obtain ⟨_, h1, _⟩ := HSH.out.has z hz1 hz2
                  exact (List.getElem?_eq_some_iff.1 h1).1
                have hob : Bt.length ≤ 2000 := by have := HSH.out.len; have := HP3.out.end_; omega
                have hget := (HP3.out.quiet (HOC.out.quiet_trans hor)).get z (by have := HP3.out.end_; omega)
                rw [hgot] at hget
                dsimp only at hget
                have hgt2 := fun W (hW : Off None wr W) => get_any W 0 _ Bt z (hW.row (hor.row (HOC.out.row HROW3.out (fun _ _ x => x)) (fun _ _ x => x)) (fun _ _ x => x)) hzb hob
                rw [← HMB.out] at hgt2
                generalize getV Bt z = tx at hget hgt2
                have HGET := Lib.hid hget
                have HGT2 := Lib.hid hgt2
                have hk0 : (0 : Int) ≤ (k2 : Int) := by omega
                have hk1 : (k2 : Int) < (np : Int) := by omega
                obtain ⟨hc1, hc2⟩ := hcc
                rw [← HNP.out] at hc1
                unfold maxLen at hc2
                clear hown' hz hz1 hz2 hgot hzb hob hget hgt2 hor hklt
                go_wp2_with fail
                refine HGET.out.mono ?_
                rintro e w7 ⟨rfl, ho7⟩
                have ez7 := ho7.stay ez (fun x => x)
                have HO7 := Lib.hid ho7
                clear ho7 HGET ez
                go_wp2_with fail
                refine (HGT2.out w7 HO7.out).mono ?_
                rintro e w8 ⟨rfl, ho8⟩
                have HO8 := Lib.hid (HO7.out.quiet_trans ho8)
                clear ho8 ez7
                go_wp2_with fail
                go_roundg (g1 - 1)
                case measure => have := HG1.out; omega
                case rel => exact ⟨k2 + 1, g1 - 1, rfl, by omega, by go_num, HOR.out.quiet_trans HO8.out⟩
              · have hkn2' : k2 = np := by omega
                subst hkn2'
                clear hor hkn2
                go_wp2_with fail
                go_roundg (g0 - 1)
                case measure => have := HG0'.out; omega
                case rel => exact ⟨i + 1, g0 - 1, rfl, by omega, by go_num, HOC.out.quiet_trans HOR.out⟩
        · have him' : i = m := by omega
          subst him'
          clear him
          go_wp2_with fail
          go_ret
          exact ⟨rfl, off_belowS (HO3.out.quiet_trans hov)⟩
end LawS
end Go.Proofs.YtndgnlblbjpogaaGreatDoor
