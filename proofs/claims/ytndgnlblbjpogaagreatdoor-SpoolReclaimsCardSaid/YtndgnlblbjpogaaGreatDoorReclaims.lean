/- The walk of SpoolReclaims. -/
import Derived.Test.YtndgnlblbjpogaaGreatDoorPlayR
namespace Go.Proofs.YtndgnlblbjpogaaGreatDoor
open Go Go.RowKit Go.Shelf Go.Sort Led
/-- A ledger that a law holds in a box of its own. -/
structure LedBox (w : World) (q : Nat) (l : LedgerV) (A : Option Addr) (m c : Nat) (S : Nat → Prop) : Prop where
  box : w.heap[q]? = some (.cells #[.int .u64 l.first, .int .u64 l.next, .slice A m c] 34 (0, 0))
  at_ : LedgerAt w S (.agg #[.int .u64 l.first, .int .u64 l.next, .slice A m c]) l
  len : l.dests.length = m
  inQ : S q
namespace LedBox
variable {w w' : World} {q m c : Nat} {l : LedgerV} {A : Option Addr} {S G : Nat → Prop}
theorem off (h : LedBox w q l A m c S) (ho : Off G w w') (hG : ∀ b, S b → ¬ G b) : LedBox w' q l A m c S := ⟨ho.at_ h.box (hG q h.inQ), h.at_.off ho (fun b x _ => hG b x), h.len, h.inQ⟩
theorem quiet (h : LedBox w q l A m c S) (ho : Off None w w') : LedBox w' q l A m c S := h.off ho fun _ _ x => x
theorem cells (h : LedBox w q l A m c S) : w.cell? ⟨q, 0, none⟩ = some (.int .u64 l.first) ∧ w.cell? ⟨q, 1, none⟩ = some (.int .u64 l.next) ∧ w.cell? ⟨q, 2, none⟩ = some (.slice A m c) := ⟨Heap.cell h.box 0, Heap.cell h.box 1, Heap.cell h.box 2⟩
theorem dest (h : LedBox w q l A m c S) {i : Nat} (hi : i < m) : ∃ bb off x, A = some ⟨bb, off, none⟩ ∧ S bb ∧ m ≤ c ∧ c ≤ 9223372036854775807 ∧ l.dests[i]? = some x ∧
    w.cell? ⟨bb, off + i * 7, none⟩ = some (.string x.name) ∧ w.cell? ⟨bb, off + i * 7 + 2, none⟩ = some (.int .u64 x.low) ∧ w.cell? ⟨bb, off + i * 7 + 5, none⟩ = some (.int .u64 x.evicted) := by
  obtain ⟨sv', ds', ee, hds', hd', _, _⟩ := h.at_
  have hsv : sv' = .slice A m c := by
    injection ee with ee
    injection ee with ee
    injection ee with _ ee
    injection ee with _ ee
    injection ee with ee _
    exact ee.symm
  subst hsv
  obtain ⟨bb, off, dd, B7, cb, e, hmc, hcm, _, hsb, _, hdd, _, ⟨x0, _, x2, _, _, x5, _⟩⟩ := hd'.at_ hi
  exact ⟨bb, off, dd, e, hsb, hmc, by unfold maxLen at hcm; exact hcm, by rw [← hds', List.getElem?_map, hdd]; rfl, x0, x2, x5⟩
end LedBox
theorem led_boxed {w1 w2 : World} {lv : Value} {l : LedgerV} (hl : LedgerAt w2 (fun b => w1.heap.size ≤ b) lv l) (ho : Off None w1 w2) : ∃ A m c w3 q, lv = .agg #[.int .u64 l.first, .int .u64 l.next, .slice A m c] ∧
    w3 = w2.alloc (.cells #[.int .u64 l.first, .int .u64 l.next, .slice A m c] 34) ∧ q = w2.heap.size ∧ Off None w1 w3 ∧ LedBox w3 q l A m c (fun b => w1.heap.size ≤ b ∧ b < w3.heap.size) := by
  have hl' := hl
  obtain ⟨sv, ds, rfl, hds, hd, _, _⟩ := hl'
  obtain ⟨A, c, rfl⟩ := hd.row.form
  obtain ⟨w3, hw3, ho3, hb3, hs3⟩ := boxed w2 #[.int .u64 l.first, .int .u64 l.next, .slice A ds.length c] 34
  have h1 := ho.size
  exact ⟨A, ds.length, c, w3, w2.heap.size, rfl, hw3, rfl, ho.quiet_trans ho3, ⟨hb3, (hl.quiet ho3).mono (fun b x hb => ⟨x, hb⟩), by rw [← hds, List.length_map], ⟨h1, by omega⟩⟩⟩
/-- What stands of the destinations when the first i have all. -/
structure Acked (nx i : Nat) (l0 l : List DestV) : Prop where
  len : l.length = l0.length
  each : ∀ j x, l[j]? = some x → ∃ y, l0[j]? = some y ∧ x.evicted = y.evicted ∧ (j < i → x.low = nx) ∧ (i ≤ j → x = y)
namespace Acked
variable {nx i : Nat} {l0 l : List DestV} {x : DestV}
theorem at_ (h : Acked nx i l0 l) (hx : l0[i]? = some x) : l[i]? = some x ∧ l = l.set i x := by
  have hi : i < l.length := by rw [h.len]; exact (List.getElem?_eq_some_iff.1 hx).1
  obtain ⟨y, e, _, _, hy⟩ := h.each i _ (List.getElem?_eq_getElem hi)
  have e1 : y = x := Option.some.inj (e.symm.trans hx)
  have e2 : l[i] = x := (hy (Nat.le_refl _)).trans e1
  refine ⟨by rw [List.getElem?_eq_getElem hi, e2], ?_⟩
  rw [← e2, List.set_getElem_self]
theorem step (h : Acked nx i l0 l) (hx : l0[i]? = some x) {y : DestV} (he : y.evicted = x.evicted) (hl : y.low = nx) : Acked nx (i + 1) l0 (l.set i y) := by
  refine ⟨by rw [List.length_set]; exact h.len, fun j z hz => ?_⟩
  by_cases hij : i = j
  · subst hij
    rw [List.getElem?_set_self (by rw [h.len]; exact (List.getElem?_eq_some_iff.1 hx).1)] at hz
    obtain rfl := Option.some.inj hz
    exact ⟨x, hx, he, fun _ => hl, fun h1 => absurd h1 (by omega)⟩
  · rw [List.getElem?_set_ne hij] at hz
    obtain ⟨q, e, h1, h2, h3⟩ := h.each j z hz
    exact ⟨q, e, h1, fun hj => h2 (by omega), fun hj => h3 (by omega)⟩
theorem all (h : Acked nx i l0 l) (hi : l0.length ≤ i) {y : DestV} (hy : y ∈ l) : y.low = nx := by
  obtain ⟨j, hj, rfl⟩ := List.mem_iff_getElem.1 hy
  obtain ⟨_, _, _, h2, _⟩ := h.each j _ (List.getElem?_eq_getElem hj)
  exact h2 (by have := h.len; omega)
end Acked
namespace LawS
set_option maxHeartbeats 2000000 in
set_option maxRecDepth 100000 in
theorem reclaims_walk (w : World) (b s : Int) (p : Option Addr) (l cap : Nat) (T : Nat → ActV) (hb : I64 b) (hs : I64 s) (hT : ActsAt w p l T) (hok : ∀ i, i < l → (T i).Ok) (hl : l ≤ 9223372036854775807) (hG : Glob w.heap.size w) :
    Calls Tryz.prog 4 #[.int .i64 b, .int .i64 s, .slice p l cap] w fun e w' => e = .returned (.bool true) ∧ Below w.heap.size w w' := by
  obtain ⟨P0, hg0, _, hsg0, _, _, hbg⟩ := begun_any 100 (by omega) b s hb hs
  have hs2 := pickN_lt s (n := 2000) (by omega)
  have HT := Lib.hid (And.intro hT hok)
  have HBG := Lib.hid hbg
  have HG := Lib.hid hG
  have HG0 := Lib.hid (And.intro hg0 (show P0.segm ≤ 2000 by rw [hsg0]; omega))
  clear hT hok hG hbg hg0 hsg0 hs2
  go_enter Tryz.func4, Tryz.ntmps4
  go_wp2_with fail
  refine (shown_any w w.heap.size (Nat.le_refl _) HG.out).mono ?_
  rintro e w0 ⟨rfl, ho0⟩
  have HO0 := Lib.hid ho0
  clear ho0
  go_wp2_with fail
  refine (HBG.out w0 w.heap.size HO0.out.size (HG.out.none HO0.out)).mono ?_
  rintro e w1 ⟨d, sp, rfl, hsh, ho1⟩
  have HO1 := Lib.hid (HO0.out.quiet_trans ho1)
  have HS1 := Lib.hid hsh
  clear hsh ho1 HO0 HBG
  by_cases h60 : (60 : Int) < (l : Int)
  · go_wp2_with fail
    go_ret
    exact ⟨rfl, off_belowS (HO1.out.mono (fun _ _ x => x.elim))⟩
  have hl60 : l ≤ 60 := by omega
  go_wp2_with fail
  go_loopg [10] l (fun gg s10 wr => ∃ k g0 : Nat, g0 = gg ∧ k + g0 = l ∧ s10 = .int .i64 k ∧ Aside (∃ P full act ck, Play w.heap.size k (fun _ => False) wr sp d P full act ck ∧ Fits P act ∧ P.segm ≤ 2000 ∧ Off (fun b => w.heap.size ≤ b) w wr))
  case atStart => exact ⟨0, l, rfl, by omega, rfl, P0, [], ⟨1, []⟩, none, ⟨HS1.out, HG0.out.1, Nat.le_refl _⟩, .inl (Nat.zero_le _), HG0.out.2, HO1.out.mono (fun _ _ x => x.elim)⟩
  case round =>
    obtain ⟨k, g0, hgg, hk, rfl, I⟩ := hrel
    obtain ⟨P, full, act, ck, hp, hft, hsg, ho⟩ := I.out
    have HGG := Lib.hid hgg
    have HP := Lib.hid hp
    have HO := Lib.hid ho
    have HFT := Lib.hid (And.intro hft hsg)
    clear hgg hp ho I HS1 HG0 hft hsg
    by_cases hkl : k < l
    · obtain ⟨a, hpa, c0, c1, c2, c3⟩ := HT.out.1 k hkl
      subst hpa
      have e0 := HO.out.stay c0 (fun x => by have h1 := Heap.block_lt c0; have h2 : w.heap.size ≤ _ := x; omega)
      have e1 := HO.out.stay c1 (fun x => by have h1 := Heap.block_lt c1; have h2 : w.heap.size ≤ _ := x; omega)
      have e2 := HO.out.stay c2 (fun x => by have h1 := Heap.block_lt c2; have h2 : w.heap.size ≤ _ := x; omega)
      have e3 := HO.out.stay c3 (fun x => by have h1 := Heap.block_lt c3; have h2 : w.heap.size ≤ _ := x; omega)
      have hrun := HP.out.run_fits (by omega) (T k) (HT.out.2 k hkl) HFT.out.1 HFT.out.2
      unfold actAgg at hrun
      have HRUN := Lib.hid hrun
      have hi0 : (0 : Int) ≤ (k : Int) := by omega
      have hi1 : (k : Int) < (l : Int) := by omega
      clear c0 c1 c2 c3 hrun
      go_wp2_with fail
      refine HRUN.out.mono ?_
      rintro e w2 ⟨rfl, ⟨P', f', a', c', hp2, hf2, hs2⟩, ho2⟩
      have HP2 := Lib.hid (And.intro hp2 (And.intro hf2 (And.intro hs2 (HO.out.trans ho2 (fun b _ x => x.1)))))
      clear hp2 hf2 hs2 ho2 HRUN HP HO e0 e1 e2 e3
      go_wp2_with fail
      go_roundg (g0 - 1)
      case measure => have := HGG.out; omega
      case rel => exact ⟨k + 1, g0 - 1, rfl, by omega, by go_num, P', f', a', c', HP2.out.1, HP2.out.2.1, HP2.out.2.2.1, HP2.out.2.2.2⟩
    · have hkn : k = l := by omega
      subst hkn
      clear hkl
      have HLE := Lib.hid HP.out.held.ledger
      go_wp2_with fail
      refine HLE.out.mono ?_
      rintro e w2 ⟨lv, rfl, hl2, ho2⟩
      obtain ⟨A1, m, c1, w3, q1, rfl, hw3, hq1, ho3, hL1⟩ := led_boxed hl2 ho2
      obtain ⟨S1, hS1⟩ : ∃ S1 : Nat → Prop, S1 = fun b => wr.heap.size ≤ b ∧ b < w3.heap.size := ⟨_, rfl⟩
      rw [← hS1] at hL1
      have hp3 : Play w.heap.size k S1 w3 sp d P full act ck := HP.out.fresh ho3 (fun b hb => by rw [hS1] at hb; exact .inr hb)
      have HRC := Lib.hid (hp3.reclaim (by omega))
      have HL1 := Lib.hid hL1
      have HO3 := Lib.hid (HO.out.quiet_trans ho3)
      clear hl2 ho2 ho3 hL1 hp3 HLE hS1
      go_wp2_with fail
      rw [← hw3, ← hq1]
      clear hw3 hq1
      refine HRC.out.mono ?_
      rintro e w4 ⟨rfl, ⟨P1, f1, ck1, hp4, hv4, hd4, _⟩, ho4⟩
      have HL4 := Lib.hid (HL1.out.off ho4 (fun b x y => y.2 x))
      have HO4 := Lib.hid (HO3.out.trans ho4 (fun b _ x => x.1))
      have HSY := Lib.hid hp4.sync2
      have H4 := Lib.hid (And.intro hd4 (And.intro hv4.next hv4.segm))
      clear hp4 hv4 hd4 ho4 HL1 HRC
      go_wp2_with fail
      refine HSY.out.mono ?_
      rintro e w5 ⟨rfl, P2, hp5, hdu5, hl5, hsg5, ho5⟩
      have HL5 := Lib.hid (HL4.out.off ho5 (fun b x y => y.2 x))
      have HO5 := Lib.hid (HO4.out.trans ho5 (fun b _ x => x.1))
      have HLE := Lib.hid hp5.held.ledger
      have HP5 := Lib.hid hp5
      have hds2 : P2.led.dests = P.led.dests := by rw [hl5]; exact H4.out.1
      have hnx2 : P2.led.next = P.led.next := by rw [hl5]; exact H4.out.2.1
      have hsg2 : P2.segm = P.segm := by rw [hsg5]; exact H4.out.2.2
      have HD2 := Lib.hid (And.intro hds2 (And.intro hnx2 (And.intro hdu5 hsg2)))
      clear hp5 hdu5 hl5 ho5 hds2 hnx2 hsg5 hsg2 HSY HL4
      go_wp2_with fail
      refine HLE.out.mono ?_
      rintro e w6 ⟨lv6, rfl, hl6, ho6⟩
      obtain ⟨A2, m2, c2, w7, q2, rfl, hw7, hq2, ho7, hL2⟩ := led_boxed hl6 ho6
      have hm2 : m2 = m := by rw [← hL2.len, HD2.out.1]; exact HL5.out.len
      subst hm2
      obtain ⟨B, hB⟩ : ∃ B : Nat → Prop, B = fun b => S1 b ∨ (w5.heap.size ≤ b ∧ b < w7.heap.size) := ⟨_, rfl⟩
      have hp7 : Play w.heap.size (k + 1) B w7 sp d P2 f1 act ck1 := HP5.out.fresh ho7 (fun b hb => by rw [hB] at hb; exact hb)
      have hB1 : ∀ b, S1 b → B b := fun b x => by rw [hB]; exact .inl x
      have hB2 : ∀ b, w5.heap.size ≤ b ∧ b < w7.heap.size → B b := fun b x => by rw [hB]; exact .inr x
      have HBS := Lib.hid (And.intro hB1 hB2)
      have HL7 := Lib.hid (And.intro (HL5.out.quiet ho7) hL2)
      have HP7 := Lib.hid hp7
      have HO7 := Lib.hid (HO5.out.quiet_trans ho7)
      have hff := hp7.free_first
      have hfr : ¬ P2.led.free < P2.led.first := by omega
      have hfd : decide (P2.led.free < P2.led.first) = false := decide_eq_false hfr
      obtain ⟨v0, v1, v2⟩ := hL2.cells
      obtain ⟨u0, u1, u2⟩ := (HL5.out.quiet ho7).cells
      have cF : ∀ dd os, Calls Tryz.prog 19 #[.agg #[.int .u64 P2.led.first, .int .u64 P2.led.next, .slice A2 m2 c2]] (grow (redrawn w7 dd) os) fun e w'' => e = .returned (.int .u64 P2.led.free) ∧ ∃ p : Regrown, w'' = grow (redrawn w7 p.d) p.os := fun dd os =>
        Calls.quietly (free_any _ _ _ P2.led (hL2.at_.quiet (Off.of_below (below_regrown w7 dd os) : Off None w7 _)))
      have kv0 := cell_regrown v0
      have kv1 := cell_regrown v1
      have kv2 := cell_regrown v2
      have ku2 := cell_regrown u2
      clear hl6 ho6 ho7 hL2 hp7 hB hB1 hB2 HL5 HP5 HLE hff v0 v1 v2 u0 u1 u2
      go_wp2_with fail
      rw [← hw7, ← hq2]
      clear hw7 hq2
      go_wp2_with fail
      refine wp_region_quiet_below (by kernel_rfl) (by kernel_rfl) ?_
      repeat (quiet_step (first | exact cF _ _))
      refine wpQuiet_nil ?_
      intro w8 hw'
      have ho8 : Off None w7 w8 := by
        obtain ⟨⟨dq, osq⟩, rfl⟩ := hw'
        exact Off.of_below (below_regrown w7 dq osq)
      have HO8 := Lib.hid ho8
      have HO8' := Lib.hid (HO7.out.quiet_trans ho8)
      clear hw' cF kv0 kv1 kv2 ku2 hfr hfd ho8
      go_wp2_with fail
      go_loopg [13] m2 (fun gg s13 wr => ∃ i g0 : Nat, g0 = gg ∧ i + g0 = m2 ∧ s13 = .int .i64 i ∧ Aside (∃ Q, Play w.heap.size (k + 1) B wr sp d Q f1 act ck1 ∧ Q.log.durable.end_ = act.end_ ∧ Q.segm = P.segm ∧ Q.led.next = P.led.next ∧ Acked P.led.next i P.led.dests Q.led.dests ∧ Off (Spare w.heap.size B) w8 wr))
      case atStart => exact ⟨0, m2, rfl, by omega, rfl, P2, HP7.out.quiet HO8.out, HD2.out.2.2.1, HD2.out.2.2.2, HD2.out.2.1, ⟨by rw [HD2.out.1], fun j x hx => ⟨x, by rw [← HD2.out.1]; exact hx, rfl, fun y => by omega, fun _ => rfl⟩⟩, Off.refl _ _⟩
      case round =>
        obtain ⟨i, g0, hg0, hi, rfl, J⟩ := hrel
        obtain ⟨Q, hpq, hdq, hsq, hnq, hak, hov⟩ := J.out
        have HG0' := Lib.hid hg0
        have HPQ := Lib.hid hpq
        have HAK := Lib.hid (And.intro hdq (And.intro hsq (And.intro hnq hak)))
        have HOV := Lib.hid hov
        have hl1 := (HL7.out.1.quiet HO8.out).off hov (fun b x y => y.2 (HBS.out.1 b x))
        have hl2 := (HL7.out.2.quiet HO8.out).off hov (fun b x y => y.2 (HBS.out.2 b x))
        have HL1 := Lib.hid hl1
        have HL2 := Lib.hid hl2
        obtain ⟨v0, v1, v2⟩ := hl2.cells
        obtain ⟨u0, u1, u2⟩ := hl1.cells
        clear hg0 hpq hdq hsq hnq hak hov J
        by_cases him : i < m2
        · obtain ⟨b2, off2, x2, rfl, hsb2, hmc2, hcm2, hx2, n2, lo2, ev2⟩ := hl2.dest him
          obtain ⟨b1, off1, x1, rfl, hsb1, hmc1, hcm1, hx1, n1, lo1, ev1⟩ := hl1.dest him
          have hxx : x2 = x1 := by
            rw [HD2.out.1, hx1] at hx2
            exact (Option.some.inj hx2).symm
          subst hxx
          have hpn1 : P.led.pending x2.name = LedgerV.pendingOf x2 P.led.next := by
            unfold LedgerV.pending
            rw [find_at HP.out.good.right.apart hx1]
          have hpn2 : P2.led.pending x2.name = LedgerV.pendingOf x2 P.led.next := by
            unfold LedgerV.pending
            rw [find_at HP7.out.good.right.apart hx2, ← HD2.out.2.1]
          have hpl : (LedgerV.pendingOf x2 P.led.next).length ≤ 100 := by
            have h1 := pend_len P.led x2.name
            rw [hpn1] at h1
            have h2 := HP.out.good.next
            have h3 := HP.out.end_
            omega
          have hpe1 := fun W (hW : Off None wr W) => pending_any W _ _ P.led (hl1.at_.quiet hW) (fun x hx => (HP.out.good.right.each x hx).2.rising) x2.name
          have hpe2 := fun W (hW : Off None wr W) => pending_any W _ _ P2.led (hl2.at_.quiet hW) (fun x hx => (HP7.out.good.right.each x hx).2.rising) x2.name
          rw [hpn1] at hpe1
          rw [hpn2] at hpe2
          obtain ⟨pl, hpd⟩ : ∃ pl, pl = LedgerV.pendingOf x2 P.led.next := ⟨_, rfl⟩
          rw [← hpd] at hpe1 hpe2 hpl
          have HPE1 := Lib.hid hpe1
          have HPE2 := Lib.hid hpe2
          have HPD := Lib.hid (And.intro hpd (And.intro hx1 hx2))
          obtain ⟨np, hnp⟩ : ∃ np, np = pl.length := ⟨_, rfl⟩
          have HNP := Lib.hid hnp
          have hi0 : (0 : Int) ≤ (i : Int) := by omega
          have hi1 : (i : Int) < (m2 : Int) := by omega
          have hne : ((x2.evicted : Int) != (x2.evicted : Int)) = false := by simp
          have hne2 : ((np : Int) != (np : Int)) = false := by simp
          clear hl1 hl2 hpn1 hpn2 hpe1 hpe2 hpd hx1 hx2 lo1 lo2 hnp
          go_upto_region 18 with fail
          go_cut [123] from 83 to 150 (fun v wx => v = .bool false ∧ Off None wr wx)
          case first =>
            go_region_held3 (fun W => ((W.cell? ⟨q2, 0, none⟩ = some (.int .u64 P2.led.first) ∧ W.cell? ⟨q2, 1, none⟩ = some (.int .u64 P2.led.next) ∧ W.cell? ⟨q2, 2, none⟩ = some (.slice (some ⟨b2, off2, none⟩) m2 c2)) ∧ (W.cell? ⟨q1, 0, none⟩ = some (.int .u64 P.led.first) ∧ W.cell? ⟨q1, 1, none⟩ = some (.int .u64 P.led.next) ∧ W.cell? ⟨q1, 2, none⟩ = some (.slice (some ⟨b1, off1, none⟩) m2 c1)) ∧ W.cell? ⟨b2, off2 + i * 7, none⟩ = some (.string x2.name) ∧ W.cell? ⟨b2, off2 + i * 7 + 5, none⟩ = some (.int .u64 x2.evicted) ∧ W.cell? ⟨b1, off1 + i * 7 + 5, none⟩ = some (.int .u64 x2.evicted)))
              (first | exact ⟨⟨v0, v1, v2⟩, ⟨u0, u1, u2⟩, n2, ev2, ev1⟩ | exact dw7 | exact dw6)
              (first
                | (go_at_call 20; refine (HPE1.out _ ho46).mono ?_; rintro e w7 ⟨v7, rfl, hown7, ho7⟩; obtain ⟨A7, c7, rfl⟩ := own_form hown7; have ho47 : Off None wr w7 := ho46.quiet_trans ho7; have dw7 : ((w7.cell? ⟨q2, 0, none⟩ = some (.int .u64 P2.led.first) ∧ w7.cell? ⟨q2, 1, none⟩ = some (.int .u64 P2.led.next) ∧ w7.cell? ⟨q2, 2, none⟩ = some (.slice (some ⟨b2, off2, none⟩) m2 c2)) ∧ (w7.cell? ⟨q1, 0, none⟩ = some (.int .u64 P.led.first) ∧ w7.cell? ⟨q1, 1, none⟩ = some (.int .u64 P.led.next) ∧ w7.cell? ⟨q1, 2, none⟩ = some (.slice (some ⟨b1, off1, none⟩) m2 c1)) ∧ w7.cell? ⟨b2, off2 + i * 7, none⟩ = some (.string x2.name) ∧ w7.cell? ⟨b2, off2 + i * 7 + 5, none⟩ = some (.int .u64 x2.evicted) ∧ w7.cell? ⟨b1, off1 + i * 7 + 5, none⟩ = some (.int .u64 x2.evicted)) := ⟨⟨ho47.stay v0 (fun x => x), ho47.stay v1 (fun x => x), ho47.stay v2 (fun x => x)⟩, ⟨ho47.stay u0 (fun x => x), ho47.stay u1 (fun x => x), ho47.stay u2 (fun x => x)⟩, ho47.stay n2 (fun x => x), ho47.stay ev2 (fun x => x), ho47.stay ev1 (fun x => x)⟩)
                | (go_at_call 20; refine (HPE2.out _ ((Off.refl None wr).drew)).mono ?_; rintro e w6 ⟨v6, rfl, hown6, ho6⟩; obtain ⟨A6, c6, rfl⟩ := own_form hown6; have ho46 : Off None wr w6 := ((Off.refl None wr).drew).quiet_trans ho6; have dw6 : ((w6.cell? ⟨q2, 0, none⟩ = some (.int .u64 P2.led.first) ∧ w6.cell? ⟨q2, 1, none⟩ = some (.int .u64 P2.led.next) ∧ w6.cell? ⟨q2, 2, none⟩ = some (.slice (some ⟨b2, off2, none⟩) m2 c2)) ∧ (w6.cell? ⟨q1, 0, none⟩ = some (.int .u64 P.led.first) ∧ w6.cell? ⟨q1, 1, none⟩ = some (.int .u64 P.led.next) ∧ w6.cell? ⟨q1, 2, none⟩ = some (.slice (some ⟨b1, off1, none⟩) m2 c1)) ∧ w6.cell? ⟨b2, off2 + i * 7, none⟩ = some (.string x2.name) ∧ w6.cell? ⟨b2, off2 + i * 7 + 5, none⟩ = some (.int .u64 x2.evicted) ∧ w6.cell? ⟨b1, off1 + i * 7 + 5, none⟩ = some (.int .u64 x2.evicted)) := ⟨⟨ho46.stay v0 (fun x => x), ho46.stay v1 (fun x => x), ho46.stay v2 (fun x => x)⟩, ⟨ho46.stay u0 (fun x => x), ho46.stay u1 (fun x => x), ho46.stay u2 (fun x => x)⟩, ho46.stay n2 (fun x => x), ho46.stay ev2 (fun x => x), ho46.stay ev1 (fun x => x)⟩))
            all_goals
              try go_wp2_with fail
              go_meet
              exact ⟨by simp, ho47⟩
          case rest =>
            obtain ⟨rfl, hoc⟩ := hcut
            have HOC := Lib.hid hoc
            have HN := Lib.hid n2
            clear v0 v1 v2 u0 u1 u2 n2 ev1 ev2 hoc
            obtain ⟨wA, hwA⟩ : ∃ wA, wA = wc := ⟨_, rfl⟩
            subst hwA
            have v0 := HOC.out.stay HL2.out.cells.1 (fun x => x)
            have v1 := HOC.out.stay HL2.out.cells.2.1 (fun x => x)
            have v2 := HOC.out.stay HL2.out.cells.2.2 (fun x => x)
            have n2 := HOC.out.stay HN.out (fun x => x)
            go_upto_region 20 with fail
            go_cut [14] from 83 to 150 (fun v wx => wx.ownsRow wr.heap.size 31 1 v pl.length (numCells pl) ∧ Off None wA wx)
            case first =>
              go_region_held3 (fun W => (W.cell? ⟨q2, 0, none⟩ = some (.int .u64 P2.led.first) ∧ W.cell? ⟨q2, 1, none⟩ = some (.int .u64 P2.led.next) ∧ W.cell? ⟨q2, 2, none⟩ = some (.slice (some ⟨b2, off2, none⟩) m2 c2)) ∧ W.cell? ⟨b2, off2 + i * 7, none⟩ = some (.string x2.name))
                (first | exact ⟨⟨v0, v1, v2⟩, n2⟩ | exact d6)
                (first
                  | (go_at_call 20; refine (HPE2.out _ (HOC.out.quiet_trans ((Off.refl None wA).drew))).mono ?_; rintro e w6 ⟨v6, rfl, hown6, ho6⟩; have ho26 : Off None wA w6 := ((Off.refl None wA).drew).quiet_trans ho6; have hown := own_mono hown6 ((HOC.out.quiet_trans ((Off.refl None wA).drew))).size; have d6 : (w6.cell? ⟨q2, 0, none⟩ = some (.int .u64 P2.led.first) ∧ w6.cell? ⟨q2, 1, none⟩ = some (.int .u64 P2.led.next) ∧ w6.cell? ⟨q2, 2, none⟩ = some (.slice (some ⟨b2, off2, none⟩) m2 c2)) ∧ w6.cell? ⟨b2, off2 + i * 7, none⟩ = some (.string x2.name) := ⟨⟨ho26.stay v0 (fun x => x), ho26.stay v1 (fun x => x), ho26.stay v2 (fun x => x)⟩, ho26.stay n2 (fun x => x)⟩))
              all_goals
                try go_wp2_with fail
                go_meet
                exact ⟨hown, ho26⟩
            case rest =>
              obtain ⟨hown, hoc2⟩ := hcut
              obtain ⟨A14, c14, hv14⟩ := own_form hown
              subst hv14
              obtain ⟨wB, hwB⟩ : ∃ wB, wB = wc := ⟨_, rfl⟩
              subst hwB
              have HOWN := Lib.hid hown
              have HOC2 := Lib.hid (HOC.out.quiet_trans hoc2)
              obtain ⟨B3, hB3⟩ : ∃ B3 : Nat → Prop, B3 = fun b => B b ∨ (wr.heap.size ≤ b ∧ b < wB.heap.size) := ⟨_, rfl⟩
              have HPQ3 := Lib.hid ((HPQ.out.fresh HOC2.out (fun b hb => by rw [hB3] at hb; exact hb)) : Play w.heap.size (k + 1) B3 wB sp d Q f1 act ck1)
              have HB3 := Lib.hid hB3
              have hnp0 := HNP.out
              rw [← hnp0] at hpl ⊢
              clear hown hoc2 hB3 hnp0 v0 v1 v2 n2
              obtain ⟨wO, hwO⟩ : ∃ wO, wO = wr := ⟨_, rfl⟩
              subst hwO
              go_wp2_with fail
              go_loopg [15] np (fun gg s15 wr => ∃ k2 g1 : Nat, g1 = gg ∧ k2 + g1 = np ∧ s15 = .int .i64 k2 ∧ Aside (∃ R x, Play w.heap.size (k + 1) B3 wr sp d R f1 act ck1 ∧ R.log.durable.end_ = act.end_ ∧ R.segm = P.segm ∧ R.led.next = P.led.next ∧ R.led.dests = Q.led.dests.set i x ∧ x.name = x2.name ∧ x.evicted = x2.evicted ∧ LedgerV.pendingOf x P.led.next = pl.drop k2 ∧ Off (Spare w.heap.size B3) wB wr))
              case atStart => exact ⟨0, np, rfl, by omega, rfl, Q, x2, HPQ3.out, HAK.out.1, HAK.out.2.1, HAK.out.2.2.1, (HAK.out.2.2.2.at_ HPD.out.2.1).2, rfl, rfl, HPD.out.1.symm, Off.refl _ _⟩
              case round =>
                obtain ⟨k2, g1, hg1, hk2, rfl, J⟩ := hrel
                obtain ⟨R, x, hpr, hdr, hsr, hnr, hdsr, hxn, hxe, hxp, hor⟩ := J.out
                have HG1 := Lib.hid hg1
                have HOR := Lib.hid hor
                have hxi : R.led.dests[i]? = some x := by
                  rw [hdsr, List.getElem?_set_self]
                  have h1 := HAK.out.2.2.2.len
                  have h2 := (List.getElem?_eq_some_iff.1 HPD.out.2.1).1
                  omega
                have HR := Lib.hid (And.intro hpr (And.intro hdr (And.intro hsr (And.intro hnr (And.intro hdsr (And.intro hxn (And.intro hxe (And.intro hxp hxi))))))))
                clear hg1 J
                by_cases hkn2 : k2 < np
                · have hklt : k2 < pl.length := by rw [← HNP.out]; exact hkn2
                  obtain ⟨g14, cp14, hv, hgb, hgl⟩ := HOWN.out.form (by omega)
                  cases hv
                  have hcc : pl.length ≤ c14 ∧ c14 ≤ maxLen := by
                    rcases HOWN.out.2 with ⟨hv, _⟩ | ⟨g', cap', cur, hv, _, hblk, hcc, hmx, _⟩
                    · cases hv
                    · cases hv; exact ⟨hcc, hmx⟩
                  have bq2 : B3 q2 := by rw [HB3.out]; exact .inl (HBS.out.2 q2 HL2.out.inQ)
                  have bb2 : B3 b2 := by rw [HB3.out]; exact .inl (HBS.out.2 b2 hsb2)
                  have bg14 : B3 g14 := by rw [HB3.out]; exact .inr ⟨hgb, hgl⟩
                  have hown' := hor.row HOWN.out (fun b hb hG => hG.2 (by cases hb; exact bg14))
                  obtain ⟨z, hz⟩ : ∃ z, z = pl[k2] := ⟨_, rfl⟩
                  have ez : wr.cell? ⟨g14, k2, none⟩ = some (.int .u64 z) := by
                    have h1 := hown'.cells (g := g14) rfl k2 (.int .u64 z) (by unfold numCells; rw [List.getElem?_map, List.getElem?_eq_getElem hklt, hz]; rfl)
                    rw [Addr.add_lit, Nat.zero_add] at h1
                    exact h1
                  have y2 := hor.stay (HOC2.out.stay HL2.out.cells.2.2 (fun x => x)) (fun y => y.2 bq2)
                  have yn := hor.stay (HOC2.out.stay HN.out (fun x => x)) (fun y => y.2 bb2)
                  have hpp : LedgerV.pendingOf x R.led.next = z :: pl.drop (k2 + 1) := by rw [hnr, hxp, List.drop_eq_getElem_cons hklt, ← hz]
                  have hct := (hpr.good.right.each x (List.mem_of_getElem? hxi)).2.counted hpp
                  have hack : ∀ W, Off None wr W → Calls Tryz.prog 21 #[.pointer (some ⟨sp, 0, none⟩), .string x2.name, .int .u64 z] W fun e w' => e = .returned (.int .i64 0) ∧ (∃ R', Play w.heap.size (k + 1) B3 w' sp d R' f1 act ck1 ∧ R'.log = R.log ∧ R'.segm = R.segm ∧ R'.led.next = R.led.next ∧ R'.led.dests = R.led.dests.set i (x.counted z R.led.next true)) ∧ Off (Spare w.heap.size B3) W w' := fun W hW => by
                    rw [← hxn]
                    exact (hpr.quiet hW).ack hdr hxi hpp
                  have HACK := Lib.hid hack
                  have HCT := Lib.hid hct
                  have HBB := Lib.hid (And.intro bq2 (And.intro bb2 bg14))
                  have hk0 : (0 : Int) ≤ (k2 : Int) := by omega
                  have hk1 : (k2 : Int) < (np : Int) := by omega
                  obtain ⟨hc1, hc2⟩ := hcc
                  rw [← HNP.out] at hc1
                  unfold maxLen at hc2
                  clear hown' hz hpp hct hack hor hklt bq2 bb2 bg14 hpr hdr hsr hnr hdsr hxn hxe hxp hxi hgb hgl
                  go_upto_region 24 with fail
                  go_cut [150] from 132 to 150 (fun v wx => v = .bool false ∧ (∃ R', Play w.heap.size (k + 1) B3 wx sp d R' f1 act ck1 ∧ R'.log = R.log ∧ R'.segm = R.segm ∧ R'.led.next = R.led.next ∧ R'.led.dests = R.led.dests.set i (x.counted z R.led.next true)) ∧ Off (Spare w.heap.size B3) wr wx)
                  case first =>
                    go_region_held3 (fun W => W.cell? ⟨q2, 2, none⟩ = some (.slice (some ⟨b2, off2, none⟩) m2 c2) ∧ W.cell? ⟨b2, off2 + i * 7, none⟩ = some (.string x2.name) ∧ W.cell? ⟨g14, k2, none⟩ = some (.int .u64 z))
                      (first | exact ⟨y2, yn, ez⟩ | exact d6)
                      (first
                        | (go_at_call 21; refine (HACK.out _ ((Off.refl None wr).drew)).mono ?_; rintro e w6 ⟨rfl, hR6, ho6⟩; have ho26 : Off (Spare w.heap.size B3) wr w6 := ((Off.refl None wr).drew.mono (fun _ _ x => x.elim)).trans ho6 (fun b _ x => x); have d6 : w6.cell? ⟨q2, 2, none⟩ = some (.slice (some ⟨b2, off2, none⟩) m2 c2) ∧ w6.cell? ⟨b2, off2 + i * 7, none⟩ = some (.string x2.name) ∧ w6.cell? ⟨g14, k2, none⟩ = some (.int .u64 z) := ⟨ho26.stay y2 (fun y => y.2 HBB.out.1), ho26.stay yn (fun y => y.2 HBB.out.2.1), ho26.stay ez (fun y => y.2 HBB.out.2.2)⟩))
                    all_goals
                      try go_wp2_with fail
                      go_meet
                      exact ⟨by simp, hR6, ho26⟩
                  case rest =>
                    obtain ⟨rfl, ⟨R', hp6, hl6, hs6, hn6, hd6⟩, ho6⟩ := hcut
                    have HR6 := Lib.hid (And.intro hp6 (And.intro hl6 (And.intro hs6 (And.intro hn6 (And.intro hd6 ho6)))))
                    clear hp6 hl6 hs6 hn6 hd6 ho6 y2 yn ez
                    go_wp2_with fail
                    go_roundg (g1 - 1)
                    case measure => have := HG1.out; omega
                    case rel =>
                      obtain ⟨hp6, hl6, hs6, hn6, hd6, ho6⟩ := HR6.out
                      obtain ⟨hpr, hdr, hsr, hnr, hdsr, hxn, hxe, hxp, hxi⟩ := HR.out
                      obtain ⟨t1, t2, t3, _, _⟩ := HCT.out
                      exact ⟨k2 + 1, g1 - 1, rfl, by omega, by go_num, R', x.counted z R.led.next true, hp6, by rw [hl6]; exact hdr, by rw [hs6]; exact hsr, by rw [hn6]; exact hnr, by rw [hd6, hdsr, List.set_set], t1.trans hxn, t2.trans hxe, by rw [← hnr]; exact t3, HOR.out.trans ho6 (fun b _ x => x)⟩
                · have hkn2' : k2 = np := by omega
                  subst hkn2'
                  have hlow : x.low = P.led.next := by
                    have h1 := (hpr.good.right.each x (List.mem_of_getElem? hxi)).2.low_next (by rw [hnr, hxp, HNP.out]; exact List.drop_length)
                    rw [hnr] at h1
                    exact h1
                  have HLOW := Lib.hid hlow
                  clear hor hkn2 hpr hdr hsr hnr hdsr hxn hxe hxp hxi hlow
                  have w2' := HOC2.out
                  go_wp2_with fail
                  go_roundg (g0 - 1)
                  case measure => have := HG0'.out; omega
                  case rel =>
                    obtain ⟨hpr, hdr, hsr, hnr, hdsr, hxn, hxe, hxp, hxi⟩ := HR.out
                    exact ⟨i + 1, g0 - 1, rfl, by omega, by go_num, R, hpr.less (fun b hb => by rw [HB3.out]; exact .inl hb), hdr, hsr, hnr, by rw [hdsr]; exact HAK.out.2.2.2.step HPD.out.2.1 hxe HLOW.out, (HOV.out.quiet_trans HOC2.out).trans HOR.out (fun b _ x => ⟨x.1, fun y => x.2 (by rw [HB3.out]; exact .inl y)⟩)⟩
        · have him' : i = m2 := by omega
          subst him'
          have hall : ∀ y ∈ Q.led.dests, y.low = Q.led.next := fun y hy => by rw [HAK.out.2.2.1]; exact HAK.out.2.2.2.all (Nat.le_of_eq HL1.out.len) hy
          have HRC := Lib.hid (HPQ.out.reclaim_all (by omega) hall)
          clear hall him hl1 hl2 v0 v1 u0 u1 u2
          go_wp2_with fail
          refine HRC.out.mono ?_
          rintro e w9 ⟨rfl, ⟨P3, ck3, hp9, hdu9, hnx9, hds9, hsg9⟩, ho9⟩
          have HL9 := Lib.hid (HL1.out.off ho9 (fun b x y => y.2 (HBS.out.1 b x)))
          have HLE := Lib.hid hp9.held.ledger
          have HP9 := Lib.hid (And.intro hp9 (And.intro hnx9 (And.intro hds9 hsg9)))
          have HO9 := Lib.hid ((HOV.out.trans ho9 (fun b _ x => x)))
          clear hp9 hdu9 hnx9 hds9 hsg9 ho9 HRC v2
          go_wp2_with fail
          refine HLE.out.mono ?_
          rintro e w10 ⟨lv, rfl, hl10, ho10⟩
          obtain ⟨A3, m3, c3, w11, q3, rfl, hw11, hq3, ho11, hL3⟩ := led_boxed hl10 ho10
          have hm3 : m3 = i := by rw [← hL3.len, HP9.out.2.2.1, HAK.out.2.2.2.len]; exact HL1.out.len
          subst hm3
          have HL3 := Lib.hid (And.intro hL3 (HL9.out.quiet ho11))
          have HO11 := Lib.hid (HO9.out.quiet_trans ho11)
          have HP11 := Lib.hid (HP9.out.1.quiet ho11)
          clear hl10 ho10 hL3 ho11 HLE
          go_wp2_with fail
          rw [← hw11, ← hq3]
          clear hw11 hq3
          go_wp2_with fail
          go_loopg [17] m3 (fun gg s17 wr => ∃ i g0 : Nat, g0 = gg ∧ i + g0 = m3 ∧ s17 = .int .i64 i ∧ Off None w11 wr)
          case atStart => exact ⟨0, m3, rfl, by omega, rfl, Off.refl _ _⟩
          case round =>
            obtain ⟨i, g2, hg2, hi2, rfl, hov⟩ := hrel
            have HG2 := Lib.hid hg2
            have HOV2 := Lib.hid hov
            have hl3 := HL3.out.1.quiet hov
            have hl1 := HL3.out.2.quiet hov
            obtain ⟨v0, v1, v2⟩ := hl3.cells
            obtain ⟨u0, u1, u2⟩ := hl1.cells
            clear hg2 hov
            by_cases him : i < m3
            · obtain ⟨b3, off3, x3, rfl, hsb3, hmc3, hcm3, hx3, n3, lo3, ev3⟩ := hl3.dest him
              obtain ⟨b1, off1, x1, rfl, hsb1, hmc1, hcm1, hx1, n1, lo1, ev1⟩ := hl1.dest him
              have hak := HAK.out.2.2.2.each i x3 (by rw [← HP9.out.2.2.1]; exact hx3)
              obtain ⟨y, hy, he, hlo, _⟩ := hak
              have hyx : y = x1 := Option.some.inj (hy.symm.trans hx1)
              subst hyx
              rw [he] at ev3
              rw [hlo him, ← HAK.out.2.2.1, ← HP9.out.2.1] at lo3
              have hi0 : (0 : Int) ≤ (i : Int) := by omega
              have hi1 : (i : Int) < (m3 : Int) := by omega
              have hne : ((y.evicted : Int) != (y.evicted : Int)) = false := by simp
              have hne2 : ((P3.led.next : Int) != (P3.led.next : Int)) = false := by simp
              clear hl3 hl1 hx3 hx1 hy he hlo n3 n1 lo1
              go_wp2_with fail
              go_quiet (fail)
              go_wp2_with fail
              go_roundg (g2 - 1)
              case measure => have := HG2.out; omega
              case rel => exact ⟨i + 1, g2 - 1, rfl, by omega, by go_num, HOV2.out.drewN _⟩
            · have him' : i = m3 := by omega
              subst him'
              have hby := HP11.out.bytes_le (HFT.out.1.imp id (fun x => by rw [HP9.out.2.2.2, HAK.out.2.1]; exact x)) (by rw [HP9.out.2.2.2, HAK.out.2.1]; exact HFT.out.2)
              have HLI := Lib.hid ((HP11.out.quiet HOV2.out).list)
              have HBY := Lib.hid (fun W (hW : Off None wr W) => ((HP11.out.quiet HOV2.out).quiet hW).held.bytes)
              obtain ⟨bs, hbs⟩ : ∃ bs, bs = P3.log.bytes := ⟨_, rfl⟩
              rw [← hbs] at hby HBY
              have hb4 : decide ((bs : Int) ≤ 4032) = true := by
                rw [decide_eq_true_iff]; omega
              clear hl3 hl1 v0 v1 u0 u1 u2 him hbs
              go_wp2_with fail
              refine HLI.out.mono ?_
              rintro e w12 ⟨⟨A12, m12, c12, rfl, hm12⟩, ho12⟩
              have hm2' : decide ((m12 : Int) ≤ 2) = true := by
                rw [decide_eq_true_iff]; omega
              have HO12 := Lib.hid ho12
              clear ho12 HLI v2
              go_wp2_with fail
              refine (HBY.out _ HO12.out).mono ?_
              rintro e w13 ⟨rfl, ho13⟩
              have HO13 := Lib.hid (HO12.out.quiet_trans ho13)
              clear ho13
              go_wp2_with fail
              go_ret
              refine ⟨rfl, off_belowS ?_⟩
              exact ((((HO8'.out.trans HO11.out (fun b _ x => x.1)).quiet_trans HOV2.out).quiet_trans HO13.out))
end LawS
end Go.Proofs.YtndgnlblbjpogaaGreatDoor
