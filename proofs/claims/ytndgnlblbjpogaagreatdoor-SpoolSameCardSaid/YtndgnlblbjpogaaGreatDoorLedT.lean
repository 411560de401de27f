/- The reference's Same over one ledger, twice in memory. -/
import Derived.Test.YtndgnlblbjpogaaGreatDoorLedS
namespace Go.Proofs.YtndgnlblbjpogaaGreatDoor
open Go Go.RowKit Go.Shelf Led
theorem SliceAt.num_at {w : World} {S : Nat → Prop} {A : Option Addr} {n c : Nat} {l : List Nat} (h : SliceAt w S 1 (.slice A n c) n (numCells l)) {j : Nat} (hj : j < l.length) : ∃ b off, A = some ⟨b, off, none⟩ ∧ n ≤ c ∧ c ≤ 9223372036854775807 ∧ w.cell? ⟨b, off + j, none⟩ = some (.int .u64 l[j]) := by
  have hl : n = l.length := by
    have h1 := h.1
    unfold numCells at h1
    rw [List.length_map] at h1
    omega
  rcases h.2.2 with ⟨e, h0⟩ | ⟨b, off, c', e, h1, h2, _, _, h5⟩
  · omega
  · cases e
    unfold maxLen at h2
    refine ⟨b, off, rfl, h1, h2, h5 j _ ?_⟩
    unfold numCells
    rw [List.getElem?_map, List.getElem?_eq_getElem hj]
    rfl
namespace LawS
set_option maxHeartbeats 1000000 in
set_option maxRecDepth 100000 in
theorem sameInts_any (w : World) (S S' : Nat → Prop) (A A' : Option Addr) (n c c' : Nat) (l : List Nat) (h : SliceAt w S 1 (.slice A n c) n (numCells l)) (h' : SliceAt w S' 1 (.slice A' n c') n (numCells l)) :
    Calls Tryz.prog 72 #[.slice A n c, .slice A' n c'] w fun e w' => e = .returned (.bool true) ∧ Off None w w' := by
  have hl : n = l.length := by
    have h1 := h.1
    unfold numCells at h1
    rw [List.length_map] at h1
    omega
  have hn := h.2.1
  have HH := Lib.hid (And.intro h h')
  have HL := Lib.hid hl
  have hne : ((n : Int) != (n : Int)) = false := by simp
  clear h h' hl
  go_enter Tryz.func72, Tryz.ntmps72
  go_wp2_with fail
  go_loopg [5] n (fun gg s5 wr => ∃ k g0 : Nat, g0 = gg ∧ k + g0 = n ∧ s5 = .int .i64 k ∧ Off None w wr)
  case atStart => exact ⟨0, n, rfl, by omega, rfl, Off.refl _ _⟩
  case round =>
    obtain ⟨k, g0, hgg, hk, rfl, ho⟩ := hrel
    have HGG := Lib.hid hgg
    have HO := Lib.hid ho
    clear hgg
    by_cases hkn : k < n
    · have hkl : k < l.length := by rw [← HL.out]; exact hkn
      obtain ⟨b, off, rfl, hc1, hc2, x0⟩ := (HH.out.1.quiet ho).num_at hkl
      obtain ⟨b', off', rfl, hc1', hc2', x0'⟩ := (HH.out.2.quiet ho).num_at hkl
      obtain ⟨z, hz⟩ : ∃ z, z = l[k] := ⟨_, rfl⟩
      rw [← hz] at x0 x0'
      have hze : ((z : Int) != (z : Int)) = false := by simp
      have hk0 : (0 : Int) ≤ (k : Int) := by omega
      have hk1 : (k : Int) < (n : Int) := by omega
      clear ho hz hkl
      go_wp2_with fail
      go_quiet (fail)
      go_wp2_with fail
      go_roundg (g0 - 1)
      case measure => have := HGG.out; omega
      case rel => exact ⟨k + 1, g0 - 1, rfl, by omega, by go_num, HO.out.drewN _⟩
    · have hkn' : k = n := by omega
      clear ho
      go_wp2_with fail
      go_ret
      exact ⟨rfl, HO.out⟩
set_option maxHeartbeats 2000000 in
set_option maxRecDepth 100000 in
theorem same_any (w : World) (S S' : Nat → Prop) (lv lv' : Value) (l : LedgerV) (h : LedgerAt w S lv l) (h' : LedgerAt w S' lv' l) :
    Calls Tryz.prog 32 #[lv, lv'] w fun e w' => e = .returned (.bool true) ∧ Off None w w' := by
  obtain ⟨sv, ds, rfl, hds, hd, _, _⟩ := h
  obtain ⟨sv', ds', rfl, hds', hd', _, _⟩ := h'
  obtain ⟨A, c, hA⟩ := hd.row.form
  obtain ⟨A', c', hA'⟩ := hd'.row.form
  obtain ⟨n, hn0⟩ : ∃ n, n = ds.length := ⟨_, rfl⟩
  have hn0' : n = ds'.length := by
    have e := congrArg List.length (hds.trans hds'.symm)
    rw [List.length_map, List.length_map] at e
    omega
  rw [← hn0] at hA
  rw [← hn0'] at hA'
  subst hA hA'
  have hnb := hd.row.2.1
  rw [← hn0] at hnb
  obtain ⟨w2, q, hw2, hq, ho2, hb0, hb1, hs2⟩ := two_boxes w #[.int .u64 l.first, .int .u64 l.next, .slice A n c] #[.int .u64 l.first, .int .u64 l.next, .slice A' n c'] 67 67
  obtain ⟨p, hp⟩ : ∃ p, p = w.heap.size := ⟨_, rfl⟩
  rw [← hp] at hb0 hq
  have HB := Lib.hid (And.intro hb0 hb1)
  have HO := Lib.hid ho2
  have HD := Lib.hid (And.intro (hd.quiet ho2) (And.intro (hd'.quiet ho2) (And.intro hn0 (And.intro hn0' (hds.trans hds'.symm)))))
  have hne0 : ((l.first : Int) != (l.first : Int)) = false := by simp
  have hne1 : ((l.next : Int) != (l.next : Int)) = false := by simp
  have hne2 : ((n : Int) != (n : Int)) = false := by simp
  have HPQ := Lib.hid (show p ≠ q by omega)
  clear hd hd' hds hds' hn0 hn0' ho2 hs2
  obtain ⟨c0, c1, c2⟩ : w2.cell? ⟨p, 0, none⟩ = some (.int .u64 l.first) ∧ w2.cell? ⟨p, 1, none⟩ = some (.int .u64 l.next) ∧ w2.cell? ⟨p, 2, none⟩ = some (.slice A n c) := ⟨Heap.cell hb0 0, Heap.cell hb0 1, Heap.cell hb0 2⟩
  obtain ⟨d0, d1, d2⟩ : w2.cell? ⟨q, 0, none⟩ = some (.int .u64 l.first) ∧ w2.cell? ⟨q, 1, none⟩ = some (.int .u64 l.next) ∧ w2.cell? ⟨q, 2, none⟩ = some (.slice A' n c') := ⟨Heap.cell hb1 0, Heap.cell hb1 1, Heap.cell hb1 2⟩
  clear hb0 hb1
  go_enter Tryz.func32, Tryz.ntmps32
  go_wp2_with fail
  rw [← hw2, ← hp, ← hq]
  clear hw2 hp hq
  go_loopg [5] n (fun gg s5 wr => ∃ k g0 : Nat, g0 = gg ∧ k + g0 = n ∧ s5 = .int .i64 k ∧ Off None w2 wr)
  case atStart => exact ⟨0, n, rfl, by omega, rfl, Off.refl _ _⟩
  case round =>
    obtain ⟨k, g0, hgg, hk, rfl, ho⟩ := hrel
    have HGG := Lib.hid hgg
    have HOW := Lib.hid ho
    obtain ⟨e0, e1, e2⟩ : wr.cell? ⟨p, 0, none⟩ = some (.int .u64 l.first) ∧ wr.cell? ⟨p, 1, none⟩ = some (.int .u64 l.next) ∧ wr.cell? ⟨p, 2, none⟩ = some (.slice A n c) := ⟨ho.stay c0 (fun x => x), ho.stay c1 (fun x => x), ho.stay c2 (fun x => x)⟩
    obtain ⟨f0, f1, f2⟩ : wr.cell? ⟨q, 0, none⟩ = some (.int .u64 l.first) ∧ wr.cell? ⟨q, 1, none⟩ = some (.int .u64 l.next) ∧ wr.cell? ⟨q, 2, none⟩ = some (.slice A' n c') := ⟨ho.stay d0 (fun x => x), ho.stay d1 (fun x => x), ho.stay d2 (fun x => x)⟩
    clear hgg
    by_cases hkn : k < n
    · obtain ⟨b, off, dd, B, cb, rfl, hnc, hcx, hl1, _, _, hdd, hdat, y0, y1, y2, y3, y4, y5, y6⟩ := (HD.out.1.quiet ho).at_ hkn
      obtain ⟨b', off', dd', B', cb', rfl, hnc', hcx', hl2, _, _, hdd', hdat', z0, z1, z2, z3, z4, z5, z6⟩ := (HD.out.2.1.quiet ho).at_ hkn
      have hde : dd' = dd := by
        have e := congrArg (fun m => m[k]?) HD.out.2.2.2.2
        rw [List.getElem?_map, List.getElem?_map, hdd, hdd'] at e
        exact (Option.some.inj e).symm
      subst hde
      unfold maxLen at hcx hcx'
      obtain ⟨m, hm⟩ : ∃ m, m = dd'.above.length := ⟨_, rfl⟩
      have hr1 := hdat.row
      have hr2 := hdat'.row
      rw [← hm] at y3 z3 hr1 hr2
      obtain ⟨w4, hw4, ho4, hb4, hs4⟩ := boxed wr (destCells dd' (.slice B m cb)).toArray 107
      obtain ⟨u, hu⟩ : ∃ u, u = wr.heap.size := ⟨_, rfl⟩
      obtain ⟨w5, hw5, ho5, hb5, hs5⟩ := boxed w4 (destCells dd' (.slice B' m cb')).toArray 107
      obtain ⟨u', hu'⟩ : ∃ u', u' = w4.heap.size := ⟨_, rfl⟩
      rw [← hu] at hb4
      rw [← hu'] at hb5
      obtain ⟨p0, p1, p2, p3, p4, p5, p6⟩ := dest_cells (ho5.at_ hb4 (fun x => x))
      obtain ⟨q0, q1, q2, q3, q4, q5, q6⟩ := dest_cells hb5
      have f2' := ho4.stay f2 (fun x => x)
      have z0' := ho4.stay z0 (fun x => x); have z1' := ho4.stay z1 (fun x => x); have z2' := ho4.stay z2 (fun x => x); have z3' := ho4.stay z3 (fun x => x); have z4' := ho4.stay z4 (fun x => x); have z5' := ho4.stay z5 (fun x => x); have z6' := ho4.stay z6 (fun x => x)
      have HSI := Lib.hid (sameInts_any w5 S S' B B' m cb cb' dd'.above ((hr1.quiet ho4).quiet ho5) ((hr2.quiet ho4).quiet ho5))
      have HO5 := Lib.hid ((ho.quiet_trans ho4).quiet_trans ho5)
      unfold destCells at hw4 hw5
      have g1 : ((dd'.since : Int) != (dd'.since : Int)) = false := by simp
      have g2 : ((dd'.low : Int) != (dd'.low : Int)) = false := by simp
      have g4 : ((dd'.acked : Int) != (dd'.acked : Int)) = false := by simp
      have g5 : ((dd'.evicted : Int) != (dd'.evicted : Int)) = false := by simp
      have g6 : ((dd'.rejected : Int) != (dd'.rejected : Int)) = false := by simp
      have hk0 : (0 : Int) ≤ (k : Int) := by omega
      have hk1 : (k : Int) < (n : Int) := by omega
      clear hs4 hs5 ho hl1 hl2 hdd hdd' hdat hdat' hm hr1 hr2 ho4 hb4 ho5 hb5 c0 c1 c2 d0 d1 d2
      go_upto_region 7 with fail
      rw [← hw4, ← hu]
      clear hw4 hu y0 y1 y2 y3 y4 y5 y6 z0 z1 z2 z3 z4 z5 z6 e0 e1 e2 f0 f1 f2
      go_upto_region 8 with fail
      rw [← hw5, ← hu']
      clear hw5 hu' z0' z1' z2' z3' z4' z5' z6' f2'
      go_wp2_with fail
      refine HSI.out.mono ?_
      rintro e w6 ⟨rfl, ho6⟩
      have HO6 := Lib.hid (HO5.out.quiet_trans ho6)
      clear ho6 p0 p1 p2 p3 p4 p5 p6 q0 q1 q2 q3 q4 q5 q6
      go_wp2_with fail
      go_roundg (g0 - 1)
      case measure => have := HGG.out; omega
      case rel => exact ⟨k + 1, g0 - 1, rfl, by omega, by go_num, HO6.out⟩
    · have hkn' : k = n := by omega
      clear ho
      go_wp2_with fail
      go_ret
      exact ⟨rfl, HO.out.quiet_trans HOW.out⟩
end LawS
end Go.Proofs.YtndgnlblbjpogaaGreatDoor
