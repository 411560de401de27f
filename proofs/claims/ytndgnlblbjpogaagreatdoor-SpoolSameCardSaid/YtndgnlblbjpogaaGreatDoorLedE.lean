/- A ledger in memory: the walk of Pending. · A ledger in memory: the walk of Evict. · A spool in memory; the walks of ledger.New, Check, Ledger. -/
import Derived.Test.YtndgnlblbjpogaaGreatDoorLedJ
import Derived.Deep.LoopGhost
namespace Go.Proofs.YtndgnlblbjpogaaGreatDoor
open Go Go.RowKit Go.Shelf
/-- Those of the first k numbers from low on that are pending. -/
def pendTo (d : DestV) (next k : Nat) : List Nat := ((List.range k).map (d.low + ·)).filter fun s => d.waits s next
theorem pendTo_succ (d : DestV) (next k : Nat) : pendTo d next (k + 1) = pendTo d next k ++ if d.waits (d.low + k) next = true then [d.low + k] else [] := by
  unfold pendTo
  rw [List.range_succ, List.map_append, List.filter_append]
  congr 1
  simp only [List.map_cons, List.map_nil, List.filter_cons, List.filter_nil]
theorem pendTo_len (d : DestV) (next k : Nat) : (pendTo d next k).length ≤ k := by
  unfold pendTo
  refine Nat.le_trans (List.length_filter_le _ _) ?_
  rw [List.length_map, List.length_range]
  exact Nat.le_refl _
theorem find_mem {l : LedgerV} {name : ByteArray} {d : DestV} (h : l.find name = some d) : d ∈ l.dests := List.mem_of_find?_eq_some h
namespace Led
set_option maxHeartbeats 1000000 in
set_option maxRecDepth 100000 in
theorem pending_any (w : World) (S : Nat → Prop) (lv : Value) (l : LedgerV) (h : LedgerAt w S lv l) (hr : ∀ d ∈ l.dests, Rising d.above) (name : ByteArray) :
    Calls Tryz.prog 20 #[lv, .string name] w fun e w' => ∃ v, e = .returned v ∧ w'.ownsRow w.heap.size 31 1 v (l.pending name).length (numCells (l.pending name)) ∧ Off None w w' := by
  have h0 := h
  obtain ⟨sv, ds, rfl, hds, hd, hf, hn⟩ := h
  obtain ⟨A, c, hA⟩ := hd.row.form
  obtain ⟨n, hn0⟩ : ∃ n, n = ds.length := ⟨_, rfl⟩
  rw [← hn0] at hA
  subst hA
  obtain ⟨w1, hw1, ho1, hb1, hs1⟩ := boxed w #[.int .u64 l.first, .int .u64 l.next, .slice A n c] 34
  obtain ⟨p, hp⟩ : ∃ p, p = w.heap.size := ⟨_, rfl⟩
  rw [← hp] at hb1
  have HB := Lib.hid hb1
  have HO := Lib.hid ho1
  have HF := Lib.hid (find_any w1 S _ l (h0.quiet ho1) name)
  have e0 : w1.cell? ⟨p, 0, none⟩ = some (.int .u64 l.first) := Heap.cell hb1 0
  have e1 : w1.cell? ⟨p, 1, none⟩ = some (.int .u64 l.next) := Heap.cell hb1 1
  have e2 : w1.cell? ⟨p, 2, none⟩ = some (.slice A n c) := Heap.cell hb1 2
  have HR := Lib.hid hr
  unfold big at hf hn
  clear hd hds hn0 ho1 hb1 hs1 h0 hr
  cases hfd : l.find name with
  | none =>
    have HP := Lib.hid (show l.pending name = [] by unfold LedgerV.pending; rw [hfd])
    have HFD := Lib.hid hfd
    clear hfd
    go_enter Tryz.func20, Tryz.ntmps20
    go_wp2_with fail
    rw [← hw1, ← hp]
    clear hw1 hp
    go_wp2_with fail
    refine HF.out.mono ?_
    rintro e w3 ⟨hfo, ho3⟩
    unfold FindOf at hfo
    rw [HFD.out] at hfo
    obtain rfl := hfo
    have HO3 := Lib.hid (HO.out.quiet_trans ho3)
    clear ho3 e0 e1 e2
    go_wp2_with fail
    go_loopg [7, 8] 0 (fun _ s7 s8 wr => s7 = .slice none 0 0 ∧ s8 = .int .u64 0 ∧ Off None w wr)
    case atStart => exact ⟨rfl, rfl, HO3.out.alloc _⟩
    case round =>
      obtain ⟨rfl, rfl, ho⟩ := hrel
      have HO4 := Lib.hid ho; clear ho
      go_wp2_with fail
      go_ret
      refine ⟨_, rfl, ?_, HO4.out⟩
      rw [HP.out]
      exact World.ownsRow_nil _ _ _ _
  | some d =>
    have hdr := HR.out d (find_mem hfd)
    have HP := Lib.hid (show l.pending name = pendTo d l.next (l.next - d.low) by unfold LedgerV.pending; rw [hfd]; rfl)
    have HFD := Lib.hid hfd
    have HDR := Lib.hid hdr
    clear hfd hdr
    go_enter Tryz.func20, Tryz.ntmps20
    go_wp2_with fail
    rw [← hw1, ← hp]
    clear hw1 hp
    go_wp2_with fail
    refine HF.out.mono ?_
    rintro e w3 ⟨hfo, ho3⟩
    unfold FindOf at hfo
    rw [HFD.out] at hfo
    obtain ⟨av, he, hda⟩ := hfo
    obtain ⟨B, cb, hB⟩ : ∃ B cb, av = .slice B d.above.length cb := hda.row.form
    subst hB
    unfold destAgg at he
    subst he
    have hlow : d.low ≤ 549755813888 := hda.small.low
    obtain ⟨w4, hw4, ho4, hb4, _⟩ := boxed w3 (destCells d (.slice B d.above.length cb)).toArray 47
    obtain ⟨q, hq⟩ : ∃ q, q = w3.heap.size := ⟨_, rfl⟩
    rw [← hq] at hb4
    have hp4 := (ho3.quiet_trans ho4).at_ HB.out (fun h => h)
    have HO4 := Lib.hid (And.intro (HO.out.quiet_trans (ho3.quiet_trans ho4)) (And.intro hp4 hb4))
    have HDA := Lib.hid (hda.quiet ho4)
    obtain ⟨m, hm⟩ : ∃ m, m = l.next - d.low := ⟨_, rfl⟩
    have HM := Lib.hid hm
    have m1 : d.low + m ≤ 1099511627776 := by omega
    have m2 : d.low + m = l.next ∨ (l.next < d.low ∧ m = 0) := by omega
    have M2 := Lib.hid m2
    have c2 : w4.cell? ⟨q, 2, none⟩ = some (.int .u64 d.low) := (dest_cells hb4).2.2.1
    unfold destCells at hw4
    dsimp only at *
    clear ho3 ho4 hda hp4 hb4 e0 e1 e2 hm m2
    go_wp2_with fail
    rw [← hw4, ← hq]
    clear hw4 hq
    go_wp2_with fail
    clear c2
    go_loopg [7, 8] m (fun gg s7 s8 wr => ∃ (k g sq : Nat) (v : Value), g = gg ∧ k + g = m ∧ sq = d.low + k ∧ s8 = .int .u64 sq ∧ s7 = v ∧ wr.ownsRow w4.heap.size 31 1 v (pendTo d l.next k).length (numCells (pendTo d l.next k)) ∧ Off None w4 wr)
    case atStart => exact ⟨0, m, d.low, _, rfl, by omega, rfl, rfl, rfl, World.ownsRow_nil _ _ _ _, Off.refl _ _⟩
    case round =>
      obtain ⟨k, g, sq, v, hgg, hkg, hsq, rfl, hs7, hrow, ho⟩ := hrel
      obtain rfl := hs7.symm
      have hpr := ho.at_ HO4.out.2.1 (fun h => h)
      have hbr := ho.at_ HO4.out.2.2 (fun h => h)
      have HOR := Lib.hid ho
      have HROW := Lib.hid hrow
      have HG := Lib.hid hgg
      have HSQ := Lib.hid hsq
      have e1 : wr.cell? ⟨p, 1, none⟩ = some (.int .u64 l.next) := Heap.cell hpr 1
      have hsb : sq ≤ 1099511627776 := by omega
      clear ho hrow hgg hsq hpr
      by_cases hk : k < m
      · have hlt : (sq : Int) < (l.next : Int) := by have := HSQ.out; rcases M2.out with h | h <;> omega
        have hplen := pendTo_len d l.next k
        obtain ⟨c0, c1, c2, c3, c4, c5, c6⟩ := dest_cells hbr
        clear hbr
        go_wp2_with fail
        refine (waits_any wr _ d _ (HDA.out.quiet HOR.out) HDR.out sq l.next).mono ?_
        rintro e w5 ⟨rfl, ho5⟩
        obtain ⟨wt, hwt⟩ : ∃ wt, wt = d.waits sq l.next := ⟨_, rfl⟩
        rw [← hwt]
        have HW := Lib.hid hwt
        have HO5 := Lib.hid (HOR.out.quiet_trans ho5)
        have HROW5 := Lib.hid (ho5.row HROW.out (fun _ _ h => h))
        have hps := pendTo_succ d l.next k
        rw [← HSQ.out, ← HW.out] at hps
        have HPS := Lib.hid hps
        clear hwt ho5 c0 c1 c2 c3 c4 c5 c6 e1 hps
        cases wt
        · go_wp2_with fail
          go_roundg (g - 1)
          case measure => have := HG.out; omega
          case rel =>
            refine ⟨k + 1, g - 1, sq + 1, _, rfl, by omega, by have := HSQ.out; omega, by go_num, rfl, ?_, HO5.out⟩
            rw [HPS.out, if_neg (by decide), List.append_nil]
            exact HROW5.out
        · go_wp2_with (at_builtin; refine wpList_push rfl _ _ rfl Nums.u64Ok w4.heap.size v (pendTo d l.next k).length (numCells (pendTo d l.next k)) rfl HROW5.out #[.int .u64 sq] rfl rfl (by intro u hu; simp at hu; subst hu; rfl) (by omega) HO5.out.size ?_; intro g5 cap5 w6 hrow6 hp6)
          have HR6 := Lib.hid hrow6
          have HO6 := Lib.hid (show Off None w4 w6 from HO5.out.trans hp6.off (fun b hb h => by have := (HROW5.out.lt b h).1; omega))
          clear hrow6 hp6
          go_wp2_with fail
          go_roundg (g - 1)
          case measure => have := HG.out; omega
          case rel =>
            refine ⟨k + 1, g - 1, sq + 1, _, rfl, by omega, by have := HSQ.out; omega, by go_num, rfl, ?_, HO6.out⟩
            rw [HPS.out, if_pos trivial, List.length_append, Nums.numCells_append]
            exact HR6.out
      · have hge : ¬ ((sq : Int) < (l.next : Int)) := by have := HSQ.out; rcases M2.out with h | h <;> omega
        have hkm : k = m := by omega
        clear hbr
        go_wp2_with fail
        go_ret
        refine ⟨_, rfl, ?_, HO4.out.1.quiet_trans HOR.out⟩
        rw [HP.out, ← HM.out, ← hkm]
        exact own_mono HROW.out HO4.out.1.size
end Led
end Go.Proofs.YtndgnlblbjpogaaGreatDoor
namespace Go.Proofs.YtndgnlblbjpogaaGreatDoor
open Go Go.RowKit Go.Shelf
def LedgerV.evictErr (l : LedgerV) (tt : Nat) : Int := if tt < l.first ∨ l.next < tt then 1 else 0
def DestV.evicted1 (d : DestV) (tt next : Nat) : DestV := { (d.done 0 tt next).1 with evicted := (d.done 0 tt next).1.evicted + (d.done 0 tt next).2 }
theorem LedgerV.evict_dests (l : LedgerV) (tt : Nat) : (l.evict tt).dests = l.dests.map fun d => d.evicted1 tt l.next := rfl
/-- One destination of a row of the call's own is written over. -/
theorem dests_set (ds : List DestIn) (i : Nat) (x : DestIn) (hi : i < ds.length) :
    destsCells (ds.set i x) = (((((((destsCells ds).set (i * 7) (.string x.1.name)).set (i * 7 + 1) (.int .u64 x.1.since)).set (i * 7 + 2) (.int .u64 x.1.low)).set (i * 7 + 3) x.2).set (i * 7 + 4) (.int .u64 x.1.acked)).set (i * 7 + 5) (.int .u64 x.1.evicted)).set (i * 7 + 6) (.int .u64 x.1.rejected) := by
  induction ds generalizing i with
  | nil => simp at hi
  | cons y r ih =>
    cases i with
    | zero => rfl
    | succ i =>
      have hc : ∀ (l : List DestIn) (z : DestIn), destsCells (z :: l) = destCells z.1 z.2 ++ destsCells l := fun l z => by unfold destsCells; rw [List.flatMap_cons]
      have hs : ∀ (k : Nat) (v : Value) (l : List Value), k < 7 → (destCells y.1 y.2 ++ l).set ((i + 1) * 7 + k) v = destCells y.1 y.2 ++ l.set (i * 7 + k) v := fun k v l _ => by
        rw [List.set_append_right _ _ (by rw [destCells_len]; omega), destCells_len]
        congr 2; omega
      rw [List.set_cons_succ, hc, ih i (by simpa using hi), hc]
      have h0 := fun v l => hs 0 v l (by decide)
      rw [Nat.add_zero] at h0
      rw [h0, hs 1 _ _ (by decide), hs 2 _ _ (by decide), hs 3 _ _ (by decide), hs 4 _ _ (by decide), hs 5 _ _ (by decide), hs 6 _ _ (by decide)]
      rfl
theorem own_stored {w : World} {base g cap n : Nat} {ds : List DestIn} (h : w.ownsRow base 47 7 (.slice (some ⟨g, 0, none⟩) n cap) n (destsCells ds)) (i : Nat) (x : DestIn) (hi : i < ds.length) :
    (((((((w.setCell ⟨g, i * 7, none⟩ (.string x.1.name)).setCell ⟨g, i * 7 + 1, none⟩ (.int .u64 x.1.since)).setCell ⟨g, i * 7 + 2, none⟩ (.int .u64 x.1.low)).setCell ⟨g, i * 7 + 3, none⟩ x.2).setCell ⟨g, i * 7 + 4, none⟩ (.int .u64 x.1.acked)).setCell ⟨g, i * 7 + 5, none⟩ (.int .u64 x.1.evicted)).setCell ⟨g, i * 7 + 6, none⟩ (.int .u64 x.1.rejected)).ownsRow base 47 7 (.slice (some ⟨g, 0, none⟩) n cap) n (destsCells (ds.set i x)) := by
  rw [dests_set ds i x hi]
  exact (((((((h.stored _ _).1.stored _ _).1.stored _ _).1.stored _ _).1.stored _ _).1.stored _ _).1.stored _ _).1
theorem off7 {G : Nat → Prop} {w w' : World} {b i : Nat} (h : Off G w w') (hb : G b ∨ w.heap.size ≤ b) (v0 v1 v2 v3 v4 v5 v6 : Value) :
    Off G w (((((((w'.setCell ⟨b, i, none⟩ v0).setCell ⟨b, i + 1, none⟩ v1).setCell ⟨b, i + 2, none⟩ v2).setCell ⟨b, i + 3, none⟩ v3).setCell ⟨b, i + 4, none⟩ v4).setCell ⟨b, i + 5, none⟩ v5).setCell ⟨b, i + 6, none⟩ v6) :=
  ((((((h.setCell (p := ⟨b, i, none⟩) hb _).setCell (p := ⟨b, i + 1, none⟩) hb _).setCell (p := ⟨b, i + 2, none⟩) hb _).setCell (p := ⟨b, i + 3, none⟩) hb _).setCell (p := ⟨b, i + 4, none⟩) hb _).setCell (p := ⟨b, i + 5, none⟩) hb _).setCell (p := ⟨b, i + 6, none⟩) hb _
namespace Led
set_option maxHeartbeats 4000000 in
set_option maxRecDepth 100000 in
theorem evict_any (w : World) (S : Nat → Prop) (lv : Value) (l : LedgerV) (h : LedgerAt w S lv l) (tt : Nat) (htt : tt ≤ big) (hr : ∀ d ∈ l.dests, Rising d.above) (hsm : ∀ d ∈ (l.evict tt).dests, d.Small) :
    Calls Tryz.prog 76 #[lv, .int .u64 tt] w (Ledged w S (l.evict tt) (l.evictErr tt)) := by
  obtain ⟨sv, ds, rfl, hds, hd, hf, hn⟩ := h
  obtain ⟨A, c, hA⟩ := hd.row.form
  obtain ⟨n, hn0⟩ : ∃ n, n = ds.length := ⟨_, rfl⟩
  rw [← hn0] at hA
  subst hA
  have hdn := hd.row.2.1
  rw [← hn0] at hdn
  have HD := Lib.hid (And.intro hd (And.intro hds hn0))
  have HR := Lib.hid (And.intro hr hsm)
  unfold big at htt hf hn
  clear hd hds hn0 hr hsm
  by_cases he : tt < l.first ∨ l.next < tt
  · have HE := Lib.hid (show l.evictErr tt = 1 by unfold LedgerV.evictErr; rw [if_pos he])
    obtain ⟨w2, q, hw2, hq, ho2, hb0, hb1, hs2⟩ := two_boxes w #[.int .u64 l.first, .int .u64 l.next, .slice A n c] zLed 34 34
    have hw2' := hw2
    have HO := Lib.hid ho2
    have hql : w.heap.size ≤ q := by omega
    have HQ2 := Lib.hid hb1
    clear ho2 hb0 hb1 hs2
    by_cases h1 : tt < l.first
    · have h1' : (tt : Int) < l.first := by omega
      go_enter Tryz.func76, Tryz.ntmps76
      go_wp2_with fail
      rw [← hw2', ← hq]
      refine bodyPost_ret_by (results_row_tmp' rfl _ _ q _ _ _ _ rfl HQ2.out Tryz.underlying34 rfl infoLed) rfl ⟨_, by rw [HE.out]; rfl, ⟨_, _, _, _, _, rfl⟩, fun h => ?_, HO.out⟩
      rw [HE.out] at h; cases h
    · have h1' : ¬ ((tt : Int) < l.first) := by omega
      have h2' : (l.next : Int) < tt := by omega
      go_enter Tryz.func76, Tryz.ntmps76
      go_wp2_with fail
      rw [← hw2', ← hq]
      refine bodyPost_ret_by (results_row_tmp' rfl _ _ q _ _ _ _ rfl HQ2.out Tryz.underlying34 rfl infoLed) rfl ⟨_, by rw [HE.out]; rfl, ⟨_, _, _, _, _, rfl⟩, fun h => ?_, HO.out⟩
      rw [HE.out] at h; cases h
  · have HE := Lib.hid (show l.evictErr tt = 0 by unfold LedgerV.evictErr; rw [if_neg he])
    have h1' : ¬ ((tt : Int) < l.first) := by omega
    have h2' : ¬ ((l.next : Int) < tt) := by omega
    obtain ⟨w2, q, hw2, hq, ho2, hb0, hb1, hs2⟩ := two_boxes w #[.int .u64 tt, .int .u64 l.next, .slice A n c] zLed 34 34
    obtain ⟨p, hp⟩ : ∃ p, p = w.heap.size := ⟨_, rfl⟩
    rw [← hp] at hb0 hq
    have hpq : p ≠ q := by omega
    have HQ := Lib.hid (show w.heap.size ≤ p ∧ w.heap.size ≤ q ∧ q < w2.heap.size ∧ p < w2.heap.size by omega)
    have HB := Lib.hid (And.intro hb0 hb1)
    have HO := Lib.hid ho2
    clear ho2 hs2 hb0 hb1 he
    go_enter Tryz.func76, Tryz.ntmps76
    go_wp2_with fail
    rw [← hw2, ← hp, ← hq]
    clear hw2 hp hq
    have hd2 := HD.out.1.quiet HO.out
    refine (clone_any w2 S _ ds hd2).mono ?_
    rintro e w3 ⟨v, rfl, hown, ho3⟩
    obtain ⟨A3, c3, hv⟩ := own_form hown
    have hn3 := HD.out.2.2
    rw [← hn3] at hv
    subst hv
    have hp3 := ho3.at_ HB.out.1 (fun h => h)
    have hq3 := ho3.at_ HB.out.2 (fun h => h)
    have HO3 := Lib.hid (HO.out.quiet_trans ho3)
    have HS3 := Lib.hid ho3.size
    have HOWN := Lib.hid hown
    obtain ⟨w4, hw4⟩ : ∃ w4, w4 = w3.setCell ⟨p, 2, none⟩ (.slice A3 n c3) := ⟨_, rfl⟩
    have hp4 : w4.heap[p]? = some (.cells #[.int .u64 tt, .int .u64 l.next, .slice A3 n c3] 34 (0, 0)) := by rw [hw4]; exact (Heap.set hp3 2 _).trans (by simp)
    have hq4 : w4.heap[q]? = some (.cells zLed 34 (0, 0)) := by rw [hw4]; exact (Heap.set_far (show q ≠ p by omega) _).trans hq3
    have ho34 : Off (Only p) w3 w4 := by rw [hw4]; exact (Off.refl (Only p) w3).setCell (p := ⟨p, 2, none⟩) (.inl rfl) _
    have hown4 : w4.ownsRow w2.heap.size 47 7 (.slice A3 n c3) n (destsCells ds) := by
      have h5 := hown
      rw [← hn3] at h5
      exact ho34.row h5 (fun k hk h => by have h6 := (hown.lt k hk).1; have h7 := HQ.out.2.2.2; have h8 : k = p := h; omega)
    have HW24 := Lib.hid (show w2.heap.size ≤ w4.heap.size from Nat.le_trans ho3.size ho34.size)
    have HP4 := Lib.hid hp4
    have HQ4 := Lib.hid hq4
    have HOWN4 := Lib.hid hown4
    have HO4 := Lib.hid (show Off None w w4 from HO3.out.trans ho34 (fun b hb h => by have := HQ.out; have h8 : b = p := h; omega))
    have e2 := Heap.cell hp3 2
    have x2 := Heap.frozen hp3 2
    have g1 := Heap.cell hp4 1
    have g2 := Heap.cell hp4 2
    clear hd2 hown ho3 hn3 hp3 hq3 hp4 hq4 ho34 hown4
    go_wp2_with fail
    rw [← hw4]
    clear hw4 e2 x2 g1 g2
    obtain ⟨T, hT⟩ : ∃ T : Nat → Prop, T = fun b => (S b ∧ b < w.heap.size) ∨ w4.heap.size ≤ b := ⟨_, rfl⟩
    have HT := Lib.hid hT
    have hT1 : ∀ p ∈ ds, DestAt w4 T p := fun p hp => ((((HD.out.1.each p hp).mono (T := fun b => S b ∧ b < w.heap.size) (fun b hb hl => ⟨hb, hl⟩)).quiet HO4.out).mono (fun b hb _ => by rw [hT]; exact .inl hb))
    have HT1 := Lib.hid hT1
    clear hT hT1
    go_loopg [30] n (fun gg s30 wr => ∃ (k g : Nat) (dk : List DestIn), g = gg ∧ k + g = n ∧ s30 = .int .i64 k ∧ Off (fun b => (Value.slice A3 n c3).ownBlock = some b) w4 wr ∧
      Aside (dk.length = n ∧ wr.ownsRow w2.heap.size 47 7 (.slice A3 n c3) n (destsCells dk) ∧ (∀ p ∈ dk, DestAt wr T p) ∧ dk.map (·.1) = (l.dests.take k).map (fun d => d.evicted1 tt l.next) ++ l.dests.drop k))
    case atStart => exact ⟨0, n, ds, rfl, by omega, rfl, Off.refl _ _, HD.out.2.2.symm, HOWN4.out, HT1.out, by rw [List.take_zero, List.drop_zero, HD.out.2.1]; rfl⟩
    case round =>
      obtain ⟨k, g, dk, hgg, hkg, rfl, ho, I⟩ := hrel
      have HG := Lib.hid hgg; clear hgg
      have hsep : ∀ b, (Value.slice A3 n c3).ownBlock = some b → w2.heap.size ≤ b ∧ b < w4.heap.size := fun b hb => HOWN4.out.lt b hb
      have HSEP := Lib.hid hsep
      have hnp : ¬ ((Value.slice A3 n c3).ownBlock = some p) := fun h => by have := hsep p h; have := HQ.out; omega
      have hnq : ¬ ((Value.slice A3 n c3).ownBlock = some q) := fun h => by have := hsep q h; have := HQ.out; omega
      have hpr := ho.at_ HP4.out hnp
      have hqr := ho.at_ HQ4.out hnq
      have HPR := Lib.hid hpr
      have HQR := Lib.hid hqr
      have HOR := Lib.hid ho
      clear ho hsep hnp hnq
      by_cases hk : k < n
      · have hkd : k < dk.length := by have := I.out.1; omega
        obtain ⟨gb, cp, hv, hgb, _⟩ := I.out.2.1.form (by omega)
        cases hv
        obtain ⟨dp, hdp⟩ : ∃ dp, dk[k]? = some dp := ⟨_, List.getElem?_eq_getElem hkd⟩
        have hdest := I.out.2.2.1 _ (List.mem_of_getElem? hdp)
        obtain ⟨dd, av⟩ := dp
        obtain ⟨B, cb, hB⟩ : ∃ B cb, av = .slice B dd.above.length cb := hdest.row.form
        subst hB
        have hcells : ∀ j u, (destsCells dk)[j]? = some u → wr.cell? ⟨gb, 0 + j, none⟩ = some u := fun j u hu => by
          have := I.out.2.1.cells (g := gb) rfl j u hu
          rw [Addr.add_lit] at this
          exact this
        obtain ⟨e0, e1, e2, e3, e4, e5, e6⟩ := SliceAt.dest hcells hdp
        rw [Nat.zero_add] at e0 e1 e2 e3 e4 e5 e6
        have HDEST := Lib.hid hdest
        have HDP := Lib.hid hdp
        clear hcells hdest hdp hpr hqr
        have hcpm : c3 ≤ 9223372036854775807 := by
          rcases I.out.2.1.2 with ⟨hv, _⟩ | ⟨_, _, _, hv, _, _, _, h2, _⟩
          · cases hv
          · cases hv; unfold maxLen at h2; exact h2
        have hncp : n ≤ c3 := by
          rcases I.out.2.1.2 with ⟨hv, _⟩ | ⟨_, _, _, hv, _, _, h2, _⟩
          · cases hv
          · cases hv; exact h2
        have hddk : l.dests[k]? = some dd := by
          have h1 : (dk.map (·.1))[k]? = some dd := by rw [List.getElem?_map, HDP.out]; rfl
          rw [I.out.2.2.2] at h1
          have hll : k < l.dests.length := by rw [← HD.out.2.1, List.length_map, ← HD.out.2.2]; exact hk
          rw [List.getElem?_append_right (by rw [List.length_map, List.length_take]; omega), List.length_map, List.length_take, List.getElem?_drop] at h1
          rw [← h1]
          congr 1; omega
        have hmem := List.mem_of_getElem? hddk
        have hris := HR.out.1 _ hmem
        have hsmall : (dd.evicted1 tt l.next).Small := HR.out.2 _ (by rw [LedgerV.evict_dests]; exact List.mem_map.2 ⟨_, hmem, rfl⟩)
        obtain ⟨dn, hdn'⟩ : ∃ dn, dn = dd.done 0 tt l.next := ⟨_, rfl⟩
        have hevb : dn.1.evicted + dn.2 ≤ 549755813888 := by rw [hdn']; exact hsmall.evicted
        have hof : Off None wr (wr.alloc (.cells #[.string dd.name, .int .u64 dd.since, .int .u64 dd.low, .slice B dd.above.length cb, .int .u64 dd.acked, .int .u64 dd.evicted, .int .u64 dd.rejected] 47)) := (Off.refl None wr).alloc _
        have f1 := hof.stay (Heap.cell HPR.out 1) (fun h => h)
        have hdone := done_any (wr.alloc (.cells #[.string dd.name, .int .u64 dd.since, .int .u64 dd.low, .slice B dd.above.length cb, .int .u64 dd.acked, .int .u64 dd.evicted, .int .u64 dd.rejected] 47)) T dd _ (HDEST.out.quiet hof) hris 0 tt l.next (Nat.zero_le _) htt hn
        rw [← hdn'] at hdone
        have HDONE := Lib.hid hdone
        have HDN := Lib.hid (And.intro hdn' (And.intro hddk hsmall))
        clear hdone hdn' hddk hsmall hmem hris hof
        unfold destAgg at HDONE
        go_wp2_with fail
        refine HDONE.out.mono ?_
        rintro e w6 ⟨av', rfl, hrow6, ho6⟩
        obtain ⟨B', cb', hB'⟩ := hrow6.form
        subst hB'
        have HO6 := Lib.hid (((Off.refl None wr).alloc (.cells #[.string dd.name, .int .u64 dd.since, .int .u64 dd.low, .slice B dd.above.length cb, .int .u64 dd.acked, .int .u64 dd.evicted, .int .u64 dd.rejected] 47)).quiet_trans ho6)
        have HROW6 := Lib.hid hrow6
        have hb6 : Off None wr (w6.alloc (.cells #[.string dn.1.name, .int .u64 dn.1.since, .int .u64 dn.1.low, .slice B' dn.1.above.length cb', .int .u64 dn.1.acked, .int .u64 ((dn.1.evicted : Int) + (dn.2 : Int)), .int .u64 dn.1.rejected] 47)) := HO6.out.alloc _
        have HB6 := Lib.hid hb6
        have f2 := hb6.stay (Heap.cell HPR.out 2) (fun h => h)
        have frz : ∀ i, (w6.alloc (.cells #[.string dn.1.name, .int .u64 dn.1.since, .int .u64 dn.1.low, .slice B' dn.1.above.length cb', .int .u64 dn.1.acked, .int .u64 ((dn.1.evicted : Int) + (dn.2 : Int)), .int .u64 dn.1.rejected] 47)).frozen? ⟨gb, i, none⟩ = false := fun i => by
          rcases I.out.2.1.2 with ⟨hv, _⟩ | ⟨_, _, _, hv, _, h3, _⟩
          · cases hv
          · cases hv; exact Heap.frozen (hb6.at_ h3 (fun h => h)) i
        have r0 : (w6.alloc (.cells #[.string dn.1.name, .int .u64 dn.1.since, .int .u64 dn.1.low, .slice B' dn.1.above.length cb', .int .u64 dn.1.acked, .int .u64 ((dn.1.evicted : Int) + (dn.2 : Int)), .int .u64 dn.1.rejected] 47)).cell? ⟨gb, k * 7, none⟩ = _ := HB6.out.stay e0 (fun h => h)
        have s0 : (w6.alloc (.cells #[.string dn.1.name, .int .u64 dn.1.since, .int .u64 dn.1.low, .slice B' dn.1.above.length cb', .int .u64 dn.1.acked, .int .u64 ((dn.1.evicted : Int) + (dn.2 : Int)), .int .u64 dn.1.rejected] 47)).frozen? ⟨gb, k * 7, none⟩ = false := frz _
        have r1 : (w6.alloc (.cells #[.string dn.1.name, .int .u64 dn.1.since, .int .u64 dn.1.low, .slice B' dn.1.above.length cb', .int .u64 dn.1.acked, .int .u64 ((dn.1.evicted : Int) + (dn.2 : Int)), .int .u64 dn.1.rejected] 47)).cell? ⟨gb, k * 7 + 1, none⟩ = _ := HB6.out.stay e1 (fun h => h)
        have s1 : (w6.alloc (.cells #[.string dn.1.name, .int .u64 dn.1.since, .int .u64 dn.1.low, .slice B' dn.1.above.length cb', .int .u64 dn.1.acked, .int .u64 ((dn.1.evicted : Int) + (dn.2 : Int)), .int .u64 dn.1.rejected] 47)).frozen? ⟨gb, k * 7 + 1, none⟩ = false := frz _
        have r2 : (w6.alloc (.cells #[.string dn.1.name, .int .u64 dn.1.since, .int .u64 dn.1.low, .slice B' dn.1.above.length cb', .int .u64 dn.1.acked, .int .u64 ((dn.1.evicted : Int) + (dn.2 : Int)), .int .u64 dn.1.rejected] 47)).cell? ⟨gb, k * 7 + 2, none⟩ = _ := HB6.out.stay e2 (fun h => h)
        have s2 : (w6.alloc (.cells #[.string dn.1.name, .int .u64 dn.1.since, .int .u64 dn.1.low, .slice B' dn.1.above.length cb', .int .u64 dn.1.acked, .int .u64 ((dn.1.evicted : Int) + (dn.2 : Int)), .int .u64 dn.1.rejected] 47)).frozen? ⟨gb, k * 7 + 2, none⟩ = false := frz _
        have r3 : (w6.alloc (.cells #[.string dn.1.name, .int .u64 dn.1.since, .int .u64 dn.1.low, .slice B' dn.1.above.length cb', .int .u64 dn.1.acked, .int .u64 ((dn.1.evicted : Int) + (dn.2 : Int)), .int .u64 dn.1.rejected] 47)).cell? ⟨gb, k * 7 + 3, none⟩ = _ := HB6.out.stay e3 (fun h => h)
        have s3 : (w6.alloc (.cells #[.string dn.1.name, .int .u64 dn.1.since, .int .u64 dn.1.low, .slice B' dn.1.above.length cb', .int .u64 dn.1.acked, .int .u64 ((dn.1.evicted : Int) + (dn.2 : Int)), .int .u64 dn.1.rejected] 47)).frozen? ⟨gb, k * 7 + 3, none⟩ = false := frz _
        have r4 : (w6.alloc (.cells #[.string dn.1.name, .int .u64 dn.1.since, .int .u64 dn.1.low, .slice B' dn.1.above.length cb', .int .u64 dn.1.acked, .int .u64 ((dn.1.evicted : Int) + (dn.2 : Int)), .int .u64 dn.1.rejected] 47)).cell? ⟨gb, k * 7 + 4, none⟩ = _ := HB6.out.stay e4 (fun h => h)
        have s4 : (w6.alloc (.cells #[.string dn.1.name, .int .u64 dn.1.since, .int .u64 dn.1.low, .slice B' dn.1.above.length cb', .int .u64 dn.1.acked, .int .u64 ((dn.1.evicted : Int) + (dn.2 : Int)), .int .u64 dn.1.rejected] 47)).frozen? ⟨gb, k * 7 + 4, none⟩ = false := frz _
        have r5 : (w6.alloc (.cells #[.string dn.1.name, .int .u64 dn.1.since, .int .u64 dn.1.low, .slice B' dn.1.above.length cb', .int .u64 dn.1.acked, .int .u64 ((dn.1.evicted : Int) + (dn.2 : Int)), .int .u64 dn.1.rejected] 47)).cell? ⟨gb, k * 7 + 5, none⟩ = _ := HB6.out.stay e5 (fun h => h)
        have s5 : (w6.alloc (.cells #[.string dn.1.name, .int .u64 dn.1.since, .int .u64 dn.1.low, .slice B' dn.1.above.length cb', .int .u64 dn.1.acked, .int .u64 ((dn.1.evicted : Int) + (dn.2 : Int)), .int .u64 dn.1.rejected] 47)).frozen? ⟨gb, k * 7 + 5, none⟩ = false := frz _
        have r6 : (w6.alloc (.cells #[.string dn.1.name, .int .u64 dn.1.since, .int .u64 dn.1.low, .slice B' dn.1.above.length cb', .int .u64 dn.1.acked, .int .u64 ((dn.1.evicted : Int) + (dn.2 : Int)), .int .u64 dn.1.rejected] 47)).cell? ⟨gb, k * 7 + 6, none⟩ = _ := HB6.out.stay e6 (fun h => h)
        have s6 : (w6.alloc (.cells #[.string dn.1.name, .int .u64 dn.1.since, .int .u64 dn.1.low, .slice B' dn.1.above.length cb', .int .u64 dn.1.acked, .int .u64 ((dn.1.evicted : Int) + (dn.2 : Int)), .int .u64 dn.1.rejected] 47)).frozen? ⟨gb, k * 7 + 6, none⟩ = false := frz _
        clear hb6 frz ho6 hrow6 f1 e0 e1 e2 e3 e4 e5 e6
        go_wp2_with fail
        go_roundg (g - 1)
        case measure => have := HG.out; omega
        case rel =>
          have hx : dd.evicted1 tt l.next = { dn.1 with evicted := dn.1.evicted + dn.2 } := by unfold DestV.evicted1; rw [← HDN.out.1]
          have hsg := HSEP.out gb rfl
          refine ⟨k + 1, g - 1, dk.set k (dd.evicted1 tt l.next, .slice B' dn.1.above.length cb'), rfl, by omega, by go_num, off7 (HOR.out.quiet_trans HB6.out) (.inl rfl) _ _ _ _ _ _ _, by rw [List.length_set]; exact I.out.1, ?_, ?_, ?_⟩
          · have h1 := own_stored (HB6.out.row I.out.2.1 (fun _ _ h => h)) k (dd.evicted1 tt l.next, .slice B' dn.1.above.length cb') hkd
            rw [hx] at h1 ⊢
            exact h1
          · intro y hy
            rcases List.mem_or_eq_of_mem_set hy with hy | rfl
            · refine (I.out.2.2.1 y hy).off (G := Only gb) (off7 (G := Only gb) (HB6.out.mono (fun _ _ h => h.elim)) (.inl rfl) _ _ _ _ _ _ _) (fun b hb hl h => ?_)
              have h' : b = gb := h
              rw [HT.out] at hb
              have h2 := HO4.out.size
              have h3 := HO.out.size
              rcases hb with hb | hb <;> omega
            · refine ⟨?_, HDN.out.2.2⟩
              rw [hx]
              refine ((HROW6.out.quiet ((Off.refl None w6).alloc _)).off (G := Only gb) (off7 (G := Only gb) (Off.refl _ _) (.inl rfl) _ _ _ _ _ _ _) (fun b hb _ h => ?_)).mono (fun b hb _ => ?_)
              · have h' : b = gb := h
                have h4 : wr.heap.size ≤ b := Nat.le_trans ((Off.refl None wr).alloc _).size hb
                have h5 := HOR.out.size
                omega
              · have h4 : wr.heap.size ≤ b := Nat.le_trans ((Off.refl None wr).alloc _).size hb
                rw [HT.out]
                have h5 := HOR.out.size
                exact .inr (by omega)
          · have hll : k < l.dests.length := (List.getElem?_eq_some_iff.1 HDN.out.2.1).1
            have hg := (List.getElem?_eq_some_iff.1 HDN.out.2.1).2
            rw [List.map_set, I.out.2.2.2, List.drop_eq_getElem_cons hll, hg, List.take_succ_eq_append_getElem hll, List.map_append, hg, List.append_assoc]
            have hl1 : ((l.dests.take k).map (fun d => d.evicted1 tt l.next)).length = k := by rw [List.length_map, List.length_take]; omega
            rw [List.set_append_right _ _ (by rw [hl1]; exact Nat.le_refl _), hl1, Nat.sub_self]
            rfl
      · have hkn : k = n := by omega
        have e0 := Heap.cell hpr 0
        have e1 := Heap.cell hpr 1
        have e2 := Heap.cell hpr 2
        have z0 := Heap.cell hqr 0
        have z1 := Heap.cell hqr 1
        have z2 := Heap.cell hqr 2
        have y0 := Heap.frozen hqr 0
        have y1 := Heap.frozen hqr 1
        have y2 := Heap.frozen hqr 2
        clear hpr hqr
        go_wp2_with fail
        refine bodyPost_ret_by (results_row_tmp' rfl _ _ q _ _ _ _ rfl (box3' HQR.out _ _ _) Tryz.underlying34 rfl infoLed) rfl ⟨_, by rw [HE.out]; rfl, ⟨_, _, _, _, _, rfl⟩, fun _ => ?_, ?_⟩
        · have hll : l.dests.length = n := by rw [← HD.out.2.1, List.length_map, HD.out.2.2]
          have hoq : Off (Only q) wr _ := off3 (G := Only q) (Off.refl (Only q) wr) (.inl rfl) (.int .u64 tt) (.int .u64 l.next) (.slice A3 n c3)
          refine ⟨.slice A3 n c3, dk, rfl, ?_, ⟨?_, fun y hy => ?_⟩, htt, hn⟩
          · rw [I.out.2.2.2, hkn, ← hll, List.take_length, List.drop_length, List.append_nil]; rfl
          · rw [I.out.1]
            refine ((SliceAt.of_own (S := fun b => w2.heap.size ≤ b) I.out.2.1 hdn (fun k hk => (I.out.2.1.lt k hk).1)).off hoq (fun b hb _ h => ?_)).mono (fun b hb _ => ?_)
            · have h' : b = q := h; have := HQ.out; omega
            · exact .inr (Nat.le_trans HO.out.size hb)
          · refine ((I.out.2.2.1 y hy).off hoq (fun b hb _ h => ?_)).mono (fun b hb _ => ?_)
            · have h' : b = q := h
              rw [HT.out] at hb
              have h1 := HQ.out
              have h2 := HO4.out.size
              have h3 := HS3.out
              have h4 : w2.heap.size ≤ w4.heap.size := HW24.out
              rcases hb with hb | hb <;> omega
            · rw [HT.out] at hb
              have h2 := HO4.out.size
              rcases hb with hb | hb
              · exact .inl hb.1
              · exact .inr (by omega)
        · exact off3 (HO4.out.trans HOR.out (fun b hb h => by have h1 := HSEP.out b h; have h2 := HO.out.size; omega)) (.inr HQ.out.2.1) _ _ _
end Led
end Go.Proofs.YtndgnlblbjpogaaGreatDoor
namespace Go.Proofs.YtndgnlblbjpogaaGreatDoor
open Go Go.RowKit Go.Shelf Led
/-- One cell of a destination of a row of the call's own is written over: what it has above. -/
theorem dests_set3 (ds : List DestIn) (i : Nat) (d : DestV) (av av' : Value) (h : ds[i]? = some (d, av)) : destsCells (ds.set i (d, av')) = (destsCells ds).set (i * 7 + 3) av' := by
  have hi : i < ds.length := (List.getElem?_eq_some_iff.1 h).1
  have e := dests_set ds i (d, av') hi
  have hl := destsCells_len ds
  rw [e]
  have key : ∀ k u, k < 7 → (destCells d av)[k]? = some u → (destsCells ds)[i * 7 + k]? = some u := fun k u hk hu => (destsCells_at ds i k (d, av) h hk).trans hu
  have k0 := key 0 _ (by decide) rfl
  have k1 := key 1 _ (by decide) rfl
  have k2 := key 2 _ (by decide) rfl
  have k4 := key 4 _ (by decide) rfl
  have k5 := key 5 _ (by decide) rfl
  have k6 := key 6 _ (by decide) rfl
  rw [Nat.add_zero] at k0
  apply List.ext_getElem?
  intro j
  have hs : ∀ (l : List Value) (m : Nat) (v : Value), (l.set m v)[j]? = if m = j then (if j < l.length then some v else none) else l[j]? := fun l m v => by
    rw [List.getElem?_set]
    by_cases hm : m = j
    · subst hm; simp
    · simp [hm]
  simp only [hs, List.length_set]
  by_cases h6 : i * 7 + 6 = j
  · subst h6; simp [k6]; omega
  by_cases h5 : i * 7 + 5 = j
  · subst h5; simp [k5]; omega
  by_cases h4 : i * 7 + 4 = j
  · subst h4; simp [k4]; omega
  by_cases h3 : i * 7 + 3 = j
  · subst h3; simp
  by_cases h2 : i * 7 + 2 = j
  · subst h2; simp [k2]; omega
  by_cases h1 : i * 7 + 1 = j
  · subst h1; simp [k1]; omega
  by_cases h0 : i * 7 = j
  · subst h0; simp [k0]; omega
  simp [h0, h1, h2, h3, h4, h5, h6]
namespace Led
set_option maxRecDepth 100000 in
theorem new_any (w : World) : Calls Tryz.prog 102 #[] w fun e w' => e = .returned (.agg #[.int .u64 1, .int .u64 1, .slice none 0 0]) ∧ Off None w w' := by
  go_enter Tryz.func102, Tryz.ntmps102
  go_wp2_with fail
  exact bodyPost_ret_by (results_cell_row rfl _ _ w.heap.size _ _ _ _ rfl (Heap.alloc_new w _) Tryz.underlying34 rfl infoLed) rfl ⟨rfl, (Off.refl None w).alloc _⟩
end Led
namespace Spool
set_option maxRecDepth 100000 in
theorem check_any (w : World) (budget segm : Int) :
    Calls Tryz.prog 65 #[.agg #[.int .i64 budget, .int .i64 segm]] w fun e w' => e = .returned (.int .i64 (if segm < 1 then 1 else if budget < segm then 1 else if budget < 2016 then 1 else 0)) ∧ Off None w w' := by
  by_cases h1 : segm < 1
  · rw [if_pos h1]
    go_enter Tryz.func65, Tryz.ntmps65
    go_wp2_with fail
    go_ret
    exact ⟨rfl, (Off.refl None w).alloc _⟩
  rw [if_neg h1]
  by_cases h2 : budget < segm
  · rw [if_pos h2]
    go_enter Tryz.func65, Tryz.ntmps65
    go_wp2_with fail
    go_ret
    exact ⟨rfl, (Off.refl None w).alloc _⟩
  rw [if_neg h2]
  by_cases h3 : budget < 2016
  · rw [if_pos h3]
    go_enter Tryz.func65, Tryz.ntmps65
    go_wp2_with fail
    go_ret
    exact ⟨rfl, (Off.refl None w).alloc _⟩
  · rw [if_neg h3]
    go_enter Tryz.func65, Tryz.ntmps65
    go_wp2_with fail
    go_ret
    exact ⟨rfl, (Off.refl None w).alloc _⟩
end Spool
end Go.Proofs.YtndgnlblbjpogaaGreatDoor
