/- A ledger in memory: the walk of Right, of a ledger that is right. · A ledger in memory: the walk of Done. -/
import Derived.Test.YtndgnlblbjpogaaGreatDoorLedJ
import Derived.Lib.QuietBelow
import Derived.Test.YtndgnlblbjpogaaGreatDoorLedE
import Derived.Deep.RegionHeld3
namespace Go.Proofs.YtndgnlblbjpogaaGreatDoor
open Go Go.RowKit Go.Shelf Go.Sort
namespace Led
theorem toBelow {w w' : World} (h : Off None w w') : Below w.heap.size w w' := ⟨h.os, h.tape, h.output, h.size, fun b hb => h.block b hb (fun h => h)⟩
/-- A callee that turns nothing, met in a world of the class. -/
theorem quietly {P : Program} {f : FuncId} {args : Array Value} {w : World} {d : Nat} {os : Array Obj} {v : Value} (h : Calls P f args (grow (redrawn w d) os) fun e w' => e = .returned v ∧ Off None (grow (redrawn w d) os) w') :
    Calls P f args (grow (redrawn w d) os) fun e w'' => e = .returned v ∧ ∃ p : Regrown, w'' = grow (redrawn w p.d) p.os :=
  Calls.regrown_of (h.mono fun _ _ h => ⟨h.1, toBelow h.2⟩)
/-- A slice's number, in memory. -/
theorem above_cell {w : World} {S : Nat → Prop} {A : Option Addr} {c : Nat} {l : List Nat} (h : SliceAt w S 1 (.slice A l.length c) l.length (numCells l)) {k : Nat} (hk : k < l.length) :
    ∃ b o, A = some ⟨b, o, none⟩ ∧ l.length ≤ c ∧ c ≤ maxLen ∧ S b ∧ b < w.heap.size ∧ w.cell? ⟨b, o + k, none⟩ = some (.int .u64 (l[k] : Nat)) := by
  rcases h.2.2 with ⟨e, h0⟩ | ⟨b, o, c', e, h1, h2, h3, h4, h5⟩
  · omega
  · cases e
    exact ⟨b, o, rfl, h1, h2, h3, h4, h5 k _ (numCells_at l hk)⟩
set_option maxHeartbeats 1000000 in
set_option maxRecDepth 100000 in
theorem dright_any (w : World) (S : Nat → Prop) (d : DestV) (av : Value) (h : DestAt w S (d, av)) (first next : Nat) (A0 : Option Addr) (n0 c0 : Nat) (hn : nameOk d.name = true) (hr : d.Right first next) (hb : next ≤ 549755813888) :
    Calls Tryz.prog 41 #[destAgg d av, .agg #[.int .u64 first, .int .u64 next, .slice A0 n0 c0]] w fun e w' => e = .returned (.bool true) ∧ Off None w w' := by
  obtain ⟨B, cb, hB⟩ : ∃ B cb, av = .slice B d.above.length cb := h.row.form
  subst hB
  have hnm : d.name.size ≤ 9223372036854775807 := h.small.name
  have hm := hr.many
  have r1 := hr.one
  have r2 := hr.sle
  have r3 := hr.lle
  have r4 := hr.sum
  have r5 := hr.front
  have hlen := h.row.2.1
  obtain ⟨w2, q, hw2, hq, ho2, hb0, hb1, hs2⟩ := two_boxes w (destCells d (.slice B d.above.length cb)).toArray #[.int .u64 first, .int .u64 next, .slice A0 n0 c0] 47 34
  obtain ⟨p, hp⟩ : ∃ p, p = w.heap.size := ⟨_, rfl⟩
  rw [← hp] at hb0 hq
  have HB := Lib.hid (And.intro hb0 hb1)
  have HO := Lib.hid ho2
  have HN := Lib.hid (show Calls Tryz.prog 73 #[.string d.name] w2 fun e w' => e = .returned (.bool true) ∧ Off None w2 w' by have := name_any w2 d.name hnm; rw [hn] at this; exact this)
  have HROW := Lib.hid (h.row.quiet ho2)
  have HRI := Lib.hid (And.intro hr.rising hr.above)
  obtain ⟨m, hmn⟩ : ∃ m, m = d.above.length := ⟨_, rfl⟩
  have HM := Lib.hid hmn
  rw [← hmn] at hm r4 r5 hlen
  have b1 : decide ((d.since : Int) < 1) = false := decide_eq_false (by omega)
  have b2 : decide (d.low < d.since) = false := decide_eq_false (by omega)
  have b3 : decide (next < d.low) = false := decide_eq_false (by omega)
  have hdl : (d.low : Int) ≤ 549755813888 := by omega
  unfold destCells at hw2
  unfold destAgg
  clear hb0 hb1 ho2 hs2 h hr hn hnm
  dsimp only at *
  rw [← hmn] at hw2 ⊢
  clear hmn
  go_enter Tryz.func41, Tryz.ntmps41
  go_wp2_with fail
  rw [← hw2, ← hp, ← hq]
  clear hw2 hp hq
  refine HN.out.mono ?_
  rintro e w3 ⟨rfl, ho3⟩
  have hp3 := ho3.at_ HB.out.1 (fun h => h)
  have hq3 := ho3.at_ HB.out.2 (fun h => h)
  have HRW := Lib.hid (HROW.out.quiet ho3)
  have HO3 := Lib.hid (HO.out.quiet_trans ho3)
  obtain ⟨e0, e1, e2, e3, e4, e5, e6⟩ := dest_cells hp3
  have H3 := Lib.hid (And.intro hp3 hq3)
  have q1 : w3.cell? ⟨q, 1, none⟩ = some (.int .u64 next) := Heap.cell hq3 1
  rw [← HM.out] at e3
  clear ho3 hp3 hq3 e0
  go_wp2_with fail
  clear e1 e2 e3 e4 e5 e6 q1
  go_loopg [5, 38] m (fun gg s5 s38 wr => ∃ (k g t : Nat), g = gg ∧ k + g = m ∧ s38 = .int .i64 k ∧ s5 = .int .u64 t ∧ wr = w3 ∧ Aside (∀ j (h : j < d.above.length), k ≤ j → t < d.above[j]))
  case atStart => exact ⟨0, m, d.low, rfl, by omega, rfl, rfl, rfl, fun j hj _ => (HRI.out.2 _ (List.getElem_mem hj)).1⟩
  case round =>
    obtain ⟨k, g, t, hgg, hkg, rfl, rfl, rfl, I⟩ := hrel
    have HG := Lib.hid hgg; clear hgg
    by_cases hk : k < m
    · have hkl : k < d.above.length := by have := HM.out; omega
      obtain ⟨b, o, rfl, k1, k2, k3, k4, k5⟩ := above_cell HRW.out hkl
      rw [← HM.out] at k1
      obtain ⟨x, hx⟩ : ∃ x, x = d.above[k] := ⟨_, rfl⟩
      rw [← hx] at k5
      have f1 : ¬ ((x : Int) ≤ t) := by have := I.out k hkl (Nat.le_refl _); omega
      have f2 : ¬ ((next : Int) ≤ x) := by have := (HRI.out.2 _ (List.getElem_mem hkl)).2; omega
      have HX := Lib.hid hx
      clear hx k3 k4
      unfold maxLen at k2
      have q1 : wr.cell? ⟨q, 1, none⟩ = some (.int .u64 next) := Heap.cell H3.out.2 1
      go_wp2_with fail
      go_roundg (g - 1)
      case measure => have := HG.out; omega
      case rel =>
        refine ⟨k + 1, g - 1, x, rfl, by omega, by go_num, rfl, rfl, fun j hj hkj => ?_⟩
        rw [HX.out]
        exact List.pairwise_iff_getElem.1 HRI.out.1 k j hkl hj (by omega)
    · have hkm : k = m := by omega
      obtain ⟨e0, e1, e2, e3, e4, e5, e6⟩ := dest_cells H3.out.1
      rw [← HM.out] at e3
      have q0 : wr.cell? ⟨q, 0, none⟩ = some (.int .u64 first) := Heap.cell H3.out.2 0
      have q1 : wr.cell? ⟨q, 1, none⟩ = some (.int .u64 next) := Heap.cell H3.out.2 1
      clear e0
      by_cases hpend : next - d.since - (d.low - d.since + m) = 0
      · have f1 : ((next : Int) - d.since - ((d.low : Int) - d.since + m) == 0) = true := by rw [beq_iff_eq]; omega
        have f2 : ((d.acked : Int) + d.evicted + d.rejected == (d.low : Int) - d.since + m) = true := by rw [beq_iff_eq]; omega
        go_wp2_with fail
        go_ret
        exact ⟨rfl, HO3.out⟩
      · have f1 : ((next : Int) - d.since - ((d.low : Int) - d.since + m) == 0) = false := by rw [beq_eq_false_iff_ne]; omega
        have f2 : ((d.acked : Int) + d.evicted + d.rejected == (d.low : Int) - d.since + m) = true := by rw [beq_iff_eq]; omega
        have f3 : (first : Int) ≤ d.low := by omega
        go_wp2_with fail
        go_ret
        exact ⟨rfl, HO3.out⟩
theorem cells_take (ds : List DestIn) (k : Nat) : ∀ (j : Nat) (u : Value), (destsCells (ds.take k))[j]? = some u → (destsCells ds)[j]? = some u := by
  intro j u h
  have e : destsCells ds = destsCells (ds.take k) ++ destsCells (ds.drop k) := by
    unfold destsCells
    rw [← List.flatMap_append, List.take_append_drop]
  rw [e, List.getElem?_append_left (List.getElem?_eq_some_iff.1 h).1]
  exact h
theorem dests_take {w : World} {S : Nat → Prop} {A : Option Addr} {n c k : Nat} {ds : List DestIn} (h : DestsAt w S (.slice A n c) ds) (hn : n = ds.length) (hk : k ≤ n) : DestsAt w S (.slice A k c) (ds.take k) := by
  refine ⟨?_, fun p hp => h.each p (List.mem_of_mem_take hp)⟩
  have hl : (ds.take k).length = k := by rw [List.length_take]; omega
  refine ⟨destsCells_len _, by have := h.row.2.1; omega, ?_⟩
  rw [hl]
  rcases h.row.2.2 with ⟨e, h0⟩ | ⟨b, o, c', e, h1, h2, h3, h4, h5⟩
  · cases e
    exact .inl ⟨by rw [show k = 0 by omega], by omega⟩
  · cases e
    exact .inr ⟨b, o, c, rfl, by omega, h2, h3, h4, fun j u hu => h5 j u (cells_take ds k j u hu)⟩
theorem place_front {l : LedgerV} (hr : l.dests.Pairwise fun a b => a.name ≠ b.name) {k : Nat} {d : DestV} (hd : l.dests[k]? = some d) : placeI (l.dests.take k) d.name = -1 := by
  obtain ⟨hk, he⟩ := List.getElem?_eq_some_iff.1 hd
  refine placeI_neg ?_
  unfold LedgerV.place
  refine List.findIdx?_eq_none_iff.2 fun x hx => ?_
  obtain ⟨j, hj, hjx⟩ := List.mem_take_iff_getElem.1 hx
  have := List.pairwise_iff_getElem.1 hr j k (by omega) hk (by omega)
  rw [hjx, he] at this
  simpa using this
set_option maxHeartbeats 1000000 in
set_option maxRecDepth 100000 in
theorem right_any (w : World) (S : Nat → Prop) (lv : Value) (l : LedgerV) (h : LedgerAt w S lv l) (hr : l.Right fun s => nameOk s = true) :
    Calls Tryz.prog 15 #[lv] w fun e w' => e = .returned (.bool true) ∧ Off None w w' := by
  obtain ⟨sv, ds, rfl, hds, hd, hf, hn⟩ := h
  obtain ⟨A, c, hA⟩ := hd.row.form
  obtain ⟨n, hn0⟩ : ∃ n, n = ds.length := ⟨_, rfl⟩
  rw [← hn0] at hA
  subst hA
  have hnl : l.dests.length = n := by rw [← hds, List.length_map, hn0]
  have r1 := hr.one
  have r2 := hr.le
  have r3 := hr.few
  rw [hnl] at r3
  obtain ⟨w1, hw1, ho1, hb1, hs1⟩ := boxed w #[.int .u64 l.first, .int .u64 l.next, .slice A n c] 34
  obtain ⟨p, hp⟩ : ∃ p, p = w.heap.size := ⟨_, rfl⟩
  rw [← hp] at hb1
  have HB := Lib.hid hb1
  have HO := Lib.hid ho1
  have HD := Lib.hid (And.intro (hd.quiet ho1) (And.intro hds hn0))
  have HR := Lib.hid hr
  have b1 : decide ((l.first : Int) < 1) = false := decide_eq_false (by omega)
  have b2 : decide (l.next < l.first) = false := decide_eq_false (by omega)
  have b3 : decide ((4 : Int) < (n : Int)) = false := decide_eq_false (by omega)
  have b4 : decide (4 < n) = false := decide_eq_false (by omega)
  have e0 : w1.cell? ⟨p, 0, none⟩ = some (.int .u64 l.first) := Heap.cell hb1 0
  have e1 : w1.cell? ⟨p, 1, none⟩ = some (.int .u64 l.next) := Heap.cell hb1 1
  have e2 : w1.cell? ⟨p, 2, none⟩ = some (.slice A n c) := Heap.cell hb1 2
  unfold big at hf hn
  clear hd hds hn0 hr ho1 hb1 hs1 hnl
  go_enter Tryz.func15, Tryz.ntmps15
  go_wp2_with fail
  rw [← hw1, ← hp]
  clear hw1 hp
  go_wp2_with fail
  clear e0 e1 e2
  go_loopg [24] n (fun gg s24 wr => ∃ (k g : Nat), g = gg ∧ k + g = n ∧ s24 = .int .i64 k ∧ Off None w1 wr)
  case atStart => exact ⟨0, n, rfl, by omega, rfl, Off.refl _ _⟩
  case round =>
    obtain ⟨k, g, hgg, hkg, rfl, ho⟩ := hrel
    have HG := Lib.hid hgg; clear hgg
    have HOR := Lib.hid ho; clear ho
    by_cases hk : k < n
    · have hdq := HD.out.1.quiet HOR.out
      obtain ⟨b, off, dd, B, cb, rfl, h1, h2, h3, h4, h5, h6, h7, e0, e1, e2, e3, e4, e5, e6⟩ := hdq.at_ hk
      have hdk : l.dests[k]? = some dd := by rw [← HD.out.2.1, List.getElem?_map, h6]; rfl
      have HK := Lib.hid hdk
      have HDA := Lib.hid (And.intro hdq h7)
      unfold maxLen at h2
      have hds' := dests_take hdq h3 (Nat.le_of_lt hk)
      have hpr := HOR.out.at_ HB.out (fun h => h)
      obtain ⟨w2, hw2, ho2, hb2, hs2⟩ := boxed wr #[.string dd.name, .int .u64 dd.since, .int .u64 dd.low, .slice B dd.above.length cb, .int .u64 dd.acked, .int .u64 dd.evicted, .int .u64 dd.rejected] 47
      obtain ⟨q, hq⟩ : ∃ q, q = wr.heap.size := ⟨_, rfl⟩
      rw [← hq] at hb2
      have hmem := List.mem_of_getElem? hdk
      have hdr : ∀ d os, Calls Tryz.prog 41 #[.agg #[.string dd.name, .int .u64 dd.since, .int .u64 dd.low, .slice B dd.above.length cb, .int .u64 dd.acked, .int .u64 dd.evicted, .int .u64 dd.rejected], .agg #[.int .u64 l.first, .int .u64 l.next, .slice (some ⟨b, off, none⟩) n c]] (grow (redrawn w2 d) os) fun e w'' => e = .returned (.bool true) ∧ ∃ p : Regrown, w'' = grow (redrawn w2 p.d) p.os := fun d os =>
        quietly (dright_any _ S dd _ ((h7.quiet ho2).quiet (Off.of_below (below_regrown w2 d os) : Off None w2 _)) l.first l.next _ n c (HR.out.each _ hmem).1 (HR.out.each _ hmem).2 hn)
      have hpl : ∀ d os, Calls Tryz.prog 42 #[.slice (some ⟨b, off, none⟩) k c, .string dd.name] (grow (redrawn w2 d) os) fun e w'' => e = .returned (.int .i64 (-1)) ∧ ∃ p : Regrown, w'' = grow (redrawn w2 p.d) p.os := fun d os =>
        quietly ((place_any _ S _ _ ((hds'.quiet ho2).quiet (Off.of_below (below_regrown w2 d os) : Off None w2 _)) dd.name).mono fun e w' h => ⟨by rw [h.1, List.map_take, HD.out.2.1, place_front HR.out.apart hdk], h.2⟩)
      have k0 := cell_regrown (show w2.cell? ⟨q, 0, none⟩ = some (.string dd.name) from Heap.cell hb2 0)
      have k1 := cell_regrown (show w2.cell? ⟨q, 1, none⟩ = some (.int .u64 dd.since) from Heap.cell hb2 1)
      have k2 := cell_regrown (show w2.cell? ⟨q, 2, none⟩ = some (.int .u64 dd.low) from Heap.cell hb2 2)
      have k3 := cell_regrown (show w2.cell? ⟨q, 3, none⟩ = some (.slice B dd.above.length cb) from Heap.cell hb2 3)
      have k4 := cell_regrown (show w2.cell? ⟨q, 4, none⟩ = some (.int .u64 dd.acked) from Heap.cell hb2 4)
      have k5 := cell_regrown (show w2.cell? ⟨q, 5, none⟩ = some (.int .u64 dd.evicted) from Heap.cell hb2 5)
      have k6 := cell_regrown (show w2.cell? ⟨q, 6, none⟩ = some (.int .u64 dd.rejected) from Heap.cell hb2 6)
      have hpr2 := ho2.at_ hpr (fun h => h)
      have m0 := cell_regrown (show w2.cell? ⟨p, 0, none⟩ = some (.int .u64 l.first) from Heap.cell hpr2 0)
      have m1 := cell_regrown (show w2.cell? ⟨p, 1, none⟩ = some (.int .u64 l.next) from Heap.cell hpr2 1)
      have m2 := cell_regrown (show w2.cell? ⟨p, 2, none⟩ = some (.slice (some ⟨b, off, none⟩) n c) from Heap.cell hpr2 2)
      have HO2 := Lib.hid (HOR.out.quiet_trans ho2)
      have hkc : (k : Int) ≤ c := by omega
      clear hdq h6 h7 h3 hdk h4 h5 hpr hpr2 hb2 hs2 ho2 hds' hmem
      go_wp2_with fail
      rw [← hw2, ← hq]
      clear hw2 hq e0 e1 e2 e3 e4 e5 e6
      refine wp_region_quiet_below (by kernel_rfl) (by kernel_rfl) ?_
      repeat (quiet_step (first | exact hdr _ _ | exact hpl _ _))
      refine wpQuiet_nil ?_
      intro w3 hw'
      have ho3 : Off None w2 w3 := by
        obtain ⟨⟨dq, osq⟩, rfl⟩ := hw'
        exact Off.of_below (below_regrown w2 dq osq)
      have HO3 := Lib.hid (HO2.out.quiet_trans ho3)
      clear hw' k0 k1 k2 k3 k4 k5 k6 m0 m1 m2 hdr hpl ho3
      go_wp2_with fail
      go_roundg (g - 1)
      case measure => have := HG.out; omega
      case rel => exact ⟨k + 1, g - 1, rfl, by omega, by go_num, HO3.out⟩
    · have hkm : k = n := by omega
      go_wp2_with fail
      go_ret
      exact ⟨rfl, HO.out.quiet_trans HOR.out⟩
end Led
end Go.Proofs.YtndgnlblbjpogaaGreatDoor
namespace Go.Proofs.YtndgnlblbjpogaaGreatDoor
open Go Go.RowKit Go.Shelf Go.Sort
def LedgerV.doneErr (l : LedgerV) (name : ByteArray) (seq : Nat) : Int := match LedgerV.place l.dests name with
  | none => 5
  | some i => match l.dests[i]? with
    | some d => if d.waits seq l.next = true then 0 else 13
    | none => 5
def DestV.counted (d : DestV) (seq next : Nat) (ack : Bool) : DestV :=
  if ack = true then { (d.done seq (seq + 1) next).1 with acked := (d.done seq (seq + 1) next).1.acked + (d.done seq (seq + 1) next).2 }
  else { (d.done seq (seq + 1) next).1 with rejected := (d.done seq (seq + 1) next).1.rejected + (d.done seq (seq + 1) next).2 }
def LedgerV.marked (l : LedgerV) (name : ByteArray) (seq : Nat) (ack : Bool) : LedgerV := match LedgerV.place l.dests name with
  | none => l
  | some i => match l.dests[i]? with
    | some d => { l with dests := l.dests.set i (d.counted seq l.next ack) }
    | none => l
def kindOf (ack : Bool) : Int := if ack = true then 97 else 114
theorem cell_new {W : World} {o : Obj} {a : Addr} {v : Value} (h : W.cell? a = some v) : (W.alloc o).cell? a = some v := ((Off.refl None W).alloc o).stay h (fun h => h)
theorem cell_old7 {W : World} {r : Nat} {a : Addr} {v : Value} (h : W.cell? a = some v) (hne : a.block ≠ r) (x0 x1 x2 x3 x4 x5 x6 : Value) :
    (((((((W.setCell ⟨r, 0, none⟩ x0).setCell ⟨r, 1, none⟩ x1).setCell ⟨r, 2, none⟩ x2).setCell ⟨r, 3, none⟩ x3).setCell ⟨r, 4, none⟩ x4).setCell ⟨r, 5, none⟩ x5).setCell ⟨r, 6, none⟩ x6).cell? a = some v :=
  (off7 (i := 0) (G := Only r) (Off.refl _ W) (.inl rfl) x0 x1 x2 x3 x4 x5 x6).stay h hne
theorem cell_new7 {W : World} {o : Obj} {a : Addr} {v : Value} (h : W.cell? a = some v) (x0 x1 x2 x3 x4 x5 x6 : Value) :
    ((((((((W.alloc o).setCell ⟨W.heap.size, 0, none⟩ x0).setCell ⟨W.heap.size, 1, none⟩ x1).setCell ⟨W.heap.size, 2, none⟩ x2).setCell ⟨W.heap.size, 3, none⟩ x3).setCell ⟨W.heap.size, 4, none⟩ x4).setCell ⟨W.heap.size, 5, none⟩ x5).setCell ⟨W.heap.size, 6, none⟩ x6).cell? a = some v :=
  cell_old7 (cell_new h) (Nat.ne_of_lt (Heap.block_lt h)) x0 x1 x2 x3 x4 x5 x6
namespace Led
/-- What Done leaves: one destination of the clone is written over, and the answer is laid. -/
theorem done_end {w w4 w6 w8 : World} {S : Nat → Prop} {sv : Value} {ds : List DestIn} {l l' : LedgerV} {q g rr n c5 i : Nat} {x : DestV} {B' : Option Addr} {cb' : Nat} (hd : DestsAt w S sv ds) (hds : ds.map (·.1) = l.dests) (hn0 : n = ds.length) (hin : i < n)
    (hf : l.first ≤ big) (hn : l.next ≤ big) (hwq : w.heap.size ≤ q) (hqg : q ≠ g) (hqr : q ≠ rr) (hrg : rr ≠ g) (hwg : w.heap.size ≤ g) (hr6 : w6.heap.size ≤ rr) (hq6 : q < w6.heap.size) (hg6 : g < w6.heap.size)
    (hq8 : w8.heap[q]? = some (.cells zLed 34 (0, 0))) (hown8 : w8.ownsRow w4.heap.size 47 7 (.slice (some ⟨g, 0, none⟩) n c5) n (destsCells ds)) (ho : Off None w w8)
    (hrow8 : SliceAt w8 (fun b => w6.heap.size ≤ b ∧ b ≠ rr) 1 (.slice B' x.above.length cb') x.above.length (numCells x.above)) (hx : x.Small) (hl : l' = { l with dests := l.dests.set i x }) (k : Nat) (v : Value) :
    ((((((((w8.setCell ⟨rr, k, none⟩ v).setCell ⟨g, i * 7, none⟩ (.string x.name)).setCell ⟨g, i * 7 + 1, none⟩ (.int .u64 x.since)).setCell ⟨g, i * 7 + 2, none⟩ (.int .u64 x.low)).setCell ⟨g, i * 7 + 3, none⟩ (.slice B' x.above.length cb')).setCell ⟨g, i * 7 + 4, none⟩ (.int .u64 x.acked)).setCell ⟨g, i * 7 + 5, none⟩ (.int .u64 x.evicted)).setCell ⟨g, i * 7 + 6, none⟩ (.int .u64 x.rejected)).heap[q]? = some (.cells zLed 34 (0, 0)) ∧
    LedgerAt (((((((((((w8.setCell ⟨rr, k, none⟩ v).setCell ⟨g, i * 7, none⟩ (.string x.name)).setCell ⟨g, i * 7 + 1, none⟩ (.int .u64 x.since)).setCell ⟨g, i * 7 + 2, none⟩ (.int .u64 x.low)).setCell ⟨g, i * 7 + 3, none⟩ (.slice B' x.above.length cb')).setCell ⟨g, i * 7 + 4, none⟩ (.int .u64 x.acked)).setCell ⟨g, i * 7 + 5, none⟩ (.int .u64 x.evicted)).setCell ⟨g, i * 7 + 6, none⟩ (.int .u64 x.rejected)).setCell ⟨q, 0, none⟩ (.int .u64 l.first)).setCell ⟨q, 1, none⟩ (.int .u64 l.next)).setCell ⟨q, 2, none⟩ (.slice (some ⟨g, 0, none⟩) n c5)) (And_ S w)
      (.agg #[.int .u64 l.first, .int .u64 l.next, .slice (some ⟨g, 0, none⟩) n c5]) l' ∧
    Off None w (((((((((((w8.setCell ⟨rr, k, none⟩ v).setCell ⟨g, i * 7, none⟩ (.string x.name)).setCell ⟨g, i * 7 + 1, none⟩ (.int .u64 x.since)).setCell ⟨g, i * 7 + 2, none⟩ (.int .u64 x.low)).setCell ⟨g, i * 7 + 3, none⟩ (.slice B' x.above.length cb')).setCell ⟨g, i * 7 + 4, none⟩ (.int .u64 x.acked)).setCell ⟨g, i * 7 + 5, none⟩ (.int .u64 x.evicted)).setCell ⟨g, i * 7 + 6, none⟩ (.int .u64 x.rejected)).setCell ⟨q, 0, none⟩ (.int .u64 l.first)).setCell ⟨q, 1, none⟩ (.int .u64 l.next)).setCell ⟨q, 2, none⟩ (.slice (some ⟨g, 0, none⟩) n c5)) := by
  have h1 : (w8.setCell ⟨rr, k, none⟩ v).ownsRow w4.heap.size 47 7 (.slice (some ⟨g, 0, none⟩) n c5) n (destsCells ds) := ((Off.refl (Only rr) w8).setCell (p := ⟨rr, k, none⟩) (.inl rfl) v).row hown8 (fun b hb h => by
    have e1 : b = g := by cases hb; rfl
    have e2 : b = rr := h
    exact hrg (e2.symm.trans e1))
  have h2 := own_stored h1 i (x, .slice B' x.above.length cb') (by omega)
  obtain ⟨w10, hw10⟩ : ∃ w10, w10 = (((((((w8.setCell ⟨rr, k, none⟩ v).setCell ⟨g, i * 7, none⟩ (.string x.name)).setCell ⟨g, i * 7 + 1, none⟩ (.int .u64 x.since)).setCell ⟨g, i * 7 + 2, none⟩ (.int .u64 x.low)).setCell ⟨g, i * 7 + 3, none⟩ (.slice B' x.above.length cb')).setCell ⟨g, i * 7 + 4, none⟩ (.int .u64 x.acked)).setCell ⟨g, i * 7 + 5, none⟩ (.int .u64 x.evicted)).setCell ⟨g, i * 7 + 6, none⟩ (.int .u64 x.rejected) := ⟨_, rfl⟩
  have h3 : Off (fun b => b = rr ∨ b = g) w8 w10 := by
    rw [hw10]
    exact off7 (G := fun b => b = rr ∨ b = g) ((Off.refl _ w8).setCell (p := ⟨rr, k, none⟩) (.inl (.inl rfl)) v) (.inl (.inr rfl)) _ _ _ _ _ _ _
  rw [← hw10] at h2 ⊢
  have h4 : Off (Only q) w10 (((w10.setCell ⟨q, 0, none⟩ (.int .u64 l.first)).setCell ⟨q, 1, none⟩ (.int .u64 l.next)).setCell ⟨q, 2, none⟩ (.slice (some ⟨g, 0, none⟩) n c5)) := off3 (G := Only q) (Off.refl _ _) (.inl rfl) _ _ _
  have h5 : Off (fun b => b = rr ∨ b = g ∨ b = q) w8 _ := (h3.mono (fun b _ h => h.elim .inl (fun h => .inr (.inl h)))).trans h4 (fun b _ h => .inr (.inr h))
  have hoF : Off None w _ := ho.trans h5 (fun b hb h => by rcases h with rfl | rfl | rfl <;> omega)
  have hwl := h5.size
  refine ⟨h3.at_ hq8 (fun h => h.elim hqr hqg), ?_, hoF⟩
  have hlen : (ds.set i (x, Value.slice B' x.above.length cb')).length = n := by rw [List.length_set]; omega
  refine ⟨.slice (some ⟨g, 0, none⟩) n c5, ds.set i (x, .slice B' x.above.length cb'), by rw [hl], ?_, ⟨?_, fun y hy => ?_⟩, by rw [hl]; exact hf, by rw [hl]; exact hn⟩
  · rw [List.map_set, hds, hl]
  · rw [hlen]
    refine ((SliceAt.of_own (S := fun b => b = g) h2 (by have := hd.row.2.1; omega) (fun b hb => by cases hb; rfl)).off h4 (fun b hb _ h => ?_)).mono (fun b hb _ => .inr ?_)
    · have e1 : b = g := hb
      have e2 : b = q := h
      exact hqg (e2.symm.trans e1)
    · have e1 : b = g := hb
      omega
  · rcases List.mem_or_eq_of_mem_set hy with hy | rfl
    · exact ((hd.each y hy).mono (T := fun b => S b ∧ b < w.heap.size) (fun b hb hl => ⟨hb, hl⟩)).quiet hoF |>.mono (fun b hb _ => .inl hb.1)
    · refine ⟨?_, hx⟩
      exact (hrow8.off h5 (fun b hb _ h => by rcases h with rfl | rfl | rfl <;> omega)).mono (fun b hb _ => .inr (by omega))
set_option maxHeartbeats 2000000 in
set_option maxRecDepth 100000 in
theorem done_led (w : World) (S : Nat → Prop) (lv : Value) (l : LedgerV) (h : LedgerAt w S lv l) (name : ByteArray) (seq : Nat) (ack : Bool) (hr : ∀ d ∈ l.dests, Rising d.above) (hsm : ∀ d ∈ (l.marked name seq ack).dests, d.Small) :
    Calls Tryz.prog 82 #[lv, .string name, .int .u64 seq, .int .u8 (kindOf ack)] w (Ledged w S (l.marked name seq ack) (l.doneErr name seq)) := by
  obtain ⟨sv, ds, rfl, hds, hd, hf, hn⟩ := h
  obtain ⟨A, c, hA⟩ := hd.row.form
  obtain ⟨n, hn0⟩ : ∃ n, n = ds.length := ⟨_, rfl⟩
  rw [← hn0] at hA
  subst hA
  obtain ⟨w2, q, hw2, hq, ho2, hb0, hb1, hs2⟩ := two_boxes w #[.int .u64 l.first, .int .u64 l.next, .slice A n c] zLed 34 34
  obtain ⟨p, hp⟩ : ∃ p, p = w.heap.size := ⟨_, rfl⟩
  rw [← hp] at hb0 hq
  have hpq : p ≠ q := by omega
  have HQ := Lib.hid (show w.heap.size ≤ p ∧ w.heap.size ≤ q ∧ q < w2.heap.size ∧ p < w2.heap.size by omega)
  have HB := Lib.hid (And.intro hb0 hb1)
  have HO := Lib.hid ho2
  have HD := Lib.hid (And.intro hd (And.intro hds hn0))
  have HR := Lib.hid (And.intro hr hsm)
  have hpl := place_any w2 S _ ds (hd.quiet ho2) name
  rw [hds] at hpl
  have HPL := Lib.hid hpl
  have hdn := hd.row.2.1
  rw [← hn0] at hdn
  clear hpl hd hds hn0 ho2 hs2 hb0 hb1 hr hsm
  unfold big at hf hn
  cases hc : LedgerV.place l.dests name with
  | none =>
    have HE := Lib.hid (show l.doneErr name seq = 5 by unfold LedgerV.doneErr; rw [hc])
    have HI := Lib.hid (placeI_neg hc)
    clear hc
    go_enter Tryz.func82, Tryz.ntmps82
    go_wp2_with fail
    rw [← hw2, ← hp, ← hq]
    have e2 := Heap.cell HB.out.1 2
    clear hw2 hp hq
    go_wp2_with fail
    refine HPL.out.mono ?_
    rintro e w3 ⟨rfl, ho3⟩
    rw [HI.out]
    have hq3 := ho3.at_ HB.out.2 (fun h => h)
    have HO3 := Lib.hid (HO.out.quiet_trans ho3)
    have HQ3 := Lib.hid hq3
    have z0 := Heap.cell hq3 0
    have z1 := Heap.cell hq3 1
    have z2 := Heap.cell hq3 2
    have y0 := Heap.frozen hq3 0
    have y1 := Heap.frozen hq3 1
    have y2 := Heap.frozen hq3 2
    clear ho3 hq3 e2
    go_wp2_with fail
    refine bodyPost_ret_by (results_row_tmp' rfl _ _ q _ _ _ _ rfl (box3' HQ3.out _ _ _) Tryz.underlying34 rfl infoLed) rfl ⟨_, by rw [HE.out]; rfl, ⟨_, _, _, _, _, rfl⟩, fun h => ?_, off3 HO3.out (.inr HQ.out.2.1) _ _ _⟩
    rw [HE.out] at h; cases h
  | some i =>
    have hil := (place_some hc).1
    have hin : i < n := by rw [← HD.out.2.1, List.length_map, ← HD.out.2.2] at hil; exact hil
    have hi0 : (0 : Int) ≤ (i : Int) := by omega
    have hi1 : (i : Int) < (n : Int) := by omega
    obtain ⟨d0, hd0⟩ : ∃ d0, l.dests[i]? = some d0 := ⟨_, List.getElem?_eq_getElem hil⟩
    have HI := Lib.hid (placeI_pos hc)
    have HM := Lib.hid (show l.marked name seq ack = { l with dests := l.dests.set i (d0.counted seq l.next ack) } by unfold LedgerV.marked; rw [hc]; simp only [hd0])
    have HER := Lib.hid (show l.doneErr name seq = if d0.waits seq l.next = true then 0 else 13 by unfold LedgerV.doneErr; rw [hc]; simp only [hd0])
    have HD0 := Lib.hid hd0
    obtain ⟨b, off, dd, B, cb, rfl, a1, a2, a3, a4, a5, a6, a7, a8⟩ := (HD.out.1.quiet HO.out).at_ hin
    obtain rfl : dd = d0 := by
      have h1 : (ds.map (·.1))[i]? = some dd := by rw [List.getElem?_map, a6]; rfl
      rw [HD.out.2.1, hd0] at h1
      cases h1; rfl
    have HDS := Lib.hid a6
    have HDA := Lib.hid a7
    have HC := Lib.hid a8
    have hrs := HR.out.1 _ (List.mem_of_getElem? hd0)
    have HRS := Lib.hid hrs
    unfold maxLen at a2
    clear hc hil hd0 a3 a4 a5 a6 a7 a8 hrs
    have HW := fun W (hW : Off None w2 W) => Lib.hid (waits_any W S dd _ (HDA.out.quiet hW) HRS.out seq l.next)
    obtain ⟨wt, hwt⟩ : ∃ wt, wt = dd.waits seq l.next := ⟨_, rfl⟩
    have HWT := Lib.hid hwt
    unfold destAgg at HW
    rw [← hwt] at HW
    rw [← hwt] at HER
    have HW2 := Lib.hid HW
    clear hwt HW
    obtain ⟨x, hx⟩ : ∃ x, x = dd.counted seq l.next ack := ⟨_, rfl⟩
    have hxs : x.Small := by rw [hx]; exact HR.out.2 _ (by rw [HM.out]; exact List.mem_set (by rw [← HD.out.2.1, List.length_map, ← HD.out.2.2]; exact hin) _)
    rw [← hx] at HM
    have HX := Lib.hid (And.intro hx hxs)
    clear hx hxs
    cases ack
    all_goals
      go_enter Tryz.func82, Tryz.ntmps82
      go_wp2_with fail
      rw [← hw2, ← hp, ← hq]
      have e2 := Heap.cell HB.out.1 2
      clear hw2 hp hq
      go_wp2_with fail
      refine HPL.out.mono ?_
      rintro e w3 ⟨rfl, ho3⟩
      rw [HI.out]
      have hp3 := ho3.at_ HB.out.1 (fun h => h)
      have hq3 := ho3.at_ HB.out.2 (fun h => h)
      have f1 := cell_regrown (show w3.cell? ⟨p, 1, none⟩ = some (.int .u64 l.next) from Heap.cell hp3 1)
      have f2 := cell_regrown (show w3.cell? ⟨p, 2, none⟩ = some (.slice (some ⟨b, off, none⟩) n c) from Heap.cell hp3 2)
      have r0 := cell_regrown (ho3.stay HC.out.1 (fun h => h))
      have r1 := cell_regrown (ho3.stay HC.out.2.1 (fun h => h))
      have r2 := cell_regrown (ho3.stay HC.out.2.2.1 (fun h => h))
      have r3 := cell_regrown (ho3.stay HC.out.2.2.2.1 (fun h => h))
      have r4 := cell_regrown (ho3.stay HC.out.2.2.2.2.1 (fun h => h))
      have r5 := cell_regrown (ho3.stay HC.out.2.2.2.2.2.1 (fun h => h))
      have r6 := cell_regrown (ho3.stay HC.out.2.2.2.2.2.2 (fun h => h))
      have cW := fun dq os => quietly (HW2.out (grow (redrawn w3 dq) os) (ho3.quiet_trans (Off.of_below (below_regrown w3 dq os) : Off None w3 _))).out
      have HO3 := Lib.hid ho3
      clear e2 hp3 hq3 ho3
      unfold kindOf
      go_wp2_with fail
      refine wp_region_quiet_below (by kernel_rfl) (by kernel_rfl) ?_
      repeat (quiet_step (first | exact cW _ _))
      refine wpQuiet_nil ?_
      intro w4 hw'
      have ho4 : Off None w3 w4 := by
        obtain ⟨⟨dq, osq⟩, rfl⟩ := hw'
        exact Off.of_below (below_regrown w3 dq osq)
      have ho24 := HO3.out.quiet_trans ho4
      have hp4 := ho24.at_ HB.out.1 (fun h => h)
      have hq4 := ho24.at_ HB.out.2 (fun h => h)
      have HO4 := Lib.hid ho24
      have HPQ := Lib.hid (And.intro hp4 hq4)
      clear hw' ho4 ho24 f1 f2 r0 r1 r2 r3 r4 r5 r6 cW
      cases wt
      case false =>
        have z0 := Heap.cell hq4 0
        have z1 := Heap.cell hq4 1
        have z2 := Heap.cell hq4 2
        have y0 := Heap.frozen hq4 0
        have y1 := Heap.frozen hq4 1
        have y2 := Heap.frozen hq4 2
        clear hp4 hq4
        go_wp2_with fail
        refine bodyPost_ret_by (results_row_tmp' rfl _ _ q _ _ _ _ rfl (box3' HPQ.out.2 _ _ _) Tryz.underlying34 rfl infoLed) rfl ⟨_, by rw [HER.out]; rfl, ⟨_, _, _, _, _, rfl⟩, fun h => ?_, off3 (HO.out.quiet_trans HO4.out) (.inr HQ.out.2.1) _ _ _⟩
        rw [HER.out] at h; cases h
      case true =>
        have e2 : w4.cell? ⟨p, 2, none⟩ = some (.slice (some ⟨b, off, none⟩) n c) := Heap.cell hp4 2
        have x2 := Heap.frozen hp4 2
        clear hp4 hq4
        go_wp2_with fail
        refine (clone_any w4 S _ ds ((HD.out.1.quiet HO.out).quiet HO4.out)).mono ?_
        rintro e w5 ⟨v, rfl, hown, ho5⟩
        obtain ⟨g, c5, hv, hgb⟩ : ∃ g c5, v = .slice (some ⟨g, 0, none⟩) n c5 ∧ w4.heap.size ≤ g := by
          rcases hown.2 with ⟨_, h0⟩ | ⟨g, cap, cur, e, hb, _⟩
          · have := HD.out.2.2; omega
          · exact ⟨g, cap, by rw [e, HD.out.2.2], hb⟩
        subst hv
        have hown' : w5.ownsRow w4.heap.size 47 7 (.slice (some ⟨g, 0, none⟩) n c5) n (destsCells ds) := by have h := hown; rw [← HD.out.2.2] at h; exact h
        have hp5 := ho5.at_ HPQ.out.1 (fun h => h)
        have hq5 := ho5.at_ HPQ.out.2 (fun h => h)
        have hs24 := HO4.out.size
        have hgp : g ≠ p := by have := HQ.out; omega
        have hgq : g ≠ q := by have := HQ.out; omega
        obtain ⟨w6, hw6⟩ : ∃ w6, w6 = w5.setCell ⟨p, 2, none⟩ (.slice (some ⟨g, 0, none⟩) n c5) := ⟨_, rfl⟩
        have hp6 : w6.heap[p]? = some (.cells #[.int .u64 l.first, .int .u64 l.next, .slice (some ⟨g, 0, none⟩) n c5] 34 (0, 0)) := by rw [hw6]; exact (Heap.set hp5 2 _).trans (by simp)
        have hq6 : w6.heap[q]? = some (.cells zLed 34 (0, 0)) := by rw [hw6]; exact (Heap.set_far (show q ≠ p by omega) _).trans hq5
        have ho56 : Off (Only p) w5 w6 := by rw [hw6]; exact (Off.refl (Only p) w5).setCell (p := ⟨p, 2, none⟩) (.inl rfl) _
        have hown6 := ho56.row hown' (fun k hk h => by have e1 : k = g := by cases hk; rfl
                                                       have e2 : k = p := h
                                                       exact hgp (e1.symm.trans e2))
        have ho25 := HO4.out.quiet_trans ho5
        have HO6 := Lib.hid (show Off None w w6 from (HO.out.quiet_trans ho25).trans ho56 (fun b hb h => by have := HQ.out; have e : b = p := h; omega))
        have x2' := Heap.frozen hp5 2
        have hfz : ∀ j, w6.frozen? ⟨g, j, none⟩ = false := by
          rcases hown6.2 with ⟨e, _⟩ | ⟨_, _, _, e, _, h3, _⟩
          · cases e
          · cases e; exact fun j => Heap.frozen h3 j
        have HFZ := Lib.hid hfz
        have e2' : w5.cell? ⟨p, 2, none⟩ = some (.slice (some ⟨b, off, none⟩) n c) := Heap.cell hp5 2
        have g1 : w6.cell? ⟨p, 1, none⟩ = some (.int .u64 l.next) := Heap.cell hp6 1
        have g2 : w6.cell? ⟨p, 2, none⟩ = some (.slice (some ⟨g, 0, none⟩) n c5) := Heap.cell hp6 2
        have hcells : ∀ j u, (destsCells ds)[j]? = some u → w6.cell? ⟨g, 0 + j, none⟩ = some u := fun j u hu => by
          have := hown6.cells (g := g) rfl j u hu
          rw [Addr.add_lit] at this
          exact this
        obtain ⟨r0, r1, r2, r3, r4, r5, r6⟩ := SliceAt.dest hcells HDS.out
        rw [Nat.zero_add] at r0 r1 r2 r3 r4 r5 r6
        have hnc5 : n ≤ c5 ∧ c5 ≤ 9223372036854775807 := by
          rcases hown6.2 with ⟨e, _⟩ | ⟨_, _, _, e, _, _, h2, h3, _⟩
          · cases e
          · cases e; unfold maxLen at h3; exact ⟨h2, h3⟩
        obtain ⟨m1, m2⟩ := hnc5
        have hdT : DestAt w6 (fun b => S b ∧ b < w.heap.size) (dd, .slice B dd.above.length cb) := (((HD.out.1.each _ (List.mem_of_getElem? HDS.out)).mono (T := fun b => S b ∧ b < w.heap.size) (fun b hb hl => ⟨hb, hl⟩))).quiet HO6.out
        have hsq : dd.low ≤ seq ∧ seq < l.next := by
          have h := HWT.out.symm
          unfold DestV.waits at h
          simp only [Bool.and_eq_true, decide_eq_true_eq] at h
          exact ⟨h.1.1, h.1.2⟩
        have hdone := fun W (hW : Off None w6 W) => done_any W _ dd _ (hdT.quiet hW) HRS.out seq (seq + 1) l.next (by unfold big; omega) (by unfold big; omega) hn
        rw [show ((seq + 1 : Nat) : Int) = (seq : Int) + 1 by omega] at hdone
        obtain ⟨dn, hdn'⟩ : ∃ dn, dn = dd.done seq (seq + 1) l.next := ⟨_, rfl⟩
        rw [← hdn'] at hdone
        unfold destAgg at hdone
        have HDONE := Lib.hid hdone
        have HDN := Lib.hid hdn'
        have H6 := Lib.hid (And.intro hp6 (And.intro hq6 hown6))
        have hwr : IntKind.u64.wrap ((seq : Int) + 1) = (seq : Int) + 1 := by rw [IntKind.wrap_u64]; omega
        clear hdone hdn' hp6 hq6 hown6 ho25 ho56 ho5 hown hown' hp5 hq5 hfz hdT hcells e2 x2
        go_wp2_with fail
        rw [← hw6]
        clear hw6 e2' x2'
        go_wp2_with fail
        have np6 := World.new_ne w6 _ g1
        have ng6 := World.new_ne w6 _ r0
        have dg1 := (show w6.drew.cell? _ = _ from g1)
        have dg2 := (show w6.drew.cell? _ = _ from g2)
        have dr0 := (show w6.drew.cell? _ = _ from r0)
        have dr1 := (show w6.drew.cell? _ = _ from r1)
        have dr2 := (show w6.drew.cell? _ = _ from r2)
        have dr3 := (show w6.drew.cell? _ = _ from r3)
        have dr4 := (show w6.drew.cell? _ = _ from r4)
        have dr5 := (show w6.drew.cell? _ = _ from r5)
        have dr6 := (show w6.drew.cell? _ = _ from r6)
        go_region_held3 (fun W => W.cell? ⟨p, 1, none⟩ = some (.int .u64 l.next) ∧ W.cell? ⟨p, 2, none⟩ = some (.slice (some ⟨g, 0, none⟩) n c5) ∧ W.cell? ⟨g, i * 7, none⟩ = some (.string dd.name) ∧ W.cell? ⟨g, i * 7 + 1, none⟩ = some (.int .u64 dd.since) ∧ W.cell? ⟨g, i * 7 + 2, none⟩ = some (.int .u64 dd.low) ∧ W.cell? ⟨g, i * 7 + 3, none⟩ = some (.slice B dd.above.length cb) ∧ W.cell? ⟨g, i * 7 + 4, none⟩ = some (.int .u64 dd.acked) ∧ W.cell? ⟨g, i * 7 + 5, none⟩ = some (.int .u64 dd.evicted) ∧ W.cell? ⟨g, i * 7 + 6, none⟩ = some (.int .u64 dd.rejected))
          (first
            | with_reducible exact ⟨dg1, dg2, dr0, dr1, dr2, dr3, dr4, dr5, dr6⟩
            | with_reducible exact ⟨j1, j2, s0, s1, s2, s3, s4, s5, s6⟩
            | go_keep)
          (first
            | (go_at_call 108; refine (HDONE.out _ ((Off.refl None w6).drew)).mono ?_; rintro e w7 ⟨av', rfl, hrow7, ho7⟩; obtain ⟨B', cb', hB'⟩ := SliceAt.form hrow7; subst hB'; have ho7 := ((Off.refl None w6).drew).quiet_trans ho7; have j1 := ho7.stay g1 (fun h => h); have j2 := ho7.stay g2 (fun h => h); have s0 := ho7.stay r0 (fun h => h); have s1 := ho7.stay r1 (fun h => h); have s2 := ho7.stay r2 (fun h => h); have s3 := ho7.stay r3 (fun h => h); have s4 := ho7.stay r4 (fun h => h); have s5 := ho7.stay r5 (fun h => h); have s6 := ho7.stay r6 (fun h => h); have n7p := World.new_ne w7 _ j1; have n7g := World.new_ne w7 _ s0)
            | (go_at_call 108; refine (HDONE.out _ (((Off.refl None w6).drew).alloc _)).mono ?_; rintro e w7 ⟨av', rfl, hrow7, ho7⟩; obtain ⟨B', cb', hB'⟩ := SliceAt.form hrow7; subst hB'; have hz7 : w7.heap[w6.heap.size]? = some (.cells zDest 47 (0, 0)) := ho7.at_ (Heap.alloc_new w6.drew _) (fun h => h); have z0 : w7.cell? ⟨w6.heap.size, 0, none⟩ = some (.string ⟨#[]⟩) := Heap.cell hz7 0; have y0 : w7.frozen? ⟨w6.heap.size, 0, none⟩ = false := Heap.frozen hz7 0; have z1 : w7.cell? ⟨w6.heap.size, 1, none⟩ = some (.int .u64 0) := Heap.cell hz7 1; have y1 : w7.frozen? ⟨w6.heap.size, 1, none⟩ = false := Heap.frozen hz7 1; have z2 : w7.cell? ⟨w6.heap.size, 2, none⟩ = some (.int .u64 0) := Heap.cell hz7 2; have y2 : w7.frozen? ⟨w6.heap.size, 2, none⟩ = false := Heap.frozen hz7 2; have z3 : w7.cell? ⟨w6.heap.size, 3, none⟩ = some (.slice none 0 0) := Heap.cell hz7 3; have y3 : w7.frozen? ⟨w6.heap.size, 3, none⟩ = false := Heap.frozen hz7 3; have z4 : w7.cell? ⟨w6.heap.size, 4, none⟩ = some (.int .u64 0) := Heap.cell hz7 4; have y4 : w7.frozen? ⟨w6.heap.size, 4, none⟩ = false := Heap.frozen hz7 4; have z5 : w7.cell? ⟨w6.heap.size, 5, none⟩ = some (.int .u64 0) := Heap.cell hz7 5; have y5 : w7.frozen? ⟨w6.heap.size, 5, none⟩ = false := Heap.frozen hz7 5; have z6 : w7.cell? ⟨w6.heap.size, 6, none⟩ = some (.int .u64 0) := Heap.cell hz7 6; have y6 : w7.frozen? ⟨w6.heap.size, 6, none⟩ = false := Heap.frozen hz7 6; have ho7 := (((Off.refl None w6).drew).alloc _).quiet_trans ho7; have j1 := ho7.stay g1 (fun h => h); have j2 := ho7.stay g2 (fun h => h); have s0 := ho7.stay r0 (fun h => h); have s1 := ho7.stay r1 (fun h => h); have s2 := ho7.stay r2 (fun h => h); have s3 := ho7.stay r3 (fun h => h); have s4 := ho7.stay r4 (fun h => h); have s5 := ho7.stay r5 (fun h => h); have s6 := ho7.stay r6 (fun h => h); have n7p := World.new_ne w7 _ j1; have n7g := World.new_ne w7 _ s0))
        · obtain ⟨rr, hrr⟩ : ∃ rr, rr = w7.heap.size := ⟨_, rfl⟩
          obtain ⟨w8, hw8⟩ : ∃ w8, w8 = w7.alloc (.cells #[.string dn.1.name, .int .u64 dn.1.since, .int .u64 dn.1.low, .slice B' dn.1.above.length cb', .int .u64 dn.1.acked, .int .u64 dn.1.evicted, .int .u64 dn.1.rejected] 47) := ⟨_, rfl⟩
          rw [← hw8, ← hrr]
          have hr8 : w8.heap[rr]? = some (.cells (destCells dn.1 (.slice B' dn.1.above.length cb')).toArray 47 (0, 0)) := by rw [hw8, hrr]; exact Heap.alloc_new w7 _
          have ho8 : Off None w6 w8 := by rw [hw8]; exact ho7.alloc _
          have hrow8 : SliceAt w8 (fun b => w6.heap.size ≤ b ∧ b ≠ rr) 1 (.slice B' dn.1.above.length cb') dn.1.above.length (numCells dn.1.above) := by
            rw [hw8]
            exact (hrow7.mono (fun b hb hl => ⟨hb, by omega⟩)).quiet ((Off.refl None w7).alloc _)
          have hrn : rr < w8.heap.size := Heap.lt hr8
          have hr6 : w6.heap.size ≤ rr := by rw [hrr]; exact ho7.size
          clear hw8 hrr hrow7 ho7 j1 j2 s0 s1 s2 s3 s4 s5 s6 n7p n7g np6 ng6 dg1 dg2 dr0 dr1 dr2 dr3 dr4 dr5 dr6 g1 g2 r0 r1 r2 r3 r4 r5 r6
          have HR8 := Lib.hid hr8; have HO8 := Lib.hid ho8; have HROW8 := Lib.hid hrow8
          have hp8 := ho8.at_ H6.out.1 (fun h => h)
          have hq8 := ho8.at_ H6.out.2.1 (fun h => h)
          have hown8 := ho8.row H6.out.2.2 (fun _ _ h => h)
          have hgl := (H6.out.2.2.lt g rfl)
          have HN := Lib.hid (And.intro hrn (And.intro hr6 hgl))
          have HP8 := Lib.hid (And.intro hp8 (And.intro hq8 hown8))
          have e0 := (dest_cells hr8).1
          have e1 := (dest_cells hr8).2.1
          have e2 := (dest_cells hr8).2.2.1
          have e3 := (dest_cells hr8).2.2.2.1
          have e4 := (dest_cells hr8).2.2.2.2.1
          have e5 := (dest_cells hr8).2.2.2.2.2.1
          have e6 := (dest_cells hr8).2.2.2.2.2.2
          have x4 := Heap.frozen hr8 4
          have x6 := Heap.frozen hr8 6
          have hrg : ¬ (rr = g) := by omega
          have hgr : ¬ (g = rr) := by omega
          have hrp : ¬ (rr = p) := fun h => by have := Heap.lt H6.out.1; omega
          have hrq : ¬ (rr = q) := fun h => by have := Heap.lt H6.out.2.1; omega
          have hpr : ¬ (p = rr) := fun h => hrp h.symm
          have hqr : ¬ (q = rr) := fun h => hrq h.symm
          have hpg : ¬ (p = g) := fun h => hgp h.symm
          have hqg : ¬ (q = g) := fun h => hgq h.symm
          have hqp : ¬ (q = p) := fun h => hpq h.symm
          have p0 : w8.cell? ⟨p, 0, none⟩ = some (.int .u64 l.first) := Heap.cell hp8 0
          have p1 : w8.cell? ⟨p, 1, none⟩ = some (.int .u64 l.next) := Heap.cell hp8 1
          have p2 : w8.cell? ⟨p, 2, none⟩ = some (.slice (some ⟨g, 0, none⟩) n c5) := Heap.cell hp8 2
          have z0 : w8.cell? ⟨q, 0, none⟩ = some (.int .u64 0) := Heap.cell hq8 0
          have z1 : w8.cell? ⟨q, 1, none⟩ = some (.int .u64 0) := Heap.cell hq8 1
          have z2 : w8.cell? ⟨q, 2, none⟩ = some (.slice none 0 0) := Heap.cell hq8 2
          have y0 := Heap.frozen hq8 0
          have y1 := Heap.frozen hq8 1
          have y2 := Heap.frozen hq8 2
          have hcells8 : ∀ j u, (destsCells ds)[j]? = some u → w8.cell? ⟨g, 0 + j, none⟩ = some u := fun j u hu => by
            have := hown8.cells (g := g) rfl j u hu
            rw [Addr.add_lit] at this
            exact this
          obtain ⟨t0, t1, t2, t3, t4, t5, t6⟩ := SliceAt.dest hcells8 HDS.out
          rw [Nat.zero_add] at t0 t1 t2 t3 t4 t5 t6
          have hfz8 : ∀ j, w8.frozen? ⟨g, j, none⟩ = false := by
            rcases hown8.2 with ⟨e, _⟩ | ⟨_, _, _, e, _, h3, _⟩
            · cases e
            · cases e; exact fun j => Heap.frozen h3 j
          have v0 := hfz8 (i * 7)
          have v1 := hfz8 (i * 7 + 1)
          have v2 := hfz8 (i * 7 + 2)
          have v3 := hfz8 (i * 7 + 3)
          have v4 := hfz8 (i * 7 + 4)
          have v5 := hfz8 (i * 7 + 5)
          have v6 := hfz8 (i * 7 + 6)
          clear hr8 ho8 hrow8 hp8 hq8 hown8 hrn hr6 hcells8 hfz8
          first
            | (have e : x = { dn.1 with rejected := dn.1.rejected + dn.2 } := by rw [HX.out.1, HDN.out]; rfl
               subst e
               have HFIN := Lib.hid (fun k v => done_end (w4 := w4) (w6 := w6) (x := { dn.1 with rejected := dn.1.rejected + dn.2 }) HD.out.1 HD.out.2.1 HD.out.2.2 hin hf hn HQ.out.2.1 (fun h => hgq h.symm) hqr hrg (by have := HQ.out; have := HO4.out.size; omega) HN.out.2.1 (Heap.lt H6.out.2.1) HN.out.2.2.2 HP8.out.2.1 HP8.out.2.2 (HO6.out.quiet_trans HO8.out) HROW8.out HX.out.2 HM.out k v)
               have hbd : dn.1.rejected + dn.2 ≤ 549755813888 := HX.out.2.rejected
               have HSUM := Lib.hid (show ((dn.1.rejected : Int) + (dn.2 : Int)) = ((dn.1.rejected + dn.2 : Nat) : Int) by omega))
            | (have e : x = { dn.1 with acked := dn.1.acked + dn.2 } := by rw [HX.out.1, HDN.out]; rfl
               subst e
               have HFIN := Lib.hid (fun k v => done_end (w4 := w4) (w6 := w6) (x := { dn.1 with acked := dn.1.acked + dn.2 }) HD.out.1 HD.out.2.1 HD.out.2.2 hin hf hn HQ.out.2.1 (fun h => hgq h.symm) hqr hrg (by have := HQ.out; have := HO4.out.size; omega) HN.out.2.1 (Heap.lt H6.out.2.1) HN.out.2.2.2 HP8.out.2.1 HP8.out.2.2 (HO6.out.quiet_trans HO8.out) HROW8.out HX.out.2 HM.out k v)
               have hbd : dn.1.acked + dn.2 ≤ 549755813888 := HX.out.2.acked
               have HSUM := Lib.hid (show ((dn.1.acked : Int) + (dn.2 : Int)) = ((dn.1.acked + dn.2 : Nat) : Int) by omega))
          go_wp2_with fail
          rw [HSUM.out]
          refine bodyPost_ret_by (results_row_tmp' rfl _ _ q _ _ _ _ rfl (box3' (HFIN.out _ _).1 _ _ _) Tryz.underlying34 rfl infoLed) rfl ⟨_, by rw [HER.out]; rfl, ⟨_, _, _, _, _, rfl⟩, fun _ => (HFIN.out _ _).2.1, (HFIN.out _ _).2.2⟩
        · obtain ⟨rr, hrr⟩ : ∃ rr, rr = w6.heap.size := ⟨_, rfl⟩
          obtain ⟨w8, hw8⟩ : ∃ w8, w8 = (((((((w7.setCell ⟨w6.heap.size, 0, none⟩ (.string dn.1.name)).setCell ⟨w6.heap.size, 1, none⟩ (.int .u64 dn.1.since)).setCell ⟨w6.heap.size, 2, none⟩ (.int .u64 dn.1.low)).setCell ⟨w6.heap.size, 3, none⟩ (.slice B' dn.1.above.length cb')).setCell ⟨w6.heap.size, 4, none⟩ (.int .u64 dn.1.acked)).setCell ⟨w6.heap.size, 5, none⟩ (.int .u64 dn.1.evicted)).setCell ⟨w6.heap.size, 6, none⟩ (.int .u64 dn.1.rejected)) := ⟨_, rfl⟩
          rw [← hw8, ← hrr]
          have hr8 : w8.heap[rr]? = some (.cells (destCells dn.1 (.slice B' dn.1.above.length cb')).toArray 47 (0, 0)) := by rw [hw8, hrr]; exact box7 hz7 _ _ _ _ _ _ _
          have ho8 : Off None w6 w8 := by rw [hw8]; exact off7 (i := 0) ho7 (.inr (Nat.le_refl _)) _ _ _ _ _ _ _
          have hrow8 : SliceAt w8 (fun b => w6.heap.size ≤ b ∧ b ≠ rr) 1 (.slice B' dn.1.above.length cb') dn.1.above.length (numCells dn.1.above) := by
            rw [hw8]
            have hsz : (w6.drew.alloc (.cells #[.string ⟨#[]⟩, .int .u64 0, .int .u64 0, .slice none 0 0, .int .u64 0, .int .u64 0, .int .u64 0] 47)).heap.size = w6.heap.size + 1 := Heap.alloc_size _ _
            refine ((hrow7.mono (T := fun b => w6.heap.size + 1 ≤ b) (fun b hb _ => ?_)).off (off7 (i := 0) (G := Only w6.heap.size) (Off.refl _ w7) (.inl rfl) _ _ _ _ _ _ _) (fun b hb _ h => ?_)).mono (fun b hb _ => ⟨by omega, by omega⟩)
            · exact Nat.le_trans (Nat.le_of_eq hsz.symm) hb
            · have e1 : b = w6.heap.size := h
              omega
          have hrn : rr < w8.heap.size := Heap.lt hr8
          have hr6 : w6.heap.size ≤ rr := by rw [hrr]; exact Nat.le_refl _
          clear hw8 hrr hrow7 ho7 hz7 z0 z1 z2 z3 z4 z5 z6 y0 y1 y2 y3 y4 y5 y6 j1 j2 s0 s1 s2 s3 s4 s5 s6 n7p n7g np6 ng6 dg1 dg2 dr0 dr1 dr2 dr3 dr4 dr5 dr6 g1 g2 r0 r1 r2 r3 r4 r5 r6
          have HR8 := Lib.hid hr8; have HO8 := Lib.hid ho8; have HROW8 := Lib.hid hrow8
          have hp8 := ho8.at_ H6.out.1 (fun h => h)
          have hq8 := ho8.at_ H6.out.2.1 (fun h => h)
          have hown8 := ho8.row H6.out.2.2 (fun _ _ h => h)
          have hgl := (H6.out.2.2.lt g rfl)
          have HN := Lib.hid (And.intro hrn (And.intro hr6 hgl))
          have HP8 := Lib.hid (And.intro hp8 (And.intro hq8 hown8))
          have e0 := (dest_cells hr8).1
          have e1 := (dest_cells hr8).2.1
          have e2 := (dest_cells hr8).2.2.1
          have e3 := (dest_cells hr8).2.2.2.1
          have e4 := (dest_cells hr8).2.2.2.2.1
          have e5 := (dest_cells hr8).2.2.2.2.2.1
          have e6 := (dest_cells hr8).2.2.2.2.2.2
          have x4 := Heap.frozen hr8 4
          have x6 := Heap.frozen hr8 6
          have hrg : ¬ (rr = g) := by omega
          have hgr : ¬ (g = rr) := by omega
          have hrp : ¬ (rr = p) := fun h => by have := Heap.lt H6.out.1; omega
          have hrq : ¬ (rr = q) := fun h => by have := Heap.lt H6.out.2.1; omega
          have hpr : ¬ (p = rr) := fun h => hrp h.symm
          have hqr : ¬ (q = rr) := fun h => hrq h.symm
          have hpg : ¬ (p = g) := fun h => hgp h.symm
          have hqg : ¬ (q = g) := fun h => hgq h.symm
          have hqp : ¬ (q = p) := fun h => hpq h.symm
          have p0 : w8.cell? ⟨p, 0, none⟩ = some (.int .u64 l.first) := Heap.cell hp8 0
          have p1 : w8.cell? ⟨p, 1, none⟩ = some (.int .u64 l.next) := Heap.cell hp8 1
          have p2 : w8.cell? ⟨p, 2, none⟩ = some (.slice (some ⟨g, 0, none⟩) n c5) := Heap.cell hp8 2
          have z0 : w8.cell? ⟨q, 0, none⟩ = some (.int .u64 0) := Heap.cell hq8 0
          have z1 : w8.cell? ⟨q, 1, none⟩ = some (.int .u64 0) := Heap.cell hq8 1
          have z2 : w8.cell? ⟨q, 2, none⟩ = some (.slice none 0 0) := Heap.cell hq8 2
          have y0 := Heap.frozen hq8 0
          have y1 := Heap.frozen hq8 1
          have y2 := Heap.frozen hq8 2
          have hcells8 : ∀ j u, (destsCells ds)[j]? = some u → w8.cell? ⟨g, 0 + j, none⟩ = some u := fun j u hu => by
            have := hown8.cells (g := g) rfl j u hu
            rw [Addr.add_lit] at this
            exact this
          obtain ⟨t0, t1, t2, t3, t4, t5, t6⟩ := SliceAt.dest hcells8 HDS.out
          rw [Nat.zero_add] at t0 t1 t2 t3 t4 t5 t6
          have hfz8 : ∀ j, w8.frozen? ⟨g, j, none⟩ = false := by
            rcases hown8.2 with ⟨e, _⟩ | ⟨_, _, _, e, _, h3, _⟩
            · cases e
            · cases e; exact fun j => Heap.frozen h3 j
          have v0 := hfz8 (i * 7)
          have v1 := hfz8 (i * 7 + 1)
          have v2 := hfz8 (i * 7 + 2)
          have v3 := hfz8 (i * 7 + 3)
          have v4 := hfz8 (i * 7 + 4)
          have v5 := hfz8 (i * 7 + 5)
          have v6 := hfz8 (i * 7 + 6)
          clear hr8 ho8 hrow8 hp8 hq8 hown8 hrn hr6 hcells8 hfz8
          first
            | (have e : x = { dn.1 with rejected := dn.1.rejected + dn.2 } := by rw [HX.out.1, HDN.out]; rfl
               subst e
               have HFIN := Lib.hid (fun k v => done_end (w4 := w4) (w6 := w6) (x := { dn.1 with rejected := dn.1.rejected + dn.2 }) HD.out.1 HD.out.2.1 HD.out.2.2 hin hf hn HQ.out.2.1 (fun h => hgq h.symm) hqr hrg (by have := HQ.out; have := HO4.out.size; omega) HN.out.2.1 (Heap.lt H6.out.2.1) HN.out.2.2.2 HP8.out.2.1 HP8.out.2.2 (HO6.out.quiet_trans HO8.out) HROW8.out HX.out.2 HM.out k v)
               have hbd : dn.1.rejected + dn.2 ≤ 549755813888 := HX.out.2.rejected
               have HSUM := Lib.hid (show ((dn.1.rejected : Int) + (dn.2 : Int)) = ((dn.1.rejected + dn.2 : Nat) : Int) by omega))
            | (have e : x = { dn.1 with acked := dn.1.acked + dn.2 } := by rw [HX.out.1, HDN.out]; rfl
               subst e
               have HFIN := Lib.hid (fun k v => done_end (w4 := w4) (w6 := w6) (x := { dn.1 with acked := dn.1.acked + dn.2 }) HD.out.1 HD.out.2.1 HD.out.2.2 hin hf hn HQ.out.2.1 (fun h => hgq h.symm) hqr hrg (by have := HQ.out; have := HO4.out.size; omega) HN.out.2.1 (Heap.lt H6.out.2.1) HN.out.2.2.2 HP8.out.2.1 HP8.out.2.2 (HO6.out.quiet_trans HO8.out) HROW8.out HX.out.2 HM.out k v)
               have hbd : dn.1.acked + dn.2 ≤ 549755813888 := HX.out.2.acked
               have HSUM := Lib.hid (show ((dn.1.acked : Int) + (dn.2 : Int)) = ((dn.1.acked + dn.2 : Nat) : Int) by omega))
          go_wp2_with fail
          rw [HSUM.out]
          refine bodyPost_ret_by (results_row_tmp' rfl _ _ q _ _ _ _ rfl (box3' (HFIN.out _ _).1 _ _ _) Tryz.underlying34 rfl infoLed) rfl ⟨_, by rw [HER.out]; rfl, ⟨_, _, _, _, _, rfl⟩, fun _ => (HFIN.out _ _).2.1, (HFIN.out _ _).2.2⟩
end Led
end Go.Proofs.YtndgnlblbjpogaaGreatDoor
