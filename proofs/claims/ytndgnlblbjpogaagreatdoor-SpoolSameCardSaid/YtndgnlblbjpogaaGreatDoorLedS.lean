/- A ledger turned into the reference's: the walk of asLedger. -/
import Derived.Test.YtndgnlblbjpogaaGreatDoorLedE
namespace Go.Proofs.YtndgnlblbjpogaaGreatDoor
open Go Go.RowKit Go.Shelf Led
theorem infoLed11 : (Tryz.prog.info? 67).map (fun i => (i.zero, i.size, i.bytes)) = some (some (.agg #[.int .u64 0, .int .u64 0, .slice none 0 0]), 3, 40) := by kernel_rfl
theorem infoDest11 : (Tryz.prog.info? 107).map (fun i => (i.zero, i.size, i.bytes)) = some (some (.agg #[.string ByteArray.empty, .int .u64 0, .int .u64 0, .slice none 0 0, .int .u64 0, .int .u64 0, .int .u64 0]), 7, 80) := by kernel_rfl
theorem sizeLed11 : (Tryz.prog.info? 67).map (·.size) = some 3 := by kernel_rfl
theorem three_boxes (w : World) (c0 c1 c2 : Array Value) (t0 t1 t2 : TypeId) : ∃ w3, w3 = ((w.alloc (.cells c0 t0)).alloc (.cells c1 t1)).alloc (.cells c2 t2) ∧ Off None w w3 ∧ w3.heap[w.heap.size]? = some (.cells c0 t0 (0, 0)) ∧ w3.heap[w.heap.size + 1]? = some (.cells c1 t1 (0, 0)) ∧ w3.heap[w.heap.size + 2]? = some (.cells c2 t2 (0, 0)) ∧ w3.heap.size = w.heap.size + 3 := by
  obtain ⟨w2, q, hw2, hq, ho2, hb0, hb1, hs2⟩ := two_boxes w c0 c1 t0 t1
  obtain ⟨w3, hw3, ho3, hb3, hs3⟩ := boxed w2 c2 t2
  subst hq
  refine ⟨w3, by rw [hw3, hw2], ho2.quiet_trans ho3, ho3.at_ hb0 (fun x => x), ho3.at_ hb1 (fun x => x), ?_, by omega⟩
  rw [hs2] at hb3
  exact hb3
theorem grown_any {e : TypeId} {w w2 w3 w' : World} {S : Nat → Prop} {v : Value} {ds : List DestIn} (hn : ds.length ≤ 1099511627776) (heach : ∀ p ∈ ds, DestAt w S p) (hown : w3.ownsRow w2.heap.size e 7 v ds.length (destsCells ds)) (h3 : Off None w w3)
    (hw : w.heap.size ≤ w2.heap.size) {G : Nat → Prop} (ho : Off G w3 w') (hG : ∀ b, G b → w.heap.size ≤ b ∧ b < w2.heap.size) : DestsAt w' (And_ S w) v ds := by
  refine ⟨((SliceAt.of_own (S := fun b => w2.heap.size ≤ b) hown hn (fun k hk => (hown.lt k hk).1)).off ho (fun b hb _ h => ?_)).mono (fun b hb _ => .inr (by omega)), fun p hp => ?_⟩
  · have := hG b h; omega
  · have h0 : Off (fun b => w.heap.size ≤ b) w w' := h3.trans (ho.mono (fun b _ h => h)) (fun b hb h => by have := hG b h; omega) |>.mono (fun b hb h => h.elim)
    refine ⟨?_, (heach p hp).small⟩
    refine SliceAt.mono (S := fun b => S b ∧ b < w.heap.size) ?_ (fun b hb _ => .inl hb.1)
    exact ((heach p hp).row.mono (fun b hb hlt => ⟨hb, hlt⟩)).off h0 (fun b hb _ h => by omega)
section
variable {P : Program} {ops : Array Oper} {rest : List Oper} {o : Oper} {a : Act} {Q : Exit → Act → World → Prop} {W : World} {st e : TypeId} {z : Value}
/-- One element of seven cells behind a row. -/
theorem wpList_push7 (hgd : o.guard = none) (s x : Operand) (ho : o.op = .call { callee := .builtin .append, args := #[s, x], argTypes := #[st, st] }) (ht : P.underlying st = some (.slice e)) (hi0 : (P.info? e).map (fun i => (i.zero, i.size, i.bytes)) = some (some z, 7, 80)) (hz0 : z.cells.size = 7)
    (base : Nat) (v : Value) (n : Nat) (xs : List Value) (hs : a.eval s = v) (hown : W.ownsRow base e 7 v n xs) (news : Array Value) (hx : a.eval x = .slice (some ⟨W.heap.size, 0, none⟩) 1 1)
    (hl : news.toList.length = 7) (h1 : ∀ u ∈ news.toList, u.oneCell' = true) (hn : n ≤ 1099511627776) (hbase : base ≤ W.heap.size)
    (h : ∀ g cap w', w'.ownsRow base e 7 (.slice (some ⟨g, 0, none⟩) (n + 1) cap) (n + 1) (xs ++ news.toList) → Pushed W w' v g → wpList P ops Q rest (a.put o.dst (.slice (some ⟨g, 0, none⟩) (n + 1) cap)) w') :
    wpList P ops Q (o :: rest) a (W.alloc (.cells news e)) := by
  obtain ⟨i, hi, hz, h2, h3⟩ : ∃ i, P.info? e = some i ∧ i.zero = some z ∧ i.size = 7 ∧ i.bytes = 80 := by
    cases hi : P.info? e with
    | none => simp [hi] at hi0
    | some i =>
      simp only [hi, Option.map_some, Option.some.injEq, Prod.mk.injEq] at hi0
      exact ⟨i, rfl, hi0.1, hi0.2.1, hi0.2.2⟩
  have hrow : (W.alloc (.cells news e)).ownsRow base e 7 v n xs := ((Off.refl None W).alloc _).row hown (fun _ _ h => h)
  refine wpList_append_lies _ hgd s x st ho base e i z 7 80 ht hi hz h2 h3 hz0 (by decide) v n xs hs hrow ⟨W.heap.size, 0, none⟩ 1 1 news.toList hx (by rw [hl, Nat.one_mul]) (Heap.news W news e _ rfl) h1 (by decide) (by unfold maxLen; omega) ?_ (by rw [Heap.alloc_size]; omega) (W.heap.size + 1) (Heap.alloc_size _ _) (fun g cap w' r1 r2 r3 r4 => h g cap w' r1 (pushed_of r2 r3 r4))
  omega
end
theorem dest_one (d : DestV) (B : Option Addr) (m c : Nat) : ∀ u ∈ destCells d (.slice B m c), u.oneCell' = true := by
  intro u hu
  simp [destCells] at hu
  rcases hu with rfl | rfl | rfl | rfl | rfl | rfl | rfl <;> rfl
namespace LawS
set_option maxHeartbeats 1000000 in
set_option maxRecDepth 100000 in
theorem asLedger_any (w : World) (S : Nat → Prop) (lv : Value) (l : LedgerV) (h : LedgerAt w S lv l) :
    Calls Tryz.prog 33 #[lv] w fun e w' => (∃ lv', e = .returned lv' ∧ LedgerAt w' (And_ S w) lv' l) ∧ Off None w w' := by
  obtain ⟨sv, ds, rfl, hds, hd, hf, hn⟩ := h
  obtain ⟨A, c, hA⟩ := hd.row.form
  obtain ⟨n, hn0⟩ : ∃ n, n = ds.length := ⟨_, rfl⟩
  rw [← hn0] at hA
  subst hA
  obtain ⟨w3, hw3, ho3, hb0, hb1, hb2, hs3⟩ := three_boxes w #[.int .u64 l.first, .int .u64 l.next, .slice A n c] #[.int .u64 0, .int .u64 0, .slice none 0 0] #[.int .u64 l.first, .int .u64 l.next, .slice none 0 0] 34 67 67
  obtain ⟨p, hp⟩ : ∃ p, p = w.heap.size := ⟨_, rfl⟩
  obtain ⟨q, hq⟩ : ∃ q, q = p + 1 := ⟨_, rfl⟩
  obtain ⟨r, hr⟩ : ∃ r, r = q + 1 := ⟨_, rfl⟩
  rw [← hp] at hb0
  rw [← hp, ← hq] at hb1
  rw [← hp, show p + 2 = r by omega] at hb2
  have HD := Lib.hid (And.intro hd (And.intro hds hn0))
  have HF := Lib.hid (And.intro hf hn)
  have HB := Lib.hid (And.intro hb0 (And.intro hb1 hb2))
  have HO := Lib.hid ho3
  have HP := Lib.hid (show w.heap.size ≤ p ∧ w.heap.size ≤ q ∧ w.heap.size ≤ r ∧ p ≠ q ∧ p ≠ r ∧ q ≠ r ∧ p < w3.heap.size ∧ q < w3.heap.size ∧ r < w3.heap.size by omega)
  clear hd hds hn0 hf hn hb0 hb1 hb2 ho3 hs3
  go_enter Tryz.func33, Tryz.ntmps33
  have hnb := (HD.out.1).row.2.1
  rw [← HD.out.2.2] at hnb
  have hcm : n ≤ c := by
    rcases HD.out.1.row.2.2 with ⟨e, h0⟩ | ⟨b, off, c', e, h1, _⟩
    · cases e; exact Nat.le_refl _
    · cases e; rw [HD.out.2.2]; exact h1
  go_wp2_with fail
  rw [← hw3, ← hp, ← hq, ← hr]
  clear hw3 hp hq hr
  go_loopg [4] n (fun gg s4 wr => ∃ k g0 : Nat, g0 = gg ∧ k + g0 = n ∧ s4 = .int .i64 k ∧ Aside (∃ A' c', wr.heap[r]? = some (.cells #[.int .u64 l.first, .int .u64 l.next, .slice A' k c'] 67 (0, 0)) ∧ wr.ownsRow w3.heap.size 107 7 (.slice A' k c') k (destsCells (ds.take k)) ∧ Off (Only r) w3 wr))
  case atStart => exact ⟨0, n, rfl, by omega, rfl, none, 0, HB.out.2.2, World.ownsRow_nil _ _ _ _, Off.refl _ _⟩
  case round =>
    obtain ⟨k, g0, hgg, hk, rfl, I⟩ := hrel
    obtain ⟨A', c', hbr, hrow, hor⟩ := I.out
    have hbp := hor.at_ HB.out.1 (fun x => HP.out.2.2.2.2.1 x)
    have HGG := Lib.hid hgg
    have HR := Lib.hid (And.intro hbr hrow)
    have HOR := Lib.hid hor
    obtain ⟨c0, c1, c2⟩ : wr.cell? ⟨p, 0, none⟩ = some (.int .u64 l.first) ∧ wr.cell? ⟨p, 1, none⟩ = some (.int .u64 l.next) ∧ wr.cell? ⟨p, 2, none⟩ = some (.slice A n c) := ⟨Heap.cell hbp 0, Heap.cell hbp 1, Heap.cell hbp 2⟩
    by_cases hkn : k < n
    · obtain ⟨b, off, dd, B, cb, rfl, hnc, hcx, hnl0, hsb, _, hdd, hdat, y0, y1, y2, y3, y4, y5, y6⟩ := HD.out.1.at_ hkn
      have hcx' : c ≤ 9223372036854775807 := by unfold maxLen at hcx; exact hcx
      have st : ∀ {i : Nat} {v : Value}, w.cell? ⟨b, i, none⟩ = some v → wr.cell? ⟨b, i, none⟩ = some v := fun h => hor.stay (HO.out.stay h (fun x => x)) (fun x => by
        have h1 := Heap.block_lt h
        have h2 : b = r := x
        have h3 := HP.out.2.2.1
        have h4 : b < w.heap.size := h1
        omega)
      have x0 := st y0; have x1 := st y1; have x2 := st y2; have x3 := st y3; have x4 := st y4; have x5 := st y5; have x6 := st y6
      obtain ⟨w4, hw4, ho4, hb4, hs4⟩ := boxed wr (destCells dd (.slice B dd.above.length cb)).toArray 47
      obtain ⟨u, hu⟩ : ∃ u, u = wr.heap.size := ⟨_, rfl⟩
      rw [← hu] at hb4
      obtain ⟨d0, d1, d2, d3, d4, d5, d6⟩ := dest_cells hb4
      have v2 : w4.cell? ⟨r, 2, none⟩ = some (.slice A' k c') := Heap.cell (ho4.at_ hbr (fun x => x)) 2
      have HR4 := Lib.hid (ho4.row hrow (fun _ _ x => x))
      have HBR4 := Lib.hid (ho4.at_ hbr (fun x => x))
      have HO4 := Lib.hid ho4
      have HDD := Lib.hid hdd
      have hkl : k ≤ 1099511627776 := by omega
      have hk0 : (0 : Int) ≤ (k : Int) := by omega
      have hk1 : (k : Int) < (n : Int) := by omega
      obtain ⟨m, hm⟩ : ∃ m, m = dd.above.length := ⟨_, rfl⟩
      unfold destCells at hw4
      rw [← hm] at hw4 x3 d3
      have HM := Lib.hid hm
      clear hnl0 st y0 y1 y2 y3 y4 y5 y6 hbr hrow hor hbp hdd hdat ho4 hb4 hs4 I hgg hcx hm
      go_upto_region 6 with fail
      rw [← hw4, ← hu]
      clear hw4 hu x0 x1 x2 x3 x4 x5 x6 c0 c1 c2
      have hb4 : w3.heap.size ≤ w4.heap.size := Nat.le_trans HOR.out.size HO4.out.size
      have hno : ∀ g : Nat, (Value.slice A' k c').ownBlock ≠ some r := fun _ hk => by have h1 := (HR4.out.lt _ hk).1; have h2 := HP.out.2.2.2.2.2.2.2.2; omega
      go_wp2_with (at_builtin; refine wpList_push7 rfl _ _ rfl Tryz.underlying65 infoDest11 rfl w3.heap.size (.slice A' k c') k (destsCells (ds.take k)) rfl HR4.out #[.string dd.name, .int .u64 dd.since, .int .u64 dd.low, .slice B m cb, .int .u64 dd.acked, .int .u64 dd.evicted, .int .u64 dd.rejected] rfl rfl (dest_one dd B m cb) hkl hb4 ?_; intro g cap w5 hrow hps; have hbr5 := hps.keep r _ HBR4.out (hno g); have z2 : w5.cell? ⟨r, 2, none⟩ = some (.slice A' k c') := Heap.cell hbr5 2; have f2 := Heap.frozen hbr5 2)
      have HBR5 := Lib.hid hbr5
      have HROW5 := Lib.hid hrow
      have HPS := Lib.hid hps
      clear hbr5 hrow hps d0 d1 d2 d3 d4 d5 d6 v2 z2 f2
      go_roundg (g0 - 1)
      case measure => have := HGG.out; omega
      case rel =>
        refine ⟨k + 1, g0 - 1, rfl, by omega, by go_num, some ⟨g, 0, none⟩, cap, (Heap.set HBR5.out 2 _).trans (by simp), ?_, ?_⟩
        · have h1 : ds.take (k + 1) = ds.take k ++ [(dd, .slice B m cb)] := by rw [List.take_add_one, HDD.out, ← HM.out]; rfl
          rw [h1, destsCells_snoc]
          refine ((Off.refl (Only r) w5).set 2 _).row HROW5.out (fun j hj x => ?_)
          have h1 := (HROW5.out.lt j hj).1
          have h2 := HP.out.2.2.2.2.2.2.2.2
          have h3 : j = r := x
          omega
        · refine (((HOR.out.quiet_trans HO4.out).trans HPS.out.off (fun j hj x => ?_)).set 2 _)
          have h1 := (HR4.out.lt j x).1
          omega
    · have hkn' : k = n := by omega
      have hbq := hor.at_ HB.out.2.1 (fun x => HP.out.2.2.2.2.2.1 x)
      have HBQ := Lib.hid hbq
      have z0 : wr.cell? ⟨q, 0, none⟩ = some (.int .u64 0) := Heap.cell hbq 0
      have z1 : wr.cell? ⟨q, 1, none⟩ = some (.int .u64 0) := Heap.cell hbq 1
      have z2 : wr.cell? ⟨q, 2, none⟩ = some (.slice none 0 0) := Heap.cell hbq 2
      have f0 := Heap.frozen hbq 0
      have f1 := Heap.frozen hbq 1
      have f2 := Heap.frozen hbq 2
      have x0 : wr.cell? ⟨r, 0, none⟩ = some (.int .u64 l.first) := Heap.cell hbr 0
      have x1 : wr.cell? ⟨r, 1, none⟩ = some (.int .u64 l.next) := Heap.cell hbr 1
      have x2 : wr.cell? ⟨r, 2, none⟩ = some (.slice A' k c') := Heap.cell hbr 2
      have HKN := Lib.hid hkn'
      clear hbq hbr hrow hor hbp I hgg hkn'
      go_wp2_with fail
      refine bodyPost_ret_by (results_cell_row rfl _ _ q _ _ _ _ rfl (box3' HBQ.out _ _ _) Tryz.underlying67 rfl sizeLed11) rfl ?_
      have hrow := HR.out.2
      have hkd : k = ds.length := by rw [HKN.out]; exact HD.out.2.2
      have hrow' : wr.ownsRow w3.heap.size 107 7 (.slice A' k c') ds.length (destsCells ds) := by
        rw [hkd, List.take_length] at hrow
        rw [hkd]
        exact hrow
      have h3 : Off None w wr := HO.out.trans HOR.out (fun j hj x => by have h1 := HP.out.2.2.1; have h2 : j = r := x; omega)
      have hw := HO.out.size
      refine ⟨⟨_, rfl, _, ds, rfl, HD.out.2.1, ?_, HF.out.1, HF.out.2⟩, off3 h3 (.inr HP.out.2.1) _ _ _⟩
      refine grown_any (w3 := wr) (w2 := w3) (by rw [← hkd]; omega) HD.out.1.each hrow' h3 hw (off3 (G := fun b => b = q) (Off.refl _ wr) (.inl rfl) _ _ _) (fun b hb => ?_)
      rw [hb]
      exact ⟨HP.out.2.1, HP.out.2.2.2.2.2.2.2.1⟩
end LawS
end Go.Proofs.YtndgnlblbjpogaaGreatDoor
