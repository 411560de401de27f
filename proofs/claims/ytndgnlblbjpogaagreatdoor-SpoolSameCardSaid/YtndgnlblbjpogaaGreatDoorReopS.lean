/- A good spool, opened again beside itself. -/
import Derived.Test.YtndgnlblbjpogaaGreatDoorPlayS
import Derived.Test.YtndgnlblbjpogaaGreatDoorLedT
namespace Go.Proofs.YtndgnlblbjpogaaGreatDoor
open Go Go.RowKit Go.Shelf Led
theorem FLog.reopen_lim {R f0 N : Nat} {L : LogV} {D : DiskV} {full : List Grp} {act : Grp} {ck : Option (List UInt8)} (h : FLog R f0 L D full act (ckFile ck)) (hl : Lim N D) : ∃ D', D.opened = (D', 0, full.map Grp.seg ++ [act.seg]) ∧ FLog R f0 ⟨full.map Grp.seg, act.seg, act.seg⟩ D' full act (ckFile ck) ∧ Lim N D' := by
  obtain ⟨D', hd, hg⟩ := (h.disk.perm (perm_act full act (ckFile ck))).sync
  refine ⟨D', ?_, ⟨hg.perm (perm_act full act (ckFile ck)).symm, rfl, rfl, h.chain, h.small, h.few⟩, ?_⟩
  · unfold DiskV.opened
    rw [h.firsts_eq, if_neg (by simp), openGo_good D D' act.end_ full h.few f0 [] act h.chain h.small (fun g hg2 => ?_) hd, List.nil_append, List.map_append]
    · rfl
    · exact h.disk.read (List.mem_append.2 (.inr (List.mem_map.2 ⟨g, hg2, rfl⟩)))
  · have := lim_sync hl (Seg.nameB act.first)
    have e := congrArg Prod.fst hd
    rw [show D' = (D.sync (Seg.nameB act.first)).1 from e.symm]
    exact this
theorem FLog.names_len {R f0 : Nat} {L : LogV} {D : DiskV} {full : List Grp} {act : Grp} {ck : Option (List UInt8)} (h : FLog R f0 L D full act (ckFile ck)) : ∀ s ∈ D.list, s.length ≤ 1000 := by
  intro s hs
  rw [h.list_eq] at hs
  rcases List.mem_append.1 hs with hs | hs
  · cases ck with
    | none => cases hs
    | some t => rw [show s = [99, 107] from List.mem_singleton.1 hs]; decide
  · obtain ⟨g, hg, rfl⟩ := List.mem_map.1 hs
    have h1 := h.ends hg
    rw [Seg.nameL_length (by omega)]
    omega
/-- What Open finds, and leaves, where a marked spool is opened again. -/
structure Again (P : SpoolV) (full : List Grp) (act : Grp) (M N : Nat) (budget segm : Int) (D1 D2 : DiskV) : Prop where
  clean : P.disk.clean = (D1, 0)
  kept : keptV D1 P.led = (P.led, 0)
  opened : D1.opened = (D2, 0, full.map Grp.seg ++ [act.seg])
  marked : Marked D1 P.led
  len : ∀ s ∈ P.disk.list, s.length ≤ 1000
  names : ∀ s ∈ D1.list, NameOk s
  firsts : ∀ u ∈ D1.firsts, u ≤ 1000000000000
  wk : (⟨budget, segm, ⟨full.map Grp.seg, act.seg, act.seg⟩, P.led, D2⟩ : SpoolV).Wk M (N + N)
  elder : ({ P with disk := D2 } : SpoolV).Wk M (N + N)
  first : (⟨full.map Grp.seg, act.seg, act.seg⟩ : LogV).first0 = P.led.first
  right : ({ P.led with next := act.seg.end_ } : LedgerV).Right nmOk
  led : ({ P.led with next := act.seg.end_ } : LedgerV) = P.led
  big : act.seg.end_ ≤ big
  good : SGood 1000000 100 ⟨budget, segm, ⟨full.map Grp.seg, act.seg, act.seg⟩, P.led, D2⟩ full act (some (Mark.markL P.led))
  good' : SGood 1000000 100 { P with disk := D2 } full act (some (Mark.markL P.led))
theorem SGood.again {P : SpoolV} {full : List Grp} {act : Grp} {M N : Nat} (h : SGood 1000000 100 P full act (some (Mark.markL P.led))) (hk : P.Wk M N) (hN : N + N ≤ 900000) (budget segm : Int) : ∃ D1 D2, Again P full act M N budget segm D1 D2 := by
  obtain ⟨D1, e1, h1⟩ := h.log.clean
  obtain ⟨k0, hl0, hk0⟩ := hk.lim
  have hl1 : Lim (k0 + k0) D1 := by have := lim_clean hl0 (by omega); rw [e1] at this; exact this
  obtain ⟨D2, e2, h2, hl2⟩ := h1.reopen_lim hl1
  have hrd : D1.read ckB = (Mark.markB P.led, 0) := h1.disk.read (List.mem_append.2 (.inl (List.mem_singleton.2 rfl)))
  have hg : SGood 1000000 100 ⟨budget, segm, ⟨full.map Grp.seg, act.seg, act.seg⟩, P.led, D2⟩ full act (some (Mark.markL P.led)) :=
    ⟨h2, h.right, h.next, h.le, h.ckl, act.bodies.length, Nat.le_refl _, by rw [List.take_length]⟩
  have hend : act.seg.end_ = P.led.next := h.next.symm
  have hled : ({ P.led with next := act.seg.end_ } : LedgerV) = P.led := by rw [hend]
  have hle : act.end_ ≤ 100 := h.le
  have hnx := h.next
  have hsg : (⟨full.map Grp.seg, act.seg, act.seg⟩ : LogV).segs = P.log.segs := by
    unfold LogV.segs
    rw [h.log.efull, h.log.eact]
  refine ⟨D1, D2, ⟨e1, by unfold keptV; rw [hrd]; rfl, e2, fun _ => ⟨by rw [hrd], h.right, by omega⟩, h.log.names_len, h1.names_ok, fun u hu => ?_, ?_, ?_, hg.first0, by rw [hled]; exact h.right, hled, by show act.end_ ≤ 549755813888; omega, hg, ⟨⟨h2.disk, h.log.efull, h.log.eact, h2.chain, h2.small, h2.few⟩, h.right, h.next, h.le, h.ckl, h.dur⟩⟩⟩
  · rw [h1.firsts_eq] at hu
    obtain ⟨g, hg, rfl⟩ := List.mem_map.1 hu
    have := h1.ends hg
    omega
  · refine ⟨hk.le, hN, hk.right, hk.next, ⟨by rw [hsg]; exact hk.nums.segs, ?_⟩, k0 + k0, hl2, by rw [hsg]; omega⟩
    have := hk.nums.act
    rw [h.log.eact] at this
    exact this
  · exact ⟨hk.le, hN, hk.right, hk.next, hk.nums, k0 + k0, hl2, by show _ + 12 * P.log.segs.length ≤ _; omega⟩
theorem Play.reopen {n k : Nat} {A : Nat → Prop} {w : World} {sp d : Nat} {P : SpoolV} {full : List Grp} {act : Grp} (h : Play n k A w sp d P full act (some (Mark.markL P.led))) (hk : k ≤ 80) (budget segm : Int) (hc : checkV budget segm = 0) :
    Calls Tryz.prog 31 #[.pointer (some ⟨d, 0, none⟩), .agg #[.int .i64 budget, .int .i64 segm]] w fun e w' => (∃ x, e = .returned (.tuple #[.pointer (some ⟨x, 0, none⟩), .int .i64 0]) ∧ ∃ D2, Play n (2 * k + 1) A w' x d ⟨budget, segm, ⟨full.map Grp.seg, act.seg, act.seg⟩, P.led, D2⟩ full act (some (Mark.markL P.led)) ∧ Play n (2 * k + 1) A w' sp d { P with disk := D2 } full act (some (Mark.markL P.led))) ∧ Off (Spare n A) w w' := by
  obtain ⟨⟨F, hat, hlow⟩, hown, hln, hgl, hwk⟩ := h.held
  obtain ⟨lg, off, sv, Fs, S, hin⟩ := hat
  obtain ⟨g, cap, Fd, hst⟩ := hin.st
  obtain ⟨D1, D2, ha⟩ := h.good.again hwk (by omega) budget segm
  have hFd : ∀ b, Fd b → n ≤ b := fun b hb => (hlow b (hin.inF b (hst.inD b hb))).1
  refine (Spool.open_any w d n (14 + 40 * k) (1 + k) (14 + 40 * k + (14 + 40 * k)) budget segm P.disk D1 D2 Fd P.led P.led (full.map Grp.seg) act.seg hst.disk hFd hln hgl hwk.limN (by omega) ha.len ha.marked hc ha.clean ha.kept ha.opened ha.names ha.firsts ha.wk ha.first ha.right ha.big).mono ?_
  rintro e w' ⟨x, rfl, hxs, hax, ho⟩
  rw [ha.led] at hax
  have hs := ho.size
  have hsp : ¬ Fd sp := fun y => hin.sepF (hst.inD sp y)
  have hdisk : DiskIn w' d D2 (Grow Fd w w') := by
    obtain ⟨lg2, off2, sv2, Fs2, S2, hin2⟩ := hax
    obtain ⟨g2, cap2, Fd2, hst2⟩ := hin2.st
    exact hst2.disk.mono fun b hb y => hin2.inF b (hst2.inD b y)
  have hst' := hst.disk' hdisk ho
  have hel : SpoolIn w' sp d { P with disk := D2 } (Grow F w w') lg off sv (Grow Fs w w') S :=
    ⟨ho.at_ hin.core hsp, ⟨g, cap, _, hst'⟩, hin.led.off ho (fun b hb _ y => hin.sep b (hst.inD b y) hb), fun y => y.elim hin.sepF (fun z => by have := Heap.lt hin.core; omega), hin.sepS,
      fun b y => y.elim (hin.sep b) (fun z hb => by have := hin.lowS b hb; omega), .inl hin.inP, fun b y => y.imp (hin.inF b) id, fun b y => .inl (hin.inS b y), fun b y => y.elim (fun z => Nat.lt_of_lt_of_le (hin.lowF b z) hs) (fun z => z.2), fun b y => Nat.lt_of_lt_of_le (hin.lowS b y) hs⟩
  have hgl' : Glob n w' := hgl.off ho hFd
  have hle := hwk.le
  have hoA : ∀ b, A b → b < w'.heap.size := fun b hb => Nat.lt_of_lt_of_le (hown b hb) hs
  have h1 : SHeld (1 + k) (14 + 40 * k + (14 + 40 * k)) n A w' x d ⟨budget, segm, ⟨full.map Grp.seg, act.seg, act.seg⟩, P.led, D2⟩ := by
    refine ⟨⟨fun b => Grow Fd w w' b ∧ b < w'.heap.size, hax.mono (fun b hb y => ⟨y, hb⟩), fun b hb => ⟨hb.1.elim (hFd b) (fun y => Nat.le_trans hln y.1), fun y => ?_, hb.2⟩⟩, hoA, Nat.le_trans hln hs, hgl', ha.wk⟩
    rcases hb.1 with z | z
    · exact (hlow b (hin.inF b (hst.inD b z))).2.1 y
    · have := hown b y
      omega
  have h2 : SHeld (1 + k) (14 + 40 * k + (14 + 40 * k)) n A w' sp d { P with disk := D2 } := by
    refine ⟨⟨Grow F w w', ⟨lg, off, sv, _, S, hel⟩, fun b hb => ⟨hb.elim (fun y => (hlow b y).1) (fun y => Nat.le_trans hln y.1), fun y => ?_, hb.elim (fun y => Nat.lt_of_lt_of_le (hlow b y).2.2 hs) (fun y => y.2)⟩⟩, hoA, Nat.le_trans hln hs, hgl', ha.elder⟩
    rcases hb with z | z
    · exact (hlow b z).2.1 y
    · have := hown b y
      omega
  have he := h.end_
  exact ⟨⟨x, rfl, D2, ⟨h1.up (by omega) (by omega) (by omega) (by omega), ha.good, by omega⟩, ⟨h2.up (by omega) (by omega) (by omega) (by omega), ha.good', by omega⟩⟩, ho.mono fun b _ y => ⟨hFd b y, (hlow b (hin.inF b (hst.inD b y))).2.1⟩⟩
theorem Play.save {n k : Nat} {A : Nat → Prop} {w : World} {sp d : Nat} {P : SpoolV} {full : List Grp} {act : Grp} {ck : Option (List UInt8)} (h : Play n k A w sp d P full act ck) (hk : k ≤ 80) :
    Calls Tryz.prog 30 #[.pointer (some ⟨sp, 0, none⟩)] w fun e w' => e = .returned (.int .i64 0) ∧ (∃ P', Play n (k + 1) A w' sp d P' full act (some (Mark.markL P'.led)) ∧ P'.led = P.led ∧ P'.log = P.log) ∧ Off (Spare n A) w w' := by
  obtain ⟨hg, _, e0, hl, hlog⟩ := h.good.save bears_begun
  have hc := h.held.save (by omega)
  rw [e0] at hc
  refine hc.mono ?_
  rintro e w' ⟨rfl, hs, ho⟩
  exact ⟨rfl, ⟨P.save.1, ⟨hs.up (by omega) (by omega) (by omega) (by omega), by rw [hl]; exact hg, by have := h.end_; omega⟩, hl, hlog⟩, ho⟩
/-- A spool, and itself opened again, both on one disk. -/
structure Twins (n k : Nat) (A : Nat → Prop) (w : World) (x sp d : Nat) (X E : SpoolV) (l : LedgerV) : Prop where
  px : ∃ full act ck, Play n k A w x d X full act ck
  pe : ∃ full act ck, Play n k A w sp d E full act ck
  lx : X.led = l
  le : E.led = l
  bytes : E.log.bytes = X.log.bytes
  dur : X.log.durable.end_ = l.next
  gets : ∀ z, l.first ≤ z → z < l.next → ∃ t, X.log.get X.disk z = (t, 0) ∧ E.log.get E.disk z = (t, 0)
  low : l.next ≤ 100
namespace Twins
variable {n k : Nat} {A : Nat → Prop} {w w' : World} {x sp d : Nat} {X E : SpoolV} {l : LedgerV}
theorem quiet (h : Twins n k A w x sp d X E l) (ho : Off None w w') : Twins n k A w' x sp d X E l := by
  obtain ⟨f1, a1, c1, h1⟩ := h.px
  obtain ⟨f2, a2, c2, h2⟩ := h.pe
  exact ⟨⟨f1, a1, c1, h1.quiet ho⟩, ⟨f2, a2, c2, h2.quiet ho⟩, h.lx, h.le, h.bytes, h.dur, h.gets, h.low⟩
theorem bytesX (h : Twins n k A w x sp d X E l) : Calls Tryz.prog 13 #[.pointer (some ⟨x, 0, none⟩)] w fun e w' => e = .returned (.int .i64 X.log.bytes) ∧ Off None w w' := by
  obtain ⟨f1, a1, c1, h1⟩ := h.px
  exact h1.held.bytes
theorem bytesE (h : Twins n k A w x sp d X E l) : Calls Tryz.prog 13 #[.pointer (some ⟨sp, 0, none⟩)] w fun e w' => e = .returned (.int .i64 X.log.bytes) ∧ Off None w w' := by
  obtain ⟨f1, a1, c1, h1⟩ := h.pe
  rw [← h.bytes]
  exact h1.held.bytes
theorem durX (h : Twins n k A w x sp d X E l) : Calls Tryz.prog 23 #[.pointer (some ⟨x, 0, none⟩)] w fun e w' => e = .returned (.int .u64 l.next) ∧ Off None w w' := by
  obtain ⟨f1, a1, c1, h1⟩ := h.px
  rw [← h.dur]
  exact h1.held.durable
theorem ledX (h : Twins n k A w x sp d X E l) : Calls Tryz.prog 12 #[.pointer (some ⟨x, 0, none⟩)] w fun e w' => ∃ lv, e = .returned lv ∧ LedgerAt w' (fun b => w.heap.size ≤ b) lv l ∧ Off None w w' := by
  obtain ⟨f1, a1, c1, h1⟩ := h.px
  rw [← h.lx]
  exact h1.held.ledger
theorem ledE (h : Twins n k A w x sp d X E l) : Calls Tryz.prog 12 #[.pointer (some ⟨sp, 0, none⟩)] w fun e w' => ∃ lv, e = .returned lv ∧ LedgerAt w' (fun b => w.heap.size ≤ b) lv l ∧ Off None w w' := by
  obtain ⟨f1, a1, c1, h1⟩ := h.pe
  rw [← h.le]
  exact h1.held.ledger
theorem got (h : Twins n k A w x sp d X E l) {z : Nat} (h1 : l.first ≤ z) (h2 : z < l.next) : ∃ t, (∀ W, Off None w W → Calls Tryz.prog 28 #[.pointer (some ⟨sp, 0, none⟩), .int .u64 z] W fun e w' => e = .returned (.tuple #[.string t, .int .i64 0]) ∧ Off None W w') ∧
    (∀ W, Off None w W → Calls Tryz.prog 28 #[.pointer (some ⟨x, 0, none⟩), .int .u64 z] W fun e w' => e = .returned (.tuple #[.string t, .int .i64 0]) ∧ Off None W w') := by
  obtain ⟨f1, a1, c1, p1⟩ := h.px
  obtain ⟨f2, a2, c2, p2⟩ := h.pe
  obtain ⟨t, e1, e2⟩ := h.gets z h1 h2
  have hl := h.low
  refine ⟨t, fun W hW => ?_, fun W hW => ?_⟩
  · have := (p2.quiet hW).held.get z (by omega)
    rw [e2] at this
    exact this
  · have := (p1.quiet hW).held.get z (by omega)
    rw [e1] at this
    exact this
end Twins
theorem Play.twins {n k : Nat} {A : Nat → Prop} {w : World} {sp d : Nat} {P : SpoolV} {full : List Grp} {act : Grp} (h : Play n k A w sp d P full act (some (Mark.markL P.led))) (hk : k ≤ 80) (budget segm : Int) (hc : checkV budget segm = 0) :
    Calls Tryz.prog 31 #[.pointer (some ⟨d, 0, none⟩), .agg #[.int .i64 budget, .int .i64 segm]] w fun e w' => (∃ x, e = .returned (.tuple #[.pointer (some ⟨x, 0, none⟩), .int .i64 0]) ∧ ∃ X E, Twins n (2 * k + 1) A w' x sp d X E P.led) ∧ Off (Spare n A) w w' := by
  refine (h.reopen hk budget segm hc).mono ?_
  rintro e w' ⟨⟨x, rfl, D2, hx, he⟩, ho⟩
  refine ⟨⟨x, rfl, _, _, ⟨full, act, _, hx⟩, ⟨full, act, _, he⟩, rfl, rfl, ?_, ?_, fun z h1 h2 => ?_, ?_⟩, ho⟩
  · rw [hx.good.log.bytes, he.good.log.bytes]
  · exact h.good.next.symm
  · have hch := h.good.log.chain
    have hrows := SGood.chain_rows _ _ _ hch
    have hnx := h.good.next
    have hlt : z - P.led.first < ((full ++ [act]).flatMap (·.bodies)).length := by omega
    have g1 := hx.good.log.get_some (List.getElem?_eq_getElem hlt)
    have g2 := he.good.log.get_some (List.getElem?_eq_getElem hlt)
    have e : P.led.first + (z - P.led.first) = z := by omega
    dsimp only at g1 g2
    rw [e] at g1 g2
    exact ⟨_, g1, g2⟩
  · have := h.good.next
    have := h.good.le
    omega
end Go.Proofs.YtndgnlblbjpogaaGreatDoor
