/- A spool in memory; the walk of kept. · A spool in memory; how it is laid; the walk of Open where nothing fails. · A spool in memory; the walk of Open where nothing fails. -/
import Derived.Test.YtndgnlblbjpogaaGreatDoorLedE
import Derived.Test.YtndgnlblbjpogaaGreatDoorSOpenM
import Derived.Test.YtndgnlblbjpogaaGreatDoorMark4
import Derived.Test.YtndgnlblbjpogaaGreatDoorSpool4
namespace Go.Proofs.YtndgnlblbjpogaaGreatDoor
open Go Go.RowKit Go.Shelf Led
theorem zero_led (w : World) : LedgerAt w (fun _ => False) (.agg #[.int .u64 1, .int .u64 1, .slice none 0 0]) LedgerV.new :=
  ⟨.slice none 0 0, [], rfl, rfl, ⟨⟨by simp [destsCells], by decide, .inl ⟨rfl, rfl⟩⟩, fun p hp => by cases hp⟩, by decide, by decide⟩
namespace Spool
set_option maxHeartbeats 1000000 in
set_option maxRecDepth 100000 in
theorem kept_any (w : World) (d : Nat) (F : Nat → Prop) (D : DiskV) (l : LedgerV) (h : DiskIn w d D F) (hm : Marked D l) :
    Calls Tryz.prog 67 #[.pointer (some ⟨d, 0, none⟩)] w fun e w' => ∃ (a b : Int) (A : Option Addr) (k c : Nat), e = .returned (.tuple #[.agg #[.int .u64 a, .int .u64 b, .slice A k c], .int .i64 (keptV D l).2]) ∧
      ((keptV D l).2 = 0 → LedgerAt w' (fun b => w.heap.size ≤ b) (.agg #[.int .u64 a, .int .u64 b, .slice A k c]) (keptV D l).1) ∧ Off None w w' := by
  obtain ⟨R, hda, _⟩ := h
  obtain ⟨w1, hw1, ho1, hb1, hs1⟩ := boxed w #[.int .u64 0, .int .u64 0, .slice none 0 0] 34
  obtain ⟨q, hq⟩ : ∃ q, q = w.heap.size := ⟨_, rfl⟩
  rw [← hq] at hb1
  have hrd := DiskW.read_any w1 d D R (hda.off ho1 (fun _ _ x => x)) ckB (by show 2 ≤ maxLen; unfold maxLen; omega)
  have hkv : keptV D l = if (D.read ckB).2 = 0 then (l, 0) else if (D.read ckB).2 = 5 then (LedgerV.new, 0) else (⟨0, 0, []⟩, (D.read ckB).2) := rfl
  unfold Marked at hm
  generalize D.read ckB = RD at hrd hkv hm
  obtain ⟨t, er⟩ := RD
  dsimp only at hrd hkv hm
  have HRD := Lib.hid hrd
  have HKV := Lib.hid hkv
  have HO := Lib.hid (And.intro ho1 (And.intro hq hs1))
  have HB := Lib.hid hb1
  have hql : w.heap.size ≤ q := by omega
  have q0 := Heap.cell hb1 0
  have q1 := Heap.cell hb1 1
  have q2 := Heap.cell hb1 2
  have f0 := Heap.frozen hb1 0
  have f1 := Heap.frozen hb1 1
  have f2 := Heap.frozen hb1 2
  clear hda hrd hkv ho1 hb1 hs1
  by_cases h0 : er = 0
  · subst h0
    obtain ⟨rfl, hr, hn⟩ := hm rfl
    have HT := Lib.hid (Mark.take_any w1 l hr hn)
    clear hm hr hn q0 q1 q2 f0 f1 f2
    go_enter Tryz.func67, Tryz.ntmps67
    go_wp2_with fail
    rw [← hw1, ← hq]
    clear hw1 hq
    refine HRD.out.mono ?_
    rintro e w2 ⟨rfl, rfl⟩
    go_wp2_with fail
    refine HT.out.mono ?_
    rintro e w3 ⟨lv, rfl, hl3, ho3⟩
    have hl3' := hl3
    obtain ⟨sv, ds, rfl, _, hd, _, _⟩ := hl3'
    obtain ⟨A, c, rfl⟩ := hd.row.form
    have hb3 := ho3.at_ HB.out (fun x => x)
    have z0 := Heap.cell hb3 0
    have z1 := Heap.cell hb3 1
    have z2 := Heap.cell hb3 2
    have y0 := Heap.frozen hb3 0
    have y1 := Heap.frozen hb3 1
    have y2 := Heap.frozen hb3 2
    have H3 := Lib.hid (And.intro hl3 (And.intro ho3 hb3))
    clear hl3 hd ho3 hb3
    go_wp2_with fail
    refine bodyPost_ret_by (results_row_tmp' rfl _ _ q _ _ _ _ rfl (box3' H3.out.2.2 _ _ _) Tryz.underlying34 rfl infoLed) rfl ⟨_, _, A, ds.length, c, by rw [HKV.out]; rfl, fun _ => ?_, ?_⟩
    · rw [HKV.out, if_pos (by trivial)]
      refine (H3.out.1.off (off3 (G := Only q) (Off.refl _ _) (.inl rfl) _ _ _) (fun b hb _ e => ?_)).mono (fun b hb _ => ?_)
      · have h1 : b = q := e
        have h2 : w1.heap.size ≤ b := hb
        have h3 := HO.out
        omega
      · exact Nat.le_trans HO.out.1.size hb
    · exact off3 (HO.out.1.quiet_trans H3.out.2.1) (.inr hql) _ _ _
  by_cases h5 : er = 5
  · subst h5
    have HN := Lib.hid (Led.new_any w1)
    clear hm q0 q1 q2 f0 f1 f2
    go_enter Tryz.func67, Tryz.ntmps67
    go_wp2_with fail
    rw [← hw1, ← hq]
    clear hw1 hq
    refine HRD.out.mono ?_
    rintro e w2 ⟨rfl, rfl⟩
    go_wp2_with fail
    refine HN.out.mono ?_
    rintro e w3 ⟨rfl, ho3⟩
    have hb3 := ho3.at_ HB.out (fun x => x)
    have z0 := Heap.cell hb3 0
    have z1 := Heap.cell hb3 1
    have z2 := Heap.cell hb3 2
    have y0 := Heap.frozen hb3 0
    have y1 := Heap.frozen hb3 1
    have y2 := Heap.frozen hb3 2
    have H3 := Lib.hid (And.intro ho3 hb3)
    clear ho3 hb3
    go_wp2_with fail
    refine bodyPost_ret_by (results_row_tmp' rfl _ _ q _ _ _ _ rfl (box3' H3.out.2 _ _ _) Tryz.underlying34 rfl infoLed) rfl ⟨1, 1, none, 0, 0, by rw [HKV.out]; rfl, fun _ => ?_, ?_⟩
    · rw [HKV.out, if_neg (by decide), if_pos (by trivial)]
      exact (zero_led _).mono fun b hb _ => hb.elim
    · exact off3 (HO.out.1.quiet_trans H3.out.1) (.inr hql) _ _ _
  · have k1 : (er == 0) = false := by simpa using h0
    have k2 : (er == 5) = false := by simpa using h5
    clear hm
    go_enter Tryz.func67, Tryz.ntmps67
    go_wp2_with fail
    rw [← hw1, ← hq]
    clear hw1 hq
    refine HRD.out.mono ?_
    rintro e w2 ⟨rfl, rfl⟩
    go_wp2_with fail
    refine bodyPost_ret_by (results_row_tmp' rfl _ _ q _ _ _ _ rfl (box3' HB.out _ _ _) Tryz.underlying34 rfl infoLed) rfl ⟨0, 0, none, 0, 0, ?_, fun hz => ?_, ?_⟩
    · rw [HKV.out, if_neg h0, if_neg h5]
      rfl
    · rw [HKV.out, if_neg h0, if_neg h5] at hz
      exact absurd hz h0
    · exact off3 HO.out.1 (.inr hql) _ _ _
end Spool
end Go.Proofs.YtndgnlblbjpogaaGreatDoor
namespace Go.Proofs.YtndgnlblbjpogaaGreatDoor
open Go Go.RowKit Go.Shelf Go.Sort Led
/-- Store of a number alone: the next one. -/
theorem SpoolIn.setNext {w : World} {sp d lg off : Nat} {P : SpoolV} {F Fs S : Nat → Prop} {sv : Value} (h : SpoolIn w sp d P F lg off sv Fs S) (nx : Nat) (hnx : nx ≤ big) :
    SpoolIn (w.setCell ⟨sp, 5, none⟩ (.int .u64 nx)) sp d { P with led := { P.led with next := nx } } F lg off sv Fs S := by
  have ho : Off (Only sp) w (w.setCell ⟨sp, 5, none⟩ (.int .u64 nx)) := (Off.refl (Only sp) w).set 5 _
  have hc := (Heap.set h.core 5 (.int .u64 nx)).trans rfl
  obtain ⟨sv', ds, e1, h2, h3, h4, h5⟩ := h.led
  have hsv : sv = sv' := by
    injection e1 with e1
    injection e1 with e1
    injection e1 with _ e1
    injection e1 with _ e1
    injection e1
  subst hsv
  have hl : LedgerAt w S (ledAgg { P.led with next := nx } sv) { P.led with next := nx } := ⟨sv, ds, rfl, h2, h3, h4, hnx⟩
  exact ⟨hc, h.st.off ho (fun b x e => h.sepF (by rw [← show b = sp from e]; exact x)), hl.off ho (fun b x _ e => h.sepS (by rw [← show b = sp from e]; exact x)), h.sepF, h.sepS, h.sep, h.inP, h.inF, h.inS, fun b x => Nat.lt_of_lt_of_le (h.lowF b x) ho.size, fun b x => Nat.lt_of_lt_of_le (h.lowS b x) ho.size⟩
def sp0 (d : Nat) (budget segm : Int) : Array Value := #[.pointer (some ⟨d, 0, none⟩), .int .i64 budget, .int .i64 segm, .pointer none, .int .u64 0, .int .u64 0, .slice none 0 0]
/-- A spool that is laid piece by piece. -/
theorem spool_laid {w wb wc wd wf : World} {sp d lg k c : Nat} {A : Option Addr} {budget segm : Int} {F : Nat → Prop} {D1 D2 : DiskV} {l : LedgerV} {xs : List SegV} {a : SegV}
    (hsp : w.heap.size ≤ sp) (hspb : sp < wb.heap.size) (hwb : Off None w wb) (hcell : wb.heap[sp]? = some (.cells (sp0 d budget segm) 72 (0, 0)))
    (hcl : After wb d (fun b => F b ∧ b < w.heap.size) D1 wc) (hkd : Off None wc wd) (hl : LedgerAt wd (fun b => wc.heap.size ≤ b) (.agg #[.int .u64 l.first, .int .u64 l.next, .slice A k c]) l)
    (hst : Store wf lg d ⟨xs, a, a⟩ D2 (Grow (Grow (fun b => F b ∧ b < w.heap.size) wb wc) (((wd.setCell ⟨sp, 4, none⟩ (.int .u64 l.first)).setCell ⟨sp, 5, none⟩ (.int .u64 l.next)).setCell ⟨sp, 6, none⟩ (.slice A k c)) wf) 0)
    (hof : Off (Grow (fun b => F b ∧ b < w.heap.size) wb wc) (((wd.setCell ⟨sp, 4, none⟩ (.int .u64 l.first)).setCell ⟨sp, 5, none⟩ (.int .u64 l.next)).setCell ⟨sp, 6, none⟩ (.slice A k c)) wf) :
    SpoolAt (wf.setCell ⟨sp, 3, none⟩ (.pointer (some ⟨lg, 0, none⟩))) sp d ⟨budget, segm, ⟨xs, a, a⟩, l, D2⟩ (Grow F w (wf.setCell ⟨sp, 3, none⟩ (.pointer (some ⟨lg, 0, none⟩)))) ∧ Off F w (wf.setCell ⟨sp, 3, none⟩ (.pointer (some ⟨lg, 0, none⟩))) := by
  have s0 := hwb.size
  have s1 := hcl.off.size
  have s2 := hkd.size
  obtain ⟨we, hwe⟩ : ∃ we, we = (((wd.setCell ⟨sp, 4, none⟩ (.int .u64 l.first)).setCell ⟨sp, 5, none⟩ (.int .u64 l.next)).setCell ⟨sp, 6, none⟩ (.slice A k c)) := ⟨_, rfl⟩
  have hde : Off (Only sp) wd we := by rw [hwe]; exact (((Off.refl (Only sp) wd).set 4 _).set 5 _).set 6 _
  have hes : we.heap.size = wd.heap.size := by rw [hwe]; simp
  rw [← hwe] at hst hof
  have s3 := hof.size
  have hfg : Off (Only sp) wf (wf.setCell ⟨sp, 3, none⟩ (.pointer (some ⟨lg, 0, none⟩))) := (Off.refl (Only sp) wf).set 3 _
  have hgs : (wf.setCell ⟨sp, 3, none⟩ (.pointer (some ⟨lg, 0, none⟩))).heap.size = wf.heap.size := by simp
  have nF : ¬ Grow (fun b => F b ∧ b < w.heap.size) wb wc sp := fun x => x.elim (fun y => by have := y.2; omega) (fun y => by have := y.1; omega)
  have hc := hcl.off.at_ hcell (fun x => by have := x.2; omega)
  have hd := hkd.at_ hc (fun x => x)
  have he : we.heap[sp]? = some (.cells #[.pointer (some ⟨d, 0, none⟩), .int .i64 budget, .int .i64 segm, .pointer none, .int .u64 l.first, .int .u64 l.next, .slice A k c] 72 (0, 0)) := by
    rw [hwe]
    exact (Heap.set (Heap.set (Heap.set hd 4 _) 5 _) 6 _).trans rfl
  have hf := hof.at_ he nF
  have hg : (wf.setCell ⟨sp, 3, none⟩ (.pointer (some ⟨lg, 0, none⟩))).heap[sp]? = some (.cells (spoolCells d lg ⟨budget, segm, ⟨xs, a, a⟩, l, D2⟩ (.slice A k c)) 72 (0, 0)) := (Heap.set hf 3 _).trans rfl
  have nG : ¬ (Grow (Grow (fun b => F b ∧ b < w.heap.size) wb wc) we wf sp ∧ sp < wf.heap.size) := fun x => x.1.elim nF (fun y => by have := y.1; omega)
  have hls : LedgerAt wd (fun b => wc.heap.size ≤ b ∧ b < wd.heap.size) (ledAgg l (.slice A k c)) l := hl.mono fun b x hb => ⟨x, hb⟩
  refine ⟨⟨lg, 0, .slice A k c, fun b => Grow (Grow (fun b => F b ∧ b < w.heap.size) wb wc) we wf b ∧ b < wf.heap.size, fun b => wc.heap.size ≤ b ∧ b < wd.heap.size, ⟨hg, hst.low.off hfg (fun b x e => nG (by rw [← show b = sp from e]; exact x)), ?_, nG, fun x => by have := x.1; omega, ?_, .inr ⟨hsp, by omega⟩, ?_, ?_, fun b x => by have := x.2; omega, fun b x => by have := x.2; omega⟩⟩, ?_⟩
  · exact ((hls.off hde (fun b x _ e => by have h1 : b = sp := e; have := x.1; omega)).off hof (fun b x _ y => by
      have h1 := x.1
      rcases y with y | y
      · have := y.2; omega
      · have := y.2; omega)).off hfg (fun b x _ e => by have h1 : b = sp := e; have := x.1; omega)
  · intro b x y
    have h1 := y.1
    have h2 := y.2
    rcases x.1 with x | x
    · rcases x with x | x
      · have := x.2; omega
      · have := x.2; omega
    · have := x.1; omega
  · intro b x
    have hb := x.2
    rcases x.1 with x | x
    · rcases x with x | x
      · exact .inl x.1
      · exact .inr ⟨by have := x.1; omega, by omega⟩
    · exact .inr ⟨by have := x.1; omega, by omega⟩
  · intro b x
    exact .inr ⟨by have := x.1; omega, by have := x.2; omega⟩
  · have o1 : Off F w wc := (hwb.mono (fun _ _ x => x.elim) : Off F w wb).trans (hcl.off.mono fun b _ x => x.1) (fun _ _ x => x)
    have o2 : Off F w we := (o1.quiet_trans hkd).trans hde (fun b hb e => by have h1 : b = sp := e; omega)
    refine (o2.trans hof (fun b hb x => ?_)).trans hfg (fun b hb e => by have h1 : b = sp := e; omega)
    rcases x with x | x
    · exact x.1
    · have := x.1; omega
end Go.Proofs.YtndgnlblbjpogaaGreatDoor
namespace Go.Proofs.YtndgnlblbjpogaaGreatDoor
open Go Go.RowKit Go.Shelf Go.Sort Led
namespace Spool
set_option maxHeartbeats 2000000 in
set_option maxRecDepth 100000 in
theorem open_any (w : World) (d n N M N' : Nat) (budget segm : Int) (D D1 D2 : DiskV) (F : Nat → Prop) (l l1 : LedgerV) (xs : List SegV) (a : SegV)
    (h : DiskIn w d D F) (hF : ∀ b, F b → n ≤ b) (hn : n ≤ w.heap.size) (hG : Glob n w) (hl : Lim N D) (hN : N + N ≤ 900000) (hnm : ∀ s ∈ D.list, s.length ≤ 1000) (hm : Marked D1 l)
    (e1 : checkV budget segm = 0) (e2 : D.clean = (D1, 0)) (e3 : keptV D1 l = (l1, 0)) (e4 : D1.opened = (D2, 0, xs ++ [a])) (hnk : ∀ s ∈ D1.list, NameOk s) (hub : ∀ u ∈ D1.firsts, u ≤ 1000000000000)
    (hwk : (⟨budget, segm, ⟨xs, a, a⟩, l1, D2⟩ : SpoolV).Wk M N') (h0 : (⟨xs, a, a⟩ : LogV).first0 = l1.first) (hr : ({ l1 with next := a.end_ } : LedgerV).Right nmOk) (hb : a.end_ ≤ big) :
    Calls Tryz.prog 31 #[.pointer (some ⟨d, 0, none⟩), .agg #[.int .i64 budget, .int .i64 segm]] w fun e w' => ∃ sp, e = .returned (.tuple #[.pointer (some ⟨sp, 0, none⟩), .int .i64 0]) ∧ w.heap.size ≤ sp ∧
      SpoolAt w' sp d ⟨budget, segm, ⟨xs, a, a⟩, { l1 with next := a.end_ }, D2⟩ (Grow F w w') ∧ Off F w w' := by
  obtain ⟨wa, sp, hwa, hsp, hoa, hq0, hcell, hsa⟩ := two_boxes w #[.int .i64 budget, .int .i64 segm] (sp0 d budget segm) 63 72
  have hck := check_any wa budget segm
  have e1' : (if segm < 1 then 1 else if budget < segm then 1 else if budget < 2016 then 1 else 0 : Int) = 0 := e1
  rw [e1'] at hck
  have h' : DiskIn w d D (fun b => F b ∧ b < w.heap.size) := h.mono (fun b hb hx => ⟨hx, hb⟩)
  have hcln := fun W (hW : Off None w W) => Swap.clean_any W d N (fun b => F b ∧ b < w.heap.size) D (h'.off hW (fun _ _ _ x => x)) hl (by omega) hnm
  rw [e2] at hcln
  dsimp only at hcln
  have HCK := Lib.hid hck
  have HCLN := Lib.hid hcln
  have HH := Lib.hid (And.intro hF (And.intro hn hG))
  have HL1 := Lib.hid (show Lim (N + N) D1 by have := lim_clean hl (by omega); rw [e2] at this; exact this)
  have HM := Lib.hid (And.intro hm e3)
  have HOP := Lib.hid (And.intro e4 (And.intro hnk hub))
  have HWK := Lib.hid (And.intro hwk (And.intro h0 (And.intro hr hb)))
  have HA := Lib.hid (And.intro hoa (And.intro hcell (And.intro hsp hsa)))
  have HN := Lib.hid hN
  obtain ⟨q, hq⟩ : ∃ q, q = w.heap.size := ⟨_, rfl⟩
  have hspq : q + 1 = sp := by omega
  unfold sp0 at hwa
  clear h h' hF hn hG hl hnm hm e2 e3 e4 hnk hub hwk h0 hr hb hck hcln hoa hcell hq0 hsa e1 e1' hN
  go_enter Tryz.func31, Tryz.ntmps31
  go_wp2_with fail
  rw [← hwa, ← hq, hspq]
  clear hwa hsp
  refine HCK.out.mono ?_
  rintro e wb ⟨rfl, hob⟩
  have HOB := Lib.hid hob
  clear hob
  go_wp2_with fail
  refine (HCLN.out _ (HA.out.1.quiet_trans HOB.out)).mono ?_
  rintro e wc ⟨rfl, hcl⟩
  have HCL := Lib.hid hcl
  have hkt := kept_any wc d _ D1 l hcl.disk HM.out.1
  rw [HM.out.2] at hkt
  dsimp only at hkt
  have HKT := Lib.hid hkt
  clear hcl hkt
  go_wp2_with fail
  refine HKT.out.mono ?_
  rintro e wd ⟨v1, v2, A, k, c, rfl, hl4, ho4⟩
  have hl4 := hl4 (by trivial)
  have hl4' := hl4
  obtain ⟨sv', ds, ee, _⟩ := hl4'
  have hv : v1 = (l1.first : Int) ∧ v2 = (l1.next : Int) := by
    injection ee with ee
    injection ee with ee
    injection ee with x1 ee
    injection ee with x2 ee
    injection x1 with _ x1
    injection x2 with _ x2
    exact ⟨x1, x2⟩
  obtain ⟨rfl, rfl⟩ := hv
  have hspw : w.heap.size ≤ sp ∧ sp < wb.heap.size := by have h1 := HA.out.2.2.2; have h2 := HOB.out.size; omega
  have hbc := HOB.out.at_ HA.out.2.1 (fun x => x)
  have hcc := HCL.out.off.at_ hbc (fun x => by have := x.2; omega)
  have hdc := ho4.at_ hcc (fun x => x)
  have z4 := Heap.cell hdc 4
  have z5 := Heap.cell hdc 5
  have z6 := Heap.cell hdc 6
  have y4 := Heap.frozen hdc 4
  have y5 := Heap.frozen hdc 5
  have y6 := Heap.frozen hdc 6
  have HD := Lib.hid (And.intro hl4 (And.intro ho4 hdc))
  have HBC := Lib.hid hbc
  clear hl4 ee ho4 hdc hcc hbc HKT
  unfold sp0 at z4 z5 z6
  go_wp2_with fail
  obtain ⟨we, hwe⟩ : ∃ we, we = (((wd.setCell ⟨sp, 4, none⟩ (.int .u64 l1.first)).setCell ⟨sp, 5, none⟩ (.int .u64 l1.next)).setCell ⟨sp, 6, none⟩ (.slice A k c)) := ⟨_, rfl⟩
  rw [← hwe]
  have hde : Off (Only sp) wd we := by rw [hwe]; exact (((Off.refl (Only sp) wd).set 4 _).set 5 _).set 6 _
  have hFd : ∀ b, Grow (fun b => F b ∧ b < w.heap.size) wb wc b → n ≤ b ∧ b ≠ sp := fun b x => by
    rcases x with x | x
    · exact ⟨HH.out.1 b x.1, by have := x.2; omega⟩
    · exact ⟨by have h1 := HH.out.2.1; have h2 := HA.out.1.size; have h3 := HOB.out.size; omega, by have := x.1; omega⟩
  have hgb : Glob n wb := HH.out.2.2.none (HA.out.1.quiet_trans HOB.out)
  have hge : Glob n we := ((hgb.off HCL.out.off (fun b x => HH.out.1 b x.1)).none HD.out.2.1).off hde (fun b e => by have h1 : b = sp := e; have := HH.out.2.1; omega)
  have hop := Seg.open_all we d n (N + N) D1 _ ((HCL.out.disk.off HD.out.2.1 (fun _ _ _ x => x)).off hde (fun b _ x e => (hFd b x).2 e)) HOP.out.2.1 HOP.out.2.2 hge (fun b hb => (hFd b hb).1) HL1.out (by have := HN.out; omega)
  rw [HOP.out.1] at hop
  have HOPN := Lib.hid hop
  have HWE := Lib.hid (And.intro hwe hgb)
  clear hop hwe hde hFd hge hgb z4 z5 z6 y4 y5 y6
  refine HOPN.out.mono ?_
  rintro e wf ⟨⟨p, rfl, _, hst⟩, hdi, hof⟩
  obtain ⟨lg, xs', a', rfl, hlg, heq, hst⟩ := hst rfl
  obtain ⟨hx1, hx2⟩ := List.append_inj' heq rfl
  have hx2 : a = a' := by injection hx2
  subst hx1 hx2
  have hec : we.heap[sp]? = some (.cells #[.pointer (some ⟨d, 0, none⟩), .int .i64 budget, .int .i64 segm, .pointer none, .int .u64 l1.first, .int .u64 l1.next, .slice A k c] 72 (0, 0)) := by
    rw [HWE.out.1]
    exact (Heap.set (Heap.set (Heap.set HD.out.2.2 4 _) 5 _) 6 _).trans rfl
  have hfc := hof.at_ hec (fun x => by
    rcases x with x | x
    · have := x.2; omega
    · have := x.1; omega)
  have z3 := Heap.cell hfc 3
  have y3 := Heap.frozen hfc 3
  rw [HWE.out.1] at hst hof
  have HLD := Lib.hid (spool_laid hspw.1 hspw.2 (HA.out.1.quiet_trans HOB.out) HBC.out HCL.out HD.out.2.1 HD.out.1 hst hof)
  clear hst hdi hof hec hfc heq hlg HOPN
  go_wp2_with fail
  obtain ⟨wg, hwg⟩ : ∃ wg, wg = wf.setCell ⟨sp, 3, none⟩ (.pointer (some ⟨lg, 0, none⟩)) := ⟨_, rfl⟩
  rw [← hwg] at HLD ⊢
  clear hwg z3 y3
  go_loopg [7] 0 (fun gg s7 wr => gg = 0 ∧ s7 = .int .i64 0 ∧ Off None wg wr)
  case atStart => exact ⟨rfl, rfl, Off.refl _ _⟩
  case round =>
    obtain ⟨_, rfl, hor⟩ := hrel
    have hsr := HLD.out.1.quiet hor
    have hfew := HWK.out.1.few
    obtain ⟨lg', off', sv', Fs', S', hin⟩ := hsr
    obtain ⟨_, _, _, d3, d4, d5, d6, _⟩ := hin.cells
    have HIN := Lib.hid hin
    have HOR := Lib.hid hor
    have HMO := Lib.hid (fun W (hW : Off None wr W) => more_any W sp d _ _ ⟨lg', off', sv', Fs', S', hin.quiet hW⟩ (by omega))
    have hfi := fun W (hW : Off None wr W) => first_any W sp d _ _ ⟨lg', off', sv', Fs', S', hin.quiet hW⟩ (by omega)
    rw [HWK.out.2.1] at hfi
    have HFI := Lib.hid hfi
    dsimp only at d4 d5 HMO
    clear hin hor hfew hfi d3 d5 d6
    go_upto_region 9 with fail
    go_cut [53] from 38 to 58 (fun s wx => s = .bool false ∧ Off None wg wx)
    case first =>
      by_cases hxs : xs = []
      · have hm1 : decide (xs = []) = true := decide_eq_true hxs
        rw [hm1] at HMO
        clear hxs hm1
        have cM : ∀ dd os, Calls Tryz.prog 69 #[.pointer (some ⟨sp, 0, none⟩)] (grow (redrawn wr dd) os) fun e w'' => e = .returned (.bool false) ∧ ∃ p : Regrown, w'' = grow (redrawn wr p.d) p.os := fun dd os => Calls.quietly (HMO.out _ (Off.of_below (below_regrown wr dd os)))
        clear d4
        refine wp_region_quiet_below (by kernel_rfl) (by kernel_rfl) ?_
        iterate 5 (quiet_step (first | exact cM _ _))
        generalize hfr : (Act.mk _ _) = fr
        iterate 11 (refine wpQuiet_step (fun K hK => ?_); subst hfr; go_simp; generalize hfr : (Act.mk _ _) = fr; refine hK fr ?_; clear hK K)
        refine wpQuiet_nil ?_
        intro w5 hw'
        subst hfr
        have ho5 : Off None wr w5 := by
          obtain ⟨⟨dq, osq⟩, rfl⟩ := hw'
          exact Off.of_below (below_regrown wr dq osq)
        clear hw' cM
        go_wp2_with fail
        go_meet
        exact ⟨rfl, HOR.out.quiet_trans ho5⟩
      · have hm1 : decide (xs = []) = false := decide_eq_false hxs
        rw [hm1] at HMO
        clear hxs hm1
        go_region_held3 (fun W => W.cell? ⟨sp, 4, none⟩ = some (.int .u64 l1.first))
          (first | exact d4 | exact g4 | exact g5)
          (first
            | (go_at_call 70; refine (HFI.out _ ho45).mono ?_; rintro e w5 ⟨rfl, ho5⟩; have ho46 := ho45.quiet_trans ho5; have g5 : w5.cell? ⟨sp, 4, none⟩ = some (.int .u64 l1.first) := ho46.stay d4 (fun x => x))
            | (go_at_call 69; refine (HMO.out _ ((Off.refl None wr).drew)).mono ?_; rintro e w4 ⟨rfl, ho4⟩; have ho45 : Off None wr w4 := ((Off.refl None wr).drew).quiet_trans ho4; have g4 : w4.cell? ⟨sp, 4, none⟩ = some (.int .u64 l1.first) := ho45.stay d4 (fun x => x)))
        all_goals
          try go_wp2_with fail
          go_meet
          refine ⟨?_, HOR.out.quiet_trans ho46⟩
          simp
    case rest =>
      obtain ⟨rfl, hoc⟩ := hcut
      clear HFI HMO d4
      have hsc := HLD.out.1.quiet hoc
      have hLD2 := HLD.out.2.quiet_trans hoc
      obtain ⟨lg2, off2, sv2, Fs2, S2, hin2⟩ := hsc
      obtain ⟨_, _, _, d3, d4, d5, d6, dz⟩ := hin2.cells
      have hz5 := dz 5
      obtain ⟨g2, cap2, Fd2, hst2⟩ := hin2.st
      have hnx := Seg.next_any wc lg2 d _ g2 off2 cap2 hst2.log HWK.out.1.ok
      have HNX := Lib.hid hnx
      have HIN2 := Lib.hid (And.intro hin2 hLD2)
      dsimp only at d4 d5
      clear hst2 hin2 hLD2 hnx dz hoc
      go_wp2_with fail
      refine HNX.out.mono ?_
      rintro e w8 ⟨rfl, ho8⟩
      have hin8 := HIN2.out.1.quiet ho8
      have g5 : w8.cell? ⟨sp, 5, none⟩ = some (.int .u64 l1.next) := hin8.cells.2.2.2.2.2.1
      have gz5 := hin8.cells.2.2.2.2.2.2.2 5
      have hinx := hin8.setNext a.end_ HWK.out.2.2.2
      obtain ⟨w9, hw9⟩ : ∃ w9, w9 = w8.setCell ⟨sp, 5, none⟩ (.int .u64 a.end_) := ⟨_, rfl⟩
      rw [← hw9] at hinx
      have h89 : Off (Only sp) w8 w9 := by rw [hw9]; exact (Off.refl (Only sp) w8).set 5 _
      obtain ⟨_, _, _, _, k4, k5, k6, _⟩ := hinx.cells
      have HIN9 := Lib.hid hinx
      have HO9 := Lib.hid (And.intro ho8 h89)
      have hfi9 := fun W (hW : Off None w9 W) => first_any W sp d _ _ ⟨lg2, off2, sv2, Fs2, S2, hinx.quiet hW⟩ (by have := HWK.out.1.few; exact Nat.le_trans this (by omega))
      rw [show LogV.first0 ⟨xs, a, a⟩ = l1.first from HWK.out.2.1] at hfi9
      have HFI9 := Lib.hid hfi9
      have HRI9 := Lib.hid (fun W (hW : Off None w9 W) => right_any W S2 _ _ (hinx.led.quiet hW) HWK.out.2.2.1)
      clear hin8 hinx ho8 h89 hfi9 d3 d4 d5 d6 hz5
      go_wp2_with fail
      rw [← hw9]
      clear hw9 g5 gz5
      have cF : ∀ dd os, Calls Tryz.prog 70 #[.pointer (some ⟨sp, 0, none⟩)] (grow (redrawn w9 dd) os) fun e w'' => e = .returned (.int .u64 l1.first) ∧ ∃ p : Regrown, w'' = grow (redrawn w9 p.d) p.os := fun dd os => Calls.quietly (HFI9.out _ (Off.of_below (below_regrown w9 dd os)))
      have cR : ∀ dd os, Calls Tryz.prog 15 #[.agg #[.int .u64 l1.first, .int .u64 a.end_, sv2]] (grow (redrawn w9 dd) os) fun e w'' => e = .returned (.bool true) ∧ ∃ p : Regrown, w'' = grow (redrawn w9 p.d) p.os := fun dd os => Calls.quietly (HRI9.out _ (Off.of_below (below_regrown w9 dd os)))
      try dsimp only at k4 k5
      have j4 := cell_regrown k4
      have j5 := cell_regrown k5
      have j6 := cell_regrown k6
      clear k4 k5 k6
      refine wp_region_quiet_below (by kernel_rfl) (by kernel_rfl) ?_
      repeat (quiet_step (first | exact cF _ _ | exact cR _ _))
      refine wpQuiet_nil ?_
      intro w10 hw'
      have ho10 : Off None w9 w10 := by
        obtain ⟨⟨dq, osq⟩, rfl⟩ := hw'
        exact Off.of_below (below_regrown w9 dq osq)
      clear hw' cF cR j4 j5 j6
      go_wp2_with fail
      go_ret2
      have o1 : Off F w w10 := (((HIN2.out.2.quiet_trans HO9.out.1).trans HO9.out.2 (fun b hb e => by have h1 : b = sp := e; omega)).quiet_trans ho10)
      refine ⟨sp, rfl, hspw.1, ⟨lg2, off2, sv2, Fs2, S2, (HIN9.out.quiet ho10).mono fun b hb x => x.imp id (fun y => ⟨y.1, hb⟩)⟩, o1⟩
end Spool
end Go.Proofs.YtndgnlblbjpogaaGreatDoor
