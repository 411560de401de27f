/- A spool in memory; the walks of Save, Leave, Join, done, Ack, Reject. · A spool in memory; the walks of Ack, Reject, Join. -/
import Derived.Test.YtndgnlblbjpogaaGreatDoorSpool2
import Derived.Test.YtndgnlblbjpogaaGreatDoorSpoolN
namespace Go.Proofs.YtndgnlblbjpogaaGreatDoor
open Go Go.RowKit Go.Shelf Led
/-- What a function that makes a spool's next ledger, or errs, answers. -/
def Spooled (w : World) (sp d : Nat) (P : SpoolV) (F : Nat → Prop) (l : LedgerV) (er : Int) (e : Ending) (w' : World) : Prop :=
  ∃ (a b : Int) (A : Option Addr) (k c : Nat), e = .returned (.tuple #[.agg #[.int .u64 a, .int .u64 b, .slice A k c], .int .i64 er]) ∧ (er = 0 → SpoolWith w' sp d P (Grow F w w') (.agg #[.int .u64 a, .int .u64 b, .slice A k c]) l) ∧ Off None w w'
theorem SpoolIn.spooled {w w1 w' : World} {sp d lg off : Nat} {P : SpoolV} {F Fs S : Nat → Prop} {sv : Value} {l : LedgerV} {er : Int} {e : Ending} (h : SpoolIn w sp d P F lg off sv Fs S) (ho : Off None w w1) (hl : Ledged w1 S l er e w') : Spooled w sp d P F l er e w' := by
  obtain ⟨lv, he, ⟨a, b, A, k, c, rfl⟩, h0, ho1⟩ := hl
  refine ⟨a, b, A, k, c, he, fun hz => ?_, ho.trans ho1 (fun _ _ x => x)⟩
  exact ((h.quiet ho).with_ (h0 hz) ho1).mono fun b _ x => x.imp id (fun y => ⟨Nat.le_trans ho.size y.1, y.2⟩)
theorem SpoolIn.with_set {w w4 w5 : World} {sp d lg off q : Nat} {P : SpoolV} {F Fs S : Nat → Prop} {sv lv : Value} {l : LedgerV} (h : SpoolIn w sp d P F lg off sv Fs S) (ho4 : Off None w w4) (ho5 : Off None w4 w5) (hq : w.heap.size ≤ q) (hq4 : q < w4.heap.size) (v0 v1 v2 : Value) :
    Off None w (((w5.setCell ⟨q, 0, none⟩ v0).setCell ⟨q, 1, none⟩ v1).setCell ⟨q, 2, none⟩ v2) ∧ (LedgerAt w5 (And_ S w4) lv l → SpoolWith (((w5.setCell ⟨q, 0, none⟩ v0).setCell ⟨q, 1, none⟩ v1).setCell ⟨q, 2, none⟩ v2) sp d P (Grow F w (((w5.setCell ⟨q, 0, none⟩ v0).setCell ⟨q, 1, none⟩ v1).setCell ⟨q, 2, none⟩ v2)) lv l) := by
  have ho : Off None w (((w5.setCell ⟨q, 0, none⟩ v0).setCell ⟨q, 1, none⟩ v1).setCell ⟨q, 2, none⟩ v2) := off3 (ho4.trans ho5 (fun _ _ x => x)) (.inr hq) _ _ _
  refine ⟨ho, fun hl => h.with_ ?_ ho⟩
  have ho6 : Off (Only q) w5 (((w5.setCell ⟨q, 0, none⟩ v0).setCell ⟨q, 1, none⟩ v1).setCell ⟨q, 2, none⟩ v2) := off3 (Off.refl (Only q) w5) (.inl rfl) _ _ _
  refine (hl.off ho6 (fun b x _ e => ?_)).mono (fun b x _ => x.imp id (fun y => Nat.le_trans ho4.size y))
  have e : b = q := e
  subst e
  rcases x with x | x
  · have := h.lowS b x; omega
  · have x : w4.heap.size ≤ b := x; omega
namespace Spool
variable {w w0 w1 : World} {n sp d : Nat} {F : Nat → Prop} {P : SpoolV}
theorem grow_in {w0 w w1 w2 : World} {F : Nat → Prop} (h0 : w0.heap.size ≤ w.heap.size) (h02 : w.heap.size ≤ w2.heap.size) (h12 : w1.heap.size ≤ w2.heap.size) : ∀ b, Grow (Grow F w0 w) w w1 b → Grow F w0 w2 b := by
  intro b h
  rcases h with (h | h) | h
  · exact .inl h
  · exact .inr ⟨h.1, by omega⟩
  · exact .inr ⟨by omega, by omega⟩
set_option maxRecDepth 100000 in
theorem save_any (w0 w : World) (n sp d M N : Nat) (F : Nat → Prop) (P : SpoolV) (h : Sp w0 n sp d F P w) (hk : P.Wk M N) :
    Calls Tryz.prog 30 #[.pointer (some ⟨sp, 0, none⟩)] w fun e w' => e = .returned (.int .i64 P.save.2) ∧ Sp w0 n sp d F P.save.1 w' := by
  obtain ⟨sv, c4, c5, c6, hw⟩ := h.at_.own
  have HK := Lib.hid (keep_any w0 w n sp d M N F P _ _ h hw hk hk.right hk.next)
  clear h hw hk
  unfold ledAgg at HK
  go_enter Tryz.func30, Tryz.ntmps30
  go_wp2_with fail
  refine HK.out.mono ?_
  rintro e w1 ⟨rfl, h1⟩
  have H1 := Lib.hid h1
  clear h1
  go_wp2_with fail
  go_ret
  exact ⟨rfl, H1.out⟩
set_option maxHeartbeats 1000000 in
set_option maxRecDepth 100000 in
theorem leave_any (w0 w : World) (n sp d M N : Nat) (F : Nat → Prop) (P : SpoolV) (h : Sp w0 n sp d F P w) (hk : P.Wk M N) (name : ByteArray) :
    Calls Tryz.prog 25 #[.pointer (some ⟨sp, 0, none⟩), .string name] w fun e w' => e = .returned (.int .i64 (P.leave name).2) ∧ Sp w0 n sp d F (P.leave name).1 w' := by
  obtain ⟨lg, off, sv, Fs, S, hin⟩ := h.at_
  obtain ⟨_, _, _, _, c4, c5, c6, _⟩ := hin.cells
  have hl := Led.leave_any w S (ledAgg P.led sv) P.led hin.led name
  have HL := Lib.hid (hl.mono fun e w' hh => hin.spooled (Off.refl _ _) hh)
  have hq : P.leave name = if P.led.leaveErr name = 0 then P.keep (P.led.leave name) else (P, P.led.leaveErr name) := rfl
  have HQ := Lib.hid hq
  have HH := Lib.hid (And.intro h hk)
  obtain ⟨er, her⟩ : ∃ er, er = P.led.leaveErr name := ⟨_, rfl⟩
  rw [← her] at HL HQ
  clear h hin hl hk hq her
  unfold ledAgg at HL
  go_enter Tryz.func25, Tryz.ntmps25
  go_wp2_with fail
  refine HL.out.mono ?_
  rintro e w1 ⟨a, b, A, k, c, rfl, hw1, ho1⟩
  obtain ⟨w2, hw2, ho2, hb2, hs2⟩ := boxed w1 #[.int .u64 a, .int .u64 b, .slice A k c] 34
  have ho := ho1.trans ho2 (fun _ _ x => x)
  obtain ⟨q, hq⟩ : ∃ q, q = w1.heap.size := ⟨_, rfl⟩
  rw [← hq] at hb2
  have HW2 := Lib.hid hw2
  have HQQ := Lib.hid hq
  have b0 := Heap.cell hb2 0
  have b1 := Heap.cell hb2 1
  have b2 := Heap.cell hb2 2
  have HW1 := Lib.hid (And.intro ho (And.intro ho2 hw1))
  clear hw1 ho1 hw2 ho2 hb2 ho hq HL hs2
  by_cases hz : er = 0
  · subst hz
    have hkp := keep_any w0 w2 n sp d M N F P _ _ (HH.out.1.quiet HW1.out.1) (((HW1.out.2.2 rfl).quiet HW1.out.2.1).mono (fun b _ x => grow_in HH.out.1.off.size HW1.out.1.size HW1.out.2.1.size b x)) HH.out.2 (HH.out.2.right.leave_ name) (by rw [(P.led.leave_next name).1]; exact HH.out.2.next)
    have HKP := Lib.hid hkp
    clear hkp
    go_wp2_with fail
    rw [← HW2.out]
    refine HKP.out.mono ?_
    rintro e w3 ⟨rfl, h3⟩
    have H3 := Lib.hid h3
    clear h3
    go_wp2_with fail
    go_ret
    rw [HQ.out, if_pos trivial]
    exact ⟨rfl, H3.out⟩
  · have k1 : (er != 0) = true := by simpa using hz
    go_wp2_with fail
    go_ret
    rw [HQ.out, if_neg hz, ← HW2.out]
    exact ⟨rfl, HH.out.1.quiet HW1.out.1⟩
set_option maxHeartbeats 2000000 in
set_option maxRecDepth 100000 in
theorem done_any (w : World) (sp d M N : Nat) (F : Nat → Prop) (P : SpoolV) (h : SpoolAt w sp d P F) (hk : P.Wk M N) (name : ByteArray) (seq : Nat) (ack : Bool) :
    Calls Tryz.prog 49 #[.pointer (some ⟨sp, 0, none⟩), .string name, .int .u64 seq, .int .u8 (kindOf ack)] w (Spooled w sp d P F (P.led.marked name seq ack) (P.doneErr name seq)) := by
  obtain ⟨lg, off, sv, Fs, S, hin⟩ := h
  obtain ⟨w1, hw1, ho1, hb1, hs1⟩ := boxed w #[.int .u64 0, .int .u64 0, .slice none 0 0] 34
  obtain ⟨q, hq⟩ : ∃ q, q = w.heap.size := ⟨_, rfl⟩
  rw [← hq] at hb1
  have hin1 := hin.quiet ho1
  obtain ⟨_, _, _, _, c4, c5, c6, _⟩ := hin1.cells
  have hfi := Led.find_any w1 S (ledAgg P.led sv) P.led hin1.led name
  have hdu := fun W (hW : Off None w1 W) => durable_any W sp d F P ⟨lg, off, sv, Fs, S, hin1.quiet hW⟩ hk.ok
  have hr := hk.right.mark_ name seq ack
  have hsm := hr.small (M := M) (by rw [(P.led.marked_next name seq ack).1]; exact hk.next) (by have := hk.le; omega)
  have hdo := fun W (hW : Off None w1 W) => Led.done_led W S (ledAgg P.led sv) P.led (hin1.led.quiet hW) name seq ack (fun d hd => (hk.right.each d hd).2.rising) hsm
  have hq0 : P.doneErr name seq = if (P.led.find name).isSome = true ∧ P.log.durable.end_ ≤ seq then 13 else P.led.doneErr name seq := rfl
  have hdn := P.led
  have HQ := Lib.hid hq0
  have HFI := Lib.hid hfi
  have HDU := Lib.hid hdu
  have HDO := Lib.hid hdo
  have HIN := Lib.hid (And.intro hin (And.intro ho1 hq))
  have HB1 := Lib.hid hb1
  have HW1 := Lib.hid hw1
  clear hk hr hsm hfi hdu hdo hq0 hdn hin hin1 hb1 hs1 hq ho1
  unfold ledAgg at HFI HDO
  cases hf : P.led.find name with
  | none =>
    unfold Led.FindOf at HFI
    rw [hf] at HFI HQ
    have hQ := HQ.out
    rw [if_neg (fun x => by cases x.1)] at hQ
    have HE := Lib.hid hQ
    clear hQ HQ hf
    go_enter Tryz.func49, Tryz.ntmps49
    have HC := Lib.hid (And.intro c4 (And.intro c5 c6))
    rw [hw1] at c4 c5 c6
    go_wp2_with fail
    rw [← HW1.out]
    refine HFI.out.mono ?_
    rintro e w3 ⟨rfl, ho3⟩
    obtain ⟨w4, hw4, ho4, hb4, hs4⟩ := boxed w3 #[.string ⟨#[]⟩, .int .u64 0, .int .u64 0, .slice none 0 0, .int .u64 0, .int .u64 0, .int .u64 0] 47
    have ho34 := ho3.trans ho4 (fun _ _ x => x)
    have d4 := ho34.stay HC.out.1 (fun x => x)
    have d5 := ho34.stay HC.out.2.1 (fun x => x)
    have d6 := ho34.stay HC.out.2.2 (fun x => x)
    have hb14 := ho34.at_ HB1.out (fun x => x)
    have HO34 := Lib.hid (And.intro ho34 hb14)
    have HW4 := Lib.hid hw4
    rw [hw4] at d4 d5 d6
    clear ho3 ho4 hb4 hs4 ho34 hb14 hw4 c4 c5 c6 HFI hw1
    go_wp2_with fail
    rw [← HW4.out]
    refine (HDO.out _ HO34.out.1).mono ?_
    rintro e w5 ⟨lv, rfl, ⟨a, b, A, k, c, rfl⟩, h0, ho5⟩
    have hb5 := ho5.at_ HO34.out.2 (fun x => x)
    have q0 := Heap.cell hb5 0
    have q1 := Heap.cell hb5 1
    have q2 := Heap.cell hb5 2
    have z0 := Heap.frozen hb5 0
    have z1 := Heap.frozen hb5 1
    have z2 := Heap.frozen hb5 2
    have H5 := Lib.hid (And.intro h0 (And.intro ho5 hb5))
    have hqw := HIN.out.2.2
    rw [← hqw]
    clear h0 ho5 hb5 d4 d5 d6 hqw
    go_wp2_with fail
    refine bodyPost_ret_by (results_row_tmp' rfl _ _ q _ _ _ _ rfl (box3' H5.out.2.2 _ _ _) Tryz.underlying34 rfl Led.infoLed) rfl ?_
    have hset := HIN.out.1.with_set (HIN.out.2.1.trans HO34.out.1 (fun _ _ x => x)) H5.out.2.1 (q := q) (by have := HIN.out.2.2; omega) (Heap.lt HO34.out.2) (.int .u64 a) (.int .u64 b) (.slice A k c) (l := P.led.marked name seq ack) (lv := .agg #[.int .u64 a, .int .u64 b, .slice A k c])
    exact ⟨a, b, A, k, c, by rw [HE.out]; rfl, fun hz => hset.2 (H5.out.1 (by rw [← HE.out]; exact hz)), hset.1⟩
  | some dd =>
    unfold Led.FindOf at HFI
    rw [hf] at HFI HQ
    have HC := Lib.hid (And.intro c4 (And.intro c5 c6))
    clear hf
    go_enter Tryz.func49, Tryz.ntmps49
    rw [hw1] at c4 c5 c6
    go_wp2_with fail
    rw [← HW1.out]
    refine HFI.out.mono ?_
    rintro e w3 ⟨⟨av, rfl, hda⟩, ho3⟩
    obtain ⟨B, cb, rfl⟩ : ∃ B cb, av = .slice B dd.above.length cb := hda.row.form
    unfold destAgg
    obtain ⟨w3', hw4, ho4, hb4, hs4⟩ := boxed w3 #[.string dd.name, .int .u64 dd.since, .int .u64 dd.low, .slice B dd.above.length cb, .int .u64 dd.acked, .int .u64 dd.evicted, .int .u64 dd.rejected] 47
    have ho34 := ho3.trans ho4 (fun _ _ x => x)
    have hb14 := ho34.at_ HB1.out (fun x => x)
    have HO34 := Lib.hid (And.intro ho34 hb14)
    have HW4 := Lib.hid hw4
    clear ho3 ho4 hb4 hs4 ho34 hb14 hw4 c4 c5 c6 HFI hw1 hda
    go_wp2_with fail
    rw [← HW4.out]
    refine (HDU.out _ HO34.out.1).mono ?_
    rintro e w4 ⟨rfl, ho4⟩
    have ho34 := HO34.out.1.trans ho4 (fun _ _ x => x)
    have hb14 := ho4.at_ HO34.out.2 (fun x => x)
    have d4 := ho34.stay HC.out.1 (fun x => x)
    have d5 := ho34.stay HC.out.2.1 (fun x => x)
    have d6 := ho34.stay HC.out.2.2 (fun x => x)
    have q0 := Heap.cell hb14 0
    have q1 := Heap.cell hb14 1
    have q2 := Heap.cell hb14 2
    have z0 := Heap.frozen hb14 0
    have z1 := Heap.frozen hb14 1
    have z2 := Heap.frozen hb14 2
    clear HO34 HW4 ho4
    have HO34 := Lib.hid (And.intro ho34 hb14)
    clear ho34 hb14
    by_cases hge : P.log.durable.end_ ≤ seq
    · have hQ := HQ.out
      rw [if_pos ⟨rfl, hge⟩] at hQ
      have HE := Lib.hid hQ
      have hge' : (P.log.durable.end_ : Int) ≤ (seq : Int) := by omega
      have hqw := HIN.out.2.2
      rw [← hqw]
      clear hQ HQ hge hqw d4 d5 d6
      go_wp2_with fail
      refine bodyPost_ret_by (results_row_tmp' rfl _ _ q _ _ _ _ rfl (box3' HO34.out.2 _ _ _) Tryz.underlying34 rfl Led.infoLed) rfl ?_
      have hset := HIN.out.1.with_set (HIN.out.2.1.trans HO34.out.1 (fun _ _ x => x)) (Off.refl _ _) (q := q) (by have := HIN.out.2.2; omega) (Heap.lt HO34.out.2) (.int .u64 0) (.int .u64 0) (.slice none 0 0) (l := P.led.marked name seq ack) (lv := .agg #[.int .u64 0, .int .u64 0, .slice none 0 0])
      exact ⟨0, 0, none, 0, 0, by rw [HE.out]; rfl, fun hz => (by rw [HE.out] at hz; cases hz), hset.1⟩
    · have hQ := HQ.out
      rw [if_neg (fun x => hge x.2)] at hQ
      have HE := Lib.hid hQ
      have hge' : ¬ (P.log.durable.end_ : Int) ≤ (seq : Int) := by omega
      clear hQ HQ hge q0 q1 q2 z0 z1 z2
      go_wp2_with fail
      refine (HDO.out _ HO34.out.1).mono ?_
      rintro e w5 ⟨lv, rfl, ⟨a, b, A, k, c, rfl⟩, h0, ho5⟩
      have hb5 := ho5.at_ HO34.out.2 (fun x => x)
      have q0 := Heap.cell hb5 0
      have q1 := Heap.cell hb5 1
      have q2 := Heap.cell hb5 2
      have z0 := Heap.frozen hb5 0
      have z1 := Heap.frozen hb5 1
      have z2 := Heap.frozen hb5 2
      have H5 := Lib.hid (And.intro h0 (And.intro ho5 hb5))
      have hqw := HIN.out.2.2
      rw [← hqw]
      clear h0 ho5 hb5 d4 d5 d6 hqw
      go_wp2_with fail
      refine bodyPost_ret_by (results_row_tmp' rfl _ _ q _ _ _ _ rfl (box3' H5.out.2.2 _ _ _) Tryz.underlying34 rfl Led.infoLed) rfl ?_
      have hset := HIN.out.1.with_set (HIN.out.2.1.trans HO34.out.1 (fun _ _ x => x)) H5.out.2.1 (q := q) (by have := HIN.out.2.2; omega) (Heap.lt HO34.out.2) (.int .u64 a) (.int .u64 b) (.slice A k c) (l := P.led.marked name seq ack) (lv := .agg #[.int .u64 a, .int .u64 b, .slice A k c])
      exact ⟨a, b, A, k, c, by rw [HE.out]; rfl, fun hz => hset.2 (H5.out.1 (by rw [← HE.out]; exact hz)), hset.1⟩
end Spool
end Go.Proofs.YtndgnlblbjpogaaGreatDoor
namespace Go.Proofs.YtndgnlblbjpogaaGreatDoor
open Go Go.RowKit Go.Shelf Led
theorem SpoolWith.set {w : World} {sp d : Nat} {P : SpoolV} {F : Nat → Prop} {l : LedgerV} {a b : Int} {A : Option Addr} {k c : Nat} (h : SpoolWith w sp d P F (.agg #[.int .u64 a, .int .u64 b, .slice A k c]) l) :
    SpoolAt (((w.setCell ⟨sp, 4, none⟩ (.int .u64 a)).setCell ⟨sp, 5, none⟩ (.int .u64 b)).setCell ⟨sp, 6, none⟩ (.slice A k c)) sp d { P with led := l } F := by
  obtain ⟨lg, off, sv, Fs, S, h, hl⟩ := h
  obtain ⟨sv', ds, e1, h2, h3, h4⟩ := id hl
  injection e1 with e1
  injection e1 with e1
  injection e1 with e2 e1
  injection e1 with e3 e1
  injection e1 with e4 _
  injection e2 with _ e2
  injection e3 with _ e3
  subst e2 e3 e4
  exact ⟨_, _, _, _, _, h.setLed hl⟩
theorem SpoolIn.with_in {w : World} {sp d lg off lo hi : Nat} {P : SpoolV} {F Fs S : Nat → Prop} {sv lv : Value} {l : LedgerV} (h : SpoolIn w sp d P F lg off sv Fs S) (hl : LedgerAt w (fun b => S b ∨ (lo ≤ b ∧ b < hi)) lv l) (hh : hi ≤ w.heap.size) (hsp : sp < lo) (hFs : ∀ b, Fs b → lo ≤ b → hi ≤ b) :
    SpoolWith w sp d P (fun b => F b ∨ (lo ≤ b ∧ b < hi)) lv l := by
  refine ⟨lg, off, sv, Fs, fun b => S b ∨ (lo ≤ b ∧ b < hi), ⟨h.core, h.st, h.led.mono fun b x _ => .inl x, h.sepF, fun x => x.elim h.sepS (fun y => by omega), fun b x y => y.elim (h.sep b x) (fun z => by have := hFs b x z.1; omega), .inl h.inP, fun b x => .inl (h.inF b x), fun b x => x.imp (h.inS b) id, h.lowF, fun b x => x.elim (h.lowS b) (fun y => by omega)⟩, hl⟩
namespace Spool
variable {w w0 w1 : World} {n sp d : Nat} {F : Nat → Prop} {P : SpoolV}
/-- The ledger of a spool is set. -/
theorem set_sp {l : LedgerV} {a b : Int} {A : Option Addr} {k c : Nat} (h : Sp w0 n sp d F P w) (hw : SpoolWith w sp d P (Grow F w0 w) (.agg #[.int .u64 a, .int .u64 b, .slice A k c]) l) :
    Sp w0 n sp d F { P with led := l } (((w.setCell ⟨sp, 4, none⟩ (.int .u64 a)).setCell ⟨sp, 5, none⟩ (.int .u64 b)).setCell ⟨sp, 6, none⟩ (.slice A k c)) := by
  have ho : Off (Only sp) w (((w.setCell ⟨sp, 4, none⟩ (.int .u64 a)).setCell ⟨sp, 5, none⟩ (.int .u64 b)).setCell ⟨sp, 6, none⟩ (.slice A k c)) := (((Off.refl (Only sp) w).set 4 _).set 5 _).set 6 _
  have ho2 : Off (Grow F w0 w) w (((w.setCell ⟨sp, 4, none⟩ (.int .u64 a)).setCell ⟨sp, 5, none⟩ (.int .u64 b)).setCell ⟨sp, 6, none⟩ (.slice A k c)) := ho.mono fun b _ x => by rw [show b = sp from x]; exact .inl h.sp_
  exact h.next (hw.set.mono fun b _ x => .inl x) ho2
set_option maxHeartbeats 1000000 in
set_option maxRecDepth 100000 in
theorem reject_any (w0 w : World) (n sp d M N : Nat) (F : Nat → Prop) (P : SpoolV) (h : Sp w0 n sp d F P w) (hk : P.Wk M N) (name : ByteArray) (seq : Nat) :
    Calls Tryz.prog 40 #[.pointer (some ⟨sp, 0, none⟩), .string name, .int .u64 seq] w fun e w' => e = .returned (.int .i64 (P.reject name seq).2) ∧ Sp w0 n sp d F (P.reject name seq).1 w' := by
  have HL := Lib.hid (done_any w sp d M N _ P h.at_ hk name seq false)
  have hq : P.reject name seq = if P.doneErr name seq = 0 then P.keep (P.led.marked name seq false) else (P, P.doneErr name seq) := rfl
  have HQ := Lib.hid hq
  have HH := Lib.hid (And.intro h hk)
  obtain ⟨er, her⟩ : ∃ er, er = P.doneErr name seq := ⟨_, rfl⟩
  rw [← her] at HL HQ
  rw [show kindOf false = 114 from rfl] at HL
  clear h hk hq her
  go_enter Tryz.func40, Tryz.ntmps40
  go_wp2_with fail
  refine HL.out.mono ?_
  rintro e w1 ⟨a, b, A, k, c, rfl, hw1, ho1⟩
  obtain ⟨w2, hw2, ho2, hb2, hs2⟩ := boxed w1 #[.int .u64 a, .int .u64 b, .slice A k c] 34
  have ho := ho1.trans ho2 (fun _ _ x => x)
  obtain ⟨q, hq⟩ : ∃ q, q = w1.heap.size := ⟨_, rfl⟩
  have HW2 := Lib.hid hw2
  have HW1 := Lib.hid (And.intro ho (And.intro ho2 hw1))
  clear hw1 ho1 hw2 ho2 hb2 ho hq HL hs2
  by_cases hz : er = 0
  · subst hz
    have hkp := keep_any w0 w2 n sp d M N F P _ _ (HH.out.1.quiet HW1.out.1) (((HW1.out.2.2 rfl).quiet HW1.out.2.1).mono (fun b _ x => grow_in HH.out.1.off.size HW1.out.1.size HW1.out.2.1.size b x)) HH.out.2 (HH.out.2.right.mark_ name seq false) (by rw [(P.led.marked_next name seq false).1]; exact HH.out.2.next)
    have HKP := Lib.hid hkp
    clear hkp
    go_wp2_with fail
    rw [← HW2.out]
    refine HKP.out.mono ?_
    rintro e w3 ⟨rfl, h3⟩
    have H3 := Lib.hid h3
    clear h3
    go_wp2_with fail
    go_ret
    rw [HQ.out, if_pos trivial]
    exact ⟨rfl, H3.out⟩
  · have k1 : (er != 0) = true := by simpa using hz
    go_wp2_with fail
    go_ret
    rw [HQ.out, if_neg hz, ← HW2.out]
    exact ⟨rfl, HH.out.1.quiet HW1.out.1⟩
set_option maxHeartbeats 1000000 in
set_option maxRecDepth 100000 in
theorem join_any (w0 w : World) (n sp d M N : Nat) (F : Nat → Prop) (P : SpoolV) (h : Sp w0 n sp d F P w) (hk : P.Wk M N) (name : ByteArray) (hnm : name.size ≤ maxLen) :
    Calls Tryz.prog 26 #[.pointer (some ⟨sp, 0, none⟩), .string name] w fun e w' => e = .returned (.int .i64 (P.join name).2) ∧ Sp w0 n sp d F (P.join name).1 w' := by
  obtain ⟨lg, off, sv, Fs, S, hin⟩ := h.at_
  obtain ⟨_, _, _, c3, c4, c5, c6, _⟩ := hin.cells
  have HL := Lib.hid (Led.join_any w S (ledAgg P.led sv) P.led hin.led name hnm)
  have hq : P.join name = if P.led.joinErr name = 0 then (if P.sync.2 = 0 then P.sync.1.keep (P.led.joined name) else P.sync) else (P, P.led.joinErr name) := rfl
  have HQ := Lib.hid hq
  have HH := Lib.hid (And.intro h (And.intro hk hin))
  obtain ⟨er, her⟩ : ∃ er, er = P.led.joinErr name := ⟨_, rfl⟩
  have HER := Lib.hid her
  rw [← her] at HL HQ
  clear h hin hk hq her
  unfold ledAgg at HL
  go_enter Tryz.func26, Tryz.ntmps26
  go_wp2_with fail
  refine HL.out.mono ?_
  rintro e w1 ⟨lv, rfl, ⟨a, b, A, k, c, rfl⟩, hw1, ho1⟩
  obtain ⟨w2, hw2, ho2, hb2, hs2⟩ := boxed w1 #[.int .u64 a, .int .u64 b, .slice A k c] 34
  have ho := ho1.trans ho2 (fun _ _ x => x)
  obtain ⟨q, hq⟩ : ∃ q, q = w1.heap.size := ⟨_, rfl⟩
  rw [← hq] at hb2
  have HW2 := Lib.hid (And.intro hw2 (And.intro hq hb2))
  have HW1 := Lib.hid (And.intro ho (And.intro ho2 (And.intro hw1 ho1)))
  have d3 := ho.keep c3 (fun x => x)
  rw [hw2] at d3
  clear hw1 ho1 hw2 ho2 hb2 ho hq HL c3 c4 c5 c6
  by_cases hz : er = 0
  · subst hz
    have hR := HH.out.2.1.right.join_ HER.out.symm
    have hsy := Seg.sync_any w2 lg d n N P.log P.disk Fs off ((HH.out.2.2.quiet HW1.out.1).st) (HH.out.1.glob.none HW1.out.1) (fun b hb => HH.out.1.lowG b (HH.out.2.2.inF b hb)) HH.out.2.1.ok HH.out.2.1.limN
    have HSY := Lib.hid hsy
    have HRR := Lib.hid hR
    clear hsy hR
    go_wp2_with fail
    rw [← HW2.out.1]
    refine HSY.out.mono ?_
    rintro e w3 ⟨rfl, hst3, ho3⟩
    have hin2 := HH.out.2.2.quiet HW1.out.1
    have hin3 := hin2.stored_in hst3 ho3
    obtain ⟨s1, s2⟩ := hin2.stored hst3 ho3
    have hG0 : ∀ b, b < w2.heap.size → Grow F w0 w b → Grow F w0 w2 b := fun b _ x => x.imp id (fun y => ⟨y.1, Nat.lt_of_lt_of_le y.2 HW1.out.1.size⟩)
    have hlt := HH.out.2.2.lowF
    have hs1 := HW1.out.1.size
    have hs3 := ho3.size
    have hs0 := HH.out.1.off.size
    have hsp3 : Sp w0 n sp d F P.sync.1 w3 := (HH.out.1.quiet HW1.out.1).next (s1.mono fun b _ x => x.imp (fun y => y.imp id (fun z => ⟨z.1, by omega⟩)) id) (s2.mono fun b _ x => x.imp id (fun z => ⟨z.1, by omega⟩))
    have hlg : LedgerAt w3 (fun b => S b ∨ (w.heap.size ≤ b ∧ b < w2.heap.size)) (.agg #[.int .u64 a, .int .u64 b, .slice A k c]) (P.led.joined name) := by
      have h1 : LedgerAt w2 (And_ S w) (.agg #[.int .u64 a, .int .u64 b, .slice A k c]) (P.led.joined name) := (HW1.out.2.2.1 (by trivial)).quiet HW1.out.2.1
      refine (h1.mono fun b x hb => x.imp id (fun y => ⟨y, hb⟩)).off ho3 (fun b x _ y => ?_)
      rcases x with x | x
      · exact HH.out.2.2.sep b y x
      · have := hlt b y; omega
    have hw3 := hin3.with_in hlg hs3 (Heap.lt HH.out.2.2.core) (fun b x h1 => by
      rcases x.1 with y | y
      · have := hlt b y; omega
      · exact y.1)
    have hw3 : SpoolWith w3 sp d P.sync.1 (Grow F w0 w3) (.agg #[.int .u64 a, .int .u64 b, .slice A k c]) (P.led.joined name) := hw3.mono fun b _ x => by
      rcases x with ((x | x) | x) | x
      · exact .inl x
      · exact .inr ⟨x.1, by omega⟩
      · exact .inr ⟨by omega, x.2⟩
      · exact .inr ⟨by omega, by omega⟩
    have hkp := keep_any w0 w3 n sp d M N F P.sync.1 _ _ hsp3 hw3 HH.out.2.1.sync HRR.out HH.out.2.1.next
    have hql : ¬ Fs q := fun x => by have := hlt q x; have h1 := HW2.out.2.1; have h2 := HW1.out.2.2.2.size; omega
    have hb3 := ho3.at_ HW2.out.2.2 hql
    have b0 := Heap.cell hb3 0
    have b1 := Heap.cell hb3 1
    have b2 := Heap.cell hb3 2
    rw [← HW2.out.2.1]
    have HKP := Lib.hid (And.intro hkp hsp3)
    have hQ := HQ.out
    rw [if_pos (by trivial)] at hQ
    clear hkp hsp3 hw3 hlg s1 s2 hin3 hin2 hst3 hG0 hlt hs1 hs3 hs0 ho3 hql hb3 HSY HRR HQ
    obtain ⟨e3, he3⟩ : ∃ e3, e3 = P.sync.2 := ⟨_, rfl⟩
    rw [← he3] at hQ
    rw [show (P.log.sync P.disk).2.2 = e3 from he3.symm]
    have HE3 := Lib.hid he3
    have HQ := Lib.hid hQ
    clear he3 hQ
    by_cases hz3 : e3 = 0
    · subst hz3
      go_wp2_with fail
      refine HKP.out.1.mono ?_
      rintro e w4 ⟨rfl, h4⟩
      have H4 := Lib.hid h4
      clear h4
      go_wp2_with fail
      go_ret
      rw [HQ.out, if_pos (by trivial)]
      exact ⟨rfl, H4.out⟩
    · have k1 : (e3 != 0) = true := by simpa using hz3
      go_wp2_with fail
      go_ret
      rw [HQ.out, if_neg hz3, ← HE3.out]
      exact ⟨rfl, HKP.out.2⟩
  · have k1 : (er != 0) = true := by simpa using hz
    have k2 : (er == 0) = false := by simpa using hz
    go_wp2_with fail
    go_ret
    rw [HQ.out, if_neg hz, ← HW2.out.1]
    exact ⟨rfl, HH.out.1.quiet HW1.out.1⟩
set_option maxHeartbeats 1000000 in
set_option maxRecDepth 100000 in
theorem ack_any (w0 w : World) (n sp d M N : Nat) (F : Nat → Prop) (P : SpoolV) (h : Sp w0 n sp d F P w) (hk : P.Wk M N) (name : ByteArray) (seq : Nat) :
    Calls Tryz.prog 21 #[.pointer (some ⟨sp, 0, none⟩), .string name, .int .u64 seq] w fun e w' => e = .returned (.int .i64 (P.ack name seq).2) ∧ Sp w0 n sp d F (P.ack name seq).1 w' := by
  have HL := Lib.hid (done_any w sp d M N _ P h.at_ hk name seq true)
  have hq : P.ack name seq = if P.doneErr name seq = 0 then ({ P with led := P.led.marked name seq true }, 0) else (P, P.doneErr name seq) := rfl
  have HQ := Lib.hid hq
  have HH := Lib.hid (And.intro h hk)
  obtain ⟨er, her⟩ : ∃ er, er = P.doneErr name seq := ⟨_, rfl⟩
  rw [← her] at HL HQ
  rw [show kindOf true = 97 from rfl] at HL
  clear h hk hq her
  go_enter Tryz.func21, Tryz.ntmps21
  go_wp2_with fail
  refine HL.out.mono ?_
  rintro e w1 ⟨a, b, A, k, c, rfl, hw1, ho1⟩
  obtain ⟨w2, hw2, ho2, hb2, hs2⟩ := boxed w1 #[.int .u64 a, .int .u64 b, .slice A k c] 34
  have ho := ho1.trans ho2 (fun _ _ x => x)
  have HW2 := Lib.hid hw2
  have HW1 := Lib.hid (And.intro ho (And.intro ho2 hw1))
  by_cases hz : er = 0
  · subst hz
    have hsp2 := HH.out.1.quiet ho
    have hwt : SpoolWith w2 sp d P (Grow F w0 w2) (.agg #[.int .u64 a, .int .u64 b, .slice A k c]) (P.led.marked name seq true) := ((hw1 rfl).quiet ho2).mono (fun b _ x => grow_in HH.out.1.off.size ho.size ho2.size b x)
    have HS := Lib.hid (set_sp hsp2 hwt)
    obtain ⟨sv, c4, c5, c6, _⟩ := hsp2.at_.own
    have f4 : w2.frozen? ⟨sp, 4, none⟩ = false := by obtain ⟨_, _, _, _, _, r1⟩ := hsp2.at_; exact r1.cells.2.2.2.2.2.2.2 4
    have f5 : w2.frozen? ⟨sp, 5, none⟩ = false := by obtain ⟨_, _, _, _, _, r1⟩ := hsp2.at_; exact r1.cells.2.2.2.2.2.2.2 5
    have f6 : w2.frozen? ⟨sp, 6, none⟩ = false := by obtain ⟨_, _, _, _, _, r1⟩ := hsp2.at_; exact r1.cells.2.2.2.2.2.2.2 6
    rw [hw2] at c4 c5 c6 f4 f5 f6
    clear hw1 ho1 hw2 ho2 hb2 ho HL hs2 hsp2 hwt
    go_wp2_with fail
    go_ret
    rw [HQ.out, if_pos (by trivial), ← HW2.out]
    exact ⟨rfl, HS.out⟩
  · have k1 : (er == 0) = false := by simpa using hz
    clear hw1 ho1 hw2 ho2 hb2 ho HL hs2
    go_wp2_with fail
    go_ret
    rw [HQ.out, if_neg hz, ← HW2.out]
    exact ⟨rfl, HH.out.1.quiet HW1.out.1⟩
end Spool
end Go.Proofs.YtndgnlblbjpogaaGreatDoor
