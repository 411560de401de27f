/- What SpoolReclaims asks of a spool on a disk that never fails: contracts. -/
import Derived.Test.YtndgnlblbjpogaaGreatDoorPlayS
namespace Go.Proofs.YtndgnlblbjpogaaGreatDoor
open Go Go.RowKit Go.Shelf Led
/-- The active segment is no greater than a segment may be, or has one body. -/
def Fits (P : SpoolV) (act : Grp) : Prop := act.bodies.length ≤ 1 ∨ (act.txt.length : Int) ≤ P.segm
namespace Play
variable {n k : Nat} {A : Nat → Prop} {w w' : World} {sp d : Nat} {P : SpoolV} {full : List Grp} {act : Grp} {ck : Option (List UInt8)}
theorem run_fits (h : Play n k A w sp d P full act ck) (hk : k ≤ 80) (a : ActV) (ha : a.Ok) (hf : Fits P act) (hs2 : P.segm ≤ 2000) :
    Calls Tryz.prog 14 #[.pointer (some ⟨sp, 0, none⟩), actAgg a] w fun e w' => e = .returned (.tuple #[.int .u64 (runV P a).2.1, .int .i64 (runV P a).2.2]) ∧ (∃ P' full' act' ck', Play n (k + 1) A w' sp d P' full' act' ck' ∧ Fits P' act' ∧ P'.segm ≤ 2000) ∧ Off (Spare n A) w w' := by
  have hM : act.end_ + 1 ≤ 100 := by have := h.end_; omega
  have hc := LawS.run_any _ _ n A w sp d P h.held (by omega) (by omega) a ha
  refine hc.mono ?_
  rintro e w' ⟨rfl, hs, ho⟩
  refine ⟨rfl, ?_, ho⟩
  by_cases h6 : pickN a.op 15 < 6
  · obtain ⟨P', f', a', c', e0, hg, hv⟩ := h.good.run_add bears_begun a h6 hM
    rw [e0] at hs
    exact ⟨P', f', a', c', ⟨hs.up (by omega) (by omega) (by omega) (by omega), hg, by have := h.end_; have := hv.end_; omega⟩, hv.fits.imp (fun x => by omega) (fun x => by rw [hv.segm]; exact x), by rw [hv.segm]; exact hs2⟩
  by_cases h14 : pickN a.op 15 = 14
  · obtain ⟨P', f', c', e0, hg, hv, _⟩ := h.good.run_idle bears_begun a h14
    rw [e0] at hs
    exact ⟨P', f', act, c', ⟨hs.up (by omega) (by omega) (by omega) (by omega), hg, by have := h.end_; omega⟩, hf.imp id (fun x => by rw [hv.segm]; exact x), by rw [hv.segm]; exact hs2⟩
  · obtain ⟨⟨c', hg⟩, hv⟩ := h.good.run_calm bears_begun a (by omega) h14
    exact ⟨_, full, act, c', ⟨hs.up (by omega) (by omega) (by omega) (by omega), hg, by have := h.end_; omega⟩, hf.imp id (fun x => by rw [hv.segm]; exact x), by rw [hv.segm]; exact hs2⟩
/-- The first one that a destination waits for is acked. -/
theorem ack (h : Play n k A w sp d P full act ck) (hdu : P.log.durable.end_ = act.end_) {i : Nat} {x : DestV} (hi : P.led.dests[i]? = some x) {p0 : Nat} {rest : List Nat} (hp : LedgerV.pendingOf x P.led.next = p0 :: rest) :
    Calls Tryz.prog 21 #[.pointer (some ⟨sp, 0, none⟩), .string x.name, .int .u64 p0] w fun e w' => e = .returned (.int .i64 0) ∧ (∃ P', Play n k A w' sp d P' full act ck ∧ P'.log = P.log ∧ P'.segm = P.segm ∧ P'.led.next = P.led.next ∧ P'.led.dests = P.led.dests.set i (x.counted p0 P.led.next true)) ∧ Off (Spare n A) w w' := by
  obtain ⟨e0, hg⟩ := h.good.ack_pend hdu hi hp
  have hc := h.held.ack x.name p0
  rw [e0] at hc
  refine hc.mono ?_
  rintro e w' ⟨rfl, hs, ho⟩
  exact ⟨rfl, ⟨_, ⟨hs, hg, h.end_⟩, rfl, rfl, rfl, rfl⟩, ho⟩
theorem sync2 (h : Play n k A w sp d P full act ck) :
    Calls Tryz.prog 18 #[.pointer (some ⟨sp, 0, none⟩)] w fun e w' => e = .returned (.int .i64 0) ∧ ∃ P', Play n k A w' sp d P' full act ck ∧ P'.log.durable.end_ = act.end_ ∧ P'.led = P.led ∧ P'.segm = P.segm ∧ Off (Spare n A) w w' := by
  obtain ⟨hg, hcm, e0, hd, hl⟩ := h.good.calm_sync
  have hc := h.held.sync
  rw [e0] at hc
  refine hc.mono ?_
  rintro e w' ⟨rfl, hsh, ho⟩
  exact ⟨rfl, _, ⟨hsh, hg, h.end_⟩, hd, hl, hcm.segm, ho⟩
theorem bytes_le (h : Play n k A w sp d P [] act ck) (hf : Fits P act) (hs2 : P.segm ≤ 2000) : P.log.bytes ≤ 2016 := by
  rw [h.good.log.bytes]
  have hs : GoodLog.sum ([] ++ [act]) = act.txt.length := by show act.txt.length + 0 = _; omega
  rw [hs]
  have hle := h.end_
  have hk := h.good.le
  rcases hf with hy | hy
  · obtain ⟨f, bs⟩ := act
    match bs, hy with
    | [], _ => exact Nat.zero_le _
    | [b], _ =>
      have hf : (f : Nat) + 1 ≤ 100 := hk
      have hbs : b.length ≤ 2000 := h.good.log.small ⟨f, [b]⟩ (by simp) b (by simp)
      have := frame_len8 f b (by omega) hbs
      show (Frame.putF f b ++ []).length ≤ _
      rw [List.append_nil]
      omega
  · omega
/-- No destination's front lies below the first number. -/
theorem free_first (h : Play n k A w sp d P full act ck) : P.led.first ≤ P.led.free := by
  unfold LedgerV.free
  exact free_ge _ _ _ h.good.right.le (fun x hx => (h.good.right.each x hx).2.first_le h.good.right.le)
end Play
end Go.Proofs.YtndgnlblbjpogaaGreatDoor
