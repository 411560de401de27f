/- What a law does with a spool on a disk that never fails: contracts. -/
import Derived.Test.YtndgnlblbjpogaaGreatDoorLawS6
namespace Go.Proofs.YtndgnlblbjpogaaGreatDoor
open Go Go.RowKit Go.Shelf Led
namespace Play
variable {n k : Nat} {A : Nat → Prop} {w w' : World} {sp d : Nat} {P : SpoolV} {full : List Grp} {act : Grp} {ck : Option (List UInt8)}
theorem fresh {A' : Nat → Prop} (h : Play n k A w sp d P full act ck) (ho : Off None w w') (hA : ∀ b, A' b → A b ∨ (w.heap.size ≤ b ∧ b < w'.heap.size)) : Play n k A' w' sp d P full act ck := ⟨h.held.fresh ho hA, h.good, h.end_⟩
theorem less {A' : Nat → Prop} (h : Play n k A' w sp d P full act ck) (hA : ∀ b, A b → A' b) : Play n k A w sp d P full act ck := ⟨h.held.less hA, h.good, h.end_⟩
theorem leave (h : Play n k A w sp d P full act ck) (hk : k ≤ 80) (name : ByteArray) :
    Calls Tryz.prog 25 #[.pointer (some ⟨sp, 0, none⟩), .string name] w fun e w' => e = .returned (.int .i64 (P.led.leaveErr name)) ∧ (∃ P' ck', Play n (k + 1) A w' sp d P' full act ck' ∧ (P.led.leaveErr name = 0 → P'.led = P.led.leave name)) ∧ Off (Spare n A) w w' := by
  obtain ⟨⟨ck', hg⟩, _, e0, hl⟩ := h.good.leave bears_begun name
  have hc := h.held.leave (by omega) name
  rw [e0] at hc
  refine hc.mono ?_
  rintro e w' ⟨rfl, hsh, ho⟩
  exact ⟨rfl, ⟨_, ck', ⟨hsh.up (by omega) (by omega) (by omega) (by omega), hg, by have := h.end_; omega⟩, hl⟩, ho⟩
theorem join (h : Play n k A w sp d P full act ck) (hk : k ≤ 80) (name : ByteArray) (hs : name.size ≤ maxLen) :
    Calls Tryz.prog 26 #[.pointer (some ⟨sp, 0, none⟩), .string name] w fun e w' => e = .returned (.int .i64 (P.led.joinErr name)) ∧ (∃ P' ck', Play n (k + 1) A w' sp d P' full act ck' ∧ (P.led.joinErr name = 0 → P'.led = P.led.joined name ∧ P'.log.durable.end_ = act.end_)) ∧ Off (Spare n A) w w' := by
  obtain ⟨⟨ck', hg⟩, _, e0, hl⟩ := h.good.join bears_begun name
  have hc := h.held.join (by omega) name hs
  rw [e0] at hc
  refine hc.mono ?_
  rintro e w' ⟨rfl, hsh, ho⟩
  exact ⟨rfl, ⟨_, ck', ⟨hsh.up (by omega) (by omega) (by omega) (by omega), hg, by have := h.end_; omega⟩, hl⟩, ho⟩
theorem reclaim (h : Play n k A w sp d P full act ck) (hk : k ≤ 80) :
    Calls Tryz.prog 17 #[.pointer (some ⟨sp, 0, none⟩)] w fun e w' => e = .returned (.int .i64 0) ∧ (∃ P' full' ck', Play n (k + 1) A w' sp d P' full' act ck' ∧ Evs act P full P' full' ∧ P'.led.dests = P.led.dests ∧ (full' = [] ∨ SpoolV.idle P' = false)) ∧ Off (Spare n A) w w' := by
  obtain ⟨P', full', ck', e0, hg, hv, hd, hx⟩ := h.good.reclaim bears_begun
  have hc := h.held.reclaim (by omega)
  have e1 : P.reclaim = (P', 0) := e0
  rw [e1] at hc
  refine hc.mono ?_
  rintro e w' ⟨rfl, hsh, ho⟩
  exact ⟨rfl, ⟨P', full', ck', ⟨hsh.up (by omega) (by omega) (by omega) (by omega), hg, by have := h.end_; omega⟩, hv, hd, hx⟩, ho⟩
/-- All destinations have all: every full segment goes. -/
theorem reclaim_all (h : Play n k A w sp d P full act ck) (hk : k ≤ 80) (hd : ∀ x ∈ P.led.dests, x.low = P.led.next) :
    Calls Tryz.prog 17 #[.pointer (some ⟨sp, 0, none⟩)] w fun e w' => e = .returned (.int .i64 0) ∧ (∃ P' ck', Play n (k + 1) A w' sp d P' [] act ck' ∧ P'.log.durable = P.log.durable ∧ P'.led.next = P.led.next ∧ P'.led.dests = P.led.dests ∧ P'.segm = P.segm) ∧ Off (Spare n A) w w' := by
  obtain ⟨P', ck', e0, hg, hv, hd'⟩ := h.good.reclaim_all bears_begun hd
  have hc := h.held.reclaim (by omega)
  have e1 : P.reclaim = (P', 0) := e0
  rw [e1] at hc
  refine hc.mono ?_
  rintro e w' ⟨rfl, hsh, ho⟩
  exact ⟨rfl, ⟨P', ck', ⟨hsh.up (by omega) (by omega) (by omega) (by omega), hg, by have := h.end_; omega⟩, hv.dur, hv.next, hd', hv.segm⟩, ho⟩
/-- How many files there are. -/
theorem list (h : Play n k A w sp d P [] act ck) :
    Calls Tryz.prog 22 #[.pointer (some ⟨d, 0, none⟩)] w fun e w' => (∃ A' m c, e = .returned (.slice A' m c) ∧ m ≤ 2) ∧ Off None w w' := by
  obtain ⟨F, lg, off, sv, Fs, S, hin⟩ := h.held.any
  obtain ⟨Fd, hd, _, _⟩ := hin.st.disk'
  have hl := h.held.wk.limN.names
  have hN := h.held.wk.leN
  refine (DiskW.list_any w d P.disk Fd hd (by omega)).mono ?_
  rintro e w' ⟨v, rfl, hown, hb⟩
  obtain ⟨A', c, rfl⟩ := own_form hown
  exact ⟨⟨A', _, c, rfl, h.good.files_le⟩, Off.of_below hb⟩
end Play
end Go.Proofs.YtndgnlblbjpogaaGreatDoor
