/- A spool, plain: what each of its functions does with the disk, the log and the ledger. No program stands here. · A spool's bounds, plain: each function keeps them. No program stands here. · A spool, plain: what becomes of bodies; destinations; their bounds. No program stands here. -/
import Derived.Test.YtndgnlblbjpogaaGreatDoorMarkM
import Derived.Test.YtndgnlblbjpogaaGreatDoorLedJ
import Derived.Test.YtndgnlblbjpogaaGreatDoorLedE
import Derived.Test.YtndgnlblbjpogaaGreatDoorOpen
import Derived.Test.YtndgnlblbjpogaaGreatDoorFLog
import Derived.Test.YtndgnlblbjpogaaGreatDoorLedK
import Derived.Test.YtndgnlblbjpogaaGreatDoorLedL
namespace Go.Proofs.YtndgnlblbjpogaaGreatDoor
open Go Go.RowKit
abbrev nmOk : ByteArray → Prop := fun s => nameOk s = true
def ckB : ByteArray := ⟨#[99, 107]⟩
def ckT : ByteArray := ⟨#[99, 107, 126]⟩
namespace DiskV
/-- What swap.Write does with the spool's file. -/
def swap (D : DiskV) (s : ByteArray) : DiskV × Int :=
  if (D.remove ckT).2 ≠ 0 ∧ (D.remove ckT).2 ≠ 5 then D.remove ckT
  else
    let b := (D.remove ckT).1.create ckT
    if b.2 ≠ 0 then b
    else
      let c := b.1.append ckT s
      let e := if c.2 = 0 then c.1.sync ckT else c
      if e.2 ≠ 0 then ((e.1.remove ckT).1, e.2)
      else
        let f := e.1.rename ckT ckB
        if f.2 ≠ 0 then f else f.1.syncDir
def cleanGo (D : DiskV) : List Bytes → DiskV × Int
  | [] => D.syncDir
  | s :: r =>
    if s.getLast? = some 126 then (if (D.remove ⟨s.toArray⟩).2 ≠ 0 then D.remove ⟨s.toArray⟩ else (D.remove ⟨s.toArray⟩).1.cleanGo r)
    else D.cleanGo r
/-- What swap.Clean does. -/
def clean (D : DiskV) : DiskV × Int := D.cleanGo D.list
end DiskV
/-- The second segment's first number. -/
def LogV.second (L : LogV) : Nat := match L.full with
  | [] => 0
  | _ :: r => match r with
    | [] => L.act.first
    | t :: _ => t.first
structure SpoolV where
  budget : Int
  segm : Int
  log : LogV
  led : LedgerV
  disk : DiskV
namespace SpoolV
/-- What keep does with a ledger that is right. -/
def keep (P : SpoolV) (l : LedgerV) : SpoolV × Int :=
  if (P.disk.swap (Mark.markB l)).2 = 0 then ({ P with disk := (P.disk.swap (Mark.markB l)).1, led := l }, 0)
  else ({ P with disk := (P.disk.swap (Mark.markB l)).1 }, (P.disk.swap (Mark.markB l)).2)
def drop (P : SpoolV) : SpoolV × Int := ({ P with log := (P.log.drop P.disk).1, disk := (P.log.drop P.disk).2.1 }, (P.log.drop P.disk).2.2)
/-- One segment is given up. -/
def evictOne (P : SpoolV) : SpoolV × Int :=
  if P.led.evictErr P.log.second ≠ 0 then (P, P.led.evictErr P.log.second)
  else if (P.keep (P.led.evict P.log.second)).2 ≠ 0 then P.keep (P.led.evict P.log.second)
  else (P.keep (P.led.evict P.log.second)).1.drop
def evict (cond : SpoolV → Bool) : Nat → SpoolV → SpoolV × Int
  | 0, P => (P, 0)
  | k + 1, P => if P.log.full = [] then (P, 0) else if cond P = true then (if P.evictOne.2 ≠ 0 then P.evictOne else evict cond k P.evictOne.1) else (P, 0)
def full (P : SpoolV) : Bool := decide (P.budget < (P.log.bytes : Int))
def idle (P : SpoolV) : Bool := decide (P.log.second ≤ P.led.free)
def sync (P : SpoolV) : SpoolV × Int := ({ P with log := (P.log.sync P.disk).1, disk := (P.log.sync P.disk).2.1 }, (P.log.sync P.disk).2.2)
def undo (P : SpoolV) : SpoolV × Int := ({ P with log := (P.log.undo P.disk).1, disk := (P.log.undo P.disk).2.1 }, (P.log.undo P.disk).2.2)
def roll (P : SpoolV) : SpoolV × Int := ({ P with log := (P.log.roll P.disk).1, disk := (P.log.roll P.disk).2.1 }, (P.log.roll P.disk).2.2)
def append (P : SpoolV) (body : ByteArray) : SpoolV × Nat × Int :=
  ({ P with log := (P.log.append P.disk body).1, disk := (P.log.append P.disk body).2.1 }, (P.log.append P.disk body).2.2)
/-- What put does. -/
def put (P : SpoolV) (body : ByteArray) (s : Bool) : SpoolV × Nat × Int :=
  if s = false then P.append body
  else if P.sync.2 ≠ 0 then (P.sync.1, 0, P.sync.2)
  else
    let a := P.sync.1.append body
    if a.2.2 ≠ 0 then (a.1, 0, a.2.2)
    else
      let b := a.1.sync
      if b.2 ≠ 0 then (b.1.undo.1, 0, b.2) else (b.1, a.2.1, 0)
def gone (P : SpoolV) (cond : SpoolV → Bool) : SpoolV × Int := evict cond P.log.full.length P
/-- The active segment has no room for a body. -/
def tight (P : SpoolV) (body : ByteArray) : Bool := decide (0 < P.log.act.many) && decide (P.segm < ((P.log.act.size + (Frame.putF P.log.act.end_ body.data.toList).length : Nat) : Int))
def rolled (P : SpoolV) (body : ByteArray) : SpoolV × Int := if P.tight body = true then P.roll else (P, 0)
/-- What Add does. -/
def add (P : SpoolV) (body : ByteArray) (s : Bool) : SpoolV × Nat × Int :=
  if 2000 < body.size then (P, 0, 7)
  else
    let a := P.gone full
    if a.2 ≠ 0 then (a.1, 0, a.2)
    else
      let b := a.1.rolled body
      if b.2 ≠ 0 then (b.1, 0, b.2)
      else
        let c := b.1.put body s
        if c.2.2 ≠ 0 then (c.1, 0, c.2.2)
        else ((({ c.1 with led := c.1.led.add } : SpoolV).gone full).1, c.2.1, 0)
end SpoolV
end Go.Proofs.YtndgnlblbjpogaaGreatDoor
namespace Go.Proofs.YtndgnlblbjpogaaGreatDoor
open Go Go.RowKit
theorem lim_append2 {N : Nat} {D : DiskV} (h : Lim N D) (name s : ByteArray) (hs : s.size ≤ 6000) (hN : N + 2 ≤ 1000000) : Lim (N + 2) (D.append name s).1 := by
  have h0 := lim_find h name
  unfold DiskV.append
  obtain ⟨D1, oi, er, hfd⟩ : ∃ D1 oi er, D.find name = (D1, oi, er) := ⟨_, _, _, rfl⟩
  rw [hfd] at h0 ⊢
  dsimp only at h0
  have up : ∀ {X : DiskV}, Lim N X → Lim (N + 2) X := fun hx => hx.mono (by omega) hN
  cases oi with
  | none => exact up h0
  | some i =>
    dsimp only
    split
    · exact up h0
    · split
      · exact up (lim_fails h0)
      · cases hf : D1.files[i]? with
        | none => exact up h0
        | some f =>
          have he := h0.each f (List.mem_of_getElem? hf)
          refine lim_setFile (up (lim_fails h0)) i _ ?_ ?_
          · show (f.chgs ++ [_]).length ≤ _
            rw [List.length_append]; have := he.1; simp; omega
          · show (f.now ++ s).size ≤ _
            rw [ByteArray.size_append]; have := he.2; omega
theorem lim_rename {N : Nat} {D : DiskV} (h : Lim N D) (src dst : ByteArray) (hN : N + 1 ≤ 1000000) : Lim (N + 1) (D.rename src dst).1 := by
  have h0 := lim_find h src
  unfold DiskV.rename
  obtain ⟨D1, oi, er, hfd⟩ : ∃ D1 oi er, D.find src = (D1, oi, er) := ⟨_, _, _, rfl⟩
  rw [hfd] at h0 ⊢
  dsimp only at h0
  cases oi with
  | none => exact h0.mono (by omega) hN
  | some i =>
    dsimp only
    split
    · exact h0.mono (by omega) hN
    · exact lim_moved h0 _ hN
theorem lim_swap {N : Nat} {D : DiskV} (h : Lim N D) (s : ByteArray) (hs : s.size ≤ 6000) (hN : N + 6 ≤ 1000000) : Lim (N + 6) (D.swap s).1 := by
  have h1 := lim_remove h ckT (by omega)
  have h2 := lim_create h1 ckT (by omega)
  have h3 := lim_append2 h2 ckT s hs (by omega)
  unfold DiskV.swap
  split
  · exact h1.mono (by omega) hN
  · dsimp only
    split
    · exact h2.mono (by omega) hN
    · have h4 : Lim (N + 1 + 2 + 2) (if (((D.remove ckT).1.create ckT).1.append ckT s).2 = 0 then (((D.remove ckT).1.create ckT).1.append ckT s).1.sync ckT else (((D.remove ckT).1.create ckT).1.append ckT s)).1 := by
        split
        · exact lim_sync h3 ckT
        · exact h3
      obtain ⟨e, he⟩ : ∃ e : DiskV × Int, e = (if (((D.remove ckT).1.create ckT).1.append ckT s).2 = 0 then (((D.remove ckT).1.create ckT).1.append ckT s).1.sync ckT else (((D.remove ckT).1.create ckT).1.append ckT s)) := ⟨_, rfl⟩
      rw [← he] at h4 ⊢
      split
      · exact lim_remove h4 ckT (by omega)
      · have h5 := lim_rename h4 ckT ckB (by omega)
        split
        · exact h5
        · exact lim_dir h5
theorem lim_cleanGo (l : List Bytes) : ∀ {N : Nat} {D : DiskV}, Lim N D → N + l.length ≤ 1000000 → Lim (N + l.length) (D.cleanGo l).1 := by
  induction l with
  | nil => intro N D h _; exact lim_dir h
  | cons s r ih =>
    intro N D h hN
    rw [List.length_cons] at hN ⊢
    have h1 := lim_remove h ⟨s.toArray⟩ (by omega)
    unfold DiskV.cleanGo
    split
    · split
      · exact h1.mono (by omega) (by omega)
      · have := ih h1 (by omega)
        rw [show N + (r.length + 1) = N + 1 + r.length by omega]
        exact this
    · exact (ih h (by omega)).mono (by omega) (by omega)
theorem list_len (D : DiskV) : D.list.length = D.names.length := by
  unfold DiskV.list
  rw [List.length_mergeSort, List.length_map]
theorem lim_clean {N : Nat} {D : DiskV} (h : Lim N D) (hN : N + N ≤ 1000000) : Lim (N + N) D.clean.1 := by
  have h1 := list_len D
  have h2 := h.names
  exact (lim_cleanGo D.list h (by omega)).mono (by omega) hN
/-- Bounds of a log's numbers. -/
structure LogV.Nb (M : Nat) (L : LogV) : Prop where
  segs : ∀ s ∈ L.segs, s.end_ ≤ M ∧ s.size ≤ s.many * 3000
  dur : L.durable.end_ ≤ M ∧ L.durable.size ≤ L.durable.many * 3000
namespace LogV.Nb
variable {M : Nat} {L : LogV} {D : DiskV}
theorem act (h : L.Nb M) : L.act.end_ ≤ M ∧ L.act.size ≤ L.act.many * 3000 := h.segs _ (by unfold LogV.segs; simp)
theorem mono {M' : Nat} (h : L.Nb M) (hm : M ≤ M') : L.Nb M' := ⟨fun s hs => ⟨Nat.le_trans (h.segs s hs).1 hm, (h.segs s hs).2⟩, Nat.le_trans h.dur.1 hm, h.dur.2⟩
theorem segOk {s : SegV} (h1 : s.end_ ≤ M) (h2 : s.size ≤ s.many * 3000) (hM : M ≤ 1000000) : s.Ok := by
  unfold SegV.end_ at h1
  exact ⟨by omega, by omega, by omega⟩
theorem ok (h : L.Nb M) (hM : M ≤ 1000000) : L.Ok := ⟨fun s hs => segOk (h.segs s hs).1 (h.segs s hs).2 hM, segOk h.dur.1 h.dur.2 hM⟩
theorem setAct (h : L.Nb M) {a : SegV} (h1 : a.end_ ≤ M) (h2 : a.size ≤ a.many * 3000) : LogV.Nb M { L with act := a } := by
  refine ⟨fun s hs => ?_, h.dur⟩
  rcases List.mem_append.1 hs with hs | hs
  · exact h.segs s (List.mem_append_left _ hs)
  · rw [List.mem_singleton.1 hs]; exact ⟨h1, h2⟩
theorem setDur (h : L.Nb M) {a : SegV} (h1 : a.end_ ≤ M) (h2 : a.size ≤ a.many * 3000) : LogV.Nb M { L with durable := a } := ⟨h.segs, h1, h2⟩
theorem append (h : L.Nb M) (body : ByteArray) (hM : M ≤ 1000000) : (L.append D body).1.Nb (M + 1) := by
  have ha := h.act
  unfold LogV.append
  split
  · exact h.mono (Nat.le_succ _)
  · rename_i hb
    dsimp only
    split
    · have hlen := Frame.putF_len L.act.end_ body.data.toList (by omega) (by show body.data.toList.length ≤ 2000; simp; omega)
      have hbl : body.data.toList.length ≤ 2000 := by simp; omega
      refine (h.mono (Nat.le_succ _)).setAct ?_ ?_
      · show L.act.first + (L.act.many + 1) ≤ M + 1
        have := ha.1; unfold SegV.end_ at this; omega
      · show L.act.size + (Frame.putF L.act.end_ body.data.toList).length ≤ (L.act.many + 1) * 3000
        have := ha.2; omega
    · exact h.mono (Nat.le_succ _)
theorem sync (h : L.Nb M) : (L.sync D).1.Nb M := by
  unfold LogV.sync
  split
  · exact h
  · dsimp only
    split
    · exact h.setDur h.act.1 h.act.2
    · exact h
theorem undo (h : L.Nb M) : (L.undo D).1.Nb M := by
  unfold LogV.undo
  split
  · exact h
  · dsimp only
    split
    · exact h.setAct h.dur.1 h.dur.2
    · exact h
theorem roll (h : L.Nb M) : (L.roll D).1.Nb M := by
  have ha := h.act
  unfold LogV.roll
  split
  · exact h
  · dsimp only
    split
    · split
      · refine ⟨fun s hs => ?_, ?_, Nat.zero_le _⟩
        · rcases List.mem_append.1 hs with hs | hs
          · exact h.segs s hs
          · rw [List.mem_singleton.1 hs]; exact ⟨by show L.act.end_ + 0 ≤ M; omega, Nat.zero_le _⟩
        · show L.act.end_ + 0 ≤ M; omega
      · exact h.setDur ha.1 ha.2
    · exact h
theorem drop (h : L.Nb M) : (L.drop D).1.Nb M := by
  unfold LogV.drop
  cases hf : L.full with
  | nil => exact h
  | cons s r =>
    dsimp only
    split
    · refine ⟨fun x hx => h.segs x ?_, h.dur⟩
      unfold LogV.segs at hx ⊢
      rw [hf]
      exact List.mem_cons_of_mem _ hx
    · exact h
theorem second (h : L.Nb M) : L.second ≤ M := by
  unfold LogV.second
  split
  · exact Nat.zero_le _
  · rename_i s r hf
    split
    · have := h.act.1; unfold SegV.end_ at this; omega
    · rename_i t q
      have := (h.segs t (by unfold LogV.segs; rw [hf]; simp)).1
      unfold SegV.end_ at this; omega
theorem bytes (h : L.Nb M) (hM : M ≤ 1000000) (hl : L.segs.length ≤ 1000000) : L.bytes ≤ 9223372036854775807 := by
  unfold LogV.bytes
  have key : ∀ xs : List SegV, (∀ s ∈ xs, s.end_ ≤ M ∧ s.size ≤ s.many * 3000) → (xs.map (·.size)).sum ≤ xs.length * 3000000000 := by
    intro xs
    induction xs with
    | nil => intro _; exact Nat.zero_le _
    | cons s r ih =>
      intro hx
      rw [List.map_cons, List.sum_cons, List.length_cons]
      have h1 := ih (fun y hy => hx y (by simp [hy]))
      have h2 := hx s (by simp)
      unfold SegV.end_ at h2
      omega
  have := key L.segs h.segs
  omega
end LogV.Nb
theorem nameOk_size {s : ByteArray} (h : nameOk s = true) : s.size ≤ 20 := by
  unfold nameOk at h
  split at h
  · cases h
  · simp only [Bool.and_eq_true, decide_eq_true_eq] at h
    exact h.1.1
/-- The numbers of a ledger that is right. -/
theorem LedgerV.Right.nums {l : LedgerV} {M : Nat} (h : l.Right nmOk) (hn : l.next ≤ M) : ∀ d ∈ l.dests, d.name.size ≤ 20 ∧ d.since ≤ M ∧ d.low ≤ M ∧ d.acked ≤ M ∧ d.evicted ≤ M ∧ d.rejected ≤ M ∧ d.above.length ≤ M ∧ ∀ s ∈ d.above, s ≤ M := by
  intro d hd
  obtain ⟨h1, h2⟩ := h.each d hd
  have hm := h2.many
  have h3 := h2.sum
  have h4 := h2.lle
  have h5 := h2.sle
  exact ⟨nameOk_size h1, by omega, by omega, by omega, by omega, by omega, by omega, fun s hs => by have := (h2.above s hs).2; omega⟩
theorem LedgerV.Right.small {l : LedgerV} {M : Nat} (h : l.Right nmOk) (hn : l.next ≤ M) (hM : M ≤ 1000000) : ∀ d ∈ l.dests, d.Small := by
  intro d hd
  obtain ⟨h1, h2, h3, h4, h5, h6, h7, h8⟩ := h.nums hn d hd
  have hbig : big = 549755813888 := rfl
  exact ⟨by unfold maxLen; omega, by omega, by omega, by omega, by omega, by omega, fun s hs => by have := h8 s hs; omega, by omega⟩
theorem LedgerV.Right.mark {l : LedgerV} (h : l.Right nmOk) (hn : l.next ≤ 700) : (Mark.markB l).size ≤ 6000 := by
  have := Mark.markL_len l 700 (by omega) (Nat.le_trans h.le hn) hn h.few (h.nums hn)
  show (Mark.markL l).length ≤ 6000
  omega
/-- Bounds of a spool, and that its ledger is right. -/
structure SpoolV.Wk (M N : Nat) (P : SpoolV) : Prop where
  le : M ≤ 700
  leN : N ≤ 900000
  right : P.led.Right nmOk
  next : P.led.next ≤ M
  nums : P.log.Nb M
  lim : ∃ k, Lim k P.disk ∧ k + 12 * P.log.segs.length ≤ N
namespace SpoolV.Wk
variable {M N : Nat} {P : SpoolV}
theorem mono {M' N' : Nat} (h : P.Wk M N) (hM : M ≤ M') (hN : N ≤ N') (h1 : M' ≤ 700) (h2 : N' ≤ 900000) : P.Wk M' N' := by
  obtain ⟨k, hk, hl⟩ := h.lim
  exact ⟨h1, h2, h.right, Nat.le_trans h.next hM, h.nums.mono hM, k, hk, by omega⟩
theorem ok (h : P.Wk M N) : P.log.Ok := h.nums.ok (by have := h.le; omega)
theorem few (h : P.Wk M N) : P.log.segs.length ≤ 75000 := by
  obtain ⟨k, hk, hl⟩ := h.lim
  have := h.leN
  omega
theorem limN (h : P.Wk M N) : Lim N P.disk := by
  obtain ⟨k, hk, hl⟩ := h.lim
  exact hk.mono (by omega) (by have := h.leN; omega)
theorem keep {k : Nat} {l : LedgerV} (h : P.Wk M N) (hl : l.Right nmOk) (hn : l.next ≤ M) (hk : Lim k P.disk) : (P.keep l).1.led.Right nmOk ∧ (P.keep l).1.led.next ≤ M ∧ (P.keep l).1.log = P.log ∧ (k + 6 ≤ 1000000 → Lim (k + 6) (P.keep l).1.disk) := by
  have hs := hl.mark (Nat.le_trans hn h.le)
  unfold SpoolV.keep
  split
  · exact ⟨hl, hn, rfl, fun hk6 => lim_swap hk _ hs hk6⟩
  · exact ⟨h.right, h.next, rfl, fun hk6 => lim_swap hk _ hs hk6⟩
theorem keep1 {l : LedgerV} (h : P.Wk M N) (hl : l.Right nmOk) (hn : l.next ≤ M) (hN : N + 6 ≤ 900000) : (P.keep l).1.Wk M (N + 6) := by
  obtain ⟨k, hk, hle⟩ := h.lim
  obtain ⟨h1, h2, h3, h4⟩ := h.keep hl hn hk
  exact ⟨h.le, hN, h1, h2, by rw [h3]; exact h.nums, k + 6, h4 (by omega), by rw [h3]; omega⟩
theorem evict_in (h : P.Wk M N) (he : P.led.evictErr P.log.second = 0) : (P.led.evict P.log.second).Right nmOk ∧ (P.led.evict P.log.second).next ≤ M := by
  unfold LedgerV.evictErr at he
  split at he
  · cases he
  · rename_i hc
    exact ⟨h.right.evict (by omega) (by omega), h.next⟩
theorem drop_len (L : LogV) (D : DiskV) : (L.drop D).1.segs.length ≤ L.segs.length ∧ ((L.drop D).2.2 = 0 → L.full ≠ [] → (L.drop D).1.segs.length + 1 = L.segs.length) := by
  unfold LogV.drop
  cases hf : L.full with
  | nil => exact ⟨Nat.le_refl _, fun _ h => absurd rfl h⟩
  | cons s r =>
    have e : L.segs.length = r.length + 2 := by unfold LogV.segs; rw [hf]; simp
    dsimp only
    split
    · rw [e]
      show (r ++ [L.act]).length ≤ _ ∧ (_ → _ → (r ++ [L.act]).length + 1 = _)
      simp
    · rename_i hne
      exact ⟨Nat.le_refl _, fun h => absurd h hne⟩
theorem evictOne (h : P.Wk M N) (hN : N + 12 ≤ 900000) (hf : P.log.full ≠ []) : P.evictOne.1.Wk M (N + 12) ∧ (P.evictOne.2 = 0 → P.evictOne.1.Wk M N ∧ P.evictOne.1.log.full.length + 1 = P.log.full.length) := by
  unfold SpoolV.evictOne
  split
  · rename_i he
    exact ⟨h.mono (Nat.le_refl _) (by omega) h.le hN, fun h0 => absurd h0 he⟩
  · rename_i he
    have he : P.led.evictErr P.log.second = 0 := by simpa using he
    obtain ⟨e1, e2⟩ := h.evict_in he
    obtain ⟨k, hk, hle⟩ := h.lim
    obtain ⟨h1, h2, h3, h4⟩ := h.keep e1 e2 hk
    split
    · rename_i hne
      exact ⟨(h.keep1 e1 e2 (by omega)).mono (Nat.le_refl _) (by omega) h.le hN, fun h0 => absurd h0 hne⟩
    · obtain ⟨Q, hQ⟩ : ∃ Q, Q = (P.keep (P.led.evict P.log.second)).1 := ⟨_, rfl⟩
      rw [← hQ] at h1 h2 h3 h4 ⊢
      have h5 := lim_ldrop (L := Q.log) (h4 (by omega)) (by omega)
      obtain ⟨d1, d2⟩ := drop_len Q.log Q.disk
      have h6 : Q.log.Nb M := by rw [h3]; exact h.nums
      have e5 : Q.log.segs.length = P.log.segs.length := by rw [h3]
      refine ⟨⟨h.le, hN, h1, h2, h6.drop, k + 6 + 1, h5, ?_⟩, fun h0 => ?_⟩
      · show k + 6 + 1 + 12 * (Q.log.drop Q.disk).1.segs.length ≤ N + 12
        omega
      · have d3 := d2 h0 (by rw [h3]; exact hf)
        refine ⟨⟨h.le, by omega, h1, h2, h6.drop, k + 6 + 1, h5, ?_⟩, ?_⟩
        · show k + 6 + 1 + 12 * (Q.log.drop Q.disk).1.segs.length ≤ N
          omega
        · show (Q.log.drop Q.disk).1.full.length + 1 = _
          have a1 := LogV.len (Q.log.drop Q.disk).1
          have a2 := LogV.len P.log
          omega
theorem evict (cond : SpoolV → Bool) (k : Nat) : ∀ {P : SpoolV}, P.Wk M N → N + 12 ≤ 900000 → (SpoolV.evict cond k P).1.Wk M (N + 12) := by
  induction k with
  | zero => intro P h hN; exact h.mono (Nat.le_refl _) (by omega) h.le hN
  | succ k ih =>
    intro P h hN
    unfold SpoolV.evict
    split
    · exact h.mono (Nat.le_refl _) (by omega) h.le hN
    · rename_i hf
      obtain ⟨h1, h2⟩ := h.evictOne hN hf
      split
      · split
        · exact h1
        · rename_i he
          exact ih (h2 (by simpa using he)).1 hN
      · exact h.mono (Nat.le_refl _) (by omega) h.le hN
theorem sync (h : P.Wk M N) : P.sync.1.Wk M N := by
  obtain ⟨k, hk, hle⟩ := h.lim
  have e : (P.log.sync P.disk).1.segs.length = P.log.segs.length := by
    unfold LogV.sync
    split
    · rfl
    · dsimp only; split <;> rfl
  exact ⟨h.le, h.leN, h.right, h.next, h.nums.sync, k, lim_lsync hk, by show k + 12 * (P.log.sync P.disk).1.segs.length ≤ N; omega⟩
theorem undo (h : P.Wk M N) (hN : N + 1 ≤ 900000) : P.undo.1.Wk M (N + 1) := by
  obtain ⟨k, hk, hle⟩ := h.lim
  have e : (P.log.undo P.disk).1.segs.length = P.log.segs.length := by
    unfold LogV.undo
    split
    · rfl
    · dsimp only
      split
      · unfold LogV.segs; simp
      · rfl
  exact ⟨h.le, hN, h.right, h.next, h.nums.undo, k + 1, lim_lundo hk (by omega), by show k + 1 + 12 * (P.log.undo P.disk).1.segs.length ≤ N + 1; omega⟩
theorem roll (h : P.Wk M N) (hN : N + 14 ≤ 900000) : P.roll.1.Wk M (N + 14) := by
  obtain ⟨k, hk, hle⟩ := h.lim
  have e : (P.log.roll P.disk).1.segs.length ≤ P.log.segs.length + 1 := by
    unfold LogV.roll
    split
    · exact Nat.le_succ _
    · dsimp only
      split
      · split
        · show (P.log.segs ++ [_]).length ≤ _; simp
        · exact Nat.le_succ _
      · exact Nat.le_succ _
  exact ⟨h.le, hN, h.right, h.next, h.nums.roll, k + 2, lim_lroll hk (by omega), by show k + 2 + 12 * (P.log.roll P.disk).1.segs.length ≤ N + 14; omega⟩
theorem append (h : P.Wk M N) (body : ByteArray) (hM : M + 1 ≤ 700) (hN : N + 1 ≤ 900000) : (P.append body).1.Wk (M + 1) (N + 1) := by
  obtain ⟨k, hk, hle⟩ := h.lim
  have e : (P.log.append P.disk body).1.segs.length = P.log.segs.length := by
    unfold LogV.append
    split
    · rfl
    · dsimp only
      split
      · unfold LogV.segs; simp
      · rfl
  have := h.nums.act.1
  exact ⟨hM, hN, h.right, Nat.le_succ_of_le h.next, h.nums.append body (by omega), k + 1, lim_lappend hk body (by omega) (by omega), by show k + 1 + 12 * (P.log.append P.disk body).1.segs.length ≤ N + 1; omega⟩
theorem put (h : P.Wk M N) (body : ByteArray) (s : Bool) (hM : M + 1 ≤ 700) (hN : N + 2 ≤ 900000) : (P.put body s).1.Wk (M + 1) (N + 2) := by
  unfold SpoolV.put
  split
  · exact (h.append body hM (by omega)).mono (Nat.le_refl _) (by omega) hM hN
  · split
    · exact h.sync.mono (by omega) (by omega) hM hN
    · have h1 := h.sync.append body hM (by omega)
      dsimp only
      split
      · exact h1.mono (Nat.le_refl _) (by omega) hM hN
      · split
        · exact h1.sync.undo (by omega)
        · exact h1.sync.mono (Nat.le_refl _) (by omega) hM hN
theorem put_led (P : SpoolV) (body : ByteArray) (s : Bool) : (P.put body s).1.led = P.led := by
  unfold SpoolV.put
  split
  · rfl
  · split
    · rfl
    · dsimp only
      split
      · rfl
      · split <;> rfl
theorem add (h : P.Wk M N) (body : ByteArray) (s : Bool) (hM : M + 1 ≤ 700) (hN : N + 40 ≤ 900000) : (P.add body s).1.Wk (M + 1) (N + 40) := by
  unfold SpoolV.add
  split
  · exact h.mono (by omega) (by omega) hM hN
  · have h1 := SpoolV.Wk.evict SpoolV.full P.log.full.length h (by omega)
    dsimp only
    split
    · exact h1.mono (by omega) (by omega) hM hN
    · obtain ⟨Q, hQ⟩ : ∃ Q, Q = (P.gone SpoolV.full).1 := ⟨_, rfl⟩
      rw [← hQ]
      have h1 : Q.Wk M (N + 12) := by rw [hQ]; exact h1
      have h2 : (Q.rolled body).1.Wk M (N + 26) := by
        unfold SpoolV.rolled
        split
        · exact h1.roll (by omega)
        · exact h1.mono (Nat.le_refl _) (by omega) h.le (by omega)
      split
      · exact h2.mono (by omega) (by omega) hM hN
      · have h3 := h2.put body s hM (by omega)
        split
        · exact h3.mono (Nat.le_refl _) (by omega) hM hN
        · have hl := put_led (Q.rolled body).1 body s
          have h4 : ({ ((Q.rolled body).1.put body s).1 with led := ((Q.rolled body).1.put body s).1.led.add } : SpoolV).Wk (M + 1) (N + 28) := by
            obtain ⟨k, hk, hle⟩ := h3.lim
            refine ⟨hM, by omega, h3.right.add, ?_, h3.nums, k, hk, by omega⟩
            show ((Q.rolled body).1.put body s).1.led.next + 1 ≤ M + 1
            rw [hl]
            have := h2.next
            omega
          exact SpoolV.Wk.evict SpoolV.full _ h4 (by omega)
end SpoolV.Wk
end Go.Proofs.YtndgnlblbjpogaaGreatDoor
namespace Go.Proofs.YtndgnlblbjpogaaGreatDoor
open Go Go.RowKit
/-- All of what is below the first number is done. -/
theorem DestV.Right.first_le {d : DestV} {first next : Nat} (h : d.Right first next) (hf : first ≤ next) : first ≤ d.low := by
  rcases h.front with h1 | h1
  · have h2 := h.sle
    have h3 := h.lle
    rcases Nat.lt_or_ge d.low first with hlt | hge
    · exfalso
      have h5 := rising_len d.above (d.low + 1) next h.rising (fun s hs => ⟨(h.above s hs).1, (h.above s hs).2⟩) (by omega)
      omega
    · exact hge
  · exact h1
namespace LedgerV
theorem Right.mark_ {nm : ByteArray → Prop} {l : LedgerV} (h : Right nm l) (name : ByteArray) (seq : Nat) (ack : Bool) : Right nm (l.marked name seq ack) := by
  unfold marked
  cases hp : place l.dests name with
  | none => exact h
  | some i =>
    have hi := (place_some hp).1
    dsimp only
    rw [List.getElem?_eq_getElem hi]
    dsimp only
    obtain ⟨d, hd⟩ : ∃ d, d = l.dests[i] := ⟨_, rfl⟩
    have hr := (h.each _ (List.getElem_mem hi)).2
    have hn : (d.counted seq l.next ack).name = d.name := by
      unfold DestV.counted
      split <;> rfl
    rw [← hd]
    refine h.set hi (by rw [hn, hd]) ?_
    rw [← hd] at hr
    have hdo := DestV.done_of hr seq (seq + 1)
    obtain ⟨c1, c2, c3⟩ := hdo.counts
    have hfl : l.first ≤ (d.done seq (seq + 1) l.next).1.low := Nat.le_trans (hr.first_le h.le) hdo.low
    unfold DestV.counted
    cases ack with
    | true => exact hdo.right hr (first' := l.first) (a := (d.done seq (seq + 1) l.next).1.acked + (d.done seq (seq + 1) l.next).2) (v := (d.done seq (seq + 1) l.next).1.evicted) (r := (d.done seq (seq + 1) l.next).1.rejected) (by rw [c1, c2, c3]; omega) (.inr hfl)
    | false => exact hdo.right hr (first' := l.first) (a := (d.done seq (seq + 1) l.next).1.acked) (v := (d.done seq (seq + 1) l.next).1.evicted) (r := (d.done seq (seq + 1) l.next).1.rejected + (d.done seq (seq + 1) l.next).2) (by rw [c1, c2, c3]; omega) (.inr hfl)
theorem marked_next (l : LedgerV) (name : ByteArray) (seq : Nat) (ack : Bool) : (l.marked name seq ack).next = l.next ∧ (l.marked name seq ack).first = l.first := by
  unfold marked
  split
  · exact ⟨rfl, rfl⟩
  · split <;> exact ⟨rfl, rfl⟩
theorem leave_next (l : LedgerV) (name : ByteArray) : (l.leave name).next = l.next ∧ (l.leave name).first = l.first := by
  unfold leave
  split <;> exact ⟨rfl, rfl⟩
theorem Right.leave_ {nm : ByteArray → Prop} {l : LedgerV} (h : Right nm l) (name : ByteArray) : Right nm (l.leave name) := by
  unfold LedgerV.leave
  split
  · exact h.leave _
  · exact h
theorem Right.join_ {l : LedgerV} (h : Right nmOk l) {name : ByteArray} (he : l.joinErr name = 0) : Right nmOk (l.joined name) := by
  unfold joinErr at he
  split at he
  · cases he
  · rename_i h1
    split at he
    · cases he
    · rename_i h2
      split at he
      · cases he
      · rename_i h3
        refine h.join (by simpa using h1) ?_ (by omega)
        cases hp : place l.dests name with
        | none => exact place_none hp
        | some i => rw [hp] at h2; exact absurd rfl h2
end LedgerV
namespace SpoolV
/-- What errs of a body that something became of. -/
def doneErr (P : SpoolV) (name : ByteArray) (seq : Nat) : Int := if (P.led.find name).isSome = true ∧ P.log.durable.end_ ≤ seq then 13 else P.led.doneErr name seq
def ack (P : SpoolV) (name : ByteArray) (seq : Nat) : SpoolV × Int := if P.doneErr name seq = 0 then ({ P with led := P.led.marked name seq true }, 0) else (P, P.doneErr name seq)
def reject (P : SpoolV) (name : ByteArray) (seq : Nat) : SpoolV × Int := if P.doneErr name seq = 0 then P.keep (P.led.marked name seq false) else (P, P.doneErr name seq)
def join (P : SpoolV) (name : ByteArray) : SpoolV × Int := if P.led.joinErr name = 0 then (if P.sync.2 = 0 then P.sync.1.keep (P.led.joined name) else P.sync) else (P, P.led.joinErr name)
def leave (P : SpoolV) (name : ByteArray) : SpoolV × Int := if P.led.leaveErr name = 0 then P.keep (P.led.leave name) else (P, P.led.leaveErr name)
def save (P : SpoolV) : SpoolV × Int := P.keep P.led
namespace Wk
variable {M N : Nat} {P : SpoolV}
theorem up (h : P.Wk M N) (hN : N + 6 ≤ 900000) : P.Wk M (N + 6) := h.mono (Nat.le_refl _) (by omega) h.le hN
theorem ack (h : P.Wk M N) (name : ByteArray) (seq : Nat) : (P.ack name seq).1.Wk M N := by
  unfold SpoolV.ack
  split
  · exact ⟨h.le, h.leN, h.right.mark_ _ _ _, by show (P.led.marked name seq true).next ≤ M; rw [(P.led.marked_next name seq true).1]; exact h.next, h.nums, h.lim⟩
  · exact h
theorem reject (h : P.Wk M N) (name : ByteArray) (seq : Nat) (hN : N + 6 ≤ 900000) : (P.reject name seq).1.Wk M (N + 6) := by
  unfold SpoolV.reject
  split
  · exact h.keep1 (h.right.mark_ _ _ _) (by rw [(P.led.marked_next name seq false).1]; exact h.next) hN
  · exact h.up hN
theorem leave (h : P.Wk M N) (name : ByteArray) (hN : N + 6 ≤ 900000) : (P.leave name).1.Wk M (N + 6) := by
  unfold SpoolV.leave
  split
  · exact h.keep1 (h.right.leave_ _) (by rw [(P.led.leave_next name).1]; exact h.next) hN
  · exact h.up hN
theorem join (h : P.Wk M N) (name : ByteArray) (hN : N + 6 ≤ 900000) : (P.join name).1.Wk M (N + 6) := by
  unfold SpoolV.join
  split
  · rename_i he
    split
    · exact h.sync.keep1 (h.right.join_ he) h.next hN
    · exact h.sync.up hN
  · exact h.up hN
theorem save (h : P.Wk M N) (hN : N + 6 ≤ 900000) : P.save.1.Wk M (N + 6) := h.keep1 h.right h.next hN
end Wk
end SpoolV
end Go.Proofs.YtndgnlblbjpogaaGreatDoor
