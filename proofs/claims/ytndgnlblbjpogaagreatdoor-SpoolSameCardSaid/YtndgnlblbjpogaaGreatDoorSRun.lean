/- A spool on a disk that never fails, plain: what its functions answer and leave. No program stands here. · A spool on a disk that never fails, plain: segments that go, Roll, Sync, put, Add. No program stands here. · A spool on a disk that never fails, plain: what becomes of bodies, destinations, Save; any act. No program stands here. · The acts of the spool's laws, plain, and what they leave of a spool on a disk that never fails. No program stands here. -/
import Derived.Test.YtndgnlblbjpogaaGreatDoorSpoolN
import Derived.Test.YtndgnlblbjpogaaGreatDoorLedE
namespace Go.Proofs.YtndgnlblbjpogaaGreatDoor
open Go Go.RowKit
/-- The mark's file, if it is there. -/
def ckFile : Option (List UInt8) → List FPair
  | none => []
  | some t => [(ckB, t)]
theorem ckB_ne : ckB ≠ ckT := by
  intro h
  have h := congrArg ByteArray.size h
  exact absurd h (by decide)
theorem ckB_seg (u : Nat) : ckB ≠ Seg.nameB u := by
  intro h
  have h := congrArg (fun b : ByteArray => b.data.toList) h
  have h : ([99, 107] : List UInt8) = Seg.nameL u := h
  unfold Seg.nameL at h
  injection h with h _
  exact absurd h (by decide)
theorem ckT_seg (u : Nat) : ckT ≠ Seg.nameB u := by
  intro h
  have h := congrArg (fun b : ByteArray => b.data.toList) h
  have h : ([99, 107, 126] : List UInt8) = Seg.nameL u := h
  unfold Seg.nameL at h
  injection h with h _
  exact absurd h (by decide)
theorem ck_apart (ck : Option (List UInt8)) : FLog.Apart (ckFile ck) := by
  intro p hp u
  cases ck with
  | none => cases hp
  | some t => rw [List.mem_singleton.1 hp]; exact ckB_seg u
/-- What swap.Write does on a disk that never fails. -/
theorem swap_files {R : Nat} {D : DiskV} {ck : Option (List UInt8)} {gs : List FPair} (h : Files R D (ckFile ck ++ gs)) (hg : ∀ p ∈ gs, p.1 ≠ ckB ∧ p.1 ≠ ckT) (s : ByteArray) (hfit : Files.sum (ckFile ck ++ gs) + s.size ≤ R) :
    ∃ D', D.swap s = (D', 0) ∧ Files R D' (ckFile (some s.data.toList) ++ gs) := by
  have hT : ∀ p ∈ ckFile ck ++ gs, p.1 ≠ ckT := by
    intro p hp
    rcases List.mem_append.1 hp with hp | hp
    · cases ck with
      | none => cases hp
      | some t => rw [List.mem_singleton.1 hp]; exact ckB_ne
    · exact (hg p hp).2
  obtain ⟨D1, e1, h1⟩ := h.remove_none hT
  obtain ⟨D2, e2, h2⟩ := h1.create (u := ckT) (by decide) hT
  obtain ⟨D3, e3, h3⟩ := h2.append s (by show (0 + Files.sum (ckFile ck ++ gs)) + s.size ≤ R; omega)
  obtain ⟨D4, e4, h4⟩ := h3.sync
  obtain ⟨D5, e5, h5⟩ := h4.rename (u := ckB) (by decide)
  obtain ⟨D6, e6, h6⟩ := h5.syncDir
  have hfl : (ckFile ck ++ gs).filter (fun p => decide (p.1 ≠ ckB)) = gs := by
    rw [List.filter_append, List.filter_eq_self.2 (fun p hp => decide_eq_true (hg p hp).1)]
    cases ck with
    | none => rfl
    | some t =>
      rw [show ckFile (some t) = [(ckB, t)] from rfl, List.filter_cons, if_neg (by simp)]
      rfl
  rw [hfl] at h6
  refine ⟨D6, ?_, h6⟩
  unfold DiskV.swap
  rw [e1]
  dsimp only
  rw [if_neg (by decide), e2]
  dsimp only
  rw [if_neg (by decide), e3]
  dsimp only
  rw [if_pos rfl, e4]
  dsimp only
  rw [if_neg (by decide), e5]
  dsimp only
  rw [if_neg (by decide), e6]
theorem framesL_le (bs : List (List UInt8)) : (∀ b ∈ bs, b.length ≤ 2000) → ∀ f, f + bs.length ≤ 1000000 → (framesL f bs).length ≤ 2024 * bs.length := by
  induction bs with
  | nil => intro _ f _; exact Nat.le_refl _
  | cons b r ih =>
    intro hb f hf
    rw [List.length_cons] at hf ⊢
    have h1 := Frame.putF_len f b (by omega) (hb b (by simp))
    have h2 := ih (fun x hx => hb x (by simp [hx])) (f + 1) (by omega)
    have h3 := hb b (by simp)
    show (Frame.putF f b ++ framesL (f + 1) r).length ≤ _
    rw [List.length_append]
    omega
theorem chain_sum (G : List Grp) : ∀ (f t : Nat), Chain f G t → t ≤ 1000000 → (∀ g ∈ G, ∀ b ∈ g.bodies, b.length ≤ 2000) → GoodLog.sum G ≤ 2024 * (t - f) := by
  induction G with
  | nil => intro f t _ _ _; exact Nat.zero_le _
  | cons g r ih =>
    intro f t h ht hs
    have h1 := ih g.end_ t h.2 ht (fun x hx => hs x (by simp [hx]))
    have h2 := h.2.le
    have h3 : g.end_ = g.first + g.bodies.length := rfl
    have h4 := h.1
    have h5 := framesL_le g.bodies (hs g (by simp)) g.first (by omega)
    have h6 : GoodLog.sum (g :: r) = (framesL g.first g.bodies).length + GoodLog.sum r := rfl
    omega
theorem mark_len {l : LedgerV} {M : Nat} (h : l.Right nmOk) (hn : l.next ≤ M) (hM : M ≤ 700) : (Mark.markB l).size ≤ 142 + 8 * M := by
  have := Mark.markL_len l M (by omega) (Nat.le_trans h.le hn) hn h.few (h.nums hn)
  show (Mark.markL l).length ≤ _
  omega
/-- A disk of room R bears numbers up to M. -/
structure Bears (R M : Nat) : Prop where
  few : M ≤ 700
  fit : M * 2024 + 2 * (142 + 8 * M) ≤ R
/-- A spool on a disk that never fails: the full segments, the active one, the mark's file. -/
structure SGood (R M : Nat) (P : SpoolV) (full : List Grp) (act : Grp) (ck : Option (List UInt8)) : Prop where
  log : FLog R P.led.first P.log P.disk full act (ckFile ck)
  right : P.led.Right nmOk
  next : P.led.next = act.end_
  le : act.end_ ≤ M
  ckl : ∀ t, ck = some t → t.length ≤ 142 + 8 * M
  dur : ∃ k, k ≤ act.bodies.length ∧ P.log.durable = (⟨act.first, act.bodies.take k⟩ : Grp).seg
namespace SGood
variable {R M : Nat} {P : SpoolV} {full : List Grp} {act : Grp} {ck : Option (List UInt8)}
theorem sum_le (h : SGood R M P full act ck) : GoodLog.sum (full ++ [act]) ≤ 2024 * (act.end_ - P.led.first) := chain_sum _ _ _ h.log.chain (by have := h.log.few; omega) h.log.small
theorem cks (h : SGood R M P full act ck) : Files.sum (ckFile ck) ≤ 142 + 8 * M := by
  cases ck with
  | none => exact Nat.zero_le _
  | some t => exact h.ckl t rfl
theorem segs_apart (gs : List Grp) : ∀ p ∈ gs.map Grp.file, p.1 ≠ ckB ∧ p.1 ≠ ckT := by
  intro p hp
  obtain ⟨g, _, rfl⟩ := List.mem_map.1 hp
  exact ⟨fun h => ckB_seg g.first h.symm, fun h => ckT_seg g.first h.symm⟩
theorem swap (h : SGood R M P full act ck) (hb : Bears R M) {l : LedgerV} (hl : l.Right nmOk) (hn : l.next ≤ M) :
    ∃ D', P.keep l = ({ P with disk := D', led := l }, 0) ∧ Files R D' (ckFile (some (Mark.markL l)) ++ (full ++ [act]).map Grp.file) := by
  have h1 := h.sum_le
  have h2 := h.cks
  have h3 := mark_len hl hn hb.few
  have h4 := hb.fit
  have h5 := h.le
  have h6 := FLog.sum_files full act (ckFile ck)
  obtain ⟨D', e, hf⟩ := swap_files h.log.disk (segs_apart _) (Mark.markB l) (by rw [h6]; omega)
  refine ⟨D', ?_, hf⟩
  unfold SpoolV.keep
  rw [e]
  rfl
theorem keep (h : SGood R M P full act ck) (hb : Bears R M) {l : LedgerV} (hl : l.Right nmOk) (hf : l.first = P.led.first) (hn : l.next = P.led.next) :
    ∃ D', P.keep l = ({ P with disk := D', led := l }, 0) ∧ SGood R M { P with disk := D', led := l } full act (some (Mark.markL l)) := by
  have hn' : l.next ≤ M := by rw [hn, h.next]; exact h.le
  obtain ⟨D', e, hd⟩ := h.swap hb hl hn'
  refine ⟨D', e, ?_, hl, hn.trans h.next, h.le, ?_, h.dur⟩
  · show FLog R l.first P.log D' full act (ckFile (some (Mark.markL l)))
    rw [hf]
    exact h.log.others hd
  · intro t ht
    cases ht
    exact mark_len hl hn' hb.few
theorem second (h : SGood R M P full act ck) {g : Grp} {r : List Grp} (hf : full = g :: r) : P.log.second = g.end_ := by
  subst hf
  have hc := h.log.chain
  unfold LogV.second
  rw [h.log.efull]
  cases r with
  | nil => rw [h.log.eact]; exact hc.2.1
  | cons x r => exact hc.2.1
/-- One segment is given up. -/
theorem evictOne {g : Grp} {r : List Grp} (h : SGood R M P (g :: r) act ck) (hb : Bears R M) :
    ∃ L' D', P.evictOne = ({ P with log := L', disk := D', led := P.led.evict g.end_ }, 0) ∧ SGood R M { P with log := L', disk := D', led := P.led.evict g.end_ } r act (some (Mark.markL (P.led.evict g.end_))) ∧ L'.durable = P.log.durable := by
  have hs := h.second rfl
  have hc := h.log.chain
  have h1 : P.led.first ≤ g.end_ := by have := hc.1; have : g.end_ = g.first + g.bodies.length := rfl; omega
  have h2 : g.end_ ≤ act.end_ := hc.2.le
  have he : P.led.evictErr P.log.second = 0 := by unfold LedgerV.evictErr; rw [hs, h.next, if_neg (by omega)]
  have hr := h.right.evict h1 (by rw [h.next]; exact h2)
  obtain ⟨D1, e1, hd1⟩ := h.swap hb hr (by show P.led.next ≤ M; rw [h.next]; exact h.le)
  obtain ⟨L2, D2, e2, hl2, hdu⟩ := (h.log.others hd1).drop
  refine ⟨L2, D2, ?_, ⟨hl2, hr, h.next, h.le, ?_, ?_⟩, hdu⟩
  · unfold SpoolV.evictOne
    rw [he, if_neg (fun x => x rfl), hs, e1]
    rw [if_neg (fun x => x rfl)]
    unfold SpoolV.drop
    dsimp only
    rw [e2]
  · intro t ht
    cases ht
    exact mark_len hr (by show P.led.next ≤ M; rw [h.next]; exact h.le) hb.few
  · show ∃ k, k ≤ act.bodies.length ∧ L2.durable = _
    rw [hdu]
    exact h.dur
end SGood
end Go.Proofs.YtndgnlblbjpogaaGreatDoor
namespace Go.Proofs.YtndgnlblbjpogaaGreatDoor
open Go Go.RowKit
def rowsOf (full : List Grp) (act : Grp) : List (List UInt8) := (full ++ [act]).flatMap (·.bodies)
theorem rows_cons (g : Grp) (r : List Grp) (act : Grp) : rowsOf (g :: r) act = g.bodies ++ rowsOf r act := rfl
theorem DestV.Right.idle {d : DestV} {first next tt : Nat} (h : d.Right first next) (ht : tt ≤ d.low) : d.done 0 tt next = (d, 0) := by
  obtain ⟨name, since, low, above, acked, evicted, rejected⟩ := d
  have e : min tt next - max 0 low = 0 := by have ht : tt ≤ low := ht; omega
  have hs : stripSeq low above = (low, above) := by
    cases above with
    | nil => rfl
    | cons x r =>
      have := (h.above x (by simp)).1
      have : low < x := this
      rw [stripSeq, if_neg (by omega)]
  unfold DestV.done
  dsimp only
  rw [e, show spanSeq above (max 0 low) 0 = (above, 0) from rfl]
  dsimp only
  rw [hs]
theorem LedgerV.Right.idle {l : LedgerV} {nm : ByteArray → Prop} {tt : Nat} (h : LedgerV.Right nm l) (ht : ∀ d ∈ l.dests, tt ≤ d.low) : l.evict tt = { l with first := tt } := by
  unfold LedgerV.evict
  have : l.dests.map (fun d => let p := d.done 0 tt l.next; { p.1 with evicted := p.1.evicted + p.2 }) = l.dests := by
    conv => rhs; rw [← List.map_id l.dests]
    refine List.map_congr_left fun d hd => ?_
    rw [(h.each d hd).2.idle (ht d hd)]
    rfl
  rw [this]
theorem free_go (l : List DestV) : ∀ n, l.foldl (fun n d => min n d.low) n ≤ n ∧ ∀ d ∈ l, l.foldl (fun n d => min n d.low) n ≤ d.low := by
  induction l with
  | nil => intro n; exact ⟨Nat.le_refl _, fun d hd => by cases hd⟩
  | cons x r ih =>
    intro n
    obtain ⟨h1, h2⟩ := ih (min n x.low)
    refine ⟨Nat.le_trans h1 (Nat.min_le_left _ _), fun d hd => ?_⟩
    rcases List.mem_cons.1 hd with rfl | hd
    · exact Nat.le_trans h1 (Nat.min_le_right _ _)
    · exact h2 d hd
theorem free_ge (l : List DestV) (m : Nat) : ∀ n, m ≤ n → (∀ d ∈ l, m ≤ d.low) → m ≤ l.foldl (fun n d => min n d.low) n := by
  induction l with
  | nil => intro n h _; exact h
  | cons x r ih =>
    intro n h hd
    exact ih _ (Nat.le_min.2 ⟨h, hd x (by simp)⟩) (fun d hm => hd d (by simp [hm]))
/-- What segments that go leave. -/
structure Evs (act : Grp) (P0 : SpoolV) (full0 : List Grp) (Q : SpoolV) (fullQ : List Grp) : Prop where
  budget : Q.budget = P0.budget
  segm : Q.segm = P0.segm
  dur : Q.log.durable = P0.log.durable
  next : Q.led.next = P0.led.next
  first : P0.led.first ≤ Q.led.first
  rows : rowsOf fullQ act = (rowsOf full0 act).drop (Q.led.first - P0.led.first)
  dests : (∀ d ∈ P0.led.dests, act.first ≤ d.low) → Q.led.dests = P0.led.dests
namespace SGood
variable {R M : Nat} {P : SpoolV} {full : List Grp} {act : Grp} {ck : Option (List UInt8)}
theorem gone_ind (hb : Bears R M) (cond : SpoolV → Bool) (motive : SpoolV → List Grp → Prop)
    (hstep : ∀ Q g r ck, SGood R M Q (g :: r) act ck → motive Q (g :: r) → cond Q = true → ∀ L' D', L'.durable = Q.log.durable → motive { Q with log := L', disk := D', led := Q.led.evict g.end_ } r) :
    ∀ (full : List Grp) (P : SpoolV) (ck : Option (List UInt8)), SGood R M P full act ck → motive P full → ∃ P' full' ck', SpoolV.evict cond full.length P = (P', 0) ∧ SGood R M P' full' act ck' ∧ motive P' full' ∧ (full' = [] ∨ cond P' = false) := by
  intro full
  induction full with
  | nil => intro P ck h hm; exact ⟨P, [], ck, rfl, h, hm, .inl rfl⟩
  | cons g r ih =>
    intro P ck h hm
    have hne : P.log.full ≠ [] := by rw [h.log.efull]; exact fun x => by cases x
    by_cases hc : cond P = true
    · obtain ⟨L', D', e, hg, hd⟩ := h.evictOne hb
      obtain ⟨P', full', ck', h1, h2, h3, h4⟩ := ih _ _ hg (hstep P g r ck h hm hc L' D' hd)
      refine ⟨P', full', ck', ?_, h2, h3, h4⟩
      rw [List.length_cons, SpoolV.evict, if_neg hne, if_pos hc, e]
      rw [if_neg (fun x => x rfl)]
      exact h1
    · refine ⟨P, g :: r, ck, ?_, h, hm, .inr (by simpa using hc)⟩
      rw [List.length_cons, SpoolV.evict, if_neg hne, if_neg hc]
theorem len (h : SGood R M P full act ck) : P.log.full.length = full.length := by rw [h.log.efull, List.length_map]
theorem evs_step (act : Grp) (P0 : SpoolV) (full0 : List Grp) {Q : SpoolV} {g : Grp} {r : List Grp} {ck : Option (List UInt8)} (h : SGood R M Q (g :: r) act ck) (he : Evs act P0 full0 Q (g :: r)) (L' : LogV) (D' : DiskV) (hd : L'.durable = Q.log.durable) :
    Evs act P0 full0 { Q with log := L', disk := D', led := Q.led.evict g.end_ } r := by
  have hc := h.log.chain
  have h1 : g.first = Q.led.first := hc.1
  have h2 : g.end_ = g.first + g.bodies.length := rfl
  have h3 : g.end_ ≤ act.first := (show Chain g.end_ (r ++ [act]) act.end_ from hc.2).split.1.le
  have h4 := he.first
  refine ⟨he.budget, he.segm, hd.trans he.dur, he.next, ?_, ?_, fun hx => ?_⟩
  · show P0.led.first ≤ g.end_
    omega
  · show rowsOf r act = (rowsOf full0 act).drop (g.end_ - P0.led.first)
    have hr := he.rows
    rw [rows_cons] at hr
    have : g.end_ - P0.led.first = (Q.led.first - P0.led.first) + g.bodies.length := by omega
    rw [this, ← List.drop_drop, ← hr, List.drop_left]
  · have := he.dests hx
    show (Q.led.evict g.end_).dests = _
    rw [h.right.idle (fun d hd => by rw [this] at hd; have := hx d hd; omega)]
    exact this
theorem evs_refl (act : Grp) (P : SpoolV) (full : List Grp) : Evs act P full P full := ⟨rfl, rfl, rfl, rfl, Nat.le_refl _, by rw [Nat.sub_self]; rfl, fun _ => rfl⟩
theorem gone (h : SGood R M P full act ck) (hb : Bears R M) (cond : SpoolV → Bool) : ∃ P' full' ck', P.gone cond = (P', 0) ∧ SGood R M P' full' act ck' ∧ Evs act P full P' full' ∧ (full' = [] ∨ cond P' = false) := by
  unfold SpoolV.gone
  rw [h.len]
  exact gone_ind hb cond (fun Q fQ => Evs act P full Q fQ) (fun Q g r ck hq he _ L' D' hd => evs_step act P full hq he L' D' hd) full P ck h (evs_refl _ _ _)
theorem gone_not (h : SGood R M P full act ck) (cond : SpoolV → Bool) (hc : cond P = false) : P.gone cond = (P, 0) := by
  unfold SpoolV.gone
  rw [h.len]
  cases full with
  | nil => rfl
  | cons g r =>
    rw [List.length_cons, SpoolV.evict, if_neg (by rw [h.log.efull]; exact fun x => by cases x), if_neg (by rw [hc]; decide)]
theorem reclaim (h : SGood R M P full act ck) (hb : Bears R M) : ∃ P' full' ck', P.gone SpoolV.idle = (P', 0) ∧ SGood R M P' full' act ck' ∧ Evs act P full P' full' ∧ P'.led.dests = P.led.dests ∧ (full' = [] ∨ SpoolV.idle P' = false) := by
  have hx : ∃ P' full' ck', P.gone SpoolV.idle = (P', 0) ∧ SGood R M P' full' act ck' ∧ (Evs act P full P' full' ∧ P'.led.dests = P.led.dests) ∧ (full' = [] ∨ SpoolV.idle P' = false) := by
    unfold SpoolV.gone
    rw [h.len]
    refine gone_ind hb SpoolV.idle (fun Q fQ => Evs act P full Q fQ ∧ Q.led.dests = P.led.dests) (fun Q g r ck hq he hc L' D' hd => ⟨evs_step act P full hq he.1 L' D' hd, ?_⟩) full P ck h ⟨evs_refl _ _ _, rfl⟩
    have hc := of_decide_eq_true hc
    rw [hq.second rfl] at hc
    show (Q.led.evict g.end_).dests = _
    rw [hq.right.idle (fun d hd => Nat.le_trans hc ((free_go _ _).2 d hd))]
    exact he.2
  obtain ⟨P', full', ck', h1, h2, ⟨h3, h4⟩, h5⟩ := hx
  exact ⟨P', full', ck', h1, h2, h3, h4, h5⟩
theorem sync (h : SGood R M P full act ck) : ∃ L' D', P.log.sync P.disk = (L', D', 0) ∧ SGood R M { P with log := L', disk := D' } full act ck ∧ L'.durable = act.seg := by
  obtain ⟨k, hk, hd⟩ := h.dur
  obtain ⟨L', D', e, hl, hd'⟩ := h.log.sync (by rw [hd]; rfl)
  refine ⟨L', D', e, ⟨hl, h.right, h.next, h.le, h.ckl, act.bodies.length, Nat.le_refl _, ?_⟩, hd'⟩
  · show L'.durable = _
    rw [hd', List.take_length]
theorem roll (h : SGood R M P full act ck) (ha : act.bodies ≠ []) : ∃ L' D', P.roll = ({ P with log := L', disk := D' }, 0) ∧ SGood R M { P with log := L', disk := D' } (full ++ [act]) ⟨act.end_, []⟩ ck ∧ L'.durable = ⟨act.end_, 0, 0⟩ := by
  obtain ⟨L', D', e, hl, hd⟩ := h.log.roll (ck_apart ck) ha
  refine ⟨L', D', ?_, ⟨hl, h.right, h.next, h.le, h.ckl, 0, Nat.le_refl _, ?_⟩, hd⟩
  · unfold SpoolV.roll; rw [e]
  · show L'.durable = _
    rw [hd]
    rfl
theorem append (h : SGood R M P full act ck) (hb : Bears R M) (body : ByteArray) (hs : body.size ≤ 2000) (hM : act.end_ + 1 ≤ M) :
    ∃ L' D', P.append body = ({ P with log := L', disk := D' }, act.end_, 0) ∧ SGood R M { P with log := L', disk := D', led := P.led.add } full ⟨act.first, act.bodies ++ [body.data.toList]⟩ ck ∧ L'.durable = P.log.durable := by
  have h1 := h.sum_le
  have h2 := h.cks
  have h3 := Frame.putF_len act.end_ body.data.toList (by have := h.log.few; omega) (by show body.data.toList.length ≤ 2000; simpa using hs)
  have h4 := hb.fit
  have h5 := hb.few
  have h6 := h.right.one
  have h7 : body.data.toList.length = body.size := by simp
  obtain ⟨L', D', e, hl, hd⟩ := h.log.append body hs (by omega) (by omega)
  refine ⟨L', D', ?_, ⟨hl, h.right.add, ?_, ?_, h.ckl, ?_⟩, hd⟩
  · unfold SpoolV.append; rw [e]
  · show P.led.next + 1 = act.first + (act.bodies ++ [_]).length
    rw [h.next, List.length_append]
    rfl
  · show act.first + (act.bodies ++ [_]).length ≤ M
    rw [List.length_append]
    exact hM
  · obtain ⟨k, hk, hd2⟩ := h.dur
    refine ⟨k, by rw [List.length_append]; omega, ?_⟩
    show L'.durable = _
    rw [hd, hd2, List.take_append_of_le_length hk]
theorem sync_of {P : SpoolV} {L' : LogV} {D' : DiskV} {e : Int} (h : P.log.sync P.disk = (L', D', e)) : P.sync = ({ P with log := L', disk := D' }, e) := by
  unfold SpoolV.sync; rw [h]
theorem rows_snoc (full : List Grp) (act : Grp) (b : List UInt8) : rowsOf full ⟨act.first, act.bodies ++ [b]⟩ = rowsOf full act ++ [b] := by
  unfold rowsOf
  simp [List.flatMap_append]
theorem chain_rows (G : List Grp) : ∀ f t, Chain f G t → (G.flatMap (·.bodies)).length = t - f := by
  induction G with
  | nil => intro f t hx; have hx : f = t := hx; subst hx; simp
  | cons g r ih =>
    intro f t hx
    have h1 := ih _ _ hx.2
    have h2 := hx.2.le
    have h3 := hx.1
    have h4 : g.end_ = g.first + g.bodies.length := rfl
    rw [List.flatMap_cons, List.length_append, h1]
    omega
theorem rows_len (h : SGood R M P full act ck) : (rowsOf full act).length = act.end_ - P.led.first := chain_rows _ _ _ h.log.chain
theorem first_le (h : SGood R M P full act ck) : P.led.first ≤ act.end_ := h.log.chain.le
theorem sum_snoc (full : List Grp) (act : Grp) (b : List UInt8) : GoodLog.sum (full ++ [⟨act.first, act.bodies ++ [b]⟩]) = GoodLog.sum (full ++ [act]) + (Frame.putF act.end_ b).length := by
  unfold GoodLog.sum
  rw [List.map_append, List.map_append, List.sum_append, List.sum_append]
  show _ + ((framesL act.first (act.bodies ++ [b])).length + 0) = _ + ((framesL act.first act.bodies).length + 0) + _
  rw [framesL_snoc, List.length_append]
  show _ + (_ + (Frame.putF act.end_ b).length + 0) = _
  omega
/-- A body is put in; the ledger is told of it at once. -/
theorem put (h : SGood R M P full act ck) (hb : Bears R M) (body : ByteArray) (hs : body.size ≤ 2000) (hM : act.end_ + 1 ≤ M) (s : Bool) :
    ∃ L' D', P.put body s = ({ P with log := L', disk := D' }, act.end_, 0) ∧ SGood R M { P with log := L', disk := D', led := P.led.add } full ⟨act.first, act.bodies ++ [body.data.toList]⟩ ck ∧
      (s = true → L'.durable.end_ = act.end_ + 1) ∧ (s = false → L'.durable = P.log.durable) := by
  cases s with
  | false =>
    obtain ⟨L', D', e, hg, hd⟩ := h.append hb body hs hM
    exact ⟨L', D', e, hg, (fun x => by cases x), fun _ => hd⟩
  | true =>
    obtain ⟨L1, D1, e1, h1, d1⟩ := h.sync
    obtain ⟨L2, D2, e2, h2, d2⟩ := h1.append hb body hs hM
    obtain ⟨L3, D3, e3, h3, d3⟩ := h2.sync
    have e1 := sync_of e1
    have e3 : ({ P with log := L2, disk := D2 } : SpoolV).sync = ({ P with log := L3, disk := D3 }, 0) := sync_of e3
    refine ⟨L3, D3, ?_, h3, fun _ => ?_, fun x => by cases x⟩
    · unfold SpoolV.put
      rw [if_neg (by decide), e1]
      dsimp only
      rw [if_neg (fun x => x rfl), e2]
      dsimp only
      rw [if_neg (fun x => x rfl), e3]
      dsimp only
      rw [if_neg (fun x => x rfl)]
    · rw [d3]
      show act.first + (act.bodies ++ [_]).length = act.first + act.bodies.length + 1
      rw [List.length_append]
      rfl
theorem tight_some (h : SGood R M P full act ck) (body : ByteArray) (ht : P.tight body = true) : act.bodies ≠ [] := by
  unfold SpoolV.tight at ht
  rw [h.log.eact] at ht
  intro hx
  have : act.seg.many = 0 := by show act.bodies.length = 0; rw [hx]; rfl
  rw [this] at ht
  simp at ht
/-- Room is made in the active segment. -/
theorem rolled (h : SGood R M P full act ck) (body : ByteArray) : ∃ L' D' full' act', P.rolled body = ({ P with log := L', disk := D' }, 0) ∧ SGood R M { P with log := L', disk := D' } full' act' ck ∧ rowsOf full' act' = rowsOf full act ∧ act'.end_ = act.end_ ∧
    (act'.bodies = [] ∨ (act' = act ∧ full' = full ∧ L'.durable = P.log.durable ∧ P.tight body = false)) ∧ P.log.durable.end_ ≤ L'.durable.end_ ∧ L'.durable.end_ ≤ act.end_ ∧ GoodLog.sum (full' ++ [act']) = GoodLog.sum (full ++ [act]) := by
  obtain ⟨k, hk, hd⟩ := h.dur
  have hde : P.log.durable.end_ = act.first + k := by
    rw [hd]
    show act.first + (act.bodies.take k).length = _
    rw [List.length_take, Nat.min_eq_left hk]
  have hae : act.end_ = act.first + act.bodies.length := rfl
  unfold SpoolV.rolled
  by_cases ht : P.tight body = true
  · obtain ⟨L', D', e, hg, hd'⟩ := h.roll (h.tight_some body ht)
    refine ⟨L', D', _, _, by rw [if_pos ht]; exact e, hg, ?_, rfl, .inl rfl, ?_, ?_, ?_⟩
    · unfold rowsOf
      simp [List.flatMap_append]
    · rw [hd', hde]
      show _ ≤ act.end_ + 0
      omega
    · rw [hd']
      exact Nat.le_refl _
    · unfold GoodLog.sum
      rw [List.map_append, List.sum_append]
      rfl
  · refine ⟨P.log, P.disk, full, act, by rw [if_neg ht], h, rfl, rfl, .inr ⟨rfl, rfl, rfl, by simpa using ht⟩, Nat.le_refl _, by omega, rfl⟩
/-- What Add leaves. -/
structure Added (P : SpoolV) (full : List Grp) (act : Grp) (body : ByteArray) (s : Bool) (P' : SpoolV) (full' : List Grp) (act' : Grp) : Prop where
  budget : P'.budget = P.budget
  segm : P'.segm = P.segm
  next : P'.led.next = P.led.next + 1
  end_ : act'.end_ = act.end_ + 1
  first : P.led.first ≤ P'.led.first
  rows : rowsOf full' act' = (rowsOf full act ++ [body.data.toList]).drop (P'.led.first - P.led.first)
  dur1 : s = true → P'.log.durable.end_ = act.end_ + 1
  dur0 : s = false → P.log.durable.end_ ≤ P'.log.durable.end_ ∧ P'.log.durable.end_ ≤ act.end_
  dests : (∀ d ∈ P.led.dests, P.led.next ≤ d.low) → P'.led.dests = P.led.dests
  room : full' = [] ∨ P'.full = false
  fits : act'.bodies.length = 1 ∨ (act'.txt.length : Int) ≤ P.segm
  still : P.full = false → (P.log.bytes + (Frame.putF act.end_ body.data.toList).length : Nat) ≤ P.budget → P'.led.first = P.led.first
theorem act_seg (h : SGood R M P full act ck) : P.log.act = act.seg := h.log.eact
theorem add (h : SGood R M P full act ck) (hb : Bears R M) (body : ByteArray) (hs : body.size ≤ 2000) (hM : act.end_ + 1 ≤ M) (s : Bool) :
    ∃ P' full' act' ck', P.add body s = (P', act.end_, 0) ∧ SGood R M P' full' act' ck' ∧ Added P full act body s P' full' act' := by
  obtain ⟨P2, full2, ck2, e2, h2, v2, _⟩ := h.gone hb SpoolV.full
  obtain ⟨L3, D3, full3, act3, e3, h3, r3, n3, c3, d3, d3', s3⟩ := h2.rolled body
  obtain ⟨L4, D4, e4, h4, t4, f4⟩ := h3.put hb body hs (by rw [n3]; exact hM) s
  obtain ⟨P5, full5, ck5, e5, h5, v5, c5⟩ := h4.gone hb SpoolV.full
  have hn2 := v2.next
  have hf2 := v2.first
  have hf5 : P2.led.first ≤ P5.led.first := v5.first
  have hx2 := h.rows_len
  have hy2 := h2.first_le
  refine ⟨P5, full5, ⟨act3.first, act3.bodies ++ [body.data.toList]⟩, ck5, ?_, h5, ⟨v5.budget.trans v2.budget, v5.segm.trans v2.segm, ?_, ?_, by omega, ?_, fun hx => ?_, fun hx => ?_, fun hx => ?_, c5, ?_, fun hx hy => ?_⟩⟩
  · unfold SpoolV.add
    rw [if_neg (by omega), e2]
    dsimp only
    rw [if_neg (fun x => x rfl), e3]
    dsimp only
    rw [if_neg (fun x => x rfl), e4]
    dsimp only
    rw [if_neg (fun x => x rfl), n3]
    rw [show (({ P2 with log := L4, disk := D4, led := P2.led.add } : SpoolV).gone SpoolV.full) = (P5, 0) from e5]
  · rw [v5.next]
    show P2.led.next + 1 = _
    rw [hn2]
  · show act3.first + (act3.bodies ++ [_]).length = _
    rw [List.length_append, ← n3]
    rfl
  · rw [v5.rows]
    show (rowsOf full3 _).drop (P5.led.first - P2.led.first) = _
    rw [rows_snoc, r3, v2.rows]
    rw [← List.drop_append_of_le_length (by omega), List.drop_drop, show P2.led.first - P.led.first + (P5.led.first - P2.led.first) = P5.led.first - P.led.first by omega]
  · rw [v5.dur]
    exact (t4 hx).trans (by rw [n3])
  · rw [v5.dur]
    show P.log.durable.end_ ≤ L4.durable.end_ ∧ _
    rw [f4 hx, ← v2.dur]
    exact ⟨d3, d3'⟩
  · have hd2 : P2.led.dests = P.led.dests := v2.dests fun d hd => by
      have := hx d hd
      have h1 := h.next
      have h2 : act.end_ = act.first + act.bodies.length := rfl
      omega
    rw [v5.dests fun d hd => ?_]
    · exact hd2
    · have hd : d ∈ P2.led.dests := hd
      rw [hd2] at hd
      have h1 := hx d hd
      have h2 := h.next
      have h3 : act3.end_ = act3.first + act3.bodies.length := rfl
      show act3.first ≤ d.low
      omega
  · rcases c3 with c3 | ⟨c3, _, _, ht⟩
    · left
      show (act3.bodies ++ [_]).length = 1
      rw [c3]
      rfl
    · subst c3
      unfold SpoolV.tight at ht
      have ha : P2.log.act = act3.seg := h2.log.eact
      rw [ha] at ht
      have ht := (Bool.and_eq_false_iff).1 ht
      rcases ht with ht | ht
      · left
        have ht := of_decide_eq_false ht
        have ht : ¬ 0 < act3.bodies.length := ht
        show (act3.bodies ++ [_]).length = 1
        rw [List.length_append]
        show act3.bodies.length + 1 = 1
        omega
      · right
        have ht := of_decide_eq_false ht
        show ((framesL act3.first (act3.bodies ++ [_])).length : Int) ≤ _
        rw [framesL_snoc, List.length_append, ← v2.segm]
        exact Int.not_lt.1 ht
  · have hp := h.gone_not SpoolV.full hx
    rw [e2] at hp
    have hp : P2 = P := congrArg Prod.fst hp
    subst hp
    have hf : SpoolV.full ({ P2 with log := L4, disk := D4, led := P2.led.add } : SpoolV) = false := by
      unfold SpoolV.full
      have hbs := h4.log.bytes
      have hbs : L4.bytes = _ := hbs
      rw [sum_snoc, s3, n3] at hbs
      have hb2 := h2.log.bytes
      apply decide_eq_false
      show ¬ (P2.budget : Int) < (L4.bytes : Int)
      rw [hbs, ← hb2]
      omega
    have hq := h4.gone_not SpoolV.full hf
    rw [e5] at hq
    have hq : P5 = _ := congrArg Prod.fst hq
    rw [hq]
    rfl
end SGood
end Go.Proofs.YtndgnlblbjpogaaGreatDoor
namespace Go.Proofs.YtndgnlblbjpogaaGreatDoor
open Go Go.RowKit
/-- What changes no body and no number. -/
structure Calm (P P' : SpoolV) : Prop where
  budget : P'.budget = P.budget
  segm : P'.segm = P.segm
  first : P'.led.first = P.led.first
  next : P'.led.next = P.led.next
  dur : P.log.durable.end_ ≤ P'.log.durable.end_
theorem Calm.refl (P : SpoolV) : Calm P P := ⟨rfl, rfl, rfl, rfl, Nat.le_refl _⟩
namespace SGood
variable {R M : Nat} {P : SpoolV} {full : List Grp} {act : Grp} {ck : Option (List UInt8)}
theorem setLed (h : SGood R M P full act ck) {l : LedgerV} (hl : l.Right nmOk) (hf : l.first = P.led.first) (hn : l.next = P.led.next) : SGood R M { P with led := l } full act ck :=
  ⟨by show FLog R l.first P.log P.disk full act (ckFile ck); rw [hf]; exact h.log, hl, hn.trans h.next, h.le, h.ckl, h.dur⟩
theorem dur_le (h : SGood R M P full act ck) : P.log.durable.end_ ≤ act.end_ := by
  obtain ⟨k, hk, hd⟩ := h.dur
  rw [hd]
  show act.first + (act.bodies.take k).length ≤ act.first + act.bodies.length
  rw [List.length_take]
  omega
theorem ack (h : SGood R M P full act ck) (name : ByteArray) (seq : Nat) : SGood R M (P.ack name seq).1 full act ck ∧ Calm P (P.ack name seq).1 := by
  unfold SpoolV.ack
  split
  · obtain ⟨h1, h2⟩ := LedgerV.marked_next P.led name seq true
    exact ⟨h.setLed (h.right.mark_ name seq true) h2 h1, rfl, rfl, h2, h1, Nat.le_refl _⟩
  · exact ⟨h, Calm.refl P⟩
theorem kept (h : SGood R M P full act ck) (hb : Bears R M) {l : LedgerV} (hl : l.Right nmOk) (hf : l.first = P.led.first) (hn : l.next = P.led.next) : (∃ ck', SGood R M (P.keep l).1 full act ck') ∧ Calm P (P.keep l).1 ∧ (P.keep l).2 = 0 ∧ (P.keep l).1.led = l ∧ (P.keep l).1.log = P.log := by
  obtain ⟨D', e, hg⟩ := h.keep hb hl hf hn
  rw [e]
  exact ⟨⟨_, hg⟩, ⟨rfl, rfl, hf, hn, Nat.le_refl _⟩, rfl, rfl, rfl⟩
theorem reject (h : SGood R M P full act ck) (hb : Bears R M) (name : ByteArray) (seq : Nat) : (∃ ck', SGood R M (P.reject name seq).1 full act ck') ∧ Calm P (P.reject name seq).1 := by
  unfold SpoolV.reject
  split
  · obtain ⟨h1, h2⟩ := LedgerV.marked_next P.led name seq false
    obtain ⟨a, b, _⟩ := h.kept hb (h.right.mark_ name seq false) h2 h1
    exact ⟨a, b⟩
  · exact ⟨⟨ck, h⟩, Calm.refl P⟩
theorem leave (h : SGood R M P full act ck) (hb : Bears R M) (name : ByteArray) : (∃ ck', SGood R M (P.leave name).1 full act ck') ∧ Calm P (P.leave name).1 ∧ (P.leave name).2 = P.led.leaveErr name ∧ (P.led.leaveErr name = 0 → (P.leave name).1.led = P.led.leave name) := by
  unfold SpoolV.leave
  obtain ⟨h1, h2⟩ := LedgerV.leave_next P.led name
  by_cases he : P.led.leaveErr name = 0
  · obtain ⟨a, b, c, d, _⟩ := h.kept hb (h.right.leave_ name) h2 h1
    rw [if_pos he]
    exact ⟨a, b, c.trans he.symm, fun _ => d⟩
  · rw [if_neg he]
    exact ⟨⟨ck, h⟩, Calm.refl P, rfl, fun x => absurd x he⟩
theorem save (h : SGood R M P full act ck) (hb : Bears R M) : SGood R M P.save.1 full act (some (Mark.markL P.led)) ∧ Calm P P.save.1 ∧ P.save.2 = 0 ∧ P.save.1.led = P.led ∧ P.save.1.log = P.log := by
  obtain ⟨D', e, hg⟩ := h.keep hb h.right rfl rfl
  unfold SpoolV.save
  rw [e]
  exact ⟨hg, ⟨rfl, rfl, rfl, rfl, Nat.le_refl _⟩, rfl, rfl, rfl⟩
theorem calm_sync (h : SGood R M P full act ck) : SGood R M P.sync.1 full act ck ∧ Calm P P.sync.1 ∧ P.sync.2 = 0 ∧ P.sync.1.log.durable.end_ = act.end_ ∧ P.sync.1.led = P.led := by
  obtain ⟨L', D', e, hg, hd⟩ := h.sync
  have e := sync_of e
  have hl := h.dur_le
  rw [e]
  have hd : L'.durable.end_ = act.end_ := by rw [hd]; rfl
  exact ⟨hg, ⟨rfl, rfl, rfl, rfl, by show _ ≤ L'.durable.end_; rw [hd]; exact hl⟩, rfl, hd, rfl⟩
theorem join (h : SGood R M P full act ck) (hb : Bears R M) (name : ByteArray) : (∃ ck', SGood R M (P.join name).1 full act ck') ∧ Calm P (P.join name).1 ∧ (P.join name).2 = P.led.joinErr name ∧ (P.led.joinErr name = 0 → (P.join name).1.led = P.led.joined name ∧ (P.join name).1.log.durable.end_ = act.end_) := by
  unfold SpoolV.join
  by_cases he : P.led.joinErr name = 0
  · obtain ⟨h1, h2, h3, h4, h5⟩ := h.calm_sync
    have hr := h.right.join_ he
    obtain ⟨a, b, c, d, l⟩ := h1.kept hb hr (by rw [h5]; rfl) (by rw [h5]; rfl)
    rw [if_pos he, if_pos h3]
    refine ⟨a, ⟨b.budget.trans h2.budget, b.segm.trans h2.segm, b.first.trans h2.first, b.next.trans h2.next, Nat.le_trans h2.dur b.dur⟩, c.trans he.symm, fun _ => ⟨d, by rw [l]; exact h4⟩⟩
  · rw [if_neg he]
    exact ⟨⟨ck, h⟩, Calm.refl P, rfl, fun x => absurd x he⟩
theorem calm_rows {P' : SpoolV} {ck' : Option (List UInt8)} (h : SGood R M P full act ck) (h' : SGood R M P' full act ck') : P'.led.next = P.led.next := by rw [h'.next, h.next]
end SGood
end Go.Proofs.YtndgnlblbjpogaaGreatDoor
namespace Go.Proofs.YtndgnlblbjpogaaGreatDoor
open Go Go.RowKit
/-- Which of n things a raw number speaks of. -/
def pickN (c : Int) (n : Nat) : Nat := ((if c < 0 then -(c + 1) else c) % (n : Int)).toNat
theorem pickN_lt (c : Int) {n : Nat} (hn : 0 < n) : pickN c n < n := by
  unfold pickN
  have h1 := Int.emod_nonneg (if c < 0 then -(c + 1) else c) (show (n : Int) ≠ 0 by omega)
  have h2 := Int.emod_lt_of_pos (if c < 0 then -(c + 1) else c) (show (0 : Int) < n by omega)
  omega
structure ActV where
  op : Int
  name : Int
  n : Int
  long : Int
def nameV (c : Int) : ByteArray := ⟨#[UInt8.ofNat (97 + pickN c 4)]⟩
def bodyV (a : ActV) : ByteArray := ⟨((List.range (pickN a.long 900)).map fun (i : Nat) => UInt8.ofNat ((a.n + (i : Int) * 7) % 256).toNat).toArray⟩
theorem bodyV_size (a : ActV) : (bodyV a).size = pickN a.long 900 := by
  show ((List.range (pickN a.long 900)).map _).length = _
  rw [List.length_map, List.length_range]
theorem bodyV_le (a : ActV) : (bodyV a).size ≤ 899 := by
  rw [bodyV_size]
  have := pickN_lt a.long (n := 900) (by omega)
  omega
def targetV (l : LedgerV) (a : ActV) : Nat :=
  if (l.pending (nameV a.name)).length = 0 ∨ pickN a.long 5 = 4 then (a.n % 18446744073709551616).toNat
  else (l.pending (nameV a.name)).getD (pickN a.n (l.pending (nameV a.name)).length) 0
def oddV (n : Int) : Bool := n.tmod 2 != 0
/-- What an act does. -/
def runV (P : SpoolV) (a : ActV) : SpoolV × Nat × Int :=
  if pickN a.op 15 < 6 then P.add (bodyV a) (oddV a.n)
  else if pickN a.op 15 = 6 then (P.sync.1, 0, P.sync.2)
  else if pickN a.op 15 < 10 then ((P.ack (nameV a.name) (targetV P.led a)).1, 0, (P.ack (nameV a.name) (targetV P.led a)).2)
  else if pickN a.op 15 = 10 then ((P.reject (nameV a.name) (targetV P.led a)).1, 0, (P.reject (nameV a.name) (targetV P.led a)).2)
  else if pickN a.op 15 = 11 then ((P.join (nameV a.name)).1, 0, (P.join (nameV a.name)).2)
  else if pickN a.op 15 = 12 then ((P.leave (nameV a.name)).1, 0, (P.leave (nameV a.name)).2)
  else if pickN a.op 15 = 13 then (P.save.1, 0, P.save.2)
  else ((P.gone SpoolV.idle).1, 0, (P.gone SpoolV.idle).2)
theorem nameV_ok (c : Int) : nmOk (nameV c) := by
  have h := pickN_lt c (n := 4) (by omega)
  show nameOk (nameV c) = true
  unfold nameV
  generalize pickN c 4 = k at h
  match k, h with
  | 0, _ => decide
  | 1, _ => decide
  | 2, _ => decide
  | 3, _ => decide
namespace SGood
variable {R M : Nat} {P : SpoolV} {full : List Grp} {act : Grp} {ck : Option (List UInt8)}
/-- An act that is none of Add and Reclaim. -/
theorem run_calm (h : SGood R M P full act ck) (hb : Bears R M) (a : ActV) (h6 : 6 ≤ pickN a.op 15) (h14 : pickN a.op 15 ≠ 14) : (∃ ck', SGood R M (runV P a).1 full act ck') ∧ Calm P (runV P a).1 := by
  have hlt := pickN_lt a.op (n := 15) (by omega)
  unfold runV
  rw [if_neg (by omega)]
  split
  · obtain ⟨h1, h2, _⟩ := h.calm_sync
    exact ⟨⟨_, h1⟩, h2⟩
  split
  · obtain ⟨h1, h2⟩ := h.ack (nameV a.name) (targetV P.led a)
    exact ⟨⟨_, h1⟩, h2⟩
  split
  · exact h.reject hb _ _
  split
  · obtain ⟨h1, h2, _⟩ := h.join hb (nameV a.name)
    exact ⟨h1, h2⟩
  split
  · obtain ⟨h1, h2, _⟩ := h.leave hb (nameV a.name)
    exact ⟨h1, h2⟩
  split
  · obtain ⟨h1, h2, _⟩ := h.save hb
    exact ⟨⟨_, h1⟩, h2⟩
  · omega
theorem run_add (h : SGood R M P full act ck) (hb : Bears R M) (a : ActV) (h6 : pickN a.op 15 < 6) (hM : act.end_ + 1 ≤ M) :
    ∃ P' full' act' ck', runV P a = (P', act.end_, 0) ∧ SGood R M P' full' act' ck' ∧ Added P full act (bodyV a) (oddV a.n) P' full' act' := by
  unfold runV
  rw [if_pos h6]
  exact h.add hb (bodyV a) (by have := bodyV_le a; omega) hM _
theorem run_idle (h : SGood R M P full act ck) (hb : Bears R M) (a : ActV) (h14 : pickN a.op 15 = 14) :
    ∃ P' full' ck', runV P a = (P', 0, 0) ∧ SGood R M P' full' act ck' ∧ Evs act P full P' full' ∧ P'.led.dests = P.led.dests := by
  obtain ⟨P', full', ck', h1, h2, h3, h4, _⟩ := h.reclaim hb
  refine ⟨P', full', ck', ?_, h2, h3, h4⟩
  unfold runV
  rw [h14, if_neg (by decide), if_neg (by decide), if_neg (by decide), if_neg (by decide), if_neg (by decide), if_neg (by decide), if_neg (by decide), h1]
/-- Any act. -/
theorem run (h : SGood R M P full act ck) (hb : Bears R M) (a : ActV) (hM : act.end_ + 1 ≤ M) :
    ∃ full' act' ck', SGood R M (runV P a).1 full' act' ck' ∧ (runV P a).1.budget = P.budget ∧ (runV P a).1.segm = P.segm ∧ act'.end_ ≤ act.end_ + 1 ∧ P.led.first ≤ (runV P a).1.led.first := by
  by_cases h6 : pickN a.op 15 < 6
  · obtain ⟨P', full', act', ck', e, h1, h2⟩ := h.run_add hb a h6 hM
    rw [e]
    exact ⟨full', act', ck', h1, h2.budget, h2.segm, by rw [h2.end_]; exact Nat.le_refl _, h2.first⟩
  by_cases h14 : pickN a.op 15 = 14
  · obtain ⟨P', full', ck', e, h1, h2, _⟩ := h.run_idle hb a h14
    rw [e]
    exact ⟨full', act, ck', h1, h2.budget, h2.segm, by omega, h2.first⟩
  obtain ⟨⟨ck', h1⟩, h2⟩ := h.run_calm hb a (by omega) h14
  exact ⟨full, act, ck', h1, h2.budget, h2.segm, by omega, by rw [h2.first]; exact Nat.le_refl _⟩
end SGood
/-- The limits behind an act. -/
theorem SpoolV.Wk.run {M N : Nat} {P : SpoolV} (h : P.Wk M N) (a : ActV) (hM : M + 1 ≤ 700) (hN : N + 40 ≤ 900000) : (runV P a).1.Wk (M + 1) (N + 40) := by
  unfold runV
  split
  · exact h.add _ _ hM hN
  split
  · exact h.sync.mono (by omega) (by omega) hM hN
  split
  · exact (h.ack _ _).mono (by omega) (by omega) hM hN
  split
  · exact (h.reject _ _ (by omega)).mono (by omega) (by omega) hM hN
  split
  · exact (h.join _ (by omega)).mono (by omega) (by omega) hM hN
  split
  · exact (h.leave _ (by omega)).mono (by omega) (by omega) hM hN
  split
  · exact (h.save (by omega)).mono (by omega) (by omega) hM hN
  · exact (SpoolV.Wk.evict _ _ h (by omega)).mono (by omega) (by omega) hM hN
/-- A short body's frame has sixteen bytes more, at most. -/
theorem frame_len8 (q : Nat) (b : List UInt8) (hq : q < 16384) (hb : b.length ≤ 2000) : (Frame.putF q b).length ≤ b.length + 8 := by
  have h1 := Num.putL_length 1 q (by omega)
  have h2 := Num.putL_length 1 b.length (by omega)
  simp only [Frame.putF, List.length_append, Frame.sumL_length]
  omega
/-- SpoolRoom's round, plain. -/
theorem SGood.room {R M : Nat} {P : SpoolV} {full : List Grp} {act : Grp} {ck : Option (List UInt8)} (h : SGood R M P full act ck) (hb : Bears R M) (hM : act.end_ + 1 ≤ M) (hr : (P.log.bytes : Int) ≤ P.budget) (h1 : P.segm ≤ P.budget) (h2 : 2016 ≤ P.budget) (a : ActV) (hk : pickN a.op 15 ≠ 14) :
    ((runV P a).1.log.bytes : Int) ≤ P.budget ∧ P.led.first ≤ (runV P a).1.led.first ∧ (P.led.first < (runV P a).1.led.first → pickN a.op 15 < 6 ∧ P.budget < ((P.log.bytes + (bodyV a).size + 16 : Nat) : Int)) := by
  have hfew := hb.few
  by_cases h6 : pickN a.op 15 < 6
  · obtain ⟨P', full', act', ck', e, g, v⟩ := h.run_add hb a h6 hM
    rw [e]
    dsimp only
    have hfl : P.full = false := decide_eq_false (by omega)
    have hbl : (bodyV a).data.toList.length = (bodyV a).size := by simp
    have hfr := frame_len8 act.end_ (bodyV a).data.toList (by omega) (by have := bodyV_le a; omega)
    refine ⟨?_, v.first, fun hlt => ⟨h6, ?_⟩⟩
    · rcases v.room with hx | hx
      · subst hx
        rw [g.log.bytes]
        have hs : GoodLog.sum ([] ++ [act']) = act'.txt.length := by show act'.txt.length + 0 = _; omega
        rw [hs]
        rcases v.fits with hy | hy
        · obtain ⟨f, bs⟩ := act'
          match bs, hy with
          | [b], _ =>
            have hf : (f : Nat) + 1 ≤ M := g.le
            have hbs : b.length ≤ 2000 := g.log.small ⟨f, [b]⟩ (by simp) b (by simp)
            have := frame_len8 f b (by omega) hbs
            show ((Frame.putF f b ++ []).length : Int) ≤ _
            rw [List.append_nil]
            omega
        · omega
      · have := of_decide_eq_false hx
        rw [v.budget] at this
        omega
    · rcases Int.lt_or_le P.budget ((P.log.bytes + (bodyV a).size + 16 : Nat) : Int) with hx | hx
      · exact hx
      · have := v.still hfl (by omega)
        omega
  · obtain ⟨⟨ck', g⟩, v⟩ := h.run_calm hb a (by omega) hk
    refine ⟨?_, by rw [v.first]; exact Nat.le_refl _, fun hlt => by rw [v.first] at hlt; omega⟩
    rw [g.log.bytes, ← h.log.bytes]
    exact hr
end Go.Proofs.YtndgnlblbjpogaaGreatDoor
