/- The spool's laws on a disk that never fails, plain: the chapter's example, many acts, destinations that leave. No program stands here. · The spool's laws on a disk that never fails, plain: destinations that had all, that leave; what waits. No program stands here. · The spool's laws on a disk that never fails, plain: the bodies that were added, and those that are there. No program stands here. -/
import Derived.Test.YtndgnlblbjpogaaGreatDoorSRun
import Derived.Test.YtndgnlblbjpogaaGreatDoorSOpenM
namespace Go.Proofs.YtndgnlblbjpogaaGreatDoor
open Go Go.RowKit
abbrev nmA : ByteArray := ⟨#[97]⟩
abbrev bodyX : ByteArray := ⟨#[120]⟩
theorem bears_shown : Bears 9000 2 := ⟨by decide, by decide⟩
theorem bears_begun : Bears 1000000 100 := ⟨by decide, by decide⟩
/-- The chapter's example. -/
theorem shown_good {P : SpoolV} (h : SGood 9000 2 P [] ⟨1, []⟩ none) (hl : P.led = LedgerV.new) :
    (P.join nmA).2 = 0 ∧ ((P.join nmA).1.add bodyX true).2 = (1, 0) ∧ (((P.join nmA).1.add bodyX true).1.ack nmA 1).2 = 0 ∧ ((((P.join nmA).1.add bodyX true).1.ack nmA 1).1.led.pending nmA).length = 0 := by
  have hj : P.led.joinErr nmA = 0 := by rw [hl]; decide
  obtain ⟨⟨ck1, h1⟩, c1, e1, r1⟩ := h.join bears_shown nmA
  obtain ⟨l1, d1⟩ := r1 hj
  generalize (P.join nmA) = J at h1 c1 e1 l1 d1 ⊢
  obtain ⟨P1, x1⟩ := J
  dsimp only at h1 c1 e1 l1 d1 ⊢
  obtain ⟨P2, full2, act2, ck2, e2, h2, v2⟩ := h1.add bears_shown bodyX (by decide) (by decide) true
  rw [e2]
  dsimp only
  have hd : P1.led.dests = [⟨nmA, 1, 1, [], 0, 0, 0⟩] := by rw [l1, hl]; rfl
  have hn : P1.led.next = 1 := by rw [l1, hl]; rfl
  have hd2 : P2.led.dests = [⟨nmA, 1, 1, [], 0, 0, 0⟩] := by
    rw [v2.dests (fun d hx => by rw [hd] at hx; rw [List.mem_singleton.1 hx, hn]; exact Nat.le_refl _), hd]
  have hn2 : P2.led.next = 2 := by rw [v2.next, hn]
  have hdu : P2.log.durable.end_ = 2 := v2.dur1 rfl
  have he : P2.doneErr nmA 1 = 0 := by
    unfold SpoolV.doneErr
    rw [if_neg (by rw [hdu]; omega)]
    unfold LedgerV.doneErr
    rw [hd2, hn2]
    decide
  have hp : (P2.led.marked nmA 1 true).pending nmA = [] := by
    have key : ∀ l : LedgerV, l.dests = [⟨nmA, 1, 1, [], 0, 0, 0⟩] → l.next = 2 → (l.marked nmA 1 true).pending nmA = [] := by
      rintro ⟨f, nx, ds⟩ h1 h2
      dsimp only at h1 h2
      subst h1 h2
      rfl
    exact key _ hd2 hn2
  refine ⟨by rw [e1, hj], rfl, ?_, ?_⟩
  · unfold SpoolV.ack
    rw [if_pos he]
  · unfold SpoolV.ack
    rw [if_pos he]
    show ((P2.led.marked nmA 1 true).pending nmA).length = 0
    rw [hp]
    rfl
end Go.Proofs.YtndgnlblbjpogaaGreatDoor
namespace Go.Proofs.YtndgnlblbjpogaaGreatDoor
open Go Go.RowKit LedgerV
theorem pend_range (d : DestV) (next : Nat) (h : d.low ≤ next) : pendingOf d next = (List.range next).filter fun z => d.waits z next := by
  unfold LedgerV.pendingOf
  have e : List.range next = List.range d.low ++ (List.range (next - d.low)).map (d.low + ·) := by
    rw [← List.range_add, Nat.add_sub_cancel' h]
  rw [e, List.filter_append]
  have h0 : (List.range d.low).filter (fun z => d.waits z next) = [] := by
    refine List.filter_eq_nil_iff.2 fun z hz => ?_
    have := List.mem_range.1 hz
    unfold DestV.waits
    rw [decide_eq_false (by omega)]
    simp
  rw [h0, List.nil_append]
theorem place_at (l : List DestV) : (l.Pairwise fun a b => a.name ≠ b.name) → ∀ (i : Nat) (d : DestV), l[i]? = some d → LedgerV.place l d.name = some i := by
  induction l with
  | nil => intro _ i d h; cases h
  | cons x r ih =>
    intro hp i d h
    unfold LedgerV.place
    rw [List.findIdx?_cons]
    obtain ⟨h1, h2⟩ := List.pairwise_cons.1 hp
    cases i with
    | zero =>
      have : x = d := by simpa using h
      subst this
      simp
    | succ i =>
      have h : r[i]? = some d := by simpa using h
      have hm := h1 d (List.mem_of_getElem? h)
      rw [if_neg (by simpa using hm)]
      have := ih h2 i d h
      unfold LedgerV.place at this
      rw [this]
      rfl
theorem find_at {l : LedgerV} (hp : l.dests.Pairwise fun a b => a.name ≠ b.name) {i : Nat} {d : DestV} (h : l.dests[i]? = some d) : l.find d.name = some d := by
  have h1 := find_place l.dests d.name
  rw [place_at _ hp i d h] at h1
  dsimp only at h1
  unfold LedgerV.find
  rw [← h1, h]
/-- A destination that waits for none has all below the next number. -/
theorem DestV.Right.low_next {d : DestV} {first next : Nat} (h : d.Right first next) (hp : pendingOf d next = []) : d.low = next := by
  rcases Nat.lt_or_ge d.low next with hl | hl
  · exfalso
    have hm : d.low ∈ pendingOf d next := by
      rw [pend_range d next h.lle]
      refine List.mem_filter.2 ⟨List.mem_range.2 hl, ?_⟩
      unfold DestV.waits
      rw [decide_eq_true (Nat.le_refl _), decide_eq_true hl]
      have : d.above.contains d.low = false := by
        cases hc : d.above.contains d.low with
        | false => rfl
        | true =>
          have := (h.above d.low (by simpa using hc)).1
          omega
      rw [this]
      rfl
    rw [hp] at hm
    cases hm
  · exact Nat.le_antisymm h.lle hl
/-- What a destination waits for when one of it is acked. -/
theorem DestV.Right.counted {d : DestV} {first next p0 : Nat} {rest : List Nat} (h : d.Right first next) (hp : pendingOf d next = p0 :: rest) :
    (d.counted p0 next true).name = d.name ∧ (d.counted p0 next true).evicted = d.evicted ∧ pendingOf (d.counted p0 next true) next = rest ∧ d.waits p0 next = true ∧ p0 < next := by
  have hd := DestV.done_of h p0 (p0 + 1)
  have hl := hd.low_le h
  rw [pend_range d next h.lle] at hp
  have hm : p0 ∈ (List.range next).filter (fun z => d.waits z next) := by rw [hp]; simp
  obtain ⟨hm1, hm2⟩ := List.mem_filter.1 hm
  have hm1 := List.mem_range.1 hm1
  have hlow : d.low ≤ p0 := by
    unfold DestV.waits at hm2
    simp at hm2
    exact hm2.1.1
  refine ⟨by unfold DestV.counted; rw [if_pos rfl]; exact hd.name, by unfold DestV.counted; rw [if_pos rfl]; exact hd.counts.2.1, ?_, hm2, hm1⟩
  have hcl : (d.counted p0 next true).low = (d.done p0 (p0 + 1) next).1.low := by unfold DestV.counted; rw [if_pos rfl]
  have hca : (d.counted p0 next true).above = (d.done p0 (p0 + 1) next).1.above := by unfold DestV.counted; rw [if_pos rfl]
  rw [pend_range _ next (by rw [hcl]; exact hl)]
  have key : ∀ z ∈ List.range next, ((d.counted p0 next true).waits z next) = (d.waits z next && decide (z ≠ p0)) := by
    intro z hz
    have hz := List.mem_range.1 hz
    unfold DestV.waits
    rw [hcl, hca, decide_eq_true hz, Bool.and_true, Bool.and_true]
    rcases Nat.lt_or_ge z d.low with hlt | hge
    · have := hd.low
      rw [decide_eq_false (by omega), decide_eq_false (show ¬ d.low ≤ z by omega)]
      rfl
    · have hmm := hd.mem z hge
      rw [decide_eq_true hge, Bool.true_and]
      rw [Bool.eq_iff_iff]
      simp only [Bool.and_eq_true, decide_eq_true_eq, Bool.not_eq_true', List.contains_eq_mem, decide_eq_false_iff_not]
      constructor
      · rintro ⟨h1, h2⟩
        refine ⟨fun hx => ?_, fun hx => ?_⟩
        · rcases hmm.2 (.inl hx) with hy | hy
          · omega
          · exact h2 hy
        · rcases hmm.2 (.inr (by omega)) with hy | hy
          · omega
          · exact h2 hy
      · rintro ⟨h1, h2⟩
        constructor
        · rcases Nat.lt_or_ge z (d.done p0 (p0 + 1) next).1.low with hx | hx
          · rcases hmm.1 (.inl hx) with hy | hy
            · exact absurd hy h1
            · exfalso; omega
          · exact hx
        · intro hx
          rcases hmm.1 (.inr hx) with hy | hy
          · exact h1 hy
          · omega
  rw [List.filter_congr key]
  have e2 : (List.range next).filter (fun z => d.waits z next && decide (z ≠ p0)) = ((List.range next).filter fun z => d.waits z next).filter fun z => decide (z ≠ p0) := by
    rw [List.filter_filter]
    exact List.filter_congr (fun z _ => Bool.and_comm _ _)
  rw [e2, hp]
  have hnd : (p0 :: rest).Nodup := by rw [← hp]; exact List.nodup_range.filter _
  have hni := (List.nodup_cons.1 hnd).1
  rw [List.filter_cons, if_neg (by simp), List.filter_eq_self]
  intro z hz
  exact decide_eq_true (fun hx => hni (by rw [← hx]; exact hz))
namespace SGood
variable {R M : Nat} {P : SpoolV} {full : List Grp} {act : Grp} {ck : Option (List UInt8)}
/-- The first one that a destination waits for is acked. -/
theorem ack_pend (h : SGood R M P full act ck) (hdu : P.log.durable.end_ = act.end_) {i : Nat} {d : DestV} (hi : P.led.dests[i]? = some d) {p0 : Nat} {rest : List Nat} (hp : pendingOf d P.led.next = p0 :: rest) :
    P.ack d.name p0 = ({ P with led := { P.led with dests := P.led.dests.set i (d.counted p0 P.led.next true) } }, 0) ∧ SGood R M { P with led := { P.led with dests := P.led.dests.set i (d.counted p0 P.led.next true) } } full act ck := by
  have hr := (h.right.each d (List.mem_of_getElem? hi)).2
  obtain ⟨_, _, _, hw, hlt⟩ := hr.counted hp
  have hpl := place_at _ h.right.apart i d hi
  have he : P.doneErr d.name p0 = 0 := by
    unfold SpoolV.doneErr
    rw [if_neg (by rw [hdu, ← h.next]; omega)]
    unfold LedgerV.doneErr
    rw [hpl]
    dsimp only
    rw [hi]
    dsimp only
    rw [if_pos hw]
  have hmk : P.led.marked d.name p0 true = { P.led with dests := P.led.dests.set i (d.counted p0 P.led.next true) } := by
    unfold LedgerV.marked
    rw [hpl]
    dsimp only
    rw [hi]
  have hg := (h.ack d.name p0).1
  have e : P.ack d.name p0 = ({ P with led := P.led.marked d.name p0 true }, 0) := by unfold SpoolV.ack; rw [if_pos he]
  rw [e, hmk] at hg
  exact ⟨by rw [e, hmk], hg⟩
/-- All destinations have all: every full segment goes. -/
theorem reclaim_all (h : SGood R M P full act ck) (hb : Bears R M) (hd : ∀ d ∈ P.led.dests, d.low = P.led.next) :
    ∃ P' ck', P.gone SpoolV.idle = (P', 0) ∧ SGood R M P' [] act ck' ∧ Evs act P full P' [] ∧ P'.led.dests = P.led.dests := by
  obtain ⟨P', full', ck', h1, h2, h3, h4, h5⟩ := h.reclaim hb
  have hnil : full' = [] := by
    rcases h5 with h5 | h5
    · exact h5
    · cases full' with
      | nil => rfl
      | cons g r =>
        exfalso
        have h6 := of_decide_eq_false h5
        rw [h2.second rfl] at h6
        have hfr : P'.led.next ≤ P'.led.free := by
          unfold LedgerV.free
          exact free_ge _ _ _ (Nat.le_refl _) (fun d hx => by rw [h4] at hx; rw [hd d hx, h3.next]; exact Nat.le_refl _)
        have h7 := h2.log.chain
        have h8 : g.end_ ≤ act.end_ := h7.2.le
        have h9 := h2.next
        omega
  subst hnil
  exact ⟨P', ck', h1, h2, h3, h4⟩
theorem files_le (h : SGood R M P [] act ck) : P.disk.list.length ≤ 2 := by
  rw [h.log.list_eq, List.length_append, List.length_map]
  cases ck <;> simp [ckFile]
end SGood
end Go.Proofs.YtndgnlblbjpogaaGreatDoor
namespace Go.Proofs.YtndgnlblbjpogaaGreatDoor
open Go Go.RowKit LedgerV
/-- A row of texts, with one at a place. -/
def setV (l : List ByteArray) (q : Nat) (s : ByteArray) : List ByteArray := if 1000 < q then l else (l ++ List.replicate (q + 1 - l.length) ByteArray.empty).set q s
def getV (l : List ByteArray) (q : Nat) : ByteArray := l.getD q ByteArray.empty
/-- The bodies that are there stand in a row of texts, each at its number. -/
structure Shelved (P : SpoolV) (full : List Grp) (act : Grp) (B : List ByteArray) : Prop where
  len : B.length ≤ act.end_
  has : ∀ z, P.led.first ≤ z → z < act.end_ → ∃ b, B[z]? = some b ∧ (rowsOf full act)[z - P.led.first]? = some b.data.toList
namespace Shelved
variable {R M : Nat} {P P' : SpoolV} {full full' : List Grp} {act act' : Grp} {ck ck' : Option (List UInt8)} {B : List ByteArray}
theorem new (hf : P.led.first = 1) (he : act.end_ = 1) : Shelved P full act [] := ⟨Nat.zero_le _, fun z h1 h2 => by omega⟩
theorem calm (h : Shelved P full act B) (hf : P'.led.first = P.led.first) : Shelved P' full act B := ⟨h.len, fun z h1 h2 => by rw [hf] at h1 ⊢; exact h.has z h1 h2⟩
theorem gone (h : Shelved P full act B) (v : Evs act P full P' full') : Shelved P' full' act B := by
  refine ⟨h.len, fun z h1 h2 => ?_⟩
  have hf := v.first
  obtain ⟨b, e1, e2⟩ := h.has z (by omega) h2
  refine ⟨b, e1, ?_⟩
  rw [v.rows, List.getElem?_drop, show P'.led.first - P.led.first + (z - P'.led.first) = z - P.led.first by omega]
  exact e2
theorem add (h : Shelved P full act B) (hg : SGood R M P full act ck) {body : ByteArray} {s : Bool} (v : SGood.Added P full act body s P' full' act') (hM : act.end_ ≤ 1000) : Shelved P' full' act' (setV B act.end_ body) := by
  have hl := h.len
  have hfe := hg.first_le
  have hrl := hg.rows_len
  have hf := v.first
  have he := v.end_
  unfold setV
  rw [if_neg (by omega)]
  have hbl : (B ++ List.replicate (act.end_ + 1 - B.length) ByteArray.empty).length = act.end_ + 1 := by
    rw [List.length_append, List.length_replicate]
    omega
  refine ⟨by rw [List.length_set, hbl, he]; exact Nat.le_refl _, fun z h1 h2 => ?_⟩
  rw [v.rows, List.getElem?_drop, show P'.led.first - P.led.first + (z - P'.led.first) = z - P.led.first by omega]
  rcases Nat.lt_or_ge z act.end_ with hz | hz
  · obtain ⟨b, e1, e2⟩ := h.has z (by omega) hz
    refine ⟨b, ?_, ?_⟩
    · rw [List.getElem?_set_ne (by omega), List.getElem?_append_left (List.getElem?_eq_some_iff.1 e1).1]
      exact e1
    · rw [List.getElem?_append_left (List.getElem?_eq_some_iff.1 e2).1]
      exact e2
  · have hz : z = act.end_ := by omega
    subst hz
    refine ⟨body, ?_, ?_⟩
    · rw [List.getElem?_set_self (by omega)]
    · rw [List.getElem?_append_right (by omega), hrl, Nat.sub_self]
      rfl
/-- What is there is got. -/
theorem got (h : Shelved P full act B) (hg : SGood R M P full act ck) {z : Nat} (h1 : P.led.first ≤ z) (h2 : z < act.end_) : P.log.get P.disk z = (getV B z, 0) := by
  obtain ⟨b, e1, e2⟩ := h.has z h1 h2
  have hx := hg.log.get_some e2
  rw [show P.led.first + (z - P.led.first) = z by omega] at hx
  rw [hx]
  unfold getV
  rw [List.getD_eq_getElem?_getD, e1]
  rfl
end Shelved
/-- What a destination waits for is there. -/
theorem SGood.pend_in {R M : Nat} {P : SpoolV} {full : List Grp} {act : Grp} {ck : Option (List UInt8)} (h : SGood R M P full act ck) {d : DestV} (hd : d ∈ P.led.dests) {z : Nat} (hz : z ∈ pendingOf d P.led.next) : P.led.first ≤ z ∧ z < act.end_ := by
  have hr := (h.right.each d hd).2
  have hfl := hr.first_le h.right.le
  rw [pend_range d _ hr.lle] at hz
  obtain ⟨h1, h2⟩ := List.mem_filter.1 hz
  have h1 := List.mem_range.1 h1
  have h3 : d.low ≤ z := by
    unfold DestV.waits at h2
    simp at h2
    exact h2.1.1
  exact ⟨Nat.le_trans hfl h3, by rw [← h.next]; exact h1⟩
end Go.Proofs.YtndgnlblbjpogaaGreatDoor
