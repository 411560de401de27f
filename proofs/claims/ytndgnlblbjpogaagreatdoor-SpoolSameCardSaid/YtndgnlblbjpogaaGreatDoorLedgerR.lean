/- A ledger, plain: what is owed to whom. No program stands here. · A ledger that is right, and what keeps it so: plain. No program stands here. -/
import Derived.WalkKit
namespace Go.Proofs.YtndgnlblbjpogaaGreatDoor
structure DestV where
  name : ByteArray
  since : Nat
  low : Nat
  above : List Nat
  acked : Nat
  evicted : Nat
  rejected : Nat
structure LedgerV where
  first : Nat
  next : Nat
  dests : List DestV
/-- Strictly rising numbers. -/
abbrev Rising (l : List Nat) : Prop := l.Pairwise (· < ·)
/-- A number put into rising ones. -/
def insSeq (x : Nat) : List Nat → List Nat
  | [] => [x]
  | y :: r => if x < y then x :: y :: r else if x = y then y :: r else y :: insSeq x r
theorem mem_insSeq (x : Nat) (l : List Nat) (z : Nat) : z ∈ insSeq x l ↔ z = x ∨ z ∈ l := by
  induction l with
  | nil => simp [insSeq]
  | cons y r ih =>
    unfold insSeq
    by_cases h1 : x < y
    · rw [if_pos h1]; simp
    · rw [if_neg h1]
      by_cases h2 : x = y
      · rw [if_pos h2]; subst h2; simp
      · rw [if_neg h2, List.mem_cons, ih, List.mem_cons]
        constructor
        · rintro (h | h | h)
          · exact .inr (.inl h)
          · exact .inl h
          · exact .inr (.inr h)
        · rintro (h | h | h)
          · exact .inr (.inl h)
          · exact .inl h
          · exact .inr (.inr h)
theorem insSeq_rising (x : Nat) (l : List Nat) (h : Rising l) : Rising (insSeq x l) := by
  induction l with
  | nil => exact List.pairwise_singleton _ _
  | cons y r ih =>
    have hy := List.pairwise_cons.1 h
    unfold insSeq
    by_cases h1 : x < y
    · rw [if_pos h1]
      refine List.pairwise_cons.2 ⟨fun z hz => ?_, h⟩
      rcases List.mem_cons.1 hz with rfl | hz
      · exact h1
      · exact Nat.lt_trans h1 (hy.1 z hz)
    · rw [if_neg h1]
      by_cases h2 : x = y
      · rw [if_pos h2]; exact h
      · rw [if_neg h2]
        refine List.pairwise_cons.2 ⟨fun z hz => ?_, ih hy.2⟩
        rcases (mem_insSeq x r z).1 hz with rfl | hz
        · omega
        · exact hy.1 z hz
theorem insSeq_len (x : Nat) (l : List Nat) : (insSeq x l).length ≤ l.length + 1 := by
  induction l with
  | nil => exact Nat.le_refl _
  | cons y r ih =>
    unfold insSeq
    split
    · simp
    · split
      · simp
      · simp only [List.length_cons]; omega
theorem insSeq_same (x : Nat) (l : List Nat) (h : Rising l) (hx : x ∈ l) : insSeq x l = l := by
  induction l with
  | nil => cases hx
  | cons y r ih =>
    have hy := List.pairwise_cons.1 h
    unfold insSeq
    rcases List.mem_cons.1 hx with rfl | hx
    · rw [if_neg (Nat.lt_irrefl _), if_pos rfl]
    · have := hy.1 x hx
      rw [if_neg (by omega), if_neg (by omega), ih hy.2 hx]
/-- The numbers from..to-1 put in, one by one; how many are new? -/
def spanSeq (l : List Nat) (seq : Nat) : Nat → List Nat × Nat
  | 0 => (l, 0)
  | k + 1 => if l.contains seq then spanSeq l (seq + 1) k else ((spanSeq (insSeq seq l) (seq + 1) k).1, (spanSeq (insSeq seq l) (seq + 1) k).2 + 1)
theorem spanSeq_rising (k : Nat) : ∀ (l : List Nat) (seq : Nat), Rising l → Rising (spanSeq l seq k).1 := by
  induction k with
  | zero => intro l seq h; exact h
  | succ k ih =>
    intro l seq h
    unfold spanSeq
    by_cases hc : l.contains seq
    · rw [if_pos hc]; exact ih _ _ h
    · rw [if_neg hc]; exact ih _ _ (insSeq_rising _ _ h)
theorem mem_spanSeq (k : Nat) : ∀ (l : List Nat) (seq z : Nat), z ∈ (spanSeq l seq k).1 ↔ z ∈ l ∨ (seq ≤ z ∧ z < seq + k) := by
  induction k with
  | zero => intro l seq z; simp [spanSeq]; omega
  | succ k ih =>
    intro l seq z
    unfold spanSeq
    by_cases hc : l.contains seq
    · rw [if_pos hc, ih]
      have hm : seq ∈ l := List.contains_iff_mem.1 hc
      constructor
      · rintro (h | h)
        · exact .inl h
        · exact .inr (by omega)
      · rintro (h | h)
        · exact .inl h
        · by_cases hz : z = seq
          · exact .inl (hz ▸ hm)
          · exact .inr (by omega)
    · rw [if_neg hc]
      show z ∈ (spanSeq (insSeq seq l) (seq + 1) k).1 ↔ _
      rw [ih, mem_insSeq]
      constructor
      · rintro ((h | h) | h)
        · exact .inr (by omega)
        · exact .inl h
        · exact .inr (by omega)
      · rintro (h | h)
        · exact .inl (.inr h)
        · by_cases hz : z = seq
          · exact .inl (.inl hz)
          · exact .inr (by omega)
/-- The first ones that follow low are let go. -/
def stripSeq (low : Nat) : List Nat → Nat × List Nat
  | [] => (low, [])
  | x :: r => if x = low then stripSeq (low + 1) r else (low, x :: r)
namespace DestV
def waits (d : DestV) (seq next : Nat) : Bool := decide (d.low ≤ seq) && decide (seq < next) && !d.above.contains seq
def done (d : DestV) (from_ to next : Nat) : DestV × Nat :=
  let p := spanSeq d.above (max from_ d.low) (min to next - max from_ d.low)
  let q := stripSeq d.low p.1
  (⟨d.name, d.since, q.1, q.2, d.acked, d.evicted, d.rejected⟩, p.2)
end DestV
namespace LedgerV
def new : LedgerV := ⟨1, 1, []⟩
def place (l : List DestV) (name : ByteArray) : Option Nat := l.findIdx? fun d => decide (d.name = name)
def add (l : LedgerV) : LedgerV := { l with next := l.next + 1 }
def find (l : LedgerV) (name : ByteArray) : Option DestV := l.dests.find? fun d => decide (d.name = name)
def pendingOf (d : DestV) (next : Nat) : List Nat := ((List.range (next - d.low)).map (d.low + ·)).filter fun s => d.waits s next
def pending (l : LedgerV) (name : ByteArray) : List Nat := match l.find name with | some d => pendingOf d l.next | none => []
def free (l : LedgerV) : Nat := l.dests.foldl (fun n d => min n d.low) l.next
def evict (l : LedgerV) (to : Nat) : LedgerV := { l with first := to, dests := l.dests.map fun d => let p := d.done 0 to l.next; { p.1 with evicted := p.1.evicted + p.2 } }
end LedgerV
end Go.Proofs.YtndgnlblbjpogaaGreatDoor
namespace Go.Proofs.YtndgnlblbjpogaaGreatDoor
theorem insSeq_length (x : Nat) (l : List Nat) (h : x ∉ l) : (insSeq x l).length = l.length + 1 := by
  induction l with
  | nil => rfl
  | cons y r ih =>
    unfold insSeq
    by_cases h1 : x < y
    · rw [if_pos h1]; rfl
    · rw [if_neg h1, if_neg (fun e => h (by simp [e])), List.length_cons, ih (fun hm => h (by simp [hm])), List.length_cons]
theorem spanSeq_length (k : Nat) : ∀ (l : List Nat) (seq : Nat), (spanSeq l seq k).1.length = l.length + (spanSeq l seq k).2 := by
  induction k with
  | zero => intro l seq; rfl
  | succ k ih =>
    intro l seq
    unfold spanSeq
    by_cases hc : l.contains seq
    · rw [if_pos hc]; exact ih _ _
    · rw [if_neg hc]
      show (spanSeq (insSeq seq l) (seq + 1) k).1.length = _
      rw [ih, insSeq_length _ _ (fun hm => hc (List.contains_iff_mem.2 hm))]
      omega
theorem stripSeq_sum (l : List Nat) : ∀ low, (stripSeq low l).1 + (stripSeq low l).2.length = low + l.length := by
  induction l with
  | nil => intro low; rfl
  | cons x r ih =>
    intro low
    unfold stripSeq
    split
    · rw [ih, List.length_cons]; omega
    · rfl
theorem stripSeq_rising (l : List Nat) : ∀ low, Rising l → (∀ x ∈ l, low ≤ x) → Rising (stripSeq low l).2 ∧ (∀ x ∈ (stripSeq low l).2, (stripSeq low l).1 < x) ∧ low ≤ (stripSeq low l).1 ∧ ∀ z, z ∈ l ↔ z ∈ (stripSeq low l).2 ∨ (low ≤ z ∧ z < (stripSeq low l).1) := by
  induction l with
  | nil =>
    intro low _ _
    refine ⟨List.Pairwise.nil, fun x hx => absurd hx (by simp [stripSeq]), Nat.le_refl _, fun z => ?_⟩
    unfold stripSeq
    constructor
    · intro h; exact absurd h (by simp)
    · rintro (h | h)
      · exact h
      · omega
  | cons x r ih =>
    intro low hr hl
    have hx := List.pairwise_cons.1 hr
    unfold stripSeq
    by_cases he : x = low
    · rw [if_pos he]
      obtain ⟨h1, h2, h3, h4⟩ := ih (low + 1) hx.2 (fun y hy => by have := hx.1 y hy; omega)
      refine ⟨h1, h2, by omega, fun z => ?_⟩
      rw [List.mem_cons, h4]
      constructor
      · rintro (h | h | h)
        · exact .inr (by omega)
        · exact .inl h
        · exact .inr (by omega)
      · rintro (h | h)
        · exact .inr (.inl h)
        · by_cases hz : z = x
          · exact .inl hz
          · exact .inr (.inr (by omega))
    · rw [if_neg he]
      have h1 := hl x (by simp)
      refine ⟨hr, fun y hy => ?_, Nat.le_refl _, fun z => ?_⟩
      · rcases List.mem_cons.1 hy with rfl | hy
        · show low < y; omega
        · have := hx.1 y hy
          show low < y; omega
      · constructor
        · intro h; exact .inl h
        · rintro (h | h)
          · exact h
          · omega
/-- A destination that is right in a ledger of these bounds, but for its name. -/
structure DestV.Right (d : DestV) (first next : Nat) : Prop where
  one : 1 ≤ d.since
  sle : d.since ≤ d.low
  lle : d.low ≤ next
  rising : Rising d.above
  above : ∀ s ∈ d.above, d.low < s ∧ s < next
  front : next - d.since - (d.low - d.since + d.above.length) = 0 ∨ first ≤ d.low
  sum : d.acked + d.evicted + d.rejected = d.low - d.since + d.above.length
theorem rising_len (l : List Nat) : ∀ (a b : Nat), Rising l → (∀ s ∈ l, a ≤ s ∧ s < b) → a ≤ b → l.length ≤ b - a := by
  induction l with
  | nil => intro a b _ _ _; exact Nat.zero_le _
  | cons x r ih =>
    intro a b hr hl hab
    have hx := List.pairwise_cons.1 hr
    have h1 := hl x (by simp)
    have h2 := ih (x + 1) b hx.2 (fun s hs => ⟨by have := hx.1 s hs; omega, (hl s (by simp [hs])).2⟩) (by omega)
    rw [List.length_cons]
    omega
namespace DestV
variable {d : DestV} {first next : Nat}
/-- How many are done; never more than there were. -/
theorem Right.many (h : d.Right first next) : d.low - d.since + d.above.length ≤ next - d.since := by
  have h1 := rising_len d.above (d.low + 1) (max next (d.low + 1)) h.rising (fun s hs => by have := h.above s hs; omega) (by omega)
  have h2 := h.sle
  have h3 := h.lle
  by_cases hn : d.above = []
  · rw [hn]; simp; omega
  · obtain ⟨s, hs⟩ := List.exists_mem_of_ne_nil _ hn
    have := h.above s hs
    omega
/-- What done leaves, but for the counts. -/
structure DoneOf (d e : DestV) (n from_ to next : Nat) : Prop where
  name : e.name = d.name
  since : e.since = d.since
  counts : e.acked = d.acked ∧ e.evicted = d.evicted ∧ e.rejected = d.rejected
  low : d.low ≤ e.low
  rising : Rising e.above
  above : ∀ s ∈ e.above, e.low < s
  sum : e.low + e.above.length = d.low + d.above.length + n
  mem : ∀ z, d.low ≤ z → ((z < e.low ∨ z ∈ e.above) ↔ (z ∈ d.above ∨ (from_ ≤ z ∧ z < to ∧ z < next)))
theorem done_of (h : d.Right first next) (from_ to : Nat) : DoneOf d (d.done from_ to next).1 (d.done from_ to next).2 from_ to next := by
  have hr := spanSeq_rising (min to next - max from_ d.low) d.above (max from_ d.low) h.rising
  have hm := mem_spanSeq (min to next - max from_ d.low) d.above (max from_ d.low)
  have hl := spanSeq_length (min to next - max from_ d.low) d.above (max from_ d.low)
  have hge : ∀ x ∈ (spanSeq d.above (max from_ d.low) (min to next - max from_ d.low)).1, d.low ≤ x := by
    intro x hx
    rcases (hm x).1 hx with h1 | h1
    · have := (h.above x h1).1; omega
    · omega
  obtain ⟨s1, s2, s3, s4⟩ := stripSeq_rising _ d.low hr hge
  have hs := stripSeq_sum (spanSeq d.above (max from_ d.low) (min to next - max from_ d.low)).1 d.low
  refine ⟨rfl, rfl, ⟨rfl, rfl, rfl⟩, s3, s1, s2, ?_, fun z hz => ?_⟩
  · show (stripSeq d.low _).1 + (stripSeq d.low _).2.length = _ + (spanSeq d.above (max from_ d.low) (min to next - max from_ d.low)).2
    rw [hs, hl]; omega
  · have h5 := s4 z
    have h6 := hm z
    show (z < (stripSeq d.low _).1 ∨ z ∈ (stripSeq d.low _).2) ↔ _
    constructor
    · rintro (h | h)
      · rcases h6.1 (h5.2 (.inr ⟨hz, h⟩)) with h7 | h7
        · exact .inl h7
        · exact .inr (by omega)
      · rcases h6.1 (h5.2 (.inl h)) with h7 | h7
        · exact .inl h7
        · exact .inr (by omega)
    · intro h
      have h7 : z ∈ (spanSeq d.above (max from_ d.low) (min to next - max from_ d.low)).1 := h6.2 (h.imp id (fun h => by omega))
      rcases h5.1 h7 with h8 | h8
      · exact .inr h8
      · exact .inl h8.2
theorem DoneOf.low_le {e : DestV} {n from_ to : Nat} (h : DoneOf d e n from_ to next) (hr : d.Right first next) : e.low ≤ next := by
  rcases Nat.lt_or_ge next e.low with hlt | hge
  · exfalso
    have h1 := hr.lle
    have h2 := (h.mem next (by omega)).1 (.inl hlt)
    rcases h2 with h2 | h2
    · have := (hr.above next h2).2; omega
    · omega
  · exact hge
theorem DoneOf.right {e : DestV} {n from_ to first' : Nat} (h : DoneOf d e n from_ to next) (hr : d.Right first next) {a v r : Nat} (hc : a + v + r = d.acked + d.evicted + d.rejected + n) (hf : (∀ z, d.low ≤ z → z < next → z < first' → from_ ≤ z ∧ z < to) ∨ first' ≤ e.low) : ({ e with acked := a, evicted := v, rejected := r } : DestV).Right first' next := by
  have h1 := hr.sum
  have h2 := h.sum
  have h3 := h.low
  have h4 := hr.sle
  have h5 := h.low_le hr
  have h6 := h.since
  refine ⟨by show 1 ≤ e.since; rw [h6]; exact hr.one, by show e.since ≤ e.low; omega, h5, h.rising, fun s hs => ⟨h.above s hs, ?_⟩, ?_, ?_⟩
  · have h7 := h.above s hs
    have h8 := (h.mem s (by omega)).1 (.inr hs)
    rcases h8 with h8 | h8
    · exact (hr.above s h8).2
    · exact h8.2.2
  · rcases hf with hf | hf
    · rcases Nat.lt_or_ge e.low first' with hlt | hge
      · -- all below first' are done: so all that there are
        by_cases hn : e.low = next
        · left
          show next - e.since - (e.low - e.since + e.above.length) = 0
          omega
        · exfalso
          have h9 := hf e.low h3 (by omega) hlt
          have h10 := (h.mem e.low h3).2 (.inr ⟨h9.1, h9.2, by omega⟩)
          rcases h10 with h10 | h10
          · omega
          · have := h.above e.low h10; omega
      · exact .inr hge
    · exact .inr hf
  · show a + v + r = e.low - e.since + e.above.length
    omega
end DestV
/-- A ledger that is right; names: which texts are names. -/
structure LedgerV.Right (nm : ByteArray → Prop) (l : LedgerV) : Prop where
  one : 1 ≤ l.first
  le : l.first ≤ l.next
  few : l.dests.length ≤ 4
  each : ∀ d ∈ l.dests, nm d.name ∧ d.Right l.first l.next
  apart : l.dests.Pairwise fun a b => a.name ≠ b.name
namespace LedgerV
variable {nm : ByteArray → Prop} {l : LedgerV}
theorem Right.new : Right nm new := ⟨Nat.le_refl 1, Nat.le_refl 1, Nat.zero_le _, fun d hd => absurd hd (by simp [LedgerV.new]), List.Pairwise.nil⟩
theorem Right.add (h : Right nm l) : Right nm l.add := by
  refine ⟨h.one, Nat.le_succ_of_le h.le, h.few, fun d hd => ⟨(h.each d hd).1, ?_⟩, h.apart⟩
  have hr := (h.each d hd).2
  have hm := hr.many
  refine ⟨hr.one, hr.sle, Nat.le_succ_of_le hr.lle, hr.rising, fun s hs => ⟨(hr.above s hs).1, Nat.lt_succ_of_lt (hr.above s hs).2⟩, ?_, hr.sum⟩
  rcases hr.front with h1 | h1
  · -- all are done: low is next, or all above
    right
    have h2 := hr.sle
    have h3 := hr.lle
    have h4 := h.le
    rcases Nat.lt_or_ge d.low l.first with hlt | hge
    · exfalso
      -- fewer above than there would have to be
      have h5 := rising_len d.above (d.low + 1) l.next hr.rising (fun s hs => ⟨(hr.above s hs).1, (hr.above s hs).2⟩) (by omega)
      omega
    · exact hge
  · exact .inr h1
def joined (l : LedgerV) (name : ByteArray) : LedgerV := { l with dests := l.dests ++ [⟨name, l.next, l.next, [], 0, 0, 0⟩] }
theorem Right.join (h : Right nm l) {name : ByteArray} (hn : nm name) (hnew : ∀ d ∈ l.dests, d.name ≠ name) (hf : l.dests.length < 4) : Right nm (l.joined name) := by
  refine ⟨h.one, h.le, by show (l.dests ++ [_]).length ≤ 4; rw [List.length_append, List.length_singleton]; omega, fun d hd => ?_, ?_⟩
  · rcases List.mem_append.1 hd with hd | hd
    · exact h.each d hd
    · rw [List.mem_singleton.1 hd]
      have h1 := h.one
      have h2 := h.le
      exact ⟨hn, ⟨by show 1 ≤ l.next; omega, Nat.le_refl _, Nat.le_refl _, List.Pairwise.nil, fun s hs => absurd hs (by simp), .inr h.le, by show 0 + 0 + 0 = l.next - l.next + 0; omega⟩⟩
  · show (l.dests ++ [_]).Pairwise _
    refine List.pairwise_append.2 ⟨h.apart, List.pairwise_singleton _ _, fun a ha b hb => ?_⟩
    rw [List.mem_singleton.1 hb]
    exact hnew a ha
theorem Right.leave (h : Right nm l) (i : Nat) : Right nm { l with dests := l.dests.eraseIdx i } :=
  ⟨h.one, h.le, Nat.le_trans (List.length_eraseIdx_le _ _) h.few, fun d hd => h.each d (List.mem_of_mem_eraseIdx hd), h.apart.sublist (List.eraseIdx_sublist _ _)⟩
theorem Right.set (h : Right nm l) {i : Nat} (hi : i < l.dests.length) {e : DestV} (hn : e.name = l.dests[i].name) (he : e.Right l.first l.next) : Right nm { l with dests := l.dests.set i e } := by
  refine ⟨h.one, h.le, by show (l.dests.set i e).length ≤ 4; rw [List.length_set]; exact h.few, fun d hd => ?_, ?_⟩
  · rcases List.mem_or_eq_of_mem_set hd with hm | rfl
    · exact h.each d hm
    · rw [hn]; exact ⟨(h.each _ (List.getElem_mem hi)).1, he⟩
  · have hmap : (l.dests.set i e).map (·.name) = l.dests.map (·.name) := by
      rw [List.map_set, hn]
      apply List.ext_getElem?
      intro j
      rw [List.getElem?_set]
      split
      · rename_i hj
        subst hj
        rw [if_pos (by rw [List.length_map]; exact hi), List.getElem?_map, List.getElem?_eq_getElem hi]
        rfl
      · rfl
    have h1 : (l.dests.map (·.name)).Pairwise (· ≠ ·) := List.pairwise_map.2 h.apart
    rw [← hmap] at h1
    exact List.pairwise_map.1 h1
theorem Right.evict (h : Right nm l) {to : Nat} (h1 : l.first ≤ to) (h2 : to ≤ l.next) : Right nm (l.evict to) := by
  have h0 := h.one
  refine ⟨by show 1 ≤ to; omega, h2, by show (l.dests.map _).length ≤ 4; rw [List.length_map]; exact h.few, fun e he => ?_, ?_⟩
  · obtain ⟨d, hd, rfl⟩ := List.mem_map.1 he
    have hr := (h.each d hd).2
    have hdo := DestV.done_of hr 0 to
    refine ⟨?_, ?_⟩
    · show nm (d.done 0 to l.next).1.name
      rw [hdo.name]; exact (h.each d hd).1
    · have := hdo.right hr (first' := to) (a := (d.done 0 to l.next).1.acked) (v := (d.done 0 to l.next).1.evicted + (d.done 0 to l.next).2) (r := (d.done 0 to l.next).1.rejected)
        (by obtain ⟨c1, c2, c3⟩ := hdo.counts; rw [c1, c2, c3]; omega) (.inl fun z _ _ hz => ⟨Nat.zero_le _, hz⟩)
      exact this
  · have hmap : (l.evict to).dests.map (·.name) = l.dests.map (·.name) := by
      show (l.dests.map _).map _ = _
      rw [List.map_map]
      rfl
    have h3 : (l.dests.map (·.name)).Pairwise (· ≠ ·) := List.pairwise_map.2 h.apart
    rw [← hmap] at h3
    exact List.pairwise_map.1 h3
end LedgerV
end Go.Proofs.YtndgnlblbjpogaaGreatDoor
