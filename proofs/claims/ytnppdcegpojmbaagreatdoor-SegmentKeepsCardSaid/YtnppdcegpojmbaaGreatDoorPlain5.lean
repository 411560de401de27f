/- A good log: groups of bodies, their frames, and what the log's operations leave. No walk stands here. · A good log: Append, Roll, Sync, Undo, Drop. No walk stands here. -/
import Derived.Test.YtnppdcegpojmbaaGreatDoorPlain3
namespace Go.Proofs.YtnppdcegpojmbaaGreatDoor
open Go Go.RowKit
structure Grp where
  first : Nat
  bodies : List (List UInt8)
def Grp.end_ (g : Grp) : Nat := g.first + g.bodies.length
def framesL (f : Nat) : List (List UInt8) → List UInt8
  | [] => []
  | b :: r => Frame.putF f b ++ framesL (f + 1) r
def Grp.txt (g : Grp) : List UInt8 := framesL g.first g.bodies
def Grp.seg (g : Grp) : SegV := ⟨g.first, g.bodies.length, g.txt.length⟩
theorem framesL_snoc (bs : List (List UInt8)) (b : List UInt8) : ∀ f, framesL f (bs ++ [b]) = framesL f bs ++ Frame.putF (f + bs.length) b := by
  induction bs with
  | nil => intro f; simp [framesL]
  | cons x r ih => intro f; simp only [List.cons_append, framesL, ih, List.length_cons, List.append_assoc]; congr 3; omega
/-- The groups follow one another from f on, up to t. -/
def Chain : Nat → List Grp → Nat → Prop
  | f, [], t => f = t
  | f, g :: r, t => g.first = f ∧ Chain g.end_ r t
theorem Chain.snoc {f t : Nat} {G : List Grp} {g : Grp} (h : Chain f G t) (hg : g.first = t) : Chain f (G ++ [g]) g.end_ := by
  induction G generalizing f with
  | nil => cases h; exact ⟨hg, rfl⟩
  | cons x r ih => exact ⟨h.1, ih h.2⟩
theorem Chain.le {f t : Nat} {G : List Grp} (h : Chain f G t) : f ≤ t := by
  induction G generalizing f with
  | nil => cases h; exact Nat.le_refl _
  | cons x r ih => have := ih h.2; have h1 := h.1; unfold Grp.end_ at this; omega
theorem Chain.mem {f t : Nat} {G : List Grp} {g : Grp} (h : Chain f G t) (hg : g ∈ G) : f ≤ g.first ∧ g.end_ ≤ t := by
  induction G generalizing f with
  | nil => cases hg
  | cons x r ih =>
    rcases List.mem_cons.1 hg with rfl | hg
    · exact ⟨Nat.le_of_eq h.1.symm, h.2.le⟩
    · have := ih h.2 hg
      have h1 := h.1
      unfold Grp.end_ at this
      unfold Grp.end_
      omega
theorem firstL_nil : Frame.firstL [] = none := rfl
theorem scan_frames (bs : List (List UInt8)) (hb : ∀ b ∈ bs, b.length ≤ 2000) : ∀ f, f + bs.length ≤ 18446744073709551616 → (Frame.scanL (framesL f bs)).map (·.body) = bs := by
  induction bs with
  | nil => intro f _; rw [framesL, Frame.scanL_none firstL_nil]; rfl
  | cons b r ih =>
    intro f hf
    rw [List.length_cons] at hf
    have h1 := Frame.first_put f b (framesL (f + 1) r) (hb b (by simp)) (by omega)
    rw [framesL, Frame.scanL_some h1, List.map_cons]
    congr 1
    have e : (Frame.putF f b ++ framesL (f + 1) r).drop (Frame.putF f b).length = framesL (f + 1) r := List.drop_left
    rw [e]
    exact ih (fun x hx => hb x (by simp [hx])) (f + 1) (by omega)
theorem chain_find (G : List Grp) : ∀ (f t i : Nat) (b : List UInt8), Chain f G t → (G.flatMap (·.bodies))[i]? = some b → ∃ g ∈ G, (G.map Grp.seg).find? (SegV.has (f + i)) = some g.seg ∧ g.first ≤ f + i ∧ g.bodies[f + i - g.first]? = some b := by
  induction G with
  | nil => intro f t i b _ h; simp at h
  | cons g r ih =>
    intro f t i b hc h
    rw [List.flatMap_cons] at h
    have hg := hc.1
    by_cases hi : i < g.bodies.length
    · rw [List.getElem?_append_left hi] at h
      refine ⟨g, by simp, ?_, by omega, by rw [hg, Nat.add_sub_cancel_left]; exact h⟩
      rw [List.map_cons, List.find?_cons]
      have : SegV.has (f + i) g.seg = true := by
        unfold SegV.has Grp.seg SegV.end_
        simp
        omega
      rw [this]
    · rw [List.getElem?_append_right (by omega)] at h
      obtain ⟨x, hx, h1, h2, h3⟩ := ih g.end_ t (i - g.bodies.length) b hc.2 h
      have e : g.end_ + (i - g.bodies.length) = f + i := by unfold Grp.end_; omega
      rw [e] at h1 h2 h3
      refine ⟨x, by simp [hx], ?_, h2, h3⟩
      rw [List.map_cons, List.find?_cons]
      have : SegV.has (f + i) g.seg = false := by
        unfold SegV.has Grp.seg SegV.end_
        simp
        intro _
        omega
      rw [this]
      exact h1
theorem chain_none (G : List Grp) : ∀ (f t s : Nat), Chain f G t → (s < f ∨ t ≤ s) → (G.map Grp.seg).find? (SegV.has s) = none := by
  induction G with
  | nil => intro f t s _ _; rfl
  | cons g r ih =>
    intro f t s hc hs
    have hg := hc.1
    have hle := hc.2.le
    rw [List.map_cons, List.find?_cons]
    have : SegV.has s g.seg = false := by
      unfold SegV.has Grp.seg SegV.end_
      unfold Grp.end_ at hle
      simp
      omega
    rw [this]
    refine ih g.end_ t s hc.2 ?_
    unfold Grp.end_
    unfold Grp.end_ at hle
    omega
structure GoodLog (R f0 : Nat) (L : LogV) (D : DiskV) (full : List Grp) (act : Grp) : Prop where
  disk : ∃ es, Good R D es ∧ es.map (fun e => (e.first, e.txt)) = (full ++ [act]).map (fun g => (g.first, g.txt))
  efull : L.full = full.map Grp.seg
  eact : L.act = act.seg
  chain : Chain f0 (full ++ [act]) act.end_
  small : ∀ g ∈ full ++ [act], ∀ b ∈ g.bodies, b.length ≤ 2000
  few : act.end_ ≤ 1000000
namespace GoodLog
variable {R f0 : Nat} {L : LogV} {D : DiskV} {full : List Grp} {act : Grp}
theorem segs (h : GoodLog R f0 L D full act) : L.segs = (full ++ [act]).map Grp.seg := by
  unfold LogV.segs; rw [h.efull, h.eact, List.map_append]; rfl
theorem get_some (h : GoodLog R f0 L D full act) {i : Nat} {b : List UInt8} (hb : ((full ++ [act]).flatMap (·.bodies))[i]? = some b) : L.get D (f0 + i) = (⟨b.toArray⟩, 0) := by
  obtain ⟨g, hg, h1, h2, h3⟩ := chain_find _ _ _ _ _ h.chain hb
  obtain ⟨es, hgood, hes⟩ := h.disk
  have hge := (h.chain.mem hg).2
  have hfew := h.few
  obtain ⟨e, he, hee⟩ : ∃ e ∈ es, (e.first, e.txt) = (g.first, g.txt) := by
    have : (g.first, g.txt) ∈ es.map (fun e => (e.first, e.txt)) := by rw [hes]; exact List.mem_map.2 ⟨g, hg, rfl⟩
    exact List.mem_map.1 this
  have hr := hgood.read he
  rw [(Prod.mk.inj hee).1, (Prod.mk.inj hee).2] at hr
  have hsc := scan_frames g.bodies (h.small g hg) g.first (by have : g.first + g.bodies.length ≤ act.end_ := hge; omega)
  unfold LogV.get
  rw [h.segs, h1]
  dsimp only
  rw [show g.seg.first = g.first from rfl, hr]
  dsimp only
  rw [if_pos rfl]
  have h4 : (Frame.scanL g.txt)[f0 + i - g.first]?.map (·.body) = some b := by
    rw [← List.getElem?_map, show Frame.scanL g.txt = Frame.scanL (framesL g.first g.bodies) from rfl, hsc]; exact h3
  cases hx : (Frame.scanL g.txt)[f0 + i - g.first]? with
  | none => rw [hx] at h4; cases h4
  | some x => rw [hx] at h4; simp at h4; dsimp only; rw [h4]
theorem get_none (h : GoodLog R f0 L D full act) {s : Nat} (hs : s < f0 ∨ act.end_ ≤ s) : L.get D s = (ByteArray.empty, 5) := by
  unfold LogV.get
  rw [h.segs, chain_none _ _ _ _ h.chain hs]
end GoodLog
end Go.Proofs.YtnppdcegpojmbaaGreatDoor
namespace Go.Proofs.YtnppdcegpojmbaaGreatDoor
open Go Go.RowKit
theorem Chain.split {f t : Nat} {G : List Grp} {g : Grp} (h : Chain f (G ++ [g]) t) : Chain f G g.first ∧ t = g.end_ := by
  induction G generalizing f with
  | nil => exact ⟨h.1.symm, h.2.symm⟩
  | cons x r ih => have := ih h.2; exact ⟨⟨h.1, this.1⟩, this.2⟩
namespace GoodLog
variable {R f0 : Nat} {L : LogV} {D : DiskV} {full : List Grp} {act : Grp}
theorem split (h : GoodLog R f0 L D full act) : ∃ pre e, Good R D (pre ++ [e]) ∧ pre.map (fun e => (e.first, e.txt)) = full.map (fun g => (g.first, g.txt)) ∧ e.first = act.first ∧ e.txt = act.txt := by
  obtain ⟨es, hg, he⟩ := h.disk
  rw [List.map_append] at he
  obtain ⟨pre, r, rfl, h1, h2⟩ := List.map_eq_append_iff.1 he
  cases r with
  | nil => cases h2
  | cons e r' =>
    cases r' with
    | nil => simp at h2; exact ⟨pre, e, hg, h1, h2.1, h2.2⟩
    | cons x y => simp at h2
theorem pack {D : DiskV} {pre : List Ent} {e : Ent} {a : Grp} (h1 : pre.map (fun e => (e.first, e.txt)) = full.map (fun g => (g.first, g.txt))) (h2 : e.first = a.first) (h3 : e.txt = a.txt) (hg : Good R D (pre ++ [e])) :
    ∃ es, Good R D es ∧ es.map (fun e => (e.first, e.txt)) = (full ++ [a]).map (fun g => (g.first, g.txt)) :=
  ⟨pre ++ [e], hg, by rw [List.map_append, List.map_append, h1]; simp [h2, h3]⟩
/-- How many bytes there are. -/
def sum (G : List Grp) : Nat := (G.map (·.txt.length)).sum
theorem lens {pre : List Ent} {G : List Grp} (h : pre.map (fun e => (e.first, e.txt)) = G.map (fun g => (g.first, g.txt))) : (pre.map (·.txt.length)).sum = sum G := by
  have h1 := congrArg (List.map fun p : Nat × List UInt8 => p.2.length) h
  rw [List.map_map, List.map_map] at h1
  unfold sum
  exact congrArg List.sum h1
theorem used (h : GoodLog R f0 L D full act) : D.used = sum (full ++ [act]) := by
  obtain ⟨es, hg, he⟩ := h.disk
  rw [hg.used, lens he]
theorem bytes (h : GoodLog R f0 L D full act) : L.bytes = sum (full ++ [act]) := by
  unfold LogV.bytes sum
  rw [h.segs, List.map_map]
  rfl
theorem append (h : GoodLog R f0 L D full act) (body : ByteArray) (hb : body.size ≤ 2000) (hfit : sum (full ++ [act]) + (Frame.putF act.end_ body.data.toList).length ≤ R) (hfew : act.end_ + 1 ≤ 1000000) :
    ∃ L' D', L.append D body = (L', D', act.end_, 0) ∧ GoodLog R f0 L' D' full ⟨act.first, act.bodies ++ [body.data.toList]⟩ ∧ L'.durable = L.durable := by
  obtain ⟨pre, e, hg, h1, h2, h3⟩ := h.split
  obtain ⟨s, hs⟩ : ∃ s : ByteArray, s = ⟨(Frame.putF act.end_ body.data.toList).toArray⟩ := ⟨_, rfl⟩
  have hsz : s.size = (Frame.putF act.end_ body.data.toList).length := by rw [hs]; rfl
  have hsl : s.data.toList = Frame.putF act.end_ body.data.toList := by rw [hs]
  have hsum : ((pre ++ [e]).map (·.txt.length)).sum = sum (full ++ [act]) := lens (by rw [List.map_append, List.map_append, h1]; simp [h2, h3])
  obtain ⟨D', ha, hg'⟩ := hg.append s (by rw [hsum, hsz]; exact hfit)
  have he : L.act.end_ = act.end_ := by rw [h.eact]; rfl
  have hf : L.act.first = act.first := by rw [h.eact]; rfl
  refine ⟨{ L with act := ⟨L.act.first, L.act.many + 1, L.act.size + s.size⟩ }, D', ?_, ⟨?_, h.efull, ?_, ?_, ?_, ?_⟩, rfl⟩
  · unfold LogV.append
    rw [if_neg (by omega), he, ← hs, hf, ← h2]
    dsimp only
    rw [ha]
    dsimp only
    rw [if_pos rfl]
  · refine pack h1 (e := ⟨e.first, e.idx, e.txt ++ s.data.toList⟩) h2 ?_ hg'
    show e.txt ++ s.data.toList = framesL act.first (act.bodies ++ [body.data.toList])
    rw [framesL_snoc, h3, hsl]; rfl
  · rw [h.eact]
    unfold Grp.seg Grp.txt
    rw [framesL_snoc]
    simp [hsz]
    rfl
  · exact h.chain.split.1.snoc rfl
  · intro g hg b hbm
    rcases List.mem_append.1 hg with hg | hg
    · exact h.small g (by simp [hg]) b hbm
    · rw [List.mem_singleton.1 hg] at hbm
      rcases List.mem_append.1 hbm with hbm | hbm
      · exact h.small act (by simp) b hbm
      · rw [List.mem_singleton.1 hbm]; simpa using hb
  · show act.first + (act.bodies ++ [_]).length ≤ _
    rw [List.length_append]
    exact hfew
theorem actFirst (h : GoodLog R f0 L D full act) : L.act.first = act.first := by rw [h.eact]; rfl
theorem sync (h : GoodLog R f0 L D full act) (hd : L.durable.first = act.first) : ∃ L' D', L.sync D = (L', D', 0) ∧ GoodLog R f0 L' D' full act ∧ L'.durable = act.seg := by
  by_cases hs : L.same
  · refine ⟨L, D, ?_, h, ?_⟩
    · unfold LogV.sync; rw [if_pos hs]
    · have := h.eact
      obtain ⟨h1, h2, h3⟩ := hs
      rw [this] at h1 h2 h3
      cases hdur : L.durable with
      | mk a b c => rw [hdur] at h1 h2 h3; cases hseg : act.seg with | mk x y z => rw [hseg] at h1 h2 h3; dsimp only at h1 h2 h3; rw [h1, h2, h3]
  · obtain ⟨pre, e, hg, h1, h2, h3⟩ := h.split
    obtain ⟨D', hd', hg'⟩ := hg.sync
    refine ⟨{ L with durable := L.act }, D', ?_, ⟨pack h1 h2 h3 hg', h.efull, h.eact, h.chain, h.small, h.few⟩, h.eact⟩
    unfold LogV.sync
    rw [if_neg hs, hd, ← h2, hd']
    dsimp only
    rw [if_pos rfl]
theorem roll_none (h : GoodLog R f0 L D full act) (ha : act.bodies = []) : L.roll D = (L, D, 0) := by
  unfold LogV.roll
  rw [if_pos (by rw [h.eact]; unfold Grp.seg; rw [ha]; rfl)]
theorem roll (h : GoodLog R f0 L D full act) (ha : act.bodies ≠ []) : ∃ L' D', L.roll D = (L', D', 0) ∧ GoodLog R f0 L' D' (full ++ [act]) ⟨act.end_, []⟩ ∧ L'.durable = ⟨act.end_, 0, 0⟩ := by
  obtain ⟨pre, e, hg, h1, h2, h3⟩ := h.split
  obtain ⟨D1, hd1, hg1⟩ := hg.sync
  have hfew := h.few
  have he : L.act.end_ = act.end_ := by rw [h.eact]; rfl
  have hpos : 0 < act.bodies.length := List.length_pos_iff.2 ha
  have hlt : ∀ x ∈ pre ++ [e], x.first ≠ act.end_ := by
    intro x hx
    have hx' : (x.first, x.txt) ∈ (full ++ [act]).map (fun g => (g.first, g.txt)) := by
      rw [List.map_append, ← h1]
      rcases List.mem_append.1 hx with hx | hx
      · exact List.mem_append.2 (.inl (List.mem_map.2 ⟨x, hx, rfl⟩))
      · rw [List.mem_singleton.1 hx]; exact List.mem_append.2 (.inr (by simp [h2, h3]))
    obtain ⟨g, hgm, hge⟩ := List.mem_map.1 hx'
    have hgx := (Prod.mk.inj hge).1
    rw [← hgx]
    have hc := h.chain.split
    rcases List.mem_append.1 hgm with hgm | hgm
    · have := hc.1.mem hgm
      have h4 : g.first + g.bodies.length ≤ act.first := this.2
      show g.first ≠ act.first + act.bodies.length
      omega
    · rw [List.mem_singleton.1 hgm]
      show act.first ≠ act.first + act.bodies.length
      omega
  obtain ⟨D2, i, hd2, hg2⟩ := hg1.started (u := act.end_) (by omega) hlt
  refine ⟨⟨L.segs, ⟨act.end_, 0, 0⟩, ⟨act.end_, 0, 0⟩⟩, D2, ?_, ⟨?_, h.segs, rfl, ?_, ?_, ?_⟩, rfl⟩
  · unfold LogV.roll
    rw [if_neg (by rw [h.eact]; show ¬ act.bodies.length = 0; omega), h.actFirst, ← h2, hd1]
    dsimp only
    rw [if_pos rfl, he, hd2]
    dsimp only
    rw [if_pos rfl]
  · refine pack (full := full ++ [act]) (pre := pre ++ [e]) ?_ (e := ⟨act.end_, i, []⟩) rfl rfl hg2
    rw [List.map_append, List.map_append, h1]; simp [h2, h3]
  · exact h.chain.snoc rfl
  · intro g hg b hb
    rcases List.mem_append.1 hg with hg | hg
    · exact h.small g hg b hb
    · rw [List.mem_singleton.1 hg] at hb; cases hb
  · show act.end_ + 0 ≤ _
    omega
theorem drop {g : Grp} {r : List Grp} (h : GoodLog R f0 L D (g :: r) act) : ∃ L' D', L.drop D = (L', D', 0) ∧ GoodLog R g.end_ L' D' r act ∧ L'.durable = L.durable := by
  obtain ⟨es, hg, he⟩ := h.disk
  cases es with
  | nil => cases he
  | cons e es' =>
    rw [List.cons_append, List.map_cons, List.map_cons] at he
    obtain ⟨h1, h2⟩ := List.cons.inj he
    obtain ⟨D1, hd1, hg1⟩ := hg.remove
    obtain ⟨D2, hd2, hg2⟩ := hg1.syncDir
    refine ⟨⟨r.map Grp.seg, L.act, L.durable⟩, D2, ?_, ⟨⟨es', hg2, h2⟩, rfl, h.eact, h.chain.2, fun x hx => h.small x (by rw [List.cons_append]; exact List.mem_cons_of_mem _ hx), h.few⟩, rfl⟩
    unfold LogV.drop
    rw [h.efull, List.map_cons]
    dsimp only
    rw [show g.seg.first = e.first from (Prod.mk.inj h1).1.symm, hd1]
    dsimp only
    rw [if_pos rfl, hd2]
/-- What is not durable is undone: k bodies of the active segment stay. -/
theorem undo (h : GoodLog R f0 L D full act) (k : Nat) (hd : L.durable = (⟨act.first, act.bodies.take k⟩ : Grp).seg) : ∃ L' D', L.undo D = (L', D', 0) ∧ GoodLog R f0 L' D' full ⟨act.first, act.bodies.take k⟩ ∧ L'.durable = L.durable := by
  have htxt : ∀ (bs : List (List UInt8)) (f k : Nat), framesL f (bs.take k) = (framesL f bs).take (framesL f (bs.take k)).length := by
    intro bs
    induction bs with
    | nil => intro f k; simp [framesL]
    | cons b r ih =>
      intro f k
      cases k with
      | zero => simp [framesL]
      | succ k =>
        show Frame.putF f b ++ framesL (f + 1) (r.take k) = (Frame.putF f b ++ framesL (f + 1) r).take (Frame.putF f b ++ framesL (f + 1) (r.take k)).length
        rw [List.length_append, List.take_length_add_append, ← ih (f + 1) k]
  have hle : (framesL act.first (act.bodies.take k)).length ≤ act.txt.length := by
    have := congrArg List.length (htxt act.bodies act.first k)
    rw [List.length_take] at this
    unfold Grp.txt
    omega
  have hchain : Chain f0 (full ++ [⟨act.first, act.bodies.take k⟩]) (⟨act.first, act.bodies.take k⟩ : Grp).end_ := h.chain.split.1.snoc rfl
  have hsmall : ∀ g ∈ full ++ [(⟨act.first, act.bodies.take k⟩ : Grp)], ∀ b ∈ g.bodies, b.length ≤ 2000 := by
    intro g hg b hb
    rcases List.mem_append.1 hg with hg | hg
    · exact h.small g (by simp [hg]) b hb
    · rw [List.mem_singleton.1 hg] at hb
      exact h.small act (by simp) b (List.mem_of_mem_take hb)
  have hfew : (⟨act.first, act.bodies.take k⟩ : Grp).end_ ≤ 1000000 := by
    have h1 : act.first + act.bodies.length ≤ 1000000 := h.few
    show act.first + (act.bodies.take k).length ≤ _
    rw [List.length_take]
    omega
  by_cases hs : L.same
  · have hlen : act.bodies.length = (act.bodies.take k).length := by
      have := hs.2.1
      rw [hd, h.eact] at this
      exact this.symm
    have htk : act.bodies.take k = act.bodies := List.take_of_length_le (by rw [List.length_take] at hlen; omega)
    refine ⟨L, D, ?_, ?_, rfl⟩
    · unfold LogV.undo; rw [if_pos hs]
    · rw [htk]; exact h
  · obtain ⟨pre, e, hg, h1, h2, h3⟩ := h.split
    obtain ⟨D', hd', hg'⟩ := hg.cut (framesL act.first (act.bodies.take k)).length (by rw [h3]; exact hle)
    refine ⟨{ L with act := L.durable }, D', ?_, ⟨pack h1 (e := ⟨e.first, e.idx, e.txt.take _⟩) h2 ?_ hg', h.efull, hd, hchain, hsmall, hfew⟩, rfl⟩
    · unfold LogV.undo
      have h4 := hd'
      rw [show e.first = L.durable.first by rw [h2, hd]; rfl, show (framesL act.first (act.bodies.take k)).length = L.durable.size by rw [hd]; rfl] at h4
      rw [if_neg hs, h4]
      dsimp only
      rw [if_pos rfl]
    · show e.txt.take _ = framesL act.first (act.bodies.take k)
      rw [h3]
      exact (htxt act.bodies act.first k).symm
end GoodLog
end Go.Proofs.YtnppdcegpojmbaaGreatDoor
