/- What each act does to both logs: plain. No walk stands here. -/
import Derived.Test.YtnppdcegpojmbaaGreatDoorTwin3
namespace Go.Proofs.YtnppdcegpojmbaaGreatDoor
open Go Go.RowKit
/-- What the reference's acts do: the disk, the last segment, how many are synced. -/
def RefV.lappend (X : RefV) (a : RSeg) (body : ByteArray) : RefV × RSeg × Nat × Int :=
  if 2000 < body.size then (X, a, 0, 7)
  else
    let s : ByteArray := ⟨(Frame.putF a.end_ body.data.toList).toArray⟩
    match X.append (Seg.nameB a.first) s with
    | (X', e) => if e = 0 then (X', ⟨a.first, a.size + s.size, a.bodies ++ [body]⟩, a.end_, 0) else (X', a, 0, e)
def RefV.lsync (X : RefV) (a : RSeg) (synced : Nat) : RefV × Nat × Int :=
  if a.first + synced = a.end_ then (X, synced, 0)
  else match X.sync (Seg.nameB a.first) with
    | (X', e) => if e = 0 then (X', a.bodies.length, 0) else (X', synced, e)
def RSeg.front (a : RSeg) (k : Nat) : RSeg := ⟨a.first, (framesL a.first (a.grp.bodies.take k)).length, a.bodies.take k⟩
def RefV.lundo (X : RefV) (a : RSeg) (synced : Nat) : RefV × RSeg × Int :=
  if a.first + synced = a.end_ then (X, a, 0)
  else match X.cut (Seg.nameB a.first) (a.front synced).size with
    | (X', e) => if e = 0 then (X', a.front synced, 0) else (X', a, e)
/-- Roll: the disk, the segments, how many are synced, what errs. -/
def RefV.lroll (X : RefV) (pre : List RSeg) (a : RSeg) (synced : Nat) : RefV × List RSeg × Nat × Int :=
  if a.bodies.length = 0 then (X, pre ++ [a], synced, 0)
  else match X.sync (Seg.nameB a.first) with
    | (X1, e) =>
      if e = 0 then
        match X1.started a.end_ with
        | (X2, e2, st) => if st = true then (X2, pre ++ [a] ++ [⟨a.end_, 0, []⟩], 0, e2) else (X2, pre ++ [a], a.bodies.length, e2)
      else (X1, pre ++ [a], synced, e)
def RefV.ldrop (X : RefV) (rs : List RSeg) : RefV × List RSeg × Int :=
  match rs with
  | [] => (X, [], 13)
  | [a] => (X, [a], 13)
  | s :: b :: r =>
    match X.remove (Seg.nameB s.first) with
    | (X1, e) => if e = 0 then (X1.syncDir.1, b :: r, X1.syncDir.2) else (X1, s :: b :: r, e)
theorem append_form (D : DiskV) (u : Nat) (s : ByteArray) {t : List UInt8} (h : Has D u t) : (∃ i f, D.names.get (Seg.nameL u) = some i ∧ i < D.files.length ∧ f.now.data.toList = t ++ s.data.toList ∧ (D.append (Seg.nameB u) s).2 = 0 ∧ (D.append (Seg.nameB u) s).1.names = D.names ∧ (D.append (Seg.nameB u) s).1.files = D.files.set i f) ∨
    ((D.append (Seg.nameB u) s).2 ≠ 0 ∧ (D.append (Seg.nameB u) s).1.names = D.names ∧ (D.append (Seg.nameB u) s).1.files = D.files) := by
  obtain ⟨i, f, h1, h2, h3⟩ := h
  have hb := Sim.begin_files D
  have hf := Sim.fails_files D.begin.1
  unfold DiskV.append
  by_cases hl : D.left = 0
  · right
    unfold DiskV.find
    rw [if_pos hl]
    exact ⟨show (11 : Int) ≠ 0 by decide, rfl, rfl⟩
  · rw [find_ok hl h1]
    dsimp only
    split
    · right
      exact ⟨show (9 : Int) ≠ 0 by decide, hb.2.1, hb.1⟩
    · split
      · right
        exact ⟨show (10 : Int) ≠ 0 by decide, hf.2.trans hb.2.1, hf.1.trans hb.1⟩
      · left
        rw [hb.1, h2]
        refine ⟨i, _, h1, (List.getElem?_eq_some_iff.1 h2).1, ?_, rfl, hf.2.trans hb.2.1, by show D.begin.1.fails.1.files.set i _ = _; rw [hf.1, hb.1]⟩
        show (f.now ++ s).data.toList = _
        rw [← h3]; simp
namespace Twin
variable {X : RefV} {D : DiskV} {L : LogV} {pre : List RSeg} {a : RSeg} {synced : Nat}
theorem parts (h : Twin X D L (pre ++ [a]) synced) : L.full = pre.map RSeg.seg ∧ L.act = a.seg ∧ synced ≤ a.bodies.length ∧ L.durable = (⟨a.first, a.grp.bodies.take synced⟩ : Grp).seg := by
  have hsg := h.segs
  rw [List.map_append, List.map_singleton] at hsg
  unfold LogV.segs at hsg
  obtain ⟨e1, e2⟩ := List.append_inj' hsg rfl
  obtain ⟨pre2, a2, hr, hs, hd⟩ := h.dur
  obtain ⟨_, e4⟩ := List.append_inj' hr rfl
  have e4 : a = a2 := List.head_eq_of_cons_eq e4
  rw [← e4] at hs hd
  exact ⟨e1, List.head_eq_of_cons_eq e2, hs, hd⟩
theorem chain_last (h : Twin X D L (pre ++ [a]) synced) : ∃ f0, Chain f0 (pre.map RSeg.grp) a.first ∧ a.end_ ≤ 2000000000000 := by
  obtain ⟨f0, t, hc, ht⟩ := h.chain
  rw [List.map_append, List.map_singleton] at hc
  obtain ⟨c1, c2⟩ := hc.split
  rw [RSeg.grp_end] at c2
  exact ⟨f0, c1, by omega⟩
end Twin
/-- Both logs alike, and no two segments of one number. -/
structure TwinD (X : RefV) (D : DiskV) (L : LogV) (rs : List RSeg) (synced : Nat) : Prop where
  twin : Twin X D L rs synced
  dist : rs.Pairwise fun a b => a.first ≠ b.first
theorem del_len_ge {m : NMap} {k : Bytes} (hk : m.Pairwise fun p q => p.1 ≠ q.1) : m.length ≤ (m.del k).length + 1 := by
  induction m with
  | nil => exact Nat.zero_le _
  | cons x r ih =>
    rw [List.pairwise_cons] at hk
    by_cases hx : x.1 = k
    · have e : NMap.del (x :: r) k = r := by
        unfold NMap.del
        rw [List.filter_cons_of_neg (by simpa using hx), List.filter_eq_self]
        intro p hp
        simpa using fun e : p.1 = k => hk.1 p hp (hx.trans e.symm)
      rw [e, List.length_cons]
      exact Nat.le_refl _
    · have e : NMap.del (x :: r) k = x :: NMap.del r k := by
        unfold NMap.del
        rw [List.filter_cons_of_pos (by simpa using hx)]
      rw [e, List.length_cons, List.length_cons]
      have := ih hk.2
      omega
theorem get_none_all {m : NMap} {k : Bytes} (h : m.get k = none) : ∀ p ∈ m, p.1 ≠ k := by
  unfold NMap.get at h
  rw [Option.map_eq_none_iff, List.find?_eq_none] at h
  intro p hp
  simpa using h p hp
theorem started_few {X : RefV} {D : DiskV} (h : Sim X D) (u : Nat) (hs : (D.started u).2.2 = true) : D.names.length + 1 ≤ (D.started u).1.names.length := by
  have hfull : ∀ p ∈ D.names, p.1 ≠ bytesOf ByteArray.empty := by
    intro p hp e
    obtain ⟨q, hq, hk⟩ := List.mem_map.1 (h.dir.perm.mem_iff.2 hp)
    have h1 := h.dir.full q hq
    have h2 : bytesOf q.1 = bytesOf ByteArray.empty := by rw [← e, ← hk]; rfl
    exact h1 (by rw [bytesOf_inj h2]; rfl)
  have hc := create_names D (Seg.nameB u)
  unfold DiskV.started at hs ⊢
  generalize D.create (Seg.nameB u) = c at hc hs ⊢
  obtain ⟨D1, e⟩ := c
  dsimp only at hc hs ⊢
  have hd := syncDir_names D1
  rcases hc with ⟨_, _, c3⟩ | ⟨c1, _, c3, c4, c5, _⟩
  · rw [if_neg c3] at hs; cases hs
  · rw [if_pos c1]
    show _ ≤ D1.syncDir.1.names.length
    rw [hd.1, c5]
    unfold DiskV.done
    rw [if_neg (show ¬ (Seg.nameB u).size = 0 from named_size c4)]
    unfold NMap.put
    rw [(NMap.ins_perm _ _).length_eq, List.length_cons, NMap.del_none hfull, NMap.del_none (get_none_all c3)]
    exact Nat.le_refl _
theorem started_same {D : DiskV} (u : Nat) (hs : (D.started u).2.2 = false) : (D.started u).1.names = D.names := by
  have hc := create_names D (Seg.nameB u)
  unfold DiskV.started at hs ⊢
  generalize D.create (Seg.nameB u) = c at hc hs ⊢
  obtain ⟨D1, e⟩ := c
  dsimp only at hc hs ⊢
  rcases hc with ⟨c1, _, c3⟩ | ⟨c1, _, _, _, _, _⟩
  · rw [if_neg c3]; exact c1
  · rw [if_pos c1] at hs; cases hs
theorem remove_names (D : DiskV) (name : ByteArray) : ((D.remove name).1.names = D.names ∧ (D.remove name).1.files = D.files ∧ (D.remove name).2 ≠ 0) ∨ ((D.remove name).2 = 0 ∧ (D.remove name).1.names = D.names.del (bytesOf name) ∧ (D.remove name).1.files = D.files) := by
  have h := find_names D name
  unfold DiskV.remove
  by_cases hl : D.left = 0
  · left
    unfold DiskV.find
    rw [if_pos hl]
    exact ⟨rfl, rfl, show (11 : Int) ≠ 0 by decide⟩
  · unfold DiskV.find at h ⊢
    rw [if_neg hl] at h ⊢
    cases hg : D.names.get (bytesOf name) with
    | none =>
      rw [hg] at h
      left
      exact ⟨h.1, h.2, show (5 : Int) ≠ 0 by decide⟩
    | some i =>
      rw [hg] at h
      right
      refine ⟨rfl, ?_, h.2⟩
      show DiskV.done ⟨name, ByteArray.empty, 0⟩ D.begin.1.names = _
      rw [h.1]
      rfl
namespace TwinD
variable {X : RefV} {D : DiskV} {L : LogV} {pre : List RSeg} {a : RSeg} {synced : Nat}
theorem ne_last (h : TwinD X D L (pre ++ [a]) synced) {s : RSeg} (hs : s ∈ pre) : s.first ≠ a.first := by
  have := h.dist
  rw [List.pairwise_append] at this
  exact this.2.2 s hs a (by simp)
theorem has_last (h : TwinD X D L (pre ++ [a]) synced) : Has D a.first a.grp.txt := h.twin.files a (by simp)
/-- The last segment has turned, and its file. -/
theorem turned {X' : RefV} {D' : DiskV} {L' : LogV} {a' : RSeg} {synced' i : Nat} {f : FileV} (h : TwinD X D L (pre ++ [a]) synced) (hs : Sim X' D') (hn : D'.names = D.names) (hf : D'.files = D.files.set i f) (hi : D.names.get (Seg.nameL a.first) = some i) (hil : i < D.files.length)
    (hfirst : a'.first = a.first) (hnow : f.now.data.toList = a'.grp.txt) (hsz : a'.size = a'.grp.txt.length) (hsm : ∀ b ∈ a'.grp.bodies, b.length ≤ 2000) (hend : a'.end_ ≤ 2000000000000)
    (hL : L'.segs = (pre ++ [a']).map RSeg.seg) (hd1 : synced' ≤ a'.bodies.length) (hd2 : L'.durable = (⟨a'.first, a'.grp.bodies.take synced'⟩ : Grp).seg) : TwinD X' D' L' (pre ++ [a']) synced' := by
  have ht := h.twin
  obtain ⟨f0, hc, _⟩ := ht.chain_last
  refine ⟨⟨hs, ht.inn.of hn (by rw [hf, List.length_set]), same_apart ht.apart hn, hL, fun s hs => ?_, fun s hs => ?_, ⟨f0, a'.end_, ?_, hend⟩, ⟨pre, a', rfl, hd1, hd2⟩, fun s hs => ?_, ?_⟩, ?_⟩
  · rcases List.mem_append.1 hs with hm | hm
    · exact ht.sizes s (List.mem_append_left _ hm)
    · rw [List.mem_singleton.1 hm]; exact hsz
  · rcases List.mem_append.1 hs with hm | hm
    · exact ht.small s (List.mem_append_left _ hm)
    · rw [List.mem_singleton.1 hm]; exact hsm
  · rw [List.map_append, List.map_singleton, ← RSeg.grp_end]
    exact hc.snoc hfirst
  · rcases List.mem_append.1 hs with hm | hm
    · exact (ht.files s (List.mem_append_left _ hm)).set ht.apart hn hf hi (h.ne_last hm)
    · rw [List.mem_singleton.1 hm, hfirst, ← hnow]
      exact Has.put hn hf hi hil
  · rw [hn]
    have := ht.few
    rw [List.length_append] at this ⊢
    exact this
  · have hd := h.dist
    rw [List.pairwise_append] at hd ⊢
    refine ⟨hd.1, List.pairwise_singleton _ _, fun x hx y hy => ?_⟩
    rw [List.mem_singleton.1 hy, hfirst]
    exact h.ne_last hx
/-- The disk has turned, but no file, and no name. -/
theorem kept {X' : RefV} {D' : DiskV} {rs : List RSeg} (h : TwinD X D L rs synced) (hs : Sim X' D') (hn : D'.names = D.names) (hf : D'.files = D.files) : TwinD X' D' L rs synced := by
  have ht := h.twin
  exact ⟨⟨hs, ht.inn.of hn (by rw [hf]), same_apart ht.apart hn, ht.segs, ht.sizes, ht.small, ht.chain, ht.dur, fun s hs => (ht.files s hs).same hn hf, by rw [hn]; exact ht.few⟩, h.dist⟩
theorem append (h : TwinD X D L (pre ++ [a]) synced) (body : ByteArray) (hfew : a.end_ + 1 ≤ 2000000000000) :
    (L.append D body).2.2 = (X.lappend a body).2.2 ∧ TwinD (X.lappend a body).1 (L.append D body).2.1 (L.append D body).1 (pre ++ [(X.lappend a body).2.1]) synced := by
  obtain ⟨e1, e2, e3, e4⟩ := h.twin.parts
  unfold LogV.append RefV.lappend
  by_cases hb : 2000 < body.size
  · rw [if_pos hb, if_pos hb]; exact ⟨rfl, h⟩
  · rw [if_neg hb, if_neg hb]
    have ee : L.act.end_ = a.end_ := by rw [e2]; rfl
    have ef : L.act.first = a.first := by rw [e2]; rfl
    rw [ee, ef]
    obtain ⟨s, hs⟩ : ∃ s : ByteArray, s = ⟨(Frame.putF a.end_ body.data.toList).toArray⟩ := ⟨_, rfl⟩
    rw [← hs]
    dsimp only
    obtain ⟨m1, m2⟩ := h.twin.sim.append h.twin.inn (Seg.nameB a.first) s
    have hform := append_form D a.first s h.has_last
    generalize D.append (Seg.nameB a.first) s = cd at m1 m2 hform ⊢
    generalize X.append (Seg.nameB a.first) s = cx at m1 m2 ⊢
    obtain ⟨D', e⟩ := cd
    obtain ⟨X', e'⟩ := cx
    dsimp only at m1 m2 hform ⊢
    subst m2
    rcases hform with ⟨i, f, f1, f2, f3, f4, f5, f6⟩ | ⟨f4, f5, f6⟩
    · rw [if_pos f4, if_pos f4]
      refine ⟨rfl, ?_⟩
      have hgb : (⟨a.first, a.size + s.size, a.bodies ++ [body]⟩ : RSeg).grp.bodies = a.grp.bodies ++ [bytesOf body] := by unfold RSeg.grp; simp
      have hsl : s.data.toList = Frame.putF a.end_ (bytesOf body) := by rw [hs]; rfl
      have htx : (⟨a.first, a.size + s.size, a.bodies ++ [body]⟩ : RSeg).grp.txt = a.grp.txt ++ s.data.toList := by
        show framesL a.first _ = framesL a.first _ ++ _
        rw [hgb, framesL_snoc, hsl, show a.first + a.grp.bodies.length = a.end_ from by rw [← RSeg.grp_end]; rfl]
      have hend : (⟨a.first, a.size + s.size, a.bodies ++ [body]⟩ : RSeg).end_ = a.end_ + 1 := by unfold RSeg.end_; rw [List.length_append]; rfl
      refine h.turned m1 f5 f6 f1 f2 rfl (by rw [f3, htx]) ?_ ?_ (by rw [hend]; exact hfew) ?_ ?_ ?_
      · rw [htx, List.length_append, ← h.twin.sizes a (by simp)]
        show a.size + s.size = _
        congr 1
      · rw [hgb]
        intro b hb2
        rcases List.mem_append.1 hb2 with hm | hm
        · exact h.twin.small a (by simp) b hm
        · rw [List.mem_singleton.1 hm]; show body.data.toList.length ≤ _; simp; omega
      · show L.full ++ [_] = _
        rw [e1, e2, List.map_append, List.map_singleton]
        unfold RSeg.seg
        rw [List.length_append]; rfl
      · show synced ≤ (a.bodies ++ [body]).length
        rw [List.length_append]; omega
      · show L.durable = _
        rw [e4, hgb, List.take_append_of_le_length (by show synced ≤ (a.bodies.map bytesOf).length; rw [List.length_map]; exact e3)]
    · rw [if_neg f4, if_neg f4]
      exact ⟨rfl, h.kept m1 f5 f6⟩
theorem act_seg (h : TwinD X D L (pre ++ [a]) synced) : a.seg = (⟨a.first, a.grp.bodies.take a.bodies.length⟩ : Grp).seg := by
  have e5 : a.grp.bodies.length = a.bodies.length := List.length_map _
  rw [List.take_of_length_le (by omega)]
  show (⟨a.first, a.bodies.length, a.size⟩ : SegV) = ⟨a.first, a.grp.bodies.length, a.grp.txt.length⟩
  rw [e5, h.twin.sizes a (by simp)]
theorem same_iff (h : TwinD X D L (pre ++ [a]) synced) : L.same ↔ a.first + synced = a.end_ := by
  obtain ⟨_, e2, e3, e4⟩ := h.twin.parts
  have e5 : a.grp.bodies.length = a.bodies.length := List.length_map _
  unfold LogV.same RSeg.end_
  rw [e4, e2]
  constructor
  · rintro ⟨_, h2, _⟩
    have h2 : (a.grp.bodies.take synced).length = a.bodies.length := h2
    rw [List.length_take] at h2
    omega
  · intro h1
    have e6 : synced = a.bodies.length := by omega
    rw [e6, ← h.act_seg]
    exact ⟨rfl, rfl, rfl⟩
theorem dur_first (h : TwinD X D L (pre ++ [a]) synced) : L.durable.first = a.first ∧ L.durable.size = (a.front synced).size := by
  obtain ⟨_, _, _, e4⟩ := h.twin.parts
  rw [e4]
  exact ⟨rfl, rfl⟩
theorem sync (h : TwinD X D L (pre ++ [a]) synced) :
    (L.sync D).2.2 = (X.lsync a synced).2.2 ∧ TwinD (X.lsync a synced).1 (L.sync D).2.1 (L.sync D).1 (pre ++ [a]) (X.lsync a synced).2.1 := by
  obtain ⟨e1, e2, e3, e4⟩ := h.twin.parts
  have hsm := h.same_iff
  unfold LogV.sync RefV.lsync
  by_cases hs : L.same
  · rw [if_pos hs, if_pos (hsm.1 hs)]; exact ⟨rfl, h⟩
  · rw [if_neg hs, if_neg (fun x => hs (hsm.2 x)), h.dur_first.1]
    obtain ⟨m1, m2⟩ := h.twin.sim.sync h.twin.inn (Seg.nameB a.first)
    have hform := sync_form D a.first h.has_last
    generalize D.sync (Seg.nameB a.first) = cd at m1 m2 hform ⊢
    generalize X.sync (Seg.nameB a.first) = cx at m1 m2 ⊢
    obtain ⟨D', e⟩ := cd
    obtain ⟨X', e'⟩ := cx
    dsimp only at m1 m2 hform ⊢
    subst m2
    rcases hform with ⟨i, f, f1, f2, f3, f4, f5, f6⟩ | ⟨f4, f5, f6⟩
    · rw [if_pos f4, if_pos f4]
      refine ⟨rfl, h.turned m1 f5 f6 f1 (List.getElem?_eq_some_iff.1 f2).1 rfl f3 (h.twin.sizes a (by simp)) (h.twin.small a (by simp)) h.twin.chain_last.choose_spec.2 ?_ (Nat.le_refl _) ?_⟩
      · exact h.twin.segs
      · show L.act = _
        rw [e2]; exact h.act_seg
    · rw [if_neg f4, if_neg f4]
      exact ⟨rfl, h.kept m1 f5 f6⟩
theorem undo (h : TwinD X D L (pre ++ [a]) synced) :
    (L.undo D).2.2 = (X.lundo a synced).2.2 ∧ TwinD (X.lundo a synced).1 (L.undo D).2.1 (L.undo D).1 (pre ++ [(X.lundo a synced).2.1]) synced := by
  obtain ⟨e1, e2, e3, e4⟩ := h.twin.parts
  have hsm := h.same_iff
  have e5 : a.grp.bodies.length = a.bodies.length := List.length_map _
  unfold LogV.undo RefV.lundo
  by_cases hs : L.same
  · rw [if_pos hs, if_pos (hsm.1 hs)]; exact ⟨rfl, h⟩
  · rw [if_neg hs, if_neg (fun x => hs (hsm.2 x)), h.dur_first.1, h.dur_first.2]
    have hgf : (a.front synced).grp.bodies = a.grp.bodies.take synced := by
      show (a.bodies.take synced).map bytesOf = (a.bodies.map bytesOf).take synced
      rw [List.map_take]
    have htx : (a.front synced).grp.txt = framesL a.first (a.grp.bodies.take synced) := by
      show framesL a.first _ = _
      rw [hgf]
    have hpre : a.grp.txt = framesL a.first (a.grp.bodies.take synced) ++ framesL (a.first + (a.grp.bodies.take synced).length) (a.grp.bodies.drop synced) := by
      rw [← framesL_append, List.take_append_drop]; rfl
    have hle : (a.front synced).size ≤ a.grp.txt.length := by
      rw [hpre, List.length_append]; exact Nat.le_add_right _ _
    have htk : a.grp.txt.take (a.front synced).size = framesL a.first (a.grp.bodies.take synced) := by
      rw [hpre]; exact List.take_left
    obtain ⟨m1, m2⟩ := h.twin.sim.cut h.twin.inn (Seg.nameB a.first) (a.front synced).size
    have hform := cut_form D a.first (a.front synced).size h.has_last hle
    generalize D.cut (Seg.nameB a.first) ((a.front synced).size : Nat) = cd at m1 m2 hform ⊢
    generalize X.cut (Seg.nameB a.first) (a.front synced).size = cx at m1 m2 ⊢
    obtain ⟨D', e⟩ := cd
    obtain ⟨X', e'⟩ := cx
    dsimp only at m1 m2 hform ⊢
    subst m2
    rcases hform with ⟨i, f, f1, f2, f3, f4, f5, f6⟩ | ⟨f4, f5, f6⟩
    · rw [if_pos f4, if_pos f4]
      refine ⟨rfl, h.turned m1 f5 f6 f1 f2 rfl (by rw [f3, htk, htx]) (by rw [htx]; rfl) (fun b hb => ?_) ?_ ?_ ?_ ?_⟩
      · rw [hgf] at hb
        exact h.twin.small a (by simp) b (List.mem_of_mem_take hb)
      · have := h.twin.chain_last.choose_spec.2
        unfold RSeg.end_ at this ⊢
        show a.first + (a.bodies.take synced).length ≤ _
        rw [List.length_take]; omega
      · show L.full ++ [L.durable] = _
        rw [e1, e4, List.map_append, List.map_singleton]
        unfold RSeg.seg Grp.seg
        show _ = pre.map RSeg.seg ++ [(⟨a.first, (a.bodies.take synced).length, (framesL a.first (a.grp.bodies.take synced)).length⟩ : SegV)]
        rw [List.length_take, List.length_take, e5]
        rfl
      · show synced ≤ (a.bodies.take synced).length
        rw [List.length_take]; omega
      · show L.durable = _
        rw [e4, hgf, List.take_take, Nat.min_self]
        rfl
    · rw [if_neg f4, if_neg f4]
      exact ⟨rfl, h.kept m1 f5 f6⟩
/-- A segment begun behind the last one. -/
theorem begun (h : TwinD X D L (pre ++ [a]) synced) (hne : a.bodies.length ≠ 0) :
    ((D.started a.end_).2.2 = true → TwinD (X.started a.end_).1 (D.started a.end_).1 ⟨L.segs, ⟨a.end_, 0, 0⟩, ⟨a.end_, 0, 0⟩⟩ (pre ++ [a] ++ [⟨a.end_, 0, []⟩]) 0) ∧
    ((D.started a.end_).2.2 = false → TwinD (X.started a.end_).1 (D.started a.end_).1 L (pre ++ [a]) synced) := by
  have ht := h.twin
  have hsim := (ht.sim.started a.end_).1
  obtain ⟨k1, k2, k3, k4⟩ := started_keep ht.sim ht.inn ht.apart a.end_
  obtain ⟨f0, hc, hend⟩ := ht.chain_last
  constructor
  · intro hst
    have hfew := started_few ht.sim a.end_ hst
    have hlt : ∀ s ∈ pre ++ [a], s.first < a.end_ := by
      intro s hs
      unfold RSeg.end_
      rcases List.mem_append.1 hs with hm | hm
      · have := (hc.mem (List.mem_map_of_mem hm)).2
        rw [RSeg.grp_end] at this
        unfold RSeg.end_ at this
        omega
      · rw [List.mem_singleton.1 hm]; omega
    refine ⟨⟨hsim, k1, k2, ?_, fun s hs => ?_, fun s hs => ?_, ⟨f0, a.end_, ?_, hend⟩, ⟨pre ++ [a], _, rfl, Nat.zero_le _, rfl⟩, fun s hs => ?_, ?_⟩, ?_⟩
    · show L.segs ++ [_] = _
      rw [ht.segs, List.map_append (l₁ := pre ++ [a]), List.map_singleton]
      rfl
    · rcases List.mem_append.1 hs with hm | hm
      · exact ht.sizes s hm
      · rw [List.mem_singleton.1 hm]; rfl
    · rcases List.mem_append.1 hs with hm | hm
      · exact ht.small s hm
      · rw [List.mem_singleton.1 hm]; exact fun b hb => absurd hb (by simp [RSeg.grp])
    · rw [List.map_append, List.map_append, List.map_singleton, List.map_singleton]
      have h1 := hc.snoc (g := a.grp) rfl
      rw [RSeg.grp_end] at h1
      exact h1.snoc (g := (⟨a.end_, 0, []⟩ : RSeg).grp) rfl
    · rcases List.mem_append.1 hs with hm | hm
      · exact k3 _ _ (ht.files s hm)
      · rw [List.mem_singleton.1 hm]; exact (k4 hst).1
    · rw [List.length_append]
      have := ht.few
      simp only [List.length_singleton]
      omega
    · rw [List.pairwise_append]
      refine ⟨h.dist, List.pairwise_singleton _ _, fun x hx y hy => ?_⟩
      rw [List.mem_singleton.1 hy]
      have := hlt x hx
      show x.first ≠ a.end_
      omega
  · intro hst
    refine ⟨⟨hsim, k1, k2, ht.segs, ht.sizes, ht.small, ht.chain, ht.dur, fun s hs => k3 _ _ (ht.files s hs), ?_⟩, h.dist⟩
    rw [started_same _ hst]; exact ht.few
theorem roll (h : TwinD X D L (pre ++ [a]) synced) :
    (L.roll D).2.2 = (X.lroll pre a synced).2.2.2 ∧ TwinD (X.lroll pre a synced).1 (L.roll D).2.1 (L.roll D).1 (X.lroll pre a synced).2.1 (X.lroll pre a synced).2.2.1 := by
  obtain ⟨e1, e2, e3, e4⟩ := h.twin.parts
  have em : L.act.many = a.bodies.length := by rw [e2]; rfl
  have ef : L.act.first = a.first := by rw [e2]; rfl
  have ee : L.act.end_ = a.end_ := by rw [e2]; rfl
  unfold LogV.roll RefV.lroll
  rw [em]
  by_cases hm : a.bodies.length = 0
  · rw [if_pos hm, if_pos hm]; exact ⟨rfl, h⟩
  · rw [if_neg hm, if_neg hm, ef, ee]
    obtain ⟨m1, m2⟩ := h.twin.sim.sync h.twin.inn (Seg.nameB a.first)
    have hform := sync_form D a.first h.has_last
    generalize D.sync (Seg.nameB a.first) = cd at m1 m2 hform ⊢
    generalize X.sync (Seg.nameB a.first) = cx at m1 m2 ⊢
    obtain ⟨D1, e⟩ := cd
    obtain ⟨X1, e'⟩ := cx
    dsimp only at m1 m2 hform ⊢
    subst m2
    rcases hform with ⟨i, f, f1, f2, f3, f4, f5, f6⟩ | ⟨f4, f5, f6⟩
    · rw [if_pos f4, if_pos f4]
      have h1 : TwinD X1 D1 { L with durable := L.act } (pre ++ [a]) a.bodies.length := h.turned m1 f5 f6 f1 (List.getElem?_eq_some_iff.1 f2).1 rfl f3 (h.twin.sizes a (by simp)) (h.twin.small a (by simp)) h.twin.chain_last.choose_spec.2 h.twin.segs (Nat.le_refl _) (by show L.act = _; rw [e2]; exact h.act_seg)
      obtain ⟨b1, b2⟩ := h1.begun hm
      have hst := (h1.twin.sim.started a.end_).2
      generalize D1.started a.end_ = sd at b1 b2 hst ⊢
      generalize X1.started a.end_ = sx at b1 b2 hst ⊢
      obtain ⟨D2, e2', st⟩ := sd
      obtain ⟨X2, e3', st'⟩ := sx
      dsimp only at b1 b2 hst ⊢
      cases hst
      cases st with
      | true => rw [if_pos rfl, if_pos rfl]; exact ⟨rfl, b1 rfl⟩
      | false => rw [if_neg (by decide), if_neg (by decide)]; exact ⟨rfl, b2 rfl⟩
    · rw [if_neg f4, if_neg f4]
      exact ⟨rfl, h.kept m1 f5 f6⟩
theorem drop {rs : List RSeg} (h : TwinD X D L rs synced) :
    (L.drop D).2.2 = (X.ldrop rs).2.2 ∧ TwinD (X.ldrop rs).1 (L.drop D).2.1 (L.drop D).1 (X.ldrop rs).2.1 synced := by
  obtain ⟨pre, a, hr, _⟩ := h.twin.dur
  subst hr
  obtain ⟨e1, e2, e3, e4⟩ := h.twin.parts
  cases pre with
  | nil =>
    have hl : L.drop D = (L, D, 13) := by unfold LogV.drop; rw [e1]; rfl
    rw [hl]
    exact ⟨rfl, h⟩
  | cons s r =>
    have hl : L.drop D = (match D.remove (Seg.nameB s.first) with | (D1, e) => if e = 0 then (⟨r.map RSeg.seg, L.act, L.durable⟩, D1.syncDir.1, D1.syncDir.2) else (L, D1, e)) := by
      unfold LogV.drop; rw [e1]; rfl
    have hx : X.ldrop (s :: r ++ [a]) = (match X.remove (Seg.nameB s.first) with | (X1, e) => if e = 0 then (X1.syncDir.1, r ++ [a], X1.syncDir.2) else (X1, s :: r ++ [a], e)) := by
      cases r with
      | nil => rfl
      | cons b t => rfl
    rw [hl, hx]
    have ht := h.twin
    obtain ⟨m1, m2⟩ := ht.sim.remove (Seg.nameB s.first)
    have hform := remove_names D (Seg.nameB s.first)
    have hk := ht.sim.dir.mapart
    generalize D.remove (Seg.nameB s.first) = cd at m1 m2 hform ⊢
    generalize X.remove (Seg.nameB s.first) = cx at m1 m2 ⊢
    obtain ⟨D1, e⟩ := cd
    obtain ⟨X1, e'⟩ := cx
    dsimp only at m1 m2 hform ⊢
    subst m2
    rcases hform with ⟨f5, f6, f4⟩ | ⟨f4, f5, f6⟩
    · rw [if_neg f4, if_neg f4]
      exact ⟨rfl, h.kept m1 f5 f6⟩
    · rw [if_pos f4, if_pos f4]
      obtain ⟨s1, s2⟩ := m1.syncDir
      have hd := syncDir_names D1
      rw [Seg.bytesOf_nameB] at f5
      have hn : D1.syncDir.1.names = D.names.del (Seg.nameL s.first) := hd.1.trans f5
      have hf : D1.syncDir.1.files = D.files := hd.2.trans f6
      refine ⟨s2.symm, ?_⟩
      have hin : ∀ p ∈ D1.syncDir.1.names, p ∈ D.names := by
        intro p hp
        rw [hn] at hp
        exact (List.mem_filter.1 hp).1
      have hdist := h.dist
      rw [List.cons_append, List.pairwise_cons] at hdist
      refine ⟨⟨s1, fun p hp => by rw [hf]; exact ht.inn p (hin p hp), ?_, ?_, fun x hx => ht.sizes x (List.mem_cons_of_mem _ hx), fun x hx => ht.small x (List.mem_cons_of_mem _ hx), ?_, ⟨r, a, rfl, e3, e4⟩, fun x hx => ?_, ?_⟩, hdist.2⟩
      · unfold NamesApart
        rw [hn]
        exact List.Pairwise.filter _ ht.apart
      · show r.map RSeg.seg ++ [L.act] = _
        rw [e2, List.map_append, List.map_singleton]
      · obtain ⟨f0, t, hc, hb⟩ := ht.chain
        exact ⟨_, t, hc.2, hb⟩
      · obtain ⟨i, f, g1, g2, g3⟩ := ht.files x (List.mem_cons_of_mem _ hx)
        refine ⟨i, f, NMap.get_mem' s1.dir.mapart ?_, by rw [hf]; exact g2, g3⟩
        rw [hn]
        refine List.mem_filter.2 ⟨NMap.get_mem g1, ?_⟩
        simp only [decide_eq_true_eq]
        exact fun e => hdist.1 x hx (Seg.nameL_inj e).symm
      · have := ht.few
        have h2 := del_len_ge (k := Seg.nameL s.first) hk
        rw [hn]
        rw [List.cons_append, List.length_cons] at this
        show (r ++ [a]).length ≤ _
        omega
end TwinD
end Go.Proofs.YtnppdcegpojmbaaGreatDoor
