/- A play of both logs, act by act, and the power cut at its end: plain. No walk stands here. -/
import Derived.Test.YtnppdcegpojmbaaGreatDoorCrashOk
import Derived.Test.YtnppdcegpojmbaaGreatDoorTwinP
import Derived.Test.YtnppdcegpojmbaaGreatDoorOpened
import Derived.Test.YtnppdcegpojmbaaGreatDoorStop
namespace Go.Proofs.YtnppdcegpojmbaaGreatDoor
open Go Go.RowKit
structure PDeck (U N : Nat) (D : DiskV) (X : RefV) (L : LogV) (rs : List RSeg) (synced : Nat) : Prop where
  td : TwinD X D L rs synced
  lim : Lim N D
  rlim : RLim N X
  cr : CrashOk U D
  ends : ∀ s ∈ rs, s.end_ ≤ U
/- Limits of what the reference's log does. -/
namespace RLim
variable {N : Nat} {X : RefV}
theorem lappend (h : RLim N X) (a : RSeg) (body : ByteArray) (hq : a.end_ < 18446744073709551616) (hN : N + 1 ≤ 1000000) : RLim (N + 1) (X.lappend a body).1 := by
  unfold RefV.lappend
  split
  · exact h.mono (Nat.le_succ _) hN
  · rename_i hb
    have hz : (⟨(Frame.putF a.end_ body.data.toList).toArray⟩ : ByteArray).size ≤ 3000 := by
      show (Frame.putF a.end_ body.data.toList).toArray.size ≤ _
      rw [List.size_toArray]
      have e1 : body.data.toList.length = body.size := by simp
      have := Frame.putF_len a.end_ body.data.toList hq (by rw [e1]; show body.size ≤ 2000; omega)
      omega
    have h1 := h.append (Seg.nameB a.first) ⟨(Frame.putF a.end_ body.data.toList).toArray⟩ hz hN
    dsimp only
    generalize X.append (Seg.nameB a.first) ⟨(Frame.putF a.end_ body.data.toList).toArray⟩ = c at h1 ⊢
    obtain ⟨X1, e⟩ := c
    dsimp only at h1 ⊢
    split <;> exact h1
theorem lsync (h : RLim N X) (a : RSeg) (synced : Nat) : RLim N (X.lsync a synced).1 := by
  unfold RefV.lsync
  split
  · exact h
  · have h1 := h.sync (Seg.nameB a.first)
    generalize X.sync (Seg.nameB a.first) = c at h1 ⊢
    obtain ⟨X1, e⟩ := c
    dsimp only at h1 ⊢
    split <;> exact h1
theorem lundo (h : RLim N X) (a : RSeg) (synced : Nat) (hN : N + 1 ≤ 1000000) : RLim (N + 1) (X.lundo a synced).1 := by
  unfold RefV.lundo
  split
  · exact h.mono (Nat.le_succ _) hN
  · have h1 := h.cut (Seg.nameB a.first) (a.front synced).size hN
    generalize X.cut (Seg.nameB a.first) (a.front synced).size = c at h1 ⊢
    obtain ⟨X1, e⟩ := c
    dsimp only at h1 ⊢
    split <;> exact h1
theorem lroll (h : RLim N X) (pre : List RSeg) (a : RSeg) (synced : Nat) (hN : N + 1 ≤ 1000000) : RLim (N + 1) (X.lroll pre a synced).1 := by
  unfold RefV.lroll
  split
  · exact h.mono (Nat.le_succ _) hN
  · have h1 := h.sync (Seg.nameB a.first)
    generalize X.sync (Seg.nameB a.first) = c at h1 ⊢
    obtain ⟨X1, e⟩ := c
    dsimp only at h1 ⊢
    split
    · have h2 := h1.started a.end_ hN
      generalize X1.started a.end_ = c at h2 ⊢
      obtain ⟨X2, e2, st⟩ := c
      dsimp only at h2 ⊢
      split <;> exact h2
    · exact h1.mono (Nat.le_succ _) hN
theorem ldrop (h : RLim N X) (rs : List RSeg) (hN : N + 1 ≤ 1000000) : RLim (N + 1) (X.ldrop rs).1 := by
  have h0 := h.mono (Nat.le_succ N) hN
  match rs with
  | [] => exact h0
  | [a] => exact h0
  | s :: b :: r =>
    have h1 := h.remove (Seg.nameB s.first) hN
    rw [show X.ldrop (s :: b :: r) = (match X.remove (Seg.nameB s.first) with | (X1, e) => if e = 0 then (X1.syncDir.1, b :: r, X1.syncDir.2) else (X1, s :: b :: r, e)) from rfl]
    generalize X.remove (Seg.nameB s.first) = c at h1 ⊢
    obtain ⟨X1, e⟩ := c
    dsimp only at h1 ⊢
    split
    · exact h1.syncDir
    · exact h1
end RLim
theorem lappend_end (X : RefV) (a : RSeg) (body : ByteArray) : (X.lappend a body).2.1.end_ ≤ a.end_ + 1 := by
  unfold RefV.lappend
  split
  · exact Nat.le_succ _
  · dsimp only
    generalize X.append (Seg.nameB a.first) ⟨(Frame.putF a.end_ body.data.toList).toArray⟩ = c
    obtain ⟨X1, e⟩ := c
    dsimp only
    split
    · show a.first + (a.bodies ++ [body]).length ≤ _
      rw [List.length_append]
      exact Nat.le_refl _
    · exact Nat.le_succ _
theorem lundo_end (X : RefV) (a : RSeg) (synced : Nat) : (X.lundo a synced).2.1.end_ ≤ a.end_ := by
  unfold RefV.lundo
  split
  · exact Nat.le_refl _
  · generalize X.cut (Seg.nameB a.first) (a.front synced).size = c
    obtain ⟨X1, e⟩ := c
    dsimp only
    split
    · show a.first + (a.bodies.take synced).length ≤ _
      rw [List.length_take]
      unfold RSeg.end_
      omega
    · exact Nat.le_refl _
theorem lroll_ends (X : RefV) (pre : List RSeg) (a : RSeg) (synced : Nat) {U : Nat} (h : ∀ s ∈ pre ++ [a], s.end_ ≤ U) : ∀ s ∈ (X.lroll pre a synced).2.1, s.end_ ≤ U := by
  unfold RefV.lroll
  split
  · exact h
  · generalize X.sync (Seg.nameB a.first) = c
    obtain ⟨X1, e⟩ := c
    dsimp only
    split
    · generalize X1.started a.end_ = c2
      obtain ⟨X2, e2, st⟩ := c2
      dsimp only
      split
      · intro s hs
        rcases List.mem_append.1 hs with hs | hs
        · exact h s hs
        · rw [List.mem_singleton.1 hs]
          exact h a (by simp)
      · exact h
    · exact h
theorem ldrop_ends (X : RefV) (rs : List RSeg) {U : Nat} (h : ∀ s ∈ rs, s.end_ ≤ U) : ∀ s ∈ (X.ldrop rs).2.1, s.end_ ≤ U := by
  match rs with
  | [] => exact h
  | [a] => exact h
  | s :: b :: r =>
    rw [show X.ldrop (s :: b :: r) = (match X.remove (Seg.nameB s.first) with | (X1, e) => if e = 0 then (X1.syncDir.1, b :: r, X1.syncDir.2) else (X1, s :: b :: r, e)) from rfl]
    generalize X.remove (Seg.nameB s.first) = c
    obtain ⟨X1, e⟩ := c
    dsimp only
    split
    · exact fun x hx => h x (List.mem_cons_of_mem _ hx)
    · exact h
namespace PDeck
variable {U V N M : Nat} {D : DiskV} {X : RefV} {L : LogV} {rs pre : List RSeg} {a : RSeg} {synced : Nat}
theorem deck (h : PDeck U N D X L rs synced) : Deck U N D X := ⟨h.td.twin.sim, h.td.twin.inn, h.td.twin.apart, h.lim, h.rlim, fun p hp => (h.cr.last.each p hp).2⟩
theorem mono (h : PDeck U N D X L rs synced) (hU : U ≤ V) (hN : N ≤ M) (hM : M ≤ 1000000) : PDeck V M D X L rs synced :=
  ⟨h.td, h.lim.mono hN hM, h.rlim.mono hN hM, h.cr.mono hU, fun s hs => Nat.le_trans (h.ends s hs) hU⟩
theorem act_end (h : PDeck U N D X L (pre ++ [a]) synced) : L.act.end_ = a.end_ ∧ a.end_ ≤ U := by
  obtain ⟨_, e2, _, _⟩ := h.td.twin.parts
  exact ⟨by rw [e2]; rfl, h.ends a (by simp)⟩
theorem append (h : PDeck U N D X L (pre ++ [a]) synced) (body : ByteArray) (hN : N + 1 ≤ 1000000) (hU : U + 1 ≤ 2000000000000) :
    (L.append D body).2.2 = (X.lappend a body).2.2 ∧ PDeck (U + 1) (N + 1) (L.append D body).2.1 (X.lappend a body).1 (L.append D body).1 (pre ++ [(X.lappend a body).2.1]) synced := by
  obtain ⟨e1, e2⟩ := h.act_end
  obtain ⟨t1, t2⟩ := h.td.append body (by omega)
  refine ⟨t1, t2, lim_lappend h.lim body (by omega) hN, h.rlim.lappend a body (by omega) hN, (h.cr.mono (Nat.le_succ _)).lappend L body (by omega), fun s hs => ?_⟩
  rcases List.mem_append.1 hs with hs | hs
  · exact Nat.le_succ_of_le (h.ends s (List.mem_append_left _ hs))
  · rw [List.mem_singleton.1 hs]
    exact Nat.le_trans (lappend_end X a body) (by omega)
theorem sync (h : PDeck U N D X L (pre ++ [a]) synced) :
    (L.sync D).2.2 = (X.lsync a synced).2.2 ∧ PDeck U N (L.sync D).2.1 (X.lsync a synced).1 (L.sync D).1 (pre ++ [a]) (X.lsync a synced).2.1 := by
  obtain ⟨t1, t2⟩ := h.td.sync
  exact ⟨t1, t2, lim_lsync h.lim, h.rlim.lsync a synced, h.cr.lsync L, h.ends⟩
theorem undo (h : PDeck U N D X L (pre ++ [a]) synced) (hN : N + 1 ≤ 1000000) :
    (L.undo D).2.2 = (X.lundo a synced).2.2 ∧ PDeck U (N + 1) (L.undo D).2.1 (X.lundo a synced).1 (L.undo D).1 (pre ++ [(X.lundo a synced).2.1]) synced := by
  obtain ⟨t1, t2⟩ := h.td.undo
  refine ⟨t1, t2, lim_lundo h.lim hN, h.rlim.lundo a synced hN, h.cr.lundo L, fun s hs => ?_⟩
  rcases List.mem_append.1 hs with hs | hs
  · exact h.ends s (List.mem_append_left _ hs)
  · rw [List.mem_singleton.1 hs]
    exact Nat.le_trans (lundo_end X a synced) (h.ends a (by simp))
theorem roll (h : PDeck U N D X L (pre ++ [a]) synced) (hN : N + 2 ≤ 1000000) (hU : U ≤ 2000000000000) :
    (L.roll D).2.2 = (X.lroll pre a synced).2.2.2 ∧ PDeck U (N + 2) (L.roll D).2.1 (X.lroll pre a synced).1 (L.roll D).1 (X.lroll pre a synced).2.1 (X.lroll pre a synced).2.2.1 := by
  obtain ⟨e1, e2⟩ := h.act_end
  obtain ⟨t1, t2⟩ := h.td.roll
  exact ⟨t1, t2, lim_lroll h.lim hN, (h.rlim.lroll pre a synced (by omega)).mono (Nat.le_succ _) hN, h.cr.lroll L (by omega) (by omega), lroll_ends X pre a synced h.ends⟩
theorem drop (h : PDeck U N D X L rs synced) (hN : N + 1 ≤ 1000000) (hU : U ≤ 2000000000000) :
    (L.drop D).2.2 = (X.ldrop rs).2.2 ∧ PDeck U (N + 1) (L.drop D).2.1 (X.ldrop rs).1 (L.drop D).1 (X.ldrop rs).2.1 synced := by
  obtain ⟨t1, t2⟩ := h.td.drop
  refine ⟨t1, t2, lim_ldrop h.lim hN, h.rlim.ldrop rs hN, h.cr.ldrop L (fun s hs => ?_), ldrop_ends X rs h.ends⟩
  have h1 : s ∈ L.segs := List.mem_append_left _ hs
  rw [h.td.twin.segs] at h1
  obtain ⟨x, hx, rfl⟩ := List.mem_map.1 h1
  have h2 := h.ends x hx
  unfold RSeg.end_ at h2
  show x.first < _
  omega
theorem stop (h : PDeck U N D X L rs synced) (n : Int) : PDeck U N (D.stop n) (X.stop n) L rs synced :=
  ⟨h.td.kept (h.td.twin.sim.stop n) rfl rfl, ⟨h.lim.le, h.lim.files, h.lim.names, h.lim.moves, h.lim.each⟩, h.rlim.stop n, h.cr.stop n, h.ends⟩
theorem failAt (h : PDeck U N D X L rs synced) (n : Int) : PDeck U N (D.failAt n) (X.failAt n) L rs synced :=
  ⟨h.td.kept (h.td.twin.sim.failAt n) rfl rfl, ⟨h.lim.le, h.lim.files, h.lim.names, h.lim.moves, h.lim.each⟩, h.rlim.failAt n, h.cr.failAt n, h.ends⟩
end PDeck
/-- The numbers that an opened log's segments have. -/
theorem opened_firsts {X : RefV} {D : DiskV} {N : Nat} (h : Sim X D) (hw : NamesIn D) (ha : NamesApart D) (hl : Lim N D) (hn : ∀ s ∈ D.list, NameOk s) (h0 : X.opened.2.1 = 0) : X.opened.2.2.map (·.first) = if D.firsts = [] then [1] else D.firsts := by
  by_cases hf : D.firsts = []
  · rw [if_pos hf]
    unfold RefV.opened
    rw [h.firsts, if_pos hf]
    rfl
  · rw [if_neg hf]
    have eX : X.opened = ropenGo X [] D.firsts := by unfold RefV.opened; rw [h.firsts, if_neg hf]
    rw [eX] at h0 ⊢
    obtain ⟨_, _, _, new, g4, g5, _, _⟩ := open_go_has (N * 3000) D.firsts X D [] h hw ha (fun name => read_size hl name) (fun s hs => absurd hs (by simp)) (firsts_apart h.dir.mapart hn) h0
    rw [g4, List.nil_append]
    exact g5
/-- A log that is opened. -/
theorem PDeck.of_opened {U N : Nat} {D : DiskV} {X : RefV} (h : Deck U N D X) (hc : CrashOk U D) (h1 : 1 ≤ U) (hU : U ≤ 1000000000000) (hN : N + 2 ≤ 1000000) (h0 : D.opened.2.1 = 0) {xs : List SegV} {a : SegV} (hx : D.opened.2.2 = xs ++ [a]) {pre : List RSeg} {y : RSeg} (hy : X.opened.2.2 = pre ++ [y]) :
    PDeck (U + 3000000000) (N + 2) D.opened.1 X.opened.1 ⟨xs, a, a⟩ (pre ++ [y]) y.bodies.length := by
  have ht := h.twin hU h0 hx hy
  have he := (h.sim.opened h.inn).2.1
  have hlist := h.listed (U := U) (by omega)
  have hfs := opened_firsts h.sim h.inn h.apart h.lim hlist (he.trans h0)
  rw [hy] at hfs
  have hl2 := lim_opened h.lim hN
  have hfst : ∀ s ∈ pre ++ [y], s.first ≤ U := by
    intro s hs
    have hm : s.first ∈ (pre ++ [y]).map (·.first) := List.mem_map_of_mem hs
    rw [hfs] at hm
    split at hm
    · rw [List.mem_singleton.1 hm]; exact h1
    · exact h.firsts (by omega) _ hm
  have hd : (pre ++ [y]).Pairwise fun p q => p.first ≠ q.first := by
    have hp : ((pre ++ [y]).map (·.first)).Pairwise (· ≠ ·) := by
      rw [hfs]
      split
      · exact List.pairwise_singleton _ _
      · exact firsts_apart h.sim.dir.mapart hlist
    exact List.pairwise_map.1 hp
  refine ⟨⟨ht, hd⟩, hl2, h.rlim.opened hN, (hc.opened h1 (by omega)).mono (Nat.le_add_right _ _), fun s hs => ?_⟩
  have h3 := (ht.size_le hl2 hs).2.1
  have h4 := hfst s hs
  unfold RSeg.end_
  omega
/-- What a power cut leaves. -/
theorem Deck.crash {U N : Nat} {D : DiskV} {X : RefV} (h : Deck U N D X) (hc : CrashOk U D) (k : Int) (fs : List Int) : Deck U N (D.crash k fs) (X.crash k fs) := by
  have hcd := h.sim.crashDir k
  have hnm := hc.rows _ hcd.2
  obtain ⟨s1, s2, s3, s4, s5, s6, s7⟩ := h.sim.crash k fs (fun f hf => (hc.chgs f hf).1.1) hnm.apart (fun p hp => (hnm.each p hp).1)
  have hN := h.lim.le
  have hfl := h.lim.files
  have htx : ∀ i, (X.crashText fs i).size ≤ N * 3000 := by
    intro i
    unfold RefV.crashText
    cases hf : X.files[i]? with
    | none => exact Nat.zero_le _
    | some row =>
      show ((row[X.crashAt fs i]?).getD ByteArray.empty).size ≤ _
      cases hr : row[X.crashAt fs i]? with
      | none => exact Nat.zero_le _
      | some t => exact (h.rlim.each row (List.mem_of_getElem? hf)).2 t (List.mem_of_getElem? hr)
  have hmv : (D.crash k fs).moves = [] := rfl
  refine ⟨s1, s2, s3, ⟨hN, by omega, by omega, by rw [hmv]; exact Nat.zero_le _, fun f hf => ?_⟩, ⟨hN, ?_, fun l hl => ?_, ?_, fun row hr => ?_⟩, fun p hp => ?_⟩
  · obtain ⟨i, rfl⟩ := s7 f hf
    exact ⟨Nat.zero_le _, htx i⟩
  · show 1 ≤ N + 1
    omega
  · have hd := s1.dirs
    have hl2 : l ∈ (X.crash k fs).dirs := hl
    have e : (X.crash k fs).dirs = [(X.crash k fs).dir] := rfl
    rw [e] at hl2
    rw [List.mem_singleton.1 hl2]
    have := s1.dir.perm.length_eq
    rw [List.length_map] at this
    omega
  · rw [s1.files, List.length_map]
    omega
  · rw [s1.files] at hr
    obtain ⟨f, hf, rfl⟩ := List.mem_map.1 hr
    obtain ⟨i, rfl⟩ := s7 f hf
    have e : rowOf ⟨X.crashText fs i, X.crashText fs i, []⟩ = [X.crashText fs i] := rfl
    rw [e]
    exact ⟨by show 1 ≤ _; omega, fun t ht => by rw [List.mem_singleton.1 ht]; exact htx i⟩
  · obtain ⟨q, hq, e⟩ := s4 p hp
    obtain ⟨u, hu, e2⟩ := (hnm.each q hq).2
    exact ⟨u, hu, e.trans e2⟩
/-- What the walk of the program's Crash asks. -/
theorem Deck.lawful {U N : Nat} {D : DiskV} {X : RefV} (h : Deck U N D X) (hc : CrashOk U D) (hU : U < 18446744073709551616) (k : Int) :
    D.moves.length ≤ 1000000 ∧ D.base.length ≤ 1000000 ∧ (∀ m ∈ D.moves, m.src.size ≤ maxLen ∧ m.dst.size ≤ maxLen ∧ m.file ≤ 9223372036854775807) ∧ ((D.crashNames k).Pairwise fun p q => p.2 ≠ q.2) ∧
    (∀ p ∈ D.crashNames k, p.1.length ≤ 24 ∧ p.2 < D.files.length) ∧ ∀ p ∈ D.crashNames k, ∀ f, D.files[p.2]? = some f → ChgsOk f.base.size f.chgs ∧ f.base.size + chgSum f.chgs ≤ 4611686018427387904 := by
  have hcd := h.sim.crashDir k
  have hnm := hc.rows _ hcd.2
  have hN := h.lim.le
  refine ⟨Nat.le_trans h.lim.moves hN, ?_, fun m hm => ?_, hnm.apart, fun p hp => ⟨?_, (hnm.each p hp).1⟩, fun p hp f hf => ?_⟩
  · obtain ⟨l, hl, hR⟩ := both₂_get h.sim.dirs (j := 0) (y := D.base) (by rw [dirRows_get D.moves D.base 0 (Nat.zero_le _)]; rfl)
    have h1 := h.rlim.dir l (List.mem_of_getElem? hl)
    have h2 := hR.perm.length_eq
    rw [List.length_map] at h2
    omega
  · have h1 := hc.moves m hm
    have h2 := h.lim.files
    unfold maxLen
    omega
  · obtain ⟨u, hu, e⟩ := (hnm.each p hp).2
    rw [e, Seg.nameL_length (by omega)]
    decide
  · have hm := List.mem_of_getElem? hf
    have hk := hc.chgs f hm
    refine ⟨hk.1.1, ?_⟩
    have h1 : rowOf f ∈ X.files := by rw [h.sim.files]; exact List.mem_map_of_mem hm
    have h2 := (h.rlim.each _ h1).2 f.base (by unfold rowOf; simp)
    have h3 : ∀ l : List Chg, (∀ c ∈ l, c.s.size ≤ 3000) → chgSum l ≤ l.length * 3000 := by
      intro l
      induction l with
      | nil => intro _; exact Nat.zero_le _
      | cons c r ih =>
        intro hl
        have i1 := ih (fun c hc => hl c (List.mem_cons_of_mem _ hc))
        have i2 := hl c List.mem_cons_self
        unfold chgSum at i1 ⊢
        rw [List.map_cons, List.sum_cons, List.length_cons]
        omega
    have h4 := h3 f.chgs hk.2
    have h5 := (h.lim.each f hm).1
    have h6 : f.chgs.length * 3000 ≤ 1000000 * 3000 := Nat.mul_le_mul_right _ (by omega)
    have h7 : N * 3000 ≤ 1000000 * 3000 := Nat.mul_le_mul_right _ hN
    omega
end Go.Proofs.YtnppdcegpojmbaaGreatDoor
