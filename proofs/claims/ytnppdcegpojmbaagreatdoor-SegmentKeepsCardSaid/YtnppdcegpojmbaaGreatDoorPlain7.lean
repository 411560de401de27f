/- Bounds of a disk, kept. No walk stands here. · Bounds of a good log's numbers. No walk stands here. -/
import Derived.Test.YtnppdcegpojmbaaGreatDoorPlain5
namespace Go.Proofs.YtnppdcegpojmbaaGreatDoor
open Go Go.RowKit
theorem Lim.mono {N M : Nat} {D : DiskV} (h : Lim N D) (hNM : N ≤ M) (hM : M ≤ 1000000) : Lim M D :=
  ⟨hM, Nat.le_trans h.files hNM, Nat.le_trans h.names hNM, Nat.le_trans h.moves hNM, fun f hf => ⟨Nat.le_trans (h.each f hf).1 hNM, Nat.le_trans (h.each f hf).2 (Nat.mul_le_mul_right _ hNM)⟩⟩
theorem lim_find {N : Nat} {D : DiskV} (h : Lim N D) (name : ByteArray) : Lim N (D.find name).1 := by
  have h1 := DiskW.find_len D name
  exact ⟨h.le, by rw [h1.2.1]; exact h.files, by rw [h1.1]; exact h.names, by rw [h1.2.2]; exact h.moves, by rw [h1.2.1]; exact h.each⟩
theorem lim_fails {N : Nat} {D : DiskV} (h : Lim N D) : Lim N D.fails.1 := by
  have hfs := DiskW.fails_same D
  exact ⟨h.le, by rw [hfs.2.1]; exact h.files, by rw [hfs.1]; exact h.names, by rw [hfs.2.2.2.1]; exact h.moves, by rw [hfs.2.1]; exact h.each⟩
theorem lim_setFile {N : Nat} {D : DiskV} (h : Lim N D) (i : Nat) (f : FileV) (h1 : f.chgs.length ≤ N) (h2 : f.now.size ≤ N * 3000) : Lim N (D.setFile i f) := by
  refine ⟨h.le, by show (D.files.set i _).length ≤ N; rw [List.length_set]; exact h.files, h.names, h.moves, ?_⟩
  intro f' hf'
  have hf' : f' ∈ D.files.set i f := hf'
  rcases List.mem_or_eq_of_mem_set hf' with hm | hm
  · exact h.each f' hm
  · subst hm; exact ⟨h1, h2⟩
theorem lim_append {N : Nat} {D : DiskV} (h : Lim N D) (name s : ByteArray) (hs : s.size ≤ 3000) (hN : N + 1 ≤ 1000000) : Lim (N + 1) (D.append name s).1 := by
  have h0 := lim_find h name
  unfold DiskV.append
  obtain ⟨D1, oi, er, hfd⟩ : ∃ D1 oi er, D.find name = (D1, oi, er) := ⟨_, _, _, rfl⟩
  rw [hfd] at h0 ⊢
  dsimp only at h0
  have up : ∀ {X : DiskV}, Lim N X → Lim (N + 1) X := fun hx => hx.mono (by omega) hN
  cases oi with
  | none => exact up h0
  | some i =>
    dsimp only
    split
    · exact up h0
    · split
      · exact up (lim_fails h0)
      · cases hf : D1.files[i]? with
        | none => exact up h0
        | some f =>
          have he := h0.each f (List.mem_of_getElem? hf)
          refine lim_setFile (up (lim_fails h0)) i _ ?_ ?_
          · show (f.chgs ++ [_]).length ≤ _
            rw [List.length_append]; have := he.1; simpa using this
          · show (f.now ++ s).size ≤ _
            rw [ByteArray.size_append]; have := he.2; omega
theorem lim_cut {N : Nat} {D : DiskV} (h : Lim N D) (name : ByteArray) (n : Int) (hN : N + 1 ≤ 1000000) : Lim (N + 1) (D.cut name n).1 := by
  have h0 := lim_find h name
  unfold DiskV.cut
  obtain ⟨D1, oi, er, hfd⟩ : ∃ D1 oi er, D.find name = (D1, oi, er) := ⟨_, _, _, rfl⟩
  rw [hfd] at h0 ⊢
  dsimp only at h0
  have up : ∀ {X : DiskV}, Lim N X → Lim (N + 1) X := fun hx => hx.mono (by omega) hN
  cases oi with
  | none => exact up h0
  | some i =>
    dsimp only
    cases hf : D1.files[i]? with
    | none => exact up h0
    | some f =>
      have he := h0.each f (List.mem_of_getElem? hf)
      dsimp only
      split
      · exact up h0
      · refine lim_setFile (up h0) i _ ?_ ?_
        · show (f.chgs ++ [_]).length ≤ _
          rw [List.length_append]; have := he.1; simpa using this
        · show (f.now.extract 0 n.toNat).size ≤ _
          rw [ByteArray.size_extract]; have := he.2; omega
theorem lim_dir {N : Nat} {D : DiskV} (h : Lim N D) : Lim N D.syncDir.1 := by
  have h0 := lim_begin h
  unfold DiskV.syncDir
  obtain ⟨D1, e, hb⟩ : ∃ D1 e, D.begin = (D1, e) := ⟨_, _, rfl⟩
  rw [hb] at h0 ⊢
  dsimp only at h0 ⊢
  split
  · exact ⟨h0.le, h0.files, h0.names, Nat.zero_le _, h0.each⟩
  · exact h0
theorem ins_len (x : Bytes × Nat) (m : NMap) : (NMap.ins x m).length = m.length + 1 := by
  induction m with
  | nil => rfl
  | cons y r ih => unfold NMap.ins; split <;> simp [ih]
theorem del_len (m : NMap) (k : Bytes) : (m.del k).length ≤ m.length := List.length_filter_le _ _
theorem done_len (m : Move) (names : NMap) : (DiskV.done m names).length ≤ names.length + 1 := by
  unfold DiskV.done
  have h1 := del_len names (bytesOf m.src)
  split
  · omega
  · unfold NMap.put
    rw [ins_len]
    have h2 := del_len (names.del (bytesOf m.src)) (bytesOf m.dst)
    omega
theorem lim_moved {N : Nat} {D : DiskV} (h : Lim N D) (m : Move) (hN : N + 1 ≤ 1000000) : Lim (N + 1) (D.moved m) := by
  refine ⟨hN, Nat.le_succ_of_le h.files, ?_, ?_, (h.mono (by omega) hN).each⟩
  · show (DiskV.done m D.names).length ≤ N + 1
    have := done_len m D.names
    have := h.names
    omega
  · show (D.moves ++ [m]).length ≤ N + 1
    rw [List.length_append]
    have := h.moves
    simpa using this
theorem lim_create {N : Nat} {D : DiskV} (h : Lim N D) (name : ByteArray) (hN : N + 2 ≤ 1000000) : Lim (N + 2) (D.create name).1 := by
  have h0 := lim_find h name
  unfold DiskV.create
  obtain ⟨D1, oi, er, hfd⟩ : ∃ D1 oi er, D.find name = (D1, oi, er) := ⟨_, _, _, rfl⟩
  rw [hfd] at h0 ⊢
  dsimp only at h0 ⊢
  have up : ∀ {X : DiskV}, Lim N X → Lim (N + 2) X := fun hx => hx.mono (by omega) hN
  split
  · exact up h0
  · split
    · exact up h0
    · split
      · exact up h0
      · refine lim_moved (N := N + 1) (D := { D1 with files := D1.files ++ [⟨ByteArray.empty, ByteArray.empty, []⟩] }) ⟨by omega, ?_, Nat.le_succ_of_le h0.names, Nat.le_succ_of_le h0.moves, ?_⟩ _ hN
        · show (D1.files ++ [_]).length ≤ N + 1
          rw [List.length_append]
          have := h0.files
          simpa using this
        · intro f hf
          have hf' : f ∈ D1.files ++ [⟨ByteArray.empty, ByteArray.empty, []⟩] := hf
          rcases List.mem_append.1 hf' with hm | hm
          · exact (h0.mono (by omega) (by omega : N + 1 ≤ 1000000)).each f hm
          · rw [List.mem_singleton.1 hm]; exact ⟨Nat.zero_le _, Nat.zero_le _⟩
theorem lim_started {N : Nat} {D : DiskV} (h : Lim N D) (first : Nat) (hN : N + 2 ≤ 1000000) : Lim (N + 2) (D.started first).1 := by
  have h0 := lim_create h (Seg.nameB first) hN
  unfold DiskV.started
  obtain ⟨D1, e, hc⟩ : ∃ D1 e, D.create (Seg.nameB first) = (D1, e) := ⟨_, _, rfl⟩
  rw [hc] at h0 ⊢
  dsimp only at h0 ⊢
  split
  · exact lim_dir h0
  · exact h0
theorem lim_remove {N : Nat} {D : DiskV} (h : Lim N D) (name : ByteArray) (hN : N + 1 ≤ 1000000) : Lim (N + 1) (D.remove name).1 := by
  have h0 := lim_find h name
  unfold DiskV.remove
  obtain ⟨D1, oi, er, hfd⟩ : ∃ D1 oi er, D.find name = (D1, oi, er) := ⟨_, _, _, rfl⟩
  rw [hfd] at h0 ⊢
  dsimp only at h0
  cases oi with
  | none => exact h0.mono (by omega) hN
  | some i => exact lim_moved h0 _ hN
theorem lim_new (R : Nat) : Lim 0 (DiskV.new R) :=
  ⟨Nat.zero_le _, Nat.le_refl _, Nat.le_refl _, Nat.le_refl _, fun f hf => by cases hf⟩
/- A log's operations. -/
theorem lim_lsync {N : Nat} {L : LogV} {D : DiskV} (h : Lim N D) : Lim N (L.sync D).2.1 := by
  have h0 := lim_sync h (Seg.nameB L.durable.first)
  unfold LogV.sync
  split
  · exact h
  · obtain ⟨D1, e, hc⟩ : ∃ D1 e, D.sync (Seg.nameB L.durable.first) = (D1, e) := ⟨_, _, rfl⟩
    rw [hc] at h0 ⊢
    dsimp only at h0 ⊢
    split <;> exact h0
theorem lim_lundo {N : Nat} {L : LogV} {D : DiskV} (h : Lim N D) (hN : N + 1 ≤ 1000000) : Lim (N + 1) (L.undo D).2.1 := by
  have h0 := lim_cut h (Seg.nameB L.durable.first) L.durable.size hN
  unfold LogV.undo
  split
  · exact h.mono (by omega) hN
  · obtain ⟨D1, e, hc⟩ : ∃ D1 e, D.cut (Seg.nameB L.durable.first) L.durable.size = (D1, e) := ⟨_, _, rfl⟩
    rw [hc] at h0 ⊢
    dsimp only at h0 ⊢
    split <;> exact h0
theorem lim_lroll {N : Nat} {L : LogV} {D : DiskV} (h : Lim N D) (hN : N + 2 ≤ 1000000) : Lim (N + 2) (L.roll D).2.1 := by
  have h0 := lim_sync h (Seg.nameB L.act.first)
  unfold LogV.roll
  split
  · exact h.mono (by omega) hN
  · obtain ⟨D1, e, hc⟩ : ∃ D1 e, D.sync (Seg.nameB L.act.first) = (D1, e) := ⟨_, _, rfl⟩
    rw [hc] at h0 ⊢
    dsimp only at h0 ⊢
    split
    · have h1 := lim_started h0 L.act.end_ hN
      obtain ⟨D2, e2, st, hs⟩ : ∃ D2 e2 st, D1.started L.act.end_ = (D2, e2, st) := ⟨_, _, _, rfl⟩
      rw [hs] at h1 ⊢
      dsimp only at h1 ⊢
      split <;> exact h1
    · exact h0.mono (by omega) hN
theorem lim_ldrop {N : Nat} {L : LogV} {D : DiskV} (h : Lim N D) (hN : N + 1 ≤ 1000000) : Lim (N + 1) (L.drop D).2.1 := by
  unfold LogV.drop
  cases L.full with
  | nil => exact h.mono (by omega) hN
  | cons s r =>
    have h0 := lim_remove h (Seg.nameB s.first) hN
    dsimp only
    obtain ⟨D1, e, hc⟩ : ∃ D1 e, D.remove (Seg.nameB s.first) = (D1, e) := ⟨_, _, rfl⟩
    rw [hc] at h0 ⊢
    dsimp only at h0 ⊢
    split
    · exact lim_dir h0
    · exact h0
theorem lim_lappend {N : Nat} {L : LogV} {D : DiskV} (h : Lim N D) (body : ByteArray) (hq : L.act.end_ < 18446744073709551616) (hN : N + 1 ≤ 1000000) : Lim (N + 1) (L.append D body).2.1 := by
  unfold LogV.append
  split
  · exact h.mono (by omega) hN
  · rename_i hb
    dsimp only
    have hlen := Frame.putF_len L.act.end_ body.data.toList hq (by show body.data.toList.length ≤ 2000; simp; omega)
    have h0 := lim_append h (Seg.nameB L.act.first) ⟨(Frame.putF L.act.end_ body.data.toList).toArray⟩ (by
      show (Frame.putF L.act.end_ body.data.toList).length ≤ 3000
      have : body.data.toList.length ≤ 2000 := by simp; omega
      omega) hN
    obtain ⟨D1, e, hc⟩ : ∃ D1 e, D.append (Seg.nameB L.act.first) ⟨(Frame.putF L.act.end_ body.data.toList).toArray⟩ = (D1, e) := ⟨_, _, rfl⟩
    rw [hc] at h0 ⊢
    dsimp only at h0 ⊢
    split <;> exact h0
end Go.Proofs.YtnppdcegpojmbaaGreatDoor
namespace Go.Proofs.YtnppdcegpojmbaaGreatDoor
open Go Go.RowKit
theorem framesL_len (bs : List (List UInt8)) (hb : ∀ b ∈ bs, b.length ≤ 2000) : ∀ f, f + bs.length ≤ 1000000 → (framesL f bs).length ≤ bs.length * 2024 := by
  induction bs with
  | nil => intro f _; simp [framesL]
  | cons b r ih =>
    intro f hf
    rw [List.length_cons] at hf
    have h1 := Frame.putF_len f b (by omega) (hb b (by simp))
    have h2 := ih (fun x hx => hb x (by simp [hx])) (f + 1) (by omega)
    have h3 := hb b (by simp)
    rw [framesL, List.length_append, List.length_cons]
    omega
namespace GoodLog
variable {R f0 : Nat} {L : LogV} {D : DiskV} {full : List Grp} {act : Grp}
theorem ends (h : GoodLog R f0 L D full act) {g : Grp} (hg : g ∈ full ++ [act]) : g.end_ ≤ 1000000 := by
  have h1 := h.few
  have h2 := (h.chain.mem hg).2
  omega
theorem segOk (h : GoodLog R f0 L D full act) {g : Grp} (hg : g ∈ full ++ [act]) : g.seg.Ok := by
  have h1 : g.first + g.bodies.length ≤ 1000000 := h.ends hg
  have h2 := framesL_len g.bodies (h.small g hg) g.first h1
  refine ⟨?_, ?_, ?_⟩
  · show g.first + g.bodies.length < _; omega
  · show g.bodies.length ≤ _; omega
  · show (framesL g.first g.bodies).length ≤ _; omega
theorem ok (h : GoodLog R f0 L D full act) (hd : L.durable.Ok) : L.Ok := by
  refine ⟨fun s hs => ?_, hd⟩
  rw [h.segs] at hs
  obtain ⟨g, hg, rfl⟩ := List.mem_map.1 hs
  exact h.segOk hg
/-- A front of the active segment bears Go's numbers. -/
theorem takeOk (h : GoodLog R f0 L D full act) (k : Nat) : (⟨act.first, act.bodies.take k⟩ : Grp).seg.Ok := by
  have h1 : act.first + act.bodies.length ≤ 1000000 := h.few
  have hl : (act.bodies.take k).length ≤ act.bodies.length := by rw [List.length_take]; omega
  have h2 := framesL_len (act.bodies.take k) (fun b hb => h.small act (by simp) b (List.mem_of_mem_take hb)) act.first (by omega)
  refine ⟨?_, ?_, ?_⟩
  · show act.first + (act.bodies.take k).length < _; omega
  · show (act.bodies.take k).length ≤ _; omega
  · show (framesL act.first (act.bodies.take k)).length ≤ _; omega
theorem len_le (h : GoodLog R f0 L D full act) : L.segs.length = full.length + 1 := by
  rw [h.segs]; simp
end GoodLog
end Go.Proofs.YtnppdcegpojmbaaGreatDoor
