/- Open of the reference's log and of the program's: plain, side by side. No walk stands here. · A log of the program's and one of the reference's, alike: plain. What Open leaves, what Get tells. No walk stands here. · What Open leaves of both logs; what Get tells of them. No walk stands here. -/
import Derived.Test.YtnppdcegpojmbaaGreatDoorRefLim
import Derived.Test.YtnppdcegpojmbaaGreatDoorRefS2
import Derived.Test.YtnppdcegpojmbaaGreatDoorSame1
import Derived.Test.YtnppdcegpojmbaaGreatDoorKeepM
import Derived.Test.YtnppdcegpojmbaaGreatDoorRef6
import Derived.Test.YtnppdcegpojmbaaGreatDoorOpen
namespace Go.Proofs.YtnppdcegpojmbaaGreatDoor
open Go Go.RowKit
namespace Frame
/-- A frame that bytes begin with is the bytes that Put lays. -/
theorem first_inv {l : List UInt8} {f : FrameV} (h : firstL l = some f) : l = putF f.seq f.body ++ l.drop f.size ∧ f.size = (putF f.seq f.body).length ∧ f.body.length ≤ 2000 := by
  have h0 := h
  unfold firstL at h
  split at h
  · cases h
  · rename_i n r h1
    split at h
    · cases h
    · rename_i hn
      split at h
      · cases h
      · rename_i q r2 h2
        split at h
        · cases h
        · rename_i hl
          obtain ⟨g1, g2⟩ := rfirst_plain h1 hn h2 hl
          rw [g2] at h0
          split at h0
          · rename_i he
            cases h0
            dsimp only
            refine ⟨?_, rfl, ?_⟩
            · conv => lhs; rw [← List.take_append_drop (putF q ((r2.drop 4).take n)).length l, he]
            · rw [List.length_take]; have : ¬ 2000 < n := hn; omega
          · cases h0
end Frame
/-- The bodies of the frames whose numbers run on from f. -/
def fitB (f : Nat) (l : List UInt8) : List (List UInt8) := (fitL f (Frame.scanL l)).map (·.body)
theorem fit_inv (n : Nat) : ∀ (l : List UInt8) (f : Nat), l.length ≤ n → ∃ r, l = framesL f (fitB f l) ++ r ∧ Frame.sizes (fitL f (Frame.scanL l)) = (framesL f (fitB f l)).length ∧ ∀ b ∈ fitB f l, b.length ≤ 2000 := by
  induction n with
  | zero =>
    intro l f hl
    have : l = [] := List.eq_nil_of_length_eq_zero (by omega)
    subst this
    unfold fitB
    rw [Frame.scanL_none firstL_nil]
    exact ⟨[], rfl, rfl, fun b hb => absurd hb (by simp [fitL])⟩
  | succ n ih =>
    intro l f hl
    unfold fitB
    cases h : Frame.firstL l with
    | none => rw [Frame.scanL_none h]; exact ⟨l, rfl, rfl, fun b hb => absurd hb (by simp [fitL])⟩
    | some x =>
      rw [Frame.scanL_some h]
      obtain ⟨h1, h2, h3⟩ := Frame.first_inv h
      have hs := Frame.firstL_size h
      by_cases hq : x.seq = f
      · obtain ⟨r, i1, i2, i3⟩ := ih (l.drop x.size) (f + 1) (by rw [List.length_drop]; omega)
        unfold fitB at i1 i2 i3
        rw [fitL, if_pos hq, List.map_cons, framesL]
        refine ⟨r, ?_, ?_, ?_⟩
        · rw [List.append_assoc, ← i1, ← hq]; exact h1
        · unfold Frame.sizes at i2 ⊢
          rw [List.map_cons, List.sum_cons, i2, List.length_append, h2, hq]
        · intro b hb
          rcases List.mem_cons.1 hb with rfl | hb
          · exact h3
          · exact i3 b hb
      · rw [fitL, if_neg hq]
        exact ⟨l, rfl, rfl, fun b hb => absurd hb (by simp)⟩
theorem fit_front (l : List UInt8) (f : Nat) : l.take (Frame.sizes (fitL f (Frame.scanL l))) = framesL f (fitB f l) ∧ Frame.sizes (fitL f (Frame.scanL l)) = (framesL f (fitB f l)).length ∧ (∀ b ∈ fitB f l, b.length ≤ 2000) ∧ (fitB f l).length = (fitL f (Frame.scanL l)).length := by
  obtain ⟨r, h1, h2, h3⟩ := fit_inv l.length l f (Nat.le_refl _)
  refine ⟨?_, h2, h3, List.length_map _⟩
  rw [h2]
  exact (congrArg (fun x => x.take (framesL f (fitB f l)).length) h1).trans List.take_left
/-- A segment of the reference's as a group, and as a segment of the program's. -/
def RSeg.grp (s : RSeg) : Grp := ⟨s.first, s.bodies.map bytesOf⟩
def RSeg.seg (s : RSeg) : SegV := ⟨s.first, s.bodies.length, s.size⟩
theorem RSeg.grp_end (s : RSeg) : s.grp.end_ = s.end_ := by unfold RSeg.grp Grp.end_ RSeg.end_; rw [List.length_map]
def rscanSeg (u : Nat) (l : List UInt8) : RSeg := ⟨u, Frame.sizes (fitL u (Frame.scanL l)), (fitL u (Frame.scanL l)).map fun f => ⟨f.body.toArray⟩⟩
theorem rscan_seg (u : Nat) (l : List UInt8) : (rscanSeg u l).seg = scanSeg u l := by unfold RSeg.seg rscanSeg scanSeg; rw [List.length_map]
theorem rscan_grp (u : Nat) (l : List UInt8) : (rscanSeg u l).grp = ⟨u, fitB u l⟩ := by
  unfold RSeg.grp rscanSeg fitB
  rw [List.map_map]
  rfl
theorem rscan_size (u : Nat) (l : List UInt8) : (rscanSeg u l).size = (rscanSeg u l).grp.txt.length := by rw [rscan_grp]; exact (fit_front l u).2.1
/-- One segment of the reference's Open: the disk, what errs, the segment. -/
def ropenOne (X : RefV) (u : Nat) (next : Option Nat) : RefV × Int × RSeg :=
  if (X.read (Seg.nameB u)).2 ≠ 0 then (X, (X.read (Seg.nameB u)).2, ⟨u, 0, []⟩)
  else
    let s := (X.read (Seg.nameB u)).1
    let x := rscanSeg u s.data.toList
    match next with
    | some v => if x.size ≠ s.size ∨ x.end_ ≠ v then (X, 2, x) else (X, 0, x)
    | none =>
      if x.size ≠ s.size then
        if (X.cut (Seg.nameB u) x.size).2 ≠ 0 then ((X.cut (Seg.nameB u) x.size).1, (X.cut (Seg.nameB u) x.size).2, x)
        else ((((X.cut (Seg.nameB u) x.size).1).sync (Seg.nameB u)).1, (((X.cut (Seg.nameB u) x.size).1).sync (Seg.nameB u)).2, x)
      else ((X.sync (Seg.nameB u)).1, (X.sync (Seg.nameB u)).2, x)
def ropenGo (X : RefV) (acc : List RSeg) : List Nat → RefV × Int × List RSeg
  | [] => (X, 0, acc)
  | u :: r => if (ropenOne X u r.head?).2.1 ≠ 0 then ((ropenOne X u r.head?).1, (ropenOne X u r.head?).2.1, acc) else ropenGo (ropenOne X u r.head?).1 (acc ++ [(ropenOne X u r.head?).2.2]) r
def RefV.firsts (X : RefV) : List Nat := (RefV.listed X.dir X.dir.length).1.filterMap fun s => numL (bytesOf s)
/-- The reference's Open: the disk, what errs, the segments. -/
def RefV.opened (X : RefV) : RefV × Int × List RSeg := if X.firsts = [] then ((X.started 1).1, (X.started 1).2.1, [⟨1, 0, []⟩]) else ropenGo X [] X.firsts
def NamesIn (D : DiskV) : Prop := ∀ p ∈ D.names, p.2 < D.files.length
theorem Sim.firsts {X : RefV} {D : DiskV} (h : Sim X D) : X.firsts = D.firsts := by
  unfold RefV.firsts DiskV.firsts
  rw [← h.list, List.filterMap_map]
  rfl
theorem Sim.started {X : RefV} {D : DiskV} (h : Sim X D) (u : Nat) : Sim (X.started u).1 (D.started u).1 ∧ (X.started u).2 = (D.started u).2 := by
  obtain ⟨h1, h2⟩ := h.create (Seg.nameB u)
  unfold RefV.started DiskV.started
  generalize X.create (Seg.nameB u) = c at h1 h2 ⊢
  generalize D.create (Seg.nameB u) = c' at h1 h2 ⊢
  obtain ⟨X1, e⟩ := c
  obtain ⟨D1, e'⟩ := c'
  dsimp only at h1 h2 ⊢
  subst h2
  split
  · have := h1.syncDir
    exact ⟨this.1, by rw [this.2]⟩
  · exact ⟨h1, rfl⟩
theorem find_names (D : DiskV) (name : ByteArray) : (D.find name).1.names = D.names ∧ (D.find name).1.files = D.files := by
  unfold DiskV.find
  have := Sim.begin_files D
  split
  · exact ⟨rfl, rfl⟩
  · split
    · exact ⟨this.2.1, this.1⟩
    · exact ⟨this.2.1, this.1⟩
theorem cut_same (D : DiskV) (name : ByteArray) (n : Int) : (D.cut name n).1.names = D.names ∧ (D.cut name n).1.files.length = D.files.length := by
  have h := find_names D name
  unfold DiskV.cut
  generalize D.find name = c at h ⊢
  obtain ⟨D1, i, e⟩ := c
  dsimp only at h
  cases i with
  | none => exact ⟨h.1, by rw [← h.2]⟩
  | some i =>
    dsimp only
    split
    · exact ⟨h.1, by rw [← h.2]⟩
    · split
      · exact ⟨h.1, by rw [← h.2]⟩
      · exact ⟨h.1, by rw [← h.2]; exact List.length_set⟩
theorem sync_same (D : DiskV) (name : ByteArray) : (D.sync name).1.names = D.names ∧ (D.sync name).1.files.length = D.files.length := by
  have h := find_names D name
  unfold DiskV.sync
  generalize D.find name = c at h ⊢
  obtain ⟨D1, i, e⟩ := c
  dsimp only at h
  cases i with
  | none => exact ⟨h.1, by rw [← h.2]⟩
  | some i =>
    have hf := Sim.fails_files D1
    dsimp only
    split
    · exact ⟨hf.2.trans h.1, by rw [hf.1, h.2]⟩
    · split
      · exact ⟨h.1, by rw [← h.2]⟩
      · exact ⟨hf.2.trans h.1, by show (D1.fails.1.files.set _ _).length = _; rw [List.length_set, hf.1, h.2]⟩
theorem NamesIn.of {D D' : DiskV} (h : NamesIn D) (h1 : D'.names = D.names) (h2 : D'.files.length = D.files.length) : NamesIn D' := by
  intro p hp; rw [h1] at hp; rw [h2]; exact h p hp
theorem open_one {X : RefV} {D : DiskV} (h : Sim X D) (hw : NamesIn D) (u : Nat) (next : Option Nat) :
    Sim (ropenOne X u next).1 (openOne D u next).1 ∧ (ropenOne X u next).2.1 = (openOne D u next).2.1 ∧ (ropenOne X u next).2.2.seg = (openOne D u next).2.2 ∧ NamesIn (openOne D u next).1 := by
  unfold ropenOne openOne
  rw [h.read hw]
  split
  · exact ⟨h, rfl, rfl, hw⟩
  · dsimp only
    have hsz := (scanSeg_le u (D.read (Seg.nameB u)).1).2
    obtain ⟨t, ht⟩ : ∃ t, t = (D.read (Seg.nameB u)).1 := ⟨_, rfl⟩
    rw [← ht] at hsz ⊢
    have e1 : (rscanSeg u t.data.toList).size = (scanSeg u t.data.toList).size := by rw [← rscan_seg]; rfl
    have e2 : (rscanSeg u t.data.toList).end_ = (scanSeg u t.data.toList).end_ := by rw [← rscan_seg]; rfl
    rw [e1, e2]
    cases next with
    | some v =>
      dsimp only
      by_cases hc : (scanSeg u t.data.toList).size < t.size ∨ (scanSeg u t.data.toList).end_ ≠ v
      · rw [if_pos hc, if_pos (hc.imp (fun h => by omega) id)]; exact ⟨h, rfl, rscan_seg _ _, hw⟩
      · rw [if_neg hc, if_neg (fun hn => hc (hn.imp (fun h => by omega) id))]; exact ⟨h, rfl, rscan_seg _ _, hw⟩
    | none =>
      dsimp only
      obtain ⟨c1, c2⟩ := h.cut hw (Seg.nameB u) (scanSeg u t.data.toList).size
      have c3 := hw.of (cut_same D (Seg.nameB u) (scanSeg u t.data.toList).size).1 (cut_same D (Seg.nameB u) (scanSeg u t.data.toList).size).2
      obtain ⟨s1, s2⟩ := h.sync hw (Seg.nameB u)
      have s3 := hw.of (sync_same D (Seg.nameB u)).1 (sync_same D (Seg.nameB u)).2
      by_cases hc : (scanSeg u t.data.toList).size < t.size
      · rw [if_pos hc, if_pos (show ¬ _ = _ by omega), c2]
        split
        · exact ⟨c1, rfl, rscan_seg _ _, c3⟩
        · obtain ⟨d1, d2⟩ := c1.sync c3 (Seg.nameB u)
          exact ⟨d1, d2, rscan_seg _ _, c3.of (sync_same _ _).1 (sync_same _ _).2⟩
      · rw [if_neg hc, if_neg (show ¬ ¬ _ = _ by omega)]
        exact ⟨s1, s2, rscan_seg _ _, s3⟩
theorem open_go (l : List Nat) : ∀ (X : RefV) (D : DiskV) (acc : List RSeg), Sim X D → NamesIn D → Sim (ropenGo X acc l).1 (openGo D (acc.map RSeg.seg) l).1 ∧ (ropenGo X acc l).2.1 = (openGo D (acc.map RSeg.seg) l).2.1 ∧ (ropenGo X acc l).2.2.map RSeg.seg = (openGo D (acc.map RSeg.seg) l).2.2 := by
  induction l with
  | nil => intro X D acc h _; exact ⟨h, rfl, rfl⟩
  | cons u r ih =>
    intro X D acc h hw
    obtain ⟨h1, h2, h3, h4⟩ := open_one h hw u r.head?
    rw [ropenGo, openGo, h2]
    split
    · exact ⟨h1, rfl, rfl⟩
    · have := ih (ropenOne X u r.head?).1 (openOne D u r.head?).1 (acc ++ [(ropenOne X u r.head?).2.2]) h1 h4
      rw [List.map_append, List.map_singleton, h3] at this
      exact this
theorem Sim.opened {X : RefV} {D : DiskV} (h : Sim X D) (hw : NamesIn D) : Sim X.opened.1 D.opened.1 ∧ X.opened.2.1 = D.opened.2.1 ∧ X.opened.2.2.map RSeg.seg = D.opened.2.2 := by
  unfold RefV.opened DiskV.opened
  rw [h.firsts]
  split
  · have := h.started 1
    exact ⟨this.1, by rw [this.2], rfl⟩
  · exact open_go _ X D [] h hw
end Go.Proofs.YtnppdcegpojmbaaGreatDoor
namespace Go.Proofs.YtnppdcegpojmbaaGreatDoor
open Go Go.RowKit
def NamesApart (D : DiskV) : Prop := D.names.Pairwise fun p q => p.2 ≠ q.2
/-- A disk's file of a name has these bytes. -/
def Has (D : DiskV) (u : Nat) (t : List UInt8) : Prop := ∃ i f, D.names.get (Seg.nameL u) = some i ∧ D.files[i]? = some f ∧ f.now.data.toList = t
structure Twin (X : RefV) (D : DiskV) (L : LogV) (rs : List RSeg) (synced : Nat) : Prop where
  sim : Sim X D
  inn : NamesIn D
  apart : NamesApart D
  segs : L.segs = rs.map RSeg.seg
  sizes : ∀ s ∈ rs, s.size = s.grp.txt.length
  small : ∀ s ∈ rs, ∀ b ∈ s.grp.bodies, b.length ≤ 2000
  chain : ∃ f0 t, Chain f0 (rs.map RSeg.grp) t ∧ t ≤ 2000000000000
  dur : ∃ pre a, rs = pre ++ [a] ∧ synced ≤ a.bodies.length ∧ L.durable = (⟨a.first, a.grp.bodies.take synced⟩ : Grp).seg
  files : ∀ s ∈ rs, Has D s.first s.grp.txt
  few : rs.length ≤ D.names.length
theorem Has.read {D : DiskV} {u : Nat} {t : List UInt8} (h : Has D u t) (hl : D.left ≠ 0) : D.read (Seg.nameB u) = (⟨t.toArray⟩, 0) := by
  obtain ⟨i, f, h1, h2, h3⟩ := h
  unfold DiskV.read
  rw [if_neg hl, Seg.bytesOf_nameB, h1]
  dsimp only
  rw [h2]
  show (f.now, (0 : Int)) = _
  rw [← str_of h3]
theorem Has.of_read {D : DiskV} {u : Nat} {t : ByteArray} (hw : NamesIn D) (h : D.read (Seg.nameB u) = (t, 0)) : Has D u t.data.toList := by
  unfold DiskV.read at h
  split at h
  · cases h
  · rw [Seg.bytesOf_nameB] at h
    split at h
    · cases h
    · rename_i i hi
      have hlt := hw _ (NMap.get_mem hi)
      have hf : D.files[i]? = some D.files[i] := List.getElem?_eq_getElem hlt
      rw [hf] at h
      cases h
      exact ⟨i, _, hi, hf, rfl⟩
theorem apart_ne {D : DiskV} (ha : NamesApart D) {u v i j : Nat} (hu : D.names.get (Seg.nameL u) = some i) (hv : D.names.get (Seg.nameL v) = some j) (hne : u ≠ v) : i ≠ j := by
  intro e
  subst e
  have h1 := NMap.get_mem hu
  have h2 := NMap.get_mem hv
  have : ∀ l : NMap, l.Pairwise (fun p q => p.2 ≠ q.2) → (Seg.nameL u, i) ∈ l → (Seg.nameL v, i) ∈ l → Seg.nameL u = Seg.nameL v := by
    intro l
    induction l with
    | nil => intro _ h; cases h
    | cons x r ih =>
      intro hp m1 m2
      rw [List.pairwise_cons] at hp
      rcases List.mem_cons.1 m1 with e1 | m1
      · rcases List.mem_cons.1 m2 with e2 | m2
        · rw [← e2] at e1; exact (Prod.mk.injEq _ _ _ _ ▸ e1).1
        · exact absurd (by rw [← e1]) (hp.1 _ m2)
      · rcases List.mem_cons.1 m2 with e2 | m2
        · exact absurd (by rw [← e2]) (hp.1 _ m1)
        · exact ih hp.2 m1 m2
  exact hne (Seg.nameL_inj (this _ ha h1 h2))
/-- A file's turn leaves the others. -/
theorem Has.set {D D' : DiskV} {u v i : Nat} {t : List UInt8} {f : FileV} (h : Has D u t) (ha : NamesApart D) (hn : D'.names = D.names) (hf : D'.files = D.files.set i f) (hv : D.names.get (Seg.nameL v) = some i) (hne : u ≠ v) : Has D' u t := by
  obtain ⟨j, g, h1, h2, h3⟩ := h
  refine ⟨j, g, by rw [hn]; exact h1, ?_, h3⟩
  rw [hf, List.getElem?_set_ne (fun e => apart_ne ha h1 hv hne e.symm)]
  exact h2
theorem Has.put {D D' : DiskV} {v i : Nat} {f : FileV} (hn : D'.names = D.names) (hf : D'.files = D.files.set i f) (hv : D.names.get (Seg.nameL v) = some i) (hi : i < D.files.length) : Has D' v f.now.data.toList :=
  ⟨i, f, by rw [hn]; exact hv, by rw [hf]; exact List.getElem?_set_self hi, rfl⟩
theorem Has.same {D D' : DiskV} {u : Nat} {t : List UInt8} (h : Has D u t) (hn : D'.names = D.names) (hf : D'.files = D.files) : Has D' u t := by
  obtain ⟨j, g, h1, h2, h3⟩ := h
  exact ⟨j, g, by rw [hn]; exact h1, by rw [hf]; exact h2, h3⟩
/-- What an operation on a segment's file does when it does not err. -/
theorem find_ok {D : DiskV} {u i : Nat} (hl : D.left ≠ 0) (hi : D.names.get (Seg.nameL u) = some i) : D.find (Seg.nameB u) = (D.begin.1, some i, 0) := by
  unfold DiskV.find
  rw [if_neg hl, Seg.bytesOf_nameB, hi]
theorem sync_form (D : DiskV) (u : Nat) {t : List UInt8} (h : Has D u t) : (∃ i f, D.names.get (Seg.nameL u) = some i ∧ D.files[i]? = some f ∧ f.now.data.toList = t ∧ (D.sync (Seg.nameB u)).2 = 0 ∧ (D.sync (Seg.nameB u)).1.names = D.names ∧ (D.sync (Seg.nameB u)).1.files = D.files.set i ⟨f.now, f.now, []⟩) ∨
    ((D.sync (Seg.nameB u)).2 ≠ 0 ∧ (D.sync (Seg.nameB u)).1.names = D.names ∧ (D.sync (Seg.nameB u)).1.files = D.files) := by
  obtain ⟨i, f, h1, h2, h3⟩ := h
  have hb := Sim.begin_files D
  have hf := Sim.fails_files D.begin.1
  unfold DiskV.sync
  by_cases hl : D.left = 0
  · right
    unfold DiskV.find
    rw [if_pos hl]
    exact ⟨show (11 : Int) ≠ 0 by decide, rfl, rfl⟩
  · rw [find_ok hl h1]
    dsimp only
    split
    · right
      exact ⟨show (10 : Int) ≠ 0 by decide, hf.2.trans hb.2.1, hf.1.trans hb.1⟩
    · left
      rw [hb.1, h2]
      exact ⟨i, f, h1, h2, h3, rfl, hf.2.trans hb.2.1, by show D.begin.1.fails.1.files.set i _ = _; rw [hf.1, hb.1]⟩
theorem cut_form (D : DiskV) (u n : Nat) {t : List UInt8} (h : Has D u t) (hn : n ≤ t.length) : (∃ i f, D.names.get (Seg.nameL u) = some i ∧ i < D.files.length ∧ f.now.data.toList = t.take n ∧ (D.cut (Seg.nameB u) n).2 = 0 ∧ (D.cut (Seg.nameB u) n).1.names = D.names ∧ (D.cut (Seg.nameB u) n).1.files = D.files.set i f) ∨
    ((D.cut (Seg.nameB u) n).2 ≠ 0 ∧ (D.cut (Seg.nameB u) n).1.names = D.names ∧ (D.cut (Seg.nameB u) n).1.files = D.files) := by
  obtain ⟨i, f, h1, h2, h3⟩ := h
  have hb := Sim.begin_files D
  unfold DiskV.cut
  by_cases hl : D.left = 0
  · right
    unfold DiskV.find
    rw [if_pos hl]
    exact ⟨show (11 : Int) ≠ 0 by decide, rfl, rfl⟩
  · rw [find_ok hl h1]
    dsimp only
    rw [hb.1, h2]
    have hsz : f.now.size = t.length := by rw [← h3]; simp
    dsimp only
    left
    rw [if_neg (by omega)]
    refine ⟨i, _, h1, (List.getElem?_eq_some_iff.1 h2).1, ?_, rfl, hb.2.1, by show D.begin.1.files.set i _ = _; rw [hb.1]⟩
    show (f.now.extract 0 (n : Int).toNat).data.toList = _
    rw [Int.toNat_natCast, ← h3]
    simp
theorem same_apart {D D' : DiskV} (h : NamesApart D) (hn : D'.names = D.names) : NamesApart D' := by unfold NamesApart; rw [hn]; exact h
theorem one_forms {X : RefV} {D : DiskV} (h : Sim X D) (hw : NamesIn D) (u : Nat) {t : ByteArray} (ht : D.read (Seg.nameB u) = (t, 0)) :
    (∀ v, openOne D u (some v) = if (scanSeg u t.data.toList).size < t.size ∨ (scanSeg u t.data.toList).end_ ≠ v then (D, 2, scanSeg u t.data.toList) else (D, 0, scanSeg u t.data.toList)) ∧
    (∀ v, ropenOne X u (some v) = if (scanSeg u t.data.toList).size < t.size ∨ (scanSeg u t.data.toList).end_ ≠ v then (X, 2, rscanSeg u t.data.toList) else (X, 0, rscanSeg u t.data.toList)) ∧
    (openOne D u none = if (scanSeg u t.data.toList).size < t.size then
        if (D.cut (Seg.nameB u) (scanSeg u t.data.toList).size).2 ≠ 0 then ((D.cut (Seg.nameB u) (scanSeg u t.data.toList).size).1, (D.cut (Seg.nameB u) (scanSeg u t.data.toList).size).2, scanSeg u t.data.toList)
        else ((((D.cut (Seg.nameB u) (scanSeg u t.data.toList).size).1).sync (Seg.nameB u)).1, (((D.cut (Seg.nameB u) (scanSeg u t.data.toList).size).1).sync (Seg.nameB u)).2, scanSeg u t.data.toList)
      else ((D.sync (Seg.nameB u)).1, (D.sync (Seg.nameB u)).2, scanSeg u t.data.toList)) ∧
    (ropenOne X u none = if (scanSeg u t.data.toList).size < t.size then
        if (D.cut (Seg.nameB u) (scanSeg u t.data.toList).size).2 ≠ 0 then ((X.cut (Seg.nameB u) (scanSeg u t.data.toList).size).1, (D.cut (Seg.nameB u) (scanSeg u t.data.toList).size).2, rscanSeg u t.data.toList)
        else ((((X.cut (Seg.nameB u) (scanSeg u t.data.toList).size).1).sync (Seg.nameB u)).1, (((X.cut (Seg.nameB u) (scanSeg u t.data.toList).size).1).sync (Seg.nameB u)).2, rscanSeg u t.data.toList)
      else ((X.sync (Seg.nameB u)).1, (X.sync (Seg.nameB u)).2, rscanSeg u t.data.toList)) := by
  have hsz := (scanSeg_le u t).2
  have e1 : (rscanSeg u t.data.toList).size = (scanSeg u t.data.toList).size := by rw [← rscan_seg]; rfl
  have e2 : (rscanSeg u t.data.toList).end_ = (scanSeg u t.data.toList).end_ := by rw [← rscan_seg]; rfl
  have hx := h.read hw (Seg.nameB u)
  refine ⟨fun v => ?_, fun v => ?_, ?_, ?_⟩
  · unfold openOne
    rw [ht, if_neg (fun hn => hn rfl)]
  · unfold ropenOne
    rw [hx, ht, if_neg (fun hn => hn rfl)]
    dsimp only
    rw [e1, e2]
    by_cases hc : (scanSeg u t.data.toList).size < t.size ∨ (scanSeg u t.data.toList).end_ ≠ v
    · rw [if_pos hc, if_pos (hc.imp (fun h => by omega) id)]
    · rw [if_neg hc, if_neg (fun hn => hc (hn.imp (fun h => by omega) id))]
  · unfold openOne
    rw [ht, if_neg (fun hn => hn rfl)]
  · unfold ropenOne
    rw [hx, ht, if_neg (fun hn => hn rfl)]
    dsimp only
    rw [e1, (h.cut hw (Seg.nameB u) (scanSeg u t.data.toList).size).2]
    by_cases hc : (scanSeg u t.data.toList).size < t.size
    · rw [if_pos hc, if_pos (Nat.ne_of_lt hc)]
    · rw [if_neg hc, if_neg (fun hn => hn (by omega))]
/-- What one segment that was opened leaves. -/
theorem open_one_has {D : DiskV} (hw : NamesIn D) (ha : NamesApart D) (X : RefV) (h : Sim X D) (u : Nat) (next : Option Nat) (h0 : (ropenOne X u next).2.1 = 0) :
    (openOne D u next).1.names = D.names ∧ Has (openOne D u next).1 u (ropenOne X u next).2.2.grp.txt ∧ (∀ v t, v ≠ u → Has D v t → Has (openOne D u next).1 v t) ∧ (∃ t, (ropenOne X u next).2.2 = rscanSeg u t) ∧ (∀ v, next = some v → (ropenOne X u next).2.2.end_ = v ∧ (openOne D u next).1 = D) := by
  obtain ⟨_, he, _, _⟩ := open_one h hw u next
  rw [h0] at he
  have hr0 : (D.read (Seg.nameB u)).2 = 0 := by
    refine Decidable.byContradiction fun hr => ?_
    unfold ropenOne at h0
    rw [h.read hw, if_pos hr] at h0
    exact hr h0
  obtain ⟨t, ht⟩ : ∃ t, D.read (Seg.nameB u) = (t, 0) := ⟨_, Prod.ext rfl hr0⟩
  have hhas : Has D u t.data.toList := Has.of_read hw ht
  obtain ⟨f1, f2, f3, f4⟩ := one_forms h hw u ht
  obtain ⟨g1, g2, g3, g4⟩ := fit_front t.data.toList u
  have hsz := (scanSeg_le u t).2
  have htl : t.data.toList.length = t.size := by simp
  have e2 : (rscanSeg u t.data.toList).end_ = (scanSeg u t.data.toList).end_ := by rw [← rscan_seg]; rfl
  have e3 : (scanSeg u t.data.toList).size = Frame.sizes (fitL u (Frame.scanL t.data.toList)) := rfl
  have etx : (rscanSeg u t.data.toList).grp.txt = t.data.toList.take (scanSeg u t.data.toList).size := by rw [rscan_grp, e3, g1]; rfl
  obtain ⟨sx, hsx⟩ : ∃ sx, sx = scanSeg u t.data.toList := ⟨_, rfl⟩
  obtain ⟨rx, hrx⟩ : ∃ rx, rx = rscanSeg u t.data.toList := ⟨_, rfl⟩
  rw [← hsx] at f1 f2 f3 f4 hsz e2 etx
  rw [← hrx] at f2 f4 e2 etx
  clear g1 g2 g3 g4 e3
  have efull : ¬ sx.size < t.size → rx.grp.txt = t.data.toList := by
    intro hn; rw [etx]; exact List.take_of_length_le (by omega)
  cases next with
  | some v =>
    rw [f1 v] at he ⊢
    rw [f2 v] at h0 ⊢
    by_cases hc : sx.size < t.size ∨ sx.end_ ≠ v
    · rw [if_pos hc] at he; cases he
    · simp only [if_neg hc]
      refine ⟨trivial, ?_, fun v t _ h => h, ⟨_, hrx⟩, fun v' hv => ?_⟩
      · rw [efull (fun h => hc (.inl h))]; exact hhas
      · cases hv
        exact ⟨by rw [e2]; exact Decidable.not_not.1 (fun h => hc (.inr h)), trivial⟩
  | none =>
    rw [f3] at he ⊢
    rw [f4] at h0 ⊢
    by_cases hc : sx.size < t.size
    · simp only [if_pos hc] at he ⊢
      rcases cut_form D u sx.size hhas (by omega) with ⟨i, f, c1, c2, c3, c4, c5, c6⟩ | ⟨c4, c5, c6⟩
      · have c4' : ¬ (D.cut (Seg.nameB u) sx.size).2 ≠ 0 := fun h => h c4
        simp only [if_neg c4'] at he ⊢
        obtain ⟨D2, hD2⟩ : ∃ D2, D2 = (D.cut (Seg.nameB u) sx.size).1 := ⟨_, rfl⟩
        rw [← hD2] at c5 c6 he ⊢
        have h2 : Has D2 u (t.data.toList.take sx.size) := by rw [← c3]; exact Has.put c5 c6 c1 c2
        have ha2 := same_apart ha c5
        rcases sync_form D2 u h2 with ⟨j, fj, d1, d2, d3, d4, d5, d6⟩ | ⟨d4, _, _⟩
        · refine ⟨d5.trans c5, ?_, fun v tv hv hh => ?_, ⟨_, hrx⟩, fun v hv => by cases hv⟩
          · rw [etx, ← d3]; exact Has.put (f := ⟨fj.now, fj.now, []⟩) d5 d6 d1 (List.getElem?_eq_some_iff.1 d2).1
          · exact (hh.set ha c5 c6 c1 hv).set ha2 d5 d6 d1 hv
        · exact absurd he.symm d4
      · simp only [if_pos c4] at he; exact absurd he.symm c4
    · simp only [if_neg hc] at he ⊢
      rcases sync_form D u hhas with ⟨j, fj, d1, d2, d3, d4, d5, d6⟩ | ⟨d4, _, _⟩
      · refine ⟨d5, ?_, fun v tv hv hh => hh.set ha d5 d6 d1 hv, ⟨_, hrx⟩, fun v hv => by cases hv⟩
        rw [efull hc, ← d3]; exact Has.put (f := ⟨fj.now, fj.now, []⟩) d5 d6 d1 (List.getElem?_eq_some_iff.1 d2).1
      · exact absurd he.symm d4
theorem done_mem {m : NMap} {mv : Move} {k : Bytes} {v : Nat} : (k, v) ∈ DiskV.done mv m ↔ if mv.dst.size = 0 then ((k, v) ∈ m ∧ k ≠ bytesOf mv.src) else ((k = bytesOf mv.dst ∧ v = mv.file) ∨ ((k, v) ∈ m ∧ k ≠ bytesOf mv.src ∧ k ≠ bytesOf mv.dst)) := by
  unfold DiskV.done
  split
  · unfold NMap.del; rw [List.mem_filter]; simp
  · unfold NMap.put
    rw [(NMap.ins_perm _ _).mem_iff, List.mem_cons]
    unfold NMap.del
    rw [List.mem_filter, List.mem_filter]
    simp [and_assoc]
theorem done_apart {m : NMap} {mv : Move} (h : m.Pairwise fun p q => p.2 ≠ q.2) (hn : mv.dst.size ≠ 0 → ∀ p ∈ m, p.1 ≠ bytesOf mv.src → p.2 ≠ mv.file) : (DiskV.done mv m).Pairwise fun p q => p.2 ≠ q.2 := by
  unfold DiskV.done
  split
  · exact List.Pairwise.filter _ h
  · rename_i hd
    unfold NMap.put
    refine ((NMap.ins_perm _ _).pairwise_iff (fun h => Ne.symm h)).2 (List.pairwise_cons.2 ⟨fun p hp => ?_, List.Pairwise.filter _ (List.Pairwise.filter _ h)⟩)
    unfold NMap.del at hp
    rw [List.mem_filter, List.mem_filter] at hp
    have h1 := hp.1.2
    simp only [decide_eq_true_eq] at h1
    exact (hn hd p hp.1.1 h1).symm
theorem create_names (D : DiskV) (name : ByteArray) : ((D.create name).1.names = D.names ∧ (D.create name).1.files = D.files ∧ (D.create name).2 ≠ 0) ∨
    ((D.create name).2 = 0 ∧ D.left ≠ 0 ∧ D.names.get (bytesOf name) = none ∧ DiskV.named name = true ∧ (D.create name).1.names = DiskV.done ⟨ByteArray.empty, name, D.files.length⟩ D.names ∧ (D.create name).1.files = D.files ++ [⟨ByteArray.empty, ByteArray.empty, []⟩]) := by
  have hb := Sim.begin_files D
  unfold DiskV.create
  by_cases hl : D.left = 0
  · left
    unfold DiskV.find
    rw [if_pos hl]
    exact ⟨rfl, rfl, show (11 : Int) ≠ 0 by decide⟩
  · unfold DiskV.find
    rw [if_neg hl]
    cases hg : D.names.get (bytesOf name) with
    | some i =>
      left
      dsimp only
      rw [if_neg (by decide)]
      split
      · exact ⟨hb.2.1, hb.1, show (3 : Int) ≠ 0 by decide⟩
      · rw [if_pos rfl]; exact ⟨hb.2.1, hb.1, show (4 : Int) ≠ 0 by decide⟩
    | none =>
      dsimp only
      rw [if_neg (by decide)]
      cases hm : DiskV.named name with
      | false => left; rw [if_pos rfl]; exact ⟨hb.2.1, hb.1, show (3 : Int) ≠ 0 by decide⟩
      | true =>
        right
        rw [if_neg (by decide), if_neg (by decide)]
        refine ⟨rfl, hl, rfl, rfl, ?_, ?_⟩
        · show DiskV.done ⟨ByteArray.empty, name, D.begin.1.files.length⟩ D.begin.1.names = _
          rw [hb.1, hb.2.1]
        · show D.begin.1.files ++ _ = _
          rw [hb.1]
theorem syncDir_names (D : DiskV) : D.syncDir.1.names = D.names ∧ D.syncDir.1.files = D.files := by
  have hb := Sim.begin_files D
  unfold DiskV.syncDir
  generalize D.begin = c at hb ⊢
  obtain ⟨D1, e⟩ := c
  dsimp only at hb ⊢
  split
  · exact ⟨hb.2.1, hb.1⟩
  · exact ⟨hb.2.1, hb.1⟩
theorem named_size {name : ByteArray} (h : DiskV.named name = true) : name.size ≠ 0 := by
  intro e
  unfold DiskV.named at h
  rw [e] at h
  simp at h
/-- A file more: what there was stays, and the new one is empty. -/
theorem created {D D' : DiskV} {name : ByteArray} (hw : NamesIn D) (ha : NamesApart D) (hk' : D'.names.Pairwise fun p q => p.1 ≠ q.1) (hg : D.names.get (bytesOf name) = none) (hs : name.size ≠ 0)
    (hn : D'.names = DiskV.done ⟨ByteArray.empty, name, D.files.length⟩ D.names) (hf : D'.files = D.files ++ [⟨ByteArray.empty, ByteArray.empty, []⟩]) :
    NamesIn D' ∧ NamesApart D' ∧ (∀ u t, Has D u t → Has D' u t) ∧ (∀ u, name = Seg.nameB u → Has D' u []) := by
  have hmem : ∀ k v, (k, v) ∈ D'.names ↔ ((k = bytesOf name ∧ v = D.files.length) ∨ ((k, v) ∈ D.names ∧ k ≠ bytesOf ByteArray.empty ∧ k ≠ bytesOf name)) := by
    intro k v; rw [hn, done_mem, if_neg (show ¬ name.size = 0 from hs)]
  refine ⟨fun p hp => ?_, ?_, fun u t hh => ?_, fun u hu => ?_⟩
  · rw [hf, List.length_append, List.length_singleton]
    rcases (hmem p.1 p.2).1 hp with ⟨_, e⟩ | ⟨m, _, _⟩
    · omega
    · have := hw _ m; dsimp only at this; omega
  · unfold NamesApart
    rw [hn]
    exact done_apart ha (fun _ p hp _ e => by have h1 := hw p hp; have h2 : p.2 = D.files.length := e; omega)
  · obtain ⟨i, f, h1, h2, h3⟩ := hh
    have hm := NMap.get_mem h1
    refine ⟨i, f, NMap.get_mem' hk' ((hmem _ _).2 (.inr ⟨hm, ?_, ?_⟩)), ?_, h3⟩
    · intro e; exact absurd (congrArg List.length e) (by simp [Seg.nameL, bytesOf])
    · intro e; rw [e] at h1; rw [hg] at h1; cases h1
    · rw [hf, List.getElem?_append_left (List.getElem?_eq_some_iff.1 h2).1]; exact h2
  · refine ⟨D.files.length, ⟨ByteArray.empty, ByteArray.empty, []⟩, NMap.get_mem' hk' ((hmem _ _).2 (.inl ⟨by rw [hu, Seg.bytesOf_nameB], rfl⟩)), by rw [hf, List.getElem?_append_right (Nat.le_refl _), Nat.sub_self]; rfl, rfl⟩
theorem started_keep {X : RefV} {D : DiskV} (h : Sim X D) (hw : NamesIn D) (ha : NamesApart D) (u : Nat) :
    NamesIn (D.started u).1 ∧ NamesApart (D.started u).1 ∧ (∀ v t, Has D v t → Has (D.started u).1 v t) ∧ ((D.started u).2.2 = true → Has (D.started u).1 u [] ∧ D.names.get (Seg.nameL u) = none) := by
  have hs := (h.create (Seg.nameB u)).1
  have hk' := hs.dir.mapart
  have hc := create_names D (Seg.nameB u)
  unfold DiskV.started
  generalize D.create (Seg.nameB u) = c at hc hk' ⊢
  obtain ⟨D1, e⟩ := c
  dsimp only at hc hk' ⊢
  have hd := syncDir_names D1
  rcases hc with ⟨c1, c2, c3⟩ | ⟨c1, _, c3, c4, c5, c6⟩
  · rw [if_neg c3]
    exact ⟨hw.of c1 (by rw [c2]), same_apart ha c1, fun v t hh => hh.same c1 c2, fun h => by cases h⟩
  · rw [if_pos c1]
    obtain ⟨g1, g2, g3, g4⟩ := created hw ha hk' c3 (named_size c4) c5 c6
    exact ⟨g1.of hd.1 (by rw [hd.2]), same_apart g2 hd.1, fun v t hh => (g3 v t hh).same hd.1 hd.2, fun _ => ⟨(g4 u rfl).same hd.1 hd.2, by rw [← Seg.bytesOf_nameB]; exact c3⟩⟩
theorem open_go_has (M : Nat) (l : List Nat) : ∀ (X : RefV) (D : DiskV) (acc : List RSeg), Sim X D → NamesIn D → NamesApart D → (∀ name, (D.read name).1.size ≤ M) → (∀ s ∈ acc, Has D s.first s.grp.txt ∧ s.first ∉ l) → l.Pairwise (· ≠ ·) → (ropenGo X acc l).2.1 = 0 →
    (∀ s ∈ (ropenGo X acc l).2.2, Has (openGo D (acc.map RSeg.seg) l).1 s.first s.grp.txt) ∧ (openGo D (acc.map RSeg.seg) l).1.names = D.names ∧ (openGo D (acc.map RSeg.seg) l).1.files.length = D.files.length ∧
    ∃ new, (ropenGo X acc l).2.2 = acc ++ new ∧ new.map (·.first) = l ∧ (∀ s ∈ new, ∃ t, s = rscanSeg s.first t ∧ s.bodies.length ≤ M) ∧ ∀ u, l.head? = some u → ∃ t, Chain u (new.map RSeg.grp) t := by
  induction l with
  | nil => intro X D acc h hw ha _ hacc _ _; exact ⟨fun s hs => (hacc s hs).1, rfl, rfl, [], by rw [List.append_nil]; rfl, rfl, fun s hs => absurd hs (by simp), fun u hu => by cases hu⟩
  | cons u r ih =>
    intro X D acc h hw ha hM hacc hp h0
    obtain ⟨o1, o2, o3, o4⟩ := open_one h hw u r.head?
    have hbod : ∀ t, (ropenOne X u r.head?).2.2 = rscanSeg u t → (ropenOne X u r.head?).2.2.bodies.length ≤ M := by
      intro _ _
      have e : (ropenOne X u r.head?).2.2.bodies.length = (openOne D u r.head?).2.2.many := by rw [← o3]; rfl
      rw [e]
      unfold openOne
      have hsl := (scanSeg_le u (D.read (Seg.nameB u)).1).1
      have := hM (Seg.nameB u)
      have hle : (scanSeg u (D.read (Seg.nameB u)).1.data.toList).many ≤ M := by omega
      split
      · exact Nat.zero_le _
      · dsimp only
        split
        · split <;> exact hle
        · split
          · split <;> exact hle
          · exact hle
    rw [ropenGo] at h0 ⊢
    rw [openGo]
    by_cases he : (ropenOne X u r.head?).2.1 ≠ 0
    · rw [if_pos he] at h0; exact absurd h0 he
    rw [if_neg he] at h0 ⊢
    rw [← o2, if_neg he]
    obtain ⟨q1, q2, q3, ⟨t, q4⟩, q5⟩ := open_one_has hw ha X h u r.head? (Decidable.not_not.1 he)
    rw [List.pairwise_cons] at hp
    have hsf : (ropenOne X u r.head?).2.2.first = u := by rw [q4]; rfl
    have hM' : ∀ name, ((openOne D u r.head?).1.read name).1.size ≤ M ∨ r = [] := by
      intro name
      cases r with
      | nil => exact .inr rfl
      | cons v r' => left; rw [(q5 v rfl).2]; exact hM name
    obtain ⟨s, hse⟩ : ∃ s, s = (ropenOne X u r.head?).2.2 := ⟨_, rfl⟩
    rw [← hse] at q2 q4 q5 hsf hbod h0 ⊢
    rw [← o3, ← hse]
    have hacc2 : ∀ x ∈ acc ++ [s], Has (openOne D u r.head?).1 x.first x.grp.txt ∧ x.first ∉ r := by
      intro x hx
      rcases List.mem_append.1 hx with hm | hm
      · have := hacc x hm
        exact ⟨q3 _ _ (fun e => this.2 (by rw [e]; exact List.mem_cons_self)) this.1, fun hr => this.2 (List.mem_cons_of_mem _ hr)⟩
      · rw [List.mem_singleton.1 hm]
        exact ⟨by rw [hsf]; exact q2, fun hr => hp.1 _ hr hsf.symm⟩
    have hmap : acc.map RSeg.seg ++ [s.seg] = (acc ++ [s]).map RSeg.seg := by rw [List.map_append]; rfl
    rw [hmap]
    cases r with
    | nil =>
      refine ⟨fun x hx => (hacc2 x hx).1, q1, ?_, [s], rfl, by rw [List.map_singleton, hsf], fun x hx => ?_, fun v hv => ?_⟩
      · show (openOne D u none).1.files.length = _
        have hcs := cut_same D (Seg.nameB u) (scanSeg u (D.read (Seg.nameB u)).1.data.toList).size
        unfold openOne
        split
        · rfl
        · dsimp only
          split
          · split
            · exact hcs.2
            · exact (sync_same _ _).2.trans hcs.2
          · exact (sync_same _ _).2
      · rw [List.mem_singleton.1 hx]; exact ⟨t, by rw [hsf]; exact q4, hbod t q4⟩
      · cases hv
        exact ⟨s.grp.end_, hsf, rfl⟩
    | cons v r' =>
      have hD := (q5 v rfl).2
      obtain ⟨i1, i2, i3, new, i4, i5, i6, i7⟩ := ih (ropenOne X u (v :: r').head?).1 (openOne D u (v :: r').head?).1 (acc ++ [s]) o1 o4 (same_apart ha q1) (fun name => (hM' name).resolve_right (by simp)) hacc2 hp.2 h0
      refine ⟨i1, i2.trans q1, ?_, s :: new, ?_, ?_, fun x hx => ?_, fun w hw => ?_⟩
      · rw [i3, hD]
      · rw [i4, List.append_assoc]; rfl
      · rw [List.map_cons, i5, hsf]
      · rcases List.mem_cons.1 hx with rfl | hx
        · exact ⟨t, by rw [hsf]; exact q4, hbod t q4⟩
        · exact i6 x hx
      · cases hw
        obtain ⟨t2, ht2⟩ := i7 v rfl
        refine ⟨t2, hsf, ?_⟩
        rw [RSeg.grp_end, (q5 v rfl).1]
        exact ht2
end Go.Proofs.YtnppdcegpojmbaaGreatDoor
namespace Go.Proofs.YtnppdcegpojmbaaGreatDoor
open Go Go.RowKit
theorem numL_inj {a b : Bytes} {u : Nat} (ha : NameOk a) (hb : NameOk b) (h1 : numL a = some u) (h2 : numL b = some u) : a = b := by
  rcases ha with ⟨x, hx, rfl⟩ | ⟨hx, _⟩
  · rcases hb with ⟨y, hy, rfl⟩ | ⟨hy, _⟩
    · rw [numL_name hx] at h1
      rw [numL_name hy] at h2
      cases h1; cases h2; rfl
    · unfold numL at h2; rw [if_neg hy] at h2; cases h2
  · unfold numL at h1; rw [if_neg hx] at h1; cases h1
theorem filterMap_apart {α β : Type} {f : α → Option β} {P : α → Prop} (hinj : ∀ a b u, P a → P b → f a = some u → f b = some u → a = b) : ∀ l : List α, (∀ a ∈ l, P a) → l.Pairwise (· ≠ ·) → (l.filterMap f).Pairwise (· ≠ ·) := by
  intro l
  induction l with
  | nil => intro _ _; exact List.Pairwise.nil
  | cons x r ih =>
    intro hP hp
    rw [List.pairwise_cons] at hp
    have hr := ih (fun a ha => hP a (List.mem_cons_of_mem _ ha)) hp.2
    cases hx : f x with
    | none => rw [List.filterMap_cons_none hx]; exact hr
    | some u =>
      rw [List.filterMap_cons_some hx]
      refine List.pairwise_cons.2 ⟨fun v hv e => ?_, hr⟩
      subst e
      obtain ⟨y, hy, hfy⟩ := List.mem_filterMap.1 hv
      exact hp.1 y hy (hinj x y u (hP x List.mem_cons_self) (hP y (List.mem_cons_of_mem _ hy)) hx hfy)
theorem firsts_apart {D : DiskV} (hk : D.names.Pairwise fun p q => p.1 ≠ q.1) (hn : ∀ s ∈ D.list, NameOk s) : D.firsts.Pairwise (· ≠ ·) := by
  refine filterMap_apart (P := NameOk) (fun a b u => numL_inj) D.list hn ?_
  unfold DiskV.list
  refine ((List.mergeSort_perm _ _).pairwise_iff (fun h => Ne.symm h)).2 ?_
  rw [List.pairwise_map]
  exact hk
theorem sizes_of {s : RSeg} (h : ∃ t, s = rscanSeg s.first t) : s.size = s.grp.txt.length ∧ ∀ b ∈ s.grp.bodies, b.length ≤ 2000 := by
  obtain ⟨t, ht⟩ := h
  rw [ht]
  refine ⟨rscan_size _ _, ?_⟩
  rw [rscan_grp]
  exact (fit_front t s.first).2.2.1
theorem Twin.of_open {X : RefV} {D : DiskV} {N : Nat} (h : Sim X D) (hw : NamesIn D) (ha : NamesApart D) (hl : Lim N D) (hub : ∀ u ∈ D.firsts, u ≤ 1000000000000) (hn : ∀ s ∈ D.list, NameOk s) (h0 : X.opened.2.1 = 0)
    {xs : List SegV} {a : SegV} (hx : D.opened.2.2 = xs ++ [a]) : ∃ pre y, X.opened.2.2 = pre ++ [y] ∧ Twin X.opened.1 D.opened.1 ⟨xs, a, a⟩ (pre ++ [y]) y.bodies.length := by
  obtain ⟨s1, s2, s3⟩ := h.opened hw
  have hne : X.opened.2.2 ≠ [] := by
    intro e
    rw [e, hx] at s3
    exact absurd s3 (by simp)
  obtain ⟨pre, y, hpy⟩ : ∃ pre y, X.opened.2.2 = pre ++ [y] := ⟨_, _, (List.dropLast_concat_getLast hne).symm⟩
  refine ⟨pre, y, hpy, ?_⟩
  rw [hpy, hx, List.map_append, List.map_singleton] at s3
  obtain ⟨e1, e2⟩ := List.append_inj' s3 rfl
  have e2 : y.seg = a := List.head_eq_of_cons_eq e2
  have hsegs : (⟨xs, a, a⟩ : LogV).segs = (pre ++ [y]).map RSeg.seg := by
    unfold LogV.segs
    rw [List.map_append, List.map_singleton, e1, e2]
  have hdur : ∀ (_ : y.size = y.grp.txt.length), ∃ pre' a', pre ++ [y] = pre' ++ [a'] ∧ y.bodies.length ≤ a'.bodies.length ∧ a = (⟨a'.first, a'.grp.bodies.take y.bodies.length⟩ : Grp).seg := by
    intro hy
    refine ⟨pre, y, rfl, Nat.le_refl _, ?_⟩
    have hbl : y.grp.bodies.take y.bodies.length = y.grp.bodies := List.take_of_length_le (by unfold RSeg.grp; rw [List.length_map]; exact Nat.le_refl _)
    rw [hbl, ← e2]
    unfold RSeg.seg Grp.seg
    rw [hy]
    unfold RSeg.grp
    rw [List.length_map]
  clear hne s2
  by_cases hf : D.firsts = []
  · have eX : X.opened = ((X.started 1).1, (X.started 1).2.1, [⟨1, 0, []⟩]) := by unfold RefV.opened; rw [h.firsts, if_pos hf]
    have eD : D.opened = ((D.started 1).1, (D.started 1).2.1, [⟨1, 0, 0⟩]) := by unfold DiskV.opened; rw [if_pos hf]
    rw [eX] at h0 hpy s1 ⊢
    rw [eD] at s1 ⊢
    have hpre : pre = [] ∧ y = ⟨1, 0, []⟩ := by
      have h1 : ([] : List RSeg) ++ [⟨1, 0, []⟩] = pre ++ [y] := hpy
      obtain ⟨p1, p2⟩ := List.append_inj' h1 rfl
      exact ⟨p1.symm, (List.head_eq_of_cons_eq p2).symm⟩
    obtain ⟨rfl, rfl⟩ := hpre
    obtain ⟨k1, k2, k3, k4⟩ := started_keep h hw ha 1
    have hst : (D.started 1).2.2 = true := by
      have hd := (h.started 1).2
      have h0' : (X.started 1).2.1 = 0 := h0
      rw [hd] at h0'
      unfold DiskV.started at h0' ⊢
      generalize D.create (Seg.nameB 1) = c at h0' ⊢
      obtain ⟨D1, e⟩ := c
      dsimp only at h0' ⊢
      split
      · rfl
      · rename_i hc; rw [if_neg hc] at h0'; exact absurd h0' hc
    exact ⟨s1, k1, k2, hsegs, fun s hs => by rw [List.mem_singleton.1 hs]; rfl, fun s hs b hb => by rw [List.mem_singleton.1 hs] at hb; exact absurd hb (by simp [RSeg.grp]), ⟨1, 1, ⟨rfl, rfl⟩, by decide⟩, hdur rfl, fun s hs => by rw [List.mem_singleton.1 hs]; exact (k4 hst).1, by
      obtain ⟨i, f, h1, _⟩ := (k4 hst).1
      have := List.length_pos_of_mem (NMap.get_mem h1)
      exact this⟩
  · have eX : X.opened = ropenGo X [] D.firsts := by unfold RefV.opened; rw [h.firsts, if_neg hf]
    have eD : D.opened = openGo D [] D.firsts := by unfold DiskV.opened; rw [if_neg hf]
    rw [eX] at h0 hpy s1 ⊢
    rw [eD] at s1 ⊢
    obtain ⟨g1, g2, g3, new, g4, g5, g6, g7⟩ := open_go_has (N * 3000) D.firsts X D [] h hw ha (fun name => read_size hl name) (fun s hs => absurd hs (by simp)) (firsts_apart h.dir.mapart hn) h0
    rw [List.nil_append] at g4
    rw [g4] at hpy g1
    rw [hpy] at g1 g5 g6 g7
    have hso : ∀ s ∈ pre ++ [y], s.size = s.grp.txt.length ∧ ∀ b ∈ s.grp.bodies, b.length ≤ 2000 := fun s hs => sizes_of ⟨_, (g6 s hs).choose_spec.1⟩
    have hN := hl.le
    have hfew : (pre ++ [y]).length ≤ (openGo D [] D.firsts).1.names.length := by
      have e : (pre ++ [y]).length = D.firsts.length := by rw [← g5, List.length_map]
      rw [e, show (openGo D [] D.firsts).1.names = D.names from g2]
      unfold DiskV.firsts DiskV.list
      refine Nat.le_trans (List.length_filterMap_le _ _) ?_
      rw [List.length_mergeSort, List.length_map]
      exact Nat.le_refl _
    refine ⟨s1, hw.of g2 g3, same_apart ha g2, hsegs, fun s hs => (hso s hs).1, fun s hs => (hso s hs).2, ?_, hdur (hso y (by simp)).1, g1, hfew⟩
    cases hd : D.firsts with
    | nil => exact absurd hd hf
    | cons u r =>
      obtain ⟨t, ht⟩ := g7 u (by rw [hd]; rfl)
      refine ⟨u, t, ht, ?_⟩
      have hyl : y.first ∈ D.firsts := by rw [← g5]; exact List.mem_map_of_mem (by simp)
      have h1 := hub _ hyl
      have h2 := (g6 y (by simp)).choose_spec.2
      rw [List.map_append, List.map_singleton] at ht
      have h3 := ht.split.2
      rw [h3, RSeg.grp_end]
      unfold RSeg.end_
      have : N * 3000 ≤ 3000000000 := by omega
      omega
/-- What the reference's Get tells. -/
def RSeg.has (seq : Nat) (s : RSeg) : Bool := decide (s.first ≤ seq) && decide (seq < s.end_)
def rget (X : RefV) (rs : List RSeg) (seq : Nat) : ByteArray × Int :=
  match rs.find? (RSeg.has seq) with
  | none => (ByteArray.empty, 5)
  | some s => if (X.read (Seg.nameB s.first)).2 ≠ 0 then (ByteArray.empty, (X.read (Seg.nameB s.first)).2) else ((s.bodies[seq - s.first]?).getD ByteArray.empty, 0)
theorem has_seg (seq : Nat) (s : RSeg) : SegV.has seq s.seg = RSeg.has seq s := rfl
namespace Twin
variable {X : RefV} {D : DiskV} {L : LogV} {rs : List RSeg} {synced : Nat}
theorem get (h : Twin X D L rs synced) (seq : Nat) : L.get D seq = rget X rs seq := by
  unfold LogV.get rget
  rw [h.segs, List.find?_map]
  have hp : (SegV.has seq ∘ RSeg.seg) = RSeg.has seq := rfl
  rw [hp]
  cases hf : rs.find? (RSeg.has seq) with
  | none => rfl
  | some s =>
    have hs := List.mem_of_find?_eq_some hf
    have hq := List.find?_some hf
    have hsf : s.seg.first = s.first := rfl
    rw [Option.map_some]
    dsimp only
    rw [hsf, h.sim.read h.inn]
    by_cases hl : D.left = 0
    · have e : D.read (Seg.nameB s.first) = (ByteArray.empty, 11) := by unfold DiskV.read; rw [if_pos hl]
      rw [e]
      dsimp only
      rw [if_neg (by decide), if_pos (by decide)]
    · rw [(h.files s hs).read hl]
      dsimp only
      rw [if_pos rfl, if_neg (fun hn => hn rfl)]
      have hb := h.small s hs
      obtain ⟨f0, t, hc, ht⟩ := h.chain
      have hm := hc.mem (List.mem_map_of_mem hs)
      have he : s.grp.first + s.grp.bodies.length ≤ t := hm.2
      have hsc := scan_frames s.grp.bodies hb s.first (by have : s.grp.first = s.first := rfl; omega)
      unfold RSeg.has RSeg.end_ at hq
      simp only [Bool.and_eq_true, decide_eq_true_eq] at hq
      have hk : seq - s.first < s.bodies.length := by omega
      have hk2 : ((Frame.scanL (framesL s.first s.grp.bodies)).map (·.body))[seq - s.first]? = s.grp.bodies[seq - s.first]? := by rw [hsc]
      rw [List.getElem?_map] at hk2
      have hgb : s.grp.bodies[seq - s.first]? = some (bytesOf s.bodies[seq - s.first]) := by
        show (s.bodies.map bytesOf)[seq - s.first]? = _
        rw [List.getElem?_map, List.getElem?_eq_getElem hk]; rfl
      rw [hgb] at hk2
      obtain ⟨f, hf1, hf2⟩ := Option.map_eq_some_iff.1 hk2
      have hf1 : (Frame.scanL s.grp.txt.toArray.toList)[seq - s.first]? = some f := hf1
      rw [hf1, List.getElem?_eq_getElem hk]
      show ((⟨f.body.toArray⟩ : ByteArray), (0 : Int)) = _
      have : (⟨f.body.toArray⟩ : ByteArray) = s.bodies[seq - s.first] := by rw [hf2]; exact (str_of rfl).symm
      rw [this]
      rfl
theorem head (h : Twin X D L rs synced) : ∃ s r, rs = s :: r ∧ ∀ seq, seq < 18446744073709551616 → (seq + 1 = s.first ∨ (s.first = 0 ∧ seq = 18446744073709551615)) → (L.get D seq).2 = 5 := by
  obtain ⟨pre, a, hr, _, _⟩ := h.dur
  cases rs with
  | nil => exact absurd hr (by simp)
  | cons s r =>
    refine ⟨s, r, rfl, fun seq hq hs => ?_⟩
    obtain ⟨f0, t, hc, ht⟩ := h.chain
    have hf : s.first = f0 := hc.1
    have hseg : L.segs = ((s :: r).map RSeg.grp).map Grp.seg := by
      rw [h.segs, List.map_map]
      refine List.map_congr_left fun x hx => ?_
      show (⟨x.first, x.bodies.length, x.size⟩ : SegV) = ⟨x.first, (x.bodies.map bytesOf).length, x.grp.txt.length⟩
      rw [h.sizes x hx, List.length_map]
    have hn := chain_none _ f0 t seq hc (by omega)
    unfold LogV.get
    rw [hseg, hn]
theorem size_le {N : Nat} (h : Twin X D L rs synced) (hl : Lim N D) {s : RSeg} (hs : s ∈ rs) : s.size ≤ 3000000000 ∧ s.bodies.length ≤ 3000000000 ∧ s.end_ ≤ 2000000000000 := by
  obtain ⟨i, f, h1, h2, h3⟩ := h.files s hs
  have hf := (hl.each f (List.mem_of_getElem? h2)).2
  have hN := hl.le
  have e1 : f.now.size = s.grp.txt.length := by rw [← h3]; simp
  have e2 := h.sizes s hs
  have e3 : ∀ (bs : List (List UInt8)) f, bs.length ≤ (framesL f bs).length := by
    intro bs
    induction bs with
    | nil => intro f; exact Nat.zero_le _
    | cons b r ih =>
      intro f
      rw [framesL, List.length_append, List.length_cons]
      have h4 : 1 ≤ (Frame.putF f b).length := by
        unfold Frame.putF
        rw [List.length_append, List.length_append, Frame.sumL_length]; omega
      have := ih (f + 1)
      omega
  have e4 := e3 s.grp.bodies s.first
  have e5 : s.grp.bodies.length = s.bodies.length := List.length_map _
  have e6 : s.grp.txt = framesL s.first s.grp.bodies := rfl
  obtain ⟨f0, t, hc, ht⟩ := h.chain
  have hm := (hc.mem (List.mem_map_of_mem hs)).2
  rw [RSeg.grp_end] at hm
  have : N * 3000 ≤ 3000000000 := by omega
  rw [← e6] at e4
  refine ⟨by omega, by omega, by omega⟩
theorem ok {N : Nat} (h : Twin X D L rs synced) (hl : Lim N D) : L.Ok := by
  have hall : ∀ s ∈ rs, s.seg.Ok := fun s hs => by
    obtain ⟨h1, h2, h3⟩ := h.size_le hl hs
    unfold RSeg.end_ at h3
    exact ⟨by show s.first + s.bodies.length < _; omega, by show s.bodies.length ≤ _; omega, by show s.size ≤ _; omega⟩
  refine ⟨fun s hs => ?_, ?_⟩
  · rw [h.segs] at hs
    obtain ⟨x, hx, rfl⟩ := List.mem_map.1 hs
    exact hall x hx
  · obtain ⟨pre, a, hr, hs, hd⟩ := h.dur
    have ha : a ∈ rs := by rw [hr]; simp
    obtain ⟨h1, h2, h3⟩ := h.size_le hl ha
    unfold RSeg.end_ at h3
    have e5 : a.grp.bodies.length = a.bodies.length := List.length_map _
    rw [hd]
    refine ⟨?_, ?_, ?_⟩
    · show a.first + (a.grp.bodies.take synced).length < _
      rw [List.length_take]; omega
    · show (a.grp.bodies.take synced).length ≤ _
      rw [List.length_take]; omega
    · show (framesL a.first (a.grp.bodies.take synced)).length ≤ _
      have e6 := h.sizes a ha
      have e7 : a.grp.txt = framesL a.first (a.grp.bodies.take synced) ++ framesL (a.first + (a.grp.bodies.take synced).length) (a.grp.bodies.drop synced) := by
        rw [← framesL_append, List.take_append_drop]; rfl
      rw [e7, List.length_append] at e6
      omega
theorem bytes_le {N : Nat} (h : Twin X D L rs synced) (hl : Lim N D) : L.bytes = (rs.map (·.size)).sum ∧ L.bytes ≤ 3000000000000000 ∧ rs.length ≤ 1000000 := by
  have h0 : rs.length ≤ 1000000 := Nat.le_trans h.few (Nat.le_trans hl.names hl.le)
  have e1 : L.bytes = (rs.map (·.size)).sum := by unfold LogV.bytes; rw [h.segs, List.map_map]; rfl
  refine ⟨e1, ?_, h0⟩
  rw [e1]
  have h2 : ∀ l : List RSeg, (∀ s ∈ l, s.size ≤ 3000000000) → (l.map (·.size)).sum ≤ l.length * 3000000000 := by
    intro l
    induction l with
    | nil => intro _; exact Nat.zero_le _
    | cons x r ih =>
      intro hx
      have i1 := ih (fun s hs => hx s (List.mem_cons_of_mem _ hs))
      have i2 := hx x List.mem_cons_self
      rw [List.map_cons, List.sum_cons, List.length_cons]
      omega
  have h3 := h2 rs (fun s hs => (h.size_le hl hs).1)
  omega
/-- What Next and Durable tell. -/
theorem ends (h : Twin X D L rs synced) : ∃ pre a, rs = pre ++ [a] ∧ synced ≤ a.bodies.length ∧ L.act = a.seg ∧ L.act.end_ = a.end_ ∧ L.durable.end_ = a.first + synced := by
  obtain ⟨pre, a, hr, hs, hd⟩ := h.dur
  have hsg := h.segs
  rw [hr, List.map_append, List.map_singleton] at hsg
  unfold LogV.segs at hsg
  have ha : L.act = a.seg := List.head_eq_of_cons_eq (List.append_inj' hsg rfl).2
  refine ⟨pre, a, hr, hs, ha, by rw [ha]; rfl, ?_⟩
  rw [hd]
  show a.first + (a.grp.bodies.take synced).length = _
  rw [List.length_take]
  have e5 : a.grp.bodies.length = a.bodies.length := List.length_map _
  omega
end Twin
end Go.Proofs.YtnppdcegpojmbaaGreatDoor
