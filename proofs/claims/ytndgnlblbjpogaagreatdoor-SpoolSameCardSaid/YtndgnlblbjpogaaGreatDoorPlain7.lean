/- Plain laws of names and of a map of names. No walk stands here. · A disk that never fails, and holds just the segments' files: what its operations leave. No walk stands here. · A good disk: Create, Remove, New, begin of a segment; bounds. No walk stands here. · A good log: groups of bodies, their frames, and what the log's operations leave. No walk stands here. · A good log: Append, Roll, Sync, Undo, Drop. No walk stands here. · Bounds of a disk, kept. No walk stands here. · Bounds of a good log's numbers. No walk stands here. -/
import Derived.Test.YtndgnlblbjpogaaGreatDoorSegIn
import Derived.Test.YtndgnlblbjpogaaGreatDoorDisk9
import Derived.Test.YtndgnlblbjpogaaGreatDoorSeg9
namespace Go.Proofs.YtndgnlblbjpogaaGreatDoor
open Go Go.RowKit
namespace NMap
theorem ins_perm (x : Bytes × Nat) (m : NMap) : (ins x m).Perm (x :: m) := by
  induction m with
  | nil => exact List.Perm.refl _
  | cons y r ih =>
    unfold ins
    split
    · exact List.Perm.refl _
    · exact (ih.cons y).trans (List.Perm.swap x y r)
theorem del_none {m : NMap} {k : Bytes} (h : ∀ p ∈ m, p.1 ≠ k) : m.del k = m := by
  unfold del
  exact List.filter_eq_self.2 (fun p hp => by simpa using h p hp)
theorem put_perm {m : NMap} {k : Bytes} {v : Nat} (h : ∀ p ∈ m, p.1 ≠ k) : (m.put k v).Perm ((k, v) :: m) := by
  unfold put; rw [del_none h]; exact ins_perm _ _
theorem get_mem' {m : NMap} {k : Bytes} {v : Nat} (hn : m.Pairwise (fun p q => p.1 ≠ q.1)) (h : (k, v) ∈ m) : m.get k = some v := by
  induction m with
  | nil => cases h
  | cons y r ih =>
    rw [List.pairwise_cons] at hn
    unfold get
    rw [List.find?_cons]
    rcases List.mem_cons.1 h with e | h'
    · subst e; simp
    · have hne : y.1 ≠ k := hn.1 _ h'
      rw [show decide (y.1 = k) = false from decide_eq_false hne]
      exact ih hn.2 h'
theorem get_none {m : NMap} {k : Bytes} (h : ∀ p ∈ m, p.1 ≠ k) : m.get k = none := by
  unfold get
  rw [List.find?_eq_none.2 (fun p hp => by simpa using h p hp)]
  rfl
theorem total_perm {m l : NMap} (h : m.Perm l) (f : Nat → Nat) : m.total f = l.total f := by
  unfold total
  exact (h.map _).sum_nat
end NMap
namespace Seg
def numVal (l : List UInt8) (a : Nat) : Nat := l.foldl (fun a c => a * 10 + (c.toNat - 48)) a
theorem numVal_zeros (n : Nat) (l : List UInt8) : numVal (List.replicate n 48 ++ l) 0 = numVal l 0 := by
  induction n with
  | zero => rfl
  | succ n ih => rw [List.replicate_succ, List.cons_append]; exact ih
theorem numVal_dec (u : Nat) : numVal (Lib.decDigits u) 0 = u := by
  induction u using Nat.strongRecOn with
  | _ u ih =>
    rw [Lib.decDigits]
    split
    · rename_i h
      simp [numVal]
      omega
    · rename_i h
      have h1 := ih (u / 10) (by omega)
      unfold numVal at h1 ⊢
      rw [List.foldl_append, h1]
      simp
      omega
theorem nameL_inj {u v : Nat} (h : nameL u = nameL v) : u = v := by
  unfold nameL at h
  have h1 := congrArg (fun l => numVal l 0) (List.cons.inj h).2
  simp only [numVal_zeros, numVal_dec] at h1
  exact h1
theorem dec_ok (u : Nat) : ∀ c ∈ Lib.decDigits u, 48 ≤ c.toNat ∧ c.toNat ≤ 57 := by
  induction u using Nat.strongRecOn with
  | _ u ih =>
    intro c hc
    rw [Lib.decDigits] at hc
    split at hc
    · rename_i h
      have e : (UInt8.ofNat (48 + u)).toNat = 48 + u := by simp; omega
      rw [List.mem_singleton.1 hc, e]; omega
    · rename_i h
      have e : (UInt8.ofNat (48 + u % 10)).toNat = 48 + u % 10 := by simp; omega
      rcases List.mem_append.1 hc with hc | hc
      · exact ih (u / 10) (by omega) c hc
      · rw [List.mem_singleton.1 hc, e]; omega
theorem nameB_named {u : Nat} (hu : u < 18446744073709551616) : DiskV.named (nameB u) = true := by
  have hsz : (nameB u).size = 21 := nameL_length hu
  unfold DiskV.named
  rw [hsz]
  have hall : ((nameB u).data.toList.all fun c => decide (33 ≤ c.toNat) && decide (c.toNat ≤ 126)) = true := by
    rw [List.all_eq_true]
    intro c hc
    have hc : c ∈ nameL u := by simpa [nameB] using hc
    unfold nameL at hc
    rcases List.mem_cons.1 hc with rfl | hc
    · decide
    · rcases List.mem_append.1 hc with hc | hc
      · rw [(List.mem_replicate.1 hc).2]; decide
      · have := dec_ok u c hc
        simp; omega
  rw [hall]; rfl
theorem bytesOf_nameB (u : Nat) : bytesOf (nameB u) = nameL u := by simp [bytesOf, nameB]
end Seg
end Go.Proofs.YtndgnlblbjpogaaGreatDoor
namespace Go.Proofs.YtndgnlblbjpogaaGreatDoor
open Go Go.RowKit
structure Ent where
  first : Nat
  idx : Nat
  txt : List UInt8
structure Good (R : Nat) (D : DiskV) (es : List Ent) : Prop where
  wf : D.Wf
  left : D.left = -1
  fail : D.fail = 0
  room : D.room = R
  names : D.names.Perm (es.map fun e => (Seg.nameL e.first, e.idx))
  firsts : es.Pairwise (fun a b => a.first ≠ b.first)
  idxs : es.Pairwise (fun a b => a.idx ≠ b.idx)
  files : ∀ e ∈ es, ∃ f, D.files[e.idx]? = some f ∧ f.now.data.toList = e.txt
namespace Good
variable {R : Nat} {D : DiskV} {es pre : List Ent} {e : Ent}
theorem keys (h : Good R D es) : D.names.Pairwise (fun p q => p.1 ≠ q.1) := by
  refine (h.names.pairwise_iff (fun hab => Ne.symm hab)).2 ?_
  rw [List.pairwise_map]
  exact h.firsts.imp (fun hab hn => hab (Seg.nameL_inj hn))
theorem get (h : Good R D es) (he : e ∈ es) : D.names.get (bytesOf (Seg.nameB e.first)) = some e.idx := by
  rw [Seg.bytesOf_nameB]
  exact NMap.get_mem' h.keys (h.names.mem_iff.2 (List.mem_map.2 ⟨e, he, rfl⟩))
theorem nokey (h : Good R D es) {u : Nat} (hu : ∀ e ∈ es, e.first ≠ u) : ∀ p ∈ D.names, p.1 ≠ Seg.nameL u := by
  intro p hp hk
  obtain ⟨e, he, rfl⟩ := List.mem_map.1 (h.names.mem_iff.1 hp)
  exact hu e he (Seg.nameL_inj hk)
theorem begin_eq (h : Good R D es) : D.begin = ({ D with ops := wrap64 (D.ops + 1) }, 0) := by
  unfold DiskV.begin
  rw [if_neg (by rw [h.left]; decide), if_neg (by rw [h.left]; decide)]
theorem start (h : Good R D es) : Good R D.begin.1 es := by
  have hw := DiskW.begin_wf h.wf
  rw [h.begin_eq] at hw ⊢
  exact ⟨hw, h.left, h.fail, h.room, h.names, h.firsts, h.idxs, h.files⟩
theorem find (h : Good R D es) (he : e ∈ es) : D.find (Seg.nameB e.first) = (D.begin.1, some e.idx, 0) := by
  unfold DiskV.find
  rw [if_neg (by rw [h.left]; decide), h.get he]
theorem find_new (h : Good R D es) {u : Nat} (hu : ∀ e ∈ es, e.first ≠ u) : D.find (Seg.nameB u) = (D.begin.1, none, 5) := by
  unfold DiskV.find
  rw [if_neg (by rw [h.left]; decide), Seg.bytesOf_nameB, NMap.get_none (h.nokey hu)]
theorem size_at (h : Good R D es) (he : e ∈ es) : D.sizeAt e.idx = e.txt.length := by
  obtain ⟨f, h1, h2⟩ := h.files e he
  unfold DiskV.sizeAt
  rw [h1, ← h2]
  simp
theorem used (h : Good R D es) : D.used = (es.map (·.txt.length)).sum := by
  unfold DiskV.used
  rw [NMap.total_perm h.names]
  unfold NMap.total
  rw [List.map_map]
  congr 1
  refine List.map_congr_left (fun e he => ?_)
  exact h.size_at he
theorem fails_eq (h : Good R D es) : D.fails = (D, false) := by
  unfold DiskV.fails
  rw [if_pos (by rw [h.fail]; decide)]
theorem setFile (h : Good R D (pre ++ [e])) (f : FileV) : Good R (D.setFile e.idx f) (pre ++ [⟨e.first, e.idx, f.now.data.toList⟩]) := by
  have hlen : (D.files.set e.idx f).length = D.files.length := List.length_set
  obtain ⟨f0, hf0, _⟩ := h.files e (by simp)
  have hlt := (List.getElem?_eq_some_iff.1 hf0).1
  refine ⟨⟨h.wf.room, h.wf.ops, h.wf.fail, h.wf.left, ?_, ?_, ?_⟩, h.left, h.fail, h.room, ?_, ?_, ?_, ?_⟩
  · intro p hp; show _ < (D.files.set _ _).length; rw [hlen]; exact h.wf.names p hp
  · intro p hp; show _ < (D.files.set _ _).length; rw [hlen]; exact h.wf.base p hp
  · intro m hm hz; show _ < (D.files.set _ _).length; rw [hlen]; exact h.wf.moves m hm hz
  · show D.names.Perm _
    have := h.names
    simpa using this
  · have := h.firsts
    simp only [List.pairwise_append, List.pairwise_singleton, List.mem_singleton, forall_eq] at this ⊢
    exact this
  · have := h.idxs
    simp only [List.pairwise_append, List.pairwise_singleton, List.mem_singleton, forall_eq] at this ⊢
    exact this
  · intro x hx
    rcases List.mem_append.1 hx with hx | hx
    · obtain ⟨fx, h1, h2⟩ := h.files x (by simp [hx])
      have hne : e.idx ≠ x.idx := by
        have := h.idxs
        simp only [List.pairwise_append, List.mem_singleton, forall_eq] at this
        exact Ne.symm (this.2.2 x hx)
      exact ⟨fx, by show (D.files.set _ _)[_]? = _; rw [List.getElem?_set_ne hne]; exact h1, h2⟩
    · rw [List.mem_singleton.1 hx]
      exact ⟨f, by show (D.files.set _ _)[_]? = _; rw [List.getElem?_set_self hlt], rfl⟩
theorem append (h : Good R D (pre ++ [e])) (s : ByteArray) (hfit : ((pre ++ [e]).map (·.txt.length)).sum + s.size ≤ R) :
    ∃ D', D.append (Seg.nameB e.first) s = (D', 0) ∧ Good R D' (pre ++ [⟨e.first, e.idx, e.txt ++ s.data.toList⟩]) := by
  have he : e ∈ pre ++ [e] := by simp
  have hs := h.start
  obtain ⟨f, hf, ht⟩ := hs.files e he
  have hu := hs.used
  refine ⟨D.begin.1.setFile e.idx ⟨f.base, f.now ++ s, f.chgs ++ [⟨s, -1⟩]⟩, ?_, ?_⟩
  · unfold DiskV.append
    rw [h.find he]
    dsimp only
    rw [if_neg (by rw [hs.room, hu]; omega), hs.fails_eq]
    dsimp only
    rw [if_neg (by decide), hf]
  · have := hs.setFile ⟨f.base, f.now ++ s, f.chgs ++ [⟨s, -1⟩]⟩
    have e1 : (f.now ++ s).data.toList = e.txt ++ s.data.toList := by rw [← ht]; simp
    rw [← e1]
    exact this
theorem sync (h : Good R D (pre ++ [e])) : ∃ D', D.sync (Seg.nameB e.first) = (D', 0) ∧ Good R D' (pre ++ [e]) := by
  have he : e ∈ pre ++ [e] := by simp
  have hs := h.start
  obtain ⟨f, hf, ht⟩ := hs.files e he
  refine ⟨D.begin.1.setFile e.idx ⟨f.now, f.now, []⟩, ?_, ?_⟩
  · unfold DiskV.sync
    rw [h.find he]
    dsimp only
    rw [hs.fails_eq]
    dsimp only
    rw [if_neg (by decide), hf]
  · have := hs.setFile ⟨f.now, f.now, []⟩
    have e1 : f.now.data.toList = e.txt := ht
    dsimp only at this
    rw [e1] at this
    exact this
theorem cut (h : Good R D (pre ++ [e])) (n : Nat) (hn : n ≤ e.txt.length) : ∃ D', D.cut (Seg.nameB e.first) n = (D', 0) ∧ Good R D' (pre ++ [⟨e.first, e.idx, e.txt.take n⟩]) := by
  have he : e ∈ pre ++ [e] := by simp
  have hs := h.start
  obtain ⟨f, hf, ht⟩ := hs.files e he
  have hsz : f.now.size = e.txt.length := by rw [← ht]; simp
  refine ⟨D.begin.1.setFile e.idx ⟨f.base, f.now.extract 0 n, f.chgs ++ [⟨ByteArray.empty, n⟩]⟩, ?_, ?_⟩
  · unfold DiskV.cut
    rw [h.find he]
    dsimp only
    rw [hf]
    dsimp only
    rw [if_neg (by omega)]
    rfl
  · have := hs.setFile ⟨f.base, f.now.extract 0 n, f.chgs ++ [⟨ByteArray.empty, n⟩]⟩
    have e1 : (f.now.extract 0 n).data.toList = e.txt.take n := by
      rw [← ht, ByteArray.data_extract, Array.toList_extract, List.extract_eq_take_drop]; rfl
    dsimp only at this
    rw [e1] at this
    exact this
theorem syncDir (h : Good R D es) : ∃ D', D.syncDir = (D', 0) ∧ Good R D' es := by
  have hs := h.start
  refine ⟨{ D.begin.1 with base := D.begin.1.names, moves := [] }, ?_, ?_⟩
  · unfold DiskV.syncDir
    rw [h.begin_eq]
    rfl
  · exact ⟨⟨hs.wf.room, hs.wf.ops, hs.wf.fail, hs.wf.left, hs.wf.names, hs.wf.names, fun m hm => absurd hm (by simp)⟩, hs.left, hs.fail, hs.room, hs.names, hs.firsts, hs.idxs, hs.files⟩
theorem read (h : Good R D es) (he : e ∈ es) : D.read (Seg.nameB e.first) = (⟨e.txt.toArray⟩, 0) := by
  obtain ⟨f, hf, ht⟩ := h.files e he
  unfold DiskV.read
  rw [if_neg (by rw [h.left]; decide), h.get he]
  dsimp only
  rw [hf]
  show (f.now, (0 : Int)) = _
  rw [str_of ht]
end Good
end Go.Proofs.YtndgnlblbjpogaaGreatDoor
namespace Go.Proofs.YtndgnlblbjpogaaGreatDoor
open Go Go.RowKit
namespace Good
variable {R : Nat} {D : DiskV} {es pre : List Ent} {e : Ent}
theorem new (R : Nat) (h : R ≤ 9223372036854775807) : Good R (DiskV.new R) [] :=
  ⟨DiskW.new_wf R (by omega), rfl, rfl, by show max (R : Int) 0 = R; omega, List.Perm.refl _, List.Pairwise.nil, List.Pairwise.nil, fun e he => by cases he⟩
theorem idx_lt (h : Good R D es) (he : e ∈ es) : e.idx < D.files.length := by
  obtain ⟨f, h1, _⟩ := h.files e he
  exact (List.getElem?_eq_some_iff.1 h1).1
theorem create (h : Good R D es) {u : Nat} (hu : u < 18446744073709551616) (hn : ∀ e ∈ es, e.first ≠ u) :
    ∃ D', D.create (Seg.nameB u) = (D', 0) ∧ Good R D' (es ++ [⟨u, D.files.length, []⟩]) := by
  have hs := h.start
  have hfl : D.begin.1.files = D.files := (DiskW.begin_len D).2.1
  have hsz : (Seg.nameB u).size = 21 := Seg.nameL_length hu
  have hdel : D.begin.1.names.del (bytesOf ByteArray.empty) = D.begin.1.names := NMap.del_none (fun p hp hk => by
    obtain ⟨e, _, rfl⟩ := List.mem_map.1 (hs.names.mem_iff.1 hp)
    have h1 := congrArg List.length hk
    simp [Seg.nameL, bytesOf] at h1)
  have hdone : DiskV.done ⟨ByteArray.empty, Seg.nameB u, D.files.length⟩ D.begin.1.names = D.begin.1.names.put (Seg.nameL u) D.files.length := by
    unfold DiskV.done
    rw [if_neg (by show ¬ (Seg.nameB u).size = 0; omega)]
    dsimp only
    rw [hdel, Seg.bytesOf_nameB]
  refine ⟨({ D.begin.1 with files := D.begin.1.files ++ [newFile] } : DiskV).moved ⟨ByteArray.empty, Seg.nameB u, D.begin.1.files.length⟩, ?_, ?_⟩
  · unfold DiskV.create
    rw [h.find_new hn]
    dsimp only
    rw [if_neg (by decide), if_neg (by rw [Seg.nameB_named hu]; decide), if_neg (by decide)]
    rfl
  · rw [hfl]
    have hl : (D.files ++ [newFile]).length = D.files.length + 1 := by simp
    have hnames : (DiskV.done ⟨ByteArray.empty, Seg.nameB u, D.files.length⟩ D.begin.1.names).Perm ((es ++ [⟨u, D.files.length, []⟩] : List Ent).map fun e => (Seg.nameL e.first, e.idx)) := by
      rw [hdone, List.map_append]
      refine (NMap.put_perm (hs.nokey hn)).trans ?_
      refine (List.Perm.cons _ hs.names).trans ?_
      exact (List.perm_append_singleton _ _).symm
    refine ⟨⟨hs.wf.room, hs.wf.ops, hs.wf.fail, hs.wf.left, ?_, ?_, ?_⟩, hs.left, hs.fail, hs.room, hnames, ?_, ?_, ?_⟩
    · intro p hp
      show _ < (D.files ++ [newFile]).length
      rw [hl]
      obtain ⟨x, hx, rfl⟩ := List.mem_map.1 (hnames.mem_iff.1 hp)
      rcases List.mem_append.1 hx with hx | hx
      · exact Nat.lt_succ_of_lt (h.idx_lt hx)
      · rw [List.mem_singleton.1 hx]; exact Nat.lt_succ_self _
    · intro p hp
      show _ < (D.files ++ [newFile]).length
      rw [hl, ← hfl]; exact Nat.lt_succ_of_lt (hs.wf.base p hp)
    · intro m hm hz
      show _ < (D.files ++ [newFile]).length
      rw [hl]
      rcases List.mem_append.1 (show m ∈ D.begin.1.moves ++ [_] from hm) with hm | hm
      · rw [← hfl]; exact Nat.lt_succ_of_lt (hs.wf.moves m hm hz)
      · rw [List.mem_singleton.1 hm]; exact Nat.lt_succ_self _
    · rw [List.pairwise_append]
      exact ⟨h.firsts, by simp, fun a ha b hb => by rw [List.mem_singleton.1 hb]; exact hn a ha⟩
    · rw [List.pairwise_append]
      exact ⟨h.idxs, by simp, fun a ha b hb => by rw [List.mem_singleton.1 hb]; exact Nat.ne_of_lt (h.idx_lt ha)⟩
    · intro x hx
      rcases List.mem_append.1 hx with hx | hx
      · obtain ⟨f, h1, h2⟩ := h.files x hx
        exact ⟨f, by show (D.files ++ [newFile])[_]? = _; rw [List.getElem?_append_left (h.idx_lt hx)]; exact h1, h2⟩
      · rw [List.mem_singleton.1 hx]
        exact ⟨newFile, by show (D.files ++ [newFile])[D.files.length]? = _; rw [List.getElem?_append_right (Nat.le_refl _), Nat.sub_self]; rfl, rfl⟩
theorem started (h : Good R D es) {u : Nat} (hu : u < 18446744073709551616) (hn : ∀ e ∈ es, e.first ≠ u) :
    ∃ D' i, D.started u = (D', 0, true) ∧ Good R D' (es ++ [⟨u, i, []⟩]) := by
  obtain ⟨D1, h1, g1⟩ := h.create hu hn
  obtain ⟨D2, h2, g2⟩ := g1.syncDir
  refine ⟨D2, D.files.length, ?_, g2⟩
  unfold DiskV.started
  rw [h1]
  dsimp only
  rw [if_pos rfl, h2]
theorem remove (h : Good R D (e :: es)) : ∃ D', D.remove (Seg.nameB e.first) = (D', 0) ∧ Good R D' es := by
  have hs := h.start
  have hfl : D.begin.1.files = D.files := (DiskW.begin_len D).2.1
  refine ⟨D.begin.1.moved ⟨Seg.nameB e.first, ByteArray.empty, 0⟩, ?_, ?_⟩
  · unfold DiskV.remove
    rw [h.find (List.mem_cons_self ..)]
  · have hp := List.pairwise_cons.1 h.firsts
    have hnames : (DiskV.done ⟨Seg.nameB e.first, ByteArray.empty, 0⟩ D.begin.1.names).Perm (es.map fun e => (Seg.nameL e.first, e.idx)) := by
      unfold DiskV.done
      dsimp only
      rw [if_pos (show ByteArray.empty.size = 0 from rfl), Seg.bytesOf_nameB]
      refine (hs.names.filter _).trans ?_
      rw [List.map_cons, List.filter_cons_of_neg (by simp), List.filter_eq_self.2]
      intro p hp'
      obtain ⟨x, hx, rfl⟩ := List.mem_map.1 hp'
      have := hp.1 x hx
      simp only [decide_eq_true_eq]
      exact fun hk => this (Seg.nameL_inj hk).symm
    refine ⟨⟨hs.wf.room, hs.wf.ops, hs.wf.fail, hs.wf.left, ?_, hs.wf.base, ?_⟩, hs.left, hs.fail, hs.room, hnames, hp.2, (List.pairwise_cons.1 h.idxs).2, fun x hx => hs.files x (by simp [hx])⟩
    · intro p hp'
      obtain ⟨x, hx, rfl⟩ := List.mem_map.1 (hnames.mem_iff.1 hp')
      show x.idx < D.begin.1.files.length
      rw [hfl]; exact h.idx_lt (by simp [hx])
    · intro m hm hz
      rcases List.mem_append.1 (show m ∈ D.begin.1.moves ++ [_] from hm) with hm | hm
      · exact hs.wf.moves m hm hz
      · rw [List.mem_singleton.1 hm] at hz; exact absurd rfl hz
end Good
end Go.Proofs.YtndgnlblbjpogaaGreatDoor
namespace Go.Proofs.YtndgnlblbjpogaaGreatDoor
open Go Go.RowKit
structure Grp where
  first : Nat
  bodies : List (List UInt8)
def Grp.end_ (g : Grp) : Nat := g.first + g.bodies.length
def framesL (f : Nat) : List (List UInt8) → List UInt8
  | [] => []
  | b :: r => Frame.putF f b ++ framesL (f + 1) r
def Grp.txt (g : Grp) : List UInt8 := framesL g.first g.bodies
def Grp.seg (g : Grp) : SegV := ⟨g.first, g.bodies.length, g.txt.length⟩
theorem framesL_snoc (bs : List (List UInt8)) (b : List UInt8) : ∀ f, framesL f (bs ++ [b]) = framesL f bs ++ Frame.putF (f + bs.length) b := by
  induction bs with
  | nil => intro f; simp [framesL]
  | cons x r ih => intro f; simp only [List.cons_append, framesL, ih, List.length_cons, List.append_assoc]; congr 3; omega
/-- The groups follow one another from f on, up to t. -/
def Chain : Nat → List Grp → Nat → Prop
  | f, [], t => f = t
  | f, g :: r, t => g.first = f ∧ Chain g.end_ r t
theorem Chain.snoc {f t : Nat} {G : List Grp} {g : Grp} (h : Chain f G t) (hg : g.first = t) : Chain f (G ++ [g]) g.end_ := by
  induction G generalizing f with
  | nil => cases h; exact ⟨hg, rfl⟩
  | cons x r ih => exact ⟨h.1, ih h.2⟩
theorem Chain.le {f t : Nat} {G : List Grp} (h : Chain f G t) : f ≤ t := by
  induction G generalizing f with
  | nil => cases h; exact Nat.le_refl _
  | cons x r ih => have := ih h.2; have h1 := h.1; unfold Grp.end_ at this; omega
theorem Chain.mem {f t : Nat} {G : List Grp} {g : Grp} (h : Chain f G t) (hg : g ∈ G) : f ≤ g.first ∧ g.end_ ≤ t := by
  induction G generalizing f with
  | nil => cases hg
  | cons x r ih =>
    rcases List.mem_cons.1 hg with rfl | hg
    · exact ⟨Nat.le_of_eq h.1.symm, h.2.le⟩
    · have := ih h.2 hg
      have h1 := h.1
      unfold Grp.end_ at this
      unfold Grp.end_
      omega
theorem firstL_nil : Frame.firstL [] = none := rfl
theorem scan_frames (bs : List (List UInt8)) (hb : ∀ b ∈ bs, b.length ≤ 2000) : ∀ f, f + bs.length ≤ 18446744073709551616 → (Frame.scanL (framesL f bs)).map (·.body) = bs := by
  induction bs with
  | nil => intro f _; rw [framesL, Frame.scanL_none firstL_nil]; rfl
  | cons b r ih =>
    intro f hf
    rw [List.length_cons] at hf
    have h1 := Frame.first_put f b (framesL (f + 1) r) (hb b (by simp)) (by omega)
    rw [framesL, Frame.scanL_some h1, List.map_cons]
    congr 1
    have e : (Frame.putF f b ++ framesL (f + 1) r).drop (Frame.putF f b).length = framesL (f + 1) r := List.drop_left
    rw [e]
    exact ih (fun x hx => hb x (by simp [hx])) (f + 1) (by omega)
theorem chain_find (G : List Grp) : ∀ (f t i : Nat) (b : List UInt8), Chain f G t → (G.flatMap (·.bodies))[i]? = some b → ∃ g ∈ G, (G.map Grp.seg).find? (SegV.has (f + i)) = some g.seg ∧ g.first ≤ f + i ∧ g.bodies[f + i - g.first]? = some b := by
  induction G with
  | nil => intro f t i b _ h; simp at h
  | cons g r ih =>
    intro f t i b hc h
    rw [List.flatMap_cons] at h
    have hg := hc.1
    by_cases hi : i < g.bodies.length
    · rw [List.getElem?_append_left hi] at h
      refine ⟨g, by simp, ?_, by omega, by rw [hg, Nat.add_sub_cancel_left]; exact h⟩
      rw [List.map_cons, List.find?_cons]
      have : SegV.has (f + i) g.seg = true := by
        unfold SegV.has Grp.seg SegV.end_
        simp
        omega
      rw [this]
    · rw [List.getElem?_append_right (by omega)] at h
      obtain ⟨x, hx, h1, h2, h3⟩ := ih g.end_ t (i - g.bodies.length) b hc.2 h
      have e : g.end_ + (i - g.bodies.length) = f + i := by unfold Grp.end_; omega
      rw [e] at h1 h2 h3
      refine ⟨x, by simp [hx], ?_, h2, h3⟩
      rw [List.map_cons, List.find?_cons]
      have : SegV.has (f + i) g.seg = false := by
        unfold SegV.has Grp.seg SegV.end_
        simp
        intro _
        omega
      rw [this]
      exact h1
theorem chain_none (G : List Grp) : ∀ (f t s : Nat), Chain f G t → (s < f ∨ t ≤ s) → (G.map Grp.seg).find? (SegV.has s) = none := by
  induction G with
  | nil => intro f t s _ _; rfl
  | cons g r ih =>
    intro f t s hc hs
    have hg := hc.1
    have hle := hc.2.le
    rw [List.map_cons, List.find?_cons]
    have : SegV.has s g.seg = false := by
      unfold SegV.has Grp.seg SegV.end_
      unfold Grp.end_ at hle
      simp
      omega
    rw [this]
    refine ih g.end_ t s hc.2 ?_
    unfold Grp.end_
    unfold Grp.end_ at hle
    omega
structure GoodLog (R f0 : Nat) (L : LogV) (D : DiskV) (full : List Grp) (act : Grp) : Prop where
  disk : ∃ es, Good R D es ∧ es.map (fun e => (e.first, e.txt)) = (full ++ [act]).map (fun g => (g.first, g.txt))
  efull : L.full = full.map Grp.seg
  eact : L.act = act.seg
  chain : Chain f0 (full ++ [act]) act.end_
  small : ∀ g ∈ full ++ [act], ∀ b ∈ g.bodies, b.length ≤ 2000
  few : act.end_ ≤ 1000000
namespace GoodLog
variable {R f0 : Nat} {L : LogV} {D : DiskV} {full : List Grp} {act : Grp}
theorem segs (h : GoodLog R f0 L D full act) : L.segs = (full ++ [act]).map Grp.seg := by
  unfold LogV.segs; rw [h.efull, h.eact, List.map_append]; rfl
theorem get_some (h : GoodLog R f0 L D full act) {i : Nat} {b : List UInt8} (hb : ((full ++ [act]).flatMap (·.bodies))[i]? = some b) : L.get D (f0 + i) = (⟨b.toArray⟩, 0) := by
  obtain ⟨g, hg, h1, h2, h3⟩ := chain_find _ _ _ _ _ h.chain hb
  obtain ⟨es, hgood, hes⟩ := h.disk
  have hge := (h.chain.mem hg).2
  have hfew := h.few
  obtain ⟨e, he, hee⟩ : ∃ e ∈ es, (e.first, e.txt) = (g.first, g.txt) := by
    have : (g.first, g.txt) ∈ es.map (fun e => (e.first, e.txt)) := by rw [hes]; exact List.mem_map.2 ⟨g, hg, rfl⟩
    exact List.mem_map.1 this
  have hr := hgood.read he
  rw [(Prod.mk.inj hee).1, (Prod.mk.inj hee).2] at hr
  have hsc := scan_frames g.bodies (h.small g hg) g.first (by have : g.first + g.bodies.length ≤ act.end_ := hge; omega)
  unfold LogV.get
  rw [h.segs, h1]
  dsimp only
  rw [show g.seg.first = g.first from rfl, hr]
  dsimp only
  rw [if_pos rfl]
  have h4 : (Frame.scanL g.txt)[f0 + i - g.first]?.map (·.body) = some b := by
    rw [← List.getElem?_map, show Frame.scanL g.txt = Frame.scanL (framesL g.first g.bodies) from rfl, hsc]; exact h3
  cases hx : (Frame.scanL g.txt)[f0 + i - g.first]? with
  | none => rw [hx] at h4; cases h4
  | some x => rw [hx] at h4; simp at h4; dsimp only; rw [h4]
theorem get_none (h : GoodLog R f0 L D full act) {s : Nat} (hs : s < f0 ∨ act.end_ ≤ s) : L.get D s = (ByteArray.empty, 5) := by
  unfold LogV.get
  rw [h.segs, chain_none _ _ _ _ h.chain hs]
end GoodLog
end Go.Proofs.YtndgnlblbjpogaaGreatDoor
namespace Go.Proofs.YtndgnlblbjpogaaGreatDoor
open Go Go.RowKit
theorem Chain.split {f t : Nat} {G : List Grp} {g : Grp} (h : Chain f (G ++ [g]) t) : Chain f G g.first ∧ t = g.end_ := by
  induction G generalizing f with
  | nil => exact ⟨h.1.symm, h.2.symm⟩
  | cons x r ih => have := ih h.2; exact ⟨⟨h.1, this.1⟩, this.2⟩
namespace GoodLog
variable {R f0 : Nat} {L : LogV} {D : DiskV} {full : List Grp} {act : Grp}
theorem split (h : GoodLog R f0 L D full act) : ∃ pre e, Good R D (pre ++ [e]) ∧ pre.map (fun e => (e.first, e.txt)) = full.map (fun g => (g.first, g.txt)) ∧ e.first = act.first ∧ e.txt = act.txt := by
  obtain ⟨es, hg, he⟩ := h.disk
  rw [List.map_append] at he
  obtain ⟨pre, r, rfl, h1, h2⟩ := List.map_eq_append_iff.1 he
  cases r with
  | nil => cases h2
  | cons e r' =>
    cases r' with
    | nil => simp at h2; exact ⟨pre, e, hg, h1, h2.1, h2.2⟩
    | cons x y => simp at h2
theorem pack {D : DiskV} {pre : List Ent} {e : Ent} {a : Grp} (h1 : pre.map (fun e => (e.first, e.txt)) = full.map (fun g => (g.first, g.txt))) (h2 : e.first = a.first) (h3 : e.txt = a.txt) (hg : Good R D (pre ++ [e])) :
    ∃ es, Good R D es ∧ es.map (fun e => (e.first, e.txt)) = (full ++ [a]).map (fun g => (g.first, g.txt)) :=
  ⟨pre ++ [e], hg, by rw [List.map_append, List.map_append, h1]; simp [h2, h3]⟩
/-- How many bytes there are. -/
def sum (G : List Grp) : Nat := (G.map (·.txt.length)).sum
theorem lens {pre : List Ent} {G : List Grp} (h : pre.map (fun e => (e.first, e.txt)) = G.map (fun g => (g.first, g.txt))) : (pre.map (·.txt.length)).sum = sum G := by
  have h1 := congrArg (List.map fun p : Nat × List UInt8 => p.2.length) h
  rw [List.map_map, List.map_map] at h1
  unfold sum
  exact congrArg List.sum h1
theorem used (h : GoodLog R f0 L D full act) : D.used = sum (full ++ [act]) := by
  obtain ⟨es, hg, he⟩ := h.disk
  rw [hg.used, lens he]
theorem bytes (h : GoodLog R f0 L D full act) : L.bytes = sum (full ++ [act]) := by
  unfold LogV.bytes sum
  rw [h.segs, List.map_map]
  rfl
theorem append (h : GoodLog R f0 L D full act) (body : ByteArray) (hb : body.size ≤ 2000) (hfit : sum (full ++ [act]) + (Frame.putF act.end_ body.data.toList).length ≤ R) (hfew : act.end_ + 1 ≤ 1000000) :
    ∃ L' D', L.append D body = (L', D', act.end_, 0) ∧ GoodLog R f0 L' D' full ⟨act.first, act.bodies ++ [body.data.toList]⟩ ∧ L'.durable = L.durable := by
  obtain ⟨pre, e, hg, h1, h2, h3⟩ := h.split
  obtain ⟨s, hs⟩ : ∃ s : ByteArray, s = ⟨(Frame.putF act.end_ body.data.toList).toArray⟩ := ⟨_, rfl⟩
  have hsz : s.size = (Frame.putF act.end_ body.data.toList).length := by rw [hs]; rfl
  have hsl : s.data.toList = Frame.putF act.end_ body.data.toList := by rw [hs]
  have hsum : ((pre ++ [e]).map (·.txt.length)).sum = sum (full ++ [act]) := lens (by rw [List.map_append, List.map_append, h1]; simp [h2, h3])
  obtain ⟨D', ha, hg'⟩ := hg.append s (by rw [hsum, hsz]; exact hfit)
  have he : L.act.end_ = act.end_ := by rw [h.eact]; rfl
  have hf : L.act.first = act.first := by rw [h.eact]; rfl
  refine ⟨{ L with act := ⟨L.act.first, L.act.many + 1, L.act.size + s.size⟩ }, D', ?_, ⟨?_, h.efull, ?_, ?_, ?_, ?_⟩, rfl⟩
  · unfold LogV.append
    rw [if_neg (by omega), he, ← hs, hf, ← h2]
    dsimp only
    rw [ha]
    dsimp only
    rw [if_pos rfl]
  · refine pack h1 (e := ⟨e.first, e.idx, e.txt ++ s.data.toList⟩) h2 ?_ hg'
    show e.txt ++ s.data.toList = framesL act.first (act.bodies ++ [body.data.toList])
    rw [framesL_snoc, h3, hsl]; rfl
  · rw [h.eact]
    unfold Grp.seg Grp.txt
    rw [framesL_snoc]
    simp [hsz]
    rfl
  · exact h.chain.split.1.snoc rfl
  · intro g hg b hbm
    rcases List.mem_append.1 hg with hg | hg
    · exact h.small g (by simp [hg]) b hbm
    · rw [List.mem_singleton.1 hg] at hbm
      rcases List.mem_append.1 hbm with hbm | hbm
      · exact h.small act (by simp) b hbm
      · rw [List.mem_singleton.1 hbm]; simpa using hb
  · show act.first + (act.bodies ++ [_]).length ≤ _
    rw [List.length_append]
    exact hfew
theorem actFirst (h : GoodLog R f0 L D full act) : L.act.first = act.first := by rw [h.eact]; rfl
theorem sync (h : GoodLog R f0 L D full act) (hd : L.durable.first = act.first) : ∃ L' D', L.sync D = (L', D', 0) ∧ GoodLog R f0 L' D' full act ∧ L'.durable = act.seg := by
  by_cases hs : L.same
  · refine ⟨L, D, ?_, h, ?_⟩
    · unfold LogV.sync; rw [if_pos hs]
    · have := h.eact
      obtain ⟨h1, h2, h3⟩ := hs
      rw [this] at h1 h2 h3
      cases hdur : L.durable with
      | mk a b c => rw [hdur] at h1 h2 h3; cases hseg : act.seg with | mk x y z => rw [hseg] at h1 h2 h3; dsimp only at h1 h2 h3; rw [h1, h2, h3]
  · obtain ⟨pre, e, hg, h1, h2, h3⟩ := h.split
    obtain ⟨D', hd', hg'⟩ := hg.sync
    refine ⟨{ L with durable := L.act }, D', ?_, ⟨pack h1 h2 h3 hg', h.efull, h.eact, h.chain, h.small, h.few⟩, h.eact⟩
    unfold LogV.sync
    rw [if_neg hs, hd, ← h2, hd']
    dsimp only
    rw [if_pos rfl]
theorem roll_none (h : GoodLog R f0 L D full act) (ha : act.bodies = []) : L.roll D = (L, D, 0) := by
  unfold LogV.roll
  rw [if_pos (by rw [h.eact]; unfold Grp.seg; rw [ha]; rfl)]
theorem roll (h : GoodLog R f0 L D full act) (ha : act.bodies ≠ []) : ∃ L' D', L.roll D = (L', D', 0) ∧ GoodLog R f0 L' D' (full ++ [act]) ⟨act.end_, []⟩ ∧ L'.durable = ⟨act.end_, 0, 0⟩ := by
  obtain ⟨pre, e, hg, h1, h2, h3⟩ := h.split
  obtain ⟨D1, hd1, hg1⟩ := hg.sync
  have hfew := h.few
  have he : L.act.end_ = act.end_ := by rw [h.eact]; rfl
  have hpos : 0 < act.bodies.length := List.length_pos_iff.2 ha
  have hlt : ∀ x ∈ pre ++ [e], x.first ≠ act.end_ := by
    intro x hx
    have hx' : (x.first, x.txt) ∈ (full ++ [act]).map (fun g => (g.first, g.txt)) := by
      rw [List.map_append, ← h1]
      rcases List.mem_append.1 hx with hx | hx
      · exact List.mem_append.2 (.inl (List.mem_map.2 ⟨x, hx, rfl⟩))
      · rw [List.mem_singleton.1 hx]; exact List.mem_append.2 (.inr (by simp [h2, h3]))
    obtain ⟨g, hgm, hge⟩ := List.mem_map.1 hx'
    have hgx := (Prod.mk.inj hge).1
    rw [← hgx]
    have hc := h.chain.split
    rcases List.mem_append.1 hgm with hgm | hgm
    · have := hc.1.mem hgm
      have h4 : g.first + g.bodies.length ≤ act.first := this.2
      show g.first ≠ act.first + act.bodies.length
      omega
    · rw [List.mem_singleton.1 hgm]
      show act.first ≠ act.first + act.bodies.length
      omega
  obtain ⟨D2, i, hd2, hg2⟩ := hg1.started (u := act.end_) (by omega) hlt
  refine ⟨⟨L.segs, ⟨act.end_, 0, 0⟩, ⟨act.end_, 0, 0⟩⟩, D2, ?_, ⟨?_, h.segs, rfl, ?_, ?_, ?_⟩, rfl⟩
  · unfold LogV.roll
    rw [if_neg (by rw [h.eact]; show ¬ act.bodies.length = 0; omega), h.actFirst, ← h2, hd1]
    dsimp only
    rw [if_pos rfl, he, hd2]
    dsimp only
    rw [if_pos rfl]
  · refine pack (full := full ++ [act]) (pre := pre ++ [e]) ?_ (e := ⟨act.end_, i, []⟩) rfl rfl hg2
    rw [List.map_append, List.map_append, h1]; simp [h2, h3]
  · exact h.chain.snoc rfl
  · intro g hg b hb
    rcases List.mem_append.1 hg with hg | hg
    · exact h.small g hg b hb
    · rw [List.mem_singleton.1 hg] at hb; cases hb
  · show act.end_ + 0 ≤ _
    omega
theorem drop {g : Grp} {r : List Grp} (h : GoodLog R f0 L D (g :: r) act) : ∃ L' D', L.drop D = (L', D', 0) ∧ GoodLog R g.end_ L' D' r act ∧ L'.durable = L.durable := by
  obtain ⟨es, hg, he⟩ := h.disk
  cases es with
  | nil => cases he
  | cons e es' =>
    rw [List.cons_append, List.map_cons, List.map_cons] at he
    obtain ⟨h1, h2⟩ := List.cons.inj he
    obtain ⟨D1, hd1, hg1⟩ := hg.remove
    obtain ⟨D2, hd2, hg2⟩ := hg1.syncDir
    refine ⟨⟨r.map Grp.seg, L.act, L.durable⟩, D2, ?_, ⟨⟨es', hg2, h2⟩, rfl, h.eact, h.chain.2, fun x hx => h.small x (by rw [List.cons_append]; exact List.mem_cons_of_mem _ hx), h.few⟩, rfl⟩
    unfold LogV.drop
    rw [h.efull, List.map_cons]
    dsimp only
    rw [show g.seg.first = e.first from (Prod.mk.inj h1).1.symm, hd1]
    dsimp only
    rw [if_pos rfl, hd2]
/-- What is not durable is undone: k bodies of the active segment stay. -/
theorem undo (h : GoodLog R f0 L D full act) (k : Nat) (hd : L.durable = (⟨act.first, act.bodies.take k⟩ : Grp).seg) : ∃ L' D', L.undo D = (L', D', 0) ∧ GoodLog R f0 L' D' full ⟨act.first, act.bodies.take k⟩ ∧ L'.durable = L.durable := by
  have htxt : ∀ (bs : List (List UInt8)) (f k : Nat), framesL f (bs.take k) = (framesL f bs).take (framesL f (bs.take k)).length := by
    intro bs
    induction bs with
    | nil => intro f k; simp [framesL]
    | cons b r ih =>
      intro f k
      cases k with
      | zero => simp [framesL]
      | succ k =>
        show Frame.putF f b ++ framesL (f + 1) (r.take k) = (Frame.putF f b ++ framesL (f + 1) r).take (Frame.putF f b ++ framesL (f + 1) (r.take k)).length
        rw [List.length_append, List.take_length_add_append, ← ih (f + 1) k]
  have hle : (framesL act.first (act.bodies.take k)).length ≤ act.txt.length := by
    have := congrArg List.length (htxt act.bodies act.first k)
    rw [List.length_take] at this
    unfold Grp.txt
    omega
  have hchain : Chain f0 (full ++ [⟨act.first, act.bodies.take k⟩]) (⟨act.first, act.bodies.take k⟩ : Grp).end_ := h.chain.split.1.snoc rfl
  have hsmall : ∀ g ∈ full ++ [(⟨act.first, act.bodies.take k⟩ : Grp)], ∀ b ∈ g.bodies, b.length ≤ 2000 := by
    intro g hg b hb
    rcases List.mem_append.1 hg with hg | hg
    · exact h.small g (by simp [hg]) b hb
    · rw [List.mem_singleton.1 hg] at hb
      exact h.small act (by simp) b (List.mem_of_mem_take hb)
  have hfew : (⟨act.first, act.bodies.take k⟩ : Grp).end_ ≤ 1000000 := by
    have h1 : act.first + act.bodies.length ≤ 1000000 := h.few
    show act.first + (act.bodies.take k).length ≤ _
    rw [List.length_take]
    omega
  by_cases hs : L.same
  · have hlen : act.bodies.length = (act.bodies.take k).length := by
      have := hs.2.1
      rw [hd, h.eact] at this
      exact this.symm
    have htk : act.bodies.take k = act.bodies := List.take_of_length_le (by rw [List.length_take] at hlen; omega)
    refine ⟨L, D, ?_, ?_, rfl⟩
    · unfold LogV.undo; rw [if_pos hs]
    · rw [htk]; exact h
  · obtain ⟨pre, e, hg, h1, h2, h3⟩ := h.split
    obtain ⟨D', hd', hg'⟩ := hg.cut (framesL act.first (act.bodies.take k)).length (by rw [h3]; exact hle)
    refine ⟨{ L with act := L.durable }, D', ?_, ⟨pack h1 (e := ⟨e.first, e.idx, e.txt.take _⟩) h2 ?_ hg', h.efull, hd, hchain, hsmall, hfew⟩, rfl⟩
    · unfold LogV.undo
      have h4 := hd'
      rw [show e.first = L.durable.first by rw [h2, hd]; rfl, show (framesL act.first (act.bodies.take k)).length = L.durable.size by rw [hd]; rfl] at h4
      rw [if_neg hs, h4]
      dsimp only
      rw [if_pos rfl]
    · show e.txt.take _ = framesL act.first (act.bodies.take k)
      rw [h3]
      exact (htxt act.bodies act.first k).symm
end GoodLog
end Go.Proofs.YtndgnlblbjpogaaGreatDoor
namespace Go.Proofs.YtndgnlblbjpogaaGreatDoor
open Go Go.RowKit
theorem Lim.mono {N M : Nat} {D : DiskV} (h : Lim N D) (hNM : N ≤ M) (hM : M ≤ 1000000) : Lim M D :=
  ⟨hM, Nat.le_trans h.files hNM, Nat.le_trans h.names hNM, Nat.le_trans h.moves hNM, fun f hf => ⟨Nat.le_trans (h.each f hf).1 hNM, Nat.le_trans (h.each f hf).2 (Nat.mul_le_mul_right _ hNM)⟩⟩
theorem lim_find {N : Nat} {D : DiskV} (h : Lim N D) (name : ByteArray) : Lim N (D.find name).1 := by
  have h1 := DiskW.find_len D name
  exact ⟨h.le, by rw [h1.2.1]; exact h.files, by rw [h1.1]; exact h.names, by rw [h1.2.2]; exact h.moves, by rw [h1.2.1]; exact h.each⟩
theorem lim_fails {N : Nat} {D : DiskV} (h : Lim N D) : Lim N D.fails.1 := by
  have hfs := DiskW.fails_same D
  exact ⟨h.le, by rw [hfs.2.1]; exact h.files, by rw [hfs.1]; exact h.names, by rw [hfs.2.2.2.1]; exact h.moves, by rw [hfs.2.1]; exact h.each⟩
theorem lim_setFile {N : Nat} {D : DiskV} (h : Lim N D) (i : Nat) (f : FileV) (h1 : f.chgs.length ≤ N) (h2 : f.now.size ≤ N * 3000) : Lim N (D.setFile i f) := by
  refine ⟨h.le, by show (D.files.set i _).length ≤ N; rw [List.length_set]; exact h.files, h.names, h.moves, ?_⟩
  intro f' hf'
  have hf' : f' ∈ D.files.set i f := hf'
  rcases List.mem_or_eq_of_mem_set hf' with hm | hm
  · exact h.each f' hm
  · subst hm; exact ⟨h1, h2⟩
theorem lim_append {N : Nat} {D : DiskV} (h : Lim N D) (name s : ByteArray) (hs : s.size ≤ 3000) (hN : N + 1 ≤ 1000000) : Lim (N + 1) (D.append name s).1 := by
  have h0 := lim_find h name
  unfold DiskV.append
  obtain ⟨D1, oi, er, hfd⟩ : ∃ D1 oi er, D.find name = (D1, oi, er) := ⟨_, _, _, rfl⟩
  rw [hfd] at h0 ⊢
  dsimp only at h0
  have up : ∀ {X : DiskV}, Lim N X → Lim (N + 1) X := fun hx => hx.mono (by omega) hN
  cases oi with
  | none => exact up h0
  | some i =>
    dsimp only
    split
    · exact up h0
    · split
      · exact up (lim_fails h0)
      · cases hf : D1.files[i]? with
        | none => exact up h0
        | some f =>
          have he := h0.each f (List.mem_of_getElem? hf)
          refine lim_setFile (up (lim_fails h0)) i _ ?_ ?_
          · show (f.chgs ++ [_]).length ≤ _
            rw [List.length_append]; have := he.1; simpa using this
          · show (f.now ++ s).size ≤ _
            rw [ByteArray.size_append]; have := he.2; omega
theorem lim_cut {N : Nat} {D : DiskV} (h : Lim N D) (name : ByteArray) (n : Int) (hN : N + 1 ≤ 1000000) : Lim (N + 1) (D.cut name n).1 := by
  have h0 := lim_find h name
  unfold DiskV.cut
  obtain ⟨D1, oi, er, hfd⟩ : ∃ D1 oi er, D.find name = (D1, oi, er) := ⟨_, _, _, rfl⟩
  rw [hfd] at h0 ⊢
  dsimp only at h0
  have up : ∀ {X : DiskV}, Lim N X → Lim (N + 1) X := fun hx => hx.mono (by omega) hN
  cases oi with
  | none => exact up h0
  | some i =>
    dsimp only
    cases hf : D1.files[i]? with
    | none => exact up h0
    | some f =>
      have he := h0.each f (List.mem_of_getElem? hf)
      dsimp only
      split
      · exact up h0
      · refine lim_setFile (up h0) i _ ?_ ?_
        · show (f.chgs ++ [_]).length ≤ _
          rw [List.length_append]; have := he.1; simpa using this
        · show (f.now.extract 0 n.toNat).size ≤ _
          rw [ByteArray.size_extract]; have := he.2; omega
theorem lim_dir {N : Nat} {D : DiskV} (h : Lim N D) : Lim N D.syncDir.1 := by
  have h0 := lim_begin h
  unfold DiskV.syncDir
  obtain ⟨D1, e, hb⟩ : ∃ D1 e, D.begin = (D1, e) := ⟨_, _, rfl⟩
  rw [hb] at h0 ⊢
  dsimp only at h0 ⊢
  split
  · exact ⟨h0.le, h0.files, h0.names, Nat.zero_le _, h0.each⟩
  · exact h0
theorem ins_len (x : Bytes × Nat) (m : NMap) : (NMap.ins x m).length = m.length + 1 := by
  induction m with
  | nil => rfl
  | cons y r ih => unfold NMap.ins; split <;> simp [ih]
theorem del_len (m : NMap) (k : Bytes) : (m.del k).length ≤ m.length := List.length_filter_le _ _
theorem done_len (m : Move) (names : NMap) : (DiskV.done m names).length ≤ names.length + 1 := by
  unfold DiskV.done
  have h1 := del_len names (bytesOf m.src)
  split
  · omega
  · unfold NMap.put
    rw [ins_len]
    have h2 := del_len (names.del (bytesOf m.src)) (bytesOf m.dst)
    omega
theorem lim_moved {N : Nat} {D : DiskV} (h : Lim N D) (m : Move) (hN : N + 1 ≤ 1000000) : Lim (N + 1) (D.moved m) := by
  refine ⟨hN, Nat.le_succ_of_le h.files, ?_, ?_, (h.mono (by omega) hN).each⟩
  · show (DiskV.done m D.names).length ≤ N + 1
    have := done_len m D.names
    have := h.names
    omega
  · show (D.moves ++ [m]).length ≤ N + 1
    rw [List.length_append]
    have := h.moves
    simpa using this
theorem lim_create {N : Nat} {D : DiskV} (h : Lim N D) (name : ByteArray) (hN : N + 2 ≤ 1000000) : Lim (N + 2) (D.create name).1 := by
  have h0 := lim_find h name
  unfold DiskV.create
  obtain ⟨D1, oi, er, hfd⟩ : ∃ D1 oi er, D.find name = (D1, oi, er) := ⟨_, _, _, rfl⟩
  rw [hfd] at h0 ⊢
  dsimp only at h0 ⊢
  have up : ∀ {X : DiskV}, Lim N X → Lim (N + 2) X := fun hx => hx.mono (by omega) hN
  split
  · exact up h0
  · split
    · exact up h0
    · split
      · exact up h0
      · refine lim_moved (N := N + 1) (D := { D1 with files := D1.files ++ [⟨ByteArray.empty, ByteArray.empty, []⟩] }) ⟨by omega, ?_, Nat.le_succ_of_le h0.names, Nat.le_succ_of_le h0.moves, ?_⟩ _ hN
        · show (D1.files ++ [_]).length ≤ N + 1
          rw [List.length_append]
          have := h0.files
          simpa using this
        · intro f hf
          have hf' : f ∈ D1.files ++ [⟨ByteArray.empty, ByteArray.empty, []⟩] := hf
          rcases List.mem_append.1 hf' with hm | hm
          · exact (h0.mono (by omega) (by omega : N + 1 ≤ 1000000)).each f hm
          · rw [List.mem_singleton.1 hm]; exact ⟨Nat.zero_le _, Nat.zero_le _⟩
theorem lim_started {N : Nat} {D : DiskV} (h : Lim N D) (first : Nat) (hN : N + 2 ≤ 1000000) : Lim (N + 2) (D.started first).1 := by
  have h0 := lim_create h (Seg.nameB first) hN
  unfold DiskV.started
  obtain ⟨D1, e, hc⟩ : ∃ D1 e, D.create (Seg.nameB first) = (D1, e) := ⟨_, _, rfl⟩
  rw [hc] at h0 ⊢
  dsimp only at h0 ⊢
  split
  · exact lim_dir h0
  · exact h0
theorem lim_remove {N : Nat} {D : DiskV} (h : Lim N D) (name : ByteArray) (hN : N + 1 ≤ 1000000) : Lim (N + 1) (D.remove name).1 := by
  have h0 := lim_find h name
  unfold DiskV.remove
  obtain ⟨D1, oi, er, hfd⟩ : ∃ D1 oi er, D.find name = (D1, oi, er) := ⟨_, _, _, rfl⟩
  rw [hfd] at h0 ⊢
  dsimp only at h0
  cases oi with
  | none => exact h0.mono (by omega) hN
  | some i => exact lim_moved h0 _ hN
theorem lim_new (R : Nat) : Lim 0 (DiskV.new R) :=
  ⟨Nat.zero_le _, Nat.le_refl _, Nat.le_refl _, Nat.le_refl _, fun f hf => by cases hf⟩
/- A log's operations. -/
theorem lim_lsync {N : Nat} {L : LogV} {D : DiskV} (h : Lim N D) : Lim N (L.sync D).2.1 := by
  have h0 := lim_sync h (Seg.nameB L.durable.first)
  unfold LogV.sync
  split
  · exact h
  · obtain ⟨D1, e, hc⟩ : ∃ D1 e, D.sync (Seg.nameB L.durable.first) = (D1, e) := ⟨_, _, rfl⟩
    rw [hc] at h0 ⊢
    dsimp only at h0 ⊢
    split <;> exact h0
theorem lim_lundo {N : Nat} {L : LogV} {D : DiskV} (h : Lim N D) (hN : N + 1 ≤ 1000000) : Lim (N + 1) (L.undo D).2.1 := by
  have h0 := lim_cut h (Seg.nameB L.durable.first) L.durable.size hN
  unfold LogV.undo
  split
  · exact h.mono (by omega) hN
  · obtain ⟨D1, e, hc⟩ : ∃ D1 e, D.cut (Seg.nameB L.durable.first) L.durable.size = (D1, e) := ⟨_, _, rfl⟩
    rw [hc] at h0 ⊢
    dsimp only at h0 ⊢
    split <;> exact h0
theorem lim_lroll {N : Nat} {L : LogV} {D : DiskV} (h : Lim N D) (hN : N + 2 ≤ 1000000) : Lim (N + 2) (L.roll D).2.1 := by
  have h0 := lim_sync h (Seg.nameB L.act.first)
  unfold LogV.roll
  split
  · exact h.mono (by omega) hN
  · obtain ⟨D1, e, hc⟩ : ∃ D1 e, D.sync (Seg.nameB L.act.first) = (D1, e) := ⟨_, _, rfl⟩
    rw [hc] at h0 ⊢
    dsimp only at h0 ⊢
    split
    · have h1 := lim_started h0 L.act.end_ hN
      obtain ⟨D2, e2, st, hs⟩ : ∃ D2 e2 st, D1.started L.act.end_ = (D2, e2, st) := ⟨_, _, _, rfl⟩
      rw [hs] at h1 ⊢
      dsimp only at h1 ⊢
      split <;> exact h1
    · exact h0.mono (by omega) hN
theorem lim_ldrop {N : Nat} {L : LogV} {D : DiskV} (h : Lim N D) (hN : N + 1 ≤ 1000000) : Lim (N + 1) (L.drop D).2.1 := by
  unfold LogV.drop
  cases L.full with
  | nil => exact h.mono (by omega) hN
  | cons s r =>
    have h0 := lim_remove h (Seg.nameB s.first) hN
    dsimp only
    obtain ⟨D1, e, hc⟩ : ∃ D1 e, D.remove (Seg.nameB s.first) = (D1, e) := ⟨_, _, rfl⟩
    rw [hc] at h0 ⊢
    dsimp only at h0 ⊢
    split
    · exact lim_dir h0
    · exact h0
theorem lim_lappend {N : Nat} {L : LogV} {D : DiskV} (h : Lim N D) (body : ByteArray) (hq : L.act.end_ < 18446744073709551616) (hN : N + 1 ≤ 1000000) : Lim (N + 1) (L.append D body).2.1 := by
  unfold LogV.append
  split
  · exact h.mono (by omega) hN
  · rename_i hb
    dsimp only
    have hlen := Frame.putF_len L.act.end_ body.data.toList hq (by show body.data.toList.length ≤ 2000; simp; omega)
    have h0 := lim_append h (Seg.nameB L.act.first) ⟨(Frame.putF L.act.end_ body.data.toList).toArray⟩ (by
      show (Frame.putF L.act.end_ body.data.toList).length ≤ 3000
      have : body.data.toList.length ≤ 2000 := by simp; omega
      omega) hN
    obtain ⟨D1, e, hc⟩ : ∃ D1 e, D.append (Seg.nameB L.act.first) ⟨(Frame.putF L.act.end_ body.data.toList).toArray⟩ = (D1, e) := ⟨_, _, rfl⟩
    rw [hc] at h0 ⊢
    dsimp only at h0 ⊢
    split <;> exact h0
end Go.Proofs.YtndgnlblbjpogaaGreatDoor
namespace Go.Proofs.YtndgnlblbjpogaaGreatDoor
open Go Go.RowKit
theorem framesL_len (bs : List (List UInt8)) (hb : ∀ b ∈ bs, b.length ≤ 2000) : ∀ f, f + bs.length ≤ 1000000 → (framesL f bs).length ≤ bs.length * 2024 := by
  induction bs with
  | nil => intro f _; simp [framesL]
  | cons b r ih =>
    intro f hf
    rw [List.length_cons] at hf
    have h1 := Frame.putF_len f b (by omega) (hb b (by simp))
    have h2 := ih (fun x hx => hb x (by simp [hx])) (f + 1) (by omega)
    have h3 := hb b (by simp)
    rw [framesL, List.length_append, List.length_cons]
    omega
namespace GoodLog
variable {R f0 : Nat} {L : LogV} {D : DiskV} {full : List Grp} {act : Grp}
theorem ends (h : GoodLog R f0 L D full act) {g : Grp} (hg : g ∈ full ++ [act]) : g.end_ ≤ 1000000 := by
  have h1 := h.few
  have h2 := (h.chain.mem hg).2
  omega
theorem segOk (h : GoodLog R f0 L D full act) {g : Grp} (hg : g ∈ full ++ [act]) : g.seg.Ok := by
  have h1 : g.first + g.bodies.length ≤ 1000000 := h.ends hg
  have h2 := framesL_len g.bodies (h.small g hg) g.first h1
  refine ⟨?_, ?_, ?_⟩
  · show g.first + g.bodies.length < _; omega
  · show g.bodies.length ≤ _; omega
  · show (framesL g.first g.bodies).length ≤ _; omega
theorem ok (h : GoodLog R f0 L D full act) (hd : L.durable.Ok) : L.Ok := by
  refine ⟨fun s hs => ?_, hd⟩
  rw [h.segs] at hs
  obtain ⟨g, hg, rfl⟩ := List.mem_map.1 hs
  exact h.segOk hg
/-- A front of the active segment bears Go's numbers. -/
theorem takeOk (h : GoodLog R f0 L D full act) (k : Nat) : (⟨act.first, act.bodies.take k⟩ : Grp).seg.Ok := by
  have h1 : act.first + act.bodies.length ≤ 1000000 := h.few
  have hl : (act.bodies.take k).length ≤ act.bodies.length := by rw [List.length_take]; omega
  have h2 := framesL_len (act.bodies.take k) (fun b hb => h.small act (by simp) b (List.mem_of_mem_take hb)) act.first (by omega)
  refine ⟨?_, ?_, ?_⟩
  · show act.first + (act.bodies.take k).length < _; omega
  · show (act.bodies.take k).length ≤ _; omega
  · show (framesL act.first (act.bodies.take k)).length ≤ _; omega
theorem len_le (h : GoodLog R f0 L D full act) : L.segs.length = full.length + 1 := by
  rw [h.segs]; simp
end GoodLog
end Go.Proofs.YtndgnlblbjpogaaGreatDoor
