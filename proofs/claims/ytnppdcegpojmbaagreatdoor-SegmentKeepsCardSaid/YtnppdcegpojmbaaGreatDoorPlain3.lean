/- Plain laws of names and of a map of names. No walk stands here. · A disk that never fails, and holds just the segments' files: what its operations leave. No walk stands here. · A good disk: Create, Remove, New, begin of a segment; bounds. No walk stands here. -/
import Derived.Test.YtnppdcegpojmbaaGreatDoorSegIn
import Derived.Test.YtnppdcegpojmbaaGreatDoorDisk9
import Derived.Test.YtnppdcegpojmbaaGreatDoorSeg9
namespace Go.Proofs.YtnppdcegpojmbaaGreatDoor
open Go Go.RowKit
namespace NMap
theorem ins_perm (x : Bytes × Nat) (m : NMap) : (ins x m).Perm (x :: m) := by
  induction m with
  | nil => exact List.Perm.refl _
  | cons y r ih =>
    unfold ins
    split
    · exact List.Perm.refl _
    · exact (ih.cons y).trans (List.Perm.swap x y r)
theorem del_none {m : NMap} {k : Bytes} (h : ∀ p ∈ m, p.1 ≠ k) : m.del k = m := by
  unfold del
  exact List.filter_eq_self.2 (fun p hp => by simpa using h p hp)
theorem put_perm {m : NMap} {k : Bytes} {v : Nat} (h : ∀ p ∈ m, p.1 ≠ k) : (m.put k v).Perm ((k, v) :: m) := by
  unfold put; rw [del_none h]; exact ins_perm _ _
theorem get_mem' {m : NMap} {k : Bytes} {v : Nat} (hn : m.Pairwise (fun p q => p.1 ≠ q.1)) (h : (k, v) ∈ m) : m.get k = some v := by
  induction m with
  | nil => cases h
  | cons y r ih =>
    rw [List.pairwise_cons] at hn
    unfold get
    rw [List.find?_cons]
    rcases List.mem_cons.1 h with e | h'
    · subst e; simp
    · have hne : y.1 ≠ k := hn.1 _ h'
      rw [show decide (y.1 = k) = false from decide_eq_false hne]
      exact ih hn.2 h'
theorem get_none {m : NMap} {k : Bytes} (h : ∀ p ∈ m, p.1 ≠ k) : m.get k = none := by
  unfold get
  rw [List.find?_eq_none.2 (fun p hp => by simpa using h p hp)]
  rfl
theorem total_perm {m l : NMap} (h : m.Perm l) (f : Nat → Nat) : m.total f = l.total f := by
  unfold total
  exact (h.map _).sum_nat
end NMap
namespace Seg
def numVal (l : List UInt8) (a : Nat) : Nat := l.foldl (fun a c => a * 10 + (c.toNat - 48)) a
theorem numVal_zeros (n : Nat) (l : List UInt8) : numVal (List.replicate n 48 ++ l) 0 = numVal l 0 := by
  induction n with
  | zero => rfl
  | succ n ih => rw [List.replicate_succ, List.cons_append]; exact ih
theorem numVal_dec (u : Nat) : numVal (Lib.decDigits u) 0 = u := by
  induction u using Nat.strongRecOn with
  | _ u ih =>
    rw [Lib.decDigits]
    split
    · rename_i h
      simp [numVal]
      omega
    · rename_i h
      have h1 := ih (u / 10) (by omega)
      unfold numVal at h1 ⊢
      rw [List.foldl_append, h1]
      simp
      omega
theorem nameL_inj {u v : Nat} (h : nameL u = nameL v) : u = v := by
  unfold nameL at h
  have h1 := congrArg (fun l => numVal l 0) (List.cons.inj h).2
  simp only [numVal_zeros, numVal_dec] at h1
  exact h1
theorem dec_ok (u : Nat) : ∀ c ∈ Lib.decDigits u, 48 ≤ c.toNat ∧ c.toNat ≤ 57 := by
  induction u using Nat.strongRecOn with
  | _ u ih =>
    intro c hc
    rw [Lib.decDigits] at hc
    split at hc
    · rename_i h
      have e : (UInt8.ofNat (48 + u)).toNat = 48 + u := by simp; omega
      rw [List.mem_singleton.1 hc, e]; omega
    · rename_i h
      have e : (UInt8.ofNat (48 + u % 10)).toNat = 48 + u % 10 := by simp; omega
      rcases List.mem_append.1 hc with hc | hc
      · exact ih (u / 10) (by omega) c hc
      · rw [List.mem_singleton.1 hc, e]; omega
theorem nameB_named {u : Nat} (hu : u < 18446744073709551616) : DiskV.named (nameB u) = true := by
  have hsz : (nameB u).size = 21 := nameL_length hu
  unfold DiskV.named
  rw [hsz]
  have hall : ((nameB u).data.toList.all fun c => decide (33 ≤ c.toNat) && decide (c.toNat ≤ 126)) = true := by
    rw [List.all_eq_true]
    intro c hc
    have hc : c ∈ nameL u := by simpa [nameB] using hc
    unfold nameL at hc
    rcases List.mem_cons.1 hc with rfl | hc
    · decide
    · rcases List.mem_append.1 hc with hc | hc
      · rw [(List.mem_replicate.1 hc).2]; decide
      · have := dec_ok u c hc
        simp; omega
  rw [hall]; rfl
theorem bytesOf_nameB (u : Nat) : bytesOf (nameB u) = nameL u := by simp [bytesOf, nameB]
end Seg
end Go.Proofs.YtnppdcegpojmbaaGreatDoor
namespace Go.Proofs.YtnppdcegpojmbaaGreatDoor
open Go Go.RowKit
structure Ent where
  first : Nat
  idx : Nat
  txt : List UInt8
structure Good (R : Nat) (D : DiskV) (es : List Ent) : Prop where
  wf : D.Wf
  left : D.left = -1
  fail : D.fail = 0
  room : D.room = R
  names : D.names.Perm (es.map fun e => (Seg.nameL e.first, e.idx))
  firsts : es.Pairwise (fun a b => a.first ≠ b.first)
  idxs : es.Pairwise (fun a b => a.idx ≠ b.idx)
  files : ∀ e ∈ es, ∃ f, D.files[e.idx]? = some f ∧ f.now.data.toList = e.txt
namespace Good
variable {R : Nat} {D : DiskV} {es pre : List Ent} {e : Ent}
theorem keys (h : Good R D es) : D.names.Pairwise (fun p q => p.1 ≠ q.1) := by
  refine (h.names.pairwise_iff (fun hab => Ne.symm hab)).2 ?_
  rw [List.pairwise_map]
  exact h.firsts.imp (fun hab hn => hab (Seg.nameL_inj hn))
theorem get (h : Good R D es) (he : e ∈ es) : D.names.get (bytesOf (Seg.nameB e.first)) = some e.idx := by
  rw [Seg.bytesOf_nameB]
  exact NMap.get_mem' h.keys (h.names.mem_iff.2 (List.mem_map.2 ⟨e, he, rfl⟩))
theorem nokey (h : Good R D es) {u : Nat} (hu : ∀ e ∈ es, e.first ≠ u) : ∀ p ∈ D.names, p.1 ≠ Seg.nameL u := by
  intro p hp hk
  obtain ⟨e, he, rfl⟩ := List.mem_map.1 (h.names.mem_iff.1 hp)
  exact hu e he (Seg.nameL_inj hk)
theorem begin_eq (h : Good R D es) : D.begin = ({ D with ops := wrap64 (D.ops + 1) }, 0) := by
  unfold DiskV.begin
  rw [if_neg (by rw [h.left]; decide), if_neg (by rw [h.left]; decide)]
theorem start (h : Good R D es) : Good R D.begin.1 es := by
  have hw := DiskW.begin_wf h.wf
  rw [h.begin_eq] at hw ⊢
  exact ⟨hw, h.left, h.fail, h.room, h.names, h.firsts, h.idxs, h.files⟩
theorem find (h : Good R D es) (he : e ∈ es) : D.find (Seg.nameB e.first) = (D.begin.1, some e.idx, 0) := by
  unfold DiskV.find
  rw [if_neg (by rw [h.left]; decide), h.get he]
theorem find_new (h : Good R D es) {u : Nat} (hu : ∀ e ∈ es, e.first ≠ u) : D.find (Seg.nameB u) = (D.begin.1, none, 5) := by
  unfold DiskV.find
  rw [if_neg (by rw [h.left]; decide), Seg.bytesOf_nameB, NMap.get_none (h.nokey hu)]
theorem size_at (h : Good R D es) (he : e ∈ es) : D.sizeAt e.idx = e.txt.length := by
  obtain ⟨f, h1, h2⟩ := h.files e he
  unfold DiskV.sizeAt
  rw [h1, ← h2]
  simp
theorem used (h : Good R D es) : D.used = (es.map (·.txt.length)).sum := by
  unfold DiskV.used
  rw [NMap.total_perm h.names]
  unfold NMap.total
  rw [List.map_map]
  congr 1
  refine List.map_congr_left (fun e he => ?_)
  exact h.size_at he
theorem fails_eq (h : Good R D es) : D.fails = (D, false) := by
  unfold DiskV.fails
  rw [if_pos (by rw [h.fail]; decide)]
theorem setFile (h : Good R D (pre ++ [e])) (f : FileV) : Good R (D.setFile e.idx f) (pre ++ [⟨e.first, e.idx, f.now.data.toList⟩]) := by
  have hlen : (D.files.set e.idx f).length = D.files.length := List.length_set
  obtain ⟨f0, hf0, _⟩ := h.files e (by simp)
  have hlt := (List.getElem?_eq_some_iff.1 hf0).1
  refine ⟨⟨h.wf.room, h.wf.ops, h.wf.fail, h.wf.left, ?_, ?_, ?_⟩, h.left, h.fail, h.room, ?_, ?_, ?_, ?_⟩
  · intro p hp; show _ < (D.files.set _ _).length; rw [hlen]; exact h.wf.names p hp
  · intro p hp; show _ < (D.files.set _ _).length; rw [hlen]; exact h.wf.base p hp
  · intro m hm hz; show _ < (D.files.set _ _).length; rw [hlen]; exact h.wf.moves m hm hz
  · show D.names.Perm _
    have := h.names
    simpa using this
  · have := h.firsts
    simp only [List.pairwise_append, List.pairwise_singleton, List.mem_singleton, forall_eq] at this ⊢
    exact this
  · have := h.idxs
    simp only [List.pairwise_append, List.pairwise_singleton, List.mem_singleton, forall_eq] at this ⊢
    exact this
  · intro x hx
    rcases List.mem_append.1 hx with hx | hx
    · obtain ⟨fx, h1, h2⟩ := h.files x (by simp [hx])
      have hne : e.idx ≠ x.idx := by
        have := h.idxs
        simp only [List.pairwise_append, List.mem_singleton, forall_eq] at this
        exact Ne.symm (this.2.2 x hx)
      exact ⟨fx, by show (D.files.set _ _)[_]? = _; rw [List.getElem?_set_ne hne]; exact h1, h2⟩
    · rw [List.mem_singleton.1 hx]
      exact ⟨f, by show (D.files.set _ _)[_]? = _; rw [List.getElem?_set_self hlt], rfl⟩
theorem append (h : Good R D (pre ++ [e])) (s : ByteArray) (hfit : ((pre ++ [e]).map (·.txt.length)).sum + s.size ≤ R) :
    ∃ D', D.append (Seg.nameB e.first) s = (D', 0) ∧ Good R D' (pre ++ [⟨e.first, e.idx, e.txt ++ s.data.toList⟩]) := by
  have he : e ∈ pre ++ [e] := by simp
  have hs := h.start
  obtain ⟨f, hf, ht⟩ := hs.files e he
  have hu := hs.used
  refine ⟨D.begin.1.setFile e.idx ⟨f.base, f.now ++ s, f.chgs ++ [⟨s, -1⟩]⟩, ?_, ?_⟩
  · unfold DiskV.append
    rw [h.find he]
    dsimp only
    rw [if_neg (by rw [hs.room, hu]; omega), hs.fails_eq]
    dsimp only
    rw [if_neg (by decide), hf]
  · have := hs.setFile ⟨f.base, f.now ++ s, f.chgs ++ [⟨s, -1⟩]⟩
    have e1 : (f.now ++ s).data.toList = e.txt ++ s.data.toList := by rw [← ht]; simp
    rw [← e1]
    exact this
theorem sync (h : Good R D (pre ++ [e])) : ∃ D', D.sync (Seg.nameB e.first) = (D', 0) ∧ Good R D' (pre ++ [e]) := by
  have he : e ∈ pre ++ [e] := by simp
  have hs := h.start
  obtain ⟨f, hf, ht⟩ := hs.files e he
  refine ⟨D.begin.1.setFile e.idx ⟨f.now, f.now, []⟩, ?_, ?_⟩
  · unfold DiskV.sync
    rw [h.find he]
    dsimp only
    rw [hs.fails_eq]
    dsimp only
    rw [if_neg (by decide), hf]
  · have := hs.setFile ⟨f.now, f.now, []⟩
    have e1 : f.now.data.toList = e.txt := ht
    dsimp only at this
    rw [e1] at this
    exact this
theorem cut (h : Good R D (pre ++ [e])) (n : Nat) (hn : n ≤ e.txt.length) : ∃ D', D.cut (Seg.nameB e.first) n = (D', 0) ∧ Good R D' (pre ++ [⟨e.first, e.idx, e.txt.take n⟩]) := by
  have he : e ∈ pre ++ [e] := by simp
  have hs := h.start
  obtain ⟨f, hf, ht⟩ := hs.files e he
  have hsz : f.now.size = e.txt.length := by rw [← ht]; simp
  refine ⟨D.begin.1.setFile e.idx ⟨f.base, f.now.extract 0 n, f.chgs ++ [⟨ByteArray.empty, n⟩]⟩, ?_, ?_⟩
  · unfold DiskV.cut
    rw [h.find he]
    dsimp only
    rw [hf]
    dsimp only
    rw [if_neg (by omega)]
    rfl
  · have := hs.setFile ⟨f.base, f.now.extract 0 n, f.chgs ++ [⟨ByteArray.empty, n⟩]⟩
    have e1 : (f.now.extract 0 n).data.toList = e.txt.take n := by
      rw [← ht, ByteArray.data_extract, Array.toList_extract, List.extract_eq_take_drop]; rfl
    dsimp only at this
    rw [e1] at this
    exact this
theorem syncDir (h : Good R D es) : ∃ D', D.syncDir = (D', 0) ∧ Good R D' es := by
  have hs := h.start
  refine ⟨{ D.begin.1 with base := D.begin.1.names, moves := [] }, ?_, ?_⟩
  · unfold DiskV.syncDir
    rw [h.begin_eq]
    rfl
  · exact ⟨⟨hs.wf.room, hs.wf.ops, hs.wf.fail, hs.wf.left, hs.wf.names, hs.wf.names, fun m hm => absurd hm (by simp)⟩, hs.left, hs.fail, hs.room, hs.names, hs.firsts, hs.idxs, hs.files⟩
theorem read (h : Good R D es) (he : e ∈ es) : D.read (Seg.nameB e.first) = (⟨e.txt.toArray⟩, 0) := by
  obtain ⟨f, hf, ht⟩ := h.files e he
  unfold DiskV.read
  rw [if_neg (by rw [h.left]; decide), h.get he]
  dsimp only
  rw [hf]
  show (f.now, (0 : Int)) = _
  rw [str_of ht]
end Good
end Go.Proofs.YtnppdcegpojmbaaGreatDoor
namespace Go.Proofs.YtnppdcegpojmbaaGreatDoor
open Go Go.RowKit
namespace Good
variable {R : Nat} {D : DiskV} {es pre : List Ent} {e : Ent}
theorem new (R : Nat) (h : R ≤ 9223372036854775807) : Good R (DiskV.new R) [] :=
  ⟨DiskW.new_wf R (by omega), rfl, rfl, by show max (R : Int) 0 = R; omega, List.Perm.refl _, List.Pairwise.nil, List.Pairwise.nil, fun e he => by cases he⟩
theorem idx_lt (h : Good R D es) (he : e ∈ es) : e.idx < D.files.length := by
  obtain ⟨f, h1, _⟩ := h.files e he
  exact (List.getElem?_eq_some_iff.1 h1).1
theorem create (h : Good R D es) {u : Nat} (hu : u < 18446744073709551616) (hn : ∀ e ∈ es, e.first ≠ u) :
    ∃ D', D.create (Seg.nameB u) = (D', 0) ∧ Good R D' (es ++ [⟨u, D.files.length, []⟩]) := by
  have hs := h.start
  have hfl : D.begin.1.files = D.files := (DiskW.begin_len D).2.1
  have hsz : (Seg.nameB u).size = 21 := Seg.nameL_length hu
  have hdel : D.begin.1.names.del (bytesOf ByteArray.empty) = D.begin.1.names := NMap.del_none (fun p hp hk => by
    obtain ⟨e, _, rfl⟩ := List.mem_map.1 (hs.names.mem_iff.1 hp)
    have h1 := congrArg List.length hk
    simp [Seg.nameL, bytesOf] at h1)
  have hdone : DiskV.done ⟨ByteArray.empty, Seg.nameB u, D.files.length⟩ D.begin.1.names = D.begin.1.names.put (Seg.nameL u) D.files.length := by
    unfold DiskV.done
    rw [if_neg (by show ¬ (Seg.nameB u).size = 0; omega)]
    dsimp only
    rw [hdel, Seg.bytesOf_nameB]
  refine ⟨({ D.begin.1 with files := D.begin.1.files ++ [newFile] } : DiskV).moved ⟨ByteArray.empty, Seg.nameB u, D.begin.1.files.length⟩, ?_, ?_⟩
  · unfold DiskV.create
    rw [h.find_new hn]
    dsimp only
    rw [if_neg (by decide), if_neg (by rw [Seg.nameB_named hu]; decide), if_neg (by decide)]
    rfl
  · rw [hfl]
    have hl : (D.files ++ [newFile]).length = D.files.length + 1 := by simp
    have hnames : (DiskV.done ⟨ByteArray.empty, Seg.nameB u, D.files.length⟩ D.begin.1.names).Perm ((es ++ [⟨u, D.files.length, []⟩] : List Ent).map fun e => (Seg.nameL e.first, e.idx)) := by
      rw [hdone, List.map_append]
      refine (NMap.put_perm (hs.nokey hn)).trans ?_
      refine (List.Perm.cons _ hs.names).trans ?_
      exact (List.perm_append_singleton _ _).symm
    refine ⟨⟨hs.wf.room, hs.wf.ops, hs.wf.fail, hs.wf.left, ?_, ?_, ?_⟩, hs.left, hs.fail, hs.room, hnames, ?_, ?_, ?_⟩
    · intro p hp
      show _ < (D.files ++ [newFile]).length
      rw [hl]
      obtain ⟨x, hx, rfl⟩ := List.mem_map.1 (hnames.mem_iff.1 hp)
      rcases List.mem_append.1 hx with hx | hx
      · exact Nat.lt_succ_of_lt (h.idx_lt hx)
      · rw [List.mem_singleton.1 hx]; exact Nat.lt_succ_self _
    · intro p hp
      show _ < (D.files ++ [newFile]).length
      rw [hl, ← hfl]; exact Nat.lt_succ_of_lt (hs.wf.base p hp)
    · intro m hm hz
      show _ < (D.files ++ [newFile]).length
      rw [hl]
      rcases List.mem_append.1 (show m ∈ D.begin.1.moves ++ [_] from hm) with hm | hm
      · rw [← hfl]; exact Nat.lt_succ_of_lt (hs.wf.moves m hm hz)
      · rw [List.mem_singleton.1 hm]; exact Nat.lt_succ_self _
    · rw [List.pairwise_append]
      exact ⟨h.firsts, by simp, fun a ha b hb => by rw [List.mem_singleton.1 hb]; exact hn a ha⟩
    · rw [List.pairwise_append]
      exact ⟨h.idxs, by simp, fun a ha b hb => by rw [List.mem_singleton.1 hb]; exact Nat.ne_of_lt (h.idx_lt ha)⟩
    · intro x hx
      rcases List.mem_append.1 hx with hx | hx
      · obtain ⟨f, h1, h2⟩ := h.files x hx
        exact ⟨f, by show (D.files ++ [newFile])[_]? = _; rw [List.getElem?_append_left (h.idx_lt hx)]; exact h1, h2⟩
      · rw [List.mem_singleton.1 hx]
        exact ⟨newFile, by show (D.files ++ [newFile])[D.files.length]? = _; rw [List.getElem?_append_right (Nat.le_refl _), Nat.sub_self]; rfl, rfl⟩
theorem started (h : Good R D es) {u : Nat} (hu : u < 18446744073709551616) (hn : ∀ e ∈ es, e.first ≠ u) :
    ∃ D' i, D.started u = (D', 0, true) ∧ Good R D' (es ++ [⟨u, i, []⟩]) := by
  obtain ⟨D1, h1, g1⟩ := h.create hu hn
  obtain ⟨D2, h2, g2⟩ := g1.syncDir
  refine ⟨D2, D.files.length, ?_, g2⟩
  unfold DiskV.started
  rw [h1]
  dsimp only
  rw [if_pos rfl, h2]
theorem remove (h : Good R D (e :: es)) : ∃ D', D.remove (Seg.nameB e.first) = (D', 0) ∧ Good R D' es := by
  have hs := h.start
  have hfl : D.begin.1.files = D.files := (DiskW.begin_len D).2.1
  refine ⟨D.begin.1.moved ⟨Seg.nameB e.first, ByteArray.empty, 0⟩, ?_, ?_⟩
  · unfold DiskV.remove
    rw [h.find (List.mem_cons_self ..)]
  · have hp := List.pairwise_cons.1 h.firsts
    have hnames : (DiskV.done ⟨Seg.nameB e.first, ByteArray.empty, 0⟩ D.begin.1.names).Perm (es.map fun e => (Seg.nameL e.first, e.idx)) := by
      unfold DiskV.done
      dsimp only
      rw [if_pos (show ByteArray.empty.size = 0 from rfl), Seg.bytesOf_nameB]
      refine (hs.names.filter _).trans ?_
      rw [List.map_cons, List.filter_cons_of_neg (by simp), List.filter_eq_self.2]
      intro p hp'
      obtain ⟨x, hx, rfl⟩ := List.mem_map.1 hp'
      have := hp.1 x hx
      simp only [decide_eq_true_eq]
      exact fun hk => this (Seg.nameL_inj hk).symm
    refine ⟨⟨hs.wf.room, hs.wf.ops, hs.wf.fail, hs.wf.left, ?_, hs.wf.base, ?_⟩, hs.left, hs.fail, hs.room, hnames, hp.2, (List.pairwise_cons.1 h.idxs).2, fun x hx => hs.files x (by simp [hx])⟩
    · intro p hp'
      obtain ⟨x, hx, rfl⟩ := List.mem_map.1 (hnames.mem_iff.1 hp')
      show x.idx < D.begin.1.files.length
      rw [hfl]; exact h.idx_lt (by simp [hx])
    · intro m hm hz
      rcases List.mem_append.1 (show m ∈ D.begin.1.moves ++ [_] from hm) with hm | hm
      · exact hs.wf.moves m hm hz
      · rw [List.mem_singleton.1 hm] at hz; exact absurd rfl hz
end Good
end Go.Proofs.YtnppdcegpojmbaaGreatDoor
