/- A disk that never fails, and what files it has: names and texts, in whatever order; what each operation leaves. Plain: no program stands here. · A good log on a disk that never fails and has other files besides: what its functions answer and leave. Plain: no program stands here. -/
import Derived.Test.YtndgnlblbjpogaaGreatDoorPlain7
namespace Go.Proofs.YtndgnlblbjpogaaGreatDoor
open Go Go.RowKit
/-- A file: its name, its place, its text. -/
structure FEnt where
  key : ByteArray
  idx : Nat
  txt : List UInt8
abbrev FPair := ByteArray × List UInt8
theorem bytesOf_inj {a b : ByteArray} (h : bytesOf a = bytesOf b) : a = b := by
  cases a with | mk a => cases b with | mk b => exact congrArg ByteArray.mk (Array.ext' (by simpa [bytesOf] using h))
theorem bytesOf_len (a : ByteArray) : (bytesOf a).length = a.size := by simp [bytesOf]
structure FilesE (R : Nat) (D : DiskV) (es : List FEnt) : Prop where
  wf : D.Wf
  left : D.left = -1
  fail : D.fail = 0
  room : D.room = R
  names : D.names.Perm (es.map fun e => (bytesOf e.key, e.idx))
  named : ∀ e ∈ es, DiskV.named e.key = true
  keys : es.Pairwise (fun a b => a.key ≠ b.key)
  idxs : es.Pairwise (fun a b => a.idx ≠ b.idx)
  files : ∀ e ∈ es, ∃ f, D.files[e.idx]? = some f ∧ f.now.data.toList = e.txt
def DiskV.rename (D : DiskV) (src dst : ByteArray) : DiskV × Int :=
  match D.find src with
  | (D1, none, e) => (D1, e)
  | (D1, some i, _) => if DiskV.named dst = false then (D1, 3) else (D1.moved ⟨src, dst, i⟩, 0)
namespace FilesE
variable {R : Nat} {D : DiskV} {es r : List FEnt} {e : FEnt}
theorem perm (h : FilesE R D es) (hp : es.Perm r) : FilesE R D r :=
  ⟨h.wf, h.left, h.fail, h.room, h.names.trans (hp.map _), fun e he => h.named e (hp.mem_iff.2 he), (hp.pairwise_iff (fun hab => Ne.symm hab)).1 h.keys, (hp.pairwise_iff (fun hab => Ne.symm hab)).1 h.idxs, fun e he => h.files e (hp.mem_iff.2 he)⟩
theorem nkeys (h : FilesE R D es) : D.names.Pairwise (fun p q => p.1 ≠ q.1) := by
  refine (h.names.pairwise_iff (fun hab => Ne.symm hab)).2 ?_
  rw [List.pairwise_map]
  exact h.keys.imp (fun hab hn => hab (bytesOf_inj hn))
theorem get (h : FilesE R D es) (he : e ∈ es) : D.names.get (bytesOf e.key) = some e.idx :=
  NMap.get_mem' h.nkeys (h.names.mem_iff.2 (List.mem_map.2 ⟨e, he, rfl⟩))
theorem nokey (h : FilesE R D es) {u : ByteArray} (hu : ∀ e ∈ es, e.key ≠ u) : ∀ p ∈ D.names, p.1 ≠ bytesOf u := by
  intro p hp hk
  obtain ⟨e, he, rfl⟩ := List.mem_map.1 (h.names.mem_iff.1 hp)
  exact hu e he (bytesOf_inj hk)
theorem begin_eq (h : FilesE R D es) : D.begin = ({ D with ops := wrap64 (D.ops + 1) }, 0) := by
  unfold DiskV.begin
  rw [if_neg (by rw [h.left]; decide), if_neg (by rw [h.left]; decide)]
theorem start (h : FilesE R D es) : FilesE R D.begin.1 es := by
  have hw := DiskW.begin_wf h.wf
  rw [h.begin_eq] at hw ⊢
  exact ⟨hw, h.left, h.fail, h.room, h.names, h.named, h.keys, h.idxs, h.files⟩
theorem find (h : FilesE R D es) (he : e ∈ es) : D.find e.key = (D.begin.1, some e.idx, 0) := by
  unfold DiskV.find
  rw [if_neg (by rw [h.left]; decide), h.get he]
theorem find_new (h : FilesE R D es) {u : ByteArray} (hu : ∀ e ∈ es, e.key ≠ u) : D.find u = (D.begin.1, none, 5) := by
  unfold DiskV.find
  rw [if_neg (by rw [h.left]; decide), NMap.get_none (h.nokey hu)]
theorem size_at (h : FilesE R D es) (he : e ∈ es) : D.sizeAt e.idx = e.txt.length := by
  obtain ⟨f, h1, h2⟩ := h.files e he
  unfold DiskV.sizeAt
  rw [h1, ← h2]
  simp
theorem used (h : FilesE R D es) : D.used = (es.map (·.txt.length)).sum := by
  unfold DiskV.used
  rw [NMap.total_perm h.names]
  unfold NMap.total
  rw [List.map_map]
  congr 1
  refine List.map_congr_left (fun e he => ?_)
  exact h.size_at he
theorem fails_eq (h : FilesE R D es) : D.fails = (D, false) := by
  unfold DiskV.fails
  rw [if_pos (by rw [h.fail]; decide)]
theorem idx_lt (h : FilesE R D es) (he : e ∈ es) : e.idx < D.files.length := by
  obtain ⟨f, h1, _⟩ := h.files e he
  exact (List.getElem?_eq_some_iff.1 h1).1
theorem setFile (h : FilesE R D (e :: r)) (f : FileV) : FilesE R (D.setFile e.idx f) (⟨e.key, e.idx, f.now.data.toList⟩ :: r) := by
  have hlen : (D.files.set e.idx f).length = D.files.length := List.length_set
  have hlt := h.idx_lt (List.mem_cons_self ..)
  have hi := List.pairwise_cons.1 h.idxs
  have hk := List.pairwise_cons.1 h.keys
  refine ⟨⟨h.wf.room, h.wf.ops, h.wf.fail, h.wf.left, ?_, ?_, ?_⟩, h.left, h.fail, h.room, h.names, ?_, List.pairwise_cons.2 ⟨hk.1, hk.2⟩, List.pairwise_cons.2 ⟨hi.1, hi.2⟩, ?_⟩
  · intro p hp; show _ < (D.files.set _ _).length; rw [hlen]; exact h.wf.names p hp
  · intro p hp; show _ < (D.files.set _ _).length; rw [hlen]; exact h.wf.base p hp
  · intro m hm hz; show _ < (D.files.set _ _).length; rw [hlen]; exact h.wf.moves m hm hz
  · intro x hx
    rcases List.mem_cons.1 hx with rfl | hx
    · exact h.named e (List.mem_cons_self ..)
    · exact h.named x (List.mem_cons_of_mem _ hx)
  · intro x hx
    rcases List.mem_cons.1 hx with rfl | hx
    · exact ⟨f, by show (D.files.set _ _)[_]? = _; rw [List.getElem?_set_self hlt], rfl⟩
    · obtain ⟨fx, h1, h2⟩ := h.files x (List.mem_cons_of_mem _ hx)
      exact ⟨fx, by show (D.files.set _ _)[_]? = _; rw [List.getElem?_set_ne (hi.1 x hx)]; exact h1, h2⟩
theorem append (h : FilesE R D (e :: r)) (s : ByteArray) (hfit : ((e :: r).map (·.txt.length)).sum + s.size ≤ R) :
    ∃ D', D.append e.key s = (D', 0) ∧ FilesE R D' (⟨e.key, e.idx, e.txt ++ s.data.toList⟩ :: r) := by
  have he : e ∈ e :: r := List.mem_cons_self ..
  have hs := h.start
  obtain ⟨f, hf, ht⟩ := hs.files e he
  have hu := hs.used
  refine ⟨D.begin.1.setFile e.idx ⟨f.base, f.now ++ s, f.chgs ++ [⟨s, -1⟩]⟩, ?_, ?_⟩
  · unfold DiskV.append
    rw [h.find he]
    dsimp only
    rw [if_neg (by rw [hs.room, hu]; omega), hs.fails_eq]
    dsimp only
    rw [if_neg (by decide), hf]
  · have := hs.setFile ⟨f.base, f.now ++ s, f.chgs ++ [⟨s, -1⟩]⟩
    have e1 : (f.now ++ s).data.toList = e.txt ++ s.data.toList := by rw [← ht]; simp
    rw [← e1]
    exact this
theorem append_full (h : FilesE R D es) (he : e ∈ es) (s : ByteArray) (hfit : R < (es.map (·.txt.length)).sum + s.size) :
    ∃ D', D.append e.key s = (D', 9) ∧ FilesE R D' es := by
  have hs := h.start
  have hu := hs.used
  refine ⟨D.begin.1, ?_, hs⟩
  unfold DiskV.append
  rw [h.find he]
  dsimp only
  rw [if_pos (by rw [hs.room, hu]; omega)]
theorem sync (h : FilesE R D (e :: r)) : ∃ D', D.sync e.key = (D', 0) ∧ FilesE R D' (e :: r) := by
  have he : e ∈ e :: r := List.mem_cons_self ..
  have hs := h.start
  obtain ⟨f, hf, ht⟩ := hs.files e he
  refine ⟨D.begin.1.setFile e.idx ⟨f.now, f.now, []⟩, ?_, ?_⟩
  · unfold DiskV.sync
    rw [h.find he]
    dsimp only
    rw [hs.fails_eq]
    dsimp only
    rw [if_neg (by decide), hf]
  · have := hs.setFile ⟨f.now, f.now, []⟩
    have e1 : f.now.data.toList = e.txt := ht
    dsimp only at this
    rw [e1] at this
    exact this
theorem cut (h : FilesE R D (e :: r)) (n : Nat) (hn : n ≤ e.txt.length) : ∃ D', D.cut e.key n = (D', 0) ∧ FilesE R D' (⟨e.key, e.idx, e.txt.take n⟩ :: r) := by
  have he : e ∈ e :: r := List.mem_cons_self ..
  have hs := h.start
  obtain ⟨f, hf, ht⟩ := hs.files e he
  have hsz : f.now.size = e.txt.length := by rw [← ht]; simp
  refine ⟨D.begin.1.setFile e.idx ⟨f.base, f.now.extract 0 n, f.chgs ++ [⟨ByteArray.empty, n⟩]⟩, ?_, ?_⟩
  · unfold DiskV.cut
    rw [h.find he]
    dsimp only
    rw [hf]
    dsimp only
    rw [if_neg (by omega)]
    rfl
  · have := hs.setFile ⟨f.base, f.now.extract 0 n, f.chgs ++ [⟨ByteArray.empty, n⟩]⟩
    have e1 : (f.now.extract 0 n).data.toList = e.txt.take n := by
      rw [← ht, ByteArray.data_extract, Array.toList_extract, List.extract_eq_take_drop]; rfl
    dsimp only at this
    rw [e1] at this
    exact this
theorem syncDir (h : FilesE R D es) : ∃ D', D.syncDir = (D', 0) ∧ FilesE R D' es := by
  have hs := h.start
  refine ⟨{ D.begin.1 with base := D.begin.1.names, moves := [] }, ?_, ?_⟩
  · unfold DiskV.syncDir
    rw [h.begin_eq]
    rfl
  · exact ⟨⟨hs.wf.room, hs.wf.ops, hs.wf.fail, hs.wf.left, hs.wf.names, hs.wf.names, fun m hm => absurd hm (by simp)⟩, hs.left, hs.fail, hs.room, hs.names, hs.named, hs.keys, hs.idxs, hs.files⟩
theorem read (h : FilesE R D es) (he : e ∈ es) : D.read e.key = (⟨e.txt.toArray⟩, 0) := by
  obtain ⟨f, hf, ht⟩ := h.files e he
  unfold DiskV.read
  rw [if_neg (by rw [h.left]; decide), h.get he]
  dsimp only
  rw [hf]
  show (f.now, (0 : Int)) = _
  rw [str_of ht]
theorem read_none (h : FilesE R D es) {u : ByteArray} (hu : ∀ e ∈ es, e.key ≠ u) : D.read u = (ByteArray.empty, 5) := by
  unfold DiskV.read
  rw [if_neg (by rw [h.left]; decide), NMap.get_none (h.nokey hu)]
theorem new (R : Nat) (h : R ≤ 9223372036854775807) : FilesE R (DiskV.new R) [] :=
  ⟨DiskW.new_wf R (by omega), rfl, rfl, by show max (R : Int) 0 = R; omega, List.Perm.refl _, fun e he => absurd he (by simp), List.Pairwise.nil, List.Pairwise.nil, fun e he => absurd he (by simp)⟩
theorem ne_nil (h : FilesE R D es) : ∀ p ∈ D.names, p.1 ≠ bytesOf ByteArray.empty := by
  intro p hp hk
  obtain ⟨e, he, rfl⟩ := List.mem_map.1 (h.names.mem_iff.1 hp)
  have h1 := h.named e he
  have h2 := congrArg List.length hk
  dsimp only at h2
  rw [bytesOf_len] at h2
  unfold DiskV.named at h1
  simp only [Bool.and_eq_true, decide_eq_true_eq] at h1
  exact h1.1.2 h2
theorem named_pos {u : ByteArray} (h : DiskV.named u = true) : u.size ≠ 0 := by
  unfold DiskV.named at h
  simp only [Bool.and_eq_true, decide_eq_true_eq] at h
  exact h.1.2
/-- What is left behind a change of names. -/
theorem movedTo (h : FilesE R D es) (m : Move) {r : List FEnt} (hm : m.dst.size ≠ 0 → m.file < D.files.length) (hnames : (DiskV.done m D.names).Perm (r.map fun e => (bytesOf e.key, e.idx)))
    (h1 : ∀ e ∈ r, DiskV.named e.key = true) (h2 : r.Pairwise (fun a b => a.key ≠ b.key)) (h3 : r.Pairwise (fun a b => a.idx ≠ b.idx)) (h4 : ∀ e ∈ r, ∃ f, D.files[e.idx]? = some f ∧ f.now.data.toList = e.txt) : FilesE R (D.moved m) r := by
  refine ⟨⟨h.wf.room, h.wf.ops, h.wf.fail, h.wf.left, ?_, h.wf.base, ?_⟩, h.left, h.fail, h.room, hnames, h1, h2, h3, h4⟩
  · intro p hp
    obtain ⟨x, hx, rfl⟩ := List.mem_map.1 (hnames.mem_iff.1 hp)
    obtain ⟨f, hf, _⟩ := h4 x hx
    exact (List.getElem?_eq_some_iff.1 hf).1
  · intro x hx hz
    rcases List.mem_append.1 (show x ∈ D.moves ++ [m] from hx) with hx | hx
    · exact h.wf.moves x hx hz
    · rw [List.mem_singleton.1 hx] at hz ⊢; exact hm hz
theorem del_head (h : FilesE R D (e :: r)) : (D.names.del (bytesOf e.key)).Perm (r.map fun e => (bytesOf e.key, e.idx)) := by
  have hp := List.pairwise_cons.1 h.keys
  refine (h.names.filter _).trans ?_
  rw [List.map_cons, List.filter_cons_of_neg (by simp), List.filter_eq_self.2]
  intro p hp'
  obtain ⟨x, hx, rfl⟩ := List.mem_map.1 hp'
  have := hp.1 x hx
  simp only [decide_eq_true_eq]
  exact fun hk => this (bytesOf_inj hk).symm
theorem create (h : FilesE R D es) {u : ByteArray} (hu : DiskV.named u = true) (hn : ∀ e ∈ es, e.key ≠ u) :
    ∃ D', D.create u = (D', 0) ∧ FilesE R D' (⟨u, D.files.length, []⟩ :: es) := by
  have hs := h.start
  have hfl : D.begin.1.files = D.files := (DiskW.begin_len D).2.1
  have hdel : D.begin.1.names.del (bytesOf ByteArray.empty) = D.begin.1.names := NMap.del_none hs.ne_nil
  have hdone : DiskV.done ⟨ByteArray.empty, u, D.files.length⟩ D.begin.1.names = D.begin.1.names.put (bytesOf u) D.files.length := by
    unfold DiskV.done
    rw [if_neg (named_pos hu)]
    dsimp only
    rw [hdel]
  refine ⟨({ D.begin.1 with files := D.begin.1.files ++ [newFile] } : DiskV).moved ⟨ByteArray.empty, u, D.begin.1.files.length⟩, ?_, ?_⟩
  · unfold DiskV.create
    rw [h.find_new hn]
    dsimp only
    rw [if_neg (by decide), if_neg (by rw [hu]; decide), if_neg (by decide)]
    rfl
  · rw [hfl]
    have hl : (D.files ++ [newFile]).length = D.files.length + 1 := by simp
    have hg : FilesE R ({ D.begin.1 with files := D.files ++ [newFile] } : DiskV) es := by
      refine ⟨⟨hs.wf.room, hs.wf.ops, hs.wf.fail, hs.wf.left, ?_, ?_, ?_⟩, hs.left, hs.fail, hs.room, hs.names, h.named, h.keys, h.idxs, ?_⟩
      · intro p hp; show _ < (D.files ++ [newFile]).length; rw [hl, ← hfl]; exact Nat.lt_succ_of_lt (hs.wf.names p hp)
      · intro p hp; show _ < (D.files ++ [newFile]).length; rw [hl, ← hfl]; exact Nat.lt_succ_of_lt (hs.wf.base p hp)
      · intro m hm hz; show _ < (D.files ++ [newFile]).length; rw [hl, ← hfl]; exact Nat.lt_succ_of_lt (hs.wf.moves m hm hz)
      · intro x hx
        obtain ⟨f, h1, h2⟩ := h.files x hx
        exact ⟨f, by show (D.files ++ [newFile])[_]? = _; rw [List.getElem?_append_left (h.idx_lt hx)]; exact h1, h2⟩
    refine hg.movedTo _ (fun _ => by show _ < (D.files ++ [newFile]).length; rw [hl]; exact Nat.lt_succ_self _) ?_ ?_ ?_ ?_ ?_
    · show (DiskV.done _ D.begin.1.names).Perm _
      rw [hdone]
      refine (NMap.put_perm (hs.nokey hn)).trans ?_
      exact List.Perm.cons _ hs.names
    · intro x hx
      rcases List.mem_cons.1 hx with rfl | hx
      · exact hu
      · exact h.named x hx
    · exact List.pairwise_cons.2 ⟨fun x hx => Ne.symm (hn x hx), h.keys⟩
    · exact List.pairwise_cons.2 ⟨fun x hx => (Nat.ne_of_lt (h.idx_lt hx)).symm, h.idxs⟩
    · intro x hx
      rcases List.mem_cons.1 hx with rfl | hx
      · exact ⟨newFile, by show (D.files ++ [newFile])[D.files.length]? = _; rw [List.getElem?_append_right (Nat.le_refl _), Nat.sub_self]; rfl, rfl⟩
      · exact hg.files x hx
theorem create_there (h : FilesE R D es) (he : e ∈ es) : ∃ D', D.create e.key = (D', 4) ∧ FilesE R D' es := by
  refine ⟨D.begin.1, ?_, h.start⟩
  unfold DiskV.create
  rw [h.find he]
  dsimp only
  rw [if_neg (by decide), if_neg (by rw [h.named e he]; decide), if_pos rfl]
theorem remove (h : FilesE R D (e :: r)) : ∃ D', D.remove e.key = (D', 0) ∧ FilesE R D' r := by
  have hs := h.start
  refine ⟨D.begin.1.moved ⟨e.key, ByteArray.empty, 0⟩, ?_, ?_⟩
  · unfold DiskV.remove
    rw [h.find (List.mem_cons_self ..)]
  · refine hs.movedTo _ (fun hz => absurd rfl hz) ?_ (fun x hx => h.named x (List.mem_cons_of_mem _ hx)) (List.pairwise_cons.1 h.keys).2 (List.pairwise_cons.1 h.idxs).2 (fun x hx => hs.files x (List.mem_cons_of_mem _ hx))
    unfold DiskV.done
    rw [if_pos (show ByteArray.empty.size = 0 from rfl)]
    exact hs.del_head
theorem remove_none (h : FilesE R D es) {u : ByteArray} (hu : ∀ e ∈ es, e.key ≠ u) : ∃ D', D.remove u = (D', 5) ∧ FilesE R D' es := by
  refine ⟨D.begin.1, ?_, h.start⟩
  unfold DiskV.remove
  rw [h.find_new hu]
theorem rename (h : FilesE R D (e :: r)) {u : ByteArray} (hu : DiskV.named u = true) : ∃ D', D.rename e.key u = (D', 0) ∧ FilesE R D' (⟨u, e.idx, e.txt⟩ :: r.filter fun x => decide (x.key ≠ u)) := by
  have hs := h.start
  have hfl : D.begin.1.files = D.files := (DiskW.begin_len D).2.1
  have hi := List.pairwise_cons.1 h.idxs
  refine ⟨D.begin.1.moved ⟨e.key, u, e.idx⟩, ?_, ?_⟩
  · unfold DiskV.rename
    rw [h.find (List.mem_cons_self ..)]
    dsimp only
    rw [if_neg (by rw [hu]; decide)]
  · refine hs.movedTo _ (fun _ => by rw [hfl]; exact h.idx_lt (List.mem_cons_self ..)) ?_ ?_ ?_ ?_ ?_
    · have hd : ((D.begin.1.names.del (bytesOf e.key)).del (bytesOf u)).Perm ((r.filter fun x => decide (x.key ≠ u)).map fun e => (bytesOf e.key, e.idx)) := by
        refine (hs.del_head.filter _).trans ?_
        rw [List.filter_map]
        refine List.Perm.map _ (List.Perm.of_eq (List.filter_congr fun x _ => ?_))
        show decide (bytesOf x.key ≠ bytesOf u) = decide (x.key ≠ u)
        by_cases hx : x.key = u
        · simp [hx]
        · rw [decide_eq_true (show bytesOf x.key ≠ bytesOf u from fun hk => hx (bytesOf_inj hk)), decide_eq_true hx]
      unfold DiskV.done
      rw [if_neg (named_pos hu)]
      dsimp only
      refine (NMap.ins_perm _ _).trans ?_
      exact List.Perm.cons _ hd
    · intro x hx
      rcases List.mem_cons.1 hx with rfl | hx
      · exact hu
      · exact h.named x (List.mem_cons_of_mem _ (List.mem_filter.1 hx).1)
    · refine List.pairwise_cons.2 ⟨fun x hx => ?_, (List.pairwise_cons.1 h.keys).2.filter _⟩
      have := (List.mem_filter.1 hx).2
      simp only [decide_eq_true_eq] at this
      exact Ne.symm this
    · exact List.pairwise_cons.2 ⟨fun x hx => hi.1 x (List.mem_filter.1 hx).1, hi.2.filter _⟩
    · intro x hx
      rcases List.mem_cons.1 hx with rfl | hx
      · exact hs.files e (List.mem_cons_self ..)
      · exact hs.files x (List.mem_cons_of_mem _ (List.mem_filter.1 hx).1)
end FilesE
def FEnt.pair (e : FEnt) : FPair := (e.key, e.txt)
/-- A disk that never fails has these files, in whatever order. -/
def Files (R : Nat) (D : DiskV) (fs : List FPair) : Prop := ∃ es, FilesE R D es ∧ (es.map FEnt.pair).Perm fs
namespace Files
variable {R : Nat} {D : DiskV} {fs r : List FPair} {k u : ByteArray} {t : List UInt8}
theorem perm (h : Files R D fs) (hp : fs.Perm r) : Files R D r := by
  obtain ⟨es, h1, h2⟩ := h
  exact ⟨es, h1, h2.trans hp⟩
theorem new (R : Nat) (h : R ≤ 9223372036854775807) : Files R (DiskV.new R) [] := ⟨[], FilesE.new R h, List.Perm.refl _⟩
theorem head (h : Files R D ((k, t) :: r)) : ∃ e es, FilesE R D (e :: es) ∧ e.key = k ∧ e.txt = t ∧ (es.map FEnt.pair).Perm r := by
  obtain ⟨es, h1, h2⟩ := h
  obtain ⟨e, he, hp⟩ := List.mem_map.1 (h2.mem_iff.2 (List.mem_cons_self ..))
  obtain ⟨a, b, rfl⟩ := List.append_of_mem he
  have hq : (a ++ e :: b).Perm (e :: (a ++ b)) := List.perm_middle
  refine ⟨e, a ++ b, h1.perm hq, congrArg Prod.fst hp, congrArg Prod.snd hp, ?_⟩
  have h3 := (hq.map FEnt.pair).symm.trans h2
  rw [List.map_cons, hp] at h3
  exact h3.cons_inv
theorem keys (h : Files R D fs) : fs.Pairwise (fun a b => a.1 ≠ b.1) := by
  obtain ⟨es, h1, h2⟩ := h
  refine (h2.pairwise_iff (fun hab => Ne.symm hab)).1 ?_
  rw [List.pairwise_map]
  exact h1.keys
theorem named (h : Files R D fs) : ∀ p ∈ fs, DiskV.named p.1 = true := by
  obtain ⟨es, h1, h2⟩ := h
  intro p hp
  obtain ⟨e, he, rfl⟩ := List.mem_map.1 (h2.mem_iff.2 hp)
  exact h1.named e he
theorem fresh {es : List FEnt} (h2 : (es.map FEnt.pair).Perm fs) (hu : ∀ p ∈ fs, p.1 ≠ u) : ∀ e ∈ es, e.key ≠ u := fun e he => hu e.pair (h2.mem_iff.1 (List.mem_map.2 ⟨e, he, rfl⟩))
theorem wf (h : Files R D fs) : D.Wf := by obtain ⟨es, h1, _⟩ := h; exact h1.wf
theorem left (h : Files R D fs) : D.left = -1 := by obtain ⟨es, h1, _⟩ := h; exact h1.left
def sum (fs : List FPair) : Nat := (fs.map (·.2.length)).sum
theorem sum_perm (h : fs.Perm r) : sum fs = sum r := (h.map _).sum_nat
theorem sum_ents {es : List FEnt} (h2 : (es.map FEnt.pair).Perm fs) : (es.map (·.txt.length)).sum = sum fs := by
  rw [← sum_perm h2]
  unfold sum
  rw [List.map_map]
  rfl
theorem used (h : Files R D fs) : D.used = sum fs := by
  obtain ⟨es, h1, h2⟩ := h
  rw [h1.used, sum_ents h2]
theorem count (h : Files R D fs) : D.names.length = fs.length := by
  obtain ⟨es, h1, h2⟩ := h
  rw [h1.names.length_eq, List.length_map, ← h2.length_eq, List.length_map]
theorem list_perm (h : Files R D fs) : (D.names.map (·.1)).Perm (fs.map fun p => bytesOf p.1) := by
  obtain ⟨es, h1, h2⟩ := h
  refine (h1.names.map _).trans ?_
  rw [List.map_map]
  have := h2.map fun p => bytesOf p.1
  rw [List.map_map] at this
  exact this
theorem append (h : Files R D ((k, t) :: r)) (s : ByteArray) (hfit : sum ((k, t) :: r) + s.size ≤ R) : ∃ D', D.append k s = (D', 0) ∧ Files R D' ((k, t ++ s.data.toList) :: r) := by
  obtain ⟨e, es, h1, rfl, rfl, h2⟩ := h.head
  obtain ⟨D', h3, h4⟩ := h1.append s (by rw [sum_ents (es := e :: es) (fs := (e.key, e.txt) :: r) (List.Perm.cons _ h2)]; exact hfit)
  exact ⟨D', h3, _, h4, List.Perm.cons _ h2⟩
theorem append_full (h : Files R D ((k, t) :: r)) (s : ByteArray) (hfit : R < sum ((k, t) :: r) + s.size) : ∃ D', D.append k s = (D', 9) ∧ Files R D' ((k, t) :: r) := by
  obtain ⟨e, es, h1, rfl, rfl, h2⟩ := h.head
  obtain ⟨D', h3, h4⟩ := h1.append_full (List.mem_cons_self ..) s (by rw [sum_ents (es := e :: es) (fs := (e.key, e.txt) :: r) (List.Perm.cons _ h2)]; exact hfit)
  exact ⟨D', h3, _, h4, List.Perm.cons _ h2⟩
theorem sync (h : Files R D ((k, t) :: r)) : ∃ D', D.sync k = (D', 0) ∧ Files R D' ((k, t) :: r) := by
  obtain ⟨e, es, h1, rfl, rfl, h2⟩ := h.head
  obtain ⟨D', h3, h4⟩ := h1.sync
  exact ⟨D', h3, _, h4, List.Perm.cons _ h2⟩
theorem cut (h : Files R D ((k, t) :: r)) (n : Nat) (hn : n ≤ t.length) : ∃ D', D.cut k n = (D', 0) ∧ Files R D' ((k, t.take n) :: r) := by
  obtain ⟨e, es, h1, rfl, rfl, h2⟩ := h.head
  obtain ⟨D', h3, h4⟩ := h1.cut n hn
  exact ⟨D', h3, _, h4, List.Perm.cons _ h2⟩
theorem syncDir (h : Files R D fs) : ∃ D', D.syncDir = (D', 0) ∧ Files R D' fs := by
  obtain ⟨es, h1, h2⟩ := h
  obtain ⟨D', h3, h4⟩ := h1.syncDir
  exact ⟨D', h3, _, h4, h2⟩
theorem read (h : Files R D fs) (hm : (k, t) ∈ fs) : D.read k = (⟨t.toArray⟩, 0) := by
  obtain ⟨es, h1, h2⟩ := h
  obtain ⟨e, he, hp⟩ := List.mem_map.1 (h2.mem_iff.2 hm)
  have := h1.read he
  rw [show e.key = k from congrArg Prod.fst hp, show e.txt = t from congrArg Prod.snd hp] at this
  exact this
theorem read_none (h : Files R D fs) (hu : ∀ p ∈ fs, p.1 ≠ u) : D.read u = (ByteArray.empty, 5) := by
  obtain ⟨es, h1, h2⟩ := h
  exact h1.read_none (fresh h2 hu)
theorem create (h : Files R D fs) (hu : DiskV.named u = true) (hn : ∀ p ∈ fs, p.1 ≠ u) : ∃ D', D.create u = (D', 0) ∧ Files R D' ((u, []) :: fs) := by
  obtain ⟨es, h1, h2⟩ := h
  obtain ⟨D', h3, h4⟩ := h1.create hu (fresh h2 hn)
  exact ⟨D', h3, _, h4, List.Perm.cons _ h2⟩
theorem remove (h : Files R D ((k, t) :: r)) : ∃ D', D.remove k = (D', 0) ∧ Files R D' r := by
  obtain ⟨e, es, h1, rfl, rfl, h2⟩ := h.head
  obtain ⟨D', h3, h4⟩ := h1.remove
  exact ⟨D', h3, _, h4, h2⟩
theorem remove_none (h : Files R D fs) (hu : ∀ p ∈ fs, p.1 ≠ u) : ∃ D', D.remove u = (D', 5) ∧ Files R D' fs := by
  obtain ⟨es, h1, h2⟩ := h
  obtain ⟨D', h3, h4⟩ := h1.remove_none (fresh h2 hu)
  exact ⟨D', h3, _, h4, h2⟩
theorem rename (h : Files R D ((k, t) :: r)) (hu : DiskV.named u = true) : ∃ D', D.rename k u = (D', 0) ∧ Files R D' ((u, t) :: r.filter fun p => decide (p.1 ≠ u)) := by
  obtain ⟨e, es, h1, rfl, rfl, h2⟩ := h.head
  obtain ⟨D', h3, h4⟩ := h1.rename hu
  refine ⟨D', h3, _, h4, List.Perm.cons _ ?_⟩
  refine List.Perm.trans ?_ (h2.filter _)
  rw [List.filter_map]
  exact List.Perm.of_eq rfl
end Files
end Go.Proofs.YtndgnlblbjpogaaGreatDoor
namespace Go.Proofs.YtndgnlblbjpogaaGreatDoor
open Go Go.RowKit
def Grp.file (g : Grp) : FPair := (Seg.nameB g.first, g.txt)
structure FLog (R f0 : Nat) (L : LogV) (D : DiskV) (full : List Grp) (act : Grp) (xs : List FPair) : Prop where
  disk : Files R D (xs ++ (full ++ [act]).map Grp.file)
  efull : L.full = full.map Grp.seg
  eact : L.act = act.seg
  chain : Chain f0 (full ++ [act]) act.end_
  small : ∀ g ∈ full ++ [act], ∀ b ∈ g.bodies, b.length ≤ 2000
  few : act.end_ ≤ 1000000
namespace FLog
variable {R f0 : Nat} {L : LogV} {D : DiskV} {full : List Grp} {act : Grp} {xs : List FPair}
theorem segs (h : FLog R f0 L D full act xs) : L.segs = (full ++ [act]).map Grp.seg := by
  unfold LogV.segs; rw [h.efull, h.eact, List.map_append]; rfl
theorem get_some (h : FLog R f0 L D full act xs) {i : Nat} {b : List UInt8} (hb : ((full ++ [act]).flatMap (·.bodies))[i]? = some b) : L.get D (f0 + i) = (⟨b.toArray⟩, 0) := by
  obtain ⟨g, hg, h1, h2, h3⟩ := chain_find _ _ _ _ _ h.chain hb
  have hge := (h.chain.mem hg).2
  have hfew := h.few
  have hr := h.disk.read (k := Seg.nameB g.first) (t := g.txt) (List.mem_append.2 (.inr (List.mem_map.2 ⟨g, hg, rfl⟩)))
  have hsc := scan_frames g.bodies (h.small g hg) g.first (by have : g.first + g.bodies.length ≤ act.end_ := hge; omega)
  unfold LogV.get
  rw [h.segs, h1]
  dsimp only
  rw [show g.seg.first = g.first from rfl, hr]
  dsimp only
  rw [if_pos rfl]
  have h4 : (Frame.scanL g.txt)[f0 + i - g.first]?.map (·.body) = some b := by
    rw [← List.getElem?_map, show Frame.scanL g.txt = Frame.scanL (framesL g.first g.bodies) from rfl, hsc]; exact h3
  cases hx : (Frame.scanL g.txt)[f0 + i - g.first]? with
  | none => rw [hx] at h4; cases h4
  | some x => rw [hx] at h4; simp at h4; dsimp only; rw [h4]
theorem get_none (h : FLog R f0 L D full act xs) {s : Nat} (hs : s < f0 ∨ act.end_ ≤ s) : L.get D s = (ByteArray.empty, 5) := by
  unfold LogV.get
  rw [h.segs, chain_none _ _ _ _ h.chain hs]
theorem perm_act (full : List Grp) (act : Grp) (xs : List FPair) : (xs ++ (full ++ [act]).map Grp.file).Perm (act.file :: (xs ++ full.map Grp.file)) := by
  rw [List.map_append, ← List.append_assoc]
  exact List.perm_append_singleton _ _
theorem sum_files (full : List Grp) (act : Grp) (xs : List FPair) : Files.sum (xs ++ (full ++ [act]).map Grp.file) = Files.sum xs + GoodLog.sum (full ++ [act]) := by
  unfold Files.sum GoodLog.sum
  rw [List.map_append, List.sum_append, List.map_map]
  rfl
theorem used (h : FLog R f0 L D full act xs) : D.used = Files.sum xs + GoodLog.sum (full ++ [act]) := by
  rw [h.disk.used, sum_files]
theorem bytes (h : FLog R f0 L D full act xs) : L.bytes = GoodLog.sum (full ++ [act]) := by
  unfold LogV.bytes GoodLog.sum
  rw [h.segs, List.map_map]
  rfl
theorem actFirst (h : FLog R f0 L D full act xs) : L.act.first = act.first := by rw [h.eact]; rfl
theorem actEnd (h : FLog R f0 L D full act xs) : L.act.end_ = act.end_ := by rw [h.eact]; rfl
theorem append (h : FLog R f0 L D full act xs) (body : ByteArray) (hb : body.size ≤ 2000) (hfit : Files.sum xs + GoodLog.sum (full ++ [act]) + (Frame.putF act.end_ body.data.toList).length ≤ R) (hfew : act.end_ + 1 ≤ 1000000) :
    ∃ L' D', L.append D body = (L', D', act.end_, 0) ∧ FLog R f0 L' D' full ⟨act.first, act.bodies ++ [body.data.toList]⟩ xs ∧ L'.durable = L.durable := by
  obtain ⟨s, hs⟩ : ∃ s : ByteArray, s = ⟨(Frame.putF act.end_ body.data.toList).toArray⟩ := ⟨_, rfl⟩
  have hsz : s.size = (Frame.putF act.end_ body.data.toList).length := by rw [hs]; rfl
  have hsl : s.data.toList = Frame.putF act.end_ body.data.toList := by rw [hs]
  have hp := perm_act full act xs
  obtain ⟨D', ha, hg'⟩ := (h.disk.perm hp).append s (by rw [show ((Seg.nameB act.first, act.txt) : FPair) = act.file from rfl, ← Files.sum_perm hp, sum_files, hsz]; exact hfit)
  refine ⟨{ L with act := ⟨L.act.first, L.act.many + 1, L.act.size + s.size⟩ }, D', ?_, ⟨?_, h.efull, ?_, ?_, ?_, ?_⟩, rfl⟩
  · unfold LogV.append
    rw [if_neg (by omega), h.actEnd, ← hs, h.actFirst]
    dsimp only
    rw [ha]
    dsimp only
    rw [if_pos rfl]
  · refine Files.perm ?_ (perm_act full _ xs).symm
    have e : act.txt ++ s.data.toList = framesL act.first (act.bodies ++ [body.data.toList]) := by rw [framesL_snoc, hsl]; rfl
    rw [e] at hg'
    exact hg'
  · rw [h.eact]
    unfold Grp.seg Grp.txt
    rw [framesL_snoc]
    simp [hsz]
    rfl
  · exact h.chain.split.1.snoc rfl
  · intro g hg b hbm
    rcases List.mem_append.1 hg with hg | hg
    · exact h.small g (by simp [hg]) b hbm
    · rw [List.mem_singleton.1 hg] at hbm
      rcases List.mem_append.1 hbm with hbm | hbm
      · exact h.small act (by simp) b hbm
      · rw [List.mem_singleton.1 hbm]; simpa using hb
  · show act.first + (act.bodies ++ [_]).length ≤ _
    rw [List.length_append]
    exact hfew
theorem append_full (h : FLog R f0 L D full act xs) (body : ByteArray) (hb : body.size ≤ 2000) (hfit : R < Files.sum xs + GoodLog.sum (full ++ [act]) + (Frame.putF act.end_ body.data.toList).length) :
    ∃ D', L.append D body = (L, D', 0, 9) ∧ FLog R f0 L D' full act xs := by
  have hp := perm_act full act xs
  obtain ⟨s, hs⟩ : ∃ s : ByteArray, s = ⟨(Frame.putF act.end_ body.data.toList).toArray⟩ := ⟨_, rfl⟩
  have hsz : s.size = (Frame.putF act.end_ body.data.toList).length := by rw [hs]; rfl
  obtain ⟨D', ha, hg'⟩ := (h.disk.perm hp).append_full s (by rw [show ((Seg.nameB act.first, act.txt) : FPair) = act.file from rfl, ← Files.sum_perm hp, sum_files, hsz]; exact hfit)
  refine ⟨D', ?_, hg'.perm hp.symm, h.efull, h.eact, h.chain, h.small, h.few⟩
  unfold LogV.append
  rw [if_neg (by omega), h.actEnd, ← hs, h.actFirst]
  dsimp only
  rw [ha]
  dsimp only
  rw [if_neg (by decide)]
theorem same_dur (h : FLog R f0 L D full act xs) (hs : L.same) : L.durable = act.seg := by
  have := h.eact
  obtain ⟨h1, h2, h3⟩ := hs
  rw [this] at h1 h2 h3
  cases hdur : L.durable with
  | mk a b c => rw [hdur] at h1 h2 h3; cases hseg : act.seg with | mk x y z => rw [hseg] at h1 h2 h3; dsimp only at h1 h2 h3; rw [h1, h2, h3]
theorem sync (h : FLog R f0 L D full act xs) (hd : L.durable.first = act.first) : ∃ L' D', L.sync D = (L', D', 0) ∧ FLog R f0 L' D' full act xs ∧ L'.durable = act.seg := by
  by_cases hs : L.same
  · refine ⟨L, D, ?_, h, h.same_dur hs⟩
    unfold LogV.sync; rw [if_pos hs]
  · have hp := perm_act full act xs
    obtain ⟨D', hd', hg'⟩ := (h.disk.perm hp).sync
    refine ⟨{ L with durable := L.act }, D', ?_, ⟨hg'.perm hp.symm, h.efull, h.eact, h.chain, h.small, h.few⟩, h.eact⟩
    unfold LogV.sync
    rw [if_neg hs, hd, hd']
    dsimp only
    rw [if_pos rfl]
theorem roll_none (h : FLog R f0 L D full act xs) (ha : act.bodies = []) : L.roll D = (L, D, 0) := by
  unfold LogV.roll
  rw [if_pos (by rw [h.eact]; unfold Grp.seg; rw [ha]; rfl)]
/-- The other files are none of a segment's name. -/
def Apart (xs : List FPair) : Prop := ∀ p ∈ xs, ∀ u, p.1 ≠ Seg.nameB u
theorem name_inj {u v : Nat} (h : Seg.nameB u = Seg.nameB v) : u = v := Seg.nameL_inj (by rw [← Seg.bytesOf_nameB, ← Seg.bytesOf_nameB, h])
theorem roll (h : FLog R f0 L D full act xs) (hx : Apart xs) (ha : act.bodies ≠ []) : ∃ L' D', L.roll D = (L', D', 0) ∧ FLog R f0 L' D' (full ++ [act]) ⟨act.end_, []⟩ xs ∧ L'.durable = ⟨act.end_, 0, 0⟩ := by
  have hp := perm_act full act xs
  obtain ⟨D1, hd1, hg1⟩ := (h.disk.perm hp).sync
  have hfew := h.few
  have hpos : 0 < act.bodies.length := List.length_pos_iff.2 ha
  have hlt : ∀ p ∈ (Seg.nameB act.first, act.txt) :: (xs ++ full.map Grp.file), p.1 ≠ Seg.nameB act.end_ := by
    intro p hp
    have hc := h.chain.split
    rcases List.mem_cons.1 hp with rfl | hp
    · intro hk
      have := name_inj hk
      have h1 : act.end_ = act.first + act.bodies.length := rfl
      omega
    · rcases List.mem_append.1 hp with hp | hp
      · exact hx p hp _
      · obtain ⟨g, hg, rfl⟩ := List.mem_map.1 hp
        intro hk
        have h0 := name_inj hk
        have h4 := (hc.1.mem hg).2
        have h5 : g.end_ = g.first + g.bodies.length := rfl
        have h1 : act.end_ = act.first + act.bodies.length := rfl
        omega
  obtain ⟨D2, hd2, hg2⟩ := hg1.create (u := Seg.nameB act.end_) (Seg.nameB_named (by omega)) hlt
  obtain ⟨D3, hd3, hg3⟩ := hg2.syncDir
  refine ⟨⟨L.segs, ⟨act.end_, 0, 0⟩, ⟨act.end_, 0, 0⟩⟩, D3, ?_, ⟨?_, h.segs, rfl, ?_, ?_, ?_⟩, rfl⟩
  · unfold LogV.roll
    rw [if_neg (by rw [h.eact]; show ¬ act.bodies.length = 0; omega), h.actFirst, hd1]
    dsimp only
    have hst : D1.started act.end_ = (D3, 0, true) := by
      unfold DiskV.started
      rw [hd2]
      dsimp only
      rw [if_pos rfl, hd3]
    rw [if_pos rfl, h.actEnd, hst]
    dsimp only
    rw [if_pos rfl]
  · refine hg3.perm ?_
    refine List.Perm.trans (List.Perm.cons _ hp.symm) ?_
    exact (perm_act (full ++ [act]) ⟨act.end_, []⟩ xs).symm
  · exact h.chain.snoc rfl
  · intro g hg b hb
    rcases List.mem_append.1 hg with hg | hg
    · exact h.small g hg b hb
    · rw [List.mem_singleton.1 hg] at hb; cases hb
  · show act.end_ + 0 ≤ _
    omega
theorem drop {g : Grp} {r : List Grp} (h : FLog R f0 L D (g :: r) act xs) : ∃ L' D', L.drop D = (L', D', 0) ∧ FLog R g.end_ L' D' r act xs ∧ L'.durable = L.durable := by
  have hp : (xs ++ (g :: r ++ [act]).map Grp.file).Perm ((Seg.nameB g.first, g.txt) :: (xs ++ (r ++ [act]).map Grp.file)) := List.perm_middle
  obtain ⟨D1, hd1, hg1⟩ := (h.disk.perm hp).remove
  obtain ⟨D2, hd2, hg2⟩ := hg1.syncDir
  refine ⟨⟨r.map Grp.seg, L.act, L.durable⟩, D2, ?_, ⟨hg2, rfl, h.eact, h.chain.2, fun x hx => h.small x (by rw [List.cons_append]; exact List.mem_cons_of_mem _ hx), h.few⟩, rfl⟩
  unfold LogV.drop
  rw [h.efull, List.map_cons]
  dsimp only
  rw [show g.seg.first = g.first from rfl, hd1]
  dsimp only
  rw [if_pos rfl, hd2]
/-- The other files change alone. -/
theorem others (h : FLog R f0 L D full act xs) {D' : DiskV} {ys : List FPair} (hd : Files R D' (ys ++ (full ++ [act]).map Grp.file)) : FLog R f0 L D' full act ys := ⟨hd, h.efull, h.eact, h.chain, h.small, h.few⟩
end FLog
end Go.Proofs.YtndgnlblbjpogaaGreatDoor
