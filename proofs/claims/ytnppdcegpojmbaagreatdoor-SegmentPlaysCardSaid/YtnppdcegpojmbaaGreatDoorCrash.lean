/- A file with its name behind all others: what a disk that is built anew is behind one step. No walk stands here. · The walk of Crash. -/
import Derived.Test.YtnppdcegpojmbaaGreatDoorKeepM
import Derived.Test.YtnppdcegpojmbaaGreatDoorDisk9
import Derived.Test.YtnppdcegpojmbaaGreatDoorPlain7
import Derived.Test.YtnppdcegpojmbaaGreatDoorShelfI
namespace Go.Proofs.YtnppdcegpojmbaaGreatDoor
open Go Go.RowKit
/-- A file that never changed, with its name, stands behind all others. -/
theorem DiskAt.addNamed {w w' : World} {d b : Nat} {D : DiskV} {R : DiskRep} {fv : Value} (x : ByteArray) (key : Bytes) (h : DiskAt w d D R) (ho : Off (fun k => k = d ∨ R.fv.ownBlock = some k ∨ k = R.nm) w w') (hb : w.heap.size ≤ b)
    (hbb : w'.heap[b]? = some (.cells #[.string x, .string x, .slice none 0 0] 101 (0, 0)))
    (hc : w'.heap[d]? = some (.cells (coreCells { D with files := D.files ++ [⟨x, x, []⟩], names := D.names.put key D.files.length } (R.addFile fv b D.files.length w.heap.size)) 80 (0, 0)))
    (hr : w'.ownsRow 0 102 1 fv (D.files.length + 1) (R.fbs.map ptrTo ++ [ptrTo b])) (hfv : ∀ k, fv.ownBlock = some k → R.fv.ownBlock = some k ∨ w.heap.size ≤ k) (hne : fv.ownBlock ≠ some b) (hmp : MapAt w' R.nm (D.names.put key D.files.length)) :
    DiskAt w' d { D with files := D.files ++ [⟨x, x, []⟩], names := D.names.put key D.files.length } (R.addFile fv b D.files.length w.heap.size) := by
  have hro : ∀ k, R.role k ≠ 0 → (R.addFile fv b D.files.length w.heap.size).role k = R.role k := fun k hk => if_pos (h.old k hk)
  have hnew : (R.addFile fv b D.files.length w.heap.size).role b = 6 + 2 * D.files.length := by
    show (if b < _ then _ else if b = b then 6 + 2 * D.files.length else _) = _
    rw [if_neg (by omega), if_pos rfl]
  have far : ∀ k, R.role k ≠ 0 → R.role k ≠ 1 → R.role k ≠ 4 → R.role k ≠ 2 → ¬ (k = d ∨ R.fv.ownBlock = some k ∨ k = R.nm) := by
    intro k h0 h1 h2 h3 hk
    rcases hk with rfl | hk | rfl
    · exact h1 h.rD
    · exact h2 (h.rF k hk)
    · exact h3 h.rN
  have hlen : (D.files ++ [(⟨x, x, []⟩ : FileV)]).length = D.files.length + 1 := by simp
  have hl1 := h.len
  have hl2 := h.clen
  refine { wf := ⟨h.wf.room, h.wf.ops, h.wf.fail, h.wf.left, ?_, ?_, ?_⟩, core := hc, frow := ?_, each := ?_, clen := ?_, names := ?_, base := ?_, mrow := ?_, rD := ?_, rN := ?_, rB := ?_, rF := ?_, rM := ?_, old := ?_ }
  · intro p hp
    show _ < (D.files ++ [(⟨x, x, []⟩ : FileV)]).length
    rw [hlen]
    have hp : p ∈ NMap.ins (key, D.files.length) (D.names.del key) := hp
    rcases List.mem_cons.1 ((NMap.ins_perm _ _).mem_iff.1 hp) with rfl | hp
    · exact Nat.lt_succ_self _
    · exact Nat.lt_succ_of_lt (h.wf.names p (List.mem_filter.1 hp).1)
  · intro p hp; show _ < (D.files ++ [(⟨x, x, []⟩ : FileV)]).length; rw [hlen]; exact Nat.lt_succ_of_lt (h.wf.base p hp)
  · intro m hm hz; show _ < (D.files ++ [(⟨x, x, []⟩ : FileV)]).length; rw [hlen]; exact Nat.lt_succ_of_lt (h.wf.moves m hm hz)
  · show w'.ownsRow 0 _ 1 fv (D.files ++ [(⟨x, x, []⟩ : FileV)]).length ((R.fbs ++ [b]).map ptrTo)
    rw [hlen, List.map_append]
    exact hr
  · intro i f hf
    have hf' : (D.files ++ [(⟨x, x, []⟩ : FileV)])[i]? = some f := hf
    rw [List.getElem?_append] at hf'
    split at hf'
    · rename_i hlt
      obtain ⟨b1, cv1, g1, g2, g3, g4, g5⟩ := h.each i f hf'
      refine ⟨b1, cv1, ?_, ?_, g3.off ho (far b1 (by omega) (by omega) (by omega) (by omega)) (fun k hk => far k (by rw [g5 k hk]; omega) (by rw [g5 k hk]; omega) (by rw [g5 k hk]; omega) (by rw [g5 k hk]; omega)), by rw [hro b1 (by omega), g4], fun k hk => by rw [hro k (by rw [g5 k hk]; omega), g5 k hk]⟩
      · show (R.fbs ++ [b])[i]? = _
        rw [List.getElem?_append_left (by omega), g1]
      · show (R.cvs ++ [_])[i]? = _
        rw [List.getElem?_append_left (by omega), g2]
    · rename_i hlt
      have hi : i = D.files.length := by
        rcases Nat.lt_or_ge (i - D.files.length) 1 with h1 | h1
        · omega
        · rw [List.getElem?_eq_none (by simpa using h1)] at hf'; cases hf'
      subst hi
      rw [Nat.sub_self] at hf'
      cases hf'
      refine ⟨b, .slice none 0 0, ?_, ?_, ⟨hbb, World.ownsRow_nil _ _ _ _⟩, hnew, fun k hk => by cases hk⟩
      · show (R.fbs ++ [b])[_]? = _
        rw [List.getElem?_append_right (by omega), hl1, Nat.sub_self]; rfl
      · show (R.cvs ++ [_])[_]? = _
        rw [List.getElem?_append_right (by omega), hl2, Nat.sub_self]; rfl
  · show (R.cvs ++ [_]).length = (D.files ++ [(⟨x, x, []⟩ : FileV)]).length
    simp [hl2]
  · exact hmp
  · exact ho.map h.base (far R.bm (by rw [h.rB]; omega) (by rw [h.rB]; omega) (by rw [h.rB]; omega) (by rw [h.rB]; omega))
  · exact ho.row h.mrow (fun k hk => far k (by rw [h.rM k hk]; omega) (by rw [h.rM k hk]; omega) (by rw [h.rM k hk]; omega) (by rw [h.rM k hk]; omega))
  · rw [hro d (by rw [h.rD]; omega), h.rD]
  · show (R.addFile fv b D.files.length w.heap.size).role R.nm = 2
    rw [hro _ (by rw [h.rN]; omega), h.rN]
  · show (R.addFile fv b D.files.length w.heap.size).role R.bm = 3
    rw [hro _ (by rw [h.rB]; omega), h.rB]
  · intro k hk
    have hk : fv.ownBlock = some k := hk
    show (if k < w.heap.size then R.role k else if k = b then 6 + 2 * D.files.length else if fv.ownBlock = some k then 4 else 0) = 4
    rcases hfv k hk with h' | h'
    · rw [if_pos (row_lt h.frow h'), h.rF k h']
    · rw [if_neg (by omega), if_neg (by intro e; exact hne (by rw [hk, e])), if_pos hk]
  · intro k hk
    show (R.addFile fv b D.files.length w.heap.size).role k = 5
    rw [hro k (by rw [h.rM k hk]; omega), h.rM k hk]
  · intro k hk
    have hs := ho.size
    by_cases hlt : k < w.heap.size
    · omega
    · have hk' : (if k < w.heap.size then R.role k else if k = b then 6 + 2 * D.files.length else if fv.ownBlock = some k then 4 else 0) ≠ 0 := hk
      rw [if_neg hlt] at hk'
      split at hk'
      · rename_i e; rw [e]; exact Heap.lt hbb
      · split at hk'
        · rename_i hk2; exact row_lt hr hk2
        · exact absurd rfl hk'
/-- The names are the base; the moves stay. -/
theorem DiskAt.based {w w' : World} {d n : Nat} {D : DiskV} {R : DiskRep} (h : DiskAt w d D R) (ho : Off (Only d) w w') (hn : w.heap.size ≤ n) (hnl : n < w'.heap.size) (hm : MapAt w' n D.names)
    (hc : w'.heap[d]? = some (.cells (coreCells { D with base := D.names } { R with bm := n }) 80 (0, 0))) :
    DiskAt w' d { D with base := D.names } { R with bm := n, role := fun k => if k < w.heap.size then R.role k else if k = n then 3 else 0 } := by
  obtain ⟨R', hR⟩ : ∃ R' : DiskRep, R' = { R with bm := n, role := fun k => if k < w.heap.size then R.role k else if k = n then 3 else 0 } := ⟨_, rfl⟩
  have hro : ∀ k, R.role k ≠ 0 → R'.role k = R.role k := fun k hk => by rw [hR]; exact if_pos (h.old k hk)
  have hnew : R'.role n = 3 := by rw [hR]; show (if n < _ then _ else _) = 3; rw [if_neg (by omega), if_pos rfl]
  have hold : ∀ k, R'.role k ≠ 0 → k < w'.heap.size := fun k hk => by
    have hs := ho.size
    by_cases hlt : k < w.heap.size
    · omega
    · rw [hR] at hk
      have hk' : (if k < w.heap.size then R.role k else if k = n then 3 else 0) ≠ 0 := hk
      rw [if_neg hlt] at hk'
      split at hk'
      · omega
      · exact absurd rfl hk'
  rw [← hR]
  have e1 : R'.fbs = R.fbs := by rw [hR]
  have e2 : R'.cvs = R.cvs := by rw [hR]
  have e3 : R'.fv = R.fv := by rw [hR]
  have e4 : R'.nm = R.nm := by rw [hR]
  have e5 : R'.bm = n := by rw [hR]
  have e6 : R'.mv = R.mv := by rw [hR]
  have hc' : w'.heap[d]? = some (.cells (coreCells { D with base := D.names } R') 80 (0, 0)) := by rw [hR]; exact hc
  clear hR hc
  have far : ∀ k, R.role k ≠ 0 → R.role k ≠ 1 → ¬ Only d k := by
    intro k h0 h1 hk
    rw [show k = d from hk] at h1
    exact h1 h.rD
  refine { wf := ⟨h.wf.room, h.wf.ops, h.wf.fail, h.wf.left, h.wf.names, h.wf.names, h.wf.moves⟩, core := hc', frow := ?_, each := ?_, clen := by rw [e2]; exact h.clen, names := ?_, base := by rw [e5]; exact hm, mrow := by rw [e6]; exact ho.row h.mrow (fun k hk => far k (by rw [h.rM k hk]; omega) (by rw [h.rM k hk]; omega)), rD := ?_, rN := ?_, rB := by rw [e5]; exact hnew, rF := ?_, rM := by rw [e6]; intro k hk; rw [hro k (by rw [h.rM k hk]; omega), h.rM k hk], old := hold }
  · rw [e3, e1]; exact ho.row h.frow (fun k hk => far k (by rw [h.rF k hk]; omega) (by rw [h.rF k hk]; omega))
  · intro j g hj
    obtain ⟨b1, cv1, g1, g2, g3, g4, g5⟩ := h.each j g hj
    exact ⟨b1, cv1, by rw [e1]; exact g1, by rw [e2]; exact g2, g3.off ho (far b1 (by omega) (by omega)) (fun k hk => far k (by rw [g5 k hk]; omega) (by rw [g5 k hk]; omega)), by rw [hro b1 (by omega), g4], fun k hk => by rw [hro k (by rw [g5 k hk]; omega), g5 k hk]⟩
  · rw [e4]; exact ho.map h.names (far R.nm (by rw [h.rN]; omega) (by rw [h.rN]; omega))
  · rw [hro d (by rw [h.rD]; omega), h.rD]
  · rw [e4, hro _ (by rw [h.rN]; omega), h.rN]
  · intro k hk; rw [e3] at hk; rw [hro k (by rw [h.rF k hk]; omega), h.rF k hk]
end Go.Proofs.YtnppdcegpojmbaaGreatDoor
namespace Go.Proofs.YtnppdcegpojmbaaGreatDoor
open Go Go.RowKit Go.Shelf Go.Maps Go.Sort
theorem move_cell {w : World} {v : Value} {l : List Move} (h : w.ownsRow 0 120 3 v l.length (l.flatMap moveCells)) :
    ∃ A c, v = .slice A l.length c ∧ l.length ≤ c ∧ (c : Int) ≤ 9223372036854775807 ∧ ∀ k (hk : k < l.length), ∃ g, A = some ⟨g, 0, none⟩ ∧ g < w.heap.size ∧ w.cell? ⟨g, k * 3, none⟩ = some (.string l[k].src) ∧ w.cell? ⟨g, k * 3 + 1, none⟩ = some (.string l[k].dst) ∧ w.cell? ⟨g, k * 3 + 2, none⟩ = some (.int .i64 l[k].file) := by
  have hc : ∀ (fs : List Move) {j i : Nat} (hj : j < fs.length) (_ : i < 3), (fs.flatMap moveCells)[j * 3 + i]? = (moveCells fs[j])[i]? := by
    intro fs
    induction fs with
    | nil => intro j i hj; exact absurd hj (by simp)
    | cons g r ih =>
      intro j i hj hi
      rw [List.flatMap_cons]
      have hl : (moveCells g).length = 3 := rfl
      cases j with
      | zero =>
        rw [List.getElem?_append_left (by omega), Nat.zero_mul, Nat.zero_add]
        rfl
      | succ j =>
        rw [List.getElem?_append_right (by omega), hl, show (j + 1) * 3 + i - 3 = j * 3 + i by omega, ih (by simpa using hj) hi]
        rfl
  obtain ⟨hl, ⟨rfl, h0⟩ | ⟨g, cap, cur, rfl, hg, hb, hle, hmx, hsz, ht⟩⟩ := h
  · exact ⟨none, 0, by rw [h0], by omega, by omega, fun k hk => absurd hk (by omega)⟩
  · have hmx2 : cap ≤ 2 ^ 63 - 1 := hmx
    refine ⟨_, _, rfl, hle, by omega, fun k hk => ⟨g, rfl, Heap.lt hb, ?_, ?_, ?_⟩⟩
    · rw [Heap.cell hb, ← Array.getElem?_toList, ← List.getElem?_take_of_lt (j := l.length * 3) (by omega), ht]; exact hc l (i := 0) hk (by omega)
    · rw [Heap.cell hb, ← Array.getElem?_toList, ← List.getElem?_take_of_lt (j := l.length * 3) (by omega), ht]; exact hc l (i := 1) hk (by omega)
    · rw [Heap.cell hb, ← Array.getElem?_toList, ← List.getElem?_take_of_lt (j := l.length * 3) (by omega), ht]; exact hc l (i := 2) hk (by omega)
theorem done_all_len (l : List Move) : ∀ m : NMap, (l.foldl (fun m mv => DiskV.done mv m) m).length ≤ m.length + l.length := by
  induction l with
  | nil => intro m; exact Nat.le_refl _
  | cons x r ih =>
    intro m
    have := ih (DiskV.done x m)
    have := done_len x m
    rw [List.foldl_cons, List.length_cons]
    omega
theorem nameOf_of_mem {m : NMap} (h : m.Pairwise (fun p q => p.2 ≠ q.2)) {s : Bytes} {i : Nat} (hs : (s, i) ∈ m) : DiskV.nameOf m i = s := by
  unfold DiskV.nameOf
  induction m with
  | nil => cases hs
  | cons y r ih =>
    rw [List.pairwise_cons] at h
    rw [List.find?_cons]
    rcases List.mem_cons.1 hs with e | hs'
    · subst e; simp
    · have hne : y.2 ≠ i := h.1 _ hs'
      rw [show decide (y.2 = i) = false from decide_eq_false hne]
      exact ih h.2 hs'
theorem imap_apart {w : World} {b : Nat} {m : IMap} (h : IMapAt w b m) : m.Pairwise fun p q => p.1 ≠ q.1 := by
  obtain ⟨es, e, hp, _⟩ := h.entries keyedI
  simp only [IMap.toD, DataW.map.injEq] at e
  rw [← e] at hp
  exact (List.pairwise_map.1 hp).imp fun h e => h (by unfold IMap.lit; rw [e])
theorem intKeys_toD (m : IMap) : intKeys m.toD = m.map fun p => (p.1 : Int) := by
  show (m.map _).map _ = _
  rw [List.map_map]
  rfl
/-- The keys of what the range laid, sorted, are the files' numbers. -/
theorem keys_ids {M : NMap} {im : IMap} {ss : List Int} (hM : M.Pairwise (fun p q => p.2 ≠ q.2)) (hI : im.Pairwise (fun p q => p.1 ≠ q.1)) (hl : ∀ i s, im.get i = some s ↔ (s, i) ∈ M) (hs : ss.Perm (im.map fun p => (p.1 : Int))) :
    ss.mergeSort (fun x y => decide (x ≤ y)) = (DiskV.crashIds M).map fun i : Nat => (i : Int) := by
  have hp : (im.map (·.1)).Perm (M.map (·.2)) := by
    refine (List.perm_ext_iff_of_nodup (List.pairwise_map.2 hI) (List.pairwise_map.2 hM)).2 (fun i => ?_)
    constructor
    · intro hi
      obtain ⟨p, hp, rfl⟩ := List.mem_map.1 hi
      have hg : im.get p.1 = some p.2 := by
        unfold IMap.get
        have : im.find? (fun q => decide (q.1 = p.1)) = some p := by
          clear hl hs hi
          induction im with
          | nil => cases hp
          | cons y r ih =>
            rw [List.pairwise_cons] at hI
            rw [List.find?_cons]
            rcases List.mem_cons.1 hp with e | hp'
            · subst e; simp
            · have hne : y.1 ≠ p.1 := hI.1 _ hp'
              rw [show decide (y.1 = p.1) = false from decide_eq_false hne]
              exact ih hI.2 hp'
        rw [this]; rfl
      exact List.mem_map.2 ⟨_, (hl _ _).1 hg, rfl⟩
    · intro hi
      obtain ⟨p, hp, rfl⟩ := List.mem_map.1 hi
      have hg := (hl p.2 p.1).2 hp
      unfold IMap.get at hg
      obtain ⟨q, hq, _⟩ := Option.map_eq_some_iff.1 hg
      have h1 := List.find?_some hq
      simp only [decide_eq_true_eq] at h1
      exact List.mem_map.2 ⟨q, List.mem_of_find?_eq_some hq, h1⟩
  have tr : ∀ a b c : Int, decide (a ≤ b) = true → decide (b ≤ c) = true → decide (a ≤ c) = true := fun a b c h1 h2 => by simp only [decide_eq_true_eq] at *; omega
  have tot : ∀ a b : Int, (decide (a ≤ b) || decide (b ≤ a)) = true := fun a b => by simp only [Bool.or_eq_true, decide_eq_true_eq]; omega
  have trN : ∀ a b c : Nat, decide (a ≤ b) = true → decide (b ≤ c) = true → decide (a ≤ c) = true := fun a b c h1 h2 => by simp only [decide_eq_true_eq] at *; omega
  have totN : ∀ a b : Nat, (decide (a ≤ b) || decide (b ≤ a)) = true := fun a b => by simp only [Bool.or_eq_true, decide_eq_true_eq]; omega
  refine List.Perm.eq_of_pairwise (le := fun a b => decide (a ≤ b) = true) (fun a b _ _ h1 h2 => ?_) (List.pairwise_mergeSort tr tot _) ?_ ?_
  · simp only [decide_eq_true_eq] at h1 h2; omega
  · rw [List.pairwise_map]
    refine (List.pairwise_mergeSort trN totN (M.map (·.2))).imp (fun h => ?_)
    simp only [decide_eq_true_eq] at h ⊢
    omega
  · refine (List.mergeSort_perm _ _).trans (hs.trans ?_)
    have h1 : (im.map fun p => (p.1 : Int)) = (im.map (·.1)).map fun i : Nat => (i : Int) := by rw [List.map_map]; rfl
    rw [h1]
    exact (hp.trans (List.mergeSort_perm _ _).symm).map _
theorem row_shape {w : World} {base : Nat} {e : TypeId} {size : Nat} {v : Value} {n : Nat} {xs : List Value} (h : w.ownsRow base e size v n xs) : ∃ p c, v = .slice p n c := by
  obtain ⟨_, ⟨rfl, h0⟩ | ⟨g, cap, cur, rfl, _⟩⟩ := h
  · exact ⟨none, 0, by rw [h0]⟩
  · exact ⟨_, _, rfl⟩
theorem crash_len (D : DiskV) (m : NMap) (fs : List Int) (l : List Nat) : ∀ st : List FileV × NMap, (l.foldl (DiskV.crashStep D m fs) st).1.length = st.1.length + l.length := by
  induction l with
  | nil => intro st; rfl
  | cons x r ih =>
    intro st
    rw [List.foldl_cons, ih]
    show (st.1 ++ [_]).length + r.length = _
    rw [List.length_append, List.length_cons, List.length_cons, List.length_nil]
    omega
theorem crash_names_len (D : DiskV) (m : NMap) (fs : List Int) (l : List Nat) : ∀ st : List FileV × NMap, (l.foldl (DiskV.crashStep D m fs) st).2.length ≤ st.2.length + l.length := by
  induction l with
  | nil => intro st; exact Nat.le_refl _
  | cons x r ih =>
    intro st
    rw [List.foldl_cons, List.length_cons]
    refine Nat.le_trans (ih _) ?_
    have h1 : (DiskV.crashStep D m fs st x).2.length ≤ st.2.length + 1 := by
      show (NMap.ins _ (st.2.del _)).length ≤ _
      rw [ins_len]
      have : (st.2.del (bytesOf ⟨(DiskV.nameOf m x).toArray⟩)).length ≤ st.2.length := List.length_filter_le _ _
      omega
    omega
/-- A disk while it is built anew. -/
def outDisk (room : Int) (st : List FileV × NMap) : DiskV := ⟨max room 0, st.1, st.2, [], [], 0, 0, -1⟩
namespace DiskW
set_option maxHeartbeats 1000000 in
set_option maxRecDepth 100000 in
theorem crash_any (w : World) (d : Nat) (D : DiskV) (R : DiskRep) (h : DiskAt w d D R) (k : Int) (A : Option Addr) (c : Nat) (fs : List Int)
    (hfs : ∀ i (hi : i < fs.length), ∃ a, A = some a ∧ w.cell? (a.add i) = some (.int .i64 fs[i])) (hfb : ∀ x ∈ fs, -9223372036854775808 ≤ x ∧ x ≤ 9223372036854775807)
    (hml : D.moves.length ≤ 1000000) (hbl : D.base.length ≤ 1000000) (hmvs : ∀ m ∈ D.moves, m.src.size ≤ maxLen ∧ m.dst.size ≤ maxLen ∧ m.file ≤ 9223372036854775807)
    (hap : (D.crashNames k).Pairwise (fun p q => p.2 ≠ q.2)) (hin : ∀ p ∈ D.crashNames k, p.1.length ≤ 24 ∧ p.2 < D.files.length)
    (hch : ∀ p ∈ D.crashNames k, ∀ f, D.files[p.2]? = some f → ChgsOk f.base.size f.chgs ∧ f.base.size + chgSum f.chgs ≤ 4611686018427387904) :
    Calls Tryz.prog 38 #[.pointer (some ⟨d, 0, none⟩), .agg #[.int .i64 k, .slice A fs.length c]] w fun e w' => ∃ d2, e = .returned (.pointer (some ⟨d2, 0, none⟩)) ∧ DiskIn w' d2 (D.crash k fs) (fun b => w.heap.size ≤ b ∧ b < w'.heap.size) ∧ Off None w w' := by
  have HFS := Lib.hid hfs
  have HFB := Lib.hid hfb
  have HAP := Lib.hid hap
  have HIN := Lib.hid hin
  have HCH := Lib.hid hch
  clear hfs hfb hap hin hch
  have H := Lib.hid h
  have hlt := Heap.lt h.core
  have c3 : w.cell? ⟨d, 3, none⟩ = some (.map (some R.bm)) := Heap.cell h.core 3
  have c4 : w.cell? ⟨d, 4, none⟩ = some R.mv := Heap.cell h.core 4
  obtain ⟨Am, cm, hmv, hmc, hmx, hmcell⟩ := move_cell h.mrow
  rw [hmv] at c4
  have HMC := Lib.hid hmcell
  clear h hmv hmcell
  go_enter Tryz.func38, Tryz.ntmps38
  go_wp2_with fail
  obtain ⟨bk, hbk⟩ : ∃ bk, bk = w.heap.size := ⟨_, rfl⟩
  obtain ⟨w1, hw1⟩ : ∃ w1, w1 = w.alloc (.cells #[.int .i64 k, .slice A fs.length c] 63) := ⟨_, rfl⟩
  have ho1 : Off None w w1 := by rw [hw1]; exact (Off.refl None w).alloc _
  have hb1 : w1.heap[bk]? = some (.cells #[.int .i64 k, .slice A fs.length c] 63 (0, 0)) := by rw [hw1, hbk]; exact Heap.alloc_new w _
  rw [← hw1, ← hbk]
  have HW := Lib.hid hw1
  have HBK := Lib.hid hbk
  clear hw1 hbk
  refine (AnyW.maps_Clone_owns Tryz.cloneNames 9 (Go.plainElem Tryz.prog 3) R.bm D.base.length D.base.toD w1 (ho1.map H.out.base (fun h => h))).mono ?_
  rintro e w2 ⟨rfl, hm2, _, hb2⟩
  have ho2 : Off None w1 w2 := Off.of_below hb2
  have hbk2 := ho2.at_ hb1 (fun h => h)
  have HO2 := Lib.hid (ho1.trans ho2 (fun _ _ h => h))
  have HM2 := Lib.hid hm2
  have HB2 := Lib.hid hbk2
  have d4 : w2.cell? ⟨d, 4, none⟩ = some (.slice Am D.moves.length cm) := HO2.out.keep c4 (fun h => h)
  have e0 : w2.cell? ⟨bk, 0, none⟩ = some (.int .i64 k) := Heap.cell hbk2 0
  have hlt2 : d < w2.heap.size := Nat.lt_of_lt_of_le hlt HO2.out.size
  clear ho1 hb1 hm2 hb2 ho2 hbk2 c3 c4
  have hmn : (0 : Int) ≤ max 0 (min k (D.moves.length : Int)) := by omega
  have hmn2 : max 0 (min k (D.moves.length : Int)) ≤ (D.moves.length : Int) := by omega
  have hmn3 : max 0 (min k (D.moves.length : Int)) ≤ (cm : Int) := by omega
  go_wp2_with fail
  go_quiet (fail)
  obtain ⟨q, hq⟩ : ∃ q : Nat, max 0 (min k (D.moves.length : Int)) = (q : Int) := ⟨(max 0 (min k (D.moves.length : Int))).toNat, by omega⟩
  have hqn : (max 0 (min k (D.moves.length : Int))).toNat = q := by omega
  have hql : q ≤ D.moves.length := by omega
  rw [hq, Int.toNat_natCast]
  obtain ⟨nb, hnb⟩ : ∃ nb, nb = w1.heap.size := ⟨_, rfl⟩
  obtain ⟨w3, hw3⟩ : ∃ w3, w3 = w2.drewN nq := ⟨_, rfl⟩
  have ho23 : Off None w2 w3 := by rw [hw3]; exact (Off.refl None w2).drewN nq
  have hm3 : MapAt w3 nb D.base := by rw [hnb]; exact ho23.map HM2.out (fun h => h)
  have HM3 := Lib.hid hm3
  have HB3 := Lib.hid (ho23.at_ HB2.out (fun h => h))
  have HO3 := Lib.hid (HO2.out.trans ho23 (fun _ _ h => h))
  have hnw : w.heap.size ≤ nb := by rw [hnb, HW.out, Heap.alloc_size]; omega
  have hbn : bk < nb := by rw [hnb, HW.out, Heap.alloc_size, HBK.out]; omega
  rw [← hw3, ← hnb]
  have HQN := Lib.hid hqn
  clear hq hqn hmn hmn2 hmn3 ho23 hm3 HM2 HB2 HO2 hw3 hnb d4 e0
  go_wp2_with fail
  go_loopw [36] (fun i wr => ∃ j : Nat, j ≤ q ∧ i = .int .i64 j ∧ MapAt wr nb ((D.moves.take j).foldl (fun m mv => DiskV.done mv m) D.base) ∧ Off (Only nb) w3 wr) (fun i _ => q - (intOf i).toNat)
  case atStart => exact ⟨0, Nat.zero_le _, rfl, HM3.out, Off.refl _ _⟩
  case round =>
    obtain ⟨j, hj, rfl, hmj, ho⟩ := hrel
    have HMJ := Lib.hid hmj; clear hmj HM3
    have HO := Lib.hid ho; clear ho
    by_cases hlt1 : j < q
    · obtain ⟨g, hA, hg, c0, c1, c2⟩ := HMC.out j (by omega)
      subst hA
      have hwr : ∀ (i : Nat) (v : Value), w.cell? ⟨g, i, none⟩ = some v → wr.cell? ⟨g, i, none⟩ = some v := fun i v hv => HO.out.keep (HO3.out.keep hv (fun h => h)) (show ¬ g = nb by omega)
      have d0 := hwr _ _ c0
      have d1 := hwr _ _ c1
      have d2 := hwr _ _ c2
      have hms := hmvs _ (List.getElem_mem (by omega : j < D.moves.length))
      obtain ⟨mv, hmv⟩ : ∃ mv, mv = D.moves[j]'(by omega) := ⟨_, rfl⟩
      rw [← hmv] at d0 d1 d2 hms
      have hlen := done_all_len (D.moves.take j) D.base
      have htl : (D.moves.take j).length ≤ j := List.length_take_le _ _
      have hstep : (D.moves.take (j + 1)).foldl (fun m mv => DiskV.done mv m) D.base = DiskV.done mv ((D.moves.take j).foldl (fun m mv => DiskV.done mv m) D.base) := by
        rw [List.take_succ_eq_append_getElem (by omega), List.foldl_append, hmv]; rfl
      have HST := Lib.hid hstep
      have hdn := fun (W : World) (hW : Off None wr W) => done_any W nb _ mv (hW.map HMJ.out (fun h => h)) hms.1 hms.2.1 (by unfold maxLen; omega) hms.2.2
      have HDN := Lib.hid hdn
      clear hwr c0 c1 c2 hmv hms hlen htl hstep hdn
      have hi0 : (0 : Int) ≤ (j : Int) := by omega
      have hi1 : (j : Int) < (q : Int) := by omega
      go_wp2_with fail
      refine (HDN.out _ ((Off.refl None wr).alloc _)).mono ?_
      rintro e w4 ⟨rfl, hm4, ho4⟩
      have HM4 := Lib.hid hm4; clear hm4
      have HO4 := Lib.hid ((HO.out.alloc _).trans ho4 (fun _ _ h => h)); clear ho4
      go_wp2_with fail
      case roundEnd => exact ⟨⟨j + 1, hlt1, by push_cast; rfl, by rw [HST.out]; exact HM4.out, HO4.out⟩, by simp [intOf]; omega⟩
    · have hjq : j = q := by omega
      subst hjq
      have hi1 : ¬ (j : Int) < (j : Int) := by omega
      obtain ⟨wa, hwa⟩ : ∃ wa, wa = wr := ⟨_, rfl⟩
      subst hwa
      obtain ⟨M, hM⟩ : ∃ M, M = D.crashNames k := ⟨_, rfl⟩
      have hmM : MapAt wa nb M := by
        rw [hM]; unfold DiskV.crashNames; rw [HQN.out]; exact HMJ.out
      have hML : M.length ≤ 2000000 := by
        rw [hM]; unfold DiskV.crashNames; rw [HQN.out]
        have h1 := done_all_len (D.moves.take j) D.base
        have h2 : (D.moves.take j).length ≤ j := List.length_take_le _ _
        omega
      have hnb : nb < wa.heap.size := hmM.lt
      have hap := HAP.out; rw [← hM] at hap
      have hin := HIN.out; rw [← hM] at hin
      have hch := HCH.out; rw [← hM] at hch
      have HAP2 := Lib.hid hap; have HIN2 := Lib.hid hin; have HCH2 := Lib.hid hch
      have HM := Lib.hid hM
      clear hap hin hch hM HAP HIN HCH
      have hoW : Off None w wa := (HO3.out.trans HO.out (fun b hb e => by have e : b = nb := e; omega) : Off None w wa)
      have hbkr : wa.heap[bk]? = some (.cells #[.int .i64 k, .slice A fs.length c] 63 (0, 0)) := HO.out.at_ HB3.out (fun e => by have e : bk = nb := e; omega)
      have HOW := Lib.hid hoW; have HBR := Lib.hid hbkr
      have hmk : ∀ w : World, (Instr.makeMap 139 none).run Tryz.prog w = .ok (.map (some w.heap.size)) (w.alloc (.map #[] 0)) := fun w => run_makeMap _ w
      obtain ⟨w4, hw4⟩ : ∃ w4, w4 = wa.alloc (.map #[] 0) := ⟨_, rfl⟩
      obtain ⟨bf, hbf⟩ : ∃ bf, bf = wa.heap.size := ⟨_, rfl⟩
      have ho4 : Off None wa w4 := by rw [hw4]; exact (Off.refl None wa).alloc _
      have him4 : IMapAt w4 bf [] := by rw [hw4, hbf]; exact World.ownsMap_made (H := Unit) wa _ _ _
      have HM4 := Lib.hid (ho4.map hmM (fun h => h))
      have HI4 := Lib.hid him4
      have hs4 : w4.heap.size = bf + 1 := by rw [hw4, hbf, Heap.alloc_size]
      have HO4 := Lib.hid ho4
      have HW4 := Lib.hid hw4; have HBF := Lib.hid hbf
      rw [← hbf] at hnb
      clear hoW hbkr ho4 him4 hw4 hbf hmM HMJ HQN HO HO3 HB3
      go_wp2_with (at_range; rw [← HW4.out, ← HBF.out]; refine wpList_range_own _ rfl _ 76 rfl 9 3 keyedS Tryz.underlying76 _ nb M.length M.toD rfl HM4.out ?_; intro w5 hrg5 hg5 hs5)
      obtain ⟨it, hit⟩ : ∃ it, it = bf + 1 := ⟨_, rfl⟩
      rw [hs4, ← hit] at hrg5
      rw [← hit]
      have ho5 : Off None w4 w5 := (Off.refl None w4).grown hg5 (by intro k hk; cases hk)
      have HI5 := Lib.hid (ho5.map HI4.out (fun h => h) : IMapAt w5 bf [])
      have HRG5 := Lib.hid hrg5
      have HO5 := Lib.hid (HO4.out.trans ho5 (fun _ _ h => h))
      have hnit : nb ≠ it := by omega
      have hnbf : nb ≠ bf := by omega
      have hitf : it ≠ bf := by omega
      have hapM := map_apart HM4.out
      have HAPM := Lib.hid hapM
      have HIT := Lib.hid hit
      clear hrg5 hg5 hs5 ho5 HI4 HO4 hapM hit hmk
      go_loopw [9] (fun _ wr2 => ∃ left cnt im, wr2.ranges Tryz.prog 9 (Go.plainElem Tryz.prog 3) nb it M.length M.toD left cnt ∧ IMapAt wr2 bf im ∧ IMap.Laid M (fun s => left (.string s)) im ∧ im.length + cnt ≤ 2000000 ∧ Off None wa wr2) (fun _ wr2 => wr2.rangeLeft nb it)
      case atStart =>
        refine ⟨_, _, [], HRG5.out, HI5.out, fun i s => ?_, ?_, HO5.out⟩
        · constructor
          · intro h; cases h
          · rintro ⟨h1, h2⟩
            have h2 : Maps.has M.toD (Lit.string s) = false := h2
            rw [NMap.has_toD, NMap.get_of_mem HAPM.out h1] at h2
            cases h2
        · rw [NMap.size_toD]
          show 0 + M.length ≤ _
          omega
      case round =>
        obtain ⟨wr2, hwr2⟩ : ∃ wr2, wr2 = wr := ⟨_, rfl⟩
        subst hwr2
        obtain ⟨left, cnt, im, hrg, him, hld, hlen, hoff⟩ := hrel
        have HR := Lib.hid hrg; clear hrg
        have HIM := Lib.hid him; clear him
        have HLD := Lib.hid hld; clear hld
        have HO2 := Lib.hid hoff; clear hoff
        go_wp2_with (at_next; refine wpList_next_ranges _ rfl _ rfl 9 keyedS _ Value.string (Value.int .i64) (fun key kl hk => ?k1) (fun v y hv => ?k2) nb it M.length M.toD left cnt rfl HR.out ?_ ?_)
        case k1 => exact keyOf_string_shape hk
        case k2 => obtain ⟨c, rfl, _⟩ := Go.plainElem_int_inv Tryz.underlying3 hv; exact ⟨c, rfl⟩
        · intro hc0 hl0
          have hfin : ∀ i s, im.get i = some s ↔ (s, i) ∈ M := fun i s => by
            rw [HLD.out i s]
            exact ⟨fun h => h.1, fun h => ⟨h, hl0 _⟩⟩
          have hlM : im.length ≤ 2000000 := by omega
          have hoW : Off None w wr2 := HOW.out.trans HO2.out (fun _ _ h => h.elim)
          have c0 : wr2.cell? ⟨d, 0, none⟩ = some (.int .i64 D.room) := hoW.keep (Heap.cell H.out.core 0) (fun h => h)
          have hroom := H.out.wf.room.2
          have hdlt : d < wr2.heap.size := Nat.lt_of_lt_of_le hlt hoW.size
          have hwsz := hoW.size
          have HOW2 := Lib.hid hoW
          have HFIN := Lib.hid hfin
          have HBR2 := Lib.hid (HO2.out.at_ HBR.out (fun h => h))
          have hbkl : bk < wr2.heap.size := Heap.lt HBR2.out
          clear hc0 hl0 hfin hoW HLD HR HO5 HI5 HRG5 HM4
          go_wp2_with fail
          refine (new_any wr2 D.room hroom).mono ?_
          rintro e w6 ⟨o, rfl, hdo, ho6⟩
          have HDO := Lib.hid hdo
          have him6 := ho6.map HIM.out (fun h => h)
          have HIM6 := Lib.hid (him6 : IMapAt w6 bf im)
          have HO6 := Lib.hid ho6
          have hbf6 : bf < wr2.heap.size := HIM.out.lt
          clear hdo him6 ho6 c0
          go_wp2_with fail
          refine (callsIn_wide.1 (Tryz.maps_KeysI (some bf) w6)).mono ?_
          rintro e w7' ⟨rfl, rfl⟩
          go_wp2_with fail
          have hsz : Maps.size im.toD ≤ 1099511627776 := by rw [IMap.size_toD]; omega
          refine (callsIn_wide.1 (Tryz.slices_SortedI bf im.length im.toD (Go.plainElem Tryz.prog 9) w6 HIM6.out (by unfold maxLen; omega) (by omega))).mono ?_
          rintro e w7 ⟨v, ss, rfl, hS, hrow, hnil, hb⟩
          rw [intKeys_toD] at hS
          have hids := keys_ids HAP2.out (imap_apart HIM6.out) HFIN.out hS
          obtain ⟨ids, hi⟩ : ∃ ids, ids = DiskV.crashIds M := ⟨_, rfl⟩
          rw [hids, ← hi] at hrow
          have hlen2 : ss.length = ids.length := by have := congrArg List.length hids; rw [List.length_mergeSort, List.length_map, ← hi] at this; exact this
          rw [hlen2] at hrow
          have hidl : ids.length ≤ 2000000 := by rw [hi]; unfold DiskV.crashIds; rw [List.length_mergeSort, List.length_map]; exact hML
          have hmemid : ∀ i ∈ ids, ∃ s, (s, i) ∈ M := by
            intro i him
            rw [hi] at him
            unfold DiskV.crashIds at him
            obtain ⟨p, hp, rfl⟩ := List.mem_map.1 (List.mem_mergeSort.1 him)
            exact ⟨p.1, hp⟩
          have hs7 : (w6.alloc (.cells #[.map (some bf)] 139)).heap.size = w6.heap.size + 1 := Heap.alloc_size _ _
          have hcell : ∃ pv cv, v = .slice pv ids.length cv ∧ ∀ q (hq : q < ids.length), ∃ g, pv = some ⟨g, 0, none⟩ ∧ w6.heap.size ≤ g ∧ g < w7.heap.size ∧ w7.cell? ⟨g, q, none⟩ = some (.int .i64 (ids[q] : Nat)) := by
            obtain ⟨_, ⟨rfl, h0⟩ | ⟨g, cap, cur, rfl, hg, hb, hle, hmx, hsz, ht⟩⟩ := hrow
            · exact ⟨none, 0, by rw [h0], fun q hq => absurd hq (by omega)⟩
            · refine ⟨_, _, rfl, fun q hq => ⟨g, rfl, by omega, Heap.lt hb, ?_⟩⟩
              rw [Heap.cell hb, ← Array.getElem?_toList, ← List.getElem?_take_of_lt (j := ids.length * 1) (by omega), ht, List.getElem?_map, List.getElem?_map, List.getElem?_eq_getElem hq]
              rfl
          obtain ⟨pv, cv, rfl, hcell⟩ := hcell
          have ho7 : Off None w6 w7 := ((Off.refl None w6).alloc _).trans (Off.of_below hb : Off None _ _) (fun _ _ h => h)
          obtain ⟨F6, hF6⟩ : ∃ F6 : Nat → Prop, F6 = fun b => wr2.heap.size ≤ b ∧ b < w6.heap.size := ⟨_, rfl⟩
          have hdo7 : DiskIn w7 o (outDisk D.room ([], [])) (fun b => F6 b ∨ w7.heap.size ≤ b) := (HDO.out.off ho7 (fun _ _ _ h => h)).mono (fun b _ hb => .inl (by rw [hF6]; exact hb))
          have hF6b : ∀ b, F6 b → wr2.heap.size ≤ b ∧ b < w6.heap.size := fun b hb => by rw [hF6] at hb; exact hb
          have HDO7 := Lib.hid hdo7
          have HC := Lib.hid hcell
          have HMI := Lib.hid hmemid
          have HF6 := Lib.hid hF6b
          have hol : o < w7.heap.size := by
            obtain ⟨Rx, hx, _⟩ := hdo7
            exact Heap.lt hx.core
          have HIDS := Lib.hid hi
          have HO67 := Lib.hid (HO6.out.trans ho7 (fun _ _ h => h.elim) : Off None wr2 w7)
          have h67 : w6.heap.size ≤ w7.heap.size := ho7.size
          clear hS hids hrow hlen2 hnil hb hs7 hcell hdo7 hF6b hF6 hmemid ho7 HDO hi HO6 HIM6 hsz
          go_wp2_with fail
          go_loopw [64] (fun i wr3 => ∃ q : Nat, q ≤ ids.length ∧ i = .int .i64 q ∧ DiskIn wr3 o (outDisk D.room ((ids.take q).foldl (DiskV.crashStep D M fs) ([], []))) (fun b => F6 b ∨ w7.heap.size ≤ b) ∧ Off F6 w7 wr3) (fun i _ => ids.length - (intOf i).toNat)
          case atStart => exact ⟨0, Nat.zero_le _, rfl, by rw [List.take_zero]; exact HDO7.out, Off.refl _ _⟩
          case round =>
            obtain ⟨wr3, hwr3⟩ : ∃ wr3, wr3 = wr := ⟨_, rfl⟩
            subst hwr3
            obtain ⟨q, hq, rfl, hdq, ho⟩ := hrel
            have HDQ := Lib.hid hdq; clear hdq HDO7
            have ho3 : Off None wr2 wr3 := HO67.out.trans ho (fun b hb h => by have := (HF6.out b h).1; omega)
            have HO := Lib.hid ho; clear ho
            have HO3 := Lib.hid ho3; clear ho3
            by_cases hlt3 : q < ids.length
            · obtain ⟨g, hpv, hg1, hg2, hc⟩ := HC.out q hlt3
              subst hpv
              obtain ⟨i, hi⟩ : ∃ i, i = ids[q] := ⟨_, rfl⟩
              rw [← hi] at hc
              obtain ⟨s, hsi⟩ := HMI.out i (by rw [hi]; exact List.getElem_mem _)
              have hin := HIN2.out _ hsi
              have hgi := (HFIN.out i s).2 hsi
              have hnm := nameOf_of_mem HAP2.out hsi
              obtain ⟨st, hst⟩ : ∃ st, st = (ids.take q).foldl (DiskV.crashStep D M fs) ([], []) := ⟨_, rfl⟩
              have hst1 : (ids.take (q + 1)).foldl (DiskV.crashStep D M fs) ([], []) = DiskV.crashStep D M fs st i := by
                rw [List.take_succ_eq_append_getElem hlt3, List.foldl_append, ← hst, hi]; rfl
              have hl1 := crash_len D M fs (ids.take q) ([], [])
              have hl2 := crash_names_len D M fs (ids.take q) ([], [])
              rw [← hst] at hl1 hl2
              have hlq : (ids.take q).length = q := by rw [List.length_take]; omega
              have hdq := HDQ.out
              rw [← hst] at hdq
              have hlen1 : st.1.length = q := by rw [hl1, hlq]; exact Nat.zero_add q
              have hlen2 : st.2.length ≤ q := by rw [hlq] at hl2; exact Nat.le_trans hl2 (Nat.le_of_eq (Nat.zero_add q))
              have hc' : wr3.cell? ⟨g, q, none⟩ = some (.int .i64 i) := HO.out.keep hc (fun h => by have h9 := (HF6.out g h).2; omega)
              have hoW3 : Off None w wr3 := HOW2.out.trans HO3.out (fun _ _ h => h.elim)
              have hD3 := H.out.off hoW3 (fun _ _ h => h)
              have hfi : i < D.files.length := hin.2
              obtain ⟨gf, cf, b, hfv, hfb, hfc⟩ := frow_cell hD3 i hfi
              obtain ⟨b', cvf, e1, e2, hfat, _, _⟩ := hD3.each i _ (List.getElem?_eq_getElem hfi)
              cases e1.symm.trans hfb
              have hchf := HCH2.out _ hsi _ (List.getElem?_eq_getElem hfi)
              obtain ⟨f, hf⟩ : ∃ f, f = D.files[i] := ⟨_, rfl⟩
              rw [← hf] at hfat hchf
              have hid : i ≤ 9223372036854775807 := by
                have h2 := hD3.frow
                obtain ⟨_, ⟨_, h0⟩ | ⟨g, cap, cur, _, _, _, hle, hmx, _⟩⟩ := h2
                · omega
                · have : cap ≤ 2 ^ 63 - 1 := hmx
                  omega
              have k1 : wr3.cell? ⟨d, 1, none⟩ = some (.slice (some ⟨gf, 0, none⟩) D.files.length cf) := by rw [← hfv]; exact Heap.cell hD3.core 1
              have e1 : wr3.cell? ⟨bk, 1, none⟩ = some (.slice A fs.length c) := Heap.cell (HO3.out.at_ HBR2.out (fun h => h)) 1
              have htext : D.crashText fs i = atGo f.base f.chgs (fs.getD i 0) := by unfold DiskV.crashText; rw [List.getElem?_eq_getElem hfi, ← hf]
              obtain ⟨t, ht⟩ : ∃ t, t = D.crashText fs i := ⟨_, rfl⟩
              rw [← ht] at htext
              obtain ⟨mo, hmo⟩ : ∃ mo, mo = fs.getD i 0 := ⟨_, rfl⟩
              rw [← hmo] at htext
              have hmb : -9223372036854775808 ≤ mo ∧ mo ≤ 9223372036854775807 := by
                rw [hmo, List.getD_eq_getElem?_getD]
                rcases Nat.lt_or_ge i fs.length with h | h
                · rw [List.getElem?_eq_getElem h]; exact HFB.out _ (List.getElem_mem h)
                · rw [List.getElem?_eq_none h]; exact ⟨by decide, by decide⟩
              have hat := at_any wr3 b cvf f hfat mo hmb.1 hmb.2 hchf.1 hchf.2
              rw [← htext] at hat
              have HST1 := Lib.hid hst1; have HST := Lib.hid hst; have HTX := Lib.hid ht; have HNM := Lib.hid hnm; have HGI := Lib.hid hgi; have HD := Lib.hid hdq
              have hsl : s.length ≤ 24 := hin.1
              have i0 : (0 : Int) ≤ (q : Int) := by omega
              have i1 : (q : Int) < (ids.length : Int) := by omega
              have i2 : (0 : Int) ≤ (i : Int) := by omega
              have i3 : (i : Int) < (D.files.length : Int) := by omega
              have hol3 : o < wr3.heap.size := Nat.lt_of_lt_of_le hol HO.out.size
              clear hc hin hgi hnm hst hst1 hl1 hl2 hlq hdq hfat hchf hfv hfb e2 hD3 hf ht hsi htext hmb hi
              by_cases hm : i < fs.length
              · obtain ⟨a, hA, hac⟩ := HFS.out i hm
                subst hA
                have hme : mo = fs[i] := by rw [hmo, List.getD_eq_getElem?_getD, List.getElem?_eq_getElem hm]; rfl
                have hac' := hoW3.keep hac (fun h => h)
                rw [← hme] at hac'
                have hm1 : (i : Int) < (fs.length : Int) := by omega
                have HAT := Lib.hid hat
                clear hac hmo hme hat
                go_wp2_with fail
                refine HAT.out.mono ?_
                rintro e w8 ⟨rfl, ho8⟩
                obtain ⟨R3, h3, hF3⟩ := HD.out
                obtain ⟨w9, hw9⟩ : ∃ w9, w9 = w8.drew := ⟨_, rfl⟩
                have ho9 : Off None wr3 w9 := by rw [hw9]; exact ho8.drew
                have h9 := h3.off ho9 (fun _ _ h => h)
                obtain ⟨pf, cpf, hfv3⟩ := row_shape h9.frow
                have hlx : (outDisk D.room st).files.length = q := hlen1
                rw [hlx] at hfv3
                have d1 : w9.cell? ⟨o, 1, none⟩ = some (.slice pf q cpf) := by rw [← hfv3]; exact Heap.cell h9.core 1
                have d2 : w9.cell? ⟨o, 2, none⟩ = some (.map (some R3.nm)) := Heap.cell h9.core 2
                have him9 : IMapAt w9 bf im := (HO3.out.trans ho9 (fun _ _ h => h)).map HIM.out (fun h => h)
                have hlook := imap_look him9 i hid s HGI.out
                have hns : (⟨s.toArray⟩ : ByteArray).size ≤ maxLen := by show s.toArray.size ≤ _; rw [List.size_toArray]; unfold maxLen; omega
                obtain ⟨w10, hput, hm10, ht10⟩ := map_put h9.names ⟨s.toArray⟩ hns q (by omega) (by show st.2.length < _; unfold maxLen; omega)
                have hol9 : o < w9.heap.size := Heap.lt h9.core
                have H9 := Lib.hid h9; have HF3 := Lib.hid hF3; have HM10 := Lib.hid hm10; have HT10 := Lib.hid ht10; have HO9 := Lib.hid ho9; have HFV3 := Lib.hid hfv3
                have HW9 := Lib.hid hw9
                clear h3 h9 hF3 hm10 ht10 ho9 hfv3 him9 ho8 hw9
                go_wp2_with fail
                refine wp_region_still_tail 12 (by kernel_rfl) (by kernel_rfl) ?_
                simp only [List.take_succ_cons, List.take_zero, List.drop_succ_cons, List.drop_zero]
                change wpStill _ _ w8.drew (fun a' => wpList _ _ _ _ a' w8.drew) _ _
                rw [← HW9.out]
                repeat still_step
                refine wpStill_nil ?_
                obtain ⟨ip, hi, hz0, hz1, hz2⟩ := info_parts infoPtr
                have ho10 : Off (fun k => k = R3.nm) w9 w10 := (Off.refl _ _).turned HT10.out (.inl rfl)
                have hon : ¬ (o = R3.nm) := fun e => by have h1 := H9.out.rD; have h2 := H9.out.rN; rw [e] at h1; omega
                have hd10 := ho10.at_ H9.out.core hon
                have x1 : w10.cell? ⟨o, 1, none⟩ = some (.slice pf q cpf) := by rw [← HFV3.out]; exact Heap.cell hd10 1
                have hr10 : w10.ownsRow 0 102 1 (.slice pf q cpf) q (R3.fbs.map ptrTo) := by
                  have := ho10.row H9.out.frow (fun k hk e => by have h1 := H9.out.rF k hk; have h2 := H9.out.rN; rw [show k = R3.nm from e] at h1; omega)
                  rw [HFV3.out, show (outDisk D.room st).files.length = q from hlen1] at this
                  exact this
                have hsa : (w10.alloc (.cells #[.string t, .string t, .slice none 0 0] 101)).heap.size = w10.heap.size + 1 := Heap.alloc_size _ _
                have hrow4 : ∀ o o' : Obj, ((w10.alloc o).alloc o').ownsRow 0 102 1 (.slice pf q cpf) q (R3.fbs.map ptrTo) := fun o o' => (((Off.refl None w10).alloc o).alloc o').row hr10 (fun k hk e => e)
                have HR4 := Lib.hid hrow4
                have HO10 := Lib.hid ho10
                have HD10 := Lib.hid hd10
                have hq2 : q ≤ 2000000 := by omega
                have hol10 : o < w10.heap.size := Heap.lt hd10
                have hsz910 : w9.heap.size ≤ w10.heap.size := ho10.size
                clear hrow4 hr10 ho10 hd10 hlook k1 e1 hc' d1 d2
                go_wp2_with (at_builtin; refine wpList_append_lies _ rfl _ _ 77 rfl 0 102 ip _ 1 8 Tryz.underlying77 hi hz0 hz1 hz2 rfl (by decide) (.slice pf q cpf) q (R3.fbs.map ptrTo) rfl (HR4.out _ _) ⟨w10.heap.size + 1, 0, none⟩ 1 1 [ptrTo w10.heap.size] rfl rfl ?c1 ?c2 (by decide) ?c3 ?c4 (Nat.zero_le _) (w10.heap.size + 1 + 1) ?c5 ?_)
                case c1 => exact Heap.news _ #[.pointer (some ⟨w10.heap.size, 0, none⟩)] _ _ hsa.symm
                case c2 => intro u hu; simp at hu; rcases hu with rfl; rfl
                case c3 => unfold maxLen; omega
                case c4 => omega
                case c5 => rw [Heap.alloc_size, hsa]
                intro g11 cap11 w11 hrow11 hg11 hgb hgl
                have hge : (Value.slice pf q cpf).ownBlock = some g11 ∨ w10.heap.size ≤ g11 := hgb.imp id (fun h => by omega)
                have hnd : (Value.slice pf q cpf).ownBlock ≠ some o := fun e => by rw [← HFV3.out] at e; have h3 := H9.out.rF o e; have h4 := H9.out.rD; omega
                have hnf : (Value.slice pf q cpf).ownBlock ≠ some w10.heap.size := fun e => by rw [← HFV3.out] at e; have h3 := row_lt H9.out.frow e; omega
                have hnn : (Value.slice pf q cpf).ownBlock ≠ some R3.nm := fun e => by rw [← HFV3.out] at e; have h3 := H9.out.rF _ e; have h4 := H9.out.rN; omega
                have hd11 := Heap.grown hg11 (Heap.alloc_old (Heap.alloc_old HD10.out _) _) hnd
                have hf11 : w11.heap[w10.heap.size]? = some (.cells #[.string t, .string t, .slice none 0 0] 101 (0, 0)) := Heap.grown hg11 (Heap.alloc_old (Heap.alloc_new w10 _) _) hnf
                have hgd : g11 ≠ o := by
                  rcases hge with h' | h'
                  · intro e; exact hnd (by rw [h', e])
                  · omega
                have hgf : g11 ≠ w10.heap.size := by
                  rcases hgb with h' | h'
                  · intro e; exact hnf (by rw [h', e])
                  · omega
                have ho11 : Off (fun k => k = o ∨ (Value.slice pf q cpf).ownBlock = some k) w10 w11 := (((Off.refl _ w10).alloc _).alloc _).grown hg11 (fun k hk => .inl (.inr hk))
                obtain ⟨v', hv⟩ : ∃ v', v' = Value.slice (some ⟨g11, 0, none⟩) (q + 1) cap11 := ⟨_, rfl⟩
                have hog : v'.ownBlock = some g11 := by rw [hv]; rfl
                have ho12 := ho11.setCell (p := ⟨o, 1, none⟩) (.inl (.inl rfl)) v'
                have hr12 := ((Off.refl (Only o) w11).set 1 v').row hrow11 (fun k hk e => by cases hk; exact hgd e)
                have hf12 := ((Off.refl (Only o) w11).set 1 v').at_ hf11 (fun e => by have h1 : w10.heap.size = o := e; omega)
                rw [← hv] at hr12
                have hlx : (outDisk D.room st).files.length = q := hlen1
                have hr12' : (w11.setCell ⟨o, 1, none⟩ v').ownsRow 0 102 1 v' ((outDisk D.room st).files.length + 1) (R3.fbs.map ptrTo ++ [ptrTo w10.heap.size]) := by rw [hlx]; exact hr12
                have hm12 : MapAt (w11.setCell ⟨o, 1, none⟩ v') R3.nm ((outDisk D.room st).names.put (bytesOf ⟨s.toArray⟩) (outDisk D.room st).files.length) := by
                  rw [hlx]
                  exact ho12.map HM10.out (fun e => e.elim (fun e => hon e.symm) (fun e => hnn e))
                have ho92 : Off (fun k => k = o ∨ R3.fv.ownBlock = some k ∨ k = R3.nm) w9 (w11.setCell ⟨o, 1, none⟩ v') := by
                  refine (HO10.out.mono (fun k _ e => .inr (.inr e)) : Off (fun k => k = o ∨ R3.fv.ownBlock = some k ∨ k = R3.nm) w9 w10).trans ho12 (fun k _ e => ?_)
                  rw [HFV3.out]
                  exact e.elim .inl (fun e => .inr (.inl e))
                have h12 := DiskAt.addNamed t (bytesOf ⟨s.toArray⟩) H9.out ho92 hsz910 hf12 ((Heap.set hd11 1 v').trans rfl) hr12' (by rw [hog, HFV3.out]; intro k hk; cases hk; exact hge.imp id (fun h => by omega)) (by rw [hog]; intro e; cases e; exact hgf rfl) hm12
                have hin12 := DiskRep.addFile_in (i := (outDisk D.room st).files.length) (fv := v') (w := w9) HF3.out (Heap.lt hf12) (by rw [hog]; intro k hk; cases hk; exact row_lt hr12 hog)
                have h12' : DiskIn (w11.setCell ⟨o, 1, none⟩ v') o (outDisk D.room (DiskV.crashStep D M fs st i)) (fun b => F6 b ∨ w7.heap.size ≤ b) := by
                  have e1 : DiskV.crashStep D M fs st i = (st.1 ++ [⟨t, t, []⟩], st.2.put (bytesOf ⟨s.toArray⟩) st.1.length) := by
                    unfold DiskV.crashStep
                    rw [← HTX.out, HNM.out]
                  rw [e1]
                  refine ⟨_, h12, fun b hb => (hin12 b hb).elim id (fun h => .inr ?_)⟩
                  have h1 := HO.out.size
                  have h2 := HO9.out.size
                  omega
                have ho7f : Off F6 w7 (w11.setCell ⟨o, 1, none⟩ v') := by
                  refine HO.out.trans ((HO9.out.mono (fun _ _ h => h.elim) : Off (fun k => k = o ∨ R3.fv.ownBlock = some k ∨ k = R3.nm) wr3 w9).trans ho92 (fun _ _ h => h) : Off (fun k => k = o ∨ R3.fv.ownBlock = some k ∨ k = R3.nm) wr3 _) (fun k hk e => ?_)
                  have hk3 : R3.role k ≠ 0 := by
                    rcases e with rfl | e | rfl
                    · rw [H9.out.rD]; omega
                    · rw [H9.out.rF k e]; omega
                    · rw [H9.out.rN]; omega
                  rcases HF3.out k hk3 with h | h
                  · exact h
                  · omega
                have H12 := Lib.hid h12'; have HO7 := Lib.hid ho7f
                have y1 : w11.frozen? ⟨o, 1, none⟩ = false := Heap.frozen hd11 1
                have y2 : w11.cell? ⟨o, 1, none⟩ = some (.slice pf q cpf) := by rw [← HFV3.out]; exact Heap.cell hd11 1
                rw [hv] at H12 HO7
                clear h12' ho7f h12 hin12 ho92 hm12 hr12 hr12' hf12 hf11 hd11 ho11 ho12 hrow11 hg11 hgb hge
                go_wp2_with fail
                case roundEnd => exact ⟨⟨q + 1, hlt3, by push_cast; rfl, by rw [HST1.out]; exact H12.out, HO7.out⟩, by simp [intOf]; omega⟩
              · have hme : mo = 0 := by rw [hmo, List.getD_eq_getElem?_getD, List.getElem?_eq_none (by omega)]; rfl
                subst hme
                have hm1 : ¬ (i : Int) < (fs.length : Int) := by omega
                have HAT := Lib.hid hat
                clear hmo hat
                go_wp2_with fail
                refine HAT.out.mono ?_
                rintro e w8 ⟨rfl, ho8⟩
                obtain ⟨R3, h3, hF3⟩ := HD.out
                obtain ⟨w9, hw9⟩ : ∃ w9, w9 = w8.drew := ⟨_, rfl⟩
                have ho9 : Off None wr3 w9 := by rw [hw9]; exact ho8.drew
                have h9 := h3.off ho9 (fun _ _ h => h)
                obtain ⟨pf, cpf, hfv3⟩ := row_shape h9.frow
                have hlx : (outDisk D.room st).files.length = q := hlen1
                rw [hlx] at hfv3
                have d1 : w9.cell? ⟨o, 1, none⟩ = some (.slice pf q cpf) := by rw [← hfv3]; exact Heap.cell h9.core 1
                have d2 : w9.cell? ⟨o, 2, none⟩ = some (.map (some R3.nm)) := Heap.cell h9.core 2
                have him9 : IMapAt w9 bf im := (HO3.out.trans ho9 (fun _ _ h => h)).map HIM.out (fun h => h)
                have hlook := imap_look him9 i hid s HGI.out
                have hns : (⟨s.toArray⟩ : ByteArray).size ≤ maxLen := by show s.toArray.size ≤ _; rw [List.size_toArray]; unfold maxLen; omega
                obtain ⟨w10, hput, hm10, ht10⟩ := map_put h9.names ⟨s.toArray⟩ hns q (by omega) (by show st.2.length < _; unfold maxLen; omega)
                have hol9 : o < w9.heap.size := Heap.lt h9.core
                have H9 := Lib.hid h9; have HF3 := Lib.hid hF3; have HM10 := Lib.hid hm10; have HT10 := Lib.hid ht10; have HO9 := Lib.hid ho9; have HFV3 := Lib.hid hfv3
                have HW9 := Lib.hid hw9
                clear h3 h9 hF3 hm10 ht10 ho9 hfv3 him9 ho8 hw9
                go_wp2_with fail
                refine wp_region_still_tail 12 (by kernel_rfl) (by kernel_rfl) ?_
                simp only [List.take_succ_cons, List.take_zero, List.drop_succ_cons, List.drop_zero]
                change wpStill _ _ w8.drew (fun a' => wpList _ _ _ _ a' w8.drew) _ _
                rw [← HW9.out]
                repeat still_step
                refine wpStill_nil ?_
                obtain ⟨ip, hi, hz0, hz1, hz2⟩ := info_parts infoPtr
                have ho10 : Off (fun k => k = R3.nm) w9 w10 := (Off.refl _ _).turned HT10.out (.inl rfl)
                have hon : ¬ (o = R3.nm) := fun e => by have h1 := H9.out.rD; have h2 := H9.out.rN; rw [e] at h1; omega
                have hd10 := ho10.at_ H9.out.core hon
                have x1 : w10.cell? ⟨o, 1, none⟩ = some (.slice pf q cpf) := by rw [← HFV3.out]; exact Heap.cell hd10 1
                have hr10 : w10.ownsRow 0 102 1 (.slice pf q cpf) q (R3.fbs.map ptrTo) := by
                  have := ho10.row H9.out.frow (fun k hk e => by have h1 := H9.out.rF k hk; have h2 := H9.out.rN; rw [show k = R3.nm from e] at h1; omega)
                  rw [HFV3.out, show (outDisk D.room st).files.length = q from hlen1] at this
                  exact this
                have hsa : (w10.alloc (.cells #[.string t, .string t, .slice none 0 0] 101)).heap.size = w10.heap.size + 1 := Heap.alloc_size _ _
                have hrow4 : ∀ o o' : Obj, ((w10.alloc o).alloc o').ownsRow 0 102 1 (.slice pf q cpf) q (R3.fbs.map ptrTo) := fun o o' => (((Off.refl None w10).alloc o).alloc o').row hr10 (fun k hk e => e)
                have HR4 := Lib.hid hrow4
                have HO10 := Lib.hid ho10
                have HD10 := Lib.hid hd10
                have hq2 : q ≤ 2000000 := by omega
                have hol10 : o < w10.heap.size := Heap.lt hd10
                have hsz910 : w9.heap.size ≤ w10.heap.size := ho10.size
                clear hrow4 hr10 ho10 hd10 hlook k1 e1 hc' d1 d2
                go_wp2_with (at_builtin; refine wpList_append_lies _ rfl _ _ 77 rfl 0 102 ip _ 1 8 Tryz.underlying77 hi hz0 hz1 hz2 rfl (by decide) (.slice pf q cpf) q (R3.fbs.map ptrTo) rfl (HR4.out _ _) ⟨w10.heap.size + 1, 0, none⟩ 1 1 [ptrTo w10.heap.size] rfl rfl ?c1 ?c2 (by decide) ?c3 ?c4 (Nat.zero_le _) (w10.heap.size + 1 + 1) ?c5 ?_)
                case c1 => exact Heap.news _ #[.pointer (some ⟨w10.heap.size, 0, none⟩)] _ _ hsa.symm
                case c2 => intro u hu; simp at hu; rcases hu with rfl; rfl
                case c3 => unfold maxLen; omega
                case c4 => omega
                case c5 => rw [Heap.alloc_size, hsa]
                intro g11 cap11 w11 hrow11 hg11 hgb hgl
                have hge : (Value.slice pf q cpf).ownBlock = some g11 ∨ w10.heap.size ≤ g11 := hgb.imp id (fun h => by omega)
                have hnd : (Value.slice pf q cpf).ownBlock ≠ some o := fun e => by rw [← HFV3.out] at e; have h3 := H9.out.rF o e; have h4 := H9.out.rD; omega
                have hnf : (Value.slice pf q cpf).ownBlock ≠ some w10.heap.size := fun e => by rw [← HFV3.out] at e; have h3 := row_lt H9.out.frow e; omega
                have hnn : (Value.slice pf q cpf).ownBlock ≠ some R3.nm := fun e => by rw [← HFV3.out] at e; have h3 := H9.out.rF _ e; have h4 := H9.out.rN; omega
                have hd11 := Heap.grown hg11 (Heap.alloc_old (Heap.alloc_old HD10.out _) _) hnd
                have hf11 : w11.heap[w10.heap.size]? = some (.cells #[.string t, .string t, .slice none 0 0] 101 (0, 0)) := Heap.grown hg11 (Heap.alloc_old (Heap.alloc_new w10 _) _) hnf
                have hgd : g11 ≠ o := by
                  rcases hge with h' | h'
                  · intro e; exact hnd (by rw [h', e])
                  · omega
                have hgf : g11 ≠ w10.heap.size := by
                  rcases hgb with h' | h'
                  · intro e; exact hnf (by rw [h', e])
                  · omega
                have ho11 : Off (fun k => k = o ∨ (Value.slice pf q cpf).ownBlock = some k) w10 w11 := (((Off.refl _ w10).alloc _).alloc _).grown hg11 (fun k hk => .inl (.inr hk))
                obtain ⟨v', hv⟩ : ∃ v', v' = Value.slice (some ⟨g11, 0, none⟩) (q + 1) cap11 := ⟨_, rfl⟩
                have hog : v'.ownBlock = some g11 := by rw [hv]; rfl
                have ho12 := ho11.setCell (p := ⟨o, 1, none⟩) (.inl (.inl rfl)) v'
                have hr12 := ((Off.refl (Only o) w11).set 1 v').row hrow11 (fun k hk e => by cases hk; exact hgd e)
                have hf12 := ((Off.refl (Only o) w11).set 1 v').at_ hf11 (fun e => by have h1 : w10.heap.size = o := e; omega)
                rw [← hv] at hr12
                have hlx : (outDisk D.room st).files.length = q := hlen1
                have hr12' : (w11.setCell ⟨o, 1, none⟩ v').ownsRow 0 102 1 v' ((outDisk D.room st).files.length + 1) (R3.fbs.map ptrTo ++ [ptrTo w10.heap.size]) := by rw [hlx]; exact hr12
                have hm12 : MapAt (w11.setCell ⟨o, 1, none⟩ v') R3.nm ((outDisk D.room st).names.put (bytesOf ⟨s.toArray⟩) (outDisk D.room st).files.length) := by
                  rw [hlx]
                  exact ho12.map HM10.out (fun e => e.elim (fun e => hon e.symm) (fun e => hnn e))
                have ho92 : Off (fun k => k = o ∨ R3.fv.ownBlock = some k ∨ k = R3.nm) w9 (w11.setCell ⟨o, 1, none⟩ v') := by
                  refine (HO10.out.mono (fun k _ e => .inr (.inr e)) : Off (fun k => k = o ∨ R3.fv.ownBlock = some k ∨ k = R3.nm) w9 w10).trans ho12 (fun k _ e => ?_)
                  rw [HFV3.out]
                  exact e.elim .inl (fun e => .inr (.inl e))
                have h12 := DiskAt.addNamed t (bytesOf ⟨s.toArray⟩) H9.out ho92 hsz910 hf12 ((Heap.set hd11 1 v').trans rfl) hr12' (by rw [hog, HFV3.out]; intro k hk; cases hk; exact hge.imp id (fun h => by omega)) (by rw [hog]; intro e; cases e; exact hgf rfl) hm12
                have hin12 := DiskRep.addFile_in (i := (outDisk D.room st).files.length) (fv := v') (w := w9) HF3.out (Heap.lt hf12) (by rw [hog]; intro k hk; cases hk; exact row_lt hr12 hog)
                have h12' : DiskIn (w11.setCell ⟨o, 1, none⟩ v') o (outDisk D.room (DiskV.crashStep D M fs st i)) (fun b => F6 b ∨ w7.heap.size ≤ b) := by
                  have e1 : DiskV.crashStep D M fs st i = (st.1 ++ [⟨t, t, []⟩], st.2.put (bytesOf ⟨s.toArray⟩) st.1.length) := by
                    unfold DiskV.crashStep
                    rw [← HTX.out, HNM.out]
                  rw [e1]
                  refine ⟨_, h12, fun b hb => (hin12 b hb).elim id (fun h => .inr ?_)⟩
                  have h1 := HO.out.size
                  have h2 := HO9.out.size
                  omega
                have ho7f : Off F6 w7 (w11.setCell ⟨o, 1, none⟩ v') := by
                  refine HO.out.trans ((HO9.out.mono (fun _ _ h => h.elim) : Off (fun k => k = o ∨ R3.fv.ownBlock = some k ∨ k = R3.nm) wr3 w9).trans ho92 (fun _ _ h => h) : Off (fun k => k = o ∨ R3.fv.ownBlock = some k ∨ k = R3.nm) wr3 _) (fun k hk e => ?_)
                  have hk3 : R3.role k ≠ 0 := by
                    rcases e with rfl | e | rfl
                    · rw [H9.out.rD]; omega
                    · rw [H9.out.rF k e]; omega
                    · rw [H9.out.rN]; omega
                  rcases HF3.out k hk3 with h | h
                  · exact h
                  · omega
                have H12 := Lib.hid h12'; have HO7 := Lib.hid ho7f
                have y1 : w11.frozen? ⟨o, 1, none⟩ = false := Heap.frozen hd11 1
                have y2 : w11.cell? ⟨o, 1, none⟩ = some (.slice pf q cpf) := by rw [← HFV3.out]; exact Heap.cell hd11 1
                rw [hv] at H12 HO7
                clear h12' ho7f h12 hin12 ho92 hm12 hr12 hr12' hf12 hf11 hd11 ho11 ho12 hrow11 hg11 hgb hge
                go_wp2_with fail
                case roundEnd => exact ⟨⟨q + 1, hlt3, by push_cast; rfl, by rw [HST1.out]; exact H12.out, HO7.out⟩, by simp [intOf]; omega⟩
            · obtain rfl : q = ids.length := by omega
              have i1 : ¬ (ids.length : Int) < (ids.length : Int) := by omega
              obtain ⟨R3, h3, hF3⟩ := HDQ.out
              rw [List.take_length] at h3
              obtain ⟨st, hst⟩ : ∃ st, st = ids.foldl (DiskV.crashStep D M fs) ([], []) := ⟨_, rfl⟩
              rw [← hst] at h3
              have d2 : wr3.cell? ⟨o, 2, none⟩ = some (.map (some R3.nm)) := Heap.cell h3.core 2
              have hol3 : o < wr3.heap.size := Heap.lt h3.core
              have hcr : D.crash k fs = { outDisk D.room st with base := (outDisk D.room st).names } := by
                unfold DiskV.crash
                rw [← HM.out, ← HIDS.out, ← hst]
                rfl
              have H3 := Lib.hid h3; have HF3 := Lib.hid hF3; have HCR := Lib.hid hcr
              clear h3 hF3 hst hcr HDQ
              go_wp2_with fail
              refine (AnyW.maps_Clone_owns Tryz.cloneNames 9 (Go.plainElem Tryz.prog 3) R3.nm (outDisk D.room st).names.length (outDisk D.room st).names.toD wr3 H3.out.names).mono ?_
              rintro e w8 ⟨rfl, hm8, _, hb8⟩
              have hd8 : w8.heap[o]? = some (.cells (coreCells (outDisk D.room st) R3) 80 (0, 0)) := (hb8.block o hol3).trans H3.out.core
              have y2 : w8.cell? ⟨o, 3, none⟩ = some (.map (some R3.bm)) := Heap.cell hd8 3
              have y1 : w8.frozen? ⟨o, 3, none⟩ = false := Heap.frozen hd8 3
              have hol8 : o < w8.heap.size := Heap.lt hd8
              have HD8 := Lib.hid hd8; have HM8 := Lib.hid hm8; have HB8 := Lib.hid hb8
              clear hd8 hm8 hb8
              go_wp2_with fail
              go_ret
              have hbel : Off (Only o) wr3 w8 := (Off.of_below HB8.out : Off None wr3 w8).mono (fun _ _ h => h.elim)
              have ho9 : Off (Only o) wr3 (w8.setCell ⟨o, 3, none⟩ (.map (some wr3.heap.size))) := hbel.set 3 _
              have hc9 := (Heap.set HD8.out 3 (.map (some wr3.heap.size))).trans rfl
              have hm9 := ((Off.refl (Only o) w8).set 3 (.map (some wr3.heap.size))).map HM8.out (fun e => by have h1 : wr3.heap.size = o := e; omega)
              have hsz9 : wr3.heap.size < (w8.setCell ⟨o, 3, none⟩ (.map (some wr3.heap.size))).heap.size := by
                obtain ⟨es, clock, hb, _⟩ := hm9; exact Heap.lt hb
              have h9 := DiskAt.based H3.out ho9 (Nat.le_refl _) hsz9 hm9 hc9
              rw [← HCR.out] at h9
              have hwr : wr2.heap.size ≤ wr3.heap.size := HO3.out.size
              have hrole : ∀ b, R3.role b ≠ 0 → w.heap.size ≤ b := fun b hb => by
                rcases HF3.out b hb with h | h
                · have := (HF6.out b h).1; omega
                · have := HO67.out.size; omega
              refine ⟨o, rfl, ⟨_, h9, fun b hb => ?_⟩, (HOW2.out.trans HO3.out (fun _ _ h => h)).trans ho9 (fun b hb e => ?_)⟩
              · have hb' : (if b < wr3.heap.size then R3.role b else if b = wr3.heap.size then 3 else 0) ≠ 0 := hb
                split at hb'
                · exact ⟨hrole b hb', by omega⟩
                · split at hb'
                  · rename_i h1 h2; exact ⟨by omega, by rw [h2]; exact hsz9⟩
                  · exact absurd rfl hb'
              · have e : b = o := e
                have := hrole o (by rw [H3.out.rD]; omega)
                omega
        · intro x c2 kl ya yb w6 cnt1 hkl hlk hv hat hrg1 hlt1 hg1 hs1 hen
          obtain ⟨rfl, i, hgi, rfl, hmem⟩ := map_range hkl hv hat
          have hxi := HIN2.out _ hmem
          have hxs : x.size ≤ 24 := by have h1 : x.data.toList.length ≤ 24 := hxi.1; simpa using h1
          have hfl2 := H.out.len
          have him6 : IMapAt w6 bf im := ((Off.refl (Only it) wr2).grown hg1 (fun k hk => .inl (by cases hk; rfl))).map HIM.out (fun e => hitf (show bf = it from e).symm)
          have hid : i ≤ 9223372036854775807 := by
            have h1 : i < D.files.length := hxi.2
            have h2 := H.out.frow
            obtain ⟨_, ⟨_, h0⟩ | ⟨g, cap, cur, _, _, _, hle, hmx, _⟩⟩ := h2
            · omega
            · have : cap ≤ 2 ^ 63 - 1 := hmx
              omega
          obtain ⟨w7, hput, him7, ht7⟩ := imap_put him6 i hid x (by unfold maxLen; omega) (by unfold maxLen; omega)
          have hrg7 := hrg1.kept ht7.grown (by intro e; cases e; exact hnbf rfl) (by intro e; cases e; exact hitf rfl)
          have hld7 := HLD.out.step (left' := fun s => left (.string s) && !(Lit.string s).sameKey (.string (bytesOf x))) hmem (fun p hp e => by
            have h1 := NMap.get_of_mem HAPM.out (show (p.1, p.2) ∈ M from hp)
            rw [e, hgi] at h1
            exact (Option.some.inj h1).symm) (fun p hp e => by
            rcases List.mem_iff_getElem.1 hp with ⟨a, ha, rfl⟩
            rcases List.mem_iff_getElem.1 hmem with ⟨b, hb, hbe⟩
            rcases Nat.lt_trichotomy a b with h | h | h
            · exact absurd (by rw [e, hbe]) (List.pairwise_iff_getElem.1 HAP2.out a b ha hb h)
            · subst h; rw [hbe]
            · exact absurd (by rw [e, hbe]) (List.pairwise_iff_getElem.1 HAP2.out b a hb ha h)) (fun s => by rw [NMap.sameKey_string]; simp)
          have hlen7 : (im.put i (bytesOf x)).length ≤ im.length + 1 := by
            show (IMap.ins _ (im.del i)).length ≤ _
            rw [(IMap.ins_perm _ _).length_eq, List.length_cons]
            have : (im.del i).length ≤ im.length := List.length_filter_le _ _
            omega
          have ho7 : Off None wa w7 := ((HO2.out.grown hg1 (fun k hk => .inr (by cases hk; have := HBF.out; have := HIT.out; omega))).turned ht7 (.inr (by have := HBF.out; omega)))
          have HRG7 := Lib.hid hrg7; have HIM7 := Lib.hid him7; have HLD7 := Lib.hid hld7; have HO7 := Lib.hid ho7
          have HLT := Lib.hid hlt1
          clear hkl hv hat hrg1 hg1 hs1 hmem hgi hxi him6 ht7 hrg7 hld7 ho7 him7 hlt1 hlk
          go_wp2
          go_roundw
          case rel => exact ⟨_, _, _, HRG7.out, HIM7.out, HLD7.out, by have := HLT.out; omega, HO7.out⟩
          case measure => rw [HRG7.out.left_eq, HR.out.left_eq]; exact HLT.out
end DiskW
end Go.Proofs.YtnppdcegpojmbaaGreatDoor
