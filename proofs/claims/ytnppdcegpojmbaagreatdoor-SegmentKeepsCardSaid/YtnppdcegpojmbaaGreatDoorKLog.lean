/- A disk of a log that counts down to where the power goes: what each file has been since it was synced; what its operations leave. No walk stands here. · What is left of such a disk behind a power cut, opened again. No walk stands here. · A log on a disk that counts down: what its operations answer and leave, till the power goes. No walk stands here. -/
import Derived.Test.YtnppdcegpojmbaaGreatDoorKeepM
import Derived.Test.YtnppdcegpojmbaaGreatDoorCrashM
import Derived.Test.YtnppdcegpojmbaaGreatDoorSame1
namespace Go.Proofs.YtnppdcegpojmbaaGreatDoor
open Go Go.RowKit
def rowEnd (es : List (List UInt8)) : List Ev → List (List UInt8)
  | [] => es
  | .app b :: r => rowEnd (es ++ [b]) r
  | .cut :: r => rowEnd [] r
theorem rowEnd_app (b : List UInt8) (evs : List Ev) : ∀ es, rowEnd es (evs ++ [.app b]) = rowEnd es evs ++ [b] := by
  induction evs with
  | nil => intro es; rfl
  | cons e r ih => intro es; cases e <;> exact ih _
theorem rowEnd_cut (evs : List Ev) : ∀ es, rowEnd es (evs ++ [.cut]) = [] := by
  induction evs with
  | nil => intro es; rfl
  | cons e r ih => intro es; cases e <;> exact ih _
theorem rowEnd_mem (evs : List Ev) : ∀ es, rowEnd es evs ∈ rowsOf es evs := by
  induction evs with
  | nil => intro es; exact List.mem_singleton.2 rfl
  | cons e r ih => intro es; cases e <;> exact List.mem_cons_of_mem _ (ih _)
theorem rowsOf_app {row : List (List UInt8)} (b : List UInt8) (evs : List Ev) : ∀ es, row ∈ rowsOf es (evs ++ [.app b]) → row ∈ rowsOf es evs ∨ row = rowEnd es evs ++ [b] := by
  induction evs with
  | nil =>
    intro es h
    rcases List.mem_cons.1 h with h | h
    · exact .inl (List.mem_singleton.2 h)
    · exact .inr (List.mem_singleton.1 h)
  | cons e r ih =>
    intro es h
    cases e with
    | app c => exact (List.mem_cons.1 h).elim (fun h => .inl (by rw [h]; exact rowsOf_head _ _)) (fun h => (ih _ h).imp (List.mem_cons_of_mem _) id)
    | cut => exact (List.mem_cons.1 h).elim (fun h => .inl (by rw [h]; exact rowsOf_head _ _)) (fun h => (ih _ h).imp (List.mem_cons_of_mem _) id)
theorem rowsOf_cut {row : List (List UInt8)} (evs : List Ev) : ∀ es, row ∈ rowsOf es (evs ++ [.cut]) → row ∈ rowsOf es evs ∨ row = [] := by
  induction evs with
  | nil =>
    intro es h
    rcases List.mem_cons.1 h with h | h
    · exact .inl (List.mem_singleton.2 h)
    · exact .inr (List.mem_singleton.1 h)
  | cons e r ih =>
    intro es h
    cases e with
    | app c => exact (List.mem_cons.1 h).elim (fun h => .inl (by rw [h]; exact rowsOf_head _ _)) (fun h => (ih _ h).imp (List.mem_cons_of_mem _) id)
    | cut => exact (List.mem_cons.1 h).elim (fun h => .inl (by rw [h]; exact rowsOf_head _ _)) (fun h => (ih _ h).imp (List.mem_cons_of_mem _) id)
theorem chgsOf_app (f : Nat) (bs0 : List (List UInt8)) (b : List UInt8) (evs : List Ev) : ∀ es, chgsOf f bs0 es (evs ++ [.app b]) = chgsOf f bs0 es evs ++ [⟨⟨(Frame.putF (f + (bs0 ++ rowEnd es evs).length) b).toArray⟩, -1⟩] := by
  induction evs with
  | nil => intro es; rfl
  | cons e r ih =>
    intro es
    cases e with
    | app c => rw [List.cons_append, chgsOf, chgsOf, ih]; rfl
    | cut => rw [List.cons_append, chgsOf, chgsOf, ih]; rfl
theorem chgsOf_cut (f : Nat) (bs0 : List (List UInt8)) (evs : List Ev) : ∀ es, chgsOf f bs0 es (evs ++ [.cut]) = chgsOf f bs0 es evs ++ [⟨ByteArray.empty, ((framesL f bs0).length : Nat)⟩] := by
  induction evs with
  | nil => intro es; rfl
  | cons e r ih =>
    intro es
    cases e with
    | app c => rw [List.cons_append, chgsOf, chgsOf, ih]; rfl
    | cut => rw [List.cons_append, chgsOf, chgsOf, ih]; rfl
theorem chgsOf_len (f : Nat) (bs0 : List (List UInt8)) (evs : List Ev) : ∀ es, (chgsOf f bs0 es evs).length = evs.length := by
  induction evs with
  | nil => intro es; rfl
  | cons e r ih => intro es; cases e <;> (rw [chgsOf, List.length_cons, List.length_cons, ih])
def Grp.file (g : Grp) : FileV := ⟨⟨g.txt.toArray⟩, ⟨g.txt.toArray⟩, []⟩
def liveFile (f : Nat) (bs0 : List (List UInt8)) (evs : List Ev) : FileV := ⟨⟨(framesL f bs0).toArray⟩, ⟨(framesL f (bs0 ++ rowEnd [] evs)).toArray⟩, chgsOf f bs0 [] evs⟩
def actOf (f : Nat) (bs0 : List (List UInt8)) (evs : List Ev) : Grp := ⟨f, bs0 ++ rowEnd [] evs⟩
theorem live_file (f : Nat) (bs0 : List (List UInt8)) : liveFile f bs0 [] = (actOf f bs0 []).file := by
  unfold liveFile Grp.file actOf Grp.txt rowEnd
  rw [List.append_nil]
  rfl
def entsOf (G : List Grp) : List Ent := G.zipIdx.map fun p => ⟨p.1.first, p.2, p.1.txt⟩
theorem entsOf_snoc (G : List Grp) (a : Grp) : entsOf (G ++ [a]) = entsOf G ++ [⟨a.first, G.length, a.txt⟩] := by
  unfold entsOf
  rw [List.zipIdx_append, List.map_append]
  simp
theorem entsOf_pairs (G : List Grp) : (entsOf G).map (fun e => (e.first, e.txt)) = G.map (fun g => (g.first, g.txt)) := by
  unfold entsOf
  rw [List.map_map]
  conv => rhs; rw [← List.zipIdx_map_fst 0 G]
  rw [List.map_map]
  rfl
theorem entsOf_names (G : List Grp) : (entsOf G).map (fun e => (Seg.nameL e.first, e.idx)) = (G.map fun g => Seg.nameL g.first).zipIdx := by
  unfold entsOf
  rw [List.map_map, List.zipIdx_map]
  rfl
def DiskV.bare (D : DiskV) : DiskV := { D with left := -1 }
structure KDisk (R : Nat) (D : DiskV) (full : List Grp) (f : Nat) (bs0 : List (List UInt8)) (evs : List Ev) : Prop where
  good : Good R D.bare (entsOf (full ++ [actOf f bs0 evs]))
  left : 0 ≤ D.left
  base : D.base = D.names
  moves : D.moves = []
  files : D.files = full.map Grp.file ++ [liveFile f bs0 evs]
/-- What may be there, by names, when the power goes. -/
structure Ready (R : Nat) (D : DiskV) (k : Int) (full : List Grp) (f : Nat) (bs0 : List (List UInt8)) (evs : List Ev) : Prop where
  names : (D.crashNames k).Perm ((full ++ [actOf f bs0 evs]).map fun g => Seg.nameL g.first).zipIdx
  firsts : (entsOf (full ++ [actOf f bs0 evs])).Pairwise (fun a b => a.first ≠ b.first)
  files : ∀ (i : Nat) (g : Grp), full[i]? = some g → D.files[i]? = some g.file
  last : D.files[full.length]? = some (liveFile f bs0 evs)
  room : D.room = R
  base : D.base.length ≤ D.files.length
  moves : ∀ m ∈ D.moves, m.src.size ≤ 24 ∧ m.dst.size ≤ 24 ∧ m.file ≤ D.files.length
/-- One operation less. -/
def DiskV.tick (D : DiskV) : DiskV := { D with left := D.left - 1, ops := wrap64 (D.ops + 1) }
theorem find_dead {D : DiskV} (hl : D.left = 0) (name : ByteArray) : D.find name = (D, none, 11) := by unfold DiskV.find; rw [if_pos hl]
theorem append_dead {D : DiskV} (hl : D.left = 0) (name s : ByteArray) : D.append name s = (D, 11) := by unfold DiskV.append; rw [find_dead hl]
theorem sync_dead {D : DiskV} (hl : D.left = 0) (name : ByteArray) : D.sync name = (D, 11) := by unfold DiskV.sync; rw [find_dead hl]
theorem cut_dead {D : DiskV} (hl : D.left = 0) (name : ByteArray) (n : Int) : D.cut name n = (D, 11) := by unfold DiskV.cut; rw [find_dead hl]
theorem create_dead {D : DiskV} (hl : D.left = 0) (name : ByteArray) : D.create name = (D, 11) := by unfold DiskV.create; rw [find_dead hl]; rfl
theorem syncDir_dead {D : DiskV} (hl : D.left = 0) : D.syncDir = (D, 11) := by unfold DiskV.syncDir DiskV.begin; rw [if_pos hl]; rfl
theorem create_form {D : DiskV} (hl : D.left ≠ 0) {name : ByteArray} (hn : D.names.get (bytesOf name) = none) (hnm : DiskV.named name = true) :
    D.create name = (({ D.begin.1 with files := D.begin.1.files ++ [newFile] } : DiskV).moved ⟨ByteArray.empty, name, D.begin.1.files.length⟩, 0) := by
  unfold DiskV.create DiskV.find
  rw [if_neg hl, hn]
  dsimp only
  rw [if_neg (by decide), if_neg (by rw [hnm]; decide), if_neg (by decide)]
  rfl
namespace KDisk
variable {R : Nat} {D : DiskV} {full : List Grp} {f : Nat} {bs0 : List (List UInt8)} {evs : List Ev}
theorem begin_eq (h : KDisk R D full f bs0 evs) (hl : D.left ≠ 0) : D.begin = (D.tick, 0) := by
  unfold DiskV.begin DiskV.tick; rw [if_neg hl, if_pos (by have := h.left; omega)]
theorem get (h : KDisk R D full f bs0 evs) : D.names.get (bytesOf (Seg.nameB f)) = some full.length :=
  h.good.get (e := ⟨f, full.length, (actOf f bs0 evs).txt⟩) (by rw [entsOf_snoc]; simp [actOf])
theorem find_eq (h : KDisk R D full f bs0 evs) (hl : D.left ≠ 0) : D.find (Seg.nameB f) = (D.tick, some full.length, 0) := by
  unfold DiskV.find
  rw [if_neg hl, h.get, h.begin_eq hl]
theorem live (h : KDisk R D full f bs0 evs) : D.files[full.length]? = some (liveFile f bs0 evs) := by
  rw [h.files, List.getElem?_append_right (by simp)]; simp
theorem fails_eq (h : KDisk R D full f bs0 evs) : D.tick.fails = (D.tick, false) := by
  have hf : D.fail = 0 := h.good.fail
  unfold DiskV.fails
  rw [if_pos (by show D.fail < 1; rw [hf]; decide)]
theorem used (h : KDisk R D full f bs0 evs) : D.tick.used = GoodLog.sum (full ++ [actOf f bs0 evs]) := by
  have h1 : D.bare.used = _ := h.good.used
  rw [GoodLog.lens (entsOf_pairs _)] at h1
  exact h1
theorem set_good (h : KDisk R D full f bs0 evs) (fl : FileV) {bs0' : List (List UInt8)} {evs' : List Ev} (hnow : fl.now.data.toList = (actOf f bs0' evs').txt) :
    Good R (D.tick.setFile full.length fl).bare (entsOf (full ++ [actOf f bs0' evs'])) := by
  have h1 := h.good.start
  rw [entsOf_snoc] at h1
  have h2 := h1.setFile fl
  rw [h.good.begin_eq] at h2
  rw [entsOf_snoc, ← hnow]
  exact h2
theorem set_files (h : KDisk R D full f bs0 evs) (fl : FileV) : (D.tick.setFile full.length fl).files = full.map Grp.file ++ [fl] := by
  show D.files.set full.length fl = _
  rw [h.files, List.set_append_right _ _ (by simp)]
  simp
/-- A file's turn, as a state of the same kind. -/
theorem turned (h : KDisk R D full f bs0 evs) (hl : D.left ≠ 0) {bs0' : List (List UInt8)} {evs' : List Ev} {fl : FileV} (he : fl = liveFile f bs0' evs') : KDisk R (D.tick.setFile full.length fl) full f bs0' evs' := by
  subst he
  refine ⟨h.set_good _ rfl, ?_, h.base, h.moves, h.set_files _⟩
  show 0 ≤ D.left - 1
  have := h.left
  omega
theorem append (h : KDisk R D full f bs0 evs) (hl : D.left ≠ 0) (b : List UInt8) (hfit : GoodLog.sum (full ++ [actOf f bs0 evs]) + (Frame.putF (actOf f bs0 evs).end_ b).length ≤ R) :
    ∃ D', D.append (Seg.nameB f) ⟨(Frame.putF (actOf f bs0 evs).end_ b).toArray⟩ = (D', 0) ∧ KDisk R D' full f bs0 (evs ++ [.app b]) ∧ D'.left = D.left - 1 := by
  have hr : D.room = R := h.good.room
  refine ⟨D.tick.setFile full.length (liveFile f bs0 (evs ++ [.app b])), ?_, h.turned hl rfl, rfl⟩
  unfold DiskV.append
  rw [h.find_eq hl]
  dsimp only
  rw [if_neg (by rw [h.used]; show ¬ D.room - _ < _; rw [hr]; show ¬ _ < (((Frame.putF (actOf f bs0 evs).end_ b).toArray.size : Nat) : Int); rw [List.size_toArray]; omega), h.fails_eq]
  dsimp only
  rw [if_neg (by decide), show D.tick.files[full.length]? = some (liveFile f bs0 evs) from h.live]
  dsimp only
  congr 2
  unfold liveFile
  rw [chgsOf_app, rowEnd_app]
  dsimp only
  congr 1
  rw [← List.append_assoc, framesL_snoc]
  apply ByteArray.ext
  apply Array.toList_inj.1
  simp [actOf, Grp.end_]
theorem sync (h : KDisk R D full f bs0 evs) (hl : D.left ≠ 0) : ∃ D', D.sync (Seg.nameB f) = (D', 0) ∧ KDisk R D' full f (bs0 ++ rowEnd [] evs) [] ∧ D'.left = D.left - 1 := by
  refine ⟨D.tick.setFile full.length (liveFile f (bs0 ++ rowEnd [] evs) []), ?_, h.turned hl rfl, rfl⟩
  unfold DiskV.sync
  rw [h.find_eq hl]
  dsimp only
  rw [h.fails_eq]
  dsimp only
  rw [if_neg (by decide), show D.tick.files[full.length]? = some (liveFile f bs0 evs) from h.live]
  dsimp only
  congr 2
  unfold liveFile
  dsimp only [rowEnd]
  rw [List.append_nil]
  rfl
theorem cut (h : KDisk R D full f bs0 evs) (hl : D.left ≠ 0) : ∃ D', D.cut (Seg.nameB f) ((framesL f bs0).length : Nat) = (D', 0) ∧ KDisk R D' full f bs0 (evs ++ [.cut]) ∧ D'.left = D.left - 1 := by
  refine ⟨D.tick.setFile full.length (liveFile f bs0 (evs ++ [.cut])), ?_, h.turned hl rfl, rfl⟩
  unfold DiskV.cut
  rw [h.find_eq hl]
  dsimp only
  rw [show D.tick.files[full.length]? = some (liveFile f bs0 evs) from h.live]
  dsimp only
  have hsz : (liveFile f bs0 evs).now.size = (framesL f bs0).length + (framesL (f + bs0.length) (rowEnd [] evs)).length := by
    show (framesL f (bs0 ++ rowEnd [] evs)).toArray.size = _
    rw [List.size_toArray, framesL_append, List.length_append]
  rw [if_neg (by omega)]
  congr 2
  unfold liveFile
  rw [chgsOf_cut, rowEnd_cut, Int.toNat_natCast]
  dsimp only
  congr 1
  apply ByteArray.ext
  apply Array.toList_inj.1
  rw [ByteArray.data_extract, Array.toList_extract, List.extract_eq_take_drop, framesL_append, List.append_nil]
  simp
theorem counts (h : KDisk R D full f bs0 evs) : D.names.length = full.length + 1 ∧ D.files.length = full.length + 1 := by
  have h1 : D.names.length = _ := h.good.names.length_eq
  refine ⟨?_, by rw [h.files]; simp⟩
  rw [h1]
  simp [entsOf]
theorem ready (h : KDisk R D full f bs0 evs) (k : Int) : Ready R D k full f bs0 evs := by
  have hb : D.crashNames k = D.names := by
    unfold DiskV.crashNames
    rw [h.moves, List.take_nil]
    exact h.base
  refine ⟨?_, h.good.firsts, fun i g hg => ?_, h.live, h.good.room, by rw [h.base, h.counts.1, h.counts.2]; exact Nat.le_refl _, by rw [h.moves]; intro m hm; cases hm⟩
  · rw [hb, ← entsOf_names]
    exact h.good.names
  · have hlt := (List.getElem?_eq_some_iff.1 hg).1
    rw [h.files, List.getElem?_append_left (by simpa using hlt), List.getElem?_map, hg]
    rfl
/-- A segment more: it is begun, or the power goes between. -/
theorem started (h : KDisk R D full f bs0 []) (u : Nat) (hu : u < 18446744073709551616) (hn : ∀ e ∈ entsOf (full ++ [actOf f bs0 []]), e.first ≠ u) :
    ∃ D' e st, D.started u = (D', e, st) ∧ ((e = 11 ∧ ((st = false ∧ D' = D) ∨ st = true) ∧ ∀ k, Ready R D' k full f bs0 [] ∨ Ready R D' k (full ++ [actOf f bs0 []]) u [] []) ∨ (e = 0 ∧ st = true ∧ KDisk R D' (full ++ [actOf f bs0 []]) u [] [])) := by
  by_cases hl : D.left = 0
  · refine ⟨D, 11, false, ?_, .inl ⟨rfl, .inl ⟨rfl, rfl⟩, fun k => .inl (h.ready k)⟩⟩
    unfold DiskV.started
    rw [create_dead hl]
    rfl
  · obtain ⟨Dn, hc, hg⟩ := h.good.create hu hn
    have hnone : D.names.get (bytesOf (Seg.nameB u)) = none := by rw [Seg.bytesOf_nameB]; exact NMap.get_none (h.good.nokey hn)
    have hnm := Seg.nameB_named hu
    rw [create_form (D := D.bare) (by show (-1 : Int) ≠ 0; decide) hnone hnm] at hc
    rw [h.good.begin_eq] at hc
    have hc1 := (Prod.mk.inj hc).1
    have hcr := create_form hl hnone hnm
    rw [h.begin_eq hl] at hcr
    obtain ⟨D2, hD2⟩ : ∃ D2, D2 = ({ D.tick with files := D.tick.files ++ [newFile] } : DiskV).moved ⟨ByteArray.empty, Seg.nameB u, D.tick.files.length⟩ := ⟨_, rfl⟩
    have hb2 : D2.bare = Dn := by rw [hD2, ← hc1]; rfl
    have hl2 : D2.left = D.left - 1 := by rw [hD2]; rfl
    have hbase2 : D2.base = D.names := by rw [hD2]; exact h.base
    have hmv2 : D2.moves = [⟨ByteArray.empty, Seg.nameB u, D.files.length⟩] := by
      rw [hD2]
      show D.moves ++ [_] = _
      rw [h.moves]; rfl
    have hnm2 : D2.names = DiskV.done ⟨ByteArray.empty, Seg.nameB u, D.files.length⟩ D.names := by rw [hD2]; rfl
    have hfl2 : D2.files = (full ++ [actOf f bs0 []]).map Grp.file ++ [liveFile u [] []] := by
      rw [hD2]
      show D.files ++ [newFile] = _
      rw [h.files, List.map_append, live_file]
      rfl
    have hlen : D.files.length = (full ++ [actOf f bs0 []]).length := by rw [h.files]; simp
    have hg2 : Good R D2.bare (entsOf ((full ++ [actOf f bs0 []]) ++ [actOf u [] []])) := by
      rw [hb2, entsOf_snoc]
      have e : D.bare.files.length = (full ++ [actOf f bs0 []]).length := hlen
      rw [← e]
      exact hg
    have hbc : D2.base.length ≤ D2.files.length := by
      rw [hbase2, h.counts.1, hfl2]
      simp
    have hmc : ∀ m ∈ D2.moves, m.src.size ≤ 24 ∧ m.dst.size ≤ 24 ∧ m.file ≤ D2.files.length := by
      rw [hmv2, hfl2]
      intro m hm
      rw [List.mem_singleton.1 hm]
      have hsz : (Seg.nameB u).size = 21 := Seg.nameL_length hu
      refine ⟨Nat.zero_le _, ?_, ?_⟩
      · show (Seg.nameB u).size ≤ 24
        omega
      · show D.files.length ≤ _
        rw [h.counts.2]
        simp
    rw [← hD2] at hcr
    by_cases hl3 : D2.left = 0
    · refine ⟨D2, 11, true, ?_, .inl ⟨rfl, .inr rfl, fun k => ?_⟩⟩
      · unfold DiskV.started
        rw [hcr]
        dsimp only
        rw [if_pos rfl, syncDir_dead hl3]
      · by_cases hk : k ≤ 0
        · left
          have h0 := h.ready k
          refine ⟨?_, h0.firsts, fun i g hgi => ?_, ?_, hg2.room, hbc, hmc⟩
          · have hb : D2.crashNames k = D.names := by
              unfold DiskV.crashNames
              rw [hmv2, show (max 0 (min k (([⟨ByteArray.empty, Seg.nameB u, D.files.length⟩] : List Move).length : Int))).toNat = 0 by show (max 0 (min k (1 : Int))).toNat = 0; omega]
              exact hbase2
            rw [hb, ← entsOf_names]
            exact h.good.names
          · have hlt := (List.getElem?_eq_some_iff.1 hgi).1
            rw [hfl2, List.getElem?_append_left (by simp; omega), List.getElem?_map, List.getElem?_append_left hlt, hgi]
            rfl
          · rw [hfl2, List.getElem?_append_left (by simp), List.getElem?_map, List.getElem?_append_right (Nat.le_refl _), Nat.sub_self, live_file]
            rfl
        · right
          refine ⟨?_, hg2.firsts, fun i g hgi => ?_, ?_, hg2.room, hbc, hmc⟩
          · have hb : D2.crashNames k = D2.names := by
              unfold DiskV.crashNames
              rw [hmv2, show (max 0 (min k (([⟨ByteArray.empty, Seg.nameB u, D.files.length⟩] : List Move).length : Int))).toNat = 1 by show (max 0 (min k (1 : Int))).toNat = 1; omega]
              rw [List.take_succ_cons, List.take_zero, List.foldl_cons, List.foldl_nil]
              rw [hbase2, hnm2]
            rw [hb, ← entsOf_names]
            exact hg2.names
          · have hlt := (List.getElem?_eq_some_iff.1 hgi).1
            rw [hfl2, List.getElem?_append_left (by rw [List.length_map]; exact hlt), List.getElem?_map, hgi]
            rfl
          · rw [hfl2, List.getElem?_append_right (by simp)]
            simp
    · refine ⟨{ D2.tick with base := D2.names, moves := [] }, 0, true, ?_, .inr ⟨rfl, rfl, ?_⟩⟩
      · unfold DiskV.started
        rw [hcr]
        dsimp only
        have hbg : D2.begin = (D2.tick, 0) := by
          unfold DiskV.begin DiskV.tick; rw [if_neg hl3, if_pos (by have := h.left; omega)]
        unfold DiskV.syncDir
        rw [if_pos rfl, hbg]
        rfl
      · have hs := hg2.syncDir
        obtain ⟨D', hd', hg'⟩ := hs
        unfold DiskV.syncDir at hd'
        rw [hg2.begin_eq] at hd'
        have hd1 := (Prod.mk.inj hd').1
        refine ⟨?_, ?_, rfl, rfl, hfl2⟩
        · rw [← hd1] at hg'
          exact hg'
        · show 0 ≤ D2.left - 1
          have := h.left
          omega
end KDisk
end Go.Proofs.YtnppdcegpojmbaaGreatDoor
namespace Go.Proofs.YtnppdcegpojmbaaGreatDoor
open Go Go.RowKit
namespace DiskV
theorem crashIds_eq {m : NMap} {l : List Bytes} (h : m.Perm l.zipIdx) : crashIds m = List.range l.length := by
  have h1 : (m.map (·.2)).Perm (List.range l.length) := by
    have := h.map Prod.snd
    rw [List.zipIdx_map_snd, ← List.range_eq_range'] at this
    exact this
  have tr : ∀ a b c : Nat, decide (a ≤ b) = true → decide (b ≤ c) = true → decide (a ≤ c) = true := fun a b c h1 h2 => by simp only [decide_eq_true_eq] at *; omega
  have tot : ∀ a b : Nat, (decide (a ≤ b) || decide (b ≤ a)) = true := fun a b => by simp only [Bool.or_eq_true, decide_eq_true_eq]; omega
  refine List.Perm.eq_of_pairwise (le := fun a b => decide (a ≤ b) = true) (fun a b _ _ h1 h2 => ?_) (List.pairwise_mergeSort tr tot _) (List.pairwise_lt_range.imp (fun h => by simp only [decide_eq_true_eq]; omega)) ((List.mergeSort_perm _ _).trans h1)
  simp only [decide_eq_true_eq] at h1 h2
  omega
theorem mem_of_perm {m : NMap} {l : List Bytes} (h : m.Perm l.zipIdx) {i : Nat} {s : Bytes} : (s, i) ∈ m ↔ l[i]? = some s := by
  rw [h.mem_iff]
  exact List.mem_zipIdx_iff_getElem?
theorem nameOf_eq {m : NMap} {l : List Bytes} (h : m.Perm l.zipIdx) {i : Nat} {s : Bytes} (hi : l[i]? = some s) : nameOf m i = s := by
  unfold nameOf
  cases hf : m.find? (fun p => decide (p.2 = i)) with
  | none =>
    have := List.find?_eq_none.1 hf (s, i) ((mem_of_perm h).2 hi)
    simp at this
  | some p =>
    have h1 := List.find?_some hf
    have h2 := List.mem_of_find?_eq_some hf
    obtain ⟨a, b⟩ := p
    simp only [decide_eq_true_eq] at h1
    subst h1
    have := (mem_of_perm h).1 h2
    rw [hi] at this
    cases this
    rfl
theorem crash_fold (D : DiskV) (m : NMap) (l : List Bytes) (fs : List Int) (h : m.Perm l.zipIdx) (hd : l.Pairwise (· ≠ ·)) : ∀ n, n ≤ l.length →
    ∃ names, (List.range n).foldl (crashStep D m fs) ([], []) = ((List.range n).map (fun i => (⟨D.crashText fs i, D.crashText fs i, []⟩ : FileV)), names) ∧ names.Perm (l.take n).zipIdx := by
  intro n
  induction n with
  | zero => intro _; exact ⟨[], rfl, by rw [List.take_zero]; exact List.Perm.refl _⟩
  | succ n ih =>
    intro hn
    obtain ⟨names, h1, h2⟩ := ih (by omega)
    have hget : l[n]? = some (l[n]'(by omega)) := List.getElem?_eq_getElem (by omega)
    refine ⟨names.put (l[n]'(by omega)) n, ?_, ?_⟩
    · rw [List.range_succ, List.foldl_append, h1, List.map_append]
      unfold crashStep
      rw [List.foldl_cons, List.foldl_nil, nameOf_eq h hget]
      simp [bytesOf]
    · refine (NMap.put_perm (fun p hp hk => ?_)).trans ?_
      · have hm := (mem_of_perm h2 (i := p.2) (s := p.1)).1 hp
        have hlt := (List.getElem?_eq_some_iff.1 hm).1
        rw [List.length_take] at hlt
        rw [List.getElem?_take_of_lt (by omega), List.getElem?_eq_getElem (by omega)] at hm
        have := List.pairwise_iff_getElem.1 hd p.2 n (by omega) (by omega) (by omega)
        exact this ((Option.some.inj hm).trans hk)
      · rw [List.take_succ_eq_append_getElem (by omega), List.zipIdx_append]
        refine (List.Perm.cons _ h2).trans ?_
        refine (List.perm_append_singleton _ _).symm.trans ?_
        simp
        rw [Nat.min_eq_left (by omega)]
theorem crash_parts (D : DiskV) (k : Int) (fs : List Int) (l : List Bytes) (h : (D.crashNames k).Perm l.zipIdx) (hd : l.Pairwise (· ≠ ·)) :
    ∃ names, D.crash k fs = ⟨max D.room 0, (List.range l.length).map (fun i => (⟨D.crashText fs i, D.crashText fs i, []⟩ : FileV)), names, names, [], 0, 0, -1⟩ ∧ names.Perm l.zipIdx := by
  obtain ⟨names, h1, h2⟩ := crash_fold D (D.crashNames k) l fs h hd l.length (Nat.le_refl _)
  rw [List.take_length] at h2
  refine ⟨names, ?_, h2⟩
  unfold crash
  rw [crashIds_eq h, h1]
theorem cut_names (D : DiskV) (name : ByteArray) (n : Int) : (D.cut name n).1.names = D.names := by
  have h1 := DiskW.find_len D name
  unfold cut
  obtain ⟨D1, oi, er, hfd⟩ : ∃ D1 oi er, D.find name = (D1, oi, er) := ⟨_, _, _, rfl⟩
  rw [hfd] at h1 ⊢
  cases oi with
  | none => exact h1.1
  | some i =>
    dsimp only
    cases D1.files[i]? with
    | none => exact h1.1
    | some f =>
      dsimp only
      split
      · exact h1.1
      · exact h1.1
end DiskV
def lastText (f : Nat) (bs0 : List (List UInt8)) (evs : List Ev) (m : Int) : ByteArray := atGo ⟨(framesL f bs0).toArray⟩ (chgsOf f bs0 [] evs) m
/-- Opened with a last segment that may be torn. -/
theorem openGo_last (D D' : DiskV) (t : Nat) (G : List Grp) (ht : t ≤ 1000000) : ∀ (f : Nat) (acc : List SegV) (a : Grp), Chain f (G ++ [a]) t → (∀ g ∈ G, ∀ b ∈ g.bodies, b.length ≤ 2000) →
    (∀ g ∈ G, D.read (Seg.nameB g.first) = (⟨g.txt.toArray⟩, 0)) → openOne D a.first none = (D', 0, a.seg) → openGo D acc ((G ++ [a]).map (·.first)) = (D', 0, acc ++ (G ++ [a]).map Grp.seg) := by
  induction G with
  | nil =>
    intro f acc a hc hb hr hone
    rw [List.nil_append, List.map_cons, List.map_nil, openGo, List.head?_nil, hone]
    dsimp only
    rw [if_neg (by simp)]
    rfl
  | cons g r ih =>
    intro f acc a hc hb hr hs
    have hr0 := hr g (by simp)
    have hsc := scan_grp g (hb g (by simp)) (Nat.le_trans (Chain.mem hc (by simp)).2 ht)
    have hc2 : Chain g.end_ (r ++ [a]) t := hc.2
    have hhd : ((r ++ [a]).map (·.first)).head? = some g.end_ := by
      cases r with
      | nil => show some a.first = _; rw [hc2.1]
      | cons x y => show some x.first = _; rw [hc2.1]
    have hone : openOne D g.first (some g.end_) = (D, 0, g.seg) := by
      unfold openOne
      rw [hr0]
      dsimp only
      rw [if_neg (by simp), hsc, if_neg]
      rintro (h | h)
      · have h : g.txt.length < g.txt.toArray.size := h
        simp at h
      · exact h rfl
    rw [List.cons_append, List.map_cons, openGo, hhd, hone]
    dsimp only
    rw [if_neg (by simp), ih g.end_ (acc ++ [g.seg]) a hc2 (fun x hx => hb x (by simp [hx])) (fun x hx => hr x (by simp [hx])) hs]
    simp
namespace Ready
variable {R : Nat} {D : DiskV} {k : Int} {full : List Grp} {f : Nat} {bs0 : List (List UInt8)} {evs : List Ev}
theorem names_apart (h : Ready R D k full f bs0 evs) : ((full ++ [actOf f bs0 evs]).map fun g => Seg.nameL g.first).Pairwise (· ≠ ·) := by
  have h1 := h.firsts
  have h2 : ((entsOf (full ++ [actOf f bs0 evs])).map (fun e => (e.first, e.txt))).Pairwise (fun a b => a.1 ≠ b.1) := List.pairwise_map.2 h1
  rw [entsOf_pairs, List.pairwise_map] at h2
  exact List.pairwise_map.2 (h2.imp (fun hab hn => hab (Seg.nameL_inj hn)))
theorem good (h : Ready R D k full f bs0 evs) (hR : R ≤ 9223372036854775807) (fs : List Int) :
    Good R (D.crash k fs) (entsOf full ++ [⟨f, full.length, (lastText f bs0 evs (fs.getD full.length 0)).data.toList⟩]) := by
  obtain ⟨names, hc, hp⟩ := D.crash_parts k fs _ h.names h.names_apart
  rw [hc]
  have hlen : ((full ++ [actOf f bs0 evs]).map fun g => Seg.nameL g.first).length = full.length + 1 := by simp
  rw [hlen] at hc ⊢
  have hlt : ∀ p ∈ names, p.2 < full.length + 1 := by
    intro p hp'
    have := (DiskV.mem_of_perm hp (i := p.2) (s := p.1)).1 hp'
    have := (List.getElem?_eq_some_iff.1 this).1
    omega
  have hfs : ((List.range (full.length + 1)).map (fun i => (⟨D.crashText fs i, D.crashText fs i, []⟩ : FileV))).length = full.length + 1 := by simp
  have hnm : names.Perm ((entsOf full ++ [(⟨f, full.length, (lastText f bs0 evs (fs.getD full.length 0)).data.toList⟩ : Ent)]).map fun e => (Seg.nameL e.first, e.idx)) := by
    have := entsOf_names (full ++ [actOf f bs0 evs])
    rw [entsOf_snoc, List.map_append] at this
    rw [List.map_append]
    exact hp.trans (List.Perm.of_eq this.symm)
  refine ⟨⟨?_, ?_, ?_, ?_, ?_, ?_, ?_⟩, rfl, rfl, ?_, hnm, ?_, ?_, ?_⟩
  · show _ ≤ max D.room 0 ∧ max D.room 0 ≤ _
    rw [h.room]; omega
  · exact (DiskW.new_wf (0 : Int) (by decide)).ops
  · exact (DiskW.new_wf (0 : Int) (by decide)).fail
  · exact (DiskW.new_wf (0 : Int) (by decide)).left
  · intro p hp'; show _ < (List.map _ _).length; rw [hfs]; exact hlt p hp'
  · intro p hp'; show _ < (List.map _ _).length; rw [hfs]; exact hlt p hp'
  · intro m hm; cases hm
  · show max D.room 0 = _
    rw [h.room]; omega
  · have := h.firsts
    rw [entsOf_snoc] at this
    simp only [List.pairwise_append, List.pairwise_singleton, List.mem_singleton, forall_eq] at this ⊢
    exact this
  · rw [List.pairwise_append]
    refine ⟨?_, by simp, fun a ha b hb => ?_⟩
    · have : ((entsOf full).map (·.idx)).Pairwise (· ≠ ·) := by
        have e : (entsOf full).map (·.idx) = List.range full.length := by
          unfold entsOf
          rw [List.map_map, List.range_eq_range', ← List.zipIdx_map_snd]
          rfl
        rw [e]
        exact List.pairwise_lt_range.imp (fun h => Nat.ne_of_lt h)
      exact List.pairwise_map.1 this
    · rw [List.mem_singleton.1 hb]
      unfold entsOf at ha
      obtain ⟨p, hp', rfl⟩ := List.mem_map.1 ha
      have := (List.getElem?_eq_some_iff.1 (List.mem_zipIdx_iff_getElem?.1 hp')).1
      exact Nat.ne_of_lt this
  · intro e he
    show ∃ fl, ((List.range (full.length + 1)).map (fun i => (⟨D.crashText fs i, D.crashText fs i, []⟩ : FileV)))[e.idx]? = some fl ∧ fl.now.data.toList = e.txt
    rcases List.mem_append.1 he with he | he
    · unfold entsOf at he
      obtain ⟨p, hp', rfl⟩ := List.mem_map.1 he
      have hg := List.mem_zipIdx_iff_getElem?.1 hp'
      have hl := (List.getElem?_eq_some_iff.1 hg).1
      refine ⟨⟨D.crashText fs p.2, D.crashText fs p.2, []⟩, ?_, ?_⟩
      · show (List.map _ _)[p.2]? = _
        rw [List.getElem?_map, List.getElem?_range (by omega)]
        rfl
      · show (D.crashText fs p.2).data.toList = p.1.txt
        unfold DiskV.crashText
        rw [h.files _ _ hg]
        rfl
    · rw [List.mem_singleton.1 he]
      refine ⟨⟨D.crashText fs full.length, D.crashText fs full.length, []⟩, ?_, ?_⟩
      · show (List.map _ _)[full.length]? = _
        rw [List.getElem?_map, List.getElem?_range (by omega)]
        rfl
      · show (D.crashText fs full.length).data.toList = (lastText f bs0 evs (fs.getD full.length 0)).data.toList
        unfold DiskV.crashText
        rw [h.last]
        rfl
/-- Opened again: all that was durable, and a front of a row that stood there. -/
theorem reopen (h : Ready R D k full f bs0 evs) (hR : R ≤ 9223372036854775807) (hch : Chain 1 full f) (hsm : ∀ g ∈ full, ∀ b ∈ g.bodies, b.length ≤ 2000)
    (hrow : ∀ row ∈ rowsOf [] evs, (∀ b ∈ bs0 ++ row, b.length ≤ 2000) ∧ f + (bs0 ++ row).length ≤ 1000000) (fs : List Int) :
    ∃ row j D', row ∈ rowsOf [] evs ∧ j ≤ row.length ∧ openGo (D.crash k fs) [] (D.crash k fs).firsts = (D', 0, full.map Grp.seg ++ [(⟨f, bs0 ++ row.take j⟩ : Grp).seg]) ∧
      GoodLog R 1 ⟨full.map Grp.seg, (⟨f, bs0 ++ row.take j⟩ : Grp).seg, (⟨f, bs0 ++ row.take j⟩ : Grp).seg⟩ D' full ⟨f, bs0 ++ row.take j⟩ ∧
      (D.crash k fs).firsts = (full ++ [(⟨f, bs0 ++ row.take j⟩ : Grp)]).map (·.first) ∧ (∀ s ∈ (D.crash k fs).list, NameOk s) ∧ (∀ N, Lim N (D.crash k fs) → N + 1 ≤ 1000000 → Lim (N + 1) D') := by
  have hg := h.good hR fs
  obtain ⟨C, hC⟩ : ∃ C, C = D.crash k fs := ⟨_, rfl⟩
  rw [← hC] at hg ⊢
  obtain ⟨T, hT⟩ : ∃ T, T = lastText f bs0 evs (fs.getD full.length 0) := ⟨_, rfl⟩
  rw [← hT] at hg
  obtain ⟨row, hr1, n, hn1, hn2, htx⟩ := at_rows f bs0 evs [] (fs.getD full.length 0) ⟨(framesL f bs0).toArray⟩ (by rw [List.append_nil])
  rw [show atGo ⟨(framesL f bs0).toArray⟩ (chgsOf f bs0 [] evs) (fs.getD full.length 0) = T from hT.symm] at htx
  obtain ⟨hb, hf⟩ := hrow row hr1
  obtain ⟨j, hj, hsc⟩ := keep_scan f bs0 row hb (by omega) n hn1 hn2
  obtain ⟨a, ha⟩ : ∃ a : Grp, a = ⟨f, bs0 ++ row.take j⟩ := ⟨_, rfl⟩
  have haf : a.first = f := by rw [ha]
  have hal : (bs0 ++ row.take j).length ≤ (bs0 ++ row).length := by rw [List.length_append, List.length_append, List.length_take]; omega
  have hae : a.end_ ≤ 1000000 := by rw [ha]; show f + (bs0 ++ row.take j).length ≤ _; omega
  have hab : ∀ b ∈ a.bodies, b.length ≤ 2000 := by
    rw [ha]
    intro b hbm
    refine hb b ?_
    rcases List.mem_append.1 hbm with hbm | hbm
    · exact List.mem_append.2 (.inl hbm)
    · exact List.mem_append.2 (.inr (List.mem_of_mem_take hbm))
  have hsa : scanSeg f T.data.toList = a.seg := by
    have h1 := scan_grp a hab hae
    rw [← h1, haf]
    unfold scanSeg
    rw [htx, hsc, ha]
    rfl
  have hle : a.txt.length ≤ T.data.toList.length := by
    have := (scanSeg_le f T).2
    rw [hsa] at this
    have : a.txt.length ≤ T.size := this
    simpa using this
  have htk : T.data.toList.take a.txt.length = a.txt := by
    have h1 : framesL f (bs0 ++ row) = a.txt ++ framesL (f + (bs0 ++ row.take j).length) (row.drop j) := by
      rw [ha]
      show _ = framesL f (bs0 ++ row.take j) ++ _
      rw [← framesL_append, List.append_assoc, List.take_append_drop]
    have h2 : a.txt.length ≤ n := by
      have := hle
      rw [htx, List.length_take] at this
      omega
    rw [htx, List.take_take, Nat.min_eq_left h2, h1, List.take_left]
  have hchain : Chain 1 (full ++ [a]) a.end_ := hch.snoc haf
  have hsmall : ∀ g ∈ full ++ [a], ∀ b ∈ g.bodies, b.length ≤ 2000 := by
    intro g hgm
    rcases List.mem_append.1 hgm with hgm | hgm
    · exact hsm g hgm
    · rw [List.mem_singleton.1 hgm]; exact hab
  refine ⟨row, j, ?_⟩
  rw [← ha]
  by_cases hm : a.txt.length < T.data.toList.length
  · obtain ⟨D1, hd1, hg1⟩ := hg.cut a.txt.length hle
    dsimp only at hd1 hg1
    rw [htk] at hg1
    have gl : GoodLog R 1 ⟨full.map Grp.seg, a.seg, a.seg⟩ D1 full a := ⟨⟨_, hg1, by rw [List.map_append, entsOf_pairs, List.map_append]; simp [haf]⟩, rfl, rfl, hchain, hsmall, hae⟩
    obtain ⟨D', _, hsy, gl'⟩ := gl.reopen
    have hnames : D1.names = C.names := by
      have := C.cut_names (Seg.nameB f) a.txt.length
      rw [hd1] at this
      exact this
    have hlist : C.list = D1.list := by unfold DiskV.list; rw [hnames]
    have hfirst : C.firsts = (full ++ [a]).map (·.first) := by
      rw [← gl.firsts_eq]
      unfold DiskV.firsts
      rw [hlist]
    have hreads : ∀ g ∈ full, C.read (Seg.nameB g.first) = (⟨g.txt.toArray⟩, 0) := by
      intro g hgm
      obtain ⟨x, hx, hxe⟩ : ∃ x ∈ entsOf full, (x.first, x.txt) = (g.first, g.txt) := by
        have : (g.first, g.txt) ∈ (entsOf full).map (fun e => (e.first, e.txt)) := by rw [entsOf_pairs]; exact List.mem_map.2 ⟨g, hgm, rfl⟩
        exact List.mem_map.1 this
      have hr := hg.read (List.mem_append.2 (.inl hx))
      rw [(Prod.mk.inj hxe).1, (Prod.mk.inj hxe).2] at hr
      exact hr
    have hone : openOne C a.first none = (D', 0, a.seg) := by
      have hr0 := hg.read (e := ⟨f, full.length, T.data.toList⟩) (by simp)
      unfold openOne
      rw [haf, hr0]
      dsimp only
      rw [if_neg (by simp), hsa, if_pos (by show a.txt.length < T.data.toList.toArray.size; rw [List.size_toArray]; exact hm)]
      rw [show (a.seg.size : Nat) = a.txt.length from rfl, hd1]
      dsimp only
      rw [← haf, hsy, if_neg (by simp)]
    have hop := openGo_last C D' a.end_ full hae 1 [] a hchain hsm hreads hone
    rw [List.nil_append, show (full ++ [a]).map Grp.seg = full.map Grp.seg ++ [a.seg] by rw [List.map_append]; rfl] at hop
    refine ⟨D', hr1, hj, by rw [hfirst]; exact hop, gl', hfirst, fun s hs => gl.names_ok s (by rw [← hlist]; exact hs), fun N hl hN => ?_⟩
    · have h1 := lim_cut hl (Seg.nameB f) (a.txt.length : Nat) hN
      rw [hd1] at h1
      have h2 := lim_sync h1 (Seg.nameB a.first)
      rw [hsy] at h2
      exact h2
  · have hTa : T.data.toList = a.txt := by
      rw [← htk, List.take_of_length_le (by omega)]
    rw [hTa] at hg
    have gl : GoodLog R 1 ⟨full.map Grp.seg, a.seg, a.seg⟩ C full a := ⟨⟨_, hg, by rw [List.map_append, entsOf_pairs, List.map_append]; simp [haf]⟩, rfl, rfl, hchain, hsmall, hae⟩
    obtain ⟨D', ho, hsy, gl'⟩ := gl.reopen
    refine ⟨D', hr1, hj, ho, gl', gl.firsts_eq, gl.names_ok, fun N hl hN => ?_⟩
    have h2 := lim_sync hl (Seg.nameB a.first)
    rw [hsy] at h2
    exact h2.mono (by omega) hN
end Ready
end Go.Proofs.YtnppdcegpojmbaaGreatDoor
namespace Go.Proofs.YtnppdcegpojmbaaGreatDoor
open Go Go.RowKit
structure KLog (R : Nat) (L : LogV) (D : DiskV) (full : List Grp) (f : Nat) (bs0 : List (List UInt8)) (evs : List Ev) : Prop where
  disk : KDisk R D full f bs0 evs
  efull : L.full = full.map Grp.seg
  eact : L.act = (actOf f bs0 evs).seg
  dur : L.durable = (⟨f, bs0⟩ : Grp).seg
  chain : Chain 1 full f
  small : ∀ g ∈ full, ∀ b ∈ g.bodies, b.length ≤ 2000
  rows : ∀ row ∈ rowsOf [] evs, (∀ b ∈ bs0 ++ row, b.length ≤ 2000) ∧ f + (bs0 ++ row).length ≤ 1000000
namespace KLog
variable {R : Nat} {L : LogV} {D : DiskV} {full : List Grp} {f : Nat} {bs0 : List (List UInt8)} {evs : List Ev}
theorem few (h : KLog R L D full f bs0 evs) : (actOf f bs0 evs).end_ ≤ 1000000 := (h.rows _ (rowEnd_mem evs [])).2
theorem good (h : KLog R L D full f bs0 evs) : GoodLog R 1 L D.bare full (actOf f bs0 evs) := by
  refine ⟨⟨_, h.disk.good, entsOf_pairs _⟩, h.efull, h.eact, h.chain.snoc rfl, ?_, h.few⟩
  intro g hg b hb
  rcases List.mem_append.1 hg with hg | hg
  · exact h.small g hg b hb
  · rw [List.mem_singleton.1 hg] at hb
    exact (h.rows _ (rowEnd_mem evs [])).1 b hb
theorem ok (h : KLog R L D full f bs0 evs) : L.Ok := by
  refine h.good.ok ?_
  have := h.good.takeOk bs0.length
  rw [h.dur]
  rw [show (actOf f bs0 evs).bodies.take bs0.length = bs0 from List.take_left] at this
  exact this
theorem same_end (h : KLog R L D full f bs0 evs) (hs : L.same) : rowEnd [] evs = [] := by
  have h1 := hs.2.1
  rw [h.dur, h.eact] at h1
  have h1 : bs0.length = (bs0 ++ rowEnd [] evs).length := h1
  rw [List.length_append] at h1
  exact List.eq_nil_of_length_eq_zero (by omega)
theorem append (h : KLog R L D full f bs0 evs) (body : ByteArray) (hb : body.size ≤ 2000) (hfit : GoodLog.sum (full ++ [actOf f bs0 evs]) + (Frame.putF (actOf f bs0 evs).end_ body.data.toList).length ≤ R) (hfew : (actOf f bs0 evs).end_ + 1 ≤ 1000000) :
    L.append D body = (L, D, 0, 11) ∨ ∃ L' D', L.append D body = (L', D', (actOf f bs0 evs).end_, 0) ∧ KLog R L' D' full f bs0 (evs ++ [.app body.data.toList]) := by
  have he : L.act.end_ = (actOf f bs0 evs).end_ := by rw [h.eact]; rfl
  have hf : L.act.first = f := by rw [h.eact]; rfl
  by_cases hl : D.left = 0
  · left
    unfold LogV.append
    rw [if_neg (by omega)]
    dsimp only
    rw [append_dead hl]
    dsimp only
    rw [if_neg (by decide)]
  · right
    obtain ⟨D', h1, h2, _⟩ := h.disk.append hl body.data.toList hfit
    refine ⟨{ L with act := ⟨L.act.first, L.act.many + 1, L.act.size + (⟨(Frame.putF (actOf f bs0 evs).end_ body.data.toList).toArray⟩ : ByteArray).size⟩ }, D', ?_, h2, h.efull, ?_, h.dur, h.chain, h.small, ?_⟩
    · unfold LogV.append
      rw [if_neg (by omega), he, hf]
      dsimp only
      rw [h1]
      dsimp only
      rw [if_pos rfl]
    · rw [h.eact]
      unfold actOf Grp.seg Grp.txt
      rw [rowEnd_app, ← List.append_assoc, framesL_snoc]
      simp [ByteArray.size]
      refine ⟨by omega, ?_⟩
      rw [show (⟨f, bs0 ++ rowEnd [] evs⟩ : Grp).end_ = f + (bs0.length + (rowEnd [] evs).length) by show f + (bs0 ++ rowEnd [] evs).length = _; rw [List.length_append]]
    · intro row hr
      rcases rowsOf_app _ _ _ hr with hr | rfl
      · exact h.rows row hr
      · have h3 := h.rows _ (rowEnd_mem evs [])
        refine ⟨fun b hbm => ?_, ?_⟩
        · rw [← List.append_assoc] at hbm
          rcases List.mem_append.1 hbm with hbm | hbm
          · exact h3.1 b hbm
          · rw [List.mem_singleton.1 hbm]; simpa using hb
        · have hfew : f + (bs0 ++ rowEnd [] evs).length + 1 ≤ 1000000 := hfew
          rw [← List.append_assoc, List.length_append]
          exact hfew
theorem sync (h : KLog R L D full f bs0 evs) : (L.sync D = (L, D, 0) ∧ rowEnd [] evs = []) ∨ L.sync D = (L, D, 11) ∨ ∃ L' D', L.sync D = (L', D', 0) ∧ KLog R L' D' full f (bs0 ++ rowEnd [] evs) [] := by
  have hd : L.durable.first = f := by rw [h.dur]; rfl
  by_cases hs : L.same
  · left
    exact ⟨by unfold LogV.sync; rw [if_pos hs], h.same_end hs⟩
  · right
    by_cases hl : D.left = 0
    · left
      unfold LogV.sync
      rw [if_neg hs, sync_dead hl]
      dsimp only
      rw [if_neg (by decide)]
    · right
      obtain ⟨D', h1, h2, _⟩ := h.disk.sync hl
      refine ⟨{ L with durable := L.act }, D', ?_, h2, h.efull, ?_, ?_, h.chain, h.small, ?_⟩
      · unfold LogV.sync
        rw [if_neg hs, hd, h1]
        dsimp only
        rw [if_pos rfl]
      · show L.act = _
        rw [h.eact]
        unfold actOf rowEnd
        rw [List.append_nil]
      · show L.act = _
        rw [h.eact]
        rfl
      · intro row hr
        rw [List.mem_singleton.1 hr, List.append_nil]
        exact h.rows _ (rowEnd_mem evs [])
theorem undo (h : KLog R L D full f bs0 evs) : (L.undo D = (L, D, 0) ∧ rowEnd [] evs = []) ∨ L.undo D = (L, D, 11) ∨ ∃ L' D', L.undo D = (L', D', 0) ∧ KLog R L' D' full f bs0 (evs ++ [.cut]) := by
  have hd : L.durable.first = f := by rw [h.dur]; rfl
  have hz : L.durable.size = (framesL f bs0).length := by rw [h.dur]; rfl
  by_cases hs : L.same
  · left
    exact ⟨by unfold LogV.undo; rw [if_pos hs], h.same_end hs⟩
  · right
    by_cases hl : D.left = 0
    · left
      unfold LogV.undo
      rw [if_neg hs, cut_dead hl]
      dsimp only
      rw [if_neg (by decide)]
    · right
      obtain ⟨D', h1, h2, _⟩ := h.disk.cut hl
      refine ⟨{ L with act := L.durable }, D', ?_, h2, h.efull, ?_, h.dur, h.chain, h.small, ?_⟩
      · unfold LogV.undo
        rw [if_neg hs, hd, hz, h1]
        dsimp only
        rw [if_pos rfl]
      · show L.durable = _
        rw [h.dur]
        unfold actOf
        rw [rowEnd_cut, List.append_nil]
      · intro row hr
        rcases rowsOf_cut _ _ hr with hr | rfl
        · exact h.rows row hr
        · have h3 := h.rows _ (rowEnd_mem evs [])
          refine ⟨fun b hbm => h3.1 b ?_, ?_⟩
          · rw [List.append_nil] at hbm; exact List.mem_append.2 (.inl hbm)
          · have h4 := h3.2
            rw [List.length_append] at h4
            rw [List.append_nil]; omega
/-- Where the power may go while a segment is begun. -/
def rollDead (R : Nat) (D : DiskV) (full : List Grp) (f : Nat) (bs0 : List (List UInt8)) (evs : List Ev) : Prop :=
  ∀ k, Ready R D k full f bs0 evs ∨ Ready R D k full f (bs0 ++ rowEnd [] evs) [] ∨ Ready R D k (full ++ [actOf f bs0 evs]) (actOf f bs0 evs).end_ [] []
theorem roll (h : KLog R L D full f bs0 evs) : (L.roll D = (L, D, 0) ∧ bs0 = [] ∧ rowEnd [] evs = []) ∨ (∃ L' D', L.roll D = (L', D', 11) ∧ rollDead R D' full f bs0 evs) ∨
    ∃ L' D', L.roll D = (L', D', 0) ∧ KLog R L' D' (full ++ [actOf f bs0 evs]) (actOf f bs0 evs).end_ [] [] := by
  have hf : L.act.first = f := by rw [h.eact]; rfl
  have he : L.act.end_ = (actOf f bs0 evs).end_ := by rw [h.eact]; rfl
  have hmany : L.act.many = (bs0 ++ rowEnd [] evs).length := by rw [h.eact]; rfl
  by_cases hm : L.act.many = 0
  · left
    refine ⟨by unfold LogV.roll; rw [if_pos hm], ?_⟩
    rw [hmany, List.length_append] at hm
    exact ⟨List.eq_nil_of_length_eq_zero (by omega), List.eq_nil_of_length_eq_zero (by omega)⟩
  · right
    by_cases hl : D.left = 0
    · left
      refine ⟨L, D, ?_, fun k => .inl (h.disk.ready k)⟩
      unfold LogV.roll
      rw [if_neg hm, sync_dead hl]
      dsimp only
      rw [if_neg (by decide)]
    · obtain ⟨D1, h1, h2, _⟩ := h.disk.sync hl
      have hact : actOf f (bs0 ++ rowEnd [] evs) [] = actOf f bs0 evs := by unfold actOf rowEnd; rw [List.append_nil]
      have hfew := h.few
      have hgood := h.good
      obtain ⟨D2, e, st, hst, hcase⟩ := h2.started (actOf f bs0 evs).end_ (by omega) (by
        intro x hx
        rw [hact] at hx
        have hx' : (x.first, x.txt) ∈ (full ++ [actOf f bs0 evs]).map (fun g => (g.first, g.txt)) := by rw [← entsOf_pairs]; exact List.mem_map.2 ⟨x, hx, rfl⟩
        obtain ⟨g, hgm, hge⟩ := List.mem_map.1 hx'
        rw [← (Prod.mk.inj hge).1]
        rw [hmany] at hm
        rcases List.mem_append.1 hgm with hgm | hgm
        · have h4 : g.first + g.bodies.length ≤ f := (h.chain.mem hgm).2
          show g.first ≠ f + (bs0 ++ rowEnd [] evs).length
          omega
        · rw [List.mem_singleton.1 hgm]
          show f ≠ f + (bs0 ++ rowEnd [] evs).length
          omega)
      rw [hact] at hcase
      have hroll : L.roll D = if st = true then (⟨L.segs, ⟨L.act.end_, 0, 0⟩, ⟨L.act.end_, 0, 0⟩⟩, D2, e) else ({ L with durable := L.act }, D2, e) := by
        unfold LogV.roll
        rw [if_neg hm, hf, h1]
        dsimp only
        rw [if_pos rfl, he, hst]
      rcases hcase with ⟨rfl, hs, hk⟩ | ⟨rfl, rfl, hk⟩
      · left
        refine ⟨if st = true then ⟨L.segs, ⟨L.act.end_, 0, 0⟩, ⟨L.act.end_, 0, 0⟩⟩ else { L with durable := L.act }, D2, ?_, fun k => .inr (hk k)⟩
        rw [hroll]
        split <;> rfl
      · right
        rw [if_pos rfl] at hroll
        refine ⟨_, D2, hroll, hk, ?_, ?_, ?_, ?_, ?_, ?_⟩
        · exact hgood.segs
        · rw [he]; rfl
        · rw [he]; rfl
        · exact h.chain.snoc rfl
        · exact hgood.small
        · intro row hr
          rw [List.mem_singleton.1 hr]
          exact ⟨fun b hb => (by cases hb), by simpa using hfew⟩
end KLog
end Go.Proofs.YtnppdcegpojmbaaGreatDoor
