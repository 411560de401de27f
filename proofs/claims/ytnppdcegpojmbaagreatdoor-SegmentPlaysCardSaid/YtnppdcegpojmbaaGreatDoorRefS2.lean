/- The reference's disk: the walk of List: of the names the least one behind the last, again and again. · The reference's disk and the program's, side by side: plain. · The reference's List: the names in their order, as the program's. -/
import Derived.Test.YtnppdcegpojmbaaGreatDoorRefD7
import Derived.Test.YtnppdcegpojmbaaGreatDoorSame1
namespace Go.Proofs.YtnppdcegpojmbaaGreatDoor
open Go Go.RowKit Go.Sort
namespace RefV
/-- The least name behind 'last'; empty: there is none. -/
def pickName (last next name : ByteArray) : ByteArray := if (Op.bytesLess name.toList last.toList = false ∧ name.toList ≠ last.toList) ∧ (next.toList = [] ∨ Op.bytesLess name.toList next.toList = true) then name else next
def nextName (l : List (ByteArray × Nat)) (last : ByteArray) : ByteArray := l.foldl (fun next p => pickName last next p.1) ByteArray.empty
def listed (l : List (ByteArray × Nat)) : Nat → List ByteArray × ByteArray
  | 0 => ([], ByteArray.empty)
  | k + 1 => ((listed l k).1 ++ [nextName l (listed l k).2], nextName l (listed l k).2)
theorem listed_len (l : List (ByteArray × Nat)) (k : Nat) : (listed l k).1.length = k := by
  induction k with
  | zero => rfl
  | succ k ih => show ((listed l k).1 ++ [_]).length = _; rw [List.length_append, ih]; rfl
end RefV
namespace RefW
variable {w : World} {r : Nat} {X : RefV} {R : RefRep}
set_option maxHeartbeats 2000000 in
set_option maxRecDepth 100000 in
theorem list_any (w : World) (r : Nat) (X : RefV) (R : RefRep) (h : RefAt w r X R) (hl : X.dir.length ≤ 1000000) :
    Calls Tryz.prog 108 #[.pointer (some ⟨r, 0, none⟩)] w fun e w' =>
      ∃ v, e = .returned v ∧ w'.ownsRow w.heap.size 9 1 v X.dir.length (textCells (RefV.listed X.dir X.dir.length).1) ∧ Off None w w' := by
  have hd := dir_any w r X R h
  obtain ⟨l, hll⟩ : ∃ l, l = X.dir := ⟨_, rfl⟩
  rw [← hll] at hd hl
  rw [← hll]
  have HD := Lib.hid hd
  clear hd h hll
  go_enter Tryz.func108, Tryz.ntmps108
  go_wp2_with fail
  refine HD.out.mono ?_
  rintro e w1 ⟨v, rfl, _, hrow, _, ho1⟩
  obtain ⟨p, c, rfl⟩ := own_shape hrow
  have hcell : ∀ i (hi : i < l.length), ∃ g, p = some ⟨g, 0, none⟩ ∧ w.cell? ⟨g, i * 2, none⟩ = some (.string l[i].1) := by
    intro i hi
    obtain ⟨g, c', hv, _, _, _, _, hc⟩ := own_cell hrow (by omega)
    cases hv
    have hn := named_cells l hi
    exact ⟨g, rfl, (hc _ _ hn.1).1⟩
  have HC := Lib.hid hcell; have HO1 := Lib.hid ho1
  clear hrow hcell ho1 HD
  go_wp2_with fail
  go_loopw [3, 5] (fun o t wr => ∃ (ov : Value) (k : Nat), ov = o ∧ k ≤ l.length ∧ t = .string (RefV.listed l k).2 ∧ wr.ownsRow w.heap.size 9 1 ov k (textCells (RefV.listed l k).1) ∧ Off None w wr) (fun o _ _ => l.length - (match o with | .slice _ n _ => n | _ => 0))
  case atStart => exact ⟨_, 0, rfl, Nat.zero_le _, rfl, World.ownsRow_nil _ _ _ _, HO1.out⟩
  case round =>
    obtain ⟨ov, k, rfl, hk, rfl, hrow, ho⟩ := hrel
    obtain ⟨po, co, rfl⟩ := own_shape hrow
    have HROW := Lib.hid hrow; have HO := Lib.hid ho
    obtain ⟨last, hlast⟩ : ∃ last, last = (RefV.listed l k).2 := ⟨_, rfl⟩
    rw [← hlast]
    have HLAST := Lib.hid hlast
    clear hrow ho hlast
    by_cases hlt : k < l.length
    · have i1 : (k : Int) < (l.length : Int) := by omega
      go_wp2_with fail
      go_loop [6, 7] (fun n i => ∃ j : Nat, j ≤ l.length ∧ i = .int .i64 j ∧ n = .string ((l.take j).foldl (fun next p => RefV.pickName last next p.1) ByteArray.empty)) (fun _ i => l.length - (intOf i).toNat)
      case atStart => exact ⟨0, Nat.zero_le _, rfl, rfl⟩
      case round =>
        obtain ⟨j, hj, rfl, rfl⟩ := hrel
        obtain ⟨nx, hnx⟩ : ∃ nx, nx = ((l.take j).foldl (fun next p => RefV.pickName last next p.1) ByteArray.empty) := ⟨_, rfl⟩
        rw [← hnx]
        by_cases hjl : j < l.length
        · obtain ⟨g, hp, d0⟩ := HC.out j hjl
          subst hp
          have e0 := HO.out.keep d0 (fun h => h)
          obtain ⟨x, hx⟩ : ∃ x, x = l[j].1 := ⟨_, rfl⟩
          rw [← hx] at e0
          have i0 : (0 : Int) ≤ (j : Int) := by omega
          have i2 : (j : Int) < (l.length : Int) := by omega
          have hst : ((l.take (j + 1)).foldl (fun next p => RefV.pickName last next p.1) ByteArray.empty) = RefV.pickName last nx x := by
            rw [List.take_succ_eq_append_getElem hjl, List.foldl_append, ← hnx, hx]; rfl
          have HST := Lib.hid hst
          clear d0 hx hst hnx
          go_wp2_with fail
          all_goals refine ⟨⟨j + 1, hjl, by go_num, ?_⟩, by simp [intOf]; omega⟩
          all_goals rw [HST.out]
          all_goals clear HST HLAST HROW HO HC HO1 e0 hl
          all_goals unfold RefV.pickName
          all_goals simp_all
          all_goals (rename_i h4; intro h1 h2 _; exact absurd (h4 h1) h2)
        · have i2 : ¬ (j : Int) < (l.length : Int) := by omega
          have htk : nx = RefV.nextName l last := by rw [hnx, List.take_of_length_le (by omega)]; rfl
          have HTK := Lib.hid htk
          clear hnx htk
          go_wp2_with (at_builtin; refine wpList_push rfl _ _ rfl elemText w.heap.size (.slice po k co) k (textCells (RefV.listed l k).1) rfl HROW.out #[.string nx] rfl rfl ?c1 ?c2 ?c3 ?_)
          case c1 => first | rfl | (intro u hu; simp at hu; rcases hu with rfl; rfl)
          case c2 => omega
          case c3 => exact HO.out.size
          intro g2 cap w3 hrow3 hp3
          have HROW3 := Lib.hid hrow3
          have hown : ∀ b, (Value.slice po k co).ownBlock = some b → w.heap.size ≤ b := fun b hb => (World.ownsRow.lt HROW.out b hb).1
          have HO3 := Lib.hid (HO.out.trans hp3.off (fun b hb h => absurd (hown b h) (by omega)))
          clear hrow3 hp3
          go_wp2_with fail
          case roundEnd =>
            refine ⟨⟨_, k + 1, rfl, hlt, ?_, ?_, HO3.out⟩, by show l.length - (k + 1) < l.length - k; omega⟩
            · show Value.string nx = Value.string (RefV.nextName l (RefV.listed l k).2)
              rw [HTK.out, HLAST.out]
            · show w3.ownsRow w.heap.size _ 1 _ (k + 1) (textCells ((RefV.listed l k).1 ++ [RefV.nextName l (RefV.listed l k).2]))
              rw [← HLAST.out, ← HTK.out, ← textCells_add]
              exact HROW3.out
    · obtain rfl : k = l.length := by omega
      have i1 : ¬ (l.length : Int) < (l.length : Int) := by omega
      go_wp2
      go_ret
      exact ⟨_, rfl, HROW.out, HO.out⟩
end RefW
end Go.Proofs.YtnppdcegpojmbaaGreatDoor
namespace Go.Proofs.YtnppdcegpojmbaaGreatDoor
open Go Go.RowKit Go.Sort
abbrev Named := ByteArray × Nat
def keyed (p : Named) : Bytes × Nat := (bytesOf p.1, p.2)
theorem bytesOf_inj {a b : ByteArray} (h : bytesOf a = bytesOf b) : a = b := by
  exact ByteArray.ext (Array.toList_inj.1 h)
/-- A row of names, as the reference has it, and as the program has it. -/
structure DirOk (l : List Named) (m : NMap) : Prop where
  perm : (l.map keyed).Perm m
  apart : l.Pairwise fun p q => p.1 ≠ q.1
  full : ∀ p ∈ l, p.1.size ≠ 0
theorem DirOk.mapart {l : List Named} {m : NMap} (h : DirOk l m) : m.Pairwise fun p q => p.1 ≠ q.1 := by
  refine (h.perm.pairwise_iff (fun {a b} hab e => hab e.symm)).1 ?_
  rw [List.pairwise_map]
  exact h.apart.imp fun hab e => hab (bytesOf_inj e)
theorem DirOk.num {l : List Named} {m : NMap} (h : DirOk l m) (name : ByteArray) : RefV.numIn l name = match m.get (bytesOf name) with | some v => (v : Int) | none => -1 := by
  unfold RefV.numIn
  cases hf : l.find? (fun p => decide (p.1.data.toList = name.data.toList)) with
  | none =>
    have hn : m.get (bytesOf name) = none := by
      unfold NMap.get
      rw [Option.map_eq_none_iff, List.find?_eq_none]
      intro p hp
      obtain ⟨q, hq, rfl⟩ := List.mem_map.1 (h.perm.mem_iff.2 hp)
      have := List.find?_eq_none.1 hf q hq
      simpa [keyed, bytesOf] using this
    rw [hn]
  | some p =>
    have h1 := List.mem_of_find?_eq_some hf
    have h2 := List.find?_some hf
    simp only [decide_eq_true_eq] at h2
    have h3 : (bytesOf name, p.2) ∈ m := by
      have := h.perm.mem_iff.1 (List.mem_map_of_mem h1)
      rwa [show keyed p = (bytesOf name, p.2) from by unfold keyed bytesOf; rw [h2]] at this
    rw [NMap.get_of_mem h.mapart h3]
theorem DirOk.total {l : List Named} {m : NMap} (h : DirOk l m) (f : Nat → Nat) : m.total f = (l.map fun p => f p.2).sum := by
  unfold NMap.total
  have h1 := (h.perm.map (fun p : Bytes × Nat => f p.2)).sum_nat
  rw [← h1, List.map_map]
  rfl
theorem del_perm {a b : NMap} (h : a.Perm b) (k : Bytes) : (a.del k).Perm (b.del k) := h.filter _
theorem keyed_without (l : List Named) (name : ByteArray) : ((RefV.without l name).map keyed) = NMap.del (l.map keyed) (bytesOf name) := by
  unfold RefV.without NMap.del
  rw [List.filter_map]
  rfl
theorem del_all {l : NMap} {k : Bytes} (h : ∀ p ∈ l, p.1 ≠ k) : l.del k = l := by
  unfold NMap.del
  rw [List.filter_eq_self]
  intro p hp
  simpa using h p hp
theorem ins_perm (x : Bytes × Nat) (m : NMap) : (NMap.ins x m).Perm (x :: m) := by
  induction m with
  | nil => exact List.Perm.refl _
  | cons y r ih =>
    unfold NMap.ins
    split
    · exact List.Perm.refl _
    · exact (ih.cons y).trans (List.Perm.swap x y r)
theorem DirOk.without {l : List Named} {m : NMap} (h : DirOk l m) (name : ByteArray) : DirOk (RefV.without l name) (m.del (bytesOf name)) where
  perm := by rw [keyed_without]; exact del_perm h.perm _
  apart := h.apart.sublist List.filter_sublist
  full := fun p hp => h.full p (List.mem_filter.1 hp).1
theorem DirOk.remove {l : List Named} {m : NMap} (h : DirOk l m) (name : ByteArray) : DirOk (RefV.without l name) (DiskV.done ⟨name, ByteArray.empty, 0⟩ m) := by
  unfold DiskV.done
  rw [if_pos (show (ByteArray.empty).size = 0 from rfl)]
  exact h.without name
theorem DirOk.create {l : List Named} {m : NMap} (h : DirOk l m) (name : ByteArray) (n : Nat) (hn : name.size ≠ 0) : DirOk (RefV.without l name ++ [(name, n)]) (DiskV.done ⟨ByteArray.empty, name, n⟩ m) := by
  have h0 : m.del (bytesOf ByteArray.empty) = m := del_all (fun p hp e => by
    obtain ⟨q, hq, rfl⟩ := List.mem_map.1 (h.perm.mem_iff.2 hp)
    have h1 := h.full q hq
    have h2 : q.1 = ByteArray.empty := bytesOf_inj e
    rw [h2] at h1
    exact h1 rfl)
  unfold DiskV.done
  rw [if_neg hn, h0]
  have hw := h.without name
  refine ⟨?_, ?_, ?_⟩
  · unfold NMap.put
    rw [List.map_append]
    exact ((List.perm_append_singleton (keyed (name, n)) _).trans (hw.perm.cons _)).trans (ins_perm _ _).symm
  · refine List.pairwise_append.2 ⟨hw.apart, List.pairwise_singleton _ _, fun a ha b hb e => ?_⟩
    rw [List.mem_singleton.1 hb] at e
    have := (List.mem_filter.1 ha).2
    rw [e] at this
    simp at this
  · intro p hp
    rcases List.mem_append.1 hp with h1 | h1
    · exact hw.full p h1
    · rw [List.mem_singleton.1 h1]; exact hn
/- Files: of each change all moments that it has. -/
def chgNow (t : ByteArray) (c : Chg) : ByteArray := if c.cut < 0 then t ++ c.s else t.extract 0 c.cut.toNat
def chgRow (t : ByteArray) (c : Chg) : List ByteArray := if c.cut < 0 then RefV.moments t c.s c.s.size else [t.extract 0 c.cut.toNat]
def rowGo (t : ByteArray) : List Chg → List ByteArray
  | [] => []
  | c :: r => chgRow t c ++ rowGo (chgNow t c) r
def nowGo (t : ByteArray) (l : List Chg) : ByteArray := l.foldl chgNow t
def rowOf (f : FileV) : List ByteArray := f.base :: rowGo f.base f.chgs
theorem rowGo_append (l l' : List Chg) : ∀ t, rowGo t (l ++ l') = rowGo t l ++ rowGo (nowGo t l) l' := by
  induction l with
  | nil => intro t; rfl
  | cons c r ih => intro t; show chgRow t c ++ rowGo _ (r ++ l') = _; rw [ih, ← List.append_assoc]; rfl
theorem nowGo_append (l l' : List Chg) (t : ByteArray) : nowGo t (l ++ l') = nowGo (nowGo t l) l' := List.foldl_append
theorem chgRow_last (t : ByteArray) (c : Chg) (l : List ByteArray) (hl : l.getLast? = some t) : (l ++ chgRow t c).getLast? = some (chgNow t c) := by
  unfold chgRow chgNow
  split
  · obtain ⟨n, hn⟩ : ∃ n, n = c.s.size := ⟨_, rfl⟩
    cases hs : c.s.size with
    | zero =>
      have he : c.s = ByteArray.empty := by
        apply bytesOf_inj
        unfold bytesOf
        exact List.eq_nil_of_length_eq_zero (by simpa using hs)
      rw [he]
      simpa [RefV.moments] using hl
    | succ k =>
      rw [RefV.moments_succ, ← List.append_assoc, List.getLast?_append]
      show some _ = _
      rw [← hs]
      simp
  · rw [List.getLast?_append]; rfl
theorem row_last (t : ByteArray) (l : List Chg) : ∀ (a : List ByteArray), a.getLast? = some t → (a ++ rowGo t l).getLast? = some (nowGo t l) := by
  induction l generalizing t with
  | nil => intro a ha; simpa [rowGo, nowGo] using ha
  | cons c r ih =>
    intro a ha
    show (a ++ (chgRow t c ++ rowGo (chgNow t c) r)).getLast? = some (nowGo (chgNow t c) r)
    rw [← List.append_assoc]
    exact ih _ _ (chgRow_last t c a ha)
/-- What a file has now is what its changes leave. -/
def FileOk (f : FileV) : Prop := f.now = nowGo f.base f.chgs
theorem rowOf_last {f : FileV} (h : FileOk f) : (rowOf f).getLast? = some f.now := by
  unfold rowOf
  rw [h]
  exact row_last f.base f.chgs [f.base] rfl
theorem rowOf_chg {f : FileV} (h : FileOk f) (c : Chg) : rowOf ⟨f.base, chgNow f.now c, f.chgs ++ [c]⟩ = rowOf f ++ chgRow f.now c ∧ FileOk ⟨f.base, chgNow f.now c, f.chgs ++ [c]⟩ := by
  unfold rowOf FileOk
  dsimp only
  rw [rowGo_append, nowGo_append, ← h]
  exact ⟨by simp [rowGo], rfl⟩
/- Rows of names: behind each move one. -/
def dirRows (m : NMap) : List Move → List NMap
  | [] => [m]
  | x :: r => m :: dirRows (DiskV.done x m) r
def dirLast (m : NMap) (l : List Move) : NMap := l.foldl (fun a x => DiskV.done x a) m
theorem dirRows_add (m : NMap) (l : List Move) (x : Move) : dirRows m (l ++ [x]) = dirRows m l ++ [DiskV.done x (dirLast m l)] := by
  induction l generalizing m with
  | nil => rfl
  | cons y r ih => show m :: dirRows _ (r ++ [x]) = _; rw [ih]; rfl
theorem dirRows_last (m : NMap) (l : List Move) : (dirRows m l).getLast? = some (dirLast m l) := by
  induction l generalizing m with
  | nil => rfl
  | cons y r ih =>
    show (m :: dirRows (DiskV.done y m) r).getLast? = some (dirLast (DiskV.done y m) r)
    rw [List.getLast?_cons, ih]
    rfl
inductive Both₂ {α β : Type} (R : α → β → Prop) : List α → List β → Prop
  | nil : Both₂ R [] []
  | cons {x : α} {y : β} {a : List α} {b : List β} : R x y → Both₂ R a b → Both₂ R (x :: a) (y :: b)
structure Sim (X : RefV) (D : DiskV) : Prop where
  room : X.room = D.room
  ops : X.ops = D.ops
  fail : X.fail = D.fail
  left : X.left = D.left
  pos : 0 ≤ D.fail
  files : X.files = D.files.map rowOf
  filed : ∀ f ∈ D.files, FileOk f
  dirs : Both₂ DirOk X.dirs (dirRows D.base D.moves)
  names : D.names = dirLast D.base D.moves
theorem both₂_last {α β : Type} {R : α → β → Prop} {a : List α} {b : List β} (h : Both₂ R a b) {y : β} (hy : b.getLast? = some y) : ∃ x, a.getLast? = some x ∧ R x y := by
  induction h with
  | nil => cases hy
  | @cons x z r t hxz hrt ih =>
    cases hrt with
    | nil =>
      have : z = y := by simpa using hy
      exact ⟨x, rfl, this ▸ hxz⟩
    | @cons x2 z2 r2 t2 h2 h3 =>
      rw [List.getLast?_cons_cons] at hy
      obtain ⟨u, hu, hR⟩ := ih hy
      exact ⟨u, by rw [List.getLast?_cons_cons]; exact hu, hR⟩
theorem both₂_add {α β : Type} {R : α → β → Prop} {a : List α} {b : List β} (h : Both₂ R a b) {x : α} {y : β} (hxy : R x y) : Both₂ R (a ++ [x]) (b ++ [y]) := by
  induction h with
  | nil => exact .cons hxy .nil
  | cons h1 _ ih => exact .cons h1 ih
namespace Sim
variable {X : RefV} {D : DiskV}
theorem dir (h : Sim X D) : DirOk X.dir D.names := by
  obtain ⟨l, hl, hok⟩ := both₂_last h.dirs (dirRows_last D.base D.moves)
  have : X.dir = l := by unfold RefV.dir; rw [hl]; rfl
  rw [this, h.names]; exact hok
theorem num (h : Sim X D) (name : ByteArray) : X.number name = match D.names.get (bytesOf name) with | some v => (v : Int) | none => -1 := h.dir.num name
theorem nowAt (h : Sim X D) {i : Nat} {f : FileV} (hf : D.files[i]? = some f) : X.nowAt i = f.now := by
  unfold RefV.nowAt
  rw [h.files, List.getElem?_map, hf]
  show ((rowOf f).getLast?).getD _ = _
  rw [rowOf_last (h.filed f (List.mem_of_getElem? hf))]
  rfl
theorem begin (h : Sim X D) : Sim X.begin.1 D.begin.1 ∧ (X.begin.2 = true ↔ D.begin.2 = 0) ∧ (X.begin.2 = false ↔ D.left = 0) ∧ (X.begin.2 = false → D.begin.2 = 11) := by
  unfold RefV.begin DiskV.begin
  rw [h.left]
  by_cases hz : D.left = 0
  · rw [if_pos hz, if_pos hz]
    refine ⟨h, by simp, by simp [hz], fun _ => rfl⟩
  · rw [if_neg hz, if_neg hz]
    refine ⟨⟨h.room, by show wrap64 _ = wrap64 _; rw [h.ops], h.fail, rfl, h.pos, h.files, h.filed, h.dirs, h.names⟩, by simp, by simp [hz], fun h => by cases h⟩
theorem fails (h : Sim X D) : Sim X.fails.1 D.fails.1 ∧ X.fails.2 = D.fails.2 := by
  unfold RefV.fails DiskV.fails
  rw [h.fail]
  have hp := h.pos
  by_cases hz : D.fail = 0
  · rw [if_pos hz, if_pos (by omega)]
    exact ⟨h, rfl⟩
  · rw [if_neg hz, if_neg (by omega)]
    exact ⟨⟨h.room, h.ops, rfl, h.left, by show 0 ≤ D.fail - 1; omega, h.files, h.filed, h.dirs, h.names⟩, rfl⟩
theorem used (h : Sim X D) (hn : ∀ p ∈ D.names, p.2 < D.files.length) : X.used = D.used := by
  unfold RefV.used DiskV.used
  rw [h.dir.total D.sizeAt]
  congr 1
  refine List.map_congr_left fun p hp => ?_
  have hm : keyed p ∈ D.names := h.dir.perm.mem_iff.1 (List.mem_map_of_mem hp)
  have hl := hn _ hm
  have hf : D.files[p.2]? = some D.files[p.2] := List.getElem?_eq_getElem hl
  rw [h.nowAt hf]
  unfold DiskV.sizeAt
  rw [hf]; rfl
theorem setFile (h : Sim X D) (i : Nat) (f : FileV) (row : List ByteArray) (hr : row = rowOf f) (hf : FileOk f) : Sim (X.setF i row) (D.setFile i f) where
  room := h.room
  ops := h.ops
  fail := h.fail
  left := h.left
  pos := h.pos
  files := by show X.files.set i row = (D.files.set i f).map rowOf; rw [List.map_set, h.files, hr]
  filed := fun g hg => by
    have hg : g ∈ D.files.set i f := hg
    rcases List.mem_or_eq_of_mem_set hg with hm | rfl
    · exact h.filed g hm
    · exact hf
  dirs := h.dirs
  names := h.names
theorem move (h : Sim X D) (l : List Named) (m : Move) (hd : DirOk l (DiskV.done m D.names)) : Sim (X.addD l) (D.moved m) where
  room := h.room
  ops := h.ops
  fail := h.fail
  left := h.left
  pos := h.pos
  files := h.files
  filed := h.filed
  dirs := by
    show Both₂ DirOk (X.dirs ++ [l]) (dirRows D.base (D.moves ++ [m]))
    rw [dirRows_add]
    refine both₂_add h.dirs ?_
    rw [← h.names]; exact hd
  names := by
    show DiskV.done m D.names = dirLast D.base (D.moves ++ [m])
    unfold dirLast
    rw [List.foldl_append]
    show _ = DiskV.done m (dirLast D.base D.moves)
    rw [← h.names]
theorem addFile (h : Sim X D) : Sim (X.addF [ByteArray.empty]) { D with files := D.files ++ [⟨ByteArray.empty, ByteArray.empty, []⟩] } where
  room := h.room
  ops := h.ops
  fail := h.fail
  left := h.left
  pos := h.pos
  files := by show X.files ++ [_] = (D.files ++ [_]).map rowOf; rw [List.map_append, h.files]; rfl
  filed := fun g hg => by
    rcases List.mem_append.1 hg with hm | hm
    · exact h.filed g hm
    · rw [List.mem_singleton.1 hm]; rfl
  dirs := h.dirs
  names := h.names
theorem syncDir (h : Sim X D) : Sim X.syncDir.1 D.syncDir.1 ∧ X.syncDir.2 = D.syncDir.2 := by
  obtain ⟨h1, h2, h3, h4⟩ := h.begin
  unfold RefV.syncDir DiskV.syncDir
  cases hb : X.begin.2 with
  | false =>
    have hl := h3.1 hb
    have e : D.begin = (D, 11) := by unfold DiskV.begin; rw [if_pos hl]
    rw [e]
    exact ⟨h, rfl⟩
  | true =>
    have e0 := h2.1 hb
    have hdir : X.begin.1.dir = X.dir := by unfold RefV.begin; split <;> rfl
    have hd := h1.dir
    rw [hdir] at hd
    generalize D.begin = DB at *
    obtain ⟨D1, e⟩ := DB
    dsimp only at *
    subst e0
    rw [if_neg (by decide), if_pos rfl]
    exact ⟨⟨h1.room, h1.ops, h1.fail, h1.left, h1.pos, h1.files, h1.filed, .cons hd .nil, rfl⟩, rfl⟩
theorem find_off (h : Sim X D) (hb : X.begin.2 = false) (name : ByteArray) : D.find name = (D, none, 11) := by
  unfold DiskV.find
  rw [if_pos (h.begin.2.2.1.1 hb)]
theorem find_none (h : Sim X D) (hb : X.begin.2 = true) (name : ByteArray) (hn : X.begin.1.number name < 0) : D.find name = (D.begin.1, none, 5) := by
  obtain ⟨h1, h2, h3, _⟩ := h.begin
  unfold DiskV.find
  have hl : ¬ D.left = 0 := fun e => by rw [h3.2 e] at hb; cases hb
  rw [if_neg hl]
  have hd : D.begin.1.names = D.names := by unfold DiskV.begin; split <;> rfl
  have := h1.num name
  rw [hd] at this
  cases hg : D.names.get (bytesOf name) with
  | none => rfl
  | some i => rw [hg] at this; rw [this] at hn; exact absurd (show ((i : Nat) : Int) < 0 from hn) (by omega)
theorem find_some (h : Sim X D) (hb : X.begin.2 = true) (name : ByteArray) {n : Nat} (hn : X.begin.1.number name = n) : D.find name = (D.begin.1, some n, 0) := by
  obtain ⟨h1, h2, h3, _⟩ := h.begin
  unfold DiskV.find
  have hl : ¬ D.left = 0 := fun e => by rw [h3.2 e] at hb; cases hb
  rw [if_neg hl]
  have hd : D.begin.1.names = D.names := by unfold DiskV.begin; split <;> rfl
  have := h1.num name
  rw [hd, hn] at this
  cases hg : D.names.get (bytesOf name) with
  | none => rw [hg] at this; exact absurd (show ((n : Nat) : Int) = -1 from this) (by omega)
  | some i =>
    rw [hg] at this
    have h5 : ((n : Nat) : Int) = i := this
    obtain rfl : n = i := by omega
    rfl
theorem begin_files (D : DiskV) : D.begin.1.files = D.files ∧ D.begin.1.names = D.names ∧ D.begin.1.room = D.room := by unfold DiskV.begin; split <;> exact ⟨rfl, rfl, rfl⟩
theorem fails_files (D : DiskV) : D.fails.1.files = D.files ∧ D.fails.1.names = D.names := by unfold DiskV.fails; split <;> exact ⟨rfl, rfl⟩
theorem number_cases (X : RefV) (name : ByteArray) : X.number name < 0 ∨ ∃ n : Nat, X.number name = n := by
  by_cases h : X.number name < 0
  · exact .inl h
  · exact .inr ⟨(X.number name).toNat, by omega⟩
theorem number_file (h : Sim X D) (hn : ∀ p ∈ D.names, p.2 < D.files.length) {name : ByteArray} {n : Nat} (hk : X.number name = n) : ∃ f, D.files[n]? = some f := by
  have := h.num name
  rw [hk] at this
  cases hg : D.names.get (bytesOf name) with
  | none => rw [hg] at this; exact absurd (show ((n : Nat) : Int) = -1 from this) (by omega)
  | some i =>
    rw [hg] at this
    have h5 : ((n : Nat) : Int) = i := this
    obtain rfl : n = i := by omega
    exact ⟨_, List.getElem?_eq_getElem (hn _ (NMap.get_mem hg))⟩
theorem read (h : Sim X D) (hn : ∀ p ∈ D.names, p.2 < D.files.length) (name : ByteArray) : X.read name = D.read name := by
  unfold RefV.read DiskV.read
  rw [h.left]
  by_cases hz : D.left = 0
  · rw [if_pos hz, if_pos hz]
  · rw [if_neg hz, if_neg hz]
    have hnum := h.num name
    cases hg : D.names.get (bytesOf name) with
    | none => rw [hg] at hnum; rw [hnum]; rfl
    | some i =>
      rw [hg] at hnum
      dsimp only at hnum ⊢
      obtain ⟨f, hf⟩ := h.number_file hn hnum
      have h5 : X.number name = (i : Int) := hnum
      rw [h5, if_neg (Int.not_lt.2 (Int.natCast_nonneg i)), Int.toNat_natCast, h.nowAt hf]
      rw [hf]
      rfl
theorem create (h : Sim X D) (name : ByteArray) : Sim (X.create name).1 (D.create name).1 ∧ (X.create name).2 = (D.create name).2 := by
  unfold RefV.create DiskV.create
  cases hb : X.begin.2 with
  | false =>
    rw [h.find_off hb name, if_pos rfl]
    exact ⟨h, rfl⟩
  | true =>
    rw [if_neg (by decide)]
    have h1 := h.begin.1
    rcases number_cases X.begin.1 name with hn | ⟨n, hn⟩
    · rw [h.find_none hb name hn]
      dsimp only
      rw [if_neg (show ¬ (5 : Int) = 11 by decide)]
      by_cases hm : DiskV.named name = false
      · rw [if_pos hm, if_pos hm]; exact ⟨h1, rfl⟩
      · rw [if_neg hm, if_neg hm, if_neg (show ¬ 0 ≤ X.begin.1.number name by omega), if_neg (show ¬ (5 : Int) = 0 by decide)]
        have hsz : name.size ≠ 0 := by
          intro e
          unfold DiskV.named at hm
          rw [e] at hm
          simp at hm
        have h2 := h1.addFile
        have hlen : X.begin.1.files.length = D.begin.1.files.length := by rw [h1.files, List.length_map]
        rw [hlen]
        exact ⟨h2.move _ _ (h1.dir.create name _ hsz), rfl⟩
    · rw [h.find_some hb name hn]
      dsimp only
      rw [if_neg (show ¬ (0 : Int) = 11 by decide)]
      by_cases hm : DiskV.named name = false
      · rw [if_pos hm, if_pos hm]; exact ⟨h1, rfl⟩
      · rw [if_neg hm, if_neg hm, if_pos (show 0 ≤ X.begin.1.number name by omega), if_pos (show (0 : Int) = 0 from rfl)]; exact ⟨h1, rfl⟩
theorem remove (h : Sim X D) (name : ByteArray) : Sim (X.remove name).1 (D.remove name).1 ∧ (X.remove name).2 = (D.remove name).2 := by
  unfold RefV.remove DiskV.remove
  cases hb : X.begin.2 with
  | false => rw [h.find_off hb name, if_pos rfl]; exact ⟨h, rfl⟩
  | true =>
    rw [if_neg (by decide)]
    have h1 := h.begin.1
    rcases number_cases X.begin.1 name with hn | ⟨n, hn⟩
    · rw [h.find_none hb name hn, if_pos hn]; exact ⟨h1, rfl⟩
    · rw [h.find_some hb name hn, if_neg (by omega)]
      exact ⟨h1.move _ _ (h1.dir.remove name), rfl⟩
theorem sync (h : Sim X D) (hw : ∀ p ∈ D.names, p.2 < D.files.length) (name : ByteArray) : Sim (X.sync name).1 (D.sync name).1 ∧ (X.sync name).2 = (D.sync name).2 := by
  unfold RefV.sync DiskV.sync
  cases hb : X.begin.2 with
  | false => rw [h.find_off hb name, if_pos rfl]; exact ⟨h, rfl⟩
  | true =>
    rw [if_neg (by decide)]
    have h1 := h.begin.1
    rcases number_cases X.begin.1 name with hn | ⟨n, hn⟩
    · rw [h.find_none hb name hn, if_pos hn]; exact ⟨h1, rfl⟩
    · rw [h.find_some hb name hn, if_neg (by omega)]
      obtain ⟨h2, e⟩ := h1.fails
      obtain ⟨b1, b2, _⟩ := begin_files D
      obtain ⟨f, hf⟩ := h1.number_file (by rw [b1, b2]; exact hw) hn
      dsimp only
      by_cases hfb : X.begin.1.fails.2 = true
      · rw [if_pos hfb, if_pos (by rw [← e]; exact hfb)]; exact ⟨h2, rfl⟩
      · rw [if_neg hfb, if_neg (by rw [← e]; exact hfb), hf, hn, Int.toNat_natCast, h1.nowAt hf]
        exact ⟨h2.setFile n ⟨f.now, f.now, []⟩ _ rfl rfl, rfl⟩
theorem cut (h : Sim X D) (hw : ∀ p ∈ D.names, p.2 < D.files.length) (name : ByteArray) (z : Nat) : Sim (X.cut name z).1 (D.cut name z).1 ∧ (X.cut name z).2 = (D.cut name z).2 := by
  unfold RefV.cut DiskV.cut
  cases hb : X.begin.2 with
  | false => rw [h.find_off hb name, if_pos rfl]; exact ⟨h, rfl⟩
  | true =>
    rw [if_neg (by decide)]
    have h1 := h.begin.1
    rcases number_cases X.begin.1 name with hn | ⟨n, hn⟩
    · rw [h.find_none hb name hn, if_pos hn]; exact ⟨h1, rfl⟩
    · rw [h.find_some hb name hn, if_neg (by omega)]
      obtain ⟨b1, b2, _⟩ := begin_files D
      obtain ⟨f, hf⟩ := h1.number_file (by rw [b1, b2]; exact hw) hn
      have hfo := h1.filed f (List.mem_of_getElem? hf)
      dsimp only
      rw [hn, Int.toNat_natCast, h1.nowAt hf, hf]
      dsimp only
      by_cases hz : f.now.size < z
      · rw [if_pos hz, if_pos (.inr (by omega))]; exact ⟨h1, rfl⟩
      · rw [if_neg hz, if_neg (by omega), Int.toNat_natCast]
        have hc := rowOf_chg hfo ⟨ByteArray.empty, (z : Int)⟩
        have e1 : chgNow f.now ⟨ByteArray.empty, (z : Int)⟩ = f.now.extract 0 z := by unfold chgNow; rw [if_neg (by dsimp only; omega)]; rfl
        have e2 : chgRow f.now ⟨ByteArray.empty, (z : Int)⟩ = [f.now.extract 0 z] := by unfold chgRow; rw [if_neg (by dsimp only; omega)]; rfl
        rw [e1, e2] at hc
        refine ⟨h1.setFile n _ _ ?_ hc.2, rfl⟩
        rw [hc.1, h1.files, List.getElem?_map, hf]
        rfl
theorem append (h : Sim X D) (hw : ∀ p ∈ D.names, p.2 < D.files.length) (name s : ByteArray) : Sim (X.append name s).1 (D.append name s).1 ∧ (X.append name s).2 = (D.append name s).2 := by
  unfold RefV.append DiskV.append
  cases hb : X.begin.2 with
  | false => rw [h.find_off hb name, if_pos rfl]; exact ⟨h, rfl⟩
  | true =>
    rw [if_neg (by decide)]
    have h1 := h.begin.1
    rcases number_cases X.begin.1 name with hn | ⟨n, hn⟩
    · rw [h.find_none hb name hn, if_pos hn]; exact ⟨h1, rfl⟩
    · rw [h.find_some hb name hn, if_neg (by omega)]
      obtain ⟨b1, b2, _⟩ := begin_files D
      have hw1 : ∀ p ∈ D.begin.1.names, p.2 < D.begin.1.files.length := by rw [b1, b2]; exact hw
      obtain ⟨f, hf⟩ := h1.number_file hw1 hn
      have hfo := h1.filed f (List.mem_of_getElem? hf)
      obtain ⟨h2, e⟩ := h1.fails
      have hu := h1.used hw1
      dsimp only
      rw [hu, h1.room]
      by_cases hfull : D.begin.1.room - (D.begin.1.used : Int) < (s.size : Int)
      · rw [if_pos (by omega), if_pos hfull]; exact ⟨h1, rfl⟩
      · rw [if_neg (by omega), if_neg hfull]
        by_cases hfb : X.begin.1.fails.2 = true
        · rw [if_pos hfb, if_pos (by rw [← e]; exact hfb)]; exact ⟨h2, rfl⟩
        · rw [if_neg hfb, if_neg (by rw [← e]; exact hfb), hf, hn, Int.toNat_natCast]
          dsimp only
          have hc := rowOf_chg hfo ⟨s, -1⟩
          have e1 : chgNow f.now ⟨s, -1⟩ = f.now ++ s := by unfold chgNow; rw [if_pos (show (-1 : Int) < 0 by decide)]
          have e2 : chgRow f.now ⟨s, -1⟩ = RefV.moments f.now s s.size := by unfold chgRow; rw [if_pos (show (-1 : Int) < 0 by decide)]
          rw [e1, e2] at hc
          have hf2 : D.begin.1.fails.1.files[n]? = some f := by rw [(fails_files _).1]; exact hf
          refine ⟨?_, rfl⟩
          unfold RefV.grown
          refine h2.setFile n _ _ ?_ hc.2
          rw [hc.1, h2.files, List.getElem?_map, hf2, h2.nowAt hf2]
          rfl
theorem stop (h : Sim X D) (n : Int) : Sim (X.stop n) (D.stop n) := ⟨h.room, h.ops, h.fail, rfl, h.pos, h.files, h.filed, h.dirs, h.names⟩
theorem failAt (h : Sim X D) (n : Int) : Sim (X.failAt n) (D.failAt n) := ⟨h.room, h.ops, rfl, h.left, by show 0 ≤ max n 0; omega, h.files, h.filed, h.dirs, h.names⟩
theorem new (room : Int) : Sim (RefV.new room) (DiskV.new room) := ⟨rfl, rfl, rfl, rfl, Int.le_refl 0, rfl, fun f hf => absurd (show f ∈ ([] : List FileV) from hf) (by simp), .cons ⟨List.Perm.refl _, List.Pairwise.nil, fun p hp => absurd hp (by simp)⟩ .nil, rfl⟩
end Sim
end Go.Proofs.YtnppdcegpojmbaaGreatDoor
namespace Go.Proofs.YtnppdcegpojmbaaGreatDoor
open Go Go.RowKit Go.Sort Go.Shelf
theorem behind_iff (name last : ByteArray) : (Op.bytesLess name.toList last.toList = false ∧ name.toList ≠ last.toList) ↔ bytesOf last < bytesOf name := by
  rw [bytesLess_eq, Heap.toList_data, Heap.toList_data, decide_eq_false_iff_not]
  show (¬ bytesOf name < bytesOf last ∧ bytesOf name ≠ bytesOf last) ↔ _
  constructor
  · rintro ⟨h1, h2⟩
    have h3 : bytesOf last ≤ bytesOf name := List.not_lt.1 h1
    by_cases h4 : bytesOf last < bytesOf name
    · exact h4
    · exact absurd (List.le_antisymm (List.not_lt.1 h4) h3) h2
  · intro h
    exact ⟨fun h1 => List.lt_irrefl _ (List.lt_trans h h1), fun e => by rw [e] at h; exact List.lt_irrefl _ h⟩
/-- What the inner loop has found: the least name behind 'last' of those that it has seen. -/
def Least (l : List Bytes) (last r : Bytes) : Prop := (r = [] ∧ ∀ q ∈ l, ¬ last < q) ∨ (r ∈ l ∧ last < r ∧ ∀ q ∈ l, last < q → r ≤ q)
theorem pick_least (l : List Bytes) (last next name : ByteArray) (h : Least l (bytesOf last) (bytesOf next)) (hl : ∀ q ∈ l, q ≠ []) : Least (l ++ [bytesOf name]) (bytesOf last) (bytesOf (RefV.pickName last next name)) := by
  unfold RefV.pickName
  by_cases hb : bytesOf last < bytesOf name
  · rcases h with ⟨h1, h2⟩ | ⟨h1, h2, h3⟩
    · have hc : (Op.bytesLess name.toList last.toList = false ∧ name.toList ≠ last.toList) ∧ (next.toList = [] ∨ Op.bytesLess name.toList next.toList = true) := ⟨(behind_iff name last).2 hb, .inl (by rw [Heap.toList_data]; exact h1)⟩
      rw [if_pos hc]
      refine .inr ⟨by simp, hb, fun q hq hlq => ?_⟩
      rcases List.mem_append.1 hq with hq | hq
      · exact absurd hlq (h2 q hq)
      · rw [List.mem_singleton.1 hq]; exact List.le_refl _
    · by_cases hlt : bytesOf name < bytesOf next
      · have hc : (Op.bytesLess name.toList last.toList = false ∧ name.toList ≠ last.toList) ∧ (next.toList = [] ∨ Op.bytesLess name.toList next.toList = true) := ⟨(behind_iff name last).2 hb, .inr (by rw [bytesLess_eq, Heap.toList_data, Heap.toList_data]; exact decide_eq_true hlt)⟩
        rw [if_pos hc]
        refine .inr ⟨by simp, hb, fun q hq hlq => ?_⟩
        rcases List.mem_append.1 hq with hq | hq
        · exact List.le_trans (List.le_of_lt hlt) (h3 q hq hlq)
        · rw [List.mem_singleton.1 hq]; exact List.le_refl _
      · have hc : ¬ ((Op.bytesLess name.toList last.toList = false ∧ name.toList ≠ last.toList) ∧ (next.toList = [] ∨ Op.bytesLess name.toList next.toList = true)) := by
          rintro ⟨_, h4 | h4⟩
          · rw [Heap.toList_data] at h4
            exact hl _ h1 h4
          · rw [bytesLess_eq, Heap.toList_data, Heap.toList_data, decide_eq_true_eq] at h4
            exact hlt h4
        rw [if_neg hc]
        refine .inr ⟨by simp [h1], h2, fun q hq hlq => ?_⟩
        rcases List.mem_append.1 hq with hq | hq
        · exact h3 q hq hlq
        · rw [List.mem_singleton.1 hq]; exact List.not_lt.1 hlt
  · have hc : ¬ ((Op.bytesLess name.toList last.toList = false ∧ name.toList ≠ last.toList) ∧ (next.toList = [] ∨ Op.bytesLess name.toList next.toList = true)) := fun h4 => hb ((behind_iff name last).1 h4.1)
    rw [if_neg hc]
    rcases h with ⟨h1, h2⟩ | ⟨h1, h2, h3⟩
    · refine .inl ⟨h1, fun q hq => ?_⟩
      rcases List.mem_append.1 hq with hq | hq
      · exact h2 q hq
      · rw [List.mem_singleton.1 hq]; exact hb
    · refine .inr ⟨by simp [h1], h2, fun q hq hlq => ?_⟩
      rcases List.mem_append.1 hq with hq | hq
      · exact h3 q hq hlq
      · rw [List.mem_singleton.1 hq] at hlq; exact absurd hlq hb
theorem next_least (l : List Named) (last : ByteArray) (hl : ∀ p ∈ l, p.1.size ≠ 0) : Least (l.map fun p => bytesOf p.1) (bytesOf last) (bytesOf (RefV.nextName l last)) := by
  have hne : ∀ p ∈ l, bytesOf p.1 ≠ [] := fun p hp e => hl p hp (by
    have : p.1.data.toList.length = 0 := by rw [show p.1.data.toList = [] from e]; rfl
    simpa using this)
  have key : ∀ (k : Nat), k ≤ l.length → Least ((l.take k).map fun p => bytesOf p.1) (bytesOf last) (bytesOf ((l.take k).foldl (fun next p => RefV.pickName last next p.1) ByteArray.empty)) := by
    intro k
    induction k with
    | zero => intro _; exact .inl ⟨rfl, fun q hq => absurd hq (by simp)⟩
    | succ k ih =>
      intro hk
      rw [List.take_succ_eq_append_getElem (by omega), List.map_append, List.foldl_append]
      refine pick_least _ _ _ _ (ih (by omega)) (fun q hq => ?_)
      obtain ⟨p, hp, rfl⟩ := List.mem_map.1 hq
      exact hne p (List.mem_of_mem_take hp)
  have := key l.length (Nat.le_refl _)
  rw [List.take_of_length_le (Nat.le_refl _)] at this
  exact this
/-- The names, sorted, are what List lays out. -/
theorem listed_sorted (l : List Named) (hl : ∀ p ∈ l, p.1.size ≠ 0) (S : List Bytes) (hp : S.Perm (l.map fun p => bytesOf p.1)) (hs : S.Pairwise fun a b => a < b) :
    ∀ k, k ≤ l.length → (RefV.listed l k).1.map bytesOf = S.take k ∧ (k = 0 ∧ (RefV.listed l k).2 = ByteArray.empty ∨ ∃ h : k - 1 < S.length, 0 < k ∧ bytesOf (RefV.listed l k).2 = S[k - 1]) := by
  have hlen : S.length = l.length := by rw [hp.length_eq, List.length_map]
  have hlt : ∀ i j (hi : i < S.length) (hj : j < S.length), i < j → S[i] < S[j] := fun i j hi hj h => List.pairwise_iff_getElem.1 hs i j hi hj h
  intro k
  induction k with
  | zero => intro _; exact ⟨by simp [RefV.listed], .inl ⟨rfl, rfl⟩⟩
  | succ k ih =>
    intro hk
    obtain ⟨h1, h2⟩ := ih (by omega)
    have hkS : k < S.length := by omega
    have hbehind : ∀ j (hj : j < S.length), bytesOf (RefV.listed l k).2 < S[j] ↔ k ≤ j := by
      intro j hj
      rcases h2 with ⟨rfl, h2⟩ | ⟨h3, h4, h5⟩
      · rw [h2]
        refine ⟨fun _ => Nat.zero_le _, fun _ => ?_⟩
        obtain ⟨p, hpm, he⟩ := List.mem_map.1 (hp.mem_iff.1 (List.getElem_mem hj))
        rw [← he]
        have hne : bytesOf p.1 ≠ [] := fun e => hl p hpm (by
          have : p.1.data.toList.length = 0 := by rw [show p.1.data.toList = [] from e]; rfl
          simpa using this)
        cases hb : bytesOf p.1 with
        | nil => exact absurd hb hne
        | cons c r => exact List.nil_lt_cons c r
      · rw [h5]
        constructor
        · intro h6
          rcases Nat.lt_or_ge j k with h7 | h7
          · exfalso
            rcases Nat.lt_or_ge j (k - 1) with h8 | h8
            · exact List.lt_irrefl _ (List.lt_trans h6 (hlt _ _ hj h3 h8))
            · have : j = k - 1 := by omega
              subst this
              exact List.lt_irrefl _ h6
          · exact h7
        · intro h6; exact hlt _ _ h3 hj (by omega)
    have hL := next_least l (RefV.listed l k).2 hl
    have hS : bytesOf (RefV.nextName l (RefV.listed l k).2) = S[k] := by
      rcases hL with ⟨_, h6⟩ | ⟨h6, h7, h8⟩
      · exact absurd ((hbehind k hkS).2 (Nat.le_refl _)) (h6 _ (hp.mem_iff.1 (List.getElem_mem hkS)))
      · obtain ⟨j, hj, he⟩ := List.mem_iff_getElem.1 (hp.mem_iff.2 h6)
        rw [← he] at h7 h8 ⊢
        have hkj := (hbehind j hj).1 h7
        have hle := h8 _ (hp.mem_iff.1 (List.getElem_mem hkS)) ((hbehind k hkS).2 (Nat.le_refl _))
        rcases Nat.eq_or_lt_of_le hkj with e | e
        · subst e; rfl
        · exact absurd (hlt k j hkS hj e) (List.not_lt.2 hle)
    refine ⟨?_, .inr ⟨hkS, Nat.succ_pos _, hS⟩⟩
    show ((RefV.listed l k).1 ++ [RefV.nextName l (RefV.listed l k).2]).map bytesOf = _
    rw [List.map_append, h1, List.map_singleton, hS, List.take_succ_eq_append_getElem hkS]
namespace Sim
variable {X : RefV} {D : DiskV}
theorem list (h : Sim X D) : (RefV.listed X.dir X.dir.length).1.map bytesOf = D.list := by
  have hd := h.dir
  have hp : D.list.Perm (X.dir.map fun p => bytesOf p.1) := by
    unfold DiskV.list
    refine (List.mergeSort_perm _ _).trans ?_
    have h1 := hd.perm.symm.map (fun p : Bytes × Nat => p.1)
    rw [List.map_map] at h1
    exact h1
  have tr : ∀ a b c : List UInt8, leB a b = true → leB b c = true → leB a c = true := fun a b c h1 h2 => by simp only [leB, decide_eq_true_eq] at *; exact List.le_trans h1 h2
  have tot : ∀ a b : List UInt8, (leB a b || leB b a) = true := fun a b => by simp only [leB, Bool.or_eq_true, decide_eq_true_eq]; exact List.le_total a b
  have hs1 : D.list.Pairwise fun a b => leB a b = true := List.pairwise_mergeSort tr tot _
  have hap : D.list.Pairwise fun a b => a ≠ b := by
    refine (hp.symm.pairwise_iff (fun {a b} hab e => hab e.symm)).1 ?_
    rw [List.pairwise_map]
    exact hd.apart.imp fun hab e => hab (bytesOf_inj e)
  have hs : D.list.Pairwise fun a b => a < b := by
    refine hs1.imp₂ (fun a b h1 h2 => ?_) hap
    simp only [leB, decide_eq_true_eq] at h1
    by_cases h3 : a < b
    · exact h3
    · exact absurd (List.le_antisymm h1 (List.not_lt.1 h3)) h2
  have := (listed_sorted X.dir hd.full D.list hp hs X.dir.length (Nat.le_refl _)).1
  rw [this, List.take_of_length_le (by rw [hp.length_eq, List.length_map]; exact Nat.le_refl _)]
end Sim
end Go.Proofs.YtnppdcegpojmbaaGreatDoor
