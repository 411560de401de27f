/- A ledger in memory; the walks of place, Clone and Find. · A ledger in memory: the walks of Find, Free, Add. · A ledger in memory: the walks of Free and Add. -/
import Derived.Test.YtndgnlblbjpogaaGreatDoorLedIn
import Derived.Test.YtndgnlblbjpogaaGreatDoorShelf
namespace Go.Proofs.YtndgnlblbjpogaaGreatDoor
open Go Go.RowKit Go.Shelf
instance : Inhabited DestV := ⟨⟨ByteArray.empty, 0, 0, [], 0, 0, 0⟩⟩
abbrev DestIn := DestV × Value
def destsCells (ds : List DestIn) : List Value := ds.flatMap fun p => destCells p.1 p.2
theorem destCells_len (d : DestV) (av : Value) : (destCells d av).length = 7 := rfl
theorem destsCells_len (ds : List DestIn) : (destsCells ds).length = ds.length * 7 := by
  induction ds with
  | nil => rfl
  | cons x r ih => unfold destsCells at ih ⊢; rw [List.flatMap_cons, List.length_append, ih, List.length_cons, destCells_len]; omega
theorem destsCells_at (ds : List DestIn) : ∀ (i k : Nat) (p : DestIn), ds[i]? = some p → k < 7 → (destsCells ds)[i * 7 + k]? = (destCells p.1 p.2)[k]? := by
  induction ds with
  | nil => intro i k p h; simp at h
  | cons x r ih =>
    intro i k p h hk
    unfold destsCells at ih ⊢
    rw [List.flatMap_cons]
    cases i with
    | zero =>
      simp at h
      subst h
      rw [Nat.zero_mul, Nat.zero_add, List.getElem?_append_left (by rw [destCells_len]; exact hk)]
    | succ i =>
      simp at h
      rw [List.getElem?_append_right (by rw [destCells_len]; omega), destCells_len, show (i + 1) * 7 + k - 7 = i * 7 + k by omega]
      exact ih i k p h hk
structure DestsAt (w : World) (S : Nat → Prop) (sv : Value) (ds : List DestIn) : Prop where
  row : SliceAt w S 7 sv ds.length (destsCells ds)
  each : ∀ p ∈ ds, DestAt w S p
/-- A ledger in memory: what it reads lies in blocks of S. -/
def LedgerAt (w : World) (S : Nat → Prop) (lv : Value) (l : LedgerV) : Prop :=
  ∃ sv ds, lv = .agg #[.int .u64 l.first, .int .u64 l.next, sv] ∧ ds.map (·.1) = l.dests ∧ DestsAt w S sv ds ∧ l.first ≤ big ∧ l.next ≤ big
namespace DestsAt
variable {w w' : World} {S T G : Nat → Prop} {sv : Value} {ds : List DestIn}
theorem off (h : DestsAt w S sv ds) (ho : Off G w w') (hG : ∀ b, S b → b < w.heap.size → ¬ G b) : DestsAt w' S sv ds := ⟨h.row.off ho hG, fun p hp => (h.each p hp).off ho hG⟩
theorem quiet (h : DestsAt w S sv ds) (ho : Off None w w') : DestsAt w' S sv ds := ⟨h.row.quiet ho, fun p hp => (h.each p hp).quiet ho⟩
theorem mono (h : DestsAt w S sv ds) (hS : ∀ b, S b → b < w.heap.size → T b) : DestsAt w T sv ds := ⟨h.row.mono hS, fun p hp => (h.each p hp).mono hS⟩
end DestsAt
namespace LedgerAt
variable {w w' : World} {S T G : Nat → Prop} {lv : Value} {l : LedgerV}
theorem off (h : LedgerAt w S lv l) (ho : Off G w w') (hG : ∀ b, S b → b < w.heap.size → ¬ G b) : LedgerAt w' S lv l := by
  obtain ⟨sv, ds, h1, h2, h3, h4⟩ := h
  exact ⟨sv, ds, h1, h2, h3.off ho hG, h4⟩
theorem quiet (h : LedgerAt w S lv l) (ho : Off None w w') : LedgerAt w' S lv l := h.off ho fun _ _ _ hn => hn
theorem mono (h : LedgerAt w S lv l) (hS : ∀ b, S b → b < w.heap.size → T b) : LedgerAt w T lv l := by
  obtain ⟨sv, ds, h1, h2, h3, h4⟩ := h
  exact ⟨sv, ds, h1, h2, h3.mono hS, h4⟩
end LedgerAt
/-- What is new besides. -/
abbrev And_ (S : Nat → Prop) (w : World) : Nat → Prop := fun b => S b ∨ w.heap.size ≤ b
/-- Where a name stands; -1: nowhere. -/
def placeI (ds : List DestV) (name : ByteArray) : Int := match LedgerV.place ds name with | some i => i | none => -1
theorem place_some {ds : List DestV} {name : ByteArray} {i : Nat} (h : LedgerV.place ds name = some i) : ∃ hi : i < ds.length, ds[i].name = name := by
  unfold LedgerV.place at h
  obtain ⟨hi, h1, _⟩ := List.findIdx?_eq_some_iff_getElem.1 h
  exact ⟨hi, by simpa using h1⟩
theorem place_none {ds : List DestV} {name : ByteArray} (h : LedgerV.place ds name = none) : ∀ d ∈ ds, d.name ≠ name := by
  unfold LedgerV.place at h
  intro d hd
  have := List.findIdx?_eq_none_iff.1 h d hd
  simpa using this
theorem off_below {w w' : World} (h : Off None w w') : Below w.heap.size w w' := ⟨h.os, h.tape, h.output, h.size, fun b hb => h.block b hb (fun h => h)⟩
namespace Led
theorem name_eq (a b : ByteArray) : (a.toList == b.toList) = decide (a = b) := by
  rw [Bool.eq_iff_iff, decide_eq_true_eq, beq_iff_eq, Heap.toList_data, Heap.toList_data]
  constructor
  · intro h; cases a; cases b; exact congrArg ByteArray.mk (Array.ext' h)
  · rintro rfl; rfl
theorem same_any (W : World) (d : DestV) (av : Value) (b : Nat) (name : ByteArray) (hb : W.cell? ⟨b, 0, none⟩ = some (.string name)) :
    Calls Tryz.prog 75 #[destAgg d av, .pointer (some ⟨b, 0, none⟩)] W fun e w' => e = .returned (.bool (decide (d.name = name))) ∧ Off None W w' := by
  have ho1 : Off None W (W.alloc (.cells (destCells d av).toArray 47)) := (Off.refl None W).alloc _
  have cb := ho1.stay hb (fun h => h)
  have HO := Lib.hid ho1
  clear hb ho1
  unfold destCells at cb HO
  unfold destAgg
  go_enter Tryz.func75, Tryz.ntmps75
  go_wp2_with fail
  go_ret
  exact ⟨by rw [← name_eq]; rfl, HO.out⟩
/-- The first place of a list that a test holds at, as the shelf says it. -/
theorem idx_place (name : ByteArray) (zs : List DestIn) : Lib.idxBy (fun _ (y : DestIn) => decide (y.1.name = name)) zs default = placeI (zs.map (·.1)) name := by
  have key : ∀ (zs : List DestIn) (i : Nat), Lib.idxByFrom (fun _ (y : DestIn) => decide (y.1.name = name)) default zs i = (match LedgerV.place (zs.map (·.1)) name with | some k => ((i + k : Nat) : Int) | none => -1) := by
    intro zs
    induction zs with
    | nil => intro i; rfl
    | cons x r ih =>
      intro i
      rw [Lib.idxByFrom]
      unfold LedgerV.place
      rw [List.map_cons, List.findIdx?_cons]
      by_cases hx : x.1.name = name
      · rw [if_pos (by simpa using hx), if_pos (by simpa using hx)]; rfl
      · rw [if_neg (by simpa using hx), if_neg (by simpa using hx), ih (i + 1)]
        unfold LedgerV.place
        cases (List.findIdx? (fun d => decide (d.name = name)) (r.map (·.1))) with
        | none => rfl
        | some k => show ((i + 1 + k : Nat) : Int) = ((i + (k + 1) : Nat) : Int); congr 1; omega
  unfold Lib.idxBy
  rw [key]
  unfold placeI
  cases LedgerV.place (zs.map (·.1)) name with
  | none => rfl
  | some k => show ((0 + k : Nat) : Int) = _; rw [Nat.zero_add]
set_option maxRecDepth 100000 in
theorem index_nil (w : World) (v : Value) : Calls Tryz.prog 74 #[.slice none 0 0, v] w fun e w' => e = .returned (.int .i64 (-1)) ∧ Off None w w' := by
  go_enter Tryz.func74, Tryz.ntmps74
  go_wp2
  go_loopg [8] 0 (fun _ s8 wr => s8 = .int .i64 0 ∧ wr = w)
  case atStart => exact ⟨rfl, rfl⟩
  case round =>
    obtain ⟨rfl, rfl⟩ := hrel
    go_wp2
    go_ret
    exact ⟨rfl, Off.refl _ _⟩
set_option maxRecDepth 100000 in
theorem place_any (w : World) (S : Nat → Prop) (sv : Value) (ds : List DestIn) (h : DestsAt w S sv ds) (name : ByteArray) :
    Calls Tryz.prog 42 #[sv, .string name] w fun e w' => e = .returned (.int .i64 (placeI (ds.map (·.1)) name)) ∧ Off None w w' := by
  have ho1 : Off None w (w.alloc (.cells #[.string name] 9)) := (Off.refl None w).alloc _
  have hb1 : (w.alloc (.cells #[.string name] 9)).heap[w.heap.size]? = some (.cells #[.string name] 9 (0, 0)) := Heap.alloc_new w _
  have hbn := Heap.cell hb1 0
  have hrow := h.row.quiet ho1
  have HO := Lib.hid ho1
  obtain ⟨w1, hw1⟩ : ∃ w1, w1 = w.alloc (.cells #[.string name] 9) := ⟨_, rfl⟩
  have HI : Calls Tryz.prog 74 #[sv, .func (.func 75) #[] #[.pointer (some ⟨w.heap.size, 0, none⟩)]] w1 fun e w' => e = .returned (.int .i64 (placeI (ds.map (·.1)) name)) ∧ Off None w1 w' := by
    rw [hw1]
    rcases hrow.2.2 with ⟨rfl, h0⟩ | ⟨b, off, c, rfl, h1, h2, h3, h4, h5⟩
    · rw [List.eq_nil_of_length_eq_zero h0]
      exact index_nil _ _
    · have hp : PredBelow Tryz.prog 75 #[.pointer (some ⟨w.heap.size, 0, none⟩)] (fun x : DestIn => .agg (destCells x.1 x.2).toArray) (fun x => decide (x.1.name = name)) (w.alloc (.cells #[.string name] 9)) := fun W x hW =>
        (same_any W x.1 x.2 w.heap.size name ((hW.cell (Heap.block_lt hbn)).trans hbn)).mono fun _ _ h => ⟨h.1, hW.trans ((off_below h.2).mono hW.size)⟩
      refine (AnyQ.slices_IndexFunc Tryz.indexDests 7 (fun _ => Tryz.isAgg47 _) (fun _ => Tryz.sizeOf47 _) (fun x : DestIn => destCells x.1 x.2) (fun _ => rfl) (fun x => decide (x.1.name = name)) 75 #[.pointer (some ⟨w.heap.size, 0, none⟩)] (enters_of Tryz.func75 (by kernel_rfl) rfl) b off ds.length c ds _ hp (Nat.le_refl _) (by have := hrow.2.1; omega) h4 ?_).mono ?_
      · intro j hj i v hv
        have hi : i < 7 := by
          rcases Nat.lt_or_ge i 7 with h | h
          · exact h
          · rw [List.getElem?_eq_none (by rw [destCells_len]; exact h)] at hv; cases hv
        have := h5 (j * 7 + i) v (by rw [destsCells_at ds j i ds[j]! (by rw [List.getElem?_eq_getElem hj, getElem!_pos ds j hj]) hi]; exact hv)
        rw [Nat.add_assoc]
        exact this
      · rintro e w' ⟨rfl, hbel⟩
        rw [List.take_length, idx_place]
        exact ⟨rfl, Off.of_below hbel⟩
  have HII := Lib.hid HI
  rw [← hw1] at HO
  clear HI hb1 hbn hrow h ho1
  go_enter Tryz.func42, Tryz.ntmps42
  go_wp2_with fail
  rw [← hw1]
  clear hw1
  refine HII.out.mono ?_
  rintro e w2 ⟨rfl, ho2⟩
  go_wp2_with fail
  go_ret
  exact ⟨rfl, HO.out.quiet_trans ho2⟩
theorem oneDest (ds : List DestIn) (w : World) (S : Nat → Prop) (h : ∀ p ∈ ds, DestAt w S p) : ∀ u ∈ destsCells ds, u.oneCell' = true := by
  intro u hu
  obtain ⟨p, hp, hu⟩ := List.mem_flatMap.1 hu
  have hs : p.2.oneCell' = true := by
    rcases (h p hp).row.2.2 with ⟨e, _⟩ | ⟨b, o, c, e, _⟩
    · rw [e]; rfl
    · rw [e]; rfl
  simp [destCells] at hu
  rcases hu with rfl | rfl | rfl | rfl | rfl | rfl | rfl
  · rfl
  · rfl
  · rfl
  · exact hs
  · rfl
  · rfl
  · rfl
set_option maxRecDepth 100000 in
theorem clone_any (w : World) (S : Nat → Prop) (sv : Value) (ds : List DestIn) (h : DestsAt w S sv ds) :
    Calls Tryz.prog 35 #[sv] w fun e w' => ∃ v, e = .returned v ∧ w'.ownsRow w.heap.size 47 7 v ds.length (destsCells ds) ∧ Off None w w' := by
  rcases h.row.2.2 with ⟨rfl, h0⟩ | ⟨b, off, c, rfl, h1, h2, h3, h4, h5⟩
  · rw [List.eq_nil_of_length_eq_zero h0]
    refine (AnyE.slices_Clone_nil Tryz.cloneDests 0 0 w).mono ?_
    rintro e w' ⟨rfl, rfl⟩
    exact ⟨_, rfl, World.ownsRow_nil _ _ _ _, Off.refl _ _⟩
  · obtain ⟨i0, hi, hz0, hz1, hz2⟩ := info_parts infoDest
    have hn := h.row.2.1
    refine (AnyE.slices_Clone Tryz.cloneDests i0 _ 7 80 hi hz0 hz1 hz2 rfl (by decide) (fun _ => Tryz.sizeOf47 _) b off ds.length c (destsCells ds) w (destsCells_len ds) (by unfold maxLen; omega) (by omega) h5 (oneDest ds w S h.each)).mono ?_
    rintro e w' ⟨v, rfl, hrow, _, hb⟩
    exact ⟨v, rfl, hrow, Off.of_below hb⟩
set_option maxRecDepth 100000 in
theorem cloneNums_any (w : World) (S : Nat → Prop) (v : Value) (l : List Nat) (h : SliceAt w S 1 v l.length (numCells l)) :
    Calls Tryz.prog 36 #[v] w fun e w' => ∃ v', e = .returned v' ∧ w'.ownsRow w.heap.size 31 1 v' l.length (numCells l) ∧ Off None w w' := by
  rcases h.2.2 with ⟨rfl, h0⟩ | ⟨b, off, c, rfl, h1, h2, h3, h4, h5⟩
  · rw [List.eq_nil_of_length_eq_zero h0]
    refine (AnyE.slices_Clone_nil Tryz.cloneNums 0 0 w).mono ?_
    rintro e w' ⟨rfl, rfl⟩
    exact ⟨_, rfl, World.ownsRow_nil _ _ _ _, Off.refl _ _⟩
  · obtain ⟨i0, hi, hz0, hz1, hz2⟩ := info_parts Nums.infoU
    have hn := h.2.1
    refine (AnyE.slices_Clone Tryz.cloneNums i0 _ 1 8 hi hz0 hz1 hz2 rfl (by decide) (fun _ => Tryz.sizeOf31 _) b off l.length c (numCells l) w (by rw [numCells_len]; omega) (by unfold maxLen; omega) (by omega) h5 (numCells_one l)).mono ?_
    rintro e w' ⟨v, rfl, hrow, _, hb⟩
    exact ⟨v, rfl, hrow, Off.of_below hb⟩
end Led
/-- The cells of one destination of a slice. -/
theorem SliceAt.dest {w : World} {b off : Nat} {ds : List DestIn} (h : ∀ j u, (destsCells ds)[j]? = some u → w.cell? ⟨b, off + j, none⟩ = some u) {i : Nat} {p : DestIn} (hi : ds[i]? = some p) :
    w.cell? ⟨b, off + i * 7, none⟩ = some (.string p.1.name) ∧ w.cell? ⟨b, off + i * 7 + 1, none⟩ = some (.int .u64 p.1.since) ∧ w.cell? ⟨b, off + i * 7 + 2, none⟩ = some (.int .u64 p.1.low) ∧
    w.cell? ⟨b, off + i * 7 + 3, none⟩ = some p.2 ∧ w.cell? ⟨b, off + i * 7 + 4, none⟩ = some (.int .u64 p.1.acked) ∧ w.cell? ⟨b, off + i * 7 + 5, none⟩ = some (.int .u64 p.1.evicted) ∧ w.cell? ⟨b, off + i * 7 + 6, none⟩ = some (.int .u64 p.1.rejected) := by
  have key : ∀ k u, k < 7 → (destCells p.1 p.2)[k]? = some u → w.cell? ⟨b, off + i * 7 + k, none⟩ = some u := fun k u hk hu => by
    rw [Nat.add_assoc]
    exact h _ _ ((destsCells_at ds i k p hi hk).trans hu)
  exact ⟨key 0 _ (by decide) rfl, key 1 _ (by decide) rfl, key 2 _ (by decide) rfl, key 3 _ (by decide) rfl, key 4 _ (by decide) rfl, key 5 _ (by decide) rfl, key 6 _ (by decide) rfl⟩
theorem two_boxes (w : World) (c0 c1 : Array Value) (t0 t1 : TypeId) : ∃ w2 q, w2 = (w.alloc (.cells c0 t0)).alloc (.cells c1 t1) ∧ q = w.heap.size + 1 ∧ Off None w w2 ∧ w2.heap[w.heap.size]? = some (.cells c0 t0 (0, 0)) ∧ w2.heap[q]? = some (.cells c1 t1 (0, 0)) ∧ w2.heap.size = w.heap.size + 2 := by
  obtain ⟨w1, rfl, ho1, hb1, hs1⟩ := boxed w c0 t0
  obtain ⟨w2, rfl, ho2, hb2, hs2⟩ := boxed (w.alloc (.cells c0 t0)) c1 t1
  exact ⟨_, _, rfl, rfl, ho1.trans ho2 (fun _ _ h => h), ho2.at_ hb1 (fun h => h), by rw [hs1] at hb2; exact hb2, by omega⟩
namespace Led
theorem infoLed : (Tryz.prog.info? 34).map (·.size) = some 3 := by kernel_rfl
/-- What Find answers. -/
def FindOf (w : World) (S : Nat → Prop) (l : LedgerV) (name : ByteArray) (e : Ending) (w' : World) : Prop :=
  match l.find name with
  | some d => ∃ av, e = .returned (.tuple #[destAgg d av, .bool true]) ∧ DestAt w' (And_ S w) (d, av)
  | none => e = .returned (.tuple #[.agg #[.string ⟨#[]⟩, .int .u64 0, .int .u64 0, .slice none 0 0, .int .u64 0, .int .u64 0, .int .u64 0], .bool false])
end Led
end Go.Proofs.YtndgnlblbjpogaaGreatDoor
namespace Go.Proofs.YtndgnlblbjpogaaGreatDoor
open Go Go.RowKit Go.Shelf
theorem SliceAt.form {w : World} {S : Nat → Prop} {size n : Nat} {v : Value} {xs : List Value} (h : SliceAt w S size v n xs) : ∃ A c, v = .slice A n c := by
  rcases h.2.2 with ⟨e, h0⟩ | ⟨b, o, c, e, _⟩
  · exact ⟨none, 0, by rw [e, h0]⟩
  · exact ⟨_, c, e⟩
theorem find_place (ds : List DestV) (name : ByteArray) : (match LedgerV.place ds name with | some i => ds[i]? | none => none) = ds.find? (fun d => decide (d.name = name)) := by
  unfold LedgerV.place
  induction ds with
  | nil => rfl
  | cons x r ih =>
    rw [List.findIdx?_cons, List.find?_cons]
    by_cases hx : x.name = name
    · rw [if_pos (by simpa using hx), decide_eq_true hx]; rfl
    · rw [if_neg (by simpa using hx), decide_eq_false hx]
      rw [← ih]
      cases List.findIdx? (fun d => decide (d.name = name)) r with
      | none => rfl
      | some i => rfl
namespace Led
abbrev zDest : Array Value := #[.string ⟨#[]⟩, .int .u64 0, .int .u64 0, .slice none 0 0, .int .u64 0, .int .u64 0, .int .u64 0]
set_option maxHeartbeats 2000000 in
set_option maxRecDepth 100000 in
theorem find_any (w : World) (S : Nat → Prop) (lv : Value) (l : LedgerV) (h : LedgerAt w S lv l) (name : ByteArray) :
    Calls Tryz.prog 47 #[lv, .string name] w fun e w' => FindOf w S l name e w' ∧ Off None w w' := by
  obtain ⟨sv, ds, rfl, hds, hd, hf, hn⟩ := h
  obtain ⟨w2, q, hw2, hq, ho2, hb0, hb1, hs2⟩ := two_boxes w #[.int .u64 l.first, .int .u64 l.next, sv] zDest 34 47
  obtain ⟨p, hp⟩ : ∃ p, p = w.heap.size := ⟨_, rfl⟩
  rw [← hp] at hb0 hq
  have hpl := place_any w2 S sv ds (hd.quiet ho2) name
  rw [hds] at hpl
  have c2 : w2.cell? ⟨p, 2, none⟩ = some sv := Heap.cell hb0 2
  have hplace := find_place l.dests name
  have HPL := Lib.hid hpl; clear hpl
  have HD := Lib.hid (And.intro hd hds)
  have HB := Lib.hid (And.intro hb0 hb1)
  have HO := Lib.hid ho2
  have HP := Lib.hid hp
  have hlt : p < w2.heap.size := by omega
  have hpq : p ≠ q := by omega
  have HQ := Lib.hid (show w.heap.size ≤ q ∧ w2.heap.size = q + 1 by omega)
  clear hd hds hb0 hb1 ho2 hs2
  cases hc : LedgerV.place l.dests name with
  | none =>
    have hi : placeI l.dests name = -1 := by unfold placeI; rw [hc]
    rw [hc] at hplace
    have HF := Lib.hid (show l.find name = none from hplace.symm)
    rw [hi] at HPL
    clear hplace hc hi
    go_enter Tryz.func47, Tryz.ntmps47
    go_wp2_with fail
    rw [← hw2, ← hp, ← hq]
    clear hw2 hp hq
    refine HPL.out.mono ?_
    rintro e w3 ⟨rfl, ho3⟩
    have hq3 := ho3.at_ HB.out.2 (fun h => h)
    have HO3 := Lib.hid (HO.out.quiet_trans ho3)
    have HQ3 := Lib.hid hq3
    clear ho3
    have z0 := Heap.cell hq3 0
    have z1 := Heap.cell hq3 1
    have z2 := Heap.cell hq3 2
    have z3 := Heap.cell hq3 3
    have z4 := Heap.cell hq3 4
    have z5 := Heap.cell hq3 5
    have z6 := Heap.cell hq3 6
    have y0 := Heap.frozen hq3 0
    have y1 := Heap.frozen hq3 1
    have y2 := Heap.frozen hq3 2
    have y3 := Heap.frozen hq3 3
    have y4 := Heap.frozen hq3 4
    have y5 := Heap.frozen hq3 5
    have y6 := Heap.frozen hq3 6
    clear hq3
    go_wp2_with fail
    refine bodyPost_ret_by (results_row_tmp' rfl _ _ q _ _ _ _ rfl (box7 HQ3.out _ _ _ _ _ _ _) Tryz.underlying47 rfl sizeDest) rfl ⟨?_, ?_⟩
    · unfold FindOf; rw [HF.out]; rfl
    · have hql := HQ.out.1
      exact (((((((HO3.out.setCell (p := ⟨q, 0, none⟩) (.inr hql) _).setCell (p := ⟨q, 1, none⟩) (.inr hql) _).setCell (p := ⟨q, 2, none⟩) (.inr hql) _).setCell (p := ⟨q, 3, none⟩) (.inr hql) _).setCell (p := ⟨q, 4, none⟩) (.inr hql) _).setCell (p := ⟨q, 5, none⟩) (.inr hql) _).setCell (p := ⟨q, 6, none⟩) (.inr hql) _)
  | some i =>
    have hi : placeI l.dests name = i := by unfold placeI; rw [hc]
    obtain ⟨hil, _⟩ := place_some hc
    rw [hc] at hplace
    have hil2 : i < ds.length := by have := congrArg List.length HD.out.2; rw [List.length_map] at this; omega
    obtain ⟨dp, hdp⟩ : ∃ dp, ds[i]? = some dp := ⟨_, List.getElem?_eq_getElem hil2⟩
    have hdd : l.dests[i]? = some dp.1 := by rw [← HD.out.2, List.getElem?_map, hdp]; rfl
    have HF := Lib.hid (show l.find name = some dp.1 by have h1 : l.dests[i]? = l.find name := hplace; rw [← h1, hdd])
    obtain ⟨dd, av⟩ := dp
    obtain ⟨A, ca, hav⟩ : ∃ A ca, av = .slice A dd.above.length ca := (HD.out.1.each _ (List.mem_of_getElem? hdp)).row.form
    subst hav
    have hdest := HD.out.1.each _ (List.mem_of_getElem? hdp)
    rw [hi] at HPL
    clear hplace hc hi hdd
    obtain ⟨b, off, c, hsv, h1, h2, h3, h4, h5⟩ : ∃ b off c, sv = .slice (some ⟨b, off, none⟩) ds.length c ∧ ds.length ≤ c ∧ c ≤ maxLen ∧ S b ∧ b < w.heap.size ∧ ∀ j u, (destsCells ds)[j]? = some u → w.cell? ⟨b, off + j, none⟩ = some u := by
      rcases HD.out.1.row.2.2 with ⟨_, h0⟩ | h
      · omega
      · exact h
    have hdn := HD.out.1.row.2.1
    obtain ⟨n, hn0⟩ : ∃ n, n = ds.length := ⟨_, rfl⟩
    rw [← hn0] at hsv h1 hil2 hdn
    subst hsv
    have H5 := Lib.hid (SliceAt.dest h5 hdp)
    have HDEST := Lib.hid hdest
    unfold maxLen at h2
    clear h5 hdest hn0 hdp
    have hi0 : (0 : Int) ≤ (i : Int) := by omega
    have hi1 : ¬ ((i : Int) < 0) := by omega
    have hi2 : (i : Int) < (n : Int) := by omega
    go_enter Tryz.func47, Tryz.ntmps47
    go_wp2_with fail
    rw [← hw2, ← hp, ← hq]
    clear hw2 hp hq
    refine HPL.out.mono ?_
    rintro e w3 ⟨rfl, ho3⟩
    have ho03 := HO.out.quiet_trans ho3
    obtain ⟨e0, e1, e2, e3, e4, e5, e6⟩ := H5.out
    have e0 := ho03.stay e0 (fun h => h)
    have e1 := ho03.stay e1 (fun h => h)
    have e2 := ho03.stay e2 (fun h => h)
    have e3 := ho03.stay e3 (fun h => h)
    have e4 := ho03.stay e4 (fun h => h)
    have e5 := ho03.stay e5 (fun h => h)
    have e6 := ho03.stay e6 (fun h => h)
    have k2 := ho3.stay c2 (fun h => h)
    go_wp2_with fail
    have HO03 := Lib.hid ho03
    have HO3 := Lib.hid ho3
    obtain ⟨w4, hw4, ho4, hb4, hs4⟩ := boxed w3 (destCells dd (.slice A dd.above.length ca)).toArray 47
    obtain ⟨r, hr⟩ : ∃ r, r = w3.heap.size := ⟨_, rfl⟩
    rw [← hr] at hb4
    have hrow4 := (HDEST.out.row.quiet ho03).quiet ho4
    have HB4 := Lib.hid hb4
    have HO4 := Lib.hid ho4
    have HR := Lib.hid hr
    clear ho3 ho03 hb4 ho4 hs4 e0 e1 e2 e3 e4 e5 e6 k2
    unfold destCells at hw4 HB4
    rw [← hw4, ← hr]
    clear hw4 hr
    refine (cloneNums_any w4 S _ dd.above hrow4).mono ?_
    rintro e w5 ⟨v, rfl, hown, ho5⟩
    obtain ⟨A5, c5, hv⟩ : ∃ A5 c5, v = .slice A5 dd.above.length c5 := by
      rcases hown.2 with ⟨e, h0⟩ | ⟨g, cap, cur, e, _⟩
      · exact ⟨none, 0, by rw [e, h0]⟩
      · exact ⟨_, _, e⟩
    subst hv
    have hr5 := ho5.at_ HB4.out (fun h => h)
    have hq5 := ho5.at_ (HO4.out.at_ (HO3.out.at_ HB.out.2 (fun h => h)) (fun h => h)) (fun h => h)
    have HO5 := Lib.hid (((HO03.out.quiet_trans HO4.out).quiet_trans ho5))
    have HOWN := Lib.hid hown
    have HR5 := Lib.hid hr5
    have HQ5 := Lib.hid hq5
    have hrq : r ≠ q := by have := HR.out; have := HO3.out.size; have := HQ.out.2; omega
    have hwr : w.heap.size ≤ r := by have := HR.out; have := HO03.out.size; omega
    have z0 := Heap.cell hq5 0
    have y0 := Heap.frozen hq5 0
    have z1 := Heap.cell hq5 1
    have y1 := Heap.frozen hq5 1
    have z2 := Heap.cell hq5 2
    have y2 := Heap.frozen hq5 2
    have z3 := Heap.cell hq5 3
    have y3 := Heap.frozen hq5 3
    have z4 := Heap.cell hq5 4
    have y4 := Heap.frozen hq5 4
    have z5 := Heap.cell hq5 5
    have y5 := Heap.frozen hq5 5
    have z6 := Heap.cell hq5 6
    have y6 := Heap.frozen hq5 6
    have g0 := Heap.cell hr5 0
    have g1 := Heap.cell hr5 1
    have g2 := Heap.cell hr5 2
    have g4 := Heap.cell hr5 4
    have g5 := Heap.cell hr5 5
    have g6 := Heap.cell hr5 6
    have g3 := Heap.cell hr5 3
    have x3 := Heap.frozen hr5 3
    clear hown ho5 hr5 hq5 hrow4
    go_wp2_with fail
    have hq8 : (w5.setCell ⟨r, 3, none⟩ (.slice A5 dd.above.length c5)).heap[q]? = some (.cells zDest 47 (0, 0)) := (Heap.set_far (show q ≠ r by omega) _).trans HQ5.out
    refine bodyPost_ret_by (results_row_tmp' rfl _ _ q _ _ _ _ rfl (box7 hq8 _ _ _ _ _ _ _) Tryz.underlying47 rfl sizeDest) rfl ⟨?_, ?_⟩
    · unfold FindOf
      rw [HF.out]
      refine ⟨.slice A5 dd.above.length c5, rfl, ?_, HDEST.out.small⟩
      have hr4 := Heap.lt HB4.out
      have hq4 : q < w4.heap.size := by have := HQ.out.2; have := HO3.out.size; have := HO4.out.size; omega
      have hw4 : w.heap.size ≤ w4.heap.size := (HO03.out.quiet_trans HO4.out).size
      refine ((SliceAt.of_own (S := fun b => w4.heap.size ≤ b) HOWN.out (by have := HDEST.out.row.2.1; exact this) (fun k hk => (HOWN.out.lt k hk).1)).off (G := fun b => b = r ∨ b = q) (((((((((Off.refl _ w5).setCell (p := ⟨r, 3, none⟩) (.inl (.inl rfl)) _).setCell (p := ⟨q, 0, none⟩) (.inl (.inr rfl)) _).setCell (p := ⟨q, 1, none⟩) (.inl (.inr rfl)) _).setCell (p := ⟨q, 2, none⟩) (.inl (.inr rfl)) _).setCell (p := ⟨q, 3, none⟩) (.inl (.inr rfl)) _).setCell (p := ⟨q, 4, none⟩) (.inl (.inr rfl)) _).setCell (p := ⟨q, 5, none⟩) (.inl (.inr rfl)) _).setCell (p := ⟨q, 6, none⟩) (.inl (.inr rfl)) _) (fun b hb _ h => by rcases h with h | h <;> omega)).mono (fun b hb _ => .inr (by omega))
    · have hql := HQ.out.1
      exact ((((((((HO5.out.setCell (p := ⟨r, 3, none⟩) (.inr hwr) _).setCell (p := ⟨q, 0, none⟩) (.inr hql) _).setCell (p := ⟨q, 1, none⟩) (.inr hql) _).setCell (p := ⟨q, 2, none⟩) (.inr hql) _).setCell (p := ⟨q, 3, none⟩) (.inr hql) _).setCell (p := ⟨q, 4, none⟩) (.inr hql) _).setCell (p := ⟨q, 5, none⟩) (.inr hql) _).setCell (p := ⟨q, 6, none⟩) (.inr hql) _)
end Led
end Go.Proofs.YtndgnlblbjpogaaGreatDoor
namespace Go.Proofs.YtndgnlblbjpogaaGreatDoor
open Go Go.RowKit Go.Shelf
/-- One destination of a slice that is read: its cells, its row. -/
theorem DestsAt.at_ {w : World} {S : Nat → Prop} {A : Option Addr} {n c : Nat} {ds : List DestIn} (h : DestsAt w S (.slice A n c) ds) {i : Nat} (hi : i < n) :
    ∃ b off dd B cb, A = some ⟨b, off, none⟩ ∧ n ≤ c ∧ c ≤ maxLen ∧ n = ds.length ∧ S b ∧ b < w.heap.size ∧ ds[i]? = some (dd, .slice B dd.above.length cb) ∧ DestAt w S (dd, .slice B dd.above.length cb) ∧
      (w.cell? ⟨b, off + i * 7, none⟩ = some (.string dd.name) ∧ w.cell? ⟨b, off + i * 7 + 1, none⟩ = some (.int .u64 dd.since) ∧ w.cell? ⟨b, off + i * 7 + 2, none⟩ = some (.int .u64 dd.low) ∧
      w.cell? ⟨b, off + i * 7 + 3, none⟩ = some (.slice B dd.above.length cb) ∧ w.cell? ⟨b, off + i * 7 + 4, none⟩ = some (.int .u64 dd.acked) ∧ w.cell? ⟨b, off + i * 7 + 5, none⟩ = some (.int .u64 dd.evicted) ∧ w.cell? ⟨b, off + i * 7 + 6, none⟩ = some (.int .u64 dd.rejected)) := by
  rcases h.row.2.2 with ⟨e, h0⟩ | ⟨b, off, c', e, h1, h2, h3, h4, h5⟩
  · cases e; omega
  · cases e
    have hdp : ds[i]? = some ds[i] := List.getElem?_eq_getElem hi
    have hd := h.each _ (List.mem_of_getElem? hdp)
    obtain ⟨B, cb, hB⟩ := hd.row.form
    have hv : ds[i].2 = .slice B ds[i].1.above.length cb := hB
    have hpair : ds[i] = (ds[i].1, .slice B ds[i].1.above.length cb) := Prod.ext rfl hv
    refine ⟨b, off, ds[i].1, B, cb, rfl, h1, h2, rfl, h3, h4, by rw [hdp, ← hpair], by rw [← hpair]; exact hd, ?_⟩
    have := SliceAt.dest h5 hdp
    rw [← hv]
    exact this
namespace Led
set_option maxHeartbeats 1000000 in
set_option maxRecDepth 100000 in
theorem free_any (w : World) (S : Nat → Prop) (lv : Value) (l : LedgerV) (h : LedgerAt w S lv l) :
    Calls Tryz.prog 19 #[lv] w fun e w' => e = .returned (.int .u64 l.free) ∧ Off None w w' := by
  obtain ⟨sv, ds, rfl, hds, hd, hf, hn⟩ := h
  obtain ⟨A, c, hA⟩ : ∃ A c, sv = .slice A ds.length c := by
    rcases hd.row.2.2 with ⟨e, h0⟩ | ⟨b, o, c, e, _⟩
    · exact ⟨none, 0, by rw [e, h0]⟩
    · exact ⟨_, c, e⟩
  have hdn := hd.row.2.1
  obtain ⟨n, hn0⟩ : ∃ n, n = ds.length := ⟨_, rfl⟩
  rw [← hn0] at hA hdn
  subst hA
  have HD := Lib.hid (And.intro hd (And.intro hds hn0))
  obtain ⟨w1, hw1, ho1, hb1, hs1⟩ := boxed w #[.int .u64 l.first, .int .u64 l.next, .slice A n c] 34
  have HO1 := Lib.hid ho1
  clear hd hds hn0 hb1 hs1 ho1
  go_enter Tryz.func19, Tryz.ntmps19
  go_wp2_with fail
  rw [← hw1]
  clear hw1
  go_loopg [3, 11] n (fun gg s3 s11 wr => ∃ (k m g : Nat), g = gg ∧ k + g = n ∧ s11 = .int .i64 k ∧ s3 = .int .u64 m ∧ Off None w wr ∧ Aside (m = (l.dests.take k).foldl (fun n d => min n d.low) l.next))
  case atStart => exact ⟨0, l.next, n, rfl, by omega, rfl, rfl, HO1.out, rfl⟩
  case round =>
    obtain ⟨k, m, g, hgg, hkg, rfl, rfl, ho, I⟩ := hrel
    have HG := Lib.hid hgg; clear hgg
    have HO := Lib.hid ho; clear ho
    by_cases hk : k < n
    · have hdq := HD.out.1.quiet HO.out
      obtain ⟨b, off, dd, B, cb, rfl, h1, h2, h3, h4, h5, h6, h7, e0, e1, e2, e3, e4, e5, e6⟩ := hdq.at_ hk
      have hdk : l.dests[k]? = some dd := by rw [← HD.out.2.1, List.getElem?_map, h6]; rfl
      have HK := Lib.hid hdk
      unfold maxLen at h2
      clear hdq h6 h7 h3 hdk
      go_wp2_with fail
      go_roundg (g - 1)
      case measure => have := HG.out; omega
      case rel =>
        refine ⟨k + 1, min m dd.low, g - 1, rfl, by omega, by go_num, ?_, ?_, ?_⟩
        · exact congrArg _ (by omega)
        · exact HO.out.alloc _
        · have hkl := List.getElem?_eq_some_iff.1 HK.out
          rw [List.take_succ_eq_append_getElem hkl.1, List.foldl_append, ← I.out, hkl.2]
          rfl
    · have hkn : k = n := by omega
      go_wp2_with fail
      go_ret
      refine ⟨?_, HO.out⟩
      unfold LedgerV.free
      have hll : l.dests.length = n := by rw [← HD.out.2.1, List.length_map, HD.out.2.2]
      rw [I.out, hkn, ← hll, List.take_length]
      rfl
theorem box3' {w : World} {b : Nat} {a0 a1 a2 : Value} {t : TypeId} {fr : Nat × Nat} (h : w.heap[b]? = some (.cells #[a0, a1, a2] t fr)) (v0 v1 v2 : Value) :
    (((w.setCell ⟨b, 0, none⟩ v0).setCell ⟨b, 1, none⟩ v1).setCell ⟨b, 2, none⟩ v2).heap[b]? = some (.cells #[v0, v1, v2] t fr) :=
  (Heap.set (Heap.set (Heap.set h 0 v0) 1 v1) 2 v2).trans rfl
theorem off3 {G : Nat → Prop} {w w' : World} {b : Nat} (h : Off G w w') (hb : G b ∨ w.heap.size ≤ b) (v0 v1 v2 : Value) : Off G w (((w'.setCell ⟨b, 0, none⟩ v0).setCell ⟨b, 1, none⟩ v1).setCell ⟨b, 2, none⟩ v2) :=
  ((h.setCell (p := ⟨b, 0, none⟩) hb _).setCell (p := ⟨b, 1, none⟩) hb _).setCell (p := ⟨b, 2, none⟩) hb _
abbrev zLed : Array Value := #[.int .u64 0, .int .u64 0, .slice none 0 0]
theorem own_form {w : World} {base : Nat} {e : TypeId} {size n : Nat} {v : Value} {xs : List Value} (h : w.ownsRow base e size v n xs) : ∃ A c, v = .slice A n c := by
  rcases h.2 with ⟨e, h0⟩ | ⟨g, cap, cur, e, _⟩
  · exact ⟨none, 0, by rw [e, h0]⟩
  · exact ⟨_, _, e⟩
/-- A clone of destinations, in memory. -/
theorem cloned {w w2 w3 w' : World} {S : Nat → Prop} {sv v : Value} {ds : List DestIn} (hd : DestsAt w S sv ds) (hown : w3.ownsRow w2.heap.size 47 7 v ds.length (destsCells ds)) (h3 : Off None w w3) (hw : w.heap.size ≤ w2.heap.size) {G : Nat → Prop} (ho : Off G w3 w')
    (hG : ∀ b, G b → w.heap.size ≤ b ∧ b < w2.heap.size) : DestsAt w' (And_ S w) v ds := by
  refine ⟨((SliceAt.of_own (S := fun b => w2.heap.size ≤ b) hown hd.row.2.1 (fun k hk => (hown.lt k hk).1)).off ho (fun b hb _ h => ?_)).mono (fun b hb _ => .inr (by omega)), fun p hp => ?_⟩
  · have := hG b h; omega
  · have h0 : Off (fun b => w.heap.size ≤ b) w w' := h3.trans (ho.mono (fun b _ h => h)) (fun b hb h => by have := hG b h; omega) |>.mono (fun b hb h => h.elim)
    refine ⟨?_, (hd.each p hp).small⟩
    refine SliceAt.mono (S := fun b => S b ∧ b < w.heap.size) ?_ (fun b hb _ => .inl hb.1)
    exact ((hd.each p hp).row.mono (fun b hb hlt => ⟨hb, hlt⟩)).off h0 (fun b hb _ h => by omega)
set_option maxHeartbeats 1000000 in
set_option maxRecDepth 100000 in
theorem add_any (w : World) (S : Nat → Prop) (lv : Value) (l : LedgerV) (h : LedgerAt w S lv l) (hnx : l.next + 1 ≤ big) :
    Calls Tryz.prog 59 #[lv] w fun e w' => ∃ lv', e = .returned lv' ∧ LedgerAt w' (And_ S w) lv' l.add ∧ Off None w w' := by
  obtain ⟨sv, ds, rfl, hds, hd, hf, hn⟩ := h
  obtain ⟨A, c, hA⟩ := hd.row.form
  obtain ⟨n, hn0⟩ : ∃ n, n = ds.length := ⟨_, rfl⟩
  rw [← hn0] at hA
  subst hA
  obtain ⟨w2, q, hw2, hq, ho2, hb0, hb1, hs2⟩ := two_boxes w #[.int .u64 l.first, .int .u64 ((l.next : Int) + 1), .slice A n c] zLed 34 34
  obtain ⟨p, hp⟩ : ∃ p, p = w.heap.size := ⟨_, rfl⟩
  rw [← hp] at hb0 hq
  have hlt : p < w2.heap.size := by omega
  have hpq : p ≠ q := by omega
  have HQ := Lib.hid (show w.heap.size ≤ p ∧ w.heap.size ≤ q ∧ q < w2.heap.size by omega)
  have HB := Lib.hid (And.intro hb0 hb1)
  have HO := Lib.hid ho2
  have HD := Lib.hid (And.intro hd (And.intro hds hn0))
  clear hd hds hn0 ho2 hs2 hb0 hb1
  unfold big at hnx hf hn
  go_enter Tryz.func59, Tryz.ntmps59
  go_wp2_with fail
  rw [← hw2, ← hp, ← hq]
  clear hw2 hp hq
  have hd2 := HD.out.1.quiet HO.out
  refine (clone_any w2 S _ ds hd2).mono ?_
  rintro e w3 ⟨v, rfl, hown, ho3⟩
  obtain ⟨A3, c3, hv⟩ := own_form hown
  have hn3 := HD.out.2.2
  rw [← hn3] at hv
  subst hv
  have hp3 := ho3.at_ HB.out.1 (fun h => h)
  have hq3 := ho3.at_ HB.out.2 (fun h => h)
  have HO3 := Lib.hid (HO.out.quiet_trans ho3)
  have HOWN := Lib.hid hown
  have HQ3 := Lib.hid hq3
  have e0 := Heap.cell hp3 0
  have e1 := Heap.cell hp3 1
  have e2 := Heap.cell hp3 2
  have x2 := Heap.frozen hp3 2
  have z0 := Heap.cell hq3 0
  have z1 := Heap.cell hq3 1
  have z2 := Heap.cell hq3 2
  have y0 := Heap.frozen hq3 0
  have y1 := Heap.frozen hq3 1
  have y2 := Heap.frozen hq3 2
  clear hd2 hown ho3 hn3 hp3 hq3
  go_wp2_with fail
  have hq8 : (w3.setCell ⟨p, 2, none⟩ (.slice A3 n c3)).heap[q]? = some (.cells zLed 34 (0, 0)) := (Heap.set_far (show q ≠ p by omega) _).trans HQ3.out
  refine bodyPost_ret_by (results_cell_row rfl _ _ q _ _ _ _ rfl (box3' hq8 _ _ _) Tryz.underlying34 rfl infoLed) rfl ⟨_, rfl, ?_, ?_⟩
  · refine ⟨.slice A3 n c3, ds, ?_, HD.out.2.1, ?_, hf, hnx⟩
    · show Value.agg #[.int .u64 l.first, .int .u64 ((l.next : Int) + 1), _] = .agg #[_, .int .u64 ((l.next + 1 : Nat) : Int), _]
      rw [show ((l.next + 1 : Nat) : Int) = (l.next : Int) + 1 by omega]
      rfl
    · exact cloned HD.out.1 HOWN.out HO3.out (HO.out.size) (G := fun b => b = p ∨ b = q) (off3 ((Off.refl _ w3).setCell (p := ⟨p, 2, none⟩) (.inl (.inl rfl)) _) (.inl (.inr rfl)) _ _ _) (fun b hb => by have := HQ.out; rcases hb with rfl | rfl <;> omega)
  · exact off3 (HO3.out.setCell (p := ⟨p, 2, none⟩) (.inr HQ.out.1) _) (.inr HQ.out.2.1) _ _ _
end Led
end Go.Proofs.YtndgnlblbjpogaaGreatDoor
