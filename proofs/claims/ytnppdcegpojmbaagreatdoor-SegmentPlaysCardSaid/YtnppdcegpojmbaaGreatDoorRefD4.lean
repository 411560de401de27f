/- The reference's disk: its plain form, how it lies in memory, and the walks of its small functions. · The reference's disk: a file's row turned, rows of names; the walks of without, Name, New, Read, Used. · The reference's disk: the walks of Name, New, Read, Fail, Stop, Used, SyncDir. · The reference's disk: the walks of Used, Sync, Cut. -/
import Derived.Test.YtnppdcegpojmbaaGreatDoorDisk9
import Derived.Test.YtnppdcegpojmbaaGreatDoorPlain7
import Derived.Deep.QuietTactic
import Derived.BigQuiet
import Derived.Test.YtnppdcegpojmbaaGreatDoorStop
import Derived.Test.YtnppdcegpojmbaaGreatDoorSeg9
namespace Go.Proofs.YtnppdcegpojmbaaGreatDoor
open Go Go.RowKit
structure RefV where
  room : Int
  files : List (List ByteArray)
  dirs : List (List (ByteArray × Nat))
  ops : Int
  fail : Int
  left : Int
namespace RefV
def dir (X : RefV) : List (ByteArray × Nat) := X.dirs.getLast?.getD []
def numIn (l : List (ByteArray × Nat)) (name : ByteArray) : Int := match l.find? (fun p => decide (p.1.data.toList = name.data.toList)) with | some p => p.2 | none => -1
def number (X : RefV) (name : ByteArray) : Int := numIn X.dir name
def nowAt (X : RefV) (n : Nat) : ByteArray := ((X.files[n]?.getD []).getLast?).getD ByteArray.empty
def begin (X : RefV) : RefV × Bool := if X.left = 0 then (X, false) else ({ X with left := if 0 < X.left then X.left - 1 else X.left, ops := wrap64 (X.ops + 1) }, true)
def fails (X : RefV) : RefV × Bool := if X.fail = 0 then (X, false) else ({ X with fail := X.fail - 1 }, decide (X.fail = 1))
def without (l : List (ByteArray × Nat)) (name : ByteArray) : List (ByteArray × Nat) := l.filter (fun p => decide (p.1.data.toList ≠ name.data.toList))
structure Wf (X : RefV) : Prop where
  room : 0 ≤ X.room ∧ X.room ≤ 9223372036854775807
  ops : -9223372036854775808 ≤ X.ops ∧ X.ops ≤ 9223372036854775807
  fail : 0 ≤ X.fail ∧ X.fail ≤ 9223372036854775807
  left : -1 ≤ X.left ∧ X.left ≤ 9223372036854775807
  dirs : X.dirs ≠ []
  names : ∀ l ∈ X.dirs, ∀ p ∈ l, p.2 < X.files.length
  files : ∀ r ∈ X.files, r ≠ []
end RefV
structure RefRep where
  fv : Value
  dv : Value
  fs : List Value
  ds : List Value
  role : Nat → Nat
def refCells (X : RefV) (R : RefRep) : Array Value := #[.int .i64 X.room, R.fv, R.dv, .int .i64 X.ops, .int .i64 X.fail, .int .i64 X.left]
def namedCells (p : ByteArray × Nat) : List Value := [.string p.1, .int .i64 p.2]
def textCells (l : List ByteArray) : List Value := l.map Value.string
structure RefAt (w : World) (r : Nat) (X : RefV) (R : RefRep) : Prop where
  wf : X.Wf
  core : w.heap[r]? = some (.cells (refCells X R) 112 (0, 0))
  frow : w.ownsRow 0 22 1 R.fv X.files.length R.fs
  drow : w.ownsRow 0 122 1 R.dv X.dirs.length R.ds
  files : ∀ (i : Nat) row, X.files[i]? = some row → ∃ v, R.fs[i]? = some v ∧ w.ownsRow 0 9 1 v row.length (textCells row) ∧ ∀ k, v.ownBlock = some k → R.role k = 6 + i
  dirs : ∀ (i : Nat) l, X.dirs[i]? = some l → ∃ v, R.ds[i]? = some v ∧ w.ownsRow 0 126 2 v l.length (l.flatMap namedCells) ∧ ∀ k, v.ownBlock = some k → R.role k = 5
  rD : R.role r = 1
  rF : ∀ k, R.fv.ownBlock = some k → R.role k = 3
  rV : ∀ k, R.dv.ownBlock = some k → R.role k = 4
  old : ∀ b, R.role b ≠ 0 → b < w.heap.size
def RefIn (w : World) (r : Nat) (X : RefV) (F : Nat → Prop) : Prop := ∃ R, RefAt w r X R ∧ ∀ b, R.role b ≠ 0 → F b
theorem RefAt.off {G : Nat → Prop} {w w' : World} {r : Nat} {X : RefV} {R : RefRep} (h : RefAt w r X R) (ho : Off G w w') (hG : ∀ b, R.role b ≠ 0 → ¬ G b) : RefAt w' r X R where
  wf := h.wf
  core := ho.at_ h.core (hG r (by rw [h.rD]; omega))
  frow := ho.row h.frow (fun k hk => hG k (by rw [h.rF k hk]; omega))
  drow := ho.row h.drow (fun k hk => hG k (by rw [h.rV k hk]; omega))
  files := fun i row hi => by
    obtain ⟨v, h1, h2, h3⟩ := h.files i row hi
    exact ⟨v, h1, ho.row h2 (fun k hk => hG k (by rw [h3 k hk]; omega)), h3⟩
  dirs := fun i l hi => by
    obtain ⟨v, h1, h2, h3⟩ := h.dirs i l hi
    exact ⟨v, h1, ho.row h2 (fun k hk => hG k (by rw [h3 k hk]; omega)), h3⟩
  rD := h.rD
  rF := h.rF
  rV := h.rV
  old := fun b hb => Nat.lt_of_lt_of_le (h.old b hb) ho.size
/-- The disk's own block has turned, numbers alone. -/
theorem RefAt.core' {w w' : World} {r : Nat} {X X' : RefV} {R : RefRep} (h : RefAt w r X R) (ho : Off (Only r) w w') (hc : w'.heap[r]? = some (.cells (refCells X' R) 112 (0, 0))) (hw : X'.Wf) (hf : X'.files = X.files) (hd : X'.dirs = X.dirs) : RefAt w' r X' R where
  wf := hw
  core := hc
  frow := by rw [hf]; exact ho.row h.frow (fun k hk e => by have h1 := h.rF k hk; have h2 := h.rD; rw [show k = r from e] at h1; omega)
  drow := by rw [hd]; exact ho.row h.drow (fun k hk e => by have h1 := h.rV k hk; have h2 := h.rD; rw [show k = r from e] at h1; omega)
  files := fun i row hi => by
    rw [hf] at hi
    obtain ⟨v, h1, h2, h3⟩ := h.files i row hi
    exact ⟨v, h1, ho.row h2 (fun k hk e => by have h1 := h3 k hk; have h2 := h.rD; rw [show k = r from e] at h1; omega), h3⟩
  dirs := fun i l hi => by
    rw [hd] at hi
    obtain ⟨v, h1, h2, h3⟩ := h.dirs i l hi
    exact ⟨v, h1, ho.row h2 (fun k hk e => by have h1 := h3 k hk; have h2 := h.rD; rw [show k = r from e] at h1; omega), h3⟩
  rD := h.rD
  rF := h.rF
  rV := h.rV
  old := fun b hb => Nat.lt_of_lt_of_le (h.old b hb) ho.size
theorem own_shape {w : World} {base : Nat} {e : TypeId} {size : Nat} {v : Value} {n : Nat} {xs : List Value} (h : w.ownsRow base e size v n xs) : ∃ p c, v = .slice p n c := by
  obtain ⟨_, ⟨rfl, h0⟩ | ⟨g, cap, cur, rfl, _⟩⟩ := h
  · exact ⟨none, 0, by rw [h0]⟩
  · exact ⟨_, _, rfl⟩
theorem own_cell {w : World} {base : Nat} {e : TypeId} {size : Nat} {v : Value} {n : Nat} {xs : List Value} (h : w.ownsRow base e size v n xs) (hn : 0 < n) :
    ∃ g c, v = .slice (some ⟨g, 0, none⟩) n c ∧ g < w.heap.size ∧ n ≤ c ∧ c ≤ 9223372036854775807 ∧ v.ownBlock = some g ∧ ∀ (i : Nat) u, xs[i]? = some u → w.cell? ⟨g, i, none⟩ = some u ∧ w.frozen? ⟨g, i, none⟩ = false := by
  obtain ⟨hl, ⟨_, h0⟩ | ⟨g, cap, cur, rfl, _, hb, hle, hmx, hsz, ht⟩⟩ := h
  · omega
  · have hmx2 : cap ≤ 2 ^ 63 - 1 := hmx
    refine ⟨g, cap, rfl, Heap.lt hb, hle, by omega, rfl, fun i u hu => ⟨?_, Heap.frozen hb i⟩⟩
    have hi : i < n * size := by rw [← hl]; exact (List.getElem?_eq_some_iff.1 hu).1
    rw [Heap.cell hb, ← Array.getElem?_toList, ← List.getElem?_take_of_lt hi, ht]
    exact hu
theorem named_cells (l : List (ByteArray × Nat)) {i : Nat} (hi : i < l.length) : (l.flatMap namedCells)[i * 2]? = some (.string l[i].1) ∧ (l.flatMap namedCells)[i * 2 + 1]? = some (.int .i64 l[i].2) := by
  induction l generalizing i with
  | nil => exact absurd hi (by simp)
  | cons p r ih =>
    rw [List.flatMap_cons]
    have hl : (namedCells p).length = 2 := rfl
    cases i with
    | zero => exact ⟨rfl, rfl⟩
    | succ i =>
      rw [List.getElem?_append_right (by omega), List.getElem?_append_right (by omega), hl, show (i + 1) * 2 - 2 = i * 2 by omega, show (i + 1) * 2 + 1 - 2 = i * 2 + 1 by omega]
      exact ih (by simpa using hi)
namespace RefW
variable {w : World} {r : Nat} {X : RefV} {R : RefRep}
/-- The last row of names. -/
theorem last_dir (h : RefAt w r X R) : ∃ v, R.ds[X.dirs.length - 1]? = some v ∧ w.ownsRow 0 126 2 v X.dir.length (X.dir.flatMap namedCells) ∧ (∀ k, v.ownBlock = some k → R.role k = 5) ∧ ∀ p ∈ X.dir, p.2 < X.files.length := by
  have hp := List.length_pos_iff.2 h.wf.dirs
  have hl : X.dirs[X.dirs.length - 1]? = some X.dir := by
    rw [← List.getLast?_eq_getElem?]
    unfold RefV.dir
    cases hx : X.dirs.getLast? with
    | none => rw [List.getLast?_eq_none_iff] at hx; exact absurd hx h.wf.dirs
    | some l => rfl
  obtain ⟨v, h1, h2, h3⟩ := h.dirs _ _ hl
  exact ⟨v, h1, h2, h3, h.wf.names _ (List.mem_of_getElem? hl)⟩
set_option maxRecDepth 100000 in
theorem dir_any (w : World) (r : Nat) (X : RefV) (R : RefRep) (h : RefAt w r X R) :
    Calls Tryz.prog 66 #[.pointer (some ⟨r, 0, none⟩)] w fun e w' => ∃ v, e = .returned v ∧ R.ds[X.dirs.length - 1]? = some v ∧ w.ownsRow 0 126 2 v X.dir.length (X.dir.flatMap namedCells) ∧ (∀ k, v.ownBlock = some k → R.role k = 5) ∧ Off None w w' := by
  have c2 : w.cell? ⟨r, 2, none⟩ = some R.dv := Heap.cell h.core 2
  have hp := List.length_pos_iff.2 h.wf.dirs
  obtain ⟨v, h1, h2, h3, _⟩ := last_dir h
  obtain ⟨g, c, hdv, _, hle, hmx, _, hcell⟩ := own_cell h.drow hp
  have c3 := (hcell _ _ h1).1
  rw [hdv] at c2
  obtain ⟨m, hm⟩ : ∃ m, m = X.dirs.length := ⟨_, rfl⟩
  rw [← hm] at c2 c3 hp hle
  have H1 := Lib.hid h1; have H2 := Lib.hid h2; have H3 := Lib.hid h3
  clear h h1 h2 h3 hdv hcell hm
  have i0 : (0 : Int) ≤ (m : Int) - 1 := by omega
  have i1 : (m : Int) - 1 < (m : Int) := by omega
  have i2 : IntKind.i64.wrap ((m : Int) - 1) = (m : Int) - 1 := IntWalk.i64_in _ (by omega)
  have i3 : ((m : Int) - 1).toNat = m - 1 := by omega
  go_enter Tryz.func66, Tryz.ntmps66
  go_wp2
  go_quiet (fail)
  go_wp2
  go_ret
  exact ⟨v, rfl, H1.out, H2.out, H3.out, (Off.refl None w).drewN nq⟩
theorem numIn_step {l : List (ByteArray × Nat)} {name : ByteArray} {j : Nat} (hj : j < l.length) (hno : ∀ i (hi : i < l.length), i < j → l[i].1.data.toList ≠ name.data.toList) (he : l[j].1.data.toList = name.data.toList) : RefV.numIn l name = (l[j].2 : Int) := by
  unfold RefV.numIn
  induction l generalizing j with
  | nil => exact absurd hj (by simp)
  | cons p r ih =>
    rw [List.find?_cons]
    cases j with
    | zero =>
      have he : p.1.data.toList = name.data.toList := he
      rw [decide_eq_true he]
      rfl
    | succ j =>
      have h0 : p.1.data.toList ≠ name.data.toList := hno 0 (by simp) (by omega)
      rw [decide_eq_false h0]
      exact ih (j := j) (by simpa using hj) (fun i hi hij => hno (i + 1) (by simpa using hi) (by omega)) he
theorem numIn_none {l : List (ByteArray × Nat)} {name : ByteArray} (hno : ∀ i (hi : i < l.length), l[i].1.data.toList ≠ name.data.toList) : RefV.numIn l name = -1 := by
  unfold RefV.numIn
  rw [List.find?_eq_none.2 (fun p hp => by
    obtain ⟨i, hi, rfl⟩ := List.mem_iff_getElem.1 hp
    simpa using hno i hi)]
set_option maxHeartbeats 1000000 in
set_option maxRecDepth 100000 in
theorem number_any (w : World) (r : Nat) (X : RefV) (R : RefRep) (h : RefAt w r X R) (name : ByteArray) :
    Calls Tryz.prog 64 #[.pointer (some ⟨r, 0, none⟩), .string name] w fun e w' => e = .returned (.int .i64 (X.number name)) ∧ Off None w w' := by
  have hd := dir_any w r X R h
  obtain ⟨_, _, _, _, hlt⟩ := last_dir h
  obtain ⟨l, hl⟩ : ∃ l, l = X.dir := ⟨_, rfl⟩
  have hnum : X.number name = RefV.numIn l name := by rw [hl]; rfl
  rw [← hl] at hd hlt
  rw [hnum]
  have HD := Lib.hid hd; have HLT := Lib.hid hlt
  obtain ⟨res, hres⟩ : ∃ res, res = RefV.numIn l name := ⟨_, rfl⟩
  rw [← hres]
  have HRES := Lib.hid hres
  clear hd h hl hnum hres hlt
  go_enter Tryz.func64, Tryz.ntmps64
  go_wp2_with fail
  refine HD.out.mono ?_
  rintro e w1 ⟨v, rfl, _, hrow, _, ho1⟩
  obtain ⟨p, c, rfl⟩ := own_shape hrow
  have hll : l.length ≤ 9223372036854775807 := by
    rcases Nat.eq_zero_or_pos l.length with h0 | h0
    · omega
    · obtain ⟨g, c', _, _, h1, h2, _⟩ := own_cell hrow h0
      omega
  have hcell : ∀ i (hi : i < l.length), ∃ g, p = some ⟨g, 0, none⟩ ∧ w1.cell? ⟨g, i * 2, none⟩ = some (.string l[i].1) ∧ w1.cell? ⟨g, i * 2 + 1, none⟩ = some (.int .i64 l[i].2) := by
    intro i hi
    obtain ⟨g, c', hv, _, _, _, _, hc⟩ := own_cell hrow (by omega)
    cases hv
    have hn := named_cells l hi
    exact ⟨g, rfl, ho1.keep (hc _ _ hn.1).1 (fun h => h), ho1.keep (hc _ _ hn.2).1 (fun h => h)⟩
  have HC := Lib.hid hcell; have HO1 := Lib.hid ho1
  clear hrow hcell ho1 HD
  go_wp2_with fail
  go_loop [6] (fun i => ∃ j : Nat, j ≤ l.length ∧ i = .int .i64 j ∧ Aside (∀ i (hi : i < l.length), i < j → l[i].1.data.toList ≠ name.data.toList)) (fun i => l.length - (intOf i).toNat)
  case atStart => exact ⟨0, Nat.zero_le _, rfl, fun i hi h => absurd h (by omega)⟩
  case round =>
    obtain ⟨j, hj, rfl, A⟩ := hrel
    by_cases hlt : j < l.length
    · obtain ⟨g, hp, d0, d1⟩ := HC.out j hlt
      subst hp
      obtain ⟨x, hx⟩ : ∃ x, x = l[j].1 := ⟨_, rfl⟩
      rw [← hx] at d0
      have i0 : (0 : Int) ≤ (j : Int) := by omega
      have i1 : (j : Int) < (l.length : Int) := by omega
      by_cases he : x.data.toList = name.data.toList
      · have e1 : (x.toList == name.toList) = true := by rw [Heap.toList_data, Heap.toList_data, he]; simp
        have hr : res = (l[j].2 : Int) := by rw [HRES.out]; exact numIn_step hlt A.out (by rw [← hx]; exact he)
        have HR := Lib.hid hr
        clear hr A he hx
        go_wp2
        all_goals try (rename_i h; rw [e1] at h; cases h)
        all_goals try (rename_i h _ _; rw [e1] at h; cases h)
        go_ret
        exact ⟨by rw [HR.out]; rfl, HO1.out⟩
      · have e1 : (x.toList == name.toList) = false := by rw [Heap.toList_data, Heap.toList_data]; simpa using he
        have hn : ∀ i (hi : i < l.length), i < j + 1 → l[i].1.data.toList ≠ name.data.toList := fun i hi h => by
          rcases Nat.lt_or_ge i j with h1 | h1
          · exact A.out i hi h1
          · obtain rfl : i = j := by omega
            rw [← hx]; exact he
        have HN := Lib.hid hn
        clear hn A he hx
        go_wp2
        all_goals try (rename_i h; rw [e1] at h; cases h)
        all_goals try (rename_i h _ _; rw [e1] at h; cases h)
        case roundEnd => exact ⟨⟨j + 1, hlt, by go_num, HN.out⟩, by simp [intOf]; omega⟩
    · have i1 : ¬ (j : Int) < (l.length : Int) := by omega
      have hr : res = -1 := by rw [HRES.out]; exact numIn_none (fun i hi => A.out i hi (by omega))
      have HR := Lib.hid hr
      clear hr A
      go_wp2
      go_ret
      exact ⟨by rw [HR.out]; rfl, HO1.out⟩
set_option maxRecDepth 100000 in
theorem now_any (w : World) (r : Nat) (X : RefV) (R : RefRep) (h : RefAt w r X R) (n : Nat) (hn : n < X.files.length) :
    Calls Tryz.prog 71 #[.pointer (some ⟨r, 0, none⟩), .int .i64 n] w fun e w' => e = .returned (.string (X.nowAt n)) ∧ Off None w w' := by
  have c1 : w.cell? ⟨r, 1, none⟩ = some R.fv := Heap.cell h.core 1
  obtain ⟨g, c, hfv, _, hle, hmx, _, hcell⟩ := own_cell h.frow (by omega)
  obtain ⟨v, h1, h2, _⟩ := h.files n _ (List.getElem?_eq_getElem hn)
  obtain ⟨row, hrw⟩ : ∃ row, row = X.files[n] := ⟨_, rfl⟩
  rw [← hrw] at h2
  have hp : 0 < row.length := List.length_pos_iff.2 (by rw [hrw]; exact h.wf.files _ (List.getElem_mem hn))
  obtain ⟨g2, c2, hv, _, hle2, hmx2, _, hcell2⟩ := own_cell h2 hp
  have hnow : X.nowAt n = row[row.length - 1]'(by omega) := by
    unfold RefV.nowAt
    rw [List.getElem?_eq_getElem hn, ← hrw, Option.getD_some, List.getLast?_eq_getElem?, List.getElem?_eq_getElem (by omega)]
    rfl
  have d1 := (hcell n _ h1).1
  have d2 := (hcell2 (row.length - 1) (.string (X.nowAt n)) (by unfold textCells; rw [List.getElem?_map, List.getElem?_eq_getElem (by omega), hnow]; rfl)).1
  rw [hfv] at c1
  rw [hv] at d1
  obtain ⟨m, hm⟩ : ∃ m, m = row.length := ⟨_, rfl⟩
  obtain ⟨k, hk⟩ : ∃ k, k = X.files.length := ⟨_, rfl⟩
  obtain ⟨t, ht⟩ : ∃ t, t = X.nowAt n := ⟨_, rfl⟩
  rw [← hm] at d1 d2 hp hle2
  rw [← hk] at c1 hn hle
  rw [← ht] at d2 ⊢
  clear h h1 h2 hfv hv hcell hcell2 hnow hm hk ht hrw
  have i0 : (0 : Int) ≤ (m : Int) - 1 := by omega
  have i1 : (m : Int) - 1 < (m : Int) := by omega
  have i2 : IntKind.i64.wrap ((m : Int) - 1) = (m : Int) - 1 := IntWalk.i64_in _ (by omega)
  have i3 : ((m : Int) - 1).toNat = m - 1 := by omega
  have i4 : (0 : Int) ≤ (n : Int) := by omega
  have i5 : (n : Int) < (k : Int) := by omega
  go_enter Tryz.func71, Tryz.ntmps71
  go_wp2
  go_quiet (fail)
  go_wp2
  go_ret
  exact ⟨rfl, (Off.refl None w).drewN nq⟩
theorem begin_wf (h : X.Wf) : X.begin.1.Wf := by
  unfold RefV.begin
  split
  · exact h
  · have h1 := h.left
    refine ⟨h.room, ?_, h.fail, ?_, h.dirs, h.names, h.files⟩
    · show -9223372036854775808 ≤ wrap64 (X.ops + 1) ∧ wrap64 (X.ops + 1) ≤ 9223372036854775807
      unfold wrap64
      omega
    · show -1 ≤ (if 0 < X.left then X.left - 1 else X.left) ∧ (if 0 < X.left then X.left - 1 else X.left) ≤ 9223372036854775807
      split <;> omega
set_option maxRecDepth 100000 in
theorem begin_any (w : World) (r : Nat) (X : RefV) (R : RefRep) (h : RefAt w r X R) :
    Calls Tryz.prog 62 #[.pointer (some ⟨r, 0, none⟩)] w fun e w' => e = .returned (.bool X.begin.2) ∧ RefAt w' r X.begin.1 R ∧ Off (Only r) w w' := by
  have c3 : w.cell? ⟨r, 3, none⟩ = some (.int .i64 X.ops) := Heap.cell h.core 3
  have c5 : w.cell? ⟨r, 5, none⟩ = some (.int .i64 X.left) := Heap.cell h.core 5
  have f3 : w.frozen? ⟨r, 3, none⟩ = false := Heap.frozen h.core 3
  have f5 : w.frozen? ⟨r, 5, none⟩ = false := Heap.frozen h.core 5
  have hl := h.wf.left
  have H := Lib.hid h; clear h
  rcases Int.lt_trichotomy X.left 0 with hlt | heq | hgt
  · have t1 : (X.left == 0) = false := by rw [beq_eq_false_iff_ne]; omega
    have t2 : ¬ 0 < X.left := by omega
    have e : X.begin = ({ X with left := X.left, ops := wrap64 (X.ops + 1) }, true) := by unfold RefV.begin; rw [if_neg (by omega), if_neg t2]
    have E := Lib.hid e; clear e
    go_enter Tryz.func62, Tryz.ntmps62
    go_wp2
    go_ret
    have hw := begin_wf H.out.wf
    rw [E.out] at hw ⊢
    have ho : Off (Only r) w (w.setCell ⟨r, 3, none⟩ (.int .i64 (wrap64 (X.ops + 1)))) := (Off.refl _ _).set 3 _
    exact ⟨rfl, H.out.core' ho ((Heap.set H.out.core 3 _).trans rfl) hw rfl rfl, ho⟩
  · have t1 : (X.left == 0) = true := by rw [beq_iff_eq]; omega
    have e : X.begin = (X, false) := by unfold RefV.begin; rw [if_pos (by omega)]
    have E := Lib.hid e; clear e heq
    go_enter Tryz.func62, Tryz.ntmps62
    go_wp2
    go_ret
    rw [E.out]
    exact ⟨rfl, H.out, Off.refl _ _⟩
  · have t1 : (X.left == 0) = false := by rw [beq_eq_false_iff_ne]; omega
    have e : X.begin = ({ X with left := X.left - 1, ops := wrap64 (X.ops + 1) }, true) := by unfold RefV.begin; rw [if_neg (by omega), if_pos hgt]
    have E := Lib.hid e; clear e
    go_enter Tryz.func62, Tryz.ntmps62
    go_wp2
    go_ret
    have hw := begin_wf H.out.wf
    rw [E.out] at hw ⊢
    have ho : Off (Only r) w ((w.setCell ⟨r, 5, none⟩ (.int .i64 (X.left - 1))).setCell ⟨r, 3, none⟩ (.int .i64 (wrap64 (X.ops + 1)))) := ((Off.refl _ _).set 5 _).set 3 _
    exact ⟨rfl, H.out.core' ho ((Heap.set (Heap.set H.out.core 5 _) 3 _).trans rfl) hw rfl rfl, ho⟩
theorem fails_wf (h : X.Wf) : X.fails.1.Wf := by
  unfold RefV.fails
  split
  · exact h
  · have := h.fail
    exact ⟨h.room, h.ops, ⟨by show 0 ≤ X.fail - 1; omega, by show X.fail - 1 ≤ _; omega⟩, h.left, h.dirs, h.names, h.files⟩
set_option maxRecDepth 100000 in
theorem fails_any (w : World) (r : Nat) (X : RefV) (R : RefRep) (h : RefAt w r X R) :
    Calls Tryz.prog 70 #[.pointer (some ⟨r, 0, none⟩)] w fun e w' => e = .returned (.bool X.fails.2) ∧ RefAt w' r X.fails.1 R ∧ Off (Only r) w w' := by
  have c4 : w.cell? ⟨r, 4, none⟩ = some (.int .i64 X.fail) := Heap.cell h.core 4
  have f4 : w.frozen? ⟨r, 4, none⟩ = false := Heap.frozen h.core 4
  have hl := h.wf.fail
  have H := Lib.hid h; clear h
  by_cases hz : X.fail = 0
  · have t1 : (X.fail == 0) = true := by rw [beq_iff_eq]; omega
    have e : X.fails = (X, false) := by unfold RefV.fails; rw [if_pos hz]
    have E := Lib.hid e; clear e hz
    go_enter Tryz.func70, Tryz.ntmps70
    go_wp2
    go_ret
    rw [E.out]
    exact ⟨rfl, H.out, Off.refl _ _⟩
  · have t1 : (X.fail == 0) = false := by rw [beq_eq_false_iff_ne]; exact hz
    have e : X.fails = ({ X with fail := X.fail - 1 }, decide (X.fail = 1)) := by unfold RefV.fails; rw [if_neg hz]
    have E := Lib.hid e; clear e
    go_enter Tryz.func70, Tryz.ntmps70
    go_wp2
    go_ret
    have hw := fails_wf H.out.wf
    rw [E.out] at hw ⊢
    have ho : Off (Only r) w (w.setCell ⟨r, 4, none⟩ (.int .i64 (X.fail - 1))) := (Off.refl _ _).set 4 _
    refine ⟨?_, H.out.core' ho ((Heap.set H.out.core 4 _).trans rfl) hw rfl rfl, ho⟩
    show Ending.returned (.bool (X.fail - 1 == 0)) = _
    congr 2
    rw [Bool.eq_iff_iff, beq_iff_eq, decide_eq_true_eq]
    omega
end RefW
end Go.Proofs.YtnppdcegpojmbaaGreatDoor
namespace Go.Proofs.YtnppdcegpojmbaaGreatDoor
open Go Go.RowKit
/-- A file's row has turned, or is a new one. -/
theorem RefAt.setFile {w w' : World} {r : Nat} {X : RefV} {R : RefRep} (h : RefAt w r X R) (i : Nat) (row' : List ByteArray) (v' : Value)
    (ho : Off (fun k => R.fv.ownBlock = some k ∨ ∃ v, R.fs[i]? = some v ∧ v.ownBlock = some k) w w') (hi : i < X.files.length) (hf : w'.ownsRow 0 22 1 R.fv X.files.length (R.fs.set i v')) (hv : w'.ownsRow 0 9 1 v' row'.length (textCells row'))
    (hb : ∀ k, v'.ownBlock = some k → (∃ v, R.fs[i]? = some v ∧ v.ownBlock = some k) ∨ w.heap.size ≤ k) (hne : row' ≠ []) :
    RefAt w' r { X with files := X.files.set i row' } { R with fs := R.fs.set i v', role := fun k => if k < w.heap.size then R.role k else if v'.ownBlock = some k then 6 + i else 0 } := by
  have hro : ∀ k, R.role k ≠ 0 → (if k < w.heap.size then R.role k else if v'.ownBlock = some k then 6 + i else 0) = R.role k := fun k hk => if_pos (h.old k hk)
  have hfsi : ∀ v, R.fs[i]? = some v → ∀ k, v.ownBlock = some k → R.role k = 6 + i := fun v hv k hk => by
    obtain ⟨v2, g1, _, g3⟩ := h.files i _ (List.getElem?_eq_getElem hi)
    rw [hv] at g1
    cases g1
    exact g3 k hk
  have far : ∀ k, R.role k ≠ 0 → R.role k ≠ 3 → R.role k ≠ 6 + i → ¬ (R.fv.ownBlock = some k ∨ ∃ v, R.fs[i]? = some v ∧ v.ownBlock = some k) := by
    rintro k h0 h1 h2 (hk | ⟨v, hv, hk⟩)
    · exact h1 (h.rF k hk)
    · exact h2 (hfsi v hv k hk)
  have hfl : (X.files.set i row').length = X.files.length := List.length_set
  have hfs : R.fs.length = X.files.length := by have := h.frow.1; omega
  refine { wf := ⟨h.wf.room, h.wf.ops, h.wf.fail, h.wf.left, h.wf.dirs, fun l hl p hp => by show _ < (X.files.set i row').length; rw [hfl]; exact h.wf.names l hl p hp, fun x hx => ?_⟩, core := ho.at_ h.core (far r (by rw [h.rD]; omega) (by rw [h.rD]; omega) (by rw [h.rD]; omega)), frow := ?_, drow := ?_, files := ?_, dirs := ?_, rD := ?_, rF := ?_, rV := ?_, old := ?_ }
  · have hx : x ∈ X.files.set i row' := hx
    rcases List.mem_or_eq_of_mem_set hx with hm | rfl
    · exact h.wf.files x hm
    · exact hne
  · show w'.ownsRow 0 _ 1 R.fv (X.files.set i row').length _
    rw [hfl]; exact hf
  · exact ho.row h.drow (fun k hk => far k (by rw [h.rV k hk]; omega) (by rw [h.rV k hk]; omega) (by rw [h.rV k hk]; omega))
  · intro j row hj
    have hj : (X.files.set i row')[j]? = some row := hj
    by_cases hji : i = j
    · subst hji
      rw [List.getElem?_set_self hi] at hj
      cases hj
      refine ⟨v', List.getElem?_set_self (by omega), hv, fun k hk => ?_⟩
      show (if k < w.heap.size then R.role k else if v'.ownBlock = some k then 6 + i else 0) = 6 + i
      rcases hb k hk with ⟨v, g1, g2⟩ | g
      · have := hfsi v g1 k g2
        rw [hro k (by omega), this]
      · rw [if_neg (by omega), if_pos hk]
    · rw [List.getElem?_set_ne hji] at hj
      obtain ⟨v, g1, g2, g3⟩ := h.files j row hj
      refine ⟨v, by rw [List.getElem?_set_ne hji]; exact g1, ho.row g2 (fun k hk => far k (by rw [g3 k hk]; omega) (by rw [g3 k hk]; omega) (by rw [g3 k hk]; omega)), fun k hk => ?_⟩
      show (if k < w.heap.size then R.role k else if v'.ownBlock = some k then 6 + i else 0) = 6 + j
      rw [hro k (by rw [g3 k hk]; omega), g3 k hk]
  · intro j l hj
    obtain ⟨v, g1, g2, g3⟩ := h.dirs j l hj
    refine ⟨v, g1, ho.row g2 (fun k hk => far k (by rw [g3 k hk]; omega) (by rw [g3 k hk]; omega) (by rw [g3 k hk]; omega)), fun k hk => ?_⟩
    show (if k < w.heap.size then R.role k else if v'.ownBlock = some k then 6 + i else 0) = 5
    rw [hro k (by rw [g3 k hk]; omega), g3 k hk]
  · show (if r < w.heap.size then R.role r else _) = 1
    rw [hro r (by rw [h.rD]; omega), h.rD]
  · intro k hk
    show (if k < w.heap.size then R.role k else if v'.ownBlock = some k then 6 + i else 0) = 3
    rw [hro k (by rw [h.rF k hk]; omega), h.rF k hk]
  · intro k hk
    show (if k < w.heap.size then R.role k else if v'.ownBlock = some k then 6 + i else 0) = 4
    rw [hro k (by rw [h.rV k hk]; omega), h.rV k hk]
  · intro b hb'
    have hs := ho.size
    have hb' : (if b < w.heap.size then R.role b else if v'.ownBlock = some b then 6 + i else 0) ≠ 0 := hb'
    split at hb'
    · omega
    · split at hb'
      · rename_i hk; exact row_lt hv hk
      · exact absurd rfl hb'
/-- A row of names: the last one of a new row of rows, behind the elder ones or alone. -/
theorem RefAt.setDirs {w w' : World} {r : Nat} {X : RefV} {R : RefRep} (h : RefAt w r X R) (dirs' : List (List (ByteArray × Nat))) (ds' : List Value) (dv' : Value)
    (ho : Off (fun k => k = r ∨ R.dv.ownBlock = some k) w w') (hc : w'.heap[r]? = some (.cells (refCells { X with dirs := dirs' } { R with dv := dv' }) 112 (0, 0)))
    (hd : w'.ownsRow 0 122 1 dv' dirs'.length ds') (hb : ∀ k, dv'.ownBlock = some k → R.dv.ownBlock = some k ∨ w.heap.size ≤ k) (hne : dirs' ≠ []) (hnm : ∀ l ∈ dirs', ∀ p ∈ l, p.2 < X.files.length)
    (hr : ∀ (i : Nat) l, dirs'[i]? = some l → ∃ v, ds'[i]? = some v ∧ w'.ownsRow 0 126 2 v l.length (l.flatMap namedCells) ∧ ∀ k, v.ownBlock = some k → R.role k = 5 ∨ (w.heap.size ≤ k ∧ dv'.ownBlock ≠ some k)) :
    RefAt w' r { X with dirs := dirs' } { R with dv := dv', ds := ds', role := fun k => if k < w.heap.size then R.role k else if dv'.ownBlock = some k then 4 else if k < w'.heap.size then 5 else 0 } := by
  have hro : ∀ k, R.role k ≠ 0 → (if k < w.heap.size then R.role k else if dv'.ownBlock = some k then 4 else if k < w'.heap.size then 5 else 0) = R.role k := fun k hk => if_pos (h.old k hk)
  have far : ∀ k, R.role k ≠ 0 → R.role k ≠ 1 → R.role k ≠ 4 → ¬ (k = r ∨ R.dv.ownBlock = some k) := by
    rintro k h0 h1 h2 (rfl | hk)
    · exact h1 h.rD
    · exact h2 (h.rV k hk)
  refine { wf := ⟨h.wf.room, h.wf.ops, h.wf.fail, h.wf.left, hne, hnm, h.wf.files⟩, core := hc, frow := ?_, drow := hd, files := ?_, dirs := ?_, rD := ?_, rF := ?_, rV := ?_, old := ?_ }
  · exact ho.row h.frow (fun k hk => far k (by rw [h.rF k hk]; omega) (by rw [h.rF k hk]; omega) (by rw [h.rF k hk]; omega))
  · intro j row hj
    obtain ⟨v, g1, g2, g3⟩ := h.files j row hj
    refine ⟨v, g1, ho.row g2 (fun k hk => far k (by rw [g3 k hk]; omega) (by rw [g3 k hk]; omega) (by rw [g3 k hk]; omega)), fun k hk => ?_⟩
    show (if k < w.heap.size then R.role k else _) = 6 + j
    rw [hro k (by rw [g3 k hk]; omega), g3 k hk]
  · intro j l hj
    obtain ⟨v, g1, g2, g3⟩ := hr j l hj
    refine ⟨v, g1, g2, fun k hk => ?_⟩
    show (if k < w.heap.size then R.role k else if dv'.ownBlock = some k then 4 else if k < w'.heap.size then 5 else 0) = 5
    rcases g3 k hk with h5 | ⟨h5, h6⟩
    · rw [hro k (by omega), h5]
    · rw [if_neg (by omega), if_neg h6, if_pos (row_lt g2 hk)]
  · show (if r < w.heap.size then R.role r else _) = 1
    rw [hro r (by rw [h.rD]; omega), h.rD]
  · intro k hk
    show (if k < w.heap.size then R.role k else _) = 3
    rw [hro k (by rw [h.rF k hk]; omega), h.rF k hk]
  · intro k hk
    have hk : dv'.ownBlock = some k := hk
    show (if k < w.heap.size then R.role k else if dv'.ownBlock = some k then 4 else if k < w'.heap.size then 5 else 0) = 4
    rcases hb k hk with h5 | h5
    · rw [hro k (by rw [h.rV k h5]; omega), h.rV k h5]
    · rw [if_neg (by omega), if_pos hk]
  · intro b hb'
    have hs := ho.size
    have hb' : (if b < w.heap.size then R.role b else if dv'.ownBlock = some b then 4 else if b < w'.heap.size then 5 else 0) ≠ 0 := hb'
    split at hb'
    · omega
    · split at hb'
      · rename_i hk; exact row_lt hd hk
      · split at hb'
        · assumption
        · exact absurd rfl hb'
namespace RefW
variable {w : World} {r : Nat} {X : RefV} {R : RefRep}
theorem infoNamed : (Tryz.prog.info? 126).map (fun i => (i.zero, i.size, i.bytes)) = some (some (.agg #[.string ByteArray.empty, .int .i64 0]), 2, 24) := by kernel_rfl
theorem elemNamed : ElemOk Tryz.prog 122 126 2 24 := .of Tryz.underlying122 infoNamed rfl (by decide) (by decide)
set_option maxHeartbeats 1000000 in
set_option maxRecDepth 100000 in
theorem without_any (w : World) (v : Value) (l : List (ByteArray × Nat)) (hrow : w.ownsRow 0 126 2 v l.length (l.flatMap namedCells)) (name : ByteArray) (hl : l.length ≤ 1000000) :
    Calls Tryz.prog 65 #[v, .string name] w fun e w' => ∃ v', e = .returned v' ∧ w'.ownsRow w.heap.size 126 2 v' (RefV.without l name).length ((RefV.without l name).flatMap namedCells) ∧ Off None w w' := by
  obtain ⟨p, c, rfl⟩ := own_shape hrow
  have hcell : ∀ i (hi : i < l.length), ∃ g, p = some ⟨g, 0, none⟩ ∧ w.cell? ⟨g, i * 2, none⟩ = some (.string l[i].1) ∧ w.cell? ⟨g, i * 2 + 1, none⟩ = some (.int .i64 l[i].2) := by
    intro i hi
    obtain ⟨g, c', hv, _, _, _, _, hc⟩ := own_cell hrow (by omega)
    cases hv
    have hn := named_cells l hi
    exact ⟨g, rfl, (hc _ _ hn.1).1, (hc _ _ hn.2).1⟩
  have HC := Lib.hid hcell
  clear hrow hcell
  go_enter Tryz.func65, Tryz.ntmps65
  go_wp2
  go_loopw [5, 6] (fun o i wr => ∃ (ov : Value) (j : Nat), ov = o ∧ j ≤ l.length ∧ i = .int .i64 j ∧ wr.ownsRow w.heap.size 126 2 ov (RefV.without (l.take j) name).length ((RefV.without (l.take j) name).flatMap namedCells) ∧ Off None w wr) (fun _ i _ => l.length - (intOf i).toNat)
  case atStart => exact ⟨_, 0, rfl, Nat.zero_le _, rfl, by rw [List.take_zero]; exact World.ownsRow_nil _ _ _ _, Off.refl _ _⟩
  case round =>
    obtain ⟨ov, j, rfl, hj, rfl, hrow, ho⟩ := hrel
    have HROW := Lib.hid hrow; have HO := Lib.hid ho
    clear hrow ho
    by_cases hlt : j < l.length
    · obtain ⟨g, hp, d0, d1⟩ := HC.out j hlt
      subst hp
      have e0 := HO.out.keep d0 (fun h => h)
      have e1 := HO.out.keep d1 (fun h => h)
      obtain ⟨x, hx⟩ : ∃ x, x = l[j].1 := ⟨_, rfl⟩
      obtain ⟨y, hy⟩ : ∃ y, y = l[j].2 := ⟨_, rfl⟩
      rw [← hx] at e0
      rw [← hy] at e1
      have i0 : (0 : Int) ≤ (j : Int) := by omega
      have i1 : (j : Int) < (l.length : Int) := by omega
      have htk : l.take (j + 1) = l.take j ++ [(x, y)] := by rw [List.take_succ_eq_append_getElem hlt, hx, hy]
      have hwl : (RefV.without (l.take j) name).length ≤ j := Nat.le_trans (List.length_filter_le _ _) (List.length_take_le _ _)
      have HTK := Lib.hid htk
      clear d0 d1 hx hy htk
      by_cases he : x.data.toList = name.data.toList
      · have t1 : (!(x.toList == name.toList)) = false := by rw [Heap.toList_data, Heap.toList_data, he]; simp
        have hst : RefV.without (l.take (j + 1)) name = RefV.without (l.take j) name := by
          rw [HTK.out]; unfold RefV.without; rw [List.filter_append, List.filter_cons_of_neg (by simpa using he)]; simp
        have HST := Lib.hid hst
        clear hst he
        go_wp2
        all_goals try (rename_i h; rw [t1] at h; cases h)
        all_goals try (rename_i h _ _; rw [t1] at h; cases h)
        case roundEnd => exact ⟨⟨ov, j + 1, rfl, hlt, rfl, by rw [HST.out]; exact HROW.out, HO.out⟩, by simp [intOf]; omega⟩
      · have t1 : (!(x.toList == name.toList)) = true := by rw [Heap.toList_data, Heap.toList_data]; simpa using he
        have hst : RefV.without (l.take (j + 1)) name = RefV.without (l.take j) name ++ [(x, y)] := by
          rw [HTK.out]; unfold RefV.without; rw [List.filter_append, List.filter_cons_of_pos (by simpa using he)]; simp
        have HST := Lib.hid hst
        clear hst he
        go_wp2_with (at_builtin; refine wpList_push rfl (.tmp 20) (.tmp 25) rfl elemNamed w.heap.size ov (RefV.without (l.take j) name).length ((RefV.without (l.take j) name).flatMap namedCells) rfl HROW.out #[.string x, .int .i64 y] rfl rfl ?c1 ?c2 ?c3 ?_)
        case c1 => first | exact ⟨rfl, rfl⟩ | (intro u hu; simp at hu; rcases hu with rfl | rfl <;> rfl)
        case c2 => omega
        case c3 => exact HO.out.size
        intro g2 cap w3 hrow3 hp3
        have HROW3 := Lib.hid hrow3
        have HO3 := Lib.hid (HO.out.trans hp3.off (fun b hb h => absurd (World.ownsRow.lt HROW.out b h).1 (by omega)))
        clear hrow3 hp3
        go_wp2_with fail
        case roundEnd =>
          refine ⟨⟨_, j + 1, rfl, hlt, rfl, ?_, HO3.out⟩, by simp [intOf]; omega⟩
          rw [HST.out, List.length_append, List.flatMap_append]
          exact HROW3.out
    · have i1 : ¬ (j : Int) < (l.length : Int) := by omega
      have htk : l.take j = l := List.take_of_length_le (by omega)
      have hr := HROW.out
      rw [htk] at hr
      have HR := Lib.hid hr
      clear hr htk
      go_wp2
      go_ret
      exact ⟨ov, rfl, HR.out, HO.out⟩
end RefW
end Go.Proofs.YtnppdcegpojmbaaGreatDoor
namespace Go.Proofs.YtnppdcegpojmbaaGreatDoor
open Go Go.RowKit
theorem row_made {w : World} {g base n size : Nat} {e : TypeId} {cur : Array Value} (h : w.heap[g]? = some (.cells cur e (0, 0))) (hb : base ≤ g) (hs : cur.size = n * size) (hn : n ≤ 1099511627776) : w.ownsRow base e size (.slice (some ⟨g, 0, none⟩) n n) n cur.toList := by
  refine ⟨by rw [Array.length_toList, hs], .inr ⟨g, n, cur, rfl, hb, h, Nat.le_refl _, ?_, hs, ?_⟩⟩
  · unfold maxLen; omega
  · rw [List.take_of_length_le (by rw [Array.length_toList, hs]; omega)]
namespace RefV
def new (room : Int) : RefV := ⟨max room 0, [], [[]], 0, 0, -1⟩
def read (X : RefV) (name : ByteArray) : ByteArray × Int := if X.left = 0 then (ByteArray.empty, 11) else if X.number name < 0 then (ByteArray.empty, 5) else (X.nowAt (X.number name).toNat, 0)
def stop (X : RefV) (n : Int) : RefV := { X with left := max n (-1) }
def failAt (X : RefV) (n : Int) : RefV := { X with fail := max n 0 }
def used (X : RefV) : Nat := (X.dir.map fun p => (X.nowAt p.2).size).sum
def syncDir (X : RefV) : RefV × Int := if X.begin.2 = false then (X, 11) else ({ X.begin.1 with dirs := [X.dir] }, 0)
end RefV
namespace RefW
variable {w : World} {r : Nat} {X : RefV} {R : RefRep}
theorem off_core {F : Nat → Prop} {w w' : World} {r : Nat} {X : RefV} {R : RefRep} (h : RefAt w r X R) (hF : ∀ b, R.role b ≠ 0 → F b) (ho : Off (Only r) w w') : Off F w w' :=
  ho.mono (fun b _ e => by rw [show b = r from e]; exact hF r (by rw [h.rD]; omega))
set_option maxRecDepth 100000 in
theorem name_any (w : World) (s : ByteArray) (hs : s.size ≤ maxLen) :
    Calls Tryz.prog 63 #[.string s] w fun e w' => e = .returned (.bool (DiskV.named s)) ∧ w' = w := by
  unfold maxLen at hs
  go_enter Tryz.func63, Tryz.ntmps63
  go_wp2
  go_loop [3] (fun i => ∃ k : Nat, k ≤ s.size ∧ i = .int .i64 k ∧ Aside ((s.data.toList.take k).all DiskW.okC = true)) (fun i => s.size - (intOf i).toNat)
  case atStart => exact ⟨0, Nat.zero_le _, rfl, rfl⟩
  case round =>
    obtain ⟨k, hk, rfl, ha⟩ := hrel
    by_cases hlt : k < s.size
    · have hb := s[k].toNat_lt
      by_cases h1 : (s[k].toNat : Int) < 33
      · go_wp2
        go_ret
        have := DiskW.take_off s k hlt (by unfold DiskW.okC; simp; omega)
        refine ⟨?_, rfl⟩
        rw [DiskW.named_all, show (fun c : UInt8 => decide (33 ≤ c.toNat) && decide (c.toNat ≤ 126)) = DiskW.okC from rfl, this]
        rfl
      · by_cases h2 : (126 : Int) < (s[k].toNat : Int)
        · go_wp2
          go_ret
          have := DiskW.take_off s k hlt (by unfold DiskW.okC; simp; omega)
          refine ⟨?_, rfl⟩
          rw [DiskW.named_all, show (fun c : UInt8 => decide (33 ≤ c.toNat) && decide (c.toNat ≤ 126)) = DiskW.okC from rfl, this]
          rfl
        · go_wp2
          go_round
          case rel =>
            refine ⟨k + 1, by omega, by go_num, ?_⟩
            show _ = true
            rw [DiskW.take_all s k hlt, ha.out]
            unfold DiskW.okC
            simp
            omega
          case measure => simp [intOf]; omega
    · have hall : s.data.toList.all DiskW.okC = true := by
        have := ha.out
        rwa [List.take_of_length_le (by simp; omega)] at this
      have HA := Lib.hid hall
      clear ha hall
      by_cases hz : 1 ≤ s.size
      · go_wp2
        go_ret
        refine ⟨?_, rfl⟩
        rw [DiskW.named_all, show (fun c : UInt8 => decide (33 ≤ c.toNat) && decide (c.toNat ≤ 126)) = DiskW.okC from rfl, HA.out]
        have he : decide ((s.size : Int) ≤ 24) = decide (s.size ≤ 24) := by rw [decide_eq_decide]; omega
        have hz' : s.size ≠ 0 := by omega
        simp [hz', he]
      · go_wp2
        go_ret
        refine ⟨?_, rfl⟩
        rw [DiskW.named_all, show (fun c : UInt8 => decide (33 ≤ c.toNat) && decide (c.toNat ≤ 126)) = DiskW.okC from rfl, HA.out]
        have hz' : s.size = 0 := by omega
        simp [hz']
set_option maxRecDepth 100000 in
theorem stop_any (w : World) (r : Nat) (X : RefV) (F : Nat → Prop) (h : RefIn w r X F) (n : Int) (hn : -9223372036854775808 ≤ n) (hn2 : n ≤ 9223372036854775807) :
    Calls Tryz.prog 91 #[.pointer (some ⟨r, 0, none⟩), .int .i64 n] w fun e w' => e = .returned (.tuple #[]) ∧ RefIn w' r (X.stop n) F ∧ Off F w w' := by
  obtain ⟨R, h, hF⟩ := h
  have HF := Lib.hid hF; clear hF
  have c5 : w.cell? ⟨r, 5, none⟩ = some (.int .i64 X.left) := Heap.cell h.core 5
  have f5 : w.frozen? ⟨r, 5, none⟩ = false := Heap.frozen h.core 5
  have hlt : r < w.heap.size := Heap.lt h.core
  have H := Lib.hid h; clear h
  go_enter Tryz.func91, Tryz.ntmps91
  go_wp2
  go_end0
  have ho : Off (Only r) w (w.setCell ⟨r, 5, none⟩ (.int .i64 (max n (-1)))) := (Off.refl _ _).set 5 _
  have hwf := H.out.wf
  refine ⟨rfl, ⟨R, H.out.core' (X' := X.stop n) ho ((Heap.set H.out.core 5 _).trans rfl) ⟨hwf.room, hwf.ops, hwf.fail, ?_, hwf.dirs, hwf.names, hwf.files⟩ rfl rfl, HF.out⟩, off_core H.out HF.out ho⟩
  show -1 ≤ max n (-1) ∧ max n (-1) ≤ 9223372036854775807
  omega
set_option maxRecDepth 100000 in
theorem fail_any (w : World) (r : Nat) (X : RefV) (F : Nat → Prop) (h : RefIn w r X F) (n : Int) (hn : -9223372036854775808 ≤ n) (hn2 : n ≤ 9223372036854775807) :
    Calls Tryz.prog 90 #[.pointer (some ⟨r, 0, none⟩), .int .i64 n] w fun e w' => e = .returned (.tuple #[]) ∧ RefIn w' r (X.failAt n) F ∧ Off F w w' := by
  obtain ⟨R, h, hF⟩ := h
  have HF := Lib.hid hF; clear hF
  have c4 : w.cell? ⟨r, 4, none⟩ = some (.int .i64 X.fail) := Heap.cell h.core 4
  have f4 : w.frozen? ⟨r, 4, none⟩ = false := Heap.frozen h.core 4
  have hlt : r < w.heap.size := Heap.lt h.core
  have H := Lib.hid h; clear h
  go_enter Tryz.func90, Tryz.ntmps90
  go_wp2
  go_end0
  have ho : Off (Only r) w (w.setCell ⟨r, 4, none⟩ (.int .i64 (max n 0))) := (Off.refl _ _).set 4 _
  have hwf := H.out.wf
  refine ⟨rfl, ⟨R, H.out.core' (X' := X.failAt n) ho ((Heap.set H.out.core 4 _).trans rfl) ⟨hwf.room, hwf.ops, ?_, hwf.left, hwf.dirs, hwf.names, hwf.files⟩ rfl rfl, HF.out⟩, off_core H.out HF.out ho⟩
  show 0 ≤ max n 0 ∧ max n 0 ≤ 9223372036854775807
  omega
theorem number_lt (h : RefAt w r X R) (name : ByteArray) (hn : ¬ X.number name < 0) : ∃ n : Nat, X.number name = n ∧ n < X.files.length := by
  obtain ⟨_, _, _, _, hlt⟩ := last_dir h
  unfold RefV.number RefV.numIn at hn ⊢
  cases hf : X.dir.find? (fun p => decide (p.1.data.toList = name.data.toList)) with
  | none => rw [hf] at hn; exact absurd (show (-1 : Int) < 0 by omega) hn
  | some p => exact ⟨p.2, rfl, hlt p (List.mem_of_find?_eq_some hf)⟩
theorem number_neg (name : ByteArray) (hn : X.number name < 0) : X.number name = -1 := by
  unfold RefV.number RefV.numIn at hn ⊢
  cases hf : X.dir.find? (fun p => decide (p.1.data.toList = name.data.toList)) with
  | none => rfl
  | some p => rw [hf] at hn; exact absurd (show (p.2 : Int) < 0 from hn) (by omega)
set_option maxHeartbeats 1000000 in
set_option maxRecDepth 100000 in
theorem read_any (w : World) (r : Nat) (X : RefV) (R : RefRep) (h : RefAt w r X R) (name : ByteArray) :
    Calls Tryz.prog 111 #[.pointer (some ⟨r, 0, none⟩), .string name] w fun e w' => e = .returned (.tuple #[.string (X.read name).1, .int .i64 (X.read name).2]) ∧ Off None w w' := by
  have c5 : w.cell? ⟨r, 5, none⟩ = some (.int .i64 X.left) := Heap.cell h.core 5
  have hl := h.wf.left
  by_cases hz : X.left = 0
  · have t1 : (X.left == 0) = true := by rw [beq_iff_eq]; exact hz
    have hs : X.read name = (ByteArray.empty, 11) := by unfold RefV.read; rw [if_pos hz]
    have HS := Lib.hid hs
    clear h hs hz
    go_enter Tryz.func111, Tryz.ntmps111
    go_wp2
    go_ret2
    rw [HS.out]
    exact ⟨rfl, Off.refl _ _⟩
  · have t1 : (X.left == 0) = false := by rw [beq_eq_false_iff_ne]; exact hz
    have hnum := number_any w r X R h name
    by_cases hn : X.number name < 0
    · have hs : X.read name = (ByteArray.empty, 5) := by unfold RefV.read; rw [if_neg hz, if_pos hn]
      have HS := Lib.hid hs
      have HN := Lib.hid hnum
      obtain ⟨n, hnn⟩ : ∃ n, n = X.number name := ⟨_, rfl⟩
      rw [← hnn] at HN hn
      clear h hs hz hnum hnn
      go_enter Tryz.func111, Tryz.ntmps111
      go_wp2_with fail
      refine HN.out.mono ?_
      rintro e w1 ⟨rfl, ho1⟩
      have HO1 := Lib.hid ho1; clear ho1
      go_wp2
      go_ret2
      rw [HS.out]
      exact ⟨rfl, HO1.out⟩
    · obtain ⟨n, hnn, hlt⟩ := number_lt h name hn
      have hs : X.read name = (X.nowAt n, 0) := by unfold RefV.read; rw [if_neg hz, if_neg hn, hnn]; rfl
      have HS := Lib.hid hs
      rw [hnn] at hnum
      have HN := Lib.hid hnum
      have H := Lib.hid h
      have hn' : ¬ (n : Int) < 0 := by omega
      clear h hs hz hnum hnn hn
      go_enter Tryz.func111, Tryz.ntmps111
      go_wp2_with fail
      refine HN.out.mono ?_
      rintro e w1 ⟨rfl, ho1⟩
      have hnow := now_any w1 r X R (H.out.off ho1 (fun _ _ h => h)) n hlt
      have HW := Lib.hid hnow
      have HO1 := Lib.hid ho1; clear ho1 hnow
      go_wp2_with fail
      refine HW.out.mono ?_
      rintro e w2 ⟨rfl, ho2⟩
      have HO2 := Lib.hid (HO1.out.trans ho2 (fun _ _ h => h)); clear ho2
      go_wp2
      go_ret2
      rw [HS.out]
      exact ⟨rfl, HO2.out⟩
theorem new_at {w' : World} {r g : Nat} (room : Int) (h : room ≤ 9223372036854775807) (hr : w'.heap[r]? = some (.cells #[.int .i64 (max room 0), .slice none 0 0, .slice (some ⟨g, 0, none⟩) 1 1, .int .i64 0, .int .i64 0, .int .i64 (-1)] 112 (0, 0)))
    (hg : w'.heap[g]? = some (.cells #[.slice none 0 0] 122 (0, 0))) (hne : r ≠ g) :
    RefAt w' r (RefV.new room) ⟨.slice none 0 0, .slice (some ⟨g, 0, none⟩) 1 1, [], [.slice none 0 0], fun k => if k = r then 1 else if k = g then 4 else 0⟩ := by
  refine { wf := ⟨?_, ?_, ?_, ?_, by simp [RefV.new], ?_, ?_⟩, core := hr, frow := World.ownsRow_nil _ _ _ _, drow := row_made hg (Nat.zero_le _) rfl (by omega), files := ?_, dirs := ?_, rD := if_pos rfl, rF := ?_, rV := ?_, old := ?_ }
  · show 0 ≤ max room 0 ∧ max room 0 ≤ _; omega
  · show (_ : Int) ≤ 0 ∧ (0 : Int) ≤ _; omega
  · show (_ : Int) ≤ 0 ∧ (0 : Int) ≤ _; omega
  · show (-1 : Int) ≤ -1 ∧ (-1 : Int) ≤ _; omega
  · intro l hl p hp
    have hl : l ∈ [([] : List (ByteArray × Nat))] := hl
    rw [List.mem_singleton.1 hl] at hp; cases hp
  · intro x hx; cases hx
  · intro i row hi; cases hi
  · intro i l hi
    have hi : [([] : List (ByteArray × Nat))][i]? = some l := hi
    cases i with
    | zero => cases hi; exact ⟨_, rfl, World.ownsRow_nil _ _ _ _, fun k hk => by cases hk⟩
    | succ i => cases hi
  · intro k hk; cases hk
  · intro k hk
    cases hk
    show (if g = r then 1 else if g = g then 4 else 0) = 4
    rw [if_neg (fun e => hne e.symm), if_pos rfl]
  · intro b hb
    have hb : (if b = r then 1 else if b = g then 4 else 0) ≠ 0 := hb
    split at hb
    · rename_i e; rw [e]; exact Heap.lt hr
    · split at hb
      · rename_i e; rw [e]; exact Heap.lt hg
      · exact absurd rfl hb
set_option maxRecDepth 100000 in
theorem new_any (w : World) (room : Int) (h1 : room ≤ 9223372036854775807) :
    Calls Tryz.prog 24 #[.int .i64 room] w fun e w' =>
      ∃ r, e = .returned (.pointer (some ⟨r, 0, none⟩)) ∧ RefIn w' r (RefV.new room) (fun b => w.heap.size ≤ b ∧ b < w'.heap.size) ∧ Off None w w' := by
  go_enter Tryz.func24, Tryz.ntmps24
  go_wp2
  go_ret
  have hs1 : (w.alloc (.cells #[.slice none 0 0] 122)).heap.size = w.heap.size + 1 := Heap.alloc_size _ _
  have hg := Heap.alloc_old (Heap.alloc_new w (.cells #[.slice none 0 0] 122)) (.cells #[.int .i64 (max room 0), .slice none 0 0, .slice (some ⟨w.heap.size, 0, none⟩) 1 1, .int .i64 0, .int .i64 0, .int .i64 (-1)] 112)
  have hr := Heap.alloc_new (w.alloc (.cells #[.slice none 0 0] 122)) (.cells #[.int .i64 (max room 0), .slice none 0 0, .slice (some ⟨w.heap.size, 0, none⟩) 1 1, .int .i64 0, .int .i64 0, .int .i64 (-1)] 112)
  rw [hs1] at hr
  refine ⟨_, rfl, ⟨_, new_at room h1 hr hg (by omega), fun b hb => ?_⟩, ((Off.refl None w).alloc _).alloc _⟩
  rw [Heap.alloc_size, hs1]
  have hb : (if b = w.heap.size + 1 then 1 else if b = w.heap.size then 4 else 0) ≠ 0 := hb
  split at hb
  · omega
  · split at hb
    · omega
    · exact absurd rfl hb
set_option maxHeartbeats 1000000 in
set_option maxRecDepth 100000 in
theorem syncDir_any (w : World) (r : Nat) (X : RefV) (F : Nat → Prop) (h : RefIn w r X F) :
    Calls Tryz.prog 122 #[.pointer (some ⟨r, 0, none⟩)] w fun e w' =>
      e = .returned (.int .i64 X.syncDir.2) ∧ RefIn w' r X.syncDir.1 (Grow F w w') ∧ Off F w w' := by
  obtain ⟨R, h, hF⟩ := h
  have HF := Lib.hid hF; clear hF
  have hbg := begin_any w r X R h
  cases hb : X.begin.2 with
  | false =>
    have hs : X.syncDir = (X, 11) := by unfold RefV.syncDir; rw [if_pos hb]
    have he : X.begin.1 = X := by
      unfold RefV.begin at hb ⊢
      split
      · rfl
      · rename_i hz; rw [if_neg hz] at hb; cases hb
    rw [hb, he] at hbg
    have HS := Lib.hid hs; have HB := Lib.hid hbg; have H := Lib.hid h
    clear hs hb he hbg h
    go_enter Tryz.func122, Tryz.ntmps122
    go_wp2_with fail
    refine HB.out.mono ?_
    rintro e w1 ⟨rfl, h1, ho1⟩
    have H1 := Lib.hid h1; have HO1 := Lib.hid ho1; clear h1 ho1
    go_wp2
    go_ret
    rw [HS.out]
    exact ⟨rfl, ⟨R, H1.out, fun b hb => .inl (HF.out b hb)⟩, off_core H.out HF.out HO1.out⟩
  | true =>
    have hs : X.syncDir = ({ X.begin.1 with dirs := [X.dir] }, 0) := by unfold RefV.syncDir; rw [hb]; rfl
    rw [hb] at hbg
    have hdir : X.begin.1.dir = X.dir := by unfold RefV.begin; split <;> rfl
    have HS := Lib.hid hs; have HB := Lib.hid hbg; have H := Lib.hid h; have HDIR := Lib.hid hdir
    clear hs hb hbg h hdir
    go_enter Tryz.func122, Tryz.ntmps122
    go_wp2_with fail
    refine HB.out.mono ?_
    rintro e w1 ⟨rfl, h1, ho1⟩
    have hd := dir_any w1 r X.begin.1 R h1
    rw [HDIR.out] at hd
    have H1 := Lib.hid h1; have HO1 := Lib.hid ho1; have HD := Lib.hid hd; clear h1 ho1 hd
    go_wp2_with fail
    refine HD.out.mono ?_
    rintro e w2 ⟨v, rfl, hv1, hv2, hv3, ho2⟩
    obtain ⟨pv, cv, rfl⟩ := own_shape hv2
    have hc2 := ho2.at_ H1.out.core (fun h => h)
    have c2 : w2.cell? ⟨r, 2, none⟩ = some R.dv := Heap.cell hc2 2
    have f2 : w2.frozen? ⟨r, 2, none⟩ = false := Heap.frozen hc2 2
    have hlt : r < w2.heap.size := Heap.lt hc2
    have HV1 := Lib.hid hv1; have HV2 := Lib.hid hv2; have HV3 := Lib.hid hv3; have HO2 := Lib.hid ho2; have HC2 := Lib.hid hc2
    clear hv1 hv2 hv3 ho2 hc2
    go_wp2
    go_ret
    rw [HS.out]
    have hsz := HO2.out.size
    obtain ⟨w3, hw3⟩ : ∃ w3, w3 = (w2.setCell ⟨r, 2, none⟩ (.slice (some ⟨w2.heap.size, 0, none⟩) 1 1)).alloc (.cells #[.slice pv X.dir.length cv] 122) := ⟨_, rfl⟩
    rw [← hw3]
    have ho3 : Off (Only r) w1 w3 := by rw [hw3]; exact ((HO2.out.mono (fun _ _ h => h.elim)).set 2 _).alloc _
    have hg3 : w3.heap[w2.heap.size]? = some (.cells #[.slice pv X.dir.length cv] 122 (0, 0)) := by rw [hw3]; have := Heap.alloc_new (w2.setCell ⟨r, 2, none⟩ (.slice (some ⟨w2.heap.size, 0, none⟩) 1 1)) (.cells #[.slice pv X.dir.length cv] 122); rwa [Heap.set_size] at this
    have hc3 : w3.heap[r]? = some (.cells (refCells { X.begin.1 with dirs := [X.dir] } { R with dv := .slice (some ⟨w2.heap.size, 0, none⟩) 1 1 }) 112 (0, 0)) := by rw [hw3]; exact Heap.alloc_old ((Heap.set HC2.out 2 _).trans rfl) _
    have hg3l := Heap.lt hg3
    have h3 := RefAt.setDirs H1.out [X.dir] [.slice pv X.dir.length cv] (.slice (some ⟨w2.heap.size, 0, none⟩) 1 1) (ho3.mono (fun b _ e => .inl e)) hc3 (row_made hg3 (Nat.zero_le _) rfl (by omega)) (fun k hk => by cases hk; exact .inr hsz) (by simp)
      (fun l hl p hp => by rw [List.mem_singleton.1 hl] at hp; rw [← HDIR.out] at hp; exact (last_dir H1.out).choose_spec.2.2.2 p hp)
      (fun i l hi => by
        cases i with
        | zero => cases hi; exact ⟨_, rfl, ho3.row HV2.out (fun k hk e => by have h5 := HV3.out k hk; rw [show k = r from e, H1.out.rD] at h5; omega), fun k hk => .inl (HV3.out k hk)⟩
        | succ i => cases hi)
    have ho := off_core H.out HF.out HO1.out
    have ho13 := off_core H1.out HF.out ho3
    have hsz1 := HO1.out.size
    refine ⟨rfl, ⟨_, h3, fun b hb => ?_⟩, ho.trans ho13 (fun b _ h => h)⟩
    have hb' : (if b < w1.heap.size then R.role b else if (Value.slice (some ⟨w2.heap.size, 0, none⟩) 1 1).ownBlock = some b then 4 else if b < w3.heap.size then 5 else 0) ≠ 0 := hb
    split at hb'
    · exact .inl (HF.out b hb')
    · split at hb'
      · rename_i hk; cases hk; exact .inr ⟨by omega, hg3l⟩
      · split at hb'
        · exact .inr ⟨by omega, by assumption⟩
        · exact absurd rfl hb'
end RefW
end Go.Proofs.YtnppdcegpojmbaaGreatDoor
namespace Go.Proofs.YtnppdcegpojmbaaGreatDoor
open Go Go.RowKit Go.Sort
theorem row_put {w : World} {base n g : Nat} {e : TypeId} {v : Value} {xs : List Value} (h : w.ownsRow base e 1 v n xs) (hg : v.ownBlock = some g) (i : Nat) (u : Value) : (w.setCell ⟨g, i, none⟩ u).ownsRow base e 1 v n (xs.set i u) := by
  obtain ⟨hl, ⟨rfl, _⟩ | ⟨g2, cap, cur, rfl, h1, hb, hle, hmx, hsz, ht⟩⟩ := h
  · cases hg
  · obtain rfl : g2 = g := by injection hg
    refine ⟨by rw [List.length_set]; exact hl, .inr ⟨g2, cap, cur.setIfInBounds i u, rfl, h1, Heap.set hb i u, hle, hmx, by rw [Array.size_setIfInBounds]; exact hsz, ?_⟩⟩
    rw [Array.toList_setIfInBounds, List.take_set, ht]
theorem own_block {w : World} {base n g size : Nat} {e : TypeId} {v : Value} {xs : List Value} (h : w.ownsRow base e size v n xs) (hg : v.ownBlock = some g) : ∃ cur, w.heap[g]? = some (.cells cur e (0, 0)) := by
  obtain ⟨hl, ⟨rfl, _⟩ | ⟨g2, cap, cur, rfl, h1, hb, hle, hmx, hsz, ht⟩⟩ := h
  · cases hg
  · obtain rfl : g2 = g := by injection hg
    exact ⟨cur, hb⟩
namespace RefV
def setF (X : RefV) (i : Nat) (row : List ByteArray) : RefV := { X with files := X.files.set i row }
def sync (X : RefV) (name : ByteArray) : RefV × Int :=
  if X.begin.2 = false then (X, 11)
  else if X.begin.1.number name < 0 then (X.begin.1, 5)
  else if X.begin.1.fails.2 = true then (X.begin.1.fails.1, 10)
  else (X.begin.1.fails.1.setF (X.begin.1.number name).toNat [X.begin.1.nowAt (X.begin.1.number name).toNat], 0)
def cut (X : RefV) (name : ByteArray) (z : Nat) : RefV × Int :=
  if X.begin.2 = false then (X, 11)
  else if X.begin.1.number name < 0 then (X.begin.1, 5)
  else if (X.begin.1.nowAt (X.begin.1.number name).toNat).size < z then (X.begin.1, 1)
  else (X.begin.1.setF (X.begin.1.number name).toNat ((X.begin.1.files[(X.begin.1.number name).toNat]?.getD []) ++ [(X.begin.1.nowAt (X.begin.1.number name).toNat).extract 0 z]), 0)
theorem begin_off {X : RefV} (h : X.begin.2 = false) : X.begin.1 = X := by
  unfold RefV.begin at h ⊢
  split
  · rfl
  · rename_i hz; rw [if_neg hz] at h; cases h
theorem fails_same (X : RefV) : X.fails.1.files = X.files ∧ X.fails.1.dirs = X.dirs ∧ X.fails.1.room = X.room := by unfold RefV.fails; split <;> exact ⟨rfl, rfl, rfl⟩
theorem begin_same (X : RefV) : X.begin.1.files = X.files ∧ X.begin.1.dirs = X.dirs ∧ X.begin.1.room = X.room ∧ X.begin.1.fail = X.fail := by unfold RefV.begin; split <;> exact ⟨rfl, rfl, rfl, rfl⟩
end RefV
theorem RefAt.setFile_in {F : Nat → Prop} {w w' : World} {r : Nat} {X : RefV} {R : RefRep} (h : RefAt w r X R) (hF : ∀ b, R.role b ≠ 0 → F b) (i : Nat) (row' : List ByteArray) (v' : Value)
    (ho : Off (fun k => R.fv.ownBlock = some k ∨ ∃ v, R.fs[i]? = some v ∧ v.ownBlock = some k) w w') (hi : i < X.files.length) (hf : w'.ownsRow 0 22 1 R.fv X.files.length (R.fs.set i v')) (hv : w'.ownsRow 0 9 1 v' row'.length (textCells row'))
    (hb : ∀ k, v'.ownBlock = some k → (∃ v, R.fs[i]? = some v ∧ v.ownBlock = some k) ∨ w.heap.size ≤ k) (hne : row' ≠ []) :
    RefIn w' r (X.setF i row') (Grow F w w') ∧ Off F w w' := by
  refine ⟨⟨_, h.setFile i row' v' ho hi hf hv hb hne, fun b hb' => ?_⟩, ho.mono ?_⟩
  · have hb' : (if b < w.heap.size then R.role b else if v'.ownBlock = some b then 6 + i else 0) ≠ 0 := hb'
    split at hb'
    · exact .inl (hF b hb')
    · split at hb'
      · rename_i hk; exact .inr ⟨by omega, row_lt hv hk⟩
      · exact absurd rfl hb'
  · rintro b _ (hk | ⟨v, hv, hk⟩)
    · exact hF b (by rw [h.rF b hk]; omega)
    · obtain ⟨v2, g1, _, g3⟩ := h.files i _ (List.getElem?_eq_getElem hi)
      rw [hv] at g1; cases g1
      exact hF b (by rw [g3 b hk]; omega)
theorem RefIn.mono {w : World} {r : Nat} {X : RefV} {F G : Nat → Prop} (h : RefIn w r X F) (hm : ∀ b, b < w.heap.size → F b → G b) : RefIn w r X G := by
  obtain ⟨R, h1, h2⟩ := h
  exact ⟨R, h1, fun b hb => hm b (h1.old b hb) (h2 b hb)⟩
theorem RefIn.mono_of {F : Nat → Prop} {w w1 w2 : World} {r : Nat} {X : RefV} (h : RefIn w2 r X (Grow F w1 w2)) (ho : Off F w w1) : RefIn w2 r X (Grow F w w2) := by
  refine h.mono (fun b _ hb => ?_)
  rcases hb with hb | ⟨h1, h2⟩
  · exact .inl hb
  · exact .inr ⟨by have := ho.size; omega, h2⟩
namespace RefW
variable {w : World} {r : Nat} {X : RefV} {R : RefRep}
set_option maxHeartbeats 1000000 in
set_option maxRecDepth 100000 in
theorem used_any (w : World) (r : Nat) (X : RefV) (R : RefRep) (h : RefAt w r X R) (hu : X.used ≤ 9223372036854775807) :
    Calls Tryz.prog 69 #[.pointer (some ⟨r, 0, none⟩)] w fun e w' => e = .returned (.int .i64 X.used) ∧ Off None w w' := by
  have hd := dir_any w r X R h
  obtain ⟨_, _, _, _, hlt⟩ := last_dir h
  obtain ⟨l, hl⟩ : ∃ l, l = X.dir := ⟨_, rfl⟩
  have hus : X.used = (l.map fun p => (X.nowAt p.2).size).sum := by rw [hl]; rfl
  rw [← hl] at hd hlt
  rw [hus] at hu ⊢
  have H := Lib.hid h
  have HD := Lib.hid hd; have HLT := Lib.hid hlt
  clear hd h hl hus hlt
  go_enter Tryz.func69, Tryz.ntmps69
  go_wp2_with fail
  refine HD.out.mono ?_
  rintro e w1 ⟨v, rfl, _, hrow, _, ho1⟩
  obtain ⟨p, c, rfl⟩ := own_shape hrow
  have hll : l.length ≤ 9223372036854775807 := by
    rcases Nat.eq_zero_or_pos l.length with h0 | h0
    · omega
    · obtain ⟨g, c', _, _, h1, h2, _⟩ := own_cell hrow h0
      omega
  have hcell : ∀ i (hi : i < l.length), ∃ g, p = some ⟨g, 0, none⟩ ∧ g < w.heap.size ∧ w.cell? ⟨g, i * 2 + 1, none⟩ = some (.int .i64 l[i].2) := by
    intro i hi
    obtain ⟨g, c', hv, hgl, _, _, _, hc⟩ := own_cell hrow (by omega)
    cases hv
    have hn := named_cells l hi
    exact ⟨g, rfl, hgl, (hc _ _ hn.2).1⟩
  have HC := Lib.hid hcell; have HO1 := Lib.hid ho1
  clear hrow hcell ho1 HD
  go_wp2_with fail
  go_loopw [3, 5] (fun n i wr => ∃ j : Nat, j ≤ l.length ∧ i = .int .i64 j ∧ n = .int .i64 (((l.take j).map fun p => (X.nowAt p.2).size).sum : Nat) ∧ Off None w wr) (fun _ i _ => l.length - (intOf i).toNat)
  case atStart => exact ⟨0, Nat.zero_le _, rfl, rfl, HO1.out⟩
  case round =>
    obtain ⟨j, hj, rfl, rfl, ho⟩ := hrel
    obtain ⟨n, hn⟩ : ∃ n, n = ((l.take j).map fun p => (X.nowAt p.2).size).sum := ⟨_, rfl⟩
    rw [← hn]
    by_cases hlt : j < l.length
    · obtain ⟨g, hp, hgl, d1⟩ := HC.out j hlt
      subst hp
      have e1 := ho.keep d1 (fun h => h)
      have hfl := HLT.out _ (List.getElem_mem hlt)
      obtain ⟨y, hy⟩ : ∃ y, y = l[j].2 := ⟨_, rfl⟩
      rw [← hy] at e1 hfl
      have i0 : (0 : Int) ≤ (j : Int) := by omega
      have i1 : (j : Int) < (l.length : Int) := by omega
      have hst : ((l.take (j + 1)).map fun p => (X.nowAt p.2).size).sum = n + (X.nowAt y).size := by
        rw [List.take_succ_eq_append_getElem hlt, List.map_append, List.sum_append, ← hn, hy]; simp
      have hle : n + (X.nowAt y).size ≤ 9223372036854775807 := by
        rw [← hst]
        refine Nat.le_trans ?_ hu
        conv => rhs; rw [← List.take_append_drop (j + 1) l, List.map_append, List.sum_append]
        omega
      have HST := Lib.hid hst; have HO := Lib.hid ho
      obtain ⟨t, ht⟩ : ∃ t, t = X.nowAt y := ⟨_, rfl⟩
      have cN := now_any wr r X R (H.out.off HO.out (fun _ _ h => h)) y hfl
      rw [← ht] at cN
      have CN := Lib.hid cN; clear cN
      rw [← ht] at HST hle
      have HN := Lib.hid hn
      clear d1 hy hst ho hn ht hfl
      go_wp2_with fail
      refine CN.out.mono ?_
      rintro e w2 ⟨rfl, ho2⟩
      have HO2 := Lib.hid (HO.out.trans ho2 (fun _ _ h => h)); clear ho2
      go_wp2
      go_roundw
      case rel => exact ⟨j + 1, hlt, by go_num, by rw [HST.out]; go_num, HO2.out⟩
      case measure => simp [intOf]; omega
    · have i1 : ¬ (j : Int) < (l.length : Int) := by omega
      have htk : l.take j = l := List.take_of_length_le (by omega)
      rw [htk] at hn
      have HN := Lib.hid hn; have HO := Lib.hid ho
      clear hn htk ho
      go_wp2
      go_ret
      exact ⟨by rw [← HN.out]; rfl, HO.out⟩
set_option maxHeartbeats 2000000 in
set_option maxRecDepth 100000 in
theorem sync_any (w : World) (r : Nat) (X : RefV) (F : Nat → Prop) (h : RefIn w r X F) (name : ByteArray) :
    Calls Tryz.prog 115 #[.pointer (some ⟨r, 0, none⟩), .string name] w fun e w' =>
      e = .returned (.int .i64 (X.sync name).2) ∧ RefIn w' r (X.sync name).1 (Grow F w w') ∧ Off F w w' := by
  obtain ⟨R, h, hF⟩ := h
  have HF := Lib.hid hF; clear hF
  have hbg := begin_any w r X R h
  cases hb : X.begin.2 with
  | false =>
    have hs : X.sync name = (X, 11) := by unfold RefV.sync; rw [if_pos hb]
    have he := RefV.begin_off hb
    rw [hb, he] at hbg
    have HS := Lib.hid hs; have HB := Lib.hid hbg; have H := Lib.hid h
    clear hs hb he hbg h
    go_enter Tryz.func115, Tryz.ntmps115
    go_wp2_with fail
    refine HB.out.mono ?_
    rintro e w1 ⟨rfl, h1, ho1⟩
    have H1 := Lib.hid h1; have HO1 := Lib.hid ho1; clear h1 ho1
    go_wp2
    go_ret
    rw [HS.out]
    exact ⟨rfl, ⟨R, H1.out, fun b hb => .inl (HF.out b hb)⟩, off_core H.out HF.out HO1.out⟩
  | true =>
    obtain ⟨Y, hY⟩ : ∃ Y, Y = X.begin.1 := ⟨_, rfl⟩
    have hs : X.sync name = if Y.number name < 0 then (Y, 5) else if Y.fails.2 = true then (Y.fails.1, 10) else (Y.fails.1.setF (Y.number name).toNat [Y.nowAt (Y.number name).toNat], 0) := by unfold RefV.sync; rw [hb, ← hY]; rfl
    rw [hb, ← hY] at hbg
    have HB := Lib.hid hbg; have H := Lib.hid h
    by_cases hn : Y.number name < 0
    · rw [if_pos hn] at hs
      have HS := Lib.hid hs
      obtain ⟨n, hnn⟩ : ∃ n, n = Y.number name := ⟨_, rfl⟩
      rw [← hnn] at hn
      have HNN := Lib.hid hnn
      clear hs hb hbg h hY hnn
      go_enter Tryz.func115, Tryz.ntmps115
      go_wp2_with fail
      refine HB.out.mono ?_
      rintro e w1 ⟨rfl, h1, ho1⟩
      have hnum := number_any w1 r Y R h1 name
      rw [← HNN.out] at hnum
      have H1 := Lib.hid h1; have HO1 := Lib.hid ho1; have HN := Lib.hid hnum; clear h1 ho1 hnum
      go_wp2_with fail
      refine HN.out.mono ?_
      rintro e w2 ⟨rfl, ho2⟩
      have HO2 := Lib.hid ho2; clear ho2
      go_wp2
      go_ret
      rw [HS.out]
      exact ⟨rfl, ⟨R, H1.out.off HO2.out (fun _ _ h => h), fun b hb => .inl (HF.out b hb)⟩, (off_core H.out HF.out HO1.out).trans HO2.out (fun _ _ h => h.elim)⟩
    · rw [if_neg hn] at hs
      clear h hb
      go_enter Tryz.func115, Tryz.ntmps115
      have HS0 := Lib.hid hs; have HY := Lib.hid hY
      clear hs hY hbg
      go_wp2_with fail
      refine HB.out.mono ?_
      rintro e w1 ⟨rfl, h1, ho1⟩
      obtain ⟨n, hnn, hnl⟩ := number_lt h1 name (by omega)
      have hnum := number_any w1 r Y R h1 name
      have hs := HS0.out
      rw [hnn, Int.toNat_natCast] at hs
      rw [hnn] at hnum hn
      have H1 := Lib.hid h1; have HO1 := Lib.hid ho1; have HN := Lib.hid hnum; have HS := Lib.hid hs; clear h1 ho1 hnum hs HS0 hnn
      go_wp2_with fail
      refine HN.out.mono ?_
      rintro e w2 ⟨rfl, ho2⟩
      have h2 := H1.out.off ho2 (fun _ _ h => h)
      have HO2 := Lib.hid ((off_core H.out HF.out HO1.out).trans ho2 (fun _ _ h => h.elim)); have H2 := Lib.hid h2
      clear ho2 h2 HN H1
      go_wp2_with fail
      have hfa := fails_any w2 r Y R H2.out
      cases hfb : Y.fails.2 with
      | true =>
        have hs := HS.out
        rw [if_pos hfb] at hs
        rw [hfb] at hfa
        have HS2 := Lib.hid hs; have HFA := Lib.hid hfa
        clear hs hfa hfb HS
        refine HFA.out.mono ?_
        rintro e w3 ⟨rfl, h3, ho3⟩
        have H3 := Lib.hid h3; have HO3 := Lib.hid ho3; clear h3 ho3
        go_wp2
        go_ret
        rw [HS2.out]
        exact ⟨rfl, ⟨R, H3.out, fun b hb => .inl (HF.out b hb)⟩, HO2.out.trans (off_core H2.out HF.out HO3.out) (fun _ _ h => h)⟩
      | false =>
        have hs := HS.out
        rw [if_neg (by rw [hfb]; decide)] at hs
        rw [hfb] at hfa
        have HS2 := Lib.hid hs; have HFA := Lib.hid hfa
        clear hs hfa hfb HS
        refine HFA.out.mono ?_
        rintro e w3 ⟨rfl, h3, ho3⟩
        have hfs := RefV.fails_same Y
        obtain ⟨Z, hZ⟩ : ∃ Z, Z = Y.fails.1 := ⟨_, rfl⟩
        have hzn : n < Z.files.length := by rw [hZ, hfs.1]; exact hnl
        have hnow : Y.nowAt n = Z.nowAt n := by unfold RefV.nowAt; rw [hZ, hfs.1]
        have hs := HS2.out
        rw [← hZ, hnow] at hs
        rw [← hZ] at h3
        have c1 : w3.cell? ⟨r, 1, none⟩ = some R.fv := Heap.cell h3.core 1
        obtain ⟨g, c, hfv, hgl, hle, hmx, hob, hcell⟩ := own_cell h3.frow (by omega)
        have hfsl : n < R.fs.length := by have := h3.frow.1; omega
        obtain ⟨c9, _⟩ := hcell n _ (List.getElem?_eq_getElem hfsl)
        obtain ⟨cur, hcur⟩ := own_block h3.frow hob
        have HW := Lib.hid (fun w' (ho : Off None w3 w') => now_any w' r Z R (h3.off ho (fun _ _ h => h)) n hzn)
        have hrg : r ≠ g := fun e => by have h5 := h3.rF g hob; rw [← e, h3.rD] at h5; omega
        obtain ⟨t, ht⟩ : ∃ t, t = Z.nowAt n := ⟨_, rfl⟩
        rw [← ht] at HW hs
        rw [hfv] at c1
        have HS3 := Lib.hid hs; have H3 := Lib.hid h3; have HO3 := Lib.hid (HO2.out.trans (off_core H2.out HF.out ho3) (fun _ _ h => h)); have HFV := Lib.hid hfv; have HOB := Lib.hid hob; have HT := Lib.hid ht
        obtain ⟨m, hm⟩ : ∃ m, m = Z.files.length := ⟨_, rfl⟩
        rw [← hm] at c1 hzn hle
        have HM := Lib.hid hm
        have i0 : (0 : Int) ≤ (n : Int) := by omega
        have i1 : (n : Int) < (m : Int) := by omega
        clear h3 ho3 hs hfv hob ht hm hZ hfs hnow HS2 HFA hcell H2 HO2
        go_wp2_with fail
        have HCUR := Lib.hid hcur; have HC3 := Lib.hid H3.out.core; have HC9 := Lib.hid c9
        clear hcur c9
        go_region_held3 (fun W => W.cell? ⟨r, 1, none⟩ = some (.slice (some ⟨g, 0, none⟩) m c))
          (first | exact c1 | exact k1 | exact ((Off.refl None _).alloc _).keep k1 (fun h => h) | exact (((Off.refl (Only g) _).set n _).alloc _).keep k1 hrg)
          (first
            | (go_at_call 71; refine (HW.out _ ((Off.refl None w3).drew)).mono ?_; rintro e w4 ⟨rfl, ho4⟩; have k1 : w4.cell? ⟨r, 1, none⟩ = some (.slice (some ⟨g, 0, none⟩) m c) := ho4.keep c1 (fun h => h); have k4 := ho4.keep HC9.out (fun h => h); have k5 := Heap.frozen (ho4.at_ HCUR.out (fun h => h)) n; have hgl4 := Heap.lt (ho4.at_ HCUR.out (fun h => h))))
        go_wp2
        go_ret
        have ho34 : Off None w3 w4 := (Off.refl None w3).drew.trans ho4 (fun _ _ h => h)
        obtain ⟨w5, hw5⟩ : ∃ w5, w5 = (w4.setCell ⟨g, n, none⟩ (.slice (some ⟨w4.heap.size, 0, none⟩) 1 1)).alloc (.cells #[.string t] 9) := ⟨_, rfl⟩
        rw [← hw5]
        have ho5 : Off (Only g) w3 w5 := by rw [hw5]; exact ((ho34.mono (fun _ _ h => h.elim)).set n _).alloc _
        have hb5 : w5.heap[w4.heap.size]? = some (.cells #[.string t] 9 (0, 0)) := by
          rw [hw5]; have := Heap.alloc_new (w4.setCell ⟨g, n, none⟩ (.slice (some ⟨w4.heap.size, 0, none⟩) 1 1)) (.cells #[.string t] 9); rwa [Heap.set_size] at this
        have hf5 : w5.ownsRow 0 22 1 R.fv Z.files.length (R.fs.set n (.slice (some ⟨w4.heap.size, 0, none⟩) 1 1)) := by
          rw [hw5]
          exact ((Off.refl None _).alloc _).row (row_put (ho34.row H3.out.frow (fun _ _ h => h)) HOB.out n _) (fun _ _ h => h)
        have hin := RefAt.setFile_in H3.out HF.out n [t] (.slice (some ⟨w4.heap.size, 0, none⟩) 1 1) (ho5.mono (fun b _ e => .inl (by rw [show b = g from e]; exact HOB.out))) (by rw [← HM.out]; exact hzn) hf5
          (row_made hb5 (Nat.zero_le _) rfl (by omega)) (fun k hk => by cases hk; exact .inr ho34.size) (by simp)
        rw [HS3.out]
        exact ⟨rfl, (hin.1).mono_of HO3.out, HO3.out.trans hin.2 (fun _ _ h => h)⟩
end RefW
end Go.Proofs.YtnppdcegpojmbaaGreatDoor
