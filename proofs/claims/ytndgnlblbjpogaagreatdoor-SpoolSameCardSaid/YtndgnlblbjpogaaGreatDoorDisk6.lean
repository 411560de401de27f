/- The plain disk: what package disk computes, without memory: files, names, changes. No program stands here. · How a disk lies in memory: its own block, the rows of its files and of its moves, its two maps, each file's block and the row of its changes; each block has a role, so that blocks of unlike roles are unlike. · The walks of the disk's small parts: begin, fails, Ops, Fail, Stop. · A map of names in memory: looked into, put to, deleted from. · The walks of find, Read, Sync's and Cut's kin. · The walk of Used: the bytes of all files that have a name, in whatever order the map is gone through. · The walks of Read, Sync, Cut and Append: one file turns. · The walks of Sync, Cut and Append. · The walks of Append and Cut. · The walks of done, moved, Remove, Create, named. -/
import GoSem.ClaimMapViews
import Derived.Maps.Views
import Derived.IntWalk
import Derived.RowKit
import Derived.Test.YtndgnlblbjpogaaGreatDoorRows
import Derived.Test.YtndgnlblbjpogaaGreatDoorRow
import Derived.Maps.StringElems
import Derived.WalkSpells
import Derived.WalkLawsBesides
import Derived.Maps.Keyed
import Derived.StringKeys
import Derived.Maps.RangeWalk
import Derived.OwnWalk
import Derived.Deep.RegionHeld3
import Derived.Deep.AppendLies
import Derived.StillTailTactics
import Derived.Deep.RegionLaw
namespace Go.Proofs.YtndgnlblbjpogaaGreatDoor
open Go Go.RowKit
/- Names: a row of names and numbers, as the reader of a map lays it. -/
abbrev Bytes := List UInt8
abbrev NMap := List (Bytes × Nat)
namespace NMap
def toD (m : NMap) : DataW Unit := .map (m.map fun p => (.string p.1, .lit (.int .i64 p.2)))
def ins (x : Bytes × Nat) : NMap → NMap
  | [] => [x]
  | y :: r => if (Lit.string x.1).before (.string y.1) then x :: y :: r else y :: ins x r
def del (m : NMap) (k : Bytes) : NMap := m.filter fun p => decide (p.1 ≠ k)
def put (m : NMap) (k : Bytes) (v : Nat) : NMap := ins (k, v) (m.del k)
def get (m : NMap) (k : Bytes) : Option Nat := (m.find? fun p => decide (p.1 = k)).map (·.2)
def total (m : NMap) (f : Nat → Nat) : Nat := (m.map fun p => f p.2).sum
theorem sameKey_string (a b : Bytes) : (Lit.string a).sameKey (.string b) = decide (a = b) := by
  by_cases h : a = b
  · subst h; simp [Lit.sameKey]
  · rw [Maps.sameKey_ne (by simpa using h)]; simp [h]
theorem toD_ins (x : Bytes × Nat) (m : NMap) : DataW.insert (H := Unit) (.string x.1, .lit (.int .i64 x.2)) (m.map fun p => (Lit.string p.1, DataW.lit (.int .i64 p.2))) = (ins x m).map fun p => (Lit.string p.1, DataW.lit (.int .i64 p.2)) := by
  induction m with
  | nil => rfl
  | cons y r ih =>
    simp only [List.map_cons, DataW.insert, ins]
    split
    · simp
    · rw [List.map_cons, ih]
theorem toD_del (m : NMap) (k : Bytes) : m.toD.del (.string k) = (m.del k).toD := by
  show DataW.map _ = DataW.map _
  congr 1
  rw [del, List.filter_map]
  congr 1
  refine List.filter_congr fun p _ => ?_
  simp [sameKey_string]
theorem toD_put (m : NMap) (k : Bytes) (v : Nat) : m.toD.put (.string k) (.lit (.int .i64 v)) = (m.put k v).toD := by
  have h := toD_del m k
  simp only [DataW.del, toD, DataW.map.injEq] at h
  show DataW.map (DataW.insert _ _) = DataW.map _
  rw [h, toD_ins (k, v)]
  rfl
theorem has_toD (m : NMap) (k : Bytes) : Maps.has m.toD (.string k) = (m.get k).isSome := by
  show List.any _ _ = _
  rw [List.any_map, get, Option.isSome_map, Bool.eq_iff_iff, List.find?_isSome, List.any_eq_true]
  simp [sameKey_string]
theorem atKey_toD (m : NMap) (k : Bytes) (z : DataW Unit) : m.toD.atKey (.string k) z = match m.get k with | some v => .lit (.int .i64 v) | none => z := by
  have e : (m.map fun p => ((Lit.string p.1, DataW.lit (.int .i64 p.2)) : Lit × DataW Unit)).find? (fun p => p.1.sameKey (.string k)) = (m.find? fun p => decide (p.1 = k)).map fun p => (Lit.string p.1, DataW.lit (.int .i64 p.2)) := by
    rw [List.find?_map]
    congr 2
    funext p
    simp [sameKey_string]
  simp only [DataW.atKey, toD]
  rw [e, get]
  cases m.find? fun p => decide (p.1 = k) <;> rfl
theorem size_toD (m : NMap) : Maps.size m.toD = m.length := by simp [toD, Maps.size]
theorem get_mem {m : NMap} {k : Bytes} {v : Nat} (h : m.get k = some v) : (k, v) ∈ m := by
  unfold get at h
  obtain ⟨p, hp, rfl⟩ := Option.map_eq_some_iff.1 h
  have := List.find?_some hp
  simp only [decide_eq_true_eq] at this
  subst this
  exact List.mem_of_find?_eq_some hp
end NMap
/- A change of a file: bytes behind it, or how many are left. -/
structure Chg where
  s : ByteArray
  cut : Int
structure FileV where
  base : ByteArray
  now : ByteArray
  chgs : List Chg
structure Move where
  src : ByteArray
  dst : ByteArray
  file : Nat
def bytesOf (s : ByteArray) : Bytes := s.data.toList
structure DiskV where
  room : Int
  files : List FileV
  names : NMap
  base : NMap
  moves : List Move
  ops : Int
  fail : Int
  left : Int
namespace DiskV
def new (room : Int) : DiskV := ⟨max room 0, [], [], [], [], 0, 0, -1⟩
/-- An operation is counted; 11: the power is gone. -/
def begin (D : DiskV) : DiskV × Int :=
  if D.left = 0 then (D, 11)
  else ({ D with left := if 0 < D.left then D.left - 1 else D.left, ops := wrap64 (D.ops + 1) }, 0)
/-- The file of a name, and what errs. -/
def find (D : DiskV) (name : ByteArray) : DiskV × Option Nat × Int :=
  if D.left = 0 then (D, none, 11)
  else match D.names.get (bytesOf name) with
    | none => (D.begin.1, none, 5)
    | some i => (D.begin.1, some i, 0)
def fails (D : DiskV) : DiskV × Bool :=
  if D.fail < 1 then (D, false) else ({ D with fail := D.fail - 1 }, decide (D.fail = 1))
def done (m : Move) (names : NMap) : NMap :=
  if m.dst.size = 0 then names.del (bytesOf m.src) else (names.del (bytesOf m.src)).put (bytesOf m.dst) m.file
def moved (D : DiskV) (m : Move) : DiskV := { D with names := done m D.names, moves := D.moves ++ [m] }
def named (s : ByteArray) : Bool := (s.data.toList.all fun c => decide (33 ≤ c.toNat) && decide (c.toNat ≤ 126)) && decide (s.size ≠ 0) && decide (s.size ≤ 24)
def sizeAt (D : DiskV) (i : Nat) : Nat := (D.files[i]?.map fun f => f.now.size).getD 0
def used (D : DiskV) : Nat := D.names.total D.sizeAt
def create (D : DiskV) (name : ByteArray) : DiskV × Int :=
  match D.find name with
  | (D1, _, e) =>
    if e = 11 then (D1, 11)
    else if named name = false then (D1, 3)
    else if e = 0 then (D1, 4)
    else (({ D1 with files := D1.files ++ [⟨ByteArray.empty, ByteArray.empty, []⟩] } : DiskV).moved ⟨ByteArray.empty, name, D1.files.length⟩, 0)
def setFile (D : DiskV) (i : Nat) (f : FileV) : DiskV := { D with files := D.files.set i f }
def append (D : DiskV) (name s : ByteArray) : DiskV × Int :=
  match D.find name with
  | (D1, none, e) => (D1, e)
  | (D1, some i, _) =>
    if D1.room - D1.used < s.size then (D1, 9)
    else if D1.fails.2 then (D1.fails.1, 10)
    else match D1.files[i]? with
      | none => (D1, 0)
      | some f => (D1.fails.1.setFile i ⟨f.base, f.now ++ s, f.chgs ++ [⟨s, -1⟩]⟩, 0)
def cut (D : DiskV) (name : ByteArray) (n : Int) : DiskV × Int :=
  match D.find name with
  | (D1, none, e) => (D1, e)
  | (D1, some i, _) =>
    match D1.files[i]? with
    | none => (D1, 0)
    | some f => if n < 0 ∨ (f.now.size : Int) < n then (D1, 1) else (D1.setFile i ⟨f.base, f.now.extract 0 n.toNat, f.chgs ++ [⟨ByteArray.empty, n⟩]⟩, 0)
def sync (D : DiskV) (name : ByteArray) : DiskV × Int :=
  match D.find name with
  | (D1, none, e) => (D1, e)
  | (D1, some i, _) =>
    if D1.fails.2 then (D1.fails.1, 10)
    else match D1.files[i]? with
      | none => (D1, 0)
      | some f => (D1.fails.1.setFile i ⟨f.now, f.now, []⟩, 0)
def remove (D : DiskV) (name : ByteArray) : DiskV × Int :=
  match D.find name with
  | (D1, none, e) => (D1, e)
  | (D1, some _, _) => (D1.moved ⟨name, ByteArray.empty, 0⟩, 0)
def syncDir (D : DiskV) : DiskV × Int :=
  match D.begin with
  | (D1, e) => if e = 0 then ({ D1 with base := D1.names, moves := [] }, 0) else (D1, e)
def read (D : DiskV) (name : ByteArray) : ByteArray × Int :=
  if D.left = 0 then (ByteArray.empty, 11)
  else match D.names.get (bytesOf name) with
    | none => (ByteArray.empty, 5)
    | some i => ((D.files[i]?.map (·.now)).getD ByteArray.empty, 0)
end DiskV
end Go.Proofs.YtndgnlblbjpogaaGreatDoor
namespace Go.Proofs.YtndgnlblbjpogaaGreatDoor
open Go Go.RowKit

def chgCells (c : Chg) : List Value := [.string c.s, .int .i64 c.cut]
def moveCells (m : Move) : List Value := [.string m.src, .string m.dst, .int .i64 m.file]
def ptrTo (b : Nat) : Value := .pointer (some ⟨b, 0, none⟩)
structure DiskRep where
  fv : Value
  mv : Value
  nm : Nat
  bm : Nat
  fbs : List Nat
  cvs : List Value
  role : Nat → Nat
def coreCells (D : DiskV) (R : DiskRep) : Array Value :=
  #[.int .i64 D.room, R.fv, .map (some R.nm), .map (some R.bm), R.mv, .int .i64 D.ops, .int .i64 D.fail, .int .i64 D.left]
structure FileAt (w : World) (b : Nat) (cv : Value) (f : FileV) : Prop where
  blk : w.heap[b]? = some (.cells #[.string f.base, .string f.now, cv] 154 (0, 0))
  row : w.ownsRow 0 180 2 cv f.chgs.length (f.chgs.flatMap chgCells)
abbrev MapAt (w : World) (b : Nat) (m : NMap) : Prop := w.ownsMap (H := Unit) Tryz.prog 9 (Go.plainElem Tryz.prog 3) b m.length m.toD
structure DiskV.Wf (D : DiskV) : Prop where
  room : 0 ≤ D.room ∧ D.room ≤ 9223372036854775807
  ops : -9223372036854775808 ≤ D.ops ∧ D.ops ≤ 9223372036854775807
  fail : 0 ≤ D.fail ∧ D.fail ≤ 9223372036854775807
  left : -1 ≤ D.left ∧ D.left ≤ 9223372036854775807
  names : ∀ p ∈ D.names, p.2 < D.files.length
  base : ∀ p ∈ D.base, p.2 < D.files.length
  moves : ∀ m ∈ D.moves, m.dst.size ≠ 0 → m.file < D.files.length
structure DiskAt (w : World) (d : Nat) (D : DiskV) (R : DiskRep) : Prop where
  wf : D.Wf
  core : w.heap[d]? = some (.cells (coreCells D R) 97 (0, 0))
  frow : w.ownsRow 0 149 1 R.fv D.files.length (R.fbs.map ptrTo)
  each : ∀ i f, D.files[i]? = some f → ∃ b cv, R.fbs[i]? = some b ∧ R.cvs[i]? = some cv ∧ FileAt w b cv f ∧ R.role b = 6 + 2 * i ∧ (∀ k, cv.ownBlock = some k → R.role k = 7 + 2 * i)
  clen : R.cvs.length = D.files.length
  names : MapAt w R.nm D.names
  base : MapAt w R.bm D.base
  mrow : w.ownsRow 0 171 3 R.mv D.moves.length (D.moves.flatMap moveCells)
  rD : R.role d = 1
  rN : R.role R.nm = 2
  rB : R.role R.bm = 3
  rF : ∀ k, R.fv.ownBlock = some k → R.role k = 4
  rM : ∀ k, R.mv.ownBlock = some k → R.role k = 5
  old : ∀ b, R.role b ≠ 0 → b < w.heap.size
/-- A disk lies at block d, and all of it in F. -/
def DiskIn (w : World) (d : Nat) (D : DiskV) (F : Nat → Prop) : Prop := ∃ R, DiskAt w d D R ∧ ∀ b, R.role b ≠ 0 → F b
theorem FileAt.off {G : Nat → Prop} {w w' : World} {b : Nat} {cv : Value} {f : FileV} (h : FileAt w b cv f) (ho : Off G w w') (hb : ¬ G b) (hc : ∀ k, cv.ownBlock = some k → ¬ G k) : FileAt w' b cv f :=
  ⟨ho.at_ h.blk hb, ho.row h.row hc⟩
theorem map_tight {w : World} {b n : Nat} {m : NMap} (h : w.ownsMap (H := Unit) Tryz.prog 9 (Go.plainElem Tryz.prog 3) b n m.toD) : MapAt w b m := by
  obtain ⟨es, clock, hb, F, hs, e⟩ := h
  refine ⟨es, clock, hb, F, ?_, e⟩
  have := congrArg (Maps.size (H := Unit)) e
  rw [NMap.size_toD] at this
  simp only [Maps.size, length_read] at this
  omega
theorem DiskAt.len {w : World} {d : Nat} {D : DiskV} {R : DiskRep} (h : DiskAt w d D R) : R.fbs.length = D.files.length := by
  have := h.frow.1
  simpa using this
/-- A disk is as it was where nothing of it has turned. -/
theorem DiskAt.off {G : Nat → Prop} {w w' : World} {d : Nat} {D : DiskV} {R : DiskRep} (h : DiskAt w d D R) (ho : Off G w w') (hG : ∀ b, R.role b ≠ 0 → ¬ G b) : DiskAt w' d D R where
  wf := h.wf
  core := ho.at_ h.core (hG d (by rw [h.rD]; omega))
  frow := ho.row h.frow (fun k hk => hG k (by rw [h.rF k hk]; omega))
  each := fun i f hf => by
    obtain ⟨b, cv, h1, h2, h3, h4, h5⟩ := h.each i f hf
    exact ⟨b, cv, h1, h2, h3.off ho (hG b (by omega)) (fun k hk => hG k (by rw [h5 k hk]; omega)), h4, h5⟩
  clen := h.clen
  names := ho.map h.names (hG _ (by rw [h.rN]; omega))
  base := ho.map h.base (hG _ (by rw [h.rB]; omega))
  mrow := ho.row h.mrow (fun k hk => hG k (by rw [h.rM k hk]; omega))
  rD := h.rD
  rN := h.rN
  rB := h.rB
  rF := h.rF
  rM := h.rM
  old := fun b hb => Nat.lt_of_lt_of_le (h.old b hb) ho.size
theorem DiskIn.off {F G : Nat → Prop} {w w' : World} {d : Nat} {D : DiskV} (h : DiskIn w d D F) (ho : Off G w w') (hG : ∀ b, b < w.heap.size → F b → ¬ G b) : DiskIn w' d D F := by
  obtain ⟨R, h, hF⟩ := h
  exact ⟨R, h.off ho (fun b hb => hG b (h.old b hb) (hF b hb)), hF⟩
theorem DiskIn.mono {F F' : Nat → Prop} {w : World} {d : Nat} {D : DiskV} (h : DiskIn w d D F) (hF : ∀ b, b < w.heap.size → F b → F' b) : DiskIn w d D F' := by
  obtain ⟨R, h, hR⟩ := h
  exact ⟨R, h, fun b hb => hF b (h.old b hb) (hR b hb)⟩
/-- The disk's own block has turned, and nothing else: numbers alone. -/
theorem DiskAt.core' {w w' : World} {d : Nat} {D D' : DiskV} {R : DiskRep} (h : DiskAt w d D R) (ho : Off (Only d) w w') (hc : w'.heap[d]? = some (.cells (coreCells D' R) 97 (0, 0)))
    (hw : D'.Wf) (hf : D'.files = D.files) (hn : D'.names = D.names) (hb : D'.base = D.base) (hm : D'.moves = D.moves) : DiskAt w' d D' R where
  wf := hw
  core := hc
  frow := by rw [hf]; exact ho.row h.frow (fun k hk e => by have h1 := h.rF k hk; have h2 := h.rD; rw [show k = d from e] at h1; omega)
  each := fun i f hi => by
    rw [hf] at hi
    obtain ⟨b, cv, h1, h2, h3, h4, h5⟩ := h.each i f hi
    refine ⟨b, cv, h1, h2, h3.off ho (fun e => ?_) (fun k hk e => ?_), h4, h5⟩
    · have h2 := h.rD; rw [show b = d from e] at h4; omega
    · have h1 := h5 k hk; have h2 := h.rD; rw [show k = d from e] at h1; omega
  clen := by rw [hf]; exact h.clen
  names := by rw [hn]; exact ho.map h.names (fun e => by have h1 := h.rN; have h2 := h.rD; rw [show R.nm = d from e] at h1; omega)
  base := by rw [hb]; exact ho.map h.base (fun e => by have h1 := h.rB; have h2 := h.rD; rw [show R.bm = d from e] at h1; omega)
  mrow := by rw [hm]; exact ho.row h.mrow (fun k hk e => by have h1 := h.rM k hk; have h2 := h.rD; rw [show k = d from e] at h1; omega)
  rD := h.rD
  rN := h.rN
  rB := h.rB
  rF := h.rF
  rM := h.rM
  old := fun b hb => Nat.lt_of_lt_of_le (h.old b hb) ho.size
end Go.Proofs.YtndgnlblbjpogaaGreatDoor
namespace Go.Proofs.YtndgnlblbjpogaaGreatDoor
open Go Go.RowKit
namespace DiskW
theorem ret_int {k : IntKind} {a b : Int} (h : a = b) : Ending.returned (.int k a) = .returned (.int k b) := by rw [h]
theorem wrap_in (x : Int) : -9223372036854775808 ≤ wrap64 x ∧ wrap64 x ≤ 9223372036854775807 := by
  unfold wrap64; omega
theorem begin_wf {D : DiskV} (h : D.Wf) : D.begin.1.Wf := by
  unfold DiskV.begin
  split
  · exact h
  · refine ⟨h.room, wrap_in _, h.fail, ?_, h.names, h.base, h.moves⟩
    have := h.left
    show _ ≤ (if 0 < D.left then D.left - 1 else D.left) ∧ (if 0 < D.left then D.left - 1 else D.left) ≤ _
    split <;> omega
theorem begin_any (w : World) (d : Nat) (D : DiskV) (R : DiskRep) (h : DiskAt w d D R) :
    Calls Tryz.prog 129 #[.pointer (some ⟨d, 0, none⟩)] w fun e w' => e = .returned (.int .i64 D.begin.2) ∧ DiskAt w' d D.begin.1 R ∧ Off (Only d) w w' := by
  have c5 : w.cell? ⟨d, 5, none⟩ = some (.int .i64 D.ops) := Heap.cell h.core 5
  have c7 : w.cell? ⟨d, 7, none⟩ = some (.int .i64 D.left) := Heap.cell h.core 7
  have f5 : w.frozen? ⟨d, 5, none⟩ = false := Heap.frozen h.core 5
  have f7 : w.frozen? ⟨d, 7, none⟩ = false := Heap.frozen h.core 7
  have hl := h.wf.left
  have H := Lib.hid h; clear h
  rcases Int.lt_trichotomy D.left 0 with hlt | heq | hgt
  · have t1 : (D.left == 0) = false := by rw [beq_eq_false_iff_ne]; omega
    have t2 : ¬ 0 < D.left := by omega
    have e : D.begin = ({ D with left := D.left, ops := wrap64 (D.ops + 1) }, 0) := by unfold DiskV.begin; rw [if_neg (by omega), if_neg t2]
    have E := Lib.hid e; clear e
    go_enter Tryz.func129, Tryz.ntmps129
    go_wp2
    go_ret
    have hw := begin_wf H.out.wf
    rw [E.out] at hw ⊢
    have ho : Off (Only d) w (w.setCell ⟨d, 5, none⟩ (.int .i64 (wrap64 (D.ops + 1)))) := (Off.refl _ _).set 5 _
    exact ⟨rfl, H.out.core' ho ((Heap.set H.out.core 5 _).trans rfl) hw rfl rfl rfl rfl, ho⟩
  · have t1 : (D.left == 0) = true := by rw [beq_iff_eq]; omega
    have e : D.begin = (D, 11) := by unfold DiskV.begin; rw [if_pos (by omega)]
    have E := Lib.hid e; clear e heq
    go_enter Tryz.func129, Tryz.ntmps129
    go_wp2
    go_ret
    rw [E.out]
    exact ⟨rfl, H.out, Off.refl _ _⟩
  · have t1 : (D.left == 0) = false := by rw [beq_eq_false_iff_ne]; omega
    have e : D.begin = ({ D with left := D.left - 1, ops := wrap64 (D.ops + 1) }, 0) := by unfold DiskV.begin; rw [if_neg (by omega), if_pos hgt]
    have E := Lib.hid e; clear e
    go_enter Tryz.func129, Tryz.ntmps129
    go_wp2
    go_ret
    have hw := begin_wf H.out.wf
    rw [E.out] at hw ⊢
    have ho : Off (Only d) w ((w.setCell ⟨d, 7, none⟩ (.int .i64 (D.left - 1))).setCell ⟨d, 5, none⟩ (.int .i64 (wrap64 (D.ops + 1)))) :=
      ((Off.refl _ _).set 7 _).set 5 _
    exact ⟨rfl, H.out.core' ho ((Heap.set (Heap.set H.out.core 7 _) 5 _).trans rfl) hw rfl rfl rfl rfl, ho⟩
theorem fails_wf {D : DiskV} (h : D.Wf) : D.fails.1.Wf := by
  unfold DiskV.fails
  split
  · exact h
  · have := h.fail
    exact ⟨h.room, h.ops, ⟨by show 0 ≤ D.fail - 1; omega, by show D.fail - 1 ≤ _; omega⟩, h.left, h.names, h.base, h.moves⟩
theorem fails_any (w : World) (d : Nat) (D : DiskV) (R : DiskRep) (h : DiskAt w d D R) :
    Calls Tryz.prog 110 #[.pointer (some ⟨d, 0, none⟩)] w fun e w' => e = .returned (.bool D.fails.2) ∧ DiskAt w' d D.fails.1 R ∧ Off (Only d) w w' := by
  have c6 : w.cell? ⟨d, 6, none⟩ = some (.int .i64 D.fail) := Heap.cell h.core 6
  have f6 : w.frozen? ⟨d, 6, none⟩ = false := Heap.frozen h.core 6
  have hl := h.wf.fail
  have H := Lib.hid h; clear h
  by_cases hlt : D.fail < 1
  · have e : D.fails = (D, false) := by unfold DiskV.fails; rw [if_pos hlt]
    have E := Lib.hid e; clear e
    go_enter Tryz.func110, Tryz.ntmps110
    go_wp2
    go_ret
    rw [E.out]
    exact ⟨rfl, H.out, Off.refl _ _⟩
  · have e : D.fails = ({ D with fail := D.fail - 1 }, decide (D.fail = 1)) := by unfold DiskV.fails; rw [if_neg hlt]
    have E := Lib.hid e; clear e
    go_enter Tryz.func110, Tryz.ntmps110
    go_wp2
    go_ret
    have hw := fails_wf H.out.wf
    rw [E.out] at hw ⊢
    have ho : Off (Only d) w (w.setCell ⟨d, 6, none⟩ (.int .i64 (D.fail - 1))) := (Off.refl _ _).set 6 _
    refine ⟨?_, H.out.core' ho ((Heap.set H.out.core 6 _).trans rfl) hw rfl rfl rfl rfl, ho⟩
    refine congrArg (fun b => Ending.returned (.bool b)) ?_
    show ((D.fail - 1 == 0) : Bool) = decide (D.fail = 1)
    rw [Bool.eq_iff_iff, beq_iff_eq, decide_eq_true_eq]; omega
end DiskW
end Go.Proofs.YtndgnlblbjpogaaGreatDoor
namespace Go.Proofs.YtndgnlblbjpogaaGreatDoor
open Go Go.RowKit Go.Maps Go.WideShapes Go.WideMaps
theorem keyedS : Keyed Tryz.prog 9 := string_keyed Tryz.underlying9
theorem key_string (s : ByteArray) (hs : s.size ≤ maxLen) : keyOf Tryz.prog 9 (.string s) = some (.string s.data.toList) := keyOf_string_mk Tryz.underlying9 hs
def NMap.getI (m : NMap) (k : Bytes) : Int := (((m.get k).getD 0 : Nat) : Int)
theorem map_look {w : World} {b : Nat} {m : NMap} (h : MapAt w b m) (s : ByteArray) (hs : s.size ≤ maxLen) :
    (Instr.lookup 93 (.map (some b)) (.string s) true).run Tryz.prog w = .ok (.tuple #[.int .i64 (m.getI (bytesOf s)), .bool (m.get (bytesOf s)).isSome]) w := by
  have hz : (zeroValue 3).run Tryz.prog w = .ok (.int .i64 0) w := by kernel_rfl
  obtain ⟨v, ps, hrun, hv⟩ := h.look_ok keyedS Tryz.underlying93 hz (Go.plainElem_int Tryz.underlying3 (by decide)) (key_string s hs)
  obtain ⟨a, rfl, ha, _⟩ := Go.plainElem_int_inv Tryz.underlying3 hv
  rw [hrun, NMap.has_toD]
  rw [NMap.atKey_toD] at ha
  have e : a = m.getI (bytesOf s) := by
    unfold NMap.getI
    show a = (((m.get s.data.toList).getD 0 : Nat) : Int)
    cases hg : m.get s.data.toList with
    | none => rw [hg] at ha; simp at ha; rw [← ha.1]; rfl
    | some i => rw [hg] at ha; simp at ha; rw [← ha.1]; rfl
  rw [e]; rfl
theorem map_put {w : World} {b : Nat} {m : NMap} (h : MapAt w b m) (s : ByteArray) (hs : s.size ≤ maxLen) (i : Nat) (hi : i ≤ 9223372036854775807) (hm : m.length < maxLen) :
    ∃ w', (Instr.mapUpdate 93 (.map (some b)) (.string s) (.int .i64 i)).run Tryz.prog w = .ok () w' ∧ MapAt w' b (m.put (bytesOf s) i) ∧ w.mapTurned w' b := by
  have hwf : (Lit.int .i64 (i : Int)).wf = true := by simp [Lit.wf, IntKind.min, IntKind.max, IntKind.bits, IntKind.signed]; omega
  obtain ⟨w', hrun, hown, ht⟩ := h.store keyedS Tryz.underlying93 hm (key_string s hs) (Go.plainElem_int Tryz.underlying3 hwf)
  rw [NMap.toD_put] at hown
  exact ⟨w', hrun, map_tight hown, ht⟩
theorem map_del {w : World} {b : Nat} {m : NMap} (h : MapAt w b m) (s : ByteArray) (hs : s.size ≤ maxLen) (ty : TypeId) :
    ∃ w', (Builtin.delete_ #[93, 9] ty #[.map (some b), .string s]).run Tryz.prog w = .ok (.tuple #[]) w' ∧ MapAt w' b (m.del (bytesOf s)) ∧ w.mapTurned w' b := by
  obtain ⟨w', hrun, hown, ht⟩ := h.drop keyedS Tryz.underlying93 (key_string s hs) ty
  rw [NMap.toD_del] at hown
  exact ⟨w', hrun, map_tight hown, ht⟩
end Go.Proofs.YtndgnlblbjpogaaGreatDoor
namespace Go.Proofs.YtndgnlblbjpogaaGreatDoor
open Go Go.RowKit
namespace DiskW
/-- The pointer that find hands back. -/
def fptr (R : DiskRep) : Option Nat → Value
  | none => .pointer none
  | some i => match R.fbs[i]? with | some b => .pointer (some ⟨b, 0, none⟩) | none => .pointer none
theorem frow_cell {w : World} {d : Nat} {D : DiskV} {R : DiskRep} (h : DiskAt w d D R) (i : Nat) (hi : i < D.files.length) :
    ∃ g cap b, R.fv = .slice (some ⟨g, 0, none⟩) D.files.length cap ∧ R.fbs[i]? = some b ∧ w.cell? ⟨g, i, none⟩ = some (.pointer (some ⟨b, 0, none⟩)) := by
  obtain ⟨h1, h2 | ⟨g, cap, cur, hv, _, hb, hle, _, hs, ht⟩⟩ := h.frow
  · omega
  · have hl := h.len
    refine ⟨g, cap, R.fbs[i], hv, List.getElem?_eq_getElem (by omega), ?_⟩
    rw [Heap.cell hb, ← Array.getElem?_toList, ← List.getElem?_take_of_lt (j := D.files.length * 1) (by omega), ht, List.getElem?_map, List.getElem?_eq_getElem (by omega)]
    rfl
theorem file_cell {w : World} {d : Nat} {D : DiskV} {R : DiskRep} (h : DiskAt w d D R) {i : Nat} {f : FileV} (hf : D.files[i]? = some f) {b : Nat} (hb : R.fbs[i]? = some b) : w.cell? ⟨b, 1, none⟩ = some (.string f.now) := by
  obtain ⟨b', cv, h1, h2, h3, _⟩ := h.each i f hf
  cases h1.symm.trans hb
  exact Heap.cell h3.blk 1
theorem find_eq (D : DiskV) (name : ByteArray) (h : D.left ≠ 0) : D.find name = match D.names.get (bytesOf name) with | none => (D.begin.1, none, 5) | some i => (D.begin.1, some i, 0) := by
  unfold DiskV.find; rw [if_neg h] <;> (cases D.names.get (bytesOf name) <;> rfl)
theorem begin_left (D : DiskV) (h : D.left ≠ 0) : D.begin.2 = 0 := by unfold DiskV.begin; rw [if_neg h]
theorem begin_names (D : DiskV) : D.begin.1.names = D.names ∧ D.begin.1.files = D.files ∧ D.begin.1.base = D.base ∧ D.begin.1.moves = D.moves ∧ D.begin.1.room = D.room ∧ D.begin.1.fail = D.fail := by
  unfold DiskV.begin; split <;> exact ⟨rfl, rfl, rfl, rfl, rfl, rfl⟩
theorem find_any (w : World) (d : Nat) (D : DiskV) (R : DiskRep) (h : DiskAt w d D R) (name : ByteArray) (hn : name.size ≤ maxLen) :
    Calls Tryz.prog 109 #[.pointer (some ⟨d, 0, none⟩), .string name] w fun e w' =>
      e = .returned (.tuple #[fptr R (D.find name).2.1, .int .i64 (D.find name).2.2]) ∧ DiskAt w' d (D.find name).1 R ∧ Off (Only d) w w' := by
  have H := Lib.hid h; clear h
  have HN := Lib.hid hn; clear hn
  by_cases hl : D.left = 0
  · have e : D.find name = (D, none, 11) := by unfold DiskV.find; rw [if_pos hl]
    have e2 : D.begin = (D, 11) := by unfold DiskV.begin; rw [if_pos hl]
    have E := Lib.hid e; clear e hl
    have E2 := Lib.hid e2; clear e2
    go_enter Tryz.func109, Tryz.ntmps109
    go_wp2_with fail
    refine (begin_any _ _ _ _ H.out).mono ?_
    rw [E2.out]
    rintro e w' ⟨rfl, h1, ho⟩
    have H1 := Lib.hid h1; clear h1
    have HO := Lib.hid ho; clear ho
    go_wp2
    go_ret2
    rw [E.out]
    exact ⟨rfl, H1.out, HO.out⟩
  · have e2 := begin_left D hl
    have E := Lib.hid (find_eq D name hl)
    have E2 := Lib.hid e2; clear e2 hl
    go_enter Tryz.func109, Tryz.ntmps109
    go_wp2_with fail
    refine (begin_any _ _ _ _ H.out).mono ?_
    rw [E2.out]
    rintro e w1 ⟨rfl, h1, ho⟩
    have c2 : w1.cell? ⟨d, 2, none⟩ = some (.map (some R.nm)) := Heap.cell h1.core 2
    have c1 : w1.cell? ⟨d, 1, none⟩ = some R.fv := Heap.cell h1.core 1
    have hlook := map_look h1.names name HN.out
    rw [(begin_names D).1] at hlook
    have H1 := Lib.hid h1; clear h1
    have HO := Lib.hid ho; clear ho
    cases hg : D.names.get (bytesOf name) with
    | none =>
      have HG := Lib.hid hg
      rw [hg] at hlook
      simp only [Option.isSome_none] at hlook
      clear hg
      go_wp2
      go_ret2
      rw [E.out, HG.out]
      exact ⟨rfl, H1.out, HO.out⟩
    | some i =>
      have HG := Lib.hid hg
      have hi : i < D.files.length := H.out.wf.names _ (NMap.get_mem hg)
      have hgi : D.names.getI (bytesOf name) = (i : Int) := by unfold NMap.getI; rw [hg]; rfl
      rw [hgi, hg] at hlook
      simp only [Option.isSome_some] at hlook
      clear hg hgi
      obtain ⟨g, cap, b, hfv, hfb, hcell⟩ := frow_cell H1.out i (by rw [(begin_names D).2.1]; exact hi)
      rw [(begin_names D).2.1] at hfv
      rw [hfv] at c1
      clear hfv
      have HFB := Lib.hid hfb; clear hfb
      go_wp2
      go_ret2
      rw [E.out, HG.out]
      refine ⟨?_, H1.out, HO.out⟩
      show _ = Ending.returned (.tuple #[fptr R (some i), .int .i64 0])
      rw [fptr, HFB.out]; rfl
end DiskW
end Go.Proofs.YtndgnlblbjpogaaGreatDoor
namespace Go.Proofs.YtndgnlblbjpogaaGreatDoor
open Go Go.RowKit Go.Maps
namespace NMap
/-- What has been counted: all names that are no longer to come. -/
def gone (m : NMap) (f : Nat → Nat) (left : Lit → Bool) : Nat := (m.map fun p => if left (.string p.1) then 0 else f p.2).sum
theorem gone_all (m : NMap) (f : Nat → Nat) (left : Lit → Bool) (h : ∀ p ∈ m, left (.string p.1) = false) : m.gone f left = m.total f := by
  unfold gone total
  congr 1
  exact List.map_congr_left fun p hp => by rw [h p hp]; rfl
theorem gone_none (m : NMap) (f : Nat → Nat) (left : Lit → Bool) (h : ∀ p ∈ m, left (.string p.1) = true) : m.gone f left = 0 := by
  unfold gone
  have : (m.map fun p => if left (.string p.1) then 0 else f p.2) = m.map fun _ => 0 := List.map_congr_left fun p hp => by rw [h p hp]; rfl
  rw [this]
  induction m <;> simp_all
theorem gone_le (m : NMap) (f : Nat → Nat) (left : Lit → Bool) : m.gone f left ≤ m.total f := by
  unfold gone total
  induction m with
  | nil => simp
  | cons p r ih => simp only [List.map_cons, List.sum_cons]; split <;> omega
theorem gone_step (m : NMap) (f : Nat → Nat) (left : Lit → Bool) (hd : m.Pairwise fun p q => p.1 ≠ q.1) (k : Bytes) (v : Nat) (hm : (k, v) ∈ m) (hl : left (.string k) = true) :
    m.gone f (fun z => left z && !z.sameKey (.string k)) = m.gone f left + f v := by
  induction m with
  | nil => simp at hm
  | cons p r ih =>
    obtain ⟨hp, hr⟩ := List.pairwise_cons.1 hd
    unfold gone at ih ⊢
    simp only [List.map_cons, List.sum_cons, sameKey_string] at ih ⊢
    rcases List.mem_cons.1 hm with rfl | hm'
    · have e : (r.map fun p => if (left (.string p.1) && !decide (p.1 = k)) = true then 0 else f p.2) = r.map fun p => if left (.string p.1) = true then 0 else f p.2 :=
        List.map_congr_left fun q hq => by
          have : q.1 ≠ k := fun e => hp q hq e.symm
          simp [this]
      rw [e]
      simp [hl]
      omega
    · have := ih hr hm'
      rw [this]
      have hne : p.1 ≠ k := hp _ hm'
      simp [hne]
      omega
theorem get_of_mem {m : NMap} (hd : m.Pairwise fun p q => p.1 ≠ q.1) {k : Bytes} {v : Nat} (h : (k, v) ∈ m) : m.get k = some v := by
  unfold get
  induction m with
  | nil => simp at h
  | cons p r ih =>
    obtain ⟨hp, hr⟩ := List.pairwise_cons.1 hd
    rw [List.find?_cons]
    rcases List.mem_cons.1 h with rfl | h'
    · simp
    · rw [show decide (p.1 = k) = false by simpa using hp _ h']
      exact ih hr h'
end NMap
theorem map_apart {w : World} {b : Nat} {m : NMap} (h : MapAt w b m) : m.Pairwise fun p q => p.1 ≠ q.1 := by
  obtain ⟨es, e, hp, _⟩ := h.entries keyedS
  simp only [NMap.toD, DataW.map.injEq] at e
  rw [← e] at hp
  exact (List.pairwise_map.1 hp).imp fun h e => h (by rw [e])
theorem map_range {m : NMap} {kl : Lit} {x : ByteArray} {c : Int} {y : DataW Unit × List MemPlace} (hkl : keyOf Tryz.prog 9 (.string x) = some kl)
    (hv : Go.plainElem (H := Unit) Tryz.prog 3 (.int .i64 c) = some y) (hat : ∀ zd, m.toD.atKey kl zd = y.1) :
    kl = .string (bytesOf x) ∧ ∃ i, m.get (bytesOf x) = some i ∧ c = (i : Int) ∧ (bytesOf x, i) ∈ m := by
  have hk : kl = .string (bytesOf x) := by
    simp only [keyOf, Tryz.underlying9, mapKey] at hkl
    split at hkl
    · exact (Option.some.inj hkl).symm
    · cases hkl
  subst hk
  obtain ⟨a, ea, rfl, _⟩ := Go.plainElem_int_inv Tryz.underlying3 hv
  cases ea
  have h0 := hat (.lit (.bool true))
  rw [NMap.atKey_toD] at h0
  cases hg : m.get (bytesOf x) with
  | none => rw [hg] at h0; simp at h0
  | some i =>
    rw [hg] at h0
    simp at h0
    exact ⟨rfl, i, rfl, h0.symm, NMap.get_mem hg⟩
theorem keyOf_string_shape {key : Value} {kl : Lit} (h : keyOf Tryz.prog 9 key = some kl) : ∃ x, key = .string x := by
  cases key <;> simp [keyOf, Tryz.underlying9, mapKey] at h
  exact ⟨_, rfl⟩
namespace DiskW
theorem sizeAt_le {m : NMap} {p : Bytes × Nat} (hp : p ∈ m) (f : Nat → Nat) : f p.2 ≤ m.total f := by
  unfold NMap.total
  induction m with
  | nil => simp at hp
  | cons q r ih =>
    simp only [List.map_cons, List.sum_cons]
    rcases List.mem_cons.1 hp with rfl | h
    · omega
    · have := ih h; omega
theorem used_any (w : World) (d : Nat) (D : DiskV) (R : DiskRep) (h : DiskAt w d D R) (hu : D.used ≤ 9223372036854775807) :
    Calls Tryz.prog 164 #[.pointer (some ⟨d, 0, none⟩)] w fun e w' => e = .returned (.int .i64 D.used) ∧ Off None w w' := by
  have c2 : w.cell? ⟨d, 2, none⟩ = some (.map (some R.nm)) := Heap.cell h.core 2
  have H := Lib.hid h; clear h
  go_enter Tryz.func164, Tryz.ntmps164
  go_wp2_with (at_range; refine wpList_range_own _ rfl _ 93 rfl 9 3 keyedS Tryz.underlying93 _ R.nm D.names.length D.names.toD rfl H.out.names ?_; intro w0 hrg0 hg0 hs0)
  have HRG := Lib.hid hrg0; clear hrg0
  have HG0 := Lib.hid (((Off.refl None w).grown hg0 (by intro k hk; cases hk))); clear hg0
  have HS0 := Lib.hid hs0; clear hs0
  go_frame
  go_loopw [3] (fun n wr => ∃ left cnt, wr.ranges Tryz.prog 9 (Go.plainElem Tryz.prog 3) R.nm w.heap.size D.names.length D.names.toD left cnt ∧ Off None w wr ∧ n = .int .i64 (D.names.gone D.sizeAt left)) (fun _ wr => wr.rangeLeft R.nm w.heap.size)
  case atStart =>
    refine ⟨_, _, HRG.out, HG0.out, ?_⟩
    rw [NMap.gone_none _ _ _ (fun p hp => by
      rw [NMap.has_toD]
      rw [NMap.get_of_mem (map_apart H.out.names) (show (p.1, p.2) ∈ D.names from hp)]; rfl)]
    rfl
  case round =>
    obtain ⟨left, cnt, hrg, hoff, rfl⟩ := hrel
    have hgl := NMap.gone_le D.names D.sizeAt left
    have hgb : D.names.gone D.sizeAt left ≤ 9223372036854775807 := Nat.le_trans hgl hu
    have HR := Lib.hid hrg; clear hrg
    have HO := Lib.hid hoff; clear hoff
    go_wp2_with (at_next; refine wpList_next_ranges _ rfl _ rfl 9 keyedS _ Value.string (Value.int .i64) (fun key kl hk => ?k1) (fun v y hv => ?k2) R.nm w.heap.size D.names.length D.names.toD left cnt rfl HR.out ?_ ?_)
    case k1 => exact keyOf_string_shape hk
    case k2 => obtain ⟨c, rfl, _⟩ := Go.plainElem_int_inv Tryz.underlying3 hv; exact ⟨c, rfl⟩
    · intro hc0 hl0
      have e := NMap.gone_all D.names D.sizeAt left (fun p _ => hl0 _)
      have E := Lib.hid e; clear e hl0
      go_wp2
      go_ret
      exact ⟨ret_int (by rw [E.out]; rfl), HO.out⟩
    · intro x c kl ya yb w1 cnt1 hkl hlk hv hat hrg1 hlt hg1 hs1 hen
      obtain ⟨rfl, i, hgi, rfl, hmem⟩ := map_range hkl hv hat
      have hi : i < D.files.length := H.out.wf.names _ hmem
      obtain ⟨f, hf⟩ : ∃ f, D.files[i]? = some f := ⟨_, List.getElem?_eq_getElem hi⟩
      have hoff1 : Off None w w1 := HO.out.grown hg1 (by intro k hk; cases hk; exact .inr (Nat.le_refl _))
      have hsz : D.sizeAt i = f.now.size := by unfold DiskV.sizeAt; rw [hf]; rfl
      have hstep := NMap.gone_step D.names D.sizeAt left (map_apart H.out.names) (bytesOf x) i hmem hlk
      rw [hsz] at hstep
      have hle := NMap.gone_le D.names D.sizeAt (fun z => left z && !z.sameKey (.string (bytesOf x)))
      rw [hstep] at hle
      have hsum : D.names.gone D.sizeAt left + f.now.size ≤ 9223372036854775807 := Nat.le_trans hle hu
      obtain ⟨g, cap, b, hfv, hfb, hcell⟩ := frow_cell (H.out.off hoff1 (fun _ _ h => h)) i hi
      have hfile := file_cell (H.out.off hoff1 (fun _ _ h => h)) hf hfb
      have c1 : w1.cell? ⟨d, 1, none⟩ = some R.fv := Heap.cell (H.out.off hoff1 (fun _ _ h => h)).core 1
      rw [hfv] at c1
      have HRG1 := Lib.hid hrg1; clear hrg1
      have HOF := Lib.hid hoff1; clear hoff1
      have HST := Lib.hid hstep
      have HLT : cnt1 < cnt := hlt
      clear hkl hv hat hg1 hs1 hmem hgi hsz hle hstep hfv hf hfb
      go_wp2
      go_roundw
      case rel => exact ⟨_, cnt1, HRG1.out, HOF.out, by rw [HST.out]; go_num⟩
      case measure => rw [HRG1.out.left_eq, HR.out.left_eq]; exact hlt
end DiskW
end Go.Proofs.YtndgnlblbjpogaaGreatDoor
namespace Go.Proofs.YtndgnlblbjpogaaGreatDoor
open Go Go.RowKit
def DiskRep.setCv (R : DiskRep) (i : Nat) (cv : Value) (n : Nat) : DiskRep :=
  { R with cvs := R.cvs.set i cv, role := fun k => if k < n then R.role k else if cv.ownBlock = some k then 7 + 2 * i else 0 }
/-- One file's block, and the row of its changes, have turned; nothing else of the disk has. -/
theorem DiskAt.setFile {w w' : World} {d : Nat} {D : DiskV} {R : DiskRep} (h : DiskAt w d D R) {i : Nat} {f f' : FileV} {b : Nat} {cv cv' : Value} (hi : D.files[i]? = some f) (hb : R.fbs[i]? = some b) (hc : R.cvs[i]? = some cv)
    (ho : Off (fun k => k = b ∨ cv.ownBlock = some k) w w') (hf : FileAt w' b cv' f') (hcv : ∀ k, cv'.ownBlock = some k → cv.ownBlock = some k ∨ w.heap.size ≤ k) :
    DiskAt w' d (D.setFile i f') (R.setCv i cv' w.heap.size) := by
  obtain ⟨b0, cv0, e1, e2, e3, e4, e5⟩ := h.each i f hi
  cases e1.symm.trans hb
  cases e2.symm.trans hc
  have hro : ∀ k, R.role k ≠ 0 → (R.setCv i cv' w.heap.size).role k = R.role k := fun k hk => by
    show (if k < w.heap.size then _ else _) = _
    rw [if_pos (h.old k hk)]
  have far : ∀ k, R.role k ≠ 0 → R.role k ≠ 6 + 2 * i → R.role k ≠ 7 + 2 * i → ¬ (k = b ∨ cv.ownBlock = some k) := by
    intro k h0 h1 h2 hk
    rcases hk with rfl | hk
    · exact h1 e4
    · exact h2 (e5 k hk)
  have hlen : i < D.files.length := (List.getElem?_eq_some_iff.1 hi).1
  refine { wf := ⟨h.wf.room, h.wf.ops, h.wf.fail, h.wf.left, ?_, ?_, ?_⟩, core := ?_, frow := ?_, each := ?_, clen := ?_, names := ?_, base := ?_, mrow := ?_, rD := ?_, rN := ?_, rB := ?_, rF := ?_, rM := ?_, old := ?_ }
  · intro p hp; have := h.wf.names p hp; simpa [DiskV.setFile] using this
  · intro p hp; have := h.wf.base p hp; simpa [DiskV.setFile] using this
  · intro m hm hd; have := h.wf.moves m hm hd; simpa [DiskV.setFile] using this
  · exact ho.at_ h.core (far d (by rw [h.rD]; omega) (by rw [h.rD]; omega) (by rw [h.rD]; omega))
  · have := ho.row h.frow (fun k hk => far k (by rw [h.rF k hk]; omega) (by rw [h.rF k hk]; omega) (by rw [h.rF k hk]; omega))
    show w'.ownsRow 0 149 1 R.fv (D.files.set i f').length (R.fbs.map ptrTo)
    rwa [List.length_set]
  · intro j g hj
    by_cases e : i = j
    · subst e
      simp only [DiskV.setFile, List.getElem?_set_self hlen, Option.some.injEq] at hj
      subst hj
      have hcl : i < R.cvs.length := by rw [h.clen]; exact hlen
      refine ⟨b, cv', hb, by show (R.cvs.set i cv')[i]? = _; rw [List.getElem?_set_self hcl], hf, by rw [hro b (by omega), e4], ?_⟩
      intro k hk
      show (if k < w.heap.size then R.role k else if cv'.ownBlock = some k then _ else 0) = _
      rcases hcv k hk with h' | h'
      · have := row_lt e3.row h'
        rw [if_pos this, e5 k h']
      · rw [if_neg (by omega), if_pos hk]
    · simp only [DiskV.setFile, List.getElem?_set_ne e] at hj
      obtain ⟨b1, cv1, g1, g2, g3, g4, g5⟩ := h.each j g hj
      refine ⟨b1, cv1, g1, by show (R.cvs.set i cv')[j]? = _; rw [List.getElem?_set_ne e]; exact g2, g3.off ho (far b1 (by omega) (by omega) (by omega)) (fun k hk => far k (by rw [g5 k hk]; omega) (by rw [g5 k hk]; omega) (by rw [g5 k hk]; omega)), by rw [hro b1 (by omega), g4], fun k hk => by rw [hro k (by rw [g5 k hk]; omega), g5 k hk]⟩
  · show (R.cvs.set i cv').length = (D.files.set i f').length
    simp [h.clen]
  · exact ho.map h.names (far R.nm (by rw [h.rN]; omega) (by rw [h.rN]; omega) (by rw [h.rN]; omega))
  · exact ho.map h.base (far R.bm (by rw [h.rB]; omega) (by rw [h.rB]; omega) (by rw [h.rB]; omega))
  · exact ho.row h.mrow (fun k hk => far k (by rw [h.rM k hk]; omega) (by rw [h.rM k hk]; omega) (by rw [h.rM k hk]; omega))
  · rw [hro d (by rw [h.rD]; omega), h.rD]
  · show (R.setCv i cv' w.heap.size).role R.nm = 2
    rw [hro _ (by rw [h.rN]; omega), h.rN]
  · show (R.setCv i cv' w.heap.size).role R.bm = 3
    rw [hro _ (by rw [h.rB]; omega), h.rB]
  · intro k hk
    rw [hro k (by rw [h.rF k hk]; omega), h.rF k hk]
  · intro k hk
    rw [hro k (by rw [h.rM k hk]; omega), h.rM k hk]
  · intro k hk
    have hs := ho.size
    by_cases hlt : k < w.heap.size
    · omega
    · have hk' : (if k < w.heap.size then R.role k else if cv'.ownBlock = some k then 7 + 2 * i else 0) ≠ 0 := hk
      rw [if_neg hlt] at hk'
      split at hk'
      · rename_i hk2; exact row_lt hf.row hk2
      · exact absurd rfl hk'
/-- .. and all of the disk lies in F, and in what is new. -/
theorem DiskRep.setCv_in {R : DiskRep} {F : Nat → Prop} {i : Nat} {cv : Value} {w w' : World} (hF : ∀ b, R.role b ≠ 0 → F b) (hcv : ∀ k, cv.ownBlock = some k → k < w'.heap.size) :
    ∀ b, (R.setCv i cv w.heap.size).role b ≠ 0 → Grow F w w' b := by
  intro b hb
  by_cases hlt : b < w.heap.size
  · refine .inl (hF b ?_)
    have hb' : (if b < w.heap.size then R.role b else _) ≠ 0 := hb
    rwa [if_pos hlt] at hb'
  · have hb' : (if b < w.heap.size then R.role b else if cv.ownBlock = some b then 7 + 2 * i else 0) ≠ 0 := hb
    rw [if_neg hlt] at hb'
    split at hb'
    · rename_i h2; exact .inr ⟨by omega, hcv b h2⟩
    · exact absurd rfl hb'
namespace DiskW
theorem read_any (w : World) (d : Nat) (D : DiskV) (R : DiskRep) (h : DiskAt w d D R) (name : ByteArray) (hn : name.size ≤ maxLen) :
    Calls Tryz.prog 96 #[.pointer (some ⟨d, 0, none⟩), .string name] w fun e w' =>
      e = .returned (.tuple #[.string (D.read name).1, .int .i64 (D.read name).2]) ∧ w = w' := by
  have c2 : w.cell? ⟨d, 2, none⟩ = some (.map (some R.nm)) := Heap.cell h.core 2
  have c1 : w.cell? ⟨d, 1, none⟩ = some R.fv := Heap.cell h.core 1
  have c7 : w.cell? ⟨d, 7, none⟩ = some (.int .i64 D.left) := Heap.cell h.core 7
  have hlook := map_look h.names name hn
  have H := Lib.hid h; clear h
  by_cases hl : D.left = 0
  · have e : D.read name = (ByteArray.empty, 11) := by unfold DiskV.read; rw [if_pos hl]
    have t1 : (D.left == 0) = true := by rw [beq_iff_eq]; exact hl
    have E := Lib.hid e; clear e hl
    go_enter Tryz.func96, Tryz.ntmps96
    go_wp2
    go_ret2
    rw [E.out]
    exact ⟨rfl, rfl⟩
  · have t1 : (D.left == 0) = false := by rw [beq_eq_false_iff_ne]; exact hl
    cases hg : D.names.get (bytesOf name) with
    | none =>
      have e : D.read name = (ByteArray.empty, 5) := by unfold DiskV.read; rw [if_neg hl, hg]
      have E := Lib.hid e
      rw [hg] at hlook
      simp only [Option.isSome_none] at hlook
      clear hg e hl
      go_enter Tryz.func96, Tryz.ntmps96
      go_wp2
      go_ret2
      rw [E.out]
      exact ⟨rfl, rfl⟩
    | some i =>
      have hi : i < D.files.length := H.out.wf.names _ (NMap.get_mem hg)
      obtain ⟨f, hf⟩ : ∃ f, D.files[i]? = some f := ⟨_, List.getElem?_eq_getElem hi⟩
      have e : D.read name = (f.now, 0) := by unfold DiskV.read; rw [if_neg hl, hg]; simp only [hf]; rfl
      have E := Lib.hid e
      have hgi : D.names.getI (bytesOf name) = (i : Int) := by unfold NMap.getI; rw [hg]; rfl
      rw [hgi, hg] at hlook
      simp only [Option.isSome_some] at hlook
      obtain ⟨g, cap, b, hfv, hfb, hcell⟩ := frow_cell H.out i hi
      have hfile := file_cell H.out hf hfb
      rw [hfv] at c1
      clear hg e hl hgi hfv hfb hf
      go_enter Tryz.func96, Tryz.ntmps96
      go_wp2
      go_ret2
      rw [E.out]
      exact ⟨rfl, rfl⟩
end DiskW
end Go.Proofs.YtndgnlblbjpogaaGreatDoor
namespace Go.Proofs.YtndgnlblbjpogaaGreatDoor
open Go Go.RowKit
theorem Grow.left {F : Nat → Prop} {w w1 w' : World} (h : Off F w w1) : ∀ b, Grow F w1 w' b → Grow F w w' b := fun _ hb => hb.imp id fun x => ⟨Nat.le_trans h.size x.1, x.2⟩
namespace DiskW
theorem find_cases (D : DiskV) (hw : D.Wf) (name : ByteArray) : (∃ D1 e, e ≠ 0 ∧ D.find name = (D1, none, e) ∧ D1.files = D.files) ∨ ∃ i f, D.find name = (D.begin.1, some i, 0) ∧ D.files[i]? = some f ∧ (bytesOf name, i) ∈ D.names := by
  by_cases hl : D.left = 0
  · exact .inl ⟨D, 11, by omega, by unfold DiskV.find; rw [if_pos hl], rfl⟩
  · rw [find_eq D name hl]
    cases hg : D.names.get (bytesOf name) with
    | none => exact .inl ⟨D.begin.1, 5, by omega, rfl, (begin_names D).2.1⟩
    | some i => exact .inr ⟨i, D.files[i]'(hw.names _ (NMap.get_mem hg)), rfl, List.getElem?_eq_getElem _, NMap.get_mem hg⟩
theorem fails_same (D : DiskV) : D.fails.1.names = D.names ∧ D.fails.1.files = D.files ∧ D.fails.1.base = D.base ∧ D.fails.1.moves = D.moves ∧ D.fails.1.room = D.room := by
  unfold DiskV.fails; split <;> exact ⟨rfl, rfl, rfl, rfl, rfl⟩
theorem off_core {w w' : World} {d : Nat} {D : DiskV} {R : DiskRep} {F : Nat → Prop} (h : DiskAt w d D R) (hF : ∀ b, R.role b ≠ 0 → F b) (ho : Off (Only d) w w') : Off F w w' :=
  ho.mono fun b _ hb => by rw [show b = d from hb]; exact hF d (by rw [h.rD]; omega)
theorem off_file {w w' : World} {d : Nat} {D : DiskV} {R : DiskRep} {F : Nat → Prop} (h : DiskAt w d D R) (hF : ∀ b, R.role b ≠ 0 → F b) {i : Nat} {f : FileV} {b : Nat} {cv : Value} (hi : D.files[i]? = some f) (hb : R.fbs[i]? = some b) (hc : R.cvs[i]? = some cv)
    (ho : Off (fun k => k = b ∨ cv.ownBlock = some k) w w') : Off F w w' := by
  obtain ⟨b0, cv0, e1, e2, e3, e4, e5⟩ := h.each i f hi
  cases e1.symm.trans hb
  cases e2.symm.trans hc
  refine ho.mono fun k _ hk => ?_
  rcases hk with rfl | hk
  · exact hF _ (by omega)
  · exact hF _ (by rw [e5 k hk]; omega)
theorem off_trans {F : Nat → Prop} {w w1 w2 : World} (h1 : Off F w w1) (h2 : Off F w1 w2) : Off F w w2 := h1.trans h2 fun _ _ h => h
theorem file_at {w : World} {d : Nat} {D : DiskV} {R : DiskRep} (h : DiskAt w d D R) {i : Nat} {f : FileV} (hf : D.files[i]? = some f) {b : Nat} {cv : Value} (hb : R.fbs[i]? = some b) (hc : R.cvs[i]? = some cv) : FileAt w b cv f := by
  obtain ⟨b', cv', h1, h2, h3, _⟩ := h.each i f hf
  cases h1.symm.trans hb
  cases h2.symm.trans hc
  exact h3
theorem sync_any (w : World) (d : Nat) (D : DiskV) (F : Nat → Prop) (h : DiskIn w d D F) (name : ByteArray) (hn : name.size ≤ maxLen) :
    Calls Tryz.prog 79 #[.pointer (some ⟨d, 0, none⟩), .string name] w fun e w' =>
      e = .returned (.int .i64 (D.sync name).2) ∧ DiskIn w' d (D.sync name).1 (Grow F w w') ∧ Off F w w' := by
  obtain ⟨R, h, hF⟩ := h
  have HF := Lib.hid hF; clear hF
  rcases find_cases D h.wf name with ⟨D1, er, her, hfd, _⟩ | ⟨i, f, hfd, hf, _⟩
  · have H := Lib.hid h; clear h
    have hs : D.sync name = (D1, er) := by unfold DiskV.sync; rw [hfd]
    have hfa := find_any w d D R H.out name hn
    rw [hfd, show fptr R none = .pointer none from rfl] at hfa
    have HFA := Lib.hid hfa
    have HS := Lib.hid hs
    have t1 : (er != 0) = true := by rw [bne_iff_ne]; exact her
    clear hfa hs hfd her
    go_enter Tryz.func79, Tryz.ntmps79
    go_wp2_with fail
    refine HFA.out.mono ?_
    rintro e w1 ⟨rfl, h1, ho⟩
    have H1 := Lib.hid h1; clear h1
    have HO := Lib.hid ho; clear ho
    go_wp2
    go_ret
    rw [HS.out]
    exact ⟨rfl, ⟨R, H1.out, fun b hb => .inl (HF.out b hb)⟩, off_core H.out HF.out HO.out⟩
  · have H := Lib.hid h; clear h
    have hfa := find_any w d D R H.out name hn
    obtain ⟨b, cv, e1, e2, e3, e4, e5⟩ := H.out.each i f hf
    rw [hfd, show fptr R (some i) = .pointer (some ⟨b, 0, none⟩) from by rw [fptr, e1]] at hfa
    have HFA := Lib.hid hfa
    have HFD := Lib.hid hfd
    have HFF := Lib.hid hf
    have E1 := Lib.hid e1
    have E2 := Lib.hid e2
    clear hfa hfd hf e3 e4 e5 e2 e1
    go_enter Tryz.func79, Tryz.ntmps79
    go_wp2_with fail
    refine HFA.out.mono ?_
    rintro e w1 ⟨rfl, h1, ho⟩
    have H1 := Lib.hid h1; clear h1
    have HO := Lib.hid ho; clear ho
    go_wp2_with fail
    refine (fails_any _ _ _ _ H1.out).mono ?_
    rintro e w2 ⟨rfl, h2, ho2⟩
    have hbk := (file_at h2 (show D.begin.1.fails.1.files[i]? = some f by rw [(fails_same _).2.1, (begin_names D).2.1]; exact HFF.out) E1.out E2.out).blk
    have c0 : w2.cell? ⟨b, 0, none⟩ = some (.string f.base) := Heap.cell hbk 0
    have c1 : w2.cell? ⟨b, 1, none⟩ = some (.string f.now) := Heap.cell hbk 1
    have c2 : w2.cell? ⟨b, 2, none⟩ = some cv := Heap.cell hbk 2
    have f0 : w2.frozen? ⟨b, 0, none⟩ = false := Heap.frozen hbk 0
    have f2 : w2.frozen? ⟨b, 2, none⟩ = false := Heap.frozen hbk 2
    have H2 := Lib.hid h2; clear h2
    have HO2 := Lib.hid ho2; clear ho2
    have HB := Lib.hid hbk; clear hbk
    cases hb : D.begin.1.fails.2 with
    | true =>
      have HBF := Lib.hid hb; clear hb
      have hs : D.sync name = (D.begin.1.fails.1, 10) := by unfold DiskV.sync; rw [HFD.out]; simp only [HBF.out, if_true]
      have HS := Lib.hid hs; clear hs
      go_wp2
      go_ret
      rw [HS.out]
      exact ⟨rfl, ⟨R, H2.out, fun b hb => .inl (HF.out b hb)⟩, off_trans (off_core H.out HF.out HO.out) (off_core H1.out HF.out HO2.out)⟩
    | false =>
      have HBF := Lib.hid hb; clear hb
      have hs : D.sync name = (D.begin.1.fails.1.setFile i ⟨f.now, f.now, []⟩, 0) := by
        unfold DiskV.sync; rw [HFD.out]; simp only [HBF.out, Bool.false_eq_true, if_false]; rw [(begin_names D).2.1, HFF.out]
      have HS := Lib.hid hs; clear hs
      go_wp2
      go_ret
      rw [HS.out]
      have ho3 : Off (fun k => k = b ∨ cv.ownBlock = some k) w2 ((w2.setCell ⟨b, 0, none⟩ (.string f.now)).setCell ⟨b, 2, none⟩ (.slice none 0 0)) :=
        ((Off.refl _ _).setCell (p := ⟨b, 0, none⟩) (.inl (.inl rfl)) _).setCell (p := ⟨b, 2, none⟩) (.inl (.inl rfl)) _
      have hfile : D.begin.1.fails.1.files[i]? = some f := by rw [(fails_same _).2.1, (begin_names D).2.1]; exact HFF.out
      have h3 := H2.out.setFile (f' := ⟨f.now, f.now, []⟩) (cv' := .slice none 0 0) hfile E1.out E2.out ho3
        ⟨(Heap.set (Heap.set HB.out 0 _) 2 _).trans rfl, World.ownsRow_nil _ _ _ _⟩ (fun k hk => by cases hk)
      have hoF := off_trans (off_core H.out HF.out HO.out) (off_core H1.out HF.out HO2.out)
      exact ⟨rfl, ⟨_, h3, fun b hb => Grow.left hoF b (DiskRep.setCv_in HF.out (fun k hk => by cases hk) b hb)⟩, off_trans hoF (off_file H2.out HF.out hfile E1.out E2.out ho3)⟩
end DiskW
end Go.Proofs.YtndgnlblbjpogaaGreatDoor
namespace Go.Proofs.YtndgnlblbjpogaaGreatDoor
open Go Go.RowKit
theorem infoChg : (Tryz.prog.info? 180).map (fun i => (i.zero, i.size, i.bytes)) = some (some (.agg #[.string ByteArray.empty, .int .i64 0]), 2, 24) := by kernel_rfl
namespace DiskW
theorem own_ne {w : World} {d : Nat} {D : DiskV} {R : DiskRep} (h : DiskAt w d D R) {i : Nat} {f : FileV} (hf : D.files[i]? = some f) {b : Nat} {cv : Value} (hb : R.fbs[i]? = some b) (hc : R.cvs[i]? = some cv) : cv.ownBlock ≠ some b := by
  obtain ⟨b', cv', h1, h2, _, h4, h5⟩ := h.each i f hf
  cases h1.symm.trans hb
  cases h2.symm.trans hc
  intro e
  have := h5 b e
  omega
theorem append_any (w : World) (d : Nat) (D : DiskV) (F : Nat → Prop) (h : DiskIn w d D F) (name s : ByteArray) (hn : name.size ≤ maxLen) (hs : s.size ≤ maxLen) (hu : D.used ≤ 9223372036854775807)
    (hb : ∀ f ∈ D.files, f.chgs.length ≤ 1099511627776 ∧ f.now.size + s.size ≤ maxLen) :
    Calls Tryz.prog 121 #[.pointer (some ⟨d, 0, none⟩), .string name, .string s] w fun e w' =>
      e = .returned (.int .i64 (D.append name s).2) ∧ DiskIn w' d (D.append name s).1 (Grow F w w') ∧ Off F w w' := by
  obtain ⟨R, h, hF⟩ := h
  have HF := Lib.hid hF; clear hF
  have hs' : s.size ≤ 2 ^ 63 - 1 := hs
  rcases find_cases D h.wf name with ⟨D1, er, her, hfd, _⟩ | ⟨i, f, hfd, hf, _⟩
  · have H := Lib.hid h; clear h
    have hsp : D.append name s = (D1, er) := by unfold DiskV.append; rw [hfd]
    have hfa := find_any w d D R H.out name hn
    rw [hfd, show fptr R none = .pointer none from rfl] at hfa
    have HFA := Lib.hid hfa
    have HS := Lib.hid hsp
    have t1 : (er != 0) = true := by rw [bne_iff_ne]; exact her
    clear hfa hsp hfd her hb
    go_enter Tryz.func121, Tryz.ntmps121
    go_wp2_with fail
    refine HFA.out.mono ?_
    rintro e w1 ⟨rfl, h1, ho⟩
    have H1 := Lib.hid h1; clear h1
    have HO := Lib.hid ho; clear ho
    go_wp2
    go_ret
    rw [HS.out]
    exact ⟨rfl, ⟨R, H1.out, fun b hb => .inl (HF.out b hb)⟩, off_core H.out HF.out HO.out⟩
  · have H := Lib.hid h; clear h
    have hfa := find_any w d D R H.out name hn
    obtain ⟨b, cv, e1, e2, e3, e4, e5⟩ := H.out.each i f hf
    rw [hfd, show fptr R (some i) = .pointer (some ⟨b, 0, none⟩) from by rw [fptr, e1]] at hfa
    have HFA := Lib.hid hfa
    have HFD := Lib.hid hfd
    have HFF := Lib.hid hf
    have E1 := Lib.hid e1
    have E2 := Lib.hid e2
    have hmem : f ∈ D.files := List.mem_of_getElem? hf
    have hb1 := (hb f hmem).1
    have hb2 : f.now.size + s.size ≤ 2 ^ 63 - 1 := (hb f hmem).2
    have hused : D.begin.1.used = D.used := by unfold DiskV.used DiskV.sizeAt; rw [(begin_names D).1, (begin_names D).2.1]
    have HU : Hid (D.begin.1.used ≤ 9223372036854775807) := Lib.hid (by rw [hused]; exact hu)
    have hroom := (begin_wf H.out.wf).room
    have hus : (D.begin.1.used : Int) ≤ 9223372036854775807 := by rw [hused]; omega
    have HUS := Lib.hid hused
    clear hfa hfd hf e3 e4 e5 e2 e1 hb hmem hused hu
    go_enter Tryz.func121, Tryz.ntmps121
    go_wp2_with fail
    refine HFA.out.mono ?_
    rintro e w1 ⟨rfl, h1, ho⟩
    have c0 : w1.cell? ⟨d, 0, none⟩ = some (.int .i64 D.begin.1.room) := Heap.cell h1.core 0
    have H1 := Lib.hid h1; clear h1
    have HO := Lib.hid ho; clear ho
    go_wp2_with fail
    have hwr : IntKind.i64.wrap (D.begin.1.room - (D.begin.1.used : Int)) = D.begin.1.room - (D.begin.1.used : Int) := IntWalk.i64_in _ (by omega)
    go_region_held3 (fun W => W.cell? ⟨d, 0, none⟩ = some (.int .i64 D.begin.1.room)) (first | assumption | exact c0)
      (first | (go_at_call 164; refine (used_any _ d D.begin.1 R (H1.out.off ((Off.refl None _).drew) (fun _ _ h => h)) HU.out).mono ?_; rintro e w2 ⟨rfl, ho2⟩; have c02 : w2.cell? ⟨d, 0, none⟩ = some (.int .i64 D.begin.1.room) := (ho2.cell (a := ⟨d, 0, none⟩) (Heap.block_lt c0) (fun h => h)).trans c0))
    have HO2 := Lib.hid ho2; clear ho2
    clear c0 hwr
    have h2 := H1.out.off (Off.trans ((Off.refl None w1).drew) HO2.out (fun _ _ h => h)) (fun _ _ h => h)
    have H2 := Lib.hid h2; clear h2
    by_cases hrm : D.begin.1.room - D.begin.1.used < s.size
    · have hsp : D.append name s = (D.begin.1, 9) := by unfold DiskV.append; rw [HFD.out]; simp only [if_pos hrm]
      have HS := Lib.hid hsp; clear hsp
      go_wp2
      go_ret
      rw [HS.out]
      have hoF := off_trans (off_core H.out HF.out HO.out) (Off.mono (Off.trans ((Off.refl None w1).drew) HO2.out (fun _ _ h => h)) (fun _ _ h => h.elim))
      exact ⟨rfl, ⟨R, H2.out, fun b hb => .inl (HF.out b hb)⟩, hoF⟩
    · go_wp2_with fail
      refine (fails_any _ _ _ _ H2.out).mono ?_
      rintro e w3 ⟨rfl, h3, ho3⟩
      have hfile : D.begin.1.fails.1.files[i]? = some f := by rw [(fails_same _).2.1, (begin_names D).2.1]; exact HFF.out
      have hfat := file_at h3 hfile E1.out E2.out
      have hbk := hfat.blk
      have c1 : w3.cell? ⟨b, 1, none⟩ = some (.string f.now) := Heap.cell hbk 1
      have c2 : w3.cell? ⟨b, 2, none⟩ = some cv := Heap.cell hbk 2
      have f1 : w3.frozen? ⟨b, 1, none⟩ = false := Heap.frozen hbk 1
      have hlt : b < w3.heap.size := Heap.lt hbk
      have hbc : cv.ownBlock ≠ some b := own_ne h3 hfile E1.out E2.out
      have HBC := Lib.hid hbc; clear hbc
      have HFAT := Lib.hid hfat; clear hfat hbk
      have HFI := Lib.hid hfile; clear hfile
      have H3 := Lib.hid h3; clear h3
      have HO3 := Lib.hid ho3; clear ho3
      have hoF := off_trans (off_trans (off_core H.out HF.out HO.out) (Off.mono (Off.trans ((Off.refl None w1).drew) HO2.out (fun _ _ h => h)) (fun _ _ h => h.elim))) (off_core H2.out HF.out HO3.out)
      have HOF := Lib.hid hoF; clear hoF
      cases hbf : D.begin.1.fails.2 with
      | true =>
        have HBF := Lib.hid hbf; clear hbf
        have hsp : D.append name s = (D.begin.1.fails.1, 10) := by unfold DiskV.append; rw [HFD.out]; simp only [if_neg (Int.not_lt.2 hrm), HBF.out, if_true]
        have HS := Lib.hid hsp; clear hsp
        go_wp2
        go_ret
        rw [HS.out]
        exact ⟨rfl, ⟨R, H3.out, fun b hb => .inl (HF.out b hb)⟩, HOF.out⟩
      | false =>
        have HBF := Lib.hid hbf; clear hbf
        have hsp : D.append name s = (D.begin.1.fails.1.setFile i ⟨f.base, f.now ++ s, f.chgs ++ [⟨s, -1⟩]⟩, 0) := by
          unfold DiskV.append; rw [HFD.out]; simp only [if_neg (Int.not_lt.2 hrm), HBF.out, Bool.false_eq_true, if_false]; rw [(begin_names D).2.1, HFF.out]
        have HS := Lib.hid hsp; clear hsp
        obtain ⟨i0, hi, hz0, hz1, hz2⟩ := info_parts infoChg
        have hrow4 : ∀ o, ((w3.setCell ⟨b, 1, none⟩ (.string (f.now ++ s))).alloc o).ownsRow 0 180 2 cv f.chgs.length (f.chgs.flatMap chgCells) := fun o =>
          (((Off.refl (Only b) w3).set 1 (.string (f.now ++ s))).alloc o).row HFAT.out.row (fun k hk e => HBC.out (by rw [hk, show k = b from e]))
        have HR4 := Lib.hid hrow4; clear hrow4
        go_wp2_with (at_builtin; refine wpList_append_lies _ rfl _ _ 152 rfl 0 180 i0 _ 2 24 Tryz.underlying152 hi hz0 hz1 hz2 rfl (by decide) cv f.chgs.length (f.chgs.flatMap chgCells) rfl (HR4.out _) ⟨w3.heap.size, 0, none⟩ 1 1 [.string s, .int .i64 (-1)] rfl rfl ?c1 ?c2 (by decide) ?c3 ?c4 (Nat.zero_le _) (w3.heap.size + 1) ?c5 ?_)
        case c1 => exact Heap.news _ _ _ _ (Heap.set_size _ _).symm
        case c2 => intro u hu; simp at hu; rcases hu with rfl | rfl <;> rfl
        case c3 => unfold maxLen; omega
        case c4 => omega
        case c5 => rw [Heap.alloc_size, Heap.set_size]
        intro g cap w5 hrow5 hg5 hgb _
        have hge : cv.ownBlock = some g ∨ w3.heap.size ≤ g := hgb.imp id (fun h => by omega)
        have HGE := Lib.hid hge; clear hge hgb
        have hoff5 : Off (fun k => k = b ∨ cv.ownBlock = some k) w3 w5 :=
          (((Off.refl _ w3).setCell (p := ⟨b, 1, none⟩) (.inl (.inl rfl)) (.string (f.now ++ s))).alloc _).grown hg5 (fun k hk => .inl (.inr hk))
        have hb5 : w5.heap[b]? = some (.cells #[.string f.base, .string (f.now ++ s), cv] 154 (0, 0)) := by
          have h4 := (Heap.alloc_old (Heap.set HFAT.out.blk 1 (.string (f.now ++ s))) (.cells #[.string s, .int .i64 (-1)] 180)).trans rfl
          rw [hg5.block b (Heap.lt h4) (fun e => HBC.out e.symm)]
          exact h4
        have c5 : w5.cell? ⟨b, 2, none⟩ = some cv := Heap.cell hb5 2
        have f5 : w5.frozen? ⟨b, 2, none⟩ = false := Heap.frozen hb5 2
        have HB5 := Lib.hid hb5; clear hb5
        have HROW := Lib.hid hrow5; clear hrow5
        have HG5 := Lib.hid hg5; clear hg5
        have HOFF := Lib.hid hoff5; clear hoff5
        go_wp2
        go_ret
        rw [HS.out]
        obtain ⟨v', hv'⟩ : ∃ v', v' = Value.slice (some ⟨g, 0, none⟩) (f.chgs.length + 1) cap := ⟨_, rfl⟩
        rw [← hv']
        have hrow := HROW.out
        rw [← hv'] at hrow
        have hog : v'.ownBlock = some g := by rw [hv']; rfl
        have ho6 := HOFF.out.setCell (p := ⟨b, 2, none⟩) (.inl (.inl rfl)) v'
        have hne : v'.ownBlock ≠ some b := by
          rw [hog]
          rcases HGE.out with h | h
          · rw [← h]; exact HBC.out
          · intro e; cases e; omega
        have hfat6 : FileAt (w5.setCell ⟨b, 2, none⟩ v') b v' ⟨f.base, f.now ++ s, f.chgs ++ [⟨s, -1⟩]⟩ :=
          ⟨(Heap.set HB5.out 2 v').trans rfl, ((Off.refl (Only b) w5).set 2 v').row (by simpa [chgCells] using hrow) (fun k hk e => hne (by rw [hk, show k = b from e]))⟩
        have h6 := H3.out.setFile HFI.out E1.out E2.out ho6 hfat6 (by rw [hog]; intro k hk; cases hk; exact HGE.out)
        refine ⟨rfl, ⟨_, h6, fun b hb => Grow.left HOF.out b (DiskRep.setCv_in HF.out (fun k hk => ?_) b hb)⟩, off_trans HOF.out (off_file H3.out HF.out HFI.out E1.out E2.out ho6)⟩
        exact row_lt hfat6.row hk
set_option maxRecDepth 100000 in
theorem cut_any (w : World) (d : Nat) (D : DiskV) (F : Nat → Prop) (h : DiskIn w d D F) (name : ByteArray) (n : Nat) (hn : name.size ≤ maxLen) (hs : n ≤ maxLen)
    (hb : ∀ f ∈ D.files, f.chgs.length ≤ 1099511627776 ∧ f.now.size ≤ maxLen) :
    Calls Tryz.prog 105 #[.pointer (some ⟨d, 0, none⟩), .string name, .int .i64 n] w fun e w' =>
      e = .returned (.int .i64 (D.cut name n).2) ∧ DiskIn w' d (D.cut name n).1 (Grow F w w') ∧ Off F w w' := by
  obtain ⟨R, h, hF⟩ := h
  have HF := Lib.hid hF; clear hF
  have hs' : n ≤ 2 ^ 63 - 1 := hs
  rcases find_cases D h.wf name with ⟨D1, er, her, hfd, _⟩ | ⟨i, f, hfd, hf, _⟩
  · have H := Lib.hid h; clear h
    have hsp : D.cut name n = (D1, er) := by unfold DiskV.cut; rw [hfd]
    have hfa := find_any w d D R H.out name hn
    rw [hfd, show fptr R none = .pointer none from rfl] at hfa
    have HFA := Lib.hid hfa
    have HS := Lib.hid hsp
    have t1 : (er != 0) = true := by rw [bne_iff_ne]; exact her
    clear hfa hsp hfd her hb
    go_enter Tryz.func105, Tryz.ntmps105
    go_wp2_with fail
    refine HFA.out.mono ?_
    rintro e w1 ⟨rfl, h1, ho⟩
    have H1 := Lib.hid h1; clear h1
    have HO := Lib.hid ho; clear ho
    go_wp2
    go_ret
    rw [HS.out]
    exact ⟨rfl, ⟨R, H1.out, fun b hb => .inl (HF.out b hb)⟩, off_core H.out HF.out HO.out⟩
  · have H := Lib.hid h; clear h
    have hfa := find_any w d D R H.out name hn
    obtain ⟨b, cv, e1, e2, e3, e4, e5⟩ := H.out.each i f hf
    rw [hfd, show fptr R (some i) = .pointer (some ⟨b, 0, none⟩) from by rw [fptr, e1]] at hfa
    have HFA := Lib.hid hfa
    have HFD := Lib.hid hfd
    have HFF := Lib.hid hf
    have E1 := Lib.hid e1
    have E2 := Lib.hid e2
    have hmem : f ∈ D.files := List.mem_of_getElem? hf
    have hb1 := (hb f hmem).1
    have hb2 : f.now.size ≤ 2 ^ 63 - 1 := (hb f hmem).2
    clear hfa hfd hf e3 e4 e5 e2 e1 hb hmem
    go_enter Tryz.func105, Tryz.ntmps105
    go_wp2_with fail
    refine HFA.out.mono ?_
    rintro e w1 ⟨rfl, h1, ho⟩
    have hfile : D.begin.1.files[i]? = some f := by rw [(begin_names D).2.1]; exact HFF.out
    have hfat := file_at h1 hfile E1.out E2.out
    have hbk := hfat.blk
    have c1 : w1.cell? ⟨b, 1, none⟩ = some (.string f.now) := Heap.cell hbk 1
    have c2 : w1.cell? ⟨b, 2, none⟩ = some cv := Heap.cell hbk 2
    have f1 : w1.frozen? ⟨b, 1, none⟩ = false := Heap.frozen hbk 1
    have hlt : b < w1.heap.size := Heap.lt hbk
    have hbc : cv.ownBlock ≠ some b := own_ne h1 hfile E1.out E2.out
    have HBC := Lib.hid hbc; clear hbc
    have HFAT := Lib.hid hfat; clear hfat hbk
    have HFI := Lib.hid hfile; clear hfile
    have hoF := off_core H.out HF.out ho
    have H1 := Lib.hid h1; clear h1
    have HO := Lib.hid ho; clear ho
    have HOF := Lib.hid hoF; clear hoF
    have t0 : ¬ ((n : Int) < 0) := by omega
    by_cases hrm : (f.now.size : Int) < n
    · have hsp : D.cut name n = (D.begin.1, 1) := by unfold DiskV.cut; rw [HFD.out]; simp only [(begin_names D).2.1, HFF.out]; rw [if_pos (by omega)]
      have HS := Lib.hid hsp; clear hsp
      go_wp2
      go_ret
      rw [HS.out]
      exact ⟨rfl, ⟨R, H1.out, fun b hb => .inl (HF.out b hb)⟩, HOF.out⟩
    · have hsp : D.cut name n = (D.begin.1.setFile i ⟨f.base, f.now.extract 0 n, f.chgs ++ [⟨ByteArray.empty, n⟩]⟩, 0) := by
        unfold DiskV.cut; rw [HFD.out]; simp only [(begin_names D).2.1, HFF.out]; rw [if_neg (by omega)]; rfl
      have HS := Lib.hid hsp; clear hsp
      obtain ⟨i0, hi, hz0, hz1, hz2⟩ := info_parts infoChg
      have hrow4 : ∀ o, ((w1.setCell ⟨b, 1, none⟩ (.string (f.now.extract 0 n))).alloc o).ownsRow 0 180 2 cv f.chgs.length (f.chgs.flatMap chgCells) := fun o =>
        (((Off.refl (Only b) w1).set 1 (.string (f.now.extract 0 n))).alloc o).row HFAT.out.row (fun k hk e => HBC.out (by rw [hk, show k = b from e]))
      have HR4 := Lib.hid hrow4; clear hrow4
      go_wp2_with (at_builtin; refine wpList_append_lies _ rfl _ _ 152 rfl 0 180 i0 _ 2 24 Tryz.underlying152 hi hz0 hz1 hz2 rfl (by decide) cv f.chgs.length (f.chgs.flatMap chgCells) rfl (HR4.out _) ⟨w1.heap.size, 0, none⟩ 1 1 [.string ⟨#[]⟩, .int .i64 n] rfl rfl ?c1 ?c2 (by decide) ?c3 ?c4 (Nat.zero_le _) (w1.heap.size + 1) ?c5 ?_)
      case c1 => exact Heap.news _ _ _ _ (Heap.set_size _ _).symm
      case c2 => intro u hu; simp at hu; rcases hu with rfl | rfl <;> rfl
      case c3 => unfold maxLen; omega
      case c4 => omega
      case c5 => rw [Heap.alloc_size, Heap.set_size]
      intro g cap w5 hrow5 hg5 hgb _
      have hge : cv.ownBlock = some g ∨ w1.heap.size ≤ g := hgb.imp id (fun h => by omega)
      have HGE := Lib.hid hge; clear hge hgb
      have hoff5 : Off (fun k => k = b ∨ cv.ownBlock = some k) w1 w5 :=
        (((Off.refl _ w1).setCell (p := ⟨b, 1, none⟩) (.inl (.inl rfl)) (.string (f.now.extract 0 n))).alloc _).grown hg5 (fun k hk => .inl (.inr hk))
      have hb5 : w5.heap[b]? = some (.cells #[.string f.base, .string (f.now.extract 0 n), cv] 154 (0, 0)) := by
        have h4 := (Heap.alloc_old (Heap.set HFAT.out.blk 1 (.string (f.now.extract 0 n))) (.cells #[.string ⟨#[]⟩, .int .i64 n] 180)).trans rfl
        rw [hg5.block b (Heap.lt h4) (fun e => HBC.out e.symm)]
        exact h4
      have c5 : w5.cell? ⟨b, 2, none⟩ = some cv := Heap.cell hb5 2
      have f5 : w5.frozen? ⟨b, 2, none⟩ = false := Heap.frozen hb5 2
      have HB5 := Lib.hid hb5; clear hb5
      have HROW := Lib.hid hrow5; clear hrow5
      have HG5 := Lib.hid hg5; clear hg5
      have HOFF := Lib.hid hoff5; clear hoff5
      go_wp2
      go_ret
      rw [HS.out]
      obtain ⟨v', hv'⟩ : ∃ v', v' = Value.slice (some ⟨g, 0, none⟩) (f.chgs.length + 1) cap := ⟨_, rfl⟩
      rw [← hv']
      have hrow := HROW.out
      rw [← hv'] at hrow
      have hog : v'.ownBlock = some g := by rw [hv']; rfl
      have ho6 := HOFF.out.setCell (p := ⟨b, 2, none⟩) (.inl (.inl rfl)) v'
      have hne : v'.ownBlock ≠ some b := by
        rw [hog]
        rcases HGE.out with h | h
        · rw [← h]; exact HBC.out
        · intro e; cases e; omega
      have hfat6 : FileAt (w5.setCell ⟨b, 2, none⟩ v') b v' ⟨f.base, f.now.extract 0 n, f.chgs ++ [⟨ByteArray.empty, n⟩]⟩ :=
        ⟨(Heap.set HB5.out 2 v').trans rfl, ((Off.refl (Only b) w5).set 2 v').row (by simp only [List.length_append, List.length_cons, List.length_nil, List.flatMap_append, List.flatMap_cons, List.flatMap_nil, List.append_nil, Nat.zero_add]; exact hrow) (fun k hk e => hne (by rw [hk, show k = b from e]))⟩
      have h6 := H1.out.setFile HFI.out E1.out E2.out ho6 hfat6 (by rw [hog]; intro k hk; cases hk; exact HGE.out)
      refine ⟨rfl, ⟨_, h6, fun b hb => Grow.left HOF.out b (DiskRep.setCv_in HF.out (fun k hk => ?_) b hb)⟩, off_trans HOF.out (off_file H1.out HF.out HFI.out E1.out E2.out ho6)⟩
      exact row_lt hfat6.row hk
end DiskW
end Go.Proofs.YtndgnlblbjpogaaGreatDoor
namespace Go.Proofs.YtndgnlblbjpogaaGreatDoor
open Go Go.RowKit
namespace DiskW
theorem done_any (w : World) (b : Nat) (m : NMap) (mv : Move) (h : MapAt w b m) (hs : mv.src.size ≤ maxLen) (hd : mv.dst.size ≤ maxLen) (hm : m.length < maxLen) (hf : mv.file ≤ 9223372036854775807) :
    Calls Tryz.prog 167 #[.agg #[.string mv.src, .string mv.dst, .int .i64 mv.file], .map (some b)] w fun e w' =>
      e = .returned (.tuple #[]) ∧ MapAt w' b (DiskV.done mv m) ∧ Off (Only b) w w' := by
  have ho1 : Off (Only b) w (w.alloc (.cells #[.string mv.src, .string mv.dst, .int .i64 mv.file] 171)) := (Off.refl _ _).alloc _
  have h1 : MapAt (w.alloc (.cells #[.string mv.src, .string mv.dst, .int .i64 mv.file] 171)) b m := ((Off.refl None w).alloc _).map h (fun h => h)
  obtain ⟨w2, hdel, h2, ht2⟩ := map_del h1 mv.src hs 0
  have hbl : b < w.heap.size := by obtain ⟨es, clock, hb, _⟩ := h; exact Heap.lt hb
  have hbox : w2.heap[w.heap.size]? = some (.cells #[.string mv.src, .string mv.dst, .int .i64 mv.file] 171 (0, 0)) := by
    rw [ht2.grown.block w.heap.size (by rw [Heap.alloc_size]; omega) (by intro e; cases e; omega), Heap.alloc_new]
  have d1 : w2.cell? ⟨w.heap.size, 1, none⟩ = some (.string mv.dst) := Heap.cell hbox 1
  have d2 : w2.cell? ⟨w.heap.size, 2, none⟩ = some (.int .i64 mv.file) := Heap.cell hbox 2
  have ho2 := ho1.turned ht2 (.inl rfl)
  have HO2 := Lib.hid ho2
  have H2 := Lib.hid h2
  clear ho1 h1 ht2 hbox ho2 h2 hbl
  by_cases hz : mv.dst.size = 0
  · have e : DiskV.done mv m = m.del (bytesOf mv.src) := by unfold DiskV.done; rw [if_pos hz]
    have E := Lib.hid e; clear e
    have t1 : mv.dst.toList = [] := Heap.str_nil hz
    clear hz
    go_enter Tryz.func167, Tryz.ntmps167
    go_wp2
    go_end0
    rw [E.out]
    exact ⟨rfl, H2.out, HO2.out⟩
  · have e : DiskV.done mv m = (m.del (bytesOf mv.src)).put (bytesOf mv.dst) mv.file := by unfold DiskV.done; rw [if_neg hz]
    have E := Lib.hid e; clear e
    have t2 : (!mv.dst.toList.isEmpty) = true := Heap.str_ne hz
    clear hz
    have hlen : (m.del (bytesOf mv.src)).length < maxLen := Nat.lt_of_le_of_lt (List.length_filter_le _ _) hm
    obtain ⟨w3, hput, h3, ht3⟩ := map_put H2.out mv.dst hd mv.file hf hlen
    have HO3 := Lib.hid (HO2.out.turned ht3 (.inl rfl))
    have H3 := Lib.hid h3
    clear ht3 h3 hlen
    go_enter Tryz.func167, Tryz.ntmps167
    go_wp2
    go_end0
    rw [E.out]
    exact ⟨rfl, H3.out, HO3.out⟩
end DiskW
theorem done_file {m : NMap} {mv : Move} {n : Nat} (h : ∀ p ∈ m, p.2 < n) (hf : mv.dst.size ≠ 0 → mv.file < n) : ∀ p ∈ DiskV.done mv m, p.2 < n := by
  have hdel : ∀ p ∈ m.del (bytesOf mv.src), p.2 < n := fun p hp => h p ((List.mem_filter.1 hp).1)
  have hins : ∀ (x : Bytes × Nat) (l : NMap), x.2 < n → (∀ p ∈ l, p.2 < n) → ∀ p ∈ NMap.ins x l, p.2 < n := by
    intro x l hx
    induction l with
    | nil => intro _ p hp; simp [NMap.ins] at hp; rw [hp]; exact hx
    | cons y r ih =>
      intro hl p hp
      unfold NMap.ins at hp
      split at hp
      · rcases List.mem_cons.1 hp with rfl | hp
        · exact hx
        · exact hl p hp
      · rcases List.mem_cons.1 hp with rfl | hp
        · exact hl _ (by simp)
        · exact ih (fun q hq => hl q (by simp [hq])) p hp
  unfold DiskV.done
  split
  · exact hdel
  · rename_i hz
    exact hins _ _ (hf hz) (fun p hp => hdel p ((List.mem_filter.1 hp).1))
/-- The names have turned, and nothing else of the disk has. -/
theorem DiskAt.setNames {w w' : World} {d : Nat} {D : DiskV} {R : DiskRep} (h : DiskAt w d D R) (m : NMap) (ho : Off (Only R.nm) w w') (hm : MapAt w' R.nm m) (hf : ∀ p ∈ m, p.2 < D.files.length) : DiskAt w' d { D with names := m } R where
  wf := ⟨h.wf.room, h.wf.ops, h.wf.fail, h.wf.left, hf, h.wf.base, h.wf.moves⟩
  core := ho.at_ h.core (fun e => by have h1 := h.rN; have h2 := h.rD; rw [show d = R.nm from e] at h2; omega)
  frow := ho.row h.frow (fun k hk e => by have h1 := h.rF k hk; have h2 := h.rN; rw [show k = R.nm from e] at h1; omega)
  each := fun i f hi => by
    obtain ⟨b, cv, h1, h2, h3, h4, h5⟩ := h.each i f hi
    refine ⟨b, cv, h1, h2, h3.off ho (fun e => ?_) (fun k hk e => ?_), h4, h5⟩
    · have h2 := h.rN; rw [show b = R.nm from e] at h4; omega
    · have h1 := h5 k hk; have h2 := h.rN; rw [show k = R.nm from e] at h1; omega
  clen := h.clen
  names := hm
  base := ho.map h.base (fun e => by have h1 := h.rB; have h2 := h.rN; rw [show R.bm = R.nm from e] at h1; omega)
  mrow := ho.row h.mrow (fun k hk e => by have h1 := h.rM k hk; have h2 := h.rN; rw [show k = R.nm from e] at h1; omega)
  rD := h.rD
  rN := h.rN
  rB := h.rB
  rF := h.rF
  rM := h.rM
  old := fun b hb => Nat.lt_of_lt_of_le (h.old b hb) ho.size
def DiskRep.setMv (R : DiskRep) (mv : Value) (n : Nat) : DiskRep :=
  { R with mv := mv, role := fun k => if k < n then R.role k else if mv.ownBlock = some k then 5 else 0 }
/-- The row of moves has turned, and the disk's own block, which names it. -/
theorem DiskAt.setMoves {w w' : World} {d : Nat} {D : DiskV} {R : DiskRep} (h : DiskAt w d D R) (ms : List Move) (mv' : Value) (ho : Off (fun k => k = d ∨ R.mv.ownBlock = some k) w w')
    (hc : w'.heap[d]? = some (.cells (coreCells { D with moves := ms } (R.setMv mv' w.heap.size)) 97 (0, 0)))
    (hr : w'.ownsRow 0 171 3 mv' ms.length (ms.flatMap moveCells)) (hmv : ∀ k, mv'.ownBlock = some k → R.mv.ownBlock = some k ∨ w.heap.size ≤ k)
    (hf : ∀ m ∈ ms, m.dst.size ≠ 0 → m.file < D.files.length) : DiskAt w' d { D with moves := ms } (R.setMv mv' w.heap.size) := by
  have hro : ∀ k, R.role k ≠ 0 → (R.setMv mv' w.heap.size).role k = R.role k := fun k hk => by
    show (if k < w.heap.size then _ else _) = _
    rw [if_pos (h.old k hk)]
  have far : ∀ k, R.role k ≠ 0 → R.role k ≠ 1 → R.role k ≠ 5 → ¬ (k = d ∨ R.mv.ownBlock = some k) := by
    intro k h0 h1 h2 hk
    rcases hk with rfl | hk
    · exact h1 h.rD
    · exact h2 (h.rM k hk)
  refine { wf := ⟨h.wf.room, h.wf.ops, h.wf.fail, h.wf.left, h.wf.names, h.wf.base, hf⟩, core := hc, frow := ?_, each := ?_, clen := h.clen, names := ?_, base := ?_, mrow := hr, rD := ?_, rN := ?_, rB := ?_, rF := ?_, rM := ?_, old := ?_ }
  · exact ho.row h.frow (fun k hk => far k (by rw [h.rF k hk]; omega) (by rw [h.rF k hk]; omega) (by rw [h.rF k hk]; omega))
  · intro j g hj
    obtain ⟨b1, cv1, g1, g2, g3, g4, g5⟩ := h.each j g hj
    exact ⟨b1, cv1, g1, g2, g3.off ho (far b1 (by omega) (by omega) (by omega)) (fun k hk => far k (by rw [g5 k hk]; omega) (by rw [g5 k hk]; omega) (by rw [g5 k hk]; omega)), by rw [hro b1 (by omega), g4], fun k hk => by rw [hro k (by rw [g5 k hk]; omega), g5 k hk]⟩
  · exact ho.map h.names (far R.nm (by rw [h.rN]; omega) (by rw [h.rN]; omega) (by rw [h.rN]; omega))
  · exact ho.map h.base (far R.bm (by rw [h.rB]; omega) (by rw [h.rB]; omega) (by rw [h.rB]; omega))
  · rw [hro d (by rw [h.rD]; omega), h.rD]
  · show (R.setMv mv' w.heap.size).role R.nm = 2
    rw [hro _ (by rw [h.rN]; omega), h.rN]
  · show (R.setMv mv' w.heap.size).role R.bm = 3
    rw [hro _ (by rw [h.rB]; omega), h.rB]
  · intro k hk
    rw [hro k (by rw [h.rF k hk]; omega), h.rF k hk]
  · intro k hk
    show (if k < w.heap.size then R.role k else if mv'.ownBlock = some k then 5 else 0) = 5
    rcases hmv k hk with h' | h'
    · rw [if_pos (row_lt h.mrow h'), h.rM k h']
    · rw [if_neg (by omega), if_pos (show mv'.ownBlock = some k from hk)]
  · intro k hk
    have hs := ho.size
    by_cases hlt : k < w.heap.size
    · omega
    · have hk' : (if k < w.heap.size then R.role k else if mv'.ownBlock = some k then 5 else 0) ≠ 0 := hk
      rw [if_neg hlt] at hk'
      split at hk'
      · rename_i hk2; exact row_lt hr hk2
      · exact absurd rfl hk'
theorem DiskRep.setMv_in {R : DiskRep} {F : Nat → Prop} {mv : Value} {w w' : World} (hF : ∀ b, R.role b ≠ 0 → F b) (hmv : ∀ k, mv.ownBlock = some k → k < w'.heap.size) :
    ∀ b, (R.setMv mv w.heap.size).role b ≠ 0 → Grow F w w' b := by
  intro b hb
  by_cases hlt : b < w.heap.size
  · refine .inl (hF b ?_)
    have hb' : (if b < w.heap.size then R.role b else _) ≠ 0 := hb
    rwa [if_pos hlt] at hb'
  · have hb' : (if b < w.heap.size then R.role b else if mv.ownBlock = some b then 5 else 0) ≠ 0 := hb
    rw [if_neg hlt] at hb'
    split at hb'
    · rename_i h2; exact .inr ⟨by omega, hmv b h2⟩
    · exact absurd rfl hb'
/-- The names have turned, a move was appended, and the disk's own block names the new row. -/
theorem DiskAt.moved {w w1 w2 w5 : World} {d : Nat} {D : DiskV} {R : DiskRep} {F : Nat → Prop} {o : Obj} {g cap : Nat} (h : DiskAt w d D R) (hF : ∀ b, R.role b ≠ 0 → F b) (mv : Move)
    (ho1 : Off None w w1) (ho2 : Off (Only R.nm) w1.drew w2) (h2 : DiskAt w2 d { D with names := DiskV.done mv D.names } R) (hff : mv.dst.size ≠ 0 → mv.file < D.files.length)
    (hr : w5.ownsRow 0 171 3 (.slice (some ⟨g, 0, none⟩) (D.moves.length + 1) cap) (D.moves.length + 1) (D.moves.flatMap moveCells ++ moveCells mv))
    (hg : (w2.alloc o).drew.grownBy w5 R.mv.ownBlock) (hgb : R.mv.ownBlock = some g ∨ w2.heap.size ≤ g) (hgl : g < w5.heap.size) :
    DiskIn (w5.setCell ⟨d, 4, none⟩ (.slice (some ⟨g, 0, none⟩) (D.moves.length + 1) cap)) d (D.moved mv) (Grow F w (w5.setCell ⟨d, 4, none⟩ (.slice (some ⟨g, 0, none⟩) (D.moves.length + 1) cap))) ∧
      Off F w (w5.setCell ⟨d, 4, none⟩ (.slice (some ⟨g, 0, none⟩) (D.moves.length + 1) cap)) := by
  obtain ⟨v', hv⟩ : ∃ v', v' = Value.slice (some ⟨g, 0, none⟩) (D.moves.length + 1) cap := ⟨_, rfl⟩
  rw [← hv] at hr ⊢
  have hog : v'.ownBlock = some g := by rw [hv]; rfl
  clear hv
  have hne : R.mv.ownBlock ≠ some d := fun e => by have h3 := h.rM d e; have h4 := h.rD; omega
  have hgd : g ≠ d := by
    rcases hgb with h' | h'
    · intro e; exact hne (by rw [h', e])
    · have := Heap.lt h2.core; omega
  have c5 := Heap.grown hg (Heap.alloc_old (w := w2) h2.core o) hne
  have ho5 : Off (fun k => k = d ∨ R.mv.ownBlock = some k) w2 w5 := (((Off.refl _ w2).alloc o).drew).grown hg (fun k hk => .inl (.inr hk))
  have ho6 := ho5.setCell (p := ⟨d, 4, none⟩) (.inl (.inl rfl)) v'
  have h6 := h2.setMoves (D.moves ++ [mv]) v' ho6 ((Heap.set c5 4 v').trans rfl)
    (by
      have := ((Off.refl (Only d) w5).set 4 v').row hr (fun k hk e => by rw [hog] at hk; cases hk; exact hgd e)
      simpa using this)
    (fun k hk => by rw [hog] at hk; cases hk; exact hgb)
    (fun m hm hz => by
      rcases List.mem_append.1 hm with hm | hm
      · exact h.wf.moves m hm hz
      · rw [List.mem_singleton.1 hm]; rw [List.mem_singleton.1 hm] at hz; exact hff hz)
  have ho12 : Off F w w2 := DiskW.off_trans (ho1.mono (fun _ _ h => h.elim)) (Off.mono (Off.trans ((Off.refl (Only R.nm) w1).drew) ho2 (fun _ _ h => h)) (fun b _ e => by rw [show b = R.nm from e]; exact hF _ (by rw [h.rN]; omega)))
  have ho26 : Off F w2 _ := ho6.mono (fun b _ e => e.elim (fun e => by rw [e]; exact hF _ (by rw [h.rD]; omega)) (fun e => hF _ (by rw [h.rM b e]; omega)))
  refine ⟨⟨_, h6, fun b hb => Grow.left ho12 b (DiskRep.setMv_in hF (fun k hk => ?_) b hb)⟩, DiskW.off_trans ho12 ho26⟩
  rw [hog] at hk; cases hk
  rw [Heap.set_size]; exact hgl
theorem infoMove : (Tryz.prog.info? 171).map (fun i => (i.zero, i.size, i.bytes)) = some (some (.agg #[.string ByteArray.empty, .string ByteArray.empty, .int .i64 0]), 3, 40) := by kernel_rfl
namespace DiskW
set_option maxRecDepth 100000 in
theorem moved_any (w : World) (d : Nat) (D : DiskV) (F : Nat → Prop) (h : DiskIn w d D F) (mv : Move) (hs : mv.src.size ≤ maxLen) (hd : mv.dst.size ≤ maxLen) (hm : D.names.length < maxLen) (hf : mv.file ≤ 9223372036854775807)
    (hff : mv.dst.size ≠ 0 → mv.file < D.files.length) (hb : D.moves.length ≤ 1099511627776) :
    Calls Tryz.prog 128 #[.pointer (some ⟨d, 0, none⟩), .agg #[.string mv.src, .string mv.dst, .int .i64 mv.file]] w fun e w' =>
      e = .returned (.tuple #[]) ∧ DiskIn w' d (D.moved mv) (Grow F w w') ∧ Off F w w' := by
  obtain ⟨R, h, hF⟩ := h
  have HF := Lib.hid hF; clear hF
  have c2 : w.cell? ⟨d, 2, none⟩ = some (.map (some R.nm)) := Heap.cell h.core 2
  have hlt : d < w.heap.size := Heap.lt h.core
  have H := Lib.hid h; clear h
  go_enter Tryz.func128, Tryz.ntmps128
  go_wp2_with fail
  refine wp_region_still_tail 5 (by kernel_rfl) (by kernel_rfl) ?_
  simp only [List.take_succ_cons, List.take_zero, List.drop_succ_cons, List.drop_zero]
  change wpStill _ _ (w.alloc (.cells #[.string mv.src, .string mv.dst, .int .i64 mv.file] 171)).drew (fun a' => wpList _ _ _ _ a' (w.alloc (.cells #[.string mv.src, .string mv.dst, .int .i64 mv.file] 171)).drew) _ _
  repeat still_step
  refine wpStill_nil ?_
  go_wp2_with fail
  obtain ⟨w1, hw1⟩ : ∃ w1, w1 = w.alloc (.cells #[.string mv.src, .string mv.dst, .int .i64 mv.file] 171) := ⟨_, rfl⟩
  have ho1 : Off None w w1 := by rw [hw1]; exact (Off.refl _ _).alloc _
  have hbx : w1.heap[w.heap.size]? = some (.cells #[.string mv.src, .string mv.dst, .int .i64 mv.file] 171 (0, 0)) := by rw [hw1, Heap.alloc_new]
  have hsz : w1.heap.size = w.heap.size + 1 := by rw [hw1, Heap.alloc_size]
  rw [← hw1]
  have h1 := H.out.off ho1.drew (fun _ _ h => h)
  refine (done_any _ R.nm D.names mv h1.names hs hd hm hf).mono ?_
  rintro e w2 ⟨rfl, hm2, ho2⟩
  have h2 := h1.setNames _ ho2 hm2 (done_file h1.wf.names hff)
  have hbx2 : w2.heap[w.heap.size]? = some (.cells #[.string mv.src, .string mv.dst, .int .i64 mv.file] 171 (0, 0)) :=
    ho2.at_ hbx (fun e => by have h3 := H.out.old R.nm (by rw [H.out.rN]; omega); rw [← show w.heap.size = R.nm from e] at h3; omega)
  have c4 : w2.cell? ⟨d, 4, none⟩ = some R.mv := Heap.cell h2.core 4
  have f4 : w2.frozen? ⟨d, 4, none⟩ = false := Heap.frozen h2.core 4
  have d0 : w2.cell? ⟨w.heap.size, 0, none⟩ = some (.string mv.src) := Heap.cell hbx2 0
  have d1 : w2.cell? ⟨w.heap.size, 1, none⟩ = some (.string mv.dst) := Heap.cell hbx2 1
  have d2 : w2.cell? ⟨w.heap.size, 2, none⟩ = some (.int .i64 mv.file) := Heap.cell hbx2 2
  have H2 := Lib.hid h2
  have HO1 := Lib.hid ho1
  have HO2 := Lib.hid ho2
  have HB2 := Lib.hid hbx2
  clear h1 h2 ho1 ho2 hm2 hbx hbx2 hw1 c2
  go_wp2_with fail
  obtain ⟨i0, hi, hz0, hz1, hz2⟩ := info_parts infoMove
  have hrow4 : ∀ o, (w2.drew.alloc o).ownsRow 0 171 3 R.mv D.moves.length (D.moves.flatMap moveCells) := fun o =>
    (((Off.refl None w2).drew).alloc o).row H2.out.mrow (fun k hk e => e)
  have HR4 := Lib.hid hrow4; clear hrow4
  have hbm : D.moves.length + 1 ≤ maxLen := by unfold maxLen; omega
  have HBM := Lib.hid hbm; clear hbm
  have hd2 : w2.drew.heap[d]? = some (.cells (coreCells { D with names := DiskV.done mv D.names } R) 97 (0, 0)) := H2.out.core
  have HD2 := Lib.hid hd2; clear hd2
  have c4a : (w2.alloc (.cells #[.string mv.src, .string mv.dst, .int .i64 mv.file] 171)).cell? ⟨d, 4, none⟩ = some R.mv := Heap.cell (Heap.alloc_old H2.out.core _) 4
  have hne : R.mv.ownBlock ≠ some d := fun e => by have h3 := H.out.rM d e; have h4 := H.out.rD; omega
  have HNE := Lib.hid hne; clear hne
  go_region_law ((refine step_append_lies _ (by rfl) _ _ 95 (by rfl) 0 171 i0 _ 3 40 Tryz.underlying95 hi hz0 hz1 hz2 rfl (by decide) R.mv D.moves.length (D.moves.flatMap moveCells) (by rfl) (HR4.out _) ⟨w2.heap.size, 0, none⟩ 1 1 (moveCells mv) (by rfl) (by rfl) (Heap.news _ _ _ _ rfl) (by intro u hu; simp [moveCells] at hu; rcases hu with rfl | rfl | rfl <;> rfl) (by decide) HBM.out (by omega) (Nat.zero_le _) (w2.heap.size + 1) (by exact Heap.alloc_size _ _) ?_; intro g cap w5 hrow5 hg5 hgb hgl; have c5 : w5.cell? ⟨d, 4, none⟩ = some R.mv := Heap.cell (Heap.grown hg5 (Heap.alloc_old HD2.out _) HNE.out) 4; have f5 := Heap.frozen (Heap.grown hg5 (Heap.alloc_old HD2.out _) HNE.out) 4))
  all_goals go_wp2
  all_goals go_end0
  all_goals
    have hmv := DiskAt.moved H.out HF.out mv HO1.out HO2.out H2.out hff hrow5 hg5 (hgb.imp id (fun h => by omega)) hgl
    exact ⟨rfl, hmv⟩
end DiskW
end Go.Proofs.YtndgnlblbjpogaaGreatDoor
