/- The plain disk: what package disk computes, without memory: files, names, changes. No program stands here. -/
import GoSem.ClaimMapViews
import Derived.Maps.Views
import Derived.IntWalk
import Derived.RowKit
namespace Go.Proofs.YtnppdcegpojmbaaGreatDoor
open Go Go.RowKit
/- Names: a row of names and numbers, as the reader of a map lays it. -/
abbrev Bytes := List UInt8
abbrev NMap := List (Bytes × Nat)
namespace NMap
def toD (m : NMap) : DataW Unit := .map (m.map fun p => (.string p.1, .lit (.int .i64 p.2)))
def ins (x : Bytes × Nat) : NMap → NMap
  | [] => [x]
  | y :: r => if (Lit.string x.1).before (.string y.1) then x :: y :: r else y :: ins x r
def del (m : NMap) (k : Bytes) : NMap := m.filter fun p => decide (p.1 ≠ k)
def put (m : NMap) (k : Bytes) (v : Nat) : NMap := ins (k, v) (m.del k)
def get (m : NMap) (k : Bytes) : Option Nat := (m.find? fun p => decide (p.1 = k)).map (·.2)
def total (m : NMap) (f : Nat → Nat) : Nat := (m.map fun p => f p.2).sum
theorem sameKey_string (a b : Bytes) : (Lit.string a).sameKey (.string b) = decide (a = b) := by
  by_cases h : a = b
  · subst h; simp [Lit.sameKey]
  · rw [Maps.sameKey_ne (by simpa using h)]; simp [h]
theorem toD_ins (x : Bytes × Nat) (m : NMap) : DataW.insert (H := Unit) (.string x.1, .lit (.int .i64 x.2)) (m.map fun p => (Lit.string p.1, DataW.lit (.int .i64 p.2))) = (ins x m).map fun p => (Lit.string p.1, DataW.lit (.int .i64 p.2)) := by
  induction m with
  | nil => rfl
  | cons y r ih =>
    simp only [List.map_cons, DataW.insert, ins]
    split
    · simp
    · rw [List.map_cons, ih]
theorem toD_del (m : NMap) (k : Bytes) : m.toD.del (.string k) = (m.del k).toD := by
  show DataW.map _ = DataW.map _
  congr 1
  rw [del, List.filter_map]
  congr 1
  refine List.filter_congr fun p _ => ?_
  simp [sameKey_string]
theorem toD_put (m : NMap) (k : Bytes) (v : Nat) : m.toD.put (.string k) (.lit (.int .i64 v)) = (m.put k v).toD := by
  have h := toD_del m k
  simp only [DataW.del, toD, DataW.map.injEq] at h
  show DataW.map (DataW.insert _ _) = DataW.map _
  rw [h, toD_ins (k, v)]
  rfl
theorem has_toD (m : NMap) (k : Bytes) : Maps.has m.toD (.string k) = (m.get k).isSome := by
  show List.any _ _ = _
  rw [List.any_map, get, Option.isSome_map, Bool.eq_iff_iff, List.find?_isSome, List.any_eq_true]
  simp [sameKey_string]
theorem atKey_toD (m : NMap) (k : Bytes) (z : DataW Unit) : m.toD.atKey (.string k) z = match m.get k with | some v => .lit (.int .i64 v) | none => z := by
  have e : (m.map fun p => ((Lit.string p.1, DataW.lit (.int .i64 p.2)) : Lit × DataW Unit)).find? (fun p => p.1.sameKey (.string k)) = (m.find? fun p => decide (p.1 = k)).map fun p => (Lit.string p.1, DataW.lit (.int .i64 p.2)) := by
    rw [List.find?_map]
    congr 2
    funext p
    simp [sameKey_string]
  simp only [DataW.atKey, toD]
  rw [e, get]
  cases m.find? fun p => decide (p.1 = k) <;> rfl
theorem size_toD (m : NMap) : Maps.size m.toD = m.length := by simp [toD, Maps.size]
theorem get_mem {m : NMap} {k : Bytes} {v : Nat} (h : m.get k = some v) : (k, v) ∈ m := by
  unfold get at h
  obtain ⟨p, hp, rfl⟩ := Option.map_eq_some_iff.1 h
  have := List.find?_some hp
  simp only [decide_eq_true_eq] at this
  subst this
  exact List.mem_of_find?_eq_some hp
end NMap
/- A change of a file: bytes behind it, or how many are left. -/
structure Chg where
  s : ByteArray
  cut : Int
structure FileV where
  base : ByteArray
  now : ByteArray
  chgs : List Chg
structure Move where
  src : ByteArray
  dst : ByteArray
  file : Nat
def bytesOf (s : ByteArray) : Bytes := s.data.toList
structure DiskV where
  room : Int
  files : List FileV
  names : NMap
  base : NMap
  moves : List Move
  ops : Int
  fail : Int
  left : Int
namespace DiskV
def new (room : Int) : DiskV := ⟨max room 0, [], [], [], [], 0, 0, -1⟩
/-- An operation is counted; 11: the power is gone. -/
def begin (D : DiskV) : DiskV × Int :=
  if D.left = 0 then (D, 11)
  else ({ D with left := if 0 < D.left then D.left - 1 else D.left, ops := wrap64 (D.ops + 1) }, 0)
/-- The file of a name, and what errs. -/
def find (D : DiskV) (name : ByteArray) : DiskV × Option Nat × Int :=
  if D.left = 0 then (D, none, 11)
  else match D.names.get (bytesOf name) with
    | none => (D.begin.1, none, 5)
    | some i => (D.begin.1, some i, 0)
def fails (D : DiskV) : DiskV × Bool :=
  if D.fail < 1 then (D, false) else ({ D with fail := D.fail - 1 }, decide (D.fail = 1))
def done (m : Move) (names : NMap) : NMap :=
  if m.dst.size = 0 then names.del (bytesOf m.src) else (names.del (bytesOf m.src)).put (bytesOf m.dst) m.file
def moved (D : DiskV) (m : Move) : DiskV := { D with names := done m D.names, moves := D.moves ++ [m] }
def named (s : ByteArray) : Bool := (s.data.toList.all fun c => decide (33 ≤ c.toNat) && decide (c.toNat ≤ 126)) && decide (s.size ≠ 0) && decide (s.size ≤ 24)
def sizeAt (D : DiskV) (i : Nat) : Nat := (D.files[i]?.map fun f => f.now.size).getD 0
def used (D : DiskV) : Nat := D.names.total D.sizeAt
def create (D : DiskV) (name : ByteArray) : DiskV × Int :=
  match D.find name with
  | (D1, _, e) =>
    if e = 11 then (D1, 11)
    else if named name = false then (D1, 3)
    else if e = 0 then (D1, 4)
    else (({ D1 with files := D1.files ++ [⟨ByteArray.empty, ByteArray.empty, []⟩] } : DiskV).moved ⟨ByteArray.empty, name, D1.files.length⟩, 0)
def setFile (D : DiskV) (i : Nat) (f : FileV) : DiskV := { D with files := D.files.set i f }
def append (D : DiskV) (name s : ByteArray) : DiskV × Int :=
  match D.find name with
  | (D1, none, e) => (D1, e)
  | (D1, some i, _) =>
    if D1.room - D1.used < s.size then (D1, 9)
    else if D1.fails.2 then (D1.fails.1, 10)
    else match D1.files[i]? with
      | none => (D1, 0)
      | some f => (D1.fails.1.setFile i ⟨f.base, f.now ++ s, f.chgs ++ [⟨s, -1⟩]⟩, 0)
def cut (D : DiskV) (name : ByteArray) (n : Int) : DiskV × Int :=
  match D.find name with
  | (D1, none, e) => (D1, e)
  | (D1, some i, _) =>
    match D1.files[i]? with
    | none => (D1, 0)
    | some f => if n < 0 ∨ (f.now.size : Int) < n then (D1, 1) else (D1.setFile i ⟨f.base, f.now.extract 0 n.toNat, f.chgs ++ [⟨ByteArray.empty, n⟩]⟩, 0)
def sync (D : DiskV) (name : ByteArray) : DiskV × Int :=
  match D.find name with
  | (D1, none, e) => (D1, e)
  | (D1, some i, _) =>
    if D1.fails.2 then (D1.fails.1, 10)
    else match D1.files[i]? with
      | none => (D1, 0)
      | some f => (D1.fails.1.setFile i ⟨f.now, f.now, []⟩, 0)
def remove (D : DiskV) (name : ByteArray) : DiskV × Int :=
  match D.find name with
  | (D1, none, e) => (D1, e)
  | (D1, some _, _) => (D1.moved ⟨name, ByteArray.empty, 0⟩, 0)
def syncDir (D : DiskV) : DiskV × Int :=
  match D.begin with
  | (D1, e) => if e = 0 then ({ D1 with base := D1.names, moves := [] }, 0) else (D1, e)
def read (D : DiskV) (name : ByteArray) : ByteArray × Int :=
  if D.left = 0 then (ByteArray.empty, 11)
  else match D.names.get (bytesOf name) with
    | none => (ByteArray.empty, 5)
    | some i => ((D.files[i]?.map (·.now)).getD ByteArray.empty, 0)
end DiskV
end Go.Proofs.YtnppdcegpojmbaaGreatDoor
