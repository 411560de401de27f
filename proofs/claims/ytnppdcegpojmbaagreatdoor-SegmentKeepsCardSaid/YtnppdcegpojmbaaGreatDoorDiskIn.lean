/- How a disk lies in memory: its own block, the rows of its files and of its moves, its two maps, each file's block and the row of its changes; each block has a role, so that blocks of unlike roles are unlike. -/
import Derived.Test.YtnppdcegpojmbaaGreatDoorRows
import Derived.Test.YtnppdcegpojmbaaGreatDoorRow
import Derived.Test.YtnppdcegpojmbaaGreatDoorDiskM
import Derived.Maps.StringElems
namespace Go.Proofs.YtnppdcegpojmbaaGreatDoor
open Go Go.RowKit

def chgCells (c : Chg) : List Value := [.string c.s, .int .i64 c.cut]
def moveCells (m : Move) : List Value := [.string m.src, .string m.dst, .int .i64 m.file]
def ptrTo (b : Nat) : Value := .pointer (some ⟨b, 0, none⟩)
structure DiskRep where
  fv : Value
  mv : Value
  nm : Nat
  bm : Nat
  fbs : List Nat
  cvs : List Value
  role : Nat → Nat
def coreCells (D : DiskV) (R : DiskRep) : Array Value :=
  #[.int .i64 D.room, R.fv, .map (some R.nm), .map (some R.bm), R.mv, .int .i64 D.ops, .int .i64 D.fail, .int .i64 D.left]
structure FileAt (w : World) (b : Nat) (cv : Value) (f : FileV) : Prop where
  blk : w.heap[b]? = some (.cells #[.string f.base, .string f.now, cv] 101 (0, 0))
  row : w.ownsRow 0 128 2 cv f.chgs.length (f.chgs.flatMap chgCells)
abbrev MapAt (w : World) (b : Nat) (m : NMap) : Prop := w.ownsMap (H := Unit) Tryz.prog 9 (Go.plainElem Tryz.prog 3) b m.length m.toD
structure DiskV.Wf (D : DiskV) : Prop where
  room : 0 ≤ D.room ∧ D.room ≤ 9223372036854775807
  ops : -9223372036854775808 ≤ D.ops ∧ D.ops ≤ 9223372036854775807
  fail : 0 ≤ D.fail ∧ D.fail ≤ 9223372036854775807
  left : -1 ≤ D.left ∧ D.left ≤ 9223372036854775807
  names : ∀ p ∈ D.names, p.2 < D.files.length
  base : ∀ p ∈ D.base, p.2 < D.files.length
  moves : ∀ m ∈ D.moves, m.dst.size ≠ 0 → m.file < D.files.length
structure DiskAt (w : World) (d : Nat) (D : DiskV) (R : DiskRep) : Prop where
  wf : D.Wf
  core : w.heap[d]? = some (.cells (coreCells D R) 80 (0, 0))
  frow : w.ownsRow 0 102 1 R.fv D.files.length (R.fbs.map ptrTo)
  each : ∀ i f, D.files[i]? = some f → ∃ b cv, R.fbs[i]? = some b ∧ R.cvs[i]? = some cv ∧ FileAt w b cv f ∧ R.role b = 6 + 2 * i ∧ (∀ k, cv.ownBlock = some k → R.role k = 7 + 2 * i)
  clen : R.cvs.length = D.files.length
  names : MapAt w R.nm D.names
  base : MapAt w R.bm D.base
  mrow : w.ownsRow 0 120 3 R.mv D.moves.length (D.moves.flatMap moveCells)
  rD : R.role d = 1
  rN : R.role R.nm = 2
  rB : R.role R.bm = 3
  rF : ∀ k, R.fv.ownBlock = some k → R.role k = 4
  rM : ∀ k, R.mv.ownBlock = some k → R.role k = 5
  old : ∀ b, R.role b ≠ 0 → b < w.heap.size
/-- A disk lies at block d, and all of it in F. -/
def DiskIn (w : World) (d : Nat) (D : DiskV) (F : Nat → Prop) : Prop := ∃ R, DiskAt w d D R ∧ ∀ b, R.role b ≠ 0 → F b
theorem FileAt.off {G : Nat → Prop} {w w' : World} {b : Nat} {cv : Value} {f : FileV} (h : FileAt w b cv f) (ho : Off G w w') (hb : ¬ G b) (hc : ∀ k, cv.ownBlock = some k → ¬ G k) : FileAt w' b cv f :=
  ⟨ho.at_ h.blk hb, ho.row h.row hc⟩
theorem map_tight {w : World} {b n : Nat} {m : NMap} (h : w.ownsMap (H := Unit) Tryz.prog 9 (Go.plainElem Tryz.prog 3) b n m.toD) : MapAt w b m := by
  obtain ⟨es, clock, hb, F, hs, e⟩ := h
  refine ⟨es, clock, hb, F, ?_, e⟩
  have := congrArg (Maps.size (H := Unit)) e
  rw [NMap.size_toD] at this
  simp only [Maps.size, length_read] at this
  omega
theorem DiskAt.len {w : World} {d : Nat} {D : DiskV} {R : DiskRep} (h : DiskAt w d D R) : R.fbs.length = D.files.length := by
  have := h.frow.1
  simpa using this
/-- A disk is as it was where nothing of it has turned. -/
theorem DiskAt.off {G : Nat → Prop} {w w' : World} {d : Nat} {D : DiskV} {R : DiskRep} (h : DiskAt w d D R) (ho : Off G w w') (hG : ∀ b, R.role b ≠ 0 → ¬ G b) : DiskAt w' d D R where
  wf := h.wf
  core := ho.at_ h.core (hG d (by rw [h.rD]; omega))
  frow := ho.row h.frow (fun k hk => hG k (by rw [h.rF k hk]; omega))
  each := fun i f hf => by
    obtain ⟨b, cv, h1, h2, h3, h4, h5⟩ := h.each i f hf
    exact ⟨b, cv, h1, h2, h3.off ho (hG b (by omega)) (fun k hk => hG k (by rw [h5 k hk]; omega)), h4, h5⟩
  clen := h.clen
  names := ho.map h.names (hG _ (by rw [h.rN]; omega))
  base := ho.map h.base (hG _ (by rw [h.rB]; omega))
  mrow := ho.row h.mrow (fun k hk => hG k (by rw [h.rM k hk]; omega))
  rD := h.rD
  rN := h.rN
  rB := h.rB
  rF := h.rF
  rM := h.rM
  old := fun b hb => Nat.lt_of_lt_of_le (h.old b hb) ho.size
theorem DiskIn.off {F G : Nat → Prop} {w w' : World} {d : Nat} {D : DiskV} (h : DiskIn w d D F) (ho : Off G w w') (hG : ∀ b, b < w.heap.size → F b → ¬ G b) : DiskIn w' d D F := by
  obtain ⟨R, h, hF⟩ := h
  exact ⟨R, h.off ho (fun b hb => hG b (h.old b hb) (hF b hb)), hF⟩
theorem DiskIn.mono {F F' : Nat → Prop} {w : World} {d : Nat} {D : DiskV} (h : DiskIn w d D F) (hF : ∀ b, b < w.heap.size → F b → F' b) : DiskIn w d D F' := by
  obtain ⟨R, h, hR⟩ := h
  exact ⟨R, h, fun b hb => hF b (h.old b hb) (hR b hb)⟩
/-- The disk's own block has turned, and nothing else: numbers alone. -/
theorem DiskAt.core' {w w' : World} {d : Nat} {D D' : DiskV} {R : DiskRep} (h : DiskAt w d D R) (ho : Off (Only d) w w') (hc : w'.heap[d]? = some (.cells (coreCells D' R) 80 (0, 0)))
    (hw : D'.Wf) (hf : D'.files = D.files) (hn : D'.names = D.names) (hb : D'.base = D.base) (hm : D'.moves = D.moves) : DiskAt w' d D' R where
  wf := hw
  core := hc
  frow := by rw [hf]; exact ho.row h.frow (fun k hk e => by have h1 := h.rF k hk; have h2 := h.rD; rw [show k = d from e] at h1; omega)
  each := fun i f hi => by
    rw [hf] at hi
    obtain ⟨b, cv, h1, h2, h3, h4, h5⟩ := h.each i f hi
    refine ⟨b, cv, h1, h2, h3.off ho (fun e => ?_) (fun k hk e => ?_), h4, h5⟩
    · have h2 := h.rD; rw [show b = d from e] at h4; omega
    · have h1 := h5 k hk; have h2 := h.rD; rw [show k = d from e] at h1; omega
  clen := by rw [hf]; exact h.clen
  names := by rw [hn]; exact ho.map h.names (fun e => by have h1 := h.rN; have h2 := h.rD; rw [show R.nm = d from e] at h1; omega)
  base := by rw [hb]; exact ho.map h.base (fun e => by have h1 := h.rB; have h2 := h.rD; rw [show R.bm = d from e] at h1; omega)
  mrow := by rw [hm]; exact ho.row h.mrow (fun k hk e => by have h1 := h.rM k hk; have h2 := h.rD; rw [show k = d from e] at h1; omega)
  rD := h.rD
  rN := h.rN
  rB := h.rB
  rF := h.rF
  rM := h.rM
  old := fun b hb => Nat.lt_of_lt_of_le (h.old b hb) ho.size
end Go.Proofs.YtnppdcegpojmbaaGreatDoor
