/- The tables that the rows lay: Glob out of them. · What closes a law's row, whatever its parameters: the arguments read behind the call as they did before, where below the heap's old size nothing has turned. -/
import Derived.Test.YtndgnlblbjpogaaGreatDoorSegIn
import Derived.Test.YtndgnlblbjpogaaGreatDoorRows
import Derived.Lib.LaidTab
import Derived.LaidSub
import Derived.MakeChecks
import Derived.ProofKit
import Derived.Carry
namespace Go.Proofs.YtndgnlblbjpogaaGreatDoor
open Go Go.RowKit
namespace Laid
theorem gTab : Tryz.prog.globalNamed "postroom/crc.table" = some 2 := by kernel_rfl
theorem tTab : (Tryz.prog.globals[2]?).map (·.type) = some 256 := by kernel_rfl
theorem tPow : (Tryz.prog.globals[1]?).map (·.type) = some 247 := by kernel_rfl
theorem c22 : Tryz.prog.cellsOf 208 = 1 := by kernel_rfl
theorem c35 : Tryz.prog.cellsOf 256 = 16 := by kernel_rfl
theorem c64 : Tryz.prog.cellsOf 31 = 1 := by kernel_rfl
theorem c20 : Tryz.prog.cellsOf 247 = 20 := by kernel_rfl
theorem tab_of {W : World} (h : laidMetH Tryz.prog [("postroom/crc.table", Rows.laid_postroom_crc_table)] W) : Crc.TabOk W := by
  rw [MakeChecks.laidMetH_plain _ _ _ (by kernel_rfl)] at h
  have hT := Lib.tabIs_of_head (k := .u32) (zs := Crc.tabL.map fun (n : Nat) => (n : Int)) gTab tTab Tryz.underlying256 Tryz.underlying208 c22 c35 h
  intro i hi
  have := hT.cell gTab i (by simpa [Crc.tabL] using hi)
  rw [this, Crc.tabAt]
  have e : ∀ j : Fin 16, (Crc.tabL.map fun (n : Nat) => (n : Int)).getD j.val 0 = ((Crc.tabL.getD j.val 0 : Nat) : Int) := by decide
  rw [e ⟨i, hi⟩]
theorem pow_of {W : World} (h : laidMetH Tryz.prog [("internal/strconv.uint64pow10", Rows.laid_internal_strconv_uint64pow10)] W) : Pow W := by
  rw [MakeChecks.laidMetH_plain _ _ _ (by kernel_rfl)] at h
  exact Lib.tabIs_of_head (k := .u64) (zs := Lib.pow10Tab) powNamed tPow Tryz.underlying247 Tryz.underlying31 c64 c20 h
theorem glob_of {W : World} {l : List (String × DataW Unit)} (h : laidMetH Tryz.prog l W)
    (h1 : l.filter (fun x => x.1 == "postroom/crc.table") = [("postroom/crc.table", Rows.laid_postroom_crc_table)])
    (h2 : l.filter (fun x => x.1 == "internal/strconv.uint64pow10") = [("internal/strconv.uint64pow10", Rows.laid_internal_strconv_uint64pow10)]) : Glob W.heap.size W := by
  have ht := tab_of (by have := h.filter (fun x => x.1 == "postroom/crc.table"); rw [h1] at this; exact this)
  have hp := pow_of (by have := h.filter (fun x => x.1 == "internal/strconv.uint64pow10"); rw [h2] at this; exact this)
  exact ⟨ht, hp, Heap.block_lt (ht 0 (by omega)), Heap.block_lt (hp.cell powNamed 0 (by decide))⟩
end Laid
end Go.Proofs.YtndgnlblbjpogaaGreatDoor
namespace Go.Proofs.YtndgnlblbjpogaaGreatDoor
open Go Go.RowKit Go.ChangeShapes Go.WideShapes Go.ChangeAt
namespace Door
theorem laidOut : laidOutB Tryz.prog = true := by kernel_rfl
/-- One closed fact: each type can be read and is a row of the table. -/
def typesRowed (P : Program) (ts : List TypeId) : Bool := ts.all fun t => P.readableRec t && decide (t < P.types.size)
theorem trodAll_below {H : Type} {enc : TypeId × Value → H} {P : Program} (hl : laidOutB P = true) {W W' : World} (hb : Below W.heap.size W W') :
    ∀ (ts : List TypeId) (vs : List Value) (ds : List (DataW H)) (ps : List MemPlace), typesRowed P ts = true → (∀ x ∈ ps, x.block < W.heap.size) →
      DataW.TrodAll enc P W 0 (fun _ => true) true ts vs ds ps → DataW.TrodAll enc P W' 0 (fun b => decide (b < W.heap.size)) true ts vs ds ps
  | [], [], [], _, _, _, h => h
  | t :: ts, v :: vs, d :: ds, ps, hr, hlt, h => by
    obtain ⟨p, q, h1, h2, rfl⟩ := h
    simp only [typesRowed, List.all_cons, Bool.and_eq_true, decide_eq_true_eq] at hr
    refine ⟨p, q, Below.trod hl hr.1.1 hr.1.2 h1 hb (fun x hx => hlt x (by simp [hx])), ?_, rfl⟩
    exact trodAll_below hl hb ts vs ds q (by simpa [typesRowed] using hr.2) (fun x hx => hlt x (by simp [hx])) h2
  | [], [], _ :: _, _, _, _, h => h.elim
  | [], _ :: _, _, _, _, _, h => h.elim
  | _ :: _, [], _, _, _, _, h => h.elim
  | _ :: _, _ :: _, [], _, _, _, h => h.elim
/-- The post of a law, where its walk ends in true and has turned nothing that was there. -/
theorem post_of_below {H : Type} {enc : TypeId × Value → H} {f : Func} {s : ChangeSpec} {W W' : World} {args : Array Value} {ds gs : List (DataW H)} {before : List MemPlace} {tb : TypeId}
    (hv : s.vars = []) (hres : f.resultTypes.toList = [tb]) (hn : f.resultTypes.size = 1) (hb4 : Tryz.prog.underlying tb = some .bool) (hts : typesRowed Tryz.prog f.params.toList = true)
    (hs : (s.fn H (ds ++ [])).results = [.lit (.bool true)]) (ha : (s.fn H (ds ++ [])).args = ds) (hvs : (s.fn H (ds ++ [])).vars = [])
    (hW : DataW.Whole enc Tryz.prog f.params.toList s.vars false W args.toList ds gs before) (hb : Below W.heap.size W W') :
    s.post enc Tryz.prog f false true false false W args (.bool true) W' := by
  have hW0 := hW
  obtain ⟨p, q, hA, hV, rfl, hfz, hnd⟩ := hW
  rw [hv] at hV
  have hg : gs = [] ∧ q = [] := by
    cases gs with
    | nil => exact ⟨rfl, hV⟩
    | cons _ _ => exact hV.elim
  obtain ⟨rfl, rfl⟩ := hg
  have hlt : ∀ x ∈ p, x.block < W.heap.size := fun x hx => by simpa using hW0.lt x (by simp [hx])
  refine ⟨ds, [], p ++ [], [], p, [], hW0, ?_, ?_, ?_, ?_, fun h => by cases h⟩
  · rw [hres, hs, hn]
    exact trodAll_mk1 (shut_bool hb4 true)
  · rw [ha]
    exact trodAll_below laidOut hb _ _ _ _ hts hlt hA
  · rw [hv, hvs]; rfl
  · exact hb.frame _
end Door
end Go.Proofs.YtndgnlblbjpogaaGreatDoor
