/- slices.Insert at a row of numbers of the call's own: one number is put in at a place. · A destination in memory; the walk of waits and of done. -/
import Derived.Test.YtndgnlblbjpogaaGreatDoorNums
import Derived.Shelf.Spec.SlicesInsert
import Derived.Laws.CopyRow
import Derived.Lib.AppendZerosOnto
import Derived.Lib.AppendZeros
import Derived.Lib.Overlaps
import Derived.Laws.NewBlocks
import Derived.Laws.MakeOwn
import Derived.Laws.ResultCell
import Derived.OwnWalk
import Derived.StillTailTactics
import Derived.Deep.QuietTactic
import Derived.Lib.QuietBelow
import Derived.BigQuiet
namespace Go.Proofs.YtndgnlblbjpogaaGreatDoor
open Go Go.RowKit
theorem Off.setRow {G : Nat → Prop} {w w' : World} {g : Nat} (h : Off G w w') (hg : G g ∨ w.heap.size ≤ g) (cs : Array Value) : Off G w (w'.setRow g cs) := by
  refine ⟨h.os, h.tape, h.output, ?_, fun b hb hn => ?_⟩
  · show _ ≤ (w'.heap.modify g _).size
    rw [Array.size_modify]; exact h.size
  · have hne : g ≠ b := by
      rintro rfl
      rcases hg with hg | hg
      · exact hn hg
      · omega
    rw [← h.block b hb hn]
    show (w'.heap.modify g _)[b]? = w'.heap[b]?
    rw [Array.getElem?_modify, if_neg hne]
namespace Nums
theorem u64Ok : ElemOk Tryz.prog 45 31 1 8 := ElemOk.of Tryz.underlying45 (z := .int .u64 0) (by kernel_rfl) rfl (by decide) (by decide)
theorem infoU : (Tryz.prog.info? 31).map (fun i => (i.zero, i.size, i.bytes)) = some (some (.int .u64 0), 1, 8) := by kernel_rfl
/-- What is given: a row of the call's own, and a block with the number. -/
structure Given (w : World) (base g cap : Nat) (l : List Nat) (vb x : Nat) : Prop where
  row : w.ownsRow base 31 1 (.slice (some ⟨g, 0, none⟩) l.length cap) l.length (numCells l)
  few : l.length ≤ 1099511627776
  arg : w.heap[vb]? = some (.cells #[.int .u64 x] 31 (0, 0))
  ne : g ≠ vb
  base : base ≤ w.heap.size
def Put (w : World) (base g : Nat) (l : List Nat) (e : Ending) (w' : World) : Prop :=
  ∃ g' cap', e = .returned (.slice (some ⟨g', 0, none⟩) l.length cap') ∧ w'.ownsRow base 31 1 (.slice (some ⟨g', 0, none⟩) l.length cap') l.length (numCells l) ∧ Off (Only g) w w' ∧ (g = g' ∨ w.heap.size ≤ g')
theorem numCells_append (a b : List Nat) : numCells (a ++ b) = numCells a ++ numCells b := List.map_append
set_option maxHeartbeats 1000000 in
set_option maxRecDepth 100000 in
theorem insert_end (w : World) (base g cap : Nat) (l : List Nat) (vb x : Nat) (h : Given w base g cap l vb x) :
    Calls Tryz.prog 142 #[.slice (some ⟨g, 0, none⟩) l.length cap, .int .i64 l.length, .slice (some ⟨vb, 0, none⟩) 1 1] w (Put w base g (l ++ [x])) := by
  obtain ⟨n, hn⟩ : ∃ n, n = l.length := ⟨_, rfl⟩
  have H := Lib.hid h
  have hf := h.few
  have hcap : l.length ≤ cap ∧ cap ≤ maxLen := by
    rcases h.row.2 with ⟨hv, _⟩ | ⟨g', cap', cur, hv, _, _, h1, h2, _⟩
    · cases hv
    · cases hv; exact ⟨h1, h2⟩
  have hr := Lib.hid h.row
  clear h
  have HN := Lib.hid hn
  rw [← hn] at hf hcap ⊢
  clear hn
  have hc1 := hcap.1
  have hc2 := hcap.2
  unfold maxLen at hc2
  clear hcap
  have hnews : ∀ j u, [Value.int .u64 x][j]? = some u → w.cell? ((⟨vb, 0, none⟩ : Addr).add j) = some u := by
    intro j u hu
    rw [Addr.add_lit, Heap.cell H.out.arg, Nat.zero_add]
    simpa using hu
  have HW := Lib.hid hnews; clear hnews
  obtain ⟨i0, z, hi, hz, h2, h3, h4⟩ := u64Ok.info
  by_cases hcn : cap = n
  · go_enter Tryz.func142, Tryz.ntmps142
    go_wp2_with (at_builtin; refine wpList_append_lies _ rfl _ _ 45 rfl base 31 i0 z 1 8 Tryz.underlying45 hi hz h2 h3 h4 (by decide) _ n (numCells l) rfl ?q1 ⟨vb, 0, none⟩ 1 1 [.int .u64 x] rfl rfl HW.out ?q2 (by decide) ?q3 ?q4 H.out.base w.heap.size rfl ?_)
    case q1 => rw [HN.out]; exact hr.out
    case q2 => intro u hu; rw [List.mem_singleton.1 hu]; rfl
    case q3 => unfold maxLen; omega
    case q4 => omega
    intro g' cap' w1 r1 r2 r3 r4
    go_wp2
    go_ret
    refine ⟨g', cap', ?_, ?_, ⟨r2.os, r2.tape, r2.output, r2.size, fun b hb hne => r2.block b hb (fun e => hne (by cases e; rfl))⟩, ?_⟩
    · rw [List.length_append, ← HN.out]; rfl
    · rw [List.length_append, ← HN.out, numCells_append]; exact r1
    · rcases r3 with r3 | r3
      · left; cases r3; rfl
      · right; omega
  · go_enter Tryz.func142, Tryz.ntmps142
    go_wp2_with (at_builtin; refine wpList_append_lies _ rfl _ _ 45 rfl base 31 i0 z 1 8 Tryz.underlying45 hi hz h2 h3 h4 (by decide) _ n (numCells l) rfl ?q1 ⟨vb, 0, none⟩ 1 1 [.int .u64 x] rfl rfl HW.out ?q2 (by decide) ?q3 ?q4 H.out.base w.heap.size rfl ?_)
    case q1 => rw [HN.out]; exact hr.out
    case q2 => intro u hu; rw [List.mem_singleton.1 hu]; rfl
    case q3 => unfold maxLen; omega
    case q4 => omega
    intro g' cap' w1 r1 r2 r3 r4
    go_wp2
    go_ret
    refine ⟨g', cap', ?_, ?_, ⟨r2.os, r2.tape, r2.output, r2.size, fun b hb hne => r2.block b hb (fun e => hne (by cases e; rfl))⟩, ?_⟩
    · rw [List.length_append, ← HN.out]; rfl
    · rw [List.length_append, ← HN.out, numCells_append]; exact r1
    · rcases r3 with r3 | r3
      · left; cases r3; rfl
      · right; omega
theorem Given.own {w : World} {base g cap : Nat} {l : List Nat} {vb x : Nat} (h : Given w base g cap l vb x) :
    ∃ cur, base ≤ g ∧ w.heap[g]? = some (.cells cur 31 (0, 0)) ∧ l.length ≤ cap ∧ cap ≤ maxLen ∧ cur.size = cap ∧ cur.toList.take l.length = numCells l := by
  rcases h.row.2 with ⟨hv, _⟩ | ⟨g', cap', cur, hv, h0, h1, h2, h3, h4, h5⟩
  · cases hv
  · cases hv
    exact ⟨cur, h0, h1, h2, h3, by omega, by rw [Nat.mul_one] at h5; exact h5⟩
theorem shape_of {w : World} {b : Nat} {cs : Array Value} {t : TypeId} {fr : Nat × Nat} (h : w.heap[b]? = some (.cells cs t fr)) : w.shape? b = some (t, cs.size) := by
  simp [World.shape?, h]
theorem ins_take (cur : List Value) (n i : Nat) (ys : List Value) (x : Value) (hi : i < n) (hn : n < cur.length) (hy : cur.take n = ys) :
    (((cur.take (i + 1) ++ ys.drop i ++ cur.drop (i + 1 + (n - i))).take i ++ [x] ++ (cur.take (i + 1) ++ ys.drop i ++ cur.drop (i + 1 + (n - i))).drop (i + 1)).take (n + 1)) = ys.take i ++ x :: ys.drop i := by
  have hyl : ys.length = n := by rw [← hy, List.length_take]; omega
  have h1 : (cur.take (i + 1) ++ ys.drop i ++ cur.drop (i + 1 + (n - i))).take i = ys.take i := by
    rw [List.append_assoc, List.take_append_of_le_length (by rw [List.length_take]; omega), List.take_take, ← hy, List.take_take]
    congr 1; omega
  have h2 : (cur.take (i + 1) ++ ys.drop i ++ cur.drop (i + 1 + (n - i))).drop (i + 1) = ys.drop i ++ cur.drop (i + 1 + (n - i)) := by
    rw [List.append_assoc]
    exact List.drop_left' (by rw [List.length_take]; omega)
  rw [h1, h2, ← List.append_assoc, List.take_append_of_le_length (by simp; omega), List.take_of_length_le (by simp; omega), List.append_assoc]
  rfl
set_option maxHeartbeats 2000000 in
set_option maxRecDepth 100000 in
theorem insert_shift (w : World) (base g cap : Nat) (l : List Nat) (i vb x : Nat) (hi : i < l.length) (hr : l.length < cap) (h : Given w base g cap l vb x) :
    Calls Tryz.prog 142 #[.slice (some ⟨g, 0, none⟩) l.length cap, .int .i64 i, .slice (some ⟨vb, 0, none⟩) 1 1] w (Put w base g (l.take i ++ x :: l.drop i)) := by
  obtain ⟨cur, hbg, hg, _, hcm, hcs, hct⟩ := h.own
  obtain ⟨n, hn⟩ : ∃ n, n = l.length := ⟨_, rfl⟩
  have hf := h.few
  have hne := h.ne
  have harg := h.arg
  have H := Lib.hid h; clear h
  rw [← hn] at hi hr hf hct ⊢
  have HN := Lib.hid hn; clear hn
  unfold maxLen at hcm
  have hsz : (Tryz.prog.info? 31).map (·.size) = some 1 := by kernel_rfl
  have hw1 : IntKind.i64.wrap ((i : Int) + 1) = (i : Int) + 1 := by rw [IntKind.wrap_i64]; omega
  have hlc : cur.toList.length = cap := by rw [Array.length_toList]; exact hcs
  have hnl : (numCells l).length = n := by rw [numCells_len, HN.out]
  obtain ⟨R1, hR1⟩ : ∃ R1 : List Value, R1 = cur.toList.take (i + 1) ++ (numCells l).drop i ++ cur.toList.drop (i + 1 + (n - i)) := ⟨_, rfl⟩
  have hR1l : R1.length = cap := by rw [hR1]; simp; omega
  obtain ⟨R2, hR2⟩ : ∃ R2 : List Value, R2 = R1.take i ++ [.int .u64 x] ++ R1.drop (i + 1) := ⟨_, rfl⟩
  have hR2l : R2.length = cap := by rw [hR2]; simp; omega
  have hR2t : R2.take (n + 1) = numCells (l.take i ++ x :: l.drop i) := by
    rw [hR2, hR1, ins_take cur.toList n i (numCells l) (.int .u64 x) hi (by omega) hct]
    unfold numCells
    simp
  have hov : ∀ (W : World) (lb cb : Nat), W.heap[g]? = some (.cells cur 31 (0, 0)) → W.heap[vb]? = some (.cells #[.int .u64 x] 31 (0, 0)) →
      (callFunc 177 #[.slice (some ⟨vb, 0, none⟩) 1 1, .slice (some ⟨g, i + 1, none⟩) lb cb]).run Tryz.prog W = .ok (.value (.bool false)) W := fun W lb cb h1 h2 => by
    rw [run_callFunc_extern Tryz.func177 (by kernel_rfl) (by kernel_rfl) (by kernel_rfl) (e := Extern.SlicesOverlaps.overlaps #[45, 45] #[4]) (by kernel_rfl),
      Lib.run_overlaps_apart W 45 4 31 Tryz.underlying45 1 (fun _ => Tryz.sizeOf31 _) ⟨vb, 0, none⟩ ⟨g, i + 1, none⟩ 1 1 lb cb (Ne.symm hne) _ _ _ _ (shape_of h2) (shape_of h1) (by omega) (Heap.frozen h2 0) (Heap.frozen h2 1)]
    rfl
  have hOV := Lib.hid (hov w · · hg harg); clear hov
  have hcp1 : ∀ ty dc sc, (Builtin.copy_ #[45, 45] ty #[.slice (some ⟨g, i + 1, none⟩) (n - i) dc, .slice (some ⟨g, i, none⟩) (n + 1 - i) sc]).run Tryz.prog w.drew = .ok (goInt ((numCells l).drop i).length) (w.drew.setRow g R1.toArray) := fun ty dc sc => by
    rw [hR1]
    have := run_copy_row Tryz.prog w.drew 45 45 ty 31 g (i + 1) (n - i) dc ⟨g, i, none⟩ (n + 1 - i) sc cur 31 ((numCells l).drop i) Tryz.underlying45 hsz hg
      (by rw [List.length_drop, hnl]; show n - i = min (n + 1 - i) (n - i); omega)
      (fun j v hj => by
        rw [List.getElem?_drop] at hj
        rw [Addr.add_lit]
        have hjn : i + j < n := by have := (List.getElem?_eq_some_iff.1 hj).1; omega
        rw [← hct, List.getElem?_take_of_lt hjn] at hj
        exact (Heap.cell hg _).trans (by rw [← Array.getElem?_toList]; exact hj))
      (by rw [List.length_drop, hnl]; omega) (fun v hv => numCells_one l v (List.mem_of_mem_drop hv))
    rw [List.length_drop, hnl] at this ⊢
    exact this
  have hg1 : (w.drew.setRow g R1.toArray).heap[g]? = some (.cells R1.toArray 31 (0, 0)) := setRow_heap w.drew g cur _ 31 (0, 0) hg
  have hcp2 : ∀ ty dc, (Builtin.copy_ #[45, 45] ty #[.slice (some ⟨g, i, none⟩) (n + 1 - i) dc, .slice (some ⟨vb, 0, none⟩) 1 1]).run Tryz.prog (w.drew.setRow g R1.toArray) = .ok (goInt 1) ((w.drew.setRow g R1.toArray).setRow g R2.toArray) := fun ty dc => by
    rw [hR2]
    exact run_copy_row Tryz.prog _ 45 45 ty 31 g i (n + 1 - i) dc ⟨vb, 0, none⟩ 1 1 R1.toArray 31 [.int .u64 x] Tryz.underlying45 hsz hg1
      (by show 1 = min 1 (n + 1 - i); omega)
      (fun j v hj => by
        have hoff : Off (Only g) w (w.drew.setRow g R1.toArray) := ((Off.refl (Only g) w).drew).setRow (G := Only g) (.inl rfl) _
        rw [Addr.add_lit, Heap.cell (hoff.at_ harg (fun e => hne e.symm)), Nat.zero_add]
        simpa using hj)
      (by show i + 1 ≤ R1.toArray.size; rw [List.size_toArray, hR1l]; omega) (fun v hv => by rw [List.mem_singleton.1 hv]; rfl)
  have HR2 := Lib.hid (And.intro hR2t hR2l)
  clear hR1 hR2 hR1l hR2t hR2l hct hcs hlc hnl hg1
  have hci : ¬ (cap = i) := by omega
  have hci1 : ¬ (cap = i + 1) := by omega
  have hne1 : ¬ ((i : Int) = (n : Int)) := by omega
  have hb3 : (i : Int) ≤ (n : Int) + 1 := by omega
  have hin : i ≤ n := by omega
  have hb1 : (0 : Int) ≤ (i : Int) + 1 := by omega
  have htn : ((i : Int) + 1).toNat = i + 1 := by omega
  go_enter Tryz.func142, Tryz.ntmps142
  go_wp2_with (simp only [hOV.out])
  go_region_law (refine step_copy_runI (by rfl) _ _ 45 45 (by rfl) _ _ (by simp [Act.eval, Act.put]) (by simp [Act.eval, Act.put]) (hcp1 _ _ _) ?_)
  go_wp2_with (at_builtin; refine wpList_copy_runI _ rfl _ _ 45 45 rfl _ _ rfl rfl (hcp2 _ _) ?_)
  go_ret
  have hll : (l.take i ++ x :: l.drop i).length = n + 1 := by rw [List.length_append, List.length_cons, List.length_take, List.length_drop, ← HN.out]; omega
  have hoff : Off (Only g) w ((w.drew.setRow g R1.toArray).setRow g R2.toArray) := (((Off.refl (Only g) w).drew).setRow (G := Only g) (.inl rfl) _).setRow (G := Only g) (.inl rfl) _
  refine ⟨g, cap, by rw [hll]; rfl, ?_, hoff, .inl rfl⟩
  rw [hll]
  refine ⟨by rw [numCells_len, hll]; omega, .inr ⟨g, cap, R2.toArray, rfl, hbg, setRow_heap _ g R1.toArray _ 31 (0, 0) (setRow_heap w.drew g cur _ 31 (0, 0) hg), by omega, by unfold maxLen; omega, by rw [List.size_toArray, HR2.out.2]; omega, ?_⟩⟩
  rw [Nat.mul_one]
  exact HR2.out.1
theorem grow_take (row : List Value) (n i : Nat) (ys : List Value) (x : Value) (hi : i < n) (hn : n < row.length) (hyl : ys.length = n) (hy : row.take i = ys.take i) :
    (((row.take i ++ [x] ++ row.drop (i + 1)).take (i + 1) ++ ys.drop i ++ (row.take i ++ [x] ++ row.drop (i + 1)).drop (i + 1 + (n - i))).take (n + 1)) = ys.take i ++ x :: ys.drop i := by
  have h1 : (row.take i ++ [x] ++ row.drop (i + 1)).take (i + 1) = ys.take i ++ [x] := by
    rw [List.take_append_of_le_length (by simp; omega), List.take_of_length_le (by simp; omega), hy]
  rw [h1, List.take_append_of_le_length (by simp; omega), List.take_of_length_le (by simp; omega), List.append_assoc]
  rfl
set_option maxHeartbeats 2000000 in
set_option maxRecDepth 100000 in
theorem insert_grow (w : World) (base g : Nat) (l : List Nat) (i vb x : Nat) (hi : i < l.length) (h : Given w base g l.length l vb x) :
    Calls Tryz.prog 142 #[.slice (some ⟨g, 0, none⟩) l.length l.length, .int .i64 i, .slice (some ⟨vb, 0, none⟩) 1 1] w (Put w base g (l.take i ++ x :: l.drop i)) := by
  obtain ⟨cur, hbg, hg, _, hcm, hcs, hct⟩ := h.own
  obtain ⟨n, hn⟩ : ∃ n, n = l.length := ⟨_, rfl⟩
  have hf := h.few
  have hne := h.ne
  have harg := h.arg
  have hbase := h.base
  clear h
  rw [← hn] at hi hf hct hcs ⊢
  have HN := Lib.hid hn; clear hn hcm
  have hsz : (Tryz.prog.info? 31).map (·.size) = some 1 := by kernel_rfl
  have hnl : (numCells l).length = n := by rw [numCells_len, HN.out]
  have hlc : cur.toList.length = n := by rw [Array.length_toList]; exact hcs
  have hcl : cur.toList = numCells l := by rw [← hct, List.take_of_length_le (by omega)]
  have hcell : ∀ W, Off None w W → ∀ j u, (numCells l)[j]? = some u → W.cell? ⟨g, j, none⟩ = some u := fun W ho j u hu => by
    rw [← hcl] at hu
    exact (Heap.cell (ho.at_ hg (fun h => h)) _).trans (by rw [← Array.getElem?_toList]; exact hu)
  obtain ⟨i0, hi0, hz0, hzs, hzb⟩ := info_parts infoU
  have hkk : (n : Int) + 1 - (i : Int) = ((n + 1 - i : Nat) : Int) := by omega
  have hik : i + (n + 1 - i) = n + 1 := by omega
  have hold : (Builtin.firstCells i0.size i (.slice (some ⟨g, 0, none⟩) i n)).run Tryz.prog w.drew = .ok ((numCells l).take i).toArray w.drew := by
    rw [hzs]
    exact run_firstCells_some w.drew 1 i ⟨g, 0, none⟩ i n ((numCells l).take i) (by rw [List.length_take]; omega) (fun j v hj => by
      rw [Addr.add_lit, Nat.zero_add]
      rw [List.getElem?_take] at hj
      split at hj
      · exact hcell w.drew ((Off.refl None w).drew) j v hj
      · cases hj)
  obtain ⟨G, hG⟩ : ∃ G, G = grownCap w (n + 1) n 31 := ⟨_, rfl⟩
  obtain ⟨row, hrow⟩ : ∃ row : List Value, row = (numCells l).take i ++ (Builtin.zeroCells (Value.int .u64 0).cells (n + 1 - i)).toList ++ (Builtin.zeroCells (Value.int .u64 0).cells (G - (n + 1))).toList := ⟨_, rfl⟩
  have hrz : ∀ ty, (Builtin.append_ #[45, 3] ty #[.slice (some ⟨g, 0, none⟩) i n, .int .i64 ((n : Int) + 1 - (i : Int))]).run Tryz.prog w =
      .ok (.slice (some ⟨w.heap.size, 0, none⟩) (n + 1) G) (w.drew.alloc (.cells row.toArray 31)) := fun ty => by
    have h := Lib.run_append_grow_zeros w 45 3 ty 31 i0 _ .i64 .i64 Tryz.underlying45 Tryz.underlying3 hi0 hz0 (some ⟨g, 0, none⟩) i n ((numCells l).take i) hold (n + 1 - i) (by omega) (by omega) (by omega) (by omega) (by rw [hzb]; omega) (by rw [hzb, hik]; exact growslice_fits (show n < n + 1 by omega) (by omega))
    rw [hik] at h
    rw [hkk, hG, hrow, hG]
    rw [h]
    refine congrArg (fun r => Result.ok _ (w.drew.alloc (.cells r 31))) (Array.ext' ?_)
    simp
  have hGn : n + 1 ≤ G := by rw [hG]; exact grownCap_ge w _ _ _
  have hGm : G ≤ maxLen := by
    rw [hG]
    exact grownCap_le_maxLen w (n + 1) n 31 (by unfold maxLen; omega)
  have hrl : row.length = G := by
    rw [hrow]
    simp [Builtin.zeroCells, Value.cells]
    omega
  have hrt : row.take i = (numCells l).take i := by
    rw [hrow, List.append_assoc, List.take_append_of_le_length (by rw [List.length_take]; omega), List.take_take]
    congr 1; omega
  clear hrow hG hold hkk hik
  obtain ⟨h0, hh0⟩ : ∃ h0, h0 = w.heap.size := ⟨_, rfl⟩
  rw [← hh0] at hrz
  obtain ⟨W1, hW1⟩ : ∃ W1, W1 = w.drew.alloc (.cells row.toArray 31) := ⟨_, rfl⟩
  rw [← hW1] at hrz
  have ho1 : Off None w W1 := by rw [hW1]; exact ((Off.refl None w).drew).alloc _
  have hb1 : W1.heap[h0]? = some (.cells row.toArray 31 (0, 0)) := by rw [hW1, hh0]; exact Heap.alloc_new w.drew _
  clear hW1
  have hgh : g ≠ h0 := by have := Heap.lt hg; omega
  have hvh : vb ≠ h0 := by have := Heap.lt harg; omega
  obtain ⟨R1, hR1⟩ : ∃ R1 : List Value, R1 = row.take i ++ [.int .u64 x] ++ row.drop (i + 1) := ⟨_, rfl⟩
  have hR1l : R1.length = G := by rw [hR1]; simp; omega
  obtain ⟨R2, hR2⟩ : ∃ R2 : List Value, R2 = R1.take (i + 1) ++ (numCells l).drop i ++ R1.drop (i + 1 + (n - i)) := ⟨_, rfl⟩
  have hR2l : R2.length = G := by rw [hR2]; simp; omega
  have hR2t : R2.take (n + 1) = numCells (l.take i ++ x :: l.drop i) := by
    rw [hR2, hR1, grow_take row n i (numCells l) (.int .u64 x) hi (by omega) hnl hrt]
    unfold numCells
    simp
  have hcpA : ∀ ty dc, (Builtin.copy_ #[45, 45] ty #[.slice (some ⟨h0, i, none⟩) (n + 1 - i) dc, .slice (some ⟨vb, 0, none⟩) 1 1]).run Tryz.prog W1 = .ok (goInt 1) (W1.setRow h0 R1.toArray) := fun ty dc => by
    rw [hR1]
    exact run_copy_row Tryz.prog _ 45 45 ty 31 h0 i (n + 1 - i) dc ⟨vb, 0, none⟩ 1 1 row.toArray 31 [.int .u64 x] Tryz.underlying45 hsz hb1
      (by show 1 = min 1 (n + 1 - i); omega)
      (fun j v hj => by
        rw [Addr.add_lit, Heap.cell (ho1.at_ harg (fun h => h)), Nat.zero_add]
        simpa using hj)
      (by show i + 1 ≤ row.toArray.size; rw [List.size_toArray, hrl]; omega) (fun v hv => by rw [List.mem_singleton.1 hv]; rfl)
  obtain ⟨W2, hW2⟩ : ∃ W2, W2 = W1.setRow h0 R1.toArray := ⟨_, rfl⟩
  rw [← hW2] at hcpA
  have hb2 : W2.heap[h0]? = some (.cells R1.toArray 31 (0, 0)) := by rw [hW2]; exact setRow_heap W1 h0 _ _ 31 (0, 0) hb1
  have ho2 : Off None w W2 := by rw [hW2]; exact ho1.setRow (.inr (by omega)) _
  clear hW2
  have hcpB : ∀ ty dc sc, (Builtin.copy_ #[45, 45] ty #[.slice (some ⟨h0, i + 1, none⟩) (n - i) dc, .slice (some ⟨g, i, none⟩) (n - i) sc]).run Tryz.prog W2.drew = .ok (goInt ((numCells l).drop i).length) (W2.drew.setRow h0 R2.toArray) := fun ty dc sc => by
    rw [hR2]
    have := run_copy_row Tryz.prog W2.drew 45 45 ty 31 h0 (i + 1) (n - i) dc ⟨g, i, none⟩ (n - i) sc R1.toArray 31 ((numCells l).drop i) Tryz.underlying45 hsz hb2
      (by rw [List.length_drop, hnl]; show n - i = min (n - i) (n - i); omega)
      (fun j v hj => by
        rw [List.getElem?_drop] at hj
        rw [Addr.add_lit]
        exact hcell W2.drew ho2.drew _ v hj)
      (by rw [List.length_drop, hnl, List.size_toArray]; omega) (fun v hv => numCells_one l v (List.mem_of_mem_drop hv))
    rw [List.length_drop, hnl] at this ⊢
    exact this
  have HR2 := Lib.hid (And.intro hR2t hR2l)
  have HF := Lib.hid (And.intro hb2 ho2)
  have HG := Lib.hid (And.intro hcl hg)
  have HH := Lib.hid hh0
  have hGmx : G ≤ 9223372036854775807 := by unfold maxLen at hGm; omega
  have hhb : base ≤ h0 := by omega
  clear hR1 hR2 hR1l hR2l hR2t hct hcs hlc hcl hcell hrl hrt hb1 hb2 ho1 ho2 hh0 hg harg
  have hGi : ¬ (G = i) := by omega
  have hGi1 : ¬ (G = i + 1) := by omega
  have hci : ¬ (n = i) := by omega
  have hne1 : ¬ ((i : Int) = (n : Int)) := by omega
  have hb3 : (i : Int) ≤ (n : Int) := by omega
  have hin : i ≤ n := by omega
  have hw1 : IntKind.i64.wrap ((i : Int) + 1) = (i : Int) + 1 := by rw [IntKind.wrap_i64]; omega
  have hb1 : (0 : Int) ≤ (i : Int) + 1 := by omega
  have htn : ((i : Int) + 1).toNat = i + 1 := by omega
  go_enter Tryz.func142, Tryz.ntmps142
  go_wp2_with (first
    | (at_builtin; refine Lib.wpList_append_run _ rfl _ _ _ _ rfl _ _ rfl rfl _ _ (hrz _) ?_)
    | (at_builtin; refine wpList_copy_runI _ rfl _ _ 45 45 rfl _ _ rfl rfl (hcpA _ _) ?_))
  go_region_law (refine step_copy_runI (by rfl) _ _ 45 45 (by rfl) _ _ (by simp [Act.eval, Act.put]) (by simp [Act.eval, Act.put]) (hcpB _ _ _) ?_)
  go_wp2
  go_ret
  have hll : (l.take i ++ x :: l.drop i).length = n + 1 := by rw [List.length_append, List.length_cons, List.length_take, List.length_drop, ← HN.out]; omega
  refine ⟨h0, G, by rw [hll]; rfl, ?_, (HF.out.2.drew.setRow (G := None) (.inr (by have := HH.out; omega)) _).mono (fun _ _ h => h.elim), .inr (by have := HH.out; omega)⟩
  rw [hll]
  refine ⟨by rw [numCells_len, hll]; omega, .inr ⟨h0, G, R2.toArray, rfl, hhb, setRow_heap W2.drew h0 R1.toArray _ 31 (0, 0) HF.out.1, hGn, hGm, by rw [List.size_toArray, HR2.out.2]; omega, ?_⟩⟩
  rw [Nat.mul_one]
  exact HR2.out.1
/-- Insert of a number that rising ones lack, at its place. -/
theorem insert_any (w : World) (base g cap : Nat) (l : List Nat) (vb x : Nat) (h : Given w base g cap l vb x) (hr : Rising l) (hx : x ∉ l) :
    Calls Tryz.prog 142 #[.slice (some ⟨g, 0, none⟩) l.length cap, .int .i64 (below x l : Nat), .slice (some ⟨vb, 0, none⟩) 1 1] w (Put w base g (insSeq x l)) := by
  rw [insSeq_below x l hr hx]
  have hle := below_le x l
  rcases Nat.eq_or_lt_of_le hle with he | hlt
  · rw [he, List.take_length, List.drop_length]
    exact insert_end w base g cap l vb x h
  · obtain ⟨_, _, _, hc, _⟩ := h.own
    rcases Nat.eq_or_lt_of_le hc with he | hc
    · subst he
      exact insert_grow w base g l _ vb x hlt h
    · exact insert_shift w base g cap l _ vb x hlt hc h
end Nums
end Go.Proofs.YtndgnlblbjpogaaGreatDoor
namespace Go.Proofs.YtndgnlblbjpogaaGreatDoor
open Go Go.RowKit
theorem Off.stay {G : Nat → Prop} {w w' : World} {a : Addr} {v : Value} (h : Off G w w') (hc : w.cell? a = some v) (hn : ¬ G a.block) : w'.cell? a = some v := (h.cell (Heap.block_lt hc) hn).trans hc
theorem Off.quiet_trans {G : Nat → Prop} {w w1 w2 : World} (h : Off G w w1) (h' : Off None w1 w2) : Off G w w2 := h.trans h' (fun _ _ h => h.elim)
theorem boxed (w : World) (cs : Array Value) (t : TypeId) : ∃ w1, w1 = w.alloc (.cells cs t) ∧ Off None w w1 ∧ w1.heap[w.heap.size]? = some (.cells cs t (0, 0)) ∧ w1.heap.size = w.heap.size + 1 :=
  ⟨_, rfl, (Off.refl None w).alloc _, Heap.alloc_new w _, Heap.alloc_size w _⟩
/-- Numbers that are far from Go's bound. -/
abbrev big : Nat := 549755813888
structure DestV.Small (d : DestV) : Prop where
  name : d.name.size ≤ maxLen
  since : d.since ≤ big
  low : d.low ≤ big
  acked : d.acked ≤ big
  evicted : d.evicted ≤ big
  rejected : d.rejected ≤ big
  above : ∀ s ∈ d.above, s ≤ big
  len : d.above.length ≤ big
def destCells (d : DestV) (av : Value) : List Value := [.string d.name, .int .u64 d.since, .int .u64 d.low, av, .int .u64 d.acked, .int .u64 d.evicted, .int .u64 d.rejected]
def destAgg (d : DestV) (av : Value) : Value := .agg #[.string d.name, .int .u64 d.since, .int .u64 d.low, av, .int .u64 d.acked, .int .u64 d.evicted, .int .u64 d.rejected]
/-- A destination in memory: its row's block is one of S. -/
structure DestAt (w : World) (S : Nat → Prop) (p : DestV × Value) : Prop where
  row : SliceAt w S 1 p.2 p.1.above.length (numCells p.1.above)
  small : p.1.Small
namespace DestAt
variable {w w' : World} {S T G : Nat → Prop} {p : DestV × Value}
theorem off (h : DestAt w S p) (ho : Off G w w') (hG : ∀ b, S b → b < w.heap.size → ¬ G b) : DestAt w' S p := ⟨h.row.off ho hG, h.small⟩
theorem quiet (h : DestAt w S p) (ho : Off None w w') : DestAt w' S p := ⟨h.row.quiet ho, h.small⟩
theorem mono (h : DestAt w S p) (hS : ∀ b, S b → b < w.heap.size → T b) : DestAt w T p := ⟨h.row.mono hS, h.small⟩
end DestAt
/-- The cells of a destination in a block. -/
theorem dest_cells {w : World} {b : Nat} {d : DestV} {av : Value} {t : TypeId} {fr : Nat × Nat} (h : w.heap[b]? = some (.cells (destCells d av).toArray t fr)) :
    w.cell? ⟨b, 0, none⟩ = some (.string d.name) ∧ w.cell? ⟨b, 1, none⟩ = some (.int .u64 d.since) ∧ w.cell? ⟨b, 2, none⟩ = some (.int .u64 d.low) ∧ w.cell? ⟨b, 3, none⟩ = some av ∧
    w.cell? ⟨b, 4, none⟩ = some (.int .u64 d.acked) ∧ w.cell? ⟨b, 5, none⟩ = some (.int .u64 d.evicted) ∧ w.cell? ⟨b, 6, none⟩ = some (.int .u64 d.rejected) :=
  ⟨Heap.cell h 0, Heap.cell h 1, Heap.cell h 2, Heap.cell h 3, Heap.cell h 4, Heap.cell h 5, Heap.cell h 6⟩
namespace Led
set_option maxHeartbeats 1000000 in
set_option maxRecDepth 100000 in
theorem waits_any (w : World) (S : Nat → Prop) (d : DestV) (av : Value) (h : DestAt w S (d, av)) (hr : Rising d.above) (seq next : Nat) :
    Calls Tryz.prog 48 #[destAgg d av, .int .u64 seq, .int .u64 next] w fun e w' => e = .returned (.bool (d.waits seq next)) ∧ Off None w w' := by
  unfold destAgg
  obtain ⟨w1, hw1, ho1, hb1, _⟩ := boxed w (destCells d av).toArray 47
  obtain ⟨c0, c1, c2, c3, c4, c5, c6⟩ := dest_cells hb1
  have HS := Lib.hid (fun x => Nums.bsearch_any w1 S av d.above x (h.row.quiet ho1) hr)
  have HO := Lib.hid ho1
  clear h hr ho1 hb1
  unfold destCells at hw1
  by_cases h1 : seq < d.low
  · have h1' : (seq : Int) < d.low := by omega
    go_enter Tryz.func48, Tryz.ntmps48
    go_wp2_with fail
    rw [← hw1]
    clear hw1
    go_wp2_with fail
    go_ret
    refine ⟨?_, HO.out⟩
    unfold DestV.waits
    rw [decide_eq_false (show ¬ d.low ≤ seq by omega)]
    rfl
  · have h1' : ¬ ((seq : Int) < d.low) := by omega
    by_cases h2 : next ≤ seq
    · have h2' : (next : Int) ≤ seq := by omega
      go_enter Tryz.func48, Tryz.ntmps48
      go_wp2_with fail
      rw [← hw1]
      clear hw1
      go_wp2_with fail
      go_ret
      refine ⟨?_, HO.out⟩
      unfold DestV.waits
      rw [decide_eq_false (show ¬ seq < next by omega), Bool.and_false]
      rfl
    · have h2' : ¬ ((next : Int) ≤ seq) := by omega
      go_enter Tryz.func48, Tryz.ntmps48
      go_wp2_with fail
      rw [← hw1]
      clear hw1
      go_wp2_with fail
      refine (HS.out seq).mono ?_
      rintro e w2 ⟨rfl, ho2⟩
      obtain ⟨q, hq⟩ : ∃ q, q = d.above.contains seq := ⟨_, rfl⟩
      rw [← hq]
      have HQ := Lib.hid hq; clear hq
      go_wp2_with fail
      go_ret
      refine ⟨?_, HO.out.quiet_trans ho2⟩
      unfold DestV.waits
      rw [decide_eq_true (show d.low ≤ seq by omega), decide_eq_true (show seq < next by omega), ← HQ.out]
      rfl
/-- The first row's numbers, over again. -/
theorem copied (w1 : World) (S : Nat → Prop) (v : Value) (l : List Nat) (h : SliceAt w1 S 1 v l.length (numCells l)) (base : Nat) (hb : base ≤ w1.heap.size) (cs : Array Value) (hc : cs.size = l.length) :
    ∃ w2, (∀ ty, (Builtin.copy_ #[45, 45] ty #[.slice (some ⟨w1.heap.size, 0, none⟩) l.length l.length, v]).run Tryz.prog (w1.alloc (.cells cs 31)) = .ok (goInt l.length) w2) ∧
      w2.ownsRow base 31 1 (.slice (some ⟨w1.heap.size, 0, none⟩) l.length l.length) l.length (numCells l) ∧ Off None w1 w2 := by
  have hsz : (Tryz.prog.info? 31).map (·.size) = some 1 := by kernel_rfl
  have hb1 : (w1.alloc (.cells cs 31)).heap[w1.heap.size]? = some (.cells cs 31 (0, 0)) := Heap.alloc_new w1 _
  have ho1 : Off None w1 (w1.alloc (.cells cs 31)) := (Off.refl None w1).alloc _
  rcases h.2.2 with ⟨rfl, h0⟩ | ⟨b, off, c, rfl, h1, h2, h3, h4, h5⟩
  · have hl : l = [] := List.eq_nil_of_length_eq_zero h0
    subst hl
    refine ⟨_, fun ty => run_copy_none _ _ _ ty 31 _ _ _ _ _ _ Tryz.underlying45 hsz rfl, ?_, ho1⟩
    exact ⟨rfl, .inr ⟨_, _, cs, rfl, hb, hb1, Nat.le_refl _, Nat.zero_le _, by simpa using hc, by simp [numCells]⟩⟩
  · have hnl := numCells_len l
    refine ⟨_, fun ty => ?_, ?_, ho1.setRow (g := w1.heap.size) (.inr (Nat.le_refl _)) (cs.toList.take 0 ++ numCells l ++ cs.toList.drop (0 + (numCells l).length)).toArray⟩
    · have := run_copy_row Tryz.prog (w1.alloc (.cells cs 31)) 45 45 ty 31 w1.heap.size 0 l.length l.length ⟨b, off, none⟩ l.length c cs 31 (numCells l) Tryz.underlying45 hsz hb1
        (by rw [hnl]; show l.length = min l.length l.length; omega)
        (fun j v hj => by rw [Addr.add_lit]; exact ho1.stay (h5 j v hj) (fun h => h))
        (by rw [hnl]; omega) (numCells_one l)
      rw [this, hnl]
    · have e : (cs.toList.take 0 ++ numCells l ++ cs.toList.drop (0 + (numCells l).length)) = numCells l := by
        rw [List.take_zero, List.nil_append, List.drop_eq_nil_of_le (by rw [hnl, Array.length_toList]; omega), List.append_nil]
      rw [e]
      have h63 := h.2.1
      refine ⟨by rw [hnl]; omega, .inr ⟨_, _, (numCells l).toArray, rfl, hb, setRow_heap _ _ cs _ 31 (0, 0) hb1, Nat.le_refl _, by unfold maxLen; omega, by rw [List.size_toArray, hnl]; omega, ?_⟩⟩
      rw [Nat.mul_one, List.take_of_length_le (by rw [hnl]; exact Nat.le_refl _)]
theorem make_nums (w : World) (m : Nat) (hm : m ≤ 1099511627776) : ∃ cs : Array Value, cs.size = m ∧
    (Instr.makeSlice 45 (.int .i64 m) (.int .i64 m)).run Tryz.prog w = .ok (.slice (some ⟨w.heap.size, 0, none⟩) m m) (w.alloc (.cells cs 31)) := by
  obtain ⟨i0, hi0, hz0, hzs, hzb⟩ := info_parts Nums.infoU
  have h := run_make (P := Tryz.prog) w 45 31 i0 _ Tryz.underlying45 hi0 hz0 .i64 .i64 m m (by omega) (Int.le_refl _) (by rw [hzb]; omega) (by omega)
  rw [hzs, Int.toNat_natCast, Nat.mul_one] at h
  exact ⟨_, size_madeCells _ _, h⟩
theorem results_row_tmp' {P : Program} {fn : Func} {p u : Tmp} {ty : TypeId} (h : fn.results = #[.cell p ty, .tmp u]) (tmps : Array Value) (w : World) (g : Nat) (t : TypeId) (cs : Array Value) (fr : Nat × Nat) (d : TypeDesc)
    (hp : tmps.getD p undef = .pointer (some ⟨g, 0, none⟩)) (hg : w.heap[g]? = some (.cells cs t fr))
    (hu : P.underlying ty = some d) (hd : (match d with | .struct _ | .array _ _ => true | _ => false) = true) (hi : (P.info? ty).map (·.size) = some cs.size) :
    (results fn tmps).run P w = .ok (.tuple #[.agg cs, tmps.getD u undef]) w := by
  rw [results_cell_tmp h, hp]
  simp [asAddr, Result.andThen, run_loadVar_row w g t ty cs fr d hg hu hd hi]
def zeroDest : Array Value := #[.string ⟨#[]⟩, .int .u64 0, .int .u64 0, .slice none 0 0, .int .u64 0, .int .u64 0, .int .u64 0]
theorem box7 {w : World} {b : Nat} {a0 a1 a2 a3 a4 a5 a6 : Value} {t : TypeId} {fr : Nat × Nat} (h : w.heap[b]? = some (.cells #[a0, a1, a2, a3, a4, a5, a6] t fr)) (v0 v1 v2 v3 v4 v5 v6 : Value) :
    (((((((w.setCell ⟨b, 0, none⟩ v0).setCell ⟨b, 1, none⟩ v1).setCell ⟨b, 2, none⟩ v2).setCell ⟨b, 3, none⟩ v3).setCell ⟨b, 4, none⟩ v4).setCell ⟨b, 5, none⟩ v5).setCell ⟨b, 6, none⟩ v6).heap[b]? = some (.cells #[v0, v1, v2, v3, v4, v5, v6] t fr) :=
  (Heap.set (Heap.set (Heap.set (Heap.set (Heap.set (Heap.set (Heap.set h 0 v0) 1 v1) 2 v2) 3 v3) 4 v4) 5 v5) 6 v6).trans (by simp)
theorem infoDest : (Tryz.prog.info? 47).map (fun i => (i.zero, i.size, i.bytes)) = some (some (.agg #[.string ⟨#[]⟩, .int .u64 0, .int .u64 0, .slice none 0 0, .int .u64 0, .int .u64 0, .int .u64 0]), 7, 80) := by kernel_rfl
theorem sizeDest : (Tryz.prog.info? 47).map (·.size) = some 7 := by kernel_rfl
set_option maxHeartbeats 4000000 in
set_option maxRecDepth 100000 in
theorem done_any (w : World) (S : Nat → Prop) (d : DestV) (av : Value) (h : DestAt w S (d, av)) (hr : Rising d.above) (from_ to next : Nat) (hf : from_ ≤ big) (ht : to ≤ big) (hn : next ≤ big) :
    Calls Tryz.prog 108 #[destAgg d av, .int .u64 from_, .int .u64 to, .int .u64 next] w fun e w' => ∃ av', e = .returned (.tuple #[destAgg (d.done from_ to next).1 av', .int .u64 (d.done from_ to next).2]) ∧
      SliceAt w' (fun b => w.heap.size ≤ b) 1 av' (d.done from_ to next).1.above.length (numCells (d.done from_ to next).1.above) ∧ Off None w w' := by
  obtain ⟨hrow, hsm⟩ := h
  have s1 : d.low ≤ big := hsm.low
  have s2 : d.above.length ≤ big := hsm.len
  have s3 : ∀ s ∈ d.above, s ≤ big := hsm.above
  dsimp only at hrow
  obtain ⟨A, c, hav⟩ : ∃ A c, av = .slice A d.above.length c := by
    rcases hrow.2.2 with ⟨e, h0⟩ | ⟨b, o, c, e, _⟩
    · exact ⟨none, 0, by rw [e, h0]⟩
    · exact ⟨_, c, e⟩
  unfold destAgg
  obtain ⟨w1, hw1, ho1, hb1, hs1⟩ := boxed w (destCells d av).toArray 47
  obtain ⟨w2, hw2, ho2, hb2, hs2⟩ := boxed w1 zeroDest 47
  obtain ⟨p, hp⟩ : ∃ p, p = w.heap.size := ⟨_, rfl⟩
  obtain ⟨q, hq⟩ : ∃ q, q = w1.heap.size := ⟨_, rfl⟩
  have hq1 : q = p + 1 := by omega
  rw [← hp] at hb1
  rw [← hq] at hb2
  have hpq : p ≠ q := by omega
  have hb1' := ho2.at_ hb1 (fun h => h)
  obtain ⟨c0, c1, c2, c3, c4, c5, c6⟩ := dest_cells hb1'
  obtain ⟨cs, hcs, hmk⟩ := make_nums w2 d.above.length hrow.2.1
  obtain ⟨w3, hcp, hown, ho3⟩ := copied w2 S av d.above ((hrow.quiet ho1).quiet ho2) w2.heap.size (Nat.le_refl _) cs hcs
  obtain ⟨g0, hg0⟩ : ∃ g0, g0 = w2.heap.size := ⟨_, rfl⟩
  have hpg : p < g0 := by omega
  have hHG := Lib.hid (show g0 = w2.heap.size from hg0)
  have hqg : q < g0 := by omega
  rw [hav] at hcp c3
  have HB1 := Lib.hid (And.intro hb1' hb2)
  have HO2 := Lib.hid (ho1.trans ho2 (fun _ _ h => h))
  have HO3 := Lib.hid ho3
  have HR := Lib.hid hr
  have HOWN := Lib.hid hown
  have HP := Lib.hid (show w.heap.size ≤ p ∧ w.heap.size ≤ q by omega)
  have HA := Lib.hid s3
  clear hrow hsm hr hown ho1 ho2 ho3 hb1 hb2 hb1' hcs hs1 hs2 s3
  unfold destCells zeroDest at *
  rw [hav] at hw1 ⊢
  go_enter Tryz.func108, Tryz.ntmps108
  go_wp2_with fail
  rw [← hw1, ← hw2, ← hp, ← hq1]
  rw [← hg0] at hmk hcp
  obtain ⟨W, hW⟩ : ∃ W, W = w2.alloc (.cells cs 31) := ⟨_, rfl⟩
  rw [← hW] at hmk hcp
  have k3 : W.cell? ⟨p, 3, none⟩ = some (.slice A d.above.length c) := by rw [hW]; exact ((Off.refl None w2).alloc _).stay c3 (fun h => h)
  clear hw1 hw2 hp hq hq1 hg0 hW
  have d2 : w3.cell? ⟨p, 2, none⟩ = some (.int .u64 d.low) := HO3.out.stay c2 (fun h => h)
  go_wp2_with (first | simp only [hmk] | (at_builtin; refine wpList_copy_runI _ rfl _ _ 45 45 rfl _ _ rfl rfl (hcp _) ?_))
  unfold big at hf ht hn s1 s2
  obtain ⟨K, hK⟩ : ∃ K, K = min to next - max from_ d.low := ⟨_, rfl⟩
  obtain ⟨f, hfd⟩ : ∃ f, f = max from_ d.low := ⟨_, rfl⟩
  have hKb : K ≤ 549755813888 := by omega
  have hfb : f ≤ 549755813888 := by omega
  have HFD := Lib.hid hfd
  have HK := Lib.hid (show K = min to next - f by rw [hfd]; exact hK)
  clear hmk hcp c0 c1 c2 c3 c4 c5 c6 k3 hfd hK
  go_loopg [10, 11, 12] K (fun gg s10 s11 s12 wr => ∃ (k cnt : Nat) (l : List Nat) (gb cap sq g : Nat), g = gg ∧ k + g = K ∧ sq = f + k ∧ s12 = .int .u64 (sq : Int) ∧ s10 = .int .u64 cnt ∧ s11 = .slice (some ⟨gb, 0, none⟩) l.length cap ∧ cnt ≤ k ∧ l.length ≤ d.above.length + k ∧
    wr.ownsRow g0 31 1 (.slice (some ⟨gb, 0, none⟩) l.length cap) l.length (numCells l) ∧ Off None w2 wr ∧
    Aside (Rising l ∧ (spanSeq d.above f K).1 = (spanSeq l sq g).1 ∧ (spanSeq d.above f K).2 = cnt + (spanSeq l sq g).2))
  case atStart =>
    refine ⟨0, 0, d.above, g0, d.above.length, f, K, rfl, by omega, rfl, ?_, rfl, rfl, Nat.le_refl _, by omega, ?_, HO3.out, HR.out, rfl, by rw [Nat.zero_add]⟩
    · exact congrArg _ (by have := HFD.out; omega)
    · have := HOWN.out; rw [← hHG.out] at this; exact this
  case round =>
    obtain ⟨k, cnt, l, gb, cap, sq, g, hgg, hkg, hsq, rfl, rfl, rfl, hck, hlk, hown, ho, I⟩ := hrel
    have HOWN := Lib.hid hown; clear hown
    have HO := Lib.hid ho; clear ho
    have HSQ := Lib.hid hsq; clear hsq
    have hkK : k ≤ K := by omega
    by_cases hlt : k < K
    · have hcond : (sq : Int) < min (to : Int) (next : Int) := by have := HSQ.out; have := HK.out; omega
      have hll : l.length ≤ 1099511627776 := by omega
      have hs := Nums.bsearch_any _ (fun _ => True) _ l sq (SliceAt.of_own HOWN.out hll (fun _ _ => trivial)) I.out.1
      obtain ⟨g', rfl⟩ : ∃ g', g = g' + 1 := ⟨g - 1, by omega⟩
      go_wp2_with fail
      refine hs.mono ?_
      rintro e wr1 ⟨rfl, hor1⟩
      obtain ⟨is, his⟩ : ∃ is, is = l.contains sq := ⟨_, rfl⟩
      obtain ⟨at_, hat⟩ : ∃ at_, at_ = below sq l := ⟨_, rfl⟩
      rw [← his, ← hat]
      have HIS := Lib.hid his; clear his
      have HAT := Lib.hid hat; clear hat
      have HO1 := Lib.hid (HO.out.quiet_trans hor1)
      have HOWN1 := Lib.hid (hor1.row HOWN.out (fun _ _ h => h))
      clear hs hor1
      have hsqb : sq ≤ 1099511627776 := by have := HSQ.out; omega
      cases is with
      | true =>
        go_wp2_with fail
        go_roundg g'
        case measure => omega
        case rel =>
          have hsp : spanSeq l sq (g' + 1) = spanSeq l (sq + 1) g' := by rw [spanSeq, if_pos HIS.out.symm]
          refine ⟨k + 1, cnt, l, gb, cap, sq + 1, g', rfl, by omega, by have := HSQ.out; omega, by go_num, rfl, rfl, by omega, by omega, HOWN1.out, HO1.out, I.out.1, ?_, ?_⟩
          · rw [I.out.2.1, hsp]
          · rw [I.out.2.2, hsp]
      | false =>
        go_wp2_with fail
        have hnm : sq ∉ l := fun hm => by have := HIS.out; rw [List.contains_iff_mem.2 hm] at this; cases this
        have hgl := (HOWN1.out.lt gb rfl)
        have hgiv : Nums.Given (wr1.alloc (.cells #[.int .u64 sq] 31)) g0 gb cap l wr1.heap.size sq :=
          ⟨HOWN1.out.alloc _, hll, Heap.alloc_new _ _, by omega, by rw [Heap.alloc_size]; omega⟩
        rw [HAT.out]
        refine (Nums.insert_any _ g0 gb cap l wr1.heap.size sq hgiv I.out.1 hnm).mono ?_
        rintro e wr2 ⟨gb', cap', rfl, hown2, ho2, _⟩
        have HO2 := Lib.hid (show Off None w2 wr2 from (HO1.out.alloc (.cells #[.int .u64 sq] 31)).trans ho2 (fun b hb hbg => by have := hHG.out; have h1 : b = gb := hbg; omega))
        have HOWN2 := Lib.hid hown2
        have hil := insSeq_len sq l
        clear hgiv hgl hown2 ho2
        obtain ⟨m, hm⟩ : ∃ m, m = (insSeq sq l).length := ⟨_, rfl⟩
        have HM := Lib.hid hm
        rw [← hm] at hil ⊢
        clear hm
        go_wp2_with fail
        go_roundg g'
        case measure => omega
        case rel =>
          have hsp : spanSeq l sq (g' + 1) = ((spanSeq (insSeq sq l) (sq + 1) g').1, (spanSeq (insSeq sq l) (sq + 1) g').2 + 1) := by rw [spanSeq, if_neg (by rw [← HIS.out]; decide)]
          refine ⟨k + 1, cnt + 1, insSeq sq l, gb', cap', sq + 1, g', rfl, by omega, by have := HSQ.out; omega, by go_num, by go_num, by rw [← HM.out], by omega, by rw [← HM.out]; omega, HOWN2.out, HO2.out, insSeq_rising _ _ I.out.1, ?_, ?_⟩
          · rw [I.out.2.1, hsp]
          · rw [I.out.2.2, hsp]; omega
    · obtain ⟨e1, e2⟩ : (spanSeq d.above f K).1 = l ∧ (spanSeq d.above f K).2 = cnt := by
        have hg0 : g = 0 := by omega
        subst hg0
        exact ⟨I.out.2.1, I.out.2.2⟩
      have HE := Lib.hid (And.intro e1 e2); clear e1 e2
      have hcond : ¬ ((sq : Int) < min (to : Int) (next : Int)) := by have := HSQ.out; have := HK.out; omega
      have hgl := (HOWN.out.lt gb rfl)
      have hrow := SliceAt.of_own (S := fun _ => True) HOWN.out (by omega) (fun _ _ => trivial)
      obtain ⟨hcl, hcm, hcells⟩ : l.length ≤ cap ∧ cap ≤ maxLen ∧ ∀ j u, (numCells l)[j]? = some u → wr.cell? ⟨gb, j, none⟩ = some u := by
        rcases HOWN.out.2 with ⟨hv, _⟩ | ⟨gx, capx, cur, hv, _, h3, h4, h5, _, h7⟩
        · cases hv
        · cases hv
          exact ⟨h4, h5, fun j u hu => by have := HOWN.out.cells (g := gb) rfl j u hu; rw [Addr.add_lit, Nat.zero_add] at this; exact this⟩
      clear hrow
      have HC := Lib.hid hcells; clear hcells
      unfold maxLen at hcm
      have hpgb : p ≠ gb := by omega
      have hbp0 := HO.out.at_ HB1.out.1 (fun h => h)
      have hbq0 := HO.out.at_ HB1.out.2 (fun h => h)
      have HBP := Lib.hid hbp0
      have HBQ := Lib.hid hbq0
      clear hbp0 hbq0
      obtain ⟨wa, hwa⟩ : ∃ wa, wa = wr := ⟨_, rfl⟩
      subst hwa
      obtain ⟨n0, hn0⟩ : ∃ n0, n0 = l.length := ⟨_, rfl⟩
      have HN0 := Lib.hid hn0
      rw [← hn0] at hcl hlk ⊢
      clear hn0
      go_wp2_with fail
      go_loopg [11] n0 (fun gg s11 wr2 => ∃ (m t o cap' : Nat), t = gg ∧ m + t = n0 ∧ s11 = .slice (some ⟨gb, o, none⟩) t cap' ∧ (0 < t → o = m) ∧ t ≤ cap' ∧ cap' ≤ cap ∧
        wr2.heap[p]? = some (.cells (destCells { d with low := d.low + m } av).toArray 47 (0, 0)) ∧ Off (Only p) wa wr2 ∧ Aside (stripSeq d.low l = stripSeq (d.low + m) (l.drop m)))
      case atStart =>
        exact ⟨0, n0, 0, cap, rfl, by omega, rfl, fun _ => rfl, hcl, Nat.le_refl _, HBP.out, Off.refl _ _, rfl⟩
      case round =>
        obtain ⟨wr2, hwr2⟩ : ∃ wr2, wr2 = wr := ⟨_, rfl⟩
        subst hwr2
        obtain ⟨m, t, o, cap', hgg2, hmt, rfl, ho0, htc, hcc, hbp, hop, I2⟩ := hrel
        have hbq := hop.at_ HBQ.out (fun e => hpq e.symm)
        have HGG := Lib.hid hgg2; clear hgg2
        obtain ⟨lo, hlo⟩ : ∃ lo, lo = d.low + m := ⟨_, rfl⟩
        rw [← hlo] at hbp I2
        have HLO := Lib.hid hlo
        have hlob : lo ≤ 2000000000000 := by omega
        clear hlo
        have e2 := (dest_cells hbp).2.2.1
        dsimp only at e2
        by_cases ht0 : t = 0
        · have ht0 : t = 0 := ht0
          subst ht0
          have hd : decide ((0 : Int) < ((0 : Nat) : Int)) = false := by decide
          go_wp2_with fail
          go_quiet (fail)
          clear e2
          obtain ⟨wr3, hwr3⟩ : ∃ wr3, wr3 = wr2.drewN nq := ⟨_, rfl⟩
          rw [← hwr3]
          have hop3 : Off (Only p) wa wr3 := by rw [hwr3]; exact hop.drewN nq
          have hbp3 : wr3.heap[p]? = some (.cells (destCells { d with low := lo } av).toArray 47 (0, 0)) := by rw [hwr3]; exact hbp
          have hbq3 : wr3.heap[q]? = some (.cells zeroDest 47 (0, 0)) := by rw [hwr3]; exact hbq
          clear hwr3 hbp hbq hop
          have e0 := (dest_cells hbp3).1
          have e1 := (dest_cells hbp3).2.1
          have e2 := (dest_cells hbp3).2.2.1
          have e3 := (dest_cells hbp3).2.2.2.1
          have e4 := (dest_cells hbp3).2.2.2.2.1
          have e5 := (dest_cells hbp3).2.2.2.2.2.1
          have e6 := (dest_cells hbp3).2.2.2.2.2.2
          have x3 : wr3.frozen? ⟨p, 3, none⟩ = false := Heap.frozen hbp3 3
          have z0 : wr3.cell? ⟨q, 0, none⟩ = some (.string ⟨#[]⟩) := Heap.cell hbq3 0
          have y0 : wr3.frozen? ⟨q, 0, none⟩ = false := Heap.frozen hbq3 0
          have z1 : wr3.cell? ⟨q, 1, none⟩ = some (.int .u64 0) := Heap.cell hbq3 1
          have y1 : wr3.frozen? ⟨q, 1, none⟩ = false := Heap.frozen hbq3 1
          have z2 : wr3.cell? ⟨q, 2, none⟩ = some (.int .u64 0) := Heap.cell hbq3 2
          have y2 : wr3.frozen? ⟨q, 2, none⟩ = false := Heap.frozen hbq3 2
          have z3 : wr3.cell? ⟨q, 3, none⟩ = some (.slice none 0 0) := Heap.cell hbq3 3
          have y3 : wr3.frozen? ⟨q, 3, none⟩ = false := Heap.frozen hbq3 3
          have z4 : wr3.cell? ⟨q, 4, none⟩ = some (.int .u64 0) := Heap.cell hbq3 4
          have y4 : wr3.frozen? ⟨q, 4, none⟩ = false := Heap.frozen hbq3 4
          have z5 : wr3.cell? ⟨q, 5, none⟩ = some (.int .u64 0) := Heap.cell hbq3 5
          have y5 : wr3.frozen? ⟨q, 5, none⟩ = false := Heap.frozen hbq3 5
          have z6 : wr3.cell? ⟨q, 6, none⟩ = some (.int .u64 0) := Heap.cell hbq3 6
          have y6 : wr3.frozen? ⟨q, 6, none⟩ = false := Heap.frozen hbq3 6
          have HBQ3 := Lib.hid hbq3
          have HOP3 := Lib.hid hop3
          have HBP3 := Lib.hid hbp3
          clear hbp3 hbq3 hop3
          rw [hav] at e3
          dsimp only at e0 e1 e2 e4 e5 e6
          go_wp2_with fail
          have hstrip : stripSeq d.low l = (lo, ([] : List Nat)) := by
            rw [I2.out]; rw [List.drop_eq_nil_of_le (by have := HN0.out; omega)]; rfl
          have hlen : 0 = ([] : List Nat).length := rfl
          have hdone : d.done from_ to next = (⟨d.name, d.since, lo, ([] : List Nat), d.acked, d.evicted, d.rejected⟩, cnt) := by
            unfold DestV.done
            dsimp only
            rw [← HFD.out, ← HK.out, HE.out.1, HE.out.2, hstrip]
          rw [hdone]
          have hq8 : (wr3.setCell ⟨p, 3, none⟩ (.slice (some ⟨gb, o, none⟩) 0 cap')).heap[q]? = some (.cells #[.string ⟨#[]⟩, .int .u64 0, .int .u64 0, .slice none 0 0, .int .u64 0, .int .u64 0, .int .u64 0] 47 (0, 0)) := (Heap.set_far (show q ≠ p by omega) _).trans HBQ3.out
          refine bodyPost_ret_by (results_row_tmp' rfl _ _ q _ _ _ _ rfl (box7 hq8 _ _ _ _ _ _ _) Tryz.underlying47 rfl sizeDest) rfl ⟨.slice (some ⟨gb, o, none⟩) 0 cap', rfl, ?_, ?_⟩
          · exact ⟨rfl, Nat.zero_le _, .inr ⟨gb, o, cap', rfl, Nat.zero_le _, by unfold maxLen; omega, by have := HP.out.1; omega, by simp only [World.setCell, Array.size_modify]; have := Heap.lt HBP3.out; have := HOP3.out.size; omega, fun j u hu => by simp [numCells] at hu⟩⟩
          · have hgo : Off (Only p) wa wr3 := HOP3.out
            have h1 : Off None w wr3 := (HO2.out.quiet_trans HO.out).trans hgo (fun b hb e => by have := HP.out.1; have e' : b = p := e; omega)
            have hpl : w.heap.size ≤ p := HP.out.1
            have hql : w.heap.size ≤ q := HP.out.2
            exact ((((((((h1.setCell (p := ⟨p, 3, none⟩) (.inr hpl) _).setCell (p := ⟨q, 0, none⟩) (.inr hql) _).setCell (p := ⟨q, 1, none⟩) (.inr hql) _).setCell (p := ⟨q, 2, none⟩) (.inr hql) _).setCell (p := ⟨q, 3, none⟩) (.inr hql) _).setCell (p := ⟨q, 4, none⟩) (.inr hql) _).setCell (p := ⟨q, 5, none⟩) (.inr hql) _).setCell (p := ⟨q, 6, none⟩) (.inr hql) _)
        · have hm : m < l.length := by have := HN0.out; omega
          have htp : (0 : Int) < (t : Int) := by omega
          have hd : decide ((0 : Int) < (t : Int)) = true := decide_eq_true htp
          have htn : 0 < t := by omega
          have hdn : decide (0 < t) = true := decide_eq_true htn
          have hom := ho0 (by omega)
          subst hom
          obtain ⟨y, hy⟩ : ∃ y, y = l[o] := ⟨_, rfl⟩
          have cy : wr2.cell? ⟨gb, o, none⟩ = some (.int .u64 y) := by
            rw [hy]
            exact hop.stay (HC.out o _ (numCells_at l hm)) (fun e => hpgb e.symm)
          have Y : Aside (y = l[o]) := hy
          clear hy
          have hdrop : l.drop o = y :: l.drop (o + 1) := by rw [List.drop_eq_getElem_cons hm, Y.out]
          by_cases hyl : y = lo
          · subst hyl
            have xp2 : wr2.frozen? ⟨p, 2, none⟩ = false := Heap.frozen hbp 2
            have hyl' : ((y : Int) == (y : Int)) = true := beq_self_eq_true _
            go_wp2_with fail
            go_quiet (fail)
            go_wp2_with fail
            · go_roundg (t - 1)
              case measure => have := HGG.out; omega
              case rel =>
                refine ⟨o + 1, t - 1, o, 0, rfl, by omega, rfl, fun h => by omega, by omega, by omega, ?_, (hop.drewN nq).setCell (p := ⟨p, 2, none⟩) (.inl rfl) _, ?_⟩
                · refine (Heap.set (show (wr2.drewN nq).heap[p]? = _ from hbp) 2 _).trans ?_
                  have := HLO.out
                  rw [show d.low + (o + 1) = y + 1 by omega]
                  rfl
                · rw [I2.out, hdrop, stripSeq, if_pos rfl]
                  have := HLO.out
                  rw [show d.low + (o + 1) = y + 1 by omega]
                  exact rfl
            · go_roundg (t - 1)
              case measure => have := HGG.out; omega
              case rel =>
                refine ⟨o + 1, t - 1, o + 1, cap' - 1, rfl, by omega, rfl, fun _ => rfl, by omega, by omega, ?_, (hop.drewN nq).setCell (p := ⟨p, 2, none⟩) (.inl rfl) _, ?_⟩
                · refine (Heap.set (show (wr2.drewN nq).heap[p]? = _ from hbp) 2 _).trans ?_
                  have := HLO.out
                  rw [show d.low + (o + 1) = y + 1 by omega]
                  rfl
                · rw [I2.out, hdrop, stripSeq, if_pos rfl]
                  have := HLO.out
                  rw [show d.low + (o + 1) = y + 1 by omega]
                  exact rfl
          · have hyl' : ((y : Int) == (lo : Int)) = false := beq_eq_false_iff_ne.2 (by omega)
            go_wp2_with fail
            go_quiet (fail)
            clear e2 cy
            obtain ⟨wr3, hwr3⟩ : ∃ wr3, wr3 = wr2.drewN nq := ⟨_, rfl⟩
            rw [← hwr3]
            have hop3 : Off (Only p) wa wr3 := by rw [hwr3]; exact hop.drewN nq
            have hbp3 : wr3.heap[p]? = some (.cells (destCells { d with low := lo } av).toArray 47 (0, 0)) := by rw [hwr3]; exact hbp
            have hbq3 : wr3.heap[q]? = some (.cells zeroDest 47 (0, 0)) := by rw [hwr3]; exact hbq
            clear hwr3 hbp hbq hop
            have e0 := (dest_cells hbp3).1
            have e1 := (dest_cells hbp3).2.1
            have e2 := (dest_cells hbp3).2.2.1
            have e3 := (dest_cells hbp3).2.2.2.1
            have e4 := (dest_cells hbp3).2.2.2.2.1
            have e5 := (dest_cells hbp3).2.2.2.2.2.1
            have e6 := (dest_cells hbp3).2.2.2.2.2.2
            have x3 : wr3.frozen? ⟨p, 3, none⟩ = false := Heap.frozen hbp3 3
            have z0 : wr3.cell? ⟨q, 0, none⟩ = some (.string ⟨#[]⟩) := Heap.cell hbq3 0
            have y0 : wr3.frozen? ⟨q, 0, none⟩ = false := Heap.frozen hbq3 0
            have z1 : wr3.cell? ⟨q, 1, none⟩ = some (.int .u64 0) := Heap.cell hbq3 1
            have y1 : wr3.frozen? ⟨q, 1, none⟩ = false := Heap.frozen hbq3 1
            have z2 : wr3.cell? ⟨q, 2, none⟩ = some (.int .u64 0) := Heap.cell hbq3 2
            have y2 : wr3.frozen? ⟨q, 2, none⟩ = false := Heap.frozen hbq3 2
            have z3 : wr3.cell? ⟨q, 3, none⟩ = some (.slice none 0 0) := Heap.cell hbq3 3
            have y3 : wr3.frozen? ⟨q, 3, none⟩ = false := Heap.frozen hbq3 3
            have z4 : wr3.cell? ⟨q, 4, none⟩ = some (.int .u64 0) := Heap.cell hbq3 4
            have y4 : wr3.frozen? ⟨q, 4, none⟩ = false := Heap.frozen hbq3 4
            have z5 : wr3.cell? ⟨q, 5, none⟩ = some (.int .u64 0) := Heap.cell hbq3 5
            have y5 : wr3.frozen? ⟨q, 5, none⟩ = false := Heap.frozen hbq3 5
            have z6 : wr3.cell? ⟨q, 6, none⟩ = some (.int .u64 0) := Heap.cell hbq3 6
            have y6 : wr3.frozen? ⟨q, 6, none⟩ = false := Heap.frozen hbq3 6
            have HBQ3 := Lib.hid hbq3
            have HOP3 := Lib.hid hop3
            have HBP3 := Lib.hid hbp3
            clear hbp3 hbq3 hop3
            rw [hav] at e3
            dsimp only at e0 e1 e2 e4 e5 e6
            go_wp2_with fail
            have hstrip : stripSeq d.low l = (lo, l.drop o) := by
              rw [I2.out]; rw [hdrop, stripSeq, if_neg hyl]
            have hlen : t = (l.drop o).length := by rw [List.length_drop]; have := HN0.out; omega
            have hdone : d.done from_ to next = (⟨d.name, d.since, lo, l.drop o, d.acked, d.evicted, d.rejected⟩, cnt) := by
              unfold DestV.done
              dsimp only
              rw [← HFD.out, ← HK.out, HE.out.1, HE.out.2, hstrip]
            rw [hdone]
            have hq8 : (wr3.setCell ⟨p, 3, none⟩ (.slice (some ⟨gb, o, none⟩) t cap')).heap[q]? = some (.cells #[.string ⟨#[]⟩, .int .u64 0, .int .u64 0, .slice none 0 0, .int .u64 0, .int .u64 0, .int .u64 0] 47 (0, 0)) := (Heap.set_far (show q ≠ p by omega) _).trans HBQ3.out
            refine bodyPost_ret_by (results_row_tmp' rfl _ _ q _ _ _ _ rfl (box7 hq8 _ _ _ _ _ _ _) Tryz.underlying47 rfl sizeDest) rfl ⟨.slice (some ⟨gb, o, none⟩) t cap', rfl, ?_, ?_⟩
            · show SliceAt _ _ 1 (.slice (some ⟨gb, o, none⟩) t cap') (l.drop o).length (numCells (l.drop o))
              rw [← hlen]
              refine ⟨by rw [numCells_len, ← hlen]; omega, by omega, .inr ⟨gb, o, cap', rfl, htc, by unfold maxLen; omega, by have := HP.out.1; omega, ?_, fun j u hu => ?_⟩⟩
              · simp only [World.setCell, Array.size_modify]; have := Heap.lt HBP3.out; have := HOP3.out.size; omega
              · have hu' : (numCells l)[o + j]? = some u := by rw [← hu]; unfold numCells; rw [List.map_drop, List.getElem?_drop]
                exact Off.stay (G := fun b => b = p ∨ b = q) (((((((((HOP3.out.mono (fun _ _ h => .inl h)).setCell (p := ⟨p, 3, none⟩) (.inl (.inl rfl)) _).setCell (p := ⟨q, 0, none⟩) (.inl (.inr rfl)) _).setCell (p := ⟨q, 1, none⟩) (.inl (.inr rfl)) _).setCell (p := ⟨q, 2, none⟩) (.inl (.inr rfl)) _).setCell (p := ⟨q, 3, none⟩) (.inl (.inr rfl)) _).setCell (p := ⟨q, 4, none⟩) (.inl (.inr rfl)) _).setCell (p := ⟨q, 5, none⟩) (.inl (.inr rfl)) _).setCell (p := ⟨q, 6, none⟩) (.inl (.inr rfl)) _) (HC.out _ _ hu') (fun h => by rcases h with h | h <;> (have h' : gb = _ := h; omega))
            · have hgo : Off (Only p) wa wr3 := HOP3.out
              have h1 : Off None w wr3 := (HO2.out.quiet_trans HO.out).trans hgo (fun b hb e => by have := HP.out.1; have e' : b = p := e; omega)
              have hpl : w.heap.size ≤ p := HP.out.1
              have hql : w.heap.size ≤ q := HP.out.2
              exact ((((((((h1.setCell (p := ⟨p, 3, none⟩) (.inr hpl) _).setCell (p := ⟨q, 0, none⟩) (.inr hql) _).setCell (p := ⟨q, 1, none⟩) (.inr hql) _).setCell (p := ⟨q, 2, none⟩) (.inr hql) _).setCell (p := ⟨q, 3, none⟩) (.inr hql) _).setCell (p := ⟨q, 4, none⟩) (.inr hql) _).setCell (p := ⟨q, 5, none⟩) (.inr hql) _).setCell (p := ⟨q, 6, none⟩) (.inr hql) _)
end Led
end Go.Proofs.YtndgnlblbjpogaaGreatDoor
