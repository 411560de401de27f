/- The walk of Get of a log. -/
import Derived.Test.YtnppdcegpojmbaaGreatDoorSeg7
import Derived.Lib.QuietBelow
namespace Go.Proofs.YtnppdcegpojmbaaGreatDoor
open Go Go.RowKit Go.Shelf Go.Sort
theorem Off.toBelow {w w' : World} (h : Off None w w') : Below w.heap.size w w' := ⟨h.os, h.tape, h.output, h.size, fun b hb => h.block b hb (fun h => h)⟩
/-- A callee that turns nothing, met in a world of the class. -/
theorem Calls.quietly {P : Program} {f : FuncId} {args : Array Value} {w : World} {d : Nat} {os : Array Obj} {v : Value} (h : Calls P f args (grow (redrawn w d) os) fun e w' => e = .returned v ∧ Off None (grow (redrawn w d) os) w') :
    Calls P f args (grow (redrawn w d) os) fun e w'' => e = .returned v ∧ ∃ p : Regrown, w'' = grow (redrawn w p.d) p.os :=
  Calls.regrown_of (h.mono fun _ _ h => ⟨h.1, h.2.toBelow⟩)
abbrev SegOk := { s : SegV // s.Ok }
instance : Inhabited SegOk := ⟨⟨⟨0, 0, 0⟩, ⟨by decide, by decide, by decide⟩⟩⟩
/-- Has a segment this number? -/
def SegV.has (seq : Nat) (s : SegV) : Bool := decide (s.first ≤ seq) && decide (seq < s.end_)
namespace Seg
theorem pred_any (W : World) (s : SegV) (h : s.Ok) (seq b : Nat) (hb : W.cell? ⟨b, 0, none⟩ = some (.int .u64 seq)) :
    Calls Tryz.prog 55 #[.agg #[.int .u64 s.first, .int .i64 s.many, .int .i64 s.size], .pointer (some ⟨b, 0, none⟩)] W fun e w' => e = .returned (.bool (s.has seq)) ∧ Off None W w' := by
  have hbl := Heap.block_lt hb
  obtain ⟨w1, hw1⟩ : ∃ w1, w1 = W.alloc (.cells #[.int .u64 s.first, .int .i64 s.many, .int .i64 s.size] 42) := ⟨_, rfl⟩
  have ho1 : Off None W w1 := by rw [hw1]; exact (Off.refl None W).alloc _
  have hbx : w1.heap[W.heap.size]? = some (.cells #[.int .u64 s.first, .int .i64 s.many, .int .i64 s.size] 42 (0, 0)) := by rw [hw1]; exact Heap.alloc_new W _
  have c0 : w1.cell? ⟨W.heap.size, 0, none⟩ = some (.int .u64 s.first) := Heap.cell hbx 0
  have c1 : w1.cell? ⟨W.heap.size, 1, none⟩ = some (.int .i64 s.many) := Heap.cell hbx 1
  have c2 : w1.cell? ⟨W.heap.size, 2, none⟩ = some (.int .i64 s.size) := Heap.cell hbx 2
  have cb : w1.cell? ⟨b, 0, none⟩ = some (.int .u64 seq) := ho1.keep hb (fun h => h)
  have HO1 := Lib.hid ho1
  have cE : ∀ d os, Calls Tryz.prog 46 #[.agg #[.int .u64 s.first, .int .i64 s.many, .int .i64 s.size]] (grow (redrawn w1 d) os) fun e w'' => e = .returned (.int .u64 s.end_) ∧ ∃ p : Regrown, w'' = grow (redrawn w1 p.d) p.os := fun d os => Calls.quietly (end_any _ s h)
  have k0 := cell_regrown c0
  have k1 := cell_regrown c1
  have k2 := cell_regrown c2
  have kb := cell_regrown cb
  go_enter Tryz.func55, Tryz.ntmps55
  go_wp2_with fail
  rw [← hw1]
  clear hw1 hb hbl ho1 hbx c0 c1 c2 cb
  by_cases hf : s.first ≤ seq
  · have hf' : (s.first : Int) ≤ seq := by omega
    refine wp_region_quiet_below (by kernel_rfl) (by kernel_rfl) ?_
    repeat (quiet_step (first | exact cE _ _))
    refine wpQuiet_nil ?_
    intro _ hw'
    obtain ⟨⟨dq, osq⟩, hw''⟩ := hw'
    subst hw''
    go_wp2
    go_ret
    refine ⟨?_, HO1.out.trans (Off.of_below (below_regrown w1 dq osq) : Off None w1 _) (fun _ _ h => h)⟩
    show Ending.returned (.bool (decide (seq < s.end_))) = _
    unfold SegV.has
    rw [decide_eq_true hf, Bool.true_and]
  · have hf' : ¬ ((s.first : Int) ≤ seq) := by omega
    refine wp_region_quiet_below (by kernel_rfl) (by kernel_rfl) ?_
    repeat (quiet_step (first | exact cE _ _))
    refine wpQuiet_nil ?_
    intro _ hw'
    obtain ⟨⟨dq, osq⟩, hw''⟩ := hw'
    subst hw''
    go_wp2
    go_ret
    refine ⟨?_, HO1.out.trans (Off.of_below (below_regrown w1 dq osq) : Off None w1 _) (fun _ _ h => h)⟩
    show Ending.returned (.bool false) = _
    unfold SegV.has
    rw [decide_eq_false hf, Bool.false_and]
theorem idx_none (seq : Nat) : ∀ (l : List SegOk) (i : Nat), (l.map (·.1)).find? (SegV.has seq) = none → Lib.idxByFrom (fun _ y => SegV.has seq y.1) (default : SegOk) l i = -1 := by
  intro l
  induction l with
  | nil => intro i _; rfl
  | cons x r ih =>
    intro i h
    rw [List.map_cons, List.find?_cons] at h
    split at h
    · cases h
    · rename_i hx
      rw [Lib.idxByFrom, if_neg (by rw [hx]; decide), ih _ h]
theorem idx_some (seq : Nat) : ∀ (l : List SegOk) (i : Nat) (s : SegV), (l.map (·.1)).find? (SegV.has seq) = some s → ∃ k : Nat, (l.map (·.1))[k]? = some s ∧ Lib.idxByFrom (fun _ y => SegV.has seq y.1) (default : SegOk) l i = ((i + k : Nat) : Int) := by
  intro l
  induction l with
  | nil => intro i s h; simp at h
  | cons x r ih =>
    intro i s h
    rw [List.map_cons, List.find?_cons] at h
    split at h
    · rename_i hx
      cases h
      exact ⟨0, rfl, by rw [Lib.idxByFrom, if_pos hx]; rfl⟩
    · rename_i hx
      obtain ⟨k, h1, h2⟩ := ih (i + 1) s h
      exact ⟨k + 1, by simpa using h1, by rw [Lib.idxByFrom, if_neg (by rw [hx]; decide), h2]; congr 1; omega⟩
theorem withOk (l : List SegV) (h : ∀ s ∈ l, s.Ok) : ∃ zs : List SegOk, zs.map (·.1) = l := by
  induction l with
  | nil => exact ⟨[], rfl⟩
  | cons x r ih =>
    obtain ⟨zs, hz⟩ := ih (fun s hs => h s (by simp [hs]))
    exact ⟨⟨x, h x (by simp)⟩ :: zs, by simp [hz]⟩
theorem index_any (w : World) (g off cap : Nat) (xs : List SegV) (cur : Array Value) (hr : SegRow w g off cap xs cur) (hok : ∀ s ∈ xs, s.Ok) (seq b : Nat) (hb : w.cell? ⟨b, 0, none⟩ = some (.int .u64 seq)) :
    Calls Tryz.prog 54 #[.slice (some ⟨g, off * 3, none⟩) xs.length cap, .func (.func 55) #[] #[.pointer (some ⟨b, 0, none⟩)]] w fun e w' =>
      ∃ r : Int, e = .returned (.int .i64 r) ∧ Off None w w' ∧ ((xs.find? (SegV.has seq) = none ∧ r = -1) ∨ ∃ s, ∃ k : Nat, xs.find? (SegV.has seq) = some s ∧ xs[k]? = some s ∧ r = k) := by
  obtain ⟨zs, hz⟩ := withOk xs hok
  have hzl : zs.length = xs.length := by rw [← hz, List.length_map]
  have hle := hr.le
  have hmx := hr.max
  have hp : PredBelow Tryz.prog 55 #[.pointer (some ⟨b, 0, none⟩)] (fun x : SegOk => .agg (segCells x.1).toArray) (fun x => SegV.has seq x.1) w := fun W x hW =>
    (pred_any W x.1 x.2 seq b ((hW.cell (Heap.block_lt hb)).trans hb)).mono fun _ _ h => ⟨h.1, hW.trans (h.2.toBelow.mono hW.size)⟩
  refine (AnyQ.slices_IndexFunc Tryz.indexSegs 3 (fun _ => Tryz.isAgg42 _) (fun _ => Tryz.sizeOf42 _) (fun x : SegOk => segCells x.1) (fun _ => rfl) (fun x => SegV.has seq x.1) 55 #[.pointer (some ⟨b, 0, none⟩)] (enters_of Tryz.func55 (by kernel_rfl) rfl) g (off * 3) xs.length cap zs w hp (by omega) (by unfold maxLen at hmx; omega) (Heap.lt hr.blk) ?_).mono ?_
  · intro j hj i v hv
    have hjx : xs[j]? = some (zs[j]!).1 := by rw [← hz, List.getElem?_map, List.getElem?_eq_getElem hj, getElem!_pos zs j hj]; rfl
    have hi : i < 3 := by
      rcases Nat.lt_or_ge i 3 with h | h
      · exact h
      · rw [List.getElem?_eq_none (by show 3 ≤ i; exact h)] at hv; cases hv
    obtain ⟨c0, c1, c2⟩ := hr.cell hjx
    rcases (show i = 0 ∨ i = 1 ∨ i = 2 by omega) with rfl | rfl | rfl
    · cases hv; exact c0
    · cases hv; exact c1
    · cases hv; exact c2
  · rintro e w' ⟨rfl, hbel⟩
    refine ⟨_, rfl, Off.of_below hbel, ?_⟩
    have ht : zs.take xs.length = zs := List.take_of_length_le (by omega)
    rw [ht]
    cases hf : xs.find? (SegV.has seq) with
    | none => exact .inl ⟨rfl, idx_none seq zs 0 (by rw [hz]; exact hf)⟩
    | some s =>
      obtain ⟨k, h1, h2⟩ := idx_some seq zs 0 s (by rw [hz]; exact hf)
      rw [hz] at h1
      exact .inr ⟨s, k, rfl, h1, by rw [Lib.idxBy, h2, Nat.zero_add]⟩
end Seg
namespace LogV
/-- What Get returns. -/
def get (L : LogV) (D : DiskV) (seq : Nat) : ByteArray × Int :=
  match L.segs.find? (SegV.has seq) with
  | none => (ByteArray.empty, 5)
  | some s =>
    match D.read (Seg.nameB s.first) with
    | (t, e) =>
      if e = 0 then
        match (Frame.scanL t.data.toList)[seq - s.first]? with
        | none => (ByteArray.empty, 2)
        | some f => (⟨f.body.toArray⟩, 0)
      else (ByteArray.empty, e)
end LogV
theorem read_size {N : Nat} {D : DiskV} (h : Lim N D) (name : ByteArray) : (D.read name).1.size ≤ N * 3000 := by
  unfold DiskV.read
  split
  · exact Nat.zero_le _
  · split
    · exact Nat.zero_le _
    · rename_i i _
      dsimp only
      cases hf : D.files[i]? with
      | none => exact Nat.zero_le _
      | some f => exact (h.each f (List.mem_of_getElem? hf)).2
theorem read_err (D : DiskV) (name : ByteArray) (h : (D.read name).2 ≠ 0) : (D.read name).1 = ByteArray.empty := by
  unfold DiskV.read at h ⊢
  split
  · rfl
  · rename_i hl
    rw [if_neg hl] at h
    split
    · rfl
    · rename_i i hi
      rw [hi] at h
      exact absurd rfl h
theorem frame_at (xs : List Frame.FrameV) : ∀ i f, xs[i]? = some f → (xs.flatMap Frame.frameCells)[i * 3 + 1]? = some (.string ⟨f.body.toArray⟩) ∧ i * 3 + 1 < (xs.flatMap Frame.frameCells).length := by
  induction xs with
  | nil => intro i s h; simp at h
  | cons x r ih =>
    intro i s h
    have e : (x :: r).flatMap Frame.frameCells = [.int .u64 x.seq, .string ⟨x.body.toArray⟩, .int .i64 x.size] ++ r.flatMap Frame.frameCells := rfl
    cases i with
    | zero => simp at h; subst h; exact ⟨rfl, by rw [e]; simp⟩
    | succ i =>
      have h' : r[i]? = some s := by simpa using h
      have := ih i s h'
      rw [e]
      refine ⟨?_, by rw [List.length_append]; show _ < 3 + _; omega⟩
      rw [List.getElem?_append_right (by simp; omega), show (i + 1) * 3 + 1 - [Value.int .u64 x.seq, .string ⟨x.body.toArray⟩, .int .i64 x.size].length = i * 3 + 1 by simp; omega]
      exact this.1
theorem frame_len (xs : List Frame.FrameV) : (xs.flatMap Frame.frameCells).length = xs.length * 3 := by
  induction xs with
  | nil => rfl
  | cons x r ih => rw [List.flatMap_cons, List.length_append, ih, List.length_cons]; simp [Frame.frameCells]; omega
namespace Seg
set_option maxHeartbeats 2000000 in
set_option maxRecDepth 100000 in
theorem get_any (w : World) (lg d n N : Nat) (L : LogV) (D : DiskV) (F : Nat → Prop) (off : Nat) (h : Store w lg d L D F off) (hG : Glob n w) (hok : L.Ok) (hl : Lim N D) (seq : Nat) (hq : seq < 18446744073709551616) :
    Calls Tryz.prog 23 #[.pointer (some ⟨lg, 0, none⟩), .int .u64 seq] w fun e w' => e = .returned (.tuple #[.string (L.get D seq).1, .int .i64 (L.get D seq).2]) ∧ Off None w w' := by
  obtain ⟨g, cap, Fd, hst⟩ := h
  have HST := Lib.hid hst; clear hst
  have HGL := Lib.hid hG; clear hG
  have HOK := Lib.hid hok; clear hok
  have HL := Lib.hid hl; clear hl
  obtain ⟨wb, hwb⟩ : ∃ wb, wb = w.alloc (.cells #[.int .u64 seq] 31) := ⟨_, rfl⟩
  have hob : Off None w wb := by rw [hwb]; exact (Off.refl None w).alloc _
  have hbx : wb.cell? ⟨w.heap.size, 0, none⟩ = some (.int .u64 seq) := by rw [hwb]; exact Heap.cell (Heap.alloc_new w _) 0
  have hstb := HST.out.quiet hob
  have p0 : wb.cell? ⟨lg, 0, none⟩ = some (.pointer (some ⟨d, 0, none⟩)) := hstb.log.own.1
  have p1 : wb.cell? ⟨lg, 1, none⟩ = some (.slice (some ⟨g, off * 3, none⟩) L.segs.length cap) := hstb.log.own.2.1
  have HSB := Lib.hid hstb; have HOB := Lib.hid hob
  clear hstb hob
  rw [hwb] at p0 p1 hbx
  go_enter Tryz.func23, Tryz.ntmps23
  go_wp2_with fail
  rw [← hwb]
  rw [← hwb] at p0 p1 hbx
  clear hwb
  obtain ⟨cur, hr⟩ := HSB.out.log.row
  refine (index_any wb g off cap L.segs cur hr HOK.out.segs seq w.heap.size hbx).mono ?_
  have HR := Lib.hid hr; clear hr
  rintro e w1 ⟨r, rfl, ho1, hcase⟩
  have q0 : w1.cell? ⟨lg, 0, none⟩ = some (.pointer (some ⟨d, 0, none⟩)) := ho1.keep p0 (fun h => h)
  have q1 : w1.cell? ⟨lg, 1, none⟩ = some (.slice (some ⟨g, off * 3, none⟩) L.segs.length cap) := ho1.keep p1 (fun h => h)
  have qb : w1.cell? ⟨w.heap.size, 0, none⟩ = some (.int .u64 seq) := ho1.keep hbx (fun h => h)
  have HS1 := Lib.hid (HSB.out.quiet ho1)
  have HR1 := Lib.hid (HR.out.off ho1 (fun h => h))
  have HO1 := Lib.hid (HOB.out.trans ho1 (fun _ _ h => h))
  clear p0 p1 hbx ho1
  rcases hcase with ⟨hf, rfl⟩ | ⟨s, k, hf, hk, rfl⟩
  · have hsp : L.get D seq = (ByteArray.empty, 5) := by unfold LogV.get; rw [hf]
    have HSP := Lib.hid hsp; clear hsp hf
    go_wp2
    go_ret2
    rw [HSP.out]
    exact ⟨rfl, HO1.out⟩
  · have hlt : k < L.segs.length := (List.getElem?_eq_some_iff.1 hk).1
    have hsok : s.Ok := HOK.out.segs s (List.mem_of_getElem? hk)
    have hfst : s.first < 18446744073709551616 := by have := hsok.sum; omega
    have hhas : SegV.has seq s = true := List.find?_some hf
    obtain ⟨c0, c1, c2⟩ := HR1.out.cell hk
    obtain ⟨R, hda, _⟩ := HS1.out.disk
    have HDA := Lib.hid hda; clear hda
    obtain ⟨t, er, hrd⟩ : ∃ t er, D.read (nameB s.first) = (t, er) := ⟨_, _, rfl⟩
    have cN : ∀ d os, Calls Tryz.prog 25 #[.int .u64 s.first] (grow (redrawn w1 d) os) fun e w'' => e = .returned (.string (nameB s.first)) ∧ ∃ p : Regrown, w'' = grow (redrawn w1 p.d) p.os := fun d os =>
      Calls.quietly (name_any _ s.first hfst ((HGL.out.none HO1.out).none (Off.of_below (below_regrown w1 d os) : Off None w1 _)).pow)
    have cR : ∀ dd os, Calls Tryz.prog 41 #[.pointer (some ⟨d, 0, none⟩), .string (nameB s.first)] (grow (redrawn w1 dd) os) fun e w'' => e = .returned (.tuple #[.string t, .int .i64 er]) ∧ ∃ p : Regrown, w'' = grow (redrawn w1 p.d) p.os := fun dd os =>
      Calls.quietly ((DiskW.read_any _ d D R (HDA.out.off (Off.of_below (below_regrown w1 dd os) : Off None w1 _) (fun _ _ h => h)) (nameB s.first) (by rw [nameB_size hfst]; decide)).mono fun _ _ h => ⟨by rw [h.1, hrd], by rw [h.2]; exact Off.refl _ _⟩)
    have k0 := cell_regrown q0
    have k1 := cell_regrown q1
    have k2 := cell_regrown c0
    have HRD := Lib.hid hrd; have HF := Lib.hid hf; have HH := Lib.hid hhas
    obtain ⟨m, hm⟩ : ∃ m, L.segs.length = m := ⟨_, rfl⟩
    rw [hm] at k1 q1 hlt
    clear hrd hf hhas hm hk c1 c2
    have hi0 : (0 : Int) ≤ (k : Int) := by omega
    have hi1 : (k : Int) < (m : Int) := by omega
    go_wp2_with fail
    refine wp_region_quiet_below (by kernel_rfl) (by kernel_rfl) ?_
    repeat (quiet_step (first | exact cN _ _ | exact cR _ _))
    refine wpQuiet_nil ?_
    intro w2 hw'
    have ho2 : Off None w1 w2 := by
      obtain ⟨⟨dq, osq⟩, rfl⟩ := hw'
      exact Off.of_below (below_regrown w1 dq osq)
    clear hw' k0 k1 k2 cN cR
    have HO2 := Lib.hid (HO1.out.trans ho2 (fun _ _ h => h))
    have r0 := ho2.keep q0 (fun h => h)
    have r1 := ho2.keep q1 (fun h => h)
    have rb := ho2.keep qb (fun h => h)
    have rc := ho2.keep c0 (fun h => h)
    clear q0 q1 qb c0 ho2
    by_cases he : er = 0
    · subst he
      have hts : t.size ≤ 1099511627776 := by
        have h1 := read_size HL.out (nameB s.first)
        rw [HRD.out] at h1
        have := HL.out.le
        have h1 : t.size ≤ N * 3000 := h1
        omega
      have hT := (HGL.out.none HO2.out).crc
      have HSC := Lib.hid (Frame.scan_any w2 t hts hT)
      clear hT
      go_wp2_with fail
      refine HSC.out.mono ?_
      rintro e w3 ⟨v, rfl, hrow, ho3⟩
      have s1 := ho3.keep r1 (fun h => h)
      have sb := ho3.keep rb (fun h => h)
      have sc := ho3.keep rc (fun h => h)
      have HO3 := Lib.hid (HO2.out.trans ho3 (fun _ _ h => h))
      clear r0 r1 rb rc ho3
      have hle : s.first ≤ seq := by have := HH.out; unfold SegV.has at this; simp at this; exact this.1
      have hsub : (s.first : Int) ≤ (seq : Int) := by omega
      obtain ⟨fs, hfs⟩ : ∃ fs, Frame.scanL t.data.toList = fs := ⟨_, rfl⟩
      rw [hfs] at hrow ⊢
      have HFS := Lib.hid hfs; clear hfs
      have hu64 : (seq : Int) - s.first < 18446744073709551616 := by omega
      obtain ⟨j, hj⟩ : ∃ j : Nat, seq = s.first + j := ⟨seq - s.first, by omega⟩
      have hsj : (seq : Int) - s.first = (j : Int) := by omega
      have HJ : seq - s.first = j := by omega
      have HJ := Lib.hid HJ
      clear hj
      obtain ⟨hfl, ⟨rfl, hf0⟩ | ⟨g', cap', cur', rfl, _, hh, hle', hmx', hsz', ht'⟩⟩ := hrow
      · have hsp : L.get D seq = (ByteArray.empty, 2) := by
          unfold LogV.get; rw [HF.out]; dsimp only; rw [HRD.out]; dsimp only; rw [if_pos rfl, HFS.out, List.eq_nil_of_length_eq_zero hf0]; rfl
        have HSP := Lib.hid hsp; clear hsp
        go_wp2_with fail
        go_quiet (fail)
        have hdr : Off None w (w3.drewN nq) := HO3.out.drewN nq
        have HDR := Lib.hid hdr; clear hdr
        go_wp2
        all_goals try (exfalso; omega)
        go_ret2
        rw [HSP.out]
        exact ⟨rfl, HDR.out⟩
      · have hwl : IntKind.u64.wrap (fs.length : Int) = (fs.length : Int) := by
          unfold maxLen at hmx'
          rw [IntKind.wrap_u64]; exact Int.emod_eq_of_lt (by omega) (by omega)
        by_cases hjl : j < fs.length
        · have hfj : fs[j]? = some fs[j] := List.getElem?_eq_getElem hjl
          have hfr := frame_at fs j _ hfj
          have hsp : L.get D seq = (⟨fs[j].body.toArray⟩, 0) := by
            unfold LogV.get; rw [HF.out]; dsimp only; rw [HRD.out]; dsimp only; rw [if_pos rfl, HFS.out, HJ.out, hfj]
          have HSP := Lib.hid hsp; clear hsp
          have e1 : w3.cell? ⟨g', j * 3 + 1, none⟩ = some (.string ⟨fs[j].body.toArray⟩) := by
            rw [Heap.cell hh, ← Array.getElem?_toList, ← List.getElem?_take_of_lt (j := fs.length * 3) (by omega), ht']; exact hfr.1
          have hj0 : (0 : Int) ≤ (j : Int) := by omega
          have hj1 : (j : Int) < (fs.length : Int) := by omega
          have hj2 : ¬ ((fs.length : Int) ≤ (j : Int)) := by omega
          go_wp2_with fail
          go_quiet (fail)
          have hdr : Off None w (w3.drewN nq) := HO3.out.drewN nq
          have HDR := Lib.hid hdr; clear hdr
          go_wp2
          all_goals try (exfalso; omega)
          go_ret2
          rw [HSP.out]
          exact ⟨rfl, HDR.out⟩
        · have hsp : L.get D seq = (ByteArray.empty, 2) := by
            unfold LogV.get; rw [HF.out]; dsimp only; rw [HRD.out]; dsimp only; rw [if_pos rfl, HFS.out, HJ.out, List.getElem?_eq_none (by omega)]
          have HSP := Lib.hid hsp; clear hsp
          have hj2 : (fs.length : Int) ≤ (j : Int) := by omega
          go_wp2_with fail
          go_quiet (fail)
          have hdr : Off None w (w3.drewN nq) := HO3.out.drewN nq
          have HDR := Lib.hid hdr; clear hdr
          go_wp2
          all_goals try (exfalso; omega)
          go_ret2
          rw [HSP.out]
          exact ⟨rfl, HDR.out⟩
    · have hemp : t = ByteArray.empty := by
        have h1 := read_err D (nameB s.first) (by rw [HRD.out]; exact he)
        rw [HRD.out] at h1; exact h1
      have hsp : L.get D seq = (ByteArray.empty, er) := by unfold LogV.get; rw [HF.out]; dsimp only; rw [HRD.out]; dsimp only; rw [if_neg he]
      have HSP := Lib.hid hsp; clear hsp
      have t1 : (er != 0) = true := by rw [bne_iff_ne]; exact he
      go_wp2
      go_ret2
      rw [HSP.out]
      exact ⟨rfl, HO2.out⟩
end Seg
end Go.Proofs.YtnppdcegpojmbaaGreatDoor
