/- The walks of done, moved, Remove, Create, named. -/
import Derived.Test.YtnppdcegpojmbaaGreatDoorDisk5
import Derived.StillTailTactics
import Derived.Deep.RegionLaw
namespace Go.Proofs.YtnppdcegpojmbaaGreatDoor
open Go Go.RowKit
namespace DiskW
theorem done_any (w : World) (b : Nat) (m : NMap) (mv : Move) (h : MapAt w b m) (hs : mv.src.size ≤ maxLen) (hd : mv.dst.size ≤ maxLen) (hm : m.length < maxLen) (hf : mv.file ≤ 9223372036854775807) :
    Calls Tryz.prog 80 #[.agg #[.string mv.src, .string mv.dst, .int .i64 mv.file], .map (some b)] w fun e w' =>
      e = .returned (.tuple #[]) ∧ MapAt w' b (DiskV.done mv m) ∧ Off (Only b) w w' := by
  have ho1 : Off (Only b) w (w.alloc (.cells #[.string mv.src, .string mv.dst, .int .i64 mv.file] 120)) := (Off.refl _ _).alloc _
  have h1 : MapAt (w.alloc (.cells #[.string mv.src, .string mv.dst, .int .i64 mv.file] 120)) b m := ((Off.refl None w).alloc _).map h (fun h => h)
  obtain ⟨w2, hdel, h2, ht2⟩ := map_del h1 mv.src hs 0
  have hbl : b < w.heap.size := by obtain ⟨es, clock, hb, _⟩ := h; exact Heap.lt hb
  have hbox : w2.heap[w.heap.size]? = some (.cells #[.string mv.src, .string mv.dst, .int .i64 mv.file] 120 (0, 0)) := by
    rw [ht2.grown.block w.heap.size (by rw [Heap.alloc_size]; omega) (by intro e; cases e; omega), Heap.alloc_new]
  have d1 : w2.cell? ⟨w.heap.size, 1, none⟩ = some (.string mv.dst) := Heap.cell hbox 1
  have d2 : w2.cell? ⟨w.heap.size, 2, none⟩ = some (.int .i64 mv.file) := Heap.cell hbox 2
  have ho2 := ho1.turned ht2 (.inl rfl)
  have HO2 := Lib.hid ho2
  have H2 := Lib.hid h2
  clear ho1 h1 ht2 hbox ho2 h2 hbl
  by_cases hz : mv.dst.size = 0
  · have e : DiskV.done mv m = m.del (bytesOf mv.src) := by unfold DiskV.done; rw [if_pos hz]
    have E := Lib.hid e; clear e
    have t1 : mv.dst.toList = [] := Heap.str_nil hz
    clear hz
    go_enter Tryz.func80, Tryz.ntmps80
    go_wp2
    go_end0
    rw [E.out]
    exact ⟨rfl, H2.out, HO2.out⟩
  · have e : DiskV.done mv m = (m.del (bytesOf mv.src)).put (bytesOf mv.dst) mv.file := by unfold DiskV.done; rw [if_neg hz]
    have E := Lib.hid e; clear e
    have t2 : (!mv.dst.toList.isEmpty) = true := Heap.str_ne hz
    clear hz
    have hlen : (m.del (bytesOf mv.src)).length < maxLen := Nat.lt_of_le_of_lt (List.length_filter_le _ _) hm
    obtain ⟨w3, hput, h3, ht3⟩ := map_put H2.out mv.dst hd mv.file hf hlen
    have HO3 := Lib.hid (HO2.out.turned ht3 (.inl rfl))
    have H3 := Lib.hid h3
    clear ht3 h3 hlen
    go_enter Tryz.func80, Tryz.ntmps80
    go_wp2
    go_end0
    rw [E.out]
    exact ⟨rfl, H3.out, HO3.out⟩
end DiskW
theorem done_file {m : NMap} {mv : Move} {n : Nat} (h : ∀ p ∈ m, p.2 < n) (hf : mv.dst.size ≠ 0 → mv.file < n) : ∀ p ∈ DiskV.done mv m, p.2 < n := by
  have hdel : ∀ p ∈ m.del (bytesOf mv.src), p.2 < n := fun p hp => h p ((List.mem_filter.1 hp).1)
  have hins : ∀ (x : Bytes × Nat) (l : NMap), x.2 < n → (∀ p ∈ l, p.2 < n) → ∀ p ∈ NMap.ins x l, p.2 < n := by
    intro x l hx
    induction l with
    | nil => intro _ p hp; simp [NMap.ins] at hp; rw [hp]; exact hx
    | cons y r ih =>
      intro hl p hp
      unfold NMap.ins at hp
      split at hp
      · rcases List.mem_cons.1 hp with rfl | hp
        · exact hx
        · exact hl p hp
      · rcases List.mem_cons.1 hp with rfl | hp
        · exact hl _ (by simp)
        · exact ih (fun q hq => hl q (by simp [hq])) p hp
  unfold DiskV.done
  split
  · exact hdel
  · rename_i hz
    exact hins _ _ (hf hz) (fun p hp => hdel p ((List.mem_filter.1 hp).1))
/-- The names have turned, and nothing else of the disk has. -/
theorem DiskAt.setNames {w w' : World} {d : Nat} {D : DiskV} {R : DiskRep} (h : DiskAt w d D R) (m : NMap) (ho : Off (Only R.nm) w w') (hm : MapAt w' R.nm m) (hf : ∀ p ∈ m, p.2 < D.files.length) : DiskAt w' d { D with names := m } R where
  wf := ⟨h.wf.room, h.wf.ops, h.wf.fail, h.wf.left, hf, h.wf.base, h.wf.moves⟩
  core := ho.at_ h.core (fun e => by have h1 := h.rN; have h2 := h.rD; rw [show d = R.nm from e] at h2; omega)
  frow := ho.row h.frow (fun k hk e => by have h1 := h.rF k hk; have h2 := h.rN; rw [show k = R.nm from e] at h1; omega)
  each := fun i f hi => by
    obtain ⟨b, cv, h1, h2, h3, h4, h5⟩ := h.each i f hi
    refine ⟨b, cv, h1, h2, h3.off ho (fun e => ?_) (fun k hk e => ?_), h4, h5⟩
    · have h2 := h.rN; rw [show b = R.nm from e] at h4; omega
    · have h1 := h5 k hk; have h2 := h.rN; rw [show k = R.nm from e] at h1; omega
  clen := h.clen
  names := hm
  base := ho.map h.base (fun e => by have h1 := h.rB; have h2 := h.rN; rw [show R.bm = R.nm from e] at h1; omega)
  mrow := ho.row h.mrow (fun k hk e => by have h1 := h.rM k hk; have h2 := h.rN; rw [show k = R.nm from e] at h1; omega)
  rD := h.rD
  rN := h.rN
  rB := h.rB
  rF := h.rF
  rM := h.rM
  old := fun b hb => Nat.lt_of_lt_of_le (h.old b hb) ho.size
def DiskRep.setMv (R : DiskRep) (mv : Value) (n : Nat) : DiskRep :=
  { R with mv := mv, role := fun k => if k < n then R.role k else if mv.ownBlock = some k then 5 else 0 }
/-- The row of moves has turned, and the disk's own block, which names it. -/
theorem DiskAt.setMoves {w w' : World} {d : Nat} {D : DiskV} {R : DiskRep} (h : DiskAt w d D R) (ms : List Move) (mv' : Value) (ho : Off (fun k => k = d ∨ R.mv.ownBlock = some k) w w')
    (hc : w'.heap[d]? = some (.cells (coreCells { D with moves := ms } (R.setMv mv' w.heap.size)) 80 (0, 0)))
    (hr : w'.ownsRow 0 120 3 mv' ms.length (ms.flatMap moveCells)) (hmv : ∀ k, mv'.ownBlock = some k → R.mv.ownBlock = some k ∨ w.heap.size ≤ k)
    (hf : ∀ m ∈ ms, m.dst.size ≠ 0 → m.file < D.files.length) : DiskAt w' d { D with moves := ms } (R.setMv mv' w.heap.size) := by
  have hro : ∀ k, R.role k ≠ 0 → (R.setMv mv' w.heap.size).role k = R.role k := fun k hk => by
    show (if k < w.heap.size then _ else _) = _
    rw [if_pos (h.old k hk)]
  have far : ∀ k, R.role k ≠ 0 → R.role k ≠ 1 → R.role k ≠ 5 → ¬ (k = d ∨ R.mv.ownBlock = some k) := by
    intro k h0 h1 h2 hk
    rcases hk with rfl | hk
    · exact h1 h.rD
    · exact h2 (h.rM k hk)
  refine { wf := ⟨h.wf.room, h.wf.ops, h.wf.fail, h.wf.left, h.wf.names, h.wf.base, hf⟩, core := hc, frow := ?_, each := ?_, clen := h.clen, names := ?_, base := ?_, mrow := hr, rD := ?_, rN := ?_, rB := ?_, rF := ?_, rM := ?_, old := ?_ }
  · exact ho.row h.frow (fun k hk => far k (by rw [h.rF k hk]; omega) (by rw [h.rF k hk]; omega) (by rw [h.rF k hk]; omega))
  · intro j g hj
    obtain ⟨b1, cv1, g1, g2, g3, g4, g5⟩ := h.each j g hj
    exact ⟨b1, cv1, g1, g2, g3.off ho (far b1 (by omega) (by omega) (by omega)) (fun k hk => far k (by rw [g5 k hk]; omega) (by rw [g5 k hk]; omega) (by rw [g5 k hk]; omega)), by rw [hro b1 (by omega), g4], fun k hk => by rw [hro k (by rw [g5 k hk]; omega), g5 k hk]⟩
  · exact ho.map h.names (far R.nm (by rw [h.rN]; omega) (by rw [h.rN]; omega) (by rw [h.rN]; omega))
  · exact ho.map h.base (far R.bm (by rw [h.rB]; omega) (by rw [h.rB]; omega) (by rw [h.rB]; omega))
  · rw [hro d (by rw [h.rD]; omega), h.rD]
  · show (R.setMv mv' w.heap.size).role R.nm = 2
    rw [hro _ (by rw [h.rN]; omega), h.rN]
  · show (R.setMv mv' w.heap.size).role R.bm = 3
    rw [hro _ (by rw [h.rB]; omega), h.rB]
  · intro k hk
    rw [hro k (by rw [h.rF k hk]; omega), h.rF k hk]
  · intro k hk
    show (if k < w.heap.size then R.role k else if mv'.ownBlock = some k then 5 else 0) = 5
    rcases hmv k hk with h' | h'
    · rw [if_pos (row_lt h.mrow h'), h.rM k h']
    · rw [if_neg (by omega), if_pos (show mv'.ownBlock = some k from hk)]
  · intro k hk
    have hs := ho.size
    by_cases hlt : k < w.heap.size
    · omega
    · have hk' : (if k < w.heap.size then R.role k else if mv'.ownBlock = some k then 5 else 0) ≠ 0 := hk
      rw [if_neg hlt] at hk'
      split at hk'
      · rename_i hk2; exact row_lt hr hk2
      · exact absurd rfl hk'
theorem DiskRep.setMv_in {R : DiskRep} {F : Nat → Prop} {mv : Value} {w w' : World} (hF : ∀ b, R.role b ≠ 0 → F b) (hmv : ∀ k, mv.ownBlock = some k → k < w'.heap.size) :
    ∀ b, (R.setMv mv w.heap.size).role b ≠ 0 → Grow F w w' b := by
  intro b hb
  by_cases hlt : b < w.heap.size
  · refine .inl (hF b ?_)
    have hb' : (if b < w.heap.size then R.role b else _) ≠ 0 := hb
    rwa [if_pos hlt] at hb'
  · have hb' : (if b < w.heap.size then R.role b else if mv.ownBlock = some b then 5 else 0) ≠ 0 := hb
    rw [if_neg hlt] at hb'
    split at hb'
    · rename_i h2; exact .inr ⟨by omega, hmv b h2⟩
    · exact absurd rfl hb'
/-- The names have turned, a move was appended, and the disk's own block names the new row. -/
theorem DiskAt.moved {w w1 w2 w5 : World} {d : Nat} {D : DiskV} {R : DiskRep} {F : Nat → Prop} {o : Obj} {g cap : Nat} (h : DiskAt w d D R) (hF : ∀ b, R.role b ≠ 0 → F b) (mv : Move)
    (ho1 : Off None w w1) (ho2 : Off (Only R.nm) w1.drew w2) (h2 : DiskAt w2 d { D with names := DiskV.done mv D.names } R) (hff : mv.dst.size ≠ 0 → mv.file < D.files.length)
    (hr : w5.ownsRow 0 120 3 (.slice (some ⟨g, 0, none⟩) (D.moves.length + 1) cap) (D.moves.length + 1) (D.moves.flatMap moveCells ++ moveCells mv))
    (hg : (w2.alloc o).drew.grownBy w5 R.mv.ownBlock) (hgb : R.mv.ownBlock = some g ∨ w2.heap.size ≤ g) (hgl : g < w5.heap.size) :
    DiskIn (w5.setCell ⟨d, 4, none⟩ (.slice (some ⟨g, 0, none⟩) (D.moves.length + 1) cap)) d (D.moved mv) (Grow F w (w5.setCell ⟨d, 4, none⟩ (.slice (some ⟨g, 0, none⟩) (D.moves.length + 1) cap))) ∧
      Off F w (w5.setCell ⟨d, 4, none⟩ (.slice (some ⟨g, 0, none⟩) (D.moves.length + 1) cap)) := by
  obtain ⟨v', hv⟩ : ∃ v', v' = Value.slice (some ⟨g, 0, none⟩) (D.moves.length + 1) cap := ⟨_, rfl⟩
  rw [← hv] at hr ⊢
  have hog : v'.ownBlock = some g := by rw [hv]; rfl
  clear hv
  have hne : R.mv.ownBlock ≠ some d := fun e => by have h3 := h.rM d e; have h4 := h.rD; omega
  have hgd : g ≠ d := by
    rcases hgb with h' | h'
    · intro e; exact hne (by rw [h', e])
    · have := Heap.lt h2.core; omega
  have c5 := Heap.grown hg (Heap.alloc_old (w := w2) h2.core o) hne
  have ho5 : Off (fun k => k = d ∨ R.mv.ownBlock = some k) w2 w5 := (((Off.refl _ w2).alloc o).drew).grown hg (fun k hk => .inl (.inr hk))
  have ho6 := ho5.setCell (p := ⟨d, 4, none⟩) (.inl (.inl rfl)) v'
  have h6 := h2.setMoves (D.moves ++ [mv]) v' ho6 ((Heap.set c5 4 v').trans rfl)
    (by
      have := ((Off.refl (Only d) w5).set 4 v').row hr (fun k hk e => by rw [hog] at hk; cases hk; exact hgd e)
      simpa using this)
    (fun k hk => by rw [hog] at hk; cases hk; exact hgb)
    (fun m hm hz => by
      rcases List.mem_append.1 hm with hm | hm
      · exact h.wf.moves m hm hz
      · rw [List.mem_singleton.1 hm]; rw [List.mem_singleton.1 hm] at hz; exact hff hz)
  have ho12 : Off F w w2 := DiskW.off_trans (ho1.mono (fun _ _ h => h.elim)) (Off.mono (Off.trans ((Off.refl (Only R.nm) w1).drew) ho2 (fun _ _ h => h)) (fun b _ e => by rw [show b = R.nm from e]; exact hF _ (by rw [h.rN]; omega)))
  have ho26 : Off F w2 _ := ho6.mono (fun b _ e => e.elim (fun e => by rw [e]; exact hF _ (by rw [h.rD]; omega)) (fun e => hF _ (by rw [h.rM b e]; omega)))
  refine ⟨⟨_, h6, fun b hb => Grow.left ho12 b (DiskRep.setMv_in hF (fun k hk => ?_) b hb)⟩, DiskW.off_trans ho12 ho26⟩
  rw [hog] at hk; cases hk
  rw [Heap.set_size]; exact hgl
theorem infoMove : (Tryz.prog.info? 120).map (fun i => (i.zero, i.size, i.bytes)) = some (some (.agg #[.string ByteArray.empty, .string ByteArray.empty, .int .i64 0]), 3, 40) := by kernel_rfl
namespace DiskW
set_option maxRecDepth 100000 in
theorem moved_any (w : World) (d : Nat) (D : DiskV) (F : Nat → Prop) (h : DiskIn w d D F) (mv : Move) (hs : mv.src.size ≤ maxLen) (hd : mv.dst.size ≤ maxLen) (hm : D.names.length < maxLen) (hf : mv.file ≤ 9223372036854775807)
    (hff : mv.dst.size ≠ 0 → mv.file < D.files.length) (hb : D.moves.length ≤ 1099511627776) :
    Calls Tryz.prog 61 #[.pointer (some ⟨d, 0, none⟩), .agg #[.string mv.src, .string mv.dst, .int .i64 mv.file]] w fun e w' =>
      e = .returned (.tuple #[]) ∧ DiskIn w' d (D.moved mv) (Grow F w w') ∧ Off F w w' := by
  obtain ⟨R, h, hF⟩ := h
  have HF := Lib.hid hF; clear hF
  have c2 : w.cell? ⟨d, 2, none⟩ = some (.map (some R.nm)) := Heap.cell h.core 2
  have hlt : d < w.heap.size := Heap.lt h.core
  have H := Lib.hid h; clear h
  go_enter Tryz.func61, Tryz.ntmps61
  go_wp2_with fail
  refine wp_region_still_tail 5 (by kernel_rfl) (by kernel_rfl) ?_
  simp only [List.take_succ_cons, List.take_zero, List.drop_succ_cons, List.drop_zero]
  change wpStill _ _ (w.alloc (.cells #[.string mv.src, .string mv.dst, .int .i64 mv.file] 120)).drew (fun a' => wpList _ _ _ _ a' (w.alloc (.cells #[.string mv.src, .string mv.dst, .int .i64 mv.file] 120)).drew) _ _
  repeat still_step
  refine wpStill_nil ?_
  go_wp2_with fail
  obtain ⟨w1, hw1⟩ : ∃ w1, w1 = w.alloc (.cells #[.string mv.src, .string mv.dst, .int .i64 mv.file] 120) := ⟨_, rfl⟩
  have ho1 : Off None w w1 := by rw [hw1]; exact (Off.refl _ _).alloc _
  have hbx : w1.heap[w.heap.size]? = some (.cells #[.string mv.src, .string mv.dst, .int .i64 mv.file] 120 (0, 0)) := by rw [hw1, Heap.alloc_new]
  have hsz : w1.heap.size = w.heap.size + 1 := by rw [hw1, Heap.alloc_size]
  rw [← hw1]
  have h1 := H.out.off ho1.drew (fun _ _ h => h)
  refine (done_any _ R.nm D.names mv h1.names hs hd hm hf).mono ?_
  rintro e w2 ⟨rfl, hm2, ho2⟩
  have h2 := h1.setNames _ ho2 hm2 (done_file h1.wf.names hff)
  have hbx2 : w2.heap[w.heap.size]? = some (.cells #[.string mv.src, .string mv.dst, .int .i64 mv.file] 120 (0, 0)) :=
    ho2.at_ hbx (fun e => by have h3 := H.out.old R.nm (by rw [H.out.rN]; omega); rw [← show w.heap.size = R.nm from e] at h3; omega)
  have c4 : w2.cell? ⟨d, 4, none⟩ = some R.mv := Heap.cell h2.core 4
  have f4 : w2.frozen? ⟨d, 4, none⟩ = false := Heap.frozen h2.core 4
  have d0 : w2.cell? ⟨w.heap.size, 0, none⟩ = some (.string mv.src) := Heap.cell hbx2 0
  have d1 : w2.cell? ⟨w.heap.size, 1, none⟩ = some (.string mv.dst) := Heap.cell hbx2 1
  have d2 : w2.cell? ⟨w.heap.size, 2, none⟩ = some (.int .i64 mv.file) := Heap.cell hbx2 2
  have H2 := Lib.hid h2
  have HO1 := Lib.hid ho1
  have HO2 := Lib.hid ho2
  have HB2 := Lib.hid hbx2
  clear h1 h2 ho1 ho2 hm2 hbx hbx2 hw1 c2
  go_wp2_with fail
  obtain ⟨i0, hi, hz0, hz1, hz2⟩ := info_parts infoMove
  have hrow4 : ∀ o, (w2.drew.alloc o).ownsRow 0 120 3 R.mv D.moves.length (D.moves.flatMap moveCells) := fun o =>
    (((Off.refl None w2).drew).alloc o).row H2.out.mrow (fun k hk e => e)
  have HR4 := Lib.hid hrow4; clear hrow4
  have hbm : D.moves.length + 1 ≤ maxLen := by unfold maxLen; omega
  have HBM := Lib.hid hbm; clear hbm
  have hd2 : w2.drew.heap[d]? = some (.cells (coreCells { D with names := DiskV.done mv D.names } R) 80 (0, 0)) := H2.out.core
  have HD2 := Lib.hid hd2; clear hd2
  have c4a : (w2.alloc (.cells #[.string mv.src, .string mv.dst, .int .i64 mv.file] 120)).cell? ⟨d, 4, none⟩ = some R.mv := Heap.cell (Heap.alloc_old H2.out.core _) 4
  have hne : R.mv.ownBlock ≠ some d := fun e => by have h3 := H.out.rM d e; have h4 := H.out.rD; omega
  have HNE := Lib.hid hne; clear hne
  go_region_law ((refine step_append_lies _ (by rfl) _ _ 78 (by rfl) 0 120 i0 _ 3 40 Tryz.underlying78 hi hz0 hz1 hz2 rfl (by decide) R.mv D.moves.length (D.moves.flatMap moveCells) (by rfl) (HR4.out _) ⟨w2.heap.size, 0, none⟩ 1 1 (moveCells mv) (by rfl) (by rfl) (Heap.news _ _ _ _ rfl) (by intro u hu; simp [moveCells] at hu; rcases hu with rfl | rfl | rfl <;> rfl) (by decide) HBM.out (by omega) (Nat.zero_le _) (w2.heap.size + 1) (by exact Heap.alloc_size _ _) ?_; intro g cap w5 hrow5 hg5 hgb hgl; have c5 : w5.cell? ⟨d, 4, none⟩ = some R.mv := Heap.cell (Heap.grown hg5 (Heap.alloc_old HD2.out _) HNE.out) 4; have f5 := Heap.frozen (Heap.grown hg5 (Heap.alloc_old HD2.out _) HNE.out) 4))
  all_goals go_wp2
  all_goals go_end0
  all_goals
    have hmv := DiskAt.moved H.out HF.out mv HO1.out HO2.out H2.out hff hrow5 hg5 (hgb.imp id (fun h => by omega)) hgl
    exact ⟨rfl, hmv⟩
end DiskW
end Go.Proofs.YtnppdcegpojmbaaGreatDoor
