/- The walks of Read, Sync, Cut and Append: one file turns. · The walks of Sync, Cut and Append. -/
import Derived.Test.YtnppdcegpojmbaaGreatDoorUsed
import Derived.OwnWalk
namespace Go.Proofs.YtnppdcegpojmbaaGreatDoor
open Go Go.RowKit
def DiskRep.setCv (R : DiskRep) (i : Nat) (cv : Value) (n : Nat) : DiskRep :=
  { R with cvs := R.cvs.set i cv, role := fun k => if k < n then R.role k else if cv.ownBlock = some k then 7 + 2 * i else 0 }
/-- One file's block, and the row of its changes, have turned; nothing else of the disk has. -/
theorem DiskAt.setFile {w w' : World} {d : Nat} {D : DiskV} {R : DiskRep} (h : DiskAt w d D R) {i : Nat} {f f' : FileV} {b : Nat} {cv cv' : Value} (hi : D.files[i]? = some f) (hb : R.fbs[i]? = some b) (hc : R.cvs[i]? = some cv)
    (ho : Off (fun k => k = b ∨ cv.ownBlock = some k) w w') (hf : FileAt w' b cv' f') (hcv : ∀ k, cv'.ownBlock = some k → cv.ownBlock = some k ∨ w.heap.size ≤ k) :
    DiskAt w' d (D.setFile i f') (R.setCv i cv' w.heap.size) := by
  obtain ⟨b0, cv0, e1, e2, e3, e4, e5⟩ := h.each i f hi
  cases e1.symm.trans hb
  cases e2.symm.trans hc
  have hro : ∀ k, R.role k ≠ 0 → (R.setCv i cv' w.heap.size).role k = R.role k := fun k hk => by
    show (if k < w.heap.size then _ else _) = _
    rw [if_pos (h.old k hk)]
  have far : ∀ k, R.role k ≠ 0 → R.role k ≠ 6 + 2 * i → R.role k ≠ 7 + 2 * i → ¬ (k = b ∨ cv.ownBlock = some k) := by
    intro k h0 h1 h2 hk
    rcases hk with rfl | hk
    · exact h1 e4
    · exact h2 (e5 k hk)
  have hlen : i < D.files.length := (List.getElem?_eq_some_iff.1 hi).1
  refine { wf := ⟨h.wf.room, h.wf.ops, h.wf.fail, h.wf.left, ?_, ?_, ?_⟩, core := ?_, frow := ?_, each := ?_, clen := ?_, names := ?_, base := ?_, mrow := ?_, rD := ?_, rN := ?_, rB := ?_, rF := ?_, rM := ?_, old := ?_ }
  · intro p hp; have := h.wf.names p hp; simpa [DiskV.setFile] using this
  · intro p hp; have := h.wf.base p hp; simpa [DiskV.setFile] using this
  · intro m hm hd; have := h.wf.moves m hm hd; simpa [DiskV.setFile] using this
  · exact ho.at_ h.core (far d (by rw [h.rD]; omega) (by rw [h.rD]; omega) (by rw [h.rD]; omega))
  · have := ho.row h.frow (fun k hk => far k (by rw [h.rF k hk]; omega) (by rw [h.rF k hk]; omega) (by rw [h.rF k hk]; omega))
    show w'.ownsRow 0 102 1 R.fv (D.files.set i f').length (R.fbs.map ptrTo)
    rwa [List.length_set]
  · intro j g hj
    by_cases e : i = j
    · subst e
      simp only [DiskV.setFile, List.getElem?_set_self hlen, Option.some.injEq] at hj
      subst hj
      have hcl : i < R.cvs.length := by rw [h.clen]; exact hlen
      refine ⟨b, cv', hb, by show (R.cvs.set i cv')[i]? = _; rw [List.getElem?_set_self hcl], hf, by rw [hro b (by omega), e4], ?_⟩
      intro k hk
      show (if k < w.heap.size then R.role k else if cv'.ownBlock = some k then _ else 0) = _
      rcases hcv k hk with h' | h'
      · have := row_lt e3.row h'
        rw [if_pos this, e5 k h']
      · rw [if_neg (by omega), if_pos hk]
    · simp only [DiskV.setFile, List.getElem?_set_ne e] at hj
      obtain ⟨b1, cv1, g1, g2, g3, g4, g5⟩ := h.each j g hj
      refine ⟨b1, cv1, g1, by show (R.cvs.set i cv')[j]? = _; rw [List.getElem?_set_ne e]; exact g2, g3.off ho (far b1 (by omega) (by omega) (by omega)) (fun k hk => far k (by rw [g5 k hk]; omega) (by rw [g5 k hk]; omega) (by rw [g5 k hk]; omega)), by rw [hro b1 (by omega), g4], fun k hk => by rw [hro k (by rw [g5 k hk]; omega), g5 k hk]⟩
  · show (R.cvs.set i cv').length = (D.files.set i f').length
    simp [h.clen]
  · exact ho.map h.names (far R.nm (by rw [h.rN]; omega) (by rw [h.rN]; omega) (by rw [h.rN]; omega))
  · exact ho.map h.base (far R.bm (by rw [h.rB]; omega) (by rw [h.rB]; omega) (by rw [h.rB]; omega))
  · exact ho.row h.mrow (fun k hk => far k (by rw [h.rM k hk]; omega) (by rw [h.rM k hk]; omega) (by rw [h.rM k hk]; omega))
  · rw [hro d (by rw [h.rD]; omega), h.rD]
  · show (R.setCv i cv' w.heap.size).role R.nm = 2
    rw [hro _ (by rw [h.rN]; omega), h.rN]
  · show (R.setCv i cv' w.heap.size).role R.bm = 3
    rw [hro _ (by rw [h.rB]; omega), h.rB]
  · intro k hk
    rw [hro k (by rw [h.rF k hk]; omega), h.rF k hk]
  · intro k hk
    rw [hro k (by rw [h.rM k hk]; omega), h.rM k hk]
  · intro k hk
    have hs := ho.size
    by_cases hlt : k < w.heap.size
    · omega
    · have hk' : (if k < w.heap.size then R.role k else if cv'.ownBlock = some k then 7 + 2 * i else 0) ≠ 0 := hk
      rw [if_neg hlt] at hk'
      split at hk'
      · rename_i hk2; exact row_lt hf.row hk2
      · exact absurd rfl hk'
/-- .. and all of the disk lies in F, and in what is new. -/
theorem DiskRep.setCv_in {R : DiskRep} {F : Nat → Prop} {i : Nat} {cv : Value} {w w' : World} (hF : ∀ b, R.role b ≠ 0 → F b) (hcv : ∀ k, cv.ownBlock = some k → k < w'.heap.size) :
    ∀ b, (R.setCv i cv w.heap.size).role b ≠ 0 → Grow F w w' b := by
  intro b hb
  by_cases hlt : b < w.heap.size
  · refine .inl (hF b ?_)
    have hb' : (if b < w.heap.size then R.role b else _) ≠ 0 := hb
    rwa [if_pos hlt] at hb'
  · have hb' : (if b < w.heap.size then R.role b else if cv.ownBlock = some b then 7 + 2 * i else 0) ≠ 0 := hb
    rw [if_neg hlt] at hb'
    split at hb'
    · rename_i h2; exact .inr ⟨by omega, hcv b h2⟩
    · exact absurd rfl hb'
namespace DiskW
theorem read_any (w : World) (d : Nat) (D : DiskV) (R : DiskRep) (h : DiskAt w d D R) (name : ByteArray) (hn : name.size ≤ maxLen) :
    Calls Tryz.prog 41 #[.pointer (some ⟨d, 0, none⟩), .string name] w fun e w' =>
      e = .returned (.tuple #[.string (D.read name).1, .int .i64 (D.read name).2]) ∧ w = w' := by
  have c2 : w.cell? ⟨d, 2, none⟩ = some (.map (some R.nm)) := Heap.cell h.core 2
  have c1 : w.cell? ⟨d, 1, none⟩ = some R.fv := Heap.cell h.core 1
  have c7 : w.cell? ⟨d, 7, none⟩ = some (.int .i64 D.left) := Heap.cell h.core 7
  have hlook := map_look h.names name hn
  have H := Lib.hid h; clear h
  by_cases hl : D.left = 0
  · have e : D.read name = (ByteArray.empty, 11) := by unfold DiskV.read; rw [if_pos hl]
    have t1 : (D.left == 0) = true := by rw [beq_iff_eq]; exact hl
    have E := Lib.hid e; clear e hl
    go_enter Tryz.func41, Tryz.ntmps41
    go_wp2
    go_ret2
    rw [E.out]
    exact ⟨rfl, rfl⟩
  · have t1 : (D.left == 0) = false := by rw [beq_eq_false_iff_ne]; exact hl
    cases hg : D.names.get (bytesOf name) with
    | none =>
      have e : D.read name = (ByteArray.empty, 5) := by unfold DiskV.read; rw [if_neg hl, hg]
      have E := Lib.hid e
      rw [hg] at hlook
      simp only [Option.isSome_none] at hlook
      clear hg e hl
      go_enter Tryz.func41, Tryz.ntmps41
      go_wp2
      go_ret2
      rw [E.out]
      exact ⟨rfl, rfl⟩
    | some i =>
      have hi : i < D.files.length := H.out.wf.names _ (NMap.get_mem hg)
      obtain ⟨f, hf⟩ : ∃ f, D.files[i]? = some f := ⟨_, List.getElem?_eq_getElem hi⟩
      have e : D.read name = (f.now, 0) := by unfold DiskV.read; rw [if_neg hl, hg]; simp only [hf]; rfl
      have E := Lib.hid e
      have hgi : D.names.getI (bytesOf name) = (i : Int) := by unfold NMap.getI; rw [hg]; rfl
      rw [hgi, hg] at hlook
      simp only [Option.isSome_some] at hlook
      obtain ⟨g, cap, b, hfv, hfb, hcell⟩ := frow_cell H.out i hi
      have hfile := file_cell H.out hf hfb
      rw [hfv] at c1
      clear hg e hl hgi hfv hfb hf
      go_enter Tryz.func41, Tryz.ntmps41
      go_wp2
      go_ret2
      rw [E.out]
      exact ⟨rfl, rfl⟩
end DiskW
end Go.Proofs.YtnppdcegpojmbaaGreatDoor
namespace Go.Proofs.YtnppdcegpojmbaaGreatDoor
open Go Go.RowKit
theorem Grow.left {F : Nat → Prop} {w w1 w' : World} (h : Off F w w1) : ∀ b, Grow F w1 w' b → Grow F w w' b := fun _ hb => hb.imp id fun x => ⟨Nat.le_trans h.size x.1, x.2⟩
namespace DiskW
theorem find_cases (D : DiskV) (hw : D.Wf) (name : ByteArray) : (∃ D1 e, e ≠ 0 ∧ D.find name = (D1, none, e) ∧ D1.files = D.files) ∨ ∃ i f, D.find name = (D.begin.1, some i, 0) ∧ D.files[i]? = some f ∧ (bytesOf name, i) ∈ D.names := by
  by_cases hl : D.left = 0
  · exact .inl ⟨D, 11, by omega, by unfold DiskV.find; rw [if_pos hl], rfl⟩
  · rw [find_eq D name hl]
    cases hg : D.names.get (bytesOf name) with
    | none => exact .inl ⟨D.begin.1, 5, by omega, rfl, (begin_names D).2.1⟩
    | some i => exact .inr ⟨i, D.files[i]'(hw.names _ (NMap.get_mem hg)), rfl, List.getElem?_eq_getElem _, NMap.get_mem hg⟩
theorem fails_same (D : DiskV) : D.fails.1.names = D.names ∧ D.fails.1.files = D.files ∧ D.fails.1.base = D.base ∧ D.fails.1.moves = D.moves ∧ D.fails.1.room = D.room := by
  unfold DiskV.fails; split <;> exact ⟨rfl, rfl, rfl, rfl, rfl⟩
theorem off_core {w w' : World} {d : Nat} {D : DiskV} {R : DiskRep} {F : Nat → Prop} (h : DiskAt w d D R) (hF : ∀ b, R.role b ≠ 0 → F b) (ho : Off (Only d) w w') : Off F w w' :=
  ho.mono fun b _ hb => by rw [show b = d from hb]; exact hF d (by rw [h.rD]; omega)
theorem off_file {w w' : World} {d : Nat} {D : DiskV} {R : DiskRep} {F : Nat → Prop} (h : DiskAt w d D R) (hF : ∀ b, R.role b ≠ 0 → F b) {i : Nat} {f : FileV} {b : Nat} {cv : Value} (hi : D.files[i]? = some f) (hb : R.fbs[i]? = some b) (hc : R.cvs[i]? = some cv)
    (ho : Off (fun k => k = b ∨ cv.ownBlock = some k) w w') : Off F w w' := by
  obtain ⟨b0, cv0, e1, e2, e3, e4, e5⟩ := h.each i f hi
  cases e1.symm.trans hb
  cases e2.symm.trans hc
  refine ho.mono fun k _ hk => ?_
  rcases hk with rfl | hk
  · exact hF _ (by omega)
  · exact hF _ (by rw [e5 k hk]; omega)
theorem off_trans {F : Nat → Prop} {w w1 w2 : World} (h1 : Off F w w1) (h2 : Off F w1 w2) : Off F w w2 := h1.trans h2 fun _ _ h => h
theorem file_at {w : World} {d : Nat} {D : DiskV} {R : DiskRep} (h : DiskAt w d D R) {i : Nat} {f : FileV} (hf : D.files[i]? = some f) {b : Nat} {cv : Value} (hb : R.fbs[i]? = some b) (hc : R.cvs[i]? = some cv) : FileAt w b cv f := by
  obtain ⟨b', cv', h1, h2, h3, _⟩ := h.each i f hf
  cases h1.symm.trans hb
  cases h2.symm.trans hc
  exact h3
theorem sync_any (w : World) (d : Nat) (D : DiskV) (F : Nat → Prop) (h : DiskIn w d D F) (name : ByteArray) (hn : name.size ≤ maxLen) :
    Calls Tryz.prog 48 #[.pointer (some ⟨d, 0, none⟩), .string name] w fun e w' =>
      e = .returned (.int .i64 (D.sync name).2) ∧ DiskIn w' d (D.sync name).1 (Grow F w w') ∧ Off F w w' := by
  obtain ⟨R, h, hF⟩ := h
  have HF := Lib.hid hF; clear hF
  rcases find_cases D h.wf name with ⟨D1, er, her, hfd, _⟩ | ⟨i, f, hfd, hf, _⟩
  · have H := Lib.hid h; clear h
    have hs : D.sync name = (D1, er) := by unfold DiskV.sync; rw [hfd]
    have hfa := find_any w d D R H.out name hn
    rw [hfd, show fptr R none = .pointer none from rfl] at hfa
    have HFA := Lib.hid hfa
    have HS := Lib.hid hs
    have t1 : (er != 0) = true := by rw [bne_iff_ne]; exact her
    clear hfa hs hfd her
    go_enter Tryz.func48, Tryz.ntmps48
    go_wp2_with fail
    refine HFA.out.mono ?_
    rintro e w1 ⟨rfl, h1, ho⟩
    have H1 := Lib.hid h1; clear h1
    have HO := Lib.hid ho; clear ho
    go_wp2
    go_ret
    rw [HS.out]
    exact ⟨rfl, ⟨R, H1.out, fun b hb => .inl (HF.out b hb)⟩, off_core H.out HF.out HO.out⟩
  · have H := Lib.hid h; clear h
    have hfa := find_any w d D R H.out name hn
    obtain ⟨b, cv, e1, e2, e3, e4, e5⟩ := H.out.each i f hf
    rw [hfd, show fptr R (some i) = .pointer (some ⟨b, 0, none⟩) from by rw [fptr, e1]] at hfa
    have HFA := Lib.hid hfa
    have HFD := Lib.hid hfd
    have HFF := Lib.hid hf
    have E1 := Lib.hid e1
    have E2 := Lib.hid e2
    clear hfa hfd hf e3 e4 e5 e2 e1
    go_enter Tryz.func48, Tryz.ntmps48
    go_wp2_with fail
    refine HFA.out.mono ?_
    rintro e w1 ⟨rfl, h1, ho⟩
    have H1 := Lib.hid h1; clear h1
    have HO := Lib.hid ho; clear ho
    go_wp2_with fail
    refine (fails_any _ _ _ _ H1.out).mono ?_
    rintro e w2 ⟨rfl, h2, ho2⟩
    have hbk := (file_at h2 (show D.begin.1.fails.1.files[i]? = some f by rw [(fails_same _).2.1, (begin_names D).2.1]; exact HFF.out) E1.out E2.out).blk
    have c0 : w2.cell? ⟨b, 0, none⟩ = some (.string f.base) := Heap.cell hbk 0
    have c1 : w2.cell? ⟨b, 1, none⟩ = some (.string f.now) := Heap.cell hbk 1
    have c2 : w2.cell? ⟨b, 2, none⟩ = some cv := Heap.cell hbk 2
    have f0 : w2.frozen? ⟨b, 0, none⟩ = false := Heap.frozen hbk 0
    have f2 : w2.frozen? ⟨b, 2, none⟩ = false := Heap.frozen hbk 2
    have H2 := Lib.hid h2; clear h2
    have HO2 := Lib.hid ho2; clear ho2
    have HB := Lib.hid hbk; clear hbk
    cases hb : D.begin.1.fails.2 with
    | true =>
      have HBF := Lib.hid hb; clear hb
      have hs : D.sync name = (D.begin.1.fails.1, 10) := by unfold DiskV.sync; rw [HFD.out]; simp only [HBF.out, if_true]
      have HS := Lib.hid hs; clear hs
      go_wp2
      go_ret
      rw [HS.out]
      exact ⟨rfl, ⟨R, H2.out, fun b hb => .inl (HF.out b hb)⟩, off_trans (off_core H.out HF.out HO.out) (off_core H1.out HF.out HO2.out)⟩
    | false =>
      have HBF := Lib.hid hb; clear hb
      have hs : D.sync name = (D.begin.1.fails.1.setFile i ⟨f.now, f.now, []⟩, 0) := by
        unfold DiskV.sync; rw [HFD.out]; simp only [HBF.out, Bool.false_eq_true, if_false]; rw [(begin_names D).2.1, HFF.out]
      have HS := Lib.hid hs; clear hs
      go_wp2
      go_ret
      rw [HS.out]
      have ho3 : Off (fun k => k = b ∨ cv.ownBlock = some k) w2 ((w2.setCell ⟨b, 0, none⟩ (.string f.now)).setCell ⟨b, 2, none⟩ (.slice none 0 0)) :=
        ((Off.refl _ _).setCell (p := ⟨b, 0, none⟩) (.inl (.inl rfl)) _).setCell (p := ⟨b, 2, none⟩) (.inl (.inl rfl)) _
      have hfile : D.begin.1.fails.1.files[i]? = some f := by rw [(fails_same _).2.1, (begin_names D).2.1]; exact HFF.out
      have h3 := H2.out.setFile (f' := ⟨f.now, f.now, []⟩) (cv' := .slice none 0 0) hfile E1.out E2.out ho3
        ⟨(Heap.set (Heap.set HB.out 0 _) 2 _).trans rfl, World.ownsRow_nil _ _ _ _⟩ (fun k hk => by cases hk)
      have hoF := off_trans (off_core H.out HF.out HO.out) (off_core H1.out HF.out HO2.out)
      exact ⟨rfl, ⟨_, h3, fun b hb => Grow.left hoF b (DiskRep.setCv_in HF.out (fun k hk => by cases hk) b hb)⟩, off_trans hoF (off_file H2.out HF.out hfile E1.out E2.out ho3)⟩
end DiskW
end Go.Proofs.YtnppdcegpojmbaaGreatDoor
