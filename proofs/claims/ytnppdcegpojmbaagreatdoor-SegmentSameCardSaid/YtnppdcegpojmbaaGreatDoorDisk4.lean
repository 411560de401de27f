/- The walks of Sync, Cut and Append. -/
import Derived.Test.YtnppdcegpojmbaaGreatDoorDisk3
import Derived.OwnWalk
namespace Go.Proofs.YtnppdcegpojmbaaGreatDoor
open Go Go.RowKit
theorem Grow.left {F : Nat → Prop} {w w1 w' : World} (h : Off F w w1) : ∀ b, Grow F w1 w' b → Grow F w w' b := fun _ hb => hb.imp id fun x => ⟨Nat.le_trans h.size x.1, x.2⟩
namespace DiskW
theorem find_cases (D : DiskV) (hw : D.Wf) (name : ByteArray) : (∃ D1 e, e ≠ 0 ∧ D.find name = (D1, none, e) ∧ D1.files = D.files) ∨ ∃ i f, D.find name = (D.begin.1, some i, 0) ∧ D.files[i]? = some f ∧ (bytesOf name, i) ∈ D.names := by
  by_cases hl : D.left = 0
  · exact .inl ⟨D, 11, by omega, by unfold DiskV.find; rw [if_pos hl], rfl⟩
  · rw [find_eq D name hl]
    cases hg : D.names.get (bytesOf name) with
    | none => exact .inl ⟨D.begin.1, 5, by omega, rfl, (begin_names D).2.1⟩
    | some i => exact .inr ⟨i, D.files[i]'(hw.names _ (NMap.get_mem hg)), rfl, List.getElem?_eq_getElem _, NMap.get_mem hg⟩
theorem fails_same (D : DiskV) : D.fails.1.names = D.names ∧ D.fails.1.files = D.files ∧ D.fails.1.base = D.base ∧ D.fails.1.moves = D.moves ∧ D.fails.1.room = D.room := by
  unfold DiskV.fails; split <;> exact ⟨rfl, rfl, rfl, rfl, rfl⟩
theorem off_core {w w' : World} {d : Nat} {D : DiskV} {R : DiskRep} {F : Nat → Prop} (h : DiskAt w d D R) (hF : ∀ b, R.role b ≠ 0 → F b) (ho : Off (Only d) w w') : Off F w w' :=
  ho.mono fun b _ hb => by rw [show b = d from hb]; exact hF d (by rw [h.rD]; omega)
theorem off_file {w w' : World} {d : Nat} {D : DiskV} {R : DiskRep} {F : Nat → Prop} (h : DiskAt w d D R) (hF : ∀ b, R.role b ≠ 0 → F b) {i : Nat} {f : FileV} {b : Nat} {cv : Value} (hi : D.files[i]? = some f) (hb : R.fbs[i]? = some b) (hc : R.cvs[i]? = some cv)
    (ho : Off (fun k => k = b ∨ cv.ownBlock = some k) w w') : Off F w w' := by
  obtain ⟨b0, cv0, e1, e2, e3, e4, e5⟩ := h.each i f hi
  cases e1.symm.trans hb
  cases e2.symm.trans hc
  refine ho.mono fun k _ hk => ?_
  rcases hk with rfl | hk
  · exact hF _ (by omega)
  · exact hF _ (by rw [e5 k hk]; omega)
theorem off_trans {F : Nat → Prop} {w w1 w2 : World} (h1 : Off F w w1) (h2 : Off F w1 w2) : Off F w w2 := h1.trans h2 fun _ _ h => h
theorem file_at {w : World} {d : Nat} {D : DiskV} {R : DiskRep} (h : DiskAt w d D R) {i : Nat} {f : FileV} (hf : D.files[i]? = some f) {b : Nat} {cv : Value} (hb : R.fbs[i]? = some b) (hc : R.cvs[i]? = some cv) : FileAt w b cv f := by
  obtain ⟨b', cv', h1, h2, h3, _⟩ := h.each i f hf
  cases h1.symm.trans hb
  cases h2.symm.trans hc
  exact h3
theorem sync_any (w : World) (d : Nat) (D : DiskV) (F : Nat → Prop) (h : DiskIn w d D F) (name : ByteArray) (hn : name.size ≤ maxLen) :
    Calls Tryz.prog 48 #[.pointer (some ⟨d, 0, none⟩), .string name] w fun e w' =>
      e = .returned (.int .i64 (D.sync name).2) ∧ DiskIn w' d (D.sync name).1 (Grow F w w') ∧ Off F w w' := by
  obtain ⟨R, h, hF⟩ := h
  have HF := Lib.hid hF; clear hF
  rcases find_cases D h.wf name with ⟨D1, er, her, hfd, _⟩ | ⟨i, f, hfd, hf, _⟩
  · have H := Lib.hid h; clear h
    have hs : D.sync name = (D1, er) := by unfold DiskV.sync; rw [hfd]
    have hfa := find_any w d D R H.out name hn
    rw [hfd, show fptr R none = .pointer none from rfl] at hfa
    have HFA := Lib.hid hfa
    have HS := Lib.hid hs
    have t1 : (er != 0) = true := by rw [bne_iff_ne]; exact her
    clear hfa hs hfd her
    go_enter Tryz.func48, Tryz.ntmps48
    go_wp2_with fail
    refine HFA.out.mono ?_
    rintro e w1 ⟨rfl, h1, ho⟩
    have H1 := Lib.hid h1; clear h1
    have HO := Lib.hid ho; clear ho
    go_wp2
    go_ret
    rw [HS.out]
    exact ⟨rfl, ⟨R, H1.out, fun b hb => .inl (HF.out b hb)⟩, off_core H.out HF.out HO.out⟩
  · have H := Lib.hid h; clear h
    have hfa := find_any w d D R H.out name hn
    obtain ⟨b, cv, e1, e2, e3, e4, e5⟩ := H.out.each i f hf
    rw [hfd, show fptr R (some i) = .pointer (some ⟨b, 0, none⟩) from by rw [fptr, e1]] at hfa
    have HFA := Lib.hid hfa
    have HFD := Lib.hid hfd
    have HFF := Lib.hid hf
    have E1 := Lib.hid e1
    have E2 := Lib.hid e2
    clear hfa hfd hf e3 e4 e5 e2 e1
    go_enter Tryz.func48, Tryz.ntmps48
    go_wp2_with fail
    refine HFA.out.mono ?_
    rintro e w1 ⟨rfl, h1, ho⟩
    have H1 := Lib.hid h1; clear h1
    have HO := Lib.hid ho; clear ho
    go_wp2_with fail
    refine (fails_any _ _ _ _ H1.out).mono ?_
    rintro e w2 ⟨rfl, h2, ho2⟩
    have hbk := (file_at h2 (show D.begin.1.fails.1.files[i]? = some f by rw [(fails_same _).2.1, (begin_names D).2.1]; exact HFF.out) E1.out E2.out).blk
    have c0 : w2.cell? ⟨b, 0, none⟩ = some (.string f.base) := Heap.cell hbk 0
    have c1 : w2.cell? ⟨b, 1, none⟩ = some (.string f.now) := Heap.cell hbk 1
    have c2 : w2.cell? ⟨b, 2, none⟩ = some cv := Heap.cell hbk 2
    have f0 : w2.frozen? ⟨b, 0, none⟩ = false := Heap.frozen hbk 0
    have f2 : w2.frozen? ⟨b, 2, none⟩ = false := Heap.frozen hbk 2
    have H2 := Lib.hid h2; clear h2
    have HO2 := Lib.hid ho2; clear ho2
    have HB := Lib.hid hbk; clear hbk
    cases hb : D.begin.1.fails.2 with
    | true =>
      have HBF := Lib.hid hb; clear hb
      have hs : D.sync name = (D.begin.1.fails.1, 10) := by unfold DiskV.sync; rw [HFD.out]; simp only [HBF.out, if_true]
      have HS := Lib.hid hs; clear hs
      go_wp2
      go_ret
      rw [HS.out]
      exact ⟨rfl, ⟨R, H2.out, fun b hb => .inl (HF.out b hb)⟩, off_trans (off_core H.out HF.out HO.out) (off_core H1.out HF.out HO2.out)⟩
    | false =>
      have HBF := Lib.hid hb; clear hb
      have hs : D.sync name = (D.begin.1.fails.1.setFile i ⟨f.now, f.now, []⟩, 0) := by
        unfold DiskV.sync; rw [HFD.out]; simp only [HBF.out, Bool.false_eq_true, if_false]; rw [(begin_names D).2.1, HFF.out]
      have HS := Lib.hid hs; clear hs
      go_wp2
      go_ret
      rw [HS.out]
      have ho3 : Off (fun k => k = b ∨ cv.ownBlock = some k) w2 ((w2.setCell ⟨b, 0, none⟩ (.string f.now)).setCell ⟨b, 2, none⟩ (.slice none 0 0)) :=
        ((Off.refl _ _).setCell (p := ⟨b, 0, none⟩) (.inl (.inl rfl)) _).setCell (p := ⟨b, 2, none⟩) (.inl (.inl rfl)) _
      have hfile : D.begin.1.fails.1.files[i]? = some f := by rw [(fails_same _).2.1, (begin_names D).2.1]; exact HFF.out
      have h3 := H2.out.setFile (f' := ⟨f.now, f.now, []⟩) (cv' := .slice none 0 0) hfile E1.out E2.out ho3
        ⟨(Heap.set (Heap.set HB.out 0 _) 2 _).trans rfl, World.ownsRow_nil _ _ _ _⟩ (fun k hk => by cases hk)
      have hoF := off_trans (off_core H.out HF.out HO.out) (off_core H1.out HF.out HO2.out)
      exact ⟨rfl, ⟨_, h3, fun b hb => Grow.left hoF b (DiskRep.setCv_in HF.out (fun k hk => by cases hk) b hb)⟩, off_trans hoF (off_file H2.out HF.out hfile E1.out E2.out ho3)⟩
end DiskW
end Go.Proofs.YtnppdcegpojmbaaGreatDoor
