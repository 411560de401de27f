/- The walk of Create. -/
import Derived.Test.YtnppdcegpojmbaaGreatDoorDisk7
namespace Go.Proofs.YtnppdcegpojmbaaGreatDoor
open Go Go.RowKit
def newFile : FileV := ⟨ByteArray.empty, ByteArray.empty, []⟩
def DiskRep.addFile (R : DiskRep) (fv : Value) (b i n : Nat) : DiskRep :=
  { R with fv := fv, fbs := R.fbs ++ [b], cvs := R.cvs ++ [.slice none 0 0], role := fun k => if k < n then R.role k else if k = b then 6 + 2 * i else if fv.ownBlock = some k then 4 else 0 }
/-- A file that has nothing stands behind all others. -/
theorem DiskAt.addFile {w w' : World} {d b : Nat} {D : DiskV} {R : DiskRep} {fv : Value} (h : DiskAt w d D R) (ho : Off (fun k => k = d ∨ R.fv.ownBlock = some k) w w') (hb : w.heap.size ≤ b)
    (hbb : w'.heap[b]? = some (.cells #[.string ByteArray.empty, .string ByteArray.empty, .slice none 0 0] 101 (0, 0)))
    (hc : w'.heap[d]? = some (.cells (coreCells { D with files := D.files ++ [newFile] } (R.addFile fv b D.files.length w.heap.size)) 80 (0, 0)))
    (hr : w'.ownsRow 0 102 1 fv (D.files.length + 1) (R.fbs.map ptrTo ++ [ptrTo b])) (hfv : ∀ k, fv.ownBlock = some k → R.fv.ownBlock = some k ∨ w.heap.size ≤ k) (hne : fv.ownBlock ≠ some b) :
    DiskAt w' d { D with files := D.files ++ [newFile] } (R.addFile fv b D.files.length w.heap.size) := by
  have hro : ∀ k, R.role k ≠ 0 → (R.addFile fv b D.files.length w.heap.size).role k = R.role k := fun k hk => if_pos (h.old k hk)
  have hnew : (R.addFile fv b D.files.length w.heap.size).role b = 6 + 2 * D.files.length := by
    show (if b < _ then _ else if b = b then 6 + 2 * D.files.length else _) = _
    rw [if_neg (by omega), if_pos rfl]
  have far : ∀ k, R.role k ≠ 0 → R.role k ≠ 1 → R.role k ≠ 4 → ¬ (k = d ∨ R.fv.ownBlock = some k) := by
    intro k h0 h1 h2 hk
    rcases hk with rfl | hk
    · exact h1 h.rD
    · exact h2 (h.rF k hk)
  have hlen : (D.files ++ [newFile]).length = D.files.length + 1 := by simp
  have hl1 := h.len
  have hl2 := h.clen
  refine { wf := ⟨h.wf.room, h.wf.ops, h.wf.fail, h.wf.left, ?_, ?_, ?_⟩, core := hc, frow := ?_, each := ?_, clen := ?_, names := ?_, base := ?_, mrow := ?_, rD := ?_, rN := ?_, rB := ?_, rF := ?_, rM := ?_, old := ?_ }
  · intro p hp; show _ < (D.files ++ [newFile]).length; rw [hlen]; exact Nat.lt_succ_of_lt (h.wf.names p hp)
  · intro p hp; show _ < (D.files ++ [newFile]).length; rw [hlen]; exact Nat.lt_succ_of_lt (h.wf.base p hp)
  · intro m hm hz; show _ < (D.files ++ [newFile]).length; rw [hlen]; exact Nat.lt_succ_of_lt (h.wf.moves m hm hz)
  · show w'.ownsRow 0 _ 1 fv (D.files ++ [newFile]).length ((R.fbs ++ [b]).map ptrTo)
    rw [hlen, List.map_append]
    exact hr
  · intro i f hf
    have hf' : (D.files ++ [newFile])[i]? = some f := hf
    rw [List.getElem?_append] at hf'
    split at hf'
    · rename_i hlt
      obtain ⟨b1, cv1, g1, g2, g3, g4, g5⟩ := h.each i f hf'
      refine ⟨b1, cv1, ?_, ?_, g3.off ho (far b1 (by omega) (by omega) (by omega)) (fun k hk => far k (by rw [g5 k hk]; omega) (by rw [g5 k hk]; omega) (by rw [g5 k hk]; omega)), by rw [hro b1 (by omega), g4], fun k hk => by rw [hro k (by rw [g5 k hk]; omega), g5 k hk]⟩
      · show (R.fbs ++ [b])[i]? = _
        rw [List.getElem?_append_left (by omega), g1]
      · show (R.cvs ++ [_])[i]? = _
        rw [List.getElem?_append_left (by omega), g2]
    · rename_i hlt
      have hi : i = D.files.length := by
        rcases Nat.lt_or_ge (i - D.files.length) 1 with h1 | h1
        · omega
        · rw [List.getElem?_eq_none (by simpa using h1)] at hf'; cases hf'
      subst hi
      rw [Nat.sub_self] at hf'
      cases hf'
      refine ⟨b, .slice none 0 0, ?_, ?_, ⟨hbb, World.ownsRow_nil _ _ _ _⟩, hnew, fun k hk => by cases hk⟩
      · show (R.fbs ++ [b])[_]? = _
        rw [List.getElem?_append_right (by omega), hl1, Nat.sub_self]; rfl
      · show (R.cvs ++ [_])[_]? = _
        rw [List.getElem?_append_right (by omega), hl2, Nat.sub_self]; rfl
  · show (R.cvs ++ [_]).length = (D.files ++ [newFile]).length
    simp [hl2]
  · exact ho.map h.names (far R.nm (by rw [h.rN]; omega) (by rw [h.rN]; omega) (by rw [h.rN]; omega))
  · exact ho.map h.base (far R.bm (by rw [h.rB]; omega) (by rw [h.rB]; omega) (by rw [h.rB]; omega))
  · exact ho.row h.mrow (fun k hk => far k (by rw [h.rM k hk]; omega) (by rw [h.rM k hk]; omega) (by rw [h.rM k hk]; omega))
  · rw [hro d (by rw [h.rD]; omega), h.rD]
  · show (R.addFile fv b D.files.length w.heap.size).role R.nm = 2
    rw [hro _ (by rw [h.rN]; omega), h.rN]
  · show (R.addFile fv b D.files.length w.heap.size).role R.bm = 3
    rw [hro _ (by rw [h.rB]; omega), h.rB]
  · intro k hk
    have hk : fv.ownBlock = some k := hk
    show (if k < w.heap.size then R.role k else if k = b then 6 + 2 * D.files.length else if fv.ownBlock = some k then 4 else 0) = 4
    rcases hfv k hk with h' | h'
    · rw [if_pos (row_lt h.frow h'), h.rF k h']
    · rw [if_neg (by omega), if_neg (by intro e; exact hne (by rw [hk, e])), if_pos hk]
  · intro k hk
    show (R.addFile fv b D.files.length w.heap.size).role k = 5
    rw [hro k (by rw [h.rM k hk]; omega), h.rM k hk]
  · intro k hk
    have hs := ho.size
    by_cases hlt : k < w.heap.size
    · omega
    · have hk' : (if k < w.heap.size then R.role k else if k = b then 6 + 2 * D.files.length else if fv.ownBlock = some k then 4 else 0) ≠ 0 := hk
      rw [if_neg hlt] at hk'
      split at hk'
      · rename_i e; rw [e]; exact Heap.lt hbb
      · split at hk'
        · rename_i hk2; exact row_lt hr hk2
        · exact absurd rfl hk'
theorem DiskRep.addFile_in {R : DiskRep} {F : Nat → Prop} {fv : Value} {b i : Nat} {w w' : World} (hF : ∀ b, R.role b ≠ 0 → F b) (hb : b < w'.heap.size) (hfv : ∀ k, fv.ownBlock = some k → k < w'.heap.size) :
    ∀ k, (R.addFile fv b i w.heap.size).role k ≠ 0 → Grow F w w' k := by
  intro k hk
  have hk' : (if k < w.heap.size then R.role k else if k = b then 6 + 2 * i else if fv.ownBlock = some k then 4 else 0) ≠ 0 := hk
  split at hk'
  · exact .inl (hF k hk')
  · rename_i h1
    refine .inr ⟨by omega, ?_⟩
    split at hk'
    · rename_i e; rw [e]; exact hb
    · split at hk'
      · rename_i h2; exact hfv k h2
      · exact absurd rfl hk'
theorem infoPtr : (Tryz.prog.info? 102).map (fun i => (i.zero, i.size, i.bytes)) = some (some (.pointer none), 1, 8) := by kernel_rfl
namespace DiskW
theorem find_len (D : DiskV) (name : ByteArray) : (D.find name).1.names = D.names ∧ (D.find name).1.files = D.files ∧ (D.find name).1.moves = D.moves := by
  unfold DiskV.find
  split
  · exact ⟨rfl, rfl, rfl⟩
  · split <;> exact begin_len D
set_option maxRecDepth 100000 in
theorem create_any (w : World) (d : Nat) (D : DiskV) (F : Nat → Prop) (h : DiskIn w d D F) (name : ByteArray) (hn : name.size ≤ maxLen) (hm : D.names.length < maxLen) (hb : D.moves.length ≤ 1099511627776) (hfl : D.files.length ≤ 1099511627776) :
    Calls Tryz.prog 26 #[.pointer (some ⟨d, 0, none⟩), .string name] w fun e w' =>
      e = .returned (.int .i64 (D.create name).2) ∧ DiskIn w' d (D.create name).1 (Grow F w w') ∧ Off F w w' := by
  obtain ⟨R, h, hF⟩ := h
  have HF := Lib.hid hF; clear hF
  have hfa := find_any w d D R h name hn
  have H := Lib.hid h; clear h
  have hln := find_len D name
  obtain ⟨D1, oi, er, hfd⟩ : ∃ D1 oi er, D.find name = (D1, oi, er) := ⟨_, _, _, rfl⟩
  rw [hfd] at hfa hln
  dsimp only at hln
  have HLN := Lib.hid hln
  have HFA := Lib.hid hfa
  have HFD := Lib.hid hfd
  clear hfa hfd hln
  by_cases h1 : er = 11
  · subst h1
    have hsp : D.create name = (D1, 11) := by unfold DiskV.create; rw [HFD.out]; simp only [if_true]
    have HS := Lib.hid hsp; clear hsp
    go_enter Tryz.func26, Tryz.ntmps26
    go_wp2_with fail
    refine HFA.out.mono ?_
    rintro e w1 ⟨rfl, h1, ho⟩
    have H1 := Lib.hid h1; clear h1
    have HO := Lib.hid ho; clear ho
    go_wp2
    go_ret
    rw [HS.out]
    exact ⟨rfl, ⟨R, H1.out, fun b hb => .inl (HF.out b hb)⟩, off_core H.out HF.out HO.out⟩
  · cases hnm : DiskV.named name with
    | false =>
      have hsp : D.create name = (D1, 3) := by unfold DiskV.create; rw [HFD.out]; simp only [if_neg h1, hnm, if_true]
      have HS := Lib.hid hsp; clear hsp
      go_enter Tryz.func26, Tryz.ntmps26
      go_wp2_with fail
      refine HFA.out.mono ?_
      rintro e w1 ⟨rfl, h1, ho⟩
      have H1 := Lib.hid h1; clear h1
      have HO := Lib.hid ho; clear ho
      go_wp2_with fail
      refine (named_any _ name hn).mono ?_
      rintro e w2 ⟨rfl, rfl⟩
      rw [hnm]
      go_wp2
      go_ret
      rw [HS.out]
      exact ⟨rfl, ⟨R, H1.out, fun b hb => .inl (HF.out b hb)⟩, off_core H.out HF.out HO.out⟩
    | true =>
      by_cases h2 : er = 0
      · have hsp : D.create name = (D1, 4) := by unfold DiskV.create; rw [HFD.out]; simp only [if_neg h1, hnm, Bool.true_eq_false, if_false, if_pos h2]
        have HS := Lib.hid hsp; clear hsp
        go_enter Tryz.func26, Tryz.ntmps26
        go_wp2_with fail
        refine HFA.out.mono ?_
        rintro e w1 ⟨rfl, h1, ho⟩
        have H1 := Lib.hid h1; clear h1
        have HO := Lib.hid ho; clear ho
        go_wp2_with fail
        refine (named_any _ name hn).mono ?_
        rintro e w2 ⟨rfl, rfl⟩
        rw [hnm]
        go_wp2
        go_ret
        rw [HS.out]
        exact ⟨rfl, ⟨R, H1.out, fun b hb => .inl (HF.out b hb)⟩, off_core H.out HF.out HO.out⟩
      · have hsp : D.create name = (({ D1 with files := D1.files ++ [newFile] } : DiskV).moved ⟨ByteArray.empty, name, D1.files.length⟩, 0) := by unfold DiskV.create; rw [HFD.out]; simp only [if_neg h1, hnm, Bool.true_eq_false, if_false, if_neg h2]; rfl
        have HS := Lib.hid hsp; clear hsp
        go_enter Tryz.func26, Tryz.ntmps26
        go_wp2_with fail
        refine HFA.out.mono ?_
        rintro e w1 ⟨rfl, h1, ho⟩
        have c1 : w1.cell? ⟨d, 1, none⟩ = some R.fv := Heap.cell h1.core 1
        have f1 : w1.frozen? ⟨d, 1, none⟩ = false := Heap.frozen h1.core 1
        have hlt := Heap.lt h1.core
        have H1 := Lib.hid h1; clear h1
        have HO := Lib.hid ho; clear ho
        go_wp2_with fail
        refine (named_any _ name hn).mono ?_
        rintro e w2 ⟨rfl, rfl⟩
        rw [hnm]
        obtain ⟨i0, hi, hz0, hz1, hz2⟩ := info_parts infoPtr
        have hsa : (w2.alloc (.cells #[.string ⟨#[]⟩, .string ⟨#[]⟩, .slice none 0 0] 101)).heap.size = w2.heap.size + 1 := Heap.alloc_size _ _
        have hrow4 : ∀ o o' : Obj, ((w2.alloc o).alloc o').ownsRow 0 102 1 R.fv D1.files.length (R.fbs.map ptrTo) := fun o o' =>
          (((Off.refl None w2).alloc o).alloc o').row H1.out.frow (fun k hk e => e)
        have HR4 := Lib.hid hrow4; clear hrow4
        have hl1 : D1.files.length ≤ 1099511627776 := by rw [HLN.out.2.1]; exact hfl
        go_wp2_with (at_builtin; refine wpList_append_lies _ rfl _ _ 77 rfl 0 102 i0 _ 1 8 Tryz.underlying77 hi hz0 hz1 hz2 rfl (by decide) R.fv D1.files.length (R.fbs.map ptrTo) rfl (HR4.out _ _) ⟨w2.heap.size + 1, 0, none⟩ 1 1 [ptrTo w2.heap.size] rfl rfl ?c1 ?c2 (by decide) ?c3 ?c4 (Nat.zero_le _) (w2.heap.size + 1 + 1) ?c5 ?_)
        case c1 => exact Heap.news _ #[.pointer (some ⟨w2.heap.size, 0, none⟩)] _ _ hsa.symm
        case c2 => intro u hu; simp at hu; rcases hu with rfl; rfl
        case c3 => unfold maxLen; omega
        case c4 => omega
        case c5 => rw [Heap.alloc_size, hsa]
        intro g cap w5 hrow5 hg5 hgb hgl
        have hge : R.fv.ownBlock = some g ∨ w2.heap.size ≤ g := hgb.imp id (fun h => by omega)
        have hnd : R.fv.ownBlock ≠ some d := fun e => by have h3 := H1.out.rF d e; have h4 := H1.out.rD; omega
        have hnf : R.fv.ownBlock ≠ some w2.heap.size := fun e => by have h3 := row_lt H1.out.frow e; omega
        have hd5 : w5.heap[d]? = some (.cells (coreCells D1 R) 80 (0, 0)) := Heap.grown hg5 (Heap.alloc_old (Heap.alloc_old H1.out.core _) _) hnd
        have hf5 : w5.heap[w2.heap.size]? = some (.cells #[.string ⟨#[]⟩, .string ⟨#[]⟩, .slice none 0 0] 101 (0, 0)) := Heap.grown hg5 (Heap.alloc_old (Heap.alloc_new w2 _) _) hnf
        have hgd : g ≠ d := by
          rcases hge with h' | h'
          · intro e; exact hnd (by rw [h', e])
          · omega
        have hgf : g ≠ w2.heap.size := by
          rcases hgb with h' | h'
          · intro e; exact hnf (by rw [h', e])
          · omega
        have c5 : w5.cell? ⟨d, 1, none⟩ = some R.fv := Heap.cell hd5 1
        have f5 : w5.frozen? ⟨d, 1, none⟩ = false := Heap.frozen hd5 1
        have ho5 : Off (fun k => k = d ∨ R.fv.ownBlock = some k) w2 w5 := (((Off.refl _ w2).alloc _).alloc _).grown hg5 (fun k hk => .inl (.inr hk))
        obtain ⟨v', hv⟩ : ∃ v', v' = Value.slice (some ⟨g, 0, none⟩) (D1.files.length + 1) cap := ⟨_, rfl⟩
        have hog : v'.ownBlock = some g := by rw [hv]; rfl
        have ho6 := ho5.setCell (p := ⟨d, 1, none⟩) (.inl (.inl rfl)) v'
        have hr6 := ((Off.refl (Only d) w5).set 1 v').row hrow5 (fun k hk e => by cases hk; exact hgd e)
        have hf6 := ((Off.refl (Only d) w5).set 1 v').at_ hf5 (fun e => by have h1 : w2.heap.size = d := e; omega)
        rw [← hv] at hr6
        have h6 := H1.out.addFile ho6 (Nat.le_refl _) hf6 ((Heap.set hd5 1 v').trans rfl) hr6 (by rw [hog]; intro k hk; cases hk; exact hge) (by rw [hog]; intro e; cases e; exact hgf rfl)
        have hin6 := DiskRep.addFile_in (i := D1.files.length) (fv := v') (w := w2) HF.out (Heap.lt hf6) (by rw [hog]; intro k hk; cases hk; exact row_lt hr6 hog)
        have hoF : Off F w2 _ := ho6.mono (fun b _ e => e.elim (fun e => by rw [e]; exact HF.out _ (by rw [H1.out.rD]; omega)) (fun e => HF.out _ (by rw [H1.out.rF b e]; omega)))
        have hlt6 : d < (w5.setCell ⟨d, 1, none⟩ v').heap.size := Heap.lt h6.core
        have c6 : (w5.setCell ⟨d, 1, none⟩ v').cell? ⟨d, 1, none⟩ = some v' := Heap.cell h6.core 1
        rw [hv] at c6 hlt6
        have H6 := Lib.hid h6; have HI6 := Lib.hid hin6; have HOF := Lib.hid hoF
        clear h6 hin6 hoF hr6 hf6 ho6 ho5 hf5 hg5 hrow5 hd5 hge hgb c1 f1
        have HV := Lib.hid hv; clear hv
        go_wp2_with fail
        rw [← HV.out]
        have hm1 : D1.names.length < maxLen := by rw [HLN.out.1]; exact hm
        have hb1 : D1.moves.length ≤ 1099511627776 := by rw [HLN.out.2.2]; exact hb
        refine (moved_any _ d _ _ ⟨_, H6.out, HI6.out⟩ ⟨ByteArray.empty, name, D1.files.length⟩ (Nat.zero_le _) hn hm1 (by show D1.files.length ≤ _; omega) (fun _ => by show D1.files.length < (D1.files ++ [newFile]).length; simp) hb1).mono ?_
        rintro e w7 ⟨rfl, h7, ho7⟩
        have H7 := Lib.hid h7; have HO7 := Lib.hid ho7
        clear h7 ho7
        go_wp2
        go_ret
        rw [HS.out]
        have ho1 := off_trans (off_core H.out HF.out HO.out) HOF.out
        refine ⟨rfl, H7.out.mono (fun b _ hb => ?_), ?_⟩
        · rcases hb with hb | hb
          · exact Grow.left (off_core H.out HF.out HO.out) b (hb.imp id (fun x => ⟨x.1, Nat.lt_of_lt_of_le x.2 HO7.out.size⟩))
          · exact .inr ⟨Nat.le_trans ho1.size hb.1, hb.2⟩
        · exact (off_core H.out HF.out HO.out).trans (HOF.out.trans_grow HO7.out) (fun _ _ h => h)
end DiskW
end Go.Proofs.YtnppdcegpojmbaaGreatDoor
