/- The reference's disk: a text behind a file's row; the walks of Cut, Append. · The reference's disk: the walk of Append. · The reference's disk: one row of names more, one file more; the walk of Remove. -/
import Derived.Test.YtnppdcegpojmbaaGreatDoorRefD4
namespace Go.Proofs.YtnppdcegpojmbaaGreatDoor
open Go Go.RowKit Go.Sort
theorem infoText : (Tryz.prog.info? 9).map (fun i => (i.zero, i.size, i.bytes)) = some (some (.string ByteArray.empty), 1, 16) := by kernel_rfl
theorem elemText : ElemOk Tryz.prog 22 9 1 16 := .of Tryz.underlying22 infoText rfl (by decide) (by decide)
theorem textCells_add (l : List ByteArray) (t : ByteArray) : textCells l ++ (#[Value.string t]).toList = textCells (l ++ [t]) := by simp [textCells]
theorem RefAt.pushed {F : Nat → Prop} {w W w' : World} {r n g g' cap : Nat} {X : RefV} {R : RefRep} {v : Value} {row : List ByteArray} {t : ByteArray} (h : RefAt w r X R) (hF : ∀ b, R.role b ≠ 0 → F b)
    (hrow : X.files[n]? = some row) (hv : R.fs[n]? = some v) (hg : R.fv.ownBlock = some g) (ho : Off None w W) (hr : w'.ownsRow 0 9 1 (.slice (some ⟨g', 0, none⟩) (row.length + 1) cap) (row.length + 1) (textCells row ++ (#[Value.string t]).toList)) (hp : Pushed W w' v g') :
    RefIn (w'.setCell ⟨g, n, none⟩ (.slice (some ⟨g', 0, none⟩) (row.length + 1) cap)) r (X.setF n (row ++ [t])) (Grow F w (w'.setCell ⟨g, n, none⟩ (.slice (some ⟨g', 0, none⟩) (row.length + 1) cap))) ∧ Off F w (w'.setCell ⟨g, n, none⟩ (.slice (some ⟨g', 0, none⟩) (row.length + 1) cap)) := by
  have hn : n < X.files.length := (List.getElem?_eq_some_iff.1 hrow).1
  obtain ⟨v2, e1, e2, e3⟩ := h.files n row hrow
  rw [hv] at e1; cases e1
  have hgl : g < w.heap.size := row_lt h.frow hg
  have hvg : ∀ k, v.ownBlock = some k → k ≠ g := fun k hk e => by have h1 := e3 k hk; have h2 := h.rF g hg; rw [e] at h1; omega
  have hgg : g' ≠ g := by
    rcases hp.from_ with h1 | h1
    · exact hvg _ h1
    · have := ho.size; omega
  have hpo : Off (fun k => v.ownBlock = some k) w w' := (ho.mono (fun _ _ h => h.elim)).trans hp.off (fun _ _ h => h)
  have hoff : Off (fun k => R.fv.ownBlock = some k ∨ ∃ v, R.fs[n]? = some v ∧ v.ownBlock = some k) w (w'.setCell ⟨g, n, none⟩ (.slice (some ⟨g', 0, none⟩) (row.length + 1) cap)) :=
    (hpo.mono (fun b _ hb => .inr ⟨v, hv, hb⟩)).setCell (p := ⟨g, n, none⟩) (.inl (.inl hg)) _
  refine RefAt.setFile_in h hF n (row ++ [t]) (.slice (some ⟨g', 0, none⟩) (row.length + 1) cap) hoff hn (row_put (hpo.row h.frow (fun k hk hk2 => by rw [hg] at hk; cases hk; exact hvg g hk2 rfl)) hg n _) ?_ ?_ (by simp)
  · rw [← textCells_add, List.length_append]
    exact ((Off.refl (Only g) w').set n _).row hr (fun k hk e => by cases hk; exact hgg e)
  · intro k hk
    cases hk
    rcases hp.from_ with h1 | h1
    · exact .inl ⟨v, hv, h1⟩
    · exact .inr (by have h2 := ho.size; show w.heap.size ≤ g'; omega)
/-- What the store behind an append finds. -/
theorem RefAt.spot {w W w' : World} {r n g g' : Nat} {X : RefV} {R : RefRep} {v : Value} {row : List ByteArray} (h : RefAt w r X R) (hrow : X.files[n]? = some row) (hv : R.fs[n]? = some v) (hg : R.fv.ownBlock = some g) (ho : Off None w W) (hp : Pushed W w' v g') :
    w'.cell? ⟨g, n, none⟩ = some v ∧ w'.frozen? ⟨g, n, none⟩ = false ∧ g < w'.heap.size ∧ w'.cell? ⟨r, 1, none⟩ = some R.fv := by
  have hn : n < X.files.length := (List.getElem?_eq_some_iff.1 hrow).1
  obtain ⟨v2, e1, e2, e3⟩ := h.files n row hrow
  rw [hv] at e1; cases e1
  have hvg : ¬ v.ownBlock = some g := fun e => by have h1 := e3 g e; have h2 := h.rF g hg; omega
  have hvr : ¬ v.ownBlock = some r := fun e => by have h1 := e3 r e; have h2 := h.rD; omega
  have hpo : Off (fun k => v.ownBlock = some k) w w' := (ho.mono (fun _ _ h => h.elim)).trans hp.off (fun _ _ h => h)
  obtain ⟨g2, c, e4, _, _, _, e5, e6⟩ := own_cell h.frow (by omega)
  rw [hg] at e5; cases e5
  obtain ⟨cur, hcur⟩ := own_block h.frow hg
  have hb := hpo.at_ hcur hvg
  exact ⟨hpo.keep (e6 n v hv).1 hvg, Heap.frozen hb n, Heap.lt hb, Heap.cell (hpo.at_ h.core hvr) 1⟩
namespace RefW
variable {w : World} {r : Nat} {X : RefV} {R : RefRep}
set_option maxHeartbeats 2000000 in
set_option maxRecDepth 100000 in
theorem cut_any (w : World) (r : Nat) (X : RefV) (F : Nat → Prop) (h : RefIn w r X F) (name : ByteArray) (z : Nat) (hmax : ∀ row ∈ X.files, row.length ≤ 1099511627776 ∧ ∀ t ∈ row, t.size ≤ maxLen) :
    Calls Tryz.prog 114 #[.pointer (some ⟨r, 0, none⟩), .string name, .int .i64 z] w fun e w' =>
      e = .returned (.int .i64 (X.cut name z).2) ∧ RefIn w' r (X.cut name z).1 (Grow F w w') ∧ Off F w w' := by
  obtain ⟨R, h, hF⟩ := h
  have HF := Lib.hid hF; clear hF
  have hbg := begin_any w r X R h
  cases hb : X.begin.2 with
  | false =>
    have hs : X.cut name z = (X, 11) := by unfold RefV.cut; rw [if_pos hb]
    have he := RefV.begin_off hb
    rw [hb, he] at hbg
    have HS := Lib.hid hs; have HB := Lib.hid hbg; have H := Lib.hid h
    clear hs hb he hbg h
    go_enter Tryz.func114, Tryz.ntmps114
    go_wp2_with fail
    refine HB.out.mono ?_
    rintro e w1 ⟨rfl, h1, ho1⟩
    have H1 := Lib.hid h1; have HO1 := Lib.hid ho1; clear h1 ho1
    go_wp2
    go_ret
    rw [HS.out]
    exact ⟨rfl, ⟨R, H1.out, fun b hb => .inl (HF.out b hb)⟩, off_core H.out HF.out HO1.out⟩
  | true =>
    obtain ⟨Y, hY⟩ : ∃ Y, Y = X.begin.1 := ⟨_, rfl⟩
    have hs : X.cut name z = if Y.number name < 0 then (Y, 5) else if (Y.nowAt (Y.number name).toNat).size < z then (Y, 1) else (Y.setF (Y.number name).toNat ((Y.files[(Y.number name).toNat]?.getD []) ++ [(Y.nowAt (Y.number name).toNat).extract 0 z]), 0) := by unfold RefV.cut; rw [hb, ← hY]; rfl
    rw [hb, ← hY] at hbg
    have HB := Lib.hid hbg; have H := Lib.hid h
    by_cases hn : Y.number name < 0
    · rw [if_pos hn] at hs
      have HS := Lib.hid hs
      obtain ⟨n, hnn⟩ : ∃ n, n = Y.number name := ⟨_, rfl⟩
      rw [← hnn] at hn
      have HNN := Lib.hid hnn
      clear hs hb hbg h hY hnn
      go_enter Tryz.func114, Tryz.ntmps114
      go_wp2_with fail
      refine HB.out.mono ?_
      rintro e w1 ⟨rfl, h1, ho1⟩
      have hnum := number_any w1 r Y R h1 name
      rw [← HNN.out] at hnum
      have H1 := Lib.hid h1; have HO1 := Lib.hid ho1; have HN := Lib.hid hnum; clear h1 ho1 hnum
      go_wp2_with fail
      refine HN.out.mono ?_
      rintro e w2 ⟨rfl, ho2⟩
      have HO2 := Lib.hid ho2; clear ho2
      go_wp2
      go_ret
      rw [HS.out]
      exact ⟨rfl, ⟨R, H1.out.off HO2.out (fun _ _ h => h), fun b hb => .inl (HF.out b hb)⟩, (off_core H.out HF.out HO1.out).trans HO2.out (fun _ _ h => h.elim)⟩
    · rw [if_neg hn] at hs
      clear h hb
      go_enter Tryz.func114, Tryz.ntmps114
      have HS0 := Lib.hid hs; have HY := Lib.hid hY
      clear hs hY hbg
      go_wp2_with fail
      refine HB.out.mono ?_
      rintro e w1 ⟨rfl, h1, ho1⟩
      obtain ⟨n, hnn, hnl⟩ := number_lt h1 name (by omega)
      have hnum := number_any w1 r Y R h1 name
      have hs := HS0.out
      rw [hnn, Int.toNat_natCast] at hs
      rw [hnn] at hnum hn
      have H1 := Lib.hid h1; have HO1 := Lib.hid ho1; have HN := Lib.hid hnum; have HS := Lib.hid hs; clear h1 ho1 hnum hs HS0 hnn
      go_wp2_with fail
      refine HN.out.mono ?_
      rintro e w2 ⟨rfl, ho2⟩
      have h2 := H1.out.off ho2 (fun _ _ h => h)
      have HO2 := Lib.hid ((off_core H.out HF.out HO1.out).trans ho2 (fun _ _ h => h.elim)); have H2 := Lib.hid h2
      clear ho2 h2 HN H1
      go_wp2_with fail
      have hnow := now_any w2 r Y R H2.out n hnl
      obtain ⟨t, ht⟩ : ∃ t, t = Y.nowAt n := ⟨_, rfl⟩
      have hts : t.size ≤ maxLen := by
        rw [ht]; unfold RefV.nowAt
        rw [List.getElem?_eq_getElem hnl, Option.getD_some]
        cases hl : Y.files[n].getLast? with
        | none => show ByteArray.empty.size ≤ _; unfold maxLen; decide
        | some u =>
          have hm := (hmax Y.files[n] (by have := (RefV.begin_same X).1; rw [← HY.out] at this; rw [← this]; exact List.getElem_mem _)).2
          exact hm u (List.mem_of_getLast? hl)
      have hs := HS.out
      rw [← ht] at hnow hs
      have HW := Lib.hid hnow; have HT := Lib.hid ht; have HS1 := Lib.hid hs
      clear hnow ht HS hs
      refine HW.out.mono ?_
      rintro e w3 ⟨rfl, ho3⟩
      have h3 := H2.out.off ho3 (fun _ _ h => h)
      have HO3 := Lib.hid (HO2.out.trans ho3 (fun _ _ h => h.elim)); have H3 := Lib.hid h3
      clear ho3 h3 H2 HO2 HW
      have z1 : ¬ (z : Int) < 0 := by omega
      unfold maxLen at hts
      by_cases hzt : t.size < z
      · have hzt' : (t.size : Int) < (z : Int) := by omega
        have hs := HS1.out
        rw [if_pos hzt] at hs
        have HS := Lib.hid hs
        clear hs
        go_wp2
        go_ret
        rw [HS.out]
        exact ⟨rfl, ⟨R, H3.out, fun b hb => .inl (HF.out b hb)⟩, HO3.out⟩
      · have hzt' : ¬ (t.size : Int) < (z : Int) := by omega
        have hs := HS1.out
        rw [if_neg hzt] at hs
        have HS := Lib.hid hs
        clear hs
        obtain ⟨row, hrow⟩ : ∃ row, Y.files[n]? = some row := ⟨_, List.getElem?_eq_getElem hnl⟩
        have hrl : row.length ≤ 1099511627776 := (hmax row (by have := (RefV.begin_same X).1; rw [← HY.out] at this; rw [← this]; exact List.mem_of_getElem? hrow)).1
        obtain ⟨v, hv, hvr, _⟩ := H3.out.files n row hrow
        obtain ⟨g, c, hfv, hgl, hle, hmx, hob, hcell⟩ := own_cell H3.out.frow (by omega)
        obtain ⟨c9, f9⟩ := hcell n _ hv
        have c1 : w3.cell? ⟨r, 1, none⟩ = some R.fv := Heap.cell H3.out.core 1
        rw [hfv] at c1
        obtain ⟨m, hm⟩ : ∃ m, m = Y.files.length := ⟨_, rfl⟩
        rw [← hm] at c1 hnl hle hfv
        have HM := Lib.hid hm; have HFV := Lib.hid hfv; have HV := Lib.hid hv; have HVR := Lib.hid hvr; have HROW := Lib.hid hrow; have HOB := Lib.hid hob
        have i0 : (0 : Int) ≤ (n : Int) := by omega
        have i1 : (n : Int) < (m : Int) := by omega
        obtain ⟨pv, cv, rfl⟩ := own_shape hvr
        clear hm hfv hv hvr hrow hob hcell HS1
        go_wp2_with fail
        have q1 : (w3.alloc (.cells #[.string (t.extract 0 z)] 9)).cell? ⟨r, 1, none⟩ = some (.slice (some ⟨g, 0, none⟩) m c) := ((Off.refl None w3).alloc _).keep c1 (fun h => h)
        have q9 : (w3.alloc (.cells #[.string (t.extract 0 z)] 9)).cell? ⟨g, n, none⟩ = some (.slice pv row.length cv) := ((Off.refl None w3).alloc _).keep c9 (fun h => h)
        go_region_law ((refine step_push (W := w3.drew) (by rfl) _ _ (by rfl) elemText 0 (.slice pv row.length cv) row.length (textCells row) (by rfl) HVR.out #[.string (t.extract 0 z)] (by rfl) rfl (by intro u hu; simp at hu; rcases hu with rfl; rfl) (by omega) (Nat.zero_le _) ?_; intro g2 cap w4 hrow4 hp4; obtain ⟨d1, d2, d3, d4⟩ := RefAt.spot H3.out HROW.out HV.out HOB.out ((Off.refl None w3).drew) hp4; rw [HFV.out] at d4))
        all_goals go_wp2
        all_goals go_ret
        all_goals
          have hin := RefAt.pushed H3.out HF.out HROW.out HV.out HOB.out ((Off.refl None w3).drew) hrow4 hp4
          rw [HS.out, HROW.out]
          exact ⟨rfl, hin.1.mono_of HO3.out, HO3.out.trans hin.2 (fun _ _ h => h)⟩
end RefW
end Go.Proofs.YtnppdcegpojmbaaGreatDoor
namespace Go.Proofs.YtnppdcegpojmbaaGreatDoor
open Go Go.RowKit Go.Sort
namespace RefV
def moments (t s : ByteArray) (j : Nat) : List ByteArray := (List.range j).map (fun i => t ++ s.extract 0 (i + 1))
def grown (X : RefV) (n : Nat) (s : ByteArray) (j : Nat) : RefV := X.setF n ((X.files[n]?.getD []) ++ moments (X.nowAt n) s j)
def append (X : RefV) (name s : ByteArray) : RefV × Int :=
  if X.begin.2 = false then (X, 11)
  else if X.begin.1.number name < 0 then (X.begin.1, 5)
  else if X.begin.1.room < (X.begin.1.used : Int) + s.size then (X.begin.1, 9)
  else if X.begin.1.fails.2 = true then (X.begin.1.fails.1, 10)
  else (X.begin.1.fails.1.grown (X.begin.1.number name).toNat s s.size, 0)
theorem moments_succ (t s : ByteArray) (j : Nat) : moments t s (j + 1) = moments t s j ++ [t ++ s.extract 0 (j + 1)] := by
  unfold moments
  rw [List.range_succ, List.map_append]
  rfl
theorem grown_zero {X : RefV} {n : Nat} (h : n < X.files.length) (s : ByteArray) : X.grown n s 0 = X := by
  unfold grown setF
  rw [List.getElem?_eq_getElem h]
  simp [moments]
theorem grown_row {X : RefV} {n : Nat} (h : n < X.files.length) (s : ByteArray) (j : Nat) : (X.grown n s j).files[n]? = some ((X.files[n]?.getD []) ++ moments (X.nowAt n) s j) := by
  unfold grown setF
  exact List.getElem?_set_self h
theorem grown_len (X : RefV) (n : Nat) (s : ByteArray) (j : Nat) : (X.grown n s j).files.length = X.files.length := List.length_set
theorem grown_now {X : RefV} {n : Nat} (h : n < X.files.length) (s : ByteArray) (j : Nat) : (X.grown n s j).nowAt n = X.nowAt n ++ s.extract 0 j := by
  cases j with
  | zero =>
    rw [grown_zero h]
    have : s.extract 0 0 = ByteArray.empty := by simp
    rw [this]; simp
  | succ j =>
    unfold nowAt
    rw [grown_row h, Option.getD_some, moments_succ, ← List.append_assoc, List.getLast?_append]
    rfl
theorem grown_step (X : RefV) (n : Nat) (s : ByteArray) (j : Nat) : (X.grown n s j).setF n (((X.files[n]?.getD []) ++ moments (X.nowAt n) s j) ++ [X.nowAt n ++ s.extract 0 (j + 1)]) = X.grown n s (j + 1) := by
  unfold grown setF
  rw [List.set_set, moments_succ, List.append_assoc]
theorem extract_next (t s : ByteArray) (j : Nat) : (t ++ s.extract 0 j) ++ s.extract j (j + 1) = t ++ s.extract 0 (j + 1) := by
  rw [ByteArray.append_assoc]
  congr 1
  rw [ByteArray.extract_append_extract]
  simp
end RefV
theorem RefIn.mono_grow {F : Nat → Prop} {w w1 w2 : World} {r : Nat} {X : RefV} (h : RefIn w2 r X (Grow (Grow F w w1) w1 w2)) (ho : Off F w w1) : RefIn w2 r X (Grow F w w2) := by
  refine h.mono (fun b hb hx => ?_)
  have := ho.size
  rcases hx with (hx | ⟨h1, h2⟩) | ⟨h1, h2⟩
  · exact .inl hx
  · exact .inr ⟨h1, hb⟩
  · exact .inr ⟨by omega, hb⟩
namespace RefW
variable {w : World} {r : Nat} {X : RefV} {R : RefRep}
set_option maxHeartbeats 2000000 in
set_option maxRecDepth 100000 in
theorem append_any (w : World) (r : Nat) (X : RefV) (F : Nat → Prop) (h : RefIn w r X F) (name : ByteArray) (s : ByteArray) (hz : s.size ≤ 1000000) (hu : X.used ≤ 4611686018427387904) (hmax : ∀ row ∈ X.files, row.length ≤ 1000000000000 ∧ ∀ t ∈ row, t.size ≤ 4611686018427387904) :
    Calls Tryz.prog 30 #[.pointer (some ⟨r, 0, none⟩), .string name, .string s] w fun e w' =>
      e = .returned (.int .i64 (X.append name s).2) ∧ RefIn w' r (X.append name s).1 (Grow F w w') ∧ Off F w w' := by
  obtain ⟨R, h, hF⟩ := h
  have HF := Lib.hid hF; clear hF
  have hbg := begin_any w r X R h
  cases hb : X.begin.2 with
  | false =>
    have hs : X.append name s = (X, 11) := by unfold RefV.append; rw [if_pos hb]
    have he := RefV.begin_off hb
    rw [hb, he] at hbg
    have HS := Lib.hid hs; have HB := Lib.hid hbg; have H := Lib.hid h
    clear hs hb he hbg h
    go_enter Tryz.func30, Tryz.ntmps30
    go_wp2_with fail
    refine HB.out.mono ?_
    rintro e w1 ⟨rfl, h1, ho1⟩
    have H1 := Lib.hid h1; have HO1 := Lib.hid ho1; clear h1 ho1
    go_wp2
    go_ret
    rw [HS.out]
    exact ⟨rfl, ⟨R, H1.out, fun b hb => .inl (HF.out b hb)⟩, off_core H.out HF.out HO1.out⟩
  | true =>
    obtain ⟨Y, hY⟩ : ∃ Y, Y = X.begin.1 := ⟨_, rfl⟩
    have hs : X.append name s = if Y.number name < 0 then (Y, 5) else if Y.room < (Y.used : Int) + s.size then (Y, 9) else if Y.fails.2 = true then (Y.fails.1, 10) else (Y.fails.1.grown (Y.number name).toNat s s.size, 0) := by unfold RefV.append; rw [hb, ← hY]; rfl
    rw [hb, ← hY] at hbg
    have HB := Lib.hid hbg; have H := Lib.hid h
    by_cases hn : Y.number name < 0
    · rw [if_pos hn] at hs
      have HS := Lib.hid hs
      obtain ⟨n, hnn⟩ : ∃ n, n = Y.number name := ⟨_, rfl⟩
      rw [← hnn] at hn
      have HNN := Lib.hid hnn
      clear hs hb hbg h hY hnn
      go_enter Tryz.func30, Tryz.ntmps30
      go_wp2_with fail
      refine HB.out.mono ?_
      rintro e w1 ⟨rfl, h1, ho1⟩
      have hnum := number_any w1 r Y R h1 name
      rw [← HNN.out] at hnum
      have H1 := Lib.hid h1; have HO1 := Lib.hid ho1; have HN := Lib.hid hnum; clear h1 ho1 hnum
      go_wp2_with fail
      refine HN.out.mono ?_
      rintro e w2 ⟨rfl, ho2⟩
      have HO2 := Lib.hid ho2; clear ho2
      go_wp2
      go_ret
      rw [HS.out]
      exact ⟨rfl, ⟨R, H1.out.off HO2.out (fun _ _ h => h), fun b hb => .inl (HF.out b hb)⟩, (off_core H.out HF.out HO1.out).trans HO2.out (fun _ _ h => h.elim)⟩
    · rw [if_neg hn] at hs
      clear h hb
      go_enter Tryz.func30, Tryz.ntmps30
      have HS0 := Lib.hid hs; have HY := Lib.hid hY
      clear hs hY hbg
      go_wp2_with fail
      refine HB.out.mono ?_
      rintro e w1 ⟨rfl, h1, ho1⟩
      obtain ⟨n, hnn, hnl⟩ := number_lt h1 name (by omega)
      have hnum := number_any w1 r Y R h1 name
      have hs := HS0.out
      rw [hnn, Int.toNat_natCast] at hs
      rw [hnn] at hnum hn
      have H1 := Lib.hid h1; have HO1 := Lib.hid ho1; have HN := Lib.hid hnum; have HS := Lib.hid hs; clear h1 ho1 hnum hs HS0 hnn
      go_wp2_with fail
      refine HN.out.mono ?_
      rintro e w2 ⟨rfl, ho2⟩
      have h2 := H1.out.off ho2 (fun _ _ h => h)
      have HO2 := Lib.hid ((off_core H.out HF.out HO1.out).trans ho2 (fun _ _ h => h.elim)); have H2 := Lib.hid h2
      clear ho2 h2 HN H1
      go_wp2_with fail
      have hbs := RefV.begin_same X
      rw [← HY.out] at hbs
      have huY : Y.used = X.used := by unfold RefV.used RefV.dir RefV.nowAt; rw [hbs.1, hbs.2.1]
      have hroom := H2.out.wf.room
      have hus := used_any w2 r Y R H2.out (by omega)
      obtain ⟨u, hu2⟩ : ∃ u, u = Y.used := ⟨_, rfl⟩
      have hs := HS.out
      rw [← hu2] at hus hs
      have hul : u ≤ 4611686018427387904 := by omega
      have HS1 := Lib.hid hs
      have cU : ∀ dd os, Calls Tryz.prog 69 #[.pointer (some ⟨r, 0, none⟩)] (Sort.grow (redrawn w2 dd) os) fun e w'' => e = .returned (.int .i64 u) ∧ ∃ p : Regrown, w'' = Sort.grow (redrawn w2 p.d) p.os :=
        fun dd os => Calls.quietly (by rw [hu2]; exact used_any _ r Y R (H2.out.off (Off.of_below (below_regrown w2 dd os) : Off None w2 _) (fun _ _ h => h)) (by omega))
      have k0 := cell_regrown (show w2.cell? ⟨r, 0, none⟩ = some (.int .i64 Y.room) from Heap.cell H2.out.core 0)
      have hul2 : (u : Int) ≤ 4611686018427387904 := by omega
      have HBS := Lib.hid hbs
      have hwr : IntKind.i64.wrap ((u : Int) + (s.size : Int)) = (u : Int) + (s.size : Int) := IntWalk.i64_in _ (by omega)
      clear hus hs HS hu2 huY hu hbs
      refine wp_region_quiet_below (by kernel_rfl) (by kernel_rfl) ?_
      repeat (quiet_step (first | exact cU _ _))
      refine wpQuiet_nil ?_
      intro w3 hw'
      have ho3 : Off None w2 w3 := by
        obtain ⟨⟨dq, osq⟩, rfl⟩ := hw'
        exact Off.of_below (below_regrown w2 dq osq)
      clear hw' k0 cU
      have h3 := H2.out.off ho3 (fun _ _ h => h)
      have HO3 := Lib.hid (HO2.out.trans ho3 (fun _ _ h => h.elim)); have H3 := Lib.hid h3
      have c0 : w3.cell? ⟨r, 0, none⟩ = some (.int .i64 Y.room) := Heap.cell h3.core 0
      clear ho3 h3 H2 HO2
      by_cases hfull : Y.room < (u : Int) + (s.size : Int)
      · have hs := HS1.out
        rw [if_pos hfull] at hs
        have HS := Lib.hid hs
        clear hs
        go_wp2
        go_ret
        rw [HS.out]
        exact ⟨rfl, ⟨R, H3.out, fun b hb => .inl (HF.out b hb)⟩, HO3.out⟩
      · have hs := HS1.out
        rw [if_neg hfull] at hs
        have HS := Lib.hid hs
        clear hs HS1
        have hfa := fails_any w3 r Y R H3.out
        go_wp2_with fail
        cases hfb : Y.fails.2 with
        | true =>
          have hs := HS.out
          rw [if_pos hfb] at hs
          rw [hfb] at hfa
          have HS2 := Lib.hid hs; have HFA := Lib.hid hfa
          clear hs hfa hfb HS
          refine HFA.out.mono ?_
          rintro e w4 ⟨rfl, h4, ho4⟩
          have H4 := Lib.hid h4; have HO4 := Lib.hid ho4; clear h4 ho4
          go_wp2
          go_ret
          rw [HS2.out]
          exact ⟨rfl, ⟨R, H4.out, fun b hb => .inl (HF.out b hb)⟩, HO3.out.trans (off_core H3.out HF.out HO4.out) (fun _ _ h => h)⟩
        | false =>
          have hs := HS.out
          rw [if_neg (by rw [hfb]; decide)] at hs
          rw [hfb] at hfa
          have HS2 := Lib.hid hs; have HFA := Lib.hid hfa
          clear hs hfa hfb HS
          refine HFA.out.mono ?_
          rintro e w4 ⟨rfl, h4, ho4⟩
          have hfs := RefV.fails_same Y
          obtain ⟨Z, hZ⟩ : ∃ Z, Z = Y.fails.1 := ⟨_, rfl⟩
          have hzn : n < Z.files.length := by rw [hZ, hfs.1]; exact hnl
          have hmax2 : ∀ row ∈ Z.files, row.length ≤ 1000000000000 ∧ ∀ t ∈ row, t.size ≤ 4611686018427387904 := by
            rw [hZ, hfs.1, HBS.out.1]; exact hmax
          have hs := HS2.out
          rw [← hZ] at hs h4
          have hin4 : RefIn w4 r (Z.grown n s 0) (Grow F w w4) := by rw [RefV.grown_zero hzn]; exact ⟨R, h4, fun b hb => .inl (HF.out b hb)⟩
          have HO4 := Lib.hid (HO3.out.trans (off_core H3.out HF.out ho4) (fun _ _ h => h))
          have HIN4 := Lib.hid hin4; have HS3 := Lib.hid hs; have HMAX := Lib.hid hmax2
          clear h4 ho4 hin4 hs hmax2 hfs hZ HS2 HFA HO3 H3 HO1 H HB HY HBS
          go_wp2_with fail
          go_loopw [10] (fun i wr => ∃ j : Nat, j ≤ s.size ∧ i = .int .i64 j ∧ RefIn wr r (Z.grown n s j) (Grow F w wr) ∧ Off F w wr) (fun i _ => s.size - (intOf i).toNat)
          case atStart => exact ⟨0, Nat.zero_le _, rfl, HIN4.out, HO4.out⟩
          case round =>
            obtain ⟨j, hj, rfl, hin, ho⟩ := hrel
            have HIN := Lib.hid hin; have HO := Lib.hid ho
            clear hin ho HIN4 HO4
            by_cases hlt : j < s.size
            · obtain ⟨R5, h5, hF5⟩ := HIN.out
              obtain ⟨row0, hrow0⟩ : ∃ row0, row0 = (Z.files[n]?.getD []) := ⟨_, rfl⟩
              have hm0 := HMAX.out row0 (by rw [hrow0, List.getElem?_eq_getElem hzn]; exact List.getElem_mem _)
              obtain ⟨row, hrow⟩ : ∃ row, row = (Z.files[n]?.getD []) ++ RefV.moments (Z.nowAt n) s j := ⟨_, rfl⟩
              have hrl : row.length ≤ 1099511627776 := by
                rw [hrow, List.length_append, ← hrow0]
                unfold RefV.moments
                rw [List.length_map, List.length_range]
                have := hm0.1
                omega
              have hgr : (Z.grown n s j).files[n]? = some row := by rw [RefV.grown_row hzn, ← hrow]
              have hzn5 : n < (Z.grown n s j).files.length := by rw [RefV.grown_len]; exact hzn
              obtain ⟨v, hv, hvr, _⟩ := h5.files n row hgr
              obtain ⟨g, c, hfv, hgl, hle, hmx, hob, hcell⟩ := own_cell h5.frow (by omega)
              obtain ⟨c9, f9⟩ := hcell n _ hv
              have c1 : wr.cell? ⟨r, 1, none⟩ = some R5.fv := Heap.cell h5.core 1
              rw [hfv] at c1
              obtain ⟨t, ht⟩ : ∃ t, t = Z.nowAt n ++ s.extract 0 j := ⟨_, rfl⟩
              have hts : t.size ≤ 4611686018428387904 := by
                have h1 : (Z.nowAt n).size ≤ 4611686018427387904 := by
                  unfold RefV.nowAt
                  rw [← hrow0]
                  cases hl : row0.getLast? with
                  | none => show ByteArray.empty.size ≤ _; decide
                  | some u => exact hm0.2 u (List.mem_of_getLast? hl)
                rw [ht, ByteArray.size_append, ByteArray.size_extract]
                omega
              have hext : t ++ s.extract j (j + 1) = Z.nowAt n ++ s.extract 0 (j + 1) := by rw [ht]; exact RefV.extract_next _ _ _
              have HW := Lib.hid (fun w' (ho : Off None wr w') => by have := now_any w' r _ R5 (h5.off ho (fun _ _ h => h)) n hzn5; rw [RefV.grown_now hzn, ← ht] at this; exact this)
              obtain ⟨m, hm⟩ : ∃ m, m = (Z.grown n s j).files.length := ⟨_, rfl⟩
              rw [← hm] at c1 hzn5 hle hfv
              obtain ⟨pv, cv, rfl⟩ := own_shape hvr
              have hrg : r ≠ g := fun e => by have h6 := h5.rF g hob; rw [← e, h5.rD] at h6; omega
              have H5 := Lib.hid h5; have HF5 := Lib.hid hF5
              have HM := Lib.hid hm; have HFV := Lib.hid hfv; have HV := Lib.hid hv; have HVR := Lib.hid hvr; have HROW := Lib.hid hrow; have HGR := Lib.hid hgr; have HOB := Lib.hid hob; have HEXT := Lib.hid hext; have HT := Lib.hid ht
              have i0 : (0 : Int) ≤ (n : Int) := by omega
              have i1 : (n : Int) < (m : Int) := by omega
              have i2 : (0 : Int) ≤ (j : Int) := by omega
              have i3 : (j : Int) < (s.size : Int) := by omega
              have i4 : (j : Int) + 1 ≤ (s.size : Int) := by omega
              have i5 : (j : Int) ≤ (j : Int) + 1 := by omega
              have i6 : IntKind.i64.wrap ((j : Int) + 1) = (j : Int) + 1 := IntWalk.i64_in _ (by omega)
              have i7 : (0 : Int) ≤ (j : Int) + 1 := by omega
              have i8 : ((j : Int) + 1).toNat = j + 1 := by omega
              clear h5 hF5 hm hfv hv hvr hrow hgr hob hext ht hcell hrow0 hm0 HIN
              go_wp2_with fail
              have i9 : ¬ 9223372036854775807 < t.size + (min (j + 1) s.size - j) := by omega
              go_region_law (first
                | (refine step_push (W := w5) (by rfl) _ _ (by rfl) elemText 0 (.slice pv row.length cv) row.length (textCells row) (by rfl) hvr5.out #[.string (t ++ s.extract j (j + 1))] (by rfl) rfl (by intro u hu; simp at hu; rcases hu with rfl; rfl) (by omega) (Nat.zero_le _) ?_; intro g2 cap w6 hrow6 hp6; obtain ⟨d1, d2, d3, d4⟩ := RefAt.spot H5.out HGR.out HV.out HOB.out ho15 hp6; rw [HFV.out] at d4)
                | (go_simp; go_at_call 71; refine (HW.out _ ((Off.refl None wr).drew)).mono ?_; rintro e w5 ⟨rfl, ho5⟩; have k1 : w5.cell? ⟨r, 1, none⟩ = some (.slice (some ⟨g, 0, none⟩) m c) := ho5.keep c1 (fun h => h); have k9 : w5.cell? ⟨g, n, none⟩ = some (.slice pv row.length cv) := ho5.keep c9 (fun h => h); have hgl5 : g < w5.heap.size := (by have h6 := ho5.size; have h7 : wr.drew.heap.size = wr.heap.size := rfl; omega); have k11 : (w5.alloc (.cells #[.string (t ++ s.extract j (j + 1))] 9)).cell? ⟨r, 1, none⟩ = some (.slice (some ⟨g, 0, none⟩) m c) := ((Off.refl None w5).alloc _).keep k1 (fun h => h); have k99 : (w5.alloc (.cells #[.string (t ++ s.extract j (j + 1))] 9)).cell? ⟨g, n, none⟩ = some (.slice pv row.length cv) := ((Off.refl None w5).alloc _).keep k9 (fun h => h); have ho15 : Off None wr w5 := (Off.refl None wr).drew.trans ho5 (fun _ _ h => h); have hvr5 := Lib.hid (ho15.row HVR.out (fun _ _ h => h))))
              all_goals
                have hin := RefAt.pushed H5.out HF5.out HGR.out HV.out HOB.out ho15 hrow6 hp6
                rw [HEXT.out, HROW.out, RefV.grown_step] at hin
                have HN1 := Lib.hid (hin.1.mono_grow HO.out); have HN2 := Lib.hid (HO.out.trans_grow hin.2)
                rw [← HROW.out] at HN1 HN2
                clear hin hrow6 hp6 d1 d2 d3 d4 k1 k9 ho5 ho15 hvr5 HW
              all_goals go_wp2
              all_goals exact ⟨⟨j + 1, hlt, by go_num, HN1.out, HN2.out⟩, by simp [intOf]; omega⟩
            · have hje : j = s.size := by omega
              subst hje
              have i1 : ¬ (s.size : Int) < (s.size : Int) := by omega
              go_wp2
              go_ret
              rw [HS3.out]
              exact ⟨rfl, HIN.out, HO.out⟩
end RefW
end Go.Proofs.YtnppdcegpojmbaaGreatDoor
namespace Go.Proofs.YtnppdcegpojmbaaGreatDoor
open Go Go.RowKit Go.Sort
theorem infoRowN : (Tryz.prog.info? 122).map (fun i => (i.zero, i.size, i.bytes)) = some (some (.slice none 0 0), 1, 24) := by kernel_rfl
theorem elemRowN : ElemOk Tryz.prog 110 122 1 24 := .of Tryz.underlying110 infoRowN rfl (by decide) (by decide)
theorem infoRowT : (Tryz.prog.info? 22).map (fun i => (i.zero, i.size, i.bytes)) = some (some (.slice none 0 0), 1, 24) := by kernel_rfl
theorem elemRowT : ElemOk Tryz.prog 66 22 1 24 := .of Tryz.underlying66 infoRowT rfl (by decide) (by decide)
theorem row_base {w : World} {base base' size n : Nat} {e : TypeId} {v : Value} {xs : List Value} (h : w.ownsRow base e size v n xs) (hb : base' ≤ base) : w.ownsRow base' e size v n xs := by
  obtain ⟨hl, h0 | ⟨g, cap, cur, h0, h1, h2⟩⟩ := h
  · exact ⟨hl, .inl h0⟩
  · exact ⟨hl, .inr ⟨g, cap, cur, h0, Nat.le_trans hb h1, h2⟩⟩
namespace RefV
def addF (X : RefV) (row : List ByteArray) : RefV := { X with files := X.files ++ [row] }
def addD (X : RefV) (l : List (ByteArray × Nat)) : RefV := { X with dirs := X.dirs ++ [l] }
def remove (X : RefV) (name : ByteArray) : RefV × Int :=
  if X.begin.2 = false then (X, 11)
  else if X.begin.1.number name < 0 then (X.begin.1, 5)
  else (X.begin.1.addD (without X.begin.1.dir name), 0)
def create (X : RefV) (name : ByteArray) : RefV × Int :=
  if X.begin.2 = false then (X, 11)
  else if DiskV.named name = false then (X.begin.1, 3)
  else if 0 ≤ X.begin.1.number name then (X.begin.1, 4)
  else ((X.begin.1.addF [ByteArray.empty]).addD (without X.begin.1.dir name ++ [(name, X.begin.1.files.length)]), 0)
end RefV
theorem RefAt.addDir_in {F : Nat → Prop} {w w' : World} {r : Nat} {X : RefV} {R : RefRep} (h : RefAt w r X R) (hF : ∀ b, R.role b ≠ 0 → F b) (l : List (ByteArray × Nat)) (v' dv' : Value)
    (ho : Off (fun k => k = r ∨ R.dv.ownBlock = some k) w w') (hc : w'.heap[r]? = some (.cells (refCells (X.addD l) { R with dv := dv' }) 112 (0, 0)))
    (hd : w'.ownsRow 0 122 1 dv' (X.dirs.length + 1) (R.ds ++ [v'])) (hb : ∀ k, dv'.ownBlock = some k → R.dv.ownBlock = some k ∨ w.heap.size ≤ k)
    (hv : w'.ownsRow 0 126 2 v' l.length (l.flatMap namedCells)) (hvb : ∀ k, v'.ownBlock = some k → w.heap.size ≤ k ∧ dv'.ownBlock ≠ some k) (hnm : ∀ p ∈ l, p.2 < X.files.length) :
    RefIn w' r (X.addD l) (Grow F w w') ∧ Off F w w' := by
  have hdl : R.ds.length = X.dirs.length := by have := h.drow.1; omega
  have h3 := RefAt.setDirs h (X.dirs ++ [l]) (R.ds ++ [v']) dv' ho hc (by rw [List.length_append]; exact hd) hb (by simp)
    (fun x hx p hp => by
      rcases List.mem_append.1 hx with hx | hx
      · exact h.wf.names x hx p hp
      · rw [List.mem_singleton.1 hx] at hp; exact hnm p hp)
    (fun i x hi => by
      rcases Nat.lt_or_ge i X.dirs.length with hlt | hge
      · rw [List.getElem?_append_left hlt] at hi
        obtain ⟨v, e1, e2, e3⟩ := h.dirs i x hi
        refine ⟨v, by rw [List.getElem?_append_left (by omega)]; exact e1, ho.row e2 (fun k hk e => ?_), fun k hk => .inl (e3 k hk)⟩
        have h5 := e3 k hk
        rcases e with e | e
        · rw [e, h.rD] at h5; omega
        · rw [h.rV k e] at h5; omega
      · rw [List.getElem?_append_right hge] at hi
        have hi0 : i = X.dirs.length := by
          rcases Nat.eq_or_lt_of_le hge with e | e
          · exact e.symm
          · rw [List.getElem?_eq_none (by simp; omega)] at hi; cases hi
        subst hi0
        rw [Nat.sub_self] at hi
        cases hi
        refine ⟨v', by rw [List.getElem?_append_right (by omega), hdl, Nat.sub_self]; rfl, hv, fun k hk => .inr (hvb k hk)⟩)
  refine ⟨⟨_, h3, fun b hb' => ?_⟩, ho.mono ?_⟩
  · have hb' : (if b < w.heap.size then R.role b else if dv'.ownBlock = some b then 4 else if b < w'.heap.size then 5 else 0) ≠ 0 := hb'
    split at hb'
    · exact .inl (hF b hb')
    · split at hb'
      · rename_i hk; exact .inr ⟨by omega, row_lt hd hk⟩
      · split at hb'
        · exact .inr ⟨by omega, by assumption⟩
        · exact absurd rfl hb'
  · rintro b _ (rfl | hk)
    · exact hF b (by rw [h.rD]; omega)
    · exact hF b (by rw [h.rV b hk]; omega)
/-- The row of names pushed behind the elder ones, and laid into the disk. -/
theorem RefAt.pushedDir {F : Nat → Prop} {w W w' : World} {r g' cap : Nat} {X : RefV} {R : RefRep} {l : List (ByteArray × Nat)} {v' : Value} (h : RefAt w r X R) (hF : ∀ b, R.role b ≠ 0 → F b) (ho : Off None w W)
    (hr : w'.ownsRow 0 122 1 (.slice (some ⟨g', 0, none⟩) (X.dirs.length + 1) cap) (X.dirs.length + 1) (R.ds ++ (#[v']).toList)) (hp : Pushed W w' R.dv g')
    (hv : W.ownsRow w.heap.size 126 2 v' l.length (l.flatMap namedCells)) (hnm : ∀ p ∈ l, p.2 < X.files.length) :
    RefIn (w'.setCell ⟨r, 2, none⟩ (.slice (some ⟨g', 0, none⟩) (X.dirs.length + 1) cap)) r (X.addD l) (Grow F w (w'.setCell ⟨r, 2, none⟩ (.slice (some ⟨g', 0, none⟩) (X.dirs.length + 1) cap))) ∧ Off F w (w'.setCell ⟨r, 2, none⟩ (.slice (some ⟨g', 0, none⟩) (X.dirs.length + 1) cap)) := by
  have hrl : r < w.heap.size := Heap.lt h.core
  have hrd : ¬ R.dv.ownBlock = some r := fun e => by have h1 := h.rV r e; have h2 := h.rD; omega
  have hgr : g' ≠ r := by
    rcases hp.from_ with h1 | h1
    · intro e; rw [e] at h1; exact hrd h1
    · have h2 : W.heap.size < g' := h1
      have := ho.size; omega
  have hpo : Off (fun k => R.dv.ownBlock = some k) w w' := (ho.mono (fun _ _ h => h.elim)).trans hp.off (fun _ _ h => h)
  have hc' := hpo.at_ h.core hrd
  have hvl : ∀ k, v'.ownBlock = some k → w.heap.size ≤ k ∧ k < W.heap.size := fun k hk => World.ownsRow.lt hv k hk
  have hdvl : ∀ k, R.dv.ownBlock = some k → k < w.heap.size := fun k hk => row_lt h.drow hk
  refine RefAt.addDir_in h hF l v' (.slice (some ⟨g', 0, none⟩) (X.dirs.length + 1) cap) ((hpo.mono (fun b _ hb => .inr hb)).setCell (p := ⟨r, 2, none⟩) (.inl (.inl rfl)) _) ((Heap.set hc' 2 _).trans rfl) ?_ ?_ ?_ ?_ hnm
  · exact ((Off.refl (Only r) w').set 2 _).row hr (fun k hk e => by cases hk; exact hgr e)
  · intro k hk
    cases hk
    rcases hp.from_ with h1 | h1
    · exact .inl h1
    · exact .inr (by have h2 := ho.size; show w.heap.size ≤ g'; omega)
  · have h0 : w'.ownsRow w.heap.size 126 2 v' l.length (l.flatMap namedCells) := hp.off.row hv (fun k hk e => by have h1 := hvl k hk; have h2 := hdvl k e; omega)
    exact row_base (((Off.refl (Only r) w').set 2 _).row h0 (fun k hk e => by have h1 := hvl k hk; rw [show k = r from e] at h1; omega)) (Nat.zero_le _)
  · intro k hk
    have h1 := hvl k hk
    refine ⟨h1.1, fun e => ?_⟩
    obtain rfl : g' = k := by injection e
    rcases hp.from_ with h2 | h2
    · have h3 := hdvl _ h2; have h4 := h1.1; omega
    · have h4 := h1.2; have h5 : W.heap.size < g' := h2; omega
theorem RefAt.spotD {w W w' : World} {r g' : Nat} {X : RefV} {R : RefRep} (h : RefAt w r X R) (ho : Off None w W) (hp : Pushed W w' R.dv g') :
    w'.cell? ⟨r, 2, none⟩ = some R.dv ∧ w'.frozen? ⟨r, 2, none⟩ = false ∧ r < w'.heap.size := by
  have hrd : ¬ R.dv.ownBlock = some r := fun e => by have h1 := h.rV r e; have h2 := h.rD; omega
  have hpo : Off (fun k => R.dv.ownBlock = some k) w w' := (ho.mono (fun _ _ h => h.elim)).trans hp.off (fun _ _ h => h)
  have hc' := hpo.at_ h.core hrd
  exact ⟨Heap.cell hc' 2, Heap.frozen hc' 2, Heap.lt hc'⟩
namespace RefW
variable {w : World} {r : Nat} {X : RefV} {R : RefRep}
theorem without_mem {l : List (ByteArray × Nat)} {name : ByteArray} {p : ByteArray × Nat} (h : p ∈ RefV.without l name) : p ∈ l := (List.mem_filter.1 h).1
set_option maxHeartbeats 2000000 in
set_option maxRecDepth 100000 in
theorem remove_any (w : World) (r : Nat) (X : RefV) (F : Nat → Prop) (h : RefIn w r X F) (name : ByteArray) (hd : X.dir.length ≤ 1000000) (hdd : X.dirs.length ≤ 1000000000) :
    Calls Tryz.prog 121 #[.pointer (some ⟨r, 0, none⟩), .string name] w fun e w' =>
      e = .returned (.int .i64 (X.remove name).2) ∧ RefIn w' r (X.remove name).1 (Grow F w w') ∧ Off F w w' := by
  obtain ⟨R, h, hF⟩ := h
  have HF := Lib.hid hF; clear hF
  have hbg := begin_any w r X R h
  cases hb : X.begin.2 with
  | false =>
    have hs : X.remove name = (X, 11) := by unfold RefV.remove; rw [if_pos hb]
    have he := RefV.begin_off hb
    rw [hb, he] at hbg
    have HS := Lib.hid hs; have HB := Lib.hid hbg; have H := Lib.hid h
    clear hs hb he hbg h
    go_enter Tryz.func121, Tryz.ntmps121
    go_wp2_with fail
    refine HB.out.mono ?_
    rintro e w1 ⟨rfl, h1, ho1⟩
    have H1 := Lib.hid h1; have HO1 := Lib.hid ho1; clear h1 ho1
    go_wp2
    go_ret
    rw [HS.out]
    exact ⟨rfl, ⟨R, H1.out, fun b hb => .inl (HF.out b hb)⟩, off_core H.out HF.out HO1.out⟩
  | true =>
    obtain ⟨Y, hY⟩ : ∃ Y, Y = X.begin.1 := ⟨_, rfl⟩
    have hs : X.remove name = if Y.number name < 0 then (Y, 5) else (Y.addD (RefV.without Y.dir name), 0) := by unfold RefV.remove; rw [hb, ← hY]; rfl
    rw [hb, ← hY] at hbg
    have HB := Lib.hid hbg; have H := Lib.hid h
    by_cases hn : Y.number name < 0
    · rw [if_pos hn] at hs
      have HS := Lib.hid hs
      obtain ⟨n, hnn⟩ : ∃ n, n = Y.number name := ⟨_, rfl⟩
      rw [← hnn] at hn
      have HNN := Lib.hid hnn
      clear hs hb hbg h hY hnn
      go_enter Tryz.func121, Tryz.ntmps121
      go_wp2_with fail
      refine HB.out.mono ?_
      rintro e w1 ⟨rfl, h1, ho1⟩
      have hnum := number_any w1 r Y R h1 name
      rw [← HNN.out] at hnum
      have H1 := Lib.hid h1; have HO1 := Lib.hid ho1; have HN := Lib.hid hnum; clear h1 ho1 hnum
      go_wp2_with fail
      refine HN.out.mono ?_
      rintro e w2 ⟨rfl, ho2⟩
      have HO2 := Lib.hid ho2; clear ho2
      go_wp2
      go_ret
      rw [HS.out]
      exact ⟨rfl, ⟨R, H1.out.off HO2.out (fun _ _ h => h), fun b hb => .inl (HF.out b hb)⟩, (off_core H.out HF.out HO1.out).trans HO2.out (fun _ _ h => h.elim)⟩
    · rw [if_neg hn] at hs
      clear h hb
      go_enter Tryz.func121, Tryz.ntmps121
      have HS0 := Lib.hid hs; have HY := Lib.hid hY
      clear hs hY hbg
      go_wp2_with fail
      refine HB.out.mono ?_
      rintro e w1 ⟨rfl, h1, ho1⟩
      obtain ⟨n, hnn, hnl⟩ := number_lt h1 name (by omega)
      have hnum := number_any w1 r Y R h1 name
      have hs := HS0.out
      rw [hnn] at hnum hn
      have H1 := Lib.hid h1; have HO1 := Lib.hid ho1; have HN := Lib.hid hnum; have HS := Lib.hid hs; clear h1 ho1 hnum hs HS0 hnn
      go_wp2_with fail
      refine HN.out.mono ?_
      rintro e w2 ⟨rfl, ho2⟩
      have h2 := H1.out.off ho2 (fun _ _ h => h)
      have HO2 := Lib.hid ((off_core H.out HF.out HO1.out).trans ho2 (fun _ _ h => h.elim)); have H2 := Lib.hid h2
      clear ho2 h2 HN H1
      go_wp2_with fail
      have hbs := RefV.begin_same X
      rw [← HY.out] at hbs
      have hdir : Y.dir = X.dir := by unfold RefV.dir; rw [hbs.2.1]
      obtain ⟨g, c, hdv, hgl, hle, hmx, hob, hcell⟩ := own_cell H2.out.drow (List.length_pos_iff.2 H2.out.wf.dirs)
      have hdy : Y.dirs.length ≤ 1000000000 := by rw [hbs.2.1]; exact hdd
      have c2 : w2.cell? ⟨r, 2, none⟩ = some R.dv := Heap.cell H2.out.core 2
      have hrl : r < w2.heap.size := Heap.lt H2.out.core
      have HDA := Lib.hid (fun w' (ho : Off None w2 w') => dir_any w' r Y R (H2.out.off ho (fun _ _ h => h)))
      have HWA := Lib.hid (fun w' v (hv : w'.ownsRow 0 126 2 v Y.dir.length (Y.dir.flatMap namedCells)) => without_any w' v Y.dir hv name (by rw [hdir]; exact hd))
      have hdrow := H2.out.drow
      rw [hdv] at c2 hdrow
      have HDV := Lib.hid hdv; have HDR := Lib.hid hdrow
      clear hbs hdir hdv hcell hob hdd hdrow
      go_region_law (first
        | (refine step_push (W := w6) (by rfl) _ _ (by rfl) elemRowN 0 (.slice (some ⟨g, 0, none⟩) Y.dirs.length c) Y.dirs.length R.ds (by rfl) hr6.out #[.slice pv' (RefV.without Y.dir name).length cv'] (by rfl) rfl (by intro u hu; simp at hu; rcases hu with rfl; rfl) (by omega) (Nat.zero_le _) ?_; intro g2 cap w7 hrow7 hp7; rw [← HDV.out] at hp7; obtain ⟨d1, d2, d3⟩ := RefAt.spotD H2.out ho26 hp7)
        | (go_simp; go_at_call 66; refine (HDA.out _ ((Off.refl None w2).drew)).mono ?_; rintro e w5 ⟨v, rfl, _, e2, _, ho5⟩; obtain ⟨pv, cv, rfl⟩ := own_shape e2; have ho25 : Off None w2 w5 := (Off.refl None w2).drew.trans ho5 (fun _ _ h => h); have k2 : w5.cell? ⟨r, 2, none⟩ = some (.slice (some ⟨g, 0, none⟩) Y.dirs.length c) := ho25.keep c2 (fun h => h); have e25 := Lib.hid (ho5.row e2 (fun _ _ h => h)); clear e2)
        | (go_simp; go_at_call 65; refine (HWA.out _ _ e25.out).mono ?_; rintro e w6 ⟨v', rfl, e6, ho6⟩; obtain ⟨pv', cv', rfl⟩ := own_shape e6; have ho26 : Off None w2 w6 := ho25.trans ho6 (fun _ _ h => h); have k6 : w6.cell? ⟨r, 2, none⟩ = some (.slice (some ⟨g, 0, none⟩) Y.dirs.length c) := ho26.keep c2 (fun h => h); have k66 : (w6.alloc (.cells #[.slice pv' (RefV.without Y.dir name).length cv'] 122)).cell? ⟨r, 2, none⟩ = some (.slice (some ⟨g, 0, none⟩) Y.dirs.length c) := ((Off.refl None w6).alloc _).keep k6 (fun h => h); have hr6 := Lib.hid (ho26.row HDR.out (fun _ _ h => h)); have e66 := Lib.hid (row_base e6 ho25.size); clear e6))
      all_goals go_wp2
      all_goals go_ret
      all_goals
        have hin := RefAt.pushedDir (X := Y) (l := RefV.without Y.dir name) H2.out HF.out ho26 hrow7 hp7 e66.out (fun p hp => (last_dir H2.out).choose_spec.2.2.2 p (without_mem hp))
        rw [HS.out]
        exact ⟨rfl, hin.1.mono_of HO2.out, HO2.out.trans hin.2 (fun _ _ h => h)⟩
end RefW
end Go.Proofs.YtnppdcegpojmbaaGreatDoor
