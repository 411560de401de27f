/- The reference's disk: one file more; the walk of Create. -/
import Derived.Test.YtnppdcegpojmbaaGreatDoorRefD7
namespace Go.Proofs.YtnppdcegpojmbaaGreatDoor
open Go Go.RowKit Go.Sort
theorem RefAt.addFile {F : Nat → Prop} {w w' : World} {r : Nat} {X : RefV} {R : RefRep} (h : RefAt w r X R) (hF : ∀ b, R.role b ≠ 0 → F b) (row : List ByteArray) (v' fv' : Value)
    (ho : Off (fun k => k = r ∨ R.fv.ownBlock = some k) w w') (hc : w'.heap[r]? = some (.cells (refCells (X.addF row) { R with fv := fv' }) 112 (0, 0)))
    (hf : w'.ownsRow 0 22 1 fv' (X.files.length + 1) (R.fs ++ [v'])) (hb : ∀ k, fv'.ownBlock = some k → R.fv.ownBlock = some k ∨ w.heap.size ≤ k)
    (hv : w'.ownsRow 0 9 1 v' row.length (textCells row)) (hvb : ∀ k, v'.ownBlock = some k → w.heap.size ≤ k ∧ fv'.ownBlock ≠ some k) (hne : row ≠ []) :
    RefIn w' r (X.addF row) (Grow F w w') ∧ Off F w w' := by
  have hfl : R.fs.length = X.files.length := by have := h.frow.1; omega
  obtain ⟨role, hrole⟩ : ∃ role : Nat → Nat, role = fun k => if k < w.heap.size then R.role k else if fv'.ownBlock = some k then 3 else if k < w'.heap.size then 6 + X.files.length else 0 := ⟨_, rfl⟩
  have hro : ∀ k, R.role k ≠ 0 → role k = R.role k := fun k hk => by rw [hrole]; exact if_pos (h.old k hk)
  have far : ∀ k, R.role k ≠ 0 → R.role k ≠ 1 → R.role k ≠ 3 → ¬ (k = r ∨ R.fv.ownBlock = some k) := by
    rintro k h0 h1 h2 (rfl | hk)
    · exact h1 h.rD
    · exact h2 (h.rF k hk)
  refine ⟨⟨{ R with fv := fv', fs := R.fs ++ [v'], role := role }, { wf := ⟨h.wf.room, h.wf.ops, h.wf.fail, h.wf.left, h.wf.dirs, ?_, ?_⟩, core := hc, frow := ?_, drow := ?_, files := ?_, dirs := ?_, rD := ?_, rF := ?_, rV := ?_, old := ?_ }, ?_⟩, ho.mono ?_⟩
  · intro l hl p hp
    show _ < (X.files ++ [row]).length
    have := h.wf.names l hl p hp
    rw [List.length_append, List.length_singleton]; omega
  · intro x hx
    have hx : x ∈ X.files ++ [row] := hx
    rcases List.mem_append.1 hx with hm | hm
    · exact h.wf.files x hm
    · rw [List.mem_singleton.1 hm]; exact hne
  · show w'.ownsRow 0 _ 1 fv' (X.files ++ [row]).length _
    rw [List.length_append]; exact hf
  · exact ho.row h.drow (fun k hk => far k (by rw [h.rV k hk]; omega) (by rw [h.rV k hk]; omega) (by rw [h.rV k hk]; omega))
  · intro j x hj
    have hj : (X.files ++ [row])[j]? = some x := hj
    rcases Nat.lt_or_ge j X.files.length with hlt | hge
    · rw [List.getElem?_append_left hlt] at hj
      obtain ⟨v, e1, e2, e3⟩ := h.files j x hj
      refine ⟨v, by show (R.fs ++ [v'])[j]? = _; rw [List.getElem?_append_left (by omega)]; exact e1, ho.row e2 (fun k hk => far k (by rw [e3 k hk]; omega) (by rw [e3 k hk]; omega) (by rw [e3 k hk]; omega)), fun k hk => ?_⟩
      show role k = 6 + j
      rw [hro k (by rw [e3 k hk]; omega), e3 k hk]
    · rw [List.getElem?_append_right hge] at hj
      have hj0 : j = X.files.length := by
        rcases Nat.eq_or_lt_of_le hge with e | e
        · exact e.symm
        · rw [List.getElem?_eq_none (by simp; omega)] at hj; cases hj
      subst hj0
      rw [Nat.sub_self] at hj
      cases hj
      refine ⟨v', by show (R.fs ++ [v'])[X.files.length]? = _; rw [List.getElem?_append_right (by omega), hfl, Nat.sub_self]; rfl, hv, fun k hk => ?_⟩
      obtain ⟨h5, h6⟩ := hvb k hk
      show role k = 6 + X.files.length
      rw [hrole]
      show (if k < w.heap.size then R.role k else if fv'.ownBlock = some k then 3 else if k < w'.heap.size then 6 + X.files.length else 0) = 6 + X.files.length
      rw [if_neg (by omega), if_neg h6, if_pos (row_lt hv hk)]
  · intro j l hj
    obtain ⟨v, e1, e2, e3⟩ := h.dirs j l hj
    refine ⟨v, e1, ho.row e2 (fun k hk => far k (by rw [e3 k hk]; omega) (by rw [e3 k hk]; omega) (by rw [e3 k hk]; omega)), fun k hk => ?_⟩
    show role k = 5
    rw [hro k (by rw [e3 k hk]; omega), e3 k hk]
  · show role r = 1
    rw [hro r (by rw [h.rD]; omega), h.rD]
  · intro k hk
    have hk : fv'.ownBlock = some k := hk
    show role k = 3
    rcases hb k hk with h5 | h5
    · rw [hro k (by rw [h.rF k h5]; omega), h.rF k h5]
    · rw [hrole]
      show (if k < w.heap.size then R.role k else if fv'.ownBlock = some k then 3 else if k < w'.heap.size then 6 + X.files.length else 0) = 3
      rw [if_neg (by omega), if_pos hk]
  · intro k hk
    show role k = 4
    rw [hro k (by rw [h.rV k hk]; omega), h.rV k hk]
  · intro b hb'
    have hs := ho.size
    have hb' : role b ≠ 0 := hb'
    rw [hrole] at hb'
    have hb' : (if b < w.heap.size then R.role b else if fv'.ownBlock = some b then 3 else if b < w'.heap.size then 6 + X.files.length else 0) ≠ 0 := hb'
    split at hb'
    · omega
    · split at hb'
      · rename_i hk; exact row_lt hf hk
      · split at hb'
        · assumption
        · exact absurd rfl hb'
  · intro b hb'
    have hb' : role b ≠ 0 := hb'
    rw [hrole] at hb'
    have hb' : (if b < w.heap.size then R.role b else if fv'.ownBlock = some b then 3 else if b < w'.heap.size then 6 + X.files.length else 0) ≠ 0 := hb'
    split at hb'
    · exact .inl (hF b hb')
    · split at hb'
      · rename_i hk; exact .inr ⟨by omega, row_lt hf hk⟩
      · split at hb'
        · exact .inr ⟨by omega, by assumption⟩
        · exact absurd rfl hb'
  · rintro b _ (rfl | hk)
    · exact hF b (by rw [h.rD]; omega)
    · exact hF b (by rw [h.rF b hk]; omega)
theorem RefAt.pushedFile {F : Nat → Prop} {w W w' : World} {r g' cap : Nat} {X : RefV} {R : RefRep} {row : List ByteArray} {v' : Value} (h : RefAt w r X R) (hF : ∀ b, R.role b ≠ 0 → F b) (ho : Off None w W)
    (hr : w'.ownsRow 0 22 1 (.slice (some ⟨g', 0, none⟩) (X.files.length + 1) cap) (X.files.length + 1) (R.fs ++ (#[v']).toList)) (hp : Pushed W w' R.fv g')
    (hv : W.ownsRow w.heap.size 9 1 v' row.length (textCells row)) (hne : row ≠ []) :
    RefIn (w'.setCell ⟨r, 1, none⟩ (.slice (some ⟨g', 0, none⟩) (X.files.length + 1) cap)) r (X.addF row) (Grow F w (w'.setCell ⟨r, 1, none⟩ (.slice (some ⟨g', 0, none⟩) (X.files.length + 1) cap))) ∧ Off F w (w'.setCell ⟨r, 1, none⟩ (.slice (some ⟨g', 0, none⟩) (X.files.length + 1) cap)) := by
  have hrl : r < w.heap.size := Heap.lt h.core
  have hrd : ¬ R.fv.ownBlock = some r := fun e => by have h1 := h.rF r e; have h2 := h.rD; omega
  have hgr : g' ≠ r := by
    rcases hp.from_ with h1 | h1
    · intro e; rw [e] at h1; exact hrd h1
    · have h2 : W.heap.size < g' := h1
      have := ho.size; omega
  have hpo : Off (fun k => R.fv.ownBlock = some k) w w' := (ho.mono (fun _ _ h => h.elim)).trans hp.off (fun _ _ h => h)
  have hc' := hpo.at_ h.core hrd
  have hvl : ∀ k, v'.ownBlock = some k → w.heap.size ≤ k ∧ k < W.heap.size := fun k hk => World.ownsRow.lt hv k hk
  have hdvl : ∀ k, R.fv.ownBlock = some k → k < w.heap.size := fun k hk => row_lt h.frow hk
  refine RefAt.addFile h hF row v' (.slice (some ⟨g', 0, none⟩) (X.files.length + 1) cap) ((hpo.mono (fun b _ hb => .inr hb)).setCell (p := ⟨r, 1, none⟩) (.inl (.inl rfl)) _) ((Heap.set hc' 1 _).trans rfl) ?_ ?_ ?_ ?_ hne
  · exact ((Off.refl (Only r) w').set 1 _).row hr (fun k hk e => by cases hk; exact hgr e)
  · intro k hk
    cases hk
    rcases hp.from_ with h1 | h1
    · exact .inl h1
    · exact .inr (by have h2 := ho.size; show w.heap.size ≤ g'; omega)
  · have h0 : w'.ownsRow w.heap.size 9 1 v' row.length (textCells row) := hp.off.row hv (fun k hk e => by have h1 := hvl k hk; have h2 := hdvl k e; omega)
    exact row_base (((Off.refl (Only r) w').set 1 _).row h0 (fun k hk e => by have h1 := hvl k hk; rw [show k = r from e] at h1; omega)) (Nat.zero_le _)
  · intro k hk
    have h1 := hvl k hk
    refine ⟨h1.1, fun e => ?_⟩
    obtain rfl : g' = k := by injection e
    rcases hp.from_ with h2 | h2
    · have h3 := hdvl _ h2; have h4 := h1.1; omega
    · have h4 := h1.2; have h5 : W.heap.size < g' := h2; omega
theorem RefAt.spotF {w W w' : World} {r g' : Nat} {X : RefV} {R : RefRep} (h : RefAt w r X R) (ho : Off None w W) (hp : Pushed W w' R.fv g') :
    w'.cell? ⟨r, 1, none⟩ = some R.fv ∧ w'.frozen? ⟨r, 1, none⟩ = false ∧ r < w'.heap.size := by
  have hrd : ¬ R.fv.ownBlock = some r := fun e => by have h1 := h.rF r e; have h2 := h.rD; omega
  have hpo : Off (fun k => R.fv.ownBlock = some k) w w' := (ho.mono (fun _ _ h => h.elim)).trans hp.off (fun _ _ h => h)
  have hc' := hpo.at_ h.core hrd
  exact ⟨Heap.cell hc' 1, Heap.frozen hc' 1, Heap.lt hc'⟩
section
variable {P : Program} {ops : Array Oper} {o : Oper} {a : Act} {Q : Exit → Act → World → Prop} {W : World} {st e : TypeId} {size bytes : Nat}
/-- One element behind a row, its cells in a block of their own. -/
theorem step_push_at {K : Act → World → Prop} {X : Prop} (hgd : o.guard = none) (s x : Operand) (ho : o.op = .call { callee := .builtin .append, args := #[s, x], argTypes := #[st, st] }) (E : ElemOk P st e size bytes)
    (base : Nat) (v : Value) (n : Nat) (xs : List Value) (hs : a.eval s = v) (hown : W.ownsRow base e size v n xs) (news : Array Value) (b : Nat) (hb : W.heap[b]? = some (.cells news e (0, 0))) (hx : a.eval x = .slice (some ⟨b, 0, none⟩) 1 1)
    (hl : news.toList.length = size) (h1 : ∀ u ∈ news.toList, u.oneCell' = true) (hn : n ≤ 1099511627776) (hbase : base ≤ W.heap.size)
    (h : ∀ g cap w', w'.ownsRow base e size (.slice (some ⟨g, 0, none⟩) (n + 1) cap) (n + 1) (xs ++ news.toList) → W.grownBy w' v.ownBlock → (v.ownBlock = some g ∨ g = W.heap.size) → K (a.put o.dst (.slice (some ⟨g, 0, none⟩) (n + 1) cap)) w') :
    if Region.wanted o (yielded ops a.tmps) = true then Oper.wp P o a W K Q else X := by
  obtain ⟨i, z, hi, hz, h2, h3, h4⟩ := E.info
  have hf := E.few
  have hc : ∀ (j : Nat) (u : Value), news.toList[j]? = some u → W.cell? ((⟨b, 0, none⟩ : Addr).add j) = some u := fun j u hu => by
    rw [show (⟨b, 0, none⟩ : Addr).add j = ⟨b, j, none⟩ from by simp [Addr.add]; exact fun h => h.symm, Heap.cell hb, ← Array.getElem?_toList]
    exact hu
  refine step_append_lies _ hgd s x st ho base e i z size bytes E.ht hi hz h2 h3 h4 E.pos v n xs hs hown ⟨b, 0, none⟩ 1 1 news.toList hx (by rw [hl, Nat.one_mul]) hc h1 (by decide) (by unfold maxLen; omega) ?_ hbase W.heap.size rfl (fun g cap w' r1 r2 r3 r4 => h g cap w' r1 r2 r3)
  exact Nat.le_trans (Nat.mul_le_mul_left _ hf) (by omega)
end
theorem create_end {F : Nat → Prop} {w w3 w5 w8 w9 : World} {r g2 cap nd m q c8 : Nat} {Z : RefV} {R5 : RefRep} {lw : List (ByteArray × Nat)} {name : ByteArray} {p8 : Option Addr} (h5 : RefAt w5 r Z R5) (hF5 : ∀ b, R5.role b ≠ 0 → Grow F w3 w5 b)
    (ho3 : Off F w w3) (ho35 : Off F w3 w5) (ho58 : Off None w5 w8) (hrow9 : w9.ownsRow 0 122 1 (.slice (some ⟨g2, 0, none⟩) (nd + 1) cap) (nd + 1) (R5.ds ++ (#[.slice p8 (lw.length + 1) c8] : Array Value).toList)) (hp9 : Pushed w8 w9 R5.dv g2)
    (e88 : w8.ownsRow w5.heap.size 126 2 (.slice p8 (lw.length + 1) c8) (lw.length + 1) (lw.flatMap namedCells ++ (#[.string name, .int .i64 ((m : Int) - 1)] : Array Value).toList)) (hnd : nd = Z.dirs.length) (hm : m = Z.files.length) (hqi : (m : Int) - 1 = (q : Int))
    (hlw : lw = RefV.without Z.dir name) (hlast : ∀ p ∈ Z.dir, p.2 < Z.files.length) :
    RefIn (w9.setCell ⟨r, 2, none⟩ (.slice (some ⟨g2, 0, none⟩) (nd + 1) cap)) r (Z.addD (lw ++ [(name, q)])) (Grow F w (w9.setCell ⟨r, 2, none⟩ (.slice (some ⟨g2, 0, none⟩) (nd + 1) cap))) ∧ Off F w (w9.setCell ⟨r, 2, none⟩ (.slice (some ⟨g2, 0, none⟩) (nd + 1) cap)) := by
  subst hnd
  have hv : w8.ownsRow w5.heap.size 126 2 (.slice p8 (lw.length + 1) c8) (lw ++ [(name, q)]).length ((lw ++ [(name, q)]).flatMap namedCells) := by
    rw [List.length_append, List.flatMap_append]
    rw [hqi] at e88
    exact e88
  have hin := RefAt.pushedDir (l := lw ++ [(name, q)]) h5 hF5 ho58 hrow9 hp9 hv (fun p hp => by
    rcases List.mem_append.1 hp with h | h
    · rw [hlw] at h; exact hlast p (List.mem_filter.1 h).1
    · rw [List.mem_singleton.1 h]; show q < _; omega)
  have hs := (hin.1.mono_grow ho35).mono_of ho3
  exact ⟨hs, ho3.trans (ho35.trans_grow hin.2) (fun _ _ h => h)⟩
namespace RefW
variable {w : World} {r : Nat} {X : RefV} {R : RefRep}
set_option maxHeartbeats 8000000 in
set_option maxRecDepth 100000 in
theorem create_any (w : World) (r : Nat) (X : RefV) (F : Nat → Prop) (h : RefIn w r X F) (name : ByteArray) (hsz : name.size ≤ maxLen) (hd : X.dir.length ≤ 1000000) (hdd : X.dirs.length ≤ 1000000000) (hff : X.files.length ≤ 1000000000) :
    Calls Tryz.prog 27 #[.pointer (some ⟨r, 0, none⟩), .string name] w fun e w' =>
      e = .returned (.int .i64 (X.create name).2) ∧ RefIn w' r (X.create name).1 (Grow F w w') ∧ Off F w w' := by
  obtain ⟨R, h, hF⟩ := h
  have HF := Lib.hid hF; clear hF
  have hbg := begin_any w r X R h
  have HNM := Lib.hid (fun w' => name_any w' name hsz)
  clear hsz
  cases hb : X.begin.2 with
  | false =>
    have hs : X.create name = (X, 11) := by unfold RefV.create; rw [if_pos hb]
    have he := RefV.begin_off hb
    rw [hb, he] at hbg
    have HS := Lib.hid hs; have HB := Lib.hid hbg; have H := Lib.hid h
    clear hs hb he hbg h
    go_enter Tryz.func27, Tryz.ntmps27
    go_wp2_with fail
    refine HB.out.mono ?_
    rintro e w1 ⟨rfl, h1, ho1⟩
    have H1 := Lib.hid h1; have HO1 := Lib.hid ho1; clear h1 ho1
    go_wp2
    go_ret
    rw [HS.out]
    exact ⟨rfl, ⟨R, H1.out, fun b hb => .inl (HF.out b hb)⟩, off_core H.out HF.out HO1.out⟩
  | true =>
    obtain ⟨Y, hY⟩ : ∃ Y, Y = X.begin.1 := ⟨_, rfl⟩
    have hs : X.create name = if DiskV.named name = false then (Y, 3) else if 0 ≤ Y.number name then (Y, 4) else ((Y.addF [ByteArray.empty]).addD (RefV.without Y.dir name ++ [(name, Y.files.length)]), 0) := by unfold RefV.create; rw [hb, ← hY]; rfl
    rw [hb, ← hY] at hbg
    have HB := Lib.hid hbg; have H := Lib.hid h; have HS0 := Lib.hid hs; have HY := Lib.hid hY
    clear hbg h hs hb hY
    go_enter Tryz.func27, Tryz.ntmps27
    go_wp2_with fail
    refine HB.out.mono ?_
    rintro e w1 ⟨rfl, h1, ho1⟩
    have H1 := Lib.hid h1; have HO1 := Lib.hid ho1; clear h1 ho1
    go_wp2_with fail
    cases hnm : DiskV.named name with
    | false =>
      have hs := HS0.out
      rw [if_pos hnm] at hs
      have hna := HNM.out w1
      rw [hnm] at hna
      have HS := Lib.hid hs; have HNA := Lib.hid hna
      clear hs hna hnm HS0 HNM
      refine HNA.out.mono ?_
      rintro e w2 ⟨rfl, rfl⟩
      go_wp2
      go_ret
      rw [HS.out]
      exact ⟨rfl, ⟨R, H1.out, fun b hb => .inl (HF.out b hb)⟩, off_core H.out HF.out HO1.out⟩
    | true =>
      have hs := HS0.out
      rw [if_neg (by rw [hnm]; decide)] at hs
      have hna := HNM.out w1
      rw [hnm] at hna
      have HS1 := Lib.hid hs; have HNA := Lib.hid hna
      clear hs hna hnm HS0 HNM
      refine HNA.out.mono ?_
      rintro e w2 ⟨rfl, rfl⟩
      have HN := Lib.hid (number_any w2 r Y R H1.out name)
      go_wp2_with fail
      obtain ⟨nn, hnn⟩ : ∃ nn, nn = Y.number name := ⟨_, rfl⟩
      rw [← hnn] at HN HS1
      clear hnn
      by_cases hn : 0 ≤ nn
      · have hs := HS1.out
        rw [if_pos hn] at hs
        have HS := Lib.hid hs
        clear hs HS1
        refine HN.out.mono ?_
        rintro e w3 ⟨rfl, ho3⟩
        have HO3 := Lib.hid ho3; clear ho3
        go_wp2
        go_ret
        rw [HS.out]
        exact ⟨rfl, ⟨R, H1.out.off HO3.out (fun _ _ h => h), fun b hb => .inl (HF.out b hb)⟩, (off_core H.out HF.out HO1.out).trans HO3.out (fun _ _ h => h.elim)⟩
      · have hs := HS1.out
        rw [if_neg hn] at hs
        have HS := Lib.hid hs
        clear hs HS1
        refine HN.out.mono ?_
        rintro e w3 ⟨rfl, ho3⟩
        have h3 := H1.out.off ho3 (fun _ _ h => h)
        have HO3 := Lib.hid ((off_core H.out HF.out HO1.out).trans ho3 (fun _ _ h => h.elim)); have H3 := Lib.hid h3
        clear ho3 h3 HN HNA HB HO1
        obtain ⟨pf, cf, hfv⟩ := own_shape H3.out.frow
        have c1 : w3.cell? ⟨r, 1, none⟩ = some R.fv := Heap.cell H3.out.core 1
        rw [hfv] at c1
        have HFV := Lib.hid hfv
        clear hfv
        obtain ⟨wa, hwa⟩ : ∃ wa, wa = w3.alloc (.cells #[.string ⟨#[]⟩] 9) := ⟨_, rfl⟩
        have hsa : wa.heap.size = w3.heap.size + 1 := by rw [hwa, Heap.alloc_size]
        have hoa : Off None w3 wa := by rw [hwa]; exact (Off.refl None w3).alloc _
        have hva : wa.ownsRow w3.heap.size 9 1 (.slice (some ⟨w3.heap.size, 0, none⟩) 1 1) 1 (textCells [ByteArray.empty]) := by
          rw [hwa]; exact row_made (cur := #[.string ⟨#[]⟩]) (Heap.alloc_new _ _) (Nat.le_refl _) rfl (by omega)
        have hfa : wa.ownsRow 0 22 1 (.slice pf Y.files.length cf) Y.files.length R.fs := by
          rw [← HFV.out]; exact hoa.row H3.out.frow (fun _ _ h => h)
        have hyf : Y.files.length ≤ 1000000000 := by rw [HY.out, (RefV.begin_same X).1]; exact hff
        have HWA := Lib.hid hwa; have HOA := Lib.hid hoa; have HVA := Lib.hid hva; have HFA := Lib.hid hfa
        clear hwa hoa hva hfa
        go_wp2_with (at_builtin; rw [← HWA.out]; refine wpList_push (W := wa) rfl (.tmp 21) (.tmp 23) rfl elemRowT 0 (.slice pf Y.files.length cf) Y.files.length R.fs rfl HFA.out #[.slice (some ⟨w3.heap.size, 0, none⟩) 1 1] ?hx rfl ?c1 ?c2 (Nat.zero_le _) ?_)
        case hx => rw [hsa]; rfl
        case c1 => first | rfl | (intro u hu; simp at hu; rcases hu with rfl; rfl)
        case c2 => omega
        intro g2 cap w4 hrow4 hp4
        rw [← HFV.out] at hp4
        have hsp := RefAt.spotF H3.out HOA.out hp4
        have hin := RefAt.pushedFile H3.out HF.out HOA.out hrow4 hp4 HVA.out (by simp)
        obtain ⟨q1, q2, q3⟩ := hsp
        obtain ⟨w5, hw5⟩ : ∃ w5, w5 = w4.setCell ⟨r, 1, none⟩ (.slice (some ⟨g2, 0, none⟩) (Y.files.length + 1) cap) := ⟨_, rfl⟩
        rw [← hw5] at hin
        have HW5 := Lib.hid hw5; have HIN := Lib.hid hin
        clear hin hrow4 hp4 hw5 c1
        go_wp2_with fail
        rw [← HW5.out]
        obtain ⟨Z, hZ⟩ : ∃ Z, Z = Y.addF [ByteArray.empty] := ⟨_, rfl⟩
        have hin := HIN.out
        rw [← hZ] at hin
        obtain ⟨⟨R5, h5, hF5⟩, ho35⟩ := hin
        have hs := HS.out
        rw [← hZ] at hs
        have hzd : Z.dir = Y.dir := by rw [hZ]; rfl
        have hzl : Z.files.length = Y.files.length + 1 := by rw [hZ]; exact List.length_append
        have hydir : Y.dir = X.dir := by unfold RefV.dir; rw [HY.out, (RefV.begin_same X).2.1]
        have hzdd : Z.dirs.length ≤ 1000000000 := by rw [hZ]; show Y.dirs.length ≤ _; rw [HY.out, (RefV.begin_same X).2.1]; exact hdd
        have hlast := (last_dir h5).choose_spec.2.2.2
        obtain ⟨m, hm⟩ : ∃ m, m = Z.files.length := ⟨_, rfl⟩
        obtain ⟨q, hq⟩ : ∃ q, q = Y.files.length := ⟨_, rfl⟩
        rw [← hq] at hs hzl
        rw [← hm] at hzl
        obtain ⟨pf2, cf2, hfv2⟩ := own_shape h5.frow
        obtain ⟨gd, cd, hdv, hgdl, _, _, hob, _⟩ := own_cell h5.drow (List.length_pos_iff.2 h5.wf.dirs)
        have k1 : w5.cell? ⟨r, 1, none⟩ = some R5.fv := Heap.cell h5.core 1
        have k2 : w5.cell? ⟨r, 2, none⟩ = some R5.dv := Heap.cell h5.core 2
        have hrl : r < w5.heap.size := Heap.lt h5.core
        rw [hfv2, ← hm] at k1
        obtain ⟨nd, hnd⟩ : ∃ nd, nd = Z.dirs.length := ⟨_, rfl⟩
        have hdrow := h5.drow
        rw [hdv] at k2 hdrow
        rw [← hnd] at k2 hdrow hzdd
        have hqi : (m : Int) - 1 = (q : Int) := by omega
        have hwr : IntKind.i64.wrap ((m : Int) - 1) = (m : Int) - 1 := IntWalk.i64_in _ (by omega)
        have HDA := Lib.hid (fun w' (ho : Off None w5 w') => dir_any w' r Z R5 (h5.off ho (fun _ _ h => h)))
        have HWO := Lib.hid (fun w' v (hv : w'.ownsRow 0 126 2 v Z.dir.length (Z.dir.flatMap namedCells)) => without_any w' v Z.dir hv name (by rw [hzd, hydir]; exact hd))
        obtain ⟨lw, hlw⟩ : ∃ lw, lw = RefV.without Z.dir name := ⟨_, rfl⟩
        rw [← hlw] at HWO
        have hlwl : lw.length ≤ 1000000 := by rw [hlw]; exact Nat.le_trans (List.length_filter_le _ _) (by rw [hzd, hydir]; exact hd)
        rw [← hzd, ← hlw] at hs
        have H5 := Lib.hid h5; have HF5 := Lib.hid hF5; have HO35 := Lib.hid ho35; have HS5 := Lib.hid hs; have HDV := Lib.hid hdv; have HDR := Lib.hid hdrow; have HLAST := Lib.hid hlast
        have HM := Lib.hid hm; have HND := Lib.hid hnd; have HQI := Lib.hid hqi; have HLW := Lib.hid hlw
        obtain ⟨T, hT⟩ : ∃ T : Obj, T = .cells #[.string name, .int .i64 ((m : Int) - 1)] 126 (0, 0) := ⟨_, rfl⟩
        have HT := Lib.hid hT
        have kT2 : (w5.alloc (.cells #[.string name, .int .i64 ((m : Int) - 1)] 126)).cell? ⟨r, 2, none⟩ = some (.slice (some ⟨gd, 0, none⟩) nd cd) := ((Off.refl None w5).alloc _).keep k2 (fun h => h)
        clear h5 hF5 ho35 hs hdv hdrow hlast hm hnd hqi hlw HIN HW5 HS HFA HVA HOA HWA hZ hzd hydir hfv2 q1 q2 q3 hT hzl hob hn HFV hsa hyf
        have HM2 := Lib.hid HM.out
        have K1 := Lib.hid k1; have K2 := Lib.hid k2
        have PK := Lib.hid (And.intro HO3.out (And.intro HO35.out (And.intro HS5.out (And.intro HLAST.out (And.intro HQI.out HLW.out)))))
        clear HO3 HO35 HS5 HLAST HQI HLW HM HT H HY H1 HF hd hdd hff hgdl T
        go_region_law (first
          | (refine step_push_at (by rfl) (.tmp 35) (.tmp 44) (by rfl) elemNamed w5.heap.size (.slice p7 lw.length c7) lw.length (lw.flatMap namedCells) (by simp [Act.eval]) ?o7 #[.string name, .int .i64 ((m : Int) - 1)] _ ?b7 (by simp [Act.eval]; rfl) rfl ?c7 ?l7 ?s7 ?_
             case o7 => first | exact e77.out | exact ((Off.refl None w7).alloc _).row e77.out (fun _ _ h => h)
             case b7 => first | exact hT7 | exact Heap.alloc_new w7 _
             case c7 => first | exact ⟨rfl, rfl⟩ | (intro u hu; simp at hu; rcases hu with rfl | rfl <;> rfl)
             case l7 => omega
             case s7 => first | exact ho57.size | exact (ho57.alloc _).size
             intro g8 c8 w8 hrow8 hg8 hf8
             obtain ⟨p8, hp8⟩ : ∃ p8 : Option Addr, p8 = some ⟨g8, 0, none⟩ := ⟨_, rfl⟩
             rw [← hp8] at hrow8 ⊢
             have ho58 : Off None w5 w8 := by
               first
               | exact ho57.grown hg8 (fun k hk => .inr (World.ownsRow.lt e77.out k hk).1)
               | exact (ho57.alloc _).grown hg8 (fun k hk => .inr (World.ownsRow.lt e77.out k hk).1)
             have hr8 := Lib.hid (ho58.row HDR.out (fun _ _ h => h))
             have e88 := Lib.hid hrow8
             have k28 : w8.cell? ⟨r, 2, none⟩ = some (.slice (some ⟨gd, 0, none⟩) nd cd) := ho58.keep K2.out (fun h => h)
             have k28a : (w8.alloc (.cells #[.slice p8 (lw.length + 1) c8] 122)).cell? ⟨r, 2, none⟩ = some (.slice (some ⟨gd, 0, none⟩) nd cd) := (ho58.alloc _).keep K2.out (fun h => h)
             clear hrow8 hg8 hf8 hp8 k17 k27 k27a ho57 e77)
          | (go_simp
             go_at_call 66
             refine (HDA.out _ ?hd).mono ?_
             case hd => first | exact (Off.refl None w5).drew | exact (Off.refl None w5).drew.alloc _
             rintro e w6 ⟨v, rfl, _, e2, _, ho6⟩
             obtain ⟨pv, cv, rfl⟩ := own_shape e2
             have ho56 : Off None w5 w6 := by first | exact (Off.refl None w5).drew.trans ho6 (fun _ _ h => h) | exact ((Off.refl None w5).drew.alloc _).trans ho6 (fun _ _ h => h)
             first
             | (have hT6 : w6.heap[w5.heap.size]? = some (.cells #[.string name, .int .i64 ((m : Int) - 1)] 126 (0, 0)) := ho6.at_ (Heap.alloc_new w5.drew _) (fun h => h))
             | skip
             have e26 := Lib.hid (ho6.row e2 (fun _ _ h => h))
             have k16 : w6.cell? ⟨r, 1, none⟩ = some (.slice pf2 m cf2) := ho56.keep K1.out (fun h => h)
             have k26 : w6.cell? ⟨r, 2, none⟩ = some (.slice (some ⟨gd, 0, none⟩) nd cd) := ho56.keep K2.out (fun h => h)
             have k26a : (w6.alloc (.cells #[.string name, .int .i64 ((m : Int) - 1)] 126)).cell? ⟨r, 2, none⟩ = some (.slice (some ⟨gd, 0, none⟩) nd cd) := (ho56.alloc _).keep K2.out (fun h => h)
             clear e2 ho6 k1 k2 kT2)
          | (go_simp
             go_at_call 65
             refine (HWO.out _ _ ?hw).mono ?_
             case hw => first | exact e26.out | exact ((Off.refl None w6).alloc _).row e26.out (fun _ _ h => h)
             rintro e w7 ⟨v', rfl, e7, ho7⟩
             obtain ⟨p7, c7, rfl⟩ := own_shape e7
             have ho57 : Off None w5 w7 := by first | exact ho56.trans ho7 (fun _ _ h => h) | exact (ho56.alloc _).trans ho7 (fun _ _ h => h)
             first
             | (have hT7 := ho7.at_ hT6 (fun h => h))
             | (have hT7 := ho7.at_ (Heap.alloc_new w6 (.cells #[.string name, .int .i64 ((m : Int) - 1)] 126)) (fun h => h))
             | skip
             have e77 : Hid (w7.ownsRow w5.heap.size 126 2 (.slice p7 lw.length c7) lw.length (lw.flatMap namedCells)) := Lib.hid (by first | exact row_base e7 ho56.size | exact row_base e7 (ho56.alloc _).size)
             have k17 : w7.cell? ⟨r, 1, none⟩ = some (.slice pf2 m cf2) := ho57.keep K1.out (fun h => h)
             have k27 : w7.cell? ⟨r, 2, none⟩ = some (.slice (some ⟨gd, 0, none⟩) nd cd) := ho57.keep K2.out (fun h => h)
             have k27a : (w7.alloc (.cells #[.string name, .int .i64 ((m : Int) - 1)] 126)).cell? ⟨r, 2, none⟩ = some (.slice (some ⟨gd, 0, none⟩) nd cd) := (ho57.alloc _).keep K2.out (fun h => h)
             clear e7 ho7 k16 k26 k26a ho56 e26)
          | (refine step_push (W := w8) (by rfl) (.tmp 31) (.tmp 46) (by rfl) elemRowN 0 (.slice (some ⟨gd, 0, none⟩) nd cd) nd R5.ds (by simp [Act.eval]) hr8.out #[.slice p8 (lw.length + 1) c8] (by simp [Act.eval]) rfl (by intro u hu; simp at hu; rcases hu with rfl; rfl) (by omega) (Nat.zero_le _) ?_
             intro g2 cap w9 hrow9 hp9
             have hdv9 := HDV.out
             rw [← HND.out] at hdv9
             rw [← hdv9] at hp9
             obtain ⟨d1, d2, d3⟩ := RefAt.spotD H5.out ho58 hp9))
        all_goals go_wp2
        all_goals go_ret
        all_goals
          obtain ⟨b1, b2, b3, b4, b5, b6⟩ := PK.out
          rw [b3]
          exact ⟨rfl, create_end H5.out HF5.out b1 b2 ho58 hrow9 hp9 e88.out HND.out HM2.out b5 b6 b4⟩
end RefW
end Go.Proofs.YtnppdcegpojmbaaGreatDoor
