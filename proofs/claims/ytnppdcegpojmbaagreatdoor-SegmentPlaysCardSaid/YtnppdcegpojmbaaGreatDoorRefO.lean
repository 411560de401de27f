/- The reference's log: the walk of Open. -/
import Derived.Test.YtnppdcegpojmbaaGreatDoorRefL4
import Derived.Deep.CutRange
namespace Go.Proofs.YtnppdcegpojmbaaGreatDoor
open Go Go.RowKit Go.Shelf Go.Sort
/-- What the reference's Open answers and leaves. -/
def ROpenPost (res : RefV × Int × List RSeg) (w : World) (r : Nat) (F : Nat → Prop) (e : Ending) (w' : World) : Prop :=
  (∃ p, e = .returned (.tuple #[p, .int .i64 res.2.1]) ∧ (res.2.1 ≠ 0 → p = .pointer none) ∧
    (res.2.1 = 0 → ∃ q pre y, p = .pointer (some ⟨q, 0, none⟩) ∧ w.heap.size ≤ q ∧ res.2.2 = pre ++ [y] ∧ RStore w' q r (pre ++ [y]) y.bodies.length res.1 (Grow F w w'))) ∧ RefIn w' r res.1 (Grow F w w') ∧ Off F w w'
theorem rpost_err {w wr : World} {r : Nat} {F G : Nat → Prop} {X : RefV} {er : Int} {acc : List RSeg} {res : RefV × Int × List RSeg} (h : RefIn wr r X G) (ho : Off F w wr) (hG : ∀ b, b < wr.heap.size → G b → Grow F w wr b)
    (hr : res = (X, er, acc)) (he : er ≠ 0) : ROpenPost res w r F (.returned (.tuple #[.pointer none, .int .i64 er])) wr := by
  subst hr
  exact ⟨⟨_, rfl, fun _ => rfl, fun h0 => absurd h0 he⟩, h.mono hG, ho⟩
theorem rpost_ok {w wr : World} {r q synced : Nat} {F G Fr A : Nat → Prop} {X : RefV} {rows : List RRow} {lv : Value} {pre : List RSeg} {y : RSeg} {res : RefV × Int × List RSeg} (h : RStoreAt wr q r rows synced lv A X Fr G) (ho : Off F w wr) (hG : ∀ b, b < wr.heap.size → G b → Grow F w wr b)
    (hr : res = (X, 0, rows.map (·.1))) (ha : rows.map (·.1) = pre ++ [y]) (hs : synced = y.bodies.length) (hq : w.heap.size ≤ q) : ROpenPost res w r F (.returned (.tuple #[.pointer (some ⟨q, 0, none⟩), .int .i64 0])) wr := by
  subst hr
  have h2 := h.mono hG
  subst hs
  exact ⟨⟨_, rfl, fun h0 => absurd rfl h0, fun _ => ⟨q, pre, y, rfl, hq, ha, rows, lv, A, Fr, ha, h2⟩⟩, h.disk.mono (fun b hb x => hG b hb (h.inR b x).1), ho⟩
theorem text_cell {l : List ByteArray} {i : Nat} (hi : i < l.length) : (textCells l)[i]? = some (.string l[i]) := by
  unfold textCells
  rw [List.getElem?_map, List.getElem?_eq_getElem hi]; rfl
theorem texts_at {w : World} {base : Nat} {p : Option Addr} {n c : Nat} {l : List ByteArray} (h : w.ownsRow base 9 1 (.slice p n c) l.length (textCells l)) : n = l.length ∧ (l.length : Int) ≤ 9223372036854775807 ∧ ∀ i (hi : i < l.length), ∃ g, p = some ⟨g, 0, none⟩ ∧ base ≤ g ∧ g < w.heap.size ∧ w.cell? ⟨g, i, none⟩ = some (.string l[i]) := by
  obtain ⟨_, ⟨h1, h2⟩ | ⟨g, cap, cur, hv, hg, hb, hle, hmx, hsz, ht⟩⟩ := h
  · cases h1
    exact ⟨h2.symm, by omega, fun i hi => absurd hi (by omega)⟩
  · have hmx2 : cap ≤ 2 ^ 63 - 1 := hmx
    cases hv
    refine ⟨rfl, by omega, fun i hi => ⟨g, rfl, hg, Heap.lt hb, ?_⟩⟩
    rw [Heap.cell hb, ← Array.getElem?_toList, ← List.getElem?_take_of_lt (j := l.length * 1) (by omega), ht]
    exact text_cell hi
theorem row_lies {w : World} {base : Nat} {p : Option Addr} {n c : Nat} {l : List ByteArray} (h : w.ownsRow base 9 1 (.slice p n c) n (textCells l)) : l.length ≤ c ∧ c ≤ 9223372036854775807 ∧ n = l.length ∧ Lies (fun b => (Value.slice p n c).ownBlock = some b) w p l := by
  have hn : n = l.length := by have := h.1; unfold textCells at this; rw [List.length_map] at this; omega
  subst hn
  obtain ⟨_, _, h3⟩ := texts_at h
  obtain ⟨_, ⟨h1, h2⟩ | ⟨g, cap, cur, hv, hg, hb, hle, hmx, hsz, ht⟩⟩ := h
  · injection h1 with e1 e2 e3
    exact ⟨by omega, by omega, rfl, fun i hi => absurd hi (by omega)⟩
  · injection hv with e1 e2 e3
    have hmx2 : cap ≤ 2 ^ 63 - 1 := hmx
    refine ⟨by omega, by omega, rfl, fun i hi => ?_⟩
    obtain ⟨g2, e, _, h4, h5⟩ := h3 i hi
    exact ⟨g2, e, by rw [e]; rfl, h4, h5⟩
theorem RStoreAt.moreA {w : World} {q r synced : Nat} {rows : List RRow} {lv : Value} {A B Fr F : Nat → Prop} {X : RefV} (h : RStoreAt w q r rows synced lv A X Fr F) (hB : ∀ b, B b → ¬ Fr b ∧ b ≠ q ∧ lv.ownBlock ≠ some b ∧ b < w.heap.size ∧ F b) : RStoreAt w q r rows synced lv (fun b => A b ∨ B b) X Fr F :=
  ⟨⟨h.pre.core, h.pre.row, h.pre.ne, fun x hx => by
    obtain ⟨p, c, h1, h2, h3, h4⟩ := h.pre.each x hx
    exact ⟨p, c, h1, h2, h3, h4.more (fun _ _ h => .inl h)⟩⟩, h.disk, h.sepQ, h.sepL, fun b hb => hb.elim (h.sepA b) (hB b), h.inQ, h.inR⟩
theorem dec_step {m j : Nat} (h : j < m) : m - (intOf (.int .i64 ((j : Int) + 1))).toNat < m - (intOf (.int .i64 (j : Int))).toNat := by
  simp [intOf]; omega
def bodyText (f : Frame.FrameV) : ByteArray := ⟨f.body.toArray⟩
theorem started_ok {X : RefV} {u : Nat} (h : (X.started u).2.1 = 0) : (X.started u).2.2 = true := by
  unfold RefV.started at h ⊢
  generalize X.create (Seg.nameB u) = c at h ⊢
  obtain ⟨X1, e⟩ := c
  dsimp only at h ⊢
  split
  · rfl
  · rename_i hc; rw [if_neg hc] at h; exact absurd h hc
theorem RLim.read {N : Nat} {X : RefV} (h : RLim N X) (name : ByteArray) : (X.read name).1.size ≤ N * 3000 := by
  unfold RefV.read
  split
  · exact Nat.zero_le _
  · split
    · exact Nat.zero_le _
    · exact h.nowAt _
namespace RefL
set_option maxHeartbeats 2000000 in
set_option maxRecDepth 100000 in
theorem open_any (w : World) (r N : Nat) (X : RefV) (F : Nat → Prop) (h : RefIn w r X F) (hnm : ∀ s ∈ (RefV.listed X.dir X.dir.length).1, NameOk (bytesOf s)) (hub : ∀ u ∈ X.firsts, u ≤ 1000000000000) (hl : RLim N X) (hN : N + 1 ≤ 1000000) :
    Calls Tryz.prog 72 #[.pointer (some ⟨r, 0, none⟩)] w fun e w' => ROpenPost X.opened w r F e w' := by
  have h0 : RefIn w r X (fun b => F b ∧ b < w.heap.size) := h.mono (fun b hb hf => ⟨hf, hb⟩)
  have HD := Lib.hid h0; clear h h0
  have HL := Lib.hid hl; clear hl
  have HUB := Lib.hid hub; clear hub
  have HNM := Lib.hid hnm; clear hnm
  obtain ⟨res, hres⟩ : ∃ res, res = X.opened := ⟨_, rfl⟩
  rw [← hres]
  have HRES := Lib.hid hres; clear hres
  have hdl := Nat.le_trans HL.out.now (Nat.le_trans (Nat.le_succ N) hN)
  go_enter Tryz.func72, Tryz.ntmps72
  go_wp2_with fail
  obtain ⟨w0, hw0⟩ : ∃ w0, w0 = w.alloc (.cells #[.pointer (some ⟨r, 0, none⟩), .slice none 0 0, .int .i64 0] 134) := ⟨_, rfl⟩
  obtain ⟨lg, hlg⟩ : ∃ lg, lg = w.heap.size := ⟨_, rfl⟩
  rw [← hw0]
  have ho0 : Off None w w0 := by rw [hw0]; exact (Off.refl None w).alloc _
  have hcore : w0.heap[lg]? = some (.cells #[.pointer (some ⟨r, 0, none⟩), .slice none 0 0, .int .i64 0] 134 (0, 0)) := by rw [hw0, hlg]; exact Heap.alloc_new w _
  have hlz : lg < w0.heap.size := Heap.lt hcore
  have hst0 : RStoreAt w0 lg r [] 0 (.slice none 0 0) None X (fun b => F b ∧ b < w.heap.size) (fun b => (F b ∧ b < w.heap.size) ∨ w.heap.size ≤ b) :=
    ⟨⟨hcore, SubRow.nil _ _ _, (fun e => by cases e), fun x hx => absurd hx (by simp)⟩, by obtain ⟨R, g1, g2⟩ := HD.out; exact ⟨R, g1.off ho0 (fun _ _ h => h), g2⟩, fun hb => by omega, (fun k hk => by cases hk), fun b hb => hb.elim, .inr (by omega), fun b hb => ⟨.inl hb, by have := ho0.size; omega⟩⟩
  have HST0 := Lib.hid hst0; have HO0 := Lib.hid ho0; have HLG := Lib.hid hlg
  rw [← hlg]
  clear hw0 hcore hst0 ho0 hlg
  have hli : Calls Tryz.prog 108 #[.pointer (some ⟨r, 0, none⟩)] w0 fun e w' => ∃ v, e = .returned v ∧ w'.ownsRow w0.heap.size 9 1 v (RefV.listed X.dir X.dir.length).1.length (textCells (RefV.listed X.dir X.dir.length).1) ∧ Off None w0 w' := by
    obtain ⟨R, g1, _⟩ := HST0.out.disk
    have := RefW.list_any w0 r X R g1 hdl
    rw [RefV.listed_len]
    exact this
  obtain ⟨l, hll⟩ : ∃ l, l = (RefV.listed X.dir X.dir.length).1 := ⟨_, rfl⟩
  have hlen : l.length ≤ 1000000 := by rw [hll, RefV.listed_len]; exact hdl
  have hfirsts : X.firsts = l.filterMap (fun s => numL (bytesOf s)) := by rw [hll]; rfl
  rw [← hll] at hli HNM
  have HFS := Lib.hid hfirsts
  clear hll hfirsts
  refine hli.mono ?_
  rintro e w1 ⟨v, rfl, hrow, ho1⟩
  obtain ⟨pn, cn, rfl⟩ := own_shape hrow
  obtain ⟨_, hnl, hcell⟩ := texts_at hrow
  have HCELL := Lib.hid hcell
  have HO1 := Lib.hid ho1
  clear hrow hcell ho1 hli
  go_wp2_with fail
  go_loopw [5, 7] (fun o i wr => ∃ (k : Nat) (ov : Value), ov = o ∧ k ≤ l.length ∧ i = .int .i64 k ∧ wr.ownsRow w1.heap.size 31 1 ov ((l.take k).filterMap (fun s => numL (bytesOf s))).length (((l.take k).filterMap (fun s => numL (bytesOf s))).map Seg.encU) ∧ Off None w1 wr) (fun _ i _ => l.length - (intOf i).toNat)
  case atStart => exact ⟨0, _, rfl, Nat.zero_le _, rfl, World.ownsRow_nil _ _ _ _, Off.refl _ _⟩
  case round =>
    obtain ⟨k, ov, rfl, hk, rfl, hrow, ho⟩ := hrel
    have HROW := Lib.hid hrow; clear hrow
    have HOR := Lib.hid ho; clear ho
    by_cases hlt : k < l.length
    · obtain ⟨g, hA, hg1, hg2, c0⟩ := HCELL.out k hlt
      subst hA
      have hi0 : (0 : Int) ≤ (k : Int) := by omega
      have hi1 : (k : Int) < (l.length : Int) := by omega
      have hfs := filterMap_snoc (fun s => numL (bytesOf s)) l hlt
      have hnm := HNM.out _ (List.getElem_mem hlt)
      obtain ⟨x, hx⟩ : ∃ x, x = l[k] := ⟨_, rfl⟩
      rw [← hx] at c0 hfs hnm
      clear hx
      have d0 : wr.cell? ⟨g, k, none⟩ = some (.string x) := HOR.out.keep c0 (fun h => h)
      clear c0
      rcases hnm with ⟨u, hu, hxu⟩ | ⟨hx1, hx2⟩
      · have hxb : x = Seg.nameB u := bytesOf_inj (hxu.trans (Seg.bytesOf_nameB u).symm)
        subst hxb
        rw [hxu, numL_name hu] at hfs
        have HFS2 := Lib.hid hfs; clear hfs hxu
        have HNUM := Lib.hid (fun W => number_seg W u hu)
        go_wp2_with fail
        refine (HNUM.out _).mono ?_
        rintro e w2 ⟨rfl, ho2⟩
        have HO2 := Lib.hid (HOR.out.trans ho2 (fun _ _ h => h))
        have HROW2 := Lib.hid (ho2.row HROW.out (fun _ _ h => h))
        have hfl : ((l.take k).filterMap (fun s => numL (bytesOf s))).length ≤ k := Nat.le_trans (List.length_filterMap_le _ _) (List.length_take_le _ _)
        clear ho2 d0
        go_wp2_with (at_builtin; refine wpList_push rfl _ _ rfl Seg.elemU64 w1.heap.size ov ((l.take k).filterMap (fun s => numL (bytesOf s))).length (((l.take k).filterMap (fun s => numL (bytesOf s))).map Seg.encU) rfl HROW2.out #[.int .u64 u] rfl rfl (by intro u hu; simp at hu; subst hu; rfl) (by omega) HO2.out.size ?_; intro g5 cap5 w5 hrow5 hp5)
        case roundEnd =>
          refine ⟨⟨k + 1, _, rfl, hlt, by push_cast; rfl, ?_, ?_⟩, by simp [intOf]; omega⟩
          · rw [HFS2.out, List.length_append, List.map_append]
            exact hrow5
          · exact HO2.out.trans hp5.off (fun b hb e => by have := (World.ownsRow.lt HROW2.out b e).1; omega)
      · have hn0 : numL (bytesOf x) = none := by unfold numL; rw [if_neg hx1]
        rw [hn0, List.append_nil] at hfs
        have HFS2 := Lib.hid hfs; clear hfs hn0
        have HNUM := Lib.hid (fun W => number_other W x (by intro e; exact hx1 (by show x.data.toList.length = 21; simpa using e)))
        go_wp2_with fail
        refine (HNUM.out _).mono ?_
        rintro e w2 ⟨rfl, ho2⟩
        have HO2 := Lib.hid (HOR.out.trans ho2 (fun _ _ h => h))
        have HROW2 := Lib.hid (ho2.row HROW.out (fun _ _ h => h))
        clear ho2 d0
        go_wp2_with fail
        case roundEnd => exact ⟨⟨k + 1, _, rfl, hlt, by push_cast; rfl, by rw [HFS2.out]; exact HROW2.out, HO2.out⟩, by simp [intOf]; omega⟩
    · have hkl : k = l.length := by omega
      subst hkl
      have hi1 : ¬ (l.length : Int) < (l.length : Int) := by omega
      have hr2 := HROW.out
      rw [List.take_length, ← HFS.out] at hr2
      have HR2 := Lib.hid hr2
      obtain ⟨us, hus⟩ : ∃ us, us = X.firsts := ⟨_, rfl⟩
      rw [← hus] at HR2 HUB
      have hlu : us.length ≤ 1000000 := by rw [hus, HFS.out]; exact Nat.le_trans (List.length_filterMap_le _ _) hlen
      have HUS := Lib.hid hus
      obtain ⟨pu, cu, rfl⟩ := own_shape HR2.out
      clear hr2 HROW HFS HNM HCELL hus
      by_cases hu0 : us = []
      · subst hu0
        have hop : res = ((X.started 1).1, (X.started 1).2.1, [⟨1, 0, []⟩]) := by rw [HRES.out]; unfold RefV.opened; rw [if_pos HUS.out.symm]
        have HOP := Lib.hid hop; clear hop
        have hoq : Off None w wr := (HO0.out.trans HO1.out (fun _ _ h => h)).trans HOR.out (fun _ _ h => h)
        have HOQ := Lib.hid hoq; clear hoq
        go_wp2_with fail
        refine (begin_any wr lg r 0 N [] _ _ X _ _ (HST0.out.quiet (HO1.out.trans HOR.out (fun _ _ h => h))) HL.out (by decide) 1 (by decide)).mono ?_
        rintro e w2 ⟨rfl, ho2, lv2, Fr2, h2⟩
        have HB2 := Lib.hid ho2; have HS2 := Lib.hid h2; clear ho2 h2
        have hoff : Off F w w2 := (HOQ.out.mono (fun _ _ h => h.elim) : Off F w wr).trans HB2.out (fun b hb h => h.elim (fun h => h.1) (fun h => by omega))
        have hG : ∀ b, b < w2.heap.size → Grow (fun b => (F b ∧ b < w.heap.size) ∨ w.heap.size ≤ b) wr w2 b → Grow F w w2 b := fun b hb h => by
          have := HOQ.out.size
          rcases h with (h | h) | h
          · exact .inl h.1
          · exact .inr ⟨h, hb⟩
          · exact .inr ⟨by omega, hb⟩
        have HG := Lib.hid hG; have HOFF := Lib.hid hoff; clear hG hoff
        obtain ⟨er, her⟩ : ∃ er, er = (X.started 1).2.1 := ⟨_, rfl⟩
        rw [← her]
        have HER := Lib.hid her; clear her
        have hlw : w.heap.size ≤ lg := Nat.le_of_eq HLG.out.symm
        by_cases he : er = 0
        · subst he
          go_wp2_with fail
          go_ret2
          have e1 : X.rowsAfter 1 [] = [(⟨1, 0, []⟩, .slice none 0 0)] := by unfold RefV.rowsAfter; rw [started_ok HER.out.symm]; rfl
          have hs := HS2.out
          rw [e1] at hs
          refine rpost_ok (pre := []) hs HOFF.out HG.out (by rw [HOP.out, ← HER.out]; rfl) rfl ?_ hlw
          unfold RefV.syncedAfter; rw [started_ok HER.out.symm]; rfl
        · have t1 : (er != 0) = true := by rw [bne_iff_ne]; exact he
          go_wp2_with fail
          go_ret2
          exact rpost_err HS2.out.disk HOFF.out (fun b hb x => HG.out b hb (HS2.out.inR b x).1) (by rw [HOP.out, HER.out]) he
      · obtain ⟨gu, cu2, hpu, hgu1, hgu2, hul, hucell⟩ := Seg.u64_row hu0 HR2.out
        obtain ⟨rfl, rfl⟩ : pu = some ⟨gu, 0, none⟩ ∧ cu = cu2 := by cases hpu; exact ⟨rfl, rfl⟩
        clear hpu
        have HUC := Lib.hid hucell; clear hucell
        have hop : res = ropenGo X [] us := by rw [HRES.out]; unfold RefV.opened; rw [← HUS.out, if_neg hu0]
        have HOP := Lib.hid hop; clear hop
        have hupos : 0 < us.length := List.length_pos_iff.2 hu0
        have hu0b : ((us.length : Int) == 0) = false := by rw [beq_eq_false_iff_ne]; omega
        have hsw := HO0.out.size; have hsw1 := HO1.out.size; have hswr := HOR.out.size
        have hlgw := HLG.out
        have hgl : gu ≠ lg := by omega
        have hlw : w.heap.size ≤ lg := Nat.le_of_eq hlgw.symm
        have hguw : w.heap.size ≤ gu := by omega
        clear hlgw
        obtain ⟨FG, hFG⟩ : ∃ FG : Nat → Prop, FG = fun b => (F b ∧ b < w.heap.size) ∨ (w.heap.size ≤ b ∧ b ≠ gu) := ⟨_, rfl⟩
        have hst1 : RStoreAt wr lg r [] 0 (.slice none 0 0) None X (fun b => F b ∧ b < w.heap.size) FG := by
          have h := HST0.out.quiet (HO1.out.trans HOR.out (fun _ _ h => h))
          rw [hFG]
          exact ⟨h.pre, h.disk, h.sepQ, (fun k hk => by cases hk), fun b hb => hb.elim, .inr ⟨hlw, fun e => hgl e.symm⟩, fun b hb => ⟨.inl hb, (h.inR b hb).2⟩⟩
        have hoff1 : Off F w wr := ((HO0.out.trans HO1.out (fun _ _ h => h)).trans HOR.out (fun _ _ h => h)).mono (fun _ _ h => h.elim)
        have hgrow : ∀ W W', wr.heap.size ≤ W.heap.size → ∀ b, Grow FG W W' b → FG b := by
          intro W W' hW b hb
          rcases hb with hb | hb
          · exact hb
          · rw [hFG]; exact .inr ⟨by omega, by omega⟩
        have hlow : ∀ b, b < w.heap.size → FG b → F b := by
          intro b hb h; rw [hFG] at h; exact h.elim (fun x => x.1) (fun x => by omega)
        have hhigh : ∀ (W : World), ∀ b, b < W.heap.size → FG b → Grow F w W b := by
          intro W b hb h; rw [hFG] at h; exact h.elim (fun x => .inl x.1) (fun x => .inr ⟨x.1, hb⟩)
        have hguF : ¬ FG gu := by rw [hFG]; exact fun h => h.elim (fun h => by omega) (fun h => h.2 rfl)
        have hnew : ∀ b, wr.heap.size ≤ b → FG b := by intro b hb; rw [hFG]; exact .inr ⟨by omega, by omega⟩
        have HST1 := Lib.hid hst1; have HOFF1 := Lib.hid hoff1; have HGROW := Lib.hid hgrow; have HLOW := Lib.hid hlow; have HHIGH := Lib.hid hhigh; have HGUF := Lib.hid hguF; have HNEW := Lib.hid hnew
        clear hst1 hoff1 hgrow hlow hhigh hFG hguF hnew HST0 HO1 HOR HO0 HRES HR2 hsw hsw1 hswr hnl hlen hlt hk hi1
        have HU0 := Lib.hid hu0; clear hu0
        obtain ⟨ws, hws⟩ : ∃ ws, ws = wr := ⟨_, rfl⟩
        rw [← hws] at HST1 HOFF1 HGROW HUC hgu2 HNEW ⊢
        clear hws
        go_wp2_with fail
        go_loopw [11] (fun i wr => ∃ (k synced : Nat) (X1 : RefV) (rows : List RRow) (lv : Value) (A Fr : Nat → Prop), k ≤ us.length ∧ i = .int .i64 k ∧ RStoreAt wr lg r rows synced lv A X1 Fr FG ∧ wr.heap[gu]? = ws.heap[gu]? ∧ Off FG ws wr ∧ rows.length = k ∧ res = ropenGo X1 (rows.map (·.1)) (us.drop k) ∧ (k < us.length → RLim N X1) ∧ (0 < k → ∃ pre y, rows.map (·.1) = pre ++ [y] ∧ synced = y.bodies.length)) (fun i _ => us.length - (intOf i).toNat)
        case atStart => exact ⟨0, 0, X, [], _, _, _, Nat.zero_le _, rfl, HST1.out, rfl, Off.refl _ _, rfl, by rw [List.drop_zero]; exact HOP.out, fun _ => HL.out, fun h => absurd h (by omega)⟩
        case round =>
          obtain ⟨k, synced, X1, rows, lv, A, Fr, hk, rfl, hst, hgw, hoff, hal, hres, hlim, hlast⟩ := hrel
          have HI := Lib.hid hst; have HGW := Lib.hid hgw; have HOF := Lib.hid hoff; have HR1 := Lib.hid hres; have HLM := Lib.hid hlim; have HLA := Lib.hid hlast
          have HAL := Lib.hid hal
          clear hst hgw hoff hres hlim hlast hal
          by_cases hlt : k < us.length
          · have hdrop : us.drop k = us[k] :: us.drop (k + 1) := List.drop_eq_getElem_cons hlt
            have hub1 := HUB.out _ (List.getElem_mem hlt)
            have hc0 := HUC.out wr HGW.out k hlt
            obtain ⟨u, hue⟩ : ∃ u, u = us[k] := ⟨_, rfl⟩
            rw [← hue] at hdrop hub1 hc0
            have hcu : ∀ W, Off FG ws W → W.cell? ⟨gu, k, none⟩ = some (.int .u64 u) := fun W hW => by rw [hue]; exact HUC.out W (hW.block gu hgu2 HGUF.out) k hlt
            have HCU := Lib.hid hcu
            have HDR := Lib.hid hdrop; clear hdrop hue hcu
            have hi0 : (0 : Int) ≤ (k : Int) := by omega
            have hi1 : (k : Int) < (us.length : Int) := by omega
            have hw1 : IntKind.i64.wrap ((k : Int) + 1) = (k : Int) + 1 := IntWalk.i64_in _ (by omega)
            go_wp2_with fail
            refine (name_any wr u (by omega)).mono ?_
            rintro e w2 ⟨rfl, ho2⟩
            have HI2 := Lib.hid (HI.out.quiet ho2)
            have HOF2 := Lib.hid (HOF.out.trans ho2 (fun _ _ h => h.elim))
            clear ho2 hc0
            obtain ⟨R, hda, _⟩ := HI2.out.disk
            have hrd := RefW.read_any w2 r X1 R hda (Seg.nameB u)
            clear hda
            obtain ⟨t, er, hte⟩ : ∃ t er, X1.read (Seg.nameB u) = (t, er) := ⟨_, _, rfl⟩
            rw [hte] at hrd
            have hts := (HLM.out hlt).read (Seg.nameB u)
            rw [hte] at hts
            have htb : t.size ≤ 3000000000 := Nat.le_trans hts (by have := (HLM.out hlt).le; omega)
            have HRD := Lib.hid hrd; clear hrd hts
            have HTE := Lib.hid hte; clear hte
            go_wp2_with fail
            refine HRD.out.mono ?_
            rintro e w3 ⟨rfl, ho3⟩
            have HI3 := Lib.hid (HI2.out.quiet ho3)
            have HOF3 := Lib.hid (HOF2.out.trans ho3 (fun _ _ h => h.elim))
            clear ho3 HI2 HOF2 HRD
            have hone : ropenGo X1 (rows.map (·.1)) (us.drop k) = (if (ropenOne X1 u (us.drop (k + 1)).head?).2.1 ≠ 0 then ((ropenOne X1 u (us.drop (k + 1)).head?).1, (ropenOne X1 u (us.drop (k + 1)).head?).2.1, rows.map (·.1)) else ropenGo (ropenOne X1 u (us.drop (k + 1)).head?).1 (rows.map (·.1) ++ [(ropenOne X1 u (us.drop (k + 1)).head?).2.2]) (us.drop (k + 1))) := by rw [HDR.out]; rfl
            have HONE := Lib.hid hone; clear hone
            by_cases hee : er = 0
            · subst hee
              have hc3 := HCU.out w3 HOF3.out
              go_wp2_with fail
              obtain ⟨bx, hbx⟩ : ∃ bx, bx = w3.heap.size := ⟨_, rfl⟩
              obtain ⟨w4, hw4⟩ : ∃ w4, w4 = w3.alloc (.cells #[.int .u64 u, .int .i64 0, .int .i64 0, .slice none 0 0] 136) := ⟨_, rfl⟩
              have ho4 : Off None w3 w4 := by rw [hw4]; exact (Off.refl None w3).alloc _
              have hb4 : w4.heap[bx]? = some (.cells #[.int .u64 u, .int .i64 0, .int .i64 0, .slice none 0 0] 136 (0, 0)) := by rw [hw4, hbx]; exact Heap.alloc_new w3 _
              rw [← hw4, ← hbx]
              have hbxl : w3.heap.size ≤ bx := Nat.le_of_eq hbx.symm
              have hbx4 : bx < w4.heap.size := Heap.lt hb4
              have HI4 := Lib.hid (HI3.out.quiet ho4); have HO34 := Lib.hid ho4
              have HB4 := Lib.hid hb4
              clear hw4 hbx ho4 hb4 hc3
              refine (Frame.rscan_any w4 t (by omega)).mono ?_
              rintro e w5 ⟨fv, rfl, hfrow, ho5⟩
              obtain ⟨fs, hfs⟩ : ∃ fs, fs = Frame.scanL t.data.toList := ⟨_, rfl⟩
              rw [← hfs] at hfrow
              obtain ⟨szf, hszf⟩ : ∃ szf, szf = Frame.sizes (Frame.scanL t.data.toList) := ⟨_, rfl⟩
              rw [← hszf]
              obtain ⟨pf, cf, rfl⟩ := own_shape hfrow
              have HB5 := Lib.hid (ho5.at_ HB4.out (fun h => h))
              have HO35 := Lib.hid (HO34.out.trans ho5 (fun _ _ h => h))
              have HFR := Lib.hid hfrow
              clear hfrow ho5 hszf HB4 HO34 HI4
              have hfcell : ∀ j (hj : j < fs.length), ∃ gf, pf = some ⟨gf, 0, none⟩ ∧ gf ≠ bx ∧ w5.cell? ⟨gf, j * 3, none⟩ = some (.int .u64 fs[j].seq) ∧ w5.cell? ⟨gf, j * 3 + 1, none⟩ = some (.string ⟨fs[j].body.toArray⟩) ∧ w5.cell? ⟨gf, j * 3 + 2, none⟩ = some (.int .i64 fs[j].size) := by
                intro j hj
                obtain ⟨gf, c, hv, hgl, _, _, hob, hc⟩ := own_cell HFR.out (by omega)
                cases hv
                have hlow := (World.ownsRow.lt HFR.out gf hob).1
                refine ⟨gf, rfl, ?_, ?_, ?_, ?_⟩
                · omega
                · have := frame_cell fs hj (i := 0) (by omega); rw [Nat.add_zero] at this; exact (hc _ _ this).1
                · exact (hc _ _ (frame_cell fs hj (i := 1) (by omega))).1
                · exact (hc _ _ (frame_cell fs hj (i := 2) (by omega))).1
              have HFC := Lib.hid hfcell
              obtain ⟨m, hm⟩ : ∃ m, m = (fitL u fs).length := ⟨_, rfl⟩
              have hmle : m ≤ fs.length := by rw [hm]; exact (fitL_take fs u).2
              have hfsl : fs.length ≤ t.size := by rw [hfs]; exact Nat.le_trans (Frame.sizes_le t.data.toList.length t.data.toList (Nat.le_refl _)).2 (by simp)
              have hszl : ∀ j, Frame.sizes (fs.take j) ≤ t.size := fun j => Nat.le_trans (sizes_take_le fs j) (by rw [hfs]; exact Nat.le_trans (Frame.sizes_le t.data.toList.length t.data.toList (Nat.le_refl _)).1 (by simp))
              have hfin : ∀ j (hj : j < fs.length), j < m → fs[j].seq = u + j := fun j hj h => fitL_in fs u j hj (by rw [← hm]; exact h)
              have hfout : ∀ (hj : m < fs.length), fs[m].seq ≠ u + m := by rw [hm]; exact fitL_out fs u
              have HFI := Lib.hid hfin; have HFO := Lib.hid hfout; have HSZL := Lib.hid hszl
              have HFSE := Lib.hid hfs; have HM := Lib.hid hm
              clear hfs hfcell hm hfin hfout hszl HFR
              go_wp2_with fail
              go_loopw [18] (fun i wi => ∃ (j : Nat) (bv : Value), j ≤ m ∧ i = .int .i64 j ∧ wi.heap[bx]? = some (.cells #[.int .u64 u, .int .i64 j, .int .i64 (Frame.sizes (fs.take j) : Nat), bv] 136 (0, 0)) ∧ wi.ownsRow w5.heap.size 9 1 bv j (textCells ((fs.take j).map bodyText)) ∧ Off (Only bx) w5 wi) (fun i _ => m - (intOf i).toNat)
              case atStart => exact ⟨0, _, Nat.zero_le _, rfl, HB5.out, World.ownsRow_nil _ _ _ _, Off.refl _ _⟩
              case round =>
                obtain ⟨j, bv, hj, rfl, hbj, hbr, hoi⟩ := hrel
                have HBJ := Lib.hid hbj; have HBR := Lib.hid hbr; have HOI := Lib.hid hoi
                obtain ⟨y, hy⟩ : ∃ y, y = Frame.sizes (fs.take j) := ⟨_, rfl⟩
                have hyl : y ≤ t.size := by rw [hy]; exact HSZL.out j
                rw [← hy] at HBJ
                have HY := Lib.hid hy
                clear hbj hbr hoi hy
                go_upto_region 25 with fail
                go_cut [102] from 86 to 127 (fun s wx => s = .bool (decide (j < m)) ∧ Off None wr wx)
                case first =>
                  have e0 : wr.cell? ⟨bx, 0, none⟩ = some (.int .u64 u) := Heap.cell HBJ.out 0
                  have i0 : (0 : Int) ≤ (j : Int) := by omega
                  by_cases hjl : j < fs.length
                  · obtain ⟨gf, hpf, hgb, c0, _, _⟩ := HFC.out j hjl
                    subst hpf
                    have d0 := HOI.out.keep c0 hgb
                    obtain ⟨qs, hqs⟩ : ∃ qs, qs = fs[j].seq := ⟨_, rfl⟩
                    rw [← hqs] at d0
                    have i1 : (j : Int) < (fs.length : Int) := by omega
                    have i2 : decide ((j : Int) < (fs.length : Int)) = true := by rw [decide_eq_true_eq]; exact i1
                    have i3 : decide (j < fs.length) = true := by rw [decide_eq_true_eq]; exact hjl
                    have x1 : IntKind.u64.wrap ((u : Int) + (j : Int)) = (u : Int) + (j : Int) := IntWalk.u64_in _ (by omega)
                    have x2 : IntKind.u64.wrap (j : Int) = (j : Int) := IntWalk.u64_in _ (by omega)
                    have hdm : decide (j < m) = decide ((qs : Int) = (u : Int) + (j : Int)) := by
                      by_cases hjm : j < m
                      · rw [decide_eq_true hjm, decide_eq_true (by have := HFI.out j hjl hjm; omega)]
                      · have hjm2 : j = m := by omega
                        subst hjm2
                        rw [decide_eq_false hjm, decide_eq_false (by have := HFO.out hjl; omega)]
                    have HDM := Lib.hid hdm
                    clear hqs hdm c0
                    go_quiet (fail)
                    go_wp2_with fail
                    go_meet
                    refine ⟨?_, (Off.refl None wr).drewN _⟩
                    rw [HDM.out]; rfl
                  · have i1 : ¬ (j : Int) < (fs.length : Int) := by omega
                    have i2 : decide ((j : Int) < (fs.length : Int)) = false := by rw [decide_eq_false_iff_not]; exact i1
                    have i3 : decide (j < fs.length) = false := by rw [decide_eq_false_iff_not]; exact hjl
                    go_quiet (fail)
                    go_wp2_with fail
                    go_meet
                    refine ⟨?_, (Off.refl None wr).drewN _⟩
                    rw [decide_eq_false (show ¬ j < m by omega)]
                case rest =>
                  obtain ⟨rfl, hoc⟩ := hcut
                  have HBC := Lib.hid (hoc.at_ HBJ.out (fun h => h)); have HRC := Lib.hid (hoc.row HBR.out (fun _ _ h => h)); have HOC := Lib.hid (HOI.out.trans hoc (fun _ _ h => h.elim))
                  clear hoc HBJ HBR HOI
                  by_cases hjm : j < m
                  · have tb : decide (j < m) = true := decide_eq_true hjm
                    rw [tb]
                    have hjl : j < fs.length := by omega
                    obtain ⟨gf, hpf, hgb, _, c1, c2⟩ := HFC.out j hjl
                    subst hpf
                    have d1 := HOC.out.keep c1 hgb; have d2 := HOC.out.keep c2 hgb
                    obtain ⟨zs, hzs⟩ : ∃ zs, zs = fs[j].size := ⟨_, rfl⟩
                    obtain ⟨bd, hbd⟩ : ∃ bd : ByteArray, bd = ⟨fs[j].body.toArray⟩ := ⟨_, rfl⟩
                    rw [← hzs] at d2; rw [← hbd] at d1
                    have hst1 : Frame.sizes (fs.take (j + 1)) = y + zs := by rw [sizes_take_succ fs hjl, HY.out, hzs]
                    have hst2 := HSZL.out (j + 1)
                    rw [hst1] at hst2
                    have HST := Lib.hid hst1
                    have hbt : (fs.take (j + 1)).map bodyText = (fs.take j).map bodyText ++ [bd] := by rw [List.take_succ_eq_append_getElem hjl, List.map_append, hbd]; rfl
                    have HBT := Lib.hid hbt
                    clear hzs hbd hst1 hbt c1 c2
                    have e1 : wc.cell? ⟨bx, 1, none⟩ = some (.int .i64 j) := Heap.cell HBC.out 1
                    have e2 : wc.cell? ⟨bx, 2, none⟩ = some (.int .i64 y) := Heap.cell HBC.out 2
                    have e3 : wc.cell? ⟨bx, 3, none⟩ = some bv := Heap.cell HBC.out 3
                    have f1 := Heap.frozen HBC.out 1; have f2 := Heap.frozen HBC.out 2; have f3 := Heap.frozen HBC.out 3
                    have hbz : bx < wc.heap.size := Heap.lt HBC.out
                    have i0 : (0 : Int) ≤ (j : Int) := by omega
                    have i1 : (j : Int) < (fs.length : Int) := by omega
                    go_wp2_with fail
                    go_region
                    all_goals go_wp2_with fail
                    obtain ⟨w6, hw6⟩ : ∃ w6, w6 = ((wc.setCell ⟨bx, 1, none⟩ (.int .i64 ((j : Int) + 1))).setCell ⟨bx, 2, none⟩ (.int .i64 ((y : Int) + (zs : Int)))).drew := ⟨_, rfl⟩
                    have hb6 : w6.heap[bx]? = some (.cells #[.int .u64 u, .int .i64 ((j : Int) + 1), .int .i64 ((y : Int) + (zs : Int)), bv] 136 (0, 0)) := by rw [hw6]; exact (Heap.set (Heap.set HBC.out 1 _) 2 _).trans rfl
                    have hoc6 : Off (Only bx) wc w6 := by rw [hw6]; exact (((Off.refl (Only bx) wc).set 1 _).set 2 _).drew
                    have hbne : ∀ g, bv.ownBlock = some g → g ≠ bx := fun g hg e => by have h1 := (World.ownsRow.lt HRC.out g hg).1; have h2 := Heap.lt HB5.out; omega
                    have hr6 := hoc6.row HRC.out (fun g hg => hbne g hg)
                    have d16 : w6.cell? ⟨gf, j * 3 + 1, none⟩ = some (.string bd) := hoc6.keep d1 hgb
                    rw [← hw6]
                    have HR6 := Lib.hid hr6; have HB6 := Lib.hid hb6; have HO6 := Lib.hid (HOC.out.trans hoc6 (fun _ _ h => h)); have HBN := Lib.hid hbne
                    have hsz6 := HO6.out.size
                    have hj6 : j ≤ 1099511627776 := by omega
                    clear hw6 hb6 hoc6 hr6 e1 e2 e3 f1 f2 f3 d1 d2 HBC HRC HOC hbne
                    have e3 : w6.cell? ⟨bx, 3, none⟩ = some bv := Heap.cell HB6.out 3
                    have qa : (w6.alloc (.cells #[.string bd] 9)).cell? ⟨bx, 3, none⟩ = some bv := Heap.cell (Heap.alloc_old HB6.out _) 3
                    go_region_law ((refine step_push (W := w6.drew) (by rfl) _ _ (by rfl) elemText w5.heap.size bv j (textCells ((fs.take j).map bodyText)) (by rfl) HR6.out #[.string bd] (by rfl) rfl (by intro y hy; simp at hy; rcases hy with rfl; rfl) hj6 hsz6 ?_; intro g cap w9 hrow9 hp9; have c9 : w9.cell? ⟨bx, 3, none⟩ = some bv := Heap.cell (hp9.keep _ _ HB6.out (fun e => HBN.out _ e rfl)) 3; have f9 : w9.frozen? ⟨bx, 3, none⟩ = false := Heap.frozen (hp9.keep _ _ HB6.out (fun e => HBN.out _ e rfl)) 3))
                    all_goals go_wp2_with fail
                    all_goals
                      refine ⟨⟨j + 1, .slice (some ⟨g, 0, none⟩) (j + 1) cap, hjm, by push_cast; rfl, ?_, ?_, ?_⟩, dec_step hjm⟩
                      · rw [Heap.set (hp9.keep _ _ HB6.out (fun e => HBN.out _ e rfl)) 3 _, HST.out]
                        push_cast
                        rfl
                      · rw [HBT.out, ← textCells_add]
                        exact ((Off.refl (Only bx) w9).set 3 _).row hrow9 (fun g2 hg2 e => by
                          cases hg2
                          have e : g = bx := e
                          rcases hp9.from_ with h1 | h1
                          · exact HBN.out g h1 e
                          · have h1 : w6.heap.size < g := h1
                            have := Heap.lt HB6.out; omega)
                      · refine ((HO6.out.drew).trans hp9.off (fun b hb h => ?_)).set 3 _
                        have := (World.ownsRow.lt HR6.out b h).1; omega
                  · have hjm2 : j = m := by omega
                    have tb : decide (j < m) = false := decide_eq_false hjm
                    rw [tb]
                    subst hjm2
                    have ho3c : Off None w3 wc := HO35.out.trans HOC.out (fun b hb e => by have e : b = bx := e; omega)
                    have hoc := HOF3.out.trans ho3c (fun _ _ h => h.elim)
                    obtain ⟨pb, cb, rfl⟩ := own_shape HRC.out
                    obtain ⟨xb, hxb⟩ : ∃ xb, xb = (fs.take j).map bodyText := ⟨_, rfl⟩
                    have hxl : j = xb.length := by rw [hxb, List.length_map, List.length_take]; omega
                    have hrc := HRC.out
                    rw [← hxb] at hrc
                    obtain ⟨l1, l2, -, l4⟩ := row_lies hrc
                    have hA2 : ∀ b, (Value.slice pb j cb).ownBlock = some b → ¬ Fr b ∧ b ≠ lg ∧ lv.ownBlock ≠ some b ∧ b < wc.heap.size ∧ FG b := by
                      intro b hb
                      have h1 := World.ownsRow.lt hrc b hb
                      have h3 := HO35.out.size
                      have h4 := HI3.out.qlt
                      refine ⟨fun h => by have := (HI3.out.inR b h).2; omega, by omega, fun e => by have := HI3.out.llt e; omega, h1.2, HNEW.out b (by have := HOF3.out.size; omega)⟩
                    have hic := (HI3.out.quiet ho3c).moreA hA2
                    have hlc : Lies (fun b => A b ∨ (Value.slice pb j cb).ownBlock = some b) wc pb xb := l4.more (fun _ _ h => .inr h)
                    have hbl : bx ≠ lg := by have := HI3.out.qlt; omega
                    have hbL : lv.ownBlock ≠ some bx := fun e => by have := HI3.out.llt e; omega
                    have hbF : ¬ Fr bx := fun e => by have := (HI3.out.inR bx e).2; omega
                    have hscan : rscanSeg u t.data.toList = ⟨u, y, xb⟩ := by
                      unfold rscanSeg
                      rw [← HFSE.out, (fitL_take fs u).1, ← HM.out, ← HY.out, hxb]
                      rfl
                    have hce : rsegCells ((⟨u, y, xb⟩ : RSeg), Value.slice pb j cb) = [.int .u64 u, .int .i64 j, .int .i64 y, .slice pb j cb] := by rw [hxl]; rfl
                    have HCE := Lib.hid hce; clear hce
                    have HIC := Lib.hid hic; have HLC := Lib.hid hlc; have HBL := Lib.hid hbL; have HBF := Lib.hid hbF; have HSC := Lib.hid hscan; have HOFC := Lib.hid hoc; have HXL := Lib.hid hxl; have HCB := Lib.hid (And.intro l1 l2)
                    clear hic hlc hbL hbF hscan hoc ho3c hxl hrc l1 l2 l4 hA2 hxb HRC HOC HO35 HI3 HOF3 HFI HFO HSZL HFSE HM HY HFC tb
                    go_wp2_with fail
                    have hjt : j ≤ t.size := by omega
                    have hw2 : IntKind.u64.wrap (j : Int) = (j : Int) := IntWalk.u64_in _ (by omega)
                    have hw3 : IntKind.u64.wrap ((u : Int) + (j : Int)) = (u : Int) + (j : Int) := IntWalk.u64_in _ (by omega)
                    have b0 : wc.cell? ⟨bx, 0, none⟩ = some (.int .u64 u) := Heap.cell HBC.out 0
                    have b1 : wc.cell? ⟨bx, 1, none⟩ = some (.int .i64 j) := Heap.cell HBC.out 1
                    have b2 : wc.cell? ⟨bx, 2, none⟩ = some (.int .i64 y) := Heap.cell HBC.out 2
                    by_cases hnl : k + 1 < us.length
                    · have hhd : (us.drop (k + 1)).head? = some (us[k + 1]'hnl) := by rw [List.head?_drop, List.getElem?_eq_getElem hnl]
                      have hcv := HUC.out wc (HOFC.out.block gu hgu2 HGUF.out) (k + 1) hnl
                      obtain ⟨v, hve⟩ : ∃ v, v = us[k + 1]'hnl := ⟨_, rfl⟩
                      rw [← hve] at hhd hcv
                      have HHD := Lib.hid hhd
                      clear hve hhd
                      have x1 : ((k : Int) + 1 == (us.length : Int)) = false := by rw [beq_eq_false_iff_ne]; omega
                      have x1n : (k + 1 == us.length) = false := by rw [beq_eq_false_iff_ne]; omega
                      have x4 : (0 : Int) ≤ (k : Int) + 1 := by omega
                      have x5 : ((k : Int) + 1).toNat = k + 1 := by omega
                      have x6 : (k : Int) + 1 < (us.length : Int) := by omega
                      by_cases hy1 : y = t.size
                      · have y1 : ((y : Int) != (t.size : Int)) = false := by rw [bne_eq_false_iff_eq]; omega
                        by_cases hE : u + j = v
                        · have y2 : ((u : Int) + (j : Int) != (v : Int)) = false := by rw [bne_eq_false_iff_eq]; omega
                          have hrs : res = ropenGo X1 (rows.map (·.1) ++ [⟨u, y, xb⟩]) (us.drop (k + 1)) := by
                            have hon : ropenOne X1 u (us.drop (k + 1)).head? = (X1, 0, ⟨u, y, xb⟩) := by
                              unfold ropenOne
                              rw [HTE.out, HHD.out]
                              dsimp only
                              rw [if_neg (fun hn => hn rfl), HSC.out, if_neg]
                              exact fun h => h.elim (fun h => h hy1) (fun h => h (by unfold RSeg.end_; dsimp only; rw [← HXL.out]; exact hE))
                            rw [HR1.out, HONE.out, hon]
                            exact if_neg (fun hn => hn rfl)
                          have HRS := Lib.hid hrs; clear hrs
                          have HY1 := Lib.hid hy1; have HEE := Lib.hid hE
                          clear hy1 hE
                          go_quiet (fail)
                          obtain ⟨w7, hw7⟩ : ∃ w7, w7 = wc.drewN nq := ⟨_, rfl⟩
                          have ho7 : Off None wc w7 := by rw [hw7]; exact (Off.refl None wc).drewN _
                          rw [← hw7]
                          have HIW := Lib.hid (HIC.out.quiet ho7); have HBW := Lib.hid (ho7.at_ HBC.out (fun h => h)); have HLW := Lib.hid (HLC.out.off ho7 (fun _ _ h => h)); have HOFW := Lib.hid (HOFC.out.trans ho7 (fun _ _ h => h.elim))
                          clear hw7 ho7 hcv b0 b1 b2 x4 x5 x6 HIC HBC HLC HOFC
                          have q1 : w7.cell? ⟨lg, 1, none⟩ = some lv := Heap.cell HIW.out.pre.core 1
                          have b0 : w7.cell? ⟨bx, 0, none⟩ = some (.int .u64 u) := Heap.cell HBW.out 0
                          have b1 : w7.cell? ⟨bx, 1, none⟩ = some (.int .i64 j) := Heap.cell HBW.out 1
                          have b2 : w7.cell? ⟨bx, 2, none⟩ = some (.int .i64 y) := Heap.cell HBW.out 2
                          have b3 : w7.cell? ⟨bx, 3, none⟩ = some (.slice pb j cb) := Heap.cell HBW.out 3
                          have qa : (w7.alloc (.cells #[.int .u64 u, .int .i64 j, .int .i64 y, .slice pb j cb] 136)).cell? ⟨lg, 1, none⟩ = some lv := Heap.cell (Heap.alloc_old HIW.out.pre.core _) 1
                          have HRW := Lib.hid HIW.out.pre.row
                          have hlz2 : lg < w7.heap.size := Heap.lt HIW.out.pre.core
                          have hrl : rows.length ≤ 1000000 := by have := HAL.out; omega
                          go_wp2_with fail
                          go_region_law ((refine step_push_sub (W := w7.drew) (by rfl) _ _ (by rfl) elemRSeg lv rows.length (rows.flatMap rsegCells) (by rfl) HRW.out #[.int .u64 u, .int .i64 j, .int .i64 y, .slice pb j cb] (by rfl) rfl (by intro v hv; simp at hv; rcases hv with rfl | rfl | rfl | rfl <;> rfl) (by omega) ?_; intro g oo cap w9 hrow9 hp9; have c9 : w9.cell? ⟨lg, 1, none⟩ = some lv := Heap.cell (hp9.keep _ _ HIW.out.pre.core HIW.out.pre.ne) 1; have f9 : w9.frozen? ⟨lg, 1, none⟩ = false := Heap.frozen (hp9.keep _ _ HIW.out.pre.core HIW.out.pre.ne) 1))
                          all_goals
                            obtain ⟨h9, ho9⟩ := HIW.out.pushed (x := (⟨u, y, xb⟩, .slice pb j cb)) ⟨pb, cb, by rw [← HXL.out], HCB.out.1, HCB.out.2, HLW.out⟩ (by rw [HCE.out]; exact hrow9) hp9
                            have hb9 := hp9.keep _ _ HBW.out HBL.out
                            have hb10 : (w9.setCell ⟨lg, 1, none⟩ (.slice (some ⟨g, oo, none⟩) (rows.length + 1) cap)).heap[bx]? = some (.cells #[.int .u64 u, .int .i64 j, .int .i64 y, .slice pb j cb] 136 (0, 0)) := (Heap.set_far hbl _).trans hb9
                            obtain ⟨w10, hw10⟩ : ∃ w10, w10 = w9.setCell ⟨lg, 1, none⟩ (.slice (some ⟨g, oo, none⟩) (rows.length + 1) cap) := ⟨_, rfl⟩
                            rw [← hw10] at h9 ho9 hb10 ⊢
                            have h10 := h9.mono (G := FG) (fun b hb h => by
                              rcases h with h | h
                              · exact h
                              · exact HNEW.out b (by have := HOFW.out.size; omega))
                            have HI9 := Lib.hid h10; have HO9 := Lib.hid (HOFW.out.trans ho9 (fun _ _ h => h))
                            clear hw10 h9 h10 ho9 hb9 hrow9 hp9 c9 f9 q1 b0 b1 b2 b3 qa
                            have b1 : w10.cell? ⟨bx, 1, none⟩ = some (.int .i64 j) := Heap.cell hb10 1
                            have q2 : w10.cell? ⟨lg, 2, none⟩ = some (.int .i64 synced) := Heap.cell HI9.out.pre.core 2
                            have f2 : w10.frozen? ⟨lg, 2, none⟩ = false := Heap.frozen HI9.out.pre.core 2
                            have hlz3 : lg < w10.heap.size := Heap.lt HI9.out.pre.core
                            clear hb10
                            go_wp2_with fail
                            have hofn : Off FG ws (w10.setCell ⟨lg, 2, none⟩ (.int .i64 j)) := HO9.out.setCell (p := ⟨lg, 2, none⟩) (.inl HI9.out.inQ) _
                            case roundEnd => exact ⟨⟨k + 1, j, X1, rows ++ [(⟨u, y, xb⟩, .slice pb j cb)], _, _, _, hlt, by push_cast; rfl, HI9.out.setSynced j, hofn.block gu hgu2 HGUF.out, hofn, by rw [List.length_append, HAL.out]; rfl, by rw [List.map_append]; exact HRS.out, fun _ => HLM.out hlt, fun _ => ⟨rows.map (·.1), ⟨u, y, xb⟩, by rw [List.map_append]; rfl, HXL.out⟩⟩, by simp [intOf]; omega⟩
                        · have y2 : ((u : Int) + (j : Int) != (v : Int)) = true := by rw [bne_iff_ne]; omega
                          have hrs : res = (X1, 2, rows.map (·.1)) := by
                            have hon : ropenOne X1 u (us.drop (k + 1)).head? = (X1, 2, ⟨u, y, xb⟩) := by
                              unfold ropenOne
                              rw [HTE.out, HHD.out]
                              dsimp only
                              rw [if_neg (fun hn => hn rfl), HSC.out, if_pos]
                              exact .inr (fun h => hE (by unfold RSeg.end_ at h; dsimp only at h; rw [← HXL.out] at h; exact h))
                            rw [HR1.out, HONE.out, hon]
                            exact if_pos (show (2 : Int) ≠ 0 by decide)
                          have HRS := Lib.hid hrs; clear hrs
                          clear hy1 hE
                          go_quiet (fail)
                          obtain ⟨w7, hw7⟩ : ∃ w7, w7 = wc.drewN nq := ⟨_, rfl⟩
                          have ho7 : Off None wc w7 := by rw [hw7]; exact (Off.refl None wc).drewN _
                          rw [← hw7]
                          have HIW := Lib.hid (HIC.out.quiet ho7); have HOFW := Lib.hid (HOFC.out.trans ho7 (fun _ _ h => h.elim))
                          clear hw7 ho7 hcv b0 b1 b2 x4 x5 x6 HIC HBC HLC HOFC
                          go_wp2_with fail
                          go_ret2
                          exact rpost_err HIW.out.disk (HOFF1.out.trans HOFW.out (fun b hb h => HLOW.out b hb h)) (fun b hb x => HHIGH.out _ b hb (HIW.out.inR b x).1) HRS.out (by decide)
                      · have y1 : ((y : Int) != (t.size : Int)) = true := by rw [bne_iff_ne]; omega
                        have hrs : res = (X1, 2, rows.map (·.1)) := by
                          have hon : ropenOne X1 u (us.drop (k + 1)).head? = (X1, 2, ⟨u, y, xb⟩) := by
                            unfold ropenOne
                            rw [HTE.out, HHD.out]
                            dsimp only
                            rw [if_neg (fun hn => hn rfl), HSC.out, if_pos (.inl hy1)]
                          rw [HR1.out, HONE.out, hon]
                          exact if_pos (show (2 : Int) ≠ 0 by decide)
                        have HRS := Lib.hid hrs; clear hrs
                        clear hy1
                        go_quiet (fail)
                        obtain ⟨w7, hw7⟩ : ∃ w7, w7 = wc.drewN nq := ⟨_, rfl⟩
                        have ho7 : Off None wc w7 := by rw [hw7]; exact (Off.refl None wc).drewN _
                        rw [← hw7]
                        have HIW := Lib.hid (HIC.out.quiet ho7); have HOFW := Lib.hid (HOFC.out.trans ho7 (fun _ _ h => h.elim))
                        clear hw7 ho7 hcv b0 b1 b2 x4 x5 x6 HIC HBC HLC HOFC
                        go_wp2_with fail
                        go_ret2
                        exact rpost_err HIW.out.disk (HOFF1.out.trans HOFW.out (fun b hb h => HLOW.out b hb h)) (fun b hb x => HHIGH.out _ b hb (HIW.out.inR b x).1) HRS.out (by decide)
                    · have hhd : (us.drop (k + 1)).head? = none := by rw [List.head?_drop, List.getElem?_eq_none (by omega)]
                      have HHD := Lib.hid hhd; clear hhd
                      have x1 : ((k : Int) + 1 == (us.length : Int)) = true := by rw [beq_iff_eq]; omega
                      have x1n : (k + 1 == us.length) = true := by rw [beq_iff_eq]; omega
                      go_quiet (fail)
                      obtain ⟨w7, hw7⟩ : ∃ w7, w7 = wc.drewN nq := ⟨_, rfl⟩
                      have ho7 : Off None wc w7 := by rw [hw7]; exact (Off.refl None wc).drewN _
                      rw [← hw7]
                      have HI7 := Lib.hid (HIC.out.quiet ho7); have HB7 := Lib.hid (ho7.at_ HBC.out (fun h => h)); have HL7 := Lib.hid (HLC.out.off ho7 (fun _ _ h => h)); have HOF7 := Lib.hid (HOFC.out.trans ho7 (fun _ _ h => h.elim))
                      clear hw7 ho7 b0 b1 b2 HIC HBC HLC HOFC
                      have b2 : w7.cell? ⟨bx, 2, none⟩ = some (.int .i64 y) := Heap.cell HB7.out 2
                      have hcu7 := HCU.out w7 HOF7.out
                      by_cases hy1 : y = t.size
                      · have y1 : ((y : Int) != (t.size : Int)) = false := by rw [bne_eq_false_iff_eq]; omega
                        have y1n : (y != t.size) = false := by rw [bne_eq_false_iff_eq]; exact hy1
                        obtain ⟨X2, e2, hsy⟩ : ∃ X2 e2, X1.sync (Seg.nameB u) = (X2, e2) := ⟨_, _, rfl⟩
                        have hon : ropenOne X1 u (us.drop (k + 1)).head? = (X2, e2, ⟨u, y, xb⟩) := by
                          unfold ropenOne
                          rw [HTE.out, HHD.out]
                          dsimp only
                          rw [if_neg (fun hn => hn rfl), HSC.out, if_neg (fun h => h hy1), hsy]
                        have HON := Lib.hid hon; have HSY := Lib.hid hsy
                        clear hon hsy hy1
                        go_wp2_with fail
                        refine (name_any w7 u (by omega)).mono ?_
                        rintro e wn ⟨rfl, hon1⟩
                        have HIn := Lib.hid (HI7.out.quiet hon1); have HBn := Lib.hid (hon1.at_ HB7.out (fun h => h)); have HLn := Lib.hid (HL7.out.off hon1 (fun _ _ h => h)); have HOFn := Lib.hid (HOF7.out.trans hon1 (fun _ _ h => h.elim))
                        clear hon1 HI7 HB7 HL7 HOF7 b2 hcu7
                        have hsyc := RefW.sync_any wn r X1 _ HIn.out.disk (Seg.nameB u)
                        rw [HSY.out] at hsyc
                        have HSYC := Lib.hid hsyc; clear hsyc
                        go_wp2_with fail
                        refine HSYC.out.mono ?_
                        rintro e ws2 ⟨rfl, hds, hos⟩
                        have his := (HIn.out.turned hds hos).mono (G := FG) (fun b _ h => HGROW.out wn ws2 HOFn.out.size b h)
                        have HIW := Lib.hid his; have HBW := Lib.hid (hos.at_ HBn.out HBF.out); have HLW := Lib.hid (HLn.out.off hos (fun b hb => (HIn.out.sepA b hb).1)); have HOFW := Lib.hid (HOFn.out.trans (HIn.out.off_disk hos) (fun _ _ h => h))
                        clear his hds hos HIn HBn HLn HOFn HSYC
                        by_cases he2 : e2 = 0
                        · subst he2
                          have hrs : res = ropenGo X2 (rows.map (·.1) ++ [⟨u, y, xb⟩]) (us.drop (k + 1)) := by
                            rw [HR1.out, HONE.out, HON.out]
                            exact if_neg (fun hn => hn rfl)
                          have HRS := Lib.hid hrs; clear hrs
                          have q1 : ws2.cell? ⟨lg, 1, none⟩ = some lv := Heap.cell HIW.out.pre.core 1
                          have b0 : ws2.cell? ⟨bx, 0, none⟩ = some (.int .u64 u) := Heap.cell HBW.out 0
                          have b1 : ws2.cell? ⟨bx, 1, none⟩ = some (.int .i64 j) := Heap.cell HBW.out 1
                          have b2 : ws2.cell? ⟨bx, 2, none⟩ = some (.int .i64 y) := Heap.cell HBW.out 2
                          have b3 : ws2.cell? ⟨bx, 3, none⟩ = some (.slice pb j cb) := Heap.cell HBW.out 3
                          have qa : (ws2.alloc (.cells #[.int .u64 u, .int .i64 j, .int .i64 y, .slice pb j cb] 136)).cell? ⟨lg, 1, none⟩ = some lv := Heap.cell (Heap.alloc_old HIW.out.pre.core _) 1
                          have HRW := Lib.hid HIW.out.pre.row
                          have hlz2 : lg < ws2.heap.size := Heap.lt HIW.out.pre.core
                          have hrl : rows.length ≤ 1000000 := by have := HAL.out; omega
                          go_wp2_with fail
                          go_region_law ((refine step_push_sub (W := ws2.drew) (by rfl) _ _ (by rfl) elemRSeg lv rows.length (rows.flatMap rsegCells) (by rfl) HRW.out #[.int .u64 u, .int .i64 j, .int .i64 y, .slice pb j cb] (by rfl) rfl (by intro v hv; simp at hv; rcases hv with rfl | rfl | rfl | rfl <;> rfl) (by omega) ?_; intro g oo cap w9 hrow9 hp9; have c9 : w9.cell? ⟨lg, 1, none⟩ = some lv := Heap.cell (hp9.keep _ _ HIW.out.pre.core HIW.out.pre.ne) 1; have f9 : w9.frozen? ⟨lg, 1, none⟩ = false := Heap.frozen (hp9.keep _ _ HIW.out.pre.core HIW.out.pre.ne) 1))
                          all_goals
                            obtain ⟨h9, ho9⟩ := HIW.out.pushed (x := (⟨u, y, xb⟩, .slice pb j cb)) ⟨pb, cb, by rw [← HXL.out], HCB.out.1, HCB.out.2, HLW.out⟩ (by rw [HCE.out]; exact hrow9) hp9
                            have hb9 := hp9.keep _ _ HBW.out HBL.out
                            have hb10 : (w9.setCell ⟨lg, 1, none⟩ (.slice (some ⟨g, oo, none⟩) (rows.length + 1) cap)).heap[bx]? = some (.cells #[.int .u64 u, .int .i64 j, .int .i64 y, .slice pb j cb] 136 (0, 0)) := (Heap.set_far hbl _).trans hb9
                            obtain ⟨w10, hw10⟩ : ∃ w10, w10 = w9.setCell ⟨lg, 1, none⟩ (.slice (some ⟨g, oo, none⟩) (rows.length + 1) cap) := ⟨_, rfl⟩
                            rw [← hw10] at h9 ho9 hb10 ⊢
                            have h10 := h9.mono (G := FG) (fun b hb h => by
                              rcases h with h | h
                              · exact h
                              · exact HNEW.out b (by have := HOFW.out.size; omega))
                            have HI9 := Lib.hid h10; have HO9 := Lib.hid (HOFW.out.trans ho9 (fun _ _ h => h))
                            clear hw10 h9 h10 ho9 hb9 hrow9 hp9 c9 f9 q1 b0 b1 b2 b3 qa
                            have b1 : w10.cell? ⟨bx, 1, none⟩ = some (.int .i64 j) := Heap.cell hb10 1
                            have q2 : w10.cell? ⟨lg, 2, none⟩ = some (.int .i64 synced) := Heap.cell HI9.out.pre.core 2
                            have f2 : w10.frozen? ⟨lg, 2, none⟩ = false := Heap.frozen HI9.out.pre.core 2
                            have hlz3 : lg < w10.heap.size := Heap.lt HI9.out.pre.core
                            clear hb10
                            go_wp2_with fail
                            have hofn : Off FG ws (w10.setCell ⟨lg, 2, none⟩ (.int .i64 j)) := HO9.out.setCell (p := ⟨lg, 2, none⟩) (.inl HI9.out.inQ) _
                            case roundEnd => exact ⟨⟨k + 1, j, X2, rows ++ [(⟨u, y, xb⟩, .slice pb j cb)], _, _, _, hlt, by push_cast; rfl, HI9.out.setSynced j, hofn.block gu hgu2 HGUF.out, hofn, by rw [List.length_append, HAL.out]; rfl, by rw [List.map_append]; exact HRS.out, fun h => absurd h (by omega), fun _ => ⟨rows.map (·.1), ⟨u, y, xb⟩, by rw [List.map_append]; rfl, HXL.out⟩⟩, by simp [intOf]; omega⟩
                        · have hrs : res = (X2, e2, rows.map (·.1)) := by
                            rw [HR1.out, HONE.out, HON.out]
                            exact if_pos he2
                          have HRS := Lib.hid hrs; clear hrs
                          have z1 : (e2 != 0) = true := by rw [bne_iff_ne]; exact he2
                          go_wp2_with fail
                          go_ret2
                          exact rpost_err HIW.out.disk (HOFF1.out.trans HOFW.out (fun b hb h => HLOW.out b hb h)) (fun b hb x => HHIGH.out _ b hb (HIW.out.inR b x).1) HRS.out he2
                      · have y1 : ((y : Int) != (t.size : Int)) = true := by rw [bne_iff_ne]; omega
                        have y1n : (y != t.size) = true := by rw [bne_iff_ne]; exact hy1
                        have hnm := fun (W : World) => name_any W u (by omega)
                        have HNMC := Lib.hid hnm; clear hnm
                        have hlm := HLM.out hlt
                        have hcut := fun (W : World) (hW : Off None w7 W) => RefW.cut_any W r X1 Fr (HI7.out.quiet hW).disk (Seg.nameB u) y hlm.rows_max
                        obtain ⟨X3, e3, hde⟩ : ∃ X3 e3, X1.cut (Seg.nameB u) y = (X3, e3) := ⟨_, _, rfl⟩
                        rw [hde] at hcut
                        have HCUT := Lib.hid hcut; clear hcut
                        have hgr : ¬ Fr gu := fun h => HGUF.out (HI7.out.inR gu h).1
                        have HGR := Lib.hid hgr
                        have HDE := Lib.hid hde; clear hde hlm hgr
                        have HY1 := Lib.hid hy1; clear hy1
                        go_wp2_with fail
                        go_region_held3 (fun W => W.cell? ⟨bx, 2, none⟩ = some (.int .i64 y) ∧ W.cell? ⟨gu, k, none⟩ = some (.int .u64 u))
                          (first | exact ⟨b2, hcu7⟩ | exact ⟨cz7, cy7⟩ | exact ⟨cz8, cy8⟩)
                          (first
                            | (go_at_call 112; refine (HNMC.out _).mono ?_; rintro e wa ⟨rfl, hoa⟩; have cz7 : wa.cell? ⟨bx, 2, none⟩ = some (.int .i64 y) := hoa.keep b2 (fun h => h); have cy7 : wa.cell? ⟨gu, k, none⟩ = some (.int .u64 u) := hoa.keep hcu7 (fun h => h))
                            | (go_at_call 114; refine (HCUT.out wa (((Off.refl None w7).drew).trans hoa (fun _ _ h => h))).mono ?_; rintro e w8 ⟨rfl, hd8, ho8⟩; have cz8 : w8.cell? ⟨bx, 2, none⟩ = some (.int .i64 y) := ho8.keep cz7 HBF.out; have cy8 : w8.cell? ⟨gu, k, none⟩ = some (.int .u64 u) := ho8.keep cy7 HGR.out))
                        have ho7a : Off None w7 wa := ((Off.refl None w7).drew).trans hoa (fun _ _ h => h)
                        have hsa : ws.heap.size ≤ wa.heap.size := Nat.le_trans HOF7.out.size ho7a.size
                        have hi8 := ((HI7.out.quiet ho7a).turned hd8 ho8).mono (G := FG) (fun b _ h => HGROW.out wa w8 hsa b h)
                        have hbf8 : ¬ Grow Fr wa w8 bx := fun h => h.elim HBF.out (fun h => by have := Heap.lt HB7.out; have := ho7a.size; omega)
                        have HI8 := Lib.hid hi8; have HB8 := Lib.hid (ho8.at_ (ho7a.at_ HB7.out (fun h => h)) HBF.out); have HL8 := Lib.hid ((HL7.out.off ho7a (fun _ _ h => h)).off ho8 (fun b hb => (HI7.out.sepA b hb).1)); have HOF8 := Lib.hid ((HOF7.out.trans ho7a (fun _ _ h => h.elim)).trans ((HI7.out.quiet ho7a).off_disk ho8) (fun _ _ h => h)); have HBF8 := Lib.hid hbf8
                        have hcu8 := HCU.out w8 HOF8.out
                        clear hi8 hbf8 hd8 ho8 ho7a hoa hsa cz7 cz8 cy7 cy8 b2 hcu7 HI7 HB7 HL7 HOF7 HNMC HCUT
                        by_cases he3 : e3 = 0
                        · subst he3
                          obtain ⟨X2, e2, hsy⟩ : ∃ X2 e2, X3.sync (Seg.nameB u) = (X2, e2) := ⟨_, _, rfl⟩
                          have hon : ropenOne X1 u (us.drop (k + 1)).head? = (X2, e2, ⟨u, y, xb⟩) := by
                            unfold ropenOne
                            rw [HTE.out, HHD.out]
                            dsimp only
                            rw [if_neg (fun hn => hn rfl), HSC.out]
                            dsimp only
                            rw [if_pos HY1.out, HDE.out, if_neg (fun hn => hn rfl), hsy]
                          have HON := Lib.hid hon; have HSY := Lib.hid hsy
                          clear hon hsy
                          go_wp2_with fail
                          refine (name_any w8 u (by omega)).mono ?_
                          rintro e wn ⟨rfl, hon1⟩
                          have HIn := Lib.hid (HI8.out.quiet hon1); have HBn := Lib.hid (hon1.at_ HB8.out (fun h => h)); have HLn := Lib.hid (HL8.out.off hon1 (fun _ _ h => h)); have HOFn := Lib.hid (HOF8.out.trans hon1 (fun _ _ h => h.elim))
                          clear hon1 HI8 HB8 HL8 HOF8 hcu8
                          have hsyc := RefW.sync_any wn r X3 _ HIn.out.disk (Seg.nameB u)
                          rw [HSY.out] at hsyc
                          have HSYC := Lib.hid hsyc; clear hsyc
                          go_wp2_with fail
                          refine HSYC.out.mono ?_
                          rintro e ws2 ⟨rfl, hds, hos⟩
                          have his := (HIn.out.turned hds hos).mono (G := FG) (fun b _ h => HGROW.out wn ws2 HOFn.out.size b h)
                          have HIW := Lib.hid his; have HBW := Lib.hid (hos.at_ HBn.out HBF8.out); have HLW := Lib.hid (HLn.out.off hos (fun b hb => (HIn.out.sepA b hb).1)); have HOFW := Lib.hid (HOFn.out.trans (HIn.out.off_disk hos) (fun _ _ h => h))
                          clear his hds hos HIn HBn HLn HOFn HSYC
                          by_cases he2 : e2 = 0
                          · subst he2
                            have hrs : res = ropenGo X2 (rows.map (·.1) ++ [⟨u, y, xb⟩]) (us.drop (k + 1)) := by
                              rw [HR1.out, HONE.out, HON.out]
                              exact if_neg (fun hn => hn rfl)
                            have HRS := Lib.hid hrs; clear hrs
                            have q1 : ws2.cell? ⟨lg, 1, none⟩ = some lv := Heap.cell HIW.out.pre.core 1
                            have b0 : ws2.cell? ⟨bx, 0, none⟩ = some (.int .u64 u) := Heap.cell HBW.out 0
                            have b1 : ws2.cell? ⟨bx, 1, none⟩ = some (.int .i64 j) := Heap.cell HBW.out 1
                            have b2 : ws2.cell? ⟨bx, 2, none⟩ = some (.int .i64 y) := Heap.cell HBW.out 2
                            have b3 : ws2.cell? ⟨bx, 3, none⟩ = some (.slice pb j cb) := Heap.cell HBW.out 3
                            have qa : (ws2.alloc (.cells #[.int .u64 u, .int .i64 j, .int .i64 y, .slice pb j cb] 136)).cell? ⟨lg, 1, none⟩ = some lv := Heap.cell (Heap.alloc_old HIW.out.pre.core _) 1
                            have HRW := Lib.hid HIW.out.pre.row
                            have hlz2 : lg < ws2.heap.size := Heap.lt HIW.out.pre.core
                            have hrl : rows.length ≤ 1000000 := by have := HAL.out; omega
                            go_wp2_with fail
                            go_region_law ((refine step_push_sub (W := ws2.drew) (by rfl) _ _ (by rfl) elemRSeg lv rows.length (rows.flatMap rsegCells) (by rfl) HRW.out #[.int .u64 u, .int .i64 j, .int .i64 y, .slice pb j cb] (by rfl) rfl (by intro v hv; simp at hv; rcases hv with rfl | rfl | rfl | rfl <;> rfl) (by omega) ?_; intro g oo cap w9 hrow9 hp9; have c9 : w9.cell? ⟨lg, 1, none⟩ = some lv := Heap.cell (hp9.keep _ _ HIW.out.pre.core HIW.out.pre.ne) 1; have f9 : w9.frozen? ⟨lg, 1, none⟩ = false := Heap.frozen (hp9.keep _ _ HIW.out.pre.core HIW.out.pre.ne) 1))
                            all_goals
                              obtain ⟨h9, ho9⟩ := HIW.out.pushed (x := (⟨u, y, xb⟩, .slice pb j cb)) ⟨pb, cb, by rw [← HXL.out], HCB.out.1, HCB.out.2, HLW.out⟩ (by rw [HCE.out]; exact hrow9) hp9
                              have hb9 := hp9.keep _ _ HBW.out HBL.out
                              have hb10 : (w9.setCell ⟨lg, 1, none⟩ (.slice (some ⟨g, oo, none⟩) (rows.length + 1) cap)).heap[bx]? = some (.cells #[.int .u64 u, .int .i64 j, .int .i64 y, .slice pb j cb] 136 (0, 0)) := (Heap.set_far hbl _).trans hb9
                              obtain ⟨w10, hw10⟩ : ∃ w10, w10 = w9.setCell ⟨lg, 1, none⟩ (.slice (some ⟨g, oo, none⟩) (rows.length + 1) cap) := ⟨_, rfl⟩
                              rw [← hw10] at h9 ho9 hb10 ⊢
                              have h10 := h9.mono (G := FG) (fun b hb h => by
                                rcases h with h | h
                                · exact h
                                · exact HNEW.out b (by have := HOFW.out.size; omega))
                              have HI9 := Lib.hid h10; have HO9 := Lib.hid (HOFW.out.trans ho9 (fun _ _ h => h))
                              clear hw10 h9 h10 ho9 hb9 hrow9 hp9 c9 f9 q1 b0 b1 b2 b3 qa
                              have b1 : w10.cell? ⟨bx, 1, none⟩ = some (.int .i64 j) := Heap.cell hb10 1
                              have q2 : w10.cell? ⟨lg, 2, none⟩ = some (.int .i64 synced) := Heap.cell HI9.out.pre.core 2
                              have f2 : w10.frozen? ⟨lg, 2, none⟩ = false := Heap.frozen HI9.out.pre.core 2
                              have hlz3 : lg < w10.heap.size := Heap.lt HI9.out.pre.core
                              clear hb10
                              go_wp2_with fail
                              have hofn : Off FG ws (w10.setCell ⟨lg, 2, none⟩ (.int .i64 j)) := HO9.out.setCell (p := ⟨lg, 2, none⟩) (.inl HI9.out.inQ) _
                              case roundEnd => exact ⟨⟨k + 1, j, X2, rows ++ [(⟨u, y, xb⟩, .slice pb j cb)], _, _, _, hlt, by push_cast; rfl, HI9.out.setSynced j, hofn.block gu hgu2 HGUF.out, hofn, by rw [List.length_append, HAL.out]; rfl, by rw [List.map_append]; exact HRS.out, fun h => absurd h (by omega), fun _ => ⟨rows.map (·.1), ⟨u, y, xb⟩, by rw [List.map_append]; rfl, HXL.out⟩⟩, by simp [intOf]; omega⟩
                          · have hrs : res = (X2, e2, rows.map (·.1)) := by
                              rw [HR1.out, HONE.out, HON.out]
                              exact if_pos he2
                            have HRS := Lib.hid hrs; clear hrs
                            have z1 : (e2 != 0) = true := by rw [bne_iff_ne]; exact he2
                            go_wp2_with fail
                            go_ret2
                            exact rpost_err HIW.out.disk (HOFF1.out.trans HOFW.out (fun b hb h => HLOW.out b hb h)) (fun b hb x => HHIGH.out _ b hb (HIW.out.inR b x).1) HRS.out he2
                        · have hon : ropenOne X1 u (us.drop (k + 1)).head? = (X3, e3, ⟨u, y, xb⟩) := by
                            unfold ropenOne
                            rw [HTE.out, HHD.out]
                            dsimp only
                            rw [if_neg (fun hn => hn rfl), HSC.out]
                            dsimp only
                            rw [if_pos HY1.out, HDE.out, if_pos he3]
                          have hrs : res = (X3, e3, rows.map (·.1)) := by
                            rw [HR1.out, HONE.out, hon]
                            exact if_pos he3
                          have HRS := Lib.hid hrs; clear hrs hon
                          have z1 : (e3 != 0) = true := by rw [bne_iff_ne]; exact he3
                          go_wp2_with fail
                          go_ret2
                          exact rpost_err HI8.out.disk (HOFF1.out.trans HOF8.out (fun b hb h => HLOW.out b hb h)) (fun b hb x => HHIGH.out _ b hb (HI8.out.inR b x).1) HRS.out he3
            · have hon : ropenOne X1 u (us.drop (k + 1)).head? = (X1, er, ⟨u, 0, []⟩) := by unfold ropenOne; rw [HTE.out]; dsimp only; rw [if_pos hee]
              have hre := HR1.out
              rw [HONE.out, hon] at hre
              dsimp only at hre
              rw [if_pos hee] at hre
              have HRE := Lib.hid hre; clear hre hon
              have t1 : (er != 0) = true := by rw [bne_iff_ne]; exact hee
              go_wp2_with fail
              go_ret2
              exact rpost_err HI3.out.disk (HOFF1.out.trans HOF3.out (fun b hb h => HLOW.out b hb h)) (fun b hb x => HHIGH.out _ b hb (HI3.out.inR b x).1) HRE.out hee
          · have hkl : k = us.length := by omega
            subst hkl
            have hi1 : ¬ (us.length : Int) < (us.length : Int) := by omega
            obtain ⟨pre, y, hpy, hsy⟩ := HLA.out hupos
            have hre := HR1.out
            rw [List.drop_length] at hre
            have HRE := Lib.hid hre
            have HPY := Lib.hid hpy; have HSY := Lib.hid hsy; clear hpy hsy hre
            go_wp2_with fail
            go_ret2
            exact rpost_ok HI.out (HOFF1.out.trans HOF.out (fun b hb h => HLOW.out b hb h)) (fun b hb x => HHIGH.out _ b hb x) HRE.out HPY.out HSY.out hlw
end RefL
end Go.Proofs.YtnppdcegpojmbaaGreatDoor
