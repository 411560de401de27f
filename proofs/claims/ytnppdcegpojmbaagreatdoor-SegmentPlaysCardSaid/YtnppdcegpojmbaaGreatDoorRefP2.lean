/- The reference's log: the walks of Drop and Roll. -/
import Derived.Test.YtnppdcegpojmbaaGreatDoorRefP0
namespace Go.Proofs.YtnppdcegpojmbaaGreatDoor
open Go Go.RowKit Go.Sort
namespace RefL
set_option maxHeartbeats 1000000 in
set_option maxRecDepth 100000 in
theorem drop_any (w : World) (q r synced N : Nat) (rows : List RRow) (lv : Value) (A : Nat → Prop) (X : RefV) (Fr F : Nat → Prop) (h : RStoreAt w q r rows synced lv A X Fr F) (hl : RLim N X) (hx : rows.length ≤ 1000000) (hne : rows ≠ []) (hf : ∀ x ∈ rows, x.1.first < 18446744073709551616) :
    Calls Tryz.prog 88 #[.pointer (some ⟨q, 0, none⟩)] w fun e w' =>
      e = .returned (.int .i64 (X.ldrop (rows.map (·.1))).2.2) ∧ Off F w w' ∧ ∃ rows' lv' Fr', rows'.map (·.1) = (X.ldrop (rows.map (·.1))).2.1 ∧ RStoreAt w' q r rows' synced lv' A (X.ldrop (rows.map (·.1))).1 Fr' (Grow F w w') := by
  have H := Lib.hid h; clear h
  have p0 : w.cell? ⟨q, 0, none⟩ = some (.pointer (some ⟨r, 0, none⟩)) := Heap.cell H.out.pre.core 0
  have p1 : w.cell? ⟨q, 1, none⟩ = some lv := Heap.cell H.out.pre.core 1
  obtain ⟨RS, hRS⟩ : ∃ RS, RS = X.ldrop (rows.map (·.1)) := ⟨_, rfl⟩
  rw [← hRS]
  have HR0 := Lib.hid hRS
  clear hRS
  cases rows with
  | nil => exact absurd rfl hne
  | cons x r1 =>
    cases r1 with
    | nil =>
      obtain ⟨pl, cl, hlv⟩ := H.out.pre.row.shape
      have hlv : lv = .slice pl 1 cl := hlv
      rw [hlv] at p1
      have hres : RS = (X, [x.1], 13) := HR0.out
      have HRES := Lib.hid hres
      clear hlv hf hres hne hl
      go_enter Tryz.func88, Tryz.ntmps88
      go_wp2
      go_ret
      rw [HRES.out]
      exact ⟨rfl, Off.refl _ _, [x], lv, Fr, rfl, H.out.mono (fun _ _ h => .inl h)⟩
    | cons y rr =>
      obtain ⟨g, o, c, hlv, hgl, hle, hmx, hcell⟩ := H.out.pre.cells (by simp)
      have hlen : (x :: y :: rr).length = rr.length + 2 := rfl
      rw [hlen] at hlv hle hx
      have hob : lv.ownBlock = some g := by rw [hlv]; rfl
      obtain ⟨c0, _, _, _⟩ := hcell 0 (by simp)
      rw [Nat.zero_mul, Nat.add_zero] at c0
      obtain ⟨u, hu⟩ : ∃ u, u = x.1.first := ⟨_, rfl⟩
      have c0 : w.cell? ⟨g, o, none⟩ = some (.int .u64 u) := by rw [hu]; exact c0
      have hub : u < 18446744073709551616 := by rw [hu]; exact hf x (by simp)
      rw [hlv] at p1
      obtain ⟨n, hn⟩ : ∃ n, n = rr.length := ⟨_, rfl⟩
      rw [← hn] at p1 hle hx
      obtain ⟨X1, er, hsc⟩ : ∃ X1 er, X.remove (Seg.nameB u) = (X1, er) := ⟨_, _, rfl⟩
      have hres : RS = if er = 0 then (X1.syncDir.1, y.1 :: rr.map (fun x : RRow => x.1), X1.syncDir.2) else (X1, x.1 :: y.1 :: rr.map (fun x : RRow => x.1), er) := by
        refine HR0.out.trans ?_
        show (match X.remove (Seg.nameB x.1.first) with | (X1, e) => if e = 0 then (X1.syncDir.1, y.1 :: rr.map (fun x : RRow => x.1), X1.syncDir.2) else (X1, x.1 :: y.1 :: rr.map (fun x : RRow => x.1), e)) = _
        rw [← hu, hsc]
      have hNl := hl.le
      have hdk := fun W (hW : Off None w W) => RefW.remove_any W r X Fr (H.out.quiet hW).disk (Seg.nameB u) (Nat.le_trans hl.now hNl) (Nat.le_trans hl.dirs (by omega))
      rw [hsc] at hdk
      have HDK := Lib.hid hdk; have HRES := Lib.hid hres; have HNM := Lib.hid (fun W => name_any W u hub); have HLV := Lib.hid hlv; have HN := Lib.hid hn
      have hsl := H.out.sepQ
      have hsg := (H.out.sepL g hob).1
      clear hdk hres hsc hcell hlv hob hu hn hf hne hl hlen
      have t1 : (((n : Int) + 2) == 1) = false := by rw [beq_eq_false_iff_ne]; omega
      have hb0 : (0 : Int) < (n : Int) + 2 := by omega
      have hb1 : (1 : Int) ≤ (n : Int) + 2 := by omega
      go_enter Tryz.func88, Tryz.ntmps88
      go_wp2_with fail
      go_region_held3 (fun W => W.cell? ⟨q, 0, none⟩ = some (.pointer (some ⟨r, 0, none⟩)) ∧ W.cell? ⟨q, 1, none⟩ = some (.slice (some ⟨g, o, none⟩) (n + 2) c) ∧ W.cell? ⟨g, o, none⟩ = some (.int .u64 u))
        (first | exact ⟨p0, p1, c0⟩ | exact ⟨l1, l2, l3⟩ | exact ⟨k1, k2, k3⟩)
        (first
          | (go_at_call 112; refine (HNM.out _).mono ?_; rintro e w4 ⟨rfl, ho4⟩; have ho4 := ((Off.refl None w).drew).trans ho4 (fun _ _ h => h); have k1 : w4.cell? ⟨q, 0, none⟩ = some (.pointer (some ⟨r, 0, none⟩)) := ho4.keep p0 (fun h => h); have k2 : w4.cell? ⟨q, 1, none⟩ = some (.slice (some ⟨g, o, none⟩) (n + 2) c) := ho4.keep p1 (fun h => h); have k3 : w4.cell? ⟨g, o, none⟩ = some (.int .u64 u) := ho4.keep c0 (fun h => h))
          | (go_at_call 121; refine (HDK.out w4 ho4).mono ?_; rintro e w5 ⟨rfl, hd5, ho5⟩; have l1 : w5.cell? ⟨q, 0, none⟩ = some (.pointer (some ⟨r, 0, none⟩)) := ho5.keep k1 hsl; have l2 : w5.cell? ⟨q, 1, none⟩ = some (.slice (some ⟨g, o, none⟩) (n + 2) c) := ho5.keep k2 hsl; have l3 : w5.cell? ⟨g, o, none⟩ = some (.int .u64 u) := ho5.keep k3 hsg))
      have h5 := ((H.out.quiet ho4).turned hd5 ho5).mono (G := Grow F w w5) (fun b _ hb => hb.imp id (fun x => ⟨Nat.le_trans ho4.size x.1, x.2⟩))
      have hof5 : Off F w w5 := (ho4.mono (fun _ _ h => h.elim) : Off F w w4).trans ((H.out.quiet ho4).off_disk ho5) (fun _ _ h => h)
      have H5 := Lib.hid h5; have HO5 := Lib.hid hof5
      have f1 : w5.frozen? ⟨q, 1, none⟩ = false := Heap.frozen h5.pre.core 1
      have hlz : q < w5.heap.size := Heap.lt h5.pre.core
      have m0 := l1; have m1 := l2
      clear h5 hof5 hd5 ho5 ho4 l1 l2 l3 k1 k2 k3 p0 p1 c0
      by_cases hee : er = 0
      · subst hee
        have hrs := HRES.out
        rw [if_pos rfl] at hrs
        have HRS := Lib.hid hrs; clear hrs HRES
        go_wp2_with fail
        obtain ⟨h6, ho6⟩ := H5.out.dropped (g := g) (o := o) (c := c) (by rw [HLV.out]; rfl)
        rw [show (y :: rr).length = n + 1 by rw [HN.out]; rfl] at h6 ho6
        obtain ⟨w6, hw6⟩ : ∃ w6, w6 = w5.setCell ⟨q, 1, none⟩ (.slice (some ⟨g, o + 4, none⟩) (n + 1) (c - 1)) := ⟨_, rfl⟩
        rw [← hw6] at h6 ho6
        have hsz6 : w6.heap.size = w5.heap.size := by rw [hw6, Heap.set_size]
        have H6 := Lib.hid h6; have HO6 := Lib.hid ho6; have HSZ := Lib.hid hsz6
        try rw [← hw6]
        clear h6 ho6 hsz6 hw6 m0 m1
        refine (RefW.syncDir_any w6 r X1 _ H6.out.disk).mono ?_
        rintro e w7 ⟨rfl, hd7, ho7⟩
        have h7 := H6.out.turned hd7 ho7
        have ho7 := H6.out.off_disk ho7
        have H7 := Lib.hid h7; have HO7 := Lib.hid ho7
        clear h7 hd7 ho7
        go_wp2
        go_ret
        rw [HRS.out]
        have hs5 := HO5.out.size; have hs7 := HO7.out.size; have hs6 := HSZ.out
        refine ⟨rfl, (HO5.out.trans HO6.out (fun b hb h => h.elim id (fun h => by omega))).trans HO7.out (fun b hb h => h.elim id (fun h => by omega)), y :: rr, _, _, rfl, H7.out.mono (fun b hb h => ?_)⟩
        rcases h with (h | h) | h
        · exact .inl h
        · exact .inr ⟨h.1, by omega⟩
        · exact .inr ⟨by omega, h.2⟩
      · have hrs := HRES.out
        rw [if_neg hee] at hrs
        have HRS := Lib.hid hrs; clear hrs HRES
        have t2 : (er != 0) = true := by rw [bne_iff_ne]; exact hee
        go_wp2_with fail
        go_ret
        rw [HRS.out]
        exact ⟨rfl, HO5.out, x :: y :: rr, lv, _, rfl, H5.out⟩
set_option maxHeartbeats 4000000 in
set_option maxRecDepth 100000 in
theorem roll_any (w : World) (q r synced k N : Nat) (rows : List RRow) (lv : Value) (A : Nat → Prop) (X : RefV) (Fr F : Nat → Prop) (h : RStoreAt w q r rows synced lv A X Fr F) (hl2 : ∀ name, RLim N (X.sync name).1) (hx : rows.length ≤ 1000000) (hn : rows.length = k + 1) (a : RSeg) (ha : (rows[k]'(by omega)).1 = a) (hs : a.end_ ≤ 2000000000001) :
    Calls Tryz.prog 87 #[.pointer (some ⟨q, 0, none⟩)] w fun e w' =>
      e = .returned (.int .i64 (X.lroll ((rows.take k).map (·.1)) a synced).2.2.2) ∧ Off F w w' ∧ ∃ rows' lv' Fr', rows'.map (·.1) = (X.lroll ((rows.take k).map (·.1)) a synced).2.1 ∧ RStoreAt w' q r rows' (X.lroll ((rows.take k).map (·.1)) a synced).2.2.1 lv' A (X.lroll ((rows.take k).map (·.1)) a synced).1 Fr' (Grow F w w') := by
  have H := Lib.hid h; clear h
  have HLIM := Lib.hid hl2; clear hl2
  obtain ⟨a2, p, c, ha2, hx2, _, _, _, hagg⟩ := last_form H.out.pre hn
  rw [ha] at ha2
  subst ha2
  have hlast := fun W (hW : Off None w W) => last_any W q r synced k rows lv A (H.out.quiet hW).pre hn
  rw [hagg] at hlast
  have htk : rows.take k ++ [rows[k]'(by omega)] = rows := by rw [← List.take_succ_eq_append_getElem (by omega), List.take_of_length_le (by omega)]
  have hmap : (rows.take k).map (·.1) ++ [a] = rows.map (·.1) := by
    have h1 : (rows.take k).map (·.1) ++ [a] = (rows.take k ++ [rows[k]'(by omega)]).map (·.1) := by rw [List.map_append, ← ha]; rfl
    rw [h1, htk]
  obtain ⟨pre, hpre⟩ : ∃ pre, pre = (rows.take k).map (·.1) := ⟨_, rfl⟩
  rw [← hpre] at hmap ⊢
  obtain ⟨u, hu⟩ : ∃ u, u = a.first := ⟨_, rfl⟩
  obtain ⟨b, hb⟩ : ∃ b, b = a.bodies.length := ⟨_, rfl⟩
  obtain ⟨z, hz⟩ : ∃ z, z = a.size := ⟨_, rfl⟩
  obtain ⟨en, hen⟩ : ∃ en, en = a.end_ := ⟨_, rfl⟩
  rw [← hu, ← hb, ← hz] at hlast
  rw [← hen] at hs
  have hfe : en = u + b := by rw [hen, hu, hb]; rfl
  have HL := Lib.hid hlast; have HMAP := Lib.hid hmap
  have HU := Lib.hid hu; have HB := Lib.hid hb; have HEN := Lib.hid hen; have HLA := Lib.hid ha
  have hub : u < 18446744073709551616 := by omega
  clear hlast hagg ha hx2 hu hb hz hen hmap hpre hfe
  have hF0 := fun w' => rfield0 w' u b z p b c
  have hF1 := fun w' => rfield1 w' u b z p b c
  have p0 : w.cell? ⟨q, 0, none⟩ = some (.pointer (some ⟨r, 0, none⟩)) := Heap.cell H.out.pre.core 0
  go_enter Tryz.func87, Tryz.ntmps87
  go_wp2_with fail
  refine (HL.out w (Off.refl _ _)).mono ?_
  rintro e w2 ⟨rfl, ho2⟩
  have HO2 := Lib.hid ho2; clear ho2
  have p2 := HO2.out.keep p0 (fun h => h)
  by_cases hb0 : b = 0
  · have hres : X.lroll pre a synced = (X, pre ++ [a], synced, 0) := by unfold RefV.lroll; rw [if_pos (by rw [← HB.out]; exact hb0)]
    have HRES := Lib.hid hres; clear hres
    have t1 : ((b : Int) == 0) = true := by rw [beq_iff_eq]; omega
    clear hb0
    go_wp2_with fail
    go_ret
    rw [HRES.out]
    exact ⟨rfl, HO2.out.mono (fun _ _ h => h.elim), rows, lv, Fr, HMAP.out.symm, (H.out.quiet HO2.out).mono (fun _ _ h => .inl h)⟩
  · have t1 : ((b : Int) == 0) = false := by rw [beq_eq_false_iff_ne]; omega
    obtain ⟨X1, er, hsc⟩ : ∃ X1 er, X.sync (Seg.nameB u) = (X1, er) := ⟨_, _, rfl⟩
    have hres : X.lroll pre a synced = if er = 0 then (match X1.started en with | (X2, e2, st) => if st = true then (X2, pre ++ [a] ++ [⟨en, 0, []⟩], 0, e2) else (X2, pre ++ [a], b, e2)) else (X1, pre ++ [a], synced, er) := by
      unfold RefV.lroll
      rw [if_neg (by rw [← HB.out]; exact hb0), ← HU.out, hsc, ← HB.out, ← HEN.out]
    have hlm := HLIM.out (Seg.nameB u)
    have hdk := fun W (hW : Off None w W) => RefW.sync_any W r X Fr (H.out.quiet hW).disk (Seg.nameB u)
    rw [hsc] at hdk hlm
    have HDK := Lib.hid hdk; have HRES := Lib.hid hres; have HNM := Lib.hid (fun W => name_any W u (by omega)); have HLM := Lib.hid hlm
    clear hdk hres hsc hlm HLIM
    have hsl := H.out.sepQ
    go_wp2_with fail
    go_region_held3 (fun W => W.cell? ⟨q, 0, none⟩ = some (.pointer (some ⟨r, 0, none⟩)))
      (first | exact p2 | exact k3 | exact k4 | exact k5)
      (first
        | (go_at_call 116; refine (HL.out _ (HO2.out.drew)).mono ?_; rintro e w3 ⟨rfl, ho3⟩; have ho3 := (HO2.out.drew).trans ho3 (fun _ _ h => h); have k3 : w3.cell? ⟨q, 0, none⟩ = some (.pointer (some ⟨r, 0, none⟩)) := ho3.keep p0 (fun h => h))
        | (go_at_call 112; refine (HNM.out _).mono ?_; rintro e w4 ⟨rfl, ho4⟩; have ho4 := ho3.trans ho4 (fun _ _ h => h); have k4 : w4.cell? ⟨q, 0, none⟩ = some (.pointer (some ⟨r, 0, none⟩)) := ho4.keep p0 (fun h => h))
        | (go_at_call 115; refine (HDK.out w4 ho4).mono ?_; rintro e w5 ⟨rfl, hd5, ho5⟩; have k5 : w5.cell? ⟨q, 0, none⟩ = some (.pointer (some ⟨r, 0, none⟩)) := ho5.keep k4 hsl))
    have h5 := ((H.out.quiet ho4).turned hd5 ho5).mono (G := Grow F w w5) (fun b _ hb => hb.imp id (fun x => ⟨Nat.le_trans ho4.size x.1, x.2⟩))
    have hof5 : Off F w w5 := (ho4.mono (fun _ _ h => h.elim) : Off F w w4).trans ((H.out.quiet ho4).off_disk ho5) (fun _ _ h => h)
    have H5 := Lib.hid h5; have HO5 := Lib.hid hof5
    clear h5 hof5 hd5 ho5 ho4 ho3 k3 k4 k5 p2
    by_cases hee : er = 0
    · subst hee
      have hrs := HRES.out
      rw [if_pos rfl] at hrs
      have HRS := Lib.hid hrs; clear hrs HRES
      have hl5 := last_any w5 q r synced k rows lv A H5.out.pre hn
      obtain ⟨a3, p3, c3, ha3, hx3, _, _, _, hagg3⟩ := last_form H5.out.pre hn
      rw [hagg3] at hl5
      have haa : a3 = a := by rw [← ha3, HLA.out]
      have hab : a3.bodies.length = b := by rw [haa, HB.out]
      rw [hab] at hl5
      have hG1 := fun w' => rfield1 w' a3.first b a3.size p3 b c3
      have HL5 := Lib.hid hl5
      clear hl5 ha3 hx3 hagg3 hab haa
      have q2 : w5.cell? ⟨q, 2, none⟩ = some (.int .i64 synced) := Heap.cell H5.out.pre.core 2
      go_wp2_with fail
      refine HL5.out.mono ?_
      rintro e w6 ⟨rfl, ho6⟩
      have H6 := Lib.hid (H5.out.quiet ho6); have HO6 := Lib.hid (HO5.out.trans ho6 (fun _ _ h => h.elim))
      have HS56 := Lib.hid ho6.size
      clear ho6 HL5 q2
      have q2 : w6.cell? ⟨q, 2, none⟩ = some (.int .i64 synced) := Heap.cell H6.out.pre.core 2
      have f2 : w6.frozen? ⟨q, 2, none⟩ = false := Heap.frozen H6.out.pre.core 2
      have hlz : q < w6.heap.size := Heap.lt H6.out.pre.core
      go_wp2_with fail
      have h7 := H6.out.setSynced b
      have ho7 := H6.out.off_own ((Off.refl (Only q) w6).set 2 (.int .i64 b))
      obtain ⟨w7, hw7⟩ : ∃ w7, w7 = w6.setCell ⟨q, 2, none⟩ (.int .i64 b) := ⟨_, rfl⟩
      rw [← hw7] at h7 ho7
      have hsz7 : w7.heap.size = w6.heap.size := by rw [hw7, Heap.set_size]
      have H7 := Lib.hid h7; have HO7 := Lib.hid ho7; have HSZ := Lib.hid hsz7
      try rw [← hw7]
      clear h7 ho7 hsz7 hw7 q2 f2
      have hnx := next_any w7 q r b k rows lv A H7.out.pre hn (by rw [HLA.out, ← HEN.out]; omega)
      rw [HLA.out, ← HEN.out] at hnx
      refine hnx.mono ?_
      rintro e w8 ⟨rfl, ho8⟩
      have H8 := Lib.hid (H7.out.quiet ho8); have HO8 := Lib.hid ho8
      clear ho8 hnx
      go_wp2_with fail
      have hen : en < 18446744073709551616 := by omega
      have hbg := begin_any w8 q r b N rows lv A X1 _ _ H8.out HLM.out hx en hen
      have HBG := Lib.hid hbg
      clear hbg
      refine HBG.out.mono ?_
      rintro e w9 ⟨rfl, ho9, lv9, Fr9, h9⟩
      have H9 := Lib.hid h9; have HO9 := Lib.hid ho9
      clear h9 ho9
      go_wp2
      go_ret
      have hs5 := HO5.out.size; have hs6 := HO6.out.size; have hs56 := HS56.out; have hs7 := HSZ.out; have hs8 := HO8.out.size; have hs9 := HO9.out.size
      have hoff : Off F w w9 := by
        refine ((HO6.out.trans HO7.out (fun b hb h => h.elim id (fun h => by omega))).trans (HO8.out.mono (fun _ _ h => h.elim) : Off F w7 w8) (fun _ _ h => h)).trans HO9.out (fun b hb h => h.elim id (fun h => by omega))
      have hmono : ∀ b, Grow (Grow F w w5) w8 w9 b → Grow F w w9 b := fun b hb => by
        rcases hb with (hb | hb) | hb
        · exact .inl hb
        · exact .inr ⟨hb.1, by omega⟩
        · exact .inr ⟨by omega, hb.2⟩
      obtain ⟨X2, e2, st, hst⟩ : ∃ X2 e2 st, X1.started en = (X2, e2, st) := ⟨_, _, _, rfl⟩
      have hr := H9.out
      have hrs := HRS.out
      unfold RefV.rowsAfter RefV.syncedAfter at hr
      rw [hst] at hr hrs ⊢
      dsimp only at hr hrs ⊢
      cases st with
      | true =>
        rw [if_pos rfl] at hrs hr
        rw [if_pos rfl] at hr
        rw [hrs]
        exact ⟨rfl, hoff, _, lv9, Fr9, by rw [List.map_append, ← HMAP.out]; rfl, hr.mono (fun b _ h => hmono b h)⟩
      | false =>
        rw [if_neg (by decide)] at hrs hr
        rw [if_neg (by decide)] at hr
        rw [hrs]
        exact ⟨rfl, hoff, _, lv9, Fr9, HMAP.out.symm, hr.mono (fun b _ h => hmono b h)⟩
    · have hrs := HRES.out
      rw [if_neg hee] at hrs
      have HRS := Lib.hid hrs; clear hrs HRES
      have z1 : (er != 0) = true := by rw [bne_iff_ne]; exact hee
      go_wp2_with fail
      go_ret
      rw [HRS.out]
      exact ⟨rfl, HO5.out, rows, lv, _, HMAP.out.symm, H5.out⟩
end RefL
end Go.Proofs.YtnppdcegpojmbaaGreatDoor
