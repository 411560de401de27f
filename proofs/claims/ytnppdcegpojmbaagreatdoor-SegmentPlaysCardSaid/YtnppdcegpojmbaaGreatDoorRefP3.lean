/- The reference's log: the walk of Undo. -/
import Derived.Test.YtnppdcegpojmbaaGreatDoorRefP0
namespace Go.Proofs.YtnppdcegpojmbaaGreatDoor
open Go Go.RowKit Go.Sort
namespace RefL
/-- How many bytes the first j frames have. -/
def upTo (a : RSeg) (j : Nat) : Nat := (framesL a.first (a.grp.bodies.take j)).length
theorem upTo_succ (a : RSeg) {j : Nat} (hj : j < a.bodies.length) : upTo a (j + 1) = upTo a j + (Frame.putF (a.first + j) (a.bodies[j]).data.toList).length := by
  unfold upTo RSeg.grp
  dsimp only
  rw [List.take_succ_eq_append_getElem (by rw [List.length_map]; exact hj), framesL_snoc, List.length_append]
  have e1 : ((a.bodies.map bytesOf).take j).length = j := by rw [List.length_take, List.length_map]; omega
  rw [e1, List.getElem_map]
  rfl
theorem upTo_le (a : RSeg) (hs : a.end_ < 18446744073709551616) (hb : ∀ b ∈ a.bodies, b.size ≤ 2000) : ∀ j, j ≤ a.bodies.length → upTo a j ≤ j * 2024 := by
  intro j
  induction j with
  | zero => intro _; unfold upTo; simp [framesL]
  | succ j ih =>
    intro hj
    rw [upTo_succ a (by omega)]
    have h1 := hb _ (List.getElem_mem (show j < a.bodies.length by omega))
    have h2 := Frame.putF_len (a.first + j) (a.bodies[j]).data.toList (by unfold RSeg.end_ at hs; omega) (by show _ ≤ 2000; simpa using h1)
    have h3 : (a.bodies[j]).data.toList.length = (a.bodies[j]).size := by simp
    have := ih (by omega)
    omega
set_option maxHeartbeats 2000000 in
set_option maxRecDepth 100000 in
theorem undo_any (w : World) (q r synced k N : Nat) (rows : List RRow) (lv : Value) (A : Nat → Prop) (X : RefV) (Fr F : Nat → Prop) (h : RStoreAt w q r rows synced lv A X Fr F) (hl : RLim N X) (hn : rows.length = k + 1) (hk : k ≤ 1000000) (a : RSeg) (ha : (rows[k]'(by omega)).1 = a) (hs : a.end_ ≤ 2000000000001) (hsy : synced ≤ a.bodies.length) (hsm : ∀ b ∈ a.bodies, b.size ≤ 2000) :
    Calls Tryz.prog 86 #[.pointer (some ⟨q, 0, none⟩)] w fun e w' => e = .returned (.int .i64 (X.lundo a synced).2.2) ∧ Off F w w' ∧ ∃ (Fr' : Nat → Prop) (v : Value), RStoreAt w' q r (rows.set k ((X.lundo a synced).2.1, v)) synced lv A (X.lundo a synced).1 Fr' (Grow F w w') := by
  have H := Lib.hid h; clear h
  have HLIM := Lib.hid hl; clear hl
  have hup := upTo_le a (by omega) hsm
  obtain ⟨a2, p, c, ha2, hx2, hbc, hcm, hlies, hagg⟩ := last_form H.out.pre hn
  rw [ha] at ha2
  subst ha2
  have hlast := fun W (hW : Off None w W) => last_any W q r synced k rows lv A (H.out.quiet hW).pre hn
  rw [hagg] at hlast
  have hnext := fun W (hW : Off None w W) => next_any W q r synced k rows lv A (H.out.quiet hW).pre hn (by rw [ha]; omega)
  have hdur := fun W (hW : Off None w W) => durable_any W q r synced k rows lv A (H.out.quiet hW).pre hn (by rw [ha]; unfold RSeg.end_ at hs; omega)
  rw [ha] at hnext hdur
  have hfr : (a.front synced).size = upTo a synced := rfl
  have hsm2 : ∀ i (hi : i < a.bodies.length), (a.bodies[i]).size ≤ 2000 := fun i hi => hsm _ (List.getElem_mem hi)
  have hst : ∀ j (hj : j < a.bodies.length), upTo a (j + 1) = upTo a j + (Frame.putF (a.first + j) (a.bodies[j]).data.toList).length := fun j hj => upTo_succ a hj
  obtain ⟨u, hu⟩ : ∃ u, u = a.first := ⟨_, rfl⟩
  obtain ⟨b, hbb⟩ : ∃ b, b = a.bodies.length := ⟨_, rfl⟩
  obtain ⟨z, hz⟩ : ∃ z, z = a.size := ⟨_, rfl⟩
  obtain ⟨en, hen⟩ : ∃ en, en = a.end_ := ⟨_, rfl⟩
  rw [← hu, ← hbb, ← hz] at hlast
  rw [← hen] at hnext hs
  rw [← hu] at hdur hst
  rw [← hbb] at hsy hbc hup
  have hfe : en = u + b := by rw [hen, hu, hbb]; rfl
  have heb : u + b ≤ 2000000000001 := by omega
  have HL := Lib.hid hlast; have HNX := Lib.hid hnext; have HDU := Lib.hid hdur; have HLIES := Lib.hid hlies; have HST := Lib.hid hst; have HSM := Lib.hid hsm2
  have HU := Lib.hid hu; have HB := Lib.hid hbb; have HEN := Lib.hid hen; have HZ := Lib.hid hz; have HLA := Lib.hid ha; have HX2 := Lib.hid hx2; have HUP := Lib.hid hup; have HFR := Lib.hid hfr
  clear hlast hnext hdur hagg ha hx2 hu hbb hz hen hlies hst hsm hsm2 hup hfr
  have p0 : w.cell? ⟨q, 0, none⟩ = some (.pointer (some ⟨r, 0, none⟩)) := Heap.cell H.out.pre.core 0
  have p2 : w.cell? ⟨q, 2, none⟩ = some (.int .i64 synced) := Heap.cell H.out.pre.core 2
  have hset : rows.set k (a, (rows[k]'(by omega)).2) = rows := by rw [← HLA.out]; exact List.set_getElem_self (by omega)
  have HSET := Lib.hid hset; clear hset
  go_enter Tryz.func86, Tryz.ntmps86
  go_wp2_with fail
  refine (HDU.out w (Off.refl _ _)).mono ?_
  rintro e w1 ⟨rfl, ho1⟩
  have HO1 := Lib.hid ho1; clear ho1
  go_wp2_with fail
  refine (HNX.out w1 HO1.out).mono ?_
  rintro e w2 ⟨rfl, ho2⟩
  have HO2 := Lib.hid (HO1.out.trans ho2 (fun _ _ h => h)); clear ho2 HO1
  by_cases he : u + synced = en
  · have hres : X.lundo a synced = (X, a, 0) := by unfold RefV.lundo; rw [if_pos (by rw [← HU.out, ← HEN.out]; exact he)]
    have HRES := Lib.hid hres; clear hres
    have t1 : (((u + synced : Nat) : Int) == (en : Int)) = true := by rw [beq_iff_eq]; omega
    go_wp2_with fail
    go_ret
    rw [HRES.out]
    refine ⟨rfl, HO2.out.mono (fun _ _ h => h.elim), Fr, (rows[k]'(by omega)).2, ?_⟩
    rw [HSET.out]
    exact (H.out.quiet HO2.out).mono (fun _ _ h => .inl h)
  · have t1 : (((u + synced : Nat) : Int) == (en : Int)) = false := by rw [beq_eq_false_iff_ne]; omega
    have hsb : synced < b := by omega
    obtain ⟨nz, hnz⟩ : ∃ nz, nz = upTo a synced := ⟨_, rfl⟩
    have hnb : nz ≤ synced * 2024 := by rw [hnz]; exact HUP.out synced (by omega)
    obtain ⟨X1, er, hsc⟩ : ∃ X1 er, X.cut (Seg.nameB u) nz = (X1, er) := ⟨_, _, rfl⟩
    have hres : X.lundo a synced = if er = 0 then (X1, a.front synced, 0) else (X1, a, er) := by
      unfold RefV.lundo
      rw [if_neg (by rw [← HU.out, ← HEN.out]; exact he), ← HU.out, HFR.out, ← hnz, hsc]
    have hdk := fun W (hW : Off None w W) => RefW.cut_any W r X Fr (H.out.quiet hW).disk (Seg.nameB u) nz (fun row hrow => ⟨Nat.le_trans (HLIM.out.each row hrow).1 (by have := HLIM.out.le; omega), fun t ht => Nat.le_trans ((HLIM.out.each row hrow).2 t ht) (by have := HLIM.out.le; unfold maxLen; omega)⟩)
    rw [hsc] at hdk
    have HDK := Lib.hid hdk; have HRES := Lib.hid hres; have HNM := Lib.hid (fun W => name_any W u (by omega)); have HNZ := Lib.hid hnz
    clear hdk hres hsc hnz hfe
    obtain ⟨gb, hpb, _, _, _⟩ := HLIES.out 0 (by rw [← HB.out]; omega)
    subst hpb
    have hsl := H.out.sepQ
    go_wp2_with fail
    refine (HL.out w2 HO2.out).mono ?_
    rintro e w3 ⟨rfl, ho3⟩
    have HO3 := Lib.hid (HO2.out.trans ho3 (fun _ _ h => h)); clear ho3 HO2
    go_wp2_with fail
    obtain ⟨bx, hbx⟩ : ∃ bx, bx = w3.heap.size := ⟨_, rfl⟩
    obtain ⟨w4, hw4⟩ : ∃ w4, w4 = w3.alloc (.cells #[.int .u64 u, .int .i64 b, .int .i64 z, .slice (some ⟨gb, 0, none⟩) b c] 136) := ⟨_, rfl⟩
    have hb4 : w4.heap[bx]? = some (.cells #[.int .u64 u, .int .i64 b, .int .i64 z, .slice (some ⟨gb, 0, none⟩) b c] 136 (0, 0)) := by rw [hw4, hbx]; exact Heap.alloc_new w3 _
    have ho4 : Off None w w4 := by rw [hw4]; exact HO3.out.alloc _
    have hbw : w.heap.size ≤ bx := by rw [hbx]; exact HO3.out.size
    have HW4 := Lib.hid hw4; have HBX := Lib.hid hbx
    have HB4 := Lib.hid hb4; have HO4 := Lib.hid ho4
    clear hw4 hbx hb4 ho4
    try rw [← HW4.out, ← HBX.out]
    go_loopw [4, 5] (fun nv iv wr => ∃ j : Nat, j ≤ synced ∧ iv = .int .i64 j ∧ nv = .int .i64 (upTo a j : Nat) ∧ Off None w4 wr) (fun _ iv _ => synced - (intOf iv).toNat)
    case atStart => exact ⟨0, Nat.zero_le _, rfl, rfl, Off.refl _ _⟩
    case round =>
      obtain ⟨j, hj, rfl, rfl, hor⟩ := hrel
      obtain ⟨y, hy⟩ : ∃ y, y = upTo a j := ⟨_, rfl⟩
      have hyl : y ≤ j * 2024 := by rw [hy]; exact HUP.out j (by omega)
      rw [← hy]
      have HOR := Lib.hid hor; have HY := Lib.hid hy
      clear hor hy
      have k2 : wr.cell? ⟨q, 2, none⟩ = some (.int .i64 synced) := HOR.out.keep (HO4.out.keep p2 (fun h => h)) (fun h => h)
      by_cases hlt : j < synced
      · have hjb : j < a.bodies.length := by rw [← HB.out]; omega
        obtain ⟨g2, hp2, _, _, hcb⟩ := HLIES.out j hjb
        obtain rfl : gb = g2 := by cases hp2; rfl
        have hbr := HOR.out.at_ HB4.out (fun h => h)
        have b0 : wr.cell? ⟨bx, 0, none⟩ = some (.int .u64 u) := Heap.cell hbr 0
        have b3 : wr.cell? ⟨bx, 3, none⟩ = some (.slice (some ⟨gb, 0, none⟩) b c) := Heap.cell hbr 3
        obtain ⟨bd, hbd⟩ : ∃ bd, bd = a.bodies[j] := ⟨_, rfl⟩
        rw [← hbd] at hcb
        have hsz := HSM.out j hjb
        rw [← hbd] at hsz
        have jb : wr.cell? ⟨gb, j, none⟩ = some (.string bd) := HOR.out.keep (HO4.out.keep hcb (fun h => h)) (fun h => h)
        have hst := HST.out j hjb
        rw [← hbd, ← HY.out] at hst
        have hpl := Frame.putF_len (u + j) bd.data.toList (by omega) (by show _ ≤ 2000; simpa using hsz)
        have hbl : bd.data.toList.length = bd.size := by simp
        obtain ⟨sb, hsbd⟩ : ∃ sb : ByteArray, sb = ⟨(Frame.putF (u + j) bd.data.toList).toArray⟩ := ⟨_, rfl⟩
        have hss : sb.size = (Frame.putF (u + j) bd.data.toList).length := by rw [hsbd]; exact List.size_toArray
        rw [← hss] at hst hpl
        have hput : ∀ W, Calls Tryz.prog 107 #[.int .u64 ((u : Int) + (j : Int)), .string bd] W fun e w' => e = .returned (.tuple #[.string sb, .int .i64 0]) ∧ Off None W w' := by
          intro W
          have h1 := Frame.rput_any W (u + j) bd (by omega) (by omega)
          rw [if_neg (show ¬ Frame.MaxBody < bd.size by show ¬ 2000 < bd.size; omega), ← hsbd] at h1
          rw [show ((u : Int) + (j : Int)) = ((u + j : Nat) : Int) by push_cast; rfl]
          exact h1
        have cP : ∀ dd os, Calls Tryz.prog 107 #[.int .u64 ((u : Int) + (j : Int)), .string bd] (Sort.grow (redrawn wr dd) os) fun e w'' => e = .returned (.tuple #[.string sb, .int .i64 0]) ∧ ∃ p : Regrown, w'' = Sort.grow (redrawn wr p.d) p.os := fun dd os => Calls.quietly (hput _)
        have i0 : (0 : Int) ≤ (j : Int) := by omega
        have i1 : (j : Int) < (b : Int) := by omega
        have i2 : (j : Int) < (synced : Int) := by omega
        have w1 : IntKind.u64.wrap (j : Int) = (j : Int) := IntWalk.u64_in _ (by omega)
        have w2 : IntKind.u64.wrap ((u : Int) + (j : Int)) = (u : Int) + (j : Int) := IntWalk.u64_in _ (by omega)
        have w3 : IntKind.i64.wrap ((y : Int) + (sb.size : Int)) = (y : Int) + (sb.size : Int) := IntWalk.i64_in _ (by omega)
        have w5 : IntKind.i64.wrap ((j : Int) + 1) = (j : Int) + 1 := IntWalk.i64_in _ (by omega)
        have HSTJ := Lib.hid hst; have HBD := Lib.hid hbd; have HSB := Lib.hid hsbd; have HSS := Lib.hid hss
        clear hst hbd hsbd hss hput hbl hpl hbr hcb hsz hp2
        go_wp2_with fail
        have k0 := cell_regrown b0
        have k3 := cell_regrown b3
        have kb := cell_regrown jb
        refine wp_region_quiet_below (by kernel_rfl) (by kernel_rfl) ?_
        repeat (quiet_step (first | exact cP _ _))
        refine wpQuiet_nil ?_
        intro w6 hw'
        have ho6 : Off None wr w6 := by
          obtain ⟨⟨dq, osq⟩, rfl⟩ := hw'
          exact Off.of_below (below_regrown wr dq osq)
        have HO6 := Lib.hid (HOR.out.trans ho6 (fun _ _ h => h))
        clear hw' k0 k3 kb cP ho6 b0 b3 jb k2
        go_wp2_with fail
        case roundEnd => exact ⟨⟨j + 1, hlt, by push_cast; rfl, by rw [HSTJ.out]; push_cast; rfl, HO6.out⟩, by simp [intOf]; omega⟩
      · have hje : j = synced := by omega
        subst hje
        have i2 : ¬ (j : Int) < (j : Int) := by omega
        have hyz : y = nz := by rw [HY.out, HNZ.out]
        subst hyz
        have hbr := HOR.out.at_ HB4.out (fun h => h)
        have HBR := Lib.hid hbr
        have HOW := Lib.hid (HO4.out.trans HOR.out (fun _ _ h => h))
        have k0 : wr.cell? ⟨q, 0, none⟩ = some (.pointer (some ⟨r, 0, none⟩)) := HOW.out.keep p0 (fun h => h)
        have k1 : wr.cell? ⟨bx, 0, none⟩ = some (.int .u64 u) := Heap.cell hbr 0
        have hbF : ¬ Fr bx := fun e => by have := (H.out.inR bx e).2; omega
        clear hbr HNZ
        go_wp2_with fail
        go_region_held3 (fun W => W.cell? ⟨q, 0, none⟩ = some (.pointer (some ⟨r, 0, none⟩)) ∧ W.cell? ⟨bx, 0, none⟩ = some (.int .u64 u))
          (first | exact ⟨k0, k1⟩ | exact ⟨j0, j1⟩ | exact ⟨i0, i1⟩)
          (first
            | (go_at_call 112; refine (HNM.out _).mono ?_; rintro e w5 ⟨rfl, ho5⟩; have ho5 := ((Off.refl None wr).drew).trans ho5 (fun _ _ h => h); have j0 := ho5.keep k0 (fun h => h); have j1 := ho5.keep k1 (fun h => h))
            | (go_at_call 114; refine (HDK.out w5 (HOW.out.trans ho5 (fun _ _ h => h))).mono ?_; rintro e w6 ⟨rfl, hd6, ho6⟩; have i0 := ho6.keep j0 hsl; have i1 := ho6.keep j1 hbF))
        have ho05 := HOW.out.trans ho5 (fun _ _ h => h)
        have h6 := ((H.out.quiet ho05).turned hd6 ho6).mono (G := Grow F w w6) (fun b _ hb => hb.imp id (fun x => ⟨Nat.le_trans ho05.size x.1, x.2⟩))
        have hof6 : Off F w w6 := (ho05.mono (fun _ _ h => h.elim) : Off F w w5).trans ((H.out.quiet ho05).off_disk ho6) (fun _ _ h => h)
        have H6 := Lib.hid h6; have HO6 := Lib.hid hof6
        have HB6 := Lib.hid (ho6.at_ (ho5.at_ HBR.out (fun h => h)) hbF)
        have hl6 := (HLIES.out.off ho05 (fun _ _ h => h)).off ho6 (fun b hb => (H.out.sepA b hb).1)
        have HL6 := Lib.hid hl6
        have hbn : ¬ Grow Fr w5 w6 bx := fun h => h.elim hbF (fun h => by have := Heap.lt HBR.out; have := ho5.size; omega)
        have HBN := Lib.hid hbn
        have HFR2 := Lib.hid (HFR.out : (a.front j).size = upTo a j)
        obtain ⟨G6, hG6⟩ : ∃ G6 : Nat → Prop, G6 = Grow Fr w5 w6 := ⟨_, rfl⟩
        clear h6 hof6 hd6 ho6 ho5 ho05 i0 i1 j0 j1 k0 k1 hl6 hbn k2 hG6 G6
        by_cases hee : er = 0
        · subst hee
          have hrs := HRES.out
          rw [if_pos rfl] at hrs
          have HRS := Lib.hid hrs; clear hrs HRES
          obtain ⟨pl, cl, hlv⟩ := H6.out.pre.row.shape
          have q1 : w6.cell? ⟨q, 1, none⟩ = some (.slice pl (k + 1) cl) := by rw [← hn, ← hlv]; exact Heap.cell H6.out.pre.core 1
          obtain ⟨gl, ox, c2, hpl, hgl, _, _, hob, hcell⟩ := H6.out.pre.row.cell (by omega)
          rw [hlv] at hpl
          obtain rfl : pl = some ⟨gl, ox, none⟩ := by cases hpl; rfl
          have q2 : w6.cell? ⟨q, 2, none⟩ = some (.int .i64 j) := Heap.cell H6.out.pre.core 2
          have b0 : w6.cell? ⟨bx, 0, none⟩ = some (.int .u64 u) := Heap.cell HB6.out 0
          have b3 : w6.cell? ⟨bx, 3, none⟩ = some (.slice (some ⟨gb, 0, none⟩) b c) := Heap.cell HB6.out 3
          obtain ⟨u0, u1, u2, u3, y0, y1, y2, y3, fz0, fz1, fz2, fz3⟩ := H6.out.pre.there (k := k) (by omega) hlv
          have hgb : gl ≠ bx := by
            intro e
            have h1 := H6.out.llt hob
            have h2 : gl < w.heap.size := by rw [hlv] at hob; cases hob; exact H.out.llt (by rw [hlv]; rfl)
            omega
          have hS2 : ∀ i0 i1 i2 i3 v0 v1 v2 v3, (((((w6.setCell ⟨gl, i0, none⟩ v0).setCell ⟨gl, i1, none⟩ v1).setCell ⟨gl, i2, none⟩ v2).setCell ⟨gl, i3, none⟩ v3)).drew.cell? ⟨q, 1, none⟩ = some (.slice (some ⟨gl, ox, none⟩) (k + 1) cl) ∧ (((((w6.setCell ⟨gl, i0, none⟩ v0).setCell ⟨gl, i1, none⟩ v1).setCell ⟨gl, i2, none⟩ v2).setCell ⟨gl, i3, none⟩ v3)).drew.cell? ⟨q, 2, none⟩ = some (.int .i64 j) ∧ (((((w6.setCell ⟨gl, i0, none⟩ v0).setCell ⟨gl, i1, none⟩ v1).setCell ⟨gl, i2, none⟩ v2).setCell ⟨gl, i3, none⟩ v3)).drew.cell? ⟨bx, 0, none⟩ = some (.int .u64 u) ∧ (((((w6.setCell ⟨gl, i0, none⟩ v0).setCell ⟨gl, i1, none⟩ v1).setCell ⟨gl, i2, none⟩ v2).setCell ⟨gl, i3, none⟩ v3)).drew.cell? ⟨bx, 3, none⟩ = some (.slice (some ⟨gb, 0, none⟩) b c) := by
            intro i0 i1 i2 i3 v0 v1 v2 v3
            have ho := (((((Off.refl (Only gl) w6).set i0 v0).set i1 v1).set i2 v2).set i3 v3).drew
            have hq : ¬ Only gl q := fun e => H6.out.pre.ne (by rw [hob, show q = gl from e])
            have hb2 : ¬ Only gl bx := fun e => hgb (show gl = bx from e.symm)
            exact ⟨ho.keep q1 hq, ho.keep q2 hq, ho.keep b0 hb2, ho.keep b3 hb2⟩
          have HLV := Lib.hid hlv; have HOB := Lib.hid hob
          clear hlv hob hpl hcell hgb
          have hw1 : IntKind.i64.wrap (k : Int) = (k : Int) := IntWalk.i64_in _ (by omega)
          have hi0 : (0 : Int) ≤ (k : Int) := by omega
          have hi1 : (k : Int) < (k : Int) + 1 := by omega
          have hj0 : (0 : Int) ≤ (j : Int) := by omega
          have hj1 : (j : Int) ≤ (b : Int) := by omega
          have hj2 : (j : Int) ≤ (c : Int) := by omega
          go_wp2_with fail
          go_region_held3 (fun W => W.cell? ⟨q, 1, none⟩ = some (.slice (some ⟨gl, ox, none⟩) (k + 1) cl) ∧ W.cell? ⟨q, 2, none⟩ = some (.int .i64 j) ∧ W.cell? ⟨bx, 0, none⟩ = some (.int .u64 u) ∧ W.cell? ⟨bx, 3, none⟩ = some (.slice (some ⟨gb, 0, none⟩) b c))
            (first | exact ⟨q1, q2, b0, b3⟩ | exact hS2 _ _ _ _ _ _ _ _)
            (first | fail)
          obtain ⟨w7, hw7⟩ : ∃ w7, w7 = (((w6.setCell ⟨gl, ox + k * 4, none⟩ (.int .u64 u)).setCell ⟨gl, ox + k * 4 + 1, none⟩ (.int .i64 j)).setCell ⟨gl, ox + k * 4 + 2, none⟩ (.int .i64 y)).setCell ⟨gl, ox + k * 4 + 3, none⟩ (.slice (some ⟨gb, 0, none⟩) j c) := ⟨_, rfl⟩
          rw [← hw7]
          have hfl : (a.front j).bodies.length = j := by show (a.bodies.take j).length = j; rw [List.length_take, ← HB.out]; omega
          have hrow : RowOk A w6 (a.front j, .slice (some ⟨gb, 0, none⟩) j c) := by
            refine ⟨some ⟨gb, 0, none⟩, c, by rw [hfl], by rw [hfl]; omega, hcm, fun i hi => ?_⟩
            have hi2 : i < (a.bodies.take j).length := hi
            obtain ⟨g3, e1, e2, e3, e4⟩ := HL6.out i (by rw [List.length_take] at hi2; omega)
            exact ⟨g3, e1, e2, e3, by show _ = some (Value.string (a.bodies.take j)[i]); rw [List.getElem_take]; exact e4⟩
          obtain ⟨h7, ho7⟩ := H6.out.setRow (k := k) (by omega) HLV.out (a.front j, .slice (some ⟨gb, 0, none⟩) j c) hrow
          have hce : rsegCells (a.front j, .slice (some ⟨gb, 0, none⟩) j c) = [.int .u64 u, .int .i64 j, .int .i64 y, .slice (some ⟨gb, 0, none⟩) j c] := by
            unfold rsegCells
            dsimp only
            rw [hfl, HFR2.out, ← HY.out, show (a.front j).first = u from HU.out.symm]
          rw [hce] at h7 ho7
          have h7 : RStoreAt w7 q r (rows.set k (a.front j, .slice (some ⟨gb, 0, none⟩) j c)) j lv A X1 (Grow Fr w5 w6) (Grow F w w6) := by rw [hw7]; exact h7
          have ho7 : Off (Grow F w w6) w6 w7 := by rw [hw7]; exact ho7
          have hs7 : w7.heap.size = w6.heap.size := by rw [hw7, Heap.set_size, Heap.set_size, Heap.set_size, Heap.set_size]
          have H7 := Lib.hid (h7.quiet ((Off.refl None w7).drew)); have HO7 := Lib.hid ho7; have HS7 := Lib.hid hs7
          clear h7 ho7 hs7 hce hrow hw7 q1 q2 b0 b3 y0 y1 y2 y3 fz0 fz1 fz2 fz3
          go_wp2_with fail
          go_ret
          rw [HRS.out]
          have hs6 := HO6.out.size; have hs8 := HS7.out
          refine ⟨rfl, (HO6.out.trans HO7.out (fun b hb h => h.elim id (fun h => by omega))).drew, _, _, H7.out.mono (fun b hb h => h.imp id (fun h => ⟨h.1, by show b < w7.heap.size; omega⟩))⟩
        · have hrs := HRES.out
          rw [if_neg hee] at hrs
          have HRS := Lib.hid hrs; clear hrs HRES
          have z1 : (er == 0) = false := by rw [beq_eq_false_iff_ne]; exact hee
          go_wp2_with fail
          go_ret
          rw [HRS.out]
          have hfin : RStoreAt w6 q r (rows.set k (a, (rows[k]'(by omega)).2)) j lv A X1 (Grow Fr w5 w6) (Grow F w w6) := by rw [HSET.out]; exact H6.out
          exact ⟨rfl, HO6.out, _, _, hfin⟩
end RefL
end Go.Proofs.YtnppdcegpojmbaaGreatDoor
