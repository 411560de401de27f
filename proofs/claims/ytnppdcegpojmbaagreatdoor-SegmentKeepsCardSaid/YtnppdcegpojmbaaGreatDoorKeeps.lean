/- The walk of SegmentKeeps. -/
import Derived.Test.YtnppdcegpojmbaaGreatDoorKMem
import Derived.Deep.CutRange
namespace Go.Proofs.YtnppdcegpojmbaaGreatDoor
open Go Go.RowKit Go.Shelf Go.Sort
namespace Law
open Words
set_option maxHeartbeats 2000000 in
set_option maxRecDepth 100000 in
theorem keeps_walk (w : World) (pa : Option Addr) (na ca : Nat) (O : Nat → Int) (T : Nat → ByteArray) (nn : Int) (kd : Int) (Af : Option Addr) (cf : Nat) (fs : List Int)
    (hT : ∀ i, i < na → ∃ a, pa = some a ∧ w.cell? (a.add (i * 3)) = some (.int .i64 (O i)) ∧ w.cell? ⟨(a.add (i * 3)).block, (a.add (i * 3)).off + 2, none⟩ = some (.string (T i)))
    (hO : ∀ i, i < na → (Lit.int .i64 (O i)).wf = true) (hs : ∀ i, i < na → (T i).size ≤ 140737488355328) (hn : na ≤ 140737488355328) (hnn : (Lit.int .i64 nn).wf = true)
    (hfs : ∀ i (hi : i < fs.length), ∃ a, Af = some a ∧ w.cell? (a.add i) = some (.int .i64 fs[i])) (hfb : ∀ x ∈ fs, -9223372036854775808 ≤ x ∧ x ≤ 9223372036854775807) (hG : Glob w.heap.size w) :
    Calls Tryz.prog 8 #[.slice pa na ca, .int .i64 nn, .agg #[.int .i64 kd, .slice Af fs.length cf]] w fun e w' => e = .returned (.bool true) ∧ Below w.heap.size w w' := by
  have HG := Lib.hid hG; clear hG
  have HT := Lib.hid hT; clear hT
  have HO := Lib.hid hO; clear hO
  have HS := Lib.hid hs; clear hs
  have HFS := Lib.hid hfs; clear hfs
  have HFB := Lib.hid hfb; clear hfb
  obtain ⟨i0, hi0, hz0, hz1, hz2⟩ := info_parts' str_info
  have I0 := Lib.hid hi0; clear hi0
  have Z0 := Lib.hid hz0; clear hz0
  have Z1 := Lib.hid hz1; clear hz1
  have Z2 := Lib.hid hz2; clear hz2
  go_enter Tryz.func8, Tryz.ntmps8
  go_wp2_with fail
  obtain ⟨wb, hwb⟩ : ∃ wb, wb = w.alloc (.cells #[.int .i64 kd, .slice Af fs.length cf] 63) := ⟨_, rfl⟩
  obtain ⟨bk, hbk⟩ : ∃ bk, bk = w.heap.size := ⟨_, rfl⟩
  have hob : Off None w wb := by rw [hwb]; exact (Off.refl None w).alloc _
  have hkp : wb.heap[bk]? = some (.cells #[.int .i64 kd, .slice Af fs.length cf] 63 (0, 0)) := by rw [hwb, hbk]; exact Heap.alloc_new w _
  rw [← hwb, ← hbk]
  have hbkl : bk < wb.heap.size := Heap.lt hkp
  have HGb := Lib.hid (Glob.mk (HG.out.none hob).crc (HG.out.none hob).pow ⟨Nat.lt_of_lt_of_le HG.out.le.1 hob.size, Nat.lt_of_lt_of_le HG.out.le.2 hob.size⟩ : Glob wb.heap.size wb)
  have htb : ∀ i, i < na → ∃ a, pa = some a ∧ (a.add (i * 3)).block < wb.heap.size ∧ wb.cell? (a.add (i * 3)) = some (.int .i64 (O i)) ∧ wb.cell? ⟨(a.add (i * 3)).block, (a.add (i * 3)).off + 2, none⟩ = some (.string (T i)) := by
    intro i hi
    obtain ⟨a, h1, h2, h3⟩ := HT.out i hi
    exact ⟨a, h1, Nat.lt_of_lt_of_le (Heap.block_lt h2) hob.size, hob.keep h2 (fun h => h), hob.keep h3 (fun h => h)⟩
  have HTB := Lib.hid htb
  have hfsb : ∀ i (hi : i < fs.length), ∃ a, Af = some a ∧ (a.add i).block < wb.heap.size ∧ wb.cell? (a.add i) = some (.int .i64 fs[i]) := by
    intro i hi
    obtain ⟨a, h1, h2⟩ := HFS.out i hi
    exact ⟨a, h1, Nat.lt_of_lt_of_le (Heap.block_lt h2) hob.size, hob.keep h2 (fun h => h)⟩
  have HFB2 := Lib.hid hfsb
  have HKP := Lib.hid hkp
  have HOB := Lib.hid hob
  clear htb hfsb hkp hob hwb hbk HT HFS HG
  refine (shown_any wb wb.heap.size HGb.out (Nat.le_refl _)).mono ?_
  rintro e w0 ⟨rfl, ho0⟩
  have HO0 := Lib.hid ho0; clear ho0
  go_wp2_with fail
  refine (light_any w0 pa na ca T (fun i hi => by
    obtain ⟨a, h1, h2, _, h3⟩ := HTB.out i hi
    exact ⟨a, h1, HO0.out.keep h3 (fun h => by have h : wb.heap.size ≤ (a.add (i * 3)).block := h; omega)⟩) HS.out hn).mono ?_
  rintro e w1 ⟨rfl, ho1⟩
  have HO1 := Lib.hid (HO0.out.trans ho1 (fun _ _ h => h.elim) : Off (fun b => wb.heap.size ≤ b) wb w1)
  clear ho1 HO0
  go_wp2_with fail
  refine (DiskW.new_any w1 1000000 (by omega)).mono ?_
  rintro e w2 ⟨d, rfl, hdk, ho2⟩
  have HDK := Lib.hid hdk; clear hdk
  have hle1 : wb.heap.size ≤ w1.heap.size := HO1.out.size
  have HO2 := Lib.hid (HO1.out.trans ho2 (fun _ _ h => h.elim) : Off (fun b => wb.heap.size ≤ b) wb w2)
  clear ho2 HO1
  have fin : ∀ (w' : World), Off (fun b => wb.heap.size ≤ b) wb w' → Below w.heap.size w w' := fun w' ho =>
    below_of ((HOB.out.mono (fun _ _ h => h.elim) : Off (fun b => w.heap.size ≤ b) w wb).trans ho (fun b _ h => Nat.le_trans HOB.out.size h))
  have FIN := Lib.hid fin; clear fin
  cases hlb : lightB T na with
  | false =>
    go_wp2_with fail
    go_ret
    exact ⟨rfl, FIN.out _ HO2.out⟩
  | true =>
    have hlt : na ≤ 60 ∧ sumT T na ≤ 1000 := by
      unfold lightB at hlb
      rw [Bool.and_eq_true, decide_eq_true_eq, decide_eq_true_eq] at hlb
      exact hlb
    obtain ⟨hn60, hsum⟩ := hlt
    have hsz : ∀ i, i < na → (T i).size ≤ 1000 := fun i hi => Nat.le_trans (sumT_at T na i hi) hsum
    have HSZ := Lib.hid hsz
    clear hlb hsum hsz
    go_wp2_with fail
    refine (KPre.open_new (R := 1000000) w2 d wb.heap.size _ HDK.out (by omega) (fun b hb => ⟨Nat.le_trans hle1 hb.1, hb.2⟩) (HGb.out.off HO2.out (fun _ h => h)) HO2.out.size).mono ?_
    rintro e w3 ⟨lg, rfl, h3, ho3⟩
    have H3 := Lib.hid h3; clear h3
    have HO3 := Lib.hid (HO2.out.trans ho3 (fun b _ hb => Nat.le_trans hle1 hb.1) : Off (fun b => wb.heap.size ≤ b) wb w3)
    clear HO2 ho3 HDK hle1
    obtain ⟨q, hq, hpick⟩ := pick_nat nn 80 hnn (by omega) (by omega)
    have HP := Lib.hid hpick; clear hpick
    go_wp2_with fail
    refine (HP.out w3).mono ?_
    rintro e w4 ⟨rfl, rfl⟩
    clear HP
    go_wp2_with fail
    refine (H3.out.stop q (by omega)).mono ?_
    rintro e w5 ⟨rfl, h5, ho5⟩
    have H5 := Lib.hid h5; clear h5 H3
    have HO5 := Lib.hid (HO3.out.trans ho5 (fun b _ hb => hb) : Off (fun b => wb.heap.size ≤ b) wb w5)
    clear HO3 ho5
    go_upto_block 0 with fail
    obtain ⟨w6, hw6⟩ : ∃ w6, w6 = w5.alloc (.cells #[.slice none 0 0] 22) := ⟨_, rfl⟩
    obtain ⟨g0, hg0⟩ : ∃ g0, g0 = w5.heap.size := ⟨_, rfl⟩
    have ho6 : Off None w5 w6 := by rw [hw6]; exact (Off.refl None w5).alloc _
    have hb6 : w6.heap[g0]? = some (.cells #[.slice none 0 0] 22 (0, 0)) := by rw [hw6, hg0]; exact Heap.alloc_new w5 _
    rw [← hw6, ← hg0]
    have h56 : wb.heap.size ≤ w5.heap.size := HO5.out.size
    have hinv : KInv wb.heap.size wb w6 lg d 0 (.slice none 0 0) (.slice (some ⟨g0, 0, none⟩) 1 1) (.int .i64 0) := by
      refine ⟨fun _ => False, g0, none, 0, [], 1, [[]], [.slice none 0 0], 0, 2, ⟨[], 1, [], []⟩, rfl, rfl, rfl, ⟨fun i hi => absurd hi (by simp), Nat.zero_le _, by omega, ?_, ?_, fun h => h, fun _ h => h.elim⟩, ?_, Live.zero, Nat.zero_le _, Nat.le_refl _, fun t ht => by rw [List.mem_singleton.1 ht]; exact Nat.zero_le _, Nat.zero_le _, by omega, HO5.out.trans ho6 (fun _ _ h => h.elim)⟩
      · exact ⟨rfl, .inr ⟨g0, 1, _, rfl, by rw [hg0]; exact h56, hb6, Nat.le_refl _, by decide, rfl, rfl⟩⟩
      · intro i hi
        have hi : i < 1 := hi
        obtain rfl : i = 0 := by omega
        exact ⟨none, 0, rfl, fun j hj => absurd hj (by simp)⟩
      · refine H5.out.keep ho6 (fun b hb => ?_) (fun _ h => h.elim)
        rcases hb with hb | hb
        · exact hb.elim
        · right
          rw [hb, hg0]
          exact ⟨Nat.le_refl _, by rw [hw6, Heap.alloc_size]; omega⟩
    have HINV := Lib.hid hinv
    clear hinv hb6 ho6 hw6 hg0 h56 H5 HO5
    go_cut [12, 13, 14, 15, 16, 17] from 57 to 146 (fun vb vs vd _ _ _ wx => KEnd wb.heap.size wb wx d vb vs vd)
    case first =>
      go_wp2_with fail
      go_loopw [12, 13, 14, 15] (fun vb vs vd i wr => ∃ k : Nat, k ≤ na ∧ i = .int .i64 k ∧ KInv wb.heap.size wb wr lg d k vb vs vd) (fun _ _ _ i _ => na - (intOf i).toNat)
      case atStart => exact ⟨0, Nat.zero_le _, rfl, HINV.out⟩
      case round =>
        obtain ⟨wr0, hwr0⟩ : ∃ wr0, wr0 = wr := ⟨_, rfl⟩
        subst hwr0
        obtain ⟨k, hk, rfl, As, gs, pb, cb, Bt, cs, St, sv, du, N, s, rfl, rfl, rfl, hmem, hheld, hlive, hbk, hsk, htk, hfk, hN, ho⟩ := hrel
        have HM := Lib.hid hmem; have HH := Lib.hid hheld; have HL := Lib.hid hlive; have HO' := Lib.hid ho; have HTK := Lib.hid htk
        clear hmem hheld hlive ho htk HINV
        by_cases hlt : k < na
        · obtain ⟨a, hpa, hab, hcO, hcT⟩ := HTB.out k hlt
          subst hpa
          have hcO' := HO'.out.keep hcO (fun h => by have h : wb.heap.size ≤ (a.add (k * 3)).block := h; omega)
          have hcT' := HO'.out.keep hcT (fun h => by have h : wb.heap.size ≤ (a.add (k * 3)).block := h; omega)
          obtain ⟨op, hop, hpick⟩ := pick_nat (O k) 9 (HO.out k hlt) (by omega) (by omega)
          have HP := Lib.hid (hpick wr0)
          have hi0 : (0 : Int) ≤ (k : Int) := by omega
          have hi1 : (k : Int) < (na : Int) := by omega
          have hTs := HSZ.out k hlt
          obtain ⟨t, ht⟩ : ∃ t, t = T k := ⟨_, rfl⟩
          rw [← ht] at hcT' hTs
          clear hpick hcO hcT ht
          go_wp2_with fail
          refine HP.out.mono ?_
          rintro e w7 ⟨rfl, rfl⟩
          clear HP hcO'
          go_upto_block 2 with fail
          go_cut [12, 13, 16, 17] from 57 to 146 (fun vb vs _ vf wx => KOut wb.heap.size wb wx lg d k du vb vs vf)
          case first =>
            by_cases h6 : op < 6
            · have h6i : (op : Int) < 6 := by omega
              go_wp2_with fail
              have hbl : Bt.length ≤ 60 := by omega
              have hreads : ∀ W : World, Off None w7 W → Reads W w7.heap.size 1 pb Bt.length (cellsT Bt) := by
                intro W hW
                refine ⟨by rw [cellsT_len, Nat.mul_one], fun h0 => ?_⟩
                obtain ⟨ad, e1, _, e3, _⟩ := HM.out.bodies 0 h0
                refine ⟨ad, e1, by rw [block_of_add] at e3; exact e3, fun j u hu => ?_⟩
                have hj : j < Bt.length := by rw [← cellsT_len]; exact (List.getElem?_eq_some_iff.1 hu).1
                obtain ⟨ad', f1, _, f3, f4⟩ := HM.out.bodies j hj
                rw [e1] at f1
                cases f1
                rw [hW.keep f4 (fun h => h), cellsT_at hj hu]
              have own1 : (w7.drew.alloc (.cells #[] 9)).ownsRow w7.heap.size 9 1 (.slice (some ⟨w7.heap.size, 0, none⟩) 0 0) 0 [] :=
                ⟨rfl, .inr ⟨w7.heap.size, 0, #[], rfl, Nat.le_refl _, Heap.alloc_new w7.drew _, Nat.le_refl _, by decide, rfl, rfl⟩⟩
              have own2 : ((w7.drew.alloc (.cells #[] 9)).alloc (.cells #[.string t] 9)).ownsRow w7.heap.size 9 1 (.slice (some ⟨w7.heap.size, 0, none⟩) 0 0) 0 [] := ((Off.refl None _).alloc _).row own1 (fun _ _ h => h)
              have hsz3 : (w7.drew.alloc (.cells #[.string t] 9)).heap.size = w7.heap.size + 1 := Heap.alloc_size _ _
              have own3 : ((w7.drew.alloc (.cells #[.string t] 9)).alloc (.cells #[] 9)).ownsRow w7.heap.size 9 1 (.slice (some ⟨w7.heap.size + 1, 0, none⟩) 0 0) 0 [] :=
                ⟨rfl, .inr ⟨w7.heap.size + 1, 0, #[], rfl, by omega, by rw [← hsz3]; exact Heap.alloc_new _ _, Nat.le_refl _, by decide, rfl, rfl⟩⟩
              have rd1 := hreads _ ((Off.refl None w7).drew.alloc (.cells #[] 9))
              have rd2 := hreads _ (((Off.refl None w7).drew.alloc (.cells #[] 9)).alloc (.cells #[.string t] 9))
              have rd3 := hreads _ (((Off.refl None w7).drew.alloc (.cells #[.string t] 9)).alloc (.cells #[] 9))
              have OWN1 := Lib.hid own1; have OWN2 := Lib.hid own2; have OWN3 := Lib.hid own3; have RD1 := Lib.hid rd1; have RD2 := Lib.hid rd2; have RD3 := Lib.hid rd3
              have tb2 : ((w7.drew.alloc (.cells #[] 9)).alloc (.cells #[.string t] 9)).heap[w7.heap.size + 1]? = some (.cells #[.string t] 9 (0, 0)) := by
                have h1 := Heap.alloc_new (w7.drew.alloc (.cells #[] 9)) (.cells #[.string t] 9)
                rw [Heap.alloc_size] at h1
                exact h1
              have tb3 : ((w7.drew.alloc (.cells #[.string t] 9)).alloc (.cells #[] 9)).heap[w7.heap.size]? = some (.cells #[.string t] 9 (0, 0)) := Heap.alloc_old (Heap.alloc_new w7.drew _) _
              have TB2 := Lib.hid tb2; have TB3 := Lib.hid tb3
              have hctE : (w7.alloc (.cells #[] 9)).cell? ⟨(a.add (k * 3)).block, (a.add (k * 3)).off + 2, none⟩ = some (.string t) := ((Off.refl None w7).alloc _).keep hcT' (fun h => h)
              clear hreads own1 own2 own3 rd1 rd2 rd3 hsz3 tb2 tb3
              go_cut [12] from 57 to 146 (fun vb2 wx => ∃ p c, vb2 = .slice p (Bt.length + 1) c ∧ Bt.length + 1 ≤ c ∧ c ≤ 9223372036854775807 ∧ Txt (fun b => w7.heap.size ≤ b) wx p (Bt ++ [t]) ∧ Off None w7 wx)
              case first =>
                go_region_law (first
                  | (refine step_append_any _ (by rfl) (.tmp 74) (.tmp 75) _ (by rfl) w7.heap.size 9 i0 _ 1 16 Tryz.underlying22 I0.out Z0.out Z1.out Z2.out (by rfl) (by omega) (.slice (some ⟨w7.heap.size, 0, none⟩) 0 0) 0 [] (by rfl) ?o1 w7.heap.size pb Bt.length cb (cellsT Bt) (by rfl) ?r1 (cellsT_one Bt) ?l1 ?l2 ?l3 ?_
                     case o1 => first | exact OWN1.out | exact OWN2.out
                     case r1 => first | exact RD1.out | exact RD2.out
                     case l1 => unfold maxLen; omega
                     case l2 => omega
                     case l3 => first | exact ((Off.refl None w7).drew.alloc _).size | exact (((Off.refl None w7).drew.alloc _).alloc _).size
                     intro v1 w8 hown1 hg1 hat1
                     have ho8 : Off None w7 w8 := by
                       first
                       | exact (((Off.refl None w7).drew.alloc _).grown hg1 (fun k hk => .inr (by cases hk; exact Nat.le_refl _)))
                       | exact ((((Off.refl None w7).drew.alloc _).alloc _).grown hg1 (fun k hk => .inr (by cases hk; first | exact Nat.le_refl _ | exact Nat.le_succ _)))
                     have hct8 := ho8.keep hcT' (fun h => h))
                  | (refine step_append_any _ (by rfl) (.tmp 74) (.tmp 75) _ (by rfl) w7.heap.size 9 i0 _ 1 16 Tryz.underlying22 I0.out Z0.out Z1.out Z2.out (by rfl) (by omega) (.slice (some ⟨w7.heap.size + 1, 0, none⟩) 0 0) 0 [] (by rfl) ?o1 w7.heap.size pb Bt.length cb (cellsT Bt) (by rfl) ?r1 (cellsT_one Bt) ?l1 ?l2 ?l3 ?_
                     case o1 => exact OWN3.out
                     case r1 => exact RD3.out
                     case l1 => unfold maxLen; omega
                     case l2 => omega
                     case l3 => exact (((Off.refl None w7).drew.alloc _).alloc _).size
                     intro v1 w8 hown1 hg1 hat1
                     have ho8 : Off None w7 w8 := by
                       first
                       | exact (((Off.refl None w7).drew.alloc _).grown hg1 (fun k hk => .inr (by cases hk; exact Nat.le_refl _)))
                       | exact ((((Off.refl None w7).drew.alloc _).alloc _).grown hg1 (fun k hk => .inr (by cases hk; first | exact Nat.le_refl _ | exact Nat.le_succ _)))
                     have hct8 := ho8.keep hcT' (fun h => h))
                  | (refine step_append_any _ (by rfl) (.tmp 76) (.tmp 82) _ (by rfl) w7.heap.size 9 i0 _ 1 16 Tryz.underlying22 I0.out Z0.out Z1.out Z2.out (by rfl) (by omega) v1 (0 + Bt.length) ([] ++ cellsT Bt) (by rfl) ?o2 _ (some ⟨w8.heap.size, 0, none⟩) 1 1 (cellsT [t]) (by rfl) (reads_one ?r2) (cellsT_one [t]) ?l1 ?l2 ?l3 ?_
                     case o2 => exact ((Off.refl None w8).alloc _).row hown1 (fun _ _ h => h)
                     case r2 => exact Heap.alloc_new w8 _
                     case l1 => unfold maxLen; omega
                     case l2 => omega
                     case l3 => exact (ho8.alloc _).size
                     intro v2 w9 hown2 hg2 hat2)
                  | (refine step_append_any _ (by rfl) (.tmp 76) (.tmp 82) _ (by rfl) w7.heap.size 9 i0 _ 1 16 Tryz.underlying22 I0.out Z0.out Z1.out Z2.out (by rfl) (by omega) v1 (0 + Bt.length) ([] ++ cellsT Bt) (by rfl) ?o2 _ (some ⟨w7.heap.size, 0, none⟩) 1 1 (cellsT [t]) (by rfl) (reads_one ?r2) (cellsT_one [t]) ?l1 ?l2 ?l3 ?_
                     case o2 => exact hown1
                     case r2 => exact Heap.grown hg1 TB3.out (by intro e; have e : some (w7.heap.size + 1) = some w7.heap.size := e; simp at e)
                     case l1 => unfold maxLen; omega
                     case l2 => omega
                     case l3 => exact ho8.size
                     intro v2 w9 hown2 hg2 hat2)
                  | (refine step_append_any _ (by rfl) (.tmp 76) (.tmp 82) _ (by rfl) w7.heap.size 9 i0 _ 1 16 Tryz.underlying22 I0.out Z0.out Z1.out Z2.out (by rfl) (by omega) v1 (0 + Bt.length) ([] ++ cellsT Bt) (by rfl) ?o2 _ (some ⟨w7.heap.size + 1, 0, none⟩) 1 1 (cellsT [t]) (by rfl) (reads_one ?r2) (cellsT_one [t]) ?l1 ?l2 ?l3 ?_
                     case o2 => exact hown1
                     case r2 => exact Heap.grown hg1 TB2.out (by intro e; have e : some w7.heap.size = some (w7.heap.size + 1) := e; simp at e)
                     case l1 => unfold maxLen; omega
                     case l2 => omega
                     case l3 => exact ho8.size
                     intro v2 w9 hown2 hg2 hat2))
                all_goals
                  have hq9 : ∃ p c, v2 = .slice p (Bt.length + 1) c ∧ Bt.length + 1 ≤ c ∧ c ≤ 9223372036854775807 ∧ Txt (fun b => w7.heap.size ≤ b) w9 p (Bt ++ [t]) ∧ Off None w7 w9 := by
                    rw [List.nil_append, ← cellsT_append] at hown2
                    obtain ⟨p, c, h1, h2, h3, h4⟩ := row_txt hown2
                    have hl : (Bt ++ [t]).length = Bt.length + 1 := by simp
                    rw [hl] at h1 h2
                    have f2 : ∀ k, v1.ownBlock = some k → None k ∨ w7.heap.size ≤ k := fun k hk => .inr (by
                      rcases hat1 with e | e <;> rw [e] at hk <;> cases hk <;> first | exact Nat.le_refl _ | exact Nat.le_succ _ | exact ((Off.refl None w7).alloc _).size | exact (((Off.refl None w7).alloc _).alloc _).size)
                    exact ⟨p, c, h1, h2, h3, h4, by first | exact (ho8.alloc _).grown hg2 f2 | exact ho8.grown hg2 f2⟩
                  have HQ9 := Lib.hid hq9
                  clear hq9 hown2 hg2 hat2 hown1 hg1 hat1 ho8 hct8
                  go_wp2_with fail
                  go_meet
                  exact HQ9.out
              case rest =>
                obtain ⟨p2, c2, rfl, hq1, hq2, hq3, hq4⟩ := hcut
                have HQ3 := Lib.hid hq3; have HQ4 := Lib.hid hq4
                have hct8 := hq4.keep hcT' (fun h => h)
                clear hq3 hq4 OWN1 OWN2 OWN3 RD1 RD2 RD3 TB2 TB3 hctE
                have hblk := KHeld.blocks HH.out
                have hn7 := hblk.2
                have HRW := Lib.hid (HQ4.out.row HM.out.row (fun _ _ h => h))
                have hgsn : wb.heap.size ≤ gs := (HM.out.row.lt gs rfl).1
                have hst60 : St.length ≤ 61 := by omega
                have HBLK := Lib.hid hblk
                have hc7 : wb.heap.size ≤ wc.heap.size := Nat.le_trans hn7 HQ4.out.size
                clear hblk
                go_wp2_with (at_builtin; refine wpList_push rfl (.tmp 84) (.tmp 86) rfl elemRow wb.heap.size (.slice (some ⟨gs, 0, none⟩) St.length cs) St.length sv rfl HRW.out #[.slice p2 (Bt.length + 1) c2] rfl rfl ?c1 ?c2 ?c3 ?_)
                case c1 => first | rfl | (intro u hu; simp at hu; rw [hu]; rfl)
                case c2 => omega
                case c3 => exact hc7
                intro g10 cap10 w10 hrow10 hp10
                have hct10 := hp10.off.keep hct8 (fun e => by have e : some gs = some (a.add (k * 3)).block := e; injection e with e; omega)
                have hm10 := HM.out.push HBLK.out.1 hn7 HQ4.out HQ3.out hq1 hq2 hrow10 hp10
                have hh10 := KHeld.pushed HH.out HM.out.low hgsn HQ4.out hp10
                have ho10 : Off (fun b => wb.heap.size ≤ b) wb w10 := (HO'.out.trans HQ4.out (fun _ _ h => h.elim) : Off (fun b => wb.heap.size ≤ b) wb wc).trans hp10.off (fun b _ hk => by cases hk; exact hgsn)
                have hal : s.all.length = Bt.length := by rw [HL.out.all, bytesL_len]
                have hend := HL.out.fine.sound.ends
                have hsum := HL.out.fine.sound.sum_le
                rw [hal] at hend hsum
                have hpl := Frame.putF_len s.act.end_ t.data.toList (by omega) (show t.data.toList.length ≤ 2000 by simp; omega)
                have htl : t.data.toList.length = t.size := by simp
                have hap := hh10.append t (by omega) (by omega) (by omega) (by omega)
                have HAP := Lib.hid hap; have HM10 := Lib.hid hm10; have HO10 := Lib.hid ho10
                clear hap hm10 hh10 ho10 hal hend hsum hpl htl hrow10 hp10 HRW hct8 hcT'
                go_wp2_with fail
                refine HAP.out.mono ?_
                rintro e w11 ⟨⟨q2, er, rfl, hcase⟩, ho11⟩
                have hm11 := HM10.out.off ho11 (fun b hb h => h.2 (.inl hb)) (fun h => h.2 (.inr rfl))
                have ho11' : Off (fun b => wb.heap.size ≤ b) wb w11 := HO10.out.trans ho11 (fun b _ h => h.1)
                have hBl : (Bt ++ [t]).length = Bt.length + 1 := by simp
                have hSl : (St ++ [Bt ++ [t]]).length = St.length + 1 := by simp
                have hSa : ∀ r ∈ St ++ [Bt ++ [t]], r.length ≤ k + 1 := fun r hr => by
                  rcases List.mem_append.1 hr with hr | hr
                  · have := HTK.out r hr; omega
                  · rw [List.mem_singleton.1 hr, hBl]; omega
                rcases hcase with ⟨rfl, hd⟩ | ⟨rfl, hh⟩
                · have hend : KEnd wb.heap.size wb w11 d (.slice p2 (Bt.length + 1) c2) (.slice (some ⟨g10, 0, none⟩) (St.length + 1) cap10) (.int .i64 du) := by
                    refine ⟨_, g10, p2, c2, Bt ++ [t], cap10, St ++ [Bt ++ [t]], _, du, N + 1, by rw [hBl], by rw [hSl], rfl, hm11, hd.mono (fun x hx => ?_), by omega, by omega, fun r hr => by have := hSa r hr; omega, by omega, ho11'⟩
                    rw [hx, bytesL_snoc, rows_snoc, bytesL_snoc]
                    exact HL.out.lost _
                  have HEND := Lib.hid hend
                  clear hend hd hm11 ho11' ho11 hBl hSl hSa
                  go_wp2_with fail
                  go_meet
                  exact .inl ⟨rfl, HEND.out⟩
                · have hinv2 : KInv wb.heap.size wb w11 lg d (k + 1) (.slice p2 (Bt.length + 1) c2) (.slice (some ⟨g10, 0, none⟩) (St.length + 1) cap10) (.int .i64 du) := by
                    refine ⟨_, g10, p2, c2, Bt ++ [t], cap10, St ++ [Bt ++ [t]], _, du, N + 1, _, by rw [hBl], by rw [hSl], rfl, hm11, hh, ?_, by omega, by omega, hSa, by show s.full.length ≤ _; omega, by omega, ho11'⟩
                    rw [bytesL_snoc, rows_snoc, bytesL_snoc]
                    exact HL.out.app _ hh.sound
                  have HINV2 := Lib.hid hinv2
                  clear hinv2 hh hm11 ho11' ho11 hBl hSl hSa
                  go_wp2_with fail
                  go_meet
                  exact .inr ⟨rfl, du, Nat.le_refl _, HINV2.out⟩
            · have h6i : ¬ (op : Int) < 6 := by omega
              have hn7 := (KHeld.blocks HH.out).2
              have hdl := HL.out.dur_le
              rw [bytesL_len] at hdl
              by_cases h66 : op = 6
              · have e66 : (op : Int) = 6 := by omega
                go_wp2_with fail
                refine HH.out.sync.mono ?_
                rintro e w8 ⟨⟨er, rfl, hcase⟩, ho8⟩
                have hm8 := HM.out.off ho8 (fun b hb h => h.2 (.inl hb)) (fun h => h.2 (.inr rfl))
                have ho8' : Off (fun b => wb.heap.size ≤ b) wb w8 := HO'.out.trans ho8 (fun b _ h => h.1)
                rcases hcase with ⟨rfl, hd⟩ | ⟨rfl, hh⟩
                · have hend : KEnd wb.heap.size wb w8 d (.slice pb Bt.length cb) (.slice (some ⟨gs, 0, none⟩) St.length cs) (.int .i64 du) :=
                    ⟨As, gs, pb, cb, Bt, cs, St, sv, du, N, rfl, rfl, rfl, hm8, hd.mono (fun x hx => by rw [hx]; exact HL.out.fine), by omega, by omega, fun r hr => by have := HTK.out r hr; omega, by omega, ho8'⟩
                  have HEND := Lib.hid hend
                  clear hend hd hm8 ho8' ho8
                  go_wp2_with fail
                  go_meet
                  exact .inl ⟨rfl, HEND.out⟩
                · have hinv2 : KInv wb.heap.size wb w8 lg d (k + 1) (.slice pb Bt.length cb) (.slice (some ⟨gs, 0, none⟩) St.length cs) (.int .i64 ((bytesL Bt).length : Nat)) := by
                    rcases hh with ⟨hh, he⟩ | hh
                    · exact ⟨As, gs, pb, cb, Bt, cs, St, sv, _, N, s, rfl, rfl, rfl, hm8, hh, HL.out.sync_same he, by omega, by omega, fun r hr => by have := HTK.out r hr; omega, by omega, by omega, ho8'⟩
                    · exact ⟨As, gs, pb, cb, Bt, cs, St, sv, _, N, s.sync, rfl, rfl, rfl, hm8, hh, HL.out.sync, by omega, by omega, fun r hr => by have := HTK.out r hr; omega, by show s.full.length ≤ _; omega, by omega, ho8'⟩
                  have HINV2 := Lib.hid hinv2
                  clear hinv2 hh hm8 ho8' ho8
                  go_wp2_with fail
                  go_meet
                  exact .inr ⟨rfl, _, by rw [bytesL_len]; exact hdl, HINV2.out⟩
              · by_cases h77 : op = 7
                · have e66 : ¬ (op : Int) = 6 := by omega
                  have e77 : (op : Int) = 7 := by omega
                  go_wp2_with fail
                  refine (HH.out.undo (by omega)).mono ?_
                  rintro e w8 ⟨⟨er, rfl, hcase⟩, ho8⟩
                  have hm8 := HM.out.off ho8 (fun b hb h => h.2 (.inl hb)) (fun h => h.2 (.inr rfl))
                  have ho8' : Off (fun b => wb.heap.size ≤ b) wb w8 := HO'.out.trans ho8 (fun b _ h => h.1)
                  rcases hcase with ⟨rfl, hd⟩ | ⟨rfl, hh⟩
                  · have hend : KEnd wb.heap.size wb w8 d (.slice pb Bt.length cb) (.slice (some ⟨gs, 0, none⟩) St.length cs) (.int .i64 du) :=
                      ⟨As, gs, pb, cb, Bt, cs, St, sv, du, N + 1, rfl, rfl, rfl, hm8, hd.mono (fun x hx => by rw [hx]; exact HL.out.fine), by omega, by omega, fun r hr => by have := HTK.out r hr; omega, by omega, ho8'⟩
                    have HEND := Lib.hid hend
                    clear hend hd hm8 ho8' ho8
                    go_wp2_with fail
                    go_meet
                    exact .inl ⟨rfl, HEND.out⟩
                  · have hdb : (Bt.take du).length = du := by rw [List.length_take]; omega
                    have hbt : bytesL (Bt.take du) = (bytesL Bt).take du := List.map_take
                    have hcap := hm8.cap
                    have hm8' : KMem wb.heap.size As gs w8 pb cb (Bt.take du) cs St sv := ⟨hm8.bodies.take du, by omega, hm8.capb, hm8.row, hm8.each, hm8.apart, hm8.low⟩
                    have hinv2 : KInv wb.heap.size wb w8 lg d (k + 1) (.slice pb du cb) (.slice (some ⟨gs, 0, none⟩) St.length cs) (.int .i64 (du : Nat)) := by
                      rcases hh with ⟨hh, he⟩ | hh
                      · exact ⟨As, gs, pb, cb, Bt.take du, cs, St, sv, du, N + 1, s, by rw [hdb], rfl, rfl, hm8', hh, by rw [hbt]; exact HL.out.cut_same he, by omega, by omega, fun r hr => by have := HTK.out r hr; omega, by omega, by omega, ho8'⟩
                      · exact ⟨As, gs, pb, cb, Bt.take du, cs, St, sv, du, N + 1, s.cut, by rw [hdb], rfl, rfl, hm8', hh, by rw [hbt]; exact HL.out.cut hh.sound, by omega, by omega, fun r hr => by have := HTK.out r hr; omega, by show s.full.length ≤ _; omega, by omega, ho8'⟩
                    have HINV2 := Lib.hid hinv2
                    have d0 : (0 : Int) ≤ (du : Int) := by omega
                    have d1 : (du : Int) ≤ (cb : Int) := by omega
                    clear hinv2 hh hm8 hm8' ho8' ho8 hbt hdb
                    go_wp2_with fail
                    go_meet
                    exact .inr ⟨rfl, _, Nat.le_refl _, HINV2.out⟩
                · have e66 : ¬ (op : Int) = 6 := by omega
                  have e77 : ¬ (op : Int) = 7 := by omega
                  go_wp2_with fail
                  refine (HH.out.roll (by omega) (by omega)).mono ?_
                  rintro e w8 ⟨⟨er, rfl, hcase⟩, ho8⟩
                  have hm8 := HM.out.off ho8 (fun b hb h => h.2 (.inl hb)) (fun h => h.2 (.inr rfl))
                  have ho8' : Off (fun b => wb.heap.size ≤ b) wb w8 := HO'.out.trans ho8 (fun b _ h => h.1)
                  rcases hcase with ⟨rfl, hd⟩ | ⟨rfl, hh⟩
                  · have hend : KEnd wb.heap.size wb w8 d (.slice pb Bt.length cb) (.slice (some ⟨gs, 0, none⟩) St.length cs) (.int .i64 du) :=
                      ⟨As, gs, pb, cb, Bt, cs, St, sv, du, N + 2, rfl, rfl, rfl, hm8, hd.mono HL.out.rolling, by omega, by omega, fun r hr => by have := HTK.out r hr; omega, by omega, ho8'⟩
                    have HEND := Lib.hid hend
                    clear hend hd hm8 ho8' ho8
                    go_wp2_with fail
                    go_meet
                    exact .inl ⟨rfl, HEND.out⟩
                  · have hinv2 : KInv wb.heap.size wb w8 lg d (k + 1) (.slice pb Bt.length cb) (.slice (some ⟨gs, 0, none⟩) St.length cs) (.int .i64 ((bytesL Bt).length : Nat)) := by
                      rcases hh with ⟨hh, _, he⟩ | hh
                      · exact ⟨As, gs, pb, cb, Bt, cs, St, sv, _, N + 2, s, rfl, rfl, rfl, hm8, hh, HL.out.sync_same he, by omega, by omega, fun r hr => by have := HTK.out r hr; omega, by omega, by omega, ho8'⟩
                      · exact ⟨As, gs, pb, cb, Bt, cs, St, sv, _, N + 2, s.roll, rfl, rfl, rfl, hm8, hh, HL.out.roll, by omega, by omega, fun r hr => by have := HTK.out r hr; omega, by show (s.full ++ [s.act]).length ≤ _; rw [List.length_append]; exact Nat.add_le_add_right hfk 1, by omega, ho8'⟩
                    have HINV2 := Lib.hid hinv2
                    clear hinv2 hh hm8 ho8' ho8
                    go_wp2_with fail
                    go_meet
                    exact .inr ⟨rfl, _, by rw [bytesL_len]; exact hdl, HINV2.out⟩
          case rest =>
            rcases hcut with ⟨rfl, hend⟩ | ⟨rfl, du2, hdd, hinv2⟩
            · have HEND := Lib.hid hend
              clear hend HM HH HL HO' HTK
              go_wp2_with fail
              go_meet
              exact HEND.out
            · clear HM HH HL HO' HTK
              obtain ⟨As2, gs2, pb2, cb2, Bt2, cs2, St2, sv2, du3, N2, s2, rfl, rfl, hvd, hmem, hheld, hlive, hbk2, hsk2, htk2, hfk2, hN2, ho2⟩ := hinv2
              have hdu3 : du2 = du3 := by
                have := (Value.int.inj hvd).2
                omega
              subst hdu3
              have hal : s2.all.length = Bt2.length := by rw [hlive.all, bytesL_len]
              have hend := hlive.fine.sound.ends
              rw [hal] at hend
              have hlow : s2.f + s2.bs0.length = du2 + 1 := by rw [hlive.dur]; exact hlive.fine.sound.low_end
              have hdl := hlive.dur_le
              rw [bytesL_len] at hdl
              have hnx := hheld.next
              rw [hend] at hnx
              have hdu := fun (W : World) (hW : Off None wc W) => (hheld.quiet hW).durable
              have hnx := fun (W : World) (hW : Off None wc W) => (hheld.quiet hW).next
              rw [hlow] at hdu
              rw [hend] at hnx
              have HDU := Lib.hid hdu; have HNX := Lib.hid hnx
              have HM2 := Lib.hid hmem; have HH2 := Lib.hid hheld; have HL2 := Lib.hid hlive; have HO2 := Lib.hid ho2; have HTK2 := Lib.hid htk2
              clear hdu hnx hmem hheld hlive ho2 htk2 hvd hal hend hlow
              have u1 : IntKind.u64.wrap ((Bt2.length : Int) + 1) = (Bt2.length : Int) + 1 := by simp [IntKind.wrap, IntKind.bits, IntKind.signed]; omega
              have u2 : IntKind.u64.wrap ((du : Int) + 1) = (du : Int) + 1 := by simp [IntKind.wrap, IntKind.bits, IntKind.signed]; omega
              have u3 : IntKind.i64.wrap ((du2 : Int) + 1) = (du2 : Int) + 1 := IntWalk.i64_in _ (by omega)
              have c1 : ((Bt2.length + 1 : Nat) : Int) = (Bt2.length : Int) + 1 := by push_cast; rfl
              have c2 : ((du2 + 1 : Nat) : Int) = (du2 : Int) + 1 := by push_cast; rfl
              have l1 : ¬ (du2 : Int) + 1 < (du : Int) + 1 := by omega
              have l2 : ¬ (Bt2.length : Int) + 1 < (du2 : Int) + 1 := by omega
              go_wp2_with fail
              refine (HNX.out _ (Off.refl _ _)).mono ?_
              rintro e w8 ⟨rfl, ho8⟩
              have HO8 := Lib.hid ho8; clear ho8
              go_wp2_with fail
              refine (HDU.out _ HO8.out).mono ?_
              rintro e w9 ⟨rfl, ho9⟩
              have HO9 := Lib.hid (HO8.out.trans ho9 (fun _ _ h => h)); clear ho9 HO8
              go_wp2_with fail
              refine (HDU.out _ HO9.out).mono ?_
              rintro e w10 ⟨rfl, ho10⟩
              have HO10 := Lib.hid (HO9.out.trans ho10 (fun _ _ h => h)); clear ho10 HO9
              go_wp2_with fail
              refine (HNX.out _ HO10.out).mono ?_
              rintro e w11 ⟨rfl, ho11⟩
              have HO11 := Lib.hid (HO10.out.trans ho11 (fun _ _ h => h)); clear ho11 HO10
              have m1 : max (du : Int) (du2 : Int) = (du2 : Int) := by omega
              go_wp2_with fail
              refine (HDU.out _ HO11.out).mono ?_
              rintro e w12 ⟨rfl, ho12⟩
              have HO12 := Lib.hid (HO11.out.trans ho12 (fun _ _ h => h)); clear ho12 HO11
              have hk12 : KInv wb.heap.size wb w12 lg d (k + 1) (.slice pb2 Bt2.length cb2) (.slice (some ⟨gs2, 0, none⟩) St2.length cs2) (.int .i64 (du2 : Nat)) :=
                ⟨As2, gs2, pb2, cb2, Bt2, cs2, St2, sv2, du2, N2, s2, rfl, rfl, rfl, HM2.out.off HO12.out (fun _ _ h => h) (fun h => h), HH2.out.quiet HO12.out, HL2.out, hbk2, hsk2, HTK2.out, hfk2, hN2, HO2.out.trans HO12.out (fun _ _ h => h.elim)⟩
              have HK12 := Lib.hid hk12
              clear hk12 HM2 HH2 HL2 HO2 HTK2
              go_wp2_with fail
              case roundEnd => exact ⟨⟨k + 1, hlt, by push_cast; rfl, HK12.out⟩, by simp [intOf]; omega⟩
        · obtain rfl : k = na := by omega
          have hi1 : ¬ (k : Int) < (k : Int) := by omega
          have hend := KInv.ends ⟨As, gs, pb, cb, Bt, cs, St, sv, du, N, s, rfl, rfl, rfl, HM.out, HH.out, HL.out, hbk, hsk, HTK.out, hfk, hN, HO'.out⟩ hn60
          have HEND := Lib.hid hend
          clear hend HM HH HL HO' HTK
          go_wp2_with fail
          go_meet
          exact HEND.out
    case rest =>
      obtain ⟨As, gs, pb, cb, Bt, cs, St, sv, du, N, rfl, rfl, rfl, hmem, hdead, hbk, hsk, htk, hN, ho⟩ := hcut
      have hkp := ho.at_ HKP.out (fun h => by have h : wb.heap.size ≤ bk := h; omega)
      have e0 : wc.cell? ⟨bk, 0, none⟩ = some (.int .i64 kd) := Heap.cell hkp 0
      have e1 : wc.cell? ⟨bk, 1, none⟩ = some (.slice Af fs.length cf) := Heap.cell hkp 1
      have hfs : ∀ i (hi : i < fs.length), ∃ a, Af = some a ∧ wc.cell? (a.add i) = some (.int .i64 fs[i]) := by
        intro i hi
        obtain ⟨a, h1, h2, h3⟩ := HFB2.out i hi
        exact ⟨a, h1, ho.keep h3 (fun h => by have h : wb.heap.size ≤ (a.add i).block := h; omega)⟩
      have hcr := hdead.crash (fun s hs => hs.sound) (by omega) (by omega) kd Af cf fs hfs HFB.out
      have hold : ∀ b, (As b ∨ b = gs) → b < wc.heap.size := by
        obtain ⟨D, hD⟩ := hdead
        exact hD.old
      have HCR := Lib.hid hcr; have HM := Lib.hid hmem; have HTK := Lib.hid htk; have HOL := Lib.hid hold; have HO' := Lib.hid ho
      have hwc := ho.size
      clear hcr hmem htk hold ho hdead hfs hkp
      go_wp2_with fail
      refine HCR.out.mono ?_
      rintro e w8 ⟨c, rfl, hcut8, ho8⟩
      have HC8 := Lib.hid hcut8; have HO8 := Lib.hid ho8
      clear hcut8 ho8 HCR e0 e1
      go_wp2_with fail
      refine (KCut.open_ HC8.out).mono ?_
      rintro e w9 ⟨x, s, row, j, rfl, hX, hrow, hheld, ho9⟩
      have ho89 : Off (fun b => wc.heap.size ≤ b) wc w9 := (HO8.out.mono (fun _ _ h => h.elim) : Off (fun b => wc.heap.size ≤ b) wc w8).trans ho9 (fun _ _ h => h)
      have ho90 : Off (fun b => wb.heap.size ≤ b) wb w9 := HO'.out.trans ho89 (fun _ _ h => Nat.le_trans hwc h)
      obtain ⟨act, ha⟩ : ∃ act : Grp, act = ⟨s.f, s.bs0 ++ row.take j⟩ := ⟨_, rfl⟩
      obtain ⟨B, hB⟩ : ∃ B, B = (s.full ++ [act]).flatMap (·.bodies) := ⟨_, rfl⟩
      obtain ⟨hd1, hd2, hd3, tt, htt, hd4⟩ := hX.left hrow j (B := B) (by rw [hB, ha])
      have hkk : (s.bs0 ++ row.take j).length = act.bodies.length := by rw [ha]
      rw [← ha, hkk] at hheld
      have hend : act.end_ = B.length + 1 := by
        have := chain_total (held_chain hheld).1
        rw [hB]; omega
      have hfew := (held_chain hheld).2
      rw [bytesL_len] at hd2
      have hmem9 := HM.out.off ho89 (fun b hb h => by have := HOL.out b (.inl hb); have h : wc.heap.size ≤ b := h; omega) (fun h => by have := HOL.out gs (.inr rfl); have h : wc.heap.size ≤ gs := h; omega)
      have hnx : ∀ W, Off None w9 W → Calls Tryz.prog 21 #[.pointer (some ⟨x, 0, none⟩)] W fun e w' => e = .returned (.int .u64 ((B.length + 1 : Nat) : Int)) ∧ Off None W w' := fun W hW => by
        have := (hheld.quiet hW).next
        rw [hend] at this
        exact this
      have hdu : ∀ W, Off None w9 W → Calls Tryz.prog 22 #[.pointer (some ⟨x, 0, none⟩)] W fun e w' => e = .returned (.int .u64 ((B.length + 1 : Nat) : Int)) ∧ Off None W w' := fun W hW => by
        have := (hheld.quiet hW).durable
        rw [show act.first + act.bodies.length = B.length + 1 from hend] at this
        exact this
      have hbl : B.length ≤ 1000000 := by omega
      have hfr : ∀ (W : World) (p : Option Addr) (l : List ByteArray) (cap many : Nat), Off None w9 W → Txt As W p l → l.length ≤ 1000000 → many ≤ 1000000 →
          Calls Tryz.prog 39 #[.pointer (some ⟨x, 0, none⟩), .slice p l.length cap, .int .i64 many] W fun e w' => e = .returned (.bool (@decide (frontL B (bytesL l) many) (Classical.propDecidable _))) ∧ Off None W w' := fun W p l cap many hW hT hl hm => by
        have := front_any (hheld.quiet hW) p l cap (fun i hi => by
          obtain ⟨a, h1, _, _, h4⟩ := hT i hi
          exact ⟨a, h1, h4⟩) hl many hm
        rw [← hB] at this
        exact this
      have HNX := Lib.hid hnx; have HDU := Lib.hid hdu; have HFR := Lib.hid hfr; have HM9 := Lib.hid hmem9; have HO90 := Lib.hid ho90
      have HD3 := Lib.hid hd3; have HD4 := Lib.hid hd4; have HTT := Lib.hid htt
      clear hnx hdu hfr hmem9 ho90 ho89 ho9 hd3 hd4 htt hX hrow hheld hkk ha hB HC8 HO8 HM HOL HO'
      have u2 : IntKind.u64.wrap ((du : Int) + 1) = (du : Int) + 1 := by simp [IntKind.wrap, IntKind.bits, IntKind.signed]; omega
      have l1 : ¬ (B.length : Int) + 1 < (du : Int) + 1 := by omega
      have l2 : ¬ (Bt.length : Int) < (du : Int) := by omega
      go_wp2_with fail
      refine (HNX.out _ (Off.refl _ _)).mono ?_
      rintro e w10 ⟨rfl, ho10⟩
      have HO10 := Lib.hid ho10; clear ho10
      go_wp2_with fail
      refine (HDU.out _ HO10.out).mono ?_
      rintro e w11 ⟨rfl, ho11⟩
      have HO11 := Lib.hid (HO10.out.trans ho11 (fun _ _ h => h)); clear ho11 HO10
      go_wp2_with fail
      refine (HNX.out _ HO11.out).mono ?_
      rintro e w12 ⟨rfl, ho12⟩
      have HO12 := Lib.hid (HO11.out.trans ho12 (fun _ _ h => h)); clear ho12 HO11
      go_wp2_with fail
      refine (HFR.out w12 pb Bt cb du HO12.out (HM9.out.bodies.off HO12.out (fun _ _ h => h)) (by omega) (by omega)).mono ?_
      rintro e w13 ⟨rfl, ho13⟩
      rw [@decide_eq_true _ (Classical.propDecidable _) HD3.out]
      have HO13 := Lib.hid (HO12.out.trans ho13 (fun _ _ h => h)); clear ho13 HO12
      have hu3 : IntKind.i64.wrap ((B.length : Int) + 1) = (B.length : Int) + 1 := IntWalk.i64_in _ (by omega)
      go_wp2_with fail
      go_loopw [21] (fun i wr => ∃ m : Nat, m ≤ St.length ∧ i = .int .i64 m ∧ (∀ r, r < m → ∀ h : r < St.length, ¬ frontL B (bytesL St[r]) B.length) ∧ Off None w9 wr) (fun i _ => St.length - (intOf i).toNat)
      case atStart => exact ⟨0, Nat.zero_le _, rfl, fun r hr => absurd hr (by omega), HO13.out⟩
      case round =>
        obtain ⟨wr0, hwr0⟩ : ∃ wr0, wr0 = wr := ⟨_, rfl⟩
        subst hwr0
        obtain ⟨m, hm, rfl, hno, ho⟩ := hrel
        have HNO := Lib.hid hno; have HO := Lib.hid ho
        clear hno ho HO13
        by_cases hlt : m < St.length
        · obtain ⟨p, cp, hsv, htx⟩ := HM9.out.each m hlt
          obtain ⟨l, hl⟩ : ∃ l, l = St[m] := ⟨_, rfl⟩
          rw [← hl] at hsv htx
          have hll : l.length ≤ 61 := by rw [hl]; exact HTK.out _ (List.getElem_mem hlt)
          have htx' := htx.off HO.out (fun _ _ h => h)
          have hrow' := HO.out.row HM9.out.row (fun _ _ h => h)
          have hcs : wr0.cell? ⟨gs, m, none⟩ = some (.slice p l.length cp) := by
            have h1 := hrow'.cells (g := gs) rfl m _ hsv
            rw [show (⟨gs, 0, none⟩ : Addr).add m = ⟨gs, m, none⟩ by unfold Addr.add; split <;> simp_all] at h1
            exact h1
          obtain ⟨bm, hbm⟩ : ∃ bm, bm = @decide (frontL B (bytesL l) B.length) (Classical.propDecidable _) := ⟨_, rfl⟩
          have cN : ∀ dd os, Calls Tryz.prog 21 #[.pointer (some ⟨x, 0, none⟩)] (grow (redrawn wr0 dd) os) fun e w'' => e = .returned (.int .u64 ((B.length + 1 : Nat) : Int)) ∧ ∃ p : Regrown, w'' = grow (redrawn wr0 p.d) p.os := fun dd os =>
            Calls.quietly (HNX.out _ (HO.out.trans (Off.of_below (below_regrown wr0 dd os) : Off None wr0 _) (fun _ _ h => h)))
          have cF : ∀ dd os, Calls Tryz.prog 39 #[.pointer (some ⟨x, 0, none⟩), .slice p l.length cp, .int .i64 B.length] (grow (redrawn wr0 dd) os) fun e w'' => e = .returned (.bool bm) ∧ ∃ p : Regrown, w'' = grow (redrawn wr0 p.d) p.os := fun dd os =>
            Calls.quietly (by
              have := HFR.out (grow (redrawn wr0 dd) os) p l cp B.length (HO.out.trans (Off.of_below (below_regrown wr0 dd os) : Off None wr0 _) (fun _ _ h => h)) (htx'.off (Off.of_below (below_regrown wr0 dd os) : Off None wr0 _) (fun _ _ h => h)) (by omega) hbl
              rw [← hbm] at this
              exact this)
          have k0 := cell_regrown hcs
          have HBM := Lib.hid hbm; have HLL := Lib.hid hl
          have i0 : (0 : Int) ≤ (m : Int) := by omega
          have i1 : (m : Int) < (St.length : Int) := by omega
          clear hbm htx htx' hrow' hsv hl
          go_wp2_with fail
          refine wp_region_quiet_below (by kernel_rfl) (by kernel_rfl) ?_
          repeat (go_big_quiet_step (first | exact cN _ _ | exact cF _ _))
          refine wpQuiet_nil ?_
          intro w14 hw'
          have ho14 : Off None wr0 w14 := by
            obtain ⟨⟨dq, osq⟩, rfl⟩ := hw'
            exact Off.of_below (below_regrown wr0 dq osq)
          have HO14 := Lib.hid (HO.out.trans ho14 (fun _ _ h => h))
          clear hw' ho14 cN cF k0
          cases bm with
          | true =>
            go_wp2_with fail
            go_ret
            exact ⟨rfl, FIN.out _ (HO90.out.trans HO14.out (fun _ _ h => h.elim))⟩
          | false =>
            go_wp2_with fail
            case roundEnd =>
              refine ⟨⟨m + 1, hlt, by push_cast; rfl, fun r hr h => ?_, HO14.out⟩, by simp [intOf]; omega⟩
              rcases Nat.lt_or_ge r m with h1 | h1
              · exact HNO.out r h1 h
              · obtain rfl : r = m := by omega
                rw [← HLL.out]
                exact @of_decide_eq_false _ (Classical.propDecidable _) HBM.out.symm
        · exfalso
          obtain ⟨r, hr, hre⟩ := List.mem_map.1 HTT.out
          obtain ⟨i, hi, rfl⟩ := List.mem_iff_getElem.1 hr
          refine HNO.out i (by omega) hi ?_
          rw [hre]
          exact HD4.out
end Law
end Go.Proofs.YtnppdcegpojmbaaGreatDoor
