/- The walk of SegmentSame. -/
import Derived.Test.YtnppdcegpojmbaaGreatDoorSame1
import Derived.Test.YtnppdcegpojmbaaGreatDoorRolls1
namespace Go.Proofs.YtnppdcegpojmbaaGreatDoor
open Go Go.RowKit
namespace Law
set_option maxHeartbeats 4000000 in
set_option maxRecDepth 100000 in
theorem same_walk (w : World) (p pr : Option Addr) (n cap nr capr : Nat) (T : Nat → ByteArray) (B : Nat → Bool) (more : ByteArray) (hT : ∀ i, i < n → ∃ a, p = some a ∧ w.cell? (a.add i) = some (.string (T i)))
    (hB : ∀ i, i < nr → ∃ a, pr = some a ∧ w.cell? (a.add i) = some (.bool (B i))) (hm : more.size ≤ maxLen) (hn : n ≤ maxLen) (hnr : nr ≤ maxLen) (hG : Glob w.heap.size w) :
    Calls Tryz.prog 4 #[.slice p n cap, .slice pr nr capr, .string more] w fun e w' => e = .returned (.bool true) ∧ Below w.heap.size w w' := by
  have HG := Lib.hid hG; clear hG
  have HT := Lib.hid hT; clear hT
  have HB := Lib.hid hB; clear hB
  have hn' : n ≤ 2 ^ 63 - 1 := hn
  have hnr' : nr ≤ 2 ^ 63 - 1 := hnr
  have hm' : more.size ≤ 2 ^ 63 - 1 := hm
  go_enter Tryz.func4, Tryz.ntmps4
  go_wp2_with fail
  refine (shown_any w w.heap.size HG.out (Nat.le_refl _)).mono ?_
  rintro e w0 ⟨rfl, ho0⟩
  have HO0 := Lib.hid ho0; clear ho0
  go_wp2_with fail
  refine (DiskW.new_any w0 1000000 (by omega)).mono ?_
  rintro e w1 ⟨d, rfl, hdk, ho1⟩
  have HDK := Lib.hid hdk; clear hdk
  have HO1 := Lib.hid (HO0.out.trans ho1 (fun _ _ h => h.elim) : Off (fun b => w.heap.size ≤ b) w w1)
  have hle0 : w.heap.size ≤ w0.heap.size := HO0.out.size
  clear ho1 HO0
  by_cases hg1 : n ≤ 30
  rotate_left
  · have hg1' : (30 : Int) < (n : Int) := by omega
    go_wp2_with fail
    go_ret
    exact ⟨rfl, below_of HO1.out⟩
  by_cases hg2 : more.size ≤ 1000
  rotate_left
  · have hg1' : ¬ (30 : Int) < (n : Int) := by omega
    have hg2' : (1000 : Int) < (more.size : Int) := by omega
    go_wp2_with fail
    go_ret
    exact ⟨rfl, below_of HO1.out⟩
  have hg1' : ¬ (30 : Int) < (n : Int) := by omega
  have hg2' : ¬ (1000 : Int) < (more.size : Int) := by omega
  go_wp2_with fail
  refine (Held.open_new (R := 1000000) w1 d w.heap.size _ HDK.out (by omega) (fun b hb => ⟨Nat.le_trans hle0 hb.1, hb.2⟩) (HG.out.off HO1.out (fun _ h => h)) HO1.out.size).mono ?_
  rintro e w2 ⟨lg, rfl, h2, ho2⟩
  have H2 := Lib.hid h2; clear h2
  have HO2 := Lib.hid (HO1.out.trans ho2 (fun b _ hb => Nat.le_trans hle0 hb.1) : Off (fun b => w.heap.size ≤ b) w w2)
  clear HO1 ho2 HDK hle0
  go_wp2_with fail
  go_loopw [11] (fun i wr => ∃ (k N kd : Nat) (full : List Grp) (act : Grp), k ≤ n ∧ i = .int .i64 k ∧ N ≤ 2 + 3 * k ∧ Held 1000000 w.heap.size N None wr lg d 0 1 full act kd ∧ Told T k full act ∧ Off (fun b => w.heap.size ≤ b) w wr) (fun i _ => n - (intOf i).toNat)
  case atStart => exact ⟨0, 2, 0, [], ⟨1, []⟩, Nat.zero_le _, rfl, by omega, H2.out, Told.zero T, HO2.out⟩
  case round =>
    obtain ⟨k, N, kd, full, act, hk, rfl, hN, hh, ht, ho⟩ := hrel
    have HH := Lib.hid hh; clear hh H2
    have HTD := Lib.hid ht; clear ht
    have HO := Lib.hid ho; clear ho HO2
    by_cases hlt : k < n
    · obtain ⟨a, hpa, hc⟩ := HT.out k hlt
      subst hpa
      have hc' := HO.out.keep hc (show ¬ (w.heap.size ≤ (a.add k).block) from by have := Heap.block_lt hc; omega)
      have hi0 : (0 : Int) ≤ (k : Int) := by omega
      have hi1 : (k : Int) < (n : Int) := by omega
      clear hc
      go_wp2_with fail
      · go_ret
        exact ⟨rfl, below_of HO.out⟩
      have hs : (T k).size ≤ 100 := by omega
      have htd := HTD.out
      have he : act.end_ = k + 1 := htd.end_
      have hplen := Frame.putF_len (k + 1) (T k).data.toList (by omega) (show (T k).data.toList.length ≤ 2000 by simp; omega)
      have htl : (T k).data.toList.length ≤ 100 := by simpa using hs
      obtain ⟨act', ha'⟩ : ∃ act' : Grp, act' = ⟨act.first, act.bodies ++ [(T k).data.toList]⟩ := ⟨_, rfl⟩
      have hne : act'.bodies ≠ [] := by rw [ha']; simp
      have hta := htd.append hs (by omega)
      rw [← ha'] at hta
      have hap := HH.out.append (T k) (by omega) (by rw [he]; have := htd.sum; omega) (by rw [he]; omega) (by omega)
      rw [he, ← ha'] at hap
      refine hap.mono ?_
      rintro e w3 ⟨rfl, h3, ho3⟩
      have H3 := Lib.hid h3
      have HT3 := Lib.hid hta
      have hfl : full.length ≤ k := htd.len
      have HO3 := Lib.hid (HO.out.trans ho3 (fun _ _ h => h.1) : Off (fun b => w.heap.size ≤ b) w w3)
      have HNE := Lib.hid hne
      clear hap h3 ho3 HO hta htd HTD HH he hplen htl hne hc' hs ha'
      by_cases hkr : k < nr
      · obtain ⟨b, hpb, hcb⟩ := HB.out k hkr
        subst hpb
        have hcb' := HO3.out.keep hcb (show ¬ (w.heap.size ≤ (b.add k).block) from by have := Heap.block_lt hcb; omega)
        have hr1 : (k : Int) < (nr : Int) := by omega
        clear hcb
        cases hbk : B k with
        | true =>
          rw [hbk] at hcb'
          go_wp2_with fail
          refine (H3.out.roll HNE.out (by omega) (by omega)).mono ?_
          rintro e w4 ⟨rfl, h4, ho4⟩
          have H4 := Lib.hid h4; clear h4
          have HO4 := Lib.hid (HO3.out.trans ho4 (fun _ _ h => h.1) : Off (fun b => w.heap.size ≤ b) w w4); clear ho4
          go_wp2_with fail
          case roundEnd => exact ⟨⟨k + 1, N + 3, 0, _, _, hlt, by push_cast; rfl, by omega, H4.out, HT3.out.roll (by omega), HO4.out⟩, by simp [intOf]; omega⟩
        | false =>
          rw [hbk] at hcb'
          go_wp2_with fail
          case roundEnd => exact ⟨⟨k + 1, N + 1, kd, _, _, hlt, by push_cast; rfl, by omega, H3.out, HT3.out, HO3.out⟩, by simp [intOf]; omega⟩
      · have hr1 : ¬ (k : Int) < (nr : Int) := by omega
        go_wp2_with fail
        case roundEnd => exact ⟨⟨k + 1, N + 1, kd, _, _, hlt, by push_cast; rfl, by omega, H3.out, HT3.out, HO3.out⟩, by simp [intOf]; omega⟩
    · have hkn : k = n := by omega
      subst hkn
      have hi1 : ¬ (k : Int) < (k : Int) := by omega
      have hfl : full.length ≤ k := HTD.out.len
      have hend := HTD.out.end_
      have HEND := Lib.hid hend; clear hend
      go_wp2_with fail
      refine (HH.out.reopen (by omega) (by omega)).mono ?_
      rintro e w3 ⟨lm, A, rfl, hA, hm3, he3, ho3⟩
      have HM3 := Lib.hid hm3
      have HE3 := Lib.hid he3
      have HO3 := Lib.hid (HO.out.trans ho3 (fun _ _ h => h.1) : Off (fun b => w.heap.size ≤ b) w w3)
      clear hm3 he3 ho3 HO HH hA
      have htot : act.first + act.bodies.length = k + 1 := HEND.out
      go_wp2_with fail
      have hc := HM3.out.next
      rw [HEND.out] at hc
      refine hc.mono ?_
      rintro e w4 ⟨rfl, ho4⟩
      have HM4 := Lib.hid (HM3.out.quiet ho4)
      have HE4 := Lib.hid (HE3.out.quiet ho4)
      have HO4 := Lib.hid (HO3.out.trans ho4 (fun _ _ h => h.elim)); clear ho4 hc HM3 HE3 HO3
      go_wp2_with fail
      have hc := HE4.out.next
      rw [HEND.out] at hc
      refine hc.mono ?_
      rintro e w5 ⟨rfl, ho5⟩
      have HM5 := Lib.hid (HM4.out.quiet ho5)
      have HE5 := Lib.hid (HE4.out.quiet ho5)
      have HO5 := Lib.hid (HO4.out.trans ho5 (fun _ _ h => h.elim)); clear ho5 hc HM4 HE4 HO4
      go_wp2_with fail
      have hc := HM5.out.durable
      rw [htot] at hc
      refine hc.mono ?_
      rintro e w6 ⟨rfl, ho6⟩
      have HM6 := Lib.hid (HM5.out.quiet ho6)
      have HE6 := Lib.hid (HE5.out.quiet ho6)
      have HO6 := Lib.hid (HO5.out.trans ho6 (fun _ _ h => h.elim)); clear ho6 hc HM5 HE5 HO5
      go_wp2_with fail
      have hc := HM6.out.next
      rw [HEND.out] at hc
      refine hc.mono ?_
      rintro e w7 ⟨rfl, ho7⟩
      have HM7 := Lib.hid (HM6.out.quiet ho7)
      have HE7 := Lib.hid (HE6.out.quiet ho7)
      have HO7 := Lib.hid (HO6.out.trans ho7 (fun _ _ h => h.elim)); clear ho7 hc HM6 HE6 HO6
      obtain ⟨S, hS⟩ : ∃ S, S = GoodLog.sum (full ++ [act]) := ⟨_, rfl⟩
      have hsum := HTD.out.sum
      rw [← hS] at hsum
      have HSM := Lib.hid hS; clear hS
      go_wp2_with fail
      have hc := HM7.out.bytes
      rw [← HSM.out] at hc
      refine hc.mono ?_
      rintro e w8 ⟨rfl, ho8⟩
      have HM8 := Lib.hid (HM7.out.quiet ho8)
      have HE8 := Lib.hid (HE7.out.quiet ho8)
      have HO8 := Lib.hid (HO7.out.trans ho8 (fun _ _ h => h.elim)); clear ho8 hc HM7 HE7 HO7
      go_wp2_with fail
      have hc := HE8.out.bytes
      rw [← HSM.out] at hc
      refine hc.mono ?_
      rintro e w9 ⟨rfl, ho9⟩
      have HM9 := Lib.hid (HM8.out.quiet ho9)
      have HE9 := Lib.hid (HE8.out.quiet ho9)
      have HO9 := Lib.hid (HO8.out.trans ho9 (fun _ _ h => h.elim)); clear ho9 hc HM8 HE8 HO8
      go_wp2_with fail
      obtain ⟨gs, hgs⟩ : ∃ gs, gs = full ++ [act] := ⟨_, rfl⟩
      have hgl : gs.length = full.length + 1 := by rw [hgs]; simp
      have HGS := Lib.hid hgs; clear hgs
      refine HE9.out.segs.mono ?_
      rintro e w10 ⟨v, rfl, hr, ho10⟩
      obtain ⟨_, ⟨_, h0⟩ | ⟨g, capx, cur, rfl, hg, hb, hle, hmx, hsz, htk⟩⟩ := hr
      · exact absurd h0 (by omega)
      have hcell : ∀ (wr : World), Off None w10 wr → ∀ j (hj : j < gs.length) i (hi : i < 3), wr.cell? ⟨g, j * 3 + i, none⟩ = (segCells (gs[j].seg))[i]? := by
        intro wr hwr j hj i hi
        rw [hwr.cell (by exact Heap.lt hb) (fun h => h), Heap.cell hb, ← Array.getElem?_toList, ← seg_cell gs hj hi, HGS.out, ← htk, List.getElem?_take_of_lt (by omega)]
      have HCX := Lib.hid hcell
      have HM10 := Lib.hid (HM9.out.quiet ho10)
      have HO10 := Lib.hid (HO9.out.trans ho10 (fun _ _ h => h.elim)); clear ho10 HM9 HE9 HO9 hcell hg hb hle hmx hsz htk
      go_wp2_with fail
      refine (HM10.out.segs (by omega)).mono ?_
      rintro e w11 ⟨v, rfl, hr, ho11⟩
      obtain ⟨_, ⟨_, h0⟩ | ⟨gy, capy, cury, rfl, hg, hb, hle, hmx, hsz, htk⟩⟩ := hr
      · exact absurd h0 (by omega)
      have hcell : ∀ (wr : World), Off None w11 wr → ∀ j (hj : j < gs.length) i (hi : i < 3), wr.cell? ⟨gy, j * 3 + i, none⟩ = (segCells (gs[j].seg))[i]? := by
        intro wr hwr j hj i hi
        rw [hwr.cell (by exact Heap.lt hb) (fun h => h), Heap.cell hb, ← Array.getElem?_toList, ← seg_cell gs hj hi, HGS.out, ← htk, List.getElem?_take_of_lt (by omega)]
      have HCY := Lib.hid hcell
      have HM11 := Lib.hid (HM10.out.quiet ho11)
      have HO11 := Lib.hid (HO10.out.trans ho11 (fun _ _ h => h.elim))
      have H1011 := Lib.hid ho11
      clear ho11 HM10 HO10 hcell hg hb hle hmx hsz htk
      go_wp2_with fail
      go_loopw [16] (fun i wr => ∃ j : Nat, j ≤ gs.length ∧ i = .int .i64 j ∧ Off None w11 wr) (fun i _ => gs.length - (intOf i).toNat)
      case atStart => exact ⟨0, Nat.zero_le _, rfl, Off.refl _ _⟩
      case round =>
        obtain ⟨j, hj, rfl, ho⟩ := hrel
        have HOL := Lib.hid ho; clear ho
        by_cases hlt : j < gs.length
        · have c0 := HCX.out _ (H1011.out.trans HOL.out (fun _ _ h => h)) j hlt 0 (by omega)
          have c1 := HCX.out _ (H1011.out.trans HOL.out (fun _ _ h => h)) j hlt 1 (by omega)
          have c2 := HCX.out _ (H1011.out.trans HOL.out (fun _ _ h => h)) j hlt 2 (by omega)
          have d0 := HCY.out _ HOL.out j hlt 0 (by omega)
          have d1 := HCY.out _ HOL.out j hlt 1 (by omega)
          have d2 := HCY.out _ HOL.out j hlt 2 (by omega)
          obtain ⟨f, hf⟩ : ∃ f, f = gs[j].first := ⟨_, rfl⟩
          obtain ⟨m, hmm⟩ : ∃ m, m = gs[j].bodies.length := ⟨_, rfl⟩
          obtain ⟨z, hz⟩ : ∃ z, z = gs[j].txt.length := ⟨_, rfl⟩
          replace c0 : wr.cell? ⟨g, j * 3, none⟩ = some (.int .u64 f) := by rw [hf]; exact c0
          replace c1 : wr.cell? ⟨g, j * 3 + 1, none⟩ = some (.int .i64 m) := by rw [hmm]; exact c1
          replace c2 : wr.cell? ⟨g, j * 3 + 2, none⟩ = some (.int .i64 z) := by rw [hz]; exact c2
          replace d0 : wr.cell? ⟨gy, j * 3, none⟩ = some (.int .u64 f) := by rw [hf]; exact d0
          replace d1 : wr.cell? ⟨gy, j * 3 + 1, none⟩ = some (.int .i64 m) := by rw [hmm]; exact d1
          replace d2 : wr.cell? ⟨gy, j * 3 + 2, none⟩ = some (.int .i64 z) := by rw [hz]; exact d2
          clear hf hmm hz
          have hj0 : (0 : Int) ≤ (j : Int) := by omega
          have hj1 : (j : Int) < (full.length : Int) + 1 := by omega
          go_wp2_with fail
          go_quiet (fail)
          have HOL2 := Lib.hid (HOL.out.drewN nq)
          go_wp2_with fail
          case roundEnd => exact ⟨⟨j + 1, hlt, by push_cast; rfl, HOL2.out⟩, by simp [intOf]; omega⟩
        · have hjl : j = gs.length := by omega
          subst hjl
          have hj1 : ¬ (gs.length : Int) < (full.length : Int) + 1 := by omega
          have HM12 := Lib.hid (HM11.out.quiet HOL.out)
          have HO12 := Lib.hid (HO11.out.trans HOL.out (fun _ _ h => h.elim))
          have hplen := Frame.putF_len (k + 1) more.data.toList (by omega) (show more.data.toList.length ≤ 2000 by simp; omega)
          have hmtl : more.data.toList.length ≤ 1000 := by simpa using hg2
          have hap := HM12.out.append more (by omega) (by rw [← HSM.out, HEND.out]; omega) (by rw [HEND.out]; omega) (by omega)
          rw [HEND.out] at hap
          have HAP := Lib.hid hap
          clear hap HM11 HO11 HM12 hplen hmtl
          go_wp2_with fail
          refine HAP.out.mono ?_
          rintro e w13 ⟨rfl, hm13, ho13⟩
          have HM13 := Lib.hid hm13
          have HO13 := Lib.hid (HO12.out.trans ho13 (fun _ _ h => h.1)); clear hm13 ho13 HAP
          have hget : ((full ++ [(⟨act.first, act.bodies ++ [more.data.toList]⟩ : Grp)]).flatMap (·.bodies))[k]? = some more.data.toList := by
            have ha := HTD.out.all
            rw [List.flatMap_append] at ha ⊢
            simp only [List.flatMap_cons, List.flatMap_nil, List.append_nil] at ha ⊢
            rw [← List.append_assoc, ha, List.getElem?_append_right (by simp)]
            simp
          have hgs := HM13.out.get_some hget (by omega)
          rw [str_back, show 1 + k = k + 1 by omega] at hgs
          have HGET := Lib.hid hgs; clear hgs hget
          go_wp2_with fail
          refine HGET.out.mono ?_
          rintro e w14 ⟨rfl, ho14⟩
          have HM14 := Lib.hid (HM13.out.quiet ho14)
          have HO14 := Lib.hid (HO13.out.trans ho14 (fun _ _ h => h.elim)); clear ho14 HGET HM13 HO13
          have hw1 : IntKind.u64.wrap (((k : Int) + 1)) = ((k + 1 : Nat) : Int) := by simp [IntKind.wrap, IntKind.bits, IntKind.signed]; omega
          obtain ⟨S2, hS2⟩ : ∃ S2, S2 = GoodLog.sum (full ++ [(⟨act.first, act.bodies ++ [more.data.toList]⟩ : Grp)]) := ⟨_, rfl⟩
          have HS2 := Lib.hid hS2; clear hS2
          go_wp2_with fail
          have hc := HM14.out.bytes
          rw [← HS2.out] at hc
          refine hc.mono ?_
          rintro e w15 ⟨rfl, ho15⟩
          have HM15 := Lib.hid (HM14.out.quiet ho15)
          have HO15 := Lib.hid (HO14.out.trans ho15 (fun _ _ h => h.elim)); clear ho15 hc HM14 HO14
          go_wp2_with fail
          have hc := HM15.out.used
          rw [← HS2.out] at hc
          refine hc.mono ?_
          rintro e w16 ⟨rfl, ho16⟩
          have HO16 := Lib.hid (HO15.out.trans ho16 (fun _ _ h => h.elim)); clear ho16 hc HM15 HO15
          go_wp2_with fail
          go_ret
          exact ⟨rfl, below_of HO16.out⟩
theorem same_walk' (w : World) (p pr : Option Addr) (l : List ByteArray) (cap nr capr : Nat) (B : Nat → Bool) (more : ByteArray) (hT : Words.Reads w w.heap.size 1 p l.length (cellsT l))
    (hB : ∀ i, i < nr → ∃ a, pr = some a ∧ w.cell? (a.add i) = some (.bool (B i))) (hm : more.size ≤ maxLen) (hn : l.length ≤ 140737488355328) (hnr : nr ≤ maxLen) (hG : Glob w.heap.size w) :
    Calls Tryz.prog 4 #[.slice p l.length cap, .slice pr nr capr, .string more] w fun e w' => e = .returned (.bool true) ∧ Below w.heap.size w w' := by
  refine same_walk w p pr l.length cap nr capr (fun i => l.getD i ByteArray.empty) B more (fun i hi => ?_) hB hm (by unfold maxLen; omega) hnr hG
  obtain ⟨ad, h1, _, h2⟩ := reads_at hT hi
  refine ⟨ad, h1, ?_⟩
  show w.cell? (ad.add i) = some (.string (l.getD i ByteArray.empty))
  rw [h2, List.getD_eq_getElem?_getD, List.getElem?_eq_getElem hi]
  rfl
end Law
end Go.Proofs.YtnppdcegpojmbaaGreatDoor
