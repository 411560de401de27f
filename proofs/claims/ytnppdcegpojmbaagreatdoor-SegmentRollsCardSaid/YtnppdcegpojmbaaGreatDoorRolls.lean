/- The walk of SegmentRolls. -/
import Derived.Test.YtnppdcegpojmbaaGreatDoorRolls1
namespace Go.Proofs.YtnppdcegpojmbaaGreatDoor
open Go Go.RowKit
namespace Law
/-- What stands behind k texts: each full segment has a body. -/
structure Rolled (k : Nat) (full : List Grp) (act : Grp) : Prop where
  end_ : act.end_ = k + 1
  sum : GoodLog.sum (full ++ [act]) ≤ k * 124
  len : full.length ≤ k
  some_ : ∀ g ∈ full, g.bodies ≠ []
theorem Rolled.zero : Rolled 0 [] ⟨1, []⟩ := ⟨rfl, Nat.le_refl _, Nat.le_refl _, fun _ h => by cases h⟩
theorem Rolled.append {k : Nat} {full : List Grp} {act : Grp} (h : Rolled k full act) (t : ByteArray) (hs : t.size ≤ 100) (hk : k < 1000) : Rolled (k + 1) full ⟨act.first, act.bodies ++ [t.data.toList]⟩ := by
  have he : act.first + act.bodies.length = k + 1 := h.end_
  have hb : t.data.toList.length ≤ 100 := by simpa using hs
  have hl := Frame.putF_len (k + 1) t.data.toList (by omega) (show t.data.toList.length ≤ 2000 by omega)
  have hsum := h.sum
  refine ⟨?_, ?_, Nat.le_succ_of_le h.len, h.some_⟩
  · show act.first + (act.bodies ++ [_]).length = _
    rw [List.length_append, List.length_singleton]
    omega
  · rw [sum_snoc full act.first act.bodies, he]
    have : GoodLog.sum (full ++ [⟨act.first, act.bodies⟩]) ≤ k * 124 := hsum
    omega
theorem Rolled.roll {k : Nat} {full : List Grp} {act : Grp} (h : Rolled k full act) (hl : full.length + 1 ≤ k) (hne : act.bodies ≠ []) : Rolled k (full ++ [act]) ⟨act.end_, []⟩ := by
  refine ⟨h.end_, ?_, by rw [List.length_append]; exact hl, fun g hg => ?_⟩
  · rw [sum_roll]; exact h.sum
  · rcases List.mem_append.1 hg with h1 | h1
    · exact h.some_ g h1
    · rw [List.mem_singleton.1 h1]; exact hne
theorem sum_append_one (full : List Grp) (act : Grp) (k : Nat) (he : act.end_ = k + 1) (t : ByteArray) : GoodLog.sum (full ++ [⟨act.first, act.bodies ++ [t.data.toList]⟩]) = GoodLog.sum (full ++ [act]) + (Frame.putF (k + 1) t.data.toList).length := by
  have he' : act.first + act.bodies.length = k + 1 := he
  rw [sum_snoc full act.first act.bodies, he']
/-- Behind m rolls: the first one begins a segment, no other does. -/
def Step (full : List Grp) (act : Grp) (N m N2 : Nat) (full2 : List Grp) (act2 : Grp) : Prop := (m = 0 ∧ N2 ≤ N + 1 ∧ full2 = full ∧ act2 = act) ∨ (0 < m ∧ N2 ≤ N + 3 ∧ full2 = full ++ [act] ∧ act2 = ⟨act.end_, []⟩)
set_option maxHeartbeats 2000000 in
set_option maxRecDepth 100000 in
theorem rolls_walk (w : World) (p pr : Option Addr) (n cap nr capr : Nat) (T : Nat → ByteArray) (B : Nat → Int) (hT : ∀ i, i < n → ∃ a, p = some a ∧ w.cell? (a.add i) = some (.string (T i)))
    (hB : ∀ i, i < nr → ∃ a, pr = some a ∧ w.cell? (a.add i) = some (.int .i64 (B i))) (hBw : ∀ i, i < nr → (Lit.int .i64 (B i)).wf = true) (hn : n ≤ maxLen) (hnr : nr ≤ maxLen) (hG : Glob w.heap.size w) :
    Calls Tryz.prog 3 #[.slice p n cap, .slice pr nr capr] w fun e w' => e = .returned (.bool true) ∧ Below w.heap.size w w' := by
  have HG := Lib.hid hG; clear hG
  have HT := Lib.hid hT; clear hT
  have HB := Lib.hid hB; clear hB
  have HD := Lib.hid hBw; clear hBw
  have hn' : n ≤ 2 ^ 63 - 1 := hn
  have hnr' : nr ≤ 2 ^ 63 - 1 := hnr
  go_enter Tryz.func3, Tryz.ntmps3
  go_wp2_with fail
  refine (shown_any w w.heap.size HG.out (Nat.le_refl _)).mono ?_
  rintro e w0 ⟨rfl, ho0⟩
  have HO0 := Lib.hid ho0; clear ho0
  go_wp2_with fail
  refine (DiskW.new_any w0 1000000 (by omega)).mono ?_
  rintro e w1 ⟨d, rfl, hdk, ho1⟩
  have HDK := Lib.hid hdk; clear hdk
  have HO1 := Lib.hid (HO0.out.trans ho1 (fun _ _ h => h.elim) : Off (fun b => w.heap.size ≤ b) w w1)
  have hle0 : w.heap.size ≤ w0.heap.size := HO0.out.size
  clear ho1 HO0
  go_wp2_with fail
  · go_ret
    exact ⟨rfl, below_of HO1.out⟩
  refine (Held.open_new (R := 1000000) w1 d w.heap.size _ HDK.out (by omega) (fun b hb => ⟨Nat.le_trans hle0 hb.1, hb.2⟩) (HG.out.off HO1.out (fun _ h => h)) HO1.out.size).mono ?_
  rintro e w2 ⟨lg, rfl, h2, ho2⟩
  have H2 := Lib.hid h2; clear h2
  have HO2 := Lib.hid (HO1.out.trans ho2 (fun b _ hb => Nat.le_trans hle0 hb.1) : Off (fun b => w.heap.size ≤ b) w w2)
  clear HO1 ho2 HDK hle0
  have hn30 : n ≤ 30 := by omega
  go_wp2_with fail
  go_loopw [9, 10, 11] (fun b f i wr => ∃ (k N kd : Nat) (full : List Grp) (act : Grp), k ≤ n ∧ i = .int .i64 k ∧ f = .int .i64 ((full.length : Int) + 1) ∧ b = .int .i64 ((GoodLog.sum (full ++ [act]) : Nat) : Int) ∧ N ≤ 2 + 3 * k ∧ Held 1000000 w.heap.size N None wr lg d 0 1 full act kd ∧ Rolled k full act ∧ Off (fun b => w.heap.size ≤ b) w wr) (fun _ _ i _ => n - (intOf i).toNat)
  case atStart => exact ⟨0, 2, 0, [], ⟨1, []⟩, Nat.zero_le _, rfl, rfl, rfl, by omega, H2.out, Rolled.zero, HO2.out⟩
  case round =>
    obtain ⟨k, N, kd, full, act, hk, rfl, rfl, rfl, hN, hh, ht, ho⟩ := hrel
    have HH := Lib.hid hh; clear hh H2
    have HTD := Lib.hid ht; clear ht
    have HO := Lib.hid ho; clear ho HO2
    have hsum := HTD.out.sum
    have hfl := HTD.out.len
    obtain ⟨S, hS⟩ : ∃ S, S = GoodLog.sum (full ++ [act]) := ⟨_, rfl⟩
    rw [← hS] at hsum ⊢
    have HSM := Lib.hid hS; clear hS
    by_cases hlt : k < n
    · obtain ⟨a, hpa, hc⟩ := HT.out k hlt
      subst hpa
      have hc' := HO.out.keep hc (show ¬ (w.heap.size ≤ (a.add k).block) from by have := Heap.block_lt hc; omega)
      have hi0 : (0 : Int) ≤ (k : Int) := by omega
      have hi1 : (k : Int) < (n : Int) := by omega
      have HC0 := Lib.hid hc; clear hc
      go_wp2_with fail
      · go_ret
        exact ⟨rfl, below_of HO.out⟩
      have hs : (T k).size ≤ 100 := by omega
      have htd := HTD.out
      have he : act.end_ = k + 1 := htd.end_
      have hplen := Frame.putF_len (k + 1) (T k).data.toList (by omega) (show (T k).data.toList.length ≤ 2000 by simp; omega)
      have htl : (T k).data.toList.length ≤ 100 := by simpa using hs
      obtain ⟨act', ha'⟩ : ∃ act' : Grp, act' = ⟨act.first, act.bodies ++ [(T k).data.toList]⟩ := ⟨_, rfl⟩
      have hne : act'.bodies ≠ [] := by rw [ha']; simp
      have hta := htd.append (T k) hs (by omega)
      rw [← ha'] at hta
      have hap := HH.out.append (T k) (by omega) (by rw [he]; have := htd.sum; omega) (by rw [he]; omega) (by omega)
      rw [he, ← ha'] at hap
      have hsm := sum_append_one full act k he (T k)
      rw [← ha', ← HSM.out] at hsm
      obtain ⟨P, hP⟩ : ∃ P, P = (Frame.putF (k + 1) (T k).data.toList).length := ⟨_, rfl⟩
      have hP2 : P ≤ 124 := by omega
      rw [← hP] at hsm
      have HPP := Lib.hid hP; clear hP
      have HSM2 := Lib.hid hsm; clear hsm
      have HNE := Lib.hid hne
      have HT3 := Lib.hid hta
      clear hplen htl hne ha' hta htd
      refine hap.mono ?_
      rintro e w3 ⟨rfl, h3, ho3⟩
      have H3 := Lib.hid h3
      have HO3 := Lib.hid (HO.out.trans ho3 (fun _ _ h => h.1) : Off (fun b => w.heap.size ≤ b) w w3)
      have hc3 := HO3.out.keep HC0.out (show ¬ (w.heap.size ≤ (a.add k).block) from by have := Heap.block_lt HC0.out; omega)
      clear hap h3 ho3 HO HTD HH he hc'
      have hwi : IntKind.u64.wrap ((k : Int) + 1) = (k : Int) + 1 := by simp [IntKind.wrap, IntKind.bits, IntKind.signed]; omega
      have hzc := Frame.size_any w3 (k + 1) (T k) (by omega) (show (T k).size ≤ 2000 by omega) (HG.out.off HO3.out (fun _ h => h)).crc
      rw [show ((k + 1 : Nat) : Int) = (k : Int) + 1 by push_cast; rfl, ← HPP.out] at hzc
      have HZC := Lib.hid hzc; clear hzc
      go_wp2_with fail
      refine HZC.out.mono ?_
      rintro e w4 ⟨rfl, ho4⟩
      have H4 := Lib.hid (H3.out.quiet ho4)
      have HO4 := Lib.hid (HO3.out.trans ho4 (fun _ _ h => h.elim)); clear ho4 hc3 H3 HO3 hwi
      by_cases hkr : k < nr
      · obtain ⟨b, hpb, hcb⟩ := HB.out k hkr
        subst hpb
        have hcb' := HO4.out.keep hcb (show ¬ (w.heap.size ≤ (b.add k).block) from by have := Heap.block_lt hcb; omega)
        have hr1 : (k : Int) < (nr : Int) := by omega
        obtain ⟨q, hq, hpick⟩ := pick_nat (B k) 3 (HD.out k hkr) (by omega) (by omega)
        have HP := Lib.hid (hpick w4)
        clear hcb hpick
        go_wp2_with fail
        refine HP.out.mono ?_
        rintro e w5 ⟨rfl, rfl⟩
        clear HP
        have hq3 : (q : Int) ≤ 2 := by omega
        have hq0 : (0 : Int) ≤ (q : Int) := by omega
        go_wp2_with fail
        go_loopw [13] (fun j wr => ∃ (m N2 kd2 : Nat) (full2 : List Grp) (act2 : Grp), m ≤ q ∧ j = .int .i64 m ∧ Held 1000000 w.heap.size N2 None wr lg d 0 1 full2 act2 kd2 ∧ Off (fun b => w.heap.size ≤ b) w wr ∧ Step full act' N m N2 full2 act2) (fun j _ => q - (intOf j).toNat)
        case atStart => exact ⟨0, N + 1, kd, full, act', Nat.zero_le _, rfl, H4.out, HO4.out, .inl ⟨rfl, Nat.le_refl _, rfl, rfl⟩⟩
        case round =>
          obtain ⟨m, N2, kd2, full2, act2, hm, rfl, hh, ho, hst⟩ := hrel
          have H5 := Lib.hid hh; clear hh H4
          have HO5 := Lib.hid ho; clear ho HO4
          have HST := Lib.hid hst; clear hst
          by_cases hmq : m < q
          · have hmq' : (m : Int) < (q : Int) := by omega
            have hroll : Calls Tryz.prog 16 #[.pointer (some ⟨lg, 0, none⟩)] wr fun e w' => e = .returned (.int .i64 0) ∧ (∃ N3 kd3 full3 act3, Held 1000000 w.heap.size N3 None w' lg d 0 1 full3 act3 kd3 ∧ Step full act' N (m + 1) N3 full3 act3) ∧ Off (Rest w.heap.size None) wr w' := by
              rcases HST.out with ⟨hm0, hN2, hf2, ha2⟩ | ⟨hm0, hN2, hf2, ha2⟩
              · have h6 := H5.out
                rw [hf2, ha2] at h6
                refine (h6.roll HNE.out (by omega) (by omega)).mono ?_
                rintro e w' ⟨rfl, h7, ho7⟩
                exact ⟨rfl, ⟨_, _, _, _, h7, .inr ⟨by omega, by omega, rfl, rfl⟩⟩, ho7⟩
              · have h6 := H5.out
                rw [hf2, ha2] at h6
                refine (h6.roll_none rfl (by rw [List.length_append, List.length_singleton]; omega)).mono ?_
                rintro e w' ⟨rfl, h7, ho7⟩
                exact ⟨rfl, ⟨_, _, _, _, h7, .inr ⟨by omega, hN2, rfl, rfl⟩⟩, ho7⟩
            have HR := Lib.hid hroll; clear hroll HST
            go_wp2_with fail
            refine HR.out.mono ?_
            rintro e w6 ⟨rfl, ⟨N3, kd3, full3, act3, h6, hst6⟩, ho6⟩
            have H6 := Lib.hid h6; clear h6
            have HST6 := Lib.hid hst6; clear hst6
            have HO6 := Lib.hid (HO5.out.trans ho6 (fun _ _ h => h.1) : Off (fun b => w.heap.size ≤ b) w w6); clear ho6 HR
            go_wp2_with fail
            case roundEnd => exact ⟨⟨m + 1, N3, kd3, full3, act3, hmq, by push_cast; rfl, H6.out, HO6.out, HST6.out⟩, by simp [intOf]; omega⟩
          · have hmq' : ¬ (m : Int) < (q : Int) := by omega
            have hmq2 : m = q := by omega
            subst hmq2
            have hend : ∃ N3 kd3 full3 act3, Held 1000000 w.heap.size N3 None wr lg d 0 1 full3 act3 kd3 ∧ N3 ≤ 2 + 3 * (k + 1) ∧ Rolled (k + 1) full3 act3 ∧ GoodLog.sum (full3 ++ [act3]) = S + P ∧ (full3.length : Int) + 1 = (full.length : Int) + 1 + min (m : Int) 1 := by
              rcases HST.out with ⟨hm0, hN2, hf2, ha2⟩ | ⟨hm0, hN2, hf2, ha2⟩
              · have h6 := H5.out
                rw [hf2, ha2] at h6
                exact ⟨_, _, _, _, h6, by omega, HT3.out, HSM2.out, by omega⟩
              · have h6 := H5.out
                rw [hf2, ha2] at h6
                exact ⟨_, _, _, _, h6, by omega, HT3.out.roll (by omega) HNE.out, by rw [sum_roll]; exact HSM2.out, by rw [List.length_append, List.length_singleton]; push_cast; omega⟩
            have HE := Lib.hid hend; clear hend HST
            go_wp2_with fail
            case roundEnd =>
              obtain ⟨N3, kd3, full3, act3, h6, hN3, ht6, hs6, hf6⟩ := HE.out
              exact ⟨⟨k + 1, N3, kd3, full3, act3, hlt, by push_cast; rfl, by rw [hf6], by rw [hs6]; push_cast; rfl, hN3, h6, ht6, HO5.out⟩, by simp [intOf]; omega⟩
      · have hr1 : ¬ (k : Int) < (nr : Int) := by omega
        have HS1 := Lib.hid HT3.out.sum
        go_wp2_with fail
        go_loopw [13] (fun j wr => j = .int .i64 0 ∧ wr = w4) (fun _ _ => 0)
        case atStart => exact ⟨rfl, rfl⟩
        case round =>
          obtain ⟨rfl, rfl⟩ := hrel
          go_wp2_with fail
          case roundEnd => exact ⟨⟨k + 1, N + 1, kd, full, act', hlt, by push_cast; rfl, rfl, by rw [HSM2.out]; push_cast; rfl, by omega, H4.out, HT3.out, HO4.out⟩, by simp [intOf]; omega⟩
    · have hkn : k = n := by omega
      subst hkn
      have hi1 : ¬ (k : Int) < (k : Int) := by omega
      have hend := HTD.out.end_
      have hch := HH.out.chain
      have HCH := Lib.hid hch; clear hch
      have HEND := Lib.hid hend; clear hend
      obtain ⟨gs, hgs⟩ : ∃ gs, gs = full ++ [act] := ⟨_, rfl⟩
      have hgl : gs.length = full.length + 1 := by rw [hgs]; simp
      have HGS := Lib.hid hgs; clear hgs
      go_wp2_with fail
      refine (HH.out.segs (by omega)).mono ?_
      rintro e w3 ⟨v, rfl, hr, ho3⟩
      obtain ⟨_, ⟨_, h0⟩ | ⟨g, cap, cur, rfl, hg, hb, hle, hmx, hsz, htk⟩⟩ := hr
      · exact absurd h0 (by omega)
      have hcell : ∀ (wr : World), Off None w3 wr → ∀ j (hj : j < gs.length) i (hi : i < 3), wr.cell? ⟨g, j * 3 + i, none⟩ = (segCells (gs[j].seg))[i]? := by
        intro wr hwr j hj i hi
        rw [hwr.cell (by exact Heap.lt hb) (fun h => h), Heap.cell hb, ← Array.getElem?_toList, ← seg_cell gs hj hi, HGS.out, ← htk, List.getElem?_take_of_lt (by omega)]
      have HCELL := Lib.hid hcell; clear hcell
      have HO3 := Lib.hid (HO.out.trans ho3 (fun _ _ h => h.elim) : Off (fun b => w.heap.size ≤ b) w w3)
      have H3 := Lib.hid (HH.out.quiet ho3)
      clear hg hb hle hmx hsz htk HO ho3 HH
      go_wp2_with fail
      refine (H3.out.names (by omega)).mono ?_
      rintro e w4 ⟨A4, c4, rfl, ho4⟩
      have H4 := Lib.hid (H3.out.quiet ho4)
      have HO4 := Lib.hid ho4; clear ho4 H3
      go_wp2_with fail
      have hby := H4.out.bytes
      rw [← HSM.out] at hby
      refine hby.mono ?_
      rintro e w5 ⟨rfl, ho5⟩
      have H5 := Lib.hid (H4.out.quiet ho5)
      have HO5 := Lib.hid (HO4.out.trans ho5 (fun _ _ h => h)); clear ho5 H4 HO4 hby
      go_wp2_with fail
      have hby := H5.out.used
      rw [← HSM.out] at hby
      refine hby.mono ?_
      rintro e w6 ⟨rfl, ho6⟩
      have H6 := Lib.hid (H5.out.quiet ho6)
      have HO6 := Lib.hid (HO5.out.trans ho6 (fun _ _ h => h)); clear ho6 H5 HO5 hby
      have hx0 := HCELL.out _ HO6.out 0 (by omega) 0 (by omega)
      rw [show (segCells (gs[0]'(by omega)).seg)[0]? = some (.int .u64 1) by show some (Value.int .u64 (((gs[0]'(by omega)).first : Nat) : Int)) = _; rw [chain_head (by rw [HGS.out]; exact HCH.out) (by omega)]; rfl] at hx0
      go_wp2_with fail
      have hsl := sizes_le gs
      have hS2 : GoodLog.sum gs = S := by rw [HGS.out, ← HSM.out]
      have HSL := Lib.hid hsl; clear hsl
      have HS2 := Lib.hid hS2; clear hS2
      clear hx0
      go_loopw [15, 16] (fun s i wr => ∃ j : Nat, j ≤ gs.length ∧ i = .int .i64 j ∧ s = .int .i64 ((sizes gs j : Nat) : Int) ∧ Off None w6 wr) (fun _ i _ => gs.length - (intOf i).toNat)
      case atStart => exact ⟨0, Nat.zero_le _, rfl, rfl, Off.refl _ _⟩
      case round =>
        obtain ⟨j, hj, rfl, rfl, ho⟩ := hrel
        have HO := Lib.hid ho; clear ho
        by_cases hlt : j < gs.length
        · have hsu := sizes_succ gs hlt
          have hsl := HSL.out (j + 1)
          rw [HS2.out] at hsl
          have c0 := HCELL.out _ (HO6.out.trans HO.out (fun _ _ h => h)) j hlt 0 (by omega)
          have c1 := HCELL.out _ (HO6.out.trans HO.out (fun _ _ h => h)) j hlt 1 (by omega)
          have c2 := HCELL.out _ (HO6.out.trans HO.out (fun _ _ h => h)) j hlt 2 (by omega)
          have hmem : gs[j] ∈ full ++ [act] := by rw [← HGS.out]; exact List.getElem_mem hlt
          have hce := (Chain.mem HCH.out hmem).2
          obtain ⟨f, hf⟩ : ∃ f, f = gs[j].first := ⟨_, rfl⟩
          obtain ⟨m, hm⟩ : ∃ m, m = gs[j].bodies.length := ⟨_, rfl⟩
          obtain ⟨z, hz⟩ : ∃ z, z = gs[j].txt.length := ⟨_, rfl⟩
          obtain ⟨y, hy⟩ : ∃ y, y = sizes gs j := ⟨_, rfl⟩
          replace c0 : wr.cell? ⟨g, j * 3, none⟩ = some (.int .u64 f) := by rw [hf]; exact c0
          replace c1 : wr.cell? ⟨g, j * 3 + 1, none⟩ = some (.int .i64 m) := by rw [hm]; exact c1
          replace c2 : wr.cell? ⟨g, j * 3 + 2, none⟩ = some (.int .i64 z) := by rw [hz]; exact c2
          have hfm : f + m ≤ 31 := by
            have h1 : gs[j].first + gs[j].bodies.length ≤ act.end_ := hce
            rw [HEND.out] at h1
            omega
          rw [← hy, ← hz] at hsu
          rw [← hy]
          have hyz : y + z ≤ S := by omega
          have HSU := Lib.hid hsu
          have hnext : j + 1 < gs.length → 1 ≤ m ∧ wr.cell? ⟨g, (j + 1) * 3, none⟩ = some (.int .u64 ((f + m : Nat) : Int)) := by
            intro h1
            have hn1 := chain_at gs 1 act.end_ j (by rw [HGS.out]; exact HCH.out) h1
            have hn2 := HCELL.out _ (HO6.out.trans HO.out (fun _ _ h => h)) (j + 1) h1 0 (by omega)
            refine ⟨?_, ?_⟩
            · have hin : gs[j] ∈ full := by
                have e : gs[j] = full[j]'(by omega) := by
                  have h5 : gs[j]? = (full ++ [act])[j]? := by rw [← HGS.out]
                  rw [List.getElem?_append_left (by omega), List.getElem?_eq_getElem hlt, List.getElem?_eq_getElem (by omega)] at h5
                  exact Option.some.inj h5
                rw [e]; exact List.getElem_mem _
              have := HTD.out.some_ _ hin
              rw [hm]
              exact List.length_pos_iff.2 this
            · rw [hf, hm, ← hn1]; exact hn2
          have HNX := Lib.hid hnext; clear hnext hf hm hz hy hmem hce hsu hsl
          have hj0 : (0 : Int) ≤ (j : Int) := by omega
          have hj1 : (j : Int) < (full.length : Int) + 1 := by omega
          have hS3 : S ≤ 4000 := by omega
          by_cases hn1 : j + 1 < gs.length
          · obtain ⟨hm1, c3⟩ := HNX.out hn1
            have hj2 : (j : Int) + 1 < (full.length : Int) + 1 := by omega
            have hj3 : j < full.length := by omega
            go_wp2_with fail
            have w1 : IntKind.i64.wrap ((j : Int) + 1) = (j : Int) + 1 := by simp [IntKind.wrap, IntKind.bits, IntKind.signed]; omega
            have w2 : IntKind.u64.wrap (m : Int) = (m : Int) := by simp [IntKind.wrap, IntKind.bits, IntKind.signed]; omega
            have w3 : IntKind.u64.wrap ((f : Int) + m) = (f : Int) + m := by simp [IntKind.wrap, IntKind.bits, IntKind.signed]; omega
            have w4 : ((j : Int) + 1).toNat = j + 1 := by omega
            have w5 : (0 : Int) ≤ (j : Int) + 1 := by omega
            have w6 : decide ((m : Int) < 1) = false := by rw [decide_eq_false_iff_not]; omega
            have w7 : (((f + m : Nat) : Int) != (f : Int) + m) = false := by rw [bne_eq_false_iff_eq]; push_cast; rfl
            have w8 : decide ((j : Int) + 1 < (full.length : Int) + 1) = true := by rw [decide_eq_true_eq]; omega
            go_quiet (fail)
            clear w1 w2 w3 w4 w5 w6 w7 w8
            have HO2 := Lib.hid (HO.out.drewN nq)
            go_wp2_with fail
            all_goals exact ⟨⟨j + 1, hlt, by push_cast; rfl, by rw [HSU.out]; push_cast; rfl, HO2.out⟩, by simp [intOf]; omega⟩
          · have hj2 : ¬ (j : Int) + 1 < (full.length : Int) + 1 := by omega
            have hj3 : decide (j < full.length) = false := by rw [decide_eq_false_iff_not]; omega
            go_wp2_with fail
            have w1 : IntKind.i64.wrap ((j : Int) + 1) = (j : Int) + 1 := by simp [IntKind.wrap, IntKind.bits, IntKind.signed]; omega
            have w8 : decide ((j : Int) + 1 < (full.length : Int) + 1) = false := by rw [decide_eq_false_iff_not]; omega
            go_quiet (fail)
            clear w1 w8 hj3
            have HO2 := Lib.hid (HO.out.drewN nq)
            go_wp2_with fail
            refine ⟨?_, by simp [intOf]; omega⟩
            repeat apply Exists.intro
            refine ⟨?rel, rfl⟩
            exact ⟨j + 1, hlt, by push_cast; rfl, by rw [HSU.out]; push_cast; rfl, HO2.out⟩
        · have hjl : j = gs.length := by omega
          subst hjl
          rw [sizes_all, HS2.out]
          have hj1 : ¬ (gs.length : Int) < (full.length : Int) + 1 := by omega
          have hnx := (H6.out.quiet HO.out).next
          rw [HEND.out] at hnx
          have HNX := Lib.hid hnx; clear hnx
          have hw1 : IntKind.u64.wrap (((k : Int) + 1)) = ((k + 1 : Nat) : Int) := by simp [IntKind.wrap, IntKind.bits, IntKind.signed]; omega
          go_wp2_with fail
          refine HNX.out.mono ?_
          rintro e w7 ⟨rfl, ho7⟩
          have HO7 := Lib.hid (HO3.out.trans (HO6.out.trans (HO.out.trans ho7 (fun _ _ h => h)) (fun _ _ h => h)) (fun _ _ h => h.elim) : Off (fun b => w.heap.size ≤ b) w w7)
          clear ho7
          go_wp2_with fail
          go_ret
          exact ⟨rfl, below_of HO7.out⟩
theorem rolls_walk' (w : World) (p pr : Option Addr) (l : List ByteArray) (cap nr capr : Nat) (B : Nat → Int) (hT : Words.Reads w w.heap.size 1 p l.length (cellsT l))
    (hB : ∀ i, i < nr → ∃ a, pr = some a ∧ w.cell? (a.add i) = some (.int .i64 (B i))) (hBw : ∀ i, i < nr → (Lit.int .i64 (B i)).wf = true) (hn : l.length ≤ 140737488355328) (hnr : nr ≤ maxLen) (hG : Glob w.heap.size w) :
    Calls Tryz.prog 3 #[.slice p l.length cap, .slice pr nr capr] w fun e w' => e = .returned (.bool true) ∧ Below w.heap.size w w' := by
  refine rolls_walk w p pr l.length cap nr capr (fun i => l.getD i ByteArray.empty) B (fun i hi => ?_) hB hBw (by unfold maxLen; omega) hnr hG
  obtain ⟨ad, h1, _, h2⟩ := reads_at hT hi
  refine ⟨ad, h1, ?_⟩
  show w.cell? (ad.add i) = some (.string (l.getD i ByteArray.empty))
  rw [h2, List.getD_eq_getElem?_getD, List.getElem?_eq_getElem hi]
  rfl
end Law
end Go.Proofs.YtnppdcegpojmbaaGreatDoor
