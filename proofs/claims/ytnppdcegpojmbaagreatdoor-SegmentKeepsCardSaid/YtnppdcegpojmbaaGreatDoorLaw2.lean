/- The walk of SegmentGets. -/
import Derived.Test.YtnppdcegpojmbaaGreatDoorLaw1
import Derived.Handy
namespace Go.Proofs.YtnppdcegpojmbaaGreatDoor
open Go Go.RowKit
namespace Law
theorem below_of {w w' : World} (h : Off (fun b => w.heap.size ≤ b) w w') : Below w.heap.size w w' := ⟨h.os, h.tape, h.output, h.size, fun b hb => h.block b hb (by omega)⟩
/-- Texts 0 to k-1 stand in the log. -/
structure Told (T : Nat → ByteArray) (k : Nat) (full : List Grp) (act : Grp) : Prop where
  all : (full ++ [act]).flatMap (·.bodies) = (List.range k).map fun i => (T i).data.toList
  end_ : act.end_ = k + 1
  sum : GoodLog.sum (full ++ [act]) ≤ k * 124
  len : full.length ≤ k
theorem Told.zero (T : Nat → ByteArray) : Told T 0 [] ⟨1, []⟩ := ⟨rfl, rfl, Nat.le_refl _, Nat.le_refl _⟩
theorem Told.append {T : Nat → ByteArray} {k : Nat} {full : List Grp} {act : Grp} (h : Told T k full act) (hs : (T k).size ≤ 100) (hk : k < 1000) : Told T (k + 1) full ⟨act.first, act.bodies ++ [(T k).data.toList]⟩ := by
  have he : act.first + act.bodies.length = k + 1 := h.end_
  have hb : (T k).data.toList.length ≤ 100 := by simpa using hs
  have hl := Frame.putF_len (k + 1) (T k).data.toList (by omega) (show (T k).data.toList.length ≤ 2000 by omega)
  have hsum := h.sum
  refine ⟨?_, ?_, ?_, Nat.le_succ_of_le h.len⟩
  · have ha := h.all
    rw [List.flatMap_append] at ha ⊢
    simp only [List.flatMap_cons, List.flatMap_nil, List.append_nil] at ha ⊢
    rw [← List.append_assoc, ha, List.range_succ, List.map_append]
    rfl
  · show act.first + (act.bodies ++ [_]).length = _
    rw [List.length_append, List.length_singleton]
    omega
  · rw [sum_snoc full act.first act.bodies, he]
    have : GoodLog.sum (full ++ [⟨act.first, act.bodies⟩]) ≤ k * 124 := hsum
    omega
theorem Told.roll {T : Nat → ByteArray} {k : Nat} {full : List Grp} {act : Grp} (h : Told T k full act) (hl : full.length + 1 ≤ k) : Told T k (full ++ [act]) ⟨act.end_, []⟩ := by
  refine ⟨?_, h.end_, ?_, by rw [List.length_append]; exact hl⟩
  · rw [List.flatMap_append]
    simp only [List.flatMap_cons, List.flatMap_nil, List.append_nil]
    exact h.all
  · rw [sum_roll]; exact h.sum
/-- What stands from f0 on. -/
structure Left (T : Nat → ByteArray) (n f0 : Nat) (full : List Grp) (act : Grp) : Prop where
  all : ∀ i, i < n → f0 ≤ i + 1 → ((full ++ [act]).flatMap (·.bodies))[i + 1 - f0]? = some (T i).data.toList
  end_ : act.end_ = n + 1
theorem Told.left {T : Nat → ByteArray} {n : Nat} {full : List Grp} {act : Grp} (h : Told T n full act) : Left T n 1 full act :=
  ⟨fun i hi _ => by rw [h.all, Nat.add_sub_cancel, List.getElem?_map, List.getElem?_range hi]; rfl, h.end_⟩
theorem Left.drop {T : Nat → ByteArray} {n f0 : Nat} {g : Grp} {r : List Grp} {act : Grp} (h : Left T n f0 (g :: r) act) (hg : g.first = f0) : Left T n g.end_ r act := by
  refine ⟨fun i hi hf => ?_, h.end_⟩
  have he : g.end_ = f0 + g.bodies.length := by unfold Grp.end_; rw [hg]
  have h1 := h.all i hi (by omega)
  rw [List.cons_append, List.flatMap_cons, List.getElem?_append_right (by omega)] at h1
  rw [he, Nat.sub_add_eq]
  exact h1
theorem first_ {R n N : Nat} {A : Nat → Prop} {w : World} {lg d off f0 : Nat} {g : Grp} {r : List Grp} {act : Grp} {k : Nat} (h : Held R n N A w lg d off f0 (g :: r) act k) : g.first = f0 := by
  obtain ⟨L, D, h⟩ := h
  exact h.good.chain.1
set_option maxHeartbeats 2000000 in
set_option maxRecDepth 100000 in
theorem gets_walk (w : World) (p pr : Option Addr) (n cap nr capr : Nat) (T : Nat → ByteArray) (B : Nat → Bool) (dr : Int) (hT : ∀ i, i < n → ∃ a, p = some a ∧ w.cell? (a.add i) = some (.string (T i)))
    (hB : ∀ i, i < nr → ∃ a, pr = some a ∧ w.cell? (a.add i) = some (.bool (B i))) (hd : (Lit.int .i64 dr).wf = true) (hn : n ≤ maxLen) (hnr : nr ≤ maxLen) (hG : Glob w.heap.size w) :
    Calls Tryz.prog 6 #[.slice p n cap, .slice pr nr capr, .int .i64 dr] w fun e w' => e = .returned (.bool true) ∧ Below w.heap.size w w' := by
  have HG := Lib.hid hG; clear hG
  have HT := Lib.hid hT; clear hT
  have HB := Lib.hid hB; clear hB
  have HD := Lib.hid hd; clear hd
  have hn' : n ≤ 2 ^ 63 - 1 := hn
  have hnr' : nr ≤ 2 ^ 63 - 1 := hnr
  go_enter Tryz.func6, Tryz.ntmps6
  go_wp2_with fail
  refine (shown_any w w.heap.size HG.out (Nat.le_refl _)).mono ?_
  rintro e w0 ⟨rfl, ho0⟩
  have HO0 := Lib.hid ho0; clear ho0
  go_wp2_with fail
  refine (DiskW.new_any w0 1000000 (by omega)).mono ?_
  rintro e w1 ⟨d, rfl, hdk, ho1⟩
  have HDK := Lib.hid hdk; clear hdk
  have HO1 := Lib.hid (HO0.out.trans ho1 (fun _ _ h => h.elim) : Off (fun b => w.heap.size ≤ b) w w1)
  have hle0 : w.heap.size ≤ w0.heap.size := HO0.out.size
  clear ho1 HO0
  go_wp2_with fail
  · go_ret
    exact ⟨rfl, below_of HO1.out⟩
  refine (Held.open_new (R := 1000000) w1 d w.heap.size _ HDK.out (by omega) (fun b hb => ⟨Nat.le_trans hle0 hb.1, hb.2⟩) (HG.out.off HO1.out (fun _ h => h)) HO1.out.size).mono ?_
  rintro e w2 ⟨lg, rfl, h2, ho2⟩
  have H2 := Lib.hid h2; clear h2
  have HO2 := Lib.hid (HO1.out.trans ho2 (fun b _ hb => Nat.le_trans hle0 hb.1) : Off (fun b => w.heap.size ≤ b) w w2)
  clear HO1 ho2 HDK hle0
  have hn30 : n ≤ 30 := by omega
  go_wp2_with fail
  go_loopw [11] (fun i wr => ∃ (k N kd : Nat) (full : List Grp) (act : Grp), k ≤ n ∧ i = .int .i64 k ∧ N ≤ 2 + 3 * k ∧ Held 1000000 w.heap.size N None wr lg d 0 1 full act kd ∧ Told T k full act ∧ Off (fun b => w.heap.size ≤ b) w wr) (fun i _ => n - (intOf i).toNat)
  case atStart => exact ⟨0, 2, 0, [], ⟨1, []⟩, Nat.zero_le _, rfl, by omega, H2.out, Told.zero T, HO2.out⟩
  case round =>
    obtain ⟨k, N, kd, full, act, hk, rfl, hN, hh, ht, ho⟩ := hrel
    have HH := Lib.hid hh; clear hh H2
    have HTD := Lib.hid ht; clear ht
    have HO := Lib.hid ho; clear ho HO2
    by_cases hlt : k < n
    · obtain ⟨a, hpa, hc⟩ := HT.out k hlt
      subst hpa
      have hc' := HO.out.keep hc (show ¬ (w.heap.size ≤ (a.add k).block) from by have := Heap.block_lt hc; omega)
      have hi0 : (0 : Int) ≤ (k : Int) := by omega
      have hi1 : (k : Int) < (n : Int) := by omega
      clear hc
      go_wp2_with fail
      · go_ret
        exact ⟨rfl, below_of HO.out⟩
      have hs : (T k).size ≤ 100 := by omega
      have htd := HTD.out
      have he : act.end_ = k + 1 := htd.end_
      have hplen := Frame.putF_len (k + 1) (T k).data.toList (by omega) (show (T k).data.toList.length ≤ 2000 by simp; omega)
      have htl : (T k).data.toList.length ≤ 100 := by simpa using hs
      obtain ⟨act', ha'⟩ : ∃ act' : Grp, act' = ⟨act.first, act.bodies ++ [(T k).data.toList]⟩ := ⟨_, rfl⟩
      have hne : act'.bodies ≠ [] := by rw [ha']; simp
      have hta := htd.append hs (by omega)
      rw [← ha'] at hta
      have hap := HH.out.append (T k) (by omega) (by rw [he]; have := htd.sum; omega) (by rw [he]; omega) (by omega)
      rw [he, ← ha'] at hap
      refine hap.mono ?_
      rintro e w3 ⟨rfl, h3, ho3⟩
      have H3 := Lib.hid h3
      have HT3 := Lib.hid hta
      have hfl : full.length ≤ k := htd.len
      have HO3 := Lib.hid (HO.out.trans ho3 (fun _ _ h => h.1) : Off (fun b => w.heap.size ≤ b) w w3)
      have HNE := Lib.hid hne
      clear hap h3 ho3 HO hta htd HTD HH he hplen htl hne hc' hs ha'
      have hw1 : IntKind.u64.wrap (((k : Int) + 1)) = ((k + 1 : Nat) : Int) := by simp [IntKind.wrap, IntKind.bits, IntKind.signed]; omega
      have HHW := Lib.hid hw1; clear hw1
      by_cases hkr : k < nr
      · obtain ⟨b, hpb, hcb⟩ := HB.out k hkr
        subst hpb
        have hcb' := HO3.out.keep hcb (show ¬ (w.heap.size ≤ (b.add k).block) from by have := Heap.block_lt hcb; omega)
        have hr1 : (k : Int) < (nr : Int) := by omega
        clear hcb
        have hw1 := HHW.out
        cases hbk : B k with
        | true =>
          rw [hbk] at hcb'
          go_wp2_with fail
          refine (H3.out.roll HNE.out (by omega) (by omega)).mono ?_
          rintro e w4 ⟨rfl, h4, ho4⟩
          have H4 := Lib.hid h4; clear h4
          have HO4 := Lib.hid (HO3.out.trans ho4 (fun _ _ h => h.1) : Off (fun b => w.heap.size ≤ b) w w4); clear ho4
          go_wp2_with fail
          case roundEnd => exact ⟨⟨k + 1, N + 3, 0, _, _, hlt, by push_cast; rfl, by omega, H4.out, HT3.out.roll (by omega), HO4.out⟩, by simp [intOf]; omega⟩
        | false =>
          rw [hbk] at hcb'
          go_wp2_with fail
          case roundEnd => exact ⟨⟨k + 1, N + 1, kd, _, _, hlt, by push_cast; rfl, by omega, H3.out, HT3.out, HO3.out⟩, by simp [intOf]; omega⟩
      · have hr1 : ¬ (k : Int) < (nr : Int) := by omega
        have hw1 := HHW.out
        go_wp2_with fail
        case roundEnd => exact ⟨⟨k + 1, N + 1, kd, _, _, hlt, by push_cast; rfl, by omega, H3.out, HT3.out, HO3.out⟩, by simp [intOf]; omega⟩
    · have hkn : k = n := by omega
      subst hkn
      have hi1 : ¬ (k : Int) < (k : Int) := by omega
      have hfl : full.length ≤ k := HTD.out.len
      go_wp2_with fail
      refine (HH.out.segs (by omega)).mono ?_
      rintro e w3 ⟨v, rfl, hr, ho3⟩
      obtain ⟨_, ⟨_, h0⟩ | ⟨g, cap, cur, rfl, hg, hb, hle, hmx, hsz, ht⟩⟩ := hr
      · exact absurd h0 (by omega)
      have HO3 := Lib.hid (HO.out.trans ho3 (fun _ _ h => h.elim) : Off (fun b => w.heap.size ≤ b) w w3)
      have H3 := Lib.hid (HH.out.quiet ho3)
      clear hg hb hle hmx hsz ht HO ho3 HH
      obtain ⟨q, hq, hpick⟩ := pick_nat dr (full.length + 1) HD.out (by omega) (by omega)
      have HP := Lib.hid hpick
      have hx0 : ¬ ((full.length : Int) + 1 = 0) := by omega
      clear hpick
      go_wp2_with fail
      have hpk := HP.out w3
      rw [show ((full.length + 1 : Nat) : Int) = (full.length : Int) + 1 by push_cast; rfl] at hpk
      refine hpk.mono ?_
      rintro e w4 ⟨rfl, rfl⟩
      clear hpk HP
      have hleft := HTD.out.left
      have HLF := Lib.hid hleft
      obtain ⟨m0, hm0⟩ : ∃ m0, full.length = m0 := ⟨_, rfl⟩
      have HM := Lib.hid hm0
      go_wp2_with fail
      go_loopw [16] (fun i wr => ∃ (j N2 off f0 : Nat) (rest : List Grp), j ≤ q ∧ i = .int .i64 j ∧ N2 ≤ 2 + 3 * k + j ∧ rest.length + j = full.length ∧ Held 1000000 w.heap.size N2 None wr lg d off f0 rest act kd ∧ Left T k f0 rest act ∧ Off (fun b => w.heap.size ≤ b) w wr) (fun i _ => q - (intOf i).toNat)
      case atStart => exact ⟨0, N, 0, 1, full, Nat.zero_le _, rfl, by omega, rfl, H3.out, HLF.out, HO3.out⟩
      case round =>
        obtain ⟨j, N2, off, f0, rest, hj, rfl, hN2, hrl, hh, hlf, ho⟩ := hrel
        have HH := Lib.hid hh; clear hh H3
        have HL2 := Lib.hid hlf; clear hlf hleft HLF
        have HO := Lib.hid ho; clear ho HO3
        by_cases hjq : j < q
        · have hjq' : (j : Int) < (q : Int) := by omega
          cases rest with
          | nil => exact absurd hrl (by simp; omega)
          | cons gg r =>
            have hfst := first_ HH.out
            go_wp2_with fail
            refine (HH.out.drop (by omega)).mono ?_
            rintro e w5 ⟨rfl, ⟨off', h5⟩, ho5⟩
            have H5 := Lib.hid h5; clear h5
            have HO5 := Lib.hid (HO.out.trans ho5 (fun _ _ h => h.1) : Off (fun b => w.heap.size ≤ b) w w5); clear ho5
            have hrl' : r.length + (j + 1) = full.length := by rw [← hrl, List.length_cons]; omega
            go_wp2_with fail
            case roundEnd => exact ⟨⟨j + 1, N2 + 1, off', gg.end_, r, hjq, by push_cast; rfl, by omega, hrl', H5.out, HL2.out.drop hfst, HO5.out⟩, by simp [intOf]; omega⟩
        · have hjq' : ¬ (j : Int) < (q : Int) := by omega
          have hjq2 : j = q := by omega
          subst hjq2
          go_wp2_with fail
          refine (HH.out.segs (by omega)).mono ?_
          rintro e w6 ⟨v, rfl, hr, ho6⟩
          obtain ⟨_, ⟨_, h0⟩ | ⟨g2, cap2, cur2, rfl, hg2, hb2, hle2, hmx2, hsz2, ht2⟩⟩ := hr
          · exact absurd h0 (by omega)
          have hhd : ∃ gh gt, rest ++ [act] = gh :: gt ∧ gh.first = f0 := by
            cases hrs : rest with
            | nil =>
              obtain ⟨L9, D9, h9⟩ := HH.out
              rw [hrs] at h9
              exact ⟨act, [], rfl, h9.good.chain.1⟩
            | cons x y => rw [hrs] at HH; exact ⟨x, y ++ [act], rfl, first_ HH.out⟩
          obtain ⟨gh, gt, hgh, hgf⟩ := hhd
          have hy0 : w6.cell? ⟨g2, 0, none⟩ = some (.int .u64 f0) := by
            rw [Heap.cell hb2, ← Array.getElem?_toList]
            have h9 : (cur2.toList.take ((rest.length + 1) * 3))[0]? = some (.int .u64 f0) := by
              rw [ht2, hgh, List.map_cons, List.flatMap_cons]
              show some (Value.int .u64 (gh.first : Int)) = _
              rw [hgf]
            rw [List.getElem?_take_of_lt (by omega)] at h9
            exact h9
          have HY := Lib.hid hy0
          have HO6 := Lib.hid (HO.out.trans ho6 (fun _ _ h => h.elim) : Off (fun b => w.heap.size ≤ b) w w6)
          have H6 := Lib.hid (HH.out.quiet ho6)
          clear hg2 hb2 ht2 hsz2 HO ho6 HH hy0 hgh hgf
          have hmr : rest.length = m0 - j := by omega
          have hlen1 : (m0 : Int) + 1 - j = (rest.length : Int) + 1 := by omega
          have HEND := Lib.hid HL2.out.end_
          go_wp2_with fail
          have hnx := H6.out.next
          rw [HEND.out] at hnx
          refine hnx.mono ?_
          rintro e w7 ⟨rfl, ho7⟩
          have HY7 := Lib.hid (ho7.keep HY.out (fun h => h))
          have HO7 := Lib.hid (HO6.out.trans ho7 (fun _ _ h => h.elim) : Off (fun b => w.heap.size ≤ b) w w7)
          have H7 := Lib.hid (H6.out.quiet ho7)
          clear ho7 HY HO6 H6 hnx
          have hwn : IntKind.u64.wrap (((k : Int) + 1)) = ((k + 1 : Nat) : Int) := by simp [IntKind.wrap, IntKind.bits, IntKind.signed]; omega
          go_wp2_with fail
          all_goals try (exfalso; omega)
          go_loopw [18] (fun v wr => ∃ i : Nat, i ≤ k ∧ v = .int .i64 i ∧ Off None w7 wr) (fun v _ => k - (intOf v).toNat)
          case atStart => exact ⟨0, Nat.zero_le _, rfl, Off.refl _ _⟩
          case round =>
            obtain ⟨i, hi, rfl, ho⟩ := hrel
            have HO8 := Lib.hid (HO7.out.trans ho (fun _ _ h => h.elim) : Off (fun b => w.heap.size ≤ b) w wr)
            have H8 := Lib.hid (H7.out.quiet ho)
            have hy8 := ho.keep HY7.out (fun h => h)
            have HO := Lib.hid ho; clear ho
            by_cases hik : i < k
            · obtain ⟨a, hpa, hc⟩ := HT.out i hik
              subst hpa
              have hc' := HO8.out.keep hc (show ¬ (w.heap.size ≤ (a.add i).block) from by have := Heap.block_lt hc; omega)
              have hik' : (i : Int) < (k : Int) := by omega
              have hwi : IntKind.u64.wrap (((i : Int) + 1)) = (i : Int) + 1 := by simp [IntKind.wrap, IntKind.bits, IntKind.signed]; omega
              have ecast : ((i + 1 : Nat) : Int) = (i : Int) + 1 := by push_cast; rfl
              clear hc
              by_cases hf : i + 1 < f0
              · have hfi : (i : Int) + 1 < (f0 : Int) := by omega
                have hgn := H8.out.get_none (s := i + 1) (.inl hf) (by omega)
                rw [ecast] at hgn
                have HGN := Lib.hid hgn; clear hgn ecast
                go_wp2_with fail
                refine HGN.out.mono ?_
                rintro e w8 ⟨rfl, ho8⟩
                have hy9 := ho8.keep hy8 (fun h => h)
                have hc9 := ho8.keep hc' (fun h => h)
                have HO9 := Lib.hid (HO.out.trans ho8 (fun _ _ h => h)); clear ho8
                go_wp2_with fail
                case roundEnd => exact ⟨⟨i + 1, hik, by push_cast; rfl, HO9.out⟩, by simp [intOf]; omega⟩
              · have hfi : ¬ (i : Int) + 1 < (f0 : Int) := by omega
                have hgn := H8.out.get_some (HL2.out.all i hik (by omega)) (by omega)
                have estr : (⟨(T i).data.toList.toArray⟩ : ByteArray) = T i := by cases T i; simp
                rw [show f0 + (i + 1 - f0) = i + 1 by omega, ecast, estr] at hgn
                have HGN := Lib.hid hgn; clear hgn ecast estr
                go_wp2_with fail
                refine HGN.out.mono ?_
                rintro e w8 ⟨rfl, ho8⟩
                have hy9 := ho8.keep hy8 (fun h => h)
                have hc9 := ho8.keep hc' (fun h => h)
                have HO9 := Lib.hid (HO.out.trans ho8 (fun _ _ h => h)); clear ho8
                go_wp2_with fail
                case roundEnd => exact ⟨⟨i + 1, hik, by push_cast; rfl, HO9.out⟩, by simp [intOf]; omega⟩
            · have hik' : ¬ (i : Int) < (k : Int) := by omega
              cases rest with
              | nil =>
                have hdn := H8.out.drop_none
                have HDN := Lib.hid hdn; clear hdn
                go_wp2_with fail
                all_goals first
                  | (go_ret; exact ⟨rfl, below_of HO8.out⟩)
                  | (refine HDN.out.mono ?_
                     rintro e w9 ⟨rfl, _, ho9⟩
                     have HO9 := Lib.hid (HO8.out.trans ho9 (fun _ _ h => h.1) : Off (fun b => w.heap.size ≤ b) w w9)
                     go_wp2
                     go_ret
                     exact ⟨rfl, below_of HO9.out⟩)
              | cons x y =>
                rw [List.length_cons] at hmr
                go_wp2_with fail
                all_goals first
                  | (go_ret; exact ⟨rfl, below_of HO8.out⟩)
                  | (exfalso; omega)
end Law
end Go.Proofs.YtnppdcegpojmbaaGreatDoor
