/- The walk of SegmentUndoes. -/
import Derived.Test.YtnppdcegpojmbaaGreatDoorKept
import Derived.Test.YtnppdcegpojmbaaGreatDoorWords
namespace Go.Proofs.YtnppdcegpojmbaaGreatDoor
open Go Go.RowKit
namespace Law
open Words
/-- Texts as cells. -/
def cellsT (l : List ByteArray) : List Value := l.map Value.string
theorem cellsT_at {l : List ByteArray} {i : Nat} {u : Value} (hi : i < l.length) (h : (cellsT l)[i]? = some u) : u = .string l[i] := by
  unfold cellsT at h
  rw [List.getElem?_map, List.getElem?_eq_getElem hi] at h
  simpa using h.symm
theorem cellsT_one (l : List ByteArray) : ∀ u ∈ cellsT l, u.oneCell' = true := by
  intro u hu
  obtain ⟨t, _, rfl⟩ := List.mem_map.1 hu
  rfl
theorem cellsT_append (a b : List ByteArray) : cellsT (a ++ b) = cellsT a ++ cellsT b := List.map_append
theorem cellsT_len (l : List ByteArray) : (cellsT l).length = l.length := by unfold cellsT; rw [List.length_map]
theorem reads_at {w : World} {B n : Nat} {A : Option Addr} {l : List ByteArray} (h : Reads w B 1 A n (cellsT l)) {i : Nat} (hi : i < l.length) : ∃ ad, A = some ad ∧ (ad.add i).block < B ∧ w.cell? (ad.add i) = some (.string l[i]) := by
  have hl : i < n := by have := h.1; rw [cellsT_len] at this; omega
  obtain ⟨ad, u, h1, h2, h3, h4⟩ := h.at_ hl
  rw [cellsT_at hi h3] at h4
  exact ⟨ad, h1, by rw [block_of_add]; exact h2, h4⟩
theorem reads_off {w w' : World} {B n : Nat} {A : Option Addr} {G : Nat → Prop} {l : List ByteArray} (h : Reads w B 1 A n (cellsT l)) (hw : B ≤ w.heap.size) (ho : Off G w w') (hG : ∀ b, b < B → ¬ G b) : Reads w' B 1 A n (cellsT l) :=
  h.keep fun p hp => ho.cell (by omega) (hG _ hp)
theorem row_texts {w : World} {base n : Nat} {v : Value} {l : List ByteArray} (h : w.ownsRow base 9 1 v n (cellsT l)) :
    ∃ A c, v = .slice A l.length c ∧ ∀ i (hi : i < l.length), ∃ ad, A = some ad ∧ base ≤ (ad.add i).block ∧ (ad.add i).block < w.heap.size ∧ w.cell? (ad.add i) = some (.string l[i]) := by
  have hn : l.length = n := by have := h.1; rw [cellsT_len] at this; omega
  subst hn
  have h0 := h
  obtain ⟨_, ⟨rfl, h1⟩ | ⟨g, cap, cur, rfl, hg, hb, _⟩⟩ := h
  · exact ⟨none, 0, by rw [h1], fun i hi => absurd hi (by omega)⟩
  · refine ⟨_, _, rfl, fun i hi => ?_⟩
    obtain ⟨ad, e1, e2, e3⟩ := reads_at (Reads.of_own h0) hi
    cases e1
    refine ⟨_, rfl, ?_, e2, e3⟩
    rw [block_of_add]
    exact hg
theorem str_info : (Tryz.prog.info? 9).map (fun i => (i.zero, i.size, i.bytes)) = some (some (.string ⟨#[]⟩), 1, 16) := by kernel_rfl
theorem info_parts' {o : Option TypeInfo} {z : Value} {n b : Nat} (h : o.map (fun i => (i.zero, i.size, i.bytes)) = some (some z, n, b)) : ∃ i, o = some i ∧ i.zero = some z ∧ i.size = n ∧ i.bytes = b := by
  cases o with
  | none => cases h
  | some i =>
    simp only [Option.map_some, Option.some.injEq, Prod.mk.injEq] at h
    exact ⟨i, rfl, h.1, h.2.1, h.2.2⟩
theorem str_back (t : ByteArray) : (⟨t.data.toList.toArray⟩ : ByteArray) = t := by cases t; simp
set_option maxHeartbeats 2000000 in
set_option maxRecDepth 100000 in
theorem undoes_walk (w : World) (pa pb pc : Option Addr) (la lb lc : List ByteArray) (ca cb cc : Nat) (ha : Reads w w.heap.size 1 pa la.length (cellsT la)) (hb : Reads w w.heap.size 1 pb lb.length (cellsT lb)) (hc : Reads w w.heap.size 1 pc lc.length (cellsT lc))
    (sa : ∀ t ∈ la, t.size ≤ 140737488355328) (sb : ∀ t ∈ lb, t.size ≤ 140737488355328) (sc : ∀ t ∈ lc, t.size ≤ 140737488355328)
    (za : la.length ≤ 140737488355328) (zb : lb.length ≤ 140737488355328) (zc : lc.length ≤ 140737488355328) (hG : Glob w.heap.size w) :
    Calls Tryz.prog 7 #[.slice pa la.length ca, .slice pb lb.length cb, .slice pc lc.length cc] w fun e w' => e = .returned (.bool true) ∧ Below w.heap.size w w' := by
  have HG := Lib.hid hG; clear hG
  have HA := Lib.hid ha; clear ha
  have HB := Lib.hid hb; clear hb
  have HC := Lib.hid hc; clear hc
  have SA := Lib.hid sa; clear sa
  have SB := Lib.hid sb; clear sb
  have SC := Lib.hid sc; clear sc
  obtain ⟨all, hall⟩ : ∃ all, all = la ++ lc := ⟨_, rfl⟩
  have hlal : all.length = la.length + lc.length := by rw [hall, List.length_append]
  have HALL := Lib.hid hall; clear hall
  have HLAL := Lib.hid hlal; clear hlal
  obtain ⟨i0, hi0, hz0, hz1, hz2⟩ := info_parts' str_info
  have I0 := Lib.hid hi0; clear hi0
  have Z0 := Lib.hid hz0; clear hz0
  have Z1 := Lib.hid hz1; clear hz1
  have Z2 := Lib.hid hz2; clear hz2
  go_enter Tryz.func7, Tryz.ntmps7
  go_wp2_with fail
  refine (shown_any w w.heap.size HG.out (Nat.le_refl _)).mono ?_
  rintro e w0 ⟨rfl, ho0⟩
  have HO0 := Lib.hid ho0; clear ho0
  go_wp2_with fail
  refine (DiskW.new_any w0 1000000 (by omega)).mono ?_
  rintro e w1 ⟨d, rfl, hdk, ho1⟩
  have HDK := Lib.hid hdk; clear hdk
  have HO1 := Lib.hid (HO0.out.trans ho1 (fun _ _ h => h.elim) : Off (fun b => w.heap.size ≤ b) w w1)
  have hle0 : w.heap.size ≤ w0.heap.size := HO0.out.size
  clear ho1 HO0
  go_wp2_with fail
  · go_ret
    exact ⟨rfl, below_of HO1.out⟩
  refine (Held.open_new (R := 1000000) w1 d w.heap.size _ HDK.out (by omega) (fun b hb => ⟨Nat.le_trans hle0 hb.1, hb.2⟩) (HG.out.off HO1.out (fun _ h => h)) HO1.out.size).mono ?_
  rintro e w2 ⟨lg, rfl, h2, ho2⟩
  have H2 := Lib.hid h2; clear h2
  have HO2 := Lib.hid (HO1.out.trans ho2 (fun b _ hb => Nat.le_trans hle0 hb.1) : Off (fun b => w.heap.size ≤ b) w w2)
  clear HO1 ho2 HDK hle0
  have hn40 : la.length + lb.length + lc.length ≤ 40 := by omega
  have hrd := fun (w' : World) (ho : Off None w2 w') => reads_off HA.out (Nat.le_refl _) (HO2.out.trans ho (fun _ _ h => h.elim)) (fun b hb hg => by omega)
  have HRA := Lib.hid hrd; clear hrd
  have hrd := fun (w' : World) (ho : Off None w2 w') => reads_off HC.out (Nat.le_refl _) (HO2.out.trans ho (fun _ _ h => h.elim)) (fun b hb hg => by omega)
  have HRC := Lib.hid hrd; clear hrd
  have hs0 := HO2.out.size
  go_wp2_with (first
    | (at_builtin
       refine wpList_append_any _ rfl (.tmp 55) (.tmp 56) _ rfl w2.heap.size 9 i0 _ 1 16 Tryz.underlying22 I0.out Z0.out Z1.out Z2.out rfl (by omega) (.slice (some ⟨w2.heap.size, 0, none⟩) 0 0) 0 [] rfl
         ⟨rfl, .inr ⟨w2.heap.size, 0, #[], rfl, Nat.le_refl _, Heap.alloc_new _ _, Nat.le_refl _, by decide, rfl, rfl⟩⟩ w.heap.size pa la.length ca (cellsT la) rfl (HRA.out _ ((Off.refl None w2).alloc _)) (cellsT_one la) (by unfold maxLen; omega) (by omega) (by rw [Heap.alloc_size]; omega) ?_
       intro v1 w3 hown1 hg1 hat1
       have ho3 : Off None w2 w3 := ((Off.refl None w2).alloc _).grown hg1 (fun k hk => .inr (by cases hk; exact Nat.le_refl _))
       have HO3 := Lib.hid ho3
       have HW1 := Lib.hid hown1
       have HT1 := Lib.hid hat1
       clear ho3 hown1 hg1 hat1)
    | (at_builtin
       refine wpList_append_any _ rfl (.tmp 57) (.tmp 58) _ rfl w2.heap.size 9 i0 _ 1 16 Tryz.underlying22 I0.out Z0.out Z1.out Z2.out rfl (by omega) v1 (0 + la.length) ([] ++ cellsT la) rfl
         HW1.out w.heap.size pc lc.length cc (cellsT lc) rfl (HRC.out _ HO3.out) (cellsT_one lc) (by unfold maxLen; omega) (by omega) HO3.out.size ?_
       intro v2 w4 hown2 hg2 hat2
       have ho4 : Off None w2 w4 := HO3.out.grown hg2 (fun k hk => by rcases HT1.out with e | e <;> rw [e] at hk <;> cases hk <;> exact .inr (by first | exact Nat.le_refl _ | (have := ((Off.refl None w2).alloc (Obj.cells #[] 9)).size; exact this)))
       have HO4 := Lib.hid ho4
       rw [List.nil_append, ← cellsT_append, ← HALL.out] at hown2
       obtain ⟨pA, cA, rfl, hal⟩ := row_texts hown2
       have HAL := Lib.hid hal
       clear ho4 hown2 hg2 hat2 hal)
    | fail)
  have hH4 := H2.out.keep (A' := fun b => w2.heap.size ≤ b ∧ b < w4.heap.size) HO4.out (fun b hb => .inr hb)
  have H4 := Lib.hid hH4; clear hH4 H2
  have HO4w := Lib.hid (HO2.out.trans HO4.out (fun _ _ h => h.elim) : Off (fun b => w.heap.size ≤ b) w w4)
  clear HRA HRC
  have tr : ∀ (wr : World), Off (Rest w.heap.size (fun b => w2.heap.size ≤ b ∧ b < w4.heap.size)) w4 wr → Off (fun b => w.heap.size ≤ b) w wr := fun _ h => HO4w.out.trans h (fun _ _ h => h.1)
  have TR := Lib.hid tr; clear tr
  have hrd := fun (wr : World) (ho : Off (fun b => w.heap.size ≤ b) w wr) => (⟨reads_off HA.out (Nat.le_refl _) ho (fun b hb hg => by omega), reads_off HB.out (Nat.le_refl _) ho (fun b hb hg => by omega), reads_off HC.out (Nat.le_refl _) ho (fun b hb hg => by omega)⟩ : Reads wr w.heap.size 1 pa la.length (cellsT la) ∧ Reads wr w.heap.size 1 pb lb.length (cellsT lb) ∧ Reads wr w.heap.size 1 pc lc.length (cellsT lc))
  have HRD := Lib.hid hrd; clear hrd
  obtain ⟨A, hA⟩ : ∃ A : Nat → Prop, A = fun b => w2.heap.size ≤ b ∧ b < w4.heap.size := ⟨_, rfl⟩
  rw [← hA] at H4 TR
  have HAA := Lib.hid hA; clear hA
  go_wp2_with fail
  go_loopw [12] (fun i wr => ∃ k N : Nat, k ≤ la.length ∧ i = .int .i64 k ∧ N ≤ 2 + k ∧ Held 1000000 w.heap.size N A wr lg d 0 1 [] ⟨1, keptL (la.take k)⟩ 0 ∧ Off (Rest w.heap.size A) w4 wr) (fun i _ => la.length - (intOf i).toNat)
  case atStart => exact ⟨0, 2, Nat.zero_le _, rfl, by omega, by rw [List.take_zero]; exact H4.out, Off.refl _ _⟩
  case round =>
    obtain ⟨k, N, hk, rfl, hN, hh, ho⟩ := hrel
    have HH := Lib.hid hh; clear hh H4
    have HO := Lib.hid ho; clear ho
    by_cases hlt : k < la.length
    · obtain ⟨ad, hpa, _, hcl⟩ := reads_at (HRD.out _ (TR.out _ HO.out)).1 hlt
      subst hpa
      have hi0 : (0 : Int) ≤ (k : Int) := by omega
      have hi1 : (k : Int) < (la.length : Int) := by omega
      have hll := keptL_len (la.take k)
      have hlk : (la.take k).length ≤ k := List.length_take_le _ _
      have hap := append_kept HH.out la[k] (SA.out _ (List.getElem_mem hlt)) (keptL_small _) (by omega) (by omega)
      rw [← keptL_take la hlt] at hap
      have HAP := Lib.hid hap
      clear hap hll hlk
      go_wp2_with fail
      refine HAP.out.mono ?_
      rintro e w5 ⟨q, er, N', rfl, hN', h5, ho5⟩
      have H5 := Lib.hid h5; clear h5
      have HO5 := Lib.hid (HO.out.trans ho5 (fun _ _ h => h)); clear ho5
      go_wp2_with fail
      case roundEnd => exact ⟨⟨k + 1, N', hlt, by push_cast; rfl, by omega, H5.out, HO5.out⟩, by simp [intOf]; omega⟩
    · obtain rfl : k = la.length := by omega
      have hi1 : ¬ (la.length : Int) < (la.length : Int) := by omega
      have hh2 := HH.out
      rw [List.take_length] at hh2
      have HH2 := Lib.hid hh2; clear hh2 HH
      go_wp2_with fail
      refine HH2.out.sync.mono ?_
      rintro e w5 ⟨rfl, h5, ho5⟩
      obtain ⟨m, hm⟩ : ∃ m, m = (keptL la).length := ⟨_, rfl⟩
      have hml : m ≤ la.length := by rw [hm]; exact keptL_len la
      have h5' : Held 1000000 w.heap.size N A w5 lg d 0 1 [] ⟨1, keptL la⟩ m := by rw [hm]; exact h5
      have HM := Lib.hid hm; clear hm
      have H5 := Lib.hid h5'; clear h5 h5'
      have HO5 := Lib.hid (HO.out.trans ho5 (fun _ _ h => h)); clear ho5 HO HH2
      obtain ⟨sum, hsum⟩ : ∃ sum, sum = GoodLog.sum ([] ++ [(⟨1, keptL la⟩ : Grp)]) := ⟨_, rfl⟩
      have HSUM := Lib.hid hsum; clear hsum
      go_wp2_with fail
      have hby := H5.out.bytes
      rw [← HSUM.out] at hby
      refine hby.mono ?_
      rintro e w6 ⟨rfl, ho6⟩
      have H6 := Lib.hid (H5.out.quiet ho6)
      have HO6 := Lib.hid (HO5.out.trans ho6 (fun _ _ h => h.elim)); clear ho6 hby H5 HO5
      go_wp2_with fail
      go_loopw [14] (fun i wr => ∃ k N2 : Nat, k ≤ lb.length ∧ i = .int .i64 k ∧ N2 ≤ N + k ∧ Held 1000000 w.heap.size N2 A wr lg d 0 1 [] ⟨1, keptL la ++ keptL (lb.take k)⟩ m ∧ Off (Rest w.heap.size A) w4 wr) (fun i _ => lb.length - (intOf i).toNat)
      case atStart => exact ⟨0, N, Nat.zero_le _, rfl, by omega, by rw [List.take_zero, show keptL [] = [] from rfl, List.append_nil]; exact H6.out, HO6.out⟩
      case round =>
        obtain ⟨k, N2, hk, rfl, hN2, hh, ho⟩ := hrel
        have HH := Lib.hid hh; clear hh H6
        have HO := Lib.hid ho; clear ho HO6
        by_cases hlt : k < lb.length
        · obtain ⟨ad, hpa, _, hcl⟩ := reads_at (HRD.out _ (TR.out _ HO.out)).2.1 hlt
          subst hpa
          have hi0 : (0 : Int) ≤ (k : Int) := by omega
          have hi1 : (k : Int) < (lb.length : Int) := by omega
          have hap := append_kept HH.out lb[k] (SB.out _ (List.getElem_mem hlt)) (by rw [← keptL_append]; exact keptL_small _) (by rw [← keptL_append]; have := keptL_len (la ++ lb.take k); rw [List.length_append, List.length_take] at this; omega) (by omega)
          rw [List.append_assoc, ← keptL_take lb hlt] at hap
          have HAP := Lib.hid hap
          clear hap
          go_wp2_with fail
          refine HAP.out.mono ?_
          rintro e w5 ⟨q, er, N', rfl, hN', h5, ho5⟩
          have H5 := Lib.hid h5; clear h5
          have HO5 := Lib.hid (HO.out.trans ho5 (fun _ _ h => h)); clear ho5
          go_wp2_with fail
          case roundEnd => exact ⟨⟨k + 1, N', hlt, by push_cast; rfl, by omega, H5.out, HO5.out⟩, by simp [intOf]; omega⟩
        · obtain rfl : k = lb.length := by omega
          have hi1 : ¬ (lb.length : Int) < (lb.length : Int) := by omega
          have hu := HH.out.undo (by omega)
          rw [show (⟨(⟨1, keptL la ++ keptL (lb.take lb.length)⟩ : Grp).first, (⟨1, keptL la ++ keptL (lb.take lb.length)⟩ : Grp).bodies.take m⟩ : Grp) = ⟨1, keptL la⟩ by rw [HM.out]; show (⟨1, (keptL la ++ _).take (keptL la).length⟩ : Grp) = _; rw [List.take_left]] at hu
          have HU := Lib.hid hu; clear hu HH
          go_wp2_with fail
          refine HU.out.mono ?_
          rintro e w7 ⟨rfl, h7, ho7⟩
          have H7 := Lib.hid h7; clear h7
          have HO7 := Lib.hid (HO.out.trans ho7 (fun _ _ h => h)); clear ho7 HO HU
          go_wp2_with fail
          have hby := H7.out.bytes
          rw [← HSUM.out] at hby
          refine hby.mono ?_
          rintro e w8 ⟨rfl, ho8⟩
          have H8 := Lib.hid (H7.out.quiet ho8)
          have HO8 := Lib.hid (HO7.out.trans ho8 (fun _ _ h => h.elim)); clear ho8 hby H7 HO7
          go_wp2_with fail
          have hby := H8.out.used
          rw [← HSUM.out] at hby
          refine hby.mono ?_
          rintro e w9 ⟨rfl, ho9⟩
          have H9 := Lib.hid (H8.out.quiet ho9)
          have HO9 := Lib.hid (HO8.out.trans ho9 (fun _ _ h => h.elim)); clear ho9 hby H8 HO8
          go_wp2_with fail
          have hby := H9.out.next
          rw [show (⟨1, keptL la⟩ : Grp).end_ = 1 + m by rw [HM.out]; rfl] at hby
          refine hby.mono ?_
          rintro e w10 ⟨rfl, ho10⟩
          have H10 := Lib.hid (H9.out.quiet ho10)
          have HO10 := Lib.hid (HO9.out.trans ho10 (fun _ _ h => h.elim)); clear ho10 hby H9 HO9
          go_wp2_with fail
          have hby := H10.out.durable
          refine hby.mono ?_
          rintro e w11 ⟨rfl, ho11⟩
          have H11 := Lib.hid (H10.out.quiet ho11)
          have HO11 := Lib.hid (HO10.out.trans ho11 (fun _ _ h => h.elim)); clear ho11 hby H10 HO10
          go_wp2_with fail
          go_loopw [15] (fun i wr => ∃ k N3 : Nat, k ≤ lc.length ∧ i = .int .i64 k ∧ N3 ≤ N2 + 1 + k ∧ Held 1000000 w.heap.size N3 A wr lg d 0 1 [] ⟨1, keptL la ++ keptL (lc.take k)⟩ m ∧ Off (Rest w.heap.size A) w4 wr) (fun i _ => lc.length - (intOf i).toNat)
          case atStart => exact ⟨0, N2 + 1, Nat.zero_le _, rfl, by omega, by rw [List.take_zero, show keptL [] = [] from rfl, List.append_nil]; exact H11.out, HO11.out⟩
          case round =>
            obtain ⟨k, N3, hk, rfl, hN3, hh, ho⟩ := hrel
            have HH := Lib.hid hh; clear hh H11
            have HO := Lib.hid ho; clear ho HO11
            by_cases hlt : k < lc.length
            · obtain ⟨ad, hpa, _, hcl⟩ := reads_at (HRD.out _ (TR.out _ HO.out)).2.2 hlt
              subst hpa
              have hi0 : (0 : Int) ≤ (k : Int) := by omega
              have hi1 : (k : Int) < (lc.length : Int) := by omega
              have hap := append_kept HH.out lc[k] (SC.out _ (List.getElem_mem hlt)) (by rw [← keptL_append]; exact keptL_small _) (by rw [← keptL_append]; have := keptL_len (la ++ lc.take k); rw [List.length_append, List.length_take] at this; omega) (by omega)
              rw [List.append_assoc, ← keptL_take lc hlt] at hap
              have HAP := Lib.hid hap
              clear hap
              go_wp2_with fail
              refine HAP.out.mono ?_
              rintro e w12 ⟨q, er, N', rfl, hN', h12, ho12⟩
              have H12 := Lib.hid h12; clear h12
              have HO12 := Lib.hid (HO.out.trans ho12 (fun _ _ h => h)); clear ho12
              go_wp2_with fail
              case roundEnd => exact ⟨⟨k + 1, N', hlt, by push_cast; rfl, by omega, H12.out, HO12.out⟩, by simp [intOf]; omega⟩
            · obtain rfl : k = lc.length := by omega
              have hi1 : ¬ (lc.length : Int) < (lc.length : Int) := by omega
              have hh2 := HH.out
              rw [List.take_length, ← keptL_append, ← HALL.out] at hh2
              have HH2 := Lib.hid hh2; clear hh2 HH
              have hlal := HLAL.out
              go_wp2_with fail
              go_loopw [16, 17] (fun v i wr => ∃ k : Nat, k ≤ all.length ∧ i = .int .i64 k ∧ v = .int .u64 ((1 + (keptL (all.take k)).length : Nat) : Int) ∧ Off (Rest w.heap.size A) w4 wr ∧ Held 1000000 w.heap.size N3 A wr lg d 0 1 [] ⟨1, keptL all⟩ m) (fun _ i _ => all.length - (intOf i).toNat)
              case atStart => exact ⟨0, Nat.zero_le _, rfl, rfl, HO.out, HH2.out⟩
              case round =>
                obtain ⟨i, hi, rfl, rfl, ho, hh⟩ := hrel
                have HO13 := Lib.hid ho; clear ho HO
                have H13 := Lib.hid hh; clear hh HH2
                obtain ⟨q, hq⟩ : ∃ q, q = (keptL (all.take i)).length := ⟨_, rfl⟩
                have hqi : q ≤ i := by rw [hq]; exact Nat.le_trans (keptL_len _) (List.length_take_le _ _)
                rw [← hq]
                have HQ := Lib.hid hq; clear hq
                by_cases hlt : i < all.length
                · obtain ⟨ad, hpa, hb1, hb2, hc4⟩ := HAL.out i hlt
                  subst hpa
                  have hcl := HO13.out.keep hc4 (show ¬ Rest w.heap.size A _ from fun h => h.2 (by rw [HAA.out]; exact ⟨hb1, hb2⟩))
                  have hi0 : (0 : Int) ≤ (i : Int) := by omega
                  have hi1 : (i : Int) < (la.length : Int) + (lc.length : Int) := by omega
                  clear hc4
                  by_cases hsz : all[i].size ≤ 2000
                  · have hg := keptL_at all hlt hsz
                    rw [← HQ.out] at hg
                    have hgs := H13.out.get_some (i := q) (b := all[i].data.toList) (by simpa using hg) (by omega)
                    rw [str_back] at hgs
                    have HGS := Lib.hid hgs; clear hgs hg
                    have hn1 : (keptL (all.take (i + 1))).length = q + 1 := by rw [keptL_take all hlt, List.length_append, ← HQ.out, keptL_short hsz]; rfl
                    have HN1 := Lib.hid hn1; clear hn1
                    have hwq : IntKind.u64.wrap ((1 + (q : Int)) + 1) = ((1 + (q + 1) : Nat) : Int) := by simp [IntKind.wrap, IntKind.bits, IntKind.signed]; omega
                    have HWQ := Lib.hid hwq; clear hwq
                    go_wp2_with fail
                    refine HGS.out.mono ?_
                    rintro e w14 ⟨rfl, ho14⟩
                    have hcl2 := ho14.keep hcl (fun h => h)
                    have HO14 := Lib.hid (HO13.out.trans ho14 (fun _ _ h => h.elim))
                    have H14 := Lib.hid (H13.out.quiet ho14)
                    clear ho14
                    go_wp2_with fail
                    case roundEnd => exact ⟨⟨i + 1, hlt, by push_cast; rfl, by rw [HN1.out]; exact congrArg (Value.int IntKind.u64) (by push_cast; omega), HO14.out, H14.out⟩, by simp [intOf]; omega⟩
                  · have hn1 : (keptL (all.take (i + 1))).length = q := by rw [keptL_take all hlt, List.length_append, ← HQ.out, keptL_long (by omega)]; rfl
                    have HN1 := Lib.hid hn1; clear hn1
                    go_wp2_with fail
                    case roundEnd => exact ⟨⟨i + 1, hlt, by push_cast; rfl, by rw [HN1.out], HO13.out, H13.out⟩, by simp [intOf]; omega⟩
                · obtain rfl : i = all.length := by omega
                  have hi1 : ¬ (all.length : Int) < (la.length : Int) + (lc.length : Int) := by omega
                  have hq2 := HQ.out
                  rw [List.take_length] at hq2
                  have hby := H13.out.next
                  rw [show (⟨1, keptL all⟩ : Grp).end_ = 1 + q by rw [hq2]; rfl] at hby
                  have HBY := Lib.hid hby; clear hby hq2
                  go_wp2_with fail
                  refine HBY.out.mono ?_
                  rintro e w14 ⟨rfl, ho14⟩
                  have HO14 := Lib.hid (TR.out _ (HO13.out.trans ho14 (fun _ _ h => h.elim)))
                  clear ho14
                  go_wp2_with fail
                  go_ret
                  exact ⟨rfl, below_of HO14.out⟩
end Law
end Go.Proofs.YtnppdcegpojmbaaGreatDoor
