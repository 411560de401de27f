/- The walk of SegmentReads. -/
import Derived.Test.YtnppdcegpojmbaaGreatDoorOpened
import Derived.Test.YtnppdcegpojmbaaGreatDoorLaw3
import Derived.Deep.RegionHeld3
import Derived.Deep.CutRange
namespace Go.Proofs.YtnppdcegpojmbaaGreatDoor
open Go Go.RowKit Go.Sort
theorem framesL_rep_succ (f j : Nat) : framesL f (List.replicate (j + 1) [98]) = framesL f (List.replicate j [98]) ++ Frame.putF (f + j) [98] := by
  have e : List.replicate (j + 1) ([98] : List UInt8) = List.replicate j [98] ++ [[98]] := by rw [List.replicate_succ']
  rw [e, framesL_snoc, List.length_replicate]
theorem framesL_rep_len (j : Nat) : ∀ f, f + j ≤ 1000000 → (framesL f (List.replicate j [98])).length ≤ j * 25 := by
  induction j with
  | zero => intro f _; exact Nat.le_refl 0
  | succ j ih =>
    intro f hf
    rw [framesL_rep_succ, List.length_append]
    have h1 := ih f (by omega)
    have h2 := Frame.putF_len (f + j) [98] (by omega) (by decide)
    have h3 : ([98] : List UInt8).length = 1 := rfl
    omega
def bytesB (l : List UInt8) : ByteArray := ⟨l.toArray⟩
theorem bytesB_app (a b : List UInt8) : bytesB a ++ bytesB b = bytesB (a ++ b) := by
  refine str_of ?_
  simp [bytesB]
theorem bytesB_size (a : List UInt8) : (bytesB a).size = a.length := List.size_toArray
/-- What holds between two files. -/
def ReadsI (w wr : World) (pb d r k nx : Nat) : Prop := ∃ (D : DiskV) (X : RefV) (F1 F2 : Nat → Prop), nx ≤ 1000 + 4 * k ∧ Duo wr w.heap.size pb d r (.pointer none) (.pointer none) D X F1 F2 ∧ Deck 2000 (3 * k) D X
namespace Law
set_option maxHeartbeats 4000000 in
set_option maxRecDepth 100000 in
theorem reads_walk (w : World) (first : Nat) (pm pt : Option Addr) (nm cm nt ct : Nat) (B : Nat → Int) (T : Nat → ByteArray) (hB : ∀ i, i < nm → ∃ a, pm = some a ∧ w.cell? (a.add i) = some (.int .i64 (B i))) (hBw : ∀ i, i < nm → (Lit.int .i64 (B i)).wf = true)
    (hT : ∀ i, i < nt → ∃ a, pt = some a ∧ w.cell? (a.add i) = some (.string (T i))) (hf : first < 18446744073709551616) (hnm : nm ≤ maxLen) (hnt : nt ≤ maxLen) (hG : Glob w.heap.size w) :
    Calls Tryz.prog 5 #[.int .u64 first, .slice pm nm cm, .slice pt nt ct] w fun e w' => e = .returned (.bool true) ∧ Below w.heap.size w w' := by
  have HG := Lib.hid hG; clear hG
  have HB := Lib.hid hB; have HBW := Lib.hid hBw; have HT := Lib.hid hT; clear hB hBw hT
  have hnm' : nm ≤ 2 ^ 63 - 1 := hnm
  have hnt' : nt ≤ 2 ^ 63 - 1 := hnt
  go_enter Tryz.func5, Tryz.ntmps5
  go_wp2_with fail
  refine (shown_any w w.heap.size HG.out (Nat.le_refl _)).mono ?_
  rintro e w0 ⟨rfl, ho0⟩
  have HO0 := Lib.hid ho0; clear ho0
  by_cases hg1 : nm ≤ 6
  rotate_left
  · have hg1' : (6 : Int) < (nm : Int) := by omega
    go_wp2_with fail
    go_ret
    exact ⟨rfl, below_of HO0.out⟩
  have hg1' : ¬ (6 : Int) < (nm : Int) := by omega
  by_cases hg2 : nt ≤ 6
  rotate_left
  · have hg2' : (6 : Int) < (nt : Int) := by omega
    go_wp2_with fail
    go_ret
    exact ⟨rfl, below_of HO0.out⟩
  have hg2' : ¬ (6 : Int) < (nt : Int) := by omega
  go_wp2_with fail
  refine (DiskW.new_any w0 100000 (by omega)).mono ?_
  rintro e w1 ⟨d, rfl, hdk, ho1⟩
  have HDK := Lib.hid hdk
  have HO1 := Lib.hid (HO0.out.trans ho1 (fun _ _ h => h.elim) : Off (fun b => w.heap.size ≤ b) w w1)
  have hle0 : w.heap.size ≤ w0.heap.size := HO0.out.size
  have hs01 := ho1.size
  clear ho1 HO0 hdk
  go_wp2_with fail
  refine (RefW.new_any w1 100000 (by omega)).mono ?_
  rintro e w2 ⟨r, rfl, hrk, ho2⟩
  have HRK := Lib.hid hrk
  have HO2 := Lib.hid (HO1.out.trans ho2 (fun _ _ h => h.elim) : Off (fun b => w.heap.size ≤ b) w w2)
  have HDK2 := Lib.hid (HDK.out.off ho2 (fun _ _ _ h => h))
  have hs12 := ho2.size
  clear ho2 HO1 hrk HDK
  go_wp2_with fail
  obtain ⟨w3, hw3⟩ : ∃ w3, w3 = w2.alloc (.cells #[.pointer (some ⟨d, 0, none⟩), .pointer (some ⟨r, 0, none⟩), .pointer none, .pointer none] 54) := ⟨_, rfl⟩
  obtain ⟨pb, hpb⟩ : ∃ pb, pb = w2.heap.size := ⟨_, rfl⟩
  have hplay : w3.heap[pb]? = some (.cells #[.pointer (some ⟨d, 0, none⟩), .pointer (some ⟨r, 0, none⟩), .pointer none, .pointer none] 54 (0, 0)) := by rw [hw3, hpb]; exact Heap.alloc_new w2 _
  have ho23 : Off None w2 w3 := by rw [hw3]; exact (Off.refl None w2).alloc _
  have hpb3 := Heap.lt hplay
  have hduo : Duo w3 w.heap.size pb d r (.pointer none) (.pointer none) (DiskV.new (100000 : Nat)) (RefV.new (100000 : Nat)) (fun b => w0.heap.size ≤ b ∧ b < w1.heap.size) (fun b => w1.heap.size ≤ b ∧ b < w2.heap.size) :=
    ⟨hplay, HDK2.out.off ho23 (fun _ _ _ h => h), HRK.out.off ho23 (fun _ _ _ h => h), fun b h1 h2 => by omega, fun h => by omega, fun h => by omega, fun b h => ⟨by omega, by omega⟩, fun b h => ⟨by omega, by omega⟩, by omega⟩
  have HDUO := Lib.hid hduo
  have HO3 := Lib.hid (HO2.out.trans ho23 (fun _ _ h => h.elim) : Off (fun b => w.heap.size ≤ b) w w3)
  rw [← hw3, ← hpb]
  clear hplay ho23 hduo hpb hw3 HDK2 HRK HO2 hs01 hs12 hle0 hpb3
  go_loopw [9, 10] (fun nv i wr => ∃ (k nx : Nat), k ≤ nm ∧ i = .int .i64 k ∧ nv = .int .u64 nx ∧ ReadsI w wr pb d r k nx ∧ Off (fun b => w.heap.size ≤ b) w wr) (fun _ i _ => nm - (intOf i).toNat)
  case atStart => exact ⟨0, first % 1000, Nat.zero_le _, rfl, by go_num, ⟨_, _, _, _, by omega, HDUO.out, Deck.new _⟩, HO3.out⟩
  case round =>
    obtain ⟨k, nx, hk, rfl, rfl, ⟨D, X, F1, F2, hnx, hd, hdeck⟩, ho⟩ := hrel
    have HD := Lib.hid hd; have HDECK := Lib.hid hdeck; have HO := Lib.hid ho
    clear hd hdeck ho
    by_cases hlt : k < nm
    · have hi0 : (0 : Int) ≤ (k : Int) := by omega
      have hi1 : (k : Int) < (nm : Int) := by omega
      obtain ⟨p4, hp4, hpk4⟩ := pick_nat (B k) 4 (HBW.out k hlt) (by omega) (by omega)
      obtain ⟨p40, hp40, hpk40⟩ := pick_nat (B k) 40 (HBW.out k hlt) (by omega) (by omega)
      have HP4 := Lib.hid hpk4; have HP40 := Lib.hid hpk40
      clear hpk4 hpk40
      obtain ⟨am, hpm, hcm⟩ := HB.out k hlt
      subst hpm
      have hamb := Heap.block_lt hcm
      have hcmW : ∀ W, Off (fun b => w.heap.size ≤ b) w W → W.cell? (am.add k) = some (.int .i64 (B k)) := fun W hW => hW.keep hcm (show ¬ (w.heap.size ≤ (am.add k).block) from by omega)
      have HCM := Lib.hid hcmW
      clear hcm hcmW hamb
      go_wp2_with fail
      refine (Seg.name_any wr nx (by omega) (HG.out.off HO.out (fun _ h => h)).pow).mono ?_
      rintro e w4 ⟨rfl, ho4⟩
      have HD4 := Lib.hid (HD.out.quiet ho4); have HO4 := Lib.hid (HO.out.trans ho4 (fun _ _ h => h.elim))
      clear ho4 HD HO
      obtain ⟨hdk1, hce⟩ := HDECK.out.create (u := nx) (by omega) (by omega)
      obtain ⟨D1, ec, hdc⟩ : ∃ D1 ec, D.create (Seg.nameB nx) = (D1, ec) := ⟨_, _, rfl⟩
      obtain ⟨X1, ec2, hxc⟩ : ∃ X1 ec2, X.create (Seg.nameB nx) = (X1, ec2) := ⟨_, _, rfl⟩
      rw [hdc, hxc] at hdk1 hce
      dsimp only at hdk1 hce
      subst hce
      have hl := HDECK.out.lim; have hrl := HDECK.out.rlim
      have hlm := hl.le
      have hc1 := fun W (hW : Off None w4 W) => DiskW.create_any W d D F1 (HD4.out.quiet hW).dk (Seg.nameB nx) (by rw [Seg.nameB_size (by omega)]; decide) (by have := hl.names; unfold maxLen; omega) (by have := hl.moves; omega) (by have := hl.files; omega)
      have hc2 := fun W (hW : RefIn W r X F2) => RefW.create_any W r X F2 hW (Seg.nameB nx) (by rw [Seg.nameB_size (by omega)]; decide) (Nat.le_trans hrl.now hlm) (Nat.le_trans hrl.dirs (by omega)) (Nat.le_trans hrl.files (by omega))
      rw [hdc] at hc1
      rw [hxc] at hc2
      have HC1 := Lib.hid hc1; have HC2 := Lib.hid hc2; have HDK1 := Lib.hid hdk1
      clear hc1 hc2 hdk1 hdc hxc hl hrl hlm HDECK
      obtain ⟨k0, k1, _, _⟩ := HD4.out.cells
      go_wp2_with fail
      go_region_held3 (fun W => W.cell? ⟨pb, 0, none⟩ = some (.pointer (some ⟨d, 0, none⟩)) ∧ W.cell? ⟨pb, 1, none⟩ = some (.pointer (some ⟨r, 0, none⟩)))
        (first | exact ⟨k0, k1⟩ | exact ⟨j0, j1⟩ | exact ⟨i0, i1⟩)
        (first
          | (go_at_call 26; refine (HC1.out _ ((Off.refl None w4).drew)).mono ?_; rintro e w5 ⟨rfl, hd5, ho5⟩; have hz5 := (HD4.out.quiet ((Off.refl None w4).drew)).turn1 hd5 ho5; obtain ⟨j0, j1, _, _⟩ := hz5.cells)
          | (go_at_call 27; refine (HC2.out w5 hz5.rk).mono ?_; rintro e w6 ⟨rfl, hd6, ho6⟩; have hz6 := hz5.turn2 hd6 ho6; obtain ⟨i0, i1, _, _⟩ := hz6.cells))
      have HD6 := Lib.hid hz6
      have HO6 := Lib.hid (((HO4.out.trans ((Off.refl None w4).drew) (fun _ _ h => h.elim)).trans ho5 (fun b _ h => (HD4.out.f1 b h).1)).trans ho6 (fun b _ h => (HD4.out.f2 b h).1) : Off (fun b => w.heap.size ≤ b) w w6)
      clear hz6 hz5 hd6 ho6 hd5 ho5 HD4 HO4 HC1 HC2 j0 j1 i0 i1 k0 k1
      have hcTW : ∀ a : Addr, ∀ v, w.cell? a = some v → ∀ W, Off (fun b => w.heap.size ≤ b) w W → W.cell? a = some v := fun a v hc W hW => hW.keep hc (show ¬ (w.heap.size ≤ a.block) from by have := Heap.block_lt hc; omega)
      have HCT := Lib.hid hcTW; clear hcTW
      go_upto_region 14 with fail
      go_cut [72] from 40 to 129 (fun s wx => s = .bool (decide (k < nt ∧ 100 < (T k).size)) ∧ w6 = wx)
      case first =>
        by_cases hkt : k < nt
        · obtain ⟨at_, hpt, hct⟩ := HT.out k hkt
          subst hpt
          have hc6 := HCT.out _ _ hct w6 HO6.out
          have hi2 : (k : Int) < (nt : Int) := by omega
          clear hct
          go_wp2_with fail
          go_meet
          refine ⟨?_, rfl⟩
          by_cases hs : 100 < (T k).size
          · rw [decide_eq_true (show k < nt ∧ 100 < (T k).size from ⟨hkt, hs⟩)]; simp; omega
          · rw [decide_eq_false (show ¬ (k < nt ∧ 100 < (T k).size) from fun h => hs h.2)]; simp; omega
        · have hi2 : ¬ (k : Int) < (nt : Int) := by omega
          go_wp2_with fail
          go_meet
          exact ⟨by rw [decide_eq_false (show ¬ (k < nt ∧ 100 < (T k).size) from fun h => hkt h.1)], rfl⟩
      case rest =>
        obtain ⟨rfl, rfl⟩ := hcut
        by_cases hbig : k < nt ∧ 100 < (T k).size
        · rw [decide_eq_true hbig]
          go_wp2_with fail
          go_ret
          exact ⟨rfl, below_of HO6.out⟩
        · rw [decide_eq_false hbig]
          have HBIG := Lib.hid hbig; clear hbig
          go_wp2_with fail
          go_loopw [12, 13] (fun sv jv wr => ∃ j : Nat, j ≤ p4 ∧ jv = .int .i64 j ∧ sv = .string (bytesB (framesL nx (List.replicate j [98]))) ∧ Off None w6 wr) (fun _ jv _ => p4 - (intOf jv).toNat)
          case atStart => exact ⟨0, Nat.zero_le _, rfl, rfl, Off.refl _ _⟩
          case round =>
            obtain ⟨j, hj, rfl, rfl, hoj⟩ := hrel
            have HOJ := Lib.hid hoj
            have hcm := HCM.out _ (HO6.out.trans hoj (fun _ _ h => h.elim))
            clear hoj
            obtain ⟨sb, hsb⟩ : ∃ sb, sb = bytesB (framesL nx (List.replicate j [98])) := ⟨_, rfl⟩
            rw [← hsb]
            have HSB := Lib.hid hsb
            have hsz : sb.size ≤ 75 := by
              rw [hsb, bytesB_size]
              have := framesL_rep_len j nx (by omega)
              omega
            clear hsb
            go_wp2_with fail
            refine (HP4.out _).mono ?_
            rintro e w7 ⟨rfl, rfl⟩
            by_cases hjl : j < p4
            · have hj1 : (j : Int) < (p4 : Int) := by omega
              have hx1 : IntKind.u64.wrap (j : Int) = (j : Int) := IntWalk.u64_in _ (by omega)
              have hx2 : IntKind.u64.wrap ((nx : Int) + (j : Int)) = ((nx + j : Nat) : Int) := by rw [IntWalk.u64_in _ (by omega)]; push_cast; rfl
              have hF := framed_any w7 (nx + j) (by omega)
              have hst : sb ++ bytesB (Frame.putF (nx + j) [98]) = bytesB (framesL nx (List.replicate (j + 1) [98])) := by rw [HSB.out, bytesB_app, framesL_rep_succ]
              have hsz2 := Frame.putF_len (nx + j) [98] (by omega) (by decide)
              have hsz3 : (bytesB (Frame.putF (nx + j) [98])).size ≤ 100 := by rw [bytesB_size]; exact Nat.le_trans hsz2 (by decide)
              obtain ⟨fb, hfb⟩ : ∃ fb, fb = bytesB (Frame.putF (nx + j) [98]) := ⟨_, rfl⟩
              rw [show (⟨(Frame.putF (nx + j) [98]).toArray⟩ : ByteArray) = fb from hfb.symm] at hF
              rw [← hfb] at hst hsz3
              have HF := Lib.hid hF; have HST := Lib.hid hst
              clear hF hst hfb hsz2
              go_wp2_with fail
              refine HF.out.mono ?_
              rintro e w8 ⟨rfl, ho8⟩
              have HO8 := Lib.hid (HOJ.out.trans ho8 (fun _ _ h => h))
              clear ho8
              go_wp2_with fail
              case roundEnd => exact ⟨⟨j + 1, hjl, by push_cast; rfl, by rw [HST.out], HO8.out⟩, dec_step hjl⟩
            · have hjp : j = p4 := by omega
              subst hjp
              have hj1 : ¬ (j : Int) < (j : Int) := by omega
              go_upto_if 92 with fail
              obtain ⟨tk, htk⟩ : ∃ tk : ByteArray, tk = if k < nt then T k else ByteArray.empty := ⟨_, rfl⟩
              have htks : tk.size ≤ 100 := by
                rw [htk]
                by_cases hkt : k < nt
                · rw [if_pos hkt]; have := HBIG.out; omega
                · rw [if_neg hkt]; exact Nat.zero_le _
              have HTK := Lib.hid htk; clear htk
              go_cut [12] from 40 to 129 (fun sv wx => sv = .string (sb ++ tk) ∧ w7 = wx)
              case first =>
                by_cases hkt : k < nt
                · obtain ⟨at_, hpt, hct⟩ := HT.out k hkt
                  subst hpt
                  have hc6 := HCT.out _ _ hct w7 (HO6.out.trans HOJ.out (fun _ _ h => h.elim))
                  have hi2 : (k : Int) < (nt : Int) := by omega
                  have htk2 := HTK.out
                  rw [if_pos hkt] at htk2
                  have htk3 := htk2.symm
                  have HT3 := Lib.hid htk3
                  rw [htk3] at hc6
                  clear hct htk2 htk3
                  go_wp2_with fail
                  go_meet
                  exact ⟨rfl, rfl⟩
                · have hi2 : ¬ (k : Int) < (nt : Int) := by omega
                  have htk2 := HTK.out
                  rw [if_neg hkt] at htk2
                  go_wp2_with fail
                  go_meet
                  refine ⟨?_, rfl⟩
                  rw [htk2, show sb ++ ByteArray.empty = sb by simp]
              case rest =>
                obtain ⟨rfl, rfl⟩ := hcut
                obtain ⟨S2, hS2⟩ : ∃ S2, S2 = sb ++ tk := ⟨_, rfl⟩
                have hS2s : S2.size ≤ 3000 := by rw [hS2, ByteArray.size_append]; omega
                rw [← hS2]
                clear hS2
                obtain ⟨hdk2, hce⟩ := HDK1.out.append (Seg.nameB nx) S2 hS2s (by omega)
                obtain ⟨D2, ec, hdc⟩ : ∃ D2 ec, D1.append (Seg.nameB nx) S2 = (D2, ec) := ⟨_, _, rfl⟩
                obtain ⟨X2, ec2, hxc⟩ : ∃ X2 ec2, X1.append (Seg.nameB nx) S2 = (X2, ec2) := ⟨_, _, rfl⟩
                rw [hdc, hxc] at hdk2 hce
                dsimp only at hdk2 hce
                subst hce
                have hl := HDK1.out.lim; have hrl := HDK1.out.rlim
                have hlm := hl.le
                have HD7 := Lib.hid (HD6.out.quiet HOJ.out)
                have HO7 := Lib.hid (HO6.out.trans HOJ.out (fun _ _ h => h.elim) : Off (fun b => w.heap.size ≤ b) w w7)
                obtain ⟨G1, hG1⟩ : ∃ G1 : Nat → Prop, G1 = Grow F1 w4.drew w5 := ⟨_, rfl⟩
                obtain ⟨G2, hG2⟩ : ∃ G2 : Nat → Prop, G2 = Grow F2 w5 w6 := ⟨_, rfl⟩
                rw [← hG1, ← hG2] at HD7
                clear hG1 hG2
                have hc1 := fun W (hW : Off None w7 W) => DiskW.append_any W d D1 G1 (HD7.out.quiet hW).dk (Seg.nameB nx) S2 (by rw [Seg.nameB_size (by omega)]; decide) (by unfold maxLen; omega) hl.used (fun f hf => by have := hl.each f hf; unfold maxLen; exact ⟨by omega, by omega⟩)
                have hc2 := fun W (hW : RefIn W r X1 G2) => RefW.append_any W r X1 G2 hW (Seg.nameB nx) S2 (by omega) hrl.used_le hrl.rows_le
                rw [hdc] at hc1
                rw [hxc] at hc2
                have HC1 := Lib.hid hc1; have HC2 := Lib.hid hc2; have HDK2 := Lib.hid hdk2
                clear hc1 hc2 hdk2 hdc hxc hl hrl hlm HDK1 HD6 HO6 HOJ HSB
                obtain ⟨k0, k1, _, _⟩ := HD7.out.cells
                go_wp2_with fail
                go_region_held3 (fun W => W.cell? ⟨pb, 0, none⟩ = some (.pointer (some ⟨d, 0, none⟩)) ∧ W.cell? ⟨pb, 1, none⟩ = some (.pointer (some ⟨r, 0, none⟩)))
                  (first | exact ⟨k0, k1⟩ | exact ⟨j0, j1⟩ | exact ⟨i0, i1⟩)
                  (first
                    | (go_at_call 29; refine (HC1.out _ ((Off.refl None w7).drew)).mono ?_; rintro e w8 ⟨rfl, hd5, ho5⟩; have hz5 := (HD7.out.quiet ((Off.refl None w7).drew)).turn1 hd5 ho5; obtain ⟨j0, j1, _, _⟩ := hz5.cells)
                    | (go_at_call 30; refine (HC2.out w8 hz5.rk).mono ?_; rintro e w9 ⟨rfl, hd6, ho6⟩; have hz6 := hz5.turn2 hd6 ho6; obtain ⟨i0, i1, _, _⟩ := hz6.cells))
                have HD9 := Lib.hid hz6
                have HO9 := Lib.hid (((HO7.out.trans ((Off.refl None w7).drew) (fun _ _ h => h.elim)).trans ho5 (fun b _ h => (HD7.out.f1 b h).1)).trans ho6 (fun b _ h => (HD7.out.f2 b h).1) : Off (fun b => w.heap.size ≤ b) w w9)
                clear hz6 hz5 hd6 ho6 hd5 ho5 HD7 HO7 HC1 HC2 j0 j1 i0 i1 k0 k1
                have hcm9 := HCM.out _ HO9.out
                have hy1 : IntKind.u64.wrap (j : Int) = (j : Int) := IntWalk.u64_in _ (by omega)
                have hy2 : IntKind.u64.wrap ((nx : Int) + (j : Int)) = ((nx + j : Nat) : Int) := by rw [IntWalk.u64_in _ (by omega)]; push_cast; rfl
                go_wp2_with fail
                refine (HP4.out _).mono ?_
                rintro e wp ⟨rfl, rfl⟩
                go_wp2_with fail
                refine (HP40.out _).mono ?_
                rintro e wp2 ⟨rfl, rfl⟩
                by_cases h39 : p40 = 39
                · have hz1 : ((p40 : Int) == 39) = true := by rw [beq_iff_eq]; omega
                  have hy3 : IntKind.u64.wrap (((nx + j : Nat) : Int) + 1) = ((nx + j + 1 : Nat) : Int) := by rw [IntWalk.u64_in _ (by omega)]; push_cast; rfl
                  go_wp2_with fail
                  case roundEnd => exact ⟨⟨k + 1, nx + j + 1, hlt, by push_cast; rfl, rfl, ⟨D2, X2, _, _, by omega, HD9.out, HDK2.out.mono (by omega) (by omega)⟩, HO9.out⟩, dec_step hlt⟩
                · have hz1 : ((p40 : Int) == 39) = false := by rw [beq_eq_false_iff_ne]; omega
                  go_wp2_with fail
                  case roundEnd => exact ⟨⟨k + 1, nx + j, hlt, by push_cast; rfl, rfl, ⟨D2, X2, _, _, by omega, HD9.out, HDK2.out.mono (by omega) (by omega)⟩, HO9.out⟩, dec_step hlt⟩
    · have hkn : k = nm := by omega
      subst hkn
      have hi1 : ¬ (k : Int) < (k : Int) := by omega
      have hop := opened_any wr w.heap.size pb d r (3 * k) (3 * k) _ _ D X F1 F2 HD.out HDECK.out.sim HDECK.out.inn (HDECK.out.listed (by omega)) (fun u hu => Nat.le_trans (HDECK.out.firsts (by omega) u hu) (by omega)) (HG.out.off HO.out (fun _ h => h)) HDECK.out.lim (by omega) HDECK.out.rlim (by omega)
      have HOP := Lib.hid hop; clear hop
      go_wp2_with fail
      refine HOP.out.mono ?_
      rintro e w2 ⟨rfl, ho2, hop⟩
      have HO2 := Lib.hid (HO.out.trans ho2 (fun b _ h => by
        have hn := HD.out.np
        rcases h with h | h | h
        · exact (HD.out.f1 b h).1
        · exact (HD.out.f2 b h).1
        · omega) : Off (fun b => w.heap.size ≤ b) w w2)
      clear ho2
      rcases hop with ⟨h0, lg, q, xs, a, pre, y, F1', F2', hx, hy, h2, _, _⟩ | ⟨hne, F1', F2', h2, _, _⟩
      · have H2 := Lib.hid h2
        have HTW := Lib.hid (HDECK.out.twin (by omega) h0 hx hy)
        clear h2 h0 hx hy HOP HO HD
        obtain ⟨k0, k1, k2, k3⟩ := H2.out.cells
        go_wp2_with fail
        refine (alike_any w2 w.heap.size pb d r lg q 0 (3 * k + 2) (3 * k + 2) _ _ _ _ _ F1' F2' H2.out HTW.out (HG.out.off HO2.out (fun _ h => h)) (lim_opened HDECK.out.lim (by omega)) (HDECK.out.rlim.opened (by omega))).mono ?_
        rintro e w3 ⟨rfl, ho3⟩
        have HO3 := Lib.hid (HO2.out.trans ho3 (fun _ _ h => h.elim))
        clear ho3 HO2 k0 k1 k2 k3
        go_wp2_with fail
        go_ret
        exact ⟨rfl, below_of HO3.out⟩
      · have H2 := Lib.hid h2
        clear h2 hne HOP HO HD
        obtain ⟨k0, k1, k2, k3⟩ := H2.out.cells
        go_wp2_with fail
        go_ret
        exact ⟨rfl, below_of HO2.out⟩
theorem reads_walk' (w : World) (first : Int) (pm pt : Option Addr) (nm cm ct : Nat) (B : Nat → Int) (l : List ByteArray) (hfw : (Lit.int .u64 first).wf = true) (hB : ∀ i, i < nm → ∃ a, pm = some a ∧ w.cell? (a.add i) = some (.int .i64 (B i))) (hBw : ∀ i, i < nm → (Lit.int .i64 (B i)).wf = true)
    (hT : Words.Reads w w.heap.size 1 pt l.length (cellsT l)) (hnm : nm ≤ maxLen) (hn : l.length ≤ 140737488355328) (hG : Glob w.heap.size w) :
    Calls Tryz.prog 5 #[.int .u64 first, .slice pm nm cm, .slice pt l.length ct] w fun e w' => e = .returned (.bool true) ∧ Below w.heap.size w w' := by
  have hb : 0 ≤ first ∧ first ≤ 18446744073709551615 := by simpa [Lit.wf, IntKind.min, IntKind.max, IntKind.bits, IntKind.signed] using hfw
  obtain ⟨u, rfl⟩ : ∃ u : Nat, first = u := ⟨first.toNat, by omega⟩
  refine reads_walk w u pm pt nm cm l.length ct B (fun i => l.getD i ByteArray.empty) hB hBw (fun i hi => ?_) (by omega) hnm (by unfold maxLen; omega) hG
  obtain ⟨ad, h1, _, h2⟩ := reads_at hT hi
  refine ⟨ad, h1, ?_⟩
  show w.cell? (ad.add i) = some (.string (l.getD i ByteArray.empty))
  rw [h2, List.getD_eq_getElem?_getD, List.getElem?_eq_getElem hi]
  rfl
end Law
end Go.Proofs.YtnppdcegpojmbaaGreatDoor
