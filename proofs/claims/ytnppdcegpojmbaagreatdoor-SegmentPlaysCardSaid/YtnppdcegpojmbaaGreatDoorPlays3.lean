/- The walk of SegmentPlays. -/
import Derived.Test.YtnppdcegpojmbaaGreatDoorPlays2
import Derived.Test.YtnppdcegpojmbaaGreatDoorRefCrash
import Derived.Test.YtnppdcegpojmbaaGreatDoorCrash
import Derived.Test.YtnppdcegpojmbaaGreatDoorFront
import Derived.Deep.CutRange
namespace Go.Proofs.YtnppdcegpojmbaaGreatDoor
open Go Go.RowKit Go.Shelf Go.Sort
theorem lim_newI (R : Int) : Lim 0 (DiskV.new R) := ⟨Nat.zero_le _, Nat.le_refl _, Nat.le_refl _, Nat.le_refl _, fun f hf => by cases hf⟩
theorem Deck.newI {U : Nat} (R : Int) : Deck U 0 (DiskV.new R) (RefV.new R) :=
  ⟨Sim.new R, fun p hp => absurd (show p ∈ ([] : NMap) from hp) (by simp), List.Pairwise.nil, lim_newI R, RLim.new R, fun p hp => absurd (show p ∈ ([] : NMap) from hp) (by simp)⟩
/-- What stands before act i. -/
def PLoop (n : Nat) (wb wr : World) (pb d r i : Nat) : Prop := ∃ lg q off L D rs synced X, ∃ F1 F2 : Nat → Prop, Play wr n pb d r lg q off (1 + 3000000000 * (i + 1)) (2 + 2 * i) L D rs synced X F1 F2 ∧ Off (fun b => n ≤ b) wb wr
/-- What stands when the acts are done. -/
def PEnd (n : Nat) (wb wr : World) (pb d r : Nat) : Prop := ∃ U N lv qv D X, ∃ F1 F2 : Nat → Prop, Duo wr n pb d r lv qv D X F1 F2 ∧ Deck U N D X ∧ CrashOk U D ∧ U ≤ 900000000000 ∧ N ≤ 300 ∧ Off (fun b => n ≤ b) wb wr
theorem Play.pend {n : Nat} {wb wr w' : World} {pb d r lg q off U N : Nat} {L : LogV} {D : DiskV} {rs : List RSeg} {synced : Nat} {X : RefV} {F1 F2 : Nat → Prop} (h : Play wr n pb d r lg q off U N L D rs synced X F1 F2) (ho : Off (fun b => n ≤ b) wb wr) (hq : Off None wr w') : PEnd n wb w' pb d r := by
  obtain ⟨G1, G2, hd, _, _⟩ := h.two.duo
  exact ⟨U, N, _, _, D, X, G1, G2, hd.quiet hq, h.deck.deck, h.deck.cr, h.hU, h.le, ho.trans hq (fun _ _ h => h.elim)⟩
theorem Play.readd {w : World} {n pb d r lg q off U N : Nat} {L : LogV} {D : DiskV} {rs : List RSeg} {synced : Nat} {X : RefV} {F1 F2 : Nat → Prop} (h : Play w n pb d r lg q off U N L D rs synced X F1 F2) (name : ByteArray) (hn : name.size ≤ maxLen) :
    Calls Tryz.prog 41 #[.pointer (some ⟨d, 0, none⟩), .string name] w fun e w' => e = .returned (.tuple #[.string (D.read name).1, .int .i64 (D.read name).2]) ∧ w' = w := by
  obtain ⟨Fd, ⟨R, hd, _⟩, _⟩ := h.two.st.onDisk
  exact (DiskW.read_any w d D R hd name hn).mono (fun e w' h => ⟨h.1, h.2.symm⟩)
theorem sumT_each (T : Nat → ByteArray) : ∀ n i, i < n → (T i).size ≤ Law.sumT T n := by
  intro n
  induction n with
  | zero => intro i hi; omega
  | succ n ih =>
    intro i hi
    show _ ≤ Law.sumT T n + (T n).size
    rcases Nat.lt_or_ge i n with h | h
    · have := ih i h; omega
    · obtain rfl : i = n := by omega
      omega
namespace Law
set_option maxHeartbeats 8000000 in
set_option maxRecDepth 100000 in
theorem plays_walk (w : World) (room : Int) (pa : Option Addr) (na ca : Nat) (O M : Nat → Int) (T : Nat → ByteArray) (kd : Int) (Af : Option Addr) (cf : Nat) (fs : List Int)
    (hT : ∀ i, i < na → ∃ a, pa = some a ∧ w.cell? (a.add (i * 3)) = some (.int .i64 (O i)) ∧ w.cell? ⟨(a.add (i * 3)).block, (a.add (i * 3)).off + 1, none⟩ = some (.int .i64 (M i)) ∧ w.cell? ⟨(a.add (i * 3)).block, (a.add (i * 3)).off + 2, none⟩ = some (.string (T i)))
    (hO : ∀ i, i < na → (Lit.int .i64 (O i)).wf = true) (hs : ∀ i, i < na → (T i).size ≤ 140737488355328) (hn : na ≤ 140737488355328) (hroom : (Lit.int .i64 room).wf = true)
    (hfs : ∀ i (hi : i < fs.length), ∃ a, Af = some a ∧ w.cell? (a.add i) = some (.int .i64 fs[i])) (hfb : ∀ x ∈ fs, -9223372036854775808 ≤ x ∧ x ≤ 9223372036854775807) (hG : Glob w.heap.size w) :
    Calls Tryz.prog 9 #[.int .i64 room, .slice pa na ca, .agg #[.int .i64 kd, .slice Af fs.length cf]] w fun e w' => e = .returned (.bool true) ∧ Below w.heap.size w w' := by
  have hrm : room ≤ 9223372036854775807 := by
    have : -9223372036854775808 ≤ room ∧ room ≤ 9223372036854775807 := by simpa [Lit.wf, IntKind.min, IntKind.max, IntKind.bits, IntKind.signed] using hroom
    exact this.2
  have HG := Lib.hid hG; have HT := Lib.hid hT; have HO := Lib.hid hO; have HS := Lib.hid hs; have HFS := Lib.hid hfs; have HFB := Lib.hid hfb
  clear hG hT hO hs hfs hfb hroom
  go_enter Tryz.func9, Tryz.ntmps9
  go_wp2_with fail
  obtain ⟨wb, hwb⟩ : ∃ wb, wb = w.alloc (.cells #[.int .i64 kd, .slice Af fs.length cf] 63) := ⟨_, rfl⟩
  obtain ⟨bk, hbk⟩ : ∃ bk, bk = w.heap.size := ⟨_, rfl⟩
  have hob : Off None w wb := by rw [hwb]; exact (Off.refl None w).alloc _
  have hkp : wb.heap[bk]? = some (.cells #[.int .i64 kd, .slice Af fs.length cf] 63 (0, 0)) := by rw [hwb, hbk]; exact Heap.alloc_new w _
  rw [← hwb, ← hbk]
  have hbkl : bk < wb.heap.size := Heap.lt hkp
  have HGb := Lib.hid (Glob.mk (HG.out.none hob).crc (HG.out.none hob).pow ⟨Nat.lt_of_lt_of_le HG.out.le.1 hob.size, Nat.lt_of_lt_of_le HG.out.le.2 hob.size⟩ : Glob wb.heap.size wb)
  have htb : ∀ i, i < na → ∃ a, pa = some a ∧ (a.add (i * 3)).block < wb.heap.size ∧ wb.cell? (a.add (i * 3)) = some (.int .i64 (O i)) ∧ wb.cell? ⟨(a.add (i * 3)).block, (a.add (i * 3)).off + 1, none⟩ = some (.int .i64 (M i)) ∧ wb.cell? ⟨(a.add (i * 3)).block, (a.add (i * 3)).off + 2, none⟩ = some (.string (T i)) := by
    intro i hi
    obtain ⟨a, h1, h2, h3, h4⟩ := HT.out i hi
    exact ⟨a, h1, Nat.lt_of_lt_of_le (Heap.block_lt h2) hob.size, hob.keep h2 (fun h => h), hob.keep h3 (fun h => h), hob.keep h4 (fun h => h)⟩
  have HTB := Lib.hid htb
  have hfsb : ∀ i (hi : i < fs.length), ∃ a, Af = some a ∧ (a.add i).block < wb.heap.size ∧ wb.cell? (a.add i) = some (.int .i64 fs[i]) := by
    intro i hi
    obtain ⟨a, h1, h2⟩ := HFS.out i hi
    exact ⟨a, h1, Nat.lt_of_lt_of_le (Heap.block_lt h2) hob.size, hob.keep h2 (fun h => h)⟩
  have HFB2 := Lib.hid hfsb
  have HKP := Lib.hid hkp
  have HOB := Lib.hid hob
  clear htb hfsb hkp hob hwb hbk HT HFS HG
  refine (shown_any wb wb.heap.size HGb.out (Nat.le_refl _)).mono ?_
  rintro e w0 ⟨rfl, ho0⟩
  have HO0 := Lib.hid ho0; clear ho0
  go_wp2_with fail
  refine (light_any w0 pa na ca T (fun i hi => by
    obtain ⟨a, h1, h2, _, _, h3⟩ := HTB.out i hi
    exact ⟨a, h1, HO0.out.keep h3 (fun h => by have h : wb.heap.size ≤ (a.add (i * 3)).block := h; omega)⟩) HS.out hn).mono ?_
  rintro e w1 ⟨rfl, ho1⟩
  have HO1 := Lib.hid (HO0.out.trans ho1 (fun _ _ h => h.elim) : Off (fun b => wb.heap.size ≤ b) wb w1)
  clear ho1 HO0
  go_wp2_with fail
  refine (DiskW.new_any w1 room hrm).mono ?_
  rintro e w2 ⟨d, rfl, hdk, ho2⟩
  have HDK := Lib.hid hdk
  have hle1 : wb.heap.size ≤ w1.heap.size := HO1.out.size
  have HO2 := Lib.hid (HO1.out.trans ho2 (fun _ _ h => h.elim) : Off (fun b => wb.heap.size ≤ b) wb w2)
  have hs12 := ho2.size
  clear ho2 HO1 hdk
  go_wp2_with fail
  refine (RefW.new_any w2 room hrm).mono ?_
  rintro e w3 ⟨r, rfl, hrk, ho3⟩
  have HRK := Lib.hid hrk
  have HO3 := Lib.hid (HO2.out.trans ho3 (fun _ _ h => h.elim) : Off (fun b => wb.heap.size ≤ b) wb w3)
  have HDK3 := Lib.hid (HDK.out.off ho3 (fun _ _ _ h => h))
  have hs23 := ho3.size
  clear ho3 HO2 hrk HDK
  go_upto_region 4 with fail
  obtain ⟨w4, hw4⟩ : ∃ w4, w4 = w3.alloc (.cells #[.pointer (some ⟨d, 0, none⟩), .pointer (some ⟨r, 0, none⟩), .pointer none, .pointer none] 54) := ⟨_, rfl⟩
  obtain ⟨pb, hpb⟩ : ∃ pb, pb = w3.heap.size := ⟨_, rfl⟩
  have hplay : w4.heap[pb]? = some (.cells #[.pointer (some ⟨d, 0, none⟩), .pointer (some ⟨r, 0, none⟩), .pointer none, .pointer none] 54 (0, 0)) := by rw [hw4, hpb]; exact Heap.alloc_new w3 _
  have ho34 : Off None w3 w4 := by rw [hw4]; exact (Off.refl None w3).alloc _
  have hpb4 := Heap.lt hplay
  have hduo : Duo w4 wb.heap.size pb d r (.pointer none) (.pointer none) (DiskV.new room) (RefV.new room) (fun b => w1.heap.size ≤ b ∧ b < w2.heap.size) (fun b => w2.heap.size ≤ b ∧ b < w3.heap.size) :=
    ⟨hplay, HDK3.out.off ho34 (fun _ _ _ h => h), HRK.out.off ho34 (fun _ _ _ h => h), fun b h1 h2 => by omega, fun h => by omega, fun h => by omega, fun b h => ⟨by omega, by omega⟩, fun b h => ⟨by omega, by omega⟩, by omega⟩
  have HDUO := Lib.hid hduo
  have HO4 := Lib.hid (HO3.out.trans ho34 (fun _ _ h => h.elim) : Off (fun b => wb.heap.size ≤ b) wb w4)
  rw [← hw4, ← hpb]
  clear hplay ho34 hduo hpb hw4 HDK3 HRK HO3 hs12 hs23 hle1 hpb4
  have fin : ∀ (w' : World), Off (fun b => wb.heap.size ≤ b) wb w' → Below w.heap.size w w' := fun w' ho =>
    below_of ((HOB.out.mono (fun _ _ h => h.elim) : Off (fun b => w.heap.size ≤ b) w wb).trans ho (fun b _ h => Nat.le_trans HOB.out.size h))
  have FIN := Lib.hid fin; clear fin
  obtain ⟨k0, k1, k2, k3⟩ := HDUO.out.cells
  cases hlb : lightB T na with
  | false =>
    go_wp2_with fail
    go_ret
    exact ⟨rfl, FIN.out _ HO4.out⟩
  | true =>
    have hlt : na ≤ 60 ∧ sumT T na ≤ 1000 := by
      unfold lightB at hlb
      rw [Bool.and_eq_true, decide_eq_true_eq, decide_eq_true_eq] at hlb
      exact hlb
    obtain ⟨hn60, hsum⟩ := hlt
    have hsz : ∀ i, i < na → (T i).size ≤ 1000 := fun i hi => Nat.le_trans (sumT_each T na i hi) hsum
    have HSZ := Lib.hid hsz
    clear hlb hsum hsz
    have hdeck := Deck.newI (U := 1) room
    have hop := opened_any w4 wb.heap.size pb d r 0 0 _ _ _ _ _ _ HDUO.out hdeck.sim hdeck.inn (hdeck.listed (by decide)) (fun u hu => Nat.le_trans (hdeck.firsts (by decide) u hu) (by decide)) (HGb.out.off HO4.out (fun _ h => h)) hdeck.lim (by decide) hdeck.rlim (by decide)
    have HOP := Lib.hid hop
    clear hop hdeck
    go_wp2_with fail
    refine HOP.out.mono ?_
    rintro e w5 ⟨rfl, ho5, hop⟩
    have HO5 := Lib.hid (HO4.out.trans ho5 (fun b _ h => by
      have hn := HDUO.out.np
      rcases h with h | h | h
      · exact (HDUO.out.f1 b h).1
      · exact (HDUO.out.f2 b h).1
      · omega) : Off (fun b => wb.heap.size ≤ b) wb w5)
    clear ho5 HOP k0 k1 k2 k3
    rcases hop with ⟨h0, lg, q, xs, a, pre, y, F1', F2', hx, hy, h2, _, _⟩ | ⟨hne, F1', F2', h2, _, _⟩
    rotate_left
    · have H2 := Lib.hid h2
      clear h2 hne
      obtain ⟨k0, k1, k2, k3⟩ := H2.out.cells
      go_wp2_with fail
      go_ret
      exact ⟨rfl, FIN.out _ HO5.out⟩
    have hpl : PLoop wb.heap.size wb w5 pb d r 0 :=
      ⟨lg, q, 0, _, _, _, _, _, F1', F2', ⟨h2, (PDeck.of_opened (Deck.newI (U := 1) room) (CrashOk.new room) (Nat.le_refl _) (by decide) (by decide) h0 hx hy).mono (by omega) (by omega) (by decide), by omega, by omega, by omega⟩, HO5.out⟩
    obtain ⟨k0, k1, k2, k3⟩ := h2.cells
    have HPL := Lib.hid hpl
    clear hpl h0 hx hy h2
    go_upto_block 0 with fail
    go_cut [11] from 58 to 90 (fun _ wx => PEnd wb.heap.size wb wx pb d r)
    case first =>
      clear k0 k1 k2 k3
      go_wp2_with fail
      go_loopw [11] (fun iv wr => ∃ i : Nat, i ≤ na ∧ iv = .int .i64 i ∧ PLoop wb.heap.size wb wr pb d r i) (fun iv _ => na - (intOf iv).toNat)
      case atStart => exact ⟨0, Nat.zero_le _, rfl, HPL.out⟩
      case round =>
        obtain ⟨i, hi, rfl, lg2, q2, off2, L, D, rs, synced, X, F1, F2, hp, ho⟩ := hrel
        have H := Lib.hid hp; have HOW := Lib.hid ho
        clear hp ho HPL
        by_cases hlt : i < na
        · have i0 : (0 : Int) ≤ (i : Int) := by omega
          have i1 : (i : Int) < (na : Int) := by omega
          obtain ⟨a2, hpa, hab, c0, c1, c2⟩ := HTB.out i hlt
          subst hpa
          have hnb : ¬ (fun b => wb.heap.size ≤ b) (a2.add (i * 3)).block := fun h => by have h : wb.heap.size ≤ (a2.add (i * 3)).block := h; omega
          have e0 := HOW.out.keep c0 hnb
          have e1 := HOW.out.keep c1 hnb
          have e2 := HOW.out.keep c2 hnb
          have hdo := does_any wr wb.heap.size pb d r lg2 q2 off2 _ _ L D rs synced X F1 F2 H.out (HGb.out.off HOW.out (fun _ h => h)) (O i) (M i) (T i) (HO.out i hlt) (HS.out i hlt) (by omega) (by omega)
          have HDO := Lib.hid hdo
          clear c0 c1 c2 hdo hnb
          go_wp2_with fail
          refine HDO.out.mono ?_
          rintro e w6 ⟨rfl, ho6, hact⟩
          have HO6 := Lib.hid (HOW.out.trans ho6 (fun b _ h => by
            have hn := H.out.two.np
            rcases h with h | h | h
            · exact (H.out.two.f1 b h).1
            · exact (H.out.two.f2 b h).1
            · omega) : Off (fun b => wb.heap.size ≤ b) wb w6)
          clear ho6 HDO e0 e1 e2
          rcases hact with ⟨lg3, q3, off3, L3, D3, rs3, syn3, X3, G1, G2, hp3, _, _⟩ | ⟨D3, X3, G1, G2, hd3, hk3, hc3, _, _⟩
          · have H3 := Lib.hid hp3
            clear hp3 H
            obtain ⟨k0, k1, k2, k3⟩ := H3.out.two.cells
            have hrd := H3.out.readd ⟨#[110, 111, 110, 101]⟩ (by decide)
            obtain ⟨t, er, hte⟩ : ∃ t er, D3.read ⟨#[110, 111, 110, 101]⟩ = (t, er) := ⟨_, _, rfl⟩
            rw [hte] at hrd
            have HRD := Lib.hid hrd
            clear hrd hte
            go_wp2_with fail
            refine HRD.out.mono ?_
            rintro e w7 ⟨rfl, hw7⟩
            obtain rfl := hw7.symm
            by_cases her : er = 11
            · have t1 : (er == 11) = true := by rw [beq_iff_eq]; exact her
              clear her
              go_wp2_with fail
              go_meet
              exact H3.out.pend HO6.out (Off.refl _ _)
            · have t1 : (er == 11) = false := by rw [beq_eq_false_iff_ne]; exact her
              have hal := alike_any w6 wb.heap.size pb d r lg3 q3 off3 _ _ L3 D3 rs3 syn3 X3 G1 G2 H3.out.two H3.out.deck.td.twin (HGb.out.off HO6.out (fun _ h => h)) H3.out.deck.lim H3.out.deck.rlim
              have HAL := Lib.hid hal
              clear hal
              go_wp2_with fail
              refine HAL.out.mono ?_
              rintro e w8 ⟨rfl, ho8⟩
              have HP8 := Lib.hid (H3.out.quiet ho8)
              have HO8 := Lib.hid (HO6.out.trans ho8 (fun _ _ h => h.elim))
              clear ho8 HAL k0 k1 k2 k3
              go_wp2_with fail
              case roundEnd =>
                refine ⟨⟨i + 1, hlt, by push_cast; rfl, lg3, q3, off3, L3, D3, rs3, syn3, X3, G1, G2, ?_, HO8.out⟩, by simp [intOf]; omega⟩
                have hz := HP8.out
                rw [show 1 + 3000000000 * (i + 1) + 3000000000 = 1 + 3000000000 * (i + 1 + 1) by omega, show 2 + 2 * i + 2 = 2 + 2 * (i + 1) by omega] at hz
                exact hz
          · have H3 := Lib.hid hd3
            have hend : PEnd wb.heap.size wb w6 pb d r := ⟨_, _, _, _, D3, X3, G1, G2, hd3, hk3, hc3, by omega, by omega, HO6.out⟩
            have HEND := Lib.hid hend
            clear hd3 hk3 hc3 hend H
            obtain ⟨k0, k1, k2, k3⟩ := H3.out.cells
            go_wp2_with fail
            go_meet
            exact HEND.out
        · have hin : i = na := by omega
          subst hin
          have i1 : ¬ (i : Int) < (i : Int) := by omega
          go_wp2_with fail
          go_meet
          exact H.out.pend HOW.out (Off.refl _ _)
    case rest =>
      obtain ⟨wv, hwv⟩ : ∃ wv, wv = wc := ⟨_, rfl⟩
      subst hwv
      obtain ⟨U, N, lv, qv, D, X, F1, F2, hd, hk, hc, hU, hN, ho⟩ := hcut
      have H := Lib.hid hd; have HK := Lib.hid hk; have HC := Lib.hid hc; have HOW := Lib.hid ho
      have hwc := ho.size
      have hplt := hd.plt
      have hnp := hd.np
      clear hd hk hc ho k0 k1 k2 k3 HPL
      obtain ⟨k0, k1, k2, k3⟩ := H.out.cells
      have hkp := HOW.out.at_ HKP.out (fun h => by have h : wb.heap.size ≤ bk := h; omega)
      have e0 : wv.cell? ⟨bk, 0, none⟩ = some (.int .i64 kd) := Heap.cell hkp 0
      have e1 : wv.cell? ⟨bk, 1, none⟩ = some (.slice Af fs.length cf) := Heap.cell hkp 1
      have hfs : ∀ W, Off (fun b => b = pb ∨ wv.heap.size ≤ b) wv W → ∀ i (hi : i < fs.length), ∃ a, Af = some a ∧ W.cell? (a.add i) = some (.int .i64 fs[i]) := by
        intro W hW i hi
        obtain ⟨a, h1, h2, h3⟩ := HFB2.out i hi
        refine ⟨a, h1, hW.keep (HOW.out.keep h3 (fun h => by have h : wb.heap.size ≤ (a.add i).block := h; omega)) (fun h => ?_)⟩
        rcases h with h | h <;> omega
      have HFS := Lib.hid hfs
      obtain ⟨R, hda, _⟩ := H.out.dk
      obtain ⟨l1, l2, l3, l4, l5, l6⟩ := HK.out.lawful HC.out (by omega) kd
      have hcr := fun W (hW : Off None wv W) => DiskW.crash_any W d D R (hda.off hW (fun _ _ h => h)) kd Af cf fs (HFS.out W (hW.mono (fun _ _ h => h.elim))) HFB.out l1 l2 l3 l4 l5 l6
      have HCR := Lib.hid hcr
      have hkb : ¬ Only pb bk := fun e => by have e : bk = pb := e; omega
      clear hcr hda l1 l2 l3 l4 l5 l6 hkp hfs
      go_wp2_with fail
      go_cut [10] from 91 to 99 (fun _ wx => ∃ w6 d2, wx = w6.setCell ⟨pb, 0, none⟩ (.pointer (some ⟨d2, 0, none⟩)) ∧ DiskIn w6 d2 (D.crash kd fs) (fun b => wv.heap.size ≤ b ∧ b < w6.heap.size) ∧ Off None wv w6)
      case first =>
        go_region_law (go_simp
                       go_at_call 38
                       refine (HCR.out _ ((Off.refl None wv).drew)).mono ?_
                       rintro e w6 ⟨d2, rfl, hd6, ho6⟩
                       have ho6 := ((Off.refl None wv).drew).trans ho6 (fun _ _ h => h)
                       have hp6 := ho6.at_ H.out.play (fun h => h)
                       have pf6 : w6.frozen? ⟨pb, 0, none⟩ = false := Heap.frozen hp6 0
                       have p06 : w6.cell? ⟨pb, 0, none⟩ = some (.pointer (some ⟨d, 0, none⟩)) := Heap.cell hp6 0
                       have pl6 := Heap.lt hp6)
        all_goals
          go_wp2_with fail
          go_meet
          exact ⟨w6, d2, rfl, hd6.mono (fun b _ h => h), ho6⟩
      case rest =>
      obtain ⟨w7, hw70⟩ : ∃ w7, w7 = wc := ⟨_, rfl⟩
      subst hw70
      obtain ⟨w6, d2, hw7, hd6, ho6⟩ := hcut
      have hp6 := ho6.at_ H.out.play (fun h => h)
      have f0 := ho6.keep e0 (fun h => h)
      have f1 := ho6.keep e1 (fun h => h)
      have hp7 : w7.heap[pb]? = some (.cells #[.pointer (some ⟨d2, 0, none⟩), .pointer (some ⟨r, 0, none⟩), lv, qv] 54 (0, 0)) := by rw [hw7]; exact (Heap.set hp6 0 _).trans rfl
      have ho67 : Off (Only pb) w6 w7 := by rw [hw7]; exact (Off.refl (Only pb) w6).set 0 _
      have hs7 : w7.heap.size = w6.heap.size := by rw [hw7, Heap.set_size]
      have hs6 := ho6.size
      have e07 : w7.cell? ⟨bk, 0, none⟩ = some (.int .i64 kd) := ho67.keep f0 hkb
      have e17 : w7.cell? ⟨bk, 1, none⟩ = some (.slice Af fs.length cf) := ho67.keep f1 hkb
      have hd7 : DiskIn w7 d2 (D.crash kd fs) (fun b => wv.heap.size ≤ b ∧ b < w6.heap.size) := (hd6.mono (fun b _ h => h)).off ho67 (fun b _ h e => by have e : b = pb := e; have h : wv.heap.size ≤ b ∧ b < w6.heap.size := h; omega)
      have hrk7 := H.out.rk.off ((ho6.mono (fun _ _ h => h.elim) : Off (Only pb) wv w6).trans ho67 (fun _ _ h => h)) (fun b _ h2 e => H.out.p2 (by rw [← show b = pb from e]; exact h2))
      have hoc7 : Off (Only pb) wv w7 := (ho6.mono (fun _ _ h => h.elim) : Off (Only pb) wv w6).trans ho67 (fun _ _ h => h)
      have HD7 := Lib.hid hd7; have HRK7 := Lib.hid hrk7; have HP7 := Lib.hid hp7; have HOC7 := Lib.hid hoc7; have HS7 := Lib.hid hs7; have HS6 := Lib.hid hs6
      clear hd7 hrk7 hp7 hoc7 ho67 hw7 hd6 ho6 f0 f1 hp6 HCR e0 e1 k0 k1 k2 k3 hs7 hs6
      obtain ⟨Rr, hra, _⟩ := HRK7.out
      have hrl := HK.out.rlim
      have hNl := hrl.le
      have hcr2 := fun W (hW : Off None w7 W) => RefW.crash_any W r X Rr (hra.off hW (fun _ _ h => h)) kd Af cf fs (HFS.out W ((HOC7.out.mono (fun _ _ e => .inl e) : Off (fun b => b = pb ∨ wv.heap.size ≤ b) wv w7).trans hW (fun _ _ h => h.elim))) HFB.out (Nat.le_trans hrl.files hNl) (Nat.le_trans hrl.dirs (by omega)) (fun l hl => Nat.le_trans (hrl.dir l hl) hNl) (fun row hr => Nat.le_trans (hrl.each row hr).1 (by omega))
      have HCR2 := Lib.hid hcr2
      have p17 : w7.cell? ⟨pb, 1, none⟩ = some (.pointer (some ⟨r, 0, none⟩)) := Heap.cell HP7.out 1
      clear hcr2 hra hrl hNl
      go_wp2_with fail
      go_cut [10] from 100 to 111 (fun _ wx => ∃ w8 r2, wx = w8.setCell ⟨pb, 1, none⟩ (.pointer (some ⟨r2, 0, none⟩)) ∧ RefIn w8 r2 (X.crash kd fs) (fun b => w7.heap.size ≤ b ∧ b < w8.heap.size) ∧ Off None w7 w8)
      case first =>
        go_region_law (go_simp
                       go_at_call 42
                       refine (HCR2.out _ ((Off.refl None w7).drew)).mono ?_
                       rintro e w8 ⟨r2, rfl, hd8, ho8⟩
                       have ho8 := ((Off.refl None w7).drew).trans ho8 (fun _ _ h => h)
                       have hp8 := ho8.at_ HP7.out (fun h => h)
                       have pf8 : w8.frozen? ⟨pb, 1, none⟩ = false := Heap.frozen hp8 1
                       have p08 : w8.cell? ⟨pb, 1, none⟩ = some (.pointer (some ⟨r, 0, none⟩)) := Heap.cell hp8 1
                       have pl8 := Heap.lt hp8)
        all_goals
          go_wp2_with fail
          go_meet
          exact ⟨w8, r2, rfl, hd8.mono (fun b _ h => h), ho8⟩
      case rest =>
      obtain ⟨w9, hw90⟩ : ∃ w9, w9 = wc := ⟨_, rfl⟩
      subst hw90
      obtain ⟨w8, r2, hw9, hd8, ho8⟩ := hcut
      have hp8 := ho8.at_ HP7.out (fun h => h)
      have hp9 : w9.heap[pb]? = some (.cells #[.pointer (some ⟨d2, 0, none⟩), .pointer (some ⟨r2, 0, none⟩), lv, qv] 54 (0, 0)) := by rw [hw9]; exact (Heap.set hp8 1 _).trans rfl
      have ho89 : Off (Only pb) w8 w9 := by rw [hw9]; exact (Off.refl (Only pb) w8).set 1 _
      have hs9 : w9.heap.size = w8.heap.size := by rw [hw9, Heap.set_size]
      have hs8 := ho8.size
      have hduo9 : Duo w9 wb.heap.size pb d2 r2 lv qv (D.crash kd fs) (X.crash kd fs) (fun b => wv.heap.size ≤ b ∧ b < w7.heap.size) (fun b => w7.heap.size ≤ b ∧ b < w8.heap.size) := by
        have a1 := HS7.out; have a2 := HS6.out
        refine ⟨hp9, ?_, ?_, fun b h1 h2 => by omega, fun h => by omega, fun h => by omega, fun b h => ⟨by omega, by omega⟩, fun b h => ⟨by omega, by omega⟩, hnp⟩
        · exact ((HD7.out.mono (fun b _ h => ⟨h.1, by omega⟩)).off ho8 (fun _ _ _ h => h)).off ho89 (fun b _ h e => by have e : b = pb := e; have h : wv.heap.size ≤ b ∧ b < w7.heap.size := h; omega)
        · exact RefIn.off (hd8.mono (fun b _ h => h)) ho89 (fun b _ h e => by have e : b = pb := e; have h : w7.heap.size ≤ b ∧ b < w8.heap.size := h; omega)
      have HDUO9 := Lib.hid hduo9
      have HO9 := Lib.hid ((((HOW.out.trans HOC7.out (fun b _ e => by have e : b = pb := e; show wb.heap.size ≤ b; omega)).trans ho8 (fun _ _ h => h.elim)).trans ho89 (fun b _ e => by have e : b = pb := e; show wb.heap.size ≤ b; omega)) : Off (fun b => wb.heap.size ≤ b) wb w9)
      clear hduo9 hp9 ho89 hw9 hd8 ho8 hp8 HCR2 e07 e17 p17 HD7 HRK7 HP7 HOC7 HS7 HS6 hs8 hs9
      have hdc := HK.out.crash HC.out kd fs
      obtain ⟨k0, k1, k2, k3⟩ := HDUO9.out.cells
      have hop9 := opened_any w9 wb.heap.size pb d2 r2 N N lv qv _ _ _ _ HDUO9.out hdc.sim hdc.inn (hdc.listed (by omega)) (fun u hu => Nat.le_trans (hdc.firsts (by omega) u hu) (by omega)) (HGb.out.off HO9.out (fun _ h => h)) hdc.lim (by omega) hdc.rlim (by omega)
      have HOP9 := Lib.hid hop9; have HDC := Lib.hid hdc
      clear hop9 hdc
      go_wp2_with fail
      refine HOP9.out.mono ?_
      rintro e wz ⟨rfl, hoz, hopz⟩
      have HOZ := Lib.hid (HO9.out.trans hoz (fun b _ h => by
        have hn := HDUO9.out.np
        rcases h with h | h | h
        · exact (HDUO9.out.f1 b h).1
        · exact (HDUO9.out.f2 b h).1
        · omega) : Off (fun b => wb.heap.size ≤ b) wb wz)
      clear hoz HOP9 k0 k1 k2 k3
      rcases hopz with ⟨h0, lg3, q3, xs, a, pre, y, G1, G2, hx, hy, h2, _, _⟩ | ⟨hne, G1, G2, h2, _, _⟩
      · have H2 := Lib.hid h2
        have HTW := Lib.hid (HDC.out.twin (by omega) h0 hx hy)
        clear h2 h0 hx hy
        obtain ⟨k0, k1, k2, k3⟩ := H2.out.cells
        have hal := alike_any wz wb.heap.size pb d2 r2 lg3 q3 0 (N + 2) (N + 2) _ _ _ _ _ G1 G2 H2.out HTW.out (HGb.out.off HOZ.out (fun _ h => h)) (lim_opened HDC.out.lim (by omega)) (HDC.out.rlim.opened (by omega))
        have HAL := Lib.hid hal
        clear hal
        go_wp2_with fail
        refine HAL.out.mono ?_
        rintro e w11 ⟨rfl, ho11⟩
        have HO11 := Lib.hid (HOZ.out.trans ho11 (fun _ _ h => h.elim))
        clear ho11 k0 k1 k2 k3
        go_wp2_with fail
        go_ret
        exact ⟨rfl, FIN.out _ HO11.out⟩
      · have H2 := Lib.hid h2
        clear h2 hne
        obtain ⟨k0, k1, k2, k3⟩ := H2.out.cells
        go_wp2_with fail
        go_ret
        exact ⟨rfl, FIN.out _ HOZ.out⟩
end Law
end Go.Proofs.YtnppdcegpojmbaaGreatDoor
