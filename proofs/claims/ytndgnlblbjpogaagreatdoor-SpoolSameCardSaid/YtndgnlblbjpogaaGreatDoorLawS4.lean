/- A spool in memory; the walk of Ledger. · A spool that a law holds, beside blocks of the law's own: contracts of its functions. · The spool's laws: an act on a spool alone. -/
import Derived.Test.YtndgnlblbjpogaaGreatDoorLedE
import Derived.Test.YtndgnlblbjpogaaGreatDoorSpool9
import Derived.Test.YtndgnlblbjpogaaGreatDoorLawS3
namespace Go.Proofs.YtndgnlblbjpogaaGreatDoor
open Go Go.RowKit Go.Shelf Led
theorem own_stored3 {w : World} {base g cap n : Nat} {ds : List DestIn} (h : w.ownsRow base 47 7 (.slice (some ⟨g, 0, none⟩) n cap) n (destsCells ds)) (i : Nat) (d : DestV) (av av' : Value) (hi : ds[i]? = some (d, av)) :
    (w.setCell ⟨g, i * 7 + 3, none⟩ av').ownsRow base 47 7 (.slice (some ⟨g, 0, none⟩) n cap) n (destsCells (ds.set i (d, av'))) := by
  rw [dests_set3 ds i d av av' hi]
  exact (h.stored _ _).1
namespace Spool
set_option maxHeartbeats 4000000 in
set_option maxRecDepth 100000 in
theorem ledger_of (w : World) (sp : Nat) (S : Nat → Prop) (l : LedgerV) (sv : Value) (c4 : w.cell? ⟨sp, 4, none⟩ = some (.int .u64 l.first)) (c5 : w.cell? ⟨sp, 5, none⟩ = some (.int .u64 l.next)) (c6 : w.cell? ⟨sp, 6, none⟩ = some sv) (hl : LedgerAt w S (.agg #[.int .u64 l.first, .int .u64 l.next, sv]) l) :
    Calls Tryz.prog 12 #[.pointer (some ⟨sp, 0, none⟩)] w fun e w' => ∃ lv, e = .returned lv ∧ LedgerAt w' (fun b => w.heap.size ≤ b) lv l ∧ Off None w w' := by
  obtain ⟨sv', ds, e1, hds, hd, hf, hn⟩ := hl
  have hsv : sv = sv' := by
    injection e1 with e1
    injection e1 with e1
    injection e1 with _ e1
    injection e1 with _ e1
    injection e1
  subst hsv
  obtain ⟨A, c, hA⟩ := hd.row.form
  obtain ⟨n, hn0⟩ : ∃ n, n = ds.length := ⟨_, rfl⟩
  rw [← hn0] at hA
  subst hA
  obtain ⟨w2, p, hw2, hp, ho2, hb0, hb1, hs2⟩ := two_boxes w #[.int .u64 0, .int .u64 0, .slice none 0 0] #[.int .u64 l.first, .int .u64 l.next, .slice A n c] 34 34
  obtain ⟨q, hq⟩ : ∃ q, q = w.heap.size := ⟨_, rfl⟩
  rw [← hq] at hb0 hp
  have hpq : p ≠ q := by omega
  have HQ := Lib.hid (show w.heap.size ≤ p ∧ w.heap.size ≤ q ∧ q < w2.heap.size ∧ p < w2.heap.size by omega)
  have HB := Lib.hid (And.intro hb0 hb1)
  have HO := Lib.hid ho2
  have HD := Lib.hid (And.intro hd (And.intro hds hn0))
  have c4' : (w.alloc (.cells #[.int .u64 0, .int .u64 0, .slice none 0 0] 34)).cell? ⟨sp, 4, none⟩ = some (.int .u64 l.first) := ((Off.refl None w).alloc _).stay c4 (fun x => x)
  have c5' : (w.alloc (.cells #[.int .u64 0, .int .u64 0, .slice none 0 0] 34)).cell? ⟨sp, 5, none⟩ = some (.int .u64 l.next) := ((Off.refl None w).alloc _).stay c5 (fun x => x)
  have c6' : (w.alloc (.cells #[.int .u64 0, .int .u64 0, .slice none 0 0] 34)).cell? ⟨sp, 6, none⟩ = some (.slice A n c) := ((Off.refl None w).alloc _).stay c6 (fun x => x)
  have HF := Lib.hid (And.intro hf hn)
  have hdn := hd.row.2.1
  rw [← hn0] at hdn
  clear hd hds hn0 ho2 hs2 hb0 hb1 e1 c4 c5 c6 hf hn
  go_enter Tryz.func12, Tryz.ntmps12
  go_wp2_with fail
  have hq2 : w.heap.size + 1 = p := by omega
  rw [← hw2, hq2, ← hq]
  clear hw2 hp hq hq2 c4' c5' c6'
  have hd2 := HD.out.1.quiet HO.out
  refine (clone_any w2 S _ ds hd2).mono ?_
  rintro e w3 ⟨v, rfl, hown, ho3⟩
  obtain ⟨A3, c3, hv⟩ := own_form hown
  have hn3 := HD.out.2.2
  rw [← hn3] at hv
  subst hv
  have hp3 := ho3.at_ HB.out.2 (fun h => h)
  have hq3 := ho3.at_ HB.out.1 (fun h => h)
  have HO3 := Lib.hid (HO.out.quiet_trans ho3)
  have HS3 := Lib.hid ho3.size
  have HOWN := Lib.hid hown
  obtain ⟨w4, hw4⟩ : ∃ w4, w4 = w3.setCell ⟨p, 2, none⟩ (.slice A3 n c3) := ⟨_, rfl⟩
  have hp4 : w4.heap[p]? = some (.cells #[.int .u64 l.first, .int .u64 l.next, .slice A3 n c3] 34 (0, 0)) := by rw [hw4]; exact (Heap.set hp3 2 _).trans (by simp)
  have hq4 : w4.heap[q]? = some (.cells #[.int .u64 0, .int .u64 0, .slice none 0 0] 34 (0, 0)) := by rw [hw4]; exact (Heap.set_far (show q ≠ p by omega) _).trans hq3
  have ho34 : Off (Only p) w3 w4 := by rw [hw4]; exact (Off.refl (Only p) w3).setCell (p := ⟨p, 2, none⟩) (.inl rfl) _
  have hown4 : w4.ownsRow w2.heap.size 47 7 (.slice A3 n c3) n (destsCells ds) := by
    have h5 := hown
    rw [← hn3] at h5
    exact ho34.row h5 (fun k hk h => by have h6 := (hown.lt k hk).1; have h7 := HQ.out.2.2.2; have h8 : k = p := h; omega)
  have HW24 := Lib.hid (show w2.heap.size ≤ w4.heap.size from Nat.le_trans ho3.size ho34.size)
  have HP4 := Lib.hid hp4
  have HQ4 := Lib.hid hq4
  have HOWN4 := Lib.hid hown4
  have HO4 := Lib.hid (show Off None w w4 from HO3.out.trans ho34 (fun b hb h => by have := HQ.out; have h8 : b = p := h; omega))
  have e2 := Heap.cell hp3 2
  have x2 := Heap.frozen hp3 2
  have g2 := Heap.cell hp4 2
  clear hd2 hown ho3 hn3 hp3 hq3 hp4 hq4 ho34 hown4
  go_wp2_with fail
  rw [← hw4]
  clear hw4 e2 x2 g2
  obtain ⟨T, hT⟩ : ∃ T : Nat → Nat → Prop, T = fun m b => (0 < m ∧ S b ∧ b < w.heap.size) ∨ w4.heap.size ≤ b := ⟨_, rfl⟩
  have HT := Lib.hid hT
  have hT1 : ∀ j p, ds[j]? = some p → DestAt w4 (T (j + 1 - 0)) p := fun j p hp => ((((HD.out.1.each p (List.mem_of_getElem? hp)).mono (T := fun b => S b ∧ b < w.heap.size) (fun b hb hl => ⟨hb, hl⟩)).quiet HO4.out).mono (fun b hb _ => by rw [hT]; exact .inl ⟨by omega, hb⟩))
  have HT1 := Lib.hid hT1
  clear hT hT1
  go_loopg [16] n (fun gg s16 wr => ∃ (k g : Nat) (dk : List DestIn), g = gg ∧ k + g = n ∧ s16 = .int .i64 k ∧ Off (fun b => (Value.slice A3 n c3).ownBlock = some b) w4 wr ∧
    Aside (dk.length = n ∧ wr.ownsRow w2.heap.size 47 7 (.slice A3 n c3) n (destsCells dk) ∧ (∀ j p, dk[j]? = some p → DestAt wr (T (j + 1 - k)) p) ∧ dk.map (·.1) = l.dests))
  case atStart => exact ⟨0, n, ds, rfl, by omega, rfl, Off.refl _ _, HD.out.2.2.symm, HOWN4.out, HT1.out, HD.out.2.1⟩
  case round =>
    obtain ⟨k, g, dk, hgg, hkg, rfl, ho, I⟩ := hrel
    have HG := Lib.hid hgg; clear hgg
    have hsep : ∀ b, (Value.slice A3 n c3).ownBlock = some b → w2.heap.size ≤ b ∧ b < w4.heap.size := fun b hb => HOWN4.out.lt b hb
    have HSEP := Lib.hid hsep
    have hnp : ¬ ((Value.slice A3 n c3).ownBlock = some p) := fun h => by have := hsep p h; have := HQ.out; omega
    have hnq : ¬ ((Value.slice A3 n c3).ownBlock = some q) := fun h => by have := hsep q h; have := HQ.out; omega
    have hpr := ho.at_ HP4.out hnp
    have hqr := ho.at_ HQ4.out hnq
    have HPR := Lib.hid hpr
    have HQR := Lib.hid hqr
    have HOR := Lib.hid ho
    clear ho hsep hnp hnq
    by_cases hk : k < n
    · have hkd : k < dk.length := by have := I.out.1; omega
      obtain ⟨gb, cp, hv, hgb, _⟩ := I.out.2.1.form (by omega)
      cases hv
      obtain ⟨dp, hdp⟩ : ∃ dp, dk[k]? = some dp := ⟨_, List.getElem?_eq_getElem hkd⟩
      have hdest := I.out.2.2.1 _ _ hdp
      obtain ⟨dd, av⟩ := dp
      obtain ⟨B, cb, hB⟩ : ∃ B cb, av = .slice B dd.above.length cb := hdest.row.form
      subst hB
      have hcells : ∀ j u, (destsCells dk)[j]? = some u → wr.cell? ⟨gb, 0 + j, none⟩ = some u := fun j u hu => by
        have := I.out.2.1.cells (g := gb) rfl j u hu
        rw [Addr.add_lit] at this
        exact this
      obtain ⟨e0, e1, e2, e3, e4, e5, e6⟩ := SliceAt.dest hcells hdp
      rw [Nat.zero_add] at e3
      have hcpm : c3 ≤ 9223372036854775807 := by
        rcases I.out.2.1.2 with ⟨hv, _⟩ | ⟨_, _, _, hv, _, _, _, h2, _⟩
        · cases hv
        · cases hv; unfold maxLen at h2; exact h2
      have hncp : n ≤ c3 := by
        rcases I.out.2.1.2 with ⟨hv, _⟩ | ⟨_, _, _, hv, _, _, h2, _⟩
        · cases hv
        · cases hv; exact h2
      have hblk : ∃ cur, wr.heap[gb]? = some (.cells cur 47 (0, 0)) := by
        rcases I.out.2.1.2 with ⟨hv, _⟩ | ⟨_, _, _, hv, _, h3, _⟩
        · cases hv
        · cases hv; exact ⟨_, h3⟩
      obtain ⟨cur, hblk⟩ := hblk
      have z3 : wr.frozen? ⟨gb, k * 7 + 3, none⟩ = false := Heap.frozen hblk _
      have f2 := Heap.cell hpr 2
      have HDEST := Lib.hid hdest
      have HDP := Lib.hid hdp
      have HBLK := Lib.hid hblk
      have HCL := Lib.hid (fun W (hW : Off None wr W) => cloneNums_any W (T (k + 1 - k)) (.slice B dd.above.length cb) dd.above (hdest.row.quiet hW))
      clear hcells hdest hdp hpr hqr e0 e1 e2 e4 e5 e6 hblk
      go_wp2_with fail
      go_region_law (first
        | (refine step_call (by rfl) 36 _ _ (by rfl) (enters_of Tryz.func36 (by kernel_rfl) rfl) #[.slice B dd.above.length cb] (by rfl) (HCL.out _ ((Off.refl None wr).drew)) ?_
           rintro e w6 ⟨av', rfl, hown6, ho6⟩
           obtain ⟨B', cb', rfl⟩ := own_form hown6
           refine ⟨_, rfl, ?_⟩
           have ho26 : Off None wr w6 := ((Off.refl None wr).drew).quiet_trans ho6
           have g2 : w6.cell? ⟨p, 2, none⟩ = some (.slice (some ⟨gb, 0, none⟩) n c3) := ho26.stay f2 (fun x => x)
           have g3 : w6.cell? ⟨gb, k * 7 + 3, none⟩ = some (.slice B dd.above.length cb) := ho26.stay e3 (fun x => x)
           have zz3 : w6.frozen? ⟨gb, k * 7 + 3, none⟩ = false := Heap.frozen (ho26.at_ HBLK.out (fun x => x)) _))
      all_goals
        clear g2 g3 zz3 f2 z3 e3
        go_wp2_with fail
        go_roundg (g - 1)
        case measure => have := HG.out; omega
        case rel =>
          have hsg := HSEP.out gb rfl
          have hw2 := HO.out.size
          have hor := HOR.out.size
          refine ⟨k + 1, g - 1, dk.set k (dd, .slice B' dd.above.length cb'), rfl, by omega, by go_num, (HOR.out.quiet_trans ho26).setCell (p := ⟨gb, k * 7 + 3, none⟩) (.inl rfl) _, by rw [List.length_set]; exact I.out.1, own_stored3 (ho26.row I.out.2.1 (fun _ _ h => h)) k dd _ _ HDP.out, ?_, ?_⟩
          · intro j y hy
            have hoo : Off (Only gb) w6 (w6.setCell ⟨gb, k * 7 + 3, none⟩ (.slice B' dd.above.length cb')) := (Off.refl (Only gb) w6).setCell (p := ⟨gb, k * 7 + 3, none⟩) (.inl rfl) _
            by_cases hjk : k = j
            · subst hjk
              rw [List.getElem?_set_self hkd] at hy
              cases hy
              refine ⟨((SliceAt.of_own (S := fun b => wr.heap.size ≤ b) hown6 HDEST.out.row.2.1 (fun i hi => (hown6.lt i hi).1)).off hoo (fun b hb _ h => ?_)).mono (fun b hb _ => ?_), HDEST.out.small⟩
              · have h' : b = gb := h
                omega
              · rw [HT.out]
                exact .inr (by omega)
            · rw [List.getElem?_set_ne hjk] at hy
              refine (((I.out.2.2.1 j y hy).quiet ho26).off hoo (fun b hb _ h => ?_)).mono (fun b hb _ => ?_)
              · have h' : b = gb := h
                rw [HT.out] at hb
                rcases hb with hb | hb <;> omega
              · rw [HT.out] at hb ⊢
                exact hb.imp (fun x => ⟨by omega, x.2⟩) id
          · rw [List.map_set, ← I.out.2.2.2]
            apply List.ext_getElem?
            intro j
            by_cases hjk : k = j
            · subst hjk
              rw [List.getElem?_set_self (by rw [List.length_map]; exact hkd), List.getElem?_map, HDP.out]
              rfl
            · rw [List.getElem?_set_ne hjk]
    · have hkn : k = n := by omega
      have f0 := Heap.cell hpr 0
      have f1 := Heap.cell hpr 1
      have f2 := Heap.cell hpr 2
      have z0 := Heap.cell hqr 0
      have z1 := Heap.cell hqr 1
      have z2 := Heap.cell hqr 2
      have y0 := Heap.frozen hqr 0
      have y1 := Heap.frozen hqr 1
      have y2 := Heap.frozen hqr 2
      clear hpr hqr
      go_wp2_with fail
      refine bodyPost_ret_by (results_cell_row rfl _ _ q _ _ _ _ rfl (box3' HQR.out _ _ _) Tryz.underlying34 rfl infoLed) rfl ⟨_, rfl, ?_, ?_⟩
      · have hoq : Off (Only q) wr _ := off3 (G := Only q) (Off.refl (Only q) wr) (.inl rfl) (.int .u64 l.first) (.int .u64 l.next) (.slice A3 n c3)
        refine ⟨.slice A3 n c3, dk, rfl, I.out.2.2.2, ⟨?_, fun y hy => ?_⟩, HF.out.1, HF.out.2⟩
        · rw [I.out.1]
          refine ((SliceAt.of_own (S := fun b => w2.heap.size ≤ b) I.out.2.1 hdn (fun k hk => (I.out.2.1.lt k hk).1)).off hoq (fun b hb _ h => ?_)).mono (fun b hb _ => ?_)
          · have h' : b = q := h; have := HQ.out; omega
          · exact Nat.le_trans HO.out.size hb
        · obtain ⟨j, hj, hjy⟩ := List.mem_iff_getElem.1 hy
          refine ((I.out.2.2.1 j y (by rw [List.getElem?_eq_getElem hj, hjy])).off hoq (fun b hb _ h => ?_)).mono (fun b hb _ => ?_)
          · have h' : b = q := h
            rw [HT.out] at hb
            have h1 := HQ.out
            have h4 : w2.heap.size ≤ w4.heap.size := HW24.out
            rcases hb with hb | hb <;> omega
          · rw [HT.out] at hb
            have h1 := I.out.1
            have h2 := HO.out.size
            have h4 : w2.heap.size ≤ w4.heap.size := HW24.out
            rcases hb with hb | hb
            · omega
            · show w.heap.size ≤ b
              omega
      · exact off3 (HO4.out.trans HOR.out (fun b hb h => by have h1 := HSEP.out b h; have h2 := HO.out.size; omega)) (.inr HQ.out.2.1) _ _ _
end Spool
end Go.Proofs.YtndgnlblbjpogaaGreatDoor
namespace Go.Proofs.YtndgnlblbjpogaaGreatDoor
open Go Go.RowKit Go.Shelf Led
/-- The blocks that a call may turn: none of those below n, none of the law's own. -/
def Spare (n : Nat) (A : Nat → Prop) : Nat → Prop := fun b => n ≤ b ∧ ¬ A b
structure SHeld (M N n : Nat) (A : Nat → Prop) (w : World) (sp d : Nat) (P : SpoolV) : Prop where
  at_ : ∃ F : Nat → Prop, SpoolAt w sp d P F ∧ ∀ b, F b → n ≤ b ∧ ¬ A b ∧ b < w.heap.size
  ownA : ∀ b, A b → b < w.heap.size
  ln : n ≤ w.heap.size
  glob : Glob n w
  wk : P.Wk M N
namespace SHeld
variable {M N n : Nat} {A : Nat → Prop} {w w' : World} {sp d : Nat} {P P' : SpoolV}
theorem quiet (h : SHeld M N n A w sp d P) (ho : Off None w w') : SHeld M N n A w' sp d P := by
  obtain ⟨F, h1, h2⟩ := h.at_
  exact ⟨⟨F, h1.quiet ho, fun b hb => ⟨(h2 b hb).1, (h2 b hb).2.1, Nat.lt_of_lt_of_le (h2 b hb).2.2 ho.size⟩⟩, fun b hb => Nat.lt_of_lt_of_le (h.ownA b hb) ho.size, Nat.le_trans h.ln ho.size, h.glob.none ho, h.wk⟩
/-- The law has made blocks of its own, or changed them. -/
theorem keep {A' : Nat → Prop} (h : SHeld M N n A w sp d P) (ho : Off A w w') (hA : ∀ b, A' b → A b ∨ (w.heap.size ≤ b ∧ b < w'.heap.size)) (hn : ∀ b, A b → n ≤ b) : SHeld M N n A' w' sp d P := by
  obtain ⟨F, h1, h2⟩ := h.at_
  refine ⟨⟨F, h1.off_ ho (fun b _ hb x => (h2 b hb).2.1 x), fun b hb => ⟨(h2 b hb).1, fun x => (hA b x).elim (h2 b hb).2.1 (fun y => by have := (h2 b hb).2.2; omega), Nat.lt_of_lt_of_le (h2 b hb).2.2 ho.size⟩⟩, fun b hb => (hA b hb).elim (fun x => Nat.lt_of_lt_of_le (h.ownA b x) ho.size) (fun x => x.2), Nat.le_trans h.ln ho.size, h.glob.off ho hn, h.wk⟩
/-- New blocks are the law's own. -/
theorem fresh {A' : Nat → Prop} (h : SHeld M N n A w sp d P) (ho : Off None w w') (hA : ∀ b, A' b → A b ∨ (w.heap.size ≤ b ∧ b < w'.heap.size)) : SHeld M N n A' w' sp d P := by
  obtain ⟨F, h1, h2⟩ := h.at_
  refine ⟨⟨F, h1.quiet ho, fun b hb => ⟨(h2 b hb).1, fun x => (hA b x).elim (h2 b hb).2.1 (fun y => by have := (h2 b hb).2.2; omega), Nat.lt_of_lt_of_le (h2 b hb).2.2 ho.size⟩⟩, fun b hb => (hA b hb).elim (fun x => Nat.lt_of_lt_of_le (h.ownA b x) ho.size) (fun x => x.2), Nat.le_trans h.ln ho.size, h.glob.none ho, h.wk⟩
theorem less {A' : Nat → Prop} (h : SHeld M N n A' w sp d P) (hA : ∀ b, A b → A' b) : SHeld M N n A w sp d P := by
  obtain ⟨F, h1, h2⟩ := h.at_
  exact ⟨⟨F, h1, fun b hb => ⟨(h2 b hb).1, fun x => (h2 b hb).2.1 (hA b x), (h2 b hb).2.2⟩⟩, fun b hb => h.ownA b (hA b hb), h.ln, h.glob, h.wk⟩
theorem up {M' N' : Nat} (h : SHeld M N n A w sp d P) (hM : M ≤ M') (hN : N ≤ N') (h1 : M' ≤ 700) (h2 : N' ≤ 900000) : SHeld M' N' n A w sp d P := ⟨h.at_, h.ownA, h.ln, h.glob, h.wk.mono hM hN h1 h2⟩
theorem opn (h : SHeld M N n A w sp d P) : ∃ F : Nat → Prop, Sp w n sp d F P w ∧ ∀ b, F b → n ≤ b ∧ ¬ A b ∧ b < w.heap.size := by
  obtain ⟨F, h1, h2⟩ := h.at_
  exact ⟨F, Sp.start h1 h.glob (fun b hb => (h2 b hb).1), h2⟩
theorem of {M' N' : Nat} {F : Nat → Prop} (h : SHeld M N n A w sp d P) (hF : ∀ b, F b → n ≤ b ∧ ¬ A b ∧ b < w.heap.size) (h' : Sp w n sp d F P' w') (hk : P'.Wk M' N') : SHeld M' N' n A w' sp d P' ∧ Off (Spare n A) w w' := by
  have hs := h'.off.size
  refine ⟨⟨⟨Grow F w w', h'.at_, fun b hb => hb.elim (fun x => ⟨(hF b x).1, (hF b x).2.1, Nat.lt_of_lt_of_le (hF b x).2.2 hs⟩) (fun x => ⟨Nat.le_trans h.ln x.1, fun y => by have := h.ownA b y; omega, x.2⟩)⟩, fun b hb => Nat.lt_of_lt_of_le (h.ownA b hb) hs, Nat.le_trans h.ln hs, h'.glob, hk⟩, h'.off.mono fun b _ x => ⟨(hF b x).1, (hF b x).2.1⟩⟩
theorem any (h : SHeld M N n A w sp d P) : ∃ F : Nat → Prop, SpoolAt w sp d P F := by
  obtain ⟨F, h1, _⟩ := h.at_
  exact ⟨F, h1⟩
theorem bytesLe (h : SHeld M N n A w sp d P) : P.log.bytes ≤ 9223372036854775807 := h.wk.nums.bytes (by have := h.wk.le; omega) (by have := h.wk.few; omega)
theorem add (h : SHeld M N n A w sp d P) (hM : M + 1 ≤ 700) (hN : N + 40 ≤ 900000) (body : ByteArray) (hb : body.size ≤ 140737488355328) (s : Bool) :
    Calls Tryz.prog 24 #[.pointer (some ⟨sp, 0, none⟩), .string body, .bool s] w fun e w' => e = .returned (.tuple #[.int .u64 (P.add body s).2.1, .int .i64 (P.add body s).2.2]) ∧ SHeld (M + 1) (N + 40) n A w' sp d (P.add body s).1 ∧ Off (Spare n A) w w' := by
  obtain ⟨F, h1, h2⟩ := h.opn
  exact (Spool.add_any w w n sp d M N F P h1 h.wk hM hN body hb s).mono fun e w' x => ⟨x.1, h.of h2 x.2 (h.wk.add body s hM hN)⟩
theorem sync (h : SHeld M N n A w sp d P) :
    Calls Tryz.prog 18 #[.pointer (some ⟨sp, 0, none⟩)] w fun e w' => e = .returned (.int .i64 P.sync.2) ∧ SHeld M N n A w' sp d P.sync.1 ∧ Off (Spare n A) w w' := by
  obtain ⟨F, h1, h2⟩ := h.opn
  exact (Spool.sync_any w w n sp d M N F P h1 h.wk).mono fun e w' x => ⟨x.1, h.of h2 x.2 h.wk.sync⟩
theorem ack (h : SHeld M N n A w sp d P) (name : ByteArray) (seq : Nat) :
    Calls Tryz.prog 21 #[.pointer (some ⟨sp, 0, none⟩), .string name, .int .u64 seq] w fun e w' => e = .returned (.int .i64 (P.ack name seq).2) ∧ SHeld M N n A w' sp d (P.ack name seq).1 ∧ Off (Spare n A) w w' := by
  obtain ⟨F, h1, h2⟩ := h.opn
  exact (Spool.ack_any w w n sp d M N F P h1 h.wk name seq).mono fun e w' x => ⟨x.1, h.of h2 x.2 (h.wk.ack name seq)⟩
theorem reject (h : SHeld M N n A w sp d P) (hN : N + 6 ≤ 900000) (name : ByteArray) (seq : Nat) :
    Calls Tryz.prog 40 #[.pointer (some ⟨sp, 0, none⟩), .string name, .int .u64 seq] w fun e w' => e = .returned (.int .i64 (P.reject name seq).2) ∧ SHeld M (N + 6) n A w' sp d (P.reject name seq).1 ∧ Off (Spare n A) w w' := by
  obtain ⟨F, h1, h2⟩ := h.opn
  exact (Spool.reject_any w w n sp d M N F P h1 h.wk name seq).mono fun e w' x => ⟨x.1, h.of h2 x.2 (h.wk.reject name seq hN)⟩
theorem join (h : SHeld M N n A w sp d P) (hN : N + 6 ≤ 900000) (name : ByteArray) (hs : name.size ≤ maxLen) :
    Calls Tryz.prog 26 #[.pointer (some ⟨sp, 0, none⟩), .string name] w fun e w' => e = .returned (.int .i64 (P.join name).2) ∧ SHeld M (N + 6) n A w' sp d (P.join name).1 ∧ Off (Spare n A) w w' := by
  obtain ⟨F, h1, h2⟩ := h.opn
  exact (Spool.join_any w w n sp d M N F P h1 h.wk name hs).mono fun e w' x => ⟨x.1, h.of h2 x.2 (h.wk.join name hN)⟩
theorem leave (h : SHeld M N n A w sp d P) (hN : N + 6 ≤ 900000) (name : ByteArray) :
    Calls Tryz.prog 25 #[.pointer (some ⟨sp, 0, none⟩), .string name] w fun e w' => e = .returned (.int .i64 (P.leave name).2) ∧ SHeld M (N + 6) n A w' sp d (P.leave name).1 ∧ Off (Spare n A) w w' := by
  obtain ⟨F, h1, h2⟩ := h.opn
  exact (Spool.leave_any w w n sp d M N F P h1 h.wk name).mono fun e w' x => ⟨x.1, h.of h2 x.2 (h.wk.leave name hN)⟩
theorem save (h : SHeld M N n A w sp d P) (hN : N + 6 ≤ 900000) :
    Calls Tryz.prog 30 #[.pointer (some ⟨sp, 0, none⟩)] w fun e w' => e = .returned (.int .i64 P.save.2) ∧ SHeld M (N + 6) n A w' sp d P.save.1 ∧ Off (Spare n A) w w' := by
  obtain ⟨F, h1, h2⟩ := h.opn
  exact (Spool.save_any w w n sp d M N F P h1 h.wk).mono fun e w' x => ⟨x.1, h.of h2 x.2 (h.wk.save hN)⟩
theorem reclaim (h : SHeld M N n A w sp d P) (hN : N + 12 ≤ 900000) :
    Calls Tryz.prog 17 #[.pointer (some ⟨sp, 0, none⟩)] w fun e w' => e = .returned (.int .i64 P.reclaim.2) ∧ SHeld M (N + 12) n A w' sp d P.reclaim.1 ∧ Off (Spare n A) w w' := by
  obtain ⟨F, h1, h2⟩ := h.opn
  exact (Spool.reclaim_any w w n sp d M N F P h1 h.wk hN).mono fun e w' x => ⟨x.1, h.of h2 x.2 (h.wk.gone SpoolV.idle hN)⟩
theorem bytes (h : SHeld M N n A w sp d P) :
    Calls Tryz.prog 13 #[.pointer (some ⟨sp, 0, none⟩)] w fun e w' => e = .returned (.int .i64 P.log.bytes) ∧ Off None w w' := by
  obtain ⟨F, h1⟩ := h.any
  exact Spool.bytes_any w sp d F P h1 h.bytesLe
theorem durable (h : SHeld M N n A w sp d P) :
    Calls Tryz.prog 23 #[.pointer (some ⟨sp, 0, none⟩)] w fun e w' => e = .returned (.int .u64 P.log.durable.end_) ∧ Off None w w' := by
  obtain ⟨F, h1⟩ := h.any
  exact Spool.durable_any w sp d F P h1 h.wk.ok
theorem ledger (h : SHeld M N n A w sp d P) :
    Calls Tryz.prog 12 #[.pointer (some ⟨sp, 0, none⟩)] w fun e w' => ∃ lv, e = .returned lv ∧ LedgerAt w' (fun b => w.heap.size ≤ b) lv P.led ∧ Off None w w' := by
  obtain ⟨F, lg, off, sv, Fs, S, hin⟩ := h.any
  obtain ⟨_, _, _, _, c4, c5, c6, _⟩ := hin.cells
  exact Spool.ledger_of w sp S P.led sv c4 c5 c6 hin.led
theorem get (h : SHeld M N n A w sp d P) (seq : Nat) (hq : seq < 18446744073709551616) :
    Calls Tryz.prog 28 #[.pointer (some ⟨sp, 0, none⟩), .int .u64 seq] w fun e w' => e = .returned (.tuple #[.string (P.log.get P.disk seq).1, .int .i64 (P.log.get P.disk seq).2]) ∧ Off None w w' := by
  obtain ⟨F, h1⟩ := h.any
  exact Spool.get_any w n sp d M N F P h1 h.glob h.wk seq hq
end SHeld
end Go.Proofs.YtndgnlblbjpogaaGreatDoor
namespace Go.Proofs.YtndgnlblbjpogaaGreatDoor
open Go Go.RowKit Go.Shelf Led
theorem pend_len (l : LedgerV) (name : ByteArray) : (l.pending name).length ≤ l.next := by
  unfold LedgerV.pending
  split
  · have := pendTo_len ‹DestV› l.next (l.next - (‹DestV› : DestV).low)
    unfold pendTo at this
    unfold LedgerV.pendingOf
    omega
  · exact Nat.zero_le _
namespace LawS
set_option maxHeartbeats 2000000 in
set_option maxRecDepth 100000 in
theorem run_any (M N n : Nat) (A : Nat → Prop) (w : World) (sp d : Nat) (P : SpoolV) (h : SHeld M N n A w sp d P) (hM : M + 1 ≤ 700) (hN : N + 40 ≤ 900000) (a : ActV) (ha : a.Ok) :
    Calls Tryz.prog 14 #[.pointer (some ⟨sp, 0, none⟩), actAgg a] w fun e w' => e = .returned (.tuple #[.int .u64 (runV P a).2.1, .int .i64 (runV P a).2.2]) ∧ SHeld (M + 1) (N + 40) n A w' sp d (runV P a).1 ∧ Off (Spare n A) w w' := by
  obtain ⟨hop, hnm, hn, hl⟩ := id ha
  obtain ⟨w1, hw1, ho1, hb1, hs1⟩ := boxed w #[.int .i64 a.op, .int .i64 a.name, .int .i64 a.n, .int .i64 a.long] 30
  obtain ⟨q, hq⟩ : ∃ q, q = w.heap.size := ⟨_, rfl⟩
  rw [← hq] at hb1
  obtain ⟨A', hA'⟩ : ∃ A' : Nat → Prop, A' = fun b => A b ∨ b = q := ⟨_, rfl⟩
  have h1 : SHeld M N n A' w1 sp d P := h.fresh ho1 (fun b hb => by rw [hA'] at hb; exact hb.imp id (fun x => by omega))
  have hq1 : A' q := by rw [hA']; exact .inr rfl
  have hAA : ∀ b, A b → A' b := fun b hb => by rw [hA']; exact .inl hb
  have b1 : w1.cell? ⟨q, 1, none⟩ = some (.int .i64 a.name) := Heap.cell hb1 1
  have hj := pickN_lt a.op (n := 15) (by omega)
  have hrv : runV P a = runV P a := rfl
  conv at hrv => rhs; unfold runV
  have hP := fun W => pick_any a.op 15 hop (by omega) (by omega) W
  generalize pickN a.op 15 = j at hj hrv hP
  have H1 := Lib.hid (And.intro h1 (And.intro hb1 (And.intro ho1 (And.intro hq1 hAA))))
  have HP := Lib.hid hP
  have HRV := Lib.hid hrv
  have hbody := fun W => body_any W a ha
  unfold actAgg at hbody
  have HBODY := Lib.hid hbody
  clear hbody
  have htg := fun (W : World) (S : Nat → Prop) (lv : Value) (hl : LedgerAt W S lv P.led) => target_any W S lv P.led hl (fun d hd => (h.wk.right.each d hd).2.rising) a ha (by have := pend_len P.led (nameV a.name); have := h.wk.next; omega)
  unfold actAgg at htg
  have HTG := Lib.hid htg
  clear htg
  have HA := Lib.hid ha
  have hfin : ∀ (w2 w' : World) (M' N' : Nat) (P' : SpoolV), Off None w1 w2 → SHeld M' N' n A' w' sp d P' → Off (Spare n A') w2 w' → M' ≤ M + 1 → N' ≤ N + 40 → SHeld (M + 1) (N + 40) n A w' sp d P' ∧ Off (Spare n A) w w' := fun w2 w' M' N' P' x1 x2 x3 x4 x5 =>
    ⟨(x2.less hAA).up x4 x5 hM hN, ((ho1.quiet_trans x1).mono (fun _ _ x => x.elim) : Off (Spare n A) w w2).trans (x3.mono (fun b _ x => ⟨x.1, fun y => x.2 (hAA b y)⟩)) (fun _ _ x => x)⟩
  have HF := Lib.hid hfin
  unfold actAgg
  clear h h1 hb1 ho1 hs1 hq1 hAA hP hrv hfin hA'
  go_enter Tryz.func14, Tryz.ntmps14
  go_wp2_with fail
  rw [← hw1, ← hq]
  clear hw1 hq
  go_wp2_with fail
  refine (name_any a.name hnm _).mono ?_
  rintro e w2 ⟨rfl, ho2⟩
  have hb2 := ho2.at_ H1.out.2.1 (fun x => x)
  have b0 : w2.cell? ⟨q, 0, none⟩ = some (.int .i64 a.op) := Heap.cell hb2 0
  have b2 : w2.cell? ⟨q, 2, none⟩ = some (.int .i64 a.n) := Heap.cell hb2 2
  have b1' : w2.cell? ⟨q, 1, none⟩ = some (.int .i64 a.name) := Heap.cell hb2 1
  have b3 : w2.cell? ⟨q, 3, none⟩ = some (.int .i64 a.long) := Heap.cell hb2 3
  have HO2 := Lib.hid ho2
  have HB2 := Lib.hid hb2
  have HS2 := Lib.hid (H1.out.1.quiet ho2)
  clear ho2 hb2 b1
  by_cases h6 : j < 6
  · have e6 : (j : Int) < 6 := by omega
    have hq := HRV.out
    rw [if_pos h6] at hq
    have HQ := Lib.hid hq
    clear hq HRV
    have HADD := Lib.hid (fun W (hW : Off None w2 W) s => (HS2.out.quiet hW).add hM hN (bodyV a) (by have := bodyV_le a; omega) s)
    go_wp2_with (go_at_call 11; refine (HP.out _).mono ?_; rintro e w' ⟨rfl, rfl⟩)
    go_region_held3 (fun W => W.cell? ⟨q, 0, none⟩ = some (.int .i64 a.op) ∧ W.cell? ⟨q, 1, none⟩ = some (.int .i64 a.name) ∧ W.cell? ⟨q, 2, none⟩ = some (.int .i64 a.n) ∧ W.cell? ⟨q, 3, none⟩ = some (.int .i64 a.long))
      (first | exact ⟨b0, b1', b2, b3⟩ | exact d5 | exact d6)
      (first
        | (go_at_call 24; refine (HADD.out _ ho25 _).mono ?_; rintro e w6 ⟨rfl, hs6, ho6⟩; have d6 : w6.cell? ⟨q, 0, none⟩ = some (.int .i64 a.op) ∧ w6.cell? ⟨q, 1, none⟩ = some (.int .i64 a.name) ∧ w6.cell? ⟨q, 2, none⟩ = some (.int .i64 a.n) ∧ w6.cell? ⟨q, 3, none⟩ = some (.int .i64 a.long) := ⟨ho6.stay d5.1 (fun x => x.2 H1.out.2.2.2.1), ho6.stay d5.2.1 (fun x => x.2 H1.out.2.2.2.1), ho6.stay d5.2.2.1 (fun x => x.2 H1.out.2.2.2.1), ho6.stay d5.2.2.2 (fun x => x.2 H1.out.2.2.2.1)⟩)
        | (go_at_call 16; refine (HBODY.out _).mono ?_; rintro e w5 ⟨rfl, ho5⟩; have ho25 : Off None w2 w5 := ((Off.refl None w2).drew).quiet_trans ho5; have d5 : w5.cell? ⟨q, 0, none⟩ = some (.int .i64 a.op) ∧ w5.cell? ⟨q, 1, none⟩ = some (.int .i64 a.name) ∧ w5.cell? ⟨q, 2, none⟩ = some (.int .i64 a.n) ∧ w5.cell? ⟨q, 3, none⟩ = some (.int .i64 a.long) := ⟨ho25.stay b0 (fun x => x), ho25.stay b1' (fun x => x), ho25.stay b2 (fun x => x), ho25.stay b3 (fun x => x)⟩))
    all_goals
      go_wp2_with fail
      go_ret2
      rw [HQ.out]
      exact ⟨rfl, HF.out w5 _ _ _ _ (HO2.out.quiet_trans ho25) hs6 ho6 (Nat.le_refl _) (Nat.le_refl _)⟩
  have hq := HRV.out
  rw [if_neg h6] at hq
  by_cases h7 : j = 6
  · subst h7
    rw [if_pos rfl] at hq
    have HQ := Lib.hid hq
    clear hq
    clear HRV
    go_wp2_with (go_at_call 11; refine (HP.out _).mono ?_; rintro e w' ⟨rfl, rfl⟩)
    refine (HS2.out.sync).mono ?_
    rintro e w6 ⟨rfl, hs6, ho6⟩
    have HS6 := Lib.hid (And.intro hs6 ho6)
    clear hs6 ho6
    go_wp2_with fail
    go_ret2
    rw [HQ.out]
    exact ⟨rfl, HF.out w2 _ _ _ _ HO2.out HS6.out.1 HS6.out.2 (by omega) (by omega)⟩
  rw [if_neg h7] at hq
  have k1 : ¬ (j : Int) < 6 := by omega
  have k2 : ((j : Int) == 6) = false := by simp; omega
  by_cases h8 : j < 10
  · have k3 : (j : Int) < 10 := by omega
    rw [if_pos h8] at hq
    have HQ := Lib.hid hq
    clear hq
    clear HRV
    have HLE := Lib.hid (fun W (hW : Off None w2 W) => (HS2.out.quiet hW).ledger)
    go_wp2_with (go_at_call 11; refine (HP.out _).mono ?_; rintro e w' ⟨rfl, rfl⟩)
    go_region_held3 (fun W => W.cell? ⟨q, 0, none⟩ = some (.int .i64 a.op) ∧ W.cell? ⟨q, 1, none⟩ = some (.int .i64 a.name) ∧ W.cell? ⟨q, 2, none⟩ = some (.int .i64 a.n) ∧ W.cell? ⟨q, 3, none⟩ = some (.int .i64 a.long))
      (first | exact ⟨b0, b1', b2, b3⟩ | exact d5 | exact d6 | exact d7)
      (first
        | (go_at_call 12; refine (HLE.out _ ((Off.refl None w2).drew)).mono ?_; rintro e w5 ⟨lv5, rfl, hl5, ho5⟩; have ho25 : Off None w2 w5 := ((Off.refl None w2).drew).quiet_trans ho5; have d5 : w5.cell? ⟨q, 0, none⟩ = some (.int .i64 a.op) ∧ w5.cell? ⟨q, 1, none⟩ = some (.int .i64 a.name) ∧ w5.cell? ⟨q, 2, none⟩ = some (.int .i64 a.n) ∧ w5.cell? ⟨q, 3, none⟩ = some (.int .i64 a.long) := ⟨ho25.stay b0 (fun x => x), ho25.stay b1' (fun x => x), ho25.stay b2 (fun x => x), ho25.stay b3 (fun x => x)⟩)
        | (go_at_call 39; refine (HTG.out _ _ _ hl5).mono ?_; rintro e w6 ⟨rfl, ho6⟩; have ho26 : Off None w2 w6 := ho25.quiet_trans ho6; have d6 : w6.cell? ⟨q, 0, none⟩ = some (.int .i64 a.op) ∧ w6.cell? ⟨q, 1, none⟩ = some (.int .i64 a.name) ∧ w6.cell? ⟨q, 2, none⟩ = some (.int .i64 a.n) ∧ w6.cell? ⟨q, 3, none⟩ = some (.int .i64 a.long) := ⟨ho26.stay b0 (fun x => x), ho26.stay b1' (fun x => x), ho26.stay b2 (fun x => x), ho26.stay b3 (fun x => x)⟩)
        | (go_at_call 21; refine ((HS2.out.quiet ho26).ack (nameV a.name) (targetV P.led a)).mono ?_; rintro e w7 ⟨rfl, hs7, ho7⟩; have d7 : w7.cell? ⟨q, 0, none⟩ = some (.int .i64 a.op) ∧ w7.cell? ⟨q, 1, none⟩ = some (.int .i64 a.name) ∧ w7.cell? ⟨q, 2, none⟩ = some (.int .i64 a.n) ∧ w7.cell? ⟨q, 3, none⟩ = some (.int .i64 a.long) := ⟨ho7.stay d6.1 (fun x => x.2 H1.out.2.2.2.1), ho7.stay d6.2.1 (fun x => x.2 H1.out.2.2.2.1), ho7.stay d6.2.2.1 (fun x => x.2 H1.out.2.2.2.1), ho7.stay d6.2.2.2 (fun x => x.2 H1.out.2.2.2.1)⟩))
    all_goals
      go_wp2_with fail
      go_ret2
      rw [HQ.out]
      exact ⟨rfl, HF.out w6 _ _ _ _ (HO2.out.quiet_trans ho26) hs7 ho7 (by omega) (by omega)⟩
  rw [if_neg h8] at hq
  clear k1 k2
  by_cases h10 : j = 10
  · subst h10
    rw [if_pos rfl] at hq
    have HQ := Lib.hid hq
    clear hq
    clear HRV
    have HLE := Lib.hid (fun W (hW : Off None w2 W) => (HS2.out.quiet hW).ledger)
    go_wp2_with (go_at_call 11; refine (HP.out _).mono ?_; rintro e w' ⟨rfl, rfl⟩)
    go_region_held3 (fun W => W.cell? ⟨q, 0, none⟩ = some (.int .i64 a.op) ∧ W.cell? ⟨q, 1, none⟩ = some (.int .i64 a.name) ∧ W.cell? ⟨q, 2, none⟩ = some (.int .i64 a.n) ∧ W.cell? ⟨q, 3, none⟩ = some (.int .i64 a.long))
      (first | exact ⟨b0, b1', b2, b3⟩ | exact d5 | exact d6 | exact d7)
      (first
        | (go_at_call 12; refine (HLE.out _ ((Off.refl None w2).drew)).mono ?_; rintro e w5 ⟨lv5, rfl, hl5, ho5⟩; have ho25 : Off None w2 w5 := ((Off.refl None w2).drew).quiet_trans ho5; have d5 : w5.cell? ⟨q, 0, none⟩ = some (.int .i64 a.op) ∧ w5.cell? ⟨q, 1, none⟩ = some (.int .i64 a.name) ∧ w5.cell? ⟨q, 2, none⟩ = some (.int .i64 a.n) ∧ w5.cell? ⟨q, 3, none⟩ = some (.int .i64 a.long) := ⟨ho25.stay b0 (fun x => x), ho25.stay b1' (fun x => x), ho25.stay b2 (fun x => x), ho25.stay b3 (fun x => x)⟩)
        | (go_at_call 39; refine (HTG.out _ _ _ hl5).mono ?_; rintro e w6 ⟨rfl, ho6⟩; have ho26 : Off None w2 w6 := ho25.quiet_trans ho6; have d6 : w6.cell? ⟨q, 0, none⟩ = some (.int .i64 a.op) ∧ w6.cell? ⟨q, 1, none⟩ = some (.int .i64 a.name) ∧ w6.cell? ⟨q, 2, none⟩ = some (.int .i64 a.n) ∧ w6.cell? ⟨q, 3, none⟩ = some (.int .i64 a.long) := ⟨ho26.stay b0 (fun x => x), ho26.stay b1' (fun x => x), ho26.stay b2 (fun x => x), ho26.stay b3 (fun x => x)⟩)
        | (go_at_call 40; refine ((HS2.out.quiet ho26).reject (by omega) (nameV a.name) (targetV P.led a)).mono ?_; rintro e w7 ⟨rfl, hs7, ho7⟩; have d7 : w7.cell? ⟨q, 0, none⟩ = some (.int .i64 a.op) ∧ w7.cell? ⟨q, 1, none⟩ = some (.int .i64 a.name) ∧ w7.cell? ⟨q, 2, none⟩ = some (.int .i64 a.n) ∧ w7.cell? ⟨q, 3, none⟩ = some (.int .i64 a.long) := ⟨ho7.stay d6.1 (fun x => x.2 H1.out.2.2.2.1), ho7.stay d6.2.1 (fun x => x.2 H1.out.2.2.2.1), ho7.stay d6.2.2.1 (fun x => x.2 H1.out.2.2.2.1), ho7.stay d6.2.2.2 (fun x => x.2 H1.out.2.2.2.1)⟩))
    all_goals
      go_wp2_with fail
      go_ret2
      rw [HQ.out]
      exact ⟨rfl, HF.out w6 _ _ _ _ (HO2.out.quiet_trans ho26) hs7 ho7 (by omega) (by omega)⟩
  rw [if_neg h10] at hq
  by_cases h11 : j = 11
  · subst h11
    rw [if_pos rfl] at hq
    have HQ := Lib.hid hq
    clear hq
    clear HRV
    go_wp2_with (go_at_call 11; refine (HP.out _).mono ?_; rintro e w' ⟨rfl, rfl⟩)
    refine (HS2.out.join (by omega) (nameV a.name) (show 1 ≤ maxLen by unfold maxLen; omega)).mono ?_
    rintro e w6 ⟨rfl, hs6, ho6⟩
    have HS6 := Lib.hid (And.intro hs6 ho6)
    clear hs6 ho6
    go_wp2_with fail
    go_ret2
    rw [HQ.out]
    exact ⟨rfl, HF.out w2 _ _ _ _ HO2.out HS6.out.1 HS6.out.2 (by omega) (by omega)⟩
  rw [if_neg h11] at hq
  by_cases h12 : j = 12
  · subst h12
    rw [if_pos rfl] at hq
    have HQ := Lib.hid hq
    clear hq
    clear HRV
    go_wp2_with (go_at_call 11; refine (HP.out _).mono ?_; rintro e w' ⟨rfl, rfl⟩)
    refine (HS2.out.leave (by omega) (nameV a.name)).mono ?_
    rintro e w6 ⟨rfl, hs6, ho6⟩
    have HS6 := Lib.hid (And.intro hs6 ho6)
    clear hs6 ho6
    go_wp2_with fail
    go_ret2
    rw [HQ.out]
    exact ⟨rfl, HF.out w2 _ _ _ _ HO2.out HS6.out.1 HS6.out.2 (by omega) (by omega)⟩
  rw [if_neg h12] at hq
  by_cases h13 : j = 13
  · subst h13
    rw [if_pos rfl] at hq
    have HQ := Lib.hid hq
    clear hq
    clear HRV
    go_wp2_with (go_at_call 11; refine (HP.out _).mono ?_; rintro e w' ⟨rfl, rfl⟩)
    refine (HS2.out.save (by omega)).mono ?_
    rintro e w6 ⟨rfl, hs6, ho6⟩
    have HS6 := Lib.hid (And.intro hs6 ho6)
    clear hs6 ho6
    go_wp2_with fail
    go_ret2
    rw [HQ.out]
    exact ⟨rfl, HF.out w2 _ _ _ _ HO2.out HS6.out.1 HS6.out.2 (by omega) (by omega)⟩
  rw [if_neg h13] at hq
  obtain rfl : j = 14 := by omega
  have HQ := Lib.hid hq
  clear hq
  clear HRV
  go_wp2_with (go_at_call 11; refine (HP.out _).mono ?_; rintro e w' ⟨rfl, rfl⟩)
  refine (HS2.out.reclaim (by omega)).mono ?_
  rintro e w6 ⟨rfl, hs6, ho6⟩
  have HS6 := Lib.hid (And.intro hs6 ho6)
  clear hs6 ho6
  go_wp2_with fail
  go_ret2
  rw [HQ.out]
  exact ⟨rfl, HF.out w2 _ _ _ _ HO2.out HS6.out.1 HS6.out.2 (by omega) (by omega)⟩
end LawS
end Go.Proofs.YtndgnlblbjpogaaGreatDoor
