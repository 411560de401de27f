/- The small functions of the spool's laws: pick, name, body, target. · The small functions of the spool's laws: body. · The small functions of the spool's laws: target. -/
import Derived.Test.YtndgnlblbjpogaaGreatDoorLedE
import Derived.Test.YtndgnlblbjpogaaGreatDoorSRun
namespace Go.Proofs.YtndgnlblbjpogaaGreatDoor
open Go Go.RowKit Go.Shelf Led
abbrev I64 (x : Int) : Prop := -9223372036854775808 ≤ x ∧ x ≤ 9223372036854775807
structure ActV.Ok (a : ActV) : Prop where
  op : I64 a.op
  name : I64 a.name
  n : I64 a.n
  long : I64 a.long
def actAgg (a : ActV) : Value := .agg #[.int .i64 a.op, .int .i64 a.name, .int .i64 a.n, .int .i64 a.long]
theorem int_ret {a b : Int} (h : a = b) : Ending.returned (.int .i64 a) = Ending.returned (.int .i64 b) := by rw [h]
namespace LawS
theorem pick_any (c : Int) (n : Nat) (hc : I64 c) (hn : 0 < n) (hn' : n ≤ 1000000) (w : World) :
    Calls Tryz.prog 11 #[.int .i64 c, .int .i64 n] w fun e w' => e = .returned (.int .i64 (pickN c n)) ∧ w = w' := by
  obtain ⟨hc1, hc2⟩ := hc
  have hp : ((pickN c n : Nat) : Int) = (if c < 0 then -(c + 1) else c) % (n : Int) := by
    unfold pickN
    exact Int.toNat_of_nonneg (Int.emod_nonneg _ (by omega))
  by_cases h : c < 0
  · rw [if_pos h] at hp
    have E := Lib.hid hp; clear hp
    go_enter Tryz.func11, Tryz.ntmps11
    go_wp2
    go_ret
    exact ⟨by rw [E.out]; exact int_ret (by rw [← Int.tmod_eq_emod_of_nonneg (by omega : 0 ≤ -(c + 1)), Int.neg_tmod]), rfl⟩
  · rw [if_neg h] at hp
    have E := Lib.hid hp; clear hp
    go_enter Tryz.func11, Tryz.ntmps11
    go_wp2
    go_ret
    exact ⟨by rw [E.out]; rfl, rfl⟩
set_option maxRecDepth 100000 in
theorem name_any (c : Int) (hc : I64 c) (w : World) :
    Calls Tryz.prog 38 #[.int .i64 c] w fun e w' => e = .returned (.string (nameV c)) ∧ Off None w w' := by
  have hlt := pickN_lt c (n := 4) (by omega)
  have hP := fun W => pick_any c 4 hc (by omega) (by omega) W
  have hnv : nameV c = ⟨#[UInt8.ofNat (97 + pickN c 4)]⟩ := rfl
  have HN := Lib.hid hnv
  clear hnv
  generalize pickN c 4 = k at hlt hP HN
  have HP := Lib.hid hP
  clear hP
  match k, hlt with
  | 0, _ =>
    go_enter Tryz.func38, Tryz.ntmps38
    go_wp2_with (go_at_call 11; refine (HP.out _).mono ?_; rintro e w' ⟨rfl, rfl⟩)
    go_ret
    exact ⟨by rw [HN.out]; rfl, (Off.refl None w).alloc _⟩
  | 1, _ =>
    go_enter Tryz.func38, Tryz.ntmps38
    go_wp2_with (go_at_call 11; refine (HP.out _).mono ?_; rintro e w' ⟨rfl, rfl⟩)
    go_ret
    exact ⟨by rw [HN.out]; rfl, (Off.refl None w).alloc _⟩
  | 2, _ =>
    go_enter Tryz.func38, Tryz.ntmps38
    go_wp2_with (go_at_call 11; refine (HP.out _).mono ?_; rintro e w' ⟨rfl, rfl⟩)
    go_ret
    exact ⟨by rw [HN.out]; rfl, (Off.refl None w).alloc _⟩
  | 3, _ =>
    go_enter Tryz.func38, Tryz.ntmps38
    go_wp2_with (go_at_call 11; refine (HP.out _).mono ?_; rintro e w' ⟨rfl, rfl⟩)
    go_ret
    exact ⟨by rw [HN.out]; rfl, (Off.refl None w).alloc _⟩
end LawS
end Go.Proofs.YtndgnlblbjpogaaGreatDoor
namespace Go.Proofs.YtndgnlblbjpogaaGreatDoor
open Go Go.RowKit Go.Shelf Led
theorem infoU8 : (Tryz.prog.info? 5).map (fun i => (i.zero, i.size, i.bytes)) = some (some (.int .u8 0), 1, 1) := by kernel_rfl
theorem make_bytes (w : World) (m : Nat) (hm : m ≤ 1000000) : ∃ cs : Array Value, cs.size = m ∧
    (Instr.makeSlice 78 (.int .i64 m) (.int .i64 m)).run Tryz.prog w = .ok (.slice (some ⟨w.heap.size, 0, none⟩) m m) (w.alloc (.cells cs 5)) := by
  obtain ⟨i0, hi0, hz0, hzs, hzb⟩ := info_parts infoU8
  have h := run_make (P := Tryz.prog) w 78 5 i0 _ Tryz.underlying78 hi0 hz0 .i64 .i64 m m (by omega) (Int.le_refl _) (by rw [hzb]; omega) (by omega)
  rw [hzs, Int.toNat_natCast, Nat.mul_one] at h
  exact ⟨_, size_madeCells _ _, h⟩
def byteV (n : Int) (i : Nat) : Int := (n + (i : Int) * 7) % 256
theorem bodyV_list (a : ActV) : (bodyV a).data.toList = (List.range (pickN a.long 900)).map fun i => UInt8.ofNat (byteV a.n i).toNat := by
  unfold bodyV byteV
  simp
theorem byteV_lt (n : Int) (i : Nat) : 0 ≤ byteV n i ∧ byteV n i < 256 := ⟨Int.emod_nonneg _ (by decide), Int.emod_lt_of_pos _ (by decide)⟩
namespace LawS
set_option maxHeartbeats 1000000 in
set_option maxRecDepth 100000 in
theorem body_any (w : World) (a : ActV) (ha : a.Ok) :
    Calls Tryz.prog 16 #[actAgg a] w fun e w' => e = .returned (.string (bodyV a)) ∧ Off None w w' := by
  obtain ⟨_, _, hn, hl⟩ := ha
  have hlt := pickN_lt a.long (n := 900) (by omega)
  have hP := fun W => pick_any a.long 900 hl (by omega) (by omega) W
  have hbl := bodyV_list a
  have hbs := bodyV_size a
  obtain ⟨m, hm⟩ : ∃ m, m = pickN a.long 900 := ⟨_, rfl⟩
  rw [← hm] at hlt hP hbl hbs
  obtain ⟨w1, hw1, ho1, hb1, hs1⟩ := boxed w #[.int .i64 a.op, .int .i64 a.name, .int .i64 a.n, .int .i64 a.long] 30
  obtain ⟨q, hq⟩ : ∃ q, q = w.heap.size := ⟨_, rfl⟩
  rw [← hq] at hb1
  obtain ⟨cs, hcs, hmk⟩ := make_bytes w1 m (by omega)
  obtain ⟨g, hg⟩ : ∃ g, g = w1.heap.size := ⟨_, rfl⟩
  have hgq : g ≠ q := by omega
  obtain ⟨w2, hw2⟩ : ∃ w2, w2 = w1.alloc (.cells cs 5) := ⟨_, rfl⟩
  have ho12 : Off None w1 w2 := by rw [hw2]; exact (Off.refl None w1).alloc _
  have hb2 : w2.heap[g]? = some (.cells cs 5 (0, 0)) := by rw [hw2, hg]; exact Heap.alloc_new w1 _
  have hq2 := ho12.at_ hb1 (fun x => x)
  rw [← hw2, ← hg] at hmk
  have HP := Lib.hid hP
  have HBL := Lib.hid (And.intro hbl hbs)
  have HB2 := Lib.hid (And.intro hb2 hq2)
  have HO := Lib.hid (ho1.trans ho12 (fun _ _ x => x))
  have HG := Lib.hid (show w.heap.size ≤ g ∧ cs.size = m from ⟨by omega, hcs⟩)
  have c3 := Heap.cell hb1 3
  unfold actAgg
  clear hP hbl hbs hb1 hs1 ho1 ho12 hb2 hq2 hcs hm hw2 hg
  go_enter Tryz.func16, Tryz.ntmps16
  go_wp2_with fail
  rw [← hw1, ← hq]
  clear hw1 hq
  go_wp2_with (go_at_call 11; refine (HP.out _).mono ?_; rintro e w' ⟨rfl, rfl⟩)
  clear hmk c3
  go_loopg [4] m (fun gg s4 wr => ∃ k g0 : Nat, g0 = gg ∧ k + g0 = m ∧ s4 = .int .i64 k ∧ Off (Only g) w2 wr ∧ Aside (∃ cur, wr.heap[g]? = some (.cells cur 5 (0, 0)) ∧ cur.size = m ∧ ∀ j, j < k → cur[j]? = some (.int .u8 (byteV a.n j))))
  case atStart => exact ⟨0, m, rfl, by omega, rfl, Off.refl _ _, cs, HB2.out.1, HG.out.2, fun j hj => by omega⟩
  case round =>
    obtain ⟨k, g0, hg0, hk, rfl, ho, I⟩ := hrel
    have HG0 := Lib.hid hg0
    have HOR := Lib.hid ho
    have hqr := ho.at_ HB2.out.2 (fun x => hgq x.symm)
    have HQR := Lib.hid hqr
    clear hg0 ho
    by_cases hkm : k < m
    · have e2 := Heap.cell hqr 2
      obtain ⟨cur, hcur, hsz, hall⟩ := I.out
      obtain ⟨u, ek⟩ : ∃ u, wr.cell? ⟨g, k, none⟩ = some u := ⟨cur[k]'(by omega), by rw [Heap.cell hcur, Array.getElem?_eq_getElem (by omega)]⟩
      have fk : wr.frozen? ⟨g, k, none⟩ = false := Heap.frozen hcur k
      have HC := Lib.hid (And.intro hcur (And.intro hsz hall))
      clear hqr hcur hsz hall
      go_wp2_with fail
      go_roundg (g0 - 1)
      case measure => have := HG0.out; omega
      case rel =>
        refine ⟨k + 1, g0 - 1, rfl, by omega, by go_num, HOR.out.setCell (p := ⟨g, k, none⟩) (.inl rfl) _, _, Heap.set HC.out.1 k _, by rw [Array.size_setIfInBounds]; exact HC.out.2.1, fun j hj => ?_⟩
        have hw : ∀ x : Int, wrap64 x % 256 = x % 256 := fun x => by unfold wrap64; omega
        by_cases hjk : j = k
        · subst hjk
          rw [Array.getElem?_setIfInBounds_self_of_lt (by have := HC.out.2.1; omega), hw]
          rfl
        · rw [Array.getElem?_setIfInBounds_ne (fun x => hjk x.symm)]
          exact HC.out.2.2 j (by omega)
    · obtain ⟨cur, hcur, hsz, hall⟩ := I.out
      have hcv : (convert 78 9 (.slice (some ⟨g, 0, none⟩) m m)).run Tryz.prog wr = .ok (.string (bodyV a)) wr := by
        have h := run_convert_bytes_back (P := Tryz.prog) wr 78 9 5 ⟨g, 0, none⟩ m (bodyV a).data.toList Tryz.underlying78 Tryz.underlying5 Tryz.underlying9 (fun j hj => by
          have hj' : j < m := by rw [HBL.out.1] at hj; simpa using hj
          rw [Lib.add_plain, Heap.cell hcur, Nat.zero_add, hall j (by omega)]
          have hb := byteV_lt a.n j
          have e : (bodyV a).data.toList[j] = UInt8.ofNat (byteV a.n j).toNat := by
            have h1 : (bodyV a).data.toList[j]? = some (UInt8.ofNat (byteV a.n j).toNat) := by
              rw [HBL.out.1, List.getElem?_map, List.getElem?_range hj']
              rfl
            exact (List.getElem?_eq_some_iff.1 h1).2
          rw [e]
          exact congrArg some (congrArg (Value.int .u8) (by rw [UInt8.toNat_ofNat']; omega)))
        rw [show (bodyV a).data.toList.length = m by rw [Array.length_toList]; exact HBL.out.2] at h
        exact h
      clear hqr hcur hsz hall
      go_wp2_with (simp only [hcv])
      go_ret
      exact ⟨rfl, HO.out.trans HOR.out (fun b hb h => by have h' : b = g := h; have := HG.out.1; omega)⟩
end LawS
end Go.Proofs.YtndgnlblbjpogaaGreatDoor
namespace Go.Proofs.YtndgnlblbjpogaaGreatDoor
open Go Go.RowKit Go.Shelf Led
namespace LawS
theorem wrap_u64 (n : Int) : IntKind.u64.wrap n = ((n % 18446744073709551616).toNat : Int) := by
  simp [IntKind.wrap, IntKind.bits, IntKind.signed]
  omega
theorem ret_u64 {a b : Int} (h : a = b) : Ending.returned (.int .u64 a) = Ending.returned (.int .u64 b) := by rw [h]
set_option maxHeartbeats 1000000 in
set_option maxRecDepth 100000 in
theorem target_any (w : World) (S : Nat → Prop) (lv : Value) (l : LedgerV) (h : LedgerAt w S lv l) (hr : ∀ d ∈ l.dests, Rising d.above) (a : ActV) (ha : a.Ok) (hpl : (l.pending (nameV a.name)).length ≤ 1000000) :
    Calls Tryz.prog 39 #[lv, actAgg a] w fun e w' => e = .returned (.int .u64 (targetV l a)) ∧ Off None w w' := by
  obtain ⟨_, hnm, hn, hl⟩ := ha
  have h0 := h
  obtain ⟨sv, ds, rfl, hds, hd, _, _⟩ := h
  obtain ⟨A, c, hA⟩ := hd.row.form
  obtain ⟨n, hn0⟩ : ∃ n, n = ds.length := ⟨_, rfl⟩
  rw [← hn0] at hA
  subst hA
  obtain ⟨w2, q, hw2, hq, ho2, hb0, hb1, hs2⟩ := two_boxes w #[.int .u64 l.first, .int .u64 l.next, .slice A n c] #[.int .i64 a.op, .int .i64 a.name, .int .i64 a.n, .int .i64 a.long] 34 30
  obtain ⟨p, hp⟩ : ∃ p, p = w.heap.size := ⟨_, rfl⟩
  rw [← hp] at hb0 hq
  have HO := Lib.hid ho2
  have HB := Lib.hid (And.intro hb0 hb1)
  have HPE := Lib.hid (fun W (hW : Off None w2 W) => pending_any W S _ l ((h0.quiet ho2).quiet hW) hr (nameV a.name))
  have htv : targetV l a = if (l.pending (nameV a.name)).length = 0 ∨ pickN a.long 5 = 4 then (a.n % 18446744073709551616).toNat else (l.pending (nameV a.name)).getD (pickN a.n (l.pending (nameV a.name)).length) 0 := rfl
  generalize l.pending (nameV a.name) = pl at HPE hpl htv
  have HTV := Lib.hid htv
  have c0 : w2.cell? ⟨p, 0, none⟩ = some (.int .u64 l.first) := Heap.cell hb0 0
  have c1 : w2.cell? ⟨p, 1, none⟩ = some (.int .u64 l.next) := Heap.cell hb0 1
  have c2 : w2.cell? ⟨p, 2, none⟩ = some (.slice A n c) := Heap.cell hb0 2
  have q1 : w2.cell? ⟨q, 1, none⟩ = some (.int .i64 a.name) := Heap.cell hb1 1
  unfold actAgg
  clear h0 hd hds hn0 ho2 hb0 hb1 hs2 hr htv
  go_enter Tryz.func39, Tryz.ntmps39
  go_wp2_with fail
  rw [← hw2, ← hp, ← hq]
  clear hw2 hp hq
  go_upto_region 1 with fail
  go_cut [5] from 6 to 30 (fun v wx => wx.ownsRow 0 31 1 v pl.length (numCells pl) ∧ Off None w2 wx)
  case first =>
    go_region_held3 (fun W => W.cell? ⟨p, 0, none⟩ = some (.int .u64 l.first) ∧ W.cell? ⟨p, 1, none⟩ = some (.int .u64 l.next) ∧ W.cell? ⟨p, 2, none⟩ = some (.slice A n c) ∧ W.cell? ⟨q, 1, none⟩ = some (.int .i64 a.name))
      (first | exact ⟨c0, c1, c2, q1⟩ | exact d5 | exact d6)
      (first
        | (go_at_call 38; refine (name_any a.name hnm _).mono ?_; rintro e w5 ⟨rfl, ho5⟩; have ho25 : Off None w2 w5 := ((Off.refl None w2).drew).quiet_trans ho5; have d5 : w5.cell? ⟨p, 0, none⟩ = some (.int .u64 l.first) ∧ w5.cell? ⟨p, 1, none⟩ = some (.int .u64 l.next) ∧ w5.cell? ⟨p, 2, none⟩ = some (.slice A n c) ∧ w5.cell? ⟨q, 1, none⟩ = some (.int .i64 a.name) := ⟨ho25.stay c0 (fun x => x), ho25.stay c1 (fun x => x), ho25.stay c2 (fun x => x), ho25.stay q1 (fun x => x)⟩)
        | (go_at_call 20; refine (HPE.out _ ho25).mono ?_; rintro e w6 ⟨v6, rfl, hown6, ho6⟩; have ho26 := ho25.quiet_trans ho6; have d6 : w6.cell? ⟨p, 0, none⟩ = some (.int .u64 l.first) ∧ w6.cell? ⟨p, 1, none⟩ = some (.int .u64 l.next) ∧ w6.cell? ⟨p, 2, none⟩ = some (.slice A n c) ∧ w6.cell? ⟨q, 1, none⟩ = some (.int .i64 a.name) := ⟨ho26.stay c0 (fun x => x), ho26.stay c1 (fun x => x), ho26.stay c2 (fun x => x), ho26.stay q1 (fun x => x)⟩))
    all_goals
      go_wp2_with fail
      go_meet
      exact ⟨own_mono hown6 (Nat.zero_le _), ho26⟩
  case rest =>
    obtain ⟨hown, ho⟩ := hcut
    obtain ⟨A3, c3, rfl⟩ := own_form hown
    have hpl := hown.1
    have hqb := ho.at_ HB.out.2 (fun x => x)
    have e2 := Heap.cell hqb 2
    have e3 := Heap.cell hqb 3
    have HO3 := Lib.hid (HO.out.quiet_trans ho)
    have HOWN := Lib.hid hown
    have hP5 := fun W => pick_any a.long 5 hl (by omega) (by omega) W
    have HP5 := Lib.hid hP5
    clear hown ho hqb HPE hP5 c0 c1 c2 q1 hpl
    by_cases hk : pl.length = 0
    · rw [hk]
      have hq := HTV.out
      rw [if_pos (.inl hk)] at hq
      have HT := Lib.hid hq
      clear hq hk HTV
      go_wp2_with fail
      go_ret
      rw [HT.out]
      exact ⟨ret_u64 (wrap_u64 a.n), HO3.out⟩
    · have k1 : ¬ (pl.length : Int) = 0 := by omega
      have k2 : ((pl.length : Int) == 0) = false := by simpa using k1
      by_cases h4 : pickN a.long 5 = 4
      · have hq := HTV.out
        rw [if_pos (.inr h4)] at hq
        have HT := Lib.hid hq
        rw [h4] at HP5
        clear hq HTV
        go_wp2_with (go_at_call 11; refine (HP5.out _).mono ?_; rintro e w' ⟨rfl, rfl⟩)
        go_ret
        rw [HT.out]
        exact ⟨ret_u64 (wrap_u64 a.n), HO3.out⟩
      · have hq := HTV.out
        rw [if_neg (fun x => x.elim hk h4)] at hq
        have HT := Lib.hid hq
        obtain ⟨j5, hj5⟩ : ∃ j5, j5 = pickN a.long 5 := ⟨_, rfl⟩
        rw [← hj5] at HP5 h4
        have k3 : ¬ (j5 : Int) = 4 := by omega
        have k4 : ((j5 : Int) == 4) = false := by simpa using k3
        have hlt := pickN_lt a.n (n := pl.length) (by omega)
        have hPn := fun W => pick_any a.n pl.length hn (by omega) hpl W
        obtain ⟨j, hj⟩ : ∃ j, j = pickN a.n pl.length := ⟨_, rfl⟩
        rw [← hj] at hlt hPn HT
        have hval : pl.getD j 0 = pl[j] := by rw [List.getD_eq_getElem?_getD, List.getElem?_eq_getElem hlt]; rfl
        rw [hval] at HT
        have HPN := Lib.hid hPn
        have hcell : ∃ g, A3 = some ⟨g, 0, none⟩ := by
          obtain ⟨g, cp, hv, _⟩ := HOWN.out.form (by omega)
          cases hv
          exact ⟨_, rfl⟩
        obtain ⟨g, rfl⟩ := hcell
        have ej : wc.cell? ⟨g, j, none⟩ = some (.int .u64 pl[j]) := by
          have h1 := HOWN.out.cells (g := g) rfl j (.int .u64 pl[j]) (by unfold numCells; rw [List.getElem?_map, List.getElem?_eq_getElem hlt]; rfl)
          rw [Addr.add_lit, Nat.zero_add] at h1
          exact h1
        obtain ⟨m, hm⟩ : ∃ m, m = pl.length := ⟨_, rfl⟩
        rw [← hm] at hlt HPN k1 k2 hk ⊢
        have hj0 : (0 : Int) ≤ (j : Int) := by omega
        have hj1 : (j : Int) < (m : Int) := by omega
        clear hq HTV hj hPn hval hj5 hm
        go_wp2_with (first | (go_at_call_of 11 (Value.int .i64 a.long); refine (HP5.out _).mono ?_; rintro e w' ⟨rfl, rfl⟩) | (go_at_call 11; refine (HPN.out _).mono ?_; rintro e w' ⟨rfl, rfl⟩))
        go_ret
        rw [HT.out]
        exact ⟨rfl, HO3.out⟩
end LawS
end Go.Proofs.YtndgnlblbjpogaaGreatDoor
