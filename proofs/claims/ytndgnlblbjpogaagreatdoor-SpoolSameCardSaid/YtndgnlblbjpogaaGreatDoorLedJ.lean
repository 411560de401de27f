/- label.Name: which texts are names. · A ledger in memory: the walk of Join. -/
import Derived.Test.YtndgnlblbjpogaaGreatDoorLedG
import Derived.Test.YtndgnlblbjpogaaGreatDoorShelf
import Derived.Shelf.Strings.SlTrimAscii
import Derived.Deep.RegionHeld3
namespace Go.Proofs.YtndgnlblbjpogaaGreatDoor
open Go Go.RowKit Go.Shelf
def firstL : List UInt8 := [97, 98, 99, 100, 101, 102, 103, 104, 105, 106, 107, 108, 109, 110, 111, 112, 113, 114, 115, 116, 117, 118, 119, 120, 121, 122, 95]
def laterL : List UInt8 := firstL ++ [48, 49, 50, 51, 52, 53, 54, 55, 56, 57]
/-- Which texts are names. -/
def nameOk (s : ByteArray) : Bool := match s.data.toList with
  | [] => false
  | c :: _ => decide (s.size ≤ 20) && decide (0 ≤ Lib.indexByte firstL c) && (Lib.trimS s.data.toList laterL).isEmpty
namespace Led
theorem trim_any (w : World) (s : ByteArray) (hs : s.size ≤ 9223372036854775807) :
    Calls Tryz.prog 107 #[.string s, .string ⟨laterL.toArray⟩] w fun e w' => e = .returned (.string ⟨(Lib.trimS s.data.toList laterL).toArray⟩) ∧ Off None w w' :=
  (Any.strings_Trim_laid Tryz.lays160 (by kernel_rfl) s ⟨laterL.toArray⟩ w hs (by decide) (ascii_of_all (by decide))).mono fun _ _ h => ⟨h.1, Off.of_below h.2⟩
set_option maxRecDepth 100000 in
theorem name_any (w : World) (s : ByteArray) (hs : s.size ≤ 9223372036854775807) :
    Calls Tryz.prog 73 #[.string s] w fun e w' => e = .returned (.bool (nameOk s)) ∧ Off None w w' := by
  have hsl : s.data.toList.length = s.size := Array.length_toList
  cases hl : s.data.toList with
  | nil =>
    have hn : nameOk s = false := by unfold nameOk; rw [hl]
    have h0 : s.toList.isEmpty = true := by rw [Heap.toList_data, hl]; rfl
    have h1 : (!s.toList.isEmpty) = false := by rw [h0]; rfl
    rw [hn]
    go_enter Tryz.func73, Tryz.ntmps73
    go_wp2_with fail
    go_ret
    exact ⟨rfl, Off.refl _ _⟩
  | cons c r =>
    have hpos : 0 < s.size := by rw [← hsl, hl]; simp
    have h0 : s.toList.isEmpty = false := by rw [Heap.toList_data, hl]; rfl
    have h1 : (!s.toList.isEmpty) = true := by rw [h0]; rfl
    have hc : s[0] = c := by
      have : s.data.toList[0]? = some s[0] := by rw [List.getElem?_eq_getElem (by omega)]; rfl
      rw [hl] at this
      simpa using this.symm
    have hn : nameOk s = (decide (s.size ≤ 20) && decide (0 ≤ Lib.indexByte firstL c) && (Lib.trimS s.data.toList laterL).isEmpty) := by unfold nameOk; rw [hl]
    have HN := Lib.hid hn
    clear hn hl hsl
    by_cases h2 : s.size ≤ 20
    · have h2' : (s.size : Int) ≤ 20 := by omega
      go_enter Tryz.func73, Tryz.ntmps73
      go_wp2_with fail
      refine (Tryz.strings_IndexByte ⟨firstL.toArray⟩ c.toNat w).mono ?_
      rintro e w1 ⟨rfl, rfl⟩
      have hcc : ((c.toNat : Int).toNat).toUInt8 = c := by simp
      rw [show (⟨firstL.toArray⟩ : ByteArray).data.toList = firstL from rfl, hcc]
      obtain ⟨x, hx⟩ : ∃ x, x = Lib.indexByte firstL c := ⟨_, rfl⟩
      rw [← hx]
      have HX := Lib.hid hx; clear hx hcc
      by_cases h3 : 0 ≤ x
      · go_wp2_with fail
        refine (trim_any _ s hs).mono ?_
        rintro e w2 ⟨rfl, ho2⟩
        obtain ⟨t, ht⟩ : ∃ t, t = Lib.trimS s.data.toList laterL := ⟨_, rfl⟩
        rw [← ht]
        have HT := Lib.hid ht; clear ht
        go_wp2_with fail
        go_ret
        refine ⟨?_, ho2⟩
        rw [HN.out, decide_eq_true h2, ← HX.out, decide_eq_true h3, ← HT.out]
        cases t with
        | nil => rfl
        | cons a b => rfl
      · go_wp2_with fail
        go_ret
        refine ⟨?_, Off.refl _ _⟩
        rw [HN.out, decide_eq_true h2, ← HX.out, decide_eq_false (show ¬ 0 ≤ x by omega)]
        rfl
    · have h2' : ¬ ((s.size : Int) ≤ 20) := by omega
      go_enter Tryz.func73, Tryz.ntmps73
      go_wp2_with fail
      go_ret
      refine ⟨?_, Off.refl _ _⟩
      rw [HN.out, decide_eq_false h2]
      rfl
end Led
end Go.Proofs.YtndgnlblbjpogaaGreatDoor
namespace Go.Proofs.YtndgnlblbjpogaaGreatDoor
open Go Go.RowKit Go.Shelf
/-- A call of a function as one step of a region that draws its order. -/
theorem step_call {P : Program} {ops : Array Oper} {o : Oper} {a : Act} {w : World} {K : Act → World → Prop} {Q : Exit → Act → World → Prop} {X : Prop} (hgd : o.guard = none) (f : FuncId) (xs : Array Operand) (ts : Array TypeId)
    (ho : o.op = .call { callee := .value (.func f), args := xs, argTypes := ts }) (he : ∀ args w, (callFunc f args).run P w = .ok (.enter f args) w) (vs : Array Value) (hx' : xs.toList.map a.eval = vs.toList) {R : Ending → World → Prop}
    (hc : Calls P f vs w R) (h : ∀ e w', R e w' → ∃ v, e = .returned v ∧ K (a.put o.dst v) w') : if Region.wanted o (yielded ops a.tmps) = true then Oper.wp P o a w K Q else X := by
  have hw : Region.wanted o (yielded ops a.tmps) = true := by simp [Region.wanted, hgd]
  have hx : xs.map a.eval = vs := Array.ext' (by rw [Array.toList_map]; exact hx')
  rw [if_pos hw]
  unfold Oper.wp
  have hr : (execOp a.eval o).run P w = .ok (.enter f vs) w := by
    unfold execOp
    simp only [ho, resolve, invoke, Sem.run_bind, hx]
    simp [Deferred.ofValue, Act.eval, Result.andThen, he]
  rw [hr, Oper.upon_enter]
  refine hc.mono ?_
  intro e w' hR
  obtain ⟨v, rfl, hK⟩ := h e w' hR
  exact hK
/-- What Join tells. -/
def LedgerV.joinErr (l : LedgerV) (name : ByteArray) : Int :=
  if nameOk name = false then 3 else if (LedgerV.place l.dests name).isSome then 4 else if 4 ≤ l.dests.length then 6 else 0
theorem placeI_neg {ds : List DestV} {name : ByteArray} (h : LedgerV.place ds name = none) : placeI ds name = -1 := by unfold placeI; rw [h]
theorem placeI_pos {ds : List DestV} {name : ByteArray} {i : Nat} (h : LedgerV.place ds name = some i) : placeI ds name = i := by unfold placeI; rw [h]
/-- What a function that makes a ledger, or errs, answers. -/
def Ledged (w : World) (S : Nat → Prop) (l : LedgerV) (er : Int) (e : Ending) (w' : World) : Prop :=
  ∃ lv, e = .returned (.tuple #[lv, .int .i64 er]) ∧ (∃ (a b : Int) (A : Option Addr) (k c : Nat), lv = .agg #[.int .u64 a, .int .u64 b, .slice A k c]) ∧ (er = 0 → LedgerAt w' (And_ S w) lv l) ∧ Off None w w'
theorem own_mono {w : World} {base base' : Nat} {e : TypeId} {size n : Nat} {v : Value} {xs : List Value} (h : w.ownsRow base e size v n xs) (hb : base' ≤ base) : w.ownsRow base' e size v n xs :=
  ⟨h.1, h.2.imp id fun ⟨g, cap, cur, a, b, r⟩ => ⟨g, cap, cur, a, Nat.le_trans hb b, r⟩⟩
theorem maxLen_ge : 1099511627777 ≤ maxLen := by unfold maxLen; omega
theorem new_one (name : ByteArray) (x : Nat) : ∀ u ∈ destCells ⟨name, x, x, [], 0, 0, 0⟩ (.slice none 0 0), u.oneCell' = true := by
  intro u hu
  simp [destCells] at hu
  rcases hu with rfl | rfl | rfl | rfl | rfl | rfl | rfl <;> rfl
/-- An append onto a row of one's own turns nothing that was there before. -/
theorem pushed_off {w w5 W w6 : World} {e : TypeId} {size n : Nat} {v : Value} {xs : List Value} (h : Off None w w5) (hown : w5.ownsRow w.heap.size e size v n xs) (hg : W.grownBy w6 v.ownBlock) (hW : Off None w5 W := by first | exact Off.refl _ _ | exact (Off.refl _ _).alloc _) : Off None w w6 := by
  exact (h.quiet_trans hW).grown hg (fun k hk => .inr (hown.lt k hk).1)
/-- Destinations in a row of the call's own. -/
theorem grown_dests {w w2 w3 w' : World} {S : Nat → Prop} {v : Value} {ds : List DestIn} (hn : ds.length ≤ 1099511627776) (heach : ∀ p ∈ ds, DestAt w S p) (hown : w3.ownsRow w2.heap.size 47 7 v ds.length (destsCells ds)) (h3 : Off None w w3)
    (hw : w.heap.size ≤ w2.heap.size) {G : Nat → Prop} (ho : Off G w3 w') (hG : ∀ b, G b → w.heap.size ≤ b ∧ b < w2.heap.size) : DestsAt w' (And_ S w) v ds := by
  refine ⟨((SliceAt.of_own (S := fun b => w2.heap.size ≤ b) hown hn (fun k hk => (hown.lt k hk).1)).off ho (fun b hb _ h => ?_)).mono (fun b hb _ => .inr (by omega)), fun p hp => ?_⟩
  · have := hG b h; omega
  · have h0 : Off (fun b => w.heap.size ≤ b) w w' := h3.trans (ho.mono (fun b _ h => h)) (fun b hb h => by have := hG b h; omega) |>.mono (fun b hb h => h.elim)
    refine ⟨?_, (heach p hp).small⟩
    refine SliceAt.mono (S := fun b => S b ∧ b < w.heap.size) ?_ (fun b hb _ => .inl hb.1)
    exact ((heach p hp).row.mono (fun b hb hlt => ⟨hb, hlt⟩)).off h0 (fun b hb _ h => by omega)
theorem destsCells_snoc (ds : List DestIn) (x : DestIn) : destsCells (ds ++ [x]) = destsCells ds ++ destCells x.1 x.2 := by
  unfold destsCells
  rw [List.flatMap_append]
  simp
theorem join_end {w w4 w6 w' : World} {S : Nat → Prop} {sv v : Value} {l : LedgerV} {ds : List DestIn} {name : ByteArray} (hd : DestsAt w S sv ds) (hds : ds.map (·.1) = l.dests) (hnm : name.size ≤ maxLen) (hf : l.first ≤ big) (hn : l.next ≤ big)
    (hown : w6.ownsRow w4.heap.size 47 7 v (ds.length + 1) (destsCells ds ++ destCells ⟨name, l.next, l.next, [], 0, 0, 0⟩ (.slice none 0 0))) (h6 : Off None w w6) (hw : w.heap.size ≤ w4.heap.size) {G : Nat → Prop} (ho : Off G w6 w')
    (hG : ∀ b, G b → w.heap.size ≤ b ∧ b < w4.heap.size) (hlen : ds.length + 1 ≤ 1099511627776) : LedgerAt w' (And_ S w) (.agg #[.int .u64 l.first, .int .u64 l.next, v]) (l.joined name) := by
  refine ⟨v, ds ++ [(⟨name, l.next, l.next, [], 0, 0, 0⟩, .slice none 0 0)], rfl, ?_, ?_, hf, hn⟩
  · rw [List.map_append, hds]; rfl
  · refine grown_dests (w2 := w4) (by rw [List.length_append]; exact hlen) ?_ ?_ h6 hw ho hG
    · intro p hp
      rcases List.mem_append.1 hp with hp | hp
      · exact hd.each p hp
      · rw [List.mem_singleton.1 hp]
        exact ⟨SliceAt.nil _ _ _, ⟨hnm, hn, hn, Nat.zero_le _, Nat.zero_le _, Nat.zero_le _, fun s hs => absurd hs (by simp), Nat.zero_le _⟩⟩
    · rw [List.length_append, destsCells_snoc]
      exact hown
namespace Led
set_option maxHeartbeats 2000000 in
set_option maxRecDepth 100000 in
theorem join_any (w : World) (S : Nat → Prop) (lv : Value) (l : LedgerV) (h : LedgerAt w S lv l) (name : ByteArray) (hnm : name.size ≤ maxLen) :
    Calls Tryz.prog 63 #[lv, .string name] w (Ledged w S (l.joined name) (l.joinErr name)) := by
  obtain ⟨sv, ds, rfl, hds, hd, hf, hn⟩ := h
  obtain ⟨A, c, hA⟩ := hd.row.form
  obtain ⟨n, hn0⟩ : ∃ n, n = ds.length := ⟨_, rfl⟩
  rw [← hn0] at hA
  subst hA
  have hdn := hd.row.2.1
  rw [← hn0] at hdn
  have hnl : l.dests.length = n := by rw [← hds, List.length_map, hn0]
  obtain ⟨w2, q, hw2, hq, ho2, hb0, hb1, hs2⟩ := two_boxes w #[.int .u64 l.first, .int .u64 l.next, .slice A n c] zLed 34 34
  obtain ⟨p, hp⟩ : ∃ p, p = w.heap.size := ⟨_, rfl⟩
  rw [← hp] at hb0 hq
  have hlt : p < w2.heap.size := by omega
  have hpq : p ≠ q := by omega
  have HQ := Lib.hid (show w.heap.size ≤ p ∧ w.heap.size ≤ q ∧ q < w2.heap.size by omega)
  have HB := Lib.hid (And.intro hb0 hb1)
  have HO := Lib.hid ho2
  have HD := Lib.hid (And.intro hd (And.intro hds hn0))
  have HNL := Lib.hid hnl
  have hnm2 : name.size ≤ 9223372036854775807 := hnm
  clear hd hds hn0 ho2 hs2 hb0 hb1 hnl
  have hN := name_any w2 name hnm2
  obtain ⟨ok, hok⟩ : ∃ ok, ok = nameOk name := ⟨_, rfl⟩
  rw [← hok] at hN
  have HOK := Lib.hid hok; clear hok
  have HN := Lib.hid hN; clear hN
  have hpl := fun W (hW : Off None w2 W) => place_any W S _ ds ((HD.out.1.quiet HO.out).quiet hW) name
  rw [HD.out.2.1] at hpl
  have HPL := Lib.hid hpl; clear hpl
  have fin : ∀ (w3 : World), Off None w2 w3 → ∃ lv, True := fun _ _ => ⟨(0 : Nat), trivial⟩
  clear fin
  unfold big at hf hn
  cases ok with
  | false =>
    have HE := Lib.hid (show l.joinErr name = 3 by unfold LedgerV.joinErr; rw [← HOK.out, if_pos rfl])
    go_enter Tryz.func63, Tryz.ntmps63
    go_wp2_with fail
    rw [← hw2, ← hp, ← hq]
    clear hw2 hp hq
    refine HN.out.mono ?_
    rintro e w3 ⟨rfl, ho3⟩
    have hq3 := ho3.at_ HB.out.2 (fun h => h)
    have HO3 := Lib.hid (HO.out.quiet_trans ho3)
    have HQ3 := Lib.hid hq3
    have z0 := Heap.cell hq3 0
    have z1 := Heap.cell hq3 1
    have z2 := Heap.cell hq3 2
    have y0 := Heap.frozen hq3 0
    have y1 := Heap.frozen hq3 1
    have y2 := Heap.frozen hq3 2
    clear ho3 hq3
    go_wp2_with fail
    refine bodyPost_ret_by (results_row_tmp' rfl _ _ q _ _ _ _ rfl (box3' HQ3.out _ _ _) Tryz.underlying34 rfl infoLed) rfl ⟨_, by rw [HE.out]; rfl, ⟨_, _, _, _, _, rfl⟩, fun h => ?_, off3 HO3.out (.inr HQ.out.2.1) _ _ _⟩
    rw [HE.out] at h; cases h
  | true =>
    cases hc : LedgerV.place l.dests name with
    | some i =>
      have HE := Lib.hid (show l.joinErr name = 4 by unfold LedgerV.joinErr; rw [← HOK.out, if_neg (by decide), hc]; rfl)
      have HI := Lib.hid (placeI_pos hc)
      have hi0 : (0 : Int) ≤ (i : Int) := by omega
      clear hc
      go_enter Tryz.func63, Tryz.ntmps63
      go_wp2_with fail
      rw [← hw2, ← hp, ← hq]
      clear hw2 hp hq
      refine HN.out.mono ?_
      rintro e w3 ⟨rfl, ho3⟩
      have hp3 := ho3.at_ HB.out.1 (fun h => h)
      have e2 := Heap.cell hp3 2
      have HO3 := Lib.hid ho3
      clear ho3 hp3
      go_wp2_with fail
      refine (HPL.out w3 HO3.out).mono ?_
      rintro e w4 ⟨rfl, ho4⟩
      rw [HI.out]
      have hq4 := (HO3.out.quiet_trans ho4).at_ HB.out.2 (fun h => h)
      have HO4 := Lib.hid (HO.out.quiet_trans (HO3.out.quiet_trans ho4))
      have HQ4 := Lib.hid hq4
      have z0 := Heap.cell hq4 0
      have z1 := Heap.cell hq4 1
      have z2 := Heap.cell hq4 2
      have y0 := Heap.frozen hq4 0
      have y1 := Heap.frozen hq4 1
      have y2 := Heap.frozen hq4 2
      clear ho4 hq4 e2
      go_wp2_with fail
      refine bodyPost_ret_by (results_row_tmp' rfl _ _ q _ _ _ _ rfl (box3' HQ4.out _ _ _) Tryz.underlying34 rfl infoLed) rfl ⟨_, by rw [HE.out]; rfl, ⟨_, _, _, _, _, rfl⟩, fun h => ?_, off3 HO4.out (.inr HQ.out.2.1) _ _ _⟩
      rw [HE.out] at h; cases h
    | none =>
      have HI := Lib.hid (placeI_neg hc)
      have hje : l.joinErr name = if 4 ≤ l.dests.length then 6 else 0 := by unfold LedgerV.joinErr; rw [← HOK.out, if_neg (by decide), hc]; rfl
      rw [HNL.out] at hje
      have HJ := Lib.hid hje
      clear hc hje
      by_cases h4 : 4 ≤ n
      · have HE := Lib.hid (show l.joinErr name = 6 by rw [HJ.out, if_pos h4])
        have h4' : (4 : Int) ≤ (n : Int) := by omega
        go_enter Tryz.func63, Tryz.ntmps63
        go_wp2_with fail
        rw [← hw2, ← hp, ← hq]
        clear hw2 hp hq
        refine HN.out.mono ?_
        rintro e w3 ⟨rfl, ho3⟩
        have hp3 := ho3.at_ HB.out.1 (fun h => h)
        have e2 := Heap.cell hp3 2
        have HO3 := Lib.hid ho3
        clear ho3 hp3
        go_wp2_with fail
        refine (HPL.out w3 HO3.out).mono ?_
        rintro e w4 ⟨rfl, ho4⟩
        rw [HI.out]
        have hq4 := (HO3.out.quiet_trans ho4).at_ HB.out.2 (fun h => h)
        have e2' := ho4.stay e2 (fun h => h)
        have HO4 := Lib.hid (HO.out.quiet_trans (HO3.out.quiet_trans ho4))
        have HQ4 := Lib.hid hq4
        have z0 := Heap.cell hq4 0
        have z1 := Heap.cell hq4 1
        have z2 := Heap.cell hq4 2
        have y0 := Heap.frozen hq4 0
        have y1 := Heap.frozen hq4 1
        have y2 := Heap.frozen hq4 2
        clear ho4 hq4 e2
        go_wp2_with fail
        refine bodyPost_ret_by (results_row_tmp' rfl _ _ q _ _ _ _ rfl (box3' HQ4.out _ _ _) Tryz.underlying34 rfl infoLed) rfl ⟨_, by rw [HE.out]; rfl, ⟨_, _, _, _, _, rfl⟩, fun h => ?_, off3 HO4.out (.inr HQ.out.2.1) _ _ _⟩
        rw [HE.out] at h; cases h
      · have HE := Lib.hid (show l.joinErr name = 0 by rw [HJ.out, if_neg h4])
        have h4' : ¬ ((4 : Int) ≤ (n : Int)) := by omega
        go_enter Tryz.func63, Tryz.ntmps63
        go_wp2_with fail
        rw [← hw2, ← hp, ← hq]
        clear hw2 hp hq
        refine HN.out.mono ?_
        rintro e w3 ⟨rfl, ho3⟩
        have hp3 := ho3.at_ HB.out.1 (fun h => h)
        have e2 := Heap.cell hp3 2
        have HO3 := Lib.hid ho3
        clear ho3 hp3
        go_wp2_with fail
        refine (HPL.out w3 HO3.out).mono ?_
        rintro e w4 ⟨rfl, ho4⟩
        rw [HI.out]
        have ho24 := HO3.out.quiet_trans ho4
        have hp4 := ho24.at_ HB.out.1 (fun h => h)
        have hq4 := ho24.at_ HB.out.2 (fun h => h)
        have HO4 := Lib.hid (HO.out.quiet_trans ho24)
        have HS4 := Lib.hid ho24.size
        have HQ4 := Lib.hid hq4
        have HP4 := Lib.hid hp4
        have e0 := Heap.cell hp4 0
        have e1 := Heap.cell hp4 1
        have e2 := Heap.cell hp4 2
        have x2 := Heap.frozen hp4 2
        have hd4 := HD.out.1.quiet HO4.out
        have HD4 := Lib.hid hd4
        clear ho4 ho24 hp4 hq4 hd4
        go_wp2_with fail
        obtain ⟨i0, hi, hz0, hz1, hz2⟩ := info_parts infoDest
        have I0 := Lib.hid hi; have Z0 := Lib.hid hz0; have Z1 := Lib.hid hz1; have Z2 := Lib.hid hz2
        clear hi hz0 hz1 hz2
        have hdl := HD.out.1.row.2.1
        have hn2 : ∀ {m : Nat}, 1099511627777 ≤ m → ds.length + 1 ≤ m := fun h => by omega
        have hn3 : ∀ {m : Nat}, 1 ≤ m → (ds.length + 1) * 80 ≤ 140737488355328 := fun _ => by omega
        have m1 : (w4.drew.alloc (.cells #[.string name, .int .u64 l.next, .int .u64 l.next, .slice none 0 0, .int .u64 0, .int .u64 0, .int .u64 0] 47)).cell? ⟨p, 2, none⟩ = some (.slice A n c) := ((Off.refl None w4).drew.alloc _).stay e2 (fun h => h)
        have m2 : (w4.alloc (.cells #[.string name, .int .u64 l.next, .int .u64 l.next, .slice none 0 0, .int .u64 0, .int .u64 0, .int .u64 0] 47)).drew.cell? ⟨p, 2, none⟩ = some (.slice A n c) := m1
        have m3 : (w4.alloc (.cells #[.string name, .int .u64 l.next, .int .u64 l.next, .slice none 0 0, .int .u64 0, .int .u64 0, .int .u64 0] 47)).cell? ⟨p, 2, none⟩ = some (.slice A n c) := m1
        go_region_law (first
            | (refine step_call (by rfl) 35 _ _ (by rfl) (enters_of Tryz.func35 (by kernel_rfl) rfl) #[.slice A n c] (by rfl) (clone_any _ S _ ds (HD4.out.quiet ?oc)) ?_; (case oc => first | exact (Off.refl None w4).drew | exact ((Off.refl None w4).drew).alloc _); rintro e w5 ⟨v, rfl, hown, ho5⟩; refine ⟨_, rfl, ?_⟩; have hown := own_mono hown (show w4.heap.size ≤ _ by first | exact Nat.le_refl _ | exact ((Off.refl None w4).alloc _).size); have ho45 : Off None w4 w5 := (by first | exact ((Off.refl None w4).drew).quiet_trans ho5 | exact (((Off.refl None w4).drew).alloc _).quiet_trans ho5); have hsz : ∀ {m : Nat}, w5.heap.size ≤ m → w4.heap.size ≤ m := (fun h => Nat.le_trans ho45.size h); have k1 : w5.cell? ⟨p, 1, none⟩ = some (.int .u64 l.next) := ho5.stay (by first | exact e1 | exact ((Off.refl None w4).drew.alloc _).stay e1 (fun h => h)) (fun h => h))
            | (refine step_append_lies (w5.alloc (.cells #[.string name, .int .u64 l.next, .int .u64 l.next, .slice none 0 0, .int .u64 0, .int .u64 0, .int .u64 0] 47)) (by rfl) _ _ 32 (by rfl) w4.heap.size 47 i0 _ 7 80 Tryz.underlying32 I0.out Z0.out Z1.out Z2.out (by rfl) (by decide) v ds.length (destsCells ds) (by rfl) (hown.alloc _) ⟨w5.heap.size, 0, none⟩ 1 1 (destCells ⟨name, l.next, l.next, [], 0, 0, 0⟩ (.slice none 0 0)) (by rfl) (by rfl) (Heap.news w5 _ _ _ rfl) (new_one _ _) (by decide) (hn2 (maxLen_ge)) (hn3 (Nat.le_refl _)) (hsz ((Off.refl None w5).alloc _).size) _ rfl ?_
               intro g cap w6 r1 r2 r3 r4
               have ho6 : Off None w4 w6 := pushed_off ho45 hown r2
               have j1 : w6.cell? ⟨p, 1, none⟩ = some (.int .u64 l.next) := ho6.stay e1 (fun h => h)
               have jf : w6.frozen? ⟨p, 2, none⟩ = false := Heap.frozen (ho6.at_ HP4.out (fun h => h)) 2
               have j2 : w6.cell? ⟨p, 2, none⟩ = some (.slice A n c) := ho6.stay e2 (fun h => h))
            | (refine step_append_lies (w5) (by rfl) _ _ 32 (by rfl) w4.heap.size 47 i0 _ 7 80 Tryz.underlying32 I0.out Z0.out Z1.out Z2.out (by rfl) (by decide) v ds.length (destsCells ds) (by rfl) hown ⟨w4.heap.size, 0, none⟩ 1 1 (destCells ⟨name, l.next, l.next, [], 0, 0, 0⟩ (.slice none 0 0)) (by rfl) (by rfl) (fun j u hu => ho5.stay (Heap.news w4 #[.string name, .int .u64 l.next, .int .u64 l.next, .slice none 0 0, .int .u64 0, .int .u64 0, .int .u64 0] 47 _ rfl j u hu) (fun h => h)) (new_one _ _) (by decide) (hn2 (maxLen_ge)) (hn3 (Nat.le_refl _)) (hsz (Nat.le_refl _)) _ rfl ?_
               intro g cap w6 r1 r2 r3 r4
               have ho6 : Off None w4 w6 := pushed_off ho45 hown r2
               have j1 : w6.cell? ⟨p, 1, none⟩ = some (.int .u64 l.next) := ho6.stay e1 (fun h => h)
               have jf : w6.frozen? ⟨p, 2, none⟩ = false := Heap.frozen (ho6.at_ HP4.out (fun h => h)) 2
               have j2 : w6.cell? ⟨p, 2, none⟩ = some (.slice A n c) := ho6.stay e2 (fun h => h)))
        all_goals
          have hp6 := ho6.at_ HP4.out (fun h => h)
          have hq6 := ho6.at_ HQ4.out (fun h => h)
          obtain ⟨w7, hw7⟩ : ∃ w7, w7 = w6.setCell ⟨p, 2, none⟩ (.slice (some ⟨g, 0, none⟩) (ds.length + 1) cap) := ⟨_, rfl⟩
          rw [← hw7]
          have hp7 : w7.heap[p]? = some (.cells #[.int .u64 l.first, .int .u64 l.next, .slice (some ⟨g, 0, none⟩) (ds.length + 1) cap] 34 (0, 0)) := by rw [hw7]; exact (Heap.set hp6 2 _).trans (by simp)
          have hq7 : w7.heap[q]? = some (.cells zLed 34 (0, 0)) := by rw [hw7]; exact (Heap.set_far (show q ≠ p by omega) _).trans hq6
          have ho67 : Off (fun b => b = p ∨ b = q) w6 w7 := by rw [hw7]; exact (Off.refl _ w6).setCell (p := ⟨p, 2, none⟩) (.inl (.inl rfl)) _
          have HQ7 := Lib.hid hq7
          have HO67 := Lib.hid ho67
          have HO6 := Lib.hid ho6
          have HR1 := Lib.hid r1
          have e0 := Heap.cell hp7 0
          have e1 := Heap.cell hp7 1
          have e2 := Heap.cell hp7 2
          have z0 := Heap.cell hq7 0
          have z1 := Heap.cell hq7 1
          have z2 := Heap.cell hq7 2
          have y0 := Heap.frozen hq7 0
          have y1 := Heap.frozen hq7 1
          have y2 := Heap.frozen hq7 2
          clear hw7 hp6 hq6 hp7 hq7 ho67 ho6 r1 r2 r3 r4 j1 j2 jf k1 hown ho5 ho45 hsz m1 m2 m3 hn2 hn3
          go_wp2_with fail
          refine bodyPost_ret_by (results_row_tmp' rfl _ _ q _ _ _ _ rfl (box3' HQ7.out _ _ _) Tryz.underlying34 rfl infoLed) rfl ⟨_, by rw [HE.out]; rfl, ⟨_, _, _, _, _, rfl⟩, fun _ => ?_, ?_⟩
          · exact join_end HD.out.1 HD.out.2.1 hnm hf hn HR1.out (HO4.out.quiet_trans HO6.out) HO4.out.size (off3 HO67.out (.inl (.inr rfl)) _ _ _) (fun b hb => by have h1 := HQ.out; have h2 := HS4.out; rcases hb with rfl | rfl <;> omega) (by have := HD.out.2.2; omega)
          · exact off3 ((HO4.out.quiet_trans HO6.out).trans HO67.out (fun b hb h => by have := HQ.out; rcases h with h | h <;> omega)) (.inr HQ.out.2.1) _ _ _
end Led
end Go.Proofs.YtndgnlblbjpogaaGreatDoor
