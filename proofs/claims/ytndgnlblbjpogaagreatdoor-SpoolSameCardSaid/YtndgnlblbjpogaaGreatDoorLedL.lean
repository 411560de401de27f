/- slices.Delete of one destination of a row of the call's own. · A ledger in memory: the walk of Leave. -/
import Derived.Test.YtndgnlblbjpogaaGreatDoorLedE
import Derived.Deep.RegionLaw
import Derived.Lib.SliceRun
namespace Go.Proofs.YtndgnlblbjpogaaGreatDoor
open Go Go.RowKit Go.Shelf
theorem Off.setCells {G : Nat → Prop} {w : World} {g : Nat} (vs : List Value) : ∀ (o : Nat) {w' : World}, Off G w w' → (G g ∨ w.heap.size ≤ g) → Off G w (w'.setCells g o vs) := by
  induction vs with
  | nil => intro o w' h _; exact h
  | cons v r ih => intro o w' h hg; exact ih (o + 1) (h.setCell (p := ⟨g, o, none⟩) hg v) hg
theorem setCells_heap {g : Nat} {t : TypeId} {fr : Nat × Nat} (vs : List Value) : ∀ (o : Nat) (w : World) (cur : Array Value), w.heap[g]? = some (.cells cur t fr) → o + vs.length ≤ cur.size →
    (w.setCells g o vs).heap[g]? = some (.cells (cur.toList.take o ++ vs ++ cur.toList.drop (o + vs.length)).toArray t fr) := by
  induction vs with
  | nil => intro o w cur h _; rw [World.setCells, h]; simp
  | cons v r ih =>
    intro o w cur h hl
    rw [List.length_cons] at hl
    rw [World.setCells, ih (o + 1) _ _ (Heap.set h o v) (by rw [Array.size_setIfInBounds]; omega)]
    congr 2
    apply congrArg List.toArray
    obtain ⟨L, hL⟩ : ∃ L, L = cur.toList := ⟨_, rfl⟩
    have hol : o < L.length := by rw [hL, Array.length_toList]; omega
    rw [Array.toList_setIfInBounds, ← hL, List.take_set, List.drop_set, if_pos (by omega), List.take_succ_eq_append_getElem hol, List.set_append_right _ _ (by rw [List.length_take]; omega), List.length_take, Nat.min_eq_left (by omega), Nat.sub_self]
    simp only [List.set_cons_zero, List.append_assoc, List.cons_append, List.nil_append, List.length_cons]
    rw [show o + 1 + r.length = o + (r.length + 1) by omega]
theorem run_clear_one {P : Program} (w : World) (t e ty : TypeId) (z : Value) (ht : P.underlying t = some (.slice e)) (hv : ∀ w, (zeroValue e).run P w = .ok z w) (h1 : ∀ u ∈ z.cells.toList, u.oneCell' = true) (b o c : Nat)
    (hc : ∀ j, j < z.cells.toList.length → (w.cell? ⟨b, o + j, none⟩).isSome = true) (hf : ∀ j, j < z.cells.toList.length → w.frozen? ⟨b, o + j, none⟩ = false) :
    (Builtin.clear_ #[t] ty #[.slice (some ⟨b, o, none⟩) 1 c]).run P w = .ok (.tuple #[]) (w.setCells b o z.cells.toList) := by
  have hzc : (Builtin.zeroCells z.cells 1).toList = z.cells.toList := by
    unfold Builtin.zeroCells
    apply List.ext_getElem
    · simp
    · intro i h1 h2
      simp at h1 h2 ⊢
      rw [Nat.mod_eq_of_lt h2, getElem!_pos z.cells i h2]
  have hst := run_storeCells_cells (P := P) b o z.cells.toList 0 w (by simpa using hc) (by simpa using hf) h1
  simp only [Nat.add_zero] at hst
  simp [Builtin.clear_, run_underlying ht, hv, hzc, hst]
namespace Led
theorem zeroD (w : World) : (zeroValue 47).run Tryz.prog w = .ok (.agg zDest) w := by kernel_rfl
theorem zero_one : ∀ u ∈ (Value.agg zDest).cells.toList, u.oneCell' = true := by
  intro u hu
  have h : u ∈ zDest.toList := hu
  simp at h
  rcases h with rfl | rfl | rfl | rfl <;> rfl
theorem destsCells_append (a b : List DestIn) : destsCells (a ++ b) = destsCells a ++ destsCells b := List.flatMap_append
set_option maxHeartbeats 2000000 in
set_option maxRecDepth 100000 in
theorem delete_any (w : World) (base g cap : Nat) (ds : List DestIn) (n i : Nat) (hn : n = ds.length) (hi : i < n) (hown : w.ownsRow base 47 7 (.slice (some ⟨g, 0, none⟩) n cap) n (destsCells ds)) (hone : ∀ u ∈ destsCells ds, u.oneCell' = true) :
    Calls Tryz.prog 91 #[.slice (some ⟨g, 0, none⟩) n cap, .int .i64 i, .int .i64 ((i : Int) + 1)] w fun e w' =>
      e = .returned (.slice (some ⟨g, 0, none⟩) (n - 1) cap) ∧ w'.ownsRow base 47 7 (.slice (some ⟨g, 0, none⟩) (n - 1) cap) (n - 1) (destsCells (ds.eraseIdx i)) ∧ Off (Only g) w w' := by
  rcases hown.2 with ⟨e, _⟩ | ⟨g', cap', cur, e, hbg, hg, hnc, hcm, hcs, hct⟩
  · cases e
  cases e
  unfold maxLen at hcm
  obtain ⟨i0, hi0, hz0, hz1, hz2⟩ := info_parts infoDest
  obtain ⟨news, hnews⟩ : ∃ news, news = destsCells (ds.drop (i + 1)) := ⟨_, rfl⟩
  have hnl : news.length = (n - (i + 1)) * 7 := by rw [hnews, destsCells_len, List.length_drop, ← hn]
  have hlc : cur.toList.length = cap * 7 := by rw [Array.length_toList]; exact hcs
  have hcell : ∀ j u, news[j]? = some u → w.cell? ⟨g, (i + 1) * 7 + j, none⟩ = some u := by
    intro j u hu
    have hj : j < (n - (i + 1)) * 7 := by rw [← hnl]; exact (List.getElem?_eq_some_iff.1 hu).1
    have hsplit : destsCells ds = destsCells (ds.take (i + 1)) ++ news := by rw [hnews, ← destsCells_append, List.take_append_drop]
    have h1 : (destsCells ds)[(i + 1) * 7 + j]? = some u := by
      rw [hsplit, List.getElem?_append_right (by rw [destsCells_len, List.length_take]; omega), destsCells_len, List.length_take, Nat.min_eq_left (by omega), Nat.add_sub_cancel_left, hu]
    rw [← hct, List.getElem?_take_of_lt (by omega)] at h1
    exact (Heap.cell hg _).trans (by rw [← Array.getElem?_toList]; exact h1)
  have s1 : Hid (news.length = (n - (i + 1)) * 7) := hnl
  have hall : destsCells ds = destsCells (ds.take (i + 1)) ++ destsCells (ds.drop (i + 1)) := by rw [← destsCells_append, List.take_append_drop]
  have s2 : Hid (∀ u ∈ news, u.oneCell' = true) := fun u hu => hone u (by rw [hall, ← hnews]; exact List.mem_append_right _ hu)
  clear hall
  have s3 : Hid (∀ j, j < news.length → (w.drew.cell? ⟨g, 0 + i * 7 + j, none⟩).isSome = true ∧ w.drew.frozen? ⟨g, 0 + i * 7 + j, none⟩ = false) := fun j hj => by
    refine ⟨?_, Heap.frozen (w := w.drew) hg _⟩
    show (w.cell? _).isSome = true
    rw [Heap.cell hg, ← Array.getElem?_toList, List.getElem?_eq_getElem (by rw [hlc]; omega)]
    rfl
  obtain ⟨W1, hW1⟩ : ∃ W1, W1 = w.drew.setCells g (0 + i * 7) news := ⟨_, rfl⟩
  have hh1 : W1.heap[g]? = some (.cells (cur.toList.take (i * 7) ++ news ++ cur.toList.drop (i * 7 + news.length)).toArray 47 (0, 0)) := by
    rw [hW1, Nat.zero_add]
    exact setCells_heap news (i * 7) w.drew cur hg (by omega)
  have ho1 : Off (Only g) w W1 := by rw [hW1]; exact Off.setCells news _ ((Off.refl (Only g) w).drew) (.inl rfl)
  obtain ⟨cur1, hc1⟩ : ∃ cur1, cur1 = (cur.toList.take (i * 7) ++ news ++ cur.toList.drop (i * 7 + news.length)).toArray := ⟨_, rfl⟩
  rw [← hc1] at hh1
  have hl1 : cur1.toList.length = cap * 7 := by rw [hc1, List.toList_toArray]; simp only [List.length_append, List.length_take, List.length_drop, hlc, hnl]; omega
  obtain ⟨zl, hzl⟩ : ∃ zl, zl = zDest.toList := ⟨_, rfl⟩
  have hz7 : zl.length = 7 := by rw [hzl]; rfl
  have hzo : ∀ u ∈ zl, u.oneCell' = true := by intro u hu; rw [hzl] at hu; exact zero_one u hu
  have hcl : ∀ ty c, (Builtin.clear_ #[32] ty #[.slice (some ⟨g, (n - 1) * 7, none⟩) 1 c]).run Tryz.prog W1 = .ok (.tuple #[]) (W1.setCells g ((n - 1) * 7) zl) := fun ty c => by
    rw [hzl]
    exact run_clear_one W1 _ _ ty (.agg zDest) Tryz.underlying32 zeroD zero_one g ((n - 1) * 7) c
      (fun j hj => by
        have h7 : j < 7 := hj
        rw [Heap.cell hh1, ← Array.getElem?_toList, List.getElem?_eq_getElem (by omega)]
        rfl)
      (fun j hj => Heap.frozen hh1 _)
  have hfin : (W1.setCells g ((n - 1) * 7) zl).heap[g]? = some (.cells (cur1.toList.take ((n - 1) * 7) ++ zl ++ cur1.toList.drop ((n - 1) * 7 + zl.length)).toArray 47 (0, 0)) :=
    setCells_heap zl ((n - 1) * 7) W1 cur1 hh1 (by rw [← Array.length_toList]; omega)
  have htake : (cur1.toList.take ((n - 1) * 7) ++ zl ++ cur1.toList.drop ((n - 1) * 7 + zl.length)).take ((n - 1) * 7) = destsCells (ds.eraseIdx i) := by
    rw [List.append_assoc, List.take_append_of_le_length (by rw [List.length_take, hl1]; omega), List.take_take, Nat.min_self, hc1, List.toList_toArray, List.take_append_of_le_length (by simp only [List.length_append, List.length_take, hlc, hnl]; omega),
      List.take_of_length_le (by simp only [List.length_append, List.length_take, hlc, hnl]; omega), List.eraseIdx_eq_take_drop_succ, destsCells_append, ← hnews]
    congr 1
    have : destsCells ds = destsCells (ds.take i) ++ destsCells (ds.drop i) := by rw [← destsCells_append, List.take_append_drop]
    rw [this] at hct
    have h9 : (destsCells (ds.take i)).length = i * 7 := by rw [destsCells_len, List.length_take, Nat.min_eq_left (by omega)]
    have h10 := congrArg (List.take (i * 7)) hct
    rw [List.take_take, Nat.min_eq_left (by omega), ← h9, List.take_left] at h10
    rw [h9] at h10
    exact h10
  have ho2 : Off (Only g) w (W1.setCells g ((n - 1) * 7) zl) := Off.setCells _ _ ho1 (.inl rfl)
  have HF := Lib.hid (And.intro hfin (And.intro htake (And.intro ho2 (And.intro hl1 hz7))))
  have HW := Lib.hid hW1
  have I0 := Lib.hid hi0; have Z0 := Lib.hid hz0; have Z1 := Lib.hid hz1; have Z2 := Lib.hid hz2
  have HEL := Lib.hid (show (ds.eraseIdx i).length = n - 1 by rw [List.length_eraseIdx, ← hn, if_pos hi])
  clear hown hone hg hct hnews hnl hfin htake ho1 ho2 hW1 hh1 hc1 hi0 hz0 hz1 hz2 hl1 hlc hcs hn hz7 hzo hzl
  have hne : ¬ (i = i + 1) := by omega
  have hw1 : IntKind.i64.wrap ((i : Int) + 1) = (i : Int) + 1 := by rw [IntKind.wrap_i64]; omega
  have hnn : i + (n - (i + 1)) = n - 1 := by omega
  have HNN := Lib.hid hnn
  clear hnn
  have hnb : n - 1 ≤ n := Nat.sub_le _ _
  have hnc1 : n - 1 ≤ cap := by omega
  have h4 : i + (n - (i + 1)) ≤ cap := by omega
  have hic : i ≤ cap := by omega
  have hi2 : (i : Int) ≤ (i : Int) + 1 := by omega
  have hi3 : i + 1 ≤ cap := by omega
  have hi4 : (i : Int) + 1 ≤ (cap : Int) := by omega
  have hi5 : (0 : Int) ≤ (i : Int) + 1 := by omega
  have hi6 : (i : Int) + 1 ≤ (n : Int) := by omega
  by_cases hcap : cap = i + 1
  · obtain rfl : n = i + 1 := by omega
    subst hcap
    rw [Nat.add_sub_cancel] at hcl HF HEL ⊢
    rw [Nat.sub_self] at s1
    have s4 : Hid (∀ j u, news[j]? = some u → w.drew.cell? ((⟨g, 0, none⟩ : Addr).add j) = some u) := fun j u hu => by
      have h0 : news = [] := List.eq_nil_of_length_eq_zero s1.out
      rw [h0] at hu
      cases hu
    have hii : i + 0 ≤ i + 1 := by omega
    clear hcell HNN h4
    go_enter Tryz.func91, Tryz.ntmps91
    go_wp2_with fail
    go_region_law (refine step_append_room (by rfl) (.tmp 22) (.tmp 25) 32 (by rfl) 47 i0 7 Tryz.underlying32 I0.out Z1.out g 0 i (i + 1) (by simp [Act.eval, Act.put]) ⟨g, 0, none⟩ 0 0 news (by simp [Act.eval, Act.put]) s1.out s4.out s2.out hii s3.out ?_; rw [← HW.out])
    go_wp2_with (simp only [hcl])
    go_ret
    refine ⟨rfl, ⟨by rw [destsCells_len, HEL.out], .inr ⟨g, i + 1, _, rfl, hbg, HF.out.1, by omega, by unfold maxLen; omega, ?_, HF.out.2.1⟩⟩, HF.out.2.2.1⟩
    rw [List.size_toArray]
    simp only [List.length_append, List.length_take, List.length_drop, HF.out.2.2.2.1, HF.out.2.2.2.2]
    omega
  · have s4 : Hid (∀ j u, news[j]? = some u → w.drew.cell? ((⟨g, (i + 1) * 7, none⟩ : Addr).add j) = some u) := fun j u hu => by rw [Addr.add_lit]; exact hcell j u hu
    clear hcell
    have hn1 : n - (n - 1) = 1 := by omega
    have hcl : ∀ ty, (Builtin.clear_ #[32] ty #[.slice (some ⟨g, (n - 1) * 7, none⟩) (n - (n - 1)) (cap - (n - 1))]).run Tryz.prog W1 = .ok (.tuple #[]) (W1.setCells g ((n - 1) * 7) zl) := fun ty => by rw [hn1]; exact hcl ty _
    clear hn1
    go_enter Tryz.func91, Tryz.ntmps91
    go_wp2_with fail
    go_region_law (refine step_append_room (by rfl) (.tmp 22) (.tmp 25) 32 (by rfl) 47 i0 7 Tryz.underlying32 I0.out Z1.out g 0 i cap (by simp [Act.eval, Act.put]) ⟨g, (i + 1) * 7, none⟩ (n - (i + 1)) (cap - (i + 1)) news (by simp [Act.eval, Act.put]) s1.out s4.out s2.out h4 s3.out ?_; rw [← HW.out])
    rw [HNN.out]
    go_wp2_with (simp only [hcl])
    go_ret
    refine ⟨rfl, ⟨by rw [destsCells_len, HEL.out], .inr ⟨g, cap, _, rfl, hbg, HF.out.1, by omega, by unfold maxLen; omega, ?_, HF.out.2.1⟩⟩, HF.out.2.2.1⟩
    rw [List.size_toArray]
    simp only [List.length_append, List.length_take, List.length_drop, HF.out.2.2.2.1, HF.out.2.2.2.2]
    omega
end Led
end Go.Proofs.YtndgnlblbjpogaaGreatDoor
namespace Go.Proofs.YtndgnlblbjpogaaGreatDoor
open Go Go.RowKit Go.Shelf
def LedgerV.left (l : LedgerV) (i : Nat) : LedgerV := { l with dests := l.dests.eraseIdx i }
def LedgerV.leave (l : LedgerV) (name : ByteArray) : LedgerV := match LedgerV.place l.dests name with
  | some i => l.left i
  | none => l
def LedgerV.leaveErr (l : LedgerV) (name : ByteArray) : Int := if (LedgerV.place l.dests name).isSome then 0 else 5
namespace Led
set_option maxHeartbeats 1000000 in
set_option maxRecDepth 100000 in
theorem leave_any (w : World) (S : Nat → Prop) (lv : Value) (l : LedgerV) (h : LedgerAt w S lv l) (name : ByteArray) :
    Calls Tryz.prog 61 #[lv, .string name] w (Ledged w S (l.leave name) (l.leaveErr name)) := by
  obtain ⟨sv, ds, rfl, hds, hd, hf, hn⟩ := h
  obtain ⟨A, c, hA⟩ := hd.row.form
  obtain ⟨n, hn0⟩ : ∃ n, n = ds.length := ⟨_, rfl⟩
  rw [← hn0] at hA
  subst hA
  obtain ⟨w2, q, hw2, hq, ho2, hb0, hb1, hs2⟩ := two_boxes w #[.int .u64 l.first, .int .u64 l.next, .slice A n c] zLed 34 34
  obtain ⟨p, hp⟩ : ∃ p, p = w.heap.size := ⟨_, rfl⟩
  rw [← hp] at hb0 hq
  have hpq : p ≠ q := by omega
  have HQ := Lib.hid (show w.heap.size ≤ p ∧ w.heap.size ≤ q ∧ q < w2.heap.size ∧ p < w2.heap.size by omega)
  have HB := Lib.hid (And.intro hb0 hb1)
  have HO := Lib.hid ho2
  have HD := Lib.hid (And.intro hd (And.intro hds hn0))
  have hpl := place_any w2 S _ ds (hd.quiet ho2) name
  rw [hds] at hpl
  have HPL := Lib.hid hpl
  have hdn := hd.row.2.1
  rw [← hn0] at hdn
  clear hpl hd hds hn0 ho2 hs2 hb0 hb1
  unfold big at hf hn
  cases hc : LedgerV.place l.dests name with
  | none =>
    have HE := Lib.hid (show l.leaveErr name = 5 by unfold LedgerV.leaveErr; rw [hc]; rfl)
    have HI := Lib.hid (placeI_neg hc)
    clear hc
    go_enter Tryz.func61, Tryz.ntmps61
    go_wp2_with fail
    rw [← hw2, ← hp, ← hq]
    have e2 := Heap.cell HB.out.1 2
    clear hw2 hp hq
    go_wp2_with fail
    refine HPL.out.mono ?_
    rintro e w3 ⟨rfl, ho3⟩
    rw [HI.out]
    have hq3 := ho3.at_ HB.out.2 (fun h => h)
    have HO3 := Lib.hid (HO.out.quiet_trans ho3)
    have HQ3 := Lib.hid hq3
    have z0 := Heap.cell hq3 0
    have z1 := Heap.cell hq3 1
    have z2 := Heap.cell hq3 2
    have y0 := Heap.frozen hq3 0
    have y1 := Heap.frozen hq3 1
    have y2 := Heap.frozen hq3 2
    clear ho3 hq3 e2
    go_wp2_with fail
    refine bodyPost_ret_by (results_row_tmp' rfl _ _ q _ _ _ _ rfl (box3' HQ3.out _ _ _) Tryz.underlying34 rfl infoLed) rfl ⟨_, by rw [HE.out]; rfl, ⟨_, _, _, _, _, rfl⟩, fun h => ?_, off3 HO3.out (.inr HQ.out.2.1) _ _ _⟩
    rw [HE.out] at h; cases h
  | some i =>
    have HE := Lib.hid (show l.leaveErr name = 0 by unfold LedgerV.leaveErr; rw [hc]; rfl)
    have HLV := Lib.hid (show l.leave name = l.left i by unfold LedgerV.leave; rw [hc])
    have HI := Lib.hid (placeI_pos hc)
    have hil := (place_some hc).1
    have hin : i < n := by rw [← HD.out.2.1, List.length_map, ← HD.out.2.2] at hil; exact hil
    have hi0 : (0 : Int) ≤ (i : Int) := by omega
    have hw1 : IntKind.i64.wrap ((i : Int) + 1) = (i : Int) + 1 := by rw [IntKind.wrap_i64]; omega
    have hib : (i : Int) ≤ 1099511627776 := by omega
    clear hc hil
    go_enter Tryz.func61, Tryz.ntmps61
    go_wp2_with fail
    rw [← hw2, ← hp, ← hq]
    have e2 := Heap.cell HB.out.1 2
    clear hw2 hp hq
    go_wp2_with fail
    refine HPL.out.mono ?_
    rintro e w3 ⟨rfl, ho3⟩
    rw [HI.out]
    have HO3 := Lib.hid ho3
    have e2' := ho3.stay e2 (fun h => h)
    clear ho3 e2
    go_wp2_with fail
    refine (clone_any w3 S _ ds ((HD.out.1.quiet HO.out).quiet HO3.out)).mono ?_
    rintro e w4 ⟨v, rfl, hown, ho4⟩
    obtain ⟨g, c4, hv, hgb⟩ : ∃ g c4, v = .slice (some ⟨g, 0, none⟩) n c4 ∧ w3.heap.size ≤ g := by
      rcases hown.2 with ⟨_, h0⟩ | ⟨g, cap, cur, e, hb, _⟩
      · have := HD.out.2.2; omega
      · exact ⟨g, cap, by rw [e, HD.out.2.2], hb⟩
    subst hv
    have hown' : w4.ownsRow w3.heap.size 47 7 (.slice (some ⟨g, 0, none⟩) n c4) n (destsCells ds) := by have h := hown; rw [← HD.out.2.2] at h; exact h
    have ho24 := HO3.out.quiet_trans ho4
    have hp4 := ho24.at_ HB.out.1 (fun h => h)
    have hq4 := ho24.at_ HB.out.2 (fun h => h)
    have HO4 := Lib.hid (And.intro ho24 ho4.size)
    have HP4 := Lib.hid (And.intro hp4 hq4)
    have HDEL := Lib.hid (delete_any w4 w3.heap.size g c4 ds n i HD.out.2.2 hin hown' (oneDest ds w S HD.out.1.each))
    clear hown hown' ho4 ho24 hp4 hq4 e2'
    go_wp2_with fail
    refine HDEL.out.mono ?_
    rintro e w5 ⟨rfl, hown5, ho5⟩
    have hs3 := HO3.out.size
    have hgp : g ≠ p := by have := HQ.out; omega
    have hgq : g ≠ q := by have := HQ.out; omega
    have hp5 := ho5.at_ HP4.out.1 (fun h => hgp h.symm)
    have hq5 := ho5.at_ HP4.out.2 (fun h => hgq h.symm)
    have HOWN := Lib.hid hown5
    have HQ5 := Lib.hid hq5
    have hgs : ∀ b, Only g b → w.heap.size ≤ b := fun b hb => by have e : b = g := hb; have := HQ.out; omega
    have HO5 := Lib.hid (show Off None w w5 from (HO.out.quiet_trans HO4.out.1).trans ho5 (fun b hb h => by have := hgs b h; omega))
    have e0 := Heap.cell hp5 0
    have e1 := Heap.cell hp5 1
    have e2 := Heap.cell hp5 2
    have x2 := Heap.frozen hp5 2
    have z0 := Heap.cell hq5 0
    have z1 := Heap.cell hq5 1
    have z2 := Heap.cell hq5 2
    have y0 := Heap.frozen hq5 0
    have y1 := Heap.frozen hq5 1
    have y2 := Heap.frozen hq5 2
    clear ho5 hown5 hp5 hq5 hgs hw1
    go_wp2_with fail
    have hq8 : (w5.setCell ⟨p, 2, none⟩ (.slice (some ⟨g, 0, none⟩) (n - 1) c4)).heap[q]? = some (.cells zLed 34 (0, 0)) := (Heap.set_far (show q ≠ p by omega) _).trans HQ5.out
    have hel : (ds.eraseIdx i).length = n - 1 := by rw [List.length_eraseIdx, ← HD.out.2.2, if_pos hin]
    refine bodyPost_ret_by (results_row_tmp' rfl _ _ q _ _ _ _ rfl (box3' hq8 _ _ _) Tryz.underlying34 rfl infoLed) rfl ⟨_, by rw [HE.out]; rfl, ⟨_, _, _, _, _, rfl⟩, fun _ => ?_, off3 (HO5.out.setCell (p := ⟨p, 2, none⟩) (.inr HQ.out.1) _) (.inr HQ.out.2.1) _ _ _⟩
    rw [HLV.out]
    refine ⟨.slice (some ⟨g, 0, none⟩) (n - 1) c4, ds.eraseIdx i, rfl, ?_, ?_, hf, hn⟩
    · show (ds.eraseIdx i).map (·.1) = l.dests.eraseIdx i
      rw [← HD.out.2.1, List.eraseIdx_eq_take_drop_succ, List.eraseIdx_eq_take_drop_succ, List.map_append, List.map_take, List.map_drop]
    · refine grown_dests (w2 := w3) (G := fun b => b = p ∨ b = q) (by rw [hel]; omega) (fun x hx => HD.out.1.each x (List.mem_of_mem_eraseIdx hx)) ?_ HO5.out (by have := HQ.out; have := HO3.out.size; have := HO.out.size; omega) (off3 ((Off.refl _ w5).setCell (p := ⟨p, 2, none⟩) (.inl (.inl rfl)) _) (.inl (.inr rfl)) _ _ _) (fun b hb => by have := HQ.out; rcases hb with rfl | rfl <;> omega)
      rw [hel]
      exact HOWN.out
end Led
end Go.Proofs.YtndgnlblbjpogaaGreatDoor
