/- The walk of Open of a log, on a disk that has segments. -/
import Derived.Test.YtnppdcegpojmbaaGreatDoorFirsts
import Derived.Test.YtnppdcegpojmbaaGreatDoorPlain7
namespace Go.Proofs.YtnppdcegpojmbaaGreatDoor
open Go Go.RowKit Go.Shelf Go.Sort
/-- One segment: what is read of it, and whether there is more; the disk and the error behind it. -/
def openOne (D : DiskV) (u : Nat) (next : Option Nat) : DiskV × Int × SegV :=
  if (D.read (Seg.nameB u)).2 ≠ 0 then (D, (D.read (Seg.nameB u)).2, ⟨u, 0, 0⟩)
  else
    let s := (D.read (Seg.nameB u)).1
    let x := scanSeg u s.data.toList
    match next with
    | some v => if x.size < s.size ∨ x.end_ ≠ v then (D, 2, x) else (D, 0, x)
    | none =>
      if x.size < s.size then
        if (D.cut (Seg.nameB u) x.size).2 ≠ 0 then ((D.cut (Seg.nameB u) x.size).1, (D.cut (Seg.nameB u) x.size).2, x)
        else ((((D.cut (Seg.nameB u) x.size).1).sync (Seg.nameB u)).1, (((D.cut (Seg.nameB u) x.size).1).sync (Seg.nameB u)).2, x)
      else ((D.sync (Seg.nameB u)).1, (D.sync (Seg.nameB u)).2, x)
/-- What Open does with the segments that a disk has. -/
def openGo (D : DiskV) (acc : List SegV) : List Nat → DiskV × Int × List SegV
  | [] => (D, 0, acc)
  | u :: r => if (openOne D u r.head?).2.1 ≠ 0 then ((openOne D u r.head?).1, (openOne D u r.head?).2.1, acc) else openGo (openOne D u r.head?).1 (acc ++ [(openOne D u r.head?).2.2]) r
theorem scanSeg_le (u : Nat) (t : ByteArray) : (scanSeg u t.data.toList).many ≤ t.size ∧ (scanSeg u t.data.toList).size ≤ t.size := by
  have h1 := Frame.sizes_le t.size t.data.toList (by show t.data.toList.length ≤ _; simp)
  have h2 := fitL_take (Frame.scanL t.data.toList) u
  have h3 := sizes_take_le (Frame.scanL t.data.toList) (fitL u (Frame.scanL t.data.toList)).length
  have h4 : t.data.toList.length = t.size := by simp
  rw [← h2.1] at h3
  exact ⟨by show (fitL u (Frame.scanL t.data.toList)).length ≤ _; omega, by show Frame.sizes (fitL u (Frame.scanL t.data.toList)) ≤ _; omega⟩
structure OpenI (w w1 wr : World) (d lg gu : Nat) (F : Nat → Prop) (D : DiskV) (acc : List SegV) (dur : SegV) (sv : Value) (Fd : Nat → Prop) : Prop where
  disk : DiskIn wr d D Fd
  foot : ∀ b, Fd b → (F b ∧ b < w.heap.size) ∨ (w.heap.size ≤ b ∧ b < wr.heap.size)
  pre : PreAt wr lg d acc dur sv
  sepL : ¬ Fd lg
  sepG : ∀ k, sv.ownBlock = some k → ¬ Fd k ∧ k ≠ gu ∧ w.heap.size ≤ k
  us : wr.heap[gu]? = w1.heap[gu]?
  sepU : ¬ Fd gu
  size : w1.heap.size ≤ wr.heap.size
  off : Off F w wr
namespace OpenI
variable {w w1 wr w' : World} {d lg gu : Nat} {F : Nat → Prop} {D D' : DiskV} {acc : List SegV} {dur : SegV} {sv : Value} {Fd : Nat → Prop}
theorem quiet (h : OpenI w w1 wr d lg gu F D acc dur sv Fd) (hu : gu < w1.heap.size) (ho : Off None wr w') : OpenI w w1 w' d lg gu F D acc dur sv Fd :=
  ⟨h.disk.off ho (fun _ _ _ h => h), fun b hb => (h.foot b hb).imp id (fun x => ⟨x.1, Nat.lt_of_lt_of_le x.2 ho.size⟩), h.pre.off ho (fun h => h) (fun _ _ h => h), h.sepL, h.sepG,
   (ho.block gu (Nat.lt_of_lt_of_le hu h.size) (fun h => h)).trans h.us, h.sepU, Nat.le_trans h.size ho.size, h.off.trans ho (fun _ _ h => h.elim)⟩
theorem turned (h : OpenI w w1 wr d lg gu F D acc dur sv Fd) (hu : gu < w1.heap.size) (hd : DiskIn w' d D' (Grow Fd wr w')) (ho : Off Fd wr w') : OpenI w w1 w' d lg gu F D' acc dur sv (Grow Fd wr w') := by
  have hl := Heap.lt h.pre.core
  have hg : ∀ k, sv.ownBlock = some k → k < wr.heap.size := fun k hk => row_lt h.pre.row hk
  have hs := h.off.size
  have hs1 := h.size
  refine ⟨hd, fun b hb => ?_, h.pre.off ho h.sepL (fun k hk => (h.sepG k hk).1), fun hb => hb.elim h.sepL (fun x => by omega), fun k hk => ⟨fun hb => hb.elim (h.sepG k hk).1 (fun x => by have := hg k hk; omega), (h.sepG k hk).2⟩,
    (ho.block gu (Nat.lt_of_lt_of_le hu h.size) h.sepU).trans h.us, fun hb => hb.elim h.sepU (fun x => by omega), Nat.le_trans h.size ho.size, h.off.trans ho (fun b hb x => ?_)⟩
  · rcases hb with hb | hb
    · exact (h.foot b hb).imp id (fun x => ⟨x.1, Nat.lt_of_lt_of_le x.2 ho.size⟩)
    · exact .inr ⟨by omega, hb.2⟩
  · rcases h.foot b x with y | y
    · exact y.1
    · omega
theorem pushed {g cap : Nat} {w7 : World} {x : SegV} (h : OpenI w w1 wr d lg gu F D acc dur sv Fd) (hu : gu < w1.heap.size) (hlw : w.heap.size ≤ lg) (hgl : gu ≠ lg)
    (hrow : w7.ownsRow 0 42 3 (.slice (some ⟨g, 0, none⟩) (acc.length + 1) cap) (acc.length + 1) (acc.flatMap segCells ++ [.int .u64 x.first, .int .i64 x.many, .int .i64 x.size])) (hp : Pushed wr.drew w7 sv g) :
    OpenI w w1 (w7.setCell ⟨lg, 1, none⟩ (.slice (some ⟨g, 0, none⟩) (acc.length + 1) cap)) d lg gu F D (acc ++ [x]) dur (.slice (some ⟨g, 0, none⟩) (acc.length + 1) cap) Fd := by
  have hl := Heap.lt h.pre.core
  have hsz : wr.heap.size ≤ w7.heap.size := hp.off.size
  have hs := h.off.size
  have hs1 := h.size
  have hfrom : sv.ownBlock = some g ∨ wr.heap.size < g := hp.from_
  have hlg7 := hp.keep _ _ h.pre.core h.pre.ne
  have hgne : g ≠ lg := by
    rcases hfrom with e | e
    · intro e2; exact h.pre.ne (by rw [e, e2])
    · omega
  have ho : Off (fun b => b = lg ∨ sv.ownBlock = some b) wr (w7.setCell ⟨lg, 1, none⟩ (.slice (some ⟨g, 0, none⟩) (acc.length + 1) cap)) :=
    ((((Off.refl _ wr).drew).trans hp.off (fun _ _ h => h)).mono (fun _ _ h => .inr h)).setCell (p := ⟨lg, 1, none⟩) (.inl (.inl rfl)) _
  have hnot : ∀ b, b < wr.heap.size → Fd b → ¬ (b = lg ∨ sv.ownBlock = some b) := fun b _ hb e => e.elim (fun e => h.sepL (e ▸ hb)) (fun e => (h.sepG b e).1 hb)
  refine ⟨h.disk.off ho hnot, fun b hb => (h.foot b hb).imp id (fun x => ⟨x.1, Nat.lt_of_lt_of_le x.2 ho.size⟩), ⟨?_, ?_, fun e => hgne (by cases e; rfl)⟩, h.sepL, fun k hk => ?_, ?_, h.sepU, Nat.le_trans h.size ho.size, ?_⟩
  · exact (Heap.set hlg7 1 _).trans rfl
  · have h2 := ((Off.refl (Only lg) w7).set 1 (.slice (some ⟨g, 0, none⟩) (acc.length + 1) cap)).row hrow (fun k hk e => by cases hk; exact hgne e)
    rw [List.flatMap_append, List.length_append]
    exact h2
  · obtain rfl : g = k := by cases hk; rfl
    rcases hfrom with e | e
    · exact h.sepG g e
    · refine ⟨fun hb => ?_, by omega, by omega⟩
      rcases h.foot g hb with y | y <;> omega
  · rw [ho.block gu (Nat.lt_of_lt_of_le hu h.size) (fun e => e.elim hgl (fun e => (h.sepG gu e).2.1 rfl)), h.us]
  · exact h.off.trans ho (fun b hb e => by
      rcases e with e | e
      · omega
      · have := (h.sepG b e).2.2; omega)
theorem setDur (h : OpenI w w1 wr d lg gu F D acc dur sv Fd) (hu : gu < w1.heap.size) (hlw : w.heap.size ≤ lg) (hgl : gu ≠ lg) (x : SegV) :
    OpenI w w1 (((wr.setCell ⟨lg, 2, none⟩ (.int .u64 x.first)).setCell ⟨lg, 3, none⟩ (.int .i64 x.many)).setCell ⟨lg, 4, none⟩ (.int .i64 x.size)) d lg gu F D acc x sv Fd := by
  have ho : Off (Only lg) wr (((wr.setCell ⟨lg, 2, none⟩ (.int .u64 x.first)).setCell ⟨lg, 3, none⟩ (.int .i64 x.many)).setCell ⟨lg, 4, none⟩ (.int .i64 x.size)) := (((Off.refl (Only lg) wr).set 2 _).set 3 _).set 4 _
  refine ⟨h.disk.off ho (fun b _ hb e => h.sepL (show Fd lg from (show b = lg from e) ▸ hb)), fun b hb => (h.foot b hb).imp id (fun y => ⟨y.1, Nat.lt_of_lt_of_le y.2 ho.size⟩), h.pre.setDur x, h.sepL, h.sepG, ?_, h.sepU, Nat.le_trans h.size ho.size, h.off.trans ho (fun b hb e => by have e : b = lg := e; omega)⟩
  rw [ho.block gu (Nat.lt_of_lt_of_le hu h.size) hgl, h.us]
end OpenI
/-- What Open answers and leaves. -/
def OpenPost (res : DiskV × Int × List SegV) (w : World) (d : Nat) (F : Nat → Prop) (e : Ending) (w' : World) : Prop :=
  (∃ p, e = .returned (.tuple #[p, .int .i64 res.2.1]) ∧ (res.2.1 ≠ 0 → p = .pointer none) ∧
    (res.2.1 = 0 → ∃ lg xs a, p = .pointer (some ⟨lg, 0, none⟩) ∧ w.heap.size ≤ lg ∧ res.2.2 = xs ++ [a] ∧ Store w' lg d ⟨xs, a, a⟩ res.1 (Grow F w w') 0)) ∧ DiskIn w' d res.1 (Grow F w w') ∧ Off F w w'
theorem OpenI.grow {w w1 wr : World} {d lg gu : Nat} {F : Nat → Prop} {D : DiskV} {acc : List SegV} {dur : SegV} {sv : Value} {Fd : Nat → Prop} (h : OpenI w w1 wr d lg gu F D acc dur sv Fd) : DiskIn wr d D (Grow F w wr) :=
  h.disk.mono (fun b _ hb => (h.foot b hb).imp (fun x => x.1) (fun x => x))
theorem post_err {w w1 wr : World} {d lg gu : Nat} {F : Nat → Prop} {D : DiskV} {acc acc2 : List SegV} {dur : SegV} {sv : Value} {Fd : Nat → Prop} {er : Int} {res : DiskV × Int × List SegV} (h : OpenI w w1 wr d lg gu F D acc dur sv Fd)
    (hr : res = (D, er, acc2)) (he : er ≠ 0) : OpenPost res w d F (.returned (.tuple #[.pointer none, .int .i64 er])) wr := by
  subst hr
  exact ⟨⟨_, rfl, fun _ => rfl, fun h0 => absurd h0 he⟩, h.grow, h.off⟩
theorem post_ok {w w1 wr : World} {d lg gu : Nat} {F : Nat → Prop} {D : DiskV} {acc xs : List SegV} {dur : SegV} {sv : Value} {Fd : Nat → Prop} {res : DiskV × Int × List SegV} (h : OpenI w w1 wr d lg gu F D acc dur sv Fd)
    (hr : res = (D, 0, acc)) (ha : acc = xs ++ [dur]) (hl : w.heap.size ≤ lg) : OpenPost res w d F (.returned (.tuple #[.pointer (some ⟨lg, 0, none⟩), .int .i64 0])) wr := by
  subst hr
  subst ha
  refine ⟨⟨_, rfl, fun h0 => absurd rfl h0, fun _ => ⟨lg, xs, dur, rfl, hl, rfl, ?_⟩⟩, h.grow, h.off⟩
  have hrow := h.pre.row
  have hlen : (xs ++ [dur]).length = xs.length + 1 := by simp
  have hsg := h.sepG
  have hpre := h.pre
  obtain ⟨_, ⟨_, h0⟩ | ⟨g, cap, cur, rfl, _⟩⟩ := hrow
  · exact absurd h0 (by omega)
  · rw [hlen] at hpre
    have hg := hsg g rfl
    have hgl : g < wr.heap.size := row_lt h.pre.row rfl
    exact ⟨g, cap, Fd, hpre.log, h.disk, h.sepL, hg.1, .inr ⟨hl, Heap.lt h.pre.core⟩, .inr ⟨hg.2.2, hgl⟩, fun b hb => (h.foot b hb).imp (fun x => x.1) id⟩
namespace Seg
theorem u64_row {w : World} {base n : Nat} {v : Value} {l : List Nat} (hp : l ≠ []) (h : w.ownsRow base 31 1 v n (l.map encU)) :
    ∃ g c, v = .slice (some ⟨g, 0, none⟩) l.length c ∧ base ≤ g ∧ g < w.heap.size ∧ (l.length : Int) ≤ 9223372036854775807 ∧ ∀ (W : World), W.heap[g]? = w.heap[g]? → ∀ k (hk : k < l.length), W.cell? ⟨g, k, none⟩ = some (.int .u64 l[k]) := by
  obtain ⟨hl, ⟨rfl, h0⟩ | ⟨g, cap, cur, rfl, hg, hb, hle, hmx, hsz, ht⟩⟩ := h
  · rw [List.length_map] at hl
    exact absurd (List.eq_nil_of_length_eq_zero (by omega)) hp
  · have hmx2 : cap ≤ 2 ^ 63 - 1 := hmx
    rw [List.length_map] at hl
    refine ⟨g, cap, by rw [show l.length = n by omega], hg, Heap.lt hb, by omega, fun W hW k hk => ?_⟩
    rw [Heap.cell (hW.trans hb), ← Array.getElem?_toList, ← List.getElem?_take_of_lt (j := n * 1) (by omega), ht, List.getElem?_map, List.getElem?_eq_getElem hk]
    rfl
set_option maxHeartbeats 2000000 in
set_option maxRecDepth 100000 in
theorem open_any (w : World) (d n N : Nat) (D : DiskV) (F : Nat → Prop) (h : DiskIn w d D F) (hu : D.firsts ≠ []) (hnm : ∀ s ∈ D.list, NameOk s) (hub : ∀ u ∈ D.firsts, u ≤ 1000000000000) (hG : Glob n w) (hFn : ∀ b, F b → n ≤ b) (hl : Lim N D) (hN : N + 1 ≤ 1000000) :
    Calls Tryz.prog 12 #[.pointer (some ⟨d, 0, none⟩)] w fun e w' =>
      OpenPost (openGo D [] D.firsts) w d F e w' := by
  have HD := Lib.hid h; clear h
  have HGL := Lib.hid hG; clear hG
  have HL := Lib.hid hl; clear hl
  have HUB := Lib.hid hub; clear hub
  have HFN := Lib.hid hFn; clear hFn
  obtain ⟨us, hus⟩ : ∃ us, us = D.firsts := ⟨_, rfl⟩
  have hlu : us.length ≤ 1000000 := by
    rw [hus]; unfold DiskV.firsts
    refine Nat.le_trans (List.length_filterMap_le _ _) ?_
    unfold DiskV.list; rw [List.length_mergeSort, List.length_map]
    exact Nat.le_trans HL.out.names (by omega)
  rw [← hus] at HUB hu ⊢
  obtain ⟨res, hres⟩ : ∃ res, res = openGo D [] us := ⟨_, rfl⟩
  rw [← hres]
  have HRES := Lib.hid hres; clear hres
  have HUS := Lib.hid hus; clear hus
  go_enter Tryz.func12, Tryz.ntmps12
  go_wp2_with fail
  obtain ⟨w0, hw0⟩ : ∃ w0, w0 = w.alloc (.cells #[.pointer (some ⟨d, 0, none⟩), .slice none 0 0, .int .u64 0, .int .i64 0, .int .i64 0] 84) := ⟨_, rfl⟩
  obtain ⟨lg, hlg⟩ : ∃ lg, lg = w.heap.size := ⟨_, rfl⟩
  rw [← hw0]
  have ho0 : Off None w w0 := by rw [hw0]; exact (Off.refl None w).alloc _
  have hcore : w0.heap[lg]? = some (.cells (logCells d (.slice none 0 0) emptyLog) 84 (0, 0)) := by rw [hw0, hlg]; exact Heap.alloc_new w _
  have hd0 : DiskIn w0 d D (fun b => F b ∧ b < w.heap.size) := (HD.out.mono (fun b hb h => ⟨h, hb⟩) : DiskIn w d D (fun b => F b ∧ b < w.heap.size)).off ho0 (fun _ _ _ h => h)
  have hpre : PreAt w0 lg d [] emptyLog (.slice none 0 0) := ⟨hcore, World.ownsRow_nil _ _ _ _, fun e => by cases e⟩
  clear hw0 hcore
  rw [← hlg]
  refine (firsts_any w0 d D _ hd0 (Nat.le_trans HL.out.names (by omega)) hnm).mono ?_
  rintro e w1 ⟨v, rfl, hrow, ho1⟩
  rw [← HUS.out] at hrow
  obtain ⟨gu, cu, rfl, hgu1, hgu2, hul, hucell⟩ := u64_row hu hrow
  have HUC := Lib.hid hucell
  have hs0 := ho0.size
  have hs1 := ho1.size
  have hl0 := Heap.lt hpre.core
  have hI : OpenI w w1 w1 d lg gu F D [] emptyLog (.slice none 0 0) (fun b => F b ∧ b < w.heap.size) :=
    ⟨hd0.off ho1 (fun _ _ _ h => h), fun b hb => .inl hb, hpre.off ho1 (fun h => h) (fun _ _ h => h), fun hb => by omega, (fun k hk => by cases hk), rfl, fun hb => by omega, Nat.le_refl _, (ho0.trans ho1 (fun _ _ h => h)).mono (fun _ _ h => h.elim)⟩
  have HI := Lib.hid hI
  have hlw : w.heap.size ≤ lg := by omega
  have hgl : gu ≠ lg := by omega
  have HLG := Lib.hid hlg
  have hupos : 0 < us.length := List.length_pos_iff.2 hu
  clear hI hd0 hpre ho0 ho1 hrow hucell hs0 hs1 hl0 hlg HD hnm
  have hu0 : ¬ ((us.length : Int) = 0) := by omega
  have hu0b : ((us.length : Int) == 0) = false := beq_eq_false_iff_ne.2 hu0
  go_wp2_with fail
  go_loopw [30] (fun i wr => ∃ (k : Nat) (D1 : DiskV) (acc : List SegV) (dur : SegV) (sv : Value) (Fd : Nat → Prop), k ≤ us.length ∧ i = .int .i64 k ∧ OpenI w w1 wr d lg gu F D1 acc dur sv Fd ∧ acc.length = k ∧ res = openGo D1 acc (us.drop k) ∧ (k < us.length → Lim N D1) ∧ (0 < k → ∃ xs, acc = xs ++ [dur])) (fun i _ => us.length - (intOf i).toNat)
  case atStart => exact ⟨0, D, [], emptyLog, .slice none 0 0, _, Nat.zero_le _, rfl, HI.out, rfl, by rw [List.drop_zero]; exact HRES.out, fun _ => HL.out, fun h => absurd h (by omega)⟩
  case round =>
    obtain ⟨k, D1, acc, dur, sv, Fd, hk, rfl, hi, hal, hres, hlim, hlast⟩ := hrel
    have HII := Lib.hid hi; clear hi HI
    have HR1 := Lib.hid hres; clear hres HRES
    have HLM := Lib.hid hlim; clear hlim
    have HLA := Lib.hid hlast; clear hlast
    have HAL := Lib.hid hal; clear hal
    by_cases hlt : k < us.length
    · have hdrop : us.drop k = us[k] :: us.drop (k + 1) := List.drop_eq_getElem_cons hlt
      have hub1 := HUB.out _ (List.getElem_mem hlt)
      have hc0 := HUC.out wr HII.out.us k hlt
      obtain ⟨u, hue⟩ : ∃ u, u = us[k] := ⟨_, rfl⟩
      rw [← hue] at hdrop hub1 hc0
      have HDR := Lib.hid hdrop; clear hdrop hue
      have hi0 : (0 : Int) ≤ (k : Int) := by omega
      have hi1 : (k : Int) < (us.length : Int) := by omega
      go_wp2_with fail
      refine (name_any wr u (by omega) (HGL.out.off HII.out.off HFN.out).pow).mono ?_
      rintro e w2 ⟨rfl, ho2⟩
      have HI2 := Lib.hid (HII.out.quiet hgu2 ho2); clear ho2 hc0
      obtain ⟨R, hda, _⟩ := HI2.out.disk
      have hrd := DiskW.read_any w2 d D1 R hda (nameB u) (by rw [nameB_size (by omega)]; decide)
      clear hda
      obtain ⟨t, er, hte⟩ : ∃ t er, D1.read (nameB u) = (t, er) := ⟨_, _, rfl⟩
      rw [hte] at hrd
      have hts := read_size (HLM.out hlt) (nameB u)
      rw [hte] at hts
      have hN0 := (HLM.out hlt).le
      have htb : t.size ≤ 3000000000 := Nat.le_trans hts (by omega)
      have HRD := Lib.hid hrd; clear hrd hts
      have HTE := Lib.hid hte; clear hte
      go_wp2_with fail
      refine HRD.out.mono ?_
      rintro e w3 ⟨rfl, rfl⟩
      have hone : openGo D1 acc (us.drop k) = (if (openOne D1 u (us.drop (k + 1)).head?).2.1 ≠ 0 then ((openOne D1 u (us.drop (k + 1)).head?).1, (openOne D1 u (us.drop (k + 1)).head?).2.1, acc) else openGo (openOne D1 u (us.drop (k + 1)).head?).1 (acc ++ [(openOne D1 u (us.drop (k + 1)).head?).2.2]) (us.drop (k + 1))) := by rw [HDR.out]; rfl
      have HONE := Lib.hid hone; clear hone HRD HII
      by_cases hee : er = 0
      · subst hee
        obtain ⟨x, hx⟩ : ∃ x, x = scanSeg u t.data.toList := ⟨_, rfl⟩
        have hsc := scan_any w2 u t (by omega) (by omega) (HGL.out.off HI2.out.off HFN.out).crc
        rw [← hx] at hsc
        have hxf : x.first = u := by rw [hx]; rfl
        have hxs : x.many ≤ t.size ∧ x.size ≤ t.size := by rw [hx]; exact scanSeg_le u t
        obtain ⟨m, hm⟩ : ∃ m, m = x.many := ⟨_, rfl⟩
        obtain ⟨z, hz⟩ : ∃ z, z = x.size := ⟨_, rfl⟩
        have hagg : segAgg x = .agg #[.int .u64 u, .int .i64 m, .int .i64 z] := by unfold segAgg; rw [hxf, ← hm, ← hz]
        rw [hagg, ← hz] at hsc
        obtain ⟨bm, hbm⟩ : ∃ bm, bm = decide (z < t.size) := ⟨_, rfl⟩
        rw [← hbm] at hsc
        have HBM := Lib.hid hbm; clear hbm
        rw [← hm, ← hz] at hxs
        have HX := Lib.hid hx
        have HXE := Lib.hid (show x = ⟨u, m, z⟩ by rw [← hxf, hm, hz])
        have HSC := Lib.hid hsc
        clear hx hm hz hagg hsc hxf
        go_wp2_with fail
        refine HSC.out.mono ?_
        rintro e w4 ⟨rfl, ho4⟩
        have HI4 := Lib.hid (HI2.out.quiet hgu2 ho4); clear ho4 HSC HI2
        go_wp2_with fail
        obtain ⟨bx, hbxe⟩ : ∃ bx, bx = w4.heap.size := ⟨_, rfl⟩
        obtain ⟨w5, hw5⟩ : ∃ w5, w5 = w4.alloc (.cells #[.int .u64 u, .int .i64 m, .int .i64 z] 42) := ⟨_, rfl⟩
        have ho5 : Off None w4 w5 := by rw [hw5]; exact (Off.refl None w4).alloc _
        have hb5 : w5.heap[bx]? = some (.cells #[.int .u64 u, .int .i64 m, .int .i64 z] 42 (0, 0)) := by rw [hw5, hbxe]; exact Heap.alloc_new w4 _
        have hbl : bx ≠ lg := by have := Heap.lt HI4.out.pre.core; omega
        have hbs : sv.ownBlock ≠ some bx := fun e => by have := row_lt HI4.out.pre.row e; omega
        have hbf : ¬ Fd bx := fun e => by have := HI4.out.foot bx e; have := HI4.out.off.size; omega
        have HBS := Lib.hid hbs
        have HBF := Lib.hid hbf
        have HI5 := Lib.hid (HI4.out.quiet hgu2 ho5)
        have HB5 := Lib.hid hb5
        rw [← hw5, ← hbxe]
        clear ho5 hb5 hw5 hbxe hbs hbf HI4
        obtain ⟨E, hE⟩ : ∃ E, E = u + m := ⟨_, rfl⟩
        have hok : (⟨u, m, z⟩ : SegV).Ok := ⟨by show u + m < _; omega, by show m ≤ _; omega, by show z ≤ _; omega⟩
        have hcE : ∀ (W : World), Calls Tryz.prog 46 #[.agg #[.int .u64 u, .int .i64 m, .int .i64 z]] W fun e w' => e = .returned (.int .u64 E) ∧ Off None W w' := by
          intro W
          have := end_any W ⟨u, m, z⟩ hok
          rw [hE]
          exact this
        have cE : ∀ dd os, Calls Tryz.prog 46 #[.agg #[.int .u64 u, .int .i64 m, .int .i64 z]] (grow (redrawn w5 dd) os) fun e w'' => e = .returned (.int .u64 E) ∧ ∃ p : Regrown, w'' = grow (redrawn w5 p.d) p.os := fun dd os => Calls.quietly (hcE _)
        have HEE := Lib.hid hE
        clear hcE hok hE
        have k0 := cell_regrown (show w5.cell? ⟨bx, 0, none⟩ = some (.int .u64 u) from Heap.cell HB5.out 0)
        have k1 := cell_regrown (show w5.cell? ⟨bx, 1, none⟩ = some (.int .i64 m) from Heap.cell HB5.out 1)
        have k2 := cell_regrown (show w5.cell? ⟨bx, 2, none⟩ = some (.int .i64 z) from Heap.cell HB5.out 2)
        have v1 : IntKind.i64.wrap ((k : Int) + 1) = (k : Int) + 1 := IntWalk.i64_in _ (by omega)
        by_cases hnl : k + 1 < us.length
        · have hhd : (us.drop (k + 1)).head? = some (us[k + 1]'hnl) := by rw [List.head?_drop, List.getElem?_eq_getElem hnl]
          have hc1 := HUC.out w5 HI5.out.us (k + 1) hnl
          obtain ⟨v, hve⟩ : ∃ v, v = us[k + 1]'hnl := ⟨_, rfl⟩
          rw [← hve] at hhd hc1
          have HHD := Lib.hid hhd
          have k3 := cell_regrown hc1
          have v2 : decide (k + 1 < us.length) = true := by rw [decide_eq_true_eq]; exact hnl
          have v3 : decide ((k : Int) + 1 < (us.length : Int)) = true := by rw [decide_eq_true_eq]; omega
          have v4 : (0 : Int) ≤ (k : Int) + 1 := by omega
          have v5 : ((k : Int) + 1).toNat = k + 1 := by omega
          have v6 : (k : Int) + 1 < (us.length : Int) := by omega
          clear hve hhd hc1
          by_cases hmore : z < t.size
          · obtain rfl : bm = true := by rw [HBM.out, decide_eq_true_eq]; exact hmore
            refine wp_region_quiet_below (by kernel_rfl) (by kernel_rfl) ?_
            repeat (go_big_quiet_step (first | exact cE _ _))
            refine wpQuiet_nil ?_
            intro w6 hw'
            have ho6 : Off None w5 w6 := by
              obtain ⟨⟨dq, osq⟩, rfl⟩ := hw'
              exact Off.of_below (below_regrown w5 dq osq)
            have HI6 := Lib.hid (HI5.out.quiet hgu2 ho6)
            have HB6 := Lib.hid (ho6.at_ HB5.out (fun h => h))
            clear hw' ho6 cE HI5 HB5 k0 k1 k2
            clear v1 v2 v3 v4 v5 v6 k3
            have hres2 : res = (D1, 2, acc) := by
              have hon : openOne D1 u (us.drop (k + 1)).head? = (D1, 2, ⟨u, m, z⟩) := by
                unfold openOne
                rw [HTE.out, HHD.out]
                dsimp only
                rw [if_neg (by simp), ← HX.out, HXE.out, if_pos (.inl hmore)]
              rw [HR1.out, HONE.out, hon]
              dsimp only
              rw [if_pos (by decide)]
            have HRS := Lib.hid hres2; clear hres2
            go_wp2_with fail
            go_ret2
            exact post_err HI6.out HRS.out (by decide)
          · by_cases hEv : E = v
            · obtain rfl : bm = false := by rw [HBM.out, decide_eq_false_iff_not]; exact hmore
              subst hEv
              refine wp_region_quiet_below (by kernel_rfl) (by kernel_rfl) ?_
              repeat (go_big_quiet_step (first | exact cE _ _))
              refine wpQuiet_nil ?_
              intro w6 hw'
              have ho6 : Off None w5 w6 := by
                obtain ⟨⟨dq, osq⟩, rfl⟩ := hw'
                exact Off.of_below (below_regrown w5 dq osq)
              have HI6 := Lib.hid (HI5.out.quiet hgu2 ho6)
              have HB6 := Lib.hid (ho6.at_ HB5.out (fun h => h))
              clear hw' ho6 cE HI5 HB5 k0 k1 k2
              clear v1 v2 v3 v4 v5 v6 k3
              have hres2 : res = openGo D1 (acc ++ [⟨u, m, z⟩]) (us.drop (k + 1)) := by
                have hon : openOne D1 u (us.drop (k + 1)).head? = (D1, 0, ⟨u, m, z⟩) := by
                  unfold openOne
                  rw [HTE.out, HHD.out]
                  dsimp only
                  rw [if_neg (by simp), ← HX.out, HXE.out, if_neg (by rw [HEE.out]; exact fun h => h.elim hmore (fun h => h rfl))]
                rw [HR1.out, HONE.out, hon]
                dsimp only
                rw [if_neg (by simp)]
              have HRS := Lib.hid hres2; clear hres2
              go_wp2_with fail
              have q1 : w6.cell? ⟨lg, 1, none⟩ = some sv := Heap.cell HI6.out.pre.core 1
              have b0 : w6.cell? ⟨bx, 0, none⟩ = some (.int .u64 u) := Heap.cell HB6.out 0
              have b1 : w6.cell? ⟨bx, 1, none⟩ = some (.int .i64 m) := Heap.cell HB6.out 1
              have b2 : w6.cell? ⟨bx, 2, none⟩ = some (.int .i64 z) := Heap.cell HB6.out 2
              have qa : (w6.alloc (.cells #[.int .u64 u, .int .i64 m, .int .i64 z] 42)).cell? ⟨lg, 1, none⟩ = some sv := Heap.cell (Heap.alloc_old HI6.out.pre.core _) 1
              have HR := Lib.hid HI6.out.pre.row
              have hlz : lg < w6.heap.size := Heap.lt HI6.out.pre.core
              have hal : acc.length ≤ 1000000 := by have := HAL.out; omega
              have hbsv : sv.ownBlock ≠ some bx := HBS.out
              go_wp2_with fail
              go_region_law ((refine step_push (W := w6.drew) (by rfl) _ _ (by rfl) elemSeg 0 sv acc.length (acc.flatMap segCells) (by rfl) HR.out #[.int .u64 u, .int .i64 m, .int .i64 z] (by rfl) rfl (by intro u hu; simp at hu; rcases hu with rfl | rfl | rfl <;> rfl) (by omega) (Nat.zero_le _) ?_; intro g cap w9 hrow9 hp9; have c9 : w9.cell? ⟨lg, 1, none⟩ = some sv := Heap.cell (hp9.keep _ _ HI6.out.pre.core HI6.out.pre.ne) 1; have f9 : w9.frozen? ⟨lg, 1, none⟩ = false := Heap.frozen (hp9.keep _ _ HI6.out.pre.core HI6.out.pre.ne) 1))
              all_goals
                have hI9 := HI6.out.pushed (x := ⟨u, m, z⟩) hgu2 hlw hgl hrow9 hp9
                have hb9 := hp9.keep _ _ HB6.out hbsv
                have hb10 : (w9.setCell ⟨lg, 1, none⟩ (.slice (some ⟨g, 0, none⟩) (acc.length + 1) cap)).heap[bx]? = some (.cells #[.int .u64 u, .int .i64 m, .int .i64 z] 42 (0, 0)) := (Heap.set_far hbl _).trans hb9
                obtain ⟨w10, hw10⟩ : ∃ w10, w10 = w9.setCell ⟨lg, 1, none⟩ (.slice (some ⟨g, 0, none⟩) (acc.length + 1) cap) := ⟨_, rfl⟩
                rw [← hw10] at hI9 hb10 ⊢
                have HI9 := Lib.hid hI9
                clear hw10 hI9 hb9 hrow9 hp9 c9 f9 q1 b0 b1 b2 qa
                have b0 : w10.cell? ⟨bx, 0, none⟩ = some (.int .u64 u) := Heap.cell hb10 0
                have b1 : w10.cell? ⟨bx, 1, none⟩ = some (.int .i64 m) := Heap.cell hb10 1
                have b2 : w10.cell? ⟨bx, 2, none⟩ = some (.int .i64 z) := Heap.cell hb10 2
                have q2 : w10.cell? ⟨lg, 2, none⟩ = some (.int .u64 dur.first) := Heap.cell HI9.out.pre.core 2
                have q3 : w10.cell? ⟨lg, 3, none⟩ = some (.int .i64 dur.many) := Heap.cell HI9.out.pre.core 3
                have q4 : w10.cell? ⟨lg, 4, none⟩ = some (.int .i64 dur.size) := Heap.cell HI9.out.pre.core 4
                have f2 : w10.frozen? ⟨lg, 2, none⟩ = false := Heap.frozen HI9.out.pre.core 2
                have f3 : w10.frozen? ⟨lg, 3, none⟩ = false := Heap.frozen HI9.out.pre.core 3
                have f4 : w10.frozen? ⟨lg, 4, none⟩ = false := Heap.frozen HI9.out.pre.core 4
                have hlz2 : lg < w10.heap.size := Heap.lt HI9.out.pre.core
                clear hb10
                go_wp2_with fail
                case roundEnd => exact ⟨⟨k + 1, D1, acc ++ [⟨u, m, z⟩], ⟨u, m, z⟩, _, _, hlt, by push_cast; rfl, HI9.out.setDur hgu2 hlw hgl ⟨u, m, z⟩, by rw [List.length_append, HAL.out]; rfl, HRS.out, fun _ => HLM.out hlt, fun _ => ⟨acc, rfl⟩⟩, by simp [intOf]; omega⟩
            · obtain rfl : bm = false := by rw [HBM.out, decide_eq_false_iff_not]; exact hmore
              have v8 : ((E : Int) != (v : Int)) = true := by rw [bne_iff_ne]; omega
              refine wp_region_quiet_below (by kernel_rfl) (by kernel_rfl) ?_
              repeat (go_big_quiet_step (first | exact cE _ _))
              refine wpQuiet_nil ?_
              intro w6 hw'
              have ho6 : Off None w5 w6 := by
                obtain ⟨⟨dq, osq⟩, rfl⟩ := hw'
                exact Off.of_below (below_regrown w5 dq osq)
              have HI6 := Lib.hid (HI5.out.quiet hgu2 ho6)
              have HB6 := Lib.hid (ho6.at_ HB5.out (fun h => h))
              clear hw' ho6 cE HI5 HB5 k0 k1 k2
              clear v1 v2 v3 v4 v5 v6 k3
              have hres2 : res = (D1, 2, acc) := by
                have hon : openOne D1 u (us.drop (k + 1)).head? = (D1, 2, ⟨u, m, z⟩) := by
                  unfold openOne
                  rw [HTE.out, HHD.out]
                  dsimp only
                  rw [if_neg (by simp), ← HX.out, HXE.out, if_pos (.inr (fun h => hEv (HEE.out.trans h)))]
                rw [HR1.out, HONE.out, hon]
                dsimp only
                rw [if_pos (by decide)]
              have HRS := Lib.hid hres2; clear hres2
              go_wp2_with fail
              go_ret2
              exact post_err HI6.out HRS.out (by decide)
        · have hhd : (us.drop (k + 1)).head? = none := by rw [List.head?_drop, List.getElem?_eq_none (by omega)]
          have HHD := Lib.hid hhd; clear hhd
          have v2 : decide (k + 1 < us.length) = false := by rw [decide_eq_false_iff_not]; exact hnl
          have v3 : decide ((k : Int) + 1 < (us.length : Int)) = false := by rw [decide_eq_false_iff_not]; omega
          have hkn : us.drop (k + 1) = [] := List.drop_eq_nil_of_le (by omega)
          have HKN := Lib.hid hkn; clear hkn
          have x1 : ((k : Int) + 1 == (us.length : Int)) = true := by rw [beq_iff_eq]; omega
          have x2 : (k + 1 == us.length) = true := by rw [beq_iff_eq]; omega
          by_cases hmore : z < t.size
          · obtain rfl : bm = true := by rw [HBM.out, decide_eq_true_eq]; exact hmore
            refine wp_region_quiet_below (by kernel_rfl) (by kernel_rfl) ?_
            repeat (go_big_quiet_step (first | exact cE _ _))
            refine wpQuiet_nil ?_
            intro w6 hw'
            have ho6 : Off None w5 w6 := by
              obtain ⟨⟨dq, osq⟩, rfl⟩ := hw'
              exact Off.of_below (below_regrown w5 dq osq)
            have HI6 := Lib.hid (HI5.out.quiet hgu2 ho6)
            have HB6 := Lib.hid (ho6.at_ HB5.out (fun h => h))
            clear hw' ho6 cE HI5 HB5 k0 k1 k2
            clear v2 v3 v1
            have hnm6 := fun (W : World) (hW : Off None w6 W) => name_any W u (by omega) (HGL.out.off (HI6.out.quiet hgu2 hW).off HFN.out).pow
            have HNM := Lib.hid hnm6; clear hnm6
            have hlm := HLM.out hlt
            have hcut := fun (W : World) (hW : Off None w6 W) => DiskW.cut_any W d D1 Fd (HI6.out.quiet hgu2 hW).disk (nameB u) z (by rw [nameB_size (by omega)]; decide) (by unfold maxLen; omega)
              (fun f hf => by have := hlm.each f hf; have := hlm.le; unfold maxLen; omega)
            obtain ⟨D2, e2, hde⟩ : ∃ D2 e2, D1.cut (nameB u) z = (D2, e2) := ⟨_, _, rfl⟩
            rw [hde] at hcut
            have HCUT := Lib.hid hcut; clear hcut
            have HDE := Lib.hid hde; clear hde hlm
            have cz : w6.cell? ⟨bx, 2, none⟩ = some (.int .i64 z) := Heap.cell HB6.out 2
            go_wp2_with fail
            go_region_held3 (fun W => W.cell? ⟨bx, 2, none⟩ = some (.int .i64 z))
              (first | exact cz | exact cz7 | exact cz8)
              (first
                | (go_at_call 25; refine (HNM.out _ ((Off.refl None w6).drew)).mono ?_; rintro e w7 ⟨rfl, ho7⟩; have cz7 : w7.cell? ⟨bx, 2, none⟩ = some (.int .i64 z) := ho7.keep cz (fun h => h))
                | (go_at_call 47; refine (HCUT.out w7 (((Off.refl None w6).drew).trans ho7 (fun _ _ h => h))).mono ?_; rintro e w8 ⟨rfl, hd8, ho8⟩; have cz8 : w8.cell? ⟨bx, 2, none⟩ = some (.int .i64 z) := ho8.keep cz7 HBF.out))
            have ho67 : Off None w6 w7 := ((Off.refl None w6).drew).trans ho7 (fun _ _ h => h)
            have HI8 := Lib.hid ((HI6.out.quiet hgu2 ho67).turned hgu2 hd8 ho8)
            have HB8 := Lib.hid (ho8.at_ (ho67.at_ HB6.out (fun h => h)) HBF.out)
            have hbf8 : ¬ Grow Fd w7 w8 bx := fun h => h.elim HBF.out (fun h => by have := Heap.lt HB6.out; have := ho67.size; omega)
            have HBF8 := Lib.hid hbf8
            clear ho67 hd8 ho8 ho7 cz cz7 cz8 hbf8 HI6 HB6 HNM HCUT
            by_cases he2 : e2 = 0
            · subst he2
              obtain ⟨D3, e3, hde3⟩ : ∃ D3 e3, D2.sync (nameB u) = (D3, e3) := ⟨_, _, rfl⟩
              have HDE3 := Lib.hid hde3; clear hde3
              have hon : openOne D1 u (us.drop (k + 1)).head? = (D3, e3, ⟨u, m, z⟩) := by
                unfold openOne
                rw [HTE.out, HHD.out]
                dsimp only
                rw [if_neg (by simp), ← HX.out, HXE.out]
                dsimp only
                rw [if_pos hmore, HDE.out, if_neg (by simp), HDE3.out]
              have HON := Lib.hid hon; clear hon
              go_wp2_with fail
              refine (name_any w8 u (by omega) (HGL.out.off HI8.out.off HFN.out).pow).mono ?_
              rintro e w7' ⟨rfl, ho7⟩
              have HI7 := Lib.hid (HI8.out.quiet hgu2 ho7)
              have HB7 := Lib.hid (ho7.at_ HB8.out (fun h => h)); clear ho7 HI8 HB8
              have hsy := DiskW.sync_any w7' d D2 _ HI7.out.disk (nameB u) (by rw [nameB_size (by omega)]; decide)
              rw [HDE3.out] at hsy
              have HSY := Lib.hid hsy; clear hsy
              go_wp2_with fail
              refine HSY.out.mono ?_
              rintro e w11 ⟨rfl, hd8, ho8⟩
              have HI8 := Lib.hid (HI7.out.turned hgu2 hd8 ho8)
              have HB8 := Lib.hid (ho8.at_ HB7.out HBF8.out); clear ho8 hd8 HI7 HB7 HSY
              by_cases he3 : e3 = 0
              · subst he3
                have hres2 : res = openGo D3 (acc ++ [⟨u, m, z⟩]) (us.drop (k + 1)) := by
                  rw [HR1.out, HONE.out, HON.out]
                  dsimp only
                  rw [if_neg (by simp)]
                have HRS := Lib.hid hres2; clear hres2 x1 x2
                have q1 : w11.cell? ⟨lg, 1, none⟩ = some sv := Heap.cell HI8.out.pre.core 1
                have b0 : w11.cell? ⟨bx, 0, none⟩ = some (.int .u64 u) := Heap.cell HB8.out 0
                have b1 : w11.cell? ⟨bx, 1, none⟩ = some (.int .i64 m) := Heap.cell HB8.out 1
                have b2 : w11.cell? ⟨bx, 2, none⟩ = some (.int .i64 z) := Heap.cell HB8.out 2
                have qa : (w11.alloc (.cells #[.int .u64 u, .int .i64 m, .int .i64 z] 42)).cell? ⟨lg, 1, none⟩ = some sv := Heap.cell (Heap.alloc_old HI8.out.pre.core _) 1
                have HR := Lib.hid HI8.out.pre.row
                have hlz : lg < w11.heap.size := Heap.lt HI8.out.pre.core
                have hal : acc.length ≤ 1000000 := by have := HAL.out; omega
                have hbsv : sv.ownBlock ≠ some bx := HBS.out
                go_wp2_with fail
                go_region_law ((refine step_push (W := w11.drew) (by rfl) _ _ (by rfl) elemSeg 0 sv acc.length (acc.flatMap segCells) (by rfl) HR.out #[.int .u64 u, .int .i64 m, .int .i64 z] (by rfl) rfl (by intro u hu; simp at hu; rcases hu with rfl | rfl | rfl <;> rfl) (by omega) (Nat.zero_le _) ?_; intro g cap w9 hrow9 hp9; have c9 : w9.cell? ⟨lg, 1, none⟩ = some sv := Heap.cell (hp9.keep _ _ HI8.out.pre.core HI8.out.pre.ne) 1; have f9 : w9.frozen? ⟨lg, 1, none⟩ = false := Heap.frozen (hp9.keep _ _ HI8.out.pre.core HI8.out.pre.ne) 1))
                all_goals
                  have hI9 := HI8.out.pushed (x := ⟨u, m, z⟩) hgu2 hlw hgl hrow9 hp9
                  have hb9 := hp9.keep _ _ HB8.out hbsv
                  have hb10 : (w9.setCell ⟨lg, 1, none⟩ (.slice (some ⟨g, 0, none⟩) (acc.length + 1) cap)).heap[bx]? = some (.cells #[.int .u64 u, .int .i64 m, .int .i64 z] 42 (0, 0)) := (Heap.set_far hbl _).trans hb9
                  obtain ⟨w10, hw10⟩ : ∃ w10, w10 = w9.setCell ⟨lg, 1, none⟩ (.slice (some ⟨g, 0, none⟩) (acc.length + 1) cap) := ⟨_, rfl⟩
                  rw [← hw10] at hI9 hb10 ⊢
                  have HI9 := Lib.hid hI9
                  clear hw10 hI9 hb9 hrow9 hp9 c9 f9 q1 b0 b1 b2 qa
                  have b0 : w10.cell? ⟨bx, 0, none⟩ = some (.int .u64 u) := Heap.cell hb10 0
                  have b1 : w10.cell? ⟨bx, 1, none⟩ = some (.int .i64 m) := Heap.cell hb10 1
                  have b2 : w10.cell? ⟨bx, 2, none⟩ = some (.int .i64 z) := Heap.cell hb10 2
                  have q2 : w10.cell? ⟨lg, 2, none⟩ = some (.int .u64 dur.first) := Heap.cell HI9.out.pre.core 2
                  have q3 : w10.cell? ⟨lg, 3, none⟩ = some (.int .i64 dur.many) := Heap.cell HI9.out.pre.core 3
                  have q4 : w10.cell? ⟨lg, 4, none⟩ = some (.int .i64 dur.size) := Heap.cell HI9.out.pre.core 4
                  have f2 : w10.frozen? ⟨lg, 2, none⟩ = false := Heap.frozen HI9.out.pre.core 2
                  have f3 : w10.frozen? ⟨lg, 3, none⟩ = false := Heap.frozen HI9.out.pre.core 3
                  have f4 : w10.frozen? ⟨lg, 4, none⟩ = false := Heap.frozen HI9.out.pre.core 4
                  have hlz2 : lg < w10.heap.size := Heap.lt HI9.out.pre.core
                  clear hb10
                  go_wp2_with fail
                  case roundEnd => exact ⟨⟨k + 1, D3, acc ++ [⟨u, m, z⟩], ⟨u, m, z⟩, _, _, hlt, by push_cast; rfl, HI9.out.setDur hgu2 hlw hgl ⟨u, m, z⟩, by rw [List.length_append, HAL.out]; rfl, HRS.out, fun h => absurd h (by omega), fun _ => ⟨acc, rfl⟩⟩, by simp [intOf]; omega⟩
              · have hres2 : res = (D3, e3, acc) := by
                  rw [HR1.out, HONE.out, HON.out]
                  dsimp only
                  rw [if_pos he3]
                have HRS := Lib.hid hres2; clear hres2 x1 x2
                have y1 : (e3 != 0) = true := by rw [bne_iff_ne]; exact he3
                go_wp2_with fail
                go_ret2
                exact post_err HI8.out HRS.out he3
            · have hon : openOne D1 u (us.drop (k + 1)).head? = (D2, e2, ⟨u, m, z⟩) := by
                unfold openOne
                rw [HTE.out, HHD.out]
                dsimp only
                rw [if_neg (by simp), ← HX.out, HXE.out]
                dsimp only
                rw [if_pos hmore, HDE.out, if_pos he2]
              have hres2 : res = (D2, e2, acc) := by
                rw [HR1.out, HONE.out, hon]
                dsimp only
                rw [if_pos he2]
              have HRS := Lib.hid hres2; clear hres2 x1 x2 hon
              have y1 : (e2 != 0) = true := by rw [bne_iff_ne]; exact he2
              have y2 : (e2 == 0) = false := by rw [beq_eq_false_iff_ne]; exact he2
              go_wp2_with fail
              go_ret2
              exact post_err HI8.out HRS.out he2
          · obtain rfl : bm = false := by rw [HBM.out, decide_eq_false_iff_not]; exact hmore
            refine wp_region_quiet_below (by kernel_rfl) (by kernel_rfl) ?_
            repeat (go_big_quiet_step (first | exact cE _ _))
            refine wpQuiet_nil ?_
            intro w6 hw'
            have ho6 : Off None w5 w6 := by
              obtain ⟨⟨dq, osq⟩, rfl⟩ := hw'
              exact Off.of_below (below_regrown w5 dq osq)
            have HI6 := Lib.hid (HI5.out.quiet hgu2 ho6)
            have HB6 := Lib.hid (ho6.at_ HB5.out (fun h => h))
            clear hw' ho6 cE HI5 HB5 k0 k1 k2
            clear v2 v3 v1
            obtain ⟨D2, e2, hde⟩ : ∃ D2 e2, D1.sync (nameB u) = (D2, e2) := ⟨_, _, rfl⟩
            have HDE := Lib.hid hde; clear hde
            have hon : openOne D1 u (us.drop (k + 1)).head? = (D2, e2, ⟨u, m, z⟩) := by
              unfold openOne
              rw [HTE.out, HHD.out]
              dsimp only
              rw [if_neg (by simp), ← HX.out, HXE.out]
              dsimp only
              rw [if_neg hmore, HDE.out]
            have HON := Lib.hid hon; clear hon
            go_wp2_with fail
            refine (name_any w6 u (by omega) (HGL.out.off HI6.out.off HFN.out).pow).mono ?_
            rintro e w7 ⟨rfl, ho7⟩
            have HI7 := Lib.hid (HI6.out.quiet hgu2 ho7)
            have HB7 := Lib.hid (ho7.at_ HB6.out (fun h => h)); clear ho7 HI6 HB6
            have hsy := DiskW.sync_any w7 d D1 Fd HI7.out.disk (nameB u) (by rw [nameB_size (by omega)]; decide)
            rw [HDE.out] at hsy
            have HSY := Lib.hid hsy; clear hsy
            go_wp2_with fail
            refine HSY.out.mono ?_
            rintro e w8 ⟨rfl, hd8, ho8⟩
            have HI8 := Lib.hid (HI7.out.turned hgu2 hd8 ho8)
            have HB8 := Lib.hid (ho8.at_ HB7.out HBF.out); clear ho8 hd8 HI7 HB7 HSY
            by_cases he2 : e2 = 0
            · subst he2
              have hres2 : res = openGo D2 (acc ++ [⟨u, m, z⟩]) (us.drop (k + 1)) := by
                rw [HR1.out, HONE.out, HON.out]
                dsimp only
                rw [if_neg (by simp)]
              have HRS := Lib.hid hres2; clear hres2 x1 x2
              have q1 : w8.cell? ⟨lg, 1, none⟩ = some sv := Heap.cell HI8.out.pre.core 1
              have b0 : w8.cell? ⟨bx, 0, none⟩ = some (.int .u64 u) := Heap.cell HB8.out 0
              have b1 : w8.cell? ⟨bx, 1, none⟩ = some (.int .i64 m) := Heap.cell HB8.out 1
              have b2 : w8.cell? ⟨bx, 2, none⟩ = some (.int .i64 z) := Heap.cell HB8.out 2
              have qa : (w8.alloc (.cells #[.int .u64 u, .int .i64 m, .int .i64 z] 42)).cell? ⟨lg, 1, none⟩ = some sv := Heap.cell (Heap.alloc_old HI8.out.pre.core _) 1
              have HR := Lib.hid HI8.out.pre.row
              have hlz : lg < w8.heap.size := Heap.lt HI8.out.pre.core
              have hal : acc.length ≤ 1000000 := by have := HAL.out; omega
              have hbsv : sv.ownBlock ≠ some bx := HBS.out
              go_wp2_with fail
              go_region_law ((refine step_push (W := w8.drew) (by rfl) _ _ (by rfl) elemSeg 0 sv acc.length (acc.flatMap segCells) (by rfl) HR.out #[.int .u64 u, .int .i64 m, .int .i64 z] (by rfl) rfl (by intro u hu; simp at hu; rcases hu with rfl | rfl | rfl <;> rfl) (by omega) (Nat.zero_le _) ?_; intro g cap w9 hrow9 hp9; have c9 : w9.cell? ⟨lg, 1, none⟩ = some sv := Heap.cell (hp9.keep _ _ HI8.out.pre.core HI8.out.pre.ne) 1; have f9 : w9.frozen? ⟨lg, 1, none⟩ = false := Heap.frozen (hp9.keep _ _ HI8.out.pre.core HI8.out.pre.ne) 1))
              all_goals
                have hI9 := HI8.out.pushed (x := ⟨u, m, z⟩) hgu2 hlw hgl hrow9 hp9
                have hb9 := hp9.keep _ _ HB8.out hbsv
                have hb10 : (w9.setCell ⟨lg, 1, none⟩ (.slice (some ⟨g, 0, none⟩) (acc.length + 1) cap)).heap[bx]? = some (.cells #[.int .u64 u, .int .i64 m, .int .i64 z] 42 (0, 0)) := (Heap.set_far hbl _).trans hb9
                obtain ⟨w10, hw10⟩ : ∃ w10, w10 = w9.setCell ⟨lg, 1, none⟩ (.slice (some ⟨g, 0, none⟩) (acc.length + 1) cap) := ⟨_, rfl⟩
                rw [← hw10] at hI9 hb10 ⊢
                have HI9 := Lib.hid hI9
                clear hw10 hI9 hb9 hrow9 hp9 c9 f9 q1 b0 b1 b2 qa
                have b0 : w10.cell? ⟨bx, 0, none⟩ = some (.int .u64 u) := Heap.cell hb10 0
                have b1 : w10.cell? ⟨bx, 1, none⟩ = some (.int .i64 m) := Heap.cell hb10 1
                have b2 : w10.cell? ⟨bx, 2, none⟩ = some (.int .i64 z) := Heap.cell hb10 2
                have q2 : w10.cell? ⟨lg, 2, none⟩ = some (.int .u64 dur.first) := Heap.cell HI9.out.pre.core 2
                have q3 : w10.cell? ⟨lg, 3, none⟩ = some (.int .i64 dur.many) := Heap.cell HI9.out.pre.core 3
                have q4 : w10.cell? ⟨lg, 4, none⟩ = some (.int .i64 dur.size) := Heap.cell HI9.out.pre.core 4
                have f2 : w10.frozen? ⟨lg, 2, none⟩ = false := Heap.frozen HI9.out.pre.core 2
                have f3 : w10.frozen? ⟨lg, 3, none⟩ = false := Heap.frozen HI9.out.pre.core 3
                have f4 : w10.frozen? ⟨lg, 4, none⟩ = false := Heap.frozen HI9.out.pre.core 4
                have hlz2 : lg < w10.heap.size := Heap.lt HI9.out.pre.core
                clear hb10
                go_wp2_with fail
                case roundEnd => exact ⟨⟨k + 1, D2, acc ++ [⟨u, m, z⟩], ⟨u, m, z⟩, _, _, hlt, by push_cast; rfl, HI9.out.setDur hgu2 hlw hgl ⟨u, m, z⟩, by rw [List.length_append, HAL.out]; rfl, HRS.out, fun h => absurd h (by omega), fun _ => ⟨acc, rfl⟩⟩, by simp [intOf]; omega⟩
            · have hres2 : res = (D2, e2, acc) := by
                rw [HR1.out, HONE.out, HON.out]
                dsimp only
                rw [if_pos he2]
              have HRS := Lib.hid hres2; clear hres2 x1 x2
              have y1 : (e2 != 0) = true := by rw [bne_iff_ne]; exact he2
              go_wp2_with fail
              go_ret2
              exact post_err HI8.out HRS.out he2
      · have hon : openOne D1 u (us.drop (k + 1)).head? = (D1, er, ⟨u, 0, 0⟩) := by unfold openOne; rw [HTE.out]; dsimp only; rw [if_pos hee]
        have hre := HR1.out
        rw [HONE.out, hon] at hre
        dsimp only at hre
        rw [if_pos hee] at hre
        have HRE := Lib.hid hre; clear hre hon
        have t1 : (er != 0) = true := by rw [bne_iff_ne]; exact hee
        go_wp2_with fail
        go_ret2
        exact post_err HI2.out HRE.out hee
    · have hkl : k = us.length := by omega
      subst hkl
      have hi1 : ¬ (us.length : Int) < (us.length : Int) := by omega
      obtain ⟨xs, hxs⟩ := HLA.out hupos
      have hre := HR1.out
      rw [List.drop_length] at hre
      have HRE := Lib.hid hre
      have HXS := Lib.hid hxs; clear hxs hre
      go_wp2_with fail
      go_ret2
      exact post_ok HII.out HRE.out HXS.out hlw
end Seg
end Go.Proofs.YtnppdcegpojmbaaGreatDoor
