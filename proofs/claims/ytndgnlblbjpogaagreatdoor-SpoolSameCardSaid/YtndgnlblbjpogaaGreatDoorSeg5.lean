/- A log on its disk: the walks of Append, Sync, Undo. · The walks of Sync and Undo of a log. · The walk of begin of a log. · The walk of Roll of a log. -/
import Derived.Test.YtndgnlblbjpogaaGreatDoorSegIn
namespace Go.Proofs.YtndgnlblbjpogaaGreatDoor
open Go Go.RowKit
theorem Off.keep {G : Nat → Prop} {w w' : World} {a : Addr} {v : Value} (h : Off G w w') (hc : w.cell? a = some v) (hn : ¬ G a.block) : w'.cell? a = some v := (h.cell (Heap.block_lt hc) hn).trans hc
theorem set_same {cs : Array Value} {i : Nat} {v : Value} (h : cs[i]? = some v) : cs.setIfInBounds i v = cs := by
  apply Array.ext_getElem?
  intro j
  rw [Array.getElem?_setIfInBounds]
  split
  · rename_i e; subst e
    rw [h, if_pos (Array.getElem?_eq_some_iff.1 h).1]
  · rfl
/-- Of the active segment two numbers have turned. -/
theorem LogAt.grow {w : World} {lg d : Nat} {L : LogV} {g off cap : Nat} (h : LogAt w lg d L g off cap) (m z : Nat) :
    LogAt ((w.setCell ⟨g, off * 3 + L.full.length * 3 + 1, none⟩ (.int .i64 m)).setCell ⟨g, off * 3 + L.full.length * 3 + 2, none⟩ (.int .i64 z)) lg d { L with act := ⟨L.act.first, m, z⟩ } g off cap := by
  refine h.setAct ⟨L.act.first, m, z⟩ ?_ ?_
  · rw [Heap.set_far (Ne.symm h.ne), Heap.set_far (Ne.symm h.ne)]
  · intro cur hcur
    have h0 := h.act.1
    rw [Heap.cell hcur] at h0
    rw [set_same h0]
    exact Heap.set (Heap.set hcur _ _) _ _
/-- Bounds of a disk. -/
structure Lim (N : Nat) (D : DiskV) : Prop where
  le : N ≤ 1000000
  files : D.files.length ≤ N
  names : D.names.length ≤ N
  moves : D.moves.length ≤ N
  each : ∀ f ∈ D.files, f.chgs.length ≤ N ∧ f.now.size ≤ N * 3000
theorem total_le (m : NMap) (f : Nat → Nat) (b : Nat) (h : ∀ i, f i ≤ b) : m.total f ≤ m.length * b := by
  induction m with
  | nil => simp [NMap.total]
  | cons p r ih =>
    have := h p.2
    unfold NMap.total at ih ⊢
    rw [List.map_cons, List.sum_cons, List.length_cons, Nat.add_mul]
    omega
theorem Lim.used {N : Nat} {D : DiskV} (h : Lim N D) : D.used ≤ 9223372036854775807 := by
  have h1 : ∀ i, D.sizeAt i ≤ N * 3000 := fun i => by
    unfold DiskV.sizeAt
    cases hf : D.files[i]? with
    | none => simp
    | some f => exact (h.each f (List.mem_of_getElem? hf)).2
  have h2 := total_le D.names D.sizeAt (N * 3000) h1
  have h3 : D.names.length * (N * 3000) ≤ 1000000 * (1000000 * 3000) := Nat.mul_le_mul (Nat.le_trans h.names h.le) (Nat.mul_le_mul_right _ h.le)
  unfold DiskV.used
  omega
structure StoreAt (w : World) (lg d : Nat) (L : LogV) (D : DiskV) (F : Nat → Prop) (g off cap : Nat) (Fd : Nat → Prop) : Prop where
  log : LogAt w lg d L g off cap
  disk : DiskIn w d D Fd
  sepL : ¬ Fd lg
  sepG : ¬ Fd g
  inL : F lg
  inG : F g
  inD : ∀ b, Fd b → F b
def Store (w : World) (lg d : Nat) (L : LogV) (D : DiskV) (F : Nat → Prop) (off : Nat) : Prop := ∃ g cap Fd, StoreAt w lg d L D F g off cap Fd
theorem StoreAt.quiet {w w' : World} {lg d : Nat} {L : LogV} {D : DiskV} {F : Nat → Prop} {g off cap : Nat} {Fd : Nat → Prop} (h : StoreAt w lg d L D F g off cap Fd) (ho : Off None w w') : StoreAt w' lg d L D F g off cap Fd :=
  ⟨h.log.off ho (fun h => h) (fun h => h), h.disk.off ho (fun _ _ _ h => h), h.sepL, h.sepG, h.inL, h.inG, h.inD⟩
theorem LogAt.lts {w : World} {lg d : Nat} {L : LogV} {g off cap : Nat} (h : LogAt w lg d L g off cap) : lg < w.heap.size ∧ g < w.heap.size := by
  obtain ⟨cur, hr⟩ := h.row
  exact ⟨Heap.lt h.core, Heap.lt hr.blk⟩
/-- Behind an operation of the disk. -/
theorem StoreAt.disk' {w w' : World} {lg d : Nat} {L : LogV} {D D' : DiskV} {F : Nat → Prop} {g off cap : Nat} {Fd : Nat → Prop} (h : StoreAt w lg d L D F g off cap Fd) (hd : DiskIn w' d D' (Grow Fd w w')) (ho : Off Fd w w') :
    StoreAt w' lg d L D' (Grow F w w') g off cap (Grow Fd w w') := by
  have hl := h.log.lts
  exact ⟨h.log.off ho h.sepL h.sepG, hd, fun x => x.elim h.sepL (fun x => by omega), fun x => x.elim h.sepG (fun x => by omega), .inl h.inL, .inl h.inG, fun b hb => hb.imp (h.inD b) id⟩
theorem StoreAt.offF {w w' : World} {lg d : Nat} {L : LogV} {D : DiskV} {F : Nat → Prop} {g off cap : Nat} {Fd : Nat → Prop} (h : StoreAt w lg d L D F g off cap Fd) (ho : Off Fd w w') : Off F w w' := ho.mono fun b _ hb => h.inD b hb
theorem StoreAt.grow {w : World} {lg d : Nat} {L : LogV} {D : DiskV} {F : Nat → Prop} {g off cap : Nat} {Fd : Nat → Prop} (h : StoreAt w lg d L D F g off cap Fd) (m z : Nat) :
    StoreAt ((w.setCell ⟨g, off * 3 + L.full.length * 3 + 1, none⟩ (.int .i64 m)).setCell ⟨g, off * 3 + L.full.length * 3 + 2, none⟩ (.int .i64 z)) lg d { L with act := ⟨L.act.first, m, z⟩ } D F g off cap Fd :=
  ⟨h.log.grow m z, h.disk.off (((Off.refl (Only g) w).set _ _).set _ _) (fun b _ hb e => h.sepG (by rw [← show b = g from e]; exact hb)), h.sepL, h.sepG, h.inL, h.inG, h.inD⟩
namespace LogV
/-- What Append does. -/
def append (L : LogV) (D : DiskV) (body : ByteArray) : LogV × DiskV × Nat × Int :=
  if 2000 < body.size then (L, D, 0, 7)
  else
    let s : ByteArray := ⟨(Frame.putF L.act.end_ body.data.toList).toArray⟩
    match D.append (Seg.nameB L.act.first) s with
    | (D', e) => if e = 0 then ({ L with act := ⟨L.act.first, L.act.many + 1, L.act.size + s.size⟩ }, D', L.act.end_, 0) else (L, D', 0, e)
end LogV
namespace Seg
theorem nameB_size {u : Nat} (hu : u < 18446744073709551616) : (nameB u).size = 21 := nameL_length hu
set_option maxHeartbeats 1000000 in
set_option maxRecDepth 100000 in
theorem append_any (w : World) (lg d n N : Nat) (L : LogV) (D : DiskV) (F : Nat → Prop) (off : Nat) (h : Store w lg d L D F off) (hG : Glob n w) (hF : ∀ b, F b → n ≤ b) (hok : L.Ok) (hl : Lim N D) (hm : L.act.many < 1000000) (hz : L.act.size ≤ 1000000000) (hs : L.act.first + L.act.many < 9223372036854775808)
    (body : ByteArray) (hb : body.size ≤ 140737488355328) :
    Calls Tryz.prog 89 #[.pointer (some ⟨lg, 0, none⟩), .string body] w fun e w' =>
      e = .returned (.tuple #[.int .u64 (L.append D body).2.2.1, .int .i64 (L.append D body).2.2.2]) ∧ Store w' lg d (L.append D body).1 (L.append D body).2.1 (Grow F w w') off ∧ Off F w w' := by
  obtain ⟨g, cap, Fd, hst⟩ := h
  have HST := Lib.hid hst; clear hst
  have HGL := Lib.hid hG; clear hG
  have HFN := Lib.hid hF; clear hF
  have HOK := Lib.hid hok; clear hok
  have HL := Lib.hid hl; clear hl
  have hend : L.act.end_ < 18446744073709551616 := HOK.out.act.sum
  have hfst : L.act.first < 18446744073709551616 := by have := HOK.out.act.sum; omega
  go_enter Tryz.func89, Tryz.ntmps89
  go_wp2_with fail
  refine (active_any _ lg d L g off cap HST.out.log).mono ?_
  rintro e w1 ⟨rfl, ho1⟩
  obtain ⟨c0, c1, c2, f0⟩ := (HST.out.quiet ho1).log.act
  go_wp2_with fail
  refine (end_any _ L.act HOK.out.act).mono ?_
  rintro e w2 ⟨rfl, ho2⟩
  have ho12 := ho1.trans ho2 (fun _ _ h => h)
  clear c0 c1 c2 f0 ho1 ho2
  go_wp2_with fail
  refine (Frame.put_any _ L.act.end_ body hend hb (HGL.out.none ho12).crc).mono ?_
  rintro e w3 ⟨rfl, ho3⟩
  have ho13 := ho12.trans ho3 (fun _ _ h => h)
  clear ho12 ho3
  have hst3 := HST.out.quiet ho13
  obtain ⟨c0, c1, c2, f0⟩ := hst3.log.act
  have cd : w3.cell? ⟨lg, 0, none⟩ = some (.pointer (some ⟨d, 0, none⟩)) := Heap.cell hst3.log.core 0
  have HS3 := Lib.hid hst3; clear hst3
  have HO := Lib.hid ho13; clear ho13
  by_cases hbig : 2000 < body.size
  · have hsp : L.append D body = (L, D, 0, 7) := by unfold LogV.append; rw [if_pos hbig]
    have HSP := Lib.hid hsp; clear hsp
    rw [if_pos (show Frame.MaxBody < body.size from hbig)]
    go_wp2
    go_ret2
    rw [HSP.out]
    obtain ⟨h1, h2, h3, h4, h5, h6, h7⟩ := HS3.out
    exact ⟨rfl, ⟨g, cap, Fd, h1, h2, h3, h4, .inl h5, .inl h6, fun b hb => .inl (h7 b hb)⟩, HO.out.mono (fun _ _ h => h.elim)⟩
  · rw [if_neg (show ¬ Frame.MaxBody < body.size from hbig)]
    have hfl := Frame.putF_len L.act.end_ body.data.toList hend (by show body.data.toList.length ≤ 2000; rw [show body.data.toList.length = body.size from Array.length_toList]; omega)
    have hfl2 : (Frame.putF L.act.end_ body.data.toList).length ≤ 2024 := by rw [show body.data.toList.length = body.size from Array.length_toList] at hfl; omega
    obtain ⟨s, hsd⟩ : ∃ s : ByteArray, s = ⟨(Frame.putF L.act.end_ body.data.toList).toArray⟩ := ⟨_, rfl⟩
    have hss : s.size ≤ 2024 := by rw [hsd]; exact hfl2
    rw [← hsd]
    have HSD := Lib.hid hsd; clear hsd hfl hfl2
    have hname := fun W (hW : Off None w3 W) => name_any W L.act.first hfst ((HGL.out.none HO.out).none hW).pow
    have HNM := Lib.hid hname; clear hname
    have happ := fun W (hW : Off None w3 W) => DiskW.append_any W d D Fd (HS3.out.disk.off hW (fun _ _ _ h => h)) (nameB L.act.first) s (by rw [nameB_size hfst]; decide) (by unfold maxLen; omega) HL.out.used
      (fun f hf => by have := HL.out.each f hf; have := HL.out.le; unfold maxLen; omega)
    have HAP := Lib.hid happ; clear happ
    have hsl := HS3.out.sepL
    have hsg := HS3.out.sepG
    go_wp2_with fail
    go_region_held3 (fun W => W.cell? ⟨lg, 0, none⟩ = some (.pointer (some ⟨d, 0, none⟩)) ∧ W.cell? ⟨g, off * 3 + L.full.length * 3, none⟩ = some (.int .u64 L.act.first))
      (first | exact ⟨cd, c0⟩ | exact ⟨l1, l2⟩ | exact ⟨k1, k2⟩)
      (first
        | (go_at_call 80; refine (HNM.out _ ((Off.refl None w3).drew)).mono ?_; rintro e w4 ⟨rfl, ho4⟩; have k1 : w4.cell? ⟨lg, 0, none⟩ = some (.pointer (some ⟨d, 0, none⟩)) := ho4.keep cd (fun h => h); have k2 : w4.cell? ⟨g, off * 3 + L.full.length * 3, none⟩ = some (.int .u64 L.act.first) := ho4.keep c0 (fun h => h))
        | (go_at_call 121; refine (HAP.out w4 (((Off.refl None w3).drew).trans ho4 (fun _ _ h => h))).mono ?_; rintro e w5 ⟨rfl, hd5, ho5⟩; have l1 : w5.cell? ⟨lg, 0, none⟩ = some (.pointer (some ⟨d, 0, none⟩)) := ho5.keep k1 hsl; have l2 : w5.cell? ⟨g, off * 3 + L.full.length * 3, none⟩ = some (.int .u64 L.act.first) := ho5.keep k2 hsg))
    have ho34 : Off None w3 w4 := ((Off.refl None w3).drew).trans ho4 (fun _ _ h => h)
    have hst5 := (HS3.out.quiet ho34).disk' hd5 ho5
    have d1 : w5.cell? ⟨g, off * 3 + L.full.length * 3 + 1, none⟩ = some (.int .i64 L.act.many) := hst5.log.act.2.1
    have d2 : w5.cell? ⟨g, off * 3 + L.full.length * 3 + 2, none⟩ = some (.int .i64 L.act.size) := hst5.log.act.2.2.1
    have df := hst5.log.act.2.2.2
    have df1 := df (off * 3 + L.full.length * 3 + 1)
    have df2 := df (off * 3 + L.full.length * 3 + 2)
    have hoF : Off F w w5 := (HO.out.mono (fun _ _ h => h.elim)).trans ((ho34.mono (fun _ _ h => h.elim) : Off F w3 w4).trans ((HS3.out.quiet ho34).offF ho5) (fun _ _ h => h)) (fun _ _ h => h)
    have hsz4 : w.heap.size ≤ w4.heap.size := Nat.le_trans HO.out.size ho34.size
    have HST5 := Lib.hid hst5
    have HOF := Lib.hid hoF
    clear hst5 hoF df ho34 hd5 l1 l2 k1 k2 ho4 c0 c1 c2 f0 cd
    obtain ⟨D', er, hda⟩ : ∃ D' er, D.append (nameB L.act.first) s = (D', er) := ⟨_, _, rfl⟩
    rw [hda] at HST5 ⊢
    have HDA := Lib.hid hda; clear hda
    by_cases he : er = 0
    · subst he
      have hsp : L.append D body = ({ L with act := ⟨L.act.first, L.act.many + 1, L.act.size + s.size⟩ }, D', L.act.end_, 0) := by
        unfold LogV.append; rw [if_neg hbig, ← HSD.out]; dsimp only; rw [HDA.out]; dsimp only; rw [if_pos rfl]
      have HSP := Lib.hid hsp; clear hsp
      dsimp only
      go_wp2
      go_ret2
      rw [HSP.out]
      have em : ((L.act.many : Int) + 1) = ((L.act.many + 1 : Nat) : Int) := by omega
      have es : ((L.act.size : Int) + s.size) = ((L.act.size + s.size : Nat) : Int) := by omega
      rw [em, es]
      have hst6 := HST5.out.grow (L.act.many + 1) (L.act.size + s.size)
      have ho6 : Off F w5 _ := ((Off.refl F w5).setCell (p := ⟨g, off * 3 + L.full.length * 3 + 1, none⟩) (.inl HS3.out.inG) (.int .i64 ((L.act.many + 1 : Nat) : Int))).setCell (p := ⟨g, off * 3 + L.full.length * 3 + 2, none⟩) (.inl HS3.out.inG) (.int .i64 ((L.act.size + s.size : Nat) : Int))
      refine ⟨rfl, ⟨g, cap, _, hst6.log, hst6.disk, hst6.sepL, hst6.sepG, .inl HS3.out.inL, .inl HS3.out.inG, fun b hb => ?_⟩, HOF.out.trans ho6 (fun _ _ h => h)⟩
      rw [Grow, Heap.set_size, Heap.set_size]
      rcases hb with hb | hb
      · exact .inl (HS3.out.inD b hb)
      · exact .inr ⟨by omega, hb.2⟩
    · have hsp : L.append D body = (L, D', 0, er) := by
        unfold LogV.append; rw [if_neg hbig, ← HSD.out]; dsimp only; rw [HDA.out]; dsimp only; rw [if_neg he]
      have HSP := Lib.hid hsp; clear hsp
      have t1 : (er != 0) = true := by rw [bne_iff_ne]; exact he
      have t2 : (er == 0) = false := by rw [beq_eq_false_iff_ne]; exact he
      dsimp only
      go_wp2
      go_ret2
      rw [HSP.out]
      refine ⟨rfl, ⟨g, cap, _, HST5.out.log, HST5.out.disk, HST5.out.sepL, HST5.out.sepG, .inl HS3.out.inL, .inl HS3.out.inG, fun b hb => ?_⟩, HOF.out⟩
      rcases hb with hb | hb
      · exact .inl (HS3.out.inD b hb)
      · exact .inr ⟨by omega, hb.2⟩
end Seg
end Go.Proofs.YtndgnlblbjpogaaGreatDoor
namespace Go.Proofs.YtndgnlblbjpogaaGreatDoor
open Go Go.RowKit
namespace LogV
def same (L : LogV) : Prop := L.durable.first = L.act.first ∧ L.durable.many = L.act.many ∧ L.durable.size = L.act.size
instance (L : LogV) : Decidable L.same := by unfold same; infer_instance
/-- What Sync does. -/
def sync (L : LogV) (D : DiskV) : LogV × DiskV × Int :=
  if L.same then (L, D, 0)
  else match D.sync (Seg.nameB L.durable.first) with
    | (D', e) => if e = 0 then ({ L with durable := L.act }, D', 0) else (L, D', e)
/-- What Undo does. -/
def undo (L : LogV) (D : DiskV) : LogV × DiskV × Int :=
  if L.same then (L, D, 0)
  else match D.cut (Seg.nameB L.durable.first) L.durable.size with
    | (D', e) => if e = 0 then ({ L with act := L.durable }, D', 0) else (L, D', e)
end LogV
/-- The cells of a log's own block. -/
theorem LogAt.own {w : World} {lg d : Nat} {L : LogV} {g off cap : Nat} (h : LogAt w lg d L g off cap) :
    w.cell? ⟨lg, 0, none⟩ = some (.pointer (some ⟨d, 0, none⟩)) ∧ w.cell? ⟨lg, 1, none⟩ = some (.slice (some ⟨g, off * 3, none⟩) L.segs.length cap) ∧ w.cell? ⟨lg, 2, none⟩ = some (.int .u64 L.durable.first) ∧ w.cell? ⟨lg, 3, none⟩ = some (.int .i64 L.durable.many) ∧ w.cell? ⟨lg, 4, none⟩ = some (.int .i64 L.durable.size) ∧ ∀ i, w.frozen? ⟨lg, i, none⟩ = false :=
  ⟨Heap.cell h.core 0, Heap.cell h.core 1, Heap.cell h.core 2, Heap.cell h.core 3, Heap.cell h.core 4, fun i => Heap.frozen h.core i⟩
/-- What is durable has turned. -/
theorem LogAt.setDur {w : World} {lg d : Nat} {L : LogV} {g off cap : Nat} (h : LogAt w lg d L g off cap) (a : SegV) :
    LogAt (((w.setCell ⟨lg, 2, none⟩ (.int .u64 a.first)).setCell ⟨lg, 3, none⟩ (.int .i64 a.many)).setCell ⟨lg, 4, none⟩ (.int .i64 a.size)) lg d { L with durable := a } g off cap :=
  ⟨(Heap.set (Heap.set (Heap.set h.core 2 _) 3 _) 4 _).trans rfl, h.row.imp fun _ hr => hr.off ((((Off.refl (Only lg) w).set 2 (.int .u64 a.first)).set 3 (.int .i64 a.many)).set 4 (.int .i64 a.size)) h.ne, h.ne⟩
theorem StoreAt.setDur {w : World} {lg d : Nat} {L : LogV} {D : DiskV} {F : Nat → Prop} {g off cap : Nat} {Fd : Nat → Prop} (h : StoreAt w lg d L D F g off cap Fd) (a : SegV) :
    StoreAt (((w.setCell ⟨lg, 2, none⟩ (.int .u64 a.first)).setCell ⟨lg, 3, none⟩ (.int .i64 a.many)).setCell ⟨lg, 4, none⟩ (.int .i64 a.size)) lg d { L with durable := a } D F g off cap Fd :=
  ⟨h.log.setDur a, h.disk.off ((((Off.refl (Only lg) w).set 2 (.int .u64 a.first)).set 3 (.int .i64 a.many)).set 4 (.int .i64 a.size)) (fun b _ hb e => h.sepL (by rw [← show b = lg from e]; exact hb)), h.sepL, h.sepG, h.inL, h.inG, h.inD⟩
theorem keep_set3 {W : World} {g i j k : Nat} {a : Addr} {v x y z : Value} (h : W.cell? a = some v) (hne : a.block ≠ g) : (((W.setCell ⟨g, i, Option.none⟩ x).setCell ⟨g, j, Option.none⟩ y).setCell ⟨g, k, Option.none⟩ z).cell? a = some v :=
  ((((Off.refl (Only g) W).set i x).set j y).set k z).keep h hne
/-- The active segment has turned. -/
theorem StoreAt.setAct {w : World} {lg d : Nat} {L : LogV} {D : DiskV} {F : Nat → Prop} {g off cap : Nat} {Fd : Nat → Prop} (h : StoreAt w lg d L D F g off cap Fd) (a : SegV) :
    StoreAt (((w.setCell ⟨g, off * 3 + L.full.length * 3, Option.none⟩ (.int .u64 a.first)).setCell ⟨g, off * 3 + L.full.length * 3 + 1, Option.none⟩ (.int .i64 a.many)).setCell ⟨g, off * 3 + L.full.length * 3 + 2, Option.none⟩ (.int .i64 a.size)) lg d { L with act := a } D F g off cap Fd := by
  have ho := (((Off.refl (Only g) w).set (off * 3 + L.full.length * 3) (.int .u64 a.first)).set (off * 3 + L.full.length * 3 + 1) (.int .i64 a.many)).set (off * 3 + L.full.length * 3 + 2) (.int .i64 a.size)
  refine ⟨h.log.setAct a ?_ (fun cur hc => Heap.set (Heap.set (Heap.set hc _ _) _ _) _ _), h.disk.off ho (fun b _ hb e => h.sepG (by rw [← show b = g from e]; exact hb)), h.sepL, h.sepG, h.inL, h.inG, h.inD⟩
  exact ho.block lg h.log.lts.1 (fun e => h.log.ne (show g = lg from e.symm))
/-- What Sync and Undo read of a log. -/
theorem LogAt.facts {w : World} {lg d : Nat} {L : LogV} {g off cap : Nat} (h : LogAt w lg d L g off cap) :
    w.cell? ⟨lg, 2, none⟩ = some (.int .u64 L.durable.first) ∧ w.cell? ⟨lg, 3, none⟩ = some (.int .i64 L.durable.many) ∧ w.cell? ⟨lg, 4, none⟩ = some (.int .i64 L.durable.size) ∧
    w.cell? ⟨g, off * 3 + L.full.length * 3, none⟩ = some (.int .u64 L.act.first) ∧ w.cell? ⟨g, off * 3 + L.full.length * 3 + 1, none⟩ = some (.int .i64 L.act.many) ∧ w.cell? ⟨g, off * 3 + L.full.length * 3 + 2, none⟩ = some (.int .i64 L.act.size) :=
  ⟨h.own.2.2.1, h.own.2.2.2.1, h.own.2.2.2.2.1, h.act.1, h.act.2.1, h.act.2.2.1⟩
namespace Seg
theorem eql_seg (a b c a' b' c' : Nat) (W : World) : (binOp .eql 81 (.agg #[.int .u64 a, .int .i64 b, .int .i64 c]) (.agg #[.int .u64 a', .int .i64 b', .int .i64 c'])).run Tryz.prog W = .ok (.bool (decide (a = a' ∧ b = b' ∧ c = c'))) W := by
  go_simp
  by_cases h1 : a = a' <;> by_cases h2 : b = b' <;> by_cases h3 : c = c' <;> simp [h1, h2, h3] <;> omega
set_option maxHeartbeats 1000000 in
set_option maxRecDepth 100000 in
theorem sync_any (w : World) (lg d n N : Nat) (L : LogV) (D : DiskV) (F : Nat → Prop) (off : Nat) (h : Store w lg d L D F off) (hG : Glob n w) (hF : ∀ b, F b → n ≤ b) (hok : L.Ok) (hl : Lim N D) :
    Calls Tryz.prog 46 #[.pointer (some ⟨lg, 0, none⟩)] w fun e w' =>
      e = .returned (.int .i64 (L.sync D).2.2) ∧ Store w' lg d (L.sync D).1 (L.sync D).2.1 (Grow F w w') off ∧ Off F w w' := by
  obtain ⟨g, cap, Fd, hst⟩ := h
  obtain ⟨p0, p1, p2, p3, p4, pf⟩ := hst.log.own
  obtain ⟨q0, q1, q2, qf⟩ := hst.log.act
  have HST := Lib.hid hst; clear hst
  have HGL := Lib.hid hG; clear hG
  have HFN := Lib.hid hF; clear hF
  have HOK := Lib.hid hok; clear hok
  have HL := Lib.hid hl; clear hl
  have hact := fun W (hW : Off None w W) => active_any W lg d L g off cap (HST.out.quiet hW).log
  have HAC := Lib.hid hact; clear hact
  obtain ⟨sm, hsmd⟩ : ∃ sm, sm = decide (L.durable.first = L.act.first ∧ L.durable.many = L.act.many ∧ L.durable.size = L.act.size) := ⟨_, rfl⟩
  have heq := fun W => eql_seg L.durable.first L.durable.many L.durable.size L.act.first L.act.many L.act.size W
  rw [← hsmd] at heq
  have HSD := Lib.hid hsmd; clear hsmd
  go_enter Tryz.func46, Tryz.ntmps46
  go_wp2_with fail
  go_region_held3 (fun W => W.cell? ⟨lg, 2, none⟩ = some (.int .u64 L.durable.first) ∧ W.cell? ⟨lg, 3, none⟩ = some (.int .i64 L.durable.many) ∧ W.cell? ⟨lg, 4, none⟩ = some (.int .i64 L.durable.size) ∧
    W.cell? ⟨g, off * 3 + L.full.length * 3, none⟩ = some (.int .u64 L.act.first) ∧ W.cell? ⟨g, off * 3 + L.full.length * 3 + 1, none⟩ = some (.int .i64 L.act.many) ∧ W.cell? ⟨g, off * 3 + L.full.length * 3 + 2, none⟩ = some (.int .i64 L.act.size))
    (first | exact LogAt.facts (HST.out.quiet ((Off.refl None w).drew)).log | exact LogAt.facts (HST.out.quiet (((Off.refl None w).drew).trans ho1 (fun _ _ h => h))).log)
    (first | (go_at_call 78; refine (HAC.out _ ((Off.refl None w).drew)).mono ?_; rintro e w1 ⟨rfl, ho1⟩))
  have ho01 : Off None w w1 := ((Off.refl None w).drew).trans ho1 (fun _ _ h => h)
  have HO := Lib.hid ho01; clear ho1 ho01
  have HST1 := Lib.hid (HST.out.quiet HO.out)
  clear heq p0 p1 p2 p3 p4 pf q0 q1 q2 qf HAC
  by_cases hsm : L.same
  · have hsp : L.sync D = (L, D, 0) := by unfold LogV.sync; rw [if_pos hsm]
    have HSP := Lib.hid hsp; clear hsp
    have t1 : sm = true := by rw [HSD.out]; exact decide_eq_true hsm
    clear hsm
    subst t1
    go_wp2
    go_ret
    rw [HSP.out]
    exact ⟨rfl, ⟨g, cap, Fd, HST1.out.log, HST1.out.disk, HST1.out.sepL, HST1.out.sepG, .inl HST1.out.inL, .inl HST1.out.inG, fun b hb => .inl (HST1.out.inD b hb)⟩, HO.out.mono (fun _ _ h => h.elim)⟩
  · have t1 : sm = false := by rw [HSD.out]; exact decide_eq_false hsm
    have HSM := Lib.hid hsm; clear hsm
    subst t1
    go_wp2_with fail
    obtain ⟨p0, _, p2, p3, p4, pf⟩ := HST1.out.log.own
    have hname := fun W (hW : Off None w1 W) => name_any W L.durable.first (by have := HOK.out.durable.sum; omega) ((HGL.out.none HO.out).none hW).pow
    have HNM := Lib.hid hname; clear hname
    have hdk := fun W (hW : Off None w1 W) => DiskW.sync_any W d D Fd (HST1.out.disk.off hW (fun _ _ _ h => h)) (nameB L.durable.first) (by rw [nameB_size (by have := HOK.out.durable.sum; omega)]; decide)
    have HDK := Lib.hid hdk; clear hdk
    have hsl := HST1.out.sepL
    go_region_held3 (fun W => W.cell? ⟨lg, 0, none⟩ = some (.pointer (some ⟨d, 0, none⟩)) ∧ W.cell? ⟨lg, 2, none⟩ = some (.int .u64 L.durable.first))
      (first | exact ⟨p0, p2⟩ | exact ⟨l1, l2⟩ | exact ⟨k1, k2⟩)
      (first
        | (go_at_call 80; refine (HNM.out _ ((Off.refl None w1).drew)).mono ?_; rintro e w4 ⟨rfl, ho4⟩; have k1 : w4.cell? ⟨lg, 0, none⟩ = some (.pointer (some ⟨d, 0, none⟩)) := ho4.keep p0 (fun h => h); have k2 : w4.cell? ⟨lg, 2, none⟩ = some (.int .u64 L.durable.first) := ho4.keep p2 (fun h => h))
        | (go_at_call 79; refine (HDK.out w4 (((Off.refl None w1).drew).trans ho4 (fun _ _ h => h))).mono ?_; rintro e w5 ⟨rfl, hd5, ho5⟩; have l1 : w5.cell? ⟨lg, 0, none⟩ = some (.pointer (some ⟨d, 0, none⟩)) := ho5.keep k1 hsl; have l2 : w5.cell? ⟨lg, 2, none⟩ = some (.int .u64 L.durable.first) := ho5.keep k2 hsl))
    have ho14 : Off None w1 w4 := ((Off.refl None w1).drew).trans ho4 (fun _ _ h => h)
    have hst5 := (HST1.out.quiet ho14).disk' hd5 ho5
    have hoF : Off F w w5 := (HO.out.mono (fun _ _ h => h.elim)).trans ((ho14.mono (fun _ _ h => h.elim) : Off F w1 w4).trans ((HST1.out.quiet ho14).offF ho5) (fun _ _ h => h)) (fun _ _ h => h)
    have hsz4 : w.heap.size ≤ w4.heap.size := Nat.le_trans HO.out.size ho14.size
    have HST5 := Lib.hid hst5
    have HOF := Lib.hid hoF
    clear hst5 hoF ho14 hd5 l1 l2 k1 k2 ho4 p0 p2 p3 p4 pf ho5
    obtain ⟨D', er, hda⟩ : ∃ D' er, D.sync (nameB L.durable.first) = (D', er) := ⟨_, _, rfl⟩
    rw [hda] at HST5 ⊢
    have HDA := Lib.hid hda; clear hda
    dsimp only at HST5 ⊢
    by_cases he : er = 0
    · subst he
      have hsp : L.sync D = ({ L with durable := L.act }, D', 0) := by
        unfold LogV.sync; rw [if_neg HSM.out, HDA.out]; dsimp only; rw [if_pos rfl]
      have HSP := Lib.hid hsp; clear hsp
      go_wp2_with fail
      refine (active_any _ lg d L g off cap HST5.out.log).mono ?_
      rintro e w6 ⟨rfl, ho6⟩
      have hst6 := HST5.out.quiet ho6
      obtain ⟨q0, q1, q2, qf⟩ := hst6.log.act
      obtain ⟨p0, p1, p2, p3, p4, pf⟩ := hst6.log.own
      have pf2 := pf 2
      have pf3 := pf 3
      have pf4 := pf 4
      have HST6 := Lib.hid hst6; have HO6 := Lib.hid ho6
      clear hst6 ho6 pf p0 p1
      go_wp2
      go_ret
      rw [HSP.out]
      have hst7 := HST6.out.setDur L.act
      have ho7 : Off F w6 _ := (((Off.refl F w6).setCell (p := ⟨lg, 2, none⟩) (.inl HST1.out.inL) (.int .u64 L.act.first)).setCell (p := ⟨lg, 3, none⟩) (.inl HST1.out.inL) (.int .i64 L.act.many)).setCell (p := ⟨lg, 4, none⟩) (.inl HST1.out.inL) (.int .i64 L.act.size)
      have hs6 := HO6.out.size
      refine ⟨rfl, ⟨g, cap, _, hst7.log, hst7.disk, hst7.sepL, hst7.sepG, .inl HST1.out.inL, .inl HST1.out.inG, fun b hb => ?_⟩, (HOF.out.trans (HO6.out.mono (fun _ _ h => h.elim)) (fun _ _ h => h)).trans ho7 (fun _ _ h => h)⟩
      rw [Grow, Heap.set_size, Heap.set_size, Heap.set_size]
      rcases hb with hb | hb
      · exact .inl (HST1.out.inD b hb)
      · exact .inr ⟨by omega, by omega⟩
    · have hsp : L.sync D = (L, D', er) := by
        unfold LogV.sync; rw [if_neg HSM.out, HDA.out]; dsimp only; rw [if_neg he]
      have HSP := Lib.hid hsp; clear hsp
      have t1 : (er != 0) = true := by rw [bne_iff_ne]; exact he
      go_wp2
      go_ret
      rw [HSP.out]
      refine ⟨rfl, ⟨g, cap, _, HST5.out.log, HST5.out.disk, HST5.out.sepL, HST5.out.sepG, .inl HST1.out.inL, .inl HST1.out.inG, fun b hb => ?_⟩, HOF.out⟩
      rcases hb with hb | hb
      · exact .inl (HST1.out.inD b hb)
      · exact .inr ⟨by omega, hb.2⟩
set_option maxHeartbeats 1000000 in
set_option maxRecDepth 100000 in
theorem undo_any (w : World) (lg d n N : Nat) (L : LogV) (D : DiskV) (F : Nat → Prop) (off : Nat) (h : Store w lg d L D F off) (hG : Glob n w) (hF : ∀ b, F b → n ≤ b) (hok : L.Ok) (hl : Lim N D) :
    Calls Tryz.prog 90 #[.pointer (some ⟨lg, 0, none⟩)] w fun e w' =>
      e = .returned (.int .i64 (L.undo D).2.2) ∧ Store w' lg d (L.undo D).1 (L.undo D).2.1 (Grow F w w') off ∧ Off F w w' := by
  obtain ⟨g, cap, Fd, hst⟩ := h
  obtain ⟨p0, p1, p2, p3, p4, pf⟩ := hst.log.own
  obtain ⟨q0, q1, q2, qf⟩ := hst.log.act
  have HST := Lib.hid hst; clear hst
  have HGL := Lib.hid hG; clear hG
  have HFN := Lib.hid hF; clear hF
  have HOK := Lib.hid hok; clear hok
  have HL := Lib.hid hl; clear hl
  have hact := fun W (hW : Off None w W) => active_any W lg d L g off cap (HST.out.quiet hW).log
  have HAC := Lib.hid hact; clear hact
  obtain ⟨sm, hsmd⟩ : ∃ sm, sm = decide (L.durable.first = L.act.first ∧ L.durable.many = L.act.many ∧ L.durable.size = L.act.size) := ⟨_, rfl⟩
  have heq := fun W => eql_seg L.durable.first L.durable.many L.durable.size L.act.first L.act.many L.act.size W
  rw [← hsmd] at heq
  have HSD := Lib.hid hsmd; clear hsmd
  go_enter Tryz.func90, Tryz.ntmps90
  go_wp2_with fail
  go_region_held3 (fun W => W.cell? ⟨lg, 2, none⟩ = some (.int .u64 L.durable.first) ∧ W.cell? ⟨lg, 3, none⟩ = some (.int .i64 L.durable.many) ∧ W.cell? ⟨lg, 4, none⟩ = some (.int .i64 L.durable.size) ∧
    W.cell? ⟨g, off * 3 + L.full.length * 3, none⟩ = some (.int .u64 L.act.first) ∧ W.cell? ⟨g, off * 3 + L.full.length * 3 + 1, none⟩ = some (.int .i64 L.act.many) ∧ W.cell? ⟨g, off * 3 + L.full.length * 3 + 2, none⟩ = some (.int .i64 L.act.size))
    (first | exact LogAt.facts (HST.out.quiet ((Off.refl None w).drew)).log | exact LogAt.facts (HST.out.quiet (((Off.refl None w).drew).trans ho1 (fun _ _ h => h))).log)
    (first | (go_at_call 78; refine (HAC.out _ ((Off.refl None w).drew)).mono ?_; rintro e w1 ⟨rfl, ho1⟩))
  have ho01 : Off None w w1 := ((Off.refl None w).drew).trans ho1 (fun _ _ h => h)
  have HO := Lib.hid ho01; clear ho1 ho01
  have HST1 := Lib.hid (HST.out.quiet HO.out)
  clear heq p0 p1 p2 p3 p4 pf q0 q1 q2 qf HAC
  by_cases hsm : L.same
  · have hsp : L.undo D = (L, D, 0) := by unfold LogV.undo; rw [if_pos hsm]
    have HSP := Lib.hid hsp; clear hsp
    have t1 : sm = true := by rw [HSD.out]; exact decide_eq_true hsm
    clear hsm
    subst t1
    go_wp2
    go_ret
    rw [HSP.out]
    exact ⟨rfl, ⟨g, cap, Fd, HST1.out.log, HST1.out.disk, HST1.out.sepL, HST1.out.sepG, .inl HST1.out.inL, .inl HST1.out.inG, fun b hb => .inl (HST1.out.inD b hb)⟩, HO.out.mono (fun _ _ h => h.elim)⟩
  · have t1 : sm = false := by rw [HSD.out]; exact decide_eq_false hsm
    have HSM := Lib.hid hsm; clear hsm
    subst t1
    go_wp2_with fail
    obtain ⟨p0, _, p2, p3, p4, pf⟩ := HST1.out.log.own
    have hname := fun W (hW : Off None w1 W) => name_any W L.durable.first (by have := HOK.out.durable.sum; omega) ((HGL.out.none HO.out).none hW).pow
    have HNM := Lib.hid hname; clear hname
    have hdk := fun W (hW : Off None w1 W) => DiskW.cut_any W d D Fd (HST1.out.disk.off hW (fun _ _ _ h => h)) (nameB L.durable.first) L.durable.size (by rw [nameB_size (by have := HOK.out.durable.sum; omega)]; decide) (by have := HOK.out.durable.size; unfold maxLen; omega) (fun f hf => by have := HL.out.each f hf; have := HL.out.le; unfold maxLen; omega)
    have HDK := Lib.hid hdk; clear hdk
    have hsl := HST1.out.sepL
    go_region_held3 (fun W => W.cell? ⟨lg, 0, none⟩ = some (.pointer (some ⟨d, 0, none⟩)) ∧ W.cell? ⟨lg, 2, none⟩ = some (.int .u64 L.durable.first) ∧ W.cell? ⟨lg, 4, none⟩ = some (.int .i64 L.durable.size))
      (first | exact ⟨p0, p2, p4⟩ | exact ⟨l1, l2, l3⟩ | exact ⟨k1, k2, k3⟩)
      (first
        | (go_at_call 80; refine (HNM.out _ ((Off.refl None w1).drew)).mono ?_; rintro e w4 ⟨rfl, ho4⟩; have k1 : w4.cell? ⟨lg, 0, none⟩ = some (.pointer (some ⟨d, 0, none⟩)) := ho4.keep p0 (fun h => h); have k2 : w4.cell? ⟨lg, 2, none⟩ = some (.int .u64 L.durable.first) := ho4.keep p2 (fun h => h); have k3 : w4.cell? ⟨lg, 4, none⟩ = some (.int .i64 L.durable.size) := ho4.keep p4 (fun h => h))
        | (go_at_call 105; refine (HDK.out w4 (((Off.refl None w1).drew).trans ho4 (fun _ _ h => h))).mono ?_; rintro e w5 ⟨rfl, hd5, ho5⟩; have l1 : w5.cell? ⟨lg, 0, none⟩ = some (.pointer (some ⟨d, 0, none⟩)) := ho5.keep k1 hsl; have l2 : w5.cell? ⟨lg, 2, none⟩ = some (.int .u64 L.durable.first) := ho5.keep k2 hsl; have l3 : w5.cell? ⟨lg, 4, none⟩ = some (.int .i64 L.durable.size) := ho5.keep k3 hsl))
    have ho14 : Off None w1 w4 := ((Off.refl None w1).drew).trans ho4 (fun _ _ h => h)
    have hst5 := (HST1.out.quiet ho14).disk' hd5 ho5
    have hoF : Off F w w5 := (HO.out.mono (fun _ _ h => h.elim)).trans ((ho14.mono (fun _ _ h => h.elim) : Off F w1 w4).trans ((HST1.out.quiet ho14).offF ho5) (fun _ _ h => h)) (fun _ _ h => h)
    have hsz4 : w.heap.size ≤ w4.heap.size := Nat.le_trans HO.out.size ho14.size
    have HST5 := Lib.hid hst5
    have HOF := Lib.hid hoF
    clear hst5 hoF ho14 hd5 l1 l2 l3 k1 k2 k3 ho4 p0 p2 p3 p4 pf ho5
    obtain ⟨D', er, hda⟩ : ∃ D' er, D.cut (nameB L.durable.first) L.durable.size = (D', er) := ⟨_, _, rfl⟩
    rw [hda] at HST5 ⊢
    have HDA := Lib.hid hda; clear hda
    dsimp only at HST5 ⊢
    by_cases he : er = 0
    · subst he
      have hsp : L.undo D = ({ L with act := L.durable }, D', 0) := by
        unfold LogV.undo; rw [if_neg HSM.out, HDA.out]; dsimp only; rw [if_pos rfl]
      have HSP := Lib.hid hsp; clear hsp
      go_wp2_with fail
      obtain ⟨_, _, p2, p3, p4, _⟩ := HST5.out.log.own
      have hgl : lg ≠ g := fun e => HST5.out.log.ne e.symm
      have hac := fun W (hW : Off None w5 W) => active_any W lg d L g off cap (HST5.out.quiet hW).log
      have HAC := Lib.hid hac; clear hac
      go_region_held3 (fun W => W.cell? ⟨lg, 2, none⟩ = some (.int .u64 L.durable.first) ∧ W.cell? ⟨lg, 3, none⟩ = some (.int .i64 L.durable.many) ∧ W.cell? ⟨lg, 4, none⟩ = some (.int .i64 L.durable.size))
        (first | exact ⟨p2, p3, p4⟩ | exact ⟨keep_set3 k2 hgl, keep_set3 k3 hgl, keep_set3 k4 hgl⟩ | exact ⟨k2, k3, k4⟩)
        (first | (go_at_call 78; refine (HAC.out _ ((Off.refl None w5).drew)).mono ?_; rintro e w6 ⟨rfl, ho6⟩; have k2 : w6.cell? ⟨lg, 2, none⟩ = some (.int .u64 L.durable.first) := ho6.keep p2 (fun h => h); have k3 : w6.cell? ⟨lg, 3, none⟩ = some (.int .i64 L.durable.many) := ho6.keep p3 (fun h => h); have k4 : w6.cell? ⟨lg, 4, none⟩ = some (.int .i64 L.durable.size) := ho6.keep p4 (fun h => h); have hst6 := HST5.out.quiet (((Off.refl None w5).drew).trans ho6 (fun _ _ h => h)); have q0 := hst6.log.act.1; have q1 := hst6.log.act.2.1; have q2 := hst6.log.act.2.2.1; have f0 := hst6.log.act.2.2.2 (off * 3 + L.full.length * 3); have f1 := hst6.log.act.2.2.2 (off * 3 + L.full.length * 3 + 1); have f2 := hst6.log.act.2.2.2 (off * 3 + L.full.length * 3 + 2); have HST6 := Lib.hid hst6; clear hst6))
      have ho56 : Off None w5 w6 := ((Off.refl None w5).drew).trans ho6 (fun _ _ h => h)
      have HO6 := Lib.hid ho56
      clear ho56 ho6 k2 k3 k4 p2 p3 p4 q0 q1 q2 f0 f1 f2
      go_wp2
      go_ret
      rw [HSP.out]
      have hst7 := HST6.out.setAct L.durable
      have ho7 : Off F w6 _ := (((Off.refl F w6).setCell (p := ⟨g, off * 3 + L.full.length * 3, none⟩) (.inl HST1.out.inG) (.int .u64 L.durable.first)).setCell (p := ⟨g, off * 3 + L.full.length * 3 + 1, none⟩) (.inl HST1.out.inG) (.int .i64 L.durable.many)).setCell (p := ⟨g, off * 3 + L.full.length * 3 + 2, none⟩) (.inl HST1.out.inG) (.int .i64 L.durable.size)
      have hs6 := HO6.out.size
      refine ⟨rfl, ⟨g, cap, _, hst7.log, hst7.disk, hst7.sepL, hst7.sepG, .inl HST1.out.inL, .inl HST1.out.inG, fun b hb => ?_⟩, (HOF.out.trans (HO6.out.mono (fun _ _ h => h.elim)) (fun _ _ h => h)).trans ho7 (fun _ _ h => h)⟩
      rw [Grow, Heap.set_size, Heap.set_size, Heap.set_size]
      rcases hb with hb | hb
      · exact .inl (HST1.out.inD b hb)
      · exact .inr ⟨by omega, by omega⟩
    · have hsp : L.undo D = (L, D', er) := by
        unfold LogV.undo; rw [if_neg HSM.out, HDA.out]; dsimp only; rw [if_neg he]
      have HSP := Lib.hid hsp; clear hsp
      have t1 : (er != 0) = true := by rw [bne_iff_ne]; exact he
      go_wp2
      go_ret
      rw [HSP.out]
      refine ⟨rfl, ⟨g, cap, _, HST5.out.log, HST5.out.disk, HST5.out.sepL, HST5.out.sepG, .inl HST1.out.inL, .inl HST1.out.inG, fun b hb => ?_⟩, HOF.out⟩
      rcases hb with hb | hb
      · exact .inl (HST1.out.inD b hb)
      · exact .inr ⟨by omega, hb.2⟩
end Seg
end Go.Proofs.YtndgnlblbjpogaaGreatDoor
namespace Go.Proofs.YtndgnlblbjpogaaGreatDoor
open Go Go.RowKit
theorem flat_at (xs : List SegV) : ∀ i s, xs[i]? = some s → (xs.flatMap segCells)[i * 3]? = some (.int .u64 s.first) ∧ (xs.flatMap segCells)[i * 3 + 1]? = some (.int .i64 s.many) ∧ (xs.flatMap segCells)[i * 3 + 2]? = some (.int .i64 s.size) := by
  induction xs with
  | nil => intro i s h; simp at h
  | cons x r ih =>
    intro i s h
    cases i with
    | zero => simp at h; subst h; simp [segCells]
    | succ i =>
      have h' : r[i]? = some s := by simpa using h
      have := ih i s h'
      have e : (x :: r).flatMap segCells = [.int .u64 x.first, .int .i64 x.many, .int .i64 x.size] ++ r.flatMap segCells := rfl
      rw [e]
      refine ⟨?_, ?_, ?_⟩
      · rw [List.getElem?_append_right (by simp; omega), show (i + 1) * 3 - [Value.int .u64 x.first, .int .i64 x.many, .int .i64 x.size].length = i * 3 by simp; omega]; exact this.1
      · rw [List.getElem?_append_right (by simp; omega), show (i + 1) * 3 + 1 - [Value.int .u64 x.first, .int .i64 x.many, .int .i64 x.size].length = i * 3 + 1 by simp; omega]; exact this.2.1
      · rw [List.getElem?_append_right (by simp; omega), show (i + 1) * 3 + 2 - [Value.int .u64 x.first, .int .i64 x.many, .int .i64 x.size].length = i * 3 + 2 by simp; omega]; exact this.2.2
theorem flat_len (xs : List SegV) : (xs.flatMap segCells).length = xs.length * 3 := by
  induction xs with
  | nil => rfl
  | cons x r ih => rw [List.flatMap_cons, List.length_append, ih, List.length_cons]; simp [segCells]; omega
/-- A log that has perhaps no segment yet. -/
structure PreAt (w : World) (lg d : Nat) (xs : List SegV) (dur : SegV) (sv : Value) : Prop where
  core : w.heap[lg]? = some (.cells (logCells d sv dur) 112 (0, 0))
  row : w.ownsRow 0 81 3 sv xs.length (xs.flatMap segCells)
  ne : sv.ownBlock ≠ some lg
theorem PreAt.off {w w' : World} {lg d : Nat} {xs : List SegV} {dur : SegV} {sv : Value} {G : Nat → Prop} (h : PreAt w lg d xs dur sv) (ho : Off G w w') (hl : ¬ G lg) (hg : ∀ k, sv.ownBlock = some k → ¬ G k) : PreAt w' lg d xs dur sv :=
  ⟨ho.at_ h.core hl, ho.row h.row hg, h.ne⟩
theorem segRow_of {w : World} {g cap : Nat} {xs : List SegV} (h : w.ownsRow 0 81 3 (.slice (some ⟨g, 0, none⟩) xs.length cap) xs.length (xs.flatMap segCells)) (hp : xs ≠ []) : ∃ cur, SegRow w g 0 cap xs cur := by
  obtain ⟨h1, ⟨h2, h3⟩ | ⟨g', cap', cur, hv, _, hh, hle, hmx, hsz, ht⟩⟩ := h
  · exact absurd (List.eq_nil_of_length_eq_zero h3) hp
  · cases hv
    refine ⟨cur, hh, by rw [Nat.zero_add]; exact hsz, hle, hmx, ?_⟩
    intro i s hi
    have hlt : i < xs.length := (List.getElem?_eq_some_iff.1 hi).1
    have hf := flat_at xs i s hi
    rw [← ht] at hf
    rw [Nat.zero_add]
    simp only [← Array.getElem?_toList]
    rw [List.getElem?_take_of_lt (by omega), List.getElem?_take_of_lt (by omega), List.getElem?_take_of_lt (by omega)] at hf
    exact hf
theorem row_of_seg {w : World} {g cap : Nat} {xs : List SegV} {cur : Array Value} (h : SegRow w g 0 cap xs cur) : w.ownsRow 0 81 3 (.slice (some ⟨g, 0, none⟩) xs.length cap) xs.length (xs.flatMap segCells) := by
  have hsz := h.size
  rw [Nat.zero_add] at hsz
  refine ⟨flat_len xs, .inr ⟨g, cap, cur, rfl, Nat.zero_le _, h.blk, h.le, h.max, hsz, ?_⟩⟩
  apply List.ext_getElem?
  intro j
  by_cases hj : j < xs.length * 3
  · rw [List.getElem?_take_of_lt hj, Array.getElem?_toList]
    have hi : j / 3 < xs.length := by omega
    have hs := h.at_ (j / 3) xs[j / 3] (List.getElem?_eq_getElem hi)
    have hf := flat_at xs (j / 3) xs[j / 3] (List.getElem?_eq_getElem hi)
    rw [Nat.zero_add] at hs
    rcases (show j = j / 3 * 3 ∨ j = j / 3 * 3 + 1 ∨ j = j / 3 * 3 + 2 by omega) with e | e | e
    · rw [e]; exact hs.1.trans hf.1.symm
    · rw [e]; exact hs.2.1.trans hf.2.1.symm
    · rw [e]; exact hs.2.2.trans hf.2.2.symm
  · rw [List.getElem?_eq_none (by simp; omega), List.getElem?_eq_none (by rw [flat_len]; omega)]
theorem LogAt.pre {w : World} {lg d : Nat} {L : LogV} {g cap : Nat} (h : LogAt w lg d L g 0 cap) : PreAt w lg d L.segs L.durable (.slice (some ⟨g, 0, none⟩) L.segs.length cap) := by
  obtain ⟨cur, hr⟩ := h.row
  exact ⟨h.core, row_of_seg hr, fun e => by cases e; exact h.ne rfl⟩
theorem PreAt.log {w : World} {lg d g cap : Nat} {xs : List SegV} {a dur : SegV} (h : PreAt w lg d (xs ++ [a]) dur (.slice (some ⟨g, 0, none⟩) (xs.length + 1) cap)) : LogAt w lg d ⟨xs, a, dur⟩ g 0 cap := by
  have hl : (xs ++ [a]).length = xs.length + 1 := by simp
  have hr := h.row
  refine ⟨?_, segRow_of (xs := xs ++ [a]) (by rw [hl] at hr ⊢; exact hr) (by simp), fun e => h.ne (by rw [e]; rfl)⟩
  rw [LogV.len]; exact h.core
theorem PreAt.setDur {w : World} {lg d : Nat} {xs : List SegV} {dur : SegV} {sv : Value} (h : PreAt w lg d xs dur sv) (a : SegV) :
    PreAt (((w.setCell ⟨lg, 2, none⟩ (.int .u64 a.first)).setCell ⟨lg, 3, none⟩ (.int .i64 a.many)).setCell ⟨lg, 4, none⟩ (.int .i64 a.size)) lg d xs a sv :=
  ⟨(Heap.set (Heap.set (Heap.set h.core 2 _) 3 _) 4 _).trans rfl, ((((Off.refl (Only lg) w).set 2 (.int .u64 a.first)).set 3 (.int .i64 a.many)).set 4 (.int .i64 a.size)).row h.row (fun k hk e => h.ne (by rw [hk, show k = lg from e])), h.ne⟩
/-- What begin does: the disk, what errs, and whether the segment stands. -/
def DiskV.started (D : DiskV) (first : Nat) : DiskV × Int × Bool :=
  match D.create (Seg.nameB first) with
  | (D1, e) => if e = 0 then (D1.syncDir.1, D1.syncDir.2, true) else (D1, e, false)
theorem infoSeg : (Tryz.prog.info? 81).map (fun i => (i.zero, i.size, i.bytes)) = some (some (.agg #[.int .u64 0, .int .i64 0, .int .i64 0]), 3, 24) := by kernel_rfl
theorem elemSeg : ElemOk Tryz.prog 82 81 3 24 := .of Tryz.underlying82 infoSeg rfl (by decide) (by decide)
namespace Seg
set_option maxHeartbeats 1000000 in
set_option maxRecDepth 100000 in
theorem begin_any (w : World) (lg d n N : Nat) (xs : List SegV) (dur : SegV) (sv : Value) (D : DiskV) (Fd : Nat → Prop) (h : PreAt w lg d xs dur sv) (hd : DiskIn w d D Fd) (hsl : ¬ Fd lg) (hsg : ∀ k, sv.ownBlock = some k → ¬ Fd k)
    (hG : Glob n w) (hFb : ∀ b, Fd b → b < w.heap.size) (hl : Lim N D) (hx : xs.length ≤ 1000000) (first : Nat) (hf : first < 18446744073709551616) :
    Calls Tryz.prog 88 #[.pointer (some ⟨lg, 0, none⟩), .int .u64 first] w fun e w' =>
      e = .returned (.int .i64 (D.started first).2.1) ∧ DiskIn w' d (D.started first).1 (Grow Fd w w') ∧ Off (fun b => Fd b ∨ b = lg ∨ sv.ownBlock = some b) w w' ∧
      ((D.started first).2.2 = true → ∃ g cap Fd', LogAt w' lg d ⟨xs, ⟨first, 0, 0⟩, ⟨first, 0, 0⟩⟩ g 0 cap ∧ (sv.ownBlock = some g ∨ (w.heap.size ≤ g ∧ g < w'.heap.size)) ∧ DiskIn w' d (D.started first).1 Fd' ∧ ¬ Fd' lg ∧ ¬ Fd' g ∧ ∀ b, Fd' b → Grow Fd w w' b) ∧
      ((D.started first).2.2 = false → PreAt w' lg d xs dur sv) := by
  have HP := Lib.hid h; clear h
  have HD := Lib.hid hd; clear hd
  have HG := Lib.hid hG; clear hG
  have HL := Lib.hid hl; clear hl
  obtain ⟨D1, er, hcr⟩ : ∃ D1 er, D.create (nameB first) = (D1, er) := ⟨_, _, rfl⟩
  have p0 : w.cell? ⟨lg, 0, none⟩ = some (.pointer (some ⟨d, 0, none⟩)) := Heap.cell HP.out.core 0
  have hname := fun W (hW : Off None w W) => name_any W first hf (HG.out.none hW).pow
  have HNM := Lib.hid hname; clear hname
  have hdk := fun W (hW : Off None w W) => DiskW.create_any W d D Fd (HD.out.off hW (fun _ _ _ h => h)) (nameB first) (by rw [nameB_size hf]; decide) (by have := HL.out.names; have := HL.out.le; unfold maxLen; omega) (by have := HL.out.moves; have := HL.out.le; omega) (by have := HL.out.files; have := HL.out.le; omega)
  rw [hcr] at hdk
  have HDK := Lib.hid hdk; clear hdk
  have HCR := Lib.hid hcr; clear hcr
  go_enter Tryz.func88, Tryz.ntmps88
  go_wp2_with fail
  go_region_held3 (fun W => W.cell? ⟨lg, 0, none⟩ = some (.pointer (some ⟨d, 0, none⟩)))
    (first | exact p0 | exact l1 | exact k1)
    (first
      | (go_at_call 80; refine (HNM.out _ ((Off.refl None w).drew)).mono ?_; rintro e w4 ⟨rfl, ho4⟩; have k1 : w4.cell? ⟨lg, 0, none⟩ = some (.pointer (some ⟨d, 0, none⟩)) := ho4.keep p0 (fun h => h))
      | (go_at_call 120; refine (HDK.out w4 (((Off.refl None w).drew).trans ho4 (fun _ _ h => h))).mono ?_; rintro e w5 ⟨rfl, hd5, ho5⟩; have l1 : w5.cell? ⟨lg, 0, none⟩ = some (.pointer (some ⟨d, 0, none⟩)) := ho5.keep k1 hsl))
  have ho04 : Off None w w4 := ((Off.refl None w).drew).trans ho4 (fun _ _ h => h)
  have hp5 : PreAt w5 lg d xs dur sv := (HP.out.off ho04 (fun h => h) (fun _ _ h => h)).off ho5 hsl hsg
  have hof5 : Off Fd w w5 := (ho04.mono (fun _ _ h => h.elim) : Off Fd w w4).trans ho5 (fun _ _ h => h)
  have hd5' : DiskIn w5 d D1 (Grow Fd w w5) := hd5.mono (fun b _ hb => hb.imp id (fun x => ⟨Nat.le_trans ho04.size x.1, x.2⟩))
  have HP5 := Lib.hid hp5; have HO5 := Lib.hid hof5; have HD5 := Lib.hid hd5'
  clear hp5 hof5 hd5' hd5 ho5 ho04 ho4 k1 p0
  by_cases he : er = 0
  · subst he
    have hsp : D.started first = (D1.syncDir.1, D1.syncDir.2, true) := by unfold DiskV.started; rw [HCR.out]; dsimp only; rw [if_pos rfl]
    have HSP := Lib.hid hsp; clear hsp
    have q1 : w5.cell? ⟨lg, 1, none⟩ = some sv := Heap.cell HP5.out.core 1
    have q2 : w5.cell? ⟨lg, 2, none⟩ = some (.int .u64 dur.first) := Heap.cell HP5.out.core 2
    have q3 : w5.cell? ⟨lg, 3, none⟩ = some (.int .i64 dur.many) := Heap.cell HP5.out.core 3
    have q4 : w5.cell? ⟨lg, 4, none⟩ = some (.int .i64 dur.size) := Heap.cell HP5.out.core 4
    have f1 : w5.frozen? ⟨lg, 1, none⟩ = false := Heap.frozen HP5.out.core 1
    have f2 : w5.frozen? ⟨lg, 2, none⟩ = false := Heap.frozen HP5.out.core 2
    have f3 : w5.frozen? ⟨lg, 3, none⟩ = false := Heap.frozen HP5.out.core 3
    have f4 : w5.frozen? ⟨lg, 4, none⟩ = false := Heap.frozen HP5.out.core 4
    have hlt : lg < w5.heap.size := Heap.lt HP5.out.core
    go_wp2_with fail
    have hp6 := HP5.out.setDur ⟨first, 0, 0⟩
    have ho56 : Off (Only lg) w5 _ := (((Off.refl (Only lg) w5).set 2 (.int .u64 first)).set 3 (.int .i64 0)).set 4 (.int .i64 0)
    obtain ⟨w6, hw6⟩ : ∃ w6, w6 = ((w5.setCell ⟨lg, 2, none⟩ (.int .u64 first)).setCell ⟨lg, 3, none⟩ (.int .i64 0)).setCell ⟨lg, 4, none⟩ (.int .i64 0) := ⟨_, rfl⟩
    have hp6 : PreAt w6 lg d xs ⟨first, 0, 0⟩ sv := by rw [hw6]; exact hp6
    rw [← hw6] at ho56 ⊢
    have HP6 := Lib.hid hp6; have HO6 := Lib.hid ho56
    clear hw6 hp6 ho56 q1 q2 q3 q4 f1 f2 f3 f4
    have q1 : w6.cell? ⟨lg, 1, none⟩ = some sv := Heap.cell HP6.out.core 1
    have q2 : w6.cell? ⟨lg, 2, none⟩ = some (.int .u64 first) := Heap.cell HP6.out.core 2
    have q3 : w6.cell? ⟨lg, 3, none⟩ = some (.int .i64 0) := Heap.cell HP6.out.core 3
    have q4 : w6.cell? ⟨lg, 4, none⟩ = some (.int .i64 0) := Heap.cell HP6.out.core 4
    have qa : (w6.alloc (.cells #[.int .u64 first, .int .i64 0, .int .i64 0] 81)).cell? ⟨lg, 1, none⟩ = some sv := Heap.cell (Heap.alloc_old HP6.out.core _) 1
    have hrow := HP6.out.row
    have HR := Lib.hid hrow; clear hrow
    go_region_law ((refine step_push (W := w6.drew) (by rfl) _ _ (by rfl) elemSeg 0 sv xs.length (xs.flatMap segCells) (by rfl) HR.out #[.int .u64 first, .int .i64 0, .int .i64 0] (by rfl) rfl (by intro u hu; simp at hu; rcases hu with rfl | rfl <;> rfl) (by omega) (Nat.zero_le _) ?_; intro g cap w7 hrow7 hp7; have c7 : w7.cell? ⟨lg, 1, none⟩ = some sv := Heap.cell (hp7.keep _ _ HP6.out.core HP6.out.ne) 1; have f7 : w7.frozen? ⟨lg, 1, none⟩ = false := Heap.frozen (hp7.keep _ _ HP6.out.core HP6.out.ne) 1))
    all_goals
      have hlg7 := hp7.keep _ _ HP6.out.core HP6.out.ne
      have hlg8 : (w7.setCell ⟨lg, 1, none⟩ (.slice (some ⟨g, 0, none⟩) (xs.length + 1) cap)).heap[lg]? = some (.cells (logCells d (.slice (some ⟨g, 0, none⟩) (xs.length + 1) cap) ⟨first, 0, 0⟩) 112 (0, 0)) := (Heap.set hlg7 1 _).trans rfl
      have p8 : (w7.setCell ⟨lg, 1, none⟩ (.slice (some ⟨g, 0, none⟩) (xs.length + 1) cap)).cell? ⟨lg, 0, none⟩ = some (.pointer (some ⟨d, 0, none⟩)) := Heap.cell hlg8 0
      have hgl : g ≠ lg := by
        rcases hp7.from_ with h | h
        · intro e; exact HP6.out.ne (by rw [h, e])
        · have h1 : w6.heap.size < g := h; have := Heap.lt HP6.out.core; omega
      have hpa8 : PreAt (w7.setCell ⟨lg, 1, none⟩ (.slice (some ⟨g, 0, none⟩) (xs.length + 1) cap)) lg d (xs ++ [⟨first, 0, 0⟩]) ⟨first, 0, 0⟩ (.slice (some ⟨g, 0, none⟩) (xs.length + 1) cap) := by
        refine ⟨hlg8, ?_, fun e => hgl (by cases e; rfl)⟩
        have h := ((Off.refl (Only lg) w7).set 1 (.slice (some ⟨g, 0, none⟩) (xs.length + 1) cap)).row hrow7 (fun k hk e => by cases hk; exact hgl e)
        simpa [segCells] using h
      have ho68 : Off (fun b => b = lg ∨ sv.ownBlock = some b) w6 (w7.setCell ⟨lg, 1, none⟩ (.slice (some ⟨g, 0, none⟩) (xs.length + 1) cap)) :=
        ((((Off.refl _ w6).drew).trans hp7.off (fun _ _ h => h)).mono (fun _ _ h => .inr h)).setCell (p := ⟨lg, 1, none⟩) (.inl (.inl rfl)) _
      have hd8 : DiskIn (w7.setCell ⟨lg, 1, none⟩ (.slice (some ⟨g, 0, none⟩) (xs.length + 1) cap)) d D1 (Grow Fd w w5) :=
        (HD5.out.off HO6.out (fun b hb1 hb e => by
          have e : b = lg := e
          subst e
          rcases hb with hb | hb
          · exact hsl hb
          · have := Heap.lt HP.out.core; omega)).off ho68 (fun b hb1 hb e => by
          have hlgw := Heap.lt HP.out.core
          rcases e with e | e
          · subst e
            rcases hb with hb | hb
            · exact hsl hb
            · omega
          · have h2 := row_lt HP.out.row e
            rcases hb with hb | hb
            · exact hsg b e hb
            · omega)
      have HPA := Lib.hid hpa8; have HO8 := Lib.hid ho68; have HD8 := Lib.hid hd8
      clear hlg7 hlg8 hpa8 ho68 hd8
      go_wp2_with fail
      refine (DiskW.syncDir_any _ d D1 _ HD8.out).mono ?_
      rintro e w9 ⟨rfl, hd9, ho9⟩
      have HD9 := Lib.hid hd9; have HO9 := Lib.hid ho9
      clear hd9 ho9
      go_wp2
      go_ret
      rw [HSP.out]
      have hlgw := Heap.lt HP.out.core
      have hs5 := HO5.out.size
      have hs6 := HO6.out.size
      have hs8 := HO8.out.size
      have hs9 := HO9.out.size
      have hgw : sv.ownBlock = some g ∨ w5.heap.size < g := hp7.from_.imp id (fun h => by have h : w6.heap.size < g := h; omega)
      have hgl8 : g < (w7.setCell ⟨lg, 1, none⟩ (.slice (some ⟨g, 0, none⟩) (xs.length + 1) cap)).heap.size := by rw [Heap.set_size]; exact hp7.lt
      have hFl : ¬ Grow Fd w w5 lg := fun h => h.elim hsl (fun h => by omega)
      have hFg : ¬ Grow Fd w w5 g := fun h => by
        rcases hgw with h1 | h1
        · have := row_lt HP.out.row h1
          exact h.elim (hsg g h1) (fun h => by omega)
        · rcases h with h | h
          · have := hFb g h; omega
          · omega
      have hup : ∀ b, Grow (Grow Fd w w5) (w7.setCell ⟨lg, 1, none⟩ (.slice (some ⟨g, 0, none⟩) (xs.length + 1) cap)) w9 b → Grow Fd w w9 b := fun b hb => by
        rcases hb with (hb | hb) | hb
        · exact .inl hb
        · exact .inr ⟨hb.1, by omega⟩
        · exact .inr ⟨by omega, hb.2⟩
      have hpre9 := HPA.out.off HO9.out hFl (fun k hk => by cases hk; exact hFg)
      refine ⟨rfl, HD9.out.mono (fun b _ hb => hup b hb), ?_, fun _ => ⟨g, cap, _, hpre9.log, hp7.from_.imp id (fun h => ?_), HD9.out, fun h => h.elim hFl (fun h => by omega), fun h => h.elim hFg (fun h => by omega), hup⟩, fun h => by cases h⟩
      · refine ((HO5.out.mono (fun _ _ h => .inl h)).trans ((HO6.out.mono (fun _ _ h => .inr (.inl h)) : Off (fun b => Fd b ∨ b = lg ∨ sv.ownBlock = some b) w5 w6).trans (HO8.out.mono (fun _ _ h => .inr h)) (fun _ _ h => h)) (fun _ _ h => h)).trans HO9.out (fun b hb h => ?_)
        rcases h with h | h
        · exact .inl h
        · omega
      · have h : w6.heap.size < g := h
        exact ⟨by omega, by omega⟩
  · have hsp : D.started first = (D1, er, false) := by unfold DiskV.started; rw [HCR.out]; dsimp only; rw [if_neg he]
    have HSP := Lib.hid hsp; clear hsp
    have t1 : (er != 0) = true := by rw [bne_iff_ne]; exact he
    go_wp2
    go_ret
    rw [HSP.out]
    exact ⟨rfl, HD5.out, HO5.out.mono (fun _ _ h => .inl h), (fun h => by cases h), fun _ => HP5.out⟩
end Seg
end Go.Proofs.YtndgnlblbjpogaaGreatDoor
namespace Go.Proofs.YtndgnlblbjpogaaGreatDoor
open Go Go.RowKit
namespace LogV
/-- What Roll does. -/
def roll (L : LogV) (D : DiskV) : LogV × DiskV × Int :=
  if L.act.many = 0 then (L, D, 0)
  else match D.sync (Seg.nameB L.act.first) with
    | (D1, e) =>
      if e = 0 then
        match D1.started L.act.end_ with
        | (D2, e2, st) => if st = true then (⟨L.segs, ⟨L.act.end_, 0, 0⟩, ⟨L.act.end_, 0, 0⟩⟩, D2, e2) else ({ L with durable := L.act }, D2, e2)
      else (L, D1, e)
end LogV
theorem lim_begin {N : Nat} {D : DiskV} (h : Lim N D) : Lim N D.begin.1 := by
  have h1 := DiskW.begin_len D
  exact ⟨h.le, by rw [h1.2.1]; exact h.files, by rw [h1.1]; exact h.names, by rw [h1.2.2]; exact h.moves, by rw [h1.2.1]; exact h.each⟩
theorem lim_sync {N : Nat} {D : DiskV} (h : Lim N D) (name : ByteArray) : Lim N (D.sync name).1 := by
  have h1 := DiskW.find_len D name
  unfold DiskV.sync
  obtain ⟨D1, oi, er, hfd⟩ : ∃ D1 oi er, D.find name = (D1, oi, er) := ⟨_, _, _, rfl⟩
  rw [hfd] at h1 ⊢
  dsimp only at h1
  have hD1 : Lim N D1 := ⟨h.le, by rw [h1.2.1]; exact h.files, by rw [h1.1]; exact h.names, by rw [h1.2.2]; exact h.moves, by rw [h1.2.1]; exact h.each⟩
  have hfs := DiskW.fails_same D1
  have hDf : Lim N D1.fails.1 := ⟨h.le, by rw [hfs.2.1]; exact hD1.files, by rw [hfs.1]; exact hD1.names, by rw [hfs.2.2.2.1]; exact hD1.moves, by rw [hfs.2.1]; exact hD1.each⟩
  cases oi with
  | none => exact hD1
  | some i =>
    dsimp only
    split
    · exact hDf
    · cases hf : D1.files[i]? with
      | none => exact hD1
      | some f =>
        dsimp only
        refine ⟨h.le, by show (D1.fails.1.files.set i _).length ≤ N; rw [List.length_set]; exact hDf.files, hDf.names, hDf.moves, ?_⟩
        intro f' hf'
        have hf' : f' ∈ D1.fails.1.files.set i ⟨f.now, f.now, []⟩ := hf'
        rcases List.mem_or_eq_of_mem_set hf' with hm | hm
        · exact hDf.each f' hm
        · subst hm
          exact ⟨Nat.zero_le _, (hD1.each f (List.mem_of_getElem? hf)).2⟩
namespace Seg
set_option maxHeartbeats 2000000 in
set_option maxRecDepth 100000 in
theorem roll_any (w : World) (lg d n N : Nat) (L : LogV) (D : DiskV) (F : Nat → Prop) (h : Store w lg d L D F 0) (hG : Glob n w) (hF : ∀ b, F b → n ≤ b) (hok : L.Ok) (hl : Lim N D) (hx : L.segs.length ≤ 1000000) :
    Calls Tryz.prog 57 #[.pointer (some ⟨lg, 0, none⟩)] w fun e w' =>
      e = .returned (.int .i64 (L.roll D).2.2) ∧ Store w' lg d (L.roll D).1 (L.roll D).2.1 (Grow F w w') 0 ∧ Off F w w' := by
  obtain ⟨off, hoff⟩ : ∃ off : Nat, off = 0 := ⟨0, rfl⟩
  rw [← hoff] at h
  have H0 := Lib.hid hoff; clear hoff
  obtain ⟨g, cap, Fd, hst⟩ := h
  have HST := Lib.hid hst; clear hst
  have HGL := Lib.hid hG; clear hG
  have HFN := Lib.hid hF; clear hF
  have HOK := Lib.hid hok; clear hok
  have HL := Lib.hid hl; clear hl
  go_enter Tryz.func57, Tryz.ntmps57
  go_wp2_with fail
  refine (active_any _ lg d L g off cap HST.out.log).mono ?_
  rintro e w1 ⟨rfl, ho1⟩
  have hst1 := HST.out.quiet ho1
  obtain ⟨q0, q1, q2, qf⟩ := hst1.log.act
  have p0 : w1.cell? ⟨lg, 0, none⟩ = some (.pointer (some ⟨d, 0, none⟩)) := hst1.log.own.1
  have HST1 := Lib.hid hst1; have HO1 := Lib.hid ho1
  clear hst1 ho1
  by_cases hm : L.act.many = 0
  · have hsp : L.roll D = (L, D, 0) := by unfold LogV.roll; rw [if_pos hm]
    have HSP := Lib.hid hsp; clear hsp
    rw [hm] at q1
    go_wp2
    go_ret
    rw [HSP.out]
    rw [← H0.out]
    exact ⟨rfl, ⟨g, cap, Fd, HST1.out.log, HST1.out.disk, HST1.out.sepL, HST1.out.sepG, .inl HST1.out.inL, .inl HST1.out.inG, fun b hb => .inl (HST1.out.inD b hb)⟩, HO1.out.mono (fun _ _ h => h.elim)⟩
  · have t0 : ((L.act.many : Int) == 0) = false := by rw [beq_eq_false_iff_ne]; omega
    go_wp2_with fail
    have hfst : L.act.first < 18446744073709551616 := by have := HOK.out.act.sum; omega
    have hac := fun W (hW : Off None w1 W) => active_any W lg d L g off cap (HST1.out.quiet hW).log
    have HAC := Lib.hid hac; clear hac
    have hname := fun W (hW : Off None w1 W) => name_any W L.act.first hfst ((HGL.out.none HO1.out).none hW).pow
    have HNM := Lib.hid hname; clear hname
    have hdk := fun W (hW : Off None w1 W) => DiskW.sync_any W d D Fd (HST1.out.disk.off hW (fun _ _ _ h => h)) (nameB L.act.first) (by rw [nameB_size hfst]; decide)
    have HDK := Lib.hid hdk; clear hdk
    have hsl := HST1.out.sepL
    have hsg := HST1.out.sepG
    clear q1 q2 qf t0
    go_region_held3 (fun W => W.cell? ⟨lg, 0, none⟩ = some (.pointer (some ⟨d, 0, none⟩)) ∧ W.cell? ⟨g, off * 3 + L.full.length * 3, none⟩ = some (.int .u64 L.act.first))
      (first | exact ⟨p0, q0⟩ | exact ⟨l1, l2⟩ | exact ⟨k1, k2⟩ | exact ⟨j1, j2⟩)
      (first
        | (go_at_call 78; refine (HAC.out _ ((Off.refl None w1).drew)).mono ?_; rintro e w3 ⟨rfl, ho3⟩; have j1 : w3.cell? ⟨lg, 0, none⟩ = some (.pointer (some ⟨d, 0, none⟩)) := ho3.keep p0 (fun h => h); have j2 : w3.cell? ⟨g, off * 3 + L.full.length * 3, none⟩ = some (.int .u64 L.act.first) := ho3.keep q0 (fun h => h); have ho13 : Off None w1 w3 := ((Off.refl None w1).drew).trans ho3 (fun _ _ h => h); clear ho3)
        | (go_at_call 80; refine (HNM.out w3 ho13).mono ?_; rintro e w4 ⟨rfl, ho4⟩; have k1 : w4.cell? ⟨lg, 0, none⟩ = some (.pointer (some ⟨d, 0, none⟩)) := ho4.keep j1 (fun h => h); have k2 : w4.cell? ⟨g, off * 3 + L.full.length * 3, none⟩ = some (.int .u64 L.act.first) := ho4.keep j2 (fun h => h); have ho14 : Off None w1 w4 := ho13.trans ho4 (fun _ _ h => h); clear ho4 ho13)
        | (go_at_call 79; refine (HDK.out w4 ho14).mono ?_; rintro e w5 ⟨rfl, hd5, ho5⟩; have l1 : w5.cell? ⟨lg, 0, none⟩ = some (.pointer (some ⟨d, 0, none⟩)) := ho5.keep k1 hsl; have l2 : w5.cell? ⟨g, off * 3 + L.full.length * 3, none⟩ = some (.int .u64 L.act.first) := ho5.keep k2 hsg))
    have hst5 := (HST1.out.quiet ho14).disk' hd5 ho5
    have hoF : Off F w w5 := (HO1.out.mono (fun _ _ h => h.elim)).trans ((ho14.mono (fun _ _ h => h.elim) : Off F w1 w4).trans ((HST1.out.quiet ho14).offF ho5) (fun _ _ h => h)) (fun _ _ h => h)
    have hsz4 : w.heap.size ≤ w4.heap.size := Nat.le_trans HO1.out.size ho14.size
    have HST5 := Lib.hid hst5
    have HOF := Lib.hid hoF
    have HS5 := Lib.hid ho5.size
    clear hst5 hoF ho14 hd5 l1 l2 k1 k2 j1 j2 p0 q0 ho5
    obtain ⟨D', er, hda⟩ : ∃ D' er, D.sync (nameB L.act.first) = (D', er) := ⟨_, _, rfl⟩
    have hlim := lim_sync HL.out (nameB L.act.first)
    rw [hda] at HST5 hlim ⊢
    dsimp only at HST5 hlim ⊢
    have HLM := Lib.hid hlim; clear hlim
    have HDA := Lib.hid hda; clear hda
    by_cases he : er = 0
    · subst he
      go_wp2_with fail
      refine (active_any _ lg d L g off cap HST5.out.log).mono ?_
      rintro e w6 ⟨rfl, ho6⟩
      have hst6 := HST5.out.quiet ho6
      obtain ⟨q0, q1, q2, qf⟩ := hst6.log.act
      obtain ⟨p0, p1, p2, p3, p4, pf⟩ := hst6.log.own
      have pf2 := pf 2
      have pf3 := pf 3
      have pf4 := pf 4
      have hst7 := hst6.setDur L.act
      obtain ⟨w7, hw7⟩ : ∃ w7, w7 = ((w6.setCell ⟨lg, 2, none⟩ (.int .u64 L.act.first)).setCell ⟨lg, 3, none⟩ (.int .i64 L.act.many)).setCell ⟨lg, 4, none⟩ (.int .i64 L.act.size) := ⟨_, rfl⟩
      have ho67 : Off (Only lg) w6 w7 := by rw [hw7]; exact (((Off.refl (Only lg) w6).set 2 _).set 3 _).set 4 _
      rw [← hw7] at hst7
      have hok7 : ({ L with durable := L.act } : LogV).Ok := ⟨HOK.out.segs, HOK.out.act⟩
      have HST6 := Lib.hid hst6; have HO6 := Lib.hid ho6; have HST7 := Lib.hid hst7; have HO7 := Lib.hid ho67; have HW7 := Lib.hid hw7; have HOK7 := Lib.hid hok7
      clear hst6 ho6 hst7 ho67 hw7 hok7 pf p0 p1
      go_wp2_with fail
      rw [← HW7.out]
      refine (next_any _ lg d { L with durable := L.act } g off cap HST7.out.log HOK7.out).mono ?_
      rintro e w8 ⟨rfl, ho8⟩
      have HO8 := Lib.hid ho8
      have HST8 := Lib.hid (HST7.out.quiet ho8)
      clear ho8 q0 q1 q2 qf p2 p3 p4 pf2 pf3 pf4
      go_wp2_with fail
      have hst8 := HST8.out
      have hoff := H0.out
      subst hoff
      have hd8 : DiskIn w8 d D' (fun b => Grow Fd w4 w5 b ∧ b < w8.heap.size) := hst8.disk.mono (fun b hb h => ⟨h, hb⟩)
      have hlt8 := hst8.log.lts
      have hglob8 : Glob n w8 := HGL.out.off (((HOF.out.trans (HO6.out.mono (fun _ _ h => h.elim) : Off F w5 w6) (fun _ _ h => h)).trans (HO7.out.mono (fun b _ e => by rw [show b = lg from e]; exact HST1.out.inL) : Off F w6 w7) (fun _ _ h => h)).trans (HO8.out.mono (fun _ _ h => h.elim) : Off F w7 w8) (fun _ _ h => h)) HFN.out
      have hbeg := begin_any w8 lg d n N L.segs L.act _ D' _ hst8.log.pre hd8 (fun h => hst8.sepL h.1) (fun k hk h => by cases hk; exact hst8.sepG h.1) hglob8 (fun b h => h.2) HLM.out hx L.act.end_ HOK.out.act.sum
      refine hbeg.mono ?_
      rintro e w9 ⟨rfl, hd9, ho9, hyes, hno⟩
      have HD9 := Lib.hid hd9; have HO9 := Lib.hid ho9; have HY := Lib.hid hyes; have HNO := Lib.hid hno; have HL8 := Lib.hid hlt8; have HS8 := Lib.hid hst8
      clear hd9 ho9 hyes hno hbeg hd8 hglob8 hlt8 hst8
      obtain ⟨D2, e2, st, hst⟩ : ∃ D2 e2 st, D'.started L.act.end_ = (D2, e2, st) := ⟨_, _, _, rfl⟩
      rw [hst] at HD9 HY HNO ⊢
      dsimp only at HD9 HY HNO ⊢
      have HSTA := Lib.hid hst; clear hst
      go_wp2
      go_ret
      have hoF9 : Off F w w9 := by
        refine (((HOF.out.trans (HO6.out.mono (fun _ _ h => h.elim) : Off F w5 w6) (fun _ _ h => h)).trans (HO7.out.mono (fun b _ e => by rw [show b = lg from e]; exact HST1.out.inL) : Off F w6 w7) (fun _ _ h => h)).trans (HO8.out.mono (fun _ _ h => h.elim) : Off F w7 w8) (fun _ _ h => h)).trans HO9.out (fun b hb h => ?_)
        rcases h with h | h | h
        · rcases h.1 with h | h
          · exact HST1.out.inD b h
          · omega
        · rw [h]; exact HST1.out.inL
        · cases h; exact HST1.out.inG
      have hs49 : w4.heap.size ≤ w5.heap.size ∧ w5.heap.size ≤ w8.heap.size ∧ w8.heap.size ≤ w9.heap.size := ⟨HS5.out, Nat.le_trans HO6.out.size (Nat.le_trans HO7.out.size HO8.out.size), HO9.out.size⟩
      have hupF : ∀ b, Grow (fun b => Grow Fd w4 w5 b ∧ b < w8.heap.size) w8 w9 b → Grow F w w9 b := fun b hb => by
        rcases hb with ⟨hb, hb2⟩ | hb
        · rcases hb with hb | hb
          · exact .inl (HST1.out.inD b hb)
          · exact .inr ⟨by omega, by omega⟩
        · exact .inr ⟨by omega, hb.2⟩
      cases st with
      | true =>
        have hsp : L.roll D = (⟨L.segs, ⟨L.act.end_, 0, 0⟩, ⟨L.act.end_, 0, 0⟩⟩, D2, e2) := by
          unfold LogV.roll; rw [if_neg hm, HDA.out]; dsimp only; rw [if_pos rfl, HSTA.out]; dsimp only; rw [if_pos rfl]
        rw [hsp]
        obtain ⟨g', cap', Fd', hl9, hg9, hd9, hsl9, hsg9, hup9⟩ := HY.out rfl
        refine ⟨rfl, ⟨g', cap', Fd', hl9, hd9, hsl9, hsg9, .inl HST1.out.inL, ?_, fun b hb => hupF b (hup9 b hb)⟩, hoF9⟩
        rcases hg9 with h | h
        · cases h; exact .inl HST1.out.inG
        · exact .inr ⟨by omega, h.2⟩
      | false =>
        have hsp : L.roll D = ({ L with durable := L.act }, D2, e2) := by
          unfold LogV.roll; rw [if_neg hm, HDA.out]; dsimp only; rw [if_pos rfl, HSTA.out]; dsimp only; rw [if_neg (by decide)]
        rw [hsp]
        have hp9 := HNO.out rfl
        rw [LogV.len] at hp9
        have hl9 : LogAt w9 lg d { L with durable := L.act } g 0 cap := hp9.log
        refine ⟨rfl, ⟨g, cap, _, hl9, HD9.out, ?_, ?_, .inl HST1.out.inL, .inl HST1.out.inG, hupF⟩, hoF9⟩
        · intro h
          rcases h with h | h
          · exact HS8.out.sepL h.1
          · have := HL8.out.1; omega
        · intro h
          rcases h with h | h
          · exact HS8.out.sepG h.1
          · have := HL8.out.2; omega
    · have hsp : L.roll D = (L, D', er) := by
        unfold LogV.roll; rw [if_neg hm, HDA.out]; dsimp only; rw [if_neg he]
      have HSP := Lib.hid hsp; clear hsp
      have t1 : (er != 0) = true := by rw [bne_iff_ne]; exact he
      go_wp2
      go_ret
      rw [HSP.out]
      rw [← H0.out]
      refine ⟨rfl, ⟨g, cap, _, HST5.out.log, HST5.out.disk, HST5.out.sepL, HST5.out.sepG, .inl HST1.out.inL, .inl HST1.out.inG, fun b hb => ?_⟩, HOF.out⟩
      rcases hb with hb | hb
      · exact .inl (HST1.out.inD b hb)
      · exact .inr ⟨by omega, hb.2⟩
end Seg
end Go.Proofs.YtndgnlblbjpogaaGreatDoor
