/- A log on its disk: the walks of Append, Sync, Undo. -/
import Derived.Test.YtnppdcegpojmbaaGreatDoorSegIn
namespace Go.Proofs.YtnppdcegpojmbaaGreatDoor
open Go Go.RowKit
theorem Off.keep {G : Nat → Prop} {w w' : World} {a : Addr} {v : Value} (h : Off G w w') (hc : w.cell? a = some v) (hn : ¬ G a.block) : w'.cell? a = some v := (h.cell (Heap.block_lt hc) hn).trans hc
theorem set_same {cs : Array Value} {i : Nat} {v : Value} (h : cs[i]? = some v) : cs.setIfInBounds i v = cs := by
  apply Array.ext_getElem?
  intro j
  rw [Array.getElem?_setIfInBounds]
  split
  · rename_i e; subst e
    rw [h, if_pos (Array.getElem?_eq_some_iff.1 h).1]
  · rfl
/-- Of the active segment two numbers have turned. -/
theorem LogAt.grow {w : World} {lg d : Nat} {L : LogV} {g off cap : Nat} (h : LogAt w lg d L g off cap) (m z : Nat) :
    LogAt ((w.setCell ⟨g, off * 3 + L.full.length * 3 + 1, none⟩ (.int .i64 m)).setCell ⟨g, off * 3 + L.full.length * 3 + 2, none⟩ (.int .i64 z)) lg d { L with act := ⟨L.act.first, m, z⟩ } g off cap := by
  refine h.setAct ⟨L.act.first, m, z⟩ ?_ ?_
  · rw [Heap.set_far (Ne.symm h.ne), Heap.set_far (Ne.symm h.ne)]
  · intro cur hcur
    have h0 := h.act.1
    rw [Heap.cell hcur] at h0
    rw [set_same h0]
    exact Heap.set (Heap.set hcur _ _) _ _
/-- Bounds of a disk. -/
structure Lim (N : Nat) (D : DiskV) : Prop where
  le : N ≤ 1000000
  files : D.files.length ≤ N
  names : D.names.length ≤ N
  moves : D.moves.length ≤ N
  each : ∀ f ∈ D.files, f.chgs.length ≤ N ∧ f.now.size ≤ N * 3000
theorem total_le (m : NMap) (f : Nat → Nat) (b : Nat) (h : ∀ i, f i ≤ b) : m.total f ≤ m.length * b := by
  induction m with
  | nil => simp [NMap.total]
  | cons p r ih =>
    have := h p.2
    unfold NMap.total at ih ⊢
    rw [List.map_cons, List.sum_cons, List.length_cons, Nat.add_mul]
    omega
theorem Lim.used {N : Nat} {D : DiskV} (h : Lim N D) : D.used ≤ 9223372036854775807 := by
  have h1 : ∀ i, D.sizeAt i ≤ N * 3000 := fun i => by
    unfold DiskV.sizeAt
    cases hf : D.files[i]? with
    | none => simp
    | some f => exact (h.each f (List.mem_of_getElem? hf)).2
  have h2 := total_le D.names D.sizeAt (N * 3000) h1
  have h3 : D.names.length * (N * 3000) ≤ 1000000 * (1000000 * 3000) := Nat.mul_le_mul (Nat.le_trans h.names h.le) (Nat.mul_le_mul_right _ h.le)
  unfold DiskV.used
  omega
structure StoreAt (w : World) (lg d : Nat) (L : LogV) (D : DiskV) (F : Nat → Prop) (g off cap : Nat) (Fd : Nat → Prop) : Prop where
  log : LogAt w lg d L g off cap
  disk : DiskIn w d D Fd
  sepL : ¬ Fd lg
  sepG : ¬ Fd g
  inL : F lg
  inG : F g
  inD : ∀ b, Fd b → F b
def Store (w : World) (lg d : Nat) (L : LogV) (D : DiskV) (F : Nat → Prop) (off : Nat) : Prop := ∃ g cap Fd, StoreAt w lg d L D F g off cap Fd
theorem StoreAt.quiet {w w' : World} {lg d : Nat} {L : LogV} {D : DiskV} {F : Nat → Prop} {g off cap : Nat} {Fd : Nat → Prop} (h : StoreAt w lg d L D F g off cap Fd) (ho : Off None w w') : StoreAt w' lg d L D F g off cap Fd :=
  ⟨h.log.off ho (fun h => h) (fun h => h), h.disk.off ho (fun _ _ _ h => h), h.sepL, h.sepG, h.inL, h.inG, h.inD⟩
theorem LogAt.lts {w : World} {lg d : Nat} {L : LogV} {g off cap : Nat} (h : LogAt w lg d L g off cap) : lg < w.heap.size ∧ g < w.heap.size := by
  obtain ⟨cur, hr⟩ := h.row
  exact ⟨Heap.lt h.core, Heap.lt hr.blk⟩
/-- Behind an operation of the disk. -/
theorem StoreAt.disk' {w w' : World} {lg d : Nat} {L : LogV} {D D' : DiskV} {F : Nat → Prop} {g off cap : Nat} {Fd : Nat → Prop} (h : StoreAt w lg d L D F g off cap Fd) (hd : DiskIn w' d D' (Grow Fd w w')) (ho : Off Fd w w') :
    StoreAt w' lg d L D' (Grow F w w') g off cap (Grow Fd w w') := by
  have hl := h.log.lts
  exact ⟨h.log.off ho h.sepL h.sepG, hd, fun x => x.elim h.sepL (fun x => by omega), fun x => x.elim h.sepG (fun x => by omega), .inl h.inL, .inl h.inG, fun b hb => hb.imp (h.inD b) id⟩
theorem StoreAt.offF {w w' : World} {lg d : Nat} {L : LogV} {D : DiskV} {F : Nat → Prop} {g off cap : Nat} {Fd : Nat → Prop} (h : StoreAt w lg d L D F g off cap Fd) (ho : Off Fd w w') : Off F w w' := ho.mono fun b _ hb => h.inD b hb
theorem StoreAt.grow {w : World} {lg d : Nat} {L : LogV} {D : DiskV} {F : Nat → Prop} {g off cap : Nat} {Fd : Nat → Prop} (h : StoreAt w lg d L D F g off cap Fd) (m z : Nat) :
    StoreAt ((w.setCell ⟨g, off * 3 + L.full.length * 3 + 1, none⟩ (.int .i64 m)).setCell ⟨g, off * 3 + L.full.length * 3 + 2, none⟩ (.int .i64 z)) lg d { L with act := ⟨L.act.first, m, z⟩ } D F g off cap Fd :=
  ⟨h.log.grow m z, h.disk.off (((Off.refl (Only g) w).set _ _).set _ _) (fun b _ hb e => h.sepG (by rw [← show b = g from e]; exact hb)), h.sepL, h.sepG, h.inL, h.inG, h.inD⟩
namespace LogV
/-- What Append does. -/
def append (L : LogV) (D : DiskV) (body : ByteArray) : LogV × DiskV × Nat × Int :=
  if 2000 < body.size then (L, D, 0, 7)
  else
    let s : ByteArray := ⟨(Frame.putF L.act.end_ body.data.toList).toArray⟩
    match D.append (Seg.nameB L.act.first) s with
    | (D', e) => if e = 0 then ({ L with act := ⟨L.act.first, L.act.many + 1, L.act.size + s.size⟩ }, D', L.act.end_, 0) else (L, D', 0, e)
end LogV
namespace Seg
theorem nameB_size {u : Nat} (hu : u < 18446744073709551616) : (nameB u).size = 21 := nameL_length hu
set_option maxHeartbeats 1000000 in
set_option maxRecDepth 100000 in
theorem append_any (w : World) (lg d n N : Nat) (L : LogV) (D : DiskV) (F : Nat → Prop) (off : Nat) (h : Store w lg d L D F off) (hG : Glob n w) (hF : ∀ b, F b → n ≤ b) (hok : L.Ok) (hl : Lim N D) (hm : L.act.many < 1000000) (hz : L.act.size ≤ 1000000000) (hs : L.act.first + L.act.many < 9223372036854775808)
    (body : ByteArray) (hb : body.size ≤ 140737488355328) :
    Calls Tryz.prog 13 #[.pointer (some ⟨lg, 0, none⟩), .string body] w fun e w' =>
      e = .returned (.tuple #[.int .u64 (L.append D body).2.2.1, .int .i64 (L.append D body).2.2.2]) ∧ Store w' lg d (L.append D body).1 (L.append D body).2.1 (Grow F w w') off ∧ Off F w w' := by
  obtain ⟨g, cap, Fd, hst⟩ := h
  have HST := Lib.hid hst; clear hst
  have HGL := Lib.hid hG; clear hG
  have HFN := Lib.hid hF; clear hF
  have HOK := Lib.hid hok; clear hok
  have HL := Lib.hid hl; clear hl
  have hend : L.act.end_ < 18446744073709551616 := HOK.out.act.sum
  have hfst : L.act.first < 18446744073709551616 := by have := HOK.out.act.sum; omega
  go_enter Tryz.func13, Tryz.ntmps13
  go_wp2_with fail
  refine (active_any _ lg d L g off cap HST.out.log).mono ?_
  rintro e w1 ⟨rfl, ho1⟩
  obtain ⟨c0, c1, c2, f0⟩ := (HST.out.quiet ho1).log.act
  go_wp2_with fail
  refine (end_any _ L.act HOK.out.act).mono ?_
  rintro e w2 ⟨rfl, ho2⟩
  have ho12 := ho1.trans ho2 (fun _ _ h => h)
  clear c0 c1 c2 f0 ho1 ho2
  go_wp2_with fail
  refine (Frame.put_any _ L.act.end_ body hend hb (HGL.out.none ho12).crc).mono ?_
  rintro e w3 ⟨rfl, ho3⟩
  have ho13 := ho12.trans ho3 (fun _ _ h => h)
  clear ho12 ho3
  have hst3 := HST.out.quiet ho13
  obtain ⟨c0, c1, c2, f0⟩ := hst3.log.act
  have cd : w3.cell? ⟨lg, 0, none⟩ = some (.pointer (some ⟨d, 0, none⟩)) := Heap.cell hst3.log.core 0
  have HS3 := Lib.hid hst3; clear hst3
  have HO := Lib.hid ho13; clear ho13
  by_cases hbig : 2000 < body.size
  · have hsp : L.append D body = (L, D, 0, 7) := by unfold LogV.append; rw [if_pos hbig]
    have HSP := Lib.hid hsp; clear hsp
    rw [if_pos (show Frame.MaxBody < body.size from hbig)]
    go_wp2
    go_ret2
    rw [HSP.out]
    obtain ⟨h1, h2, h3, h4, h5, h6, h7⟩ := HS3.out
    exact ⟨rfl, ⟨g, cap, Fd, h1, h2, h3, h4, .inl h5, .inl h6, fun b hb => .inl (h7 b hb)⟩, HO.out.mono (fun _ _ h => h.elim)⟩
  · rw [if_neg (show ¬ Frame.MaxBody < body.size from hbig)]
    have hfl := Frame.putF_len L.act.end_ body.data.toList hend (by show body.data.toList.length ≤ 2000; rw [show body.data.toList.length = body.size from Array.length_toList]; omega)
    have hfl2 : (Frame.putF L.act.end_ body.data.toList).length ≤ 2024 := by rw [show body.data.toList.length = body.size from Array.length_toList] at hfl; omega
    obtain ⟨s, hsd⟩ : ∃ s : ByteArray, s = ⟨(Frame.putF L.act.end_ body.data.toList).toArray⟩ := ⟨_, rfl⟩
    have hss : s.size ≤ 2024 := by rw [hsd]; exact hfl2
    rw [← hsd]
    have HSD := Lib.hid hsd; clear hsd hfl hfl2
    have hname := fun W (hW : Off None w3 W) => name_any W L.act.first hfst ((HGL.out.none HO.out).none hW).pow
    have HNM := Lib.hid hname; clear hname
    have happ := fun W (hW : Off None w3 W) => DiskW.append_any W d D Fd (HS3.out.disk.off hW (fun _ _ _ h => h)) (nameB L.act.first) s (by rw [nameB_size hfst]; decide) (by unfold maxLen; omega) HL.out.used
      (fun f hf => by have := HL.out.each f hf; have := HL.out.le; unfold maxLen; omega)
    have HAP := Lib.hid happ; clear happ
    have hsl := HS3.out.sepL
    have hsg := HS3.out.sepG
    go_wp2_with fail
    go_region_held3 (fun W => W.cell? ⟨lg, 0, none⟩ = some (.pointer (some ⟨d, 0, none⟩)) ∧ W.cell? ⟨g, off * 3 + L.full.length * 3, none⟩ = some (.int .u64 L.act.first))
      (first | exact ⟨cd, c0⟩ | exact ⟨l1, l2⟩ | exact ⟨k1, k2⟩)
      (first
        | (go_at_call 25; refine (HNM.out _ ((Off.refl None w3).drew)).mono ?_; rintro e w4 ⟨rfl, ho4⟩; have k1 : w4.cell? ⟨lg, 0, none⟩ = some (.pointer (some ⟨d, 0, none⟩)) := ho4.keep cd (fun h => h); have k2 : w4.cell? ⟨g, off * 3 + L.full.length * 3, none⟩ = some (.int .u64 L.act.first) := ho4.keep c0 (fun h => h))
        | (go_at_call 29; refine (HAP.out w4 (((Off.refl None w3).drew).trans ho4 (fun _ _ h => h))).mono ?_; rintro e w5 ⟨rfl, hd5, ho5⟩; have l1 : w5.cell? ⟨lg, 0, none⟩ = some (.pointer (some ⟨d, 0, none⟩)) := ho5.keep k1 hsl; have l2 : w5.cell? ⟨g, off * 3 + L.full.length * 3, none⟩ = some (.int .u64 L.act.first) := ho5.keep k2 hsg))
    have ho34 : Off None w3 w4 := ((Off.refl None w3).drew).trans ho4 (fun _ _ h => h)
    have hst5 := (HS3.out.quiet ho34).disk' hd5 ho5
    have d1 : w5.cell? ⟨g, off * 3 + L.full.length * 3 + 1, none⟩ = some (.int .i64 L.act.many) := hst5.log.act.2.1
    have d2 : w5.cell? ⟨g, off * 3 + L.full.length * 3 + 2, none⟩ = some (.int .i64 L.act.size) := hst5.log.act.2.2.1
    have df := hst5.log.act.2.2.2
    have df1 := df (off * 3 + L.full.length * 3 + 1)
    have df2 := df (off * 3 + L.full.length * 3 + 2)
    have hoF : Off F w w5 := (HO.out.mono (fun _ _ h => h.elim)).trans ((ho34.mono (fun _ _ h => h.elim) : Off F w3 w4).trans ((HS3.out.quiet ho34).offF ho5) (fun _ _ h => h)) (fun _ _ h => h)
    have hsz4 : w.heap.size ≤ w4.heap.size := Nat.le_trans HO.out.size ho34.size
    have HST5 := Lib.hid hst5
    have HOF := Lib.hid hoF
    clear hst5 hoF df ho34 hd5 l1 l2 k1 k2 ho4 c0 c1 c2 f0 cd
    obtain ⟨D', er, hda⟩ : ∃ D' er, D.append (nameB L.act.first) s = (D', er) := ⟨_, _, rfl⟩
    rw [hda] at HST5 ⊢
    have HDA := Lib.hid hda; clear hda
    by_cases he : er = 0
    · subst he
      have hsp : L.append D body = ({ L with act := ⟨L.act.first, L.act.many + 1, L.act.size + s.size⟩ }, D', L.act.end_, 0) := by
        unfold LogV.append; rw [if_neg hbig, ← HSD.out]; dsimp only; rw [HDA.out]; dsimp only; rw [if_pos rfl]
      have HSP := Lib.hid hsp; clear hsp
      dsimp only
      go_wp2
      go_ret2
      rw [HSP.out]
      have em : ((L.act.many : Int) + 1) = ((L.act.many + 1 : Nat) : Int) := by omega
      have es : ((L.act.size : Int) + s.size) = ((L.act.size + s.size : Nat) : Int) := by omega
      rw [em, es]
      have hst6 := HST5.out.grow (L.act.many + 1) (L.act.size + s.size)
      have ho6 : Off F w5 _ := ((Off.refl F w5).setCell (p := ⟨g, off * 3 + L.full.length * 3 + 1, none⟩) (.inl HS3.out.inG) (.int .i64 ((L.act.many + 1 : Nat) : Int))).setCell (p := ⟨g, off * 3 + L.full.length * 3 + 2, none⟩) (.inl HS3.out.inG) (.int .i64 ((L.act.size + s.size : Nat) : Int))
      refine ⟨rfl, ⟨g, cap, _, hst6.log, hst6.disk, hst6.sepL, hst6.sepG, .inl HS3.out.inL, .inl HS3.out.inG, fun b hb => ?_⟩, HOF.out.trans ho6 (fun _ _ h => h)⟩
      rw [Grow, Heap.set_size, Heap.set_size]
      rcases hb with hb | hb
      · exact .inl (HS3.out.inD b hb)
      · exact .inr ⟨by omega, hb.2⟩
    · have hsp : L.append D body = (L, D', 0, er) := by
        unfold LogV.append; rw [if_neg hbig, ← HSD.out]; dsimp only; rw [HDA.out]; dsimp only; rw [if_neg he]
      have HSP := Lib.hid hsp; clear hsp
      have t1 : (er != 0) = true := by rw [bne_iff_ne]; exact he
      have t2 : (er == 0) = false := by rw [beq_eq_false_iff_ne]; exact he
      dsimp only
      go_wp2
      go_ret2
      rw [HSP.out]
      refine ⟨rfl, ⟨g, cap, _, HST5.out.log, HST5.out.disk, HST5.out.sepL, HST5.out.sepG, .inl HS3.out.inL, .inl HS3.out.inG, fun b hb => ?_⟩, HOF.out⟩
      rcases hb with hb | hb
      · exact .inl (HS3.out.inD b hb)
      · exact .inr ⟨by omega, hb.2⟩
end Seg
end Go.Proofs.YtnppdcegpojmbaaGreatDoor
