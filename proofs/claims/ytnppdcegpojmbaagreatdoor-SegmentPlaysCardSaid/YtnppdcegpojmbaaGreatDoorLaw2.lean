/- A log in memory, whose disk never fails: what its functions answer and leave. · The walk of pick and of shown, at the head of the segment laws. · The walk of SegmentGets. -/
import Derived.Test.YtnppdcegpojmbaaGreatDoorSeg9
import Derived.Test.YtnppdcegpojmbaaGreatDoorPlain7
import Derived.Handy
namespace Go.Proofs.YtnppdcegpojmbaaGreatDoor
open Go Go.RowKit
/-- A good log in memory: A's blocks are the caller's; off says where its row begins; k bodies of the active segment are durable. -/
structure HeldAt (R n N : Nat) (A : Nat → Prop) (w : World) (lg d off f0 : Nat) (full : List Grp) (act : Grp) (k : Nat) (L : LogV) (D : DiskV) : Prop where
  store : ∃ F, Store w lg d L D F off ∧ ∀ b, F b → n ≤ b ∧ ¬ A b ∧ b < w.heap.size
  old : ∀ b, A b → b < w.heap.size
  low : n ≤ w.heap.size
  glob : Glob n w
  good : GoodLog R f0 L D full act
  lim : Lim N D
  dur : L.durable = (⟨act.first, act.bodies.take k⟩ : Grp).seg
  le : k ≤ act.bodies.length
def Held (R n N : Nat) (A : Nat → Prop) (w : World) (lg d off f0 : Nat) (full : List Grp) (act : Grp) (k : Nat) : Prop := ∃ L D, HeldAt R n N A w lg d off f0 full act k L D
/-- What a log's function may turn. -/
def Rest (n : Nat) (A : Nat → Prop) : Nat → Prop := fun b => n ≤ b ∧ ¬ A b
theorem HeldAt.ok {R n N : Nat} {A : Nat → Prop} {w : World} {lg d off f0 : Nat} {full : List Grp} {act : Grp} {k : Nat} {L : LogV} {D : DiskV} (h : HeldAt R n N A w lg d off f0 full act k L D) : L.Ok :=
  h.good.ok (by rw [h.dur]; exact h.good.takeOk k)
theorem HeldAt.quiet {R n N : Nat} {A : Nat → Prop} {w w' : World} {lg d off f0 : Nat} {full : List Grp} {act : Grp} {k : Nat} {L : LogV} {D : DiskV} (h : HeldAt R n N A w lg d off f0 full act k L D) (ho : Off None w w') : HeldAt R n N A w' lg d off f0 full act k L D := by
  obtain ⟨F, ⟨g, cap, Fd, hs⟩, hF⟩ := h.store
  exact ⟨⟨F, ⟨g, cap, Fd, hs.quiet ho⟩, fun b hb => ⟨(hF b hb).1, (hF b hb).2.1, Nat.lt_of_lt_of_le (hF b hb).2.2 ho.size⟩⟩, fun b hb => Nat.lt_of_lt_of_le (h.old b hb) ho.size, Nat.le_trans h.low ho.size, h.glob.none ho, h.good, h.lim, h.dur, h.le⟩
theorem Held.quiet {R n N : Nat} {A : Nat → Prop} {w w' : World} {lg d off f0 : Nat} {full : List Grp} {act : Grp} {k : Nat} (h : Held R n N A w lg d off f0 full act k) (ho : Off None w w') : Held R n N A w' lg d off f0 full act k := by
  obtain ⟨L, D, h⟩ := h
  exact ⟨L, D, h.quiet ho⟩
/-- The caller has made blocks of its own. -/
theorem Held.keep {R n N : Nat} {A A' : Nat → Prop} {w w' : World} {lg d off f0 : Nat} {full : List Grp} {act : Grp} {k : Nat} (h : Held R n N A w lg d off f0 full act k) (ho : Off None w w')
    (hA : ∀ b, A' b → A b ∨ (w.heap.size ≤ b ∧ b < w'.heap.size)) : Held R n N A' w' lg d off f0 full act k := by
  obtain ⟨L, D, h⟩ := h
  obtain ⟨F, ⟨g, cap, Fd, hs⟩, hF⟩ := h.store
  refine ⟨L, D, ⟨F, ⟨g, cap, Fd, hs.quiet ho⟩, fun b hb => ⟨(hF b hb).1, fun ha => ?_, Nat.lt_of_lt_of_le (hF b hb).2.2 ho.size⟩⟩, fun b hb => ?_, Nat.le_trans h.low ho.size, h.glob.none ho, h.good, h.lim, h.dur, h.le⟩
  · have h1 := (hF b hb).2
    rcases hA b ha with h2 | h2
    · exact h1.1 h2
    · omega
  · rcases hA b hb with h2 | h2
    · exact Nat.lt_of_lt_of_le (h.old b h2) ho.size
    · exact h2.2
/-- Behind a function. -/
theorem HeldAt.next {R n N M : Nat} {A F : Nat → Prop} {w w' : World} {lg d off off' f0 f1 : Nat} {full full' : List Grp} {act act' : Grp} {k k' : Nat} {L L' : LogV} {D D' : DiskV} (h : HeldAt R n N A w lg d off f0 full act k L D)
    (hF : ∀ b, F b → n ≤ b ∧ ¬ A b ∧ b < w.heap.size) (hs : Store w' lg d L' D' (Grow F w w') off') (ho : Off F w w') (hg : GoodLog R f1 L' D' full' act') (hl : Lim M D') (hd : L'.durable = (⟨act'.first, act'.bodies.take k'⟩ : Grp).seg) (hk : k' ≤ act'.bodies.length) :
    HeldAt R n M A w' lg d off' f1 full' act' k' L' D' :=
  ⟨⟨_, hs, fun b hb => hb.elim (fun x => ⟨(hF b x).1, (hF b x).2.1, Nat.lt_of_lt_of_le (hF b x).2.2 ho.size⟩) (fun x => ⟨Nat.le_trans h.low x.1, fun ha => by have := h.old b ha; omega, x.2⟩)⟩, fun b hb => Nat.lt_of_lt_of_le (h.old b hb) ho.size, Nat.le_trans h.low ho.size, h.glob.off ho (fun b hb => (hF b hb).1), hg, hl, hd, hk⟩
namespace Held
variable {R n N : Nat} {A : Nat → Prop} {w : World} {lg d off f0 : Nat} {full : List Grp} {act : Grp} {k : Nat}
theorem append (h : Held R n N A w lg d off f0 full act k) (body : ByteArray) (hb : body.size ≤ 2000) (hfit : GoodLog.sum (full ++ [act]) + (Frame.putF act.end_ body.data.toList).length ≤ R) (hfew : act.end_ + 1 ≤ 400000) (hN : N + 1 ≤ 1000000) :
    Calls Tryz.prog 13 #[.pointer (some ⟨lg, 0, none⟩), .string body] w fun e w' =>
      e = .returned (.tuple #[.int .u64 act.end_, .int .i64 0]) ∧ Held R n (N + 1) A w' lg d off f0 full ⟨act.first, act.bodies ++ [body.data.toList]⟩ k ∧ Off (Rest n A) w w' := by
  obtain ⟨L, D, h⟩ := h
  obtain ⟨F, hs, hF⟩ := h.store
  obtain ⟨L', D', h1, h2, h3⟩ := h.good.append body hb hfit (by omega)
  have he : L.act = act.seg := h.good.eact
  have hok := h.ok.act
  have hz := framesL_len act.bodies (h.good.small act (by simp)) act.first (by have h1 : act.first + act.bodies.length + 1 ≤ 400000 := hfew; omega)
  have hfew' : act.first + act.bodies.length + 1 ≤ 400000 := hfew
  have hl := lim_lappend (L := L) h.lim body (by rw [he]; show act.first + act.bodies.length < _; omega) hN
  have hc := Seg.append_any w lg d n N L D F off hs h.glob (fun b hb => (hF b hb).1) h.ok h.lim (by rw [he]; show act.bodies.length < _; omega) (by rw [he]; show (framesL act.first act.bodies).length ≤ _; omega) (by rw [he]; show act.first + act.bodies.length < _; omega) body (by omega)
  rw [h1] at hc hl
  refine hc.mono ?_
  rintro e w' ⟨rfl, hs', ho⟩
  refine ⟨rfl, ⟨L', D', h.next hF hs' ho h2 hl ?_ ?_⟩, ho.mono fun b _ hb => ⟨(hF b hb).1, (hF b hb).2.1⟩⟩
  · rw [h3, h.dur]
    show Grp.seg ⟨act.first, act.bodies.take k⟩ = Grp.seg ⟨act.first, (act.bodies ++ [body.data.toList]).take k⟩
    rw [List.take_append_of_le_length h.le]
  · show k ≤ (act.bodies ++ [_]).length
    rw [List.length_append]; have := h.le; omega
theorem append_long (h : Held R n N A w lg d off f0 full act k) (body : ByteArray) (hb : 2000 < body.size) (hb2 : body.size ≤ 140737488355328) (hfew : act.end_ + 1 ≤ 400000) :
    Calls Tryz.prog 13 #[.pointer (some ⟨lg, 0, none⟩), .string body] w fun e w' =>
      e = .returned (.tuple #[.int .u64 (0 : Nat), .int .i64 7]) ∧ Held R n N A w' lg d off f0 full act k ∧ Off (Rest n A) w w' := by
  obtain ⟨L, D, h⟩ := h
  obtain ⟨F, hs, hF⟩ := h.store
  have he : L.act = act.seg := h.good.eact
  have hz := framesL_len act.bodies (h.good.small act (by simp)) act.first (by have h1 : act.first + act.bodies.length + 1 ≤ 400000 := hfew; omega)
  have hfew' : act.first + act.bodies.length + 1 ≤ 400000 := hfew
  have h1 : L.append D body = (L, D, 0, 7) := by unfold LogV.append; rw [if_pos hb]
  have hc := Seg.append_any w lg d n N L D F off hs h.glob (fun b hb => (hF b hb).1) h.ok h.lim (by rw [he]; show act.bodies.length < _; omega) (by rw [he]; show (framesL act.first act.bodies).length ≤ _; omega) (by rw [he]; show act.first + act.bodies.length < _; omega) body hb2
  rw [h1] at hc
  refine hc.mono ?_
  rintro e w' ⟨rfl, hs', ho⟩
  exact ⟨rfl, ⟨L, D, h.next hF hs' ho h.good h.lim h.dur h.le⟩, ho.mono fun b _ hb => ⟨(hF b hb).1, (hF b hb).2.1⟩⟩
theorem sync (h : Held R n N A w lg d off f0 full act k) :
    Calls Tryz.prog 34 #[.pointer (some ⟨lg, 0, none⟩)] w fun e w' =>
      e = .returned (.int .i64 0) ∧ Held R n N A w' lg d off f0 full act act.bodies.length ∧ Off (Rest n A) w w' := by
  obtain ⟨L, D, h⟩ := h
  obtain ⟨F, hs, hF⟩ := h.store
  obtain ⟨L', D', h1, h2, h3⟩ := h.good.sync (by rw [h.dur]; rfl)
  have hl := lim_lsync (L := L) h.lim
  have hc := Seg.sync_any w lg d n N L D F off hs h.glob (fun b hb => (hF b hb).1) h.ok h.lim
  rw [h1] at hc hl
  refine hc.mono ?_
  rintro e w' ⟨rfl, hs', ho⟩
  exact ⟨rfl, ⟨L', D', h.next hF hs' ho h2 hl (by rw [h3, List.take_length]) (Nat.le_refl _)⟩, ho.mono fun b _ hb => ⟨(hF b hb).1, (hF b hb).2.1⟩⟩
theorem undo (h : Held R n N A w lg d off f0 full act k) (hN : N + 1 ≤ 1000000) :
    Calls Tryz.prog 35 #[.pointer (some ⟨lg, 0, none⟩)] w fun e w' =>
      e = .returned (.int .i64 0) ∧ Held R n (N + 1) A w' lg d off f0 full ⟨act.first, act.bodies.take k⟩ k ∧ Off (Rest n A) w w' := by
  obtain ⟨L, D, h⟩ := h
  obtain ⟨F, hs, hF⟩ := h.store
  obtain ⟨L', D', h1, h2, h3⟩ := h.good.undo k h.dur
  have hl := lim_lundo (L := L) h.lim hN
  have hc := Seg.undo_any w lg d n N L D F off hs h.glob (fun b hb => (hF b hb).1) h.ok h.lim
  rw [h1] at hc hl
  refine hc.mono ?_
  rintro e w' ⟨rfl, hs', ho⟩
  refine ⟨rfl, ⟨L', D', h.next hF hs' ho h2 hl ?_ ?_⟩, ho.mono fun b _ hb => ⟨(hF b hb).1, (hF b hb).2.1⟩⟩
  · rw [h3, h.dur]
    show Grp.seg ⟨act.first, act.bodies.take k⟩ = Grp.seg ⟨act.first, (act.bodies.take k).take k⟩
    rw [List.take_take, Nat.min_self]
  · show k ≤ (act.bodies.take k).length
    rw [List.length_take]; have := h.le; omega
theorem roll (h : Held R n N A w lg d 0 f0 full act k) (ha : act.bodies ≠ []) (hN : N + 2 ≤ 1000000) (hx : full.length + 1 ≤ 1000000) :
    Calls Tryz.prog 16 #[.pointer (some ⟨lg, 0, none⟩)] w fun e w' =>
      e = .returned (.int .i64 0) ∧ Held R n (N + 2) A w' lg d 0 f0 (full ++ [act]) ⟨act.end_, []⟩ 0 ∧ Off (Rest n A) w w' := by
  obtain ⟨L, D, h⟩ := h
  obtain ⟨F, hs, hF⟩ := h.store
  obtain ⟨L', D', h1, h2, h3⟩ := h.good.roll ha
  have hl := lim_lroll (L := L) h.lim hN
  have hc := Seg.roll_any w lg d n N L D F hs h.glob (fun b hb => (hF b hb).1) h.ok h.lim (by rw [h.good.len_le]; exact hx)
  rw [h1] at hc hl
  refine hc.mono ?_
  rintro e w' ⟨rfl, hs', ho⟩
  exact ⟨rfl, ⟨L', D', h.next hF hs' ho h2 hl h3 (Nat.zero_le _)⟩, ho.mono fun b _ hb => ⟨(hF b hb).1, (hF b hb).2.1⟩⟩
theorem roll_none (h : Held R n N A w lg d 0 f0 full act k) (ha : act.bodies = []) (hx : full.length + 1 ≤ 1000000) :
    Calls Tryz.prog 16 #[.pointer (some ⟨lg, 0, none⟩)] w fun e w' =>
      e = .returned (.int .i64 0) ∧ Held R n N A w' lg d 0 f0 full act k ∧ Off (Rest n A) w w' := by
  obtain ⟨L, D, h⟩ := h
  obtain ⟨F, hs, hF⟩ := h.store
  have h1 := h.good.roll_none ha
  have hc := Seg.roll_any w lg d n N L D F hs h.glob (fun b hb => (hF b hb).1) h.ok h.lim (by rw [h.good.len_le]; exact hx)
  rw [h1] at hc
  refine hc.mono ?_
  rintro e w' ⟨rfl, hs', ho⟩
  exact ⟨rfl, ⟨L, D, h.next hF hs' ho h.good h.lim h.dur h.le⟩, ho.mono fun b _ hb => ⟨(hF b hb).1, (hF b hb).2.1⟩⟩
theorem drop {g : Grp} {r : List Grp} (h : Held R n N A w lg d off f0 (g :: r) act k) (hN : N + 1 ≤ 1000000) :
    Calls Tryz.prog 33 #[.pointer (some ⟨lg, 0, none⟩)] w fun e w' =>
      e = .returned (.int .i64 0) ∧ (∃ off', Held R n (N + 1) A w' lg d off' g.end_ r act k) ∧ Off (Rest n A) w w' := by
  obtain ⟨L, D, h⟩ := h
  obtain ⟨F, hs, hF⟩ := h.store
  obtain ⟨L', D', h1, h2, h3⟩ := h.good.drop
  have hl := lim_ldrop (L := L) h.lim hN
  have hc := Seg.drop_any w lg d n N L D F off hs h.glob (fun b hb => (hF b hb).1) h.ok h.lim
  rw [h1] at hc hl
  refine hc.mono ?_
  rintro e w' ⟨rfl, ⟨off', hs'⟩, ho⟩
  exact ⟨rfl, ⟨off', L', D', h.next hF hs' ho h2 hl (by rw [h3, h.dur]) h.le⟩, ho.mono fun b _ hb => ⟨(hF b hb).1, (hF b hb).2.1⟩⟩
theorem drop_none (h : Held R n N A w lg d off f0 [] act k) :
    Calls Tryz.prog 33 #[.pointer (some ⟨lg, 0, none⟩)] w fun e w' =>
      e = .returned (.int .i64 13) ∧ (∃ off', Held R n N A w' lg d off' f0 [] act k) ∧ Off (Rest n A) w w' := by
  obtain ⟨L, D, h⟩ := h
  obtain ⟨F, hs, hF⟩ := h.store
  have h1 : L.drop D = (L, D, 13) := by unfold LogV.drop; rw [h.good.efull]; rfl
  have hc := Seg.drop_any w lg d n N L D F off hs h.glob (fun b hb => (hF b hb).1) h.ok h.lim
  rw [h1] at hc
  refine hc.mono ?_
  rintro e w' ⟨rfl, ⟨off', hs'⟩, ho⟩
  exact ⟨rfl, ⟨off', L, D, h.next hF hs' ho h.good h.lim h.dur h.le⟩, ho.mono fun b _ hb => ⟨(hF b hb).1, (hF b hb).2.1⟩⟩
theorem get_some (h : Held R n N A w lg d off f0 full act k) {i : Nat} {b : List UInt8} (hb : ((full ++ [act]).flatMap (·.bodies))[i]? = some b) (hi : f0 + i < 18446744073709551616) :
    Calls Tryz.prog 23 #[.pointer (some ⟨lg, 0, none⟩), .int .u64 ((f0 + i : Nat) : Int)] w fun e w' => e = .returned (.tuple #[.string ⟨b.toArray⟩, .int .i64 0]) ∧ Off None w w' := by
  obtain ⟨L, D, h⟩ := h
  obtain ⟨F, hs, hF⟩ := h.store
  have hc := Seg.get_any w lg d n N L D F off hs h.glob h.ok h.lim (f0 + i) hi
  rw [h.good.get_some hb] at hc
  exact hc
theorem get_none (h : Held R n N A w lg d off f0 full act k) {s : Nat} (hb : s < f0 ∨ act.end_ ≤ s) (hi : s < 18446744073709551616) :
    Calls Tryz.prog 23 #[.pointer (some ⟨lg, 0, none⟩), .int .u64 (s : Int)] w fun e w' => e = .returned (.tuple #[.string ByteArray.empty, .int .i64 5]) ∧ Off None w w' := by
  obtain ⟨L, D, h⟩ := h
  obtain ⟨F, hs, hF⟩ := h.store
  have hc := Seg.get_any w lg d n N L D F off hs h.glob h.ok h.lim s hi
  rw [h.good.get_none hb] at hc
  exact hc
theorem next (h : Held R n N A w lg d off f0 full act k) :
    Calls Tryz.prog 21 #[.pointer (some ⟨lg, 0, none⟩)] w fun e w' => e = .returned (.int .u64 act.end_) ∧ Off None w w' := by
  obtain ⟨L, D, h⟩ := h
  obtain ⟨F, ⟨g, cap, Fd, hs⟩, hF⟩ := h.store
  have hc := Seg.next_any w lg d L g off cap hs.log h.ok
  rw [show L.act.end_ = act.end_ by rw [h.good.eact]; rfl] at hc
  exact hc
theorem durable (h : Held R n N A w lg d off f0 full act k) :
    Calls Tryz.prog 22 #[.pointer (some ⟨lg, 0, none⟩)] w fun e w' => e = .returned (.int .u64 ((act.first + k : Nat) : Int)) ∧ Off None w w' := by
  obtain ⟨L, D, h⟩ := h
  obtain ⟨F, ⟨g, cap, Fd, hs⟩, hF⟩ := h.store
  have hc := Seg.durable_any w lg d L g off cap hs.log h.ok
  rw [show L.durable.end_ = act.first + k by rw [h.dur]; show act.first + (act.bodies.take k).length = _; rw [List.length_take]; have := h.le; omega] at hc
  exact hc
theorem bytes (h : Held R n N A w lg d off f0 full act k) :
    Calls Tryz.prog 19 #[.pointer (some ⟨lg, 0, none⟩)] w fun e w' => e = .returned (.int .i64 (GoodLog.sum (full ++ [act]) : Nat)) ∧ Off None w w' := by
  obtain ⟨L, D, h⟩ := h
  obtain ⟨F, ⟨g, cap, Fd, hs⟩, hF⟩ := h.store
  have hu := h.lim.used
  rw [h.good.used] at hu
  have hc := Seg.bytes_any w lg d L g off cap hs.log (by rw [h.good.bytes]; exact hu)
  rw [h.good.bytes] at hc
  exact hc
theorem used (h : Held R n N A w lg d off f0 full act k) :
    Calls Tryz.prog 20 #[.pointer (some ⟨d, 0, none⟩)] w fun e w' => e = .returned (.int .i64 (GoodLog.sum (full ++ [act]) : Nat)) ∧ Off None w w' := by
  obtain ⟨L, D, h⟩ := h
  obtain ⟨F, ⟨g, cap, Fd, hs⟩, hF⟩ := h.store
  obtain ⟨Rp, hd, _⟩ := hs.disk
  have hc := DiskW.used_any w d D Rp hd h.lim.used
  rw [h.good.used] at hc
  exact hc
theorem segs (h : Held R n N A w lg d off f0 full act k) (hx : full.length + 1 ≤ 1000000) :
    Calls Tryz.prog 17 #[.pointer (some ⟨lg, 0, none⟩)] w fun e w' => ∃ v, e = .returned v ∧ w'.ownsRow w.heap.size 42 3 v (full.length + 1) (((full ++ [act]).map Grp.seg).flatMap segCells) ∧ Off None w w' := by
  obtain ⟨L, D, h⟩ := h
  obtain ⟨F, ⟨g, cap, Fd, hs⟩, hF⟩ := h.store
  have hc := Seg.segs_any w lg d L g off cap hs.log (by rw [h.good.len_le]; exact hx)
  rw [h.good.len_le, h.good.segs] at hc
  exact hc
/-- A new disk's log. -/
theorem open_new (w : World) (d n : Nat) (F : Nat → Prop) (h : DiskIn w d (DiskV.new R) F) (hR : R ≤ 9223372036854775807) (hF : ∀ b, F b → n ≤ b ∧ b < w.heap.size) (hG : Glob n w) (hn : n ≤ w.heap.size) :
    Calls Tryz.prog 12 #[.pointer (some ⟨d, 0, none⟩)] w fun e w' =>
      ∃ lg, e = .returned (.tuple #[.pointer (some ⟨lg, 0, none⟩), .int .i64 0]) ∧ Held R n 2 None w' lg d 0 1 [] ⟨1, []⟩ 0 ∧ Off F w w' := by
  obtain ⟨D', i, h1, h2⟩ := (Good.new R hR).started (u := 1) (by omega) (fun _ h => by cases h)
  have hl := lim_started (lim_new R) 1 (by omega)
  have hc := Seg.open_none w d n 0 (DiskV.new R) F h rfl hG (lim_new R) (by rw [h1]; exact ⟨rfl, rfl⟩)
  rw [h1] at hc hl
  refine hc.mono ?_
  rintro e w' ⟨lg, rfl, hs, ho⟩
  refine ⟨lg, rfl, ⟨_, D', ⟨_, hs, fun b hb => hb.elim (fun x => ⟨(hF b x).1, fun h => h, Nat.lt_of_lt_of_le (hF b x).2 ho.size⟩) (fun x => ⟨Nat.le_trans hn x.1, fun h => h, x.2⟩)⟩, fun _ h => h.elim, Nat.le_trans hn ho.size, hG.off ho (fun b hb => (hF b hb).1), ⟨⟨_, h2, rfl⟩, rfl, rfl, ⟨rfl, rfl⟩, ?_, by show 1 + 0 ≤ _; omega⟩, hl, rfl, Nat.le_refl _⟩, ho⟩
  intro g hg b hb
  rw [List.mem_singleton.1 hg] at hb
  cases hb
end Held
end Go.Proofs.YtnppdcegpojmbaaGreatDoor
namespace Go.Proofs.YtnppdcegpojmbaaGreatDoor
open Go Go.RowKit
namespace Law
theorem name3 : Seg.nameB 3 = ⟨#[115, 48, 48, 48, 48, 48, 48, 48, 48, 48, 48, 48, 48, 48, 48, 48, 48, 48, 48, 48, 51]⟩ := by kernel_rfl
theorem ret_int {a b : Int} (h : a = b) : Ending.returned (.int .i64 a) = Ending.returned (.int .i64 b) := by rw [h]
def pickI (c n : Int) : Int := (if c < 0 then -(c + 1) else c) % n
theorem pickI_bd (c n : Int) (hn : 0 < n) : 0 ≤ pickI c n ∧ pickI c n < n := ⟨Int.emod_nonneg _ (by omega), Int.emod_lt_of_pos _ hn⟩
theorem pick_any (c n : Int) (hc : -9223372036854775808 ≤ c) (hc' : c ≤ 9223372036854775807) (hn : 0 < n) (hn' : n ≤ 9223372036854775807) (w : World) :
    Calls Tryz.prog 15 #[.int .i64 c, .int .i64 n] w fun e w' => e = .returned (.int .i64 (pickI c n)) ∧ w = w' := by
  by_cases h : c < 0
  · have e : pickI c n = (-(c + 1)) % n := by unfold pickI; rw [if_pos h]
    have E := Lib.hid e; clear e
    go_enter Tryz.func15, Tryz.ntmps15
    go_wp2
    go_ret
    exact ⟨by rw [E.out]; exact ret_int (by rw [← Int.tmod_eq_emod_of_nonneg (by omega : 0 ≤ -(c + 1)), Int.neg_tmod]), rfl⟩
  · have e : pickI c n = c % n := by unfold pickI; rw [if_neg h]
    have E := Lib.hid e; clear e
    go_enter Tryz.func15, Tryz.ntmps15
    go_wp2
    go_ret
    exact ⟨by rw [E.out]; rfl, rfl⟩
theorem pick_nat (c : Int) (n : Nat) (hc : (Lit.int .i64 c).wf = true) (hn : 0 < n) (hn' : n ≤ 9223372036854775807) :
    ∃ p : Nat, p < n ∧ ∀ w : World, Calls Tryz.prog 15 #[.int .i64 c, .int .i64 n] w fun e w' => e = .returned (.int .i64 p) ∧ w' = w := by
  have hb := pickI_bd c n (by omega)
  have hw : -9223372036854775808 ≤ c ∧ c ≤ 9223372036854775807 := by
    simpa [Lit.wf, IntKind.min, IntKind.max, IntKind.bits, IntKind.signed] using hc
  refine ⟨(pickI c n).toNat, by omega, fun w => ?_⟩
  refine (pick_any c n hw.1 hw.2 (by omega) (by omega) w).mono ?_
  rintro e w' ⟨rfl, rfl⟩
  exact ⟨ret_int (by omega), rfl⟩
theorem strA : (⟨#[97]⟩ : ByteArray).data.toList = [97] := rfl
theorem one_len (q : Nat) (hq : q < 100) (x : UInt8) : (Frame.putF q [x]).length ≤ 25 := Frame.putF_len q [x] (by omega) (show (1 : Nat) ≤ 2000 by omega)
theorem sum_nil (f : Nat) : GoodLog.sum [⟨f, []⟩] = 0 := rfl
theorem sum_snoc (full : List Grp) (f : Nat) (bs : List (List UInt8)) (b : List UInt8) : GoodLog.sum (full ++ [⟨f, bs ++ [b]⟩]) = GoodLog.sum (full ++ [⟨f, bs⟩]) + (Frame.putF (f + bs.length) b).length := by
  unfold GoodLog.sum
  rw [List.map_append, List.map_append, List.sum_append, List.sum_append]
  simp only [List.map_cons, List.map_nil, List.sum_cons, List.sum_nil, Grp.txt, framesL_snoc, List.length_append]
  omega
theorem sum_roll (G : List Grp) (f : Nat) : GoodLog.sum (G ++ [⟨f, []⟩]) = GoodLog.sum G := by
  unfold GoodLog.sum
  rw [List.map_append, List.sum_append]
  rfl
theorem off_rest {n : Nat} {w0 w w' : World} (hw : w0.heap.size ≤ n) (h : Off (fun b => w0.heap.size ≤ b) w0 w) (h' : Off (Rest n None) w w') : Off (fun b => w0.heap.size ≤ b) w0 w' :=
  h.trans h' (fun _ _ hb => Nat.le_trans hw hb.1)
set_option maxHeartbeats 1000000 in
set_option maxRecDepth 100000 in
theorem shown_any (w : World) (n : Nat) (hG : Glob n w) (hn : n ≤ w.heap.size) :
    Calls Tryz.prog 10 #[] w fun e w' => e = .returned (.bool true) ∧ Off (fun b => w.heap.size ≤ b) w w' := by
  have HG := Lib.hid (⟨hG.crc, hG.pow, ⟨Nat.lt_of_lt_of_le hG.le.1 hn, Nat.lt_of_lt_of_le hG.le.2 hn⟩⟩ : Glob w.heap.size w); clear hG hn
  go_enter Tryz.func10, Tryz.ntmps10
  go_wp2_with fail
  refine (DiskW.new_any w 100 (by omega)).mono ?_
  rintro e w1 ⟨d, rfl, hd, ho1⟩
  have HD := Lib.hid hd; clear hd
  have HO1 := Lib.hid ho1; clear ho1
  go_wp2_with fail
  refine (Held.open_new (R := 100) w1 d w.heap.size _ HD.out (by omega) (fun b hb => hb) (HG.out.none HO1.out) HO1.out.size).mono ?_
  rintro e w2 ⟨lg, rfl, h2, ho2⟩
  have H2 := Lib.hid h2; clear h2
  have HO2 := Lib.hid ((HO1.out.mono (fun _ _ h => h.elim)).trans ho2 (fun b _ hb => hb.1) : Off (fun b => w.heap.size ≤ b) w w2); clear HO1 ho2
  have l1 := one_len 1 (by omega) 97
  have l2 := one_len 2 (by omega) 98
  have l3 := one_len 3 (by omega) 99
  have s1 : GoodLog.sum [⟨1, [[97]]⟩] = (Frame.putF 1 [97]).length := (sum_snoc [] 1 [] [97]).trans (by rw [List.nil_append, sum_nil, Nat.zero_add]; rfl)
  have s2 : GoodLog.sum [⟨1, [[97], [98]]⟩] = (Frame.putF 1 [97]).length + (Frame.putF 2 [98]).length := (sum_snoc [] 1 [[97]] [98]).trans (by rw [List.nil_append, s1]; rfl)
  have s3 : GoodLog.sum [⟨1, [[97], [98]]⟩, ⟨3, []⟩] = (Frame.putF 1 [97]).length + (Frame.putF 2 [98]).length := (sum_roll [⟨1, [[97], [98]]⟩] 3).trans s2
  go_wp2_with fail
  have a1 : Calls Tryz.prog 13 #[.pointer (some ⟨lg, 0, none⟩), .string ⟨#[97]⟩] w2 fun e w' =>
      e = .returned (.tuple #[.int .u64 1, .int .i64 0]) ∧ Held 100 w.heap.size 3 None w' lg d 0 1 [] ⟨1, [[97]]⟩ 0 ∧ Off (Rest w.heap.size None) w2 w' :=
    H2.out.append ⟨#[97]⟩ (by decide) (by show GoodLog.sum [⟨1, []⟩] + (Frame.putF 1 [97]).length ≤ 100; rw [sum_nil]; omega) (by decide) (by omega)
  refine a1.mono ?_
  clear a1 H2 HD
  rintro e w3 ⟨rfl, h3, ho3⟩
  have H3 := Lib.hid h3; clear h3
  have HO3 := Lib.hid (off_rest (Nat.le_refl _) HO2.out ho3); clear HO2 ho3
  go_wp2_with fail
  have a2 : Calls Tryz.prog 13 #[.pointer (some ⟨lg, 0, none⟩), .string ⟨#[98]⟩] w3 fun e w' =>
      e = .returned (.tuple #[.int .u64 2, .int .i64 0]) ∧ Held 100 w.heap.size 4 None w' lg d 0 1 [] ⟨1, [[97], [98]]⟩ 0 ∧ Off (Rest w.heap.size None) w3 w' :=
    H3.out.append ⟨#[98]⟩ (by decide) (by show GoodLog.sum [⟨1, [[97]]⟩] + (Frame.putF 2 [98]).length ≤ 100; rw [s1]; omega) (by decide) (by omega)
  refine a2.mono ?_
  clear a2 H3
  rintro e w4 ⟨rfl, h4, ho4⟩
  have H4 := Lib.hid h4; clear h4
  have HO4 := Lib.hid (off_rest (Nat.le_refl _) HO3.out ho4); clear HO3 ho4
  go_wp2_with fail
  have a3 : Calls Tryz.prog 16 #[.pointer (some ⟨lg, 0, none⟩)] w4 fun e w' =>
      e = .returned (.int .i64 0) ∧ Held 100 w.heap.size 6 None w' lg d 0 1 [⟨1, [[97], [98]]⟩] ⟨3, []⟩ 0 ∧ Off (Rest w.heap.size None) w4 w' :=
    H4.out.roll (by simp) (by omega) (by decide)
  refine a3.mono ?_
  clear a3 H4
  rintro e w5 ⟨rfl, h5, ho5⟩
  have H5 := Lib.hid h5; clear h5
  have HO5 := Lib.hid (off_rest (Nat.le_refl _) HO4.out ho5); clear HO4 ho5
  go_wp2_with fail
  have a4 : Calls Tryz.prog 13 #[.pointer (some ⟨lg, 0, none⟩), .string ⟨#[99]⟩] w5 fun e w' =>
      e = .returned (.tuple #[.int .u64 3, .int .i64 0]) ∧ Held 100 w.heap.size 7 None w' lg d 0 1 [⟨1, [[97], [98]]⟩] ⟨3, [[99]]⟩ 0 ∧ Off (Rest w.heap.size None) w5 w' :=
    H5.out.append ⟨#[99]⟩ (by decide) (by show GoodLog.sum [⟨1, [[97], [98]]⟩, ⟨3, []⟩] + (Frame.putF 3 [99]).length ≤ 100; rw [s3]; omega) (by decide) (by omega)
  refine a4.mono ?_
  clear a4 H5
  rintro e w6 ⟨rfl, h6, ho6⟩
  have H6 := Lib.hid h6; clear h6
  have HO6 := Lib.hid (off_rest (Nat.le_refl _) HO5.out ho6); clear HO5 ho6
  go_wp2_with fail
  have a5 : Calls Tryz.prog 17 #[.pointer (some ⟨lg, 0, none⟩)] w6 fun e w' => ∃ v, e = .returned v ∧ w'.ownsRow w6.heap.size 42 3 v 2 ([(⟨1, [[97], [98]]⟩ : Grp).seg, (⟨3, [[99]]⟩ : Grp).seg].flatMap segCells) ∧ Off None w6 w' :=
    H6.out.segs (by decide)
  refine a5.mono ?_
  clear a5
  rintro e w7 ⟨v, rfl, hr, ho7⟩
  obtain ⟨_, ⟨_, h0⟩ | ⟨g, cap, cur, rfl, hg, hb, hle, hmx, hsz, ht⟩⟩ := hr
  · exact absurd h0 (by decide)
  have hlim : (2 : Nat) ≤ cap := hle
  have hat : ∀ j, j < 6 → w7.cell? ⟨g, j, none⟩ = ([(⟨1, [[97], [98]]⟩ : Grp).seg, (⟨3, [[99]]⟩ : Grp).seg].flatMap segCells)[j]? := by
    intro j hj
    rw [Heap.cell hb, ← ht, List.getElem?_take_of_lt (by omega), Array.getElem?_toList]
  have c3 : w7.cell? ⟨g, 3, none⟩ = some (.int .u64 3) := hat 3 (by omega)
  have c4 : w7.cell? ⟨g, 4, none⟩ = some (.int .i64 1) := hat 4 (by omega)
  clear hat ht hb hg
  have HG7 := Lib.hid (HG.out.off (HO6.out.trans (ho7.mono (fun _ _ h => h.elim)) (fun _ _ h => h) : Off (fun b => w.heap.size ≤ b) w w7) (fun _ h => h))
  have HO7 := Lib.hid (HO6.out.trans (ho7.mono (fun _ _ h => h.elim)) (fun _ _ h => h) : Off (fun b => w.heap.size ≤ b) w w7)
  clear H6 HO6 ho7 l1 l2 l3 s1 s2 s3
  go_wp2_with fail
  have a6 := Seg.name_any w7 3 (by omega) HG7.out.pow
  rw [name3] at a6
  refine a6.mono ?_
  clear a6 HG7
  rintro e w8 ⟨rfl, ho8⟩
  have HO8 := Lib.hid (HO7.out.trans (ho8.mono (fun _ _ h => h.elim)) (fun _ _ h => h) : Off (fun b => w.heap.size ≤ b) w w8)
  clear HO7 ho8 c3 c4
  go_wp2
  go_ret
  exact ⟨rfl, HO8.out⟩
end Law
end Go.Proofs.YtnppdcegpojmbaaGreatDoor
namespace Go.Proofs.YtnppdcegpojmbaaGreatDoor
open Go Go.RowKit
namespace Law
theorem below_of {w w' : World} (h : Off (fun b => w.heap.size ≤ b) w w') : Below w.heap.size w w' := ⟨h.os, h.tape, h.output, h.size, fun b hb => h.block b hb (by omega)⟩
end Law
end Go.Proofs.YtnppdcegpojmbaaGreatDoor
