/- A log in memory on a disk that counts down: what its functions answer and leave, till the power goes. · The plain law of SegmentKeeps: rows that stood, and what a power cut leaves of them. No walk stands here. -/
import Derived.Test.YtnppdcegpojmbaaGreatDoorKLog
import Derived.Test.YtnppdcegpojmbaaGreatDoorStop
import Derived.Test.YtnppdcegpojmbaaGreatDoorFront
namespace Go.Proofs.YtnppdcegpojmbaaGreatDoor
open Go Go.RowKit
structure KSt where
  full : List Grp
  f : Nat
  bs0 : List (List UInt8)
  evs : List Ev
namespace KSt
def act (s : KSt) : Grp := actOf s.f s.bs0 s.evs
/-- All bodies; those that are durable. -/
def all (s : KSt) : List (List UInt8) := (s.full ++ [s.act]).flatMap (·.bodies)
def low (s : KSt) : List (List UInt8) := s.full.flatMap (·.bodies) ++ s.bs0
def app (s : KSt) (b : List UInt8) : KSt := { s with evs := s.evs ++ [.app b] }
def cut (s : KSt) : KSt := { s with evs := s.evs ++ [.cut] }
def sync (s : KSt) : KSt := { s with bs0 := s.bs0 ++ rowEnd [] s.evs, evs := [] }
def roll (s : KSt) : KSt := ⟨s.full ++ [s.act], s.act.end_, [], []⟩
end KSt
structure KHeldAt (R n N : Nat) (A : Nat → Prop) (w : World) (lg d : Nat) (s : KSt) (L : LogV) (D : DiskV) : Prop where
  store : ∃ F, Store w lg d L D F 0 ∧ ∀ b, F b → n ≤ b ∧ ¬ A b ∧ b < w.heap.size
  old : ∀ b, A b → b < w.heap.size
  low : n ≤ w.heap.size
  glob : Glob n w
  klog : KLog R L D s.full s.f s.bs0 s.evs
  lim : Lim N D
def KHeld (R n N : Nat) (A : Nat → Prop) (w : World) (lg d : Nat) (s : KSt) : Prop := ∃ L D, KHeldAt R n N A w lg d s L D
/-- The power is gone, or may go: what a power cut may leave. -/
structure KDeadAt (R n N : Nat) (A : Nat → Prop) (w : World) (d : Nat) (X : KSt → Prop) (D : DiskV) : Prop where
  disk : ∃ F, DiskIn w d D F ∧ ∀ b, F b → n ≤ b ∧ ¬ A b ∧ b < w.heap.size
  old : ∀ b, A b → b < w.heap.size
  low : n ≤ w.heap.size
  glob : Glob n w
  lim : Lim N D
  ready : ∀ k, ∃ s, X s ∧ Ready R D k s.full s.f s.bs0 s.evs
def KDead (R n N : Nat) (A : Nat → Prop) (w : World) (d : Nat) (X : KSt → Prop) : Prop := ∃ D, KDeadAt R n N A w d X D
variable {R n N M : Nat} {A A' F : Nat → Prop} {w w' : World} {lg d : Nat} {s s' : KSt} {L L' : LogV} {D D' : DiskV} {X Y : KSt → Prop}
theorem KDead.mono (h : KDead R n N A w d X) (hX : ∀ s, X s → Y s) : KDead R n N A w d Y := by
  obtain ⟨D, h⟩ := h
  exact ⟨D, h.disk, h.old, h.low, h.glob, h.lim, fun k => (h.ready k).imp fun s hs => ⟨hX s hs.1, hs.2⟩⟩
theorem KHeld.dead (h : KHeld R n N A w lg d s) : KDead R n N A w d (fun t => t = s) := by
  obtain ⟨L, D, h⟩ := h
  obtain ⟨F, ⟨g, cap, Fd, hs⟩, hF⟩ := h.store
  exact ⟨D, ⟨Fd, hs.disk, fun b hb => hF b (hs.inD b hb)⟩, h.old, h.low, h.glob, h.lim, fun k => ⟨s, rfl, h.klog.disk.ready k⟩⟩
theorem KHeld.quiet (h : KHeld R n N A w lg d s) (ho : Off None w w') : KHeld R n N A w' lg d s := by
  obtain ⟨L, D, h⟩ := h
  obtain ⟨F, ⟨g, cap, Fd, hs⟩, hF⟩ := h.store
  exact ⟨L, D, ⟨F, ⟨g, cap, Fd, hs.quiet ho⟩, fun b hb => ⟨(hF b hb).1, (hF b hb).2.1, Nat.lt_of_lt_of_le (hF b hb).2.2 ho.size⟩⟩, fun b hb => Nat.lt_of_lt_of_le (h.old b hb) ho.size, Nat.le_trans h.low ho.size, h.glob.none ho, h.klog, h.lim⟩
theorem KDead.quiet (h : KDead R n N A w d X) (ho : Off None w w') : KDead R n N A w' d X := by
  obtain ⟨D, h⟩ := h
  obtain ⟨F, hd, hF⟩ := h.disk
  exact ⟨D, ⟨F, hd.off ho (fun _ _ _ h => h), fun b hb => ⟨(hF b hb).1, (hF b hb).2.1, Nat.lt_of_lt_of_le (hF b hb).2.2 ho.size⟩⟩, fun b hb => Nat.lt_of_lt_of_le (h.old b hb) ho.size, Nat.le_trans h.low ho.size, h.glob.none ho, h.lim, h.ready⟩
/-- The caller has made blocks of its own, or turned them. -/
theorem KHeld.keep (h : KHeld R n N A w lg d s) (ho : Off A w w') (hA : ∀ b, A' b → A b ∨ (w.heap.size ≤ b ∧ b < w'.heap.size)) (hn : ∀ b, A b → n ≤ b) : KHeld R n N A' w' lg d s := by
  obtain ⟨L, D, h⟩ := h
  obtain ⟨F, ⟨g, cap, Fd, hs⟩, hF⟩ := h.store
  have hna : ∀ b, F b → ¬ A b := fun b hb => (hF b hb).2.1
  refine ⟨L, D, ⟨F, ⟨g, cap, Fd, hs.log.off ho (hna _ hs.inL) (hna _ hs.inG), hs.disk.off ho (fun b _ hb => hna b (hs.inD b hb)), hs.sepL, hs.sepG, hs.inL, hs.inG, hs.inD⟩, fun b hb => ⟨(hF b hb).1, fun ha => ?_, Nat.lt_of_lt_of_le (hF b hb).2.2 ho.size⟩⟩, fun b hb => ?_, Nat.le_trans h.low ho.size, h.glob.off ho hn, h.klog, h.lim⟩
  · have h1 := (hF b hb).2
    rcases hA b ha with h2 | h2
    · exact h1.1 h2
    · omega
  · rcases hA b hb with h2 | h2
    · exact Nat.lt_of_lt_of_le (h.old b h2) ho.size
    · exact h2.2
theorem KHeldAt.foot (h : KHeldAt R n N A w lg d s L D) (hF : ∀ b, F b → n ≤ b ∧ ¬ A b ∧ b < w.heap.size) (ho : Off F w w') : ∀ b, Grow F w w' b → n ≤ b ∧ ¬ A b ∧ b < w'.heap.size :=
  fun b hb => hb.elim (fun x => ⟨(hF b x).1, (hF b x).2.1, Nat.lt_of_lt_of_le (hF b x).2.2 ho.size⟩) (fun x => ⟨Nat.le_trans h.low x.1, fun ha => by have := h.old b ha; omega, x.2⟩)
theorem KHeldAt.next (h : KHeldAt R n N A w lg d s L D) (hF : ∀ b, F b → n ≤ b ∧ ¬ A b ∧ b < w.heap.size) (hs : Store w' lg d L' D' (Grow F w w') 0) (ho : Off F w w') (hk : KLog R L' D' s'.full s'.f s'.bs0 s'.evs) (hl : Lim M D') :
    KHeldAt R n M A w' lg d s' L' D' :=
  ⟨⟨_, hs, h.foot hF ho⟩, fun b hb => Nat.lt_of_lt_of_le (h.old b hb) ho.size, Nat.le_trans h.low ho.size, h.glob.off ho (fun b hb => (hF b hb).1), hk, hl⟩
theorem KHeldAt.gone (h : KHeldAt R n N A w lg d s L D) (hF : ∀ b, F b → n ≤ b ∧ ¬ A b ∧ b < w.heap.size) (hs : Store w' lg d L' D' (Grow F w w') 0) (ho : Off F w w') (hk : ∀ k, ∃ s, X s ∧ Ready R D' k s.full s.f s.bs0 s.evs) (hl : Lim M D') :
    KDead R n M A w' d X := by
  obtain ⟨g, cap, Fd, hs⟩ := hs
  exact ⟨D', ⟨Fd, hs.disk, fun b hb => h.foot hF ho b (hs.inD b hb)⟩, fun b hb => Nat.lt_of_lt_of_le (h.old b hb) ho.size, Nat.le_trans h.low ho.size, h.glob.off ho (fun b hb => (hF b hb).1), hl, hk⟩
theorem KHeldAt.sizes (h : KHeldAt R n N A w lg d s L D) : L.act.many < 1000001 ∧ L.act.size ≤ 2024000000 ∧ L.act.first + L.act.many ≤ 1000000 := by
  have he : L.act = s.act.seg := h.klog.eact
  have hf : s.f + (s.bs0 ++ rowEnd [] s.evs).length ≤ 1000000 := h.klog.few
  have hz := framesL_len (s.bs0 ++ rowEnd [] s.evs) (h.klog.rows _ (rowEnd_mem s.evs [])).1 s.f hf
  rw [he]
  refine ⟨?_, ?_, hf⟩
  · show (s.bs0 ++ rowEnd [] s.evs).length < _; omega
  · show (framesL s.f (s.bs0 ++ rowEnd [] s.evs)).length ≤ _; omega
namespace KHeld
theorem append (h : KHeld R n N A w lg d s) (body : ByteArray) (hb : body.size ≤ 2000) (hfit : GoodLog.sum (s.full ++ [s.act]) + (Frame.putF s.act.end_ body.data.toList).length ≤ R) (hfew : s.act.end_ + 1 ≤ 400000) (hN : N + 1 ≤ 1000000) :
    Calls Tryz.prog 13 #[.pointer (some ⟨lg, 0, none⟩), .string body] w fun e w' =>
      (∃ (q : Nat) (er : Int), e = .returned (.tuple #[.int .u64 q, .int .i64 er]) ∧ ((er = 11 ∧ KDead R n (N + 1) A w' d (fun t => t = s)) ∨ (er = 0 ∧ KHeld R n (N + 1) A w' lg d (s.app body.data.toList)))) ∧ Off (Rest n A) w w' := by
  obtain ⟨L, D, h⟩ := h
  obtain ⟨F, hs, hF⟩ := h.store
  have he : L.act = s.act.seg := h.klog.eact
  have hfew' : s.f + (s.bs0 ++ rowEnd [] s.evs).length + 1 ≤ 400000 := hfew
  have hz := framesL_len (s.bs0 ++ rowEnd [] s.evs) (h.klog.rows _ (rowEnd_mem s.evs [])).1 s.f (by omega)
  have hl := lim_lappend (L := L) h.lim body (by rw [he]; show s.f + (s.bs0 ++ rowEnd [] s.evs).length < _; omega) hN
  have hc := Seg.append_any w lg d n N L D F 0 hs h.glob (fun b hb => (hF b hb).1) h.klog.ok h.lim (by rw [he]; show (s.bs0 ++ rowEnd [] s.evs).length < _; omega) (by rw [he]; show (framesL s.f (s.bs0 ++ rowEnd [] s.evs)).length ≤ _; omega) (by rw [he]; show s.f + (s.bs0 ++ rowEnd [] s.evs).length < _; omega) body (by omega)
  rcases h.klog.append body hb hfit (by have : s.act.end_ = (actOf s.f s.bs0 s.evs).end_ := rfl; omega) with h1 | ⟨L', D', h1, h2⟩
  · rw [h1] at hc hl
    refine hc.mono ?_
    rintro e w' ⟨rfl, hs', ho⟩
    exact ⟨⟨0, 11, rfl, .inl ⟨rfl, h.gone hF hs' ho (fun k => ⟨s, rfl, h.klog.disk.ready k⟩) hl⟩⟩, ho.mono fun b _ hb => ⟨(hF b hb).1, (hF b hb).2.1⟩⟩
  · rw [h1] at hc hl
    refine hc.mono ?_
    rintro e w' ⟨rfl, hs', ho⟩
    exact ⟨⟨_, 0, rfl, .inr ⟨rfl, L', D', h.next hF hs' ho h2 hl⟩⟩, ho.mono fun b _ hb => ⟨(hF b hb).1, (hF b hb).2.1⟩⟩
theorem sync (h : KHeld R n N A w lg d s) :
    Calls Tryz.prog 34 #[.pointer (some ⟨lg, 0, none⟩)] w fun e w' =>
      (∃ er : Int, e = .returned (.int .i64 er) ∧ ((er = 11 ∧ KDead R n N A w' d (fun t => t = s)) ∨ (er = 0 ∧ ((KHeld R n N A w' lg d s ∧ rowEnd [] s.evs = []) ∨ KHeld R n N A w' lg d s.sync)))) ∧ Off (Rest n A) w w' := by
  obtain ⟨L, D, h⟩ := h
  obtain ⟨F, hs, hF⟩ := h.store
  have hl := lim_lsync (L := L) h.lim
  have hc := Seg.sync_any w lg d n N L D F 0 hs h.glob (fun b hb => (hF b hb).1) h.klog.ok h.lim
  rcases h.klog.sync with ⟨h1, h2⟩ | h1 | ⟨L', D', h1, h2⟩
  · rw [h1] at hc hl
    refine hc.mono ?_
    rintro e w' ⟨rfl, hs', ho⟩
    exact ⟨⟨0, rfl, .inr ⟨rfl, .inl ⟨⟨L, D, h.next hF hs' ho h.klog hl⟩, h2⟩⟩⟩, ho.mono fun b _ hb => ⟨(hF b hb).1, (hF b hb).2.1⟩⟩
  · rw [h1] at hc hl
    refine hc.mono ?_
    rintro e w' ⟨rfl, hs', ho⟩
    exact ⟨⟨11, rfl, .inl ⟨rfl, h.gone hF hs' ho (fun k => ⟨s, rfl, h.klog.disk.ready k⟩) hl⟩⟩, ho.mono fun b _ hb => ⟨(hF b hb).1, (hF b hb).2.1⟩⟩
  · rw [h1] at hc hl
    refine hc.mono ?_
    rintro e w' ⟨rfl, hs', ho⟩
    exact ⟨⟨0, rfl, .inr ⟨rfl, .inr ⟨L', D', h.next (s' := s.sync) hF hs' ho h2 hl⟩⟩⟩, ho.mono fun b _ hb => ⟨(hF b hb).1, (hF b hb).2.1⟩⟩
theorem undo (h : KHeld R n N A w lg d s) (hN : N + 1 ≤ 1000000) :
    Calls Tryz.prog 35 #[.pointer (some ⟨lg, 0, none⟩)] w fun e w' =>
      (∃ er : Int, e = .returned (.int .i64 er) ∧ ((er = 11 ∧ KDead R n (N + 1) A w' d (fun t => t = s)) ∨ (er = 0 ∧ ((KHeld R n (N + 1) A w' lg d s ∧ rowEnd [] s.evs = []) ∨ KHeld R n (N + 1) A w' lg d s.cut)))) ∧ Off (Rest n A) w w' := by
  obtain ⟨L, D, h⟩ := h
  obtain ⟨F, hs, hF⟩ := h.store
  have hl := lim_lundo (L := L) h.lim hN
  have hc := Seg.undo_any w lg d n N L D F 0 hs h.glob (fun b hb => (hF b hb).1) h.klog.ok h.lim
  rcases h.klog.undo with ⟨h1, h2⟩ | h1 | ⟨L', D', h1, h2⟩
  · rw [h1] at hc hl
    refine hc.mono ?_
    rintro e w' ⟨rfl, hs', ho⟩
    exact ⟨⟨0, rfl, .inr ⟨rfl, .inl ⟨⟨L, D, h.next hF hs' ho h.klog hl⟩, h2⟩⟩⟩, ho.mono fun b _ hb => ⟨(hF b hb).1, (hF b hb).2.1⟩⟩
  · rw [h1] at hc hl
    refine hc.mono ?_
    rintro e w' ⟨rfl, hs', ho⟩
    exact ⟨⟨11, rfl, .inl ⟨rfl, h.gone hF hs' ho (fun k => ⟨s, rfl, h.klog.disk.ready k⟩) hl⟩⟩, ho.mono fun b _ hb => ⟨(hF b hb).1, (hF b hb).2.1⟩⟩
  · rw [h1] at hc hl
    refine hc.mono ?_
    rintro e w' ⟨rfl, hs', ho⟩
    exact ⟨⟨0, rfl, .inr ⟨rfl, .inr ⟨L', D', h.next (s' := s.cut) hF hs' ho h2 hl⟩⟩⟩, ho.mono fun b _ hb => ⟨(hF b hb).1, (hF b hb).2.1⟩⟩
theorem roll (h : KHeld R n N A w lg d s) (hN : N + 2 ≤ 1000000) (hx : s.full.length + 1 ≤ 1000000) :
    Calls Tryz.prog 16 #[.pointer (some ⟨lg, 0, none⟩)] w fun e w' =>
      (∃ er : Int, e = .returned (.int .i64 er) ∧ ((er = 11 ∧ KDead R n (N + 2) A w' d (fun t => t = s ∨ t = s.sync ∨ t = s.roll)) ∨ (er = 0 ∧ ((KHeld R n (N + 2) A w' lg d s ∧ s.bs0 = [] ∧ rowEnd [] s.evs = []) ∨ KHeld R n (N + 2) A w' lg d s.roll)))) ∧ Off (Rest n A) w w' := by
  obtain ⟨L, D, h⟩ := h
  obtain ⟨F, hs, hF⟩ := h.store
  have hl := lim_lroll (L := L) h.lim hN
  have hlen : L.segs.length = s.full.length + 1 := by unfold LogV.segs; rw [h.klog.efull]; simp
  have hc := Seg.roll_any w lg d n N L D F hs h.glob (fun b hb => (hF b hb).1) h.klog.ok h.lim (by rw [hlen]; exact hx)
  rcases h.klog.roll with ⟨h1, h2⟩ | ⟨L', D', h1, h2⟩ | ⟨L', D', h1, h2⟩
  · rw [h1] at hc hl
    refine hc.mono ?_
    rintro e w' ⟨rfl, hs', ho⟩
    exact ⟨⟨0, rfl, .inr ⟨rfl, .inl ⟨⟨L, D, h.next hF hs' ho h.klog hl⟩, h2⟩⟩⟩, ho.mono fun b _ hb => ⟨(hF b hb).1, (hF b hb).2.1⟩⟩
  · rw [h1] at hc hl
    refine hc.mono ?_
    rintro e w' ⟨rfl, hs', ho⟩
    refine ⟨⟨11, rfl, .inl ⟨rfl, h.gone hF hs' ho (fun k => ?_) hl⟩⟩, ho.mono fun b _ hb => ⟨(hF b hb).1, (hF b hb).2.1⟩⟩
    rcases h2 k with h3 | h3 | h3
    · exact ⟨s, .inl rfl, h3⟩
    · exact ⟨s.sync, .inr (.inl rfl), h3⟩
    · exact ⟨s.roll, .inr (.inr rfl), h3⟩
  · rw [h1] at hc hl
    refine hc.mono ?_
    rintro e w' ⟨rfl, hs', ho⟩
    exact ⟨⟨0, rfl, .inr ⟨rfl, .inr ⟨L', D', h.next (s' := s.roll) hF hs' ho h2 hl⟩⟩⟩, ho.mono fun b _ hb => ⟨(hF b hb).1, (hF b hb).2.1⟩⟩
theorem next (h : KHeld R n N A w lg d s) : Calls Tryz.prog 21 #[.pointer (some ⟨lg, 0, none⟩)] w fun e w' => e = .returned (.int .u64 s.act.end_) ∧ Off None w w' := by
  obtain ⟨L, D, h⟩ := h
  obtain ⟨F, ⟨g, cap, Fd, hs⟩, hF⟩ := h.store
  have hc := Seg.next_any w lg d L g 0 cap hs.log h.klog.ok
  rw [show L.act.end_ = s.act.end_ by rw [h.klog.eact]; rfl] at hc
  exact hc
theorem durable (h : KHeld R n N A w lg d s) : Calls Tryz.prog 22 #[.pointer (some ⟨lg, 0, none⟩)] w fun e w' => e = .returned (.int .u64 ((s.f + s.bs0.length : Nat) : Int)) ∧ Off None w w' := by
  obtain ⟨L, D, h⟩ := h
  obtain ⟨F, ⟨g, cap, Fd, hs⟩, hF⟩ := h.store
  have hc := Seg.durable_any w lg d L g 0 cap hs.log h.klog.ok
  rw [show L.durable.end_ = s.f + s.bs0.length by rw [h.klog.dur]; rfl] at hc
  exact hc
end KHeld
/-- A new log, before it is told when the power goes. -/
def KPre (R n N : Nat) (w : World) (lg d : Nat) : Prop :=
  ∃ L D, (∃ F, Store w lg d L D F 0 ∧ ∀ b, F b → n ≤ b ∧ b < w.heap.size) ∧ n ≤ w.heap.size ∧ Glob n w ∧ Lim N D ∧ ∀ k : Nat, KLog R L (D.stop k) [] 1 [] []
theorem new_klog (R : Nat) (hR : R ≤ 9223372036854775807) : ∃ D', (DiskV.new R).started 1 = (D', 0, true) ∧ ∀ k : Nat, KLog R ⟨[], ⟨1, 0, 0⟩, ⟨1, 0, 0⟩⟩ (D'.stop k) [] 1 [] [] := by
  have hg := Good.new R hR
  obtain ⟨D1, hc, hg1⟩ := hg.create (u := 1) (by omega) (fun _ h => by cases h)
  have hcr := create_form (D := DiskV.new R) (by show (-1 : Int) ≠ 0; decide) (name := Seg.nameB 1) rfl (Seg.nameB_named (by omega))
  rw [hc] at hcr
  have e1 := (Prod.mk.inj hcr).1
  obtain ⟨D2, hd2, hg2⟩ := hg1.syncDir
  have hs2 : D1.syncDir = ({ D1.begin.1 with base := D1.begin.1.names, moves := [] }, 0) := by unfold DiskV.syncDir; rw [hg1.begin_eq]; rfl
  rw [hd2] at hs2
  have e2 := (Prod.mk.inj hs2).1
  have hfl : D2.files = [newFile] := by rw [e2, hg1.begin_eq, e1]; rfl
  refine ⟨D2, ?_, fun k => ⟨⟨?_, ?_, ?_, ?_, ?_⟩, rfl, rfl, rfl, rfl, (fun g hg => by cases hg), (fun row hr => by rw [List.mem_singleton.1 hr]; exact ⟨fun b hb => (by cases hb), by decide⟩)⟩⟩
  · unfold DiskV.started
    rw [hc]
    dsimp only
    rw [if_pos rfl, hd2]
  · have hb : (D2.stop k).bare = D2 := by
      have hl := hg2.left
      cases D2
      dsimp only at hl
      subst hl
      rfl
    rw [hb]
    exact hg2
  · show 0 ≤ max (k : Int) (-1)
    omega
  · show D2.base = D2.names
    rw [e2]
  · show D2.moves = []
    rw [e2]
  · show D2.files = _
    rw [hfl]
    rfl
theorem KPre.open_new (w : World) (d n : Nat) (F : Nat → Prop) (h : DiskIn w d (DiskV.new R) F) (hR : R ≤ 9223372036854775807) (hF : ∀ b, F b → n ≤ b ∧ b < w.heap.size) (hG : Glob n w) (hn : n ≤ w.heap.size) :
    Calls Tryz.prog 12 #[.pointer (some ⟨d, 0, none⟩)] w fun e w' =>
      ∃ lg, e = .returned (.tuple #[.pointer (some ⟨lg, 0, none⟩), .int .i64 0]) ∧ KPre R n 2 w' lg d ∧ Off F w w' := by
  obtain ⟨D', h1, h2⟩ := new_klog R hR
  have hl := lim_started (lim_new R) 1 (by omega)
  have hc := Seg.open_none w d n 0 (DiskV.new R) F h rfl hG (lim_new R) (by rw [h1]; exact ⟨rfl, rfl⟩)
  rw [h1] at hc hl
  refine hc.mono ?_
  rintro e w' ⟨lg, rfl, hs, ho⟩
  exact ⟨lg, rfl, ⟨_, D', ⟨_, hs, fun b hb => hb.elim (fun x => ⟨(hF b x).1, Nat.lt_of_lt_of_le (hF b x).2 ho.size⟩) (fun x => ⟨Nat.le_trans hn x.1, x.2⟩)⟩, Nat.le_trans hn ho.size, hG.off ho (fun b hb => (hF b hb).1), hl, h2⟩, ho⟩
theorem KPre.quiet (h : KPre R n N w lg d) (ho : Off None w w') : KPre R n N w' lg d := by
  obtain ⟨L, D, ⟨F, ⟨g, cap, Fd, hs⟩, hF⟩, h2, h3, h4⟩ := h
  exact ⟨L, D, ⟨F, ⟨g, cap, Fd, hs.quiet ho⟩, fun b hb => ⟨(hF b hb).1, Nat.lt_of_lt_of_le (hF b hb).2 ho.size⟩⟩, Nat.le_trans h2 ho.size, h3.none ho, h4⟩
theorem KPre.stop (h : KPre R n N w lg d) (k : Nat) (hk : k ≤ 1000000) :
    Calls Tryz.prog 37 #[.pointer (some ⟨d, 0, none⟩), .int .i64 k] w fun e w' => e = .returned (.tuple #[]) ∧ KHeld R n N None w' lg d ⟨[], 1, [], []⟩ ∧ Off (fun b => n ≤ b) w w' := by
  obtain ⟨L, D, ⟨F, ⟨g, cap, Fd, hs⟩, hF⟩, h2, h3, h4, h5⟩ := h
  refine (DiskW.stop_any w d D Fd hs.disk k (by omega) (by omega)).mono ?_
  rintro e w' ⟨rfl, hd, ho⟩
  have hFn : ∀ b, Fd b → n ≤ b := fun b hb => (hF b (hs.inD b hb)).1
  have hst := hs.disk' (hd.mono (fun b _ hb => .inl hb)) ho
  refine ⟨rfl, ⟨L, D.stop k, ⟨_, ⟨g, cap, _, hst⟩, fun b hb => ?_⟩, fun _ h => h.elim, Nat.le_trans h2 ho.size, h3.off ho hFn, h5 k, h4.le, h4.files, h4.names, h4.moves, h4.each⟩, ho.mono fun b _ hb => hFn b hb⟩
  exact hb.elim (fun x => ⟨(hF b x).1, fun h => h, Nat.lt_of_lt_of_le (hF b x).2 ho.size⟩) (fun x => ⟨Nat.le_trans h2 x.1, fun h => h, x.2⟩)
end Go.Proofs.YtnppdcegpojmbaaGreatDoor
namespace Go.Proofs.YtnppdcegpojmbaaGreatDoor
open Go Go.RowKit
structure Sound (s : KSt) : Prop where
  chain : Chain 1 s.full s.f
  small : ∀ g ∈ s.full, ∀ b ∈ g.bodies, b.length ≤ 2000
  rows : ∀ row ∈ rowsOf [] s.evs, (∀ b ∈ s.bs0 ++ row, b.length ≤ 2000) ∧ s.f + (s.bs0 ++ row).length ≤ 1000000
theorem KHeld.sound {R n N : Nat} {A : Nat → Prop} {w : World} {lg d : Nat} {s : KSt} (h : KHeld R n N A w lg d s) : Sound s := by
  obtain ⟨L, D, h⟩ := h
  exact ⟨h.klog.chain, h.klog.small, h.klog.rows⟩
namespace KSt
theorem all_eq (s : KSt) : s.all = s.low ++ rowEnd [] s.evs := by
  unfold all low act actOf
  rw [List.flatMap_append]
  simp
end KSt
namespace Sound
variable {s : KSt}
theorem sync (h : Sound s) : Sound s.sync := by
  refine ⟨h.chain, h.small, fun row hr => ?_⟩
  rw [List.mem_singleton.1 hr, List.append_nil]
  exact h.rows _ (rowEnd_mem s.evs [])
theorem smallAct (h : Sound s) : ∀ g ∈ s.full ++ [s.act], ∀ b ∈ g.bodies, b.length ≤ 2000 := by
  intro g hg b hb
  rcases List.mem_append.1 hg with hg | hg
  · exact h.small g hg b hb
  · rw [List.mem_singleton.1 hg] at hb
    exact (h.rows _ (rowEnd_mem s.evs [])).1 b hb
theorem roll (h : Sound s) : Sound s.roll := by
  refine ⟨h.chain.snoc rfl, h.smallAct, fun row hr => ?_⟩
  rw [List.mem_singleton.1 hr]
  have := (h.rows _ (rowEnd_mem s.evs [])).2
  exact ⟨fun b hb => (by cases hb), this⟩
theorem ends (h : Sound s) : s.act.end_ = s.all.length + 1 := by
  have := Law.chain_total (h.chain.snoc (g := s.act) rfl)
  rw [this]
  unfold KSt.all
  omega
theorem low_end (h : Sound s) : s.f + s.bs0.length = s.low.length + 1 := by
  have := Law.chain_total h.chain
  unfold KSt.low
  rw [List.length_append]
  omega
theorem sum_le (h : Sound s) : GoodLog.sum (s.full ++ [s.act]) ≤ s.all.length * 2024 := by
  have he := h.chain.snoc (g := s.act) rfl
  have hf : s.act.end_ ≤ 1000000 := (h.rows _ (rowEnd_mem s.evs [])).2
  have hs := h.smallAct
  unfold KSt.all
  generalize s.full ++ [s.act] = G at he hs
  have hall : ∀ g ∈ G, g.end_ ≤ 1000000 := fun g hg => Nat.le_trans (he.mem hg).2 hf
  clear he hf
  induction G with
  | nil => exact Nat.zero_le _
  | cons g r ih =>
    have h1 := ih (fun x hx => hs x (by simp [hx])) (fun x hx => hall x (by simp [hx]))
    have h2 := framesL_len g.bodies (hs g (by simp)) g.first (hall g (by simp))
    unfold GoodLog.sum at h1 ⊢
    rw [List.map_cons, List.sum_cons, List.flatMap_cons, List.length_append, Nat.add_mul]
    have h3 : g.txt.length ≤ g.bodies.length * 2024 := h2
    omega
end Sound
structure Fine (du : Nat) (Bs : List (List UInt8)) (S : List (List (List UInt8))) (s : KSt) : Prop where
  sound : Sound s
  dl : du ≤ s.low.length
  pre : s.low <+: Bs
  rows : ∀ row ∈ rowsOf [] s.evs, ∃ t ∈ S, (s.low ++ row) <+: t
structure Live (du : Nat) (Bs : List (List UInt8)) (S : List (List (List UInt8))) (s : KSt) : Prop where
  fine : Fine du Bs S s
  all : s.all = Bs
  dur : du = s.low.length
namespace Live
variable {du : Nat} {Bs : List (List UInt8)} {S : List (List (List UInt8))} {s : KSt}
theorem zero : Live 0 [] [[]] ⟨[], 1, [], []⟩ :=
  ⟨⟨⟨rfl, fun g hg => (by cases hg), fun row hr => by rw [List.mem_singleton.1 hr]; exact ⟨fun b hb => (by cases hb), by decide⟩⟩, Nat.zero_le _, List.prefix_refl _, fun row hr => ⟨[], List.mem_singleton.2 rfl, by rw [List.mem_singleton.1 hr]; exact List.prefix_refl _⟩⟩, rfl, rfl⟩
/-- A text that the power kept from the disk. -/
theorem lost (h : Live du Bs S s) (b : List UInt8) : Fine du (Bs ++ [b]) (S ++ [Bs ++ [b]]) s :=
  ⟨h.fine.sound, h.fine.dl, h.fine.pre.trans (List.prefix_append _ _), fun row hr => (h.fine.rows row hr).imp fun _ ht => ⟨List.mem_append.2 (.inl ht.1), ht.2⟩⟩
theorem app (h : Live du Bs S s) (b : List UInt8) (hs : Sound (s.app b)) : Live du (Bs ++ [b]) (S ++ [Bs ++ [b]]) (s.app b) := by
  have hall : s.low ++ rowEnd [] s.evs = Bs := by rw [← s.all_eq]; exact h.all
  refine ⟨⟨hs, h.fine.dl, h.fine.pre.trans (List.prefix_append _ _), fun row hr => ?_⟩, ?_, h.dur⟩
  · rcases rowsOf_app _ _ _ hr with hr | rfl
    · exact (h.fine.rows row hr).imp fun _ ht => ⟨List.mem_append.2 (.inl ht.1), ht.2⟩
    · refine ⟨Bs ++ [b], by simp, ?_⟩
      show s.low ++ (rowEnd [] s.evs ++ [b]) <+: _
      rw [← List.append_assoc, hall]
      exact List.prefix_refl _
  · rw [KSt.all_eq]
    show s.low ++ rowEnd [] (s.evs ++ [.app b]) = _
    rw [rowEnd_app, ← List.append_assoc, hall]
theorem sync (h : Live du Bs S s) : Live Bs.length Bs S s.sync := by
  have hall : s.low ++ rowEnd [] s.evs = Bs := by rw [← s.all_eq]; exact h.all
  have hlow : s.sync.low = Bs := by
    rw [← hall]
    show s.full.flatMap _ ++ (s.bs0 ++ rowEnd [] s.evs) = s.full.flatMap _ ++ s.bs0 ++ rowEnd [] s.evs
    rw [List.append_assoc]
  refine ⟨⟨h.fine.sound.sync, by rw [hlow]; exact Nat.le_refl _, by rw [hlow]; exact List.prefix_refl _, fun row hr => ?_⟩, ?_, by rw [hlow]⟩
  · rw [List.mem_singleton.1 hr, List.append_nil, hlow, ← hall]
    exact h.fine.rows _ (rowEnd_mem _ _)
  · rw [KSt.all_eq, hlow]
    exact List.append_nil _
theorem sync_same (h : Live du Bs S s) (he : rowEnd [] s.evs = []) : Live Bs.length Bs S s := by
  have hall : s.low ++ rowEnd [] s.evs = Bs := by rw [← s.all_eq]; exact h.all
  rw [he, List.append_nil] at hall
  exact ⟨⟨h.fine.sound, by rw [hall]; exact Nat.le_refl _, h.fine.pre, h.fine.rows⟩, h.all, by rw [hall]⟩
theorem dur_le (h : Live du Bs S s) : du ≤ Bs.length := by
  have hall : s.low ++ rowEnd [] s.evs = Bs := by rw [← s.all_eq]; exact h.all
  rw [h.dur, ← hall, List.length_append]
  omega
theorem take (h : Live du Bs S s) : Bs.take du = s.low := by
  have hall : s.low ++ rowEnd [] s.evs = Bs := by rw [← s.all_eq]; exact h.all
  rw [← hall, h.dur, List.take_left]
theorem cut (h : Live du Bs S s) (hs : Sound s.cut) : Live du (Bs.take du) S s.cut := by
  rw [h.take]
  refine ⟨⟨hs, h.fine.dl, List.prefix_refl _, fun row hr => ?_⟩, ?_, h.dur⟩
  · rcases rowsOf_cut _ _ hr with hr | rfl
    · exact h.fine.rows row hr
    · obtain ⟨t, ht, hp⟩ := h.fine.rows _ (rowEnd_mem s.evs [])
      refine ⟨t, ht, ?_⟩
      rw [List.append_nil]
      exact (List.prefix_append _ _).trans hp
  · rw [KSt.all_eq]
    show s.low ++ rowEnd [] (s.evs ++ [.cut]) = _
    rw [rowEnd_cut, List.append_nil]
theorem cut_same (h : Live du Bs S s) (he : rowEnd [] s.evs = []) : Live du (Bs.take du) S s := by
  have hall : s.low ++ rowEnd [] s.evs = Bs := by rw [← s.all_eq]; exact h.all
  rw [he, List.append_nil] at hall
  rw [h.take, hall]
  exact h
theorem roll_low (h : Live du Bs S s) : s.roll.low = Bs := by
  rw [← h.all]
  show (s.full ++ [s.act]).flatMap _ ++ [] = _
  rw [List.append_nil]
  rfl
theorem roll (h : Live du Bs S s) : Live Bs.length Bs S s.roll := by
  have hall : s.low ++ rowEnd [] s.evs = Bs := by rw [← s.all_eq]; exact h.all
  have hlow := h.roll_low
  refine ⟨⟨h.fine.sound.roll, by rw [hlow]; exact Nat.le_refl _, by rw [hlow]; exact List.prefix_refl _, fun row hr => ?_⟩, ?_, by rw [hlow]⟩
  · rw [List.mem_singleton.1 hr, List.append_nil, hlow, ← hall]
    exact h.fine.rows _ (rowEnd_mem _ _)
  · rw [KSt.all_eq, hlow]
    exact List.append_nil _
/-- Where the power went while a segment was begun. -/
theorem rolling (h : Live du Bs S s) : ∀ t, t = s ∨ t = s.sync ∨ t = s.roll → Fine du Bs S t := by
  have hd := h.dur_le
  rintro t (rfl | rfl | rfl)
  · exact h.fine
  · exact ⟨h.sync.fine.sound, Nat.le_trans hd h.sync.fine.dl, h.sync.fine.pre, h.sync.fine.rows⟩
  · exact ⟨h.roll.fine.sound, Nat.le_trans hd h.roll.fine.dl, h.roll.fine.pre, h.roll.fine.rows⟩
end Live
theorem prefix_get {a b : List (List UInt8)} (h : a <+: b) {i : Nat} (hi : i < a.length) : ∃ x, a[i]? = some x ∧ b[i]? = some x := by
  obtain ⟨r, rfl⟩ := h
  exact ⟨a[i], List.getElem?_eq_getElem hi, by rw [List.getElem?_append_left hi]; exact List.getElem?_eq_getElem hi⟩
/-- What is left: all that was durable, and a front of a row that stood. -/
theorem Fine.left {du : Nat} {Bs : List (List UInt8)} {S : List (List (List UInt8))} {s : KSt} (h : Fine du Bs S s) {row : List (List UInt8)} (hr : row ∈ rowsOf [] s.evs) (j : Nat) {B : List (List UInt8)}
    (hB : B = (s.full ++ [(⟨s.f, s.bs0 ++ row.take j⟩ : Grp)]).flatMap (·.bodies)) : du ≤ B.length ∧ du ≤ Bs.length ∧ Law.frontL B Bs du ∧ ∃ t ∈ S, Law.frontL B t B.length := by
  have hb : B = s.low ++ row.take j := by
    rw [hB, List.flatMap_append]
    unfold KSt.low
    simp
  have hl : s.low <+: B := by rw [hb]; exact List.prefix_append _ _
  have hdl := h.dl
  refine ⟨Nat.le_trans hdl hl.length_le, Nat.le_trans hdl h.pre.length_le, fun i hi => ?_, ?_⟩
  · obtain ⟨x, h1, h2⟩ := prefix_get hl (i := i) (by omega)
    obtain ⟨y, h3, h4⟩ := prefix_get h.pre (i := i) (by omega)
    rw [h1] at h3
    cases h3
    exact ⟨x, h2, h4⟩
  · obtain ⟨t, ht, hp⟩ := h.rows row hr
    refine ⟨t, ht, fun i hi => ?_⟩
    have hq : B <+: t := by
      refine List.IsPrefix.trans ?_ hp
      rw [hb]
      exact (List.prefix_append_right_inj _).2 (List.take_prefix _ _)
    exact prefix_get hq hi
end Go.Proofs.YtnppdcegpojmbaaGreatDoor
