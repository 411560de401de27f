/- The two disks side by side, with segments' names alone: plain. No walk stands here. · The walks of opened and framed: both logs are opened. -/
import Derived.Test.YtnppdcegpojmbaaGreatDoorTwin3
import Derived.Test.YtnppdcegpojmbaaGreatDoorAlike
import Derived.Test.YtnppdcegpojmbaaGreatDoorRefO
namespace Go.Proofs.YtnppdcegpojmbaaGreatDoor
open Go Go.RowKit
/-- Both disks are alike, and each name is a segment's, with a number of U at most. -/
structure Deck (U N : Nat) (D : DiskV) (X : RefV) : Prop where
  sim : Sim X D
  inn : NamesIn D
  apart : NamesApart D
  lim : Lim N D
  rlim : RLim N X
  names : ∀ p ∈ D.names, ∃ u, u ≤ U ∧ p.1 = Seg.nameL u
theorem append_same (D : DiskV) (name s : ByteArray) : (D.append name s).1.names = D.names ∧ (D.append name s).1.files.length = D.files.length := by
  have h := find_names D name
  unfold DiskV.append
  generalize D.find name = c at h ⊢
  obtain ⟨D1, i, e⟩ := c
  dsimp only at h
  cases i with
  | none => exact ⟨h.1, by rw [← h.2]⟩
  | some i =>
    have hf := Sim.fails_files D1
    dsimp only
    split
    · exact ⟨h.1, by rw [← h.2]⟩
    · split
      · exact ⟨hf.2.trans h.1, by rw [hf.1, h.2]⟩
      · split
        · exact ⟨h.1, by rw [← h.2]⟩
        · exact ⟨hf.2.trans h.1, by show (D1.fails.1.files.set _ _).length = _; rw [List.length_set, hf.1, h.2]⟩
namespace Deck
variable {U N M : Nat} {D : DiskV} {X : RefV}
theorem mono (h : Deck U N D X) (hN : N ≤ M) (hM : M ≤ 1000000) : Deck U M D X := ⟨h.sim, h.inn, h.apart, h.lim.mono hN hM, h.rlim.mono hN hM, h.names⟩
theorem new (R : Nat) : Deck U 0 (DiskV.new R) (RefV.new R) :=
  ⟨Sim.new R, fun p hp => absurd (show p ∈ ([] : NMap) from hp) (by simp), List.Pairwise.nil, lim_new R, RLim.new R, fun p hp => absurd (show p ∈ ([] : NMap) from hp) (by simp)⟩
theorem create (h : Deck U N D X) {u : Nat} (hu : u ≤ U) (hN : N + 2 ≤ 1000000) : Deck U (N + 2) (D.create (Seg.nameB u)).1 (X.create (Seg.nameB u)).1 ∧ (X.create (Seg.nameB u)).2 = (D.create (Seg.nameB u)).2 := by
  obtain ⟨s1, s2⟩ := h.sim.create (Seg.nameB u)
  refine ⟨?_, s2⟩
  have hl := lim_create h.lim (Seg.nameB u) hN
  have hr := (h.rlim.create (Seg.nameB u) (by omega)).mono (Nat.le_succ _) hN
  rcases create_names D (Seg.nameB u) with ⟨c1, c2, _⟩ | ⟨_, _, c3, c4, c5, c6⟩
  · exact ⟨s1, h.inn.of c1 (by rw [c2]), same_apart h.apart c1, hl, hr, by rw [c1]; exact h.names⟩
  · obtain ⟨g1, g2, _, _⟩ := created h.inn h.apart s1.dir.mapart c3 (named_size c4) c5 c6
    refine ⟨s1, g1, g2, hl, hr, fun p hp => ?_⟩
    rw [c5] at hp
    have hp2 := (done_mem (k := p.1) (v := p.2)).1 hp
    rw [if_neg (show ¬ (Seg.nameB u).size = 0 from named_size c4)] at hp2
    rcases hp2 with ⟨e, _⟩ | ⟨e, _, _⟩
    · exact ⟨u, hu, by rw [e, Seg.bytesOf_nameB]⟩
    · exact h.names _ e
theorem append (h : Deck U N D X) (name s : ByteArray) (hs : s.size ≤ 3000) (hN : N + 1 ≤ 1000000) : Deck U (N + 1) (D.append name s).1 (X.append name s).1 ∧ (X.append name s).2 = (D.append name s).2 := by
  obtain ⟨s1, s2⟩ := h.sim.append h.inn name s
  obtain ⟨c1, c2⟩ := append_same D name s
  exact ⟨⟨s1, h.inn.of c1 c2, same_apart h.apart c1, lim_append h.lim name s hs hN, h.rlim.append name s hs hN, by rw [c1]; exact h.names⟩, s2⟩
theorem listed (h : Deck U N D X) (hU : U < 18446744073709551616) : ∀ s ∈ D.list, NameOk s := by
  intro s hs
  unfold DiskV.list at hs
  rw [(List.mergeSort_perm _ _).mem_iff] at hs
  obtain ⟨p, hp, rfl⟩ := List.mem_map.1 hs
  obtain ⟨u, hu, e⟩ := h.names p hp
  exact .inl ⟨u, by omega, e⟩
theorem firsts (h : Deck U N D X) (hU : U < 18446744073709551616) : ∀ u ∈ D.firsts, u ≤ U := by
  intro v hv
  unfold DiskV.firsts at hv
  obtain ⟨s, hs, he⟩ := List.mem_filterMap.1 hv
  unfold DiskV.list at hs
  rw [(List.mergeSort_perm _ _).mem_iff] at hs
  obtain ⟨p, hp, rfl⟩ := List.mem_map.1 hs
  obtain ⟨u, hu, e⟩ := h.names p hp
  rw [e, numL_name (by omega)] at he
  cases he
  exact hu
end Deck
/- How a limit moves when a log is opened. -/
theorem lim_one {N : Nat} {D : DiskV} (h : Lim N D) (u : Nat) (next : Option Nat) (hN : N + 1 ≤ 1000000) : (∀ v, next = some v → (openOne D u next).1 = D) ∧ Lim (N + 1) (openOne D u next).1 := by
  have h1 := h.mono (Nat.le_succ N) hN
  unfold openOne
  split
  · exact ⟨fun _ _ => rfl, h1⟩
  · cases next with
    | some v =>
      dsimp only
      split
      · exact ⟨fun _ _ => rfl, h1⟩
      · exact ⟨fun _ _ => rfl, h1⟩
    | none =>
      refine ⟨(fun v hv => by cases hv), ?_⟩
      dsimp only
      split
      · split
        · exact lim_cut h _ _ hN
        · exact lim_sync (lim_cut h _ _ hN) _
      · exact lim_sync h1 _
theorem lim_openGo {N : Nat} (hN : N + 1 ≤ 1000000) (l : List Nat) : ∀ (D : DiskV) (acc : List SegV), Lim N D → Lim (N + 1) (openGo D acc l).1 := by
  induction l with
  | nil => intro D acc h; exact h.mono (Nat.le_succ N) hN
  | cons u r ih =>
    intro D acc h
    obtain ⟨h1, h2⟩ := lim_one h u r.head? hN
    rw [openGo]
    split
    · exact h2
    · cases r with
      | nil => exact h2
      | cons v r' => rw [h1 v rfl]; exact ih D _ h
theorem lim_opened {N : Nat} {D : DiskV} (h : Lim N D) (hN : N + 2 ≤ 1000000) : Lim (N + 2) D.opened.1 := by
  unfold DiskV.opened
  split
  · exact lim_started h 1 hN
  · exact (lim_openGo (by omega) _ D [] h).mono (by omega) hN
theorem RLim.one {N : Nat} {X : RefV} (h : RLim N X) (u : Nat) (next : Option Nat) (hN : N + 1 ≤ 1000000) : (∀ v, next = some v → (ropenOne X u next).1 = X) ∧ RLim (N + 1) (ropenOne X u next).1 := by
  have h1 := h.mono (Nat.le_succ N) hN
  unfold ropenOne
  split
  · exact ⟨fun _ _ => rfl, h1⟩
  · cases next with
    | some v =>
      dsimp only
      split
      · exact ⟨fun _ _ => rfl, h1⟩
      · exact ⟨fun _ _ => rfl, h1⟩
    | none =>
      refine ⟨(fun v hv => by cases hv), ?_⟩
      dsimp only
      split
      · split
        · exact h.cut _ _ hN
        · exact (h.cut _ _ hN).sync _
      · exact h1.sync _
theorem RLim.openGo {N : Nat} (hN : N + 1 ≤ 1000000) (l : List Nat) : ∀ (X : RefV) (acc : List RSeg), RLim N X → RLim (N + 1) (ropenGo X acc l).1 := by
  induction l with
  | nil => intro X acc h; exact h.mono (Nat.le_succ N) hN
  | cons u r ih =>
    intro X acc h
    obtain ⟨h1, h2⟩ := h.one u r.head? hN
    rw [ropenGo]
    split
    · exact h2
    · cases r with
      | nil => exact h2
      | cons v r' => rw [h1 v rfl]; exact ih X _ h
theorem RLim.opened {N : Nat} {X : RefV} (h : RLim N X) (hN : N + 2 ≤ 1000000) : RLim (N + 2) X.opened.1 := by
  unfold RefV.opened
  split
  · exact (h.started 1 (by omega)).mono (by omega) hN
  · exact (RLim.openGo (by omega) _ X [] h).mono (by omega) hN
/-- What opened leaves, plain. -/
theorem Deck.twin {U N : Nat} {D : DiskV} {X : RefV} (h : Deck U N D X) (hU : U ≤ 1000000000000) (h0 : D.opened.2.1 = 0) {xs : List SegV} {a : SegV} (hx : D.opened.2.2 = xs ++ [a]) {pre : List RSeg} {y : RSeg} (hy : X.opened.2.2 = pre ++ [y]) :
    Twin X.opened.1 D.opened.1 ⟨xs, a, a⟩ (pre ++ [y]) y.bodies.length := by
  have he := (h.sim.opened h.inn).2.1
  obtain ⟨pre2, y2, h1, h2⟩ := Twin.of_open h.sim h.inn h.apart h.lim (fun u hu => Nat.le_trans (h.firsts (by omega) u hu) hU) (h.listed (by omega)) (he.trans h0) hx
  rw [hy] at h1
  obtain ⟨e1, e2⟩ := List.append_inj' h1 rfl
  have e2 : y = y2 := List.head_eq_of_cons_eq e2
  rw [e1, e2]
  exact h2
end Go.Proofs.YtnppdcegpojmbaaGreatDoor
namespace Go.Proofs.YtnppdcegpojmbaaGreatDoor
open Go Go.RowKit Go.Sort
/-- A play with its disks; its logs' cells hold anything. -/
structure Duo (w : World) (n pb d r : Nat) (lv qv : Value) (D : DiskV) (X : RefV) (F1 F2 : Nat → Prop) : Prop where
  play : w.heap[pb]? = some (.cells #[.pointer (some ⟨d, 0, none⟩), .pointer (some ⟨r, 0, none⟩), lv, qv] 54 (0, 0))
  dk : DiskIn w d D F1
  rk : RefIn w r X F2
  apart : ∀ b, F1 b → ¬ F2 b
  p1 : ¬ F1 pb
  p2 : ¬ F2 pb
  f1 : ∀ b, F1 b → n ≤ b ∧ b < w.heap.size
  f2 : ∀ b, F2 b → n ≤ b ∧ b < w.heap.size
  np : n ≤ pb
theorem RefIn.off {F G : Nat → Prop} {w w' : World} {r : Nat} {X : RefV} (h : RefIn w r X F) (ho : Off G w w') (hG : ∀ b, b < w.heap.size → F b → ¬ G b) : RefIn w' r X F := by
  obtain ⟨R, h1, h2⟩ := h
  exact ⟨R, h1.off ho (fun b hb => hG b (h1.old b hb) (h2 b hb)), h2⟩
theorem Store.off {F G : Nat → Prop} {w w' : World} {lg d off : Nat} {L : LogV} {D : DiskV} (h : Store w lg d L D F off) (ho : Off G w w') (hG : ∀ b, F b → ¬ G b) : Store w' lg d L D F off := by
  obtain ⟨g, cap, Fd, h1⟩ := h
  exact ⟨g, cap, Fd, h1.log.off ho (hG _ h1.inL) (hG _ h1.inG), h1.disk.off ho (fun b _ hb => hG b (h1.inD b hb)), h1.sepL, h1.sepG, h1.inL, h1.inG, h1.inD⟩
theorem RStore.off {F G : Nat → Prop} {w w' : World} {q r synced : Nat} {rs : List RSeg} {X : RefV} (h : RStore w q r rs synced X F) (ho : Off G w w') (hG : ∀ b, F b → ¬ G b) : RStore w' q r rs synced X F := by
  obtain ⟨rows, lv, A, Fr, h1, h2⟩ := h
  exact ⟨rows, lv, A, Fr, h1, h2.apart ho (fun b _ hb => hG b hb)⟩
namespace Duo
variable {w w' w1 w2 : World} {n pb d r : Nat} {lv qv : Value} {D D' : DiskV} {X X' : RefV} {F1 F2 : Nat → Prop}
theorem quiet (h : Duo w n pb d r lv qv D X F1 F2) (ho : Off None w w') : Duo w' n pb d r lv qv D X F1 F2 :=
  ⟨ho.at_ h.play (fun h => h), h.dk.off ho (fun _ _ _ h => h), h.rk.off ho (fun _ _ _ h => h), h.apart, h.p1, h.p2, fun b hb => ⟨(h.f1 b hb).1, Nat.lt_of_lt_of_le (h.f1 b hb).2 ho.size⟩, fun b hb => ⟨(h.f2 b hb).1, Nat.lt_of_lt_of_le (h.f2 b hb).2 ho.size⟩, h.np⟩
theorem plt (h : Duo w n pb d r lv qv D X F1 F2) : pb < w.heap.size := Heap.lt h.play
theorem turn1 (h : Duo w n pb d r lv qv D X F1 F2) (hd : DiskIn w1 d D' (Grow F1 w w1)) (ho : Off F1 w w1) : Duo w1 n pb d r lv qv D' X (Grow F1 w w1) F2 := by
  have hs := ho.size
  have hp := h.plt
  have hn := h.np
  refine ⟨ho.at_ h.play h.p1, hd, h.rk.off ho (fun b _ h2 h1 => h.apart b h1 h2), fun b hb h2 => ?_, fun hb => hb.elim h.p1 (fun x => by omega), h.p2, fun b hb => ?_, fun b hb => ⟨(h.f2 b hb).1, Nat.lt_of_lt_of_le (h.f2 b hb).2 hs⟩, h.np⟩
  · rcases hb with hb | hb
    · exact h.apart b hb h2
    · have := (h.f2 b h2).2; omega
  · rcases hb with hb | hb
    · exact ⟨(h.f1 b hb).1, Nat.lt_of_lt_of_le (h.f1 b hb).2 hs⟩
    · exact ⟨by omega, hb.2⟩
theorem turn2 (h : Duo w n pb d r lv qv D X F1 F2) (hd : RefIn w1 r X' (Grow F2 w w1)) (ho : Off F2 w w1) : Duo w1 n pb d r lv qv D X' F1 (Grow F2 w w1) := by
  have hs := ho.size
  have hp := h.plt
  have hn := h.np
  refine ⟨ho.at_ h.play h.p2, h.dk.off ho (fun b _ h1 h2 => h.apart b h1 h2), hd, fun b hb h2 => ?_, h.p1, fun hb => hb.elim h.p2 (fun x => by omega), fun b hb => ⟨(h.f1 b hb).1, Nat.lt_of_lt_of_le (h.f1 b hb).2 hs⟩, fun b hb => ?_, h.np⟩
  · rcases h2 with h2 | h2
    · exact h.apart b hb h2
    · have := (h.f1 b hb).2; omega
  · rcases hb with hb | hb
    · exact ⟨(h.f2 b hb).1, Nat.lt_of_lt_of_le (h.f2 b hb).2 hs⟩
    · exact ⟨by omega, hb.2⟩
theorem cells (h : Duo w n pb d r lv qv D X F1 F2) : w.cell? ⟨pb, 0, none⟩ = some (.pointer (some ⟨d, 0, none⟩)) ∧ w.cell? ⟨pb, 1, none⟩ = some (.pointer (some ⟨r, 0, none⟩)) ∧ w.cell? ⟨pb, 2, none⟩ = some lv ∧ w.cell? ⟨pb, 3, none⟩ = some qv :=
  ⟨Heap.cell h.play 0, Heap.cell h.play 1, Heap.cell h.play 2, Heap.cell h.play 3⟩
/-- The logs' cells are set. -/
theorem setLogs (h : Duo w n pb d r lv qv D X F1 F2) (a b : Value) : Duo ((w.setCell ⟨pb, 2, none⟩ a).setCell ⟨pb, 3, none⟩ b) n pb d r a b D X F1 F2 := by
  have ho : Off (Only pb) w ((w.setCell ⟨pb, 2, none⟩ a).setCell ⟨pb, 3, none⟩ b) := ((Off.refl (Only pb) w).set 2 a).set 3 b
  refine ⟨(Heap.set (Heap.set h.play 2 _) 3 _).trans rfl, h.dk.off ho (fun c _ hc e => h.p1 (show F1 pb from (show c = pb from e) ▸ hc)), h.rk.off ho (fun c _ hc e => h.p2 (show F2 pb from (show c = pb from e) ▸ hc)), h.apart, h.p1, h.p2, fun b hb => ⟨(h.f1 b hb).1, Nat.lt_of_lt_of_le (h.f1 b hb).2 ho.size⟩, fun b hb => ⟨(h.f2 b hb).1, Nat.lt_of_lt_of_le (h.f2 b hb).2 ho.size⟩, h.np⟩
end Duo
/-- What opened leaves. -/
def Opened (w w' : World) (n pb d r : Nat) (D : DiskV) (X : RefV) (F1 F2 : Nat → Prop) : Prop :=
  (D.opened.2.1 = 0 ∧ ∃ lg q xs a pre y, ∃ F1' F2' : Nat → Prop, D.opened.2.2 = xs ++ [a] ∧ X.opened.2.2 = pre ++ [y] ∧ Two w' n pb d r lg q 0 ⟨xs, a, a⟩ D.opened.1 (pre ++ [y]) y.bodies.length X.opened.1 F1' F2' ∧ (∀ b, F1' b → F1 b ∨ w.heap.size ≤ b) ∧ (∀ b, F2' b → F2 b ∨ w.heap.size ≤ b)) ∨
  (D.opened.2.1 ≠ 0 ∧ ∃ F1' F2' : Nat → Prop, Duo w' n pb d r (.pointer none) (.pointer none) D.opened.1 X.opened.1 F1' F2' ∧ (∀ b, F1' b → F1 b ∨ w.heap.size ≤ b) ∧ (∀ b, F2' b → F2 b ∨ w.heap.size ≤ b))
namespace Law
set_option maxHeartbeats 1000000 in
set_option maxRecDepth 100000 in
theorem framed_any (w : World) (seq : Nat) (hq : seq < 18446744073709551616) :
    Calls Tryz.prog 28 #[.int .u64 seq] w fun e w' => e = .returned (.string ⟨(Frame.putF seq [98]).toArray⟩) ∧ Off None w w' := by
  have hp := fun W => Frame.rput_any W seq ⟨#[98]⟩ hq (by decide)
  have hF : ∀ W, Calls Tryz.prog 67 #[.int .u64 seq, .string ⟨#[98]⟩] W fun e w' => e = .returned (.tuple #[.string ⟨(Frame.putF seq [98]).toArray⟩, .int .i64 0]) ∧ Off None W w' := by
    intro W
    have hp2 := hp W
    rw [if_neg (by decide)] at hp2
    have HP := Lib.hid hp2; clear hp2 hp
    go_enter Tryz.func67, Tryz.ntmps67
    go_wp2_with fail
    refine HP.out.mono ?_
    rintro e w1 ⟨rfl, ho1⟩
    go_wp2
    go_ret2
    exact ⟨rfl, ho1⟩
  have HF := Lib.hid hF; clear hF hp
  go_enter Tryz.func28, Tryz.ntmps28
  go_wp2_with fail
  refine (HF.out w).mono ?_
  rintro e w1 ⟨rfl, ho1⟩
  go_wp2
  go_ret
  exact ⟨rfl, ho1⟩
set_option maxHeartbeats 1000000 in
set_option maxRecDepth 100000 in
theorem opened_any (w : World) (n pb d r N N2 : Nat) (lv qv : Value) (D : DiskV) (X : RefV) (F1 F2 : Nat → Prop) (h : Duo w n pb d r lv qv D X F1 F2) (hsim : Sim X D) (hin : NamesIn D) (hnm : ∀ s ∈ D.list, NameOk s) (hub : ∀ u ∈ D.firsts, u ≤ 1000000000000) (hG : Glob n w) (hl : Lim N D) (hN : N + 1 ≤ 1000000) (hl2 : RLim N2 X) (hN2 : N2 + 1 ≤ 1000000) :
    Calls Tryz.prog 31 #[.pointer (some ⟨pb, 0, none⟩)] w fun e w' => e = .returned (.bool true) ∧ Off (fun b => F1 b ∨ F2 b ∨ b = pb) w w' ∧ Opened w w' n pb d r D X F1 F2 := by
  have H := Lib.hid h; clear h
  obtain ⟨_, heq, _⟩ := hsim.opened hin
  have hrl : ∀ s ∈ (RefV.listed X.dir X.dir.length).1, NameOk (bytesOf s) := fun s hs => hnm _ (by rw [← hsim.list]; exact List.mem_map_of_mem hs)
  have hrf : ∀ u ∈ X.firsts, u ≤ 1000000000000 := fun u hu => hub u (by rw [← hsim.firsts]; exact hu)
  have HOP := Lib.hid (Seg.open_all w d n N D F1 H.out.dk hnm hub hG (fun b hb => (H.out.f1 b hb).1) hl hN)
  have HRO := Lib.hid (fun W (hW : RefIn W r X F2) => RefL.open_any W r N2 X F2 hW hrl hrf hl2 hN2)
  clear hrl hrf hsim hin hnm hub hG hl hl2
  obtain ⟨k0, k1, k2, k3⟩ := H.out.cells
  obtain ⟨er, her⟩ : ∃ er, er = D.opened.2.1 := ⟨_, rfl⟩
  rw [← her] at heq
  have HER := Lib.hid her; have HEQ := Lib.hid heq; clear her heq
  go_enter Tryz.func31, Tryz.ntmps31
  go_wp2_with fail
  refine HOP.out.mono ?_
  rintro e w1 ⟨⟨p, rfl, hp1, hp2⟩, hd1, ho1⟩
  rw [← HER.out] at hp1 hp2 ⊢
  have HD1 := Lib.hid (H.out.turn1 hd1 ho1); have HO1 := Lib.hid ho1
  clear hd1 ho1 k0 k1 k2 k3
  obtain ⟨k0, k1, k2, k3⟩ := HD1.out.cells
  by_cases he : er = 0
  · obtain ⟨lg, xs, a, rfl, hlg, hxa, hst⟩ := hp2 he
    have HST := Lib.hid hst; have HXA := Lib.hid hxa
    clear hp1 hp2 hst hxa
    subst he
    go_wp2_with fail
    refine (HRO.out w1 HD1.out.rk).mono ?_
    rintro e w2 ⟨⟨p2, rfl, _, hq2⟩, hd2, ho2⟩
    rw [HEQ.out] at hq2 ⊢
    obtain ⟨q, pre, y, rfl, hq, hpy, hrs⟩ := hq2 rfl
    have HD2 := Lib.hid (HD1.out.turn2 hd2 ho2); have HO2 := Lib.hid ho2; have HRS := Lib.hid hrs; have HPY := Lib.hid hpy
    clear hd2 ho2 hrs hpy k0 k1 k2 k3
    obtain ⟨k0, k1, k2, k3⟩ := HD2.out.cells
    have f2 : w2.frozen? ⟨pb, 2, none⟩ = false := Heap.frozen HD2.out.play 2
    have f3 : w2.frozen? ⟨pb, 3, none⟩ = false := Heap.frozen HD2.out.play 3
    have hpl := HD2.out.plt
    go_wp2_with fail
    go_ret
    have hoS : Off (Only pb) w2 ((w2.setCell ⟨pb, 2, none⟩ (.pointer (some ⟨lg, 0, none⟩))).setCell ⟨pb, 3, none⟩ (.pointer (some ⟨q, 0, none⟩))) := ((Off.refl (Only pb) w2).set 2 _).set 3 _
    have h3 := HD2.out.setLogs (.pointer (some ⟨lg, 0, none⟩)) (.pointer (some ⟨q, 0, none⟩))
    have hs1 := HO1.out.size
    have hoff : Off (fun b => F1 b ∨ F2 b ∨ b = pb) w ((w2.setCell ⟨pb, 2, none⟩ (.pointer (some ⟨lg, 0, none⟩))).setCell ⟨pb, 3, none⟩ (.pointer (some ⟨q, 0, none⟩))) :=
      ((HO1.out.mono (fun _ _ h => .inl h)).trans HO2.out (fun _ _ h => .inr (.inl h))).trans hoS (fun b _ e => .inr (.inr e))
    refine ⟨rfl, hoff, .inl ⟨HER.out.symm, lg, q, xs, a, pre, y, _, _, HXA.out, HPY.out, ⟨h3.play, (HST.out.off HO2.out HD1.out.apart).off hoS (fun b hb e => HD1.out.p1 (by rw [← show b = pb from e]; exact hb)), HRS.out.off hoS (fun b hb e => HD2.out.p2 (by rw [← show b = pb from e]; exact hb)), h3.apart, h3.p1, h3.p2, h3.f1, h3.f2, h3.np⟩, fun b hb => hb.imp id (fun x => x.1), fun b hb => hb.imp id (fun x => by omega)⟩⟩
  · have hpn := hp1 he
    subst hpn
    clear hp1 hp2
    go_wp2_with fail
    refine (HRO.out w1 HD1.out.rk).mono ?_
    rintro e w2 ⟨⟨p2, rfl, hq1, _⟩, hd2, ho2⟩
    rw [HEQ.out] at hq1 ⊢
    have hqn := hq1 he
    subst hqn
    have HD2 := Lib.hid (HD1.out.turn2 hd2 ho2); have HO2 := Lib.hid ho2
    clear hd2 ho2 k0 k1 k2 k3 hq1
    obtain ⟨k0, k1, k2, k3⟩ := HD2.out.cells
    have f2 : w2.frozen? ⟨pb, 2, none⟩ = false := Heap.frozen HD2.out.play 2
    have f3 : w2.frozen? ⟨pb, 3, none⟩ = false := Heap.frozen HD2.out.play 3
    have hpl := HD2.out.plt
    have t1 : (er == 0) = false := by rw [beq_eq_false_iff_ne]; exact he
    go_wp2_with fail
    go_ret
    have hoS : Off (Only pb) w2 ((w2.setCell ⟨pb, 2, none⟩ (.pointer none)).setCell ⟨pb, 3, none⟩ (.pointer none)) := ((Off.refl (Only pb) w2).set 2 _).set 3 _
    have h3 := HD2.out.setLogs (.pointer none) (.pointer none)
    have hs1 := HO1.out.size
    have hoff : Off (fun b => F1 b ∨ F2 b ∨ b = pb) w ((w2.setCell ⟨pb, 2, none⟩ (.pointer none)).setCell ⟨pb, 3, none⟩ (.pointer none)) :=
      ((HO1.out.mono (fun _ _ h => .inl h)).trans HO2.out (fun _ _ h => .inr (.inl h))).trans hoS (fun b _ e => .inr (.inr e))
    refine ⟨rfl, hoff, .inr ⟨by rw [← HER.out]; exact he, _, _, h3, fun b hb => hb.imp id (fun x => x.1), fun b hb => hb.imp id (fun x => by omega)⟩⟩
end Law
end Go.Proofs.YtnppdcegpojmbaaGreatDoor
