/- Both logs in memory, side by side: what they tell. · The walk of alike: both logs tell the same. -/
import Derived.Test.YtnppdcegpojmbaaGreatDoorTwin3
import Derived.Test.YtnppdcegpojmbaaGreatDoorRefL4
import Derived.Test.YtnppdcegpojmbaaGreatDoorLaw2
import Derived.Lib.QuietBelow
import Derived.BigQuiet
namespace Go.Proofs.YtnppdcegpojmbaaGreatDoor
open Go Go.RowKit Go.Sort
/-- A play: both logs and their disks; n: blocks below are the world's. -/
structure Two (w : World) (n pb d r lg q off : Nat) (L : LogV) (D : DiskV) (rs : List RSeg) (synced : Nat) (X : RefV) (F1 F2 : Nat → Prop) : Prop where
  play : w.heap[pb]? = some (.cells #[.pointer (some ⟨d, 0, none⟩), .pointer (some ⟨r, 0, none⟩), .pointer (some ⟨lg, 0, none⟩), .pointer (some ⟨q, 0, none⟩)] 54 (0, 0))
  st : Store w lg d L D F1 off
  rst : RStore w q r rs synced X F2
  apart : ∀ b, F1 b → ¬ F2 b
  p1 : ¬ F1 pb
  p2 : ¬ F2 pb
  f1 : ∀ b, F1 b → n ≤ b ∧ b < w.heap.size
  f2 : ∀ b, F2 b → n ≤ b ∧ b < w.heap.size
  np : n ≤ pb
theorem RStore.quiet {w w' : World} {q r synced : Nat} {rs : List RSeg} {X : RefV} {F : Nat → Prop} (h : RStore w q r rs synced X F) (ho : Off None w w') : RStore w' q r rs synced X F := by
  obtain ⟨rows, lv, A, Fr, h1, h2⟩ := h
  exact ⟨rows, lv, A, Fr, h1, h2.quiet ho⟩
theorem Store.quiet {w w' : World} {lg d off : Nat} {L : LogV} {D : DiskV} {F : Nat → Prop} (h : Store w lg d L D F off) (ho : Off None w w') : Store w' lg d L D F off := by
  obtain ⟨g, cap, Fd, h1⟩ := h
  exact ⟨g, cap, Fd, h1.quiet ho⟩
namespace RStore
variable {w : World} {q r synced : Nat} {rs pre : List RSeg} {a : RSeg} {X : RefV} {F : Nat → Prop}
theorem next (h : RStore w q r (pre ++ [a]) synced X F) (hs : a.end_ < 18446744073709551616) : Calls Tryz.prog 74 #[.pointer (some ⟨q, 0, none⟩)] w fun e w' => e = .returned (.int .u64 a.end_) ∧ Off None w w' := by
  obtain ⟨rows, lv, A, Fr, h1, h2⟩ := h
  have hl : rows.length = pre.length + 1 := by have := congrArg List.length h1; simpa using this
  have hx : (rows[pre.length]'(by omega)).1 = a := by
    have h3 : (rows.map (·.1))[pre.length]? = (pre ++ [a])[pre.length]? := by rw [h1]
    rw [List.getElem?_map, List.getElem?_eq_getElem (by omega), List.getElem?_append_right (Nat.le_refl _), Nat.sub_self] at h3
    exact Option.some.inj h3
  have := RefL.next_any w q r synced pre.length rows lv A h2.pre hl (by rw [hx]; exact hs)
  rw [hx] at this
  exact this
theorem durable (h : RStore w q r (pre ++ [a]) synced X F) (hs : a.first + synced < 18446744073709551616) : Calls Tryz.prog 75 #[.pointer (some ⟨q, 0, none⟩)] w fun e w' => e = .returned (.int .u64 (a.first + synced : Nat)) ∧ Off None w w' := by
  obtain ⟨rows, lv, A, Fr, h1, h2⟩ := h
  have hl : rows.length = pre.length + 1 := by have := congrArg List.length h1; simpa using this
  have hx : (rows[pre.length]'(by omega)).1 = a := by
    have h3 : (rows.map (·.1))[pre.length]? = (pre ++ [a])[pre.length]? := by rw [h1]
    rw [List.getElem?_map, List.getElem?_eq_getElem (by omega), List.getElem?_append_right (Nat.le_refl _), Nat.sub_self] at h3
    exact Option.some.inj h3
  have := RefL.durable_any w q r synced pre.length rows lv A h2.pre hl (by rw [hx]; exact hs)
  rw [hx] at this
  exact this
theorem get (h : RStore w q r rs synced X F) (hok : ∀ s ∈ rs, s.end_ < 9223372036854775808) (hn : rs.length ≤ 1000000) (seq : Nat) (hq : seq < 18446744073709551616) :
    Calls Tryz.prog 76 #[.pointer (some ⟨q, 0, none⟩), .int .u64 seq] w fun e w' => e = .returned (.tuple #[.string (rget X rs seq).1, .int .i64 (rget X rs seq).2]) ∧ Off None w w' := by
  obtain ⟨rows, lv, A, Fr, h1, h2⟩ := h
  have := RefL.get_any w q r synced rows lv A X Fr F h2 (fun x hx => hok _ (by rw [← h1]; exact List.mem_map_of_mem hx)) (by rw [← h1, List.length_map] at hn; exact hn) seq hq
  rw [h1] at this
  exact this
end RStore
namespace Two
variable {w w' : World} {n pb d r lg q off : Nat} {L : LogV} {D : DiskV} {rs : List RSeg} {synced : Nat} {X : RefV} {F1 F2 : Nat → Prop}
theorem quiet (h : Two w n pb d r lg q off L D rs synced X F1 F2) (ho : Off None w w') : Two w' n pb d r lg q off L D rs synced X F1 F2 :=
  ⟨ho.at_ h.play (fun h => h), h.st.quiet ho, h.rst.quiet ho, h.apart, h.p1, h.p2, fun b hb => ⟨(h.f1 b hb).1, Nat.lt_of_lt_of_le (h.f1 b hb).2 ho.size⟩, fun b hb => ⟨(h.f2 b hb).1, Nat.lt_of_lt_of_le (h.f2 b hb).2 ho.size⟩, h.np⟩
theorem cells (h : Two w n pb d r lg q off L D rs synced X F1 F2) : w.cell? ⟨pb, 0, none⟩ = some (.pointer (some ⟨d, 0, none⟩)) ∧ w.cell? ⟨pb, 1, none⟩ = some (.pointer (some ⟨r, 0, none⟩)) ∧ w.cell? ⟨pb, 2, none⟩ = some (.pointer (some ⟨lg, 0, none⟩)) ∧ w.cell? ⟨pb, 3, none⟩ = some (.pointer (some ⟨q, 0, none⟩)) :=
  ⟨Heap.cell h.play 0, Heap.cell h.play 1, Heap.cell h.play 2, Heap.cell h.play 3⟩
theorem ops (h : Two w n pb d r lg q off L D rs synced X F1 F2) : Calls Tryz.prog 73 #[.pointer (some ⟨d, 0, none⟩)] w fun e w' => e = .returned (.int .i64 D.ops) ∧ Off None w w' := by
  obtain ⟨g, cap, Fd, hs⟩ := h.st
  obtain ⟨R, hd, _⟩ := hs.disk
  exact (DiskW.ops_any w d D R hd).mono (fun e w' ⟨h1, h2⟩ => ⟨h1, h2 ▸ Off.refl _ _⟩)
theorem opsX (h : Two w n pb d r lg q off L D rs synced X F1 F2) : w.cell? ⟨r, 3, none⟩ = some (.int .i64 X.ops) := by
  obtain ⟨rows, lv, A, Fr, _, h2⟩ := h.rst
  obtain ⟨R, g1, _⟩ := h2.disk
  exact Heap.cell g1.core 3
theorem used (h : Two w n pb d r lg q off L D rs synced X F1 F2) (hu : D.used ≤ 9223372036854775807) : Calls Tryz.prog 20 #[.pointer (some ⟨d, 0, none⟩)] w fun e w' => e = .returned (.int .i64 D.used) ∧ Off None w w' := by
  obtain ⟨g, cap, Fd, hs⟩ := h.st
  obtain ⟨R, hd, _⟩ := hs.disk
  exact DiskW.used_any w d D R hd hu
theorem usedX (h : Two w n pb d r lg q off L D rs synced X F1 F2) (hu : X.used ≤ 9223372036854775807) : Calls Tryz.prog 69 #[.pointer (some ⟨r, 0, none⟩)] w fun e w' => e = .returned (.int .i64 X.used) ∧ Off None w w' := by
  obtain ⟨rows, lv, A, Fr, _, h2⟩ := h.rst
  obtain ⟨R, g1, _⟩ := h2.disk
  exact RefW.used_any w r X R g1 hu
theorem next (h : Two w n pb d r lg q off L D rs synced X F1 F2) (hk : L.Ok) : Calls Tryz.prog 21 #[.pointer (some ⟨lg, 0, none⟩)] w fun e w' => e = .returned (.int .u64 L.act.end_) ∧ Off None w w' := by
  obtain ⟨g, cap, Fd, hs⟩ := h.st
  exact Seg.next_any w lg d L g off cap hs.log hk
theorem durable (h : Two w n pb d r lg q off L D rs synced X F1 F2) (hk : L.Ok) : Calls Tryz.prog 22 #[.pointer (some ⟨lg, 0, none⟩)] w fun e w' => e = .returned (.int .u64 L.durable.end_) ∧ Off None w w' := by
  obtain ⟨g, cap, Fd, hs⟩ := h.st
  exact Seg.durable_any w lg d L g off cap hs.log hk
theorem segs (h : Two w n pb d r lg q off L D rs synced X F1 F2) (hn : L.segs.length ≤ 1000000) : Calls Tryz.prog 17 #[.pointer (some ⟨lg, 0, none⟩)] w fun e w' => ∃ v, e = .returned v ∧ w'.ownsRow w.heap.size 42 3 v L.segs.length (L.segs.flatMap segCells) ∧ Off None w w' := by
  obtain ⟨g, cap, Fd, hs⟩ := h.st
  exact Seg.segs_any w lg d L g off cap hs.log hn
theorem bytes (h : Two w n pb d r lg q off L D rs synced X F1 F2) (hb : L.bytes ≤ 9223372036854775807) : Calls Tryz.prog 19 #[.pointer (some ⟨lg, 0, none⟩)] w fun e w' => e = .returned (.int .i64 L.bytes) ∧ Off None w w' := by
  obtain ⟨g, cap, Fd, hs⟩ := h.st
  exact Seg.bytes_any w lg d L g off cap hs.log hb
theorem get {N : Nat} (h : Two w n pb d r lg q off L D rs synced X F1 F2) (hG : Glob n w) (hok : L.Ok) (hl : Lim N D) (seq : Nat) (hq : seq < 18446744073709551616) :
    Calls Tryz.prog 23 #[.pointer (some ⟨lg, 0, none⟩), .int .u64 seq] w fun e w' => e = .returned (.tuple #[.string (L.get D seq).1, .int .i64 (L.get D seq).2]) ∧ Off None w w' :=
  Seg.get_any w lg d n N L D F1 off h.st hG hok hl seq hq
end Two
end Go.Proofs.YtnppdcegpojmbaaGreatDoor
namespace Go.Proofs.YtnppdcegpojmbaaGreatDoor
open Go Go.RowKit Go.Sort
theorem seg_cells {w : World} {base : Nat} {v : Value} {xs : List SegV} (h : w.ownsRow base 42 3 v xs.length (xs.flatMap segCells)) : ∃ p c, v = .slice p xs.length c ∧ ∀ i (hi : i < xs.length), ∃ g, p = some ⟨g, 0, none⟩ ∧ g < w.heap.size ∧ w.cell? ⟨g, i * 3, none⟩ = some (.int .u64 xs[i].first) ∧ w.cell? ⟨g, i * 3 + 1, none⟩ = some (.int .i64 xs[i].many) ∧ w.cell? ⟨g, i * 3 + 2, none⟩ = some (.int .i64 xs[i].size) := by
  obtain ⟨p, c, rfl⟩ := own_shape h
  refine ⟨p, c, rfl, fun i hi => ?_⟩
  obtain ⟨g, c2, hv, hg, _, _, _, hc⟩ := own_cell h (by omega)
  cases hv
  have hf := flat_at xs i xs[i] (List.getElem?_eq_getElem hi)
  exact ⟨g, rfl, hg, (hc _ _ hf.1).1, (hc _ _ hf.2.1).1, (hc _ _ hf.2.2).1⟩
theorem dec_step2 {m j : Nat} (h : j < m) : m - (intOf (.int .i64 ((j : Int) + 1))).toNat < m - (intOf (.int .i64 (j : Int))).toNat := by
  simp [intOf]; omega
def sizesTo (rs : List RSeg) (k : Nat) : Nat := ((rs.take k).map (·.size)).sum
theorem sizesTo_succ {rs : List RSeg} {k : Nat} (h : k < rs.length) : sizesTo rs (k + 1) = sizesTo rs k + rs[k].size := by
  unfold sizesTo
  rw [List.take_succ_eq_append_getElem h, List.map_append, List.sum_append]
  simp
theorem sizesTo_le (rs : List RSeg) (k : Nat) : sizesTo rs k ≤ (rs.map (·.size)).sum := by
  unfold sizesTo
  conv => rhs; rw [← List.take_append_drop k rs, List.map_append, List.sum_append]
  exact Nat.le_add_right _ _
namespace Law
set_option maxHeartbeats 2000000 in
set_option maxRecDepth 100000 in
theorem alike_any (w : World) (n pb d r lg q off N N2 : Nat) (L : LogV) (D : DiskV) (rs : List RSeg) (synced : Nat) (X : RefV) (F1 F2 : Nat → Prop) (h : Two w n pb d r lg q off L D rs synced X F1 F2) (ht : Twin X D L rs synced) (hG : Glob n w) (hl : Lim N D) (hl2 : RLim N2 X) :
    Calls Tryz.prog 32 #[.pointer (some ⟨pb, 0, none⟩)] w fun e w' => e = .returned (.bool true) ∧ Off None w w' := by
  have hok := ht.ok hl
  obtain ⟨hb1, hb2, hb3⟩ := ht.bytes_le hl
  obtain ⟨pre, a, hr, hsy, hact, hae, hde⟩ := ht.ends
  have ha : a ∈ rs := by rw [hr]; simp
  obtain ⟨ha1, ha2, ha3⟩ := ht.size_le hl ha
  have hends : ∀ s ∈ rs, s.end_ < 9223372036854775808 := fun s hs => by have := (ht.size_le hl hs).2.2; omega
  have hsz : ∀ s ∈ rs, s.size ≤ 3000000000 ∧ s.bodies.length ≤ 3000000000 := fun s hs => ⟨(ht.size_le hl hs).1, (ht.size_le hl hs).2.1⟩
  have hops : X.ops = D.ops := ht.sim.ops
  have hused : X.used = D.used := ht.sim.used ht.inn
  obtain ⟨s0, rest, hs0, hnone⟩ := ht.head
  have hget := ht.get
  have hsegs := ht.segs
  have hu1 := hl.used
  obtain ⟨rows, lv, A, Fr, hmap, hra⟩ := h.rst
  have hra2 := hra
  obtain ⟨pl, cl, hlv⟩ := hra.pre.row.shape
  subst hlv
  have hrn : rows.length = rs.length := by rw [← hmap, List.length_map]
  have hq1 : w.cell? ⟨q, 1, none⟩ = some (.slice pl rs.length cl) := by rw [← hrn]; exact Heap.cell hra.pre.core 1
  have hqc : ∀ i (hi : i < rs.length), ∃ gl o px cx, pl = some ⟨gl, o, none⟩ ∧ w.cell? ⟨gl, o + i * 4, none⟩ = some (.int .u64 rs[i].first) ∧ w.cell? ⟨gl, o + i * 4 + 1, none⟩ = some (.int .i64 rs[i].bodies.length) ∧ w.cell? ⟨gl, o + i * 4 + 2, none⟩ = some (.int .i64 rs[i].size) ∧ w.cell? ⟨gl, o + i * 4 + 3, none⟩ = some (.slice px rs[i].bodies.length cx) := by
    intro i hi
    have hi2 : i < rows.length := by omega
    obtain ⟨g, o, c, hpl, _, _, _, hcell⟩ := hra.pre.cells (by omega)
    cases hpl
    obtain ⟨d0, d1, d2, d3⟩ := hcell i hi2
    have hx : rs[i] = rows[i].1 := by
      have h3 : (rows.map (·.1))[i]? = rs[i]? := by rw [hmap]
      rw [List.getElem?_map, List.getElem?_eq_getElem hi2, List.getElem?_eq_getElem hi] at h3
      exact (Option.some.inj h3).symm
    obtain ⟨px, cx, hx2, _⟩ := hra.pre.each rows[i] (List.getElem_mem _)
    rw [hx2] at d3
    rw [hx]
    exact ⟨g, o, px, cx, rfl, d0, d1, d2, d3⟩
  have H := Lib.hid h; have HG := Lib.hid hG; have HOK := Lib.hid hok; have HL := Lib.hid hl; have HGET := Lib.hid hget; have HNONE := Lib.hid hnone; have HSG := Lib.hid hsegs; have HEN := Lib.hid hends; have HSZ := Lib.hid hsz
  have HQ1 := Lib.hid hq1; have HQC := Lib.hid hqc; have HS0 := Lib.hid hs0; have HR := Lib.hid hr; have HB1 := Lib.hid hb1
  have hx1 := hl2.used_le
  obtain ⟨k0, k1, k2, k3⟩ := h.cells
  have kx := h.opsX
  rw [hops] at kx
  rw [hused] at hx1
  have cO : ∀ dd os, Calls Tryz.prog 73 #[.pointer (some ⟨d, 0, none⟩)] (Sort.grow (redrawn w dd) os) fun e w'' => e = .returned (.int .i64 D.ops) ∧ ∃ p : Regrown, w'' = Sort.grow (redrawn w p.d) p.os := fun dd os => Calls.quietly (H.out.quiet (Off.of_below (below_regrown w dd os))).ops
  have cU : ∀ dd os, Calls Tryz.prog 20 #[.pointer (some ⟨d, 0, none⟩)] (Sort.grow (redrawn w dd) os) fun e w'' => e = .returned (.int .i64 D.used) ∧ ∃ p : Regrown, w'' = Sort.grow (redrawn w p.d) p.os := fun dd os => Calls.quietly ((H.out.quiet (Off.of_below (below_regrown w dd os))).used hu1)
  have cV : ∀ dd os, Calls Tryz.prog 69 #[.pointer (some ⟨r, 0, none⟩)] (Sort.grow (redrawn w dd) os) fun e w'' => e = .returned (.int .i64 D.used) ∧ ∃ p : Regrown, w'' = Sort.grow (redrawn w p.d) p.os := fun dd os => Calls.quietly (by
    have := (H.out.quiet (Off.of_below (below_regrown w dd os))).usedX (by omega)
    rw [hused] at this
    exact this)
  have cN : ∀ dd os, Calls Tryz.prog 21 #[.pointer (some ⟨lg, 0, none⟩)] (Sort.grow (redrawn w dd) os) fun e w'' => e = .returned (.int .u64 a.end_) ∧ ∃ p : Regrown, w'' = Sort.grow (redrawn w p.d) p.os := fun dd os => Calls.quietly (by
    have := (H.out.quiet (Off.of_below (below_regrown w dd os))).next HOK.out
    rw [hae] at this
    exact this)
  have cM : ∀ dd os, Calls Tryz.prog 74 #[.pointer (some ⟨q, 0, none⟩)] (Sort.grow (redrawn w dd) os) fun e w'' => e = .returned (.int .u64 a.end_) ∧ ∃ p : Regrown, w'' = Sort.grow (redrawn w p.d) p.os := fun dd os => Calls.quietly (by
    have := (H.out.quiet (Off.of_below (below_regrown w dd os))).rst
    rw [HR.out] at this
    exact this.next (by omega))
  have cD : ∀ dd os, Calls Tryz.prog 22 #[.pointer (some ⟨lg, 0, none⟩)] (Sort.grow (redrawn w dd) os) fun e w'' => e = .returned (.int .u64 (a.first + synced : Nat)) ∧ ∃ p : Regrown, w'' = Sort.grow (redrawn w p.d) p.os := fun dd os => Calls.quietly (by
    have := (H.out.quiet (Off.of_below (below_regrown w dd os))).durable HOK.out
    rw [hde] at this
    exact this)
  have cE : ∀ dd os, Calls Tryz.prog 75 #[.pointer (some ⟨q, 0, none⟩)] (Sort.grow (redrawn w dd) os) fun e w'' => e = .returned (.int .u64 (a.first + synced : Nat)) ∧ ∃ p : Regrown, w'' = Sort.grow (redrawn w p.d) p.os := fun dd os => Calls.quietly (by
    have := (H.out.quiet (Off.of_below (below_regrown w dd os))).rst
    rw [HR.out] at this
    exact this.durable (by unfold RSeg.end_ at ha3; omega))
  have r0 := cell_regrown k0; have r1 := cell_regrown k1; have r2 := cell_regrown k2; have r3 := cell_regrown k3; have rx := cell_regrown kx
  have hm : rs.length ≤ 1000000 := hb3
  obtain ⟨nx, hnx⟩ : ∃ nx, nx = a.end_ := ⟨_, rfl⟩
  rw [← hnx] at cN cM ha3
  have HNX := Lib.hid hnx
  have HHAE := Lib.hid hae
  clear h ht hG hl hl2 hok hget hnone hsegs hends hsz hq1 hqc hs0 hr hb1 hops hused hra hra2 hmap hrn hact hae hde hx1 hu1 kx k0 k1 k2 k3 hnx
  go_enter Tryz.func32, Tryz.ntmps32
  go_wp2_with fail
  refine wp_region_quiet_below (by kernel_rfl) (by kernel_rfl) ?_
  repeat (go_big_quiet_step (first | exact cO _ _ | exact cU _ _ | exact cV _ _ | exact cN _ _ | exact cM _ _ | exact cD _ _ | exact cE _ _))
  refine wpQuiet_nil ?_
  intro w1 hw'
  have ho1 : Off None w w1 := by
    obtain ⟨⟨dq, osq⟩, rfl⟩ := hw'
    exact Off.of_below (below_regrown w dq osq)
  have HO1 := Lib.hid ho1
  clear hw' ho1 cO cU cV cN cM cD cE r0 r1 r2 r3 rx
  have hc := (H.out.quiet HO1.out).cells
  obtain ⟨k0, k1, k2, k3⟩ := hc
  go_wp2_with fail
  have hsl : L.segs.length = rs.length := by rw [HSG.out, List.length_map]
  refine ((H.out.quiet HO1.out).segs (by omega)).mono ?_
  rintro e w2 ⟨v, rfl, hrow, ho2⟩
  obtain ⟨px, cx, rfl, hsc⟩ := seg_cells hrow
  have hsc2 : ∀ i (hi : i < rs.length), ∃ g, px = some ⟨g, 0, none⟩ ∧ w2.cell? ⟨g, i * 3, none⟩ = some (.int .u64 rs[i].first) ∧ w2.cell? ⟨g, i * 3 + 1, none⟩ = some (.int .i64 rs[i].bodies.length) ∧ w2.cell? ⟨g, i * 3 + 2, none⟩ = some (.int .i64 rs[i].size) := by
    intro i hi
    obtain ⟨g, e1, _, e2, e3, e4⟩ := hsc i (by omega)
    have hx : L.segs[i]'(by omega) = rs[i].seg := by
      have h3 : L.segs[i]? = (rs.map RSeg.seg)[i]? := by rw [HSG.out]
      rw [List.getElem?_map, List.getElem?_eq_getElem (by omega), List.getElem?_eq_getElem hi] at h3
      exact Option.some.inj h3
    rw [hx] at e2 e3 e4
    exact ⟨g, e1, e2, e3, e4⟩
  rw [hsl]
  have HSC := Lib.hid hsc2
  have HO2 := Lib.hid (HO1.out.trans ho2 (fun _ _ h => h))
  have HO12 := Lib.hid ho2
  clear hrow hsc hsc2 ho2 hsl k0 k1 k2 k3 HO1
  obtain ⟨k0, k1, k2, k3⟩ := (H.out.quiet HO2.out).cells
  have kq := HO2.out.keep HQ1.out (fun h => h)
  obtain ⟨m, hmm⟩ : ∃ m, m = rs.length := ⟨_, rfl⟩
  rw [← hmm] at kq hm
  rw [← hmm]
  have HMM := Lib.hid hmm; clear hmm
  go_wp2_with fail
  go_loopw [4, 5] (fun b i wr => ∃ k : Nat, k ≤ m ∧ i = .int .i64 k ∧ b = .int .i64 (sizesTo rs k : Nat) ∧ Off None w2 wr) (fun _ i _ => m - (intOf i).toNat)
  case atStart => exact ⟨0, Nat.zero_le _, rfl, rfl, Off.refl _ _⟩
  case round =>
    obtain ⟨k, hk, rfl, rfl, ho⟩ := hrel
    have HOW := Lib.hid ho; clear ho
    obtain ⟨y, hy⟩ : ∃ y, y = sizesTo rs k := ⟨_, rfl⟩
    rw [← hy]
    have hyb : y ≤ L.bytes := by rw [hy, HB1.out]; exact sizesTo_le rs k
    have HY := Lib.hid hy; clear hy
    have hwo := HO2.out.trans HOW.out (fun _ _ h => h)
    have HWO := Lib.hid hwo; clear hwo
    clear k0 k1 k2 k3 kq
    obtain ⟨k0, k1, k2, k3⟩ := (H.out.quiet HWO.out).cells
    have kq := HWO.out.keep HQ1.out (fun h => h)
    rw [← HMM.out] at kq
    by_cases hlt : k < m
    · have hkr : k < rs.length := by rw [← HMM.out]; exact hlt
      have hi0 : (0 : Int) ≤ (k : Int) := by omega
      have hi1 : (k : Int) < (m : Int) := by omega
      obtain ⟨gl, o, py, cy, hpl, q0, q1, q2, q3⟩ := HQC.out k hkr
      subst hpl
      obtain ⟨gx, hpx, x0, x1, x2⟩ := HSC.out k hkr
      subst hpx
      have hst := sizesTo_succ hkr
      have hstl : sizesTo rs (k + 1) ≤ L.bytes := by rw [HB1.out]; exact sizesTo_le rs _
      have hzz := HSZ.out _ (List.getElem_mem hkr)
      have hen := HEN.out _ (List.getElem_mem hkr)
      unfold RSeg.end_ at hen
      obtain ⟨u, hu⟩ : ∃ u, u = rs[k].first := ⟨_, rfl⟩
      obtain ⟨b, hb⟩ : ∃ b, b = rs[k].bodies.length := ⟨_, rfl⟩
      obtain ⟨z, hz⟩ : ∃ z, z = rs[k].size := ⟨_, rfl⟩
      rw [← hu] at q0 x0 hen
      rw [← hb] at q1 q3 x1 hzz hen
      rw [← hz] at q2 x2 hst hzz
      rw [← HY.out] at hst
      rw [hst] at hstl
      have HST := Lib.hid hst
      have f0 := HWO.out.keep q0 (fun h => h); have f1 := HWO.out.keep q1 (fun h => h); have f2 := HWO.out.keep q2 (fun h => h); have f3 := HWO.out.keep q3 (fun h => h)
      have g0 := HOW.out.keep x0 (fun h => h); have g1 := HOW.out.keep x1 (fun h => h); have g2 := HOW.out.keep x2 (fun h => h)
      clear hst hu hb hz q0 q1 q2 q3 x0 x1 x2
      go_wp2_with fail
      obtain ⟨wb, hwb⟩ : ∃ wb, wb = wr.alloc (.cells #[.int .u64 u, .int .i64 b, .int .i64 z, .slice py b cy] 136) := ⟨_, rfl⟩
      obtain ⟨bx, hbx⟩ : ∃ bx, bx = wr.heap.size := ⟨_, rfl⟩
      have hba : wb.heap[bx]? = some (.cells #[.int .u64 u, .int .i64 b, .int .i64 z, .slice py b cy] 136 (0, 0)) := by rw [hwb, hbx]; exact Heap.alloc_new wr _
      have hoa : Off None wr wb := by rw [hwb]; exact (Off.refl None wr).alloc _
      rw [← hwb, ← hbx]
      have j0 : wb.cell? ⟨bx, 0, none⟩ = some (.int .u64 u) := Heap.cell hba 0
      have j1 : wb.cell? ⟨bx, 1, none⟩ = some (.int .i64 b) := Heap.cell hba 1
      have j2 : wb.cell? ⟨bx, 2, none⟩ = some (.int .i64 z) := Heap.cell hba 2
      have l0 := hoa.keep g0 (fun h => h); have l1 := hoa.keep g1 (fun h => h); have l2 := hoa.keep g2 (fun h => h)
      have HOA := Lib.hid (HOW.out.trans hoa (fun _ _ h => h))
      clear hwb hbx hba hoa g0 g1 g2 f0 f1 f2 f3
      go_quiet (fail)
      go_wp2_with fail
      case roundEnd => exact ⟨⟨k + 1, hlt, by push_cast; rfl, by rw [HST.out]; push_cast; rfl, HOA.out.drewN _⟩, dec_step2 hlt⟩
    · have hkm : k = m := by omega
      subst hkm
      have hi1 : ¬ (k : Int) < (k : Int) := by omega
      have hyt : y = L.bytes := by rw [HY.out, HB1.out]; unfold sizesTo; rw [HMM.out, List.take_length]
      have HYT := Lib.hid hyt; clear hyt
      have hpos : 0 < rs.length := by rw [HS0.out]; simp
      obtain ⟨gx, hpx, x0, _, _⟩ := HSC.out 0 hpos
      subst hpx
      have hf0 : rs[0] = s0 := by
        have h3 : rs[0]? = (s0 :: rest)[0]? := by rw [HS0.out]
        rw [List.getElem?_eq_getElem hpos] at h3
        exact Option.some.inj h3
      have hfe := HEN.out s0 (by rw [HS0.out]; simp)
      unfold RSeg.end_ at hfe
      rw [hf0] at x0
      obtain ⟨f, hf⟩ : ∃ f, f = s0.first := ⟨_, rfl⟩
      rw [← hf] at x0 hfe HNONE
      have x0 := HOW.out.keep x0 (fun h => h)
      have hm0 : (0 : Int) < (k : Int) := by have := HMM.out; omega
      obtain ⟨z, hz⟩ : ∃ z : Nat, ((z : Int) = IntKind.u64.wrap ((f : Int) - 1)) ∧ z < 18446744073709551616 ∧ (z + 1 = f ∨ (f = 0 ∧ z = 18446744073709551615)) := by
        by_cases h0 : f = 0
        · exact ⟨18446744073709551615, by rw [h0]; decide, by omega, .inr ⟨h0, rfl⟩⟩
        · exact ⟨f - 1, by rw [IntWalk.u64_in _ (by omega)]; omega, by omega, .inl (by omega)⟩
      obtain ⟨hz1, hz2, hz3⟩ := hz
      have hzn := HNONE.out z hz2 hz3
      have hz1' := hz1.symm
      have HZN := Lib.hid hzn; have HZ1 := Lib.hid hz1'
      clear hzn hz3 hf hz1 hz1' hf0
      have hen := HEN.out a (by rw [HR.out]; simp)
      rw [← HNX.out] at hen
      have hfn : f < 9223372036854775808 := by omega
      go_wp2_with fail
      go_loopw [7] (fun sv wr2 => ∃ sq : Nat, sv = .int .u64 sq ∧ sq ≤ max f (nx + 1) ∧ Off None wr wr2) (fun sv _ => nx + 1 - (intOf sv).toNat)
      case atStart => exact ⟨f, rfl, by omega, Off.refl _ _⟩
      case round =>
        obtain ⟨sq, rfl, hsq, ho3⟩ := hrel
        have HO3 := Lib.hid ho3; have HW3 := Lib.hid (HWO.out.trans ho3 (fun _ _ h => h))
        clear ho3 k0 k1 k2 k3 kq
        obtain ⟨k0, k1, k2, k3⟩ := (H.out.quiet HW3.out).cells
        go_wp2_with fail
        have hcn := (H.out.quiet HW3.out).rst
        rw [HR.out] at hcn
        have hcn2 := hcn.next (by rw [← HNX.out]; omega)
        rw [← HNX.out] at hcn2
        refine hcn2.mono ?_
        rintro e w4 ⟨rfl, ho4⟩
        have HW4 := Lib.hid (HW3.out.trans ho4 (fun _ _ h => h)); have HO4 := Lib.hid (HO3.out.trans ho4 (fun _ _ h => h))
        clear ho4 hcn hcn2 k0 k1 k2 k3 HW3 HO3
        obtain ⟨k0, k1, k2, k3⟩ := (H.out.quiet HW4.out).cells
        by_cases hle : sq ≤ nx
        · have hle' : (sq : Int) ≤ (nx : Int) := by omega
          obtain ⟨t, er, hte⟩ : ∃ t er, rget X rs sq = (t, er) := ⟨_, _, rfl⟩
          have HTE := Lib.hid hte; clear hte
          go_wp2_with fail
          have hg1 := (H.out.quiet HW4.out).get (HG.out.none HW4.out) HOK.out HL.out sq (by omega)
          rw [HGET.out sq, HTE.out] at hg1
          refine hg1.mono ?_
          rintro e w5 ⟨rfl, ho5⟩
          have HW5 := Lib.hid (HW4.out.trans ho5 (fun _ _ h => h)); have HO5 := Lib.hid (HO4.out.trans ho5 (fun _ _ h => h))
          clear ho5 hg1 k0 k1 k2 k3 HW4 HO4
          obtain ⟨k0, k1, k2, k3⟩ := (H.out.quiet HW5.out).cells
          go_wp2_with fail
          have hg2 := (H.out.quiet HW5.out).rst.get HEN.out hb3 sq (by omega)
          rw [HTE.out] at hg2
          refine hg2.mono ?_
          rintro e w6 ⟨rfl, ho6⟩
          have HO6 := Lib.hid (HO5.out.trans ho6 (fun _ _ h => h))
          have hww : IntKind.u64.wrap ((sq : Int) + 1) = (sq : Int) + 1 := IntWalk.u64_in _ (by omega)
          clear ho6 hg2 k0 k1 k2 k3 HW5 HO5
          go_wp2_with fail
          case roundEnd => exact ⟨⟨sq + 1, by push_cast; rfl, by omega, HO6.out⟩, by simp [intOf]; omega⟩
        · have hle' : ¬ (sq : Int) ≤ (nx : Int) := by omega
          have x4 := (HO4.out).keep x0 (fun h => h)
          have cG : ∀ dd os, Calls Tryz.prog 23 #[.pointer (some ⟨lg, 0, none⟩), .int .u64 z] (Sort.grow (redrawn w4 dd) os) fun e w'' => e = .returned (.tuple #[.string (L.get D z).1, .int .i64 5]) ∧ ∃ p : Regrown, w'' = Sort.grow (redrawn w4 p.d) p.os := fun dd os => Calls.quietly (by
            have hh := H.out.quiet (HW4.out.trans (Off.of_below (below_regrown w4 dd os) : Off None w4 _) (fun _ _ h => h))
            have := hh.get (HG.out.none (HW4.out.trans (Off.of_below (below_regrown w4 dd os) : Off None w4 _) (fun _ _ h => h))) HOK.out HL.out z hz2
            rw [HZN.out] at this
            exact this)
          have hz1 := HZ1.out
          have r2 := cell_regrown k2; have rx := cell_regrown x4
          go_wp2_with fail
          refine wp_region_quiet_below (by kernel_rfl) (by kernel_rfl) ?_
          repeat (go_big_quiet_step (first | exact cG _ _))
          refine wpQuiet_nil ?_
          intro w5 hw'
          have ho5 : Off None w4 w5 := by
            obtain ⟨⟨dq, osq⟩, rfl⟩ := hw'
            exact Off.of_below (below_regrown w4 dq osq)
          have HW5 := Lib.hid (HW4.out.trans ho5 (fun _ _ h => h))
          clear hw' ho5 cG r2 rx hz1 k0 k1 k2 k3 x4
          obtain ⟨k0, k1, k2, k3⟩ := (H.out.quiet HW5.out).cells
          go_wp2_with fail
          refine ((H.out.quiet HW5.out).bytes (by omega)).mono ?_
          rintro e w6 ⟨rfl, ho6⟩
          have HW6 := Lib.hid (HW5.out.trans ho6 (fun _ _ h => h))
          clear ho6 HW5 k0 k1 k2 k3
          have hyy := HYT.out
          go_wp2_with fail
          go_ret
          exact ⟨rfl, HW6.out⟩
end Law
end Go.Proofs.YtnppdcegpojmbaaGreatDoor
