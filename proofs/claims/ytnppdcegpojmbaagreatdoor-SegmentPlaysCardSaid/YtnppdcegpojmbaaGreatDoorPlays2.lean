/- The walk of does: an act, on both logs. -/
import Derived.Test.YtnppdcegpojmbaaGreatDoorPlays1
import Derived.Deep.RegionHeld3
namespace Go.Proofs.YtnppdcegpojmbaaGreatDoor
open Go Go.RowKit Go.Sort
/-- What an act leaves. -/
def Acted (w w' : World) (n pb d r U N : Nat) (F1 F2 : Nat → Prop) : Prop :=
  (∃ lg q off L D rs synced X, ∃ G1 G2 : Nat → Prop, Play w' n pb d r lg q off (U + 3000000000) (N + 2) L D rs synced X G1 G2 ∧ (∀ b, G1 b → F1 b ∨ w.heap.size ≤ b) ∧ (∀ b, G2 b → F2 b ∨ w.heap.size ≤ b)) ∨
  (∃ D X, ∃ G1 G2 : Nat → Prop, Duo w' n pb d r (.pointer none) (.pointer none) D X G1 G2 ∧ Deck (U + 3000000000) (N + 2) D X ∧ CrashOk (U + 3000000000) D ∧ (∀ b, G1 b → F1 b ∨ w.heap.size ≤ b) ∧ (∀ b, G2 b → F2 b ∨ w.heap.size ≤ b))
theorem Acted.of {w w' : World} {n pb d r lg q off U N M V : Nat} {L : LogV} {D : DiskV} {rs : List RSeg} {synced : Nat} {X : RefV} {F1 F2 G1 G2 : Nat → Prop} (h : Two w' n pb d r lg q off L D rs synced X G1 G2) (hd : PDeck V M D X L rs synced) (hV : V ≤ U + 3000000000) (hM : M ≤ N + 2) (hN : N + 2 ≤ 300) (hU : U + 3000000000 ≤ 900000000000)
    (h1 : ∀ b, G1 b → F1 b ∨ w.heap.size ≤ b) (h2 : ∀ b, G2 b → F2 b ∨ w.heap.size ≤ b) : Acted w w' n pb d r U N F1 F2 :=
  .inl ⟨lg, q, off, L, D, rs, synced, X, G1, G2, ⟨h, hd.mono hV hM (by omega), hN, hU, by omega⟩, h1, h2⟩
theorem tmod_wf {x : Int} {m : Int} (hm : 0 < m) (hm2 : m ≤ 100) : -9223372036854775808 ≤ Int.tmod x m ∧ Int.tmod x m ≤ 9223372036854775807 := by
  have h1 := Int.tmod_lt_of_pos x hm
  have h2 : -m < Int.tmod x m := by
    have := Int.lt_tmod_of_pos x hm
    exact this
  omega
namespace Law
set_option maxHeartbeats 4000000 in
set_option maxRecDepth 100000 in
theorem does_any (w : World) (n pb d r lg q off U N : Nat) (L : LogV) (D : DiskV) (rs : List RSeg) (synced : Nat) (X : RefV) (F1 F2 : Nat → Prop) (h : Play w n pb d r lg q off U N L D rs synced X F1 F2) (hG : Glob n w) (op nn : Int) (text : ByteArray) (hop : (Lit.int .i64 op).wf = true) (htx : text.size ≤ 140737488355328) (hN : N + 2 ≤ 300) (hU : U + 3000000000 ≤ 900000000000) :
    Calls Tryz.prog 40 #[.pointer (some ⟨pb, 0, none⟩), .agg #[.int .i64 op, .int .i64 nn, .string text]] w fun e w' => e = .returned (.bool true) ∧ Off (fun b => F1 b ∨ F2 b ∨ b = pb) w w' ∧ Acted w w' n pb d r U N F1 F2 := by
  obtain ⟨pre, a, hr, _⟩ := h.last
  subst hr
  obtain ⟨p, hp, hpk⟩ := pick_nat op 13 hop (by omega) (by omega)
  have HP := Lib.hid hpk; have HG := Lib.hid hG
  clear hpk hop hG
  have hpb := h.two.plt
  obtain ⟨w1, hw1⟩ : ∃ w1, w1 = w.alloc (.cells #[.int .i64 op, .int .i64 nn, .string text] 68) := ⟨_, rfl⟩
  obtain ⟨bx, hbx⟩ : ∃ bx, bx = w.heap.size := ⟨_, rfl⟩
  have hb1 : w1.heap[bx]? = some (.cells #[.int .i64 op, .int .i64 nn, .string text] 68 (0, 0)) := by rw [hw1, hbx]; exact Heap.alloc_new w _
  have ho1 : Off None w w1 := by rw [hw1]; exact (Off.refl None w).alloc _
  have hf1 : ∀ b, F1 b → b < bx := fun b hb => by rw [hbx]; exact (h.two.f1 b hb).2
  have hf2 : ∀ b, F2 b → b < bx := fun b hb => by rw [hbx]; exact (h.two.f2 b hb).2
  have hbw : w.heap.size ≤ bx := Nat.le_of_eq hbx.symm
  have H1 := Lib.hid (h.quiet ho1); have HB1 := Lib.hid hb1; have HO1 := Lib.hid ho1; have HW1 := Lib.hid hw1; have HBX := Lib.hid hbx; have HF1 := Lib.hid hf1; have HF2 := Lib.hid hf2
  have HG1 := Lib.hid (HG.out.none ho1)
  clear h hb1 ho1 hw1 hbx hf1 hf2 HG
  obtain ⟨k0, k1, k2, k3⟩ := H1.out.two.cells
  have b0 : w1.cell? ⟨bx, 0, none⟩ = some (.int .i64 op) := Heap.cell HB1.out 0
  have b1 : w1.cell? ⟨bx, 1, none⟩ = some (.int .i64 nn) := Heap.cell HB1.out 1
  have b2 : w1.cell? ⟨bx, 2, none⟩ = some (.string text) := Heap.cell HB1.out 2
  have hnb1 : ¬ F1 bx := fun e => by have := HF1.out bx e; omega
  have hnb2 : ¬ F2 bx := fun e => by have := HF2.out bx e; omega
  have hup : ∀ (F : Nat → Prop) (W W' : World), w.heap.size ≤ W.heap.size → ∀ b, Grow F W W' b → F b ∨ w.heap.size ≤ b := fun F W W' hW b hb => hb.imp id (fun x => Nat.le_trans hW x.1)
  have HUP := Lib.hid hup; clear hup
  go_enter Tryz.func40, Tryz.ntmps40
  go_wp2_with (rw [← HW1.out, ← HBX.out])
  refine (HP.out _).mono ?_
  rintro e wp ⟨rfl, hwp⟩
  obtain rfl := hwp.symm
  by_cases h6 : p < 6
  · have c6 : (p : Int) < 6 := by omega
    obtain ⟨heq, hdk⟩ := H1.out.deck.append text (by omega) (by omega)
    have hA1 := fun W (hW : Off None w1 W) => (H1.out.quiet hW).append1 (HG1.out.none hW) text htx
    obtain ⟨s, er, hse⟩ : ∃ s er, (L.append D text).2.2 = (s, er) := ⟨_, _, rfl⟩
    have hse2 : (X.lappend a text).2.2 = (s, er) := by rw [← heq, hse]
    rw [hse] at hA1
    have HA1 := Lib.hid hA1; have HSE := Lib.hid hse2; have HDK := Lib.hid hdk
    clear hA1 heq hdk hse hse2 b0 b1
    go_wp2_with fail
    go_region_held3 (fun W => W.cell? ⟨pb, 2, none⟩ = some (.pointer (some ⟨lg, 0, none⟩)) ∧ W.cell? ⟨bx, 2, none⟩ = some (.string text))
      (first | exact ⟨k2, b2⟩ | exact ⟨j2, i2⟩)
      (first
        | (go_at_call 13; refine (HA1.out _ ((Off.refl None w1).drew)).mono ?_; rintro e w2 ⟨rfl, ht2, ho2⟩; have ho2 := ((Off.refl None w1).drew.mono (fun _ _ h => h.elim) : Off F1 w1 w1.drew).trans ho2 (fun _ _ h => h); have j2 := ho2.keep k2 H1.out.two.p1; have i2 := ho2.keep b2 hnb1))
    have HT2 := Lib.hid ht2; have HO2 := Lib.hid ho2
    clear ht2 ho2 j2 k0 k1 k2 k3 b2 HA1
    obtain ⟨k0, k1, k2, k3⟩ := HT2.out.cells
    have hA2 := fun W (hW : Off None w2 W) => H1.out.append2 (HT2.out.quiet hW) text htx
    rw [HSE.out] at hA2
    have HA2 := Lib.hid hA2; clear hA2
    go_wp2_with fail
    go_region_held3 (fun W => W.cell? ⟨pb, 3, none⟩ = some (.pointer (some ⟨q, 0, none⟩)) ∧ W.cell? ⟨bx, 2, none⟩ = some (.string text))
      (first | exact ⟨k3, i2⟩ | exact ⟨j3, j2⟩)
      (first
        | (go_at_call 84; refine (HA2.out _ ((Off.refl None w2).drew)).mono ?_; rintro e w3 ⟨rfl, ht3, ho3⟩; have ho3 := ((Off.refl None w2).drew.mono (fun _ _ h => h.elim) : Off F2 w2 w2.drew).trans ho3 (fun _ _ h => h); have j3 := ho3.keep k3 HT2.out.p2; have j2 := ho3.keep i2 hnb2))
    have HT3 := Lib.hid ht3; have HO3 := Lib.hid ho3
    clear ht3 ho3 j2 j3 k0 k1 k2 k3 i2 HA2
    go_wp2_with fail
    go_ret
    have hs1 := HO1.out.size; have hs2 := HO2.out.size
    exact ⟨rfl, ((HO1.out.mono (fun _ _ h => h.elim)).trans HO2.out (fun _ _ h => .inl h)).trans HO3.out (fun _ _ h => .inr (.inl h)), Acted.of HT3.out HDK.out (by omega) (by omega) hN hU (HUP.out _ _ _ (by exact hs1)) (HUP.out _ _ _ (by exact Nat.le_trans hs1 hs2))⟩
  · have c6 : ¬ (p : Int) < 6 := by omega
    rcases (show p = 6 ∨ p = 7 ∨ p = 8 ∨ p = 9 ∨ p = 10 ∨ p = 11 ∨ p = 12 by omega) with rfl | rfl | rfl | rfl | rfl | rfl | rfl
    · -- Sync
      obtain ⟨heq, hdk⟩ := H1.out.deck.sync
      have hA1 := fun W (hW : Off None w1 W) => (H1.out.quiet hW).sync1 (HG1.out.none hW)
      obtain ⟨er, hse⟩ : ∃ er, (L.sync D).2.2 = er := ⟨_, rfl⟩
      have hse2 : (X.lsync a synced).2.2 = er := by rw [← heq, hse]
      rw [hse] at hA1
      have hA2 := fun W G1 off' (hW : Two W n pb d r lg q off' (L.sync D).1 (L.sync D).2.1 (pre ++ [a]) synced X G1 F2) => H1.out.sync2 hW
      rw [hse2] at hA2
      have HA1 := Lib.hid hA1; have HA2 := Lib.hid hA2; have HDK := Lib.hid hdk
      clear hA1 hA2 heq hdk hse hse2 b0 b1 b2
      go_wp2_with fail
      go_region_held3 (fun W => W.cell? ⟨pb, 2, none⟩ = some (.pointer (some ⟨lg, 0, none⟩)) ∧ W.cell? ⟨pb, 3, none⟩ = some (.pointer (some ⟨q, 0, none⟩)))
        (first | exact ⟨k2, k3⟩ | exact ⟨j2, j3⟩ | exact ⟨i2, i3⟩)
        (first
          | (go_at_call 34; refine (HA1.out _ ((Off.refl None w1).drew)).mono ?_; rintro e w2 ⟨rfl, ⟨off2, ht2⟩, ho2⟩; have ho2 := ((Off.refl None w1).drew.mono (fun _ _ h => h.elim) : Off F1 w1 w1.drew).trans ho2 (fun _ _ h => h); obtain ⟨_, _, j2, j3⟩ := ht2.cells)
          | (go_at_call 85; refine (HA2.out w2 _ _ ht2).mono ?_; rintro e w3 ⟨rfl, ht3, ho3⟩; obtain ⟨_, _, i2, i3⟩ := ht3.cells))
      have HT3 := Lib.hid ht3; have HO2 := Lib.hid ho2; have HO3 := Lib.hid ho3
      clear ht2 ht3 ho2 ho3 j2 j3 i2 i3 k0 k1 k2 k3 HA1 HA2
      go_wp2_with fail
      go_ret
      have hs1 := HO1.out.size; have hs2 := HO2.out.size
      exact ⟨rfl, ((HO1.out.mono (fun _ _ h => h.elim)).trans HO2.out (fun _ _ h => .inl h)).trans HO3.out (fun _ _ h => .inr (.inl h)), Acted.of HT3.out HDK.out (by omega) (by omega) hN hU (HUP.out _ _ _ (by exact hs1)) (HUP.out _ _ _ (by exact Nat.le_trans hs1 hs2))⟩
    · -- Undo
      obtain ⟨heq, hdk⟩ := H1.out.deck.undo (by omega)
      have hA1 := fun W (hW : Off None w1 W) => (H1.out.quiet hW).undo1 (HG1.out.none hW)
      obtain ⟨er, hse⟩ : ∃ er, (L.undo D).2.2 = er := ⟨_, rfl⟩
      have hse2 : (X.lundo a synced).2.2 = er := by rw [← heq, hse]
      rw [hse] at hA1
      have hA2 := fun W G1 off' (hW : Two W n pb d r lg q off' (L.undo D).1 (L.undo D).2.1 (pre ++ [a]) synced X G1 F2) => H1.out.undo2 hW
      rw [hse2] at hA2
      have HA1 := Lib.hid hA1; have HA2 := Lib.hid hA2; have HDK := Lib.hid hdk
      clear hA1 hA2 heq hdk hse hse2 b0 b1 b2
      go_wp2_with fail
      go_region_held3 (fun W => W.cell? ⟨pb, 2, none⟩ = some (.pointer (some ⟨lg, 0, none⟩)) ∧ W.cell? ⟨pb, 3, none⟩ = some (.pointer (some ⟨q, 0, none⟩)))
        (first | exact ⟨k2, k3⟩ | exact ⟨j2, j3⟩ | exact ⟨i2, i3⟩)
        (first
          | (go_at_call 35; refine (HA1.out _ ((Off.refl None w1).drew)).mono ?_; rintro e w2 ⟨rfl, ⟨off2, ht2⟩, ho2⟩; have ho2 := ((Off.refl None w1).drew.mono (fun _ _ h => h.elim) : Off F1 w1 w1.drew).trans ho2 (fun _ _ h => h); obtain ⟨_, _, j2, j3⟩ := ht2.cells)
          | (go_at_call 86; refine (HA2.out w2 _ _ ht2).mono ?_; rintro e w3 ⟨rfl, ht3, ho3⟩; obtain ⟨_, _, i2, i3⟩ := ht3.cells))
      have HT3 := Lib.hid ht3; have HO2 := Lib.hid ho2; have HO3 := Lib.hid ho3
      clear ht2 ht3 ho2 ho3 j2 j3 i2 i3 k0 k1 k2 k3 HA1 HA2
      go_wp2_with fail
      go_ret
      have hs1 := HO1.out.size; have hs2 := HO2.out.size
      exact ⟨rfl, ((HO1.out.mono (fun _ _ h => h.elim)).trans HO2.out (fun _ _ h => .inl h)).trans HO3.out (fun _ _ h => .inr (.inl h)), Acted.of HT3.out HDK.out (by omega) (by omega) hN hU (HUP.out _ _ _ (by exact hs1)) (HUP.out _ _ _ (by exact Nat.le_trans hs1 hs2))⟩
    · -- Roll
      obtain ⟨heq, hdk⟩ := H1.out.deck.roll (by omega) (by omega)
      have hA1 := fun W (hW : Off None w1 W) => (H1.out.quiet hW).roll1 (HG1.out.none hW)
      obtain ⟨er, hse⟩ : ∃ er, (L.roll D).2.2 = er := ⟨_, rfl⟩
      have hse2 : (X.lroll pre a synced).2.2.2 = er := by rw [← heq, hse]
      rw [hse] at hA1
      have hA2 := fun W G1 off' (hW : Two W n pb d r lg q off' (L.roll D).1 (L.roll D).2.1 (pre ++ [a]) synced X G1 F2) => H1.out.roll2 hW
      rw [hse2] at hA2
      have HA1 := Lib.hid hA1; have HA2 := Lib.hid hA2; have HDK := Lib.hid hdk
      clear hA1 hA2 heq hdk hse hse2 b0 b1 b2
      go_wp2_with fail
      go_region_held3 (fun W => W.cell? ⟨pb, 2, none⟩ = some (.pointer (some ⟨lg, 0, none⟩)) ∧ W.cell? ⟨pb, 3, none⟩ = some (.pointer (some ⟨q, 0, none⟩)))
        (first | exact ⟨k2, k3⟩ | exact ⟨j2, j3⟩ | exact ⟨i2, i3⟩)
        (first
          | (go_at_call 16; refine (HA1.out _ ((Off.refl None w1).drew)).mono ?_; rintro e w2 ⟨rfl, ⟨off2, ht2⟩, ho2⟩; have ho2 := ((Off.refl None w1).drew.mono (fun _ _ h => h.elim) : Off F1 w1 w1.drew).trans ho2 (fun _ _ h => h); obtain ⟨_, _, j2, j3⟩ := ht2.cells)
          | (go_at_call 87; refine (HA2.out w2 _ _ ht2).mono ?_; rintro e w3 ⟨rfl, ht3, ho3⟩; obtain ⟨_, _, i2, i3⟩ := ht3.cells))
      have HT3 := Lib.hid ht3; have HO2 := Lib.hid ho2; have HO3 := Lib.hid ho3
      clear ht2 ht3 ho2 ho3 j2 j3 i2 i3 k0 k1 k2 k3 HA1 HA2
      go_wp2_with fail
      go_ret
      have hs1 := HO1.out.size; have hs2 := HO2.out.size
      exact ⟨rfl, ((HO1.out.mono (fun _ _ h => h.elim)).trans HO2.out (fun _ _ h => .inl h)).trans HO3.out (fun _ _ h => .inr (.inl h)), Acted.of HT3.out HDK.out (by omega) (by omega) hN hU (HUP.out _ _ _ (by exact hs1)) (HUP.out _ _ _ (by exact Nat.le_trans hs1 hs2))⟩
    · -- Drop
      obtain ⟨heq, hdk⟩ := H1.out.deck.drop (by omega) (by omega)
      have hA1 := fun W (hW : Off None w1 W) => (H1.out.quiet hW).drop1 (HG1.out.none hW)
      obtain ⟨er, hse⟩ : ∃ er, (L.drop D).2.2 = er := ⟨_, rfl⟩
      have hse2 : (X.ldrop (pre ++ [a])).2.2 = er := by rw [← heq, hse]
      rw [hse] at hA1
      have hA2 := fun W G1 off' (hW : Two W n pb d r lg q off' (L.drop D).1 (L.drop D).2.1 (pre ++ [a]) synced X G1 F2) => H1.out.drop2 hW
      rw [hse2] at hA2
      have HA1 := Lib.hid hA1; have HA2 := Lib.hid hA2; have HDK := Lib.hid hdk
      clear hA1 hA2 heq hdk hse hse2 b0 b1 b2
      go_wp2_with fail
      go_region_held3 (fun W => W.cell? ⟨pb, 2, none⟩ = some (.pointer (some ⟨lg, 0, none⟩)) ∧ W.cell? ⟨pb, 3, none⟩ = some (.pointer (some ⟨q, 0, none⟩)))
        (first | exact ⟨k2, k3⟩ | exact ⟨j2, j3⟩ | exact ⟨i2, i3⟩)
        (first
          | (go_at_call 33; refine (HA1.out _ ((Off.refl None w1).drew)).mono ?_; rintro e w2 ⟨rfl, ⟨off2, ht2⟩, ho2⟩; have ho2 := ((Off.refl None w1).drew.mono (fun _ _ h => h.elim) : Off F1 w1 w1.drew).trans ho2 (fun _ _ h => h); obtain ⟨_, _, j2, j3⟩ := ht2.cells)
          | (go_at_call 88; refine (HA2.out w2 _ _ ht2).mono ?_; rintro e w3 ⟨rfl, ht3, ho3⟩; obtain ⟨_, _, i2, i3⟩ := ht3.cells))
      have HT3 := Lib.hid ht3; have HO2 := Lib.hid ho2; have HO3 := Lib.hid ho3
      clear ht2 ht3 ho2 ho3 j2 j3 i2 i3 k0 k1 k2 k3 HA1 HA2
      go_wp2_with fail
      go_ret
      have hs1 := HO1.out.size; have hs2 := HO2.out.size
      exact ⟨rfl, ((HO1.out.mono (fun _ _ h => h.elim)).trans HO2.out (fun _ _ h => .inl h)).trans HO3.out (fun _ _ h => .inr (.inl h)), Acted.of HT3.out HDK.out (by omega) (by omega) hN hU (HUP.out _ _ _ (by exact hs1)) (HUP.out _ _ _ (by exact Nat.le_trans hs1 hs2))⟩
    · -- opened again
      obtain ⟨G1, G2, hduo, hg1, hg2⟩ := H1.out.two.duo
      have hdk := H1.out.deck.deck
      have hle := H1.out.hU
      have hNl := H1.out.le
      have hop := opened_any w1 n pb d r N N _ _ D X G1 G2 hduo hdk.sim hdk.inn (hdk.listed (by omega)) (fun u hu => Nat.le_trans (hdk.firsts (by omega) u hu) (by omega)) HG1.out hdk.lim (by omega) hdk.rlim (by omega)
      have HOP := Lib.hid hop; have HGA := Lib.hid hg1; have HGB := Lib.hid hg2
      clear hop hg1 hg2 hduo b0 b1 b2 k0 k1 k2 k3
      go_wp2_with fail
      refine HOP.out.mono ?_
      rintro e w2 ⟨rfl, ho2, hop⟩
      have HO2 := Lib.hid ho2; have HA := Lib.hid hop
      clear ho2 hop HOP
      go_wp2_with fail
      go_ret
      have hs1 := HO1.out.size
      refine ⟨rfl, (HO1.out.mono (fun _ _ h => h.elim)).trans HO2.out (fun b _ h => by
        rcases h with h | h | h
        · exact .inl (HGA.out b h)
        · exact .inr (.inl (HGB.out b h))
        · exact .inr (.inr h)), ?_⟩
      rcases HA.out with ⟨h0, lg2, q2, xs, a2, pre2, y, G3, G4, hx, hy, ht, hu1, hu2⟩ | ⟨hne, G3, G4, hd, hu1, hu2⟩
      · refine Acted.of ht (PDeck.of_opened hdk H1.out.deck.cr H1.out.one (by omega) (by omega) h0 hx hy) (Nat.le_refl _) (Nat.le_refl _) hN hU (fun b hb => ?_) (fun b hb => ?_)
        · exact (hu1 b hb).imp (HGA.out b) (fun x => by omega)
        · exact (hu2 b hb).imp (HGB.out b) (fun x => by omega)
      · have hc := (H1.out.deck.cr.opened H1.out.one (by omega)).mono (Nat.le_add_right U 3000000000)
        exact .inr ⟨_, _, G3, G4, hd, Deck.of_crash (hdk.sim.opened hdk.inn).1 (lim_opened hdk.lim (by omega)) (hdk.rlim.opened (by omega)) hc, hc, fun b hb => (hu1 b hb).imp (HGA.out b) (fun x => by omega), fun b hb => (hu2 b hb).imp (HGB.out b) (fun x => by omega)⟩
    · -- Fail
      have hm := tmod_wf (x := nn) (m := 5) (by omega) (by omega)
      obtain ⟨z, hz⟩ : ∃ z, z = Int.tmod nn 5 := ⟨_, rfl⟩
      rw [← hz] at hm
      obtain ⟨Fd, hd1, hd2, hd3⟩ := H1.out.two.st.onDisk
      have hA1 := fun W (hW : Off None w1 W) => DiskW.fail_any W d D Fd (hd1.off hW (fun _ _ _ h => h)) z hm.1 hm.2
      have HA1 := Lib.hid hA1; have HD3 := Lib.hid hd3; have HZ := Lib.hid hz
      have np1 : ¬ Fd pb := fun e => H1.out.two.p1 (hd2 _ e)
      have np2 : ¬ Fd bx := fun e => hnb1 (hd2 _ e)
      clear hA1 hd1 hd2 hd3 hz b0 b2
      go_wp2_with fail
      go_region_held3 (fun W => W.cell? ⟨pb, 0, none⟩ = some (.pointer (some ⟨d, 0, none⟩)) ∧ W.cell? ⟨bx, 1, none⟩ = some (.int .i64 nn))
        (first | exact ⟨k0, b1⟩ | exact ⟨j0, j1⟩)
        (first
          | (go_at_call 89; rw [← HZ.out]; refine (HA1.out _ ((Off.refl None w1).drew)).mono ?_; rintro e w2 ⟨rfl, hk2, ho2⟩; have ho2 := ((Off.refl None w1).drew.mono (fun _ _ h => h.elim) : Off Fd w1 w1.drew).trans ho2 (fun _ _ h => h); have j0 := ho2.keep k0 np1; have j1 := ho2.keep b1 np2))
      obtain ⟨hs2, ho2'⟩ := HD3.out w2 (D.failAt z) (hk2.mono (fun _ _ h => .inl h)) ho2
      have HT2 := Lib.hid (H1.out.two.turn1 hs2 ho2'); have HO2 := Lib.hid ho2'
      clear hk2 ho2 hs2 ho2' j0 k0 k1 k2 k3 HA1 HD3
      obtain ⟨k0, k1, k2, k3⟩ := HT2.out.cells
      obtain ⟨Fr, hr1, hr2, hr3⟩ := HT2.out.rst.onDisk
      have hA2 := fun W (hW : Off None w2 W) => RefW.fail_any W r X Fr (hr1.off hW (fun _ _ _ h => h)) z hm.1 hm.2
      have HA2 := Lib.hid hA2; have HR3 := Lib.hid hr3
      have nq1 : ¬ Fr pb := fun e => HT2.out.p2 (hr2 _ e)
      have nq2 : ¬ Fr bx := fun e => hnb2 (hr2 _ e)
      clear hA2 hr1 hr2 hr3
      go_wp2_with fail
      go_region_held3 (fun W => W.cell? ⟨pb, 1, none⟩ = some (.pointer (some ⟨r, 0, none⟩)) ∧ W.cell? ⟨bx, 1, none⟩ = some (.int .i64 nn))
        (first | exact ⟨k1, j1⟩ | exact ⟨i0, i1⟩)
        (first
          | (go_at_call 90; rw [← HZ.out]; refine (HA2.out _ ((Off.refl None w2).drew)).mono ?_; rintro e w3 ⟨rfl, hk3, ho3⟩; have ho3 := ((Off.refl None w2).drew.mono (fun _ _ h => h.elim) : Off Fr w2 w2.drew).trans ho3 (fun _ _ h => h); have i0 := ho3.keep k1 nq1; have i1 := ho3.keep j1 nq2))
      obtain ⟨hs3, ho3'⟩ := HR3.out w3 (X.failAt z) (hk3.mono (fun _ _ h => .inl h)) ho3
      have HT3 := Lib.hid (HT2.out.turn2 hs3 ho3'); have HO3 := Lib.hid ho3'
      clear hk3 ho3 hs3 ho3' i0 i1 j1 k0 k1 k2 k3 HA2 HR3
      go_wp2_with fail
      go_ret
      have hs1 := HO1.out.size; have hs2 := HO2.out.size
      exact ⟨rfl, ((HO1.out.mono (fun _ _ h => h.elim)).trans HO2.out (fun _ _ h => .inl h)).trans HO3.out (fun _ _ h => .inr (.inl h)), Acted.of HT3.out (H1.out.deck.failAt z) (by omega) (by omega) hN hU (HUP.out _ _ _ (by exact hs1)) (HUP.out _ _ _ (by exact Nat.le_trans hs1 hs2))⟩
    · -- Stop
      have hm := tmod_wf (x := nn) (m := 40) (by omega) (by omega)
      obtain ⟨z, hz⟩ : ∃ z, z = Int.tmod nn 40 := ⟨_, rfl⟩
      rw [← hz] at hm
      obtain ⟨Fd, hd1, hd2, hd3⟩ := H1.out.two.st.onDisk
      have hA1 := fun W (hW : Off None w1 W) => DiskW.stop_any W d D Fd (hd1.off hW (fun _ _ _ h => h)) z hm.1 hm.2
      have HA1 := Lib.hid hA1; have HD3 := Lib.hid hd3; have HZ := Lib.hid hz
      have np1 : ¬ Fd pb := fun e => H1.out.two.p1 (hd2 _ e)
      have np2 : ¬ Fd bx := fun e => hnb1 (hd2 _ e)
      clear hA1 hd1 hd2 hd3 hz b0 b2
      go_wp2_with fail
      go_region_held3 (fun W => W.cell? ⟨pb, 0, none⟩ = some (.pointer (some ⟨d, 0, none⟩)) ∧ W.cell? ⟨bx, 1, none⟩ = some (.int .i64 nn))
        (first | exact ⟨k0, b1⟩ | exact ⟨j0, j1⟩)
        (first
          | (go_at_call 37; rw [← HZ.out]; refine (HA1.out _ ((Off.refl None w1).drew)).mono ?_; rintro e w2 ⟨rfl, hk2, ho2⟩; have ho2 := ((Off.refl None w1).drew.mono (fun _ _ h => h.elim) : Off Fd w1 w1.drew).trans ho2 (fun _ _ h => h); have j0 := ho2.keep k0 np1; have j1 := ho2.keep b1 np2))
      obtain ⟨hs2, ho2'⟩ := HD3.out w2 (D.stop z) (hk2.mono (fun _ _ h => .inl h)) ho2
      have HT2 := Lib.hid (H1.out.two.turn1 hs2 ho2'); have HO2 := Lib.hid ho2'
      clear hk2 ho2 hs2 ho2' j0 k0 k1 k2 k3 HA1 HD3
      obtain ⟨k0, k1, k2, k3⟩ := HT2.out.cells
      obtain ⟨Fr, hr1, hr2, hr3⟩ := HT2.out.rst.onDisk
      have hA2 := fun W (hW : Off None w2 W) => RefW.stop_any W r X Fr (hr1.off hW (fun _ _ _ h => h)) z hm.1 hm.2
      have HA2 := Lib.hid hA2; have HR3 := Lib.hid hr3
      have nq1 : ¬ Fr pb := fun e => HT2.out.p2 (hr2 _ e)
      have nq2 : ¬ Fr bx := fun e => hnb2 (hr2 _ e)
      clear hA2 hr1 hr2 hr3
      go_wp2_with fail
      go_region_held3 (fun W => W.cell? ⟨pb, 1, none⟩ = some (.pointer (some ⟨r, 0, none⟩)) ∧ W.cell? ⟨bx, 1, none⟩ = some (.int .i64 nn))
        (first | exact ⟨k1, j1⟩ | exact ⟨i0, i1⟩)
        (first
          | (go_at_call 91; rw [← HZ.out]; refine (HA2.out _ ((Off.refl None w2).drew)).mono ?_; rintro e w3 ⟨rfl, hk3, ho3⟩; have ho3 := ((Off.refl None w2).drew.mono (fun _ _ h => h.elim) : Off Fr w2 w2.drew).trans ho3 (fun _ _ h => h); have i0 := ho3.keep k1 nq1; have i1 := ho3.keep j1 nq2))
      obtain ⟨hs3, ho3'⟩ := HR3.out w3 (X.stop z) (hk3.mono (fun _ _ h => .inl h)) ho3
      have HT3 := Lib.hid (HT2.out.turn2 hs3 ho3'); have HO3 := Lib.hid ho3'
      clear hk3 ho3 hs3 ho3' i0 i1 j1 k0 k1 k2 k3 HA2 HR3
      go_wp2_with fail
      go_ret
      have hs1 := HO1.out.size; have hs2 := HO2.out.size
      exact ⟨rfl, ((HO1.out.mono (fun _ _ h => h.elim)).trans HO2.out (fun _ _ h => .inl h)).trans HO3.out (fun _ _ h => .inr (.inl h)), Acted.of HT3.out (H1.out.deck.stop z) (by omega) (by omega) hN hU (HUP.out _ _ _ (by exact hs1)) (HUP.out _ _ _ (by exact Nat.le_trans hs1 hs2))⟩
end Law
end Go.Proofs.YtnppdcegpojmbaaGreatDoor
