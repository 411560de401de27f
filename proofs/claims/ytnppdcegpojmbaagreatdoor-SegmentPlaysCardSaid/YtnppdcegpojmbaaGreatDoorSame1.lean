/- A good log's disk, opened again: the plain law. · A log opened again, beside the elder one. -/
import Derived.Test.YtnppdcegpojmbaaGreatDoorOpen
import Derived.Test.YtnppdcegpojmbaaGreatDoorLaw2
namespace Go.Proofs.YtnppdcegpojmbaaGreatDoor
open Go Go.RowKit Go.Shelf Go.Sort
theorem fit_frames (bs : List (List UInt8)) (hb : ∀ b ∈ bs, b.length ≤ 2000) : ∀ f, f + bs.length ≤ 18446744073709551616 → (fitL f (Frame.scanL (framesL f bs))).length = bs.length ∧ Frame.sizes (fitL f (Frame.scanL (framesL f bs))) = (framesL f bs).length := by
  induction bs with
  | nil => intro f _; rw [framesL, Frame.scanL_none firstL_nil]; exact ⟨rfl, rfl⟩
  | cons b r ih =>
    intro f hf
    rw [List.length_cons] at hf
    have h1 := Frame.first_put f b (framesL (f + 1) r) (hb b (by simp)) (by omega)
    rw [framesL, Frame.scanL_some h1]
    have e : (Frame.putF f b ++ framesL (f + 1) r).drop (Frame.putF f b).length = framesL (f + 1) r := List.drop_left
    rw [e]
    obtain ⟨i1, i2⟩ := ih (fun x hx => hb x (by simp [hx])) (f + 1) (by omega)
    rw [fitL, if_pos rfl]
    refine ⟨by rw [List.length_cons, List.length_cons, i1], ?_⟩
    unfold Frame.sizes at i2 ⊢
    rw [List.map_cons, List.sum_cons, i2, List.length_append]
theorem scan_grp (g : Grp) (hb : ∀ b ∈ g.bodies, b.length ≤ 2000) (hf : g.end_ ≤ 1000000) : scanSeg g.first g.txt = g.seg := by
  have h1 : g.first + g.bodies.length ≤ 1000000 := hf
  have h := fit_frames g.bodies hb g.first (by omega)
  have e : ∀ l : List UInt8, scanSeg g.first l = ⟨g.first, (fitL g.first (Frame.scanL l)).length, Frame.sizes (fitL g.first (Frame.scanL l))⟩ := fun _ => rfl
  rw [e, show g.txt = framesL g.first g.bodies from rfl, h.1, h.2]
  rfl
/-- Names rise with their numbers. -/
theorem valL_cons (acc : Nat) (c : UInt8) (r : List UInt8) : valL acc (c :: r) = valL (acc * 10 + (c.toNat - 48)) r := by
  have h := valL_append [c] r acc
  have e : valL acc [c] = acc * 10 + (c.toNat - 48) := rfl
  rw [e] at h
  exact h
theorem val_bound (l : List UInt8) (hd : digitsOk l) : ∀ acc, acc * 10 ^ l.length ≤ valL acc l ∧ valL acc l < (acc + 1) * 10 ^ l.length := by
  induction l with
  | nil =>
    intro acc
    show acc * 10 ^ 0 ≤ acc ∧ acc < (acc + 1) * 10 ^ 0
    rw [Nat.pow_zero]
    omega
  | cons c r ih =>
    intro acc
    have hc := hd c (by simp)
    obtain ⟨h1, h2⟩ := ih (fun x hx => hd x (by simp [hx])) (acc * 10 + (c.toNat - 48))
    rw [valL_cons, List.length_cons, Nat.pow_succ]
    constructor
    · refine Nat.le_trans ?_ h1
      calc acc * (10 ^ r.length * 10) = (acc * 10) * 10 ^ r.length := by rw [Nat.mul_comm (10 ^ r.length) 10, Nat.mul_assoc]
        _ ≤ (acc * 10 + (c.toNat - 48)) * 10 ^ r.length := Nat.mul_le_mul_right _ (by omega)
    · refine Nat.lt_of_lt_of_le h2 ?_
      calc (acc * 10 + (c.toNat - 48) + 1) * 10 ^ r.length ≤ ((acc + 1) * 10) * 10 ^ r.length := Nat.mul_le_mul_right _ (by omega)
        _ = (acc + 1) * (10 ^ r.length * 10) := by rw [Nat.mul_assoc, Nat.mul_comm 10]
theorem lex_le : ∀ (a b : List UInt8) (acc : Nat), a.length = b.length → digitsOk a → digitsOk b → valL acc a ≤ valL acc b → a ≤ b
  | [], [], _, _, _, _, _ => List.le_refl _
  | [], _ :: _, _, h, _, _, _ => by cases h
  | _ :: _, [], _, h, _, _, _ => by cases h
  | c :: r, c' :: r', acc, hl, ha, hb, hv => by
    have hl' : r.length = r'.length := by simpa using hl
    have h1 := ha c (by simp)
    have h2 := hb c' (by simp)
    have hra : digitsOk r := fun x hx => ha x (by simp [hx])
    have hrb : digitsOk r' := fun x hx => hb x (by simp [hx])
    have b1 := val_bound r hra (acc * 10 + (c.toNat - 48))
    have b2 := val_bound r' hrb (acc * 10 + (c'.toNat - 48))
    rw [valL_cons, valL_cons] at hv
    rw [hl'] at b1
    rcases Nat.lt_trichotomy c.toNat c'.toNat with h | h | h
    · exact List.cons_le_cons_iff.2 (.inl (UInt8.lt_iff_toNat_lt.2 h))
    · have e : c = c' := UInt8.toNat_inj.1 h
      subst e
      exact List.cons_le_cons_iff.2 (.inr ⟨rfl, lex_le r r' _ hl' hra hrb hv⟩)
    · exfalso
      have h3 : (acc * 10 + (c'.toNat - 48) + 1) * 10 ^ r'.length ≤ (acc * 10 + (c.toNat - 48)) * 10 ^ r'.length := Nat.mul_le_mul_right _ (by omega)
      omega
theorem name_le {u v : Nat} (hu : u < 18446744073709551616) (hv : v < 18446744073709551616) (h : u ≤ v) : Seg.nameL u ≤ Seg.nameL v := by
  refine List.cons_le_cons_iff.2 (.inr ⟨rfl, lex_le (Seg.tailL u) (Seg.tailL v) 0 ?_ (Seg.tail_val u).1 (Seg.tail_val v).1 ?_⟩)
  · rw [Seg.tail_len hu, Seg.tail_len hv]
  · rw [(Seg.tail_val u).2, (Seg.tail_val v).2]; exact h
theorem sort_sorted {l l' : List Bytes} (h : l.Perm l') (hs : l'.Pairwise (fun a b => a ≤ b)) : l.mergeSort leB = l' := by
  have tr : ∀ a b c : List UInt8, leB a b = true → leB b c = true → leB a c = true := fun a b c h1 h2 => by simp only [leB, decide_eq_true_eq] at *; exact List.le_trans h1 h2
  have tot : ∀ a b : List UInt8, (leB a b || leB b a) = true := fun a b => by simp only [leB, Bool.or_eq_true, decide_eq_true_eq]; exact List.le_total a b
  refine List.Perm.eq_of_pairwise (le := fun a b => leB a b = true) (fun a b _ _ h1 h2 => ?_) (List.pairwise_mergeSort tr tot l) (hs.imp (fun h => by simpa only [leB, decide_eq_true_eq] using h)) ((List.mergeSort_perm l leB).trans h)
  simp only [leB, decide_eq_true_eq] at h1 h2
  exact List.le_antisymm h1 h2
theorem chain_le {f t : Nat} {G : List Grp} (h : Chain f G t) : G.Pairwise (fun a b => a.first ≤ b.first) := by
  induction G generalizing f with
  | nil => exact List.Pairwise.nil
  | cons x r ih =>
    refine List.pairwise_cons.2 ⟨fun b hb => ?_, ih h.2⟩
    have := (Chain.mem h.2 hb).1
    unfold Grp.end_ at this
    omega
namespace GoodLog
variable {R f0 : Nat} {L : LogV} {D : DiskV} {full : List Grp} {act : Grp}
theorem list_eq (h : GoodLog R f0 L D full act) : D.list = (full ++ [act]).map (fun g => Seg.nameL g.first) := by
  obtain ⟨es, hg, he⟩ := h.disk
  have he1 : es.map (·.first) = (full ++ [act]).map (·.first) := by
    have := congrArg (List.map Prod.fst) he
    rw [List.map_map, List.map_map] at this
    exact this
  have hp : (D.names.map (·.1)).Perm ((full ++ [act]).map (fun g => Seg.nameL g.first)) := by
    have h1 := hg.names.map (·.1)
    rw [List.map_map] at h1
    have h2 : es.map ((fun x : Bytes × Nat => x.1) ∘ fun e : Ent => (Seg.nameL e.first, e.idx)) = (es.map (·.first)).map Seg.nameL := by rw [List.map_map]; rfl
    rw [h2, he1, List.map_map] at h1
    exact h1
  refine sort_sorted hp ?_
  rw [List.pairwise_map]
  refine (chain_le h.chain).imp_of_mem (fun {a b} ha hb hab => ?_)
  have h1 := h.ends ha
  have h2 := h.ends hb
  unfold Grp.end_ at h1 h2
  exact name_le (by omega) (by omega) hab
theorem firsts_eq (h : GoodLog R f0 L D full act) : D.firsts = (full ++ [act]).map (·.first) := by
  unfold DiskV.firsts
  rw [h.list_eq]
  have hb : ∀ g ∈ full ++ [act], g.first < 18446744073709551616 := fun g hg => by have h1 := h.ends hg; unfold Grp.end_ at h1; omega
  generalize full ++ [act] = G at hb
  induction G with
  | nil => rfl
  | cons x r ih =>
    rw [List.map_cons, List.filterMap_cons, numL_name (hb x (by simp)), List.map_cons, ih (fun g hg => hb g (by simp [hg]))]
theorem names_ok (h : GoodLog R f0 L D full act) : ∀ s ∈ D.list, NameOk s := by
  intro s hs
  rw [h.list_eq] at hs
  obtain ⟨g, hg, rfl⟩ := List.mem_map.1 hs
  have h1 := h.ends hg
  unfold Grp.end_ at h1
  exact .inl ⟨g.first, by omega, rfl⟩
end GoodLog
theorem openGo_good (D D' : DiskV) (t : Nat) (G : List Grp) (ht : t ≤ 1000000) : ∀ (f : Nat) (acc : List SegV) (a : Grp), Chain f (G ++ [a]) t → (∀ g ∈ G ++ [a], ∀ b ∈ g.bodies, b.length ≤ 2000) →
    (∀ g ∈ G ++ [a], D.read (Seg.nameB g.first) = (⟨g.txt.toArray⟩, 0)) → D.sync (Seg.nameB a.first) = (D', 0) → openGo D acc ((G ++ [a]).map (·.first)) = (D', 0, acc ++ (G ++ [a]).map Grp.seg) := by
  induction G with
  | nil =>
    intro f acc a hc hb hr hs
    have hr0 := hr a (by simp)
    have hsc := scan_grp a (hb a (by simp)) (Nat.le_trans (Chain.mem hc (by simp)).2 ht)
    have hone : openOne D a.first none = (D', 0, a.seg) := by
      unfold openOne
      rw [hr0]
      dsimp only
      rw [if_neg (by simp), hsc, if_neg (by show ¬ a.txt.length < a.txt.toArray.size; simp), hs]
    rw [List.nil_append, List.map_cons, List.map_nil, openGo, List.head?_nil, hone]
    dsimp only
    rw [if_neg (by simp)]
    rfl
  | cons g r ih =>
    intro f acc a hc hb hr hs
    have hr0 := hr g (by simp)
    have hsc := scan_grp g (hb g (by simp)) (Nat.le_trans (Chain.mem hc (by simp)).2 ht)
    have hc2 : Chain g.end_ (r ++ [a]) t := hc.2
    have hhd : ((r ++ [a]).map (·.first)).head? = some g.end_ := by
      cases r with
      | nil => show some a.first = _; rw [hc2.1]
      | cons x y => show some x.first = _; rw [hc2.1]
    have hone : openOne D g.first (some g.end_) = (D, 0, g.seg) := by
      unfold openOne
      rw [hr0]
      dsimp only
      rw [if_neg (by simp), hsc, if_neg]
      rintro (h | h)
      · have h : g.txt.length < g.txt.toArray.size := h
        simp at h
      · exact h rfl
    rw [List.cons_append, List.map_cons, openGo, hhd, hone]
    dsimp only
    rw [if_neg (by simp), ih g.end_ (acc ++ [g.seg]) a hc2 (fun x hx => hb x (by simp [hx])) (fun x hx => hr x (by simp [hx])) hs]
    simp
namespace GoodLog
variable {R f0 : Nat} {L : LogV} {D : DiskV} {full : List Grp} {act : Grp}
/-- Opened again: the same segments; the disk is good. -/
theorem reopen (h : GoodLog R f0 L D full act) : ∃ D', openGo D [] D.firsts = (D', 0, full.map Grp.seg ++ [act.seg]) ∧ D.sync (Seg.nameB act.first) = (D', 0) ∧ GoodLog R f0 ⟨full.map Grp.seg, act.seg, act.seg⟩ D' full act := by
  obtain ⟨pre, e, hg, h1, h2, h3⟩ := h.split
  obtain ⟨D', hd', hg'⟩ := hg.sync
  rw [h2] at hd'
  refine ⟨D', ?_, hd', ⟨pack h1 h2 h3 hg', rfl, rfl, h.chain, h.small, h.few⟩⟩
  rw [h.firsts_eq, openGo_good D D' act.end_ full h.few f0 [] act h.chain h.small (fun g hg2 => ?_) hd', List.nil_append, List.map_append]
  · rfl
  · obtain ⟨es, hgood, hes⟩ := h.disk
    obtain ⟨x, hx, hxe⟩ : ∃ x ∈ es, (x.first, x.txt) = (g.first, g.txt) := by
      have : (g.first, g.txt) ∈ es.map (fun e => (e.first, e.txt)) := by rw [hes]; exact List.mem_map.2 ⟨g, hg2, rfl⟩
      exact List.mem_map.1 this
    have hr := hgood.read hx
    rw [(Prod.mk.inj hxe).1, (Prod.mk.inj hxe).2] at hr
    exact hr
end GoodLog
end Go.Proofs.YtnppdcegpojmbaaGreatDoor
namespace Go.Proofs.YtnppdcegpojmbaaGreatDoor
open Go Go.RowKit
/-- A log that another has followed on its disk: it is only read. -/
structure Elder (A : Nat → Prop) (w : World) (lg d : Nat) (full : List Grp) (act : Grp) : Prop where
  log : ∃ L g off cap, LogAt w lg d L g off cap ∧ A lg ∧ A g ∧ L.Ok ∧ L.segs = (full ++ [act]).map Grp.seg ∧ L.act = act.seg ∧ L.bytes = GoodLog.sum (full ++ [act])
  few : full.length + 1 ≤ 1000000
  used : GoodLog.sum (full ++ [act]) ≤ 9223372036854775807
namespace Elder
variable {A : Nat → Prop} {w w' : World} {lg d : Nat} {full : List Grp} {act : Grp}
theorem off {n : Nat} (h : Elder A w lg d full act) (ho : Off (Rest n A) w w') : Elder A w' lg d full act := by
  obtain ⟨L, g, off, cap, h1, h2, h3, h4⟩ := h.log
  exact ⟨⟨L, g, off, cap, h1.off ho (fun x => x.2 h2) (fun x => x.2 h3), h2, h3, h4⟩, h.few, h.used⟩
theorem quiet (h : Elder A w lg d full act) (ho : Off None w w') : Elder A w' lg d full act := h.off (n := 0) (ho.mono (fun _ _ h => h.elim))
theorem next (h : Elder A w lg d full act) : Calls Tryz.prog 21 #[.pointer (some ⟨lg, 0, none⟩)] w fun e w' => e = .returned (.int .u64 act.end_) ∧ Off None w w' := by
  obtain ⟨L, g, off, cap, h1, _, _, h4, _, h5, _⟩ := h.log
  have hc := Seg.next_any w lg d L g off cap h1 h4
  rw [show L.act.end_ = act.end_ by rw [h5]; rfl] at hc
  exact hc
theorem bytes (h : Elder A w lg d full act) : Calls Tryz.prog 19 #[.pointer (some ⟨lg, 0, none⟩)] w fun e w' => e = .returned (.int .i64 (GoodLog.sum (full ++ [act]) : Nat)) ∧ Off None w w' := by
  obtain ⟨L, g, off, cap, h1, _, _, h4, _, h5, h6⟩ := h.log
  have hc := Seg.bytes_any w lg d L g off cap h1 (by rw [h6]; exact h.used)
  rw [h6] at hc
  exact hc
theorem segs (h : Elder A w lg d full act) :
    Calls Tryz.prog 17 #[.pointer (some ⟨lg, 0, none⟩)] w fun e w' => ∃ v, e = .returned v ∧ w'.ownsRow w.heap.size 42 3 v (full.length + 1) (((full ++ [act]).map Grp.seg).flatMap segCells) ∧ Off None w w' := by
  obtain ⟨L, g, off, cap, h1, _, _, h4, h5, _, _⟩ := h.log
  have hl : L.segs.length = full.length + 1 := by rw [h5]; simp
  have hc := Seg.segs_any w lg d L g off cap h1 (by rw [hl]; exact h.few)
  rw [hl, h5] at hc
  exact hc
end Elder
/-- Opened again. -/
theorem Held.reopen {R n N : Nat} {A : Nat → Prop} {w : World} {lg d off f0 : Nat} {full : List Grp} {act : Grp} {k : Nat} (h : Held R n N A w lg d off f0 full act k) (hx : full.length + 1 ≤ 1000000) (hN : N + 1 ≤ 1000000) :
    Calls Tryz.prog 12 #[.pointer (some ⟨d, 0, none⟩)] w fun e w' => ∃ lg2 A2, e = .returned (.tuple #[.pointer (some ⟨lg2, 0, none⟩), .int .i64 0]) ∧ (∀ b, A b → A2 b) ∧
      Held R n N A2 w' lg2 d 0 f0 full act act.bodies.length ∧ Elder A2 w' lg d full act ∧ Off (Rest n A) w w' := by
  obtain ⟨L, D, h⟩ := h
  obtain ⟨F, ⟨g, cap, Fd, hs⟩, hF⟩ := h.store
  obtain ⟨D', h1, h2, h3⟩ := h.good.reopen
  have hsl := hs.sepL
  have hsg := hs.sepG
  have hltL := (hs.log.lts).1
  have hltG := (hs.log.lts).2
  have hup : ∀ u ∈ D.firsts, u ≤ 1000000000000 := by
    intro u hu
    rw [h.good.firsts_eq] at hu
    obtain ⟨x, hx, rfl⟩ := List.mem_map.1 hu
    have := h.good.ends hx
    unfold Grp.end_ at this
    show x.first ≤ _
    omega
  have hc := Seg.open_any w d n N D (fun b => Fd b ∧ b < w.heap.size) (hs.disk.mono (fun b hb h => ⟨h, hb⟩)) (by rw [h.good.firsts_eq]; simp) h.good.names_ok hup h.glob (fun b hb => (hF b (hs.inD b hb.1)).1) h.lim hN
  rw [h1] at hc
  refine hc.mono ?_
  rintro e w' ⟨⟨p, rfl, _, hok⟩, hd, ho⟩
  obtain ⟨lg2, xs, a, rfl, hlg2, hxs, hst⟩ := hok rfl
  have hxs2 : xs = full.map Grp.seg ∧ a = act.seg := by
    have := List.append_inj hxs.symm (by
      have := congrArg List.length hxs
      rw [List.length_append, List.length_append, List.length_singleton, List.length_singleton] at this
      omega)
    exact ⟨this.1, by simpa using this.2⟩
  obtain ⟨rfl, rfl⟩ := hxs2
  have hoff : Off Fd w w' := ho.mono (fun b _ hb => hb.1)
  have hFdF : ∀ b, Fd b → n ≤ b ∧ ¬ A b := fun b hb => ⟨(hF b (hs.inD b hb)).1, (hF b (hs.inD b hb)).2.1⟩
  refine ⟨lg2, fun b => A b ∨ b = lg ∨ b = g, rfl, fun b hb => .inl hb, ⟨_, D', ⟨_, hst, fun b hb => ?_⟩, fun b hb => ?_, Nat.le_trans h.low ho.size, h.glob.off ho (fun b hb => (hFdF b hb.1).1), h3, ?_, ?_, Nat.le_refl _⟩, ⟨⟨L, g, off, cap, hs.log.off hoff hsl hsg, .inr (.inl rfl), .inr (.inr rfl), h.ok, h.good.segs, h.good.eact, h.good.bytes⟩, hx, ?_⟩, hoff.mono (fun b _ hb => hFdF b hb)⟩
  · rcases hb with hb | hb
    · refine ⟨(hFdF b hb.1).1, fun x => ?_, Nat.lt_of_lt_of_le hb.2 ho.size⟩
      rcases x with x | rfl | rfl
      · exact (hFdF b hb.1).2 x
      · exact hsl hb.1
      · exact hsg hb.1
    · refine ⟨Nat.le_trans h.low hb.1, fun x => ?_, hb.2⟩
      rcases x with x | rfl | rfl
      · have := h.old b x; omega
      · omega
      · omega
  · have hz := ho.size
    rcases hb with x | rfl | rfl
    · have := h.old b x; omega
    · omega
    · omega
  · have := lim_sync h.lim (Seg.nameB act.first)
    rw [h2] at this
    exact this
  · show act.seg = (⟨act.first, act.bodies.take act.bodies.length⟩ : Grp).seg
    rw [List.take_length]
  · have hu := h.lim.used
    rw [h.good.used] at hu
    exact hu
end Go.Proofs.YtnppdcegpojmbaaGreatDoor
