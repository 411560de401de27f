/- A good log's disk, opened again: the plain law. No program stands here. · A spool that is opened, plain: what Open does; a good spool's disk, opened again. No program stands here. -/
import Derived.Test.YtndgnlblbjpogaaGreatDoorOpen
import Derived.Test.YtndgnlblbjpogaaGreatDoorSRun
import Derived.Test.YtndgnlblbjpogaaGreatDoorSpool2
namespace Go.Proofs.YtndgnlblbjpogaaGreatDoor
open Go Go.RowKit Go.Shelf Go.Sort
theorem fit_frames (bs : List (List UInt8)) (hb : ∀ b ∈ bs, b.length ≤ 2000) : ∀ f, f + bs.length ≤ 18446744073709551616 → (fitL f (Frame.scanL (framesL f bs))).length = bs.length ∧ Frame.sizes (fitL f (Frame.scanL (framesL f bs))) = (framesL f bs).length := by
  induction bs with
  | nil => intro f _; rw [framesL, Frame.scanL_none firstL_nil]; exact ⟨rfl, rfl⟩
  | cons b r ih =>
    intro f hf
    rw [List.length_cons] at hf
    have h1 := Frame.first_put f b (framesL (f + 1) r) (hb b (by simp)) (by omega)
    rw [framesL, Frame.scanL_some h1]
    have e : (Frame.putF f b ++ framesL (f + 1) r).drop (Frame.putF f b).length = framesL (f + 1) r := List.drop_left
    rw [e]
    obtain ⟨i1, i2⟩ := ih (fun x hx => hb x (by simp [hx])) (f + 1) (by omega)
    rw [fitL, if_pos rfl]
    refine ⟨by rw [List.length_cons, List.length_cons, i1], ?_⟩
    unfold Frame.sizes at i2 ⊢
    rw [List.map_cons, List.sum_cons, i2, List.length_append]
theorem scan_grp (g : Grp) (hb : ∀ b ∈ g.bodies, b.length ≤ 2000) (hf : g.end_ ≤ 1000000) : scanSeg g.first g.txt = g.seg := by
  have h1 : g.first + g.bodies.length ≤ 1000000 := hf
  have h := fit_frames g.bodies hb g.first (by omega)
  have e : ∀ l : List UInt8, scanSeg g.first l = ⟨g.first, (fitL g.first (Frame.scanL l)).length, Frame.sizes (fitL g.first (Frame.scanL l))⟩ := fun _ => rfl
  rw [e, show g.txt = framesL g.first g.bodies from rfl, h.1, h.2]
  rfl
/-- Names rise with their numbers. -/
theorem valL_cons (acc : Nat) (c : UInt8) (r : List UInt8) : valL acc (c :: r) = valL (acc * 10 + (c.toNat - 48)) r := by
  have h := valL_append [c] r acc
  have e : valL acc [c] = acc * 10 + (c.toNat - 48) := rfl
  rw [e] at h
  exact h
theorem val_bound (l : List UInt8) (hd : digitsOk l) : ∀ acc, acc * 10 ^ l.length ≤ valL acc l ∧ valL acc l < (acc + 1) * 10 ^ l.length := by
  induction l with
  | nil =>
    intro acc
    show acc * 10 ^ 0 ≤ acc ∧ acc < (acc + 1) * 10 ^ 0
    rw [Nat.pow_zero]
    omega
  | cons c r ih =>
    intro acc
    have hc := hd c (by simp)
    obtain ⟨h1, h2⟩ := ih (fun x hx => hd x (by simp [hx])) (acc * 10 + (c.toNat - 48))
    rw [valL_cons, List.length_cons, Nat.pow_succ]
    constructor
    · refine Nat.le_trans ?_ h1
      calc acc * (10 ^ r.length * 10) = (acc * 10) * 10 ^ r.length := by rw [Nat.mul_comm (10 ^ r.length) 10, Nat.mul_assoc]
        _ ≤ (acc * 10 + (c.toNat - 48)) * 10 ^ r.length := Nat.mul_le_mul_right _ (by omega)
    · refine Nat.lt_of_lt_of_le h2 ?_
      calc (acc * 10 + (c.toNat - 48) + 1) * 10 ^ r.length ≤ ((acc + 1) * 10) * 10 ^ r.length := Nat.mul_le_mul_right _ (by omega)
        _ = (acc + 1) * (10 ^ r.length * 10) := by rw [Nat.mul_assoc, Nat.mul_comm 10]
theorem lex_le : ∀ (a b : List UInt8) (acc : Nat), a.length = b.length → digitsOk a → digitsOk b → valL acc a ≤ valL acc b → a ≤ b
  | [], [], _, _, _, _, _ => List.le_refl _
  | [], _ :: _, _, h, _, _, _ => by cases h
  | _ :: _, [], _, h, _, _, _ => by cases h
  | c :: r, c' :: r', acc, hl, ha, hb, hv => by
    have hl' : r.length = r'.length := by simpa using hl
    have h1 := ha c (by simp)
    have h2 := hb c' (by simp)
    have hra : digitsOk r := fun x hx => ha x (by simp [hx])
    have hrb : digitsOk r' := fun x hx => hb x (by simp [hx])
    have b1 := val_bound r hra (acc * 10 + (c.toNat - 48))
    have b2 := val_bound r' hrb (acc * 10 + (c'.toNat - 48))
    rw [valL_cons, valL_cons] at hv
    rw [hl'] at b1
    rcases Nat.lt_trichotomy c.toNat c'.toNat with h | h | h
    · exact List.cons_le_cons_iff.2 (.inl (UInt8.lt_iff_toNat_lt.2 h))
    · have e : c = c' := UInt8.toNat_inj.1 h
      subst e
      exact List.cons_le_cons_iff.2 (.inr ⟨rfl, lex_le r r' _ hl' hra hrb hv⟩)
    · exfalso
      have h3 : (acc * 10 + (c'.toNat - 48) + 1) * 10 ^ r'.length ≤ (acc * 10 + (c.toNat - 48)) * 10 ^ r'.length := Nat.mul_le_mul_right _ (by omega)
      omega
theorem name_le {u v : Nat} (hu : u < 18446744073709551616) (hv : v < 18446744073709551616) (h : u ≤ v) : Seg.nameL u ≤ Seg.nameL v := by
  refine List.cons_le_cons_iff.2 (.inr ⟨rfl, lex_le (Seg.tailL u) (Seg.tailL v) 0 ?_ (Seg.tail_val u).1 (Seg.tail_val v).1 ?_⟩)
  · rw [Seg.tail_len hu, Seg.tail_len hv]
  · rw [(Seg.tail_val u).2, (Seg.tail_val v).2]; exact h
theorem sort_sorted {l l' : List Bytes} (h : l.Perm l') (hs : l'.Pairwise (fun a b => a ≤ b)) : l.mergeSort leB = l' := by
  have tr : ∀ a b c : List UInt8, leB a b = true → leB b c = true → leB a c = true := fun a b c h1 h2 => by simp only [leB, decide_eq_true_eq] at *; exact List.le_trans h1 h2
  have tot : ∀ a b : List UInt8, (leB a b || leB b a) = true := fun a b => by simp only [leB, Bool.or_eq_true, decide_eq_true_eq]; exact List.le_total a b
  refine List.Perm.eq_of_pairwise (le := fun a b => leB a b = true) (fun a b _ _ h1 h2 => ?_) (List.pairwise_mergeSort tr tot l) (hs.imp (fun h => by simpa only [leB, decide_eq_true_eq] using h)) ((List.mergeSort_perm l leB).trans h)
  simp only [leB, decide_eq_true_eq] at h1 h2
  exact List.le_antisymm h1 h2
theorem chain_le {f t : Nat} {G : List Grp} (h : Chain f G t) : G.Pairwise (fun a b => a.first ≤ b.first) := by
  induction G generalizing f with
  | nil => exact List.Pairwise.nil
  | cons x r ih =>
    refine List.pairwise_cons.2 ⟨fun b hb => ?_, ih h.2⟩
    have := (Chain.mem h.2 hb).1
    unfold Grp.end_ at this
    omega
namespace GoodLog
variable {R f0 : Nat} {L : LogV} {D : DiskV} {full : List Grp} {act : Grp}
theorem list_eq (h : GoodLog R f0 L D full act) : D.list = (full ++ [act]).map (fun g => Seg.nameL g.first) := by
  obtain ⟨es, hg, he⟩ := h.disk
  have he1 : es.map (·.first) = (full ++ [act]).map (·.first) := by
    have := congrArg (List.map Prod.fst) he
    rw [List.map_map, List.map_map] at this
    exact this
  have hp : (D.names.map (·.1)).Perm ((full ++ [act]).map (fun g => Seg.nameL g.first)) := by
    have h1 := hg.names.map (·.1)
    rw [List.map_map] at h1
    have h2 : es.map ((fun x : Bytes × Nat => x.1) ∘ fun e : Ent => (Seg.nameL e.first, e.idx)) = (es.map (·.first)).map Seg.nameL := by rw [List.map_map]; rfl
    rw [h2, he1, List.map_map] at h1
    exact h1
  refine sort_sorted hp ?_
  rw [List.pairwise_map]
  refine (chain_le h.chain).imp_of_mem (fun {a b} ha hb hab => ?_)
  have h1 := h.ends ha
  have h2 := h.ends hb
  unfold Grp.end_ at h1 h2
  exact name_le (by omega) (by omega) hab
theorem firsts_eq (h : GoodLog R f0 L D full act) : D.firsts = (full ++ [act]).map (·.first) := by
  unfold DiskV.firsts
  rw [h.list_eq]
  have hb : ∀ g ∈ full ++ [act], g.first < 18446744073709551616 := fun g hg => by have h1 := h.ends hg; unfold Grp.end_ at h1; omega
  generalize full ++ [act] = G at hb
  induction G with
  | nil => rfl
  | cons x r ih =>
    rw [List.map_cons, List.filterMap_cons, numL_name (hb x (by simp)), List.map_cons, ih (fun g hg => hb g (by simp [hg]))]
theorem names_ok (h : GoodLog R f0 L D full act) : ∀ s ∈ D.list, NameOk s := by
  intro s hs
  rw [h.list_eq] at hs
  obtain ⟨g, hg, rfl⟩ := List.mem_map.1 hs
  have h1 := h.ends hg
  unfold Grp.end_ at h1
  exact .inl ⟨g.first, by omega, rfl⟩
end GoodLog
theorem openGo_good (D D' : DiskV) (t : Nat) (G : List Grp) (ht : t ≤ 1000000) : ∀ (f : Nat) (acc : List SegV) (a : Grp), Chain f (G ++ [a]) t → (∀ g ∈ G ++ [a], ∀ b ∈ g.bodies, b.length ≤ 2000) →
    (∀ g ∈ G ++ [a], D.read (Seg.nameB g.first) = (⟨g.txt.toArray⟩, 0)) → D.sync (Seg.nameB a.first) = (D', 0) → openGo D acc ((G ++ [a]).map (·.first)) = (D', 0, acc ++ (G ++ [a]).map Grp.seg) := by
  induction G with
  | nil =>
    intro f acc a hc hb hr hs
    have hr0 := hr a (by simp)
    have hsc := scan_grp a (hb a (by simp)) (Nat.le_trans (Chain.mem hc (by simp)).2 ht)
    have hone : openOne D a.first none = (D', 0, a.seg) := by
      unfold openOne
      rw [hr0]
      dsimp only
      rw [if_neg (by simp), hsc, if_neg (by show ¬ a.txt.length < a.txt.toArray.size; simp), hs]
    rw [List.nil_append, List.map_cons, List.map_nil, openGo, List.head?_nil, hone]
    dsimp only
    rw [if_neg (by simp)]
    rfl
  | cons g r ih =>
    intro f acc a hc hb hr hs
    have hr0 := hr g (by simp)
    have hsc := scan_grp g (hb g (by simp)) (Nat.le_trans (Chain.mem hc (by simp)).2 ht)
    have hc2 : Chain g.end_ (r ++ [a]) t := hc.2
    have hhd : ((r ++ [a]).map (·.first)).head? = some g.end_ := by
      cases r with
      | nil => show some a.first = _; rw [hc2.1]
      | cons x y => show some x.first = _; rw [hc2.1]
    have hone : openOne D g.first (some g.end_) = (D, 0, g.seg) := by
      unfold openOne
      rw [hr0]
      dsimp only
      rw [if_neg (by simp), hsc, if_neg]
      rintro (h | h)
      · have h : g.txt.length < g.txt.toArray.size := h
        simp at h
      · exact h rfl
    rw [List.cons_append, List.map_cons, openGo, hhd, hone]
    dsimp only
    rw [if_neg (by simp), ih g.end_ (acc ++ [g.seg]) a hc2 (fun x hx => hb x (by simp [hx])) (fun x hx => hr x (by simp [hx])) hs]
    simp
namespace GoodLog
variable {R f0 : Nat} {L : LogV} {D : DiskV} {full : List Grp} {act : Grp}
/-- Opened again: the same segments; the disk is good. -/
theorem reopen (h : GoodLog R f0 L D full act) : ∃ D', openGo D [] D.firsts = (D', 0, full.map Grp.seg ++ [act.seg]) ∧ D.sync (Seg.nameB act.first) = (D', 0) ∧ GoodLog R f0 ⟨full.map Grp.seg, act.seg, act.seg⟩ D' full act := by
  obtain ⟨pre, e, hg, h1, h2, h3⟩ := h.split
  obtain ⟨D', hd', hg'⟩ := hg.sync
  rw [h2] at hd'
  refine ⟨D', ?_, hd', ⟨pack h1 h2 h3 hg', rfl, rfl, h.chain, h.small, h.few⟩⟩
  rw [h.firsts_eq, openGo_good D D' act.end_ full h.few f0 [] act h.chain h.small (fun g hg2 => ?_) hd', List.nil_append, List.map_append]
  · rfl
  · obtain ⟨es, hgood, hes⟩ := h.disk
    obtain ⟨x, hx, hxe⟩ : ∃ x ∈ es, (x.first, x.txt) = (g.first, g.txt) := by
      have : (g.first, g.txt) ∈ es.map (fun e => (e.first, e.txt)) := by rw [hes]; exact List.mem_map.2 ⟨g, hg2, rfl⟩
      exact List.mem_map.1 this
    have hr := hgood.read hx
    rw [(Prod.mk.inj hxe).1, (Prod.mk.inj hxe).2] at hr
    exact hr
end GoodLog
end Go.Proofs.YtndgnlblbjpogaaGreatDoor
namespace Go.Proofs.YtndgnlblbjpogaaGreatDoor
open Go Go.RowKit
def checkV (budget segm : Int) : Int := if segm < 1 then 1 else if budget < segm then 1 else if budget < 2016 then 1 else 0
/-- The ledger that is kept: l is the one that the mark's file tells, if it is there. -/
def keptV (D : DiskV) (l : LedgerV) : LedgerV × Int :=
  if (D.read ckB).2 = 0 then (l, 0) else if (D.read ckB).2 = 5 then (LedgerV.new, 0) else (⟨0, 0, []⟩, (D.read ckB).2)
/-- The mark's file, if it is there, tells of a ledger that is right. -/
def Marked (D : DiskV) (l : LedgerV) : Prop := (D.read ckB).2 = 0 → (D.read ckB).1 = Mark.markB l ∧ l.Right nmOk ∧ l.next ≤ 700
namespace SpoolV
/-- Segments that the ledger has no more are dropped. -/
def dropGo : Nat → SpoolV → SpoolV × Int
  | 0, P => (P, 0)
  | k + 1, P => if P.log.full = [] then (P, 0) else if P.log.first0 < P.led.first then (if P.drop.2 ≠ 0 then P.drop else dropGo k P.drop.1) else (P, 0)
def ready (P : SpoolV) : SpoolV := { P with led := { P.led with next := P.log.act.end_ } }
end SpoolV
def logOf (l : List SegV) : LogV := ⟨l.dropLast, l.getLastD ⟨1, 0, 0⟩, l.getLastD ⟨1, 0, 0⟩⟩
theorem logOf_snoc (xs : List SegV) (a : SegV) : logOf (xs ++ [a]) = ⟨xs, a, a⟩ := by
  unfold logOf
  rw [List.dropLast_concat, List.getLastD_concat]
/-- What Open answers and leaves. -/
structure OpenedV where
  disk : DiskV
  err : Int
  spool : SpoolV
def openV (D : DiskV) (budget segm : Int) (l : LedgerV) : OpenedV :=
  let P0 : SpoolV := ⟨budget, segm, ⟨[], ⟨1, 0, 0⟩, ⟨1, 0, 0⟩⟩, LedgerV.new, D⟩
  if checkV budget segm ≠ 0 then ⟨D, checkV budget segm, P0⟩
  else if D.clean.2 ≠ 0 then ⟨D.clean.1, D.clean.2, P0⟩
  else if (keptV D.clean.1 l).2 ≠ 0 then ⟨D.clean.1, (keptV D.clean.1 l).2, P0⟩
  else if D.clean.1.opened.2.1 ≠ 0 then ⟨D.clean.1.opened.1, D.clean.1.opened.2.1, P0⟩
  else
    let P : SpoolV := ⟨budget, segm, logOf D.clean.1.opened.2.2, (keptV D.clean.1 l).1, D.clean.1.opened.1⟩
    let q := P.dropGo P.log.full.length
    if q.2 ≠ 0 then ⟨q.1.disk, q.2, P0⟩
    else if q.1.log.first0 ≠ q.1.led.first then ⟨q.1.disk, 2, P0⟩
    else ⟨q.1.disk, 0, q.1.ready⟩
theorem ckB_bytes : bytesOf ckB = [99, 107] := rfl
/-- The other files' names, ahead of the segments'. -/
theorem ck_sorted (ck : Option (List UInt8)) (l : List Bytes) (h : l.Pairwise (fun a b => a ≤ b)) (hl : ∀ x ∈ l, ∃ u, x = Seg.nameL u) : ((ckFile ck).map (fun p => bytesOf p.1) ++ l).Pairwise (fun a b => a ≤ b) := by
  cases ck with
  | none => exact h
  | some t =>
    show ([99, 107] :: l).Pairwise _
    refine List.pairwise_cons.2 ⟨fun b hb => ?_, h⟩
    obtain ⟨u, rfl⟩ := hl b hb
    exact List.cons_le_cons_iff.2 (.inl (by decide))
namespace FLog
variable {R f0 : Nat} {L : LogV} {D : DiskV} {full : List Grp} {act : Grp} {ck : Option (List UInt8)}
theorem ends (h : FLog R f0 L D full act (ckFile ck)) {g : Grp} (hg : g ∈ full ++ [act]) : g.first + g.bodies.length ≤ 1000000 := by
  have h1 := (h.chain.mem hg).2
  have h2 := h.few
  have : g.end_ = g.first + g.bodies.length := rfl
  omega
theorem list_eq (h : FLog R f0 L D full act (ckFile ck)) : D.list = (ckFile ck).map (fun p => bytesOf p.1) ++ (full ++ [act]).map (fun g => Seg.nameL g.first) := by
  have hp := h.disk.list_perm
  rw [List.map_append, List.map_map] at hp
  have e : (full ++ [act]).map ((fun p : FPair => bytesOf p.1) ∘ Grp.file) = (full ++ [act]).map (fun g => Seg.nameL g.first) := by
    refine List.map_congr_left fun g _ => ?_
    exact Seg.bytesOf_nameB g.first
  rw [e] at hp
  refine sort_sorted hp (ck_sorted ck _ ?_ (fun x hx => by obtain ⟨g, _, rfl⟩ := List.mem_map.1 hx; exact ⟨_, rfl⟩))
  rw [List.pairwise_map]
  refine (chain_le h.chain).imp_of_mem (fun {a b} ha hb hab => ?_)
  have h1 := h.ends ha
  have h2 := h.ends hb
  exact name_le (by omega) (by omega) hab
theorem firsts_eq (h : FLog R f0 L D full act (ckFile ck)) : D.firsts = (full ++ [act]).map (·.first) := by
  unfold DiskV.firsts
  rw [h.list_eq, List.filterMap_append]
  have hb : ∀ g ∈ full ++ [act], g.first < 18446744073709551616 := fun g hg => by have h1 := h.ends hg; omega
  have hc : ((ckFile ck).map (fun p => bytesOf p.1)).filterMap numL = [] := by
    cases ck with
    | none => rfl
    | some t => rfl
  rw [hc, List.nil_append]
  generalize full ++ [act] = G at hb
  induction G with
  | nil => rfl
  | cons x r ih =>
    rw [List.map_cons, List.filterMap_cons, numL_name (hb x (by simp)), List.map_cons, ih (fun g hg => hb g (by simp [hg]))]
theorem names_ok (h : FLog R f0 L D full act (ckFile ck)) : ∀ s ∈ D.list, NameOk s := by
  intro s hs
  rw [h.list_eq] at hs
  rcases List.mem_append.1 hs with hs | hs
  · cases ck with
    | none => cases hs
    | some t => rw [show s = [99, 107] from List.mem_singleton.1 hs]; exact .inr ⟨by decide, by decide⟩
  · obtain ⟨g, hg, rfl⟩ := List.mem_map.1 hs
    have h1 := h.ends hg
    exact .inl ⟨g.first, by omega, rfl⟩
/-- No name ends in a mark of Write's. -/
theorem no_mark (h : FLog R f0 L D full act (ckFile ck)) : ∀ s ∈ D.list, s.getLast? ≠ some 126 := by
  intro s hs
  rw [h.list_eq] at hs
  rcases List.mem_append.1 hs with hs | hs
  · cases ck with
    | none => cases hs
    | some t => rw [show s = [99, 107] from List.mem_singleton.1 hs]; decide
  · obtain ⟨g, hg, rfl⟩ := List.mem_map.1 hs
    intro hx
    have hm := List.mem_of_getLast? hx
    rcases List.mem_cons.1 hm with hm | hm
    · exact absurd hm (by decide)
    · have := (Seg.tail_val g.first).1 126 hm
      exact absurd this (by decide)
theorem clean (h : FLog R f0 L D full act (ckFile ck)) : ∃ D', D.clean = (D', 0) ∧ FLog R f0 L D' full act (ckFile ck) := by
  obtain ⟨D', e, hf⟩ := h.disk.syncDir
  refine ⟨D', ?_, h.others hf⟩
  have key : ∀ l : List Bytes, (∀ s ∈ l, s.getLast? ≠ some 126) → D.cleanGo l = D.syncDir := by
    intro l
    induction l with
    | nil => intro _; rfl
    | cons s r ih =>
      intro hl
      rw [DiskV.cleanGo, if_neg (hl s (by simp)), ih (fun x hx => hl x (by simp [hx]))]
  unfold DiskV.clean
  rw [key _ h.no_mark, e]
/-- Opened again: the same segments; all is durable. -/
theorem reopen (h : FLog R f0 L D full act (ckFile ck)) : ∃ D', D.opened = (D', 0, full.map Grp.seg ++ [act.seg]) ∧ FLog R f0 ⟨full.map Grp.seg, act.seg, act.seg⟩ D' full act (ckFile ck) := by
  obtain ⟨D', hd, hg⟩ := (h.disk.perm (perm_act full act (ckFile ck))).sync
  refine ⟨D', ?_, ⟨hg.perm (perm_act full act (ckFile ck)).symm, rfl, rfl, h.chain, h.small, h.few⟩⟩
  unfold DiskV.opened
  rw [h.firsts_eq, if_neg (by simp), openGo_good D D' act.end_ full h.few f0 [] act h.chain h.small (fun g hg2 => ?_) hd, List.nil_append, List.map_append]
  · rfl
  · exact h.disk.read (List.mem_append.2 (.inr (List.mem_map.2 ⟨g, hg2, rfl⟩)))
end FLog
namespace SGood
variable {R M : Nat} {P : SpoolV} {full : List Grp} {act : Grp} {ck : Option (List UInt8)}
theorem first0 (h : SGood R M P full act ck) : P.log.first0 = P.led.first := by
  have hc := h.log.chain
  unfold LogV.first0
  rw [h.log.efull]
  cases full with
  | nil => rw [h.log.eact]; exact hc.1
  | cons g r => exact hc.1
/-- A good spool whose ledger was marked, opened again. -/
theorem reopen (h : SGood R M P full act (some (Mark.markL P.led))) (budget segm : Int) (hc : checkV budget segm = 0) :
    ∃ D', openV P.disk budget segm P.led = ⟨D', 0, ⟨budget, segm, ⟨full.map Grp.seg, act.seg, act.seg⟩, P.led, D'⟩⟩ ∧ SGood R M ⟨budget, segm, ⟨full.map Grp.seg, act.seg, act.seg⟩, P.led, D'⟩ full act (some (Mark.markL P.led)) := by
  obtain ⟨D1, e1, h1⟩ := h.log.clean
  obtain ⟨D2, e2, h2⟩ := h1.reopen
  have hrd : D1.read ckB = (Mark.markB P.led, 0) := h1.disk.read (List.mem_append.2 (.inl (List.mem_singleton.2 rfl)))
  have hk : keptV D1 P.led = (P.led, 0) := by unfold keptV; rw [hrd]; rfl
  have hg : SGood R M ⟨budget, segm, ⟨full.map Grp.seg, act.seg, act.seg⟩, P.led, D2⟩ full act (some (Mark.markL P.led)) :=
    ⟨h2, h.right, h.next, h.le, h.ckl, act.bodies.length, Nat.le_refl _, by rw [List.take_length]⟩
  refine ⟨D2, ?_, hg⟩
  have hf := hg.first0
  have hdg : ∀ k, SpoolV.dropGo k ⟨budget, segm, ⟨full.map Grp.seg, act.seg, act.seg⟩, P.led, D2⟩ = (⟨budget, segm, ⟨full.map Grp.seg, act.seg, act.seg⟩, P.led, D2⟩, 0) := by
    intro k
    cases k with
    | zero => rfl
    | succ k =>
      rw [SpoolV.dropGo]
      split
      · rfl
      · rw [if_neg (by rw [hf]; exact Nat.lt_irrefl _)]
  unfold openV
  rw [hc, e1]
  dsimp only
  rw [if_neg (by simp), if_neg (by simp), hk]
  dsimp only
  rw [if_neg (by simp), e2]
  dsimp only
  rw [if_neg (by simp), logOf_snoc, hdg]
  dsimp only
  rw [if_neg (by simp), if_neg (by rw [hf]; simp)]
  unfold SpoolV.ready
  have : act.seg.end_ = P.led.next := h.next.symm
  dsimp only
  rw [this]
end SGood
/-- A spool on a new disk. -/
theorem SGood.new {R M : Nat} (hM : 1 ≤ M) (hR : R ≤ 9223372036854775807) (budget segm : Int) (hc : checkV budget segm = 0) :
    ∃ P, openV (DiskV.new R) budget segm LedgerV.new = ⟨P.disk, 0, P⟩ ∧ P.budget = budget ∧ P.segm = segm ∧ P.led = LedgerV.new ∧ P.log = ⟨[], ⟨1, 0, 0⟩, ⟨1, 0, 0⟩⟩ ∧ SGood R M P [] ⟨1, []⟩ none := by
  have h0 := Files.new R hR
  obtain ⟨D1, e1, h1⟩ := h0.syncDir
  have hl : (DiskV.new R).list = [] := by
    have := h0.list_perm
    have : (DiskV.new R).names.map (·.1) = [] := List.Perm.eq_nil this
    unfold DiskV.list
    rw [this]
    exact List.mergeSort_nil
  have hcl : (DiskV.new R).clean = (D1, 0) := by
    unfold DiskV.clean
    rw [hl]
    exact e1
  have hl1 : D1.list = [] := by
    have := h1.list_perm
    have : D1.names.map (·.1) = [] := List.Perm.eq_nil this
    unfold DiskV.list
    rw [this]
    exact List.mergeSort_nil
  have hfs : D1.firsts = [] := by unfold DiskV.firsts; rw [hl1]; rfl
  have hrd : D1.read ckB = (ByteArray.empty, 5) := h1.read_none (fun p hp => by cases hp)
  obtain ⟨D2, e2, h2⟩ := h1.create (u := Seg.nameB 1) (Seg.nameB_named (by omega)) (fun p hp => by cases hp)
  obtain ⟨D3, e3, h3⟩ := h2.syncDir
  have hst : D1.started 1 = (D3, 0, true) := by
    unfold DiskV.started
    rw [e2]
    dsimp only
    rw [if_pos rfl, e3]
  have hop : D1.opened = (D3, 0, [⟨1, 0, 0⟩]) := by
    unfold DiskV.opened
    rw [hfs, if_pos rfl, hst]
  have hk : keptV D1 LedgerV.new = (LedgerV.new, 0) := by unfold keptV; rw [hrd]; rfl
  refine ⟨⟨budget, segm, ⟨[], ⟨1, 0, 0⟩, ⟨1, 0, 0⟩⟩, LedgerV.new, D3⟩, ?_, rfl, rfl, rfl, rfl, ⟨⟨h3, rfl, rfl, ⟨rfl, rfl⟩, ?_, by show 1 + 0 ≤ _; omega⟩, LedgerV.Right.new, rfl, hM, (fun t ht => by cases ht), 0, Nat.le_refl _, rfl⟩⟩
  · unfold openV
    rw [hc, hcl]
    dsimp only
    rw [if_neg (by simp), if_neg (by simp), hk]
    dsimp only
    rw [if_neg (by simp), hop]
    dsimp only
    rw [if_neg (by simp)]
    rfl
  · intro g hg b hbm
    rw [List.mem_singleton.1 hg] at hbm
    cases hbm
end Go.Proofs.YtndgnlblbjpogaaGreatDoor
