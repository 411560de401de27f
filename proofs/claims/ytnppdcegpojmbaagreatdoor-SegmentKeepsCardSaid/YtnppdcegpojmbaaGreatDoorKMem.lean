/- A power cut, and what is left, opened again: the walks of Crash and Open, put together. · What SegmentKeeps has in memory: its rows of bodies, the log, what a power cut may leave. No walk stands here. -/
import Derived.Test.YtnppdcegpojmbaaGreatDoorKFine
import Derived.Test.YtnppdcegpojmbaaGreatDoorCrash
import Derived.Test.YtnppdcegpojmbaaGreatDoorLaw3
import Derived.Test.YtnppdcegpojmbaaGreatDoorFront
namespace Go.Proofs.YtnppdcegpojmbaaGreatDoor
open Go Go.RowKit
theorem chgs_ok (f : Nat) (bs0 : List (List UInt8)) (evs : List Ev) : ∀ (es : List (List UInt8)) (s : Nat), s = (framesL f (bs0 ++ es)).length → ChgsOk s (chgsOf f bs0 es evs) := by
  induction evs with
  | nil => intro es s _; exact trivial
  | cons e r ih =>
    intro es s hs
    cases e with
    | app b =>
      refine .inl ⟨rfl, ih (es ++ [b]) _ ?_⟩
      show s + (Frame.putF (f + (bs0 ++ es).length) b).toArray.size = _
      rw [List.size_toArray, ← List.append_assoc, framesL_snoc, hs]
      exact List.length_append.symm
    | cut =>
      refine .inr ⟨by show (0 : Int) ≤ ((framesL f bs0).length : Nat); omega, ?_, ih [] _ ?_⟩
      · show (((framesL f bs0).length : Nat) : Int) ≤ s
        rw [hs, framesL_append, List.length_append]
        omega
      · rw [List.append_nil]
        show (((framesL f bs0).length : Nat) : Int).toNat = _
        omega
theorem chgs_sum (f : Nat) (bs0 : List (List UInt8)) (evs : List Ev) : ∀ es : List (List UInt8), (∀ row ∈ rowsOf es evs, (∀ b ∈ bs0 ++ row, b.length ≤ 2000) ∧ f + (bs0 ++ row).length ≤ 1000000) → chgSum (chgsOf f bs0 es evs) ≤ evs.length * 2024 := by
  induction evs with
  | nil => intro es _; exact Nat.zero_le _
  | cons e r ih =>
    intro es h
    cases e with
    | app b =>
      have h1 := ih (es ++ [b]) (fun row hr => h row (List.mem_cons_of_mem _ hr))
      have h2 := h (es ++ [b]) (List.mem_cons_of_mem _ (rowsOf_head _ _))
      have h3 := h2.1 b (by simp)
      have h4 := h2.2
      rw [← List.append_assoc, List.length_append] at h4
      have h5 := Frame.putF_len (f + (bs0 ++ es).length) b (by omega) h3
      have e1 : chgSum (chgsOf f bs0 es (.app b :: r)) = (Frame.putF (f + (bs0 ++ es).length) b).toArray.size + chgSum (chgsOf f bs0 (es ++ [b]) r) := rfl
      rw [e1, List.size_toArray, List.length_cons]
      omega
    | cut =>
      have h1 := ih [] (fun row hr => h row (List.mem_cons_of_mem _ hr))
      have e1 : chgSum (chgsOf f bs0 es (.cut :: r)) = 0 + chgSum (chgsOf f bs0 [] r) := rfl
      rw [e1, List.length_cons]
      omega
namespace Ready
variable {R N : Nat} {D : DiskV} {k : Int} {s : KSt}
theorem name_of (h : Ready R D k s.full s.f s.bs0 s.evs) {p : Bytes × Nat} (hp : p ∈ D.crashNames k) : ∃ g, (s.full ++ [s.act])[p.2]? = some g ∧ p.1 = Seg.nameL g.first := by
  have h1 := (DiskV.mem_of_perm h.names (i := p.2) (s := p.1)).1 hp
  rw [List.getElem?_map] at h1
  obtain ⟨g, h2, h3⟩ := Option.map_eq_some_iff.1 h1
  exact ⟨g, h2, h3.symm⟩
theorem lawful (h : Ready R D k s.full s.f s.bs0 s.evs) (hs : Sound s) (hl : Lim N D) : ∀ p ∈ D.crashNames k, p.1.length = 21 ∧ ∃ f, D.files[p.2]? = some f ∧ ChgsOk f.base.size f.chgs ∧ f.base.size + chgSum f.chgs ≤ 4611686018427387904 := by
  intro p hp
  obtain ⟨g, hg, hn⟩ := h.name_of hp
  have hN := hl.le
  have hge : g.end_ ≤ 1000000 := by
    have h1 := (hs.chain.snoc (g := s.act) rfl).mem (List.mem_of_getElem? hg)
    exact Nat.le_trans h1.2 (hs.rows _ (rowEnd_mem s.evs [])).2
  have hge' : g.first + g.bodies.length ≤ 1000000 := hge
  refine ⟨by rw [hn]; exact Seg.nameL_length (by omega), ?_⟩
  rcases Nat.lt_or_ge p.2 s.full.length with hlt | hge2
  · rw [List.getElem?_append_left hlt] at hg
    have hf := h.files _ _ hg
    refine ⟨_, hf, trivial, ?_⟩
    have hb := (hl.each _ (List.mem_of_getElem? hf)).2
    have : g.file.base.size = g.file.now.size := rfl
    have e0 : chgSum g.file.chgs = 0 := rfl
    rw [e0]
    have : N * 3000 ≤ 3000000000 := by omega
    omega
  · have hlt := (List.getElem?_eq_some_iff.1 hg).1
    have hpe : p.2 = s.full.length := by simp at hlt; omega
    rw [hpe]
    refine ⟨_, h.last, chgs_ok _ _ _ _ _ (by rw [List.append_nil]; show (framesL s.f s.bs0).toArray.size = _; simp), ?_⟩
    have h1 := chgs_sum s.f s.bs0 s.evs [] hs.rows
    have h2 := (hl.each _ (List.mem_of_getElem? h.last)).1
    have h2 : (chgsOf s.f s.bs0 [] s.evs).length ≤ N := h2
    rw [chgsOf_len] at h2
    have h3 := hs.rows _ (rowsOf_head [] s.evs)
    rw [List.append_nil] at h3
    have h4 := framesL_len s.bs0 h3.1 s.f h3.2
    have e1 : (liveFile s.f s.bs0 s.evs).base.size = (framesL s.f s.bs0).length := by show (framesL s.f s.bs0).toArray.size = _; simp
    have e2 : chgSum (liveFile s.f s.bs0 s.evs).chgs = chgSum (chgsOf s.f s.bs0 [] s.evs) := rfl
    rw [e1, e2]
    omega
theorem apart (h : Ready R D k s.full s.f s.bs0 s.evs) : (D.crashNames k).Pairwise (fun p q => p.2 ≠ q.2) := by
  refine (h.names.pairwise_iff (fun hab => Ne.symm hab)).2 ?_
  have : (((s.full ++ [actOf s.f s.bs0 s.evs]).map fun g => Seg.nameL g.first).zipIdx.map Prod.snd).Pairwise (· ≠ ·) := by
    rw [List.zipIdx_map_snd, ← List.range_eq_range']
    exact List.pairwise_lt_range.imp (fun h => Nat.ne_of_lt h)
  exact List.pairwise_map.1 this
theorem count (h : Ready R D k s.full s.f s.bs0 s.evs) : s.full.length < D.files.length := (List.getElem?_eq_some_iff.1 h.last).1
theorem lim (h : Ready R D k s.full s.f s.bs0 s.evs) (hs : Sound s) (hl : Lim N D) (hN : N ≤ 700000) (fs : List Int) : Lim 700000 (D.crash k fs) := by
  obtain ⟨names, hc, hp⟩ := D.crash_parts k fs _ h.names h.names_apart
  have hcnt := h.count
  have hfl := hl.files
  have hlen : ((s.full ++ [actOf s.f s.bs0 s.evs]).map fun g => Seg.nameL g.first).length = s.full.length + 1 := by simp
  have hnl := hp.length_eq
  rw [List.length_zipIdx, hlen] at hnl
  rw [hlen] at hc
  rw [hc]
  refine ⟨by decide, ?_, ?_, Nat.zero_le _, fun f hf => ?_⟩
  · show (List.map _ _).length ≤ _
    rw [List.length_map, List.length_range]
    omega
  · show names.length ≤ _
    omega
  · obtain ⟨i, hi, rfl⟩ := List.mem_map.1 hf
    have hi := List.mem_range.1 hi
    refine ⟨Nat.zero_le _, ?_⟩
    show (D.crashText fs i).size ≤ _
    unfold DiskV.crashText
    rcases Nat.lt_or_ge i s.full.length with hlt | hge
    · have hf := h.files i _ (List.getElem?_eq_getElem hlt)
      have hb := (hl.each _ (List.mem_of_getElem? hf)).2
      rw [hf]
      exact Nat.le_trans hb (Nat.mul_le_mul_right 3000 hN)
    · obtain rfl : i = s.full.length := by omega
      rw [h.last]
      show (lastText s.f s.bs0 s.evs _).size ≤ _
      obtain ⟨row, hr1, n, _, hn2, htx⟩ := at_rows s.f s.bs0 s.evs [] (fs.getD s.full.length 0) ⟨(framesL s.f s.bs0).toArray⟩ (by rw [List.append_nil])
      have hrw := hs.rows row hr1
      have h4 := framesL_len (s.bs0 ++ row) hrw.1 s.f hrw.2
      have h5 := congrArg List.length htx
      rw [List.length_take] at h5
      have h6 : (lastText s.f s.bs0 s.evs (fs.getD s.full.length 0)).data.toList.length = min n (framesL s.f (s.bs0 ++ row)).length := h5
      have h7 : (lastText s.f s.bs0 s.evs (fs.getD s.full.length 0)).data.toList.length = (lastText s.f s.bs0 s.evs (fs.getD s.full.length 0)).size := by simp
      omega
end Ready
/-- What a power cut has left: its disk lies above m. -/
structure KCutAt (R n m : Nat) (w : World) (c : Nat) (X : KSt → Prop) (C : DiskV) : Prop where
  disk : ∃ F, DiskIn w c C F ∧ ∀ b, F b → m ≤ b ∧ b < w.heap.size
  le : n ≤ m
  size : m ≤ w.heap.size
  glob : Glob n w
  lim : Lim 700000 C
  back : ∃ s row j D', X s ∧ row ∈ rowsOf [] s.evs ∧ j ≤ row.length ∧ openGo C [] C.firsts = (D', 0, s.full.map Grp.seg ++ [(⟨s.f, s.bs0 ++ row.take j⟩ : Grp).seg]) ∧
      GoodLog R 1 ⟨s.full.map Grp.seg, (⟨s.f, s.bs0 ++ row.take j⟩ : Grp).seg, (⟨s.f, s.bs0 ++ row.take j⟩ : Grp).seg⟩ D' s.full ⟨s.f, s.bs0 ++ row.take j⟩ ∧
      C.firsts = (s.full ++ [(⟨s.f, s.bs0 ++ row.take j⟩ : Grp)]).map (·.first) ∧ (∀ t ∈ C.list, NameOk t) ∧ Lim 700001 D'
def KCut (R n m : Nat) (w : World) (c : Nat) (X : KSt → Prop) : Prop := ∃ C, KCutAt R n m w c X C
theorem KDead.crash {R n N : Nat} {A : Nat → Prop} {w : World} {d : Nat} {X : KSt → Prop} (h : KDead R n N A w d X) (hX : ∀ s, X s → Sound s) (hR : R ≤ 9223372036854775807) (hN : N ≤ 700000) (k : Int)
    (Af : Option Addr) (cf : Nat) (fs : List Int) (hfs : ∀ i (hi : i < fs.length), ∃ a, Af = some a ∧ w.cell? (a.add i) = some (.int .i64 fs[i])) (hfb : ∀ x ∈ fs, -9223372036854775808 ≤ x ∧ x ≤ 9223372036854775807) :
    Calls Tryz.prog 38 #[.pointer (some ⟨d, 0, none⟩), .agg #[.int .i64 k, .slice Af fs.length cf]] w fun e w' => ∃ c, e = .returned (.pointer (some ⟨c, 0, none⟩)) ∧ KCut R n w.heap.size w' c X ∧ Off None w w' := by
  obtain ⟨D, h⟩ := h
  obtain ⟨F, hd, hF⟩ := h.disk
  obtain ⟨s, hs, hr⟩ := h.ready k
  have hso := hX s hs
  have hlw := hr.lawful hso h.lim
  have hNl := h.lim.le
  have hfiles := h.lim.files
  obtain ⟨Rp, hda, _⟩ := hd
  refine (DiskW.crash_any w d D Rp hda k Af cf fs hfs hfb (Nat.le_trans h.lim.moves hNl) (Nat.le_trans hr.base (by omega)) (fun m hm => ?_) hr.apart (fun p hp => ?_) (fun p hp f hf => ?_)).mono ?_
  · have := hr.moves m hm
    unfold maxLen
    omega
  · have h1 := hlw p hp
    obtain ⟨f, hf, _⟩ := h1.2
    exact ⟨by omega, (List.getElem?_eq_some_iff.1 hf).1⟩
  · obtain ⟨f', hf', h2⟩ := (hlw p hp).2
    rw [hf] at hf'
    cases hf'
    exact h2
  · rintro e w' ⟨c, rfl, hc, ho⟩
    obtain ⟨row, j, D', h1, h2, h3, h4, h5, h6, h7⟩ := hr.reopen hR hso.chain hso.small hso.rows fs
    have hlim := hr.lim hso h.lim hN fs
    exact ⟨c, rfl, ⟨D.crash k fs, ⟨_, hc, fun b hb => hb⟩, h.low, ho.size, h.glob.none ho, hlim, ⟨s, row, j, D', hs, h1, h2, h3, h4, h5, h6, h7 _ hlim (by decide)⟩⟩, ho⟩
theorem KCut.open_ {R n m : Nat} {w : World} {c : Nat} {X : KSt → Prop} (h : KCut R n m w c X) :
    Calls Tryz.prog 12 #[.pointer (some ⟨c, 0, none⟩)] w fun e w' =>
      ∃ x s row j, e = .returned (.tuple #[.pointer (some ⟨x, 0, none⟩), .int .i64 0]) ∧ X s ∧ row ∈ rowsOf [] s.evs ∧ Held R n 700001 None w' x c 0 1 s.full ⟨s.f, s.bs0 ++ row.take j⟩ (s.bs0 ++ row.take j).length ∧ Off (fun b => m ≤ b) w w' := by
  obtain ⟨C, h⟩ := h
  obtain ⟨F, hd, hF⟩ := h.disk
  obtain ⟨s, row, j, D', h1, h2, h3, h4, h5, h6, h7, h8⟩ := h.back
  obtain ⟨a, ha⟩ : ∃ a : Grp, a = ⟨s.f, s.bs0 ++ row.take j⟩ := ⟨_, rfl⟩
  rw [← ha] at h4 h5 h6
  have hup : ∀ u ∈ C.firsts, u ≤ 1000000000000 := by
    intro u hu
    rw [h6] at hu
    obtain ⟨x, hx, rfl⟩ := List.mem_map.1 hu
    have := h5.ends hx
    unfold Grp.end_ at this
    show x.first ≤ _
    omega
  have hFn : ∀ b, F b → n ≤ b := fun b hb => Nat.le_trans h.le (hF b hb).1
  have hc := Seg.open_any w c n 700000 C F hd (by rw [h6]; simp) h7 hup h.glob hFn h.lim (by decide)
  rw [h4] at hc
  refine hc.mono ?_
  rintro e w' ⟨⟨p, rfl, _, hok⟩, hd', ho⟩
  obtain ⟨lg, xs, b, rfl, hlg, hxs, hst⟩ := hok rfl
  have hxs2 : xs = s.full.map Grp.seg ∧ b = a.seg := by
    have := List.append_inj hxs.symm (by
      have := congrArg List.length hxs
      rw [List.length_append, List.length_append, List.length_singleton, List.length_singleton] at this
      omega)
    exact ⟨this.1, by simpa using this.2⟩
  obtain ⟨rfl, rfl⟩ := hxs2
  refine ⟨lg, s, row, j, rfl, h1, h2, ?_, ho.mono fun b _ hb => (hF b hb).1⟩
  have hal : (s.bs0 ++ row.take j).length = a.bodies.length := by rw [ha]
  rw [← ha, hal]
  refine ⟨_, D', ⟨_, hst, fun b hb => ?_⟩, fun b hb => hb.elim, Nat.le_trans (Nat.le_trans h.le h.size) ho.size, h.glob.off ho hFn, h5, h8, ?_, Nat.le_refl _⟩
  · rcases hb with hb | hb
    · exact ⟨hFn b hb, fun x => x, Nat.lt_of_lt_of_le (hF b hb).2 ho.size⟩
    · exact ⟨Nat.le_trans (Nat.le_trans h.le h.size) hb.1, fun x => x, hb.2⟩
  · show a.seg = (⟨a.first, a.bodies.take a.bodies.length⟩ : Grp).seg
    rw [List.take_length]
end Go.Proofs.YtnppdcegpojmbaaGreatDoor
namespace Go.Proofs.YtnppdcegpojmbaaGreatDoor
open Go Go.RowKit
namespace Law
open Words
/-- Texts that lie in blocks of A. -/
def Txt (A : Nat → Prop) (w : World) (p : Option Addr) (l : List ByteArray) : Prop := ∀ i (hi : i < l.length), ∃ a, p = some a ∧ A (a.add i).block ∧ (a.add i).block < w.heap.size ∧ w.cell? (a.add i) = some (.string l[i])
theorem Txt.off {A G : Nat → Prop} {w w' : World} {p : Option Addr} {l : List ByteArray} (h : Txt A w p l) (ho : Off G w w') (hG : ∀ b, A b → ¬ G b) : Txt A w' p l := by
  intro i hi
  obtain ⟨a, h1, h2, h3, h4⟩ := h i hi
  exact ⟨a, h1, h2, Nat.lt_of_lt_of_le h3 ho.size, ho.keep h4 (hG _ h2)⟩
theorem Txt.more {A A' : Nat → Prop} {w : World} {p : Option Addr} {l : List ByteArray} (h : Txt A w p l) (hA : ∀ b, b < w.heap.size → A b → A' b) : Txt A' w p l := by
  intro i hi
  obtain ⟨a, h1, h2, h3, h4⟩ := h i hi
  exact ⟨a, h1, hA _ h3 h2, h3, h4⟩
theorem Txt.take {A : Nat → Prop} {w : World} {p : Option Addr} {l : List ByteArray} (h : Txt A w p l) (k : Nat) : Txt A w p (l.take k) := by
  intro i hi
  rw [List.length_take] at hi
  obtain ⟨a, h1, h2, h3, h4⟩ := h i (by omega)
  exact ⟨a, h1, h2, h3, by rw [h4, List.getElem_take]⟩
theorem reads_one {w : World} {b : Nat} {t : ByteArray} (h : w.heap[b]? = some (.cells #[.string t] 9 (0, 0))) : Reads w (b + 1) 1 (some ⟨b, 0, none⟩) 1 (cellsT [t]) := by
  refine ⟨rfl, fun _ => ⟨_, rfl, Nat.lt_succ_self _, fun j u hu => ?_⟩⟩
  have hj : j < 1 := (List.getElem?_eq_some_iff.1 hu).1
  obtain rfl : j = 0 := by omega
  rw [show (⟨b, 0, none⟩ : Addr).add 0 = ⟨b, 0, none⟩ from rfl, Heap.cell h]
  exact hu
theorem row_txt {w : World} {base n : Nat} {v : Value} {l : List ByteArray} (h : w.ownsRow base 9 1 v n (cellsT l)) :
    ∃ A c, v = .slice A l.length c ∧ l.length ≤ c ∧ c ≤ 9223372036854775807 ∧ Txt (fun b => base ≤ b) w A l := by
  obtain ⟨A, c, h1, h2⟩ := row_texts h
  have hn : l.length = n := by have := h.1; rw [cellsT_len] at this; omega
  refine ⟨A, c, h1, ?_, ?_, h2⟩
  · obtain ⟨_, ⟨h3, h4⟩ | ⟨g, cap, cur, h3, _, _, hle, hmx, _⟩⟩ := h
    · omega
    · rw [h1] at h3
      have := (Value.slice.inj h3).2.2
      omega
  · obtain ⟨_, ⟨h3, h4⟩ | ⟨g, cap, cur, h3, _, _, hle, hmx, _⟩⟩ := h
    · rw [h1] at h3
      have := (Value.slice.inj h3).2.2
      omega
    · rw [h1] at h3
      have := (Value.slice.inj h3).2.2
      have hmx2 : cap ≤ 2 ^ 63 - 1 := hmx
      omega
/-- The law's own rows: bodies now, and all rows of bodies that stood. -/
structure KMem (n : Nat) (As : Nat → Prop) (gs : Nat) (w : World) (pb : Option Addr) (cb : Nat) (Bt : List ByteArray) (cs : Nat) (St : List (List ByteArray)) (sv : List Value) : Prop where
  bodies : Txt As w pb Bt
  cap : Bt.length ≤ cb
  capb : cb ≤ 9223372036854775807
  row : w.ownsRow n 22 1 (.slice (some ⟨gs, 0, none⟩) St.length cs) St.length sv
  each : ∀ i (hi : i < St.length), ∃ p c, sv[i]? = some (.slice p St[i].length c) ∧ Txt As w p St[i]
  apart : ¬ As gs
  low : ∀ b, As b → n ≤ b
theorem KMem.off {n : Nat} {As G : Nat → Prop} {gs : Nat} {w w' : World} {pb : Option Addr} {cb : Nat} {Bt : List ByteArray} {cs : Nat} {St : List (List ByteArray)} {sv : List Value} (h : KMem n As gs w pb cb Bt cs St sv) (ho : Off G w w') (hA : ∀ b, As b → ¬ G b) (hg : ¬ G gs) : KMem n As gs w' pb cb Bt cs St sv :=
  ⟨h.bodies.off ho hA, h.cap, h.capb, ho.row h.row (fun k hk => by cases hk; exact hg), fun i hi => by
    obtain ⟨p, c, h1, h2⟩ := h.each i hi
    exact ⟨p, c, h1, h2.off ho hA⟩, h.apart, h.low⟩
def bytesL (l : List ByteArray) : List (List UInt8) := l.map fun t => t.data.toList
/-- Where the law stands ahead of its act number k. -/
def KInv (n : Nat) (w wr : World) (lg d : Nat) (k : Nat) (vb vs vd : Value) : Prop :=
  ∃ (As : Nat → Prop) (gs : Nat) (pb : Option Addr) (cb : Nat) (Bt : List ByteArray) (cs : Nat) (St : List (List ByteArray)) (sv : List Value) (du N : Nat) (s : KSt),
    vb = .slice pb Bt.length cb ∧ vs = .slice (some ⟨gs, 0, none⟩) St.length cs ∧ vd = .int .i64 du ∧ KMem n As gs wr pb cb Bt cs St sv ∧
    KHeld 1000000 n N (fun b => As b ∨ b = gs) wr lg d s ∧ Live du (bytesL Bt) (St.map bytesL) s ∧ Bt.length ≤ k ∧ St.length ≤ k + 1 ∧ (∀ t ∈ St, t.length ≤ k) ∧ s.full.length ≤ k ∧ N ≤ 2 + 2 * k ∧ Off (fun b => n ≤ b) w wr
/-- Behind its acts: the power may go. -/
def KEnd (n : Nat) (w wr : World) (d : Nat) (vb vs vd : Value) : Prop :=
  ∃ (As : Nat → Prop) (gs : Nat) (pb : Option Addr) (cb : Nat) (Bt : List ByteArray) (cs : Nat) (St : List (List ByteArray)) (sv : List Value) (du N : Nat),
    vb = .slice pb Bt.length cb ∧ vs = .slice (some ⟨gs, 0, none⟩) St.length cs ∧ vd = .int .i64 du ∧ KMem n As gs wr pb cb Bt cs St sv ∧
    KDead 1000000 n N (fun b => As b ∨ b = gs) wr d (Fine du (bytesL Bt) (St.map bytesL)) ∧ Bt.length ≤ 61 ∧ St.length ≤ 62 ∧ (∀ t ∈ St, t.length ≤ 61) ∧ N ≤ 1000 ∧ Off (fun b => n ≤ b) w wr
/-- Behind act number k, ahead of what the law asks of it: durable is du still. -/
def KOut (n : Nat) (w wr : World) (lg d : Nat) (k du : Nat) (vb vs vf : Value) : Prop :=
  (vf = .int .i64 11 ∧ KEnd n w wr d vb vs (.int .i64 du)) ∨ (vf = .int .i64 0 ∧ ∃ du2, du ≤ du2 ∧ KInv n w wr lg d (k + 1) vb vs (.int .i64 (du2 : Nat)))
theorem KInv.ends {n : Nat} {w wr : World} {lg d k : Nat} {vb vs vd : Value} (h : KInv n w wr lg d k vb vs vd) (hk : k ≤ 60) : KEnd n w wr d vb vs vd := by
  obtain ⟨As, gs, pb, cb, Bt, cs, St, sv, du, N, s, h1, h2, h3, h4, h5, h6, h7, h8, h9, h10, h11, h12⟩ := h
  exact ⟨As, gs, pb, cb, Bt, cs, St, sv, du, N, h1, h2, h3, h4, h5.dead.mono (fun t ht => by rw [ht]; exact h6.fine), by omega, by omega, fun t ht => by have := h9 t ht; omega, by omega, h12⟩
theorem KHeld.blocks {R n N : Nat} {A : Nat → Prop} {w : World} {lg d : Nat} {s : KSt} (h : KHeld R n N A w lg d s) : (∀ b, A b → b < w.heap.size) ∧ n ≤ w.heap.size := by
  obtain ⟨L, D, h⟩ := h
  exact ⟨h.old, h.low⟩
/-- A row of bodies more. -/
theorem KMem.push {n : Nat} {As : Nat → Prop} {gs : Nat} {w7 wc w10 : World} {pb p2 : Option Addr} {cb c2 : Nat} {Bt : List ByteArray} {cs cap g : Nat} {St : List (List ByteArray)} {sv : List Value} {t : ByteArray} (h : KMem n As gs w7 pb cb Bt cs St sv)
    (hold : ∀ b, (As b ∨ b = gs) → b < w7.heap.size) (hn : n ≤ w7.heap.size) (hw : Off None w7 wc) (ht : Txt (fun b => w7.heap.size ≤ b) wc p2 (Bt ++ [t])) (hc2 : Bt.length + 1 ≤ c2) (hc3 : c2 ≤ 9223372036854775807)
    (hrow : w10.ownsRow n 22 1 (.slice (some ⟨g, 0, none⟩) (St.length + 1) cap) (St.length + 1) (sv ++ [.slice p2 (Bt.length + 1) c2])) (hp : Pushed wc w10 (.slice (some ⟨gs, 0, none⟩) St.length cs) g) :
    KMem n (fun b => As b ∨ (w7.heap.size ≤ b ∧ b < wc.heap.size)) g w10 p2 c2 (Bt ++ [t]) cap (St ++ [Bt ++ [t]]) (sv ++ [.slice p2 (Bt.length + 1) c2]) := by
  have hl : (Bt ++ [t]).length = Bt.length + 1 := by simp
  have hsl : (St ++ [Bt ++ [t]]).length = St.length + 1 := by simp
  have hsv : sv.length = St.length := by have := h.row.1; omega
  have hgs := hold gs (.inr rfl)
  have hown : ∀ k, (Value.slice (some ⟨gs, 0, none⟩) St.length cs).ownBlock = some k → k = gs := fun k hk => by cases hk; rfl
  have hnew : Txt (fun b => As b ∨ (w7.heap.size ≤ b ∧ b < wc.heap.size)) w10 p2 (Bt ++ [t]) := by
    refine (ht.more (fun b hb h => .inr ⟨h, hb⟩)).off hp.off (fun b hb hk => ?_)
    have := hown b hk
    subst this
    rcases hb with hb | hb
    · exact h.apart hb
    · omega
  refine ⟨hnew, by rw [hl]; exact hc2, hc3, by rw [hsl]; exact hrow, fun i hi => ?_, ?_, fun b hb => hb.elim (h.low b) (fun x => Nat.le_trans hn x.1)⟩
  · rw [hsl] at hi
    rcases Nat.lt_or_ge i St.length with hlt | hge
    · obtain ⟨p, c, h1, h2⟩ := h.each i hlt
      refine ⟨p, c, ?_, ?_⟩
      · rw [List.getElem?_append_left (by omega), h1, List.getElem_append_left hlt]
      · rw [List.getElem_append_left hlt]
        refine ((h2.off hw (fun _ _ x => x)).off hp.off (fun b hb hk => ?_)).more (fun b _ x => .inl x)
        have := hown b hk
        subst this
        exact h.apart hb
    · obtain rfl : i = St.length := by omega
      refine ⟨p2, c2, ?_, ?_⟩
      · rw [List.getElem?_append_right (by omega), hsv, Nat.sub_self]
        simp
      · rw [List.getElem_append_right (Nat.le_refl _)]
        simpa using hnew
  · have hs := hw.size
    rcases hp.from_ with h1 | h1
    · have := hown g h1
      subst this
      rintro (h2 | h2)
      · exact h.apart h2
      · omega
    · rintro (h2 | h2)
      · have := hold g (.inl h2); omega
      · omega
theorem KHeld.pushed {R n N : Nat} {As : Nat → Prop} {gs g : Nat} {w7 wc w10 : World} {lg d : Nat} {s : KSt} {m cs : Nat} (h : KHeld R n N (fun b => As b ∨ b = gs) w7 lg d s) (hlow : ∀ b, As b → n ≤ b) (hgs : n ≤ gs) (hw : Off None w7 wc) (hp : Pushed wc w10 (.slice (some ⟨gs, 0, none⟩) m cs) g) :
    KHeld R n N (fun b => (As b ∨ (w7.heap.size ≤ b ∧ b < wc.heap.size)) ∨ b = g) w10 lg d s := by
  have hs1 := hw.size
  have hs2 := hp.off.size
  refine h.keep ((hw.mono (fun _ _ x => x.elim) : Off (fun b => As b ∨ b = gs) w7 wc).trans hp.off (fun b _ hk => .inr (by cases hk; rfl))) (fun b hb => ?_) (fun b hb => hb.elim (hlow b) (fun e => by rw [e]; exact hgs))
  rcases hb with (hb | hb) | rfl
  · exact .inl (.inl hb)
  · exact .inr ⟨hb.1, by omega⟩
  · rcases hp.from_ with h1 | h1
    · left; right; cases h1; rfl
    · exact .inr ⟨by omega, hp.lt⟩
theorem infoSl : (Tryz.prog.info? 22).map (fun i => (i.zero, i.size, i.bytes)) = some (some (.slice none 0 0), 1, 24) := by kernel_rfl
theorem elemRow : ElemOk Tryz.prog 66 22 1 24 := .of Tryz.underlying66 infoSl rfl (by decide) (by decide)
theorem bytesL_snoc (l : List ByteArray) (t : ByteArray) : bytesL (l ++ [t]) = bytesL l ++ [t.data.toList] := List.map_append
theorem bytesL_len (l : List ByteArray) : (bytesL l).length = l.length := List.length_map _
theorem rows_snoc (St : List (List ByteArray)) (r : List ByteArray) : (St ++ [r]).map bytesL = St.map bytesL ++ [bytesL r] := List.map_append
theorem sumT_at (T : Nat → ByteArray) : ∀ n i, i < n → (T i).size ≤ sumT T n := by
  intro n
  induction n with
  | zero => intro i hi; omega
  | succ n ih =>
    intro i hi
    show _ ≤ sumT T n + (T n).size
    rcases Nat.lt_or_ge i n with h | h
    · have := ih i h; omega
    · obtain rfl : i = n := by omega
      omega
end Law
end Go.Proofs.YtnppdcegpojmbaaGreatDoor
