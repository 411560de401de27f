/- What a power cut may leave of a disk is in order: each operation keeps it. No program stands here. -/
import Derived.Test.YtnppdcegpojmbaaGreatDoorCrashS
import Derived.Test.YtnppdcegpojmbaaGreatDoorOpen
namespace Go.Proofs.YtnppdcegpojmbaaGreatDoor
open Go Go.RowKit
/-- A row of names: each name a segment's of a number of U at most, each its own file, and all files there. -/
structure NamesOk (U : Nat) (m : NMap) (n : Nat) : Prop where
  apart : m.Pairwise fun p q => p.2 ≠ q.2
  each : ∀ p ∈ m, p.2 < n ∧ ∃ u, u ≤ U ∧ p.1 = Seg.nameL u
theorem NamesOk.mono {U V : Nat} {m : NMap} {n n' : Nat} (h : NamesOk U m n) (hU : U ≤ V) (hn : n ≤ n') : NamesOk V m n' := ⟨h.apart, fun p hp => ⟨by have := (h.each p hp).1; omega, by obtain ⟨u, h1, h2⟩ := (h.each p hp).2; exact ⟨u, Nat.le_trans h1 hU, h2⟩⟩⟩
theorem NamesOk.del {U : Nat} {m : NMap} {n : Nat} (h : NamesOk U m n) (k : Bytes) : NamesOk U (m.del k) n := ⟨h.apart.sublist List.filter_sublist, fun p hp => h.each p (List.mem_filter.1 hp).1⟩
theorem NamesOk.ins {U : Nat} {m : NMap} {n : Nat} (h : NamesOk U m n) (u : Nat) (hu : u ≤ U) : NamesOk U (NMap.ins (Seg.nameL u, n) m) (n + 1) := by
  refine ⟨((ins_perm _ _).pairwise_iff (fun {a b} hab e => hab e.symm)).2 (List.pairwise_cons.2 ⟨fun q hq e => ?_, h.apart⟩), fun p hp => ?_⟩
  · have := (h.each q hq).1
    have e : n = q.2 := e
    omega
  · rcases List.mem_cons.1 ((ins_perm _ _).mem_iff.1 hp) with rfl | hp
    · exact ⟨Nat.lt_succ_self n, u, hu, rfl⟩
    · exact ⟨by have := (h.each p hp).1; omega, (h.each p hp).2⟩
theorem chgsOk_snoc (l : List Chg) : ∀ (t : ByteArray) (c : Chg), ChgsOk t.size l → (c.cut = -1 ∨ (0 ≤ c.cut ∧ c.cut ≤ (nowGo t l).size)) → ChgsOk t.size (l ++ [c]) := by
  induction l with
  | nil =>
    intro t c _ h
    rcases h with h | ⟨h1, h2⟩
    · exact .inl ⟨h, trivial⟩
    · exact .inr ⟨h1, h2, trivial⟩
  | cons x r ih =>
    intro t c hc h
    have hn : nowGo t (x :: r) = nowGo (chgNow t x) r := rfl
    rw [hn] at h
    rcases hc with ⟨h1, h2⟩ | ⟨h1, h2, h3⟩
    · have e : (chgNow t x).size = t.size + x.s.size := by unfold chgNow; rw [if_pos (by omega), ByteArray.size_append]
      exact .inl ⟨h1, by rw [← e] at h2 ⊢; exact ih _ c h2 h⟩
    · have e : (chgNow t x).size = x.cut.toNat := by unfold chgNow; rw [if_neg (by omega), ByteArray.size_extract]; omega
      exact .inr ⟨h1, h2, by rw [← e] at h3 ⊢; exact ih _ c h3 h⟩
/-- A file whose changes are in order. -/
def ChgOk (f : FileV) : Prop := (ChgsOk f.base.size f.chgs ∧ FileOk f) ∧ ∀ c ∈ f.chgs, c.s.size ≤ 3000
structure CrashOk (U : Nat) (D : DiskV) : Prop where
  rows : ∀ m ∈ dirRows D.base D.moves, NamesOk U m D.files.length
  chgs : ∀ f ∈ D.files, ChgOk f
  names : D.names = dirLast D.base D.moves
  moves : ∀ m ∈ D.moves, m.src.size ≤ 100 ∧ m.dst.size ≤ 100 ∧ m.file ≤ D.files.length
namespace CrashOk
variable {U : Nat} {D : DiskV}
theorem same {D' : DiskV} (h : CrashOk U D) (h1 : D'.base = D.base) (h2 : D'.moves = D.moves) (h3 : D'.names = D.names) (h4 : D'.files = D.files) : CrashOk U D' :=
  ⟨by rw [h1, h2, h4]; exact h.rows, by rw [h4]; exact h.chgs, by rw [h1, h2, h3]; exact h.names, by rw [h2, h4]; exact h.moves⟩
theorem mono {V : Nat} (h : CrashOk U D) (hV : U ≤ V) : CrashOk V D := ⟨fun m hm => (h.rows m hm).mono hV (Nat.le_refl _), h.chgs, h.names, h.moves⟩
theorem begin (h : CrashOk U D) : CrashOk U D.begin.1 := by unfold DiskV.begin; split <;> exact h.same rfl rfl rfl rfl
theorem fails (h : CrashOk U D) : CrashOk U D.fails.1 := by unfold DiskV.fails; split <;> exact h.same rfl rfl rfl rfl
theorem stop (h : CrashOk U D) (n : Int) : CrashOk U (D.stop n) := h.same rfl rfl rfl rfl
theorem failAt (h : CrashOk U D) (n : Int) : CrashOk U (D.failAt n) := h.same rfl rfl rfl rfl
theorem find (h : CrashOk U D) (name : ByteArray) : CrashOk U (D.find name).1 ∧ (D.find name).1.files = D.files ∧ (D.find name).1.names = D.names := by
  have hb : D.begin.1.files = D.files ∧ D.begin.1.names = D.names := by unfold DiskV.begin; split <;> exact ⟨rfl, rfl⟩
  unfold DiskV.find
  split
  · exact ⟨h, rfl, rfl⟩
  · cases D.names.get (bytesOf name) with
    | none => exact ⟨h.begin, hb⟩
    | some i => exact ⟨h.begin, hb⟩
theorem setFile (h : CrashOk U D) (i : Nat) (f : FileV) (hf : ChgOk f) : CrashOk U (D.setFile i f) :=
  ⟨fun m hm => by show NamesOk U m (D.files.set i f).length; rw [List.length_set]; exact h.rows m hm, fun g hg => by
    rcases List.mem_or_eq_of_mem_set (show g ∈ D.files.set i f from hg) with hm | rfl
    · exact h.chgs g hm
    · exact hf, h.names, fun m hm => by show _ ∧ _ ∧ m.file ≤ (D.files.set i f).length; rw [List.length_set]; exact h.moves m hm⟩
theorem chg {f : FileV} (hf : ChgOk f) (c : Chg) (hc : c.cut = -1 ∨ (0 ≤ c.cut ∧ c.cut ≤ f.now.size)) (hz : c.s.size ≤ 3000) : ChgOk ⟨f.base, chgNow f.now c, f.chgs ++ [c]⟩ := by
  refine ⟨⟨chgsOk_snoc f.chgs f.base c hf.1.1 ?_, (rowOf_chg hf.1.2 c).2⟩, fun x hx => ?_⟩
  · rw [← show f.now = nowGo f.base f.chgs from hf.1.2]
    exact hc
  · rcases List.mem_append.1 hx with hx | hx
    · exact hf.2 x hx
    · rw [List.mem_singleton.1 hx]; exact hz
theorem append (h : CrashOk U D) (name s : ByteArray) (hs : s.size ≤ 3000) : CrashOk U (D.append name s).1 := by
  have h1 := h.find name
  unfold DiskV.append
  generalize D.find name = c at h1 ⊢
  obtain ⟨D1, oi, e⟩ := c
  dsimp only at h1
  cases oi with
  | none => exact h1.1
  | some i =>
    dsimp only
    split
    · exact h1.1
    · split
      · exact h1.1.fails
      · cases hf : D1.files[i]? with
        | none => exact h1.1
        | some f =>
          have := chg (h1.1.chgs f (List.mem_of_getElem? hf)) ⟨s, -1⟩ (.inl rfl) hs
          exact h1.1.fails.setFile i _ this
theorem cut (h : CrashOk U D) (name : ByteArray) (n : Int) : CrashOk U (D.cut name n).1 := by
  have h1 := h.find name
  unfold DiskV.cut
  generalize D.find name = c at h1 ⊢
  obtain ⟨D1, oi, e⟩ := c
  dsimp only at h1
  cases oi with
  | none => exact h1.1
  | some i =>
    dsimp only
    cases hf : D1.files[i]? with
    | none => exact h1.1
    | some f =>
      dsimp only
      split
      · exact h1.1
      · rename_i hn
        have hc := chg (h1.1.chgs f (List.mem_of_getElem? hf)) ⟨ByteArray.empty, n⟩ (.inr ⟨by show 0 ≤ n; omega, by show n ≤ _; omega⟩) (Nat.zero_le _)
        have e : chgNow f.now ⟨ByteArray.empty, n⟩ = f.now.extract 0 n.toNat := by unfold chgNow; exact if_neg (by show ¬ n < 0; omega)
        rw [e] at hc
        exact h1.1.setFile i _ hc
theorem sync (h : CrashOk U D) (name : ByteArray) : CrashOk U (D.sync name).1 := by
  have h1 := h.find name
  unfold DiskV.sync
  generalize D.find name = c at h1 ⊢
  obtain ⟨D1, oi, e⟩ := c
  dsimp only at h1
  cases oi with
  | none => exact h1.1
  | some i =>
    dsimp only
    split
    · exact h1.1.fails
    · cases hf : D1.files[i]? with
      | none => exact h1.1
      | some f => exact h1.1.fails.setFile i _ ⟨⟨trivial, rfl⟩, fun c hc => absurd hc (by simp)⟩
theorem syncDir (h : CrashOk U D) : CrashOk U D.syncDir.1 := by
  have h1 := h.begin
  unfold DiskV.syncDir
  generalize D.begin = c at h1 ⊢
  obtain ⟨D1, e⟩ := c
  dsimp only at h1 ⊢
  split
  · refine ⟨fun m hm => ?_, h1.chgs, rfl, fun m hm => absurd hm (by simp)⟩
    have hm : m ∈ [D1.names] := hm
    rw [List.mem_singleton.1 hm, h1.names]
    exact h1.rows _ (List.mem_of_getLast? (dirRows_last D1.base D1.moves))
  · exact h1
theorem last (h : CrashOk U D) : NamesOk U D.names D.files.length := by rw [h.names]; exact h.rows _ (List.mem_of_getLast? (dirRows_last D.base D.moves))
theorem moved (h : CrashOk U D) (x : Move) (hx : NamesOk U (DiskV.done x D.names) D.files.length) (hz : x.src.size ≤ 100 ∧ x.dst.size ≤ 100 ∧ x.file ≤ D.files.length) : CrashOk U (D.moved x) := by
  refine ⟨fun m hm => ?_, h.chgs, ?_, fun m hm => ?_⟩
  · have hm : m ∈ dirRows D.base (D.moves ++ [x]) := hm
    rw [dirRows_add] at hm
    rcases List.mem_append.1 hm with hm | hm
    · exact h.rows m hm
    · rw [List.mem_singleton.1 hm, ← h.names]; exact hx
  · show DiskV.done x D.names = dirLast D.base (D.moves ++ [x])
    unfold dirLast
    rw [List.foldl_append]
    show _ = DiskV.done x (dirLast D.base D.moves)
    rw [← h.names]
  · rcases List.mem_append.1 (show m ∈ D.moves ++ [x] from hm) with hm | hm
    · exact h.moves m hm
    · rw [List.mem_singleton.1 hm]; exact hz
theorem remove (h : CrashOk U D) (name : ByteArray) (hz : name.size ≤ 100) : CrashOk U (D.remove name).1 := by
  have h1 := h.find name
  unfold DiskV.remove
  generalize D.find name = c at h1 ⊢
  obtain ⟨D1, oi, e⟩ := c
  dsimp only at h1
  cases oi with
  | none => exact h1.1
  | some i =>
    refine h1.1.moved _ ?_ ⟨hz, Nat.zero_le _, Nat.zero_le _⟩
    unfold DiskV.done
    rw [if_pos (show (ByteArray.empty).size = 0 from rfl)]
    exact h1.1.last.del _
theorem create (h : CrashOk U D) (u : Nat) (hu : u ≤ U) (hU : U < 18446744073709551616) : CrashOk U (D.create (Seg.nameB u)).1 := by
  have h1 := h.find (Seg.nameB u)
  unfold DiskV.create
  generalize D.find (Seg.nameB u) = c at h1 ⊢
  obtain ⟨D1, oi, e⟩ := c
  dsimp only at h1 ⊢
  split
  · exact h1.1
  · split
    · exact h1.1
    · split
      · exact h1.1
      · have h2 : CrashOk U { D1 with files := D1.files ++ [⟨ByteArray.empty, ByteArray.empty, []⟩] } := by
          refine ⟨fun m hm => ?_, fun f hf => ?_, h1.1.names, fun m hm => ?_⟩
          · refine (h1.1.rows m hm).mono (Nat.le_refl _) ?_
            show _ ≤ (D1.files ++ [_]).length
            rw [List.length_append]; omega
          · rcases List.mem_append.1 hf with hf | hf
            · exact h1.1.chgs f hf
            · rw [List.mem_singleton.1 hf]; exact ⟨⟨trivial, rfl⟩, fun c hc => absurd hc (by simp)⟩
          · have := h1.1.moves m hm
            refine ⟨this.1, this.2.1, ?_⟩
            show _ ≤ (D1.files ++ [_]).length
            rw [List.length_append]; omega
        refine h2.moved _ ?_ ⟨Nat.zero_le _, by show (Seg.nameB u).size ≤ 100; rw [show (Seg.nameB u).size = 21 from Seg.nameL_length (by omega)]; decide, by show D1.files.length ≤ (D1.files ++ [_]).length; rw [List.length_append]; omega⟩
        have hl := h1.1.last
        unfold DiskV.done
        rw [if_neg (by show ¬ (Seg.nameB u).size = 0; rw [show (Seg.nameB u).size = 21 from Seg.nameL_length (by omega)]; decide)]
        show NamesOk U (NMap.ins _ _) (D1.files ++ [_]).length
        rw [List.length_append, List.length_singleton]
        exact ((hl.del _).del _).ins u hu
theorem started (h : CrashOk U D) (u : Nat) (hu : u ≤ U) (hU : U < 18446744073709551616) : CrashOk U (D.started u).1 := by
  have h1 := h.create u hu hU
  unfold DiskV.started
  generalize D.create (Seg.nameB u) = c at h1 ⊢
  obtain ⟨D1, e⟩ := c
  dsimp only at h1 ⊢
  split
  · exact h1.syncDir
  · exact h1
theorem lappend (h : CrashOk U D) (L : LogV) (body : ByteArray) (hL : L.act.end_ < 18446744073709551616) : CrashOk U (L.append D body).2.1 := by
  unfold LogV.append
  split
  · exact h
  · rename_i hb
    have hz : (⟨(Frame.putF L.act.end_ body.data.toList).toArray⟩ : ByteArray).size ≤ 3000 := by
      show (Frame.putF L.act.end_ body.data.toList).toArray.size ≤ _
      rw [List.size_toArray]
      have e1 : body.data.toList.length = body.size := by simp
      have := Frame.putF_len L.act.end_ body.data.toList hL (by rw [e1]; show body.size ≤ 2000; omega)
      omega
    have h1 := h.append (Seg.nameB L.act.first) ⟨(Frame.putF L.act.end_ body.data.toList).toArray⟩ hz
    dsimp only
    generalize D.append (Seg.nameB L.act.first) ⟨(Frame.putF L.act.end_ body.data.toList).toArray⟩ = c at h1 ⊢
    obtain ⟨D1, e⟩ := c
    dsimp only at h1 ⊢
    split <;> exact h1
theorem lsync (h : CrashOk U D) (L : LogV) : CrashOk U (L.sync D).2.1 := by
  unfold LogV.sync
  split
  · exact h
  · have h1 := h.sync (Seg.nameB L.durable.first)
    generalize D.sync (Seg.nameB L.durable.first) = c at h1 ⊢
    obtain ⟨D1, e⟩ := c
    dsimp only at h1 ⊢
    split <;> exact h1
theorem lundo (h : CrashOk U D) (L : LogV) : CrashOk U (L.undo D).2.1 := by
  unfold LogV.undo
  split
  · exact h
  · have h1 := h.cut (Seg.nameB L.durable.first) L.durable.size
    generalize D.cut (Seg.nameB L.durable.first) L.durable.size = c at h1 ⊢
    obtain ⟨D1, e⟩ := c
    dsimp only at h1 ⊢
    split <;> exact h1
theorem lroll (h : CrashOk U D) (L : LogV) (hu : L.act.end_ ≤ U) (hU : U < 18446744073709551616) : CrashOk U (L.roll D).2.1 := by
  unfold LogV.roll
  split
  · exact h
  · have h1 := h.sync (Seg.nameB L.act.first)
    generalize D.sync (Seg.nameB L.act.first) = c at h1 ⊢
    obtain ⟨D1, e⟩ := c
    dsimp only at h1 ⊢
    split
    · have h2 := h1.started L.act.end_ hu hU
      generalize D1.started L.act.end_ = c at h2 ⊢
      obtain ⟨D2, e2, st⟩ := c
      dsimp only at h2 ⊢
      split <;> exact h2
    · exact h1
theorem ldrop (h : CrashOk U D) (L : LogV) (hL : ∀ s ∈ L.full, s.first < 18446744073709551616) : CrashOk U (L.drop D).2.1 := by
  unfold LogV.drop
  cases hf : L.full with
  | nil => exact h
  | cons s r =>
    dsimp only
    have h1 := h.remove (Seg.nameB s.first) (by rw [show (Seg.nameB s.first).size = 21 from Seg.nameL_length (hL s (by rw [hf]; simp))]; decide)
    generalize D.remove (Seg.nameB s.first) = c at h1 ⊢
    obtain ⟨D1, e⟩ := c
    dsimp only at h1 ⊢
    split
    · exact h1.syncDir
    · exact h1
theorem openOne (h : CrashOk U D) (u : Nat) (next : Option Nat) : CrashOk U (openOne D u next).1 := by
  unfold Go.Proofs.YtnppdcegpojmbaaGreatDoor.openOne
  split
  · exact h
  · dsimp only
    cases next with
    | some v => dsimp only; split <;> exact h
    | none =>
      dsimp only
      split
      · split
        · exact h.cut _ _
        · exact (h.cut _ _).sync _
      · exact h.sync _
theorem openGo (l : List Nat) : ∀ (D : DiskV) (acc : List SegV), CrashOk U D → CrashOk U (openGo D acc l).1 := by
  induction l with
  | nil => intro D acc h; exact h
  | cons u r ih =>
    intro D acc h
    unfold Go.Proofs.YtnppdcegpojmbaaGreatDoor.openGo
    split
    · exact h.openOne _ _
    · exact ih _ _ (h.openOne _ _)
theorem opened (h : CrashOk U D) (h1 : 1 ≤ U) (hU : U < 18446744073709551616) : CrashOk U D.opened.1 := by
  unfold DiskV.opened
  split
  · exact h.started 1 h1 hU
  · exact openGo _ _ _ h
theorem new (room : Int) : CrashOk U (DiskV.new room) := by
  refine ⟨fun m hm => ?_, fun f hf => absurd hf (by simp [DiskV.new]), rfl, fun m hm => absurd hm (by simp [DiskV.new])⟩
  have hm : m ∈ [([] : NMap)] := hm
  rw [List.mem_singleton.1 hm]
  exact ⟨List.Pairwise.nil, fun p hp => absurd hp (by simp)⟩
end CrashOk
end Go.Proofs.YtnppdcegpojmbaaGreatDoor
