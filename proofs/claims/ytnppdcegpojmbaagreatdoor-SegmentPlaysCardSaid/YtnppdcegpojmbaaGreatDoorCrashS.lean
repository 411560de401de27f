/- A power cut, on both disks: what is left of each is alike. No program stands here. -/
import Derived.Test.YtnppdcegpojmbaaGreatDoorRefS2
import Derived.Test.YtnppdcegpojmbaaGreatDoorKeepM
namespace Go.Proofs.YtnppdcegpojmbaaGreatDoor
open Go Go.RowKit
namespace RefV
def crashDir (X : RefV) (k : Int) : List Named := (X.dirs[(max 0 (min k ((X.dirs.length : Int) - 1))).toNat]?).getD []
def crashAt (X : RefV) (fs : List Int) (n : Nat) : Nat := (max 0 (min (fs.getD n 0) ((((X.files[n]?).getD []).length : Int) - 1))).toNat
def crashText (X : RefV) (fs : List Int) (n : Nat) : ByteArray := (((X.files[n]?).getD [])[X.crashAt fs n]?).getD ByteArray.empty
def crashOne (X : RefV) (fs : List Int) (n : Nat) (st : List (List ByteArray) × List Named) (p : Named) : List (List ByteArray) × List Named :=
  if p.2 = n then (st.1 ++ [[X.crashText fs n]], st.2 ++ [(p.1, st.1.length)]) else st
def crashStep (X : RefV) (l : List Named) (fs : List Int) (st : List (List ByteArray) × List Named) (n : Nat) : List (List ByteArray) × List Named := l.foldl (X.crashOne fs n) st
def crash (X : RefV) (k : Int) (fs : List Int) : RefV :=
  let st := (List.range X.files.length).foldl (X.crashStep (X.crashDir k) fs) ([], [])
  ⟨max X.room 0, st.1, [st.2], 0, 0, -1⟩
end RefV
theorem dirRows_get (l : List Move) : ∀ (m : NMap) (j : Nat), j ≤ l.length → (dirRows m l)[j]? = some (dirLast m (l.take j)) := by
  induction l with
  | nil =>
    intro m j hj
    have e : j = 0 := by simpa using hj
    rw [e]
    rfl
  | cons x r ih =>
    intro m j hj
    cases j with
    | zero => rfl
    | succ j =>
      show (m :: dirRows (DiskV.done x m) r)[j + 1]? = _
      rw [List.getElem?_cons_succ, ih _ j (by simpa using hj), List.take_succ_cons]
      rfl
theorem dirRows_len (l : List Move) : ∀ m : NMap, (dirRows m l).length = l.length + 1 := by
  induction l with
  | nil => intro m; rfl
  | cons x r ih => intro m; show (dirRows _ r).length + 1 = _; rw [ih]; rfl
theorem both₂_len {α β : Type} {R : α → β → Prop} {a : List α} {b : List β} (h : Both₂ R a b) : a.length = b.length := by
  induction h with
  | nil => rfl
  | cons _ _ ih => rw [List.length_cons, List.length_cons, ih]
theorem both₂_get {α β : Type} {R : α → β → Prop} {a : List α} {b : List β} (h : Both₂ R a b) : ∀ {j : Nat} {y : β}, b[j]? = some y → ∃ x, a[j]? = some x ∧ R x y := by
  induction h with
  | nil => intro j y hy; cases hy
  | @cons x z r t hxz hrt ih =>
    intro j y hy
    cases j with
    | zero =>
      have e : z = y := by simpa using hy
      exact ⟨x, rfl, e ▸ hxz⟩
    | succ j => exact ih (by simpa using hy)
theorem Sim.crashDir {X : RefV} {D : DiskV} (h : Sim X D) (k : Int) : DirOk (X.crashDir k) (D.crashNames k) ∧ D.crashNames k ∈ dirRows D.base D.moves := by
  have hl := both₂_len h.dirs
  rw [dirRows_len] at hl
  obtain ⟨j, hj⟩ : ∃ j, j = (max 0 (min k (D.moves.length : Int))).toNat := ⟨_, rfl⟩
  have hjl : j ≤ D.moves.length := by omega
  have hg := dirRows_get D.moves D.base j hjl
  obtain ⟨x, hx, hR⟩ := both₂_get h.dirs hg
  have e1 : X.crashDir k = x := by
    unfold RefV.crashDir
    rw [hl, show ((D.moves.length + 1 : Nat) : Int) - 1 = (D.moves.length : Int) by omega, ← hj, hx]
    rfl
  have e2 : D.crashNames k = dirLast D.base (D.moves.take j) := by
    unfold DiskV.crashNames dirLast
    rw [← hj]
  rw [e1, e2]
  exact ⟨hR, List.mem_of_getElem? hg⟩
/- Texts. -/
theorem ba_append_empty (t : ByteArray) : t ++ ByteArray.empty = t := by apply bytesOf_inj; unfold bytesOf; simp
theorem ba_extract_all (s : ByteArray) : s.extract 0 s.size = s := by
  apply bytesOf_inj
  unfold bytesOf
  simp
theorem atGo_nonpos (t : ByteArray) (l : List Chg) {m : Int} (hm : m ≤ 0) : atGo t l m = t := by
  cases l with
  | nil => rfl
  | cons c r => unfold atGo; rw [if_pos hm]
theorem moments_get (t s : ByteArray) {n i : Nat} (hi : i < n) : (RefV.moments t s n)[i]? = some (t ++ s.extract 0 (i + 1)) := by
  unfold RefV.moments
  rw [List.getElem?_map, List.getElem?_range hi]
  rfl
theorem moments_len (t s : ByteArray) (n : Nat) : (RefV.moments t s n).length = n := by unfold RefV.moments; rw [List.length_map, List.length_range]
theorem atGo_row (l : List Chg) : ∀ (t : ByteArray) (k : Int), ChgsOk t.size l → atGo t l k = ((t :: rowGo t l)[(max 0 (min k (((t :: rowGo t l).length : Int) - 1))).toNat]?).getD ByteArray.empty := by
  induction l with
  | nil =>
    intro t k _
    have e : (max 0 (min k ((((t :: rowGo t [] : List ByteArray).length : Nat) : Int) - 1))).toNat = 0 := by
      show (max 0 (min k (((1 : Nat) : Int) - 1))).toNat = 0
      omega
    rw [e]
    rfl
  | cons c r ih =>
    intro t k hc
    by_cases hk : k ≤ 0
    · rw [atGo_nonpos _ _ hk, show (max 0 (min k (((t :: rowGo t (c :: r)).length : Int) - 1))).toNat = 0 by omega]
      rfl
    · have hrow : rowGo t (c :: r) = chgRow t c ++ rowGo (chgNow t c) r := rfl
      unfold atGo
      rw [if_neg hk]
      rcases hc with ⟨h1, h2⟩ | ⟨h1, h2, h3⟩
      · rw [if_neg (by rw [h1]; exact fun h => h rfl)]
        have e1 : chgRow t c = RefV.moments t c.s c.s.size := by unfold chgRow; rw [if_pos (by omega)]
        have e2 : chgNow t c = t ++ c.s := by unfold chgNow; rw [if_pos (by omega)]
        have hm := moments_len t c.s c.s.size
        have hih := ih (t ++ c.s) (k - c.s.size) (by rw [ByteArray.size_append]; exact h2)
        obtain ⟨n, hn⟩ : ∃ n, n = (rowGo (t ++ c.s) r).length := ⟨_, rfl⟩
        have hlen : (t :: rowGo t (c :: r)).length = c.s.size + n + 1 := by rw [hrow, e1, e2, List.length_cons, List.length_append, hm, hn]
        rw [hlen]
        have hlen2 : ((t ++ c.s) :: rowGo (t ++ c.s) r).length = n + 1 := by rw [List.length_cons, hn]
        rw [hlen2] at hih
        by_cases hle : k < c.s.size
        · rw [show min k (c.s.size : Int) = k by omega, atGo_nonpos _ _ (by omega : k - k ≤ 0)]
          obtain ⟨i, hi⟩ : ∃ i : Nat, k = (i + 1 : Nat) := ⟨(k - 1).toNat, by omega⟩
          have e3 : (max 0 (min k ((((c.s.size + n + 1 : Nat)) : Int) - 1))).toNat = i + 1 := by omega
          rw [e3, hrow, e1, List.getElem?_cons_succ, List.getElem?_append_left (by rw [hm]; omega), moments_get _ _ (by omega), hi, Int.toNat_natCast]
          rfl
        · rw [show min k (c.s.size : Int) = c.s.size by omega, Int.toNat_natCast, ba_extract_all, hih, hrow, e1, e2]
          obtain ⟨j, hj⟩ : ∃ j, j = (max 0 (min (k - c.s.size) (((n + 1 : Nat) : Int) - 1))).toNat := ⟨_, rfl⟩
          have e3 : (max 0 (min k ((((c.s.size + n + 1 : Nat)) : Int) - 1))).toNat = c.s.size + j := by omega
          rw [← hj, e3]
          congr 1
          cases hz : c.s.size with
          | zero =>
            have he : c.s = ByteArray.empty := by
              apply bytesOf_inj; unfold bytesOf
              exact List.eq_nil_of_length_eq_zero (by simpa using hz)
            rw [he, ba_append_empty, Nat.zero_add]
            rfl
          | succ z =>
            rw [← hz]
            cases j with
            | zero =>
              rw [Nat.add_zero, hz, List.getElem?_cons_succ, List.getElem?_append_left (by rw [moments_len]; omega), moments_get _ _ (by omega), ← hz, ba_extract_all]
              rfl
            | succ j =>
              rw [List.getElem?_cons_succ, show c.s.size + (j + 1) = (c.s.size + j) + 1 by omega, List.getElem?_cons_succ, List.getElem?_append_right (by rw [hm]; omega), hm]
              congr 1
              omega
      · rw [if_pos (by omega)]
        have e1 : chgRow t c = [t.extract 0 c.cut.toNat] := by unfold chgRow; rw [if_neg (by omega)]
        have e2 : chgNow t c = t.extract 0 c.cut.toNat := by unfold chgNow; rw [if_neg (by omega)]
        have hsz : (t.extract 0 c.cut.toNat).size = c.cut.toNat := by rw [ByteArray.size_extract]; omega
        have hih := ih (t.extract 0 c.cut.toNat) (k - 1) (by rw [hsz]; exact h3)
        rw [hih, hrow, e1, e2]
        obtain ⟨n, hn⟩ : ∃ n, n = (rowGo (t.extract 0 c.cut.toNat) r).length := ⟨_, rfl⟩
        have hlen : (t :: ([t.extract 0 c.cut.toNat] ++ rowGo (t.extract 0 c.cut.toNat) r)).length = n + 2 := by rw [List.length_cons, List.length_append, List.length_singleton, hn]; omega
        have hlen2 : (t.extract 0 c.cut.toNat :: rowGo (t.extract 0 c.cut.toNat) r).length = n + 1 := by rw [List.length_cons, hn]
        rw [hlen, hlen2]
        have e3 : (max 0 (min k (((n + 2 : Nat) : Int) - 1))).toNat = (max 0 (min (k - 1) (((n + 1 : Nat) : Int) - 1))).toNat + 1 := by omega
        rw [e3, List.getElem?_cons_succ]
        rfl
theorem Sim.crashText {X : RefV} {D : DiskV} (h : Sim X D) (fs : List Int) {n : Nat} (hn : n < D.files.length) (hc : ∀ f ∈ D.files, ChgsOk f.base.size f.chgs) : X.crashText fs n = D.crashText fs n := by
  have hf : D.files[n]? = some D.files[n] := List.getElem?_eq_getElem hn
  obtain ⟨f, hfe⟩ : ∃ f, f = D.files[n] := ⟨_, rfl⟩
  have hrow : (X.files[n]?).getD [] = rowOf f := by rw [h.files, List.getElem?_map, hf, ← hfe]; rfl
  have hchg := hc f (by rw [hfe]; exact List.getElem_mem hn)
  unfold RefV.crashText RefV.crashAt DiskV.crashText
  rw [hrow, hf, ← hfe]
  exact (atGo_row f.chgs f.base _ hchg).symm
theorem foldl_other (X : RefV) (fs : List Int) (n : Nat) (l : List Named) : ∀ st : List (List ByteArray) × List Named, (∀ p ∈ l, p.2 ≠ n) → l.foldl (X.crashOne fs n) st = st := by
  induction l with
  | nil => intro st _; rfl
  | cons p r ih =>
    intro st h
    rw [List.foldl_cons, show X.crashOne fs n st p = st from if_neg (h p (by simp))]
    exact ih st (fun q hq => h q (by simp [hq]))
theorem foldl_one (X : RefV) (fs : List Int) (n : Nat) (l : List Named) : ∀ st : List (List ByteArray) × List Named, (l.Pairwise fun p q => p.2 ≠ q.2) →
    (∀ p ∈ l, p.2 ≠ n) ∧ X.crashStep l fs st n = st ∨ ∃ p ∈ l, p.2 = n ∧ X.crashStep l fs st n = (st.1 ++ [[X.crashText fs n]], st.2 ++ [(p.1, st.1.length)]) := by
  induction l with
  | nil => intro st _; exact .inl ⟨fun p hp => absurd hp (by simp), rfl⟩
  | cons p r ih =>
    intro st h
    rw [List.pairwise_cons] at h
    by_cases hp : p.2 = n
    · right
      refine ⟨p, by simp, hp, ?_⟩
      unfold RefV.crashStep
      rw [List.foldl_cons, foldl_other X fs n r _ (fun q hq e => h.1 q hq (hp.trans e.symm))]
      exact if_pos hp
    · have hs : X.crashStep (p :: r) fs st n = X.crashStep r fs st n := by
        unfold RefV.crashStep
        rw [List.foldl_cons, show X.crashOne fs n st p = st from if_neg hp]
      rw [hs]
      rcases ih st h.2 with ⟨h1, h2⟩ | ⟨q, h1, h2, h3⟩
      · left
        refine ⟨fun q hq => ?_, h2⟩
        rcases List.mem_cons.1 hq with rfl | hq
        · exact hp
        · exact h1 q hq
      · exact .inr ⟨q, by simp [h1], h2, h3⟩
/-- The numbers of the files that have names, in rising order. -/
theorem crashIds_range {m : NMap} {N : Nat} (hap : m.Pairwise fun p q => p.2 ≠ q.2) (hlt : ∀ p ∈ m, p.2 < N) : DiskV.crashIds m = (List.range N).filter fun n => decide (n ∈ m.map (·.2)) := by
  have trN : ∀ a b c : Nat, decide (a ≤ b) = true → decide (b ≤ c) = true → decide (a ≤ c) = true := fun a b c h1 h2 => by simp only [decide_eq_true_eq] at *; omega
  have totN : ∀ a b : Nat, (decide (a ≤ b) || decide (b ≤ a)) = true := fun a b => by simp only [Bool.or_eq_true, decide_eq_true_eq]; omega
  refine List.Perm.eq_of_pairwise (le := fun a b => decide (a ≤ b) = true) (fun a b _ _ h1 h2 => ?_) (List.pairwise_mergeSort trN totN _) ?_ ?_
  · simp only [decide_eq_true_eq] at h1 h2; omega
  · refine List.Pairwise.sublist List.filter_sublist (List.pairwise_lt_range.imp (fun h => ?_))
    simp only [decide_eq_true_eq]; omega
  · refine (List.mergeSort_perm _ _).trans ?_
    have hnd : (m.map (·.2)).Nodup := by
      unfold List.Nodup
      rw [List.pairwise_map]
      exact hap
    refine (List.perm_ext_iff_of_nodup hnd (List.nodup_range.filter _)).2 (fun n => ?_)
    rw [List.mem_filter, List.mem_range, decide_eq_true_eq]
    refine ⟨fun h => ⟨?_, h⟩, fun h => h.2⟩
    obtain ⟨p, hp, rfl⟩ := List.mem_map.1 h
    exact hlt p hp
/-- Both disks while they are built anew: alike. -/
structure Built (X : RefV) (fs : List Int) (l : List Named) (n : Nat) (sx : List (List ByteArray) × List Named) (sd : List FileV × NMap) : Prop where
  files : sx.1 = sd.1.map rowOf
  filed : ∀ f ∈ sd.1, FileOk f
  dir : DirOk sx.2 sd.2
  from_ : ∀ q ∈ sx.2, ∃ p ∈ l, p.2 < n ∧ q.1 = p.1
  lt : ∀ p ∈ sd.2, p.2 < sd.1.length
  apart : sd.2.Pairwise fun p q => p.2 ≠ q.2
  cnt : sd.1.length ≤ n
  len : sd.2.length = sd.1.length
  txt : ∀ f ∈ sd.1, ∃ i, f = ⟨X.crashText fs i, X.crashText fs i, []⟩
theorem pairwise_same {α : Type} {R : α → α → Prop} {l : List α} (h : l.Pairwise fun a b => ¬ R a b) (hs : ∀ a b, R a b → R b a) {a b : α} (ha : a ∈ l) (hb : b ∈ l) (hR : R a b) : a = b := by
  induction l with
  | nil => exact absurd ha (by simp)
  | cons x r ih =>
    rw [List.pairwise_cons] at h
    rcases List.mem_cons.1 ha with e1 | ha1
    · rcases List.mem_cons.1 hb with e2 | hb1
      · rw [e1, e2]
      · rw [e1] at hR; exact absurd hR (h.1 b hb1)
    · rcases List.mem_cons.1 hb with e2 | hb1
      · rw [e2] at hR; exact absurd (hs _ _ hR) (h.1 a ha1)
      · exact ih h.2 ha1 hb1
theorem built_fold {X : RefV} {D : DiskV} (h : Sim X D) (fs : List Int) (hc : ∀ f ∈ D.files, ChgsOk f.base.size f.chgs) {l : List Named} {m : NMap} (hd : DirOk l m) (hap : m.Pairwise fun p q => p.2 ≠ q.2) :
    ∀ n, n ≤ D.files.length → Built X fs l n ((List.range n).foldl (X.crashStep l fs) ([], [])) (((List.range n).filter fun n => decide (n ∈ m.map (·.2))).foldl (D.crashStep m fs) ([], [])) := by
  have hlap : l.Pairwise fun p q => p.2 ≠ q.2 := by
    have h1 : (l.map keyed).Pairwise fun p q => p.2 ≠ q.2 := (hd.perm.pairwise_iff (fun {a b} hab e => hab e.symm)).2 hap
    rw [List.pairwise_map] at h1
    exact h1
  intro n
  induction n with
  | zero => intro _; exact ⟨rfl, fun f hf => absurd hf (by simp), ⟨List.Perm.refl _, List.Pairwise.nil, fun p hp => absurd hp (by simp)⟩, fun q hq => absurd hq (by simp), fun p hp => absurd hp (by simp), List.Pairwise.nil, Nat.le_refl 0, rfl, fun f hf => absurd hf (by simp)⟩
  | succ n ih =>
    intro hn
    have hb := ih (by omega)
    rw [List.range_succ, List.filter_append, List.foldl_append, List.foldl_append, List.foldl_cons, List.foldl_nil]
    generalize (List.range n).foldl (X.crashStep l fs) ([], []) = sx at hb ⊢
    generalize ((List.range n).filter fun n => decide (n ∈ m.map (·.2))).foldl (D.crashStep m fs) ([], []) = sd at hb ⊢
    have hmem : n ∈ m.map (·.2) ↔ ∃ p ∈ l, p.2 = n := by
      rw [List.mem_map]
      constructor
      · rintro ⟨q, hq, rfl⟩
        obtain ⟨p, hp, rfl⟩ := List.mem_map.1 (hd.perm.mem_iff.2 hq)
        exact ⟨p, hp, rfl⟩
      · rintro ⟨p, hp, rfl⟩
        exact ⟨keyed p, hd.perm.mem_iff.1 (List.mem_map_of_mem hp), rfl⟩
    rcases foldl_one X fs n l sx hlap with ⟨h1, h2⟩ | ⟨p, h1, h2, h3⟩
    · rw [h2, List.filter_cons_of_neg (by rw [decide_eq_true_eq, hmem]; rintro ⟨p, hp, e⟩; exact h1 p hp e)]
      exact ⟨hb.files, hb.filed, hb.dir, fun q hq => by obtain ⟨p, h4, h5, h6⟩ := hb.from_ q hq; exact ⟨p, h4, by omega, h6⟩, hb.lt, hb.apart, Nat.le_succ_of_le hb.cnt, hb.len, hb.txt⟩
    · rw [h3, List.filter_cons_of_pos (by rw [decide_eq_true_eq, hmem]; exact ⟨p, h1, h2⟩), List.filter_nil, List.foldl_cons, List.foldl_nil]
      have hk : keyed p ∈ m := hd.perm.mem_iff.1 (List.mem_map_of_mem h1)
      have hname : DiskV.nameOf m n = bytesOf p.1 := by
        unfold DiskV.nameOf
        cases hf : m.find? (fun p => decide (p.2 = n)) with
        | none =>
          have := List.find?_eq_none.1 hf _ hk
          exact absurd (show (keyed p).2 = n from h2) (by simpa using this)
        | some q =>
          have hq1 := List.mem_of_find?_eq_some hf
          have hq2 := List.find?_some hf
          simp only [decide_eq_true_eq] at hq2
          have : q = keyed p := pairwise_same (R := fun a b => a.2 = b.2) hap (fun a b h => h.symm) hq1 hk (hq2.trans (show n = (keyed p).2 from h2.symm))
          rw [this]
          rfl
      have hb2 : bytesOf ⟨(DiskV.nameOf m n).toArray⟩ = bytesOf p.1 := by rw [hname]; unfold bytesOf; simp
      have hfresh : ∀ q ∈ sx.2, q.1 ≠ p.1 := fun q hq e => by
        obtain ⟨p2, h4, h5, h6⟩ := hb.from_ q hq
        have : p2 = p := pairwise_same (R := fun a b : Named => a.1 = b.1) hd.apart (fun a b h => h.symm) h4 h1 (h6.symm.trans e)
        rw [this] at h5; omega
      have hfd : ∀ q ∈ sd.2, q.1 ≠ bytesOf p.1 := fun q hq e => by
        obtain ⟨u, hu, rfl⟩ := List.mem_map.1 (hb.dir.perm.mem_iff.2 hq)
        exact hfresh u hu (bytesOf_inj e)
      have hput : sd.2.put (bytesOf ⟨(DiskV.nameOf m n).toArray⟩) sd.1.length = NMap.ins (bytesOf p.1, sd.1.length) sd.2 := by
        rw [hb2]
        unfold NMap.put
        rw [del_all hfd]
      have hlen : sx.1.length = sd.1.length := by rw [hb.files, List.length_map]
      unfold DiskV.crashStep
      rw [hput, hlen, h.crashText fs (by omega) hc]
      refine ⟨?_, fun f hf => ?_, ⟨?_, ?_, fun q hq => ?_⟩, fun q hq => ?_, fun q hq => ?_, ?_, ?_, ?_, fun f hf => ?_⟩
      · show sx.1 ++ _ = (sd.1 ++ _).map rowOf
        rw [List.map_append, hb.files]
        rfl
      · rcases List.mem_append.1 hf with hf | hf
        · exact hb.filed f hf
        · rw [List.mem_singleton.1 hf]; rfl
      · show ((sx.2 ++ [(p.1, sd.1.length)]).map keyed).Perm _
        rw [List.map_append]
        exact ((List.perm_append_singleton (keyed (p.1, sd.1.length)) _).trans (hb.dir.perm.cons _)).trans (ins_perm _ _).symm
      · refine List.pairwise_append.2 ⟨hb.dir.apart, List.pairwise_singleton _ _, fun a ha b hb2 => ?_⟩
        rw [List.mem_singleton.1 hb2]
        exact hfresh a ha
      · rcases List.mem_append.1 hq with hq | hq
        · exact hb.dir.full q hq
        · rw [List.mem_singleton.1 hq]; exact hd.full p h1
      · rcases List.mem_append.1 hq with hq | hq
        · obtain ⟨p2, h4, h5, h6⟩ := hb.from_ q hq
          exact ⟨p2, h4, by omega, h6⟩
        · rw [List.mem_singleton.1 hq]; exact ⟨p, h1, by omega, rfl⟩
      · have hq2 := (ins_perm _ _).mem_iff.1 hq
        show q.2 < (sd.1 ++ [_]).length
        rw [List.length_append, List.length_singleton]
        rcases List.mem_cons.1 hq2 with rfl | hq2
        · show sd.1.length < _; omega
        · have := hb.lt q hq2; omega
      · refine ((ins_perm _ _).pairwise_iff (fun {a b} hab e => hab e.symm)).2 (List.pairwise_cons.2 ⟨fun q hq e => ?_, hb.apart⟩)
        have := hb.lt q hq
        have e : sd.1.length = q.2 := e
        omega
      · show (sd.1 ++ [_]).length ≤ _
        rw [List.length_append, List.length_singleton]
        have := hb.cnt
        omega
      · show (NMap.ins _ _).length = (sd.1 ++ [_]).length
        rw [(ins_perm _ _).length_eq, List.length_cons, List.length_append, List.length_singleton, hb.len]
      · rcases List.mem_append.1 hf with hf | hf
        · exact hb.txt f hf
        · exact ⟨n, (List.mem_singleton.1 hf).trans (by rw [h.crashText fs (by omega) hc])⟩
/-- A power cut keeps both disks alike. -/
theorem Sim.crash {X : RefV} {D : DiskV} (h : Sim X D) (k : Int) (fs : List Int) (hc : ∀ f ∈ D.files, ChgsOk f.base.size f.chgs) (hap : (D.crashNames k).Pairwise fun p q => p.2 ≠ q.2) (hlt : ∀ p ∈ D.crashNames k, p.2 < D.files.length) :
    Sim (X.crash k fs) (D.crash k fs) ∧ (∀ p ∈ (D.crash k fs).names, p.2 < (D.crash k fs).files.length) ∧ ((D.crash k fs).names.Pairwise fun p q => p.2 ≠ q.2) ∧ (∀ p ∈ (D.crash k fs).names, ∃ q ∈ D.crashNames k, p.1 = q.1) ∧ (D.crash k fs).files.length ≤ D.files.length ∧ (D.crash k fs).names.length = (D.crash k fs).files.length ∧ ∀ f ∈ (D.crash k fs).files, ∃ i, f = ⟨X.crashText fs i, X.crashText fs i, []⟩ := by
  have hd := (h.crashDir k).1
  have hlen : X.files.length = D.files.length := by rw [h.files, List.length_map]
  have hb := built_fold h fs hc hd hap D.files.length (Nat.le_refl _)
  unfold RefV.crash DiskV.crash
  dsimp only
  rw [hlen, crashIds_range hap hlt, h.room]
  generalize (List.range D.files.length).foldl (X.crashStep (X.crashDir k) fs) ([], []) = sx at hb ⊢
  generalize ((List.range D.files.length).filter fun n => decide (n ∈ (D.crashNames k).map (·.2))).foldl (D.crashStep (D.crashNames k) fs) ([], []) = sd at hb ⊢
  refine ⟨⟨rfl, rfl, rfl, rfl, Int.le_refl _, hb.files, hb.filed, .cons hb.dir .nil, rfl⟩, hb.lt, hb.apart, fun p hp => ?_, hb.cnt, hb.len, hb.txt⟩
  obtain ⟨u, hu, rfl⟩ := List.mem_map.1 (hb.dir.perm.mem_iff.2 hp)
  obtain ⟨q, h1, _, h2⟩ := hb.from_ u hu
  exact ⟨keyed q, hd.perm.mem_iff.1 (List.mem_map_of_mem h1), by unfold keyed; rw [h2]⟩
end Go.Proofs.YtnppdcegpojmbaaGreatDoor
