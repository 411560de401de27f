/- The reference's disk: the walk of Crash. -/
import Derived.Test.YtnppdcegpojmbaaGreatDoorCrashS
import Derived.Test.YtnppdcegpojmbaaGreatDoorRefD8
import Derived.Deep.RegionHeld3
import Derived.Deep.QuietTactic
import Derived.Deep.CutRange
namespace Go.Proofs.YtnppdcegpojmbaaGreatDoor
open Go Go.RowKit Go.Sort
/-- A block that the disk does not use yet counts as one of its rows of names. -/
theorem RefAt.adopt {w : World} {r : Nat} {X : RefV} {R : RefRep} (h : RefAt w r X R) (k0 : Option Nat) (hk : ∀ k, k0 = some k → R.role k = 0 ∧ k < w.heap.size) : RefAt w r X { R with role := fun b => if k0 = some b then 5 else R.role b } := by
  have hro : ∀ b, R.role b ≠ 0 → (if k0 = some b then 5 else R.role b) = R.role b := fun b hb => if_neg (fun e => hb (hk b e).1)
  exact {
    wf := h.wf
    core := h.core
    frow := h.frow
    drow := h.drow
    files := fun i row hi => by
      obtain ⟨v, h1, h2, h3⟩ := h.files i row hi
      exact ⟨v, h1, h2, fun k hk2 => (hro k (by rw [h3 k hk2]; omega)).trans (h3 k hk2)⟩
    dirs := fun i l hi => by
      obtain ⟨v, h1, h2, h3⟩ := h.dirs i l hi
      exact ⟨v, h1, h2, fun k hk2 => (hro k (by rw [h3 k hk2]; omega)).trans (h3 k hk2)⟩
    rD := (hro r (by rw [h.rD]; omega)).trans h.rD
    rF := fun k hk2 => (hro k (by rw [h.rF k hk2]; omega)).trans (h.rF k hk2)
    rV := fun k hk2 => (hro k (by rw [h.rV k hk2]; omega)).trans (h.rV k hk2)
    old := fun b hb => by
      have hb : (if k0 = some b then 5 else R.role b) ≠ 0 := hb
      split at hb
      · rename_i e; exact (hk b e).2
      · exact h.old b hb }
/-- A disk while it is built anew. -/
def rout (X : RefV) (st : List (List ByteArray) × List Named) : RefV := ⟨max X.room 0, st.1, [[]], 0, 0, -1⟩
structure CrashI (w wr : World) (X : RefV) (r2 : Nat) (rv : Value) (st : List (List ByteArray) × List Named) : Prop where
  disk : ∃ R, RefAt wr r2 (rout X st) R ∧ (∀ b, R.role b ≠ 0 → w.heap.size ≤ b) ∧ ∀ k, rv.ownBlock = some k → R.role k = 0
  row : wr.ownsRow w.heap.size 126 2 rv st.2.length (st.2.flatMap namedCells)
  off : Off None w wr
  lt : ∀ p ∈ st.2, p.2 < st.1.length
  len : st.2.length = st.1.length
theorem CrashI.quiet {w wr wx : World} {X : RefV} {r2 : Nat} {rv : Value} {st : List (List ByteArray) × List Named} (h : CrashI w wr X r2 rv st) (ho : Off None wr wx) : CrashI w wx X r2 rv st := by
  obtain ⟨R, h1, h2, h3⟩ := h.disk
  exact ⟨⟨R, h1.off ho (fun _ _ h => h), h2, h3⟩, ho.row h.row (fun _ _ h => h), h.off.trans ho (fun _ _ h => h), h.lt, h.len⟩
/-- One file more, and its name. -/
theorem CrashI.pushed {w wx W7 w7 w9 : World} {X : RefV} {r2 gn g2 capn cap m1 m2 : Nat} {rv : Value} {st : List (List ByteArray) × List Named} {x t : ByteArray} {R : RefRep}
    (h : CrashI w wx X r2 rv st) (hm1 : m1 = st.1.length) (hm2 : m2 = st.2.length) (hR : RefAt wx r2 (rout X st) R) (hlow : ∀ b, R.role b ≠ 0 → w.heap.size ≤ b) (hfree : ∀ k, rv.ownBlock = some k → R.role k = 0)
    (hrow7 : w7.ownsRow w.heap.size 126 2 (.slice (some ⟨gn, 0, none⟩) (m2 + 1) capn) (m2 + 1) (st.2.flatMap namedCells ++ (#[.string x, .int .i64 m1] : Array Value).toList))
    (hp7 : Pushed wx.drew w7 rv gn)
    (hW : W7 = (w7.drew).alloc (.cells #[.string t] 9))
    (hrow9 : w9.ownsRow 0 22 1 (.slice (some ⟨g2, 0, none⟩) (m1 + 1) cap) (m1 + 1) (R.fs ++ (#[.slice (some ⟨w7.heap.size, 0, none⟩) 1 1] : Array Value).toList)) (hp9 : Pushed W7 w9 R.fv g2) :
    CrashI w (w9.setCell ⟨r2, 1, none⟩ (.slice (some ⟨g2, 0, none⟩) (m1 + 1) cap)) X r2 (.slice (some ⟨gn, 0, none⟩) (m2 + 1) capn) (st.1 ++ [[t]], st.2 ++ [(x, st.1.length)]) := by
  subst hm1
  subst hm2
  have ho7 : Off (fun k => rv.ownBlock = some k) wx w7 := ((Off.refl _ wx).drew).trans hp7.off (fun _ _ h => h)
  have hR7 : RefAt w7 r2 (rout X st) R := hR.off ho7 (fun b hb e => hb (hfree b e))
  have hoW : Off None w7 W7 := by rw [hW]; exact ((Off.refl None w7).drew).alloc _
  have hsz : W7.heap.size = w7.heap.size + 1 := by rw [hW, Heap.alloc_size]; rfl
  have hv : W7.ownsRow w7.heap.size 9 1 (.slice (some ⟨w7.heap.size, 0, none⟩) 1 1) [t].length (textCells [t]) := by
    rw [hW]; exact row_made (cur := #[.string t]) (Heap.alloc_new w7.drew _) (Nat.le_refl _) rfl (by decide)
  have hgn : gn < w7.heap.size := hp7.lt
  have hgn0 : R.role gn = 0 := by
    rcases hp7.from_ with e | e
    · exact hfree gn e
    · rcases Nat.eq_zero_or_pos (R.role gn) with h0 | h0
      · exact h0
      · have h1 := hR.old gn (by omega)
        have h2 : wx.heap.size < gn := e
        omega
  obtain ⟨⟨R9, h9, hF9⟩, ho9⟩ := RefAt.pushedFile (F := fun b => R.role b ≠ 0) (row := [t]) hR7 (fun _ h => h) hoW hrow9 hp9 hv (by simp)
  have hs7 := ho7.size
  have hs9 := ho9.size
  have hwx := h.off.size
  refine ⟨⟨R9, h9, fun b hb => ?_, fun k hk => ?_⟩, ?_, ?_, fun p hp => ?_, ?_⟩
  · rcases hF9 b hb with h1 | h1
    · exact hlow b h1
    · omega
  · cases hk
    rcases Nat.eq_zero_or_pos (R9.role gn) with h0 | h0
    · exact h0
    · rcases hF9 gn (by omega) with h1 | h1
      · exact absurd hgn0 h1
      · omega
  · have h1 := ho9.row hrow7 (fun k hk e => by cases hk; exact e hgn0)
    show World.ownsRow _ _ _ _ _ (st.2 ++ [(x, st.1.length)]).length _
    rw [List.length_append, List.flatMap_append]
    exact h1
  · refine ((h.off.trans ho7 (fun b hb e => ?_)).trans ho9 (fun b hb e => ?_))
    · have := (h.row.lt b e).1
      omega
    · have := hlow b e
      omega
  · show p.2 < (st.1 ++ [[t]]).length
    rw [List.length_append, List.length_singleton]
    rcases List.mem_append.1 hp with hp | hp
    · have := h.lt p hp; omega
    · rw [List.mem_singleton.1 hp]; exact Nat.lt_succ_self _
  · show (st.2 ++ [_]).length = (st.1 ++ [_]).length
    rw [List.length_append, List.length_append, h.len]
    rfl
/-- Its only row of names is set. -/
theorem CrashI.done {w wx w9 : World} {X : RefV} {r2 : Nat} {rv : Value} {st : List (List ByteArray) × List Named} (h : CrashI w wx X r2 rv st) (h9 : w9 = (wx.setCell ⟨r2, 2, none⟩ (.slice (some ⟨wx.heap.size, 0, none⟩) 1 1)).alloc (.cells #[rv] 122) ∨ w9 = (wx.alloc (.cells #[rv] 122)).setCell ⟨r2, 2, none⟩ (.slice (some ⟨wx.heap.size, 0, none⟩) 1 1)) :
    RefIn w9 r2 ⟨max X.room 0, st.1, [st.2], 0, 0, -1⟩ (fun b => w.heap.size ≤ b ∧ b < w9.heap.size) ∧ Off None w w9 := by
  obtain ⟨R, hR, hlow, hfree⟩ := h.disk
  have hrl := Heap.lt hR.core
  have hA := hR.adopt rv.ownBlock (fun k hk => ⟨hfree k hk, (h.row.lt k hk).2⟩)
  have hoff : Off (Only r2) wx w9 := by
    rcases h9 with e | e
    · rw [e]; exact ((Off.refl (Only r2) wx).set 2 _).alloc _
    · rw [e]; exact ((Off.refl (Only r2) wx).alloc _).set 2 _
  have hg9 : w9.heap[wx.heap.size]? = some (.cells #[rv] 122 (0, 0)) := by
    rcases h9 with e | e
    · rw [e]
      have := Heap.alloc_new (wx.setCell ⟨r2, 2, none⟩ (.slice (some ⟨wx.heap.size, 0, none⟩) 1 1)) (.cells #[rv] 122)
      rwa [Heap.set_size] at this
    · rw [e, Heap.set_far (by omega)]
      exact Heap.alloc_new wx _
  have hc9 : w9.heap[r2]? = some (.cells (refCells { rout X st with dirs := [st.2] } { R with dv := .slice (some ⟨wx.heap.size, 0, none⟩) 1 1 }) 112 (0, 0)) := by
    rcases h9 with e | e
    · rw [e]; exact Heap.alloc_old ((Heap.set hR.core 2 _).trans rfl) _
    · rw [e]; exact (Heap.set (Heap.alloc_old hR.core _) 2 _).trans rfl
  have h3 := RefAt.setDirs hA [st.2] [rv] (.slice (some ⟨wx.heap.size, 0, none⟩) 1 1) (hoff.mono (fun b _ e => .inl e)) hc9 (row_made hg9 (Nat.zero_le _) rfl (by decide)) (fun k hk => by cases hk; exact .inr (Nat.le_refl _)) (by simp)
    (fun l hl p hp => by rw [List.mem_singleton.1 hl] at hp; exact h.lt p hp)
    (fun i l hi => by
      cases i with
      | zero =>
        cases hi
        refine ⟨rv, rfl, row_base (hoff.row h.row (fun k hk e => ?_)) (Nat.zero_le _), fun k hk => .inl (if_pos hk)⟩
        have h5 := hfree k hk
        rw [show k = r2 from e, hR.rD] at h5
        omega
      | succ i => cases hi)
  have hwx := h.off.size
  have hg9l := Heap.lt hg9
  have hsz := hoff.size
  refine ⟨⟨_, h3, fun b hb => ?_⟩, h.off.trans hoff (fun b hb e => by have := hlow r2 (by rw [hR.rD]; omega); rw [show b = r2 from e] at hb; omega)⟩
  have hb' : (if b < wx.heap.size then (if rv.ownBlock = some b then 5 else R.role b) else if (Value.slice (some ⟨wx.heap.size, 0, none⟩) 1 1).ownBlock = some b then 4 else if b < w9.heap.size then 5 else 0) ≠ 0 := hb
  split at hb'
  · rename_i hlt
    split at hb'
    · rename_i hk
      exact ⟨(h.row.lt b hk).1, by omega⟩
    · exact ⟨hlow b hb', by omega⟩
  · split at hb'
    · rename_i hk; cases hk; exact ⟨hwx, hg9l⟩
    · split at hb'
      · exact ⟨by omega, by assumption⟩
      · exact absurd rfl hb'
namespace RefW
set_option maxHeartbeats 4000000 in
set_option maxRecDepth 100000 in
theorem crash_any (w : World) (r : Nat) (X : RefV) (R : RefRep) (h : RefAt w r X R) (k : Int) (A : Option Addr) (c : Nat) (fs : List Int)
    (hfs : ∀ i (hi : i < fs.length), ∃ a, A = some a ∧ w.cell? (a.add i) = some (.int .i64 fs[i])) (hfb : ∀ x ∈ fs, -9223372036854775808 ≤ x ∧ x ≤ 9223372036854775807)
    (hff : X.files.length ≤ 1000000) (hdd : X.dirs.length ≤ 1000000000) (hdl : ∀ l ∈ X.dirs, l.length ≤ 1000000) (hrl : ∀ row ∈ X.files, row.length ≤ 1000000000000) :
    Calls Tryz.prog 42 #[.pointer (some ⟨r, 0, none⟩), .int .i64 k, .slice A fs.length c] w fun e w' => ∃ r2, e = .returned (.pointer (some ⟨r2, 0, none⟩)) ∧ RefIn w' r2 (X.crash k fs) (fun b => w.heap.size ≤ b ∧ b < w'.heap.size) ∧ Off None w w' := by
  have HFS := Lib.hid hfs; have HFB := Lib.hid hfb; have HRL := Lib.hid hrl
  clear hfs hfb hrl
  -- the row of names
  have hdp := List.length_pos_iff.2 h.wf.dirs
  obtain ⟨gd, cd, hdv, _, _, _, _, hdc⟩ := own_cell h.drow hdp
  obtain ⟨nd, hnd⟩ : ∃ nd, nd = X.dirs.length := ⟨_, rfl⟩
  rw [← hnd] at hdp hdd
  obtain ⟨j, hj⟩ : ∃ j, j = (max 0 (min k ((nd : Int) - 1))).toNat := ⟨_, rfl⟩
  have hjl : j < X.dirs.length := by omega
  obtain ⟨l, hl⟩ : ∃ l, l = X.dirs[j] := ⟨_, rfl⟩
  have hlm : l ∈ X.dirs := by rw [hl]; exact List.getElem_mem _
  obtain ⟨vl, e1, e2, e3⟩ := h.dirs j l (by rw [hl]; exact List.getElem?_eq_getElem hjl)
  have hcl := (hdc j vl e1).1
  have hcd : X.crashDir k = l := by
    unfold RefV.crashDir
    rw [← hnd, ← hj, List.getElem?_eq_getElem hjl, hl]
    rfl
  obtain ⟨pl, cl, rfl⟩ := own_shape e2
  have hll := hdl l hlm
  have hln : ∀ i (hi : i < l.length), ∃ g, pl = some ⟨g, 0, none⟩ ∧ g < w.heap.size ∧ w.cell? ⟨g, i * 2, none⟩ = some (.string l[i].1) ∧ w.cell? ⟨g, i * 2 + 1, none⟩ = some (.int .i64 l[i].2) := by
    intro i hi
    obtain ⟨g, c', hv, hg, _, _, _, hc⟩ := own_cell e2 (by omega)
    cases hv
    have hn := named_cells l hi
    exact ⟨g, rfl, hg, (hc _ _ hn.1).1, (hc _ _ hn.2).1⟩
  -- the files
  obtain ⟨pf, cf, hfv⟩ := own_shape h.frow
  obtain ⟨nf, hnf⟩ : ∃ nf, nf = X.files.length := ⟨_, rfl⟩
  have hfc : ∀ n (hn : n < X.files.length), ∃ gf gt ct, pf = some ⟨gf, 0, none⟩ ∧ w.cell? ⟨gf, n, none⟩ = some (.slice (some ⟨gt, 0, none⟩) X.files[n].length ct) ∧ 0 < X.files[n].length ∧ X.files[n].length ≤ 1000000000000 ∧ ∀ q t, X.files[n][q]? = some t → w.cell? ⟨gt, q, none⟩ = some (.string t) := by
    intro n hn
    obtain ⟨gf, c1, hv1, _, _, _, _, hc1⟩ := own_cell h.frow (by omega)
    rw [hfv] at hv1
    cases hv1
    obtain ⟨v, f1, f2, f3⟩ := h.files n X.files[n] (List.getElem?_eq_getElem hn)
    have hne := List.length_pos_iff.2 (h.wf.files _ (List.getElem_mem hn))
    obtain ⟨gt, ct, hv2, _, _, _, _, hc2⟩ := own_cell f2 hne
    subst hv2
    refine ⟨gf, gt, ct, rfl, (hc1 n _ f1).1, hne, HRL.out _ (List.getElem_mem hn), fun q t hq => (hc2 q _ ?_).1⟩
    unfold textCells
    rw [List.getElem?_map, hq]
    rfl
  have c0 : w.cell? ⟨r, 0, none⟩ = some (.int .i64 X.room) := Heap.cell h.core 0
  have c1 : w.cell? ⟨r, 1, none⟩ = some R.fv := Heap.cell h.core 1
  have c2 : w.cell? ⟨r, 2, none⟩ = some R.dv := Heap.cell h.core 2
  rw [hfv, ← hnf] at c1
  rw [hdv, ← hnd] at c2
  have hroom := h.wf.room
  have hct : ∀ n (hn : n < X.files.length), X.crashAt fs n = (max 0 (min (fs.getD n 0) (((X.files[n]).length : Int) - 1))).toNat ∧ X.crashAt fs n < X.files[n].length ∧ X.files[n][X.crashAt fs n]? = some (X.crashText fs n) := by
    intro n hn
    have hg : (X.files[n]?).getD [] = X.files[n] := by rw [List.getElem?_eq_getElem hn]; rfl
    have hne := List.length_pos_iff.2 (h.wf.files _ (List.getElem_mem hn))
    have ha : X.crashAt fs n = (max 0 (min (fs.getD n 0) (((X.files[n]).length : Int) - 1))).toNat := by unfold RefV.crashAt; rw [hg]
    have hq : X.crashAt fs n < X.files[n].length := by rw [ha]; omega
    refine ⟨ha, hq, ?_⟩
    unfold RefV.crashText
    rw [hg, List.getElem?_eq_getElem hq]
    rfl
  have hrlt : r < w.heap.size := Heap.lt h.core
  have HLN := Lib.hid hln; have HFC := Lib.hid hfc; have HCT := Lib.hid hct; have HCD := Lib.hid hcd; have HNF := Lib.hid hnf
  have C1 := Lib.hid c1
  have HND := Lib.hid hnd
  clear hln hfc hct hcd e1 e2 e3 hdc hl hlm hdl hdv hfv h
  have hm1 : (0 : Int) ≤ max 0 (min k ((nd : Int) - 1)) := by omega
  have hm2 : max 0 (min k ((nd : Int) - 1)) < (nd : Int) := by omega
  have hwr : IntKind.i64.wrap ((nd : Int) - 1) = (nd : Int) - 1 := IntWalk.i64_in _ (by omega)
  rw [hj] at hcl
  clear hnd hnf hjl
  go_enter Tryz.func42, Tryz.ntmps42
  go_wp2_with fail
  go_quiet (fail)
  obtain ⟨w1, hw1⟩ : ∃ w1, w1 = w.drewN nq := ⟨_, rfl⟩
  have ho1 : Off None w w1 := by rw [hw1]; exact (Off.refl None w).drewN nq
  rw [← hw1]
  have HO1 := Lib.hid ho1
  have c01 := ho1.keep c0 (fun h => h)
  clear hw1 ho1 c2 hcl hm1 hm2 hwr hj c0
  clear c1
  go_wp2_with fail
  refine (new_any w1 X.room hroom.2).mono ?_
  rintro e w2 ⟨r2, rfl, ⟨R2, hR2, hF2⟩, ho2⟩
  have HO2 := Lib.hid (HO1.out.trans ho2 (fun _ _ h => h))
  have hs1 := HO1.out.size
  have hi0 : CrashI w w2 X r2 (.slice none 0 0) ([], []) := ⟨⟨R2, hR2, fun b hb => by have := hF2 b hb; omega, fun k hk => by cases hk⟩, World.ownsRow_nil _ _ _ _, HO2.out, fun p hp => absurd hp (by simp), rfl⟩
  have HI0 := Lib.hid hi0
  clear hi0 ho2 hR2 hF2 HO1 HO2 c01 hs1
  go_wp2_with fail
  go_loopw [9, 10] (fun rv nv wr => ∃ n : Nat, n ≤ nf ∧ nv = .int .i64 n ∧ CrashI w wr X r2 rv ((List.range n).foldl (X.crashStep l fs) ([], [])) ∧ ((List.range n).foldl (X.crashStep l fs) ([], [])).1.length ≤ n * l.length) (fun _ nv _ => nf - (intOf nv).toNat)
  case atStart => exact ⟨0, Nat.zero_le _, rfl, HI0.out, Nat.zero_le _⟩
  case round =>
    obtain ⟨n, hn, rfl, hI, hcnt⟩ := hrel
    obtain ⟨st0, hst0⟩ : ∃ st0, st0 = (List.range n).foldl (X.crashStep l fs) ([], []) := ⟨_, rfl⟩
    rw [← hst0] at hI hcnt
    have HI := Lib.hid hI; have HST0 := Lib.hid hst0
    clear hI hst0
    have d1 := HI.out.off.keep C1.out (fun h => h)
    by_cases hlt : n < nf
    · have i2 : (n : Int) < (nf : Int) := by omega
      have hnx : n < X.files.length := by rw [← HNF.out]; exact hlt
      have hst1 : (List.range (n + 1)).foldl (X.crashStep l fs) ([], []) = l.foldl (X.crashOne fs n) st0 := by
        rw [List.range_succ, List.foldl_append, ← HST0.out]; rfl
      have HST1 := Lib.hid hst1; clear hst1
      go_wp2_with fail
      go_loopw [9, 11] (fun rv iv wr2 => ∃ i : Nat, i ≤ l.length ∧ iv = .int .i64 i ∧ CrashI w wr2 X r2 rv ((l.take i).foldl (X.crashOne fs n) st0) ∧ ((l.take i).foldl (X.crashOne fs n) st0).1.length ≤ n * l.length + i) (fun _ iv _ => l.length - (intOf iv).toNat)
      case atStart => exact ⟨0, Nat.zero_le _, rfl, HI.out, hcnt⟩
      case round =>
        obtain ⟨i, hi, rfl, hI2, hcnt2⟩ := hrel
        obtain ⟨st, hst⟩ : ∃ st, st = (l.take i).foldl (X.crashOne fs n) st0 := ⟨_, rfl⟩
        rw [← hst] at hI2 hcnt2
        have HI2 := Lib.hid hI2; have HST := Lib.hid hst
        clear hI2 hst d1
        by_cases hil : i < l.length
        · have j0 : (0 : Int) ≤ (i : Int) := by omega
          have j1 : (i : Int) < (l.length : Int) := by omega
          have hnext : (l.take (i + 1)).foldl (X.crashOne fs n) st0 = X.crashOne fs n st l[i] := by
            rw [List.take_succ_eq_append_getElem hil, List.foldl_append, ← HST.out]; rfl
          obtain ⟨gn, hpl, hgn, b0, b1⟩ := HLN.out i hil
          subst hpl
          obtain ⟨x, hx⟩ : ∃ x, x = l[i].1 := ⟨_, rfl⟩
          obtain ⟨y, hy⟩ : ∃ y, y = l[i].2 := ⟨_, rfl⟩
          rw [← hx] at b0
          rw [← hy] at b1
          have k0 := HI2.out.off.keep b0 (fun h => h)
          have k1 := HI2.out.off.keep b1 (fun h => h)
          have HNX := Lib.hid hnext; have HX := Lib.hid hx; have HY := Lib.hid hy; have B0 := Lib.hid b0
          clear hnext hx hy b0 b1
          by_cases hyn : y = n
          · have t1 : ((y : Int) != (n : Int)) = false := by rw [bne_eq_false_iff_eq]; omega
            have hone : X.crashOne fs n st l[i] = (st.1 ++ [[X.crashText fs n]], st.2 ++ [(x, st.1.length)]) := by
              unfold RefV.crashOne
              rw [if_pos (by rw [← HY.out]; exact hyn), HX.out]
            obtain ⟨hk1, hk2, hk3⟩ := HCT.out n hnx
            obtain ⟨gf, gt, ct, hpf, f1, fp, fm, f2⟩ := HFC.out n hnx
            subst hpf
            obtain ⟨kk, hkk⟩ : ∃ kk, kk = X.crashAt fs n := ⟨_, rfl⟩
            have f3 := f2 (X.crashAt fs n) _ hk3
            rw [← hkk] at hk1 hk2 f3
            obtain ⟨m, hm⟩ : ∃ m, m = X.files[n].length := ⟨_, rfl⟩
            rw [← hm] at hk1 hk2 f1 fp fm
            obtain ⟨t, ht⟩ : ∃ t, t = X.crashText fs n := ⟨_, rfl⟩
            rw [← ht] at hone f3
            have HONE := Lib.hid hone; have HK1 := Lib.hid hk1; have F1 := Lib.hid f1; have F3 := Lib.hid f3
            clear hone hkk hk1 hk3 f1 f2 f3 hm ht
            have g1 := HI2.out.off.keep C1.out (fun h => h)
            have g2 := HI2.out.off.keep F1.out (fun h => h)
            go_upto_if 58 with fail
            go_cut [12] from 42 to 107 (fun kv wx => kv = .int .i64 kk ∧ Off None wr wx)
            case first =>
              have hwm : IntKind.i64.wrap ((m : Int) - 1) = (m : Int) - 1 := IntWalk.i64_in _ (by omega)
              have n0 : (0 : Int) ≤ (n : Int) := by omega
              by_cases hnl : n < fs.length
              · have n1 : (n : Int) < (fs.length : Int) := by omega
                obtain ⟨a, hA, hca⟩ := HFS.out n hnl
                subst hA
                have hca2 := HI2.out.off.keep hca (fun h => h)
                have hb := HFB.out fs[n] (List.getElem_mem hnl)
                obtain ⟨z, hz⟩ : ∃ z, z = fs[n] := ⟨_, rfl⟩
                have hgz : fs.getD n 0 = z := by rw [List.getD_eq_getElem?_getD, List.getElem?_eq_getElem hnl, hz]; rfl
                rw [← hz] at hca2 hb
                have hkz := HK1.out
                rw [hgz] at hkz
                have hkz2 : max 0 (min z ((m : Int) - 1)) = (kk : Int) := by omega
                clear hca hz hgz hkz
                go_wp2_with fail
                go_quiet (fail)
                go_wp2_with fail
                go_meet
                exact ⟨rfl, (Off.refl None wr).drewN nq⟩
              · have n1 : ¬ (n : Int) < (fs.length : Int) := by omega
                have hkz := HK1.out
                have hgz : fs.getD n 0 = 0 := by rw [List.getD_eq_getElem?_getD, List.getElem?_eq_none (by omega)]; rfl
                rw [hgz] at hkz
                have hkz2 : kk = 0 := by omega
                clear hkz hgz
                subst hkz2
                go_wp2_with fail
                go_meet
                exact ⟨rfl, Off.refl _ _⟩
            case rest =>
              obtain ⟨rfl, hox⟩ := hcut
              have hI3 := HI2.out.quiet hox
              obtain ⟨R3, hR3, hlow3, hfree3⟩ := hI3.disk
              have HI3 := Lib.hid hI3; have HR3 := Lib.hid hR3; have HL3 := Lib.hid hlow3; have HF3 := Lib.hid hfree3
              obtain ⟨po, co, hfo⟩ := own_shape HR3.out.frow
              obtain ⟨m1, hm1⟩ : ∃ m1, m1 = st.1.length := ⟨_, rfl⟩
              obtain ⟨m2, hm2⟩ : ∃ m2, m2 = st.2.length := ⟨_, rfl⟩
              have hfo : R3.fv = .slice po m1 co := by rw [hm1]; exact hfo
              have q1 : wc.cell? ⟨r2, 1, none⟩ = some (.slice po m1 co) := by rw [← hfo]; exact Heap.cell HR3.out.core 1
              have b0 : wc.cell? ⟨gn, i * 2, none⟩ = some (.string x) := HI3.out.off.keep B0.out (fun h => h)
              have hrw : wc.ownsRow w.heap.size 126 2 u9 m2 (st.2.flatMap namedCells) := by rw [hm2]; exact HI3.out.row
              have hfr : wc.ownsRow 0 22 1 (.slice po m1 co) m1 R3.fs := by
                have h1 := HR3.out.frow
                rw [hfo] at h1
                rw [hm1]
                rw [hm1] at h1
                exact h1
              have hmb : m1 ≤ 1099511627776 ∧ m2 ≤ 1099511627776 := by
                have h1 := HI3.out.len
                have h2 : n * l.length ≤ 1000000 * l.length := Nat.mul_le_mul_right _ (by omega)
                have h3 : 1000000 * l.length ≤ 1000000 * 1000000 := Nat.mul_le_mul_left _ hll
                omega
              have hnr : ¬ u9.ownBlock = some r2 := fun e => by have h1 := HF3.out r2 e; rw [HR3.out.rD] at h1; omega
              have hng : ∀ b, b < w.heap.size → ¬ u9.ownBlock = some b := fun b hb e => by have := (HI3.out.row.lt b e).1; omega
              have hrg : r2 < wc.heap.size := Heap.lt HR3.out.core
              have HRW := Lib.hid hrw; have HFR := Lib.hid hfr; have HFO := Lib.hid hfo; have HM1 := Lib.hid hm1; have HM2 := Lib.hid hm2; have HNG := Lib.hid hng
              have hS1 : (wc.drew.alloc (.cells #[.string x, .int .i64 m1] 126)).cell? ⟨r2, 1, none⟩ = some (.slice po m1 co) ∧ (wc.drew.alloc (.cells #[.string x, .int .i64 m1] 126)).cell? ⟨gn, i * 2, none⟩ = some (.string x) :=
                ⟨(((Off.refl None wc).drew).alloc _).keep q1 (fun h => h), (((Off.refl None wc).drew).alloc _).keep b0 (fun h => h)⟩
              clear hI3 hR3 hlow3 hfree3 k0 k1 g1 g2 hfo hm1 hm2 hrw hfr hng hox
              go_wp2_with fail
              go_region_held3 (fun W => W.cell? ⟨r2, 1, none⟩ = some (.slice po m1 co) ∧ W.cell? ⟨gn, i * 2, none⟩ = some (.string x))
                (first | exact ⟨q1, b0⟩ | exact hS1 | exact hS7)
                (first
                  | (refine step_push (W := wc.drew) (by rfl) (.tmp 74) (.tmp 86) (by rfl) elemNamed w.heap.size u9 m2 (st.2.flatMap namedCells) (by simp [Act.eval]) HRW.out #[.string x, .int .i64 m1] (by simp [Act.eval]) rfl ?c1 ?c2 ?c3 ?_
                     case c1 => first | exact ⟨rfl, rfl⟩ | (intro u hu; simp at hu; rcases hu with rfl | rfl <;> rfl)
                     case c2 => exact hmb.2
                     case c3 => exact HI3.out.off.size
                     intro g7 cap7 w7 hrow7 hp7
                     have ho7 : Off (fun k => u9.ownBlock = some k) wc w7 := ((Off.refl _ wc).drew).trans hp7.off (fun _ _ h => h)
                     have hS7 : w7.cell? ⟨r2, 1, none⟩ = some (.slice po m1 co) ∧ w7.cell? ⟨gn, i * 2, none⟩ = some (.string x) := ⟨ho7.keep q1 hnr, ho7.keep b0 (HNG.out gn hgn)⟩)
                  | fail)
              have q17 := hS7.1
              have d17 : w7.cell? ⟨r, 1, none⟩ = some (.slice (some ⟨gf, 0, none⟩) nf cf) := ho7.keep (HI3.out.off.keep C1.out (fun h => h)) (HNG.out r hrlt)
              have f17 : w7.cell? ⟨gf, n, none⟩ = some (.slice (some ⟨gt, 0, none⟩) m ct) := ho7.keep (HI3.out.off.keep F1.out (fun h => h)) (HNG.out gf (Heap.block_lt F1.out))
              have f37 : w7.cell? ⟨gt, kk, none⟩ = some (.string t) := ho7.keep (HI3.out.off.keep F3.out (fun h => h)) (HNG.out gt (Heap.block_lt F3.out))
              have z1 : (w7.alloc (.cells #[.string t] 9)).cell? ⟨r2, 1, none⟩ = some (.slice po m1 co) := ((Off.refl None w7).alloc _).keep q17 (fun h => h)
              have z2 : ((w7.alloc (.cells #[.string t] 9)).alloc (.cells #[.slice (some ⟨w7.heap.size, 0, none⟩) 1 1] 22)).cell? ⟨r2, 1, none⟩ = some (.slice po m1 co) := (((Off.refl None w7).alloc _).alloc _).keep q17 (fun h => h)
              have hf7 : (w7.drew.alloc (.cells #[.string t] 9)).ownsRow 0 22 1 (.slice po m1 co) m1 R3.fs := by
                refine (((Off.refl None w7).drew).alloc _).row (ho7.row HFR.out (fun k hk e => ?_)) (fun _ _ h => h)
                have h1 := HF3.out k e
                have h2 := HR3.out.rF k (by rw [HFO.out]; exact hk)
                omega
              have hr27 := ho7.at_ HR3.out.core hnr
              have hfb : ∀ k, R3.fv.ownBlock = some k → k ≠ r2 := fun k hk e => by have h1 := HR3.out.rF k hk; rw [e, HR3.out.rD] at h1; omega
              have HROW7 := Lib.hid hrow7; have HP7 := Lib.hid hp7; have HF7 := Lib.hid hf7; have HR27 := Lib.hid hr27; have HFB := Lib.hid hfb
              clear hrow7 hp7 hf7 hr27 hfb hS7 hS1 q1 b0 ho7
              have n0 : (0 : Int) ≤ (n : Int) := by omega
              have kk0 : (0 : Int) ≤ (kk : Int) := by omega
              have kk1 : (kk : Int) < (m : Int) := by omega
              go_wp2_with fail
              go_region_law (refine step_push (W := w7.drew.alloc (.cells #[.string t] 9)) (by rfl) (.tmp 92) (.tmp 104) (by rfl) elemRowT 0 (.slice po m1 co) m1 R3.fs (by simp [Act.eval]) HF7.out #[.slice (some ⟨w7.heap.size, 0, none⟩) 1 1] (by first | (simp [Act.eval]; done) | (rw [Heap.alloc_size]; rfl)) rfl (by intro u hu; simp at hu; rcases hu with rfl; rfl) hmb.1 (Nat.zero_le _) ?_
                             intro g9 cap9 w9 hrow9 hp9
                             rw [← HFO.out] at hp9
                             have hc9 := hp9.keep _ _ (Heap.alloc_old HR27.out _) (fun e => HFB.out r2 e rfl)
                             have z9 : w9.cell? ⟨r2, 1, none⟩ = some (.slice po m1 co) := by rw [← HFO.out]; exact Heap.cell hc9 1
                             have zf9 : w9.frozen? ⟨r2, 1, none⟩ = false := Heap.frozen hc9 1
                             have zl9 : r2 < w9.heap.size := Heap.lt hc9)
              all_goals
                have hI9 := CrashI.pushed HI3.out HM1.out HM2.out HR3.out HL3.out HF3.out HROW7.out HP7.out rfl hrow9 hp9
                have HI9 := Lib.hid hI9
                clear hrow9 hp9 hI9
                go_wp2_with fail
                case roundEnd =>
                  refine ⟨⟨i + 1, hil, by push_cast; rfl, by rw [HNX.out, HONE.out]; exact HI9.out, ?_⟩, by simp [intOf]; omega⟩
                  rw [HNX.out, HONE.out]
                  show (st.1 ++ [_]).length ≤ _
                  rw [List.length_append, List.length_singleton]
                  omega
          · have t1 : ((y : Int) != (n : Int)) = true := by rw [bne_iff_ne]; omega
            have hone : X.crashOne fs n st l[i] = st := by
              unfold RefV.crashOne
              rw [if_neg (by rw [← HY.out]; exact hyn)]
            have HONE := Lib.hid hone; clear hone
            go_wp2_with fail
            case roundEnd => exact ⟨⟨i + 1, hil, by push_cast; rfl, by rw [HNX.out, HONE.out]; exact HI2.out, by rw [HNX.out, HONE.out]; omega⟩, by simp [intOf]; omega⟩
        · have hie : i = l.length := by omega
          subst hie
          have j1 : ¬ (l.length : Int) < (l.length : Int) := by omega
          have hfin : st = (List.range (n + 1)).foldl (X.crashStep l fs) ([], []) := by rw [HST1.out, HST.out, List.take_length]
          have HFIN := Lib.hid hfin; clear hfin
          go_wp2_with fail
          case roundEnd => exact ⟨⟨n + 1, hlt, by push_cast; rfl, by rw [← HFIN.out]; exact HI2.out, by rw [← HFIN.out, Nat.succ_mul]; exact hcnt2⟩, by simp [intOf]; omega⟩
    · have hne : n = nf := by omega
      subst hne
      have i2 : ¬ (n : Int) < (n : Int) := by omega
      have hfin : X.crash k fs = ⟨max X.room 0, st0.1, [st0.2], 0, 0, -1⟩ := by
        unfold RefV.crash
        rw [HCD.out, ← HNF.out]
        dsimp only
        rw [← HST0.out]
      have HFIN := Lib.hid hfin; clear hfin
      obtain ⟨pv, cv, rfl⟩ := own_shape HI.out.row
      obtain ⟨R3, hR3, _, _⟩ := HI.out.disk
      have q2 : wr.cell? ⟨r2, 2, none⟩ = some R3.dv := Heap.cell hR3.core 2
      have f2 : wr.frozen? ⟨r2, 2, none⟩ = false := Heap.frozen hR3.core 2
      have hr2 : r2 < wr.heap.size := Heap.lt hR3.core
      clear hR3
      go_wp2
      go_ret
      rw [HFIN.out]
      exact ⟨r2, rfl, (HI.out.done (.inl rfl)).1, (HI.out.done (.inl rfl)).2⟩
end RefW
end Go.Proofs.YtnppdcegpojmbaaGreatDoor
