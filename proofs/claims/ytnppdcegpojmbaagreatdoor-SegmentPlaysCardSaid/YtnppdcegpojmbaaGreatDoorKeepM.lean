/- A file behind so many moments. · A map from whole numbers to texts: plain, and in memory (Crash keeps one). · What is left of a disk when the power goes, plain; a map from files to names. No walk stands here. · A front of frames' bytes is scanned as a front of the frames. No walk stands here. · What a segment's file may be behind a power cut: a front of the bytes of a row that stood there. No walk stands here. -/
import Derived.Test.YtnppdcegpojmbaaGreatDoorSeg5
import Derived.Test.YtnppdcegpojmbaaGreatDoorDisk6
import Derived.Test.YtnppdcegpojmbaaGreatDoorPlain7
namespace Go.Proofs.YtnppdcegpojmbaaGreatDoor
open Go Go.RowKit
def atGo (s : ByteArray) : List Chg → Int → ByteArray
  | [], _ => s
  | c :: r, m => if m ≤ 0 then s else if c.cut ≠ -1 then atGo (s.extract 0 c.cut.toNat) r (m - 1) else atGo (s ++ c.s.extract 0 (min m c.s.size).toNat) r (m - min m c.s.size)
/-- Each cut is within what is there. -/
def ChgsOk : Nat → List Chg → Prop
  | _, [] => True
  | n, c :: r => (c.cut = -1 ∧ ChgsOk (n + c.s.size) r) ∨ (0 ≤ c.cut ∧ c.cut ≤ n ∧ ChgsOk c.cut.toNat r)
def chgSum (l : List Chg) : Nat := (l.map (·.s.size)).sum
theorem chg_cell {w : World} {v : Value} {l : List Chg} (h : w.ownsRow 0 128 2 v l.length (l.flatMap chgCells)) :
    ∃ A c, v = .slice A l.length c ∧ (l.length : Int) ≤ 9223372036854775807 ∧ ∀ k (hk : k < l.length), ∃ g, A = some ⟨g, 0, none⟩ ∧ g < w.heap.size ∧ w.cell? ⟨g, k * 2, none⟩ = some (.string l[k].s) ∧ w.cell? ⟨g, k * 2 + 1, none⟩ = some (.int .i64 l[k].cut) := by
  have hc : ∀ (fs : List Chg) {j i : Nat} (hj : j < fs.length) (_ : i < 2), (fs.flatMap chgCells)[j * 2 + i]? = (chgCells fs[j])[i]? := by
    intro fs
    induction fs with
    | nil => intro j i hj; exact absurd hj (by simp)
    | cons g r ih =>
      intro j i hj hi
      rw [List.flatMap_cons]
      have hl : (chgCells g).length = 2 := rfl
      cases j with
      | zero =>
        rw [List.getElem?_append_left (by omega), Nat.zero_mul, Nat.zero_add]
        rfl
      | succ j =>
        rw [List.getElem?_append_right (by omega), hl, show (j + 1) * 2 + i - 2 = j * 2 + i by omega, ih (by simpa using hj) hi]
        rfl
  obtain ⟨hl, ⟨rfl, h0⟩ | ⟨g, cap, cur, rfl, hg, hb, hle, hmx, hsz, ht⟩⟩ := h
  · exact ⟨none, 0, by rw [h0], by omega, fun k hk => absurd hk (by omega)⟩
  · have hmx2 : cap ≤ 2 ^ 63 - 1 := hmx
    refine ⟨_, _, rfl, by omega, fun k hk => ⟨g, rfl, Heap.lt hb, ?_, ?_⟩⟩
    · rw [Heap.cell hb, ← Array.getElem?_toList, ← List.getElem?_take_of_lt (j := l.length * 2) (by omega), ht]; exact hc l (i := 0) hk (by omega)
    · rw [Heap.cell hb, ← Array.getElem?_toList, ← List.getElem?_take_of_lt (j := l.length * 2) (by omega), ht]; exact hc l (i := 1) hk (by omega)
namespace DiskW
set_option maxHeartbeats 1000000 in
set_option maxRecDepth 100000 in
theorem at_any (w : World) (b : Nat) (cv : Value) (f : FileV) (h : FileAt w b cv f) (m : Int) (hm : -9223372036854775808 ≤ m) (hm2 : m ≤ 9223372036854775807) (hok : ChgsOk f.base.size f.chgs) (hsz : f.base.size + chgSum f.chgs ≤ 4611686018427387904) :
    Calls Tryz.prog 83 #[.pointer (some ⟨b, 0, none⟩), .int .i64 m] w fun e w' => e = .returned (.string (atGo f.base f.chgs m)) ∧ Off None w w' := by
  have b0 : w.cell? ⟨b, 0, none⟩ = some (.string f.base) := Heap.cell h.blk 0
  have b2 : w.cell? ⟨b, 2, none⟩ = some cv := Heap.cell h.blk 2
  obtain ⟨A, c, rfl, hfl, hcell⟩ := chg_cell h.row
  have HC := Lib.hid hcell
  obtain ⟨l, hl⟩ : ∃ l, l = f.chgs := ⟨_, rfl⟩
  rw [← hl] at HC hfl b2 hok hsz ⊢
  clear hcell h
  obtain ⟨s0, hs0⟩ : ∃ s0, s0 = f.base := ⟨_, rfl⟩
  rw [← hs0] at b0 hok hsz ⊢
  clear hs0 hl
  obtain ⟨res, hres⟩ : ∃ res, res = atGo s0 l m := ⟨_, rfl⟩
  rw [← hres]
  have HRES := Lib.hid hres
  have HOK := Lib.hid hok
  have HSZ := Lib.hid hsz
  clear hres hok hsz
  go_enter Tryz.func83, Tryz.ntmps83
  go_wp2_with fail
  go_loopw [1, 5, 18] (fun mv sv i wr => ∃ (k : Nat) (q : Int) (s : ByteArray), k ≤ l.length ∧ mv = .int .i64 q ∧ sv = .string s ∧ i = .int .i64 k ∧ -9223372036854775808 ≤ q ∧ q ≤ 9223372036854775807 ∧ res = atGo s (l.drop k) q ∧ (0 < q → ChgsOk s.size (l.drop k)) ∧ s.size + chgSum (l.drop k) ≤ 4611686018427387904 ∧ Off None w wr) (fun _ _ i _ => l.length - (intOf i).toNat)
  case atStart => exact ⟨0, m, s0, Nat.zero_le _, rfl, rfl, rfl, hm, hm2, HRES.out, fun _ => HOK.out, HSZ.out, Off.refl _ _⟩
  case round =>
    obtain ⟨k, q, s, hk, rfl, rfl, rfl, hq1, hq2, hre, hco, hss, ho⟩ := hrel
    have HRE := Lib.hid hre; clear hre
    have HCO := Lib.hid hco; clear hco
    have HO := Lib.hid ho; clear ho
    by_cases hlt : k < l.length
    · obtain ⟨g, hA, hg, c0, c1⟩ := HC.out k hlt
      subst hA
      have hdr : l.drop k = l[k] :: l.drop (k + 1) := List.drop_eq_getElem_cons hlt
      obtain ⟨x, hx⟩ : ∃ x, x = l[k] := ⟨_, rfl⟩
      rw [← hx] at c0 c1 hdr
      rw [hdr] at hss
      have hss2 : s.size + (x.s.size + chgSum (l.drop (k + 1))) ≤ 4611686018427387904 := hss
      have d0 := HO.out.keep c0 (fun h => h)
      have d1 := HO.out.keep c1 (fun h => h)
      have HDR := Lib.hid hdr
      clear hx hdr hss c0 c1
      obtain ⟨xs, hxs⟩ : ∃ xs, xs = x.s := ⟨_, rfl⟩
      obtain ⟨xc, hxc⟩ : ∃ xc, xc = x.cut := ⟨_, rfl⟩
      rw [← hxs] at d0 hss2
      rw [← hxc] at d1
      have HXS := Lib.hid hxs
      have HXC := Lib.hid hxc
      clear hxs hxc
      have hi0 : (0 : Int) ≤ (k : Int) := by omega
      have hi1 : (k : Int) < (l.length : Int) := by omega
      by_cases hq : q ≤ 0
      · go_wp2_with fail
        go_ret
        refine ⟨?_, HO.out.alloc _⟩
        rw [HRE.out, HDR.out]
        unfold atGo
        rw [if_pos hq]
        rfl
      · have hok := HCO.out (by omega)
        rw [HDR.out] at hok
        unfold ChgsOk at hok
        rw [← HXS.out, ← HXC.out] at hok
        by_cases hc : xc = -1
        · have hre2 : res = atGo (s ++ xs.extract 0 (min q xs.size).toNat) (l.drop (k + 1)) (q - min q xs.size) := by
            rw [HRE.out, HDR.out, atGo, if_neg hq, ← HXC.out, if_neg (by rw [hc]; simp), ← HXS.out]
          have HR2 := Lib.hid hre2
          have hok2 : ChgsOk (s.size + xs.size) (l.drop (k + 1)) := by
            rcases hok with h | h
            · exact h.2
            · omega
          have HK2 := Lib.hid hok2
          clear hre2 hok hok2
          subst hc
          go_wp2_with fail
          case roundEnd =>
            have hmn : (min q (xs.size : Int)).toNat ≤ xs.size := by omega
            have hsz : (s ++ xs.extract 0 (min q (xs.size : Int)).toNat).size = s.size + (min q (xs.size : Int)).toNat := by rw [ByteArray.size_append, ByteArray.size_extract]; omega
            refine ⟨⟨k + 1, q - min q xs.size, _, hlt, rfl, rfl, by push_cast; rfl, by omega, by omega, HR2.out, fun h => ?_, by rw [hsz]; omega, HO.out.alloc _⟩, by simp [intOf]; omega⟩
            rw [hsz, show (min q (xs.size : Int)).toNat = xs.size by omega]
            exact HK2.out
        · have hre2 : res = atGo (s.extract 0 xc.toNat) (l.drop (k + 1)) (q - 1) := by
            rw [HRE.out, HDR.out, atGo, if_neg hq, ← HXC.out, if_pos hc]
          have HR2 := Lib.hid hre2
          have hok2 : 0 ≤ xc ∧ xc ≤ s.size ∧ ChgsOk xc.toNat (l.drop (k + 1)) := by
            rcases hok with h | h
            · exact absurd h.1 hc
            · exact h
          obtain ⟨hc1, hc2, hk2⟩ := hok2
          have HK2 := Lib.hid hk2
          clear hre2 hok hk2
          go_wp2_with fail
          case roundEnd =>
            have hsz : (s.extract 0 xc.toNat).size = xc.toNat := by rw [ByteArray.size_extract]; omega
            refine ⟨⟨k + 1, q - 1, _, hlt, rfl, rfl, by push_cast; rfl, by omega, by omega, HR2.out, fun h => by rw [hsz]; exact HK2.out, by rw [hsz]; omega, HO.out.alloc _⟩, by simp [intOf]; omega⟩
    · have hkl : k = l.length := by omega
      subst hkl
      have hi1 : ¬ (l.length : Int) < (l.length : Int) := by omega
      have hre := HRE.out
      rw [List.drop_length] at hre
      have HR2 := Lib.hid hre; clear hre
      go_wp2_with fail
      go_ret
      exact ⟨by rw [HR2.out]; rfl, HO.out⟩
end DiskW
end Go.Proofs.YtnppdcegpojmbaaGreatDoor
namespace Go.Proofs.YtnppdcegpojmbaaGreatDoor
open Go Go.RowKit Go.Maps Go.WideShapes Go.WideMaps
abbrev IMap := List (Nat × Bytes)
namespace IMap
def lit (p : Nat × Bytes) : Lit × DataW Unit := (.int .i64 p.1, .lit (.string p.2))
def toD (m : IMap) : DataW Unit := .map (m.map lit)
def ins (x : Nat × Bytes) : IMap → IMap
  | [] => [x]
  | y :: r => if (Lit.int .i64 x.1).before (.int .i64 y.1) then x :: y :: r else y :: ins x r
def del (m : IMap) (k : Nat) : IMap := m.filter fun p => decide (p.1 ≠ k)
def put (m : IMap) (k : Nat) (v : Bytes) : IMap := ins (k, v) (m.del k)
def get (m : IMap) (k : Nat) : Option Bytes := (m.find? fun p => decide (p.1 = k)).map (·.2)
theorem sameKey_int (a b : Nat) : (Lit.int .i64 (a : Int)).sameKey (.int .i64 (b : Int)) = decide (a = b) := by
  by_cases h : a = b
  · subst h; simp [Lit.sameKey]
  · rw [Maps.sameKey_ne (fun e => h (by injection e with _ e; omega))]; simp [h]
theorem toD_ins (x : Nat × Bytes) (m : IMap) : DataW.insert (H := Unit) (lit x) (m.map lit) = (ins x m).map lit := by
  induction m with
  | nil => rfl
  | cons y r ih =>
    simp only [List.map_cons, lit, DataW.insert, ins]
    split
    · simp [lit]
    · rw [List.map_cons]
      have := ih
      simp only [lit] at this ⊢
      rw [this]
theorem toD_del (m : IMap) (k : Nat) : m.toD.del (.int .i64 k) = (m.del k).toD := by
  show DataW.map _ = DataW.map _
  congr 1
  rw [del, List.filter_map]
  congr 1
  refine List.filter_congr fun p _ => ?_
  simp [lit, sameKey_int]
theorem toD_put (m : IMap) (k : Nat) (v : Bytes) : m.toD.put (.int .i64 k) (.lit (.string v)) = (m.put k v).toD := by
  have h := toD_del m k
  simp only [DataW.del, toD, DataW.map.injEq] at h
  show DataW.map (DataW.insert _ _) = DataW.map _
  rw [h]
  exact congrArg DataW.map (toD_ins (k, v) (m.del k))
theorem has_toD (m : IMap) (k : Nat) : Maps.has m.toD (.int .i64 k) = (m.get k).isSome := by
  show List.any _ _ = _
  rw [List.any_map, get, Option.isSome_map, Bool.eq_iff_iff, List.find?_isSome, List.any_eq_true]
  simp [lit, sameKey_int]
theorem atKey_toD (m : IMap) (k : Nat) (z : DataW Unit) : m.toD.atKey (.int .i64 k) z = match m.get k with | some v => .lit (.string v) | none => z := by
  have e : (m.map lit).find? (fun p => p.1.sameKey (.int .i64 k)) = (m.find? fun p => decide (p.1 = k)).map lit := by
    rw [List.find?_map]
    congr 2
    funext p
    simp [lit, sameKey_int]
  simp only [DataW.atKey, toD]
  rw [e, get]
  cases m.find? fun p => decide (p.1 = k) <;> rfl
theorem size_toD (m : IMap) : Maps.size m.toD = m.length := by simp [toD, Maps.size]
theorem mem_ins (x y : Nat × Bytes) (m : IMap) : y ∈ ins x m ↔ y = x ∨ y ∈ m := by
  induction m with
  | nil => simp [ins]
  | cons z r ih =>
    unfold ins
    split
    · simp
    · rw [List.mem_cons, ih, List.mem_cons]
      constructor
      · rintro (h | h | h)
        · exact .inr (.inl h)
        · exact .inl h
        · exact .inr (.inr h)
      · rintro (h | h | h)
        · exact .inr (.inl h)
        · exact .inl h
        · exact .inr (.inr h)
theorem ins_perm (x : Nat × Bytes) (m : IMap) : (ins x m).Perm (x :: m) := by
  induction m with
  | nil => exact List.Perm.refl _
  | cons y r ih =>
    unfold ins
    split
    · exact List.Perm.refl _
    · exact (ih.cons y).trans (List.Perm.swap x y r)
end IMap
abbrev IMapAt (w : World) (b : Nat) (m : IMap) : Prop := w.ownsMap (H := Unit) Tryz.prog 3 (Go.plainElem Tryz.prog 9) b m.length m.toD
theorem keyedI : Keyed Tryz.prog 3 := int_keyed Tryz.underlying3
theorem wf_nat {k : Nat} (hk : k ≤ 9223372036854775807) : (Lit.int .i64 (k : Int)).wf = true := by simp [Lit.wf, IntKind.min, IntKind.max, IntKind.bits, IntKind.signed]; omega
theorem key_int {k : Nat} (hk : k ≤ 9223372036854775807) : keyOf Tryz.prog 3 (.int .i64 k) = some (.int .i64 k) := keyOf_int_mk Tryz.underlying3 (wf_nat hk)
theorem imap_tight {w : World} {b n : Nat} {m : IMap} (h : w.ownsMap (H := Unit) Tryz.prog 3 (Go.plainElem Tryz.prog 9) b n m.toD) : IMapAt w b m := by
  obtain ⟨es, clock, hb, F, hs, e⟩ := h
  refine ⟨es, clock, hb, F, ?_, e⟩
  have := congrArg (Maps.size (H := Unit)) e
  rw [IMap.size_toD] at this
  simp only [Maps.size, length_read] at this
  omega
theorem imap_put {w : World} {b : Nat} {m : IMap} (h : IMapAt w b m) (k : Nat) (hk : k ≤ 9223372036854775807) (s : ByteArray) (hs : s.size ≤ maxLen) (hm : m.length < maxLen) :
    ∃ w', (Instr.mapUpdate 139 (.map (some b)) (.int .i64 k) (.string s)).run Tryz.prog w = .ok () w' ∧ IMapAt w' b (m.put k (bytesOf s)) ∧ w.mapTurned w' b := by
  obtain ⟨w', hrun, hown, ht⟩ := h.store keyedI Tryz.underlying139 hm (key_int hk) (Go.plainElem_string Tryz.underlying9 hs)
  have e := IMap.toD_put m k (bytesOf s)
  have e2 : m.toD.put (.int .i64 k) (.lit (.string s.data.toList)) = (m.put k (bytesOf s)).toD := e
  rw [e2] at hown
  exact ⟨w', hrun, imap_tight hown, ht⟩
theorem imap_look {w : World} {b : Nat} {m : IMap} (h : IMapAt w b m) (k : Nat) (hk : k ≤ 9223372036854775807) (s : Bytes) (hg : m.get k = some s) :
    (Instr.lookup 139 (.map (some b)) (.int .i64 k) false).run Tryz.prog w = .ok (.string ⟨s.toArray⟩) w := by
  have hz : (zeroValue 9).run Tryz.prog w = .ok (.string ⟨#[]⟩) w := by kernel_rfl
  obtain ⟨v, ps, hrun, hv⟩ := h.lookup keyedI Tryz.underlying139 hz (Go.plainElem_string Tryz.underlying9 (by decide)) (key_int hk)
  rw [IMap.atKey_toD, hg] at hv
  obtain ⟨a, rfl, ha, _⟩ := Go.plainElem_string_inv Tryz.underlying9 hv
  rw [hrun]
  have e : s = a.data.toList := by
    have := congrArg Prod.fst ha
    simpa using this
  rw [e]
end Go.Proofs.YtnppdcegpojmbaaGreatDoor
namespace Go.Proofs.YtnppdcegpojmbaaGreatDoor
open Go
namespace DiskV
/-- The names behind the first k moves. -/
def crashNames (D : DiskV) (k : Int) : NMap := (D.moves.take (max 0 (min k D.moves.length)).toNat).foldl (fun m mv => done mv m) D.base
def nameOf (m : NMap) (i : Nat) : Bytes := ((m.find? fun p => decide (p.2 = i)).map (·.1)).getD []
def crashIds (m : NMap) : List Nat := (m.map (·.2)).mergeSort (fun a b => decide (a ≤ b))
def crashText (D : DiskV) (fs : List Int) (i : Nat) : ByteArray := match D.files[i]? with | some f => atGo f.base f.chgs (fs.getD i 0) | none => ByteArray.empty
def crashStep (D : DiskV) (m : NMap) (fs : List Int) (st : List FileV × NMap) (i : Nat) : List FileV × NMap :=
  (st.1 ++ [⟨D.crashText fs i, D.crashText fs i, []⟩], st.2.put (bytesOf ⟨(nameOf m i).toArray⟩) st.1.length)
def crash (D : DiskV) (k : Int) (fs : List Int) : DiskV :=
  let st := (crashIds (D.crashNames k)).foldl (crashStep D (D.crashNames k) fs) ([], [])
  ⟨max D.room 0, st.1, st.2, st.2, [], 0, 0, -1⟩
end DiskV
namespace IMap
theorem get_ins (x : Nat × Bytes) (m : IMap) (hx : ∀ p ∈ m, p.1 ≠ x.1) (j : Nat) : (ins x m).get j = if j = x.1 then some x.2 else m.get j := by
  induction m with
  | nil =>
    unfold ins get
    rw [List.find?_cons]
    by_cases h : x.1 = j
    · rw [if_pos h.symm]; simp [h]
    · rw [if_neg (Ne.symm h)]; simp [h]
  | cons y r ih =>
    have hy := hx y (by simp)
    have hr := ih (fun p hp => hx p (by simp [hp]))
    unfold ins
    split
    · unfold get
      rw [List.find?_cons]
      by_cases h : x.1 = j
      · rw [if_pos h.symm]; simp [h]
      · rw [if_neg (Ne.symm h)]; simp [h]
    · unfold get at hr ⊢
      rw [List.find?_cons, List.find?_cons]
      by_cases h : y.1 = j
      · rw [if_neg (by rw [← h]; exact hy)]; simp [h]
      · simp only [h, decide_false]
        exact hr
theorem get_del (m : IMap) (k j : Nat) : (m.del k).get j = if j = k then none else m.get j := by
  induction m with
  | nil => unfold del get; simp
  | cons y r ih =>
    unfold del at ih ⊢
    rw [List.filter_cons]
    by_cases h : y.1 = k
    · rw [if_neg (by simpa using h), ih]
      by_cases hj : j = k
      · rw [if_pos hj, if_pos hj]
      · rw [if_neg hj, if_neg hj]
        unfold get
        rw [List.find?_cons]
        have : ¬ y.1 = j := fun e => hj (by rw [← e, h])
        simp [this]
    · rw [if_pos (by simpa using h)]
      unfold get at ih ⊢
      rw [List.find?_cons, List.find?_cons]
      by_cases hj : y.1 = j
      · rw [if_neg (by rw [← hj]; exact h)]; simp [hj]
      · simp only [hj, decide_false]
        exact ih
theorem get_put (m : IMap) (k : Nat) (v : Bytes) (j : Nat) : (m.put k v).get j = if j = k then some v else m.get j := by
  unfold put
  rw [get_ins (k, v) (m.del k) (fun p hp => by
    unfold del at hp
    simpa using (List.mem_filter.1 hp).2), get_del]
  by_cases h : j = k
  · rw [if_pos h, if_pos h]
  · rw [if_neg h, if_neg h, if_neg h]
/-- What the range over names has laid: each name gone over stands at its file. -/
def Laid (m : NMap) (left : Bytes → Bool) (im : IMap) : Prop := ∀ i s, im.get i = some s ↔ ((s, i) ∈ m ∧ left s = false)
theorem Laid.step {m : NMap} {left left' : Bytes → Bool} {im : IMap} (h : Laid m left im) {x : Bytes} {i : Nat} (hx : (x, i) ∈ m) (hk : ∀ p ∈ m, p.1 = x → p.2 = i) (hi : ∀ p ∈ m, p.2 = i → p.1 = x)
    (hl' : ∀ s, left' s = (left s && decide (s ≠ x))) : Laid m left' (im.put i x) := by
  intro j s
  rw [get_put]
  by_cases hj : j = i
  · subst hj
    rw [if_pos rfl]
    constructor
    · intro e
      cases e
      exact ⟨hx, by rw [hl']; simp⟩
    · rintro ⟨h1, _⟩
      exact congrArg some (hi (s, j) h1 rfl).symm
  · rw [if_neg hj, h j s]
    constructor
    · rintro ⟨h1, h2⟩
      exact ⟨h1, by rw [hl', h2]; rfl⟩
    · rintro ⟨h1, h2⟩
      refine ⟨h1, ?_⟩
      rw [hl'] at h2
      by_cases hs : s = x
      · exact absurd (hk (s, j) h1 hs) hj
      · simpa [hs] using h2
end IMap
end Go.Proofs.YtnppdcegpojmbaaGreatDoor
namespace Go.Proofs.YtnppdcegpojmbaaGreatDoor
namespace Num
theorem take_short (n : Nat) : ∀ (j i a : Nat), j < (putL n).length → takeL i a ((putL n).take j) = none := by
  induction n using Nat.strongRecOn with
  | ind n ih =>
    intro j i a hj
    cases j with
    | zero => rw [List.take_zero, takeL]
    | succ j =>
      by_cases h : n < 128
      · rw [putL_small h] at hj
        exact absurd hj (by simp)
      · rw [putL_more h, List.length_cons] at hj
        rw [putL_more h, List.take_succ_cons, takeL]
        have hc : (UInt8.ofNat (n % 128 + 128)).toNat = n % 128 + 128 := by rw [UInt8.toNat_ofNat']; omega
        split
        · rfl
        · rw [hc, if_neg (by omega)]
          exact ih (n / 128) (by omega) j _ _ (by omega)
end Num
namespace Frame
theorem first_short (q : Nat) (b : List UInt8) (hb : b.length ≤ MaxBody) (hq : q < 18446744073709551616) {n : Nat} (hn : n < (putF q b).length) : firstL ((putF q b).take n) = none := by
  have e1 : putF q b = Num.putL b.length ++ (Num.putL q ++ (sumL q b ++ b)) := by simp [putF, List.append_assoc]
  have hb64 : b.length < 18446744073709551616 := by unfold MaxBody at hb; omega
  rw [e1] at hn ⊢
  rw [List.length_append, List.length_append, List.length_append, sumL_length] at hn
  unfold firstL
  rw [List.take_append]
  by_cases h1 : n < (Num.putL b.length).length
  · rw [show n - (Num.putL b.length).length = 0 by omega, List.take_zero, List.append_nil, Num.take_short _ _ _ _ h1]
  · rw [List.take_of_length_le (by omega : (Num.putL b.length).length ≤ n), Num.take_put _ _ hb64]
    dsimp only
    rw [if_neg (by omega), List.take_append]
    by_cases h2 : n - (Num.putL b.length).length < (Num.putL q).length
    · rw [show n - (Num.putL b.length).length - (Num.putL q).length = 0 by omega, List.take_zero, List.append_nil, Num.take_short _ _ _ _ h2]
    · rw [List.take_of_length_le (by omega : (Num.putL q).length ≤ n - (Num.putL b.length).length), Num.take_put _ _ hq]
      dsimp only
      rw [if_pos]
      rw [List.length_take, List.length_append, sumL_length]
      omega
end Frame
/-- A front of the bytes of some frames: the frames that are there whole. -/
theorem scan_cut (bs : List (List UInt8)) (hb : ∀ b ∈ bs, b.length ≤ 2000) : ∀ (f n : Nat), f + bs.length ≤ 18446744073709551616 → n ≤ (framesL f bs).length →
    ∃ j, j ≤ bs.length ∧ (framesL f (bs.take j)).length ≤ n ∧ (j < bs.length → n < (framesL f (bs.take (j + 1))).length) ∧ Frame.scanL ((framesL f bs).take n) = Frame.scanL (framesL f (bs.take j)) := by
  induction bs with
  | nil =>
    intro f n _ _
    exact ⟨0, Nat.le_refl _, Nat.zero_le _, fun h => absurd h (by simp), by rw [framesL, List.take_nil]; rfl⟩
  | cons b r ih =>
    intro f n hf hn
    rw [List.length_cons] at hf
    have hb0 := hb b (by simp)
    rw [framesL] at hn ⊢
    rw [List.length_append] at hn
    by_cases h : n < (Frame.putF f b).length
    · refine ⟨0, Nat.zero_le _, by rw [List.take_zero, framesL]; exact Nat.zero_le _, fun _ => ?_, ?_⟩
      · rw [List.take_succ_cons, List.take_zero, framesL, framesL, List.append_nil]; exact h
      · rw [List.take_append, show n - (Frame.putF f b).length = 0 by omega, List.take_zero, List.append_nil, Frame.scanL_none (Frame.first_short f b hb0 (by omega) h), List.take_zero, framesL, Frame.scanL_none firstL_nil]
    · obtain ⟨j, j1, j2, j3, j4⟩ := ih (fun x hx => hb x (by simp [hx])) (f + 1) (n - (Frame.putF f b).length) (by omega) (by omega)
      refine ⟨j + 1, by rw [List.length_cons]; omega, ?_, fun hj => ?_, ?_⟩
      · rw [List.take_succ_cons, framesL, List.length_append]; omega
      · have := j3 (by rw [List.length_cons] at hj; omega)
        rw [List.take_succ_cons, framesL, List.length_append]; omega
      · have e1 := Frame.first_put f b ((framesL (f + 1) r).take (n - (Frame.putF f b).length)) hb0 (by omega)
        have e2 := Frame.first_put f b (framesL (f + 1) (r.take j)) hb0 (by omega)
        rw [List.take_append, List.take_of_length_le (by omega : (Frame.putF f b).length ≤ n), Frame.scanL_some e1, List.take_succ_cons, framesL, Frame.scanL_some e2]
        have d1 : (Frame.putF f b ++ (framesL (f + 1) r).take (n - (Frame.putF f b).length)).drop (Frame.putF f b).length = (framesL (f + 1) r).take (n - (Frame.putF f b).length) := List.drop_left
        have d2 : (Frame.putF f b ++ framesL (f + 1) (r.take j)).drop (Frame.putF f b).length = framesL (f + 1) (r.take j) := List.drop_left
        rw [d1, d2, j4]
end Go.Proofs.YtnppdcegpojmbaaGreatDoor
namespace Go.Proofs.YtnppdcegpojmbaaGreatDoor
/-- What is done to the active segment since it was durable: a body more, or all since taken away. -/
inductive Ev where
  | app (b : List UInt8)
  | cut
def chgsOf (f : Nat) (bs0 : List (List UInt8)) : List (List UInt8) → List Ev → List Chg
  | _, [] => []
  | es, .app b :: r => ⟨⟨(Frame.putF (f + (bs0 ++ es).length) b).toArray⟩, -1⟩ :: chgsOf f bs0 (es ++ [b]) r
  | _, .cut :: r => ⟨ByteArray.empty, ((framesL f bs0).length : Nat)⟩ :: chgsOf f bs0 [] r
/-- All rows that stood there. -/
def rowsOf : List (List UInt8) → List Ev → List (List (List UInt8))
  | es, [] => [es]
  | es, .app b :: r => es :: rowsOf (es ++ [b]) r
  | es, .cut :: r => es :: rowsOf [] r
theorem rowsOf_head (es : List (List UInt8)) (evs : List Ev) : es ∈ rowsOf es evs := by
  cases evs with
  | nil => exact List.mem_singleton.2 rfl
  | cons e r => cases e <;> exact List.mem_cons_self
theorem framesL_append (a b : List (List UInt8)) : ∀ f, framesL f (a ++ b) = framesL f a ++ framesL (f + a.length) b := by
  induction a with
  | nil => intro f; rfl
  | cons x r ih =>
    intro f
    rw [List.cons_append, framesL, framesL, ih, List.append_assoc, List.length_cons, show f + 1 + r.length = f + (r.length + 1) by omega]
theorem atGo_stop (s : ByteArray) (l : List Chg) : atGo s l 0 = s := by
  cases l with
  | nil => rfl
  | cons c r => unfold atGo; rw [if_pos (Int.le_refl _)]
theorem at_rows (f : Nat) (bs0 : List (List UInt8)) (evs : List Ev) : ∀ (es : List (List UInt8)) (m : Int) (s : ByteArray), s.data.toList = framesL f (bs0 ++ es) →
    ∃ row, row ∈ rowsOf es evs ∧ ∃ n, (framesL f bs0).length ≤ n ∧ n ≤ (framesL f (bs0 ++ row)).length ∧ (atGo s (chgsOf f bs0 es evs) m).data.toList = (framesL f (bs0 ++ row)).take n := by
  induction evs with
  | nil =>
    intro es m s hs
    refine ⟨es, rowsOf_head _ _, (framesL f (bs0 ++ es)).length, ?_, Nat.le_refl _, ?_⟩
    · rw [framesL_append, List.length_append]; omega
    · rw [List.take_length]; exact hs
  | cons e r ih =>
    intro es m s hs
    have hlen : (framesL f bs0).length ≤ (framesL f (bs0 ++ es)).length := by rw [framesL_append, List.length_append]; omega
    have hsz : s.size = (framesL f (bs0 ++ es)).length := by rw [← hs]; simp
    by_cases hm : m ≤ 0
    · refine ⟨es, rowsOf_head _ _, (framesL f (bs0 ++ es)).length, hlen, Nat.le_refl _, ?_⟩
      rw [List.take_length, ← hs]
      cases e <;> (unfold chgsOf atGo; rw [if_pos hm])
    · cases e with
      | app b =>
        obtain ⟨fr, hfr⟩ : ∃ fr : ByteArray, fr = ⟨(Frame.putF (f + (bs0 ++ es).length) b).toArray⟩ := ⟨_, rfl⟩
        have hfl : fr.data.toList = Frame.putF (f + (bs0 ++ es).length) b := by rw [hfr]
        have hfs : fr.size = (Frame.putF (f + (bs0 ++ es).length) b).length := by rw [← hfl]; simp
        have hnew : framesL f (bs0 ++ (es ++ [b])) = framesL f (bs0 ++ es) ++ Frame.putF (f + (bs0 ++ es).length) b := by
          rw [← List.append_assoc]; exact framesL_snoc (bs0 ++ es) b f
        have hstep : atGo s (chgsOf f bs0 es (.app b :: r)) m = atGo (s ++ fr.extract 0 (min m fr.size).toNat) (chgsOf f bs0 (es ++ [b]) r) (m - min m fr.size) := by
          rw [chgsOf, atGo, if_neg hm, if_neg (by simp), ← hfr]
        rw [hstep]
        have hdata : (s ++ fr.extract 0 (min m fr.size).toNat).data.toList = framesL f (bs0 ++ es) ++ (Frame.putF (f + (bs0 ++ es).length) b).take (min m fr.size).toNat := by
          rw [← hs, ← hfl]
          simp
        by_cases hk : (fr.size : Int) ≤ m
        · have e1 : (min m (fr.size : Int)).toNat = (Frame.putF (f + (bs0 ++ es).length) b).length := by rw [← hfs]; omega
          rw [e1, List.take_length, ← hnew] at hdata
          obtain ⟨row, h1, n, h2, h3, h4⟩ := ih (es ++ [b]) (m - min m fr.size) (s ++ fr.extract 0 (min m (fr.size : Int)).toNat) (by rw [e1]; exact hdata)
          exact ⟨row, List.mem_cons_of_mem _ h1, n, h2, h3, h4⟩
        · have e2 : m - min m (fr.size : Int) = 0 := by omega
          rw [e2, atGo_stop]
          refine ⟨es ++ [b], List.mem_cons_of_mem _ (rowsOf_head _ _), (framesL f (bs0 ++ es)).length + (min m (fr.size : Int)).toNat, by omega, ?_, ?_⟩
          · rw [hnew, List.length_append, ← hfs]; omega
          · rw [hdata, hnew, List.take_append, List.take_of_length_le (l := framesL f (bs0 ++ es)) (by omega), Nat.add_sub_cancel_left]
      | cut =>
        have hstep : atGo s (chgsOf f bs0 es (.cut :: r)) m = atGo (s.extract 0 ((framesL f bs0).length : Int).toNat) (chgsOf f bs0 [] r) (m - 1) := by
          rw [chgsOf, atGo, if_neg hm, if_pos (by show ((framesL f bs0).length : Int) ≠ -1; omega)]
        rw [hstep]
        obtain ⟨row, h1, n, h2, h3, h4⟩ := ih [] (m - 1) (s.extract 0 ((framesL f bs0).length : Int).toNat) (by
          rw [ByteArray.data_extract, Array.toList_extract, List.extract_eq_take_drop, List.append_nil, hs, framesL_append]
          show ((framesL f bs0 ++ _).take (((framesL f bs0).length : Int).toNat - 0)) = _
          rw [Int.toNat_natCast, Nat.sub_zero, List.take_left])
        exact ⟨row, List.mem_cons_of_mem _ h1, n, h2, h3, h4⟩
/-- The frames that are scanned of it: all that were durable, and a front of the others of a row that stood. -/
theorem keep_scan (f : Nat) (bs0 : List (List UInt8)) (row : List (List UInt8)) (hb : ∀ b ∈ bs0 ++ row, b.length ≤ 2000) (hf : f + (bs0 ++ row).length ≤ 18446744073709551616) (n : Nat) (h1 : (framesL f bs0).length ≤ n) (h2 : n ≤ (framesL f (bs0 ++ row)).length) :
    ∃ j, j ≤ row.length ∧ Frame.scanL ((framesL f (bs0 ++ row)).take n) = Frame.scanL (framesL f (bs0 ++ row.take j)) := by
  obtain ⟨j, j1, j2, j3, j4⟩ := scan_cut (bs0 ++ row) hb f n hf h2
  rw [List.length_append] at j1 j3
  have hj : bs0.length ≤ j := by
    rcases Nat.lt_or_ge j bs0.length with h | h
    · exfalso
      have h3 := j3 (by omega)
      have h4 : (bs0 ++ row).take (j + 1) = bs0.take (j + 1) := List.take_append_of_le_length (by omega)
      rw [h4] at h3
      have h5 : (framesL f bs0).length = (framesL f (bs0.take (j + 1))).length + (framesL (f + (bs0.take (j + 1)).length) (bs0.drop (j + 1))).length := by
        rw [← List.length_append, ← framesL_append, List.take_append_drop]
      omega
    · exact h
  refine ⟨j - bs0.length, by omega, ?_⟩
  rw [j4, List.take_append, List.take_of_length_le hj]
end Go.Proofs.YtnppdcegpojmbaaGreatDoor
