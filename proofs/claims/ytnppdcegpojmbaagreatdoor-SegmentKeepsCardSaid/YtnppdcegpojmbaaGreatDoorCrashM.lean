/- A file behind so many moments. · A map from whole numbers to texts: plain, and in memory (Crash keeps one). · What is left of a disk when the power goes, plain; a map from files to names. No walk stands here. -/
import Derived.Test.YtnppdcegpojmbaaGreatDoorSeg2
import Derived.Test.YtnppdcegpojmbaaGreatDoorDisk2
namespace Go.Proofs.YtnppdcegpojmbaaGreatDoor
open Go Go.RowKit
def atGo (s : ByteArray) : List Chg → Int → ByteArray
  | [], _ => s
  | c :: r, m => if m ≤ 0 then s else if c.cut ≠ -1 then atGo (s.extract 0 c.cut.toNat) r (m - 1) else atGo (s ++ c.s.extract 0 (min m c.s.size).toNat) r (m - min m c.s.size)
/-- Each cut is within what is there. -/
def ChgsOk : Nat → List Chg → Prop
  | _, [] => True
  | n, c :: r => (c.cut = -1 ∧ ChgsOk (n + c.s.size) r) ∨ (0 ≤ c.cut ∧ c.cut ≤ n ∧ ChgsOk c.cut.toNat r)
def chgSum (l : List Chg) : Nat := (l.map (·.s.size)).sum
theorem chg_cell {w : World} {v : Value} {l : List Chg} (h : w.ownsRow 0 128 2 v l.length (l.flatMap chgCells)) :
    ∃ A c, v = .slice A l.length c ∧ (l.length : Int) ≤ 9223372036854775807 ∧ ∀ k (hk : k < l.length), ∃ g, A = some ⟨g, 0, none⟩ ∧ g < w.heap.size ∧ w.cell? ⟨g, k * 2, none⟩ = some (.string l[k].s) ∧ w.cell? ⟨g, k * 2 + 1, none⟩ = some (.int .i64 l[k].cut) := by
  have hc : ∀ (fs : List Chg) {j i : Nat} (hj : j < fs.length) (_ : i < 2), (fs.flatMap chgCells)[j * 2 + i]? = (chgCells fs[j])[i]? := by
    intro fs
    induction fs with
    | nil => intro j i hj; exact absurd hj (by simp)
    | cons g r ih =>
      intro j i hj hi
      rw [List.flatMap_cons]
      have hl : (chgCells g).length = 2 := rfl
      cases j with
      | zero =>
        rw [List.getElem?_append_left (by omega), Nat.zero_mul, Nat.zero_add]
        rfl
      | succ j =>
        rw [List.getElem?_append_right (by omega), hl, show (j + 1) * 2 + i - 2 = j * 2 + i by omega, ih (by simpa using hj) hi]
        rfl
  obtain ⟨hl, ⟨rfl, h0⟩ | ⟨g, cap, cur, rfl, hg, hb, hle, hmx, hsz, ht⟩⟩ := h
  · exact ⟨none, 0, by rw [h0], by omega, fun k hk => absurd hk (by omega)⟩
  · have hmx2 : cap ≤ 2 ^ 63 - 1 := hmx
    refine ⟨_, _, rfl, by omega, fun k hk => ⟨g, rfl, Heap.lt hb, ?_, ?_⟩⟩
    · rw [Heap.cell hb, ← Array.getElem?_toList, ← List.getElem?_take_of_lt (j := l.length * 2) (by omega), ht]; exact hc l (i := 0) hk (by omega)
    · rw [Heap.cell hb, ← Array.getElem?_toList, ← List.getElem?_take_of_lt (j := l.length * 2) (by omega), ht]; exact hc l (i := 1) hk (by omega)
namespace DiskW
set_option maxHeartbeats 1000000 in
set_option maxRecDepth 100000 in
theorem at_any (w : World) (b : Nat) (cv : Value) (f : FileV) (h : FileAt w b cv f) (m : Int) (hm : -9223372036854775808 ≤ m) (hm2 : m ≤ 9223372036854775807) (hok : ChgsOk f.base.size f.chgs) (hsz : f.base.size + chgSum f.chgs ≤ 4611686018427387904) :
    Calls Tryz.prog 83 #[.pointer (some ⟨b, 0, none⟩), .int .i64 m] w fun e w' => e = .returned (.string (atGo f.base f.chgs m)) ∧ Off None w w' := by
  have b0 : w.cell? ⟨b, 0, none⟩ = some (.string f.base) := Heap.cell h.blk 0
  have b2 : w.cell? ⟨b, 2, none⟩ = some cv := Heap.cell h.blk 2
  obtain ⟨A, c, rfl, hfl, hcell⟩ := chg_cell h.row
  have HC := Lib.hid hcell
  obtain ⟨l, hl⟩ : ∃ l, l = f.chgs := ⟨_, rfl⟩
  rw [← hl] at HC hfl b2 hok hsz ⊢
  clear hcell h
  obtain ⟨s0, hs0⟩ : ∃ s0, s0 = f.base := ⟨_, rfl⟩
  rw [← hs0] at b0 hok hsz ⊢
  clear hs0 hl
  obtain ⟨res, hres⟩ : ∃ res, res = atGo s0 l m := ⟨_, rfl⟩
  rw [← hres]
  have HRES := Lib.hid hres
  have HOK := Lib.hid hok
  have HSZ := Lib.hid hsz
  clear hres hok hsz
  go_enter Tryz.func83, Tryz.ntmps83
  go_wp2_with fail
  go_loopw [1, 5, 18] (fun mv sv i wr => ∃ (k : Nat) (q : Int) (s : ByteArray), k ≤ l.length ∧ mv = .int .i64 q ∧ sv = .string s ∧ i = .int .i64 k ∧ -9223372036854775808 ≤ q ∧ q ≤ 9223372036854775807 ∧ res = atGo s (l.drop k) q ∧ (0 < q → ChgsOk s.size (l.drop k)) ∧ s.size + chgSum (l.drop k) ≤ 4611686018427387904 ∧ Off None w wr) (fun _ _ i _ => l.length - (intOf i).toNat)
  case atStart => exact ⟨0, m, s0, Nat.zero_le _, rfl, rfl, rfl, hm, hm2, HRES.out, fun _ => HOK.out, HSZ.out, Off.refl _ _⟩
  case round =>
    obtain ⟨k, q, s, hk, rfl, rfl, rfl, hq1, hq2, hre, hco, hss, ho⟩ := hrel
    have HRE := Lib.hid hre; clear hre
    have HCO := Lib.hid hco; clear hco
    have HO := Lib.hid ho; clear ho
    by_cases hlt : k < l.length
    · obtain ⟨g, hA, hg, c0, c1⟩ := HC.out k hlt
      subst hA
      have hdr : l.drop k = l[k] :: l.drop (k + 1) := List.drop_eq_getElem_cons hlt
      obtain ⟨x, hx⟩ : ∃ x, x = l[k] := ⟨_, rfl⟩
      rw [← hx] at c0 c1 hdr
      rw [hdr] at hss
      have hss2 : s.size + (x.s.size + chgSum (l.drop (k + 1))) ≤ 4611686018427387904 := hss
      have d0 := HO.out.keep c0 (fun h => h)
      have d1 := HO.out.keep c1 (fun h => h)
      have HDR := Lib.hid hdr
      clear hx hdr hss c0 c1
      obtain ⟨xs, hxs⟩ : ∃ xs, xs = x.s := ⟨_, rfl⟩
      obtain ⟨xc, hxc⟩ : ∃ xc, xc = x.cut := ⟨_, rfl⟩
      rw [← hxs] at d0 hss2
      rw [← hxc] at d1
      have HXS := Lib.hid hxs
      have HXC := Lib.hid hxc
      clear hxs hxc
      have hi0 : (0 : Int) ≤ (k : Int) := by omega
      have hi1 : (k : Int) < (l.length : Int) := by omega
      by_cases hq : q ≤ 0
      · go_wp2_with fail
        go_ret
        refine ⟨?_, HO.out.alloc _⟩
        rw [HRE.out, HDR.out]
        unfold atGo
        rw [if_pos hq]
        rfl
      · have hok := HCO.out (by omega)
        rw [HDR.out] at hok
        unfold ChgsOk at hok
        rw [← HXS.out, ← HXC.out] at hok
        by_cases hc : xc = -1
        · have hre2 : res = atGo (s ++ xs.extract 0 (min q xs.size).toNat) (l.drop (k + 1)) (q - min q xs.size) := by
            rw [HRE.out, HDR.out, atGo, if_neg hq, ← HXC.out, if_neg (by rw [hc]; simp), ← HXS.out]
          have HR2 := Lib.hid hre2
          have hok2 : ChgsOk (s.size + xs.size) (l.drop (k + 1)) := by
            rcases hok with h | h
            · exact h.2
            · omega
          have HK2 := Lib.hid hok2
          clear hre2 hok hok2
          subst hc
          go_wp2_with fail
          case roundEnd =>
            have hmn : (min q (xs.size : Int)).toNat ≤ xs.size := by omega
            have hsz : (s ++ xs.extract 0 (min q (xs.size : Int)).toNat).size = s.size + (min q (xs.size : Int)).toNat := by rw [ByteArray.size_append, ByteArray.size_extract]; omega
            refine ⟨⟨k + 1, q - min q xs.size, _, hlt, rfl, rfl, by push_cast; rfl, by omega, by omega, HR2.out, fun h => ?_, by rw [hsz]; omega, HO.out.alloc _⟩, by simp [intOf]; omega⟩
            rw [hsz, show (min q (xs.size : Int)).toNat = xs.size by omega]
            exact HK2.out
        · have hre2 : res = atGo (s.extract 0 xc.toNat) (l.drop (k + 1)) (q - 1) := by
            rw [HRE.out, HDR.out, atGo, if_neg hq, ← HXC.out, if_pos hc]
          have HR2 := Lib.hid hre2
          have hok2 : 0 ≤ xc ∧ xc ≤ s.size ∧ ChgsOk xc.toNat (l.drop (k + 1)) := by
            rcases hok with h | h
            · exact absurd h.1 hc
            · exact h
          obtain ⟨hc1, hc2, hk2⟩ := hok2
          have HK2 := Lib.hid hk2
          clear hre2 hok hk2
          go_wp2_with fail
          case roundEnd =>
            have hsz : (s.extract 0 xc.toNat).size = xc.toNat := by rw [ByteArray.size_extract]; omega
            refine ⟨⟨k + 1, q - 1, _, hlt, rfl, rfl, by push_cast; rfl, by omega, by omega, HR2.out, fun h => by rw [hsz]; exact HK2.out, by rw [hsz]; omega, HO.out.alloc _⟩, by simp [intOf]; omega⟩
    · have hkl : k = l.length := by omega
      subst hkl
      have hi1 : ¬ (l.length : Int) < (l.length : Int) := by omega
      have hre := HRE.out
      rw [List.drop_length] at hre
      have HR2 := Lib.hid hre; clear hre
      go_wp2_with fail
      go_ret
      exact ⟨by rw [HR2.out]; rfl, HO.out⟩
end DiskW
end Go.Proofs.YtnppdcegpojmbaaGreatDoor
namespace Go.Proofs.YtnppdcegpojmbaaGreatDoor
open Go Go.RowKit Go.Maps Go.WideShapes Go.WideMaps
abbrev IMap := List (Nat × Bytes)
namespace IMap
def lit (p : Nat × Bytes) : Lit × DataW Unit := (.int .i64 p.1, .lit (.string p.2))
def toD (m : IMap) : DataW Unit := .map (m.map lit)
def ins (x : Nat × Bytes) : IMap → IMap
  | [] => [x]
  | y :: r => if (Lit.int .i64 x.1).before (.int .i64 y.1) then x :: y :: r else y :: ins x r
def del (m : IMap) (k : Nat) : IMap := m.filter fun p => decide (p.1 ≠ k)
def put (m : IMap) (k : Nat) (v : Bytes) : IMap := ins (k, v) (m.del k)
def get (m : IMap) (k : Nat) : Option Bytes := (m.find? fun p => decide (p.1 = k)).map (·.2)
theorem sameKey_int (a b : Nat) : (Lit.int .i64 (a : Int)).sameKey (.int .i64 (b : Int)) = decide (a = b) := by
  by_cases h : a = b
  · subst h; simp [Lit.sameKey]
  · rw [Maps.sameKey_ne (fun e => h (by injection e with _ e; omega))]; simp [h]
theorem toD_ins (x : Nat × Bytes) (m : IMap) : DataW.insert (H := Unit) (lit x) (m.map lit) = (ins x m).map lit := by
  induction m with
  | nil => rfl
  | cons y r ih =>
    simp only [List.map_cons, lit, DataW.insert, ins]
    split
    · simp [lit]
    · rw [List.map_cons]
      have := ih
      simp only [lit] at this ⊢
      rw [this]
theorem toD_del (m : IMap) (k : Nat) : m.toD.del (.int .i64 k) = (m.del k).toD := by
  show DataW.map _ = DataW.map _
  congr 1
  rw [del, List.filter_map]
  congr 1
  refine List.filter_congr fun p _ => ?_
  simp [lit, sameKey_int]
theorem toD_put (m : IMap) (k : Nat) (v : Bytes) : m.toD.put (.int .i64 k) (.lit (.string v)) = (m.put k v).toD := by
  have h := toD_del m k
  simp only [DataW.del, toD, DataW.map.injEq] at h
  show DataW.map (DataW.insert _ _) = DataW.map _
  rw [h]
  exact congrArg DataW.map (toD_ins (k, v) (m.del k))
theorem has_toD (m : IMap) (k : Nat) : Maps.has m.toD (.int .i64 k) = (m.get k).isSome := by
  show List.any _ _ = _
  rw [List.any_map, get, Option.isSome_map, Bool.eq_iff_iff, List.find?_isSome, List.any_eq_true]
  simp [lit, sameKey_int]
theorem atKey_toD (m : IMap) (k : Nat) (z : DataW Unit) : m.toD.atKey (.int .i64 k) z = match m.get k with | some v => .lit (.string v) | none => z := by
  have e : (m.map lit).find? (fun p => p.1.sameKey (.int .i64 k)) = (m.find? fun p => decide (p.1 = k)).map lit := by
    rw [List.find?_map]
    congr 2
    funext p
    simp [lit, sameKey_int]
  simp only [DataW.atKey, toD]
  rw [e, get]
  cases m.find? fun p => decide (p.1 = k) <;> rfl
theorem size_toD (m : IMap) : Maps.size m.toD = m.length := by simp [toD, Maps.size]
theorem mem_ins (x y : Nat × Bytes) (m : IMap) : y ∈ ins x m ↔ y = x ∨ y ∈ m := by
  induction m with
  | nil => simp [ins]
  | cons z r ih =>
    unfold ins
    split
    · simp
    · rw [List.mem_cons, ih, List.mem_cons]
      constructor
      · rintro (h | h | h)
        · exact .inr (.inl h)
        · exact .inl h
        · exact .inr (.inr h)
      · rintro (h | h | h)
        · exact .inr (.inl h)
        · exact .inl h
        · exact .inr (.inr h)
theorem ins_perm (x : Nat × Bytes) (m : IMap) : (ins x m).Perm (x :: m) := by
  induction m with
  | nil => exact List.Perm.refl _
  | cons y r ih =>
    unfold ins
    split
    · exact List.Perm.refl _
    · exact (ih.cons y).trans (List.Perm.swap x y r)
end IMap
abbrev IMapAt (w : World) (b : Nat) (m : IMap) : Prop := w.ownsMap (H := Unit) Tryz.prog 3 (Go.plainElem Tryz.prog 9) b m.length m.toD
theorem keyedI : Keyed Tryz.prog 3 := int_keyed Tryz.underlying3
theorem wf_nat {k : Nat} (hk : k ≤ 9223372036854775807) : (Lit.int .i64 (k : Int)).wf = true := by simp [Lit.wf, IntKind.min, IntKind.max, IntKind.bits, IntKind.signed]; omega
theorem key_int {k : Nat} (hk : k ≤ 9223372036854775807) : keyOf Tryz.prog 3 (.int .i64 k) = some (.int .i64 k) := keyOf_int_mk Tryz.underlying3 (wf_nat hk)
theorem imap_tight {w : World} {b n : Nat} {m : IMap} (h : w.ownsMap (H := Unit) Tryz.prog 3 (Go.plainElem Tryz.prog 9) b n m.toD) : IMapAt w b m := by
  obtain ⟨es, clock, hb, F, hs, e⟩ := h
  refine ⟨es, clock, hb, F, ?_, e⟩
  have := congrArg (Maps.size (H := Unit)) e
  rw [IMap.size_toD] at this
  simp only [Maps.size, length_read] at this
  omega
theorem imap_put {w : World} {b : Nat} {m : IMap} (h : IMapAt w b m) (k : Nat) (hk : k ≤ 9223372036854775807) (s : ByteArray) (hs : s.size ≤ maxLen) (hm : m.length < maxLen) :
    ∃ w', (Instr.mapUpdate 139 (.map (some b)) (.int .i64 k) (.string s)).run Tryz.prog w = .ok () w' ∧ IMapAt w' b (m.put k (bytesOf s)) ∧ w.mapTurned w' b := by
  obtain ⟨w', hrun, hown, ht⟩ := h.store keyedI Tryz.underlying139 hm (key_int hk) (Go.plainElem_string Tryz.underlying9 hs)
  have e := IMap.toD_put m k (bytesOf s)
  have e2 : m.toD.put (.int .i64 k) (.lit (.string s.data.toList)) = (m.put k (bytesOf s)).toD := e
  rw [e2] at hown
  exact ⟨w', hrun, imap_tight hown, ht⟩
theorem imap_look {w : World} {b : Nat} {m : IMap} (h : IMapAt w b m) (k : Nat) (hk : k ≤ 9223372036854775807) (s : Bytes) (hg : m.get k = some s) :
    (Instr.lookup 139 (.map (some b)) (.int .i64 k) false).run Tryz.prog w = .ok (.string ⟨s.toArray⟩) w := by
  have hz : (zeroValue 9).run Tryz.prog w = .ok (.string ⟨#[]⟩) w := by kernel_rfl
  obtain ⟨v, ps, hrun, hv⟩ := h.lookup keyedI Tryz.underlying139 hz (Go.plainElem_string Tryz.underlying9 (by decide)) (key_int hk)
  rw [IMap.atKey_toD, hg] at hv
  obtain ⟨a, rfl, ha, _⟩ := Go.plainElem_string_inv Tryz.underlying9 hv
  rw [hrun]
  have e : s = a.data.toList := by
    have := congrArg Prod.fst ha
    simpa using this
  rw [e]
end Go.Proofs.YtnppdcegpojmbaaGreatDoor
namespace Go.Proofs.YtnppdcegpojmbaaGreatDoor
open Go
namespace DiskV
/-- The names behind the first k moves. -/
def crashNames (D : DiskV) (k : Int) : NMap := (D.moves.take (max 0 (min k D.moves.length)).toNat).foldl (fun m mv => done mv m) D.base
def nameOf (m : NMap) (i : Nat) : Bytes := ((m.find? fun p => decide (p.2 = i)).map (·.1)).getD []
def crashIds (m : NMap) : List Nat := (m.map (·.2)).mergeSort (fun a b => decide (a ≤ b))
def crashText (D : DiskV) (fs : List Int) (i : Nat) : ByteArray := match D.files[i]? with | some f => atGo f.base f.chgs (fs.getD i 0) | none => ByteArray.empty
def crashStep (D : DiskV) (m : NMap) (fs : List Int) (st : List FileV × NMap) (i : Nat) : List FileV × NMap :=
  (st.1 ++ [⟨D.crashText fs i, D.crashText fs i, []⟩], st.2.put (bytesOf ⟨(nameOf m i).toArray⟩) st.1.length)
def crash (D : DiskV) (k : Int) (fs : List Int) : DiskV :=
  let st := (crashIds (D.crashNames k)).foldl (crashStep D (D.crashNames k) fs) ([], [])
  ⟨max D.room 0, st.1, st.2, st.2, [], 0, 0, -1⟩
end DiskV
namespace IMap
theorem get_ins (x : Nat × Bytes) (m : IMap) (hx : ∀ p ∈ m, p.1 ≠ x.1) (j : Nat) : (ins x m).get j = if j = x.1 then some x.2 else m.get j := by
  induction m with
  | nil =>
    unfold ins get
    rw [List.find?_cons]
    by_cases h : x.1 = j
    · rw [if_pos h.symm]; simp [h]
    · rw [if_neg (Ne.symm h)]; simp [h]
  | cons y r ih =>
    have hy := hx y (by simp)
    have hr := ih (fun p hp => hx p (by simp [hp]))
    unfold ins
    split
    · unfold get
      rw [List.find?_cons]
      by_cases h : x.1 = j
      · rw [if_pos h.symm]; simp [h]
      · rw [if_neg (Ne.symm h)]; simp [h]
    · unfold get at hr ⊢
      rw [List.find?_cons, List.find?_cons]
      by_cases h : y.1 = j
      · rw [if_neg (by rw [← h]; exact hy)]; simp [h]
      · simp only [h, decide_false]
        exact hr
theorem get_del (m : IMap) (k j : Nat) : (m.del k).get j = if j = k then none else m.get j := by
  induction m with
  | nil => unfold del get; simp
  | cons y r ih =>
    unfold del at ih ⊢
    rw [List.filter_cons]
    by_cases h : y.1 = k
    · rw [if_neg (by simpa using h), ih]
      by_cases hj : j = k
      · rw [if_pos hj, if_pos hj]
      · rw [if_neg hj, if_neg hj]
        unfold get
        rw [List.find?_cons]
        have : ¬ y.1 = j := fun e => hj (by rw [← e, h])
        simp [this]
    · rw [if_pos (by simpa using h)]
      unfold get at ih ⊢
      rw [List.find?_cons, List.find?_cons]
      by_cases hj : y.1 = j
      · rw [if_neg (by rw [← hj]; exact h)]; simp [hj]
      · simp only [hj, decide_false]
        exact ih
theorem get_put (m : IMap) (k : Nat) (v : Bytes) (j : Nat) : (m.put k v).get j = if j = k then some v else m.get j := by
  unfold put
  rw [get_ins (k, v) (m.del k) (fun p hp => by
    unfold del at hp
    simpa using (List.mem_filter.1 hp).2), get_del]
  by_cases h : j = k
  · rw [if_pos h, if_pos h]
  · rw [if_neg h, if_neg h, if_neg h]
/-- What the range over names has laid: each name gone over stands at its file. -/
def Laid (m : NMap) (left : Bytes → Bool) (im : IMap) : Prop := ∀ i s, im.get i = some s ↔ ((s, i) ∈ m ∧ left s = false)
theorem Laid.step {m : NMap} {left left' : Bytes → Bool} {im : IMap} (h : Laid m left im) {x : Bytes} {i : Nat} (hx : (x, i) ∈ m) (hk : ∀ p ∈ m, p.1 = x → p.2 = i) (hi : ∀ p ∈ m, p.2 = i → p.1 = x)
    (hl' : ∀ s, left' s = (left s && decide (s ≠ x))) : Laid m left' (im.put i x) := by
  intro j s
  rw [get_put]
  by_cases hj : j = i
  · subst hj
    rw [if_pos rfl]
    constructor
    · intro e
      cases e
      exact ⟨hx, by rw [hl']; simp⟩
    · rintro ⟨h1, _⟩
      exact congrArg some (hi (s, j) h1 rfl).symm
  · rw [if_neg hj, h j s]
    constructor
    · rintro ⟨h1, h2⟩
      exact ⟨h1, by rw [hl', h2]; rfl⟩
    · rintro ⟨h1, h2⟩
      refine ⟨h1, ?_⟩
      rw [hl'] at h2
      by_cases hs : s = x
      · exact absurd (hk (s, j) h1 hs) hj
      · simpa [hs] using h2
end IMap
end Go.Proofs.YtnppdcegpojmbaaGreatDoor
