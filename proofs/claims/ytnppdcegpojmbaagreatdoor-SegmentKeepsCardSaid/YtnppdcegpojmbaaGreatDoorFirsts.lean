/- A segment's number out of its name: the plain law, the walk of number. · What a file has of a segment: scan. · The numbers of a disk's segments: the walk of firsts. -/
import Derived.Test.YtnppdcegpojmbaaGreatDoorSeg9
import Derived.Shelf.Strings.SlTrimAscii
namespace Go.Proofs.YtnppdcegpojmbaaGreatDoor
open Go Go.RowKit Go.Shelf
/-- What digits spell, behind acc. -/
def valL (acc : Nat) : List UInt8 → Nat
  | [] => acc
  | c :: r => valL (acc * 10 + (c.toNat - 48)) r
def digitsOk (l : List UInt8) : Prop := ∀ c ∈ l, 48 ≤ c.toNat ∧ c.toNat ≤ 57
theorem valL_append (a b : List UInt8) : ∀ acc, valL acc (a ++ b) = valL (valL acc a) b := by
  induction a with
  | nil => intro acc; rfl
  | cons c r ih => intro acc; exact ih _
theorem valL_le (l : List UInt8) : ∀ acc, acc ≤ valL acc l := by
  induction l with
  | nil => intro acc; exact Nat.le_refl _
  | cons c r ih => intro acc; exact Nat.le_trans (by omega) (ih _)
theorem valL_zeros (n : Nat) : valL 0 (List.replicate n 48) = 0 := by
  induction n with
  | zero => rfl
  | succ n ih => rw [List.replicate_succ]; exact ih
theorem dig_ok {k : Nat} (hk : k < 10) : (UInt8.ofNat (48 + k)).toNat = 48 + k := by
  rw [UInt8.toNat_ofNat']; omega
theorem decDigits_val (u : Nat) : digitsOk (Lib.decDigits u) ∧ valL 0 (Lib.decDigits u) = u := by
  induction u using Nat.strongRecOn with
  | ind u ih =>
    rw [Lib.decDigits]
    by_cases h : u < 10
    · rw [dif_pos h]
      refine ⟨fun c hc => ?_, ?_⟩
      · rw [List.mem_singleton.1 hc, dig_ok h]; omega
      · show 0 * 10 + ((UInt8.ofNat (48 + u)).toNat - 48) = u
        rw [dig_ok h]; omega
    · rw [dif_neg h]
      obtain ⟨h1, h2⟩ := ih (u / 10) (by omega)
      have hk : u % 10 < 10 := Nat.mod_lt _ (by omega)
      refine ⟨fun c hc => ?_, ?_⟩
      · rcases List.mem_append.1 hc with h3 | h3
        · exact h1 c h3
        · rw [List.mem_singleton.1 h3, dig_ok hk]; omega
      · rw [valL_append, h2]
        show u / 10 * 10 + ((UInt8.ofNat (48 + u % 10)).toNat - 48) = u
        rw [dig_ok hk]; omega
theorem parse_val (l : List UInt8) (hd : digitsOk l) : ∀ acc, valL acc l ≤ 18446744073709551615 → Lib.parseUintM 18446744073709551615 acc l = .ok (valL acc l) := by
  induction l with
  | nil => intro acc _; rfl
  | cons c r ih =>
    intro acc hv
    have hc := hd c (by simp)
    have hle := valL_le r (acc * 10 + (c.toNat - 48))
    have hv2 : valL (acc * 10 + (c.toNat - 48)) r ≤ 18446744073709551615 := hv
    rw [Lib.parseUintM, if_pos hc, if_neg (by omega), if_neg (by omega)]
    exact ih (fun x hx => hd x (by simp [hx])) _ hv2
theorem drop_all (p : UInt8 → Bool) (l : List UInt8) (h : ∀ x ∈ l, p x = true) : l.dropWhile p = [] := by
  induction l with
  | nil => rfl
  | cons c r ih => rw [List.dropWhile_cons, if_pos (h c (by simp))]; exact ih (fun x hx => h x (by simp [hx]))
theorem trim_digits (l : List UInt8) (hd : digitsOk l) : Lib.trimS l [48, 49, 50, 51, 52, 53, 54, 55, 56, 57] = [] := by
  have hc : ∀ c : UInt8, 48 ≤ c.toNat ∧ c.toNat ≤ 57 → ([48, 49, 50, 51, 52, 53, 54, 55, 56, 57] : List UInt8).contains c = true := by
    intro c h
    rw [List.contains_iff_mem]
    have : c = UInt8.ofNat c.toNat := by simp
    rw [this]
    have h3 : c.toNat = 48 ∨ c.toNat = 49 ∨ c.toNat = 50 ∨ c.toNat = 51 ∨ c.toNat = 52 ∨ c.toNat = 53 ∨ c.toNat = 54 ∨ c.toNat = 55 ∨ c.toNat = 56 ∨ c.toNat = 57 := by omega
    rcases h3 with h | h | h | h | h | h | h | h | h | h <;> rw [h] <;> decide
  have hr : Lib.trimRightS l [48, 49, 50, 51, 52, 53, 54, 55, 56, 57] = [] := by
    unfold Lib.trimRightS
    rw [drop_all _ _ (fun x hx => hc x (hd x (List.mem_reverse.1 hx)))]
    rfl
  unfold Lib.trimS
  rw [hr]
  rfl
namespace Seg
/-- The digits of a segment's name. -/
def tailL (u : Nat) : List UInt8 := List.replicate (20 - Lib.nDigits u) 48 ++ Lib.decDigits u
theorem tail_val (u : Nat) : digitsOk (tailL u) ∧ valL 0 (tailL u) = u := by
  refine ⟨fun c hc => ?_, ?_⟩
  · rcases List.mem_append.1 hc with h | h
    · rw [(List.mem_replicate.1 h).2]; decide
    · exact (decDigits_val u).1 c h
  · unfold tailL
    rw [valL_append, valL_zeros]
    exact (decDigits_val u).2
theorem tail_len {u : Nat} (hu : u < 18446744073709551616) : (tailL u).length = 20 := by
  have h := nameL_length hu
  have e : (nameL u).length = (tailL u).length + 1 := rfl
  omega
theorem trim_any (w : World) (s : ByteArray) (hs : s.size ≤ 9223372036854775807) :
    Calls Tryz.prog 123 #[.string s, .string ⟨#[48, 49, 50, 51, 52, 53, 54, 55, 56, 57]⟩] w fun e w' => e = .returned (.string ⟨(Lib.trimS s.data.toList [48, 49, 50, 51, 52, 53, 54, 55, 56, 57]).toArray⟩) ∧ Off None w w' := by
  refine (Any.strings_Trim_laid Tryz.lays160 (by kernel_rfl) s ⟨#[48, 49, 50, 51, 52, 53, 54, 55, 56, 57]⟩ w hs (by decide) (ascii_of_all (by decide))).mono ?_
  rintro e w' ⟨rfl, hb⟩
  exact ⟨rfl, Off.of_below hb⟩
set_option maxRecDepth 100000 in
theorem number_seg (w : World) (u : Nat) (hu : u < 18446744073709551616) :
    Calls Tryz.prog 92 #[.string (nameB u)] w fun e w' => e = .returned (.tuple #[.int .u64 u, .bool true]) ∧ Off None w w' := by
  have hsz : (nameB u).size = 21 := nameL_length hu
  have hpre : Lib.hasPrefix (nameB u).data.toList [115] = true := by
    show Lib.hasPrefix (115 :: tailL u) [115] = true
    simp [Lib.hasPrefix]
  obtain ⟨t, ht⟩ : ∃ t : ByteArray, t = ⟨(tailL u).toArray⟩ := ⟨_, rfl⟩
  have hts : t.size = 20 := by rw [ht]; exact tail_len hu
  have htd : t.data.toList = tailL u := by rw [ht]
  have hex : (nameB u).extract 1 21 = t := by
    rw [ht]
    have h21 : ∀ l : List UInt8, l.length = 20 → (⟨(115 :: l).toArray⟩ : ByteArray).extract 1 21 = ⟨l.toArray⟩ := by
      intro l hl
      refine str_of ?_
      rw [ByteArray.data_extract, Array.toList_extract, List.extract_eq_take_drop]
      show (l.take 20) = l
      rw [List.take_of_length_le (by omega)]
    exact h21 _ (tail_len hu)
  have HTRIM := Lib.hid (fun W => trim_any W t (by omega))
  have htr : Lib.trimS t.data.toList [48, 49, 50, 51, 52, 53, 54, 55, 56, 57] = [] := by rw [htd]; exact trim_digits _ (tail_val u).1
  have hpo : Lib.parseUintB 64 t.data.toList = .ok u := by
    have h1 := parse_val (tailL u) (tail_val u).1 0 (by rw [(tail_val u).2]; omega)
    rw [(tail_val u).2] at h1
    unfold Lib.parseUintB
    rw [htd, if_neg (by intro h; have := tail_len hu; rw [h] at this; cases this)]
    exact h1
  have HPO := Lib.hid (fun W => Tryz.strconv_ParseUint_10_at64_ok t (by omega) u hpo W)
  obtain ⟨s, hs⟩ : ∃ s, s = nameB u := ⟨_, rfl⟩
  rw [← hs] at hsz hpre hex ⊢
  have HS := Lib.hid hs; clear hs
  have HX := Lib.hid hex; clear hex
  have hpc := fun W => Tryz.strings_HasPrefix s ⟨#[115]⟩ W
  rw [hpre] at hpc
  have HPC := Lib.hid hpc; clear hpc hpre ht
  rw [htr] at HTRIM
  clear htr
  go_enter Tryz.func92, Tryz.ntmps92
  go_wp2_with fail
  refine (HPC.out _).mono ?_
  rintro e w1 ⟨rfl, hw1⟩
  subst hw1
  go_wp2_with fail
  rw [HX.out]
  refine (HTRIM.out _).mono ?_
  rintro e w2 ⟨rfl, ho2⟩
  go_wp2_with fail
  rw [HX.out]
  refine (HPO.out _).mono ?_
  rintro e w3 ⟨rfl, hw3⟩
  have ho3 : Off None w1 w3 := by
    rcases hw3 with rfl | rfl
    · exact ho2
    · exact ho2.trans (Off.of_below (Lib.bytesWorld_below _ _ _) : Off None w2 _) (fun _ _ h => h)
  have HO3 := Lib.hid ho3
  clear hw3 ho2 ho3 hpo htd HPO HTRIM
  go_wp2_with fail
  go_quiet (fail)
  go_wp2
  go_ret2
  exact ⟨rfl, HO3.out.drewN _⟩
set_option maxRecDepth 100000 in
theorem number_other (w : World) (s : ByteArray) (hs : s.size ≠ 21) (hm : s.size ≤ maxLen) :
    Calls Tryz.prog 92 #[.string s] w fun e w' => e = .returned (.tuple #[.int .u64 (0 : Nat), .bool false]) ∧ Off None w w' := by
  have hm2 : s.size ≤ 2 ^ 63 - 1 := hm
  have h1 : ((s.size : Int) == 21) = false := beq_eq_false_iff_ne.2 (by omega)
  have h2 : ((s.size : Int) != 21) = true := bne_iff_ne.2 (by omega)
  go_enter Tryz.func92, Tryz.ntmps92
  go_wp2
  go_ret2
  exact ⟨rfl, Off.refl _ _⟩
end Seg
end Go.Proofs.YtnppdcegpojmbaaGreatDoor
namespace Go.Proofs.YtnppdcegpojmbaaGreatDoor
open Go Go.RowKit Go.Shelf Go.Sort
/-- The frames that bear the numbers f, f + 1, .. -/
def fitL (f : Nat) : List Frame.FrameV → List Frame.FrameV
  | [] => []
  | x :: r => if x.seq = f then x :: fitL (f + 1) r else []
def scanSeg (f : Nat) (s : List UInt8) : SegV := ⟨f, (fitL f (Frame.scanL s)).length, Frame.sizes (fitL f (Frame.scanL s))⟩
theorem fitL_take (l : List Frame.FrameV) : ∀ f, fitL f l = l.take (fitL f l).length ∧ (fitL f l).length ≤ l.length := by
  induction l with
  | nil => intro f; exact ⟨rfl, Nat.le_refl _⟩
  | cons x r ih =>
    intro f
    unfold fitL
    by_cases h : x.seq = f
    · rw [if_pos h, List.length_cons, List.take_succ_cons]
      have := ih (f + 1)
      refine ⟨?_, by rw [List.length_cons]; omega⟩
      rw [← this.1]
    · rw [if_neg h]; exact ⟨rfl, Nat.zero_le _⟩
theorem fitL_in (l : List Frame.FrameV) : ∀ f k (hk : k < l.length), k < (fitL f l).length → l[k].seq = f + k := by
  induction l with
  | nil => intro f k hk; exact absurd hk (by simp)
  | cons x r ih =>
    intro f k hk h
    unfold fitL at h
    by_cases hx : x.seq = f
    · rw [if_pos hx, List.length_cons] at h
      cases k with
      | zero => exact hx
      | succ k =>
        have := ih (f + 1) k (by simpa using hk) (by omega)
        rw [List.getElem_cons_succ, this]; omega
    · rw [if_neg hx] at h; exact absurd h (by simp)
theorem fitL_out (l : List Frame.FrameV) : ∀ f (hk : (fitL f l).length < l.length), l[(fitL f l).length].seq ≠ f + (fitL f l).length := by
  induction l with
  | nil => intro f hk; exact absurd hk (by simp [fitL])
  | cons x r ih =>
    intro f hk
    by_cases hx : x.seq = f
    · have e : (fitL f (x :: r)).length = (fitL (f + 1) r).length + 1 := by rw [fitL, if_pos hx, List.length_cons]
      have h2 : (fitL (f + 1) r).length < r.length := by rw [e, List.length_cons] at hk; omega
      have := ih (f + 1) h2
      have e2 : (x :: r)[(fitL f (x :: r)).length] = r[(fitL (f + 1) r).length] := by
        rw [← Option.some.injEq, ← List.getElem?_eq_getElem, ← List.getElem?_eq_getElem, e, List.getElem?_cons_succ]
      rw [e2, e]
      omega
    · have e : (fitL f (x :: r)).length = 0 := by rw [fitL, if_neg hx]; rfl
      have e2 : (x :: r)[(fitL f (x :: r)).length] = x := by
        rw [← Option.some.injEq, ← List.getElem?_eq_getElem, e]; rfl
      rw [e2, e]
      omega
theorem sizes_take_succ (l : List Frame.FrameV) {k : Nat} (hk : k < l.length) : Frame.sizes (l.take (k + 1)) = Frame.sizes (l.take k) + l[k].size := by
  unfold Frame.sizes
  rw [List.take_succ_eq_append_getElem hk, List.map_append, List.sum_append]
  simp
theorem sizes_take_le (l : List Frame.FrameV) (k : Nat) : Frame.sizes (l.take k) ≤ Frame.sizes l := by
  unfold Frame.sizes
  conv => rhs; rw [← List.take_append_drop k l, List.map_append, List.sum_append]
  omega
theorem frame_cell (fs : List Frame.FrameV) : ∀ {j i : Nat} (hj : j < fs.length) (_ : i < 3), (fs.flatMap Frame.frameCells)[j * 3 + i]? = (Frame.frameCells fs[j])[i]? := by
  induction fs with
  | nil => intro j i hj; exact absurd hj (by simp)
  | cons g r ih =>
    intro j i hj hi
    rw [List.flatMap_cons]
    have hl : (Frame.frameCells g).length = 3 := rfl
    cases j with
    | zero =>
      rw [List.getElem?_append_left (by omega), Nat.zero_mul, Nat.zero_add]
      rfl
    | succ j =>
      rw [List.getElem?_append_right (by omega), hl, show (j + 1) * 3 + i - 3 = j * 3 + i by omega, ih (by simpa using hj) hi]
      rfl
theorem frames_row {w : World} {base : Nat} {v : Value} {fs : List Frame.FrameV} (h : w.ownsRow base 109 3 v fs.length (fs.flatMap Frame.frameCells)) :
    ∃ A c, v = .slice A fs.length c ∧ (fs.length : Int) ≤ 9223372036854775807 ∧ ∀ k (hk : k < fs.length), ∃ g, A = some ⟨g, 0, none⟩ ∧ base ≤ g ∧ g < w.heap.size ∧ w.cell? ⟨g, k * 3, none⟩ = some (.int .u64 fs[k].seq) ∧ w.cell? ⟨g, k * 3 + 1, none⟩ = some (.string ⟨fs[k].body.toArray⟩) ∧ w.cell? ⟨g, k * 3 + 2, none⟩ = some (.int .i64 fs[k].size) := by
  obtain ⟨hl, ⟨rfl, h0⟩ | ⟨g, cap, cur, rfl, hg, hb, hle, hmx, hsz, ht⟩⟩ := h
  · exact ⟨none, 0, by rw [h0], by omega, fun k hk => absurd hk (by omega)⟩
  · have hmx2 : cap ≤ 2 ^ 63 - 1 := hmx
    refine ⟨_, _, rfl, by omega, fun k hk => ⟨g, rfl, hg, Heap.lt hb, ?_, ?_, ?_⟩⟩
    · rw [Heap.cell hb, ← Array.getElem?_toList, ← List.getElem?_take_of_lt (j := fs.length * 3) (by omega), ht]; exact frame_cell fs (i := 0) hk (by omega)
    · rw [Heap.cell hb, ← Array.getElem?_toList, ← List.getElem?_take_of_lt (j := fs.length * 3) (by omega), ht]; exact frame_cell fs (i := 1) hk (by omega)
    · rw [Heap.cell hb, ← Array.getElem?_toList, ← List.getElem?_take_of_lt (j := fs.length * 3) (by omega), ht]; exact frame_cell fs (i := 2) hk (by omega)
namespace Seg
theorem infoSeg : (Tryz.prog.info? 42).map (·.size) = some 3 := by kernel_rfl
set_option maxHeartbeats 1000000 in
set_option maxRecDepth 100000 in
theorem scan_any (w : World) (f : Nat) (s : ByteArray) (hs : s.size ≤ 1099511627776) (hf : f + s.size < 9223372036854775808) (hT : Crc.TabOk w) :
    Calls Tryz.prog 45 #[.int .u64 f, .string s] w fun e w' =>
      e = .returned (.tuple #[segAgg (scanSeg f s.data.toList), .bool (decide ((scanSeg f s.data.toList).size < s.size))]) ∧ Off None w w' := by
  have hsz := Frame.sizes_le s.size s.data.toList (by show s.data.toList.length ≤ _; simp)
  have HT := Lib.hid hT; clear hT
  obtain ⟨fs, hfs⟩ : ∃ fs, fs = Frame.scanL s.data.toList := ⟨_, rfl⟩
  obtain ⟨m, hm⟩ : ∃ m, m = (fitL f fs).length := ⟨_, rfl⟩
  have h1 := fitL_take fs f
  have h2 := fitL_in fs f
  have h3 := fitL_out fs f
  rw [← hm] at h1 h2
  have hml := h1.2
  have HFS := Lib.hid hfs
  have hsp : scanSeg f s.data.toList = ⟨f, m, Frame.sizes (fs.take m)⟩ := by unfold scanSeg; rw [← hfs, ← h1.1, ← hm]
  have HSP := Lib.hid hsp
  have H2 := Lib.hid h2
  have H3 := Lib.hid (fun (h : m < fs.length) => (by have := h3 (by rw [← hm]; exact h); simpa [← hm] using this : fs[m].seq ≠ f + m))
  rw [← hfs] at hsz
  clear hsp h1 h2 h3 hm
  rw [HSP.out]
  have HSC := Lib.hid (fun (W : World) (h : Off None w W) => Frame.scan_any W s hs (HT.out.off h (fun h => h)))
  rw [← hfs] at HSC
  clear hfs
  go_enter Tryz.func45, Tryz.ntmps45
  go_wp2_with fail
  obtain ⟨wb, hwb⟩ : ∃ wb, wb = (w.alloc (.cells #[.int .u64 0, .int .i64 0, .int .i64 0] 42)).alloc (.cells #[.int .u64 f, .int .i64 0, .int .i64 0] 42) := ⟨_, rfl⟩
  have hs1 : wb.heap.size = w.heap.size + 2 := by rw [hwb, Heap.alloc_size, Heap.alloc_size]
  have hbr : wb.heap[w.heap.size]? = some (.cells #[.int .u64 0, .int .i64 0, .int .i64 0] 42 (0, 0)) := by rw [hwb]; exact Heap.alloc_old (Heap.alloc_new w _) _
  have hbx : wb.heap[w.heap.size + 1]? = some (.cells #[.int .u64 f, .int .i64 0, .int .i64 0] 42 (0, 0)) := by
    have h := Heap.alloc_new (w.alloc (.cells #[.int .u64 0, .int .i64 0, .int .i64 0] 42)) (.cells #[.int .u64 f, .int .i64 0, .int .i64 0] 42)
    rw [Heap.alloc_size] at h; rw [hwb]; exact h
  have hob : Off None w wb := by rw [hwb]; exact ((Off.refl None w).alloc _).alloc _
  rw [← hwb]
  clear hwb
  have HOB := Lib.hid hob; clear hob
  refine (HSC.out wb HOB.out).mono ?_
  rintro e w1 ⟨v, rfl, hrow, ho1⟩
  obtain ⟨bx, hx⟩ : ∃ bx, bx = w.heap.size + 1 := ⟨_, rfl⟩
  obtain ⟨br, hr⟩ : ∃ br, br = w.heap.size := ⟨_, rfl⟩
  rw [← hx] at hbx ⊢
  rw [← hr] at hbr ⊢
  have hxr : br < bx := by omega
  have hxw : w.heap.size ≤ br := by omega
  have hxs : bx < wb.heap.size := by omega
  have HBR := Lib.hid (ho1.at_ hbr (fun h => h))
  have HBX := Lib.hid (ho1.at_ hbx (fun h => h))
  have HO1 := Lib.hid (HOB.out.trans ho1 (fun _ _ h => h))
  clear HSC HT HFS HSP hbr hbx
  have HX := Lib.hid hx
  have HR := Lib.hid hr
  clear hx hr
  obtain ⟨A, c, rfl, hfl, hfr⟩ := frames_row hrow
  have HFR := Lib.hid hfr
  clear hrow hfr ho1
  have hds : s.data.toList.length = s.size := by simp
  have hsz1 : Frame.sizes fs ≤ s.size := by omega
  have hsz2 : fs.length ≤ s.size := by omega
  clear hsz hds
  go_wp2_with fail
  go_loopw [20] (fun i wr => ∃ k : Nat, k ≤ m ∧ i = .int .i64 k ∧ wr.heap[bx]? = some (.cells #[.int .u64 f, .int .i64 k, .int .i64 ((Frame.sizes (fs.take k) : Nat) : Int)] 42 (0, 0)) ∧ Off (Only bx) w1 wr) (fun i _ => fs.length - (intOf i).toNat)
  case atStart => exact ⟨0, Nat.zero_le _, rfl, HBX.out, Off.refl _ _⟩
  case round =>
    obtain ⟨k, hk, rfl, hbx, ho⟩ := hrel
    have HO := Lib.hid ho; clear ho
    have hst := sizes_take_le fs k
    by_cases hlt : k < fs.length
    · obtain ⟨g, hA, hg1, hg2, c0, c1, c2⟩ := HFR.out k hlt
      subst hA
      have hst1 := sizes_take_succ fs hlt
      have hst2 := sizes_take_le fs (k + 1)
      obtain ⟨y, hy⟩ : ∃ y, y = Frame.sizes (fs.take k) := ⟨_, rfl⟩
      obtain ⟨q, hq⟩ : ∃ q, q = fs[k].seq := ⟨_, rfl⟩
      obtain ⟨z, hz⟩ : ∃ z, z = fs[k].size := ⟨_, rfl⟩
      obtain ⟨bd, hbd⟩ : ∃ bd : ByteArray, bd = ⟨fs[k].body.toArray⟩ := ⟨_, rfl⟩
      rw [← hy] at hbx hst1 hst
      rw [← hz] at hst1 c2
      rw [← hq] at c0
      rw [← hbd] at c1
      have HQ := Lib.hid hq
      have HYY := Lib.hid hy
      have HST := Lib.hid hst1
      have hyz : y + z ≤ s.size := by omega
      have d0 := HO.out.keep c0 (show ¬ g = bx by omega)
      have d1 := HO.out.keep c1 (show ¬ g = bx by omega)
      have d2 := HO.out.keep c2 (show ¬ g = bx by omega)
      clear hq hz hbd hst1 hst2 hy c0 c1 c2
      have e0 : wr.cell? ⟨bx, 0, none⟩ = some (.int .u64 f) := Heap.cell hbx 0
      have e1 : wr.cell? ⟨bx, 1, none⟩ = some (.int .i64 k) := Heap.cell hbx 1
      have e2 : wr.cell? ⟨bx, 2, none⟩ = some (.int .i64 y) := Heap.cell hbx 2
      have f0 := fun i => Heap.frozen hbx i
      have f1 := f0 1
      have f2 := f0 2
      have hbs : bx < wr.heap.size := Heap.lt hbx
      have hi0 : (0 : Int) ≤ (k : Int) := by omega
      have hi1 : (k : Int) < (fs.length : Int) := by omega
      clear f0
      obtain ⟨E, hE⟩ : ∃ E, E = f + k := ⟨_, rfl⟩
      have hok : (⟨f, k, y⟩ : SegV).Ok := ⟨by show f + k < _; omega, by show k ≤ _; omega, by show y ≤ _; omega⟩
      have hcE : ∀ (W : World), Calls Tryz.prog 46 #[.agg #[.int .u64 f, .int .i64 k, .int .i64 y]] W fun e w' => e = .returned (.int .u64 E) ∧ Off None W w' := by
        intro W
        have := end_any W ⟨f, k, y⟩ hok
        rw [hE]
        exact this
      have HCE := Lib.hid hcE
      have HEE := Lib.hid hE
      clear hcE hok hE
      obtain ⟨wc, hwc⟩ : ∃ wc, wc = wr.alloc (.cells #[.int .u64 q, .string bd, .int .i64 z] 109) := ⟨_, rfl⟩
      obtain ⟨bf, hbf⟩ : ∃ bf, bf = wr.heap.size := ⟨_, rfl⟩
      have hbc : wc.heap[bf]? = some (.cells #[.int .u64 q, .string bd, .int .i64 z] 109 (0, 0)) := by rw [hwc, hbf]; exact Heap.alloc_new wr _
      have hxc : wc.heap[bx]? = some (.cells #[.int .u64 f, .int .i64 k, .int .i64 y] 42 (0, 0)) := by rw [hwc]; exact Heap.alloc_old hbx _
      have hoc : Off (Only bx) w1 wc := by rw [hwc]; exact HO.out.alloc _
      have HBC := Lib.hid hbc
      have HXC := Lib.hid hxc
      have HOC := Lib.hid hoc
      have hbfx : bf ≠ bx := by omega
      have HWC := Lib.hid hwc
      have HBF := Lib.hid hbf
      clear hbc hxc hoc hbx hwc hbf
      go_wp2_with fail
      rw [← HWC.out, ← HBF.out]
      clear HWC HBF d0 d1 d2 e0 e1 e2 f1 f2
      have cE : ∀ dd os, Calls Tryz.prog 46 #[.agg #[.int .u64 f, .int .i64 k, .int .i64 y]] (grow (redrawn wc dd) os) fun e w'' => e = .returned (.int .u64 E) ∧ ∃ p : Regrown, w'' = grow (redrawn wc p.d) p.os := fun dd os => Calls.quietly (HCE.out _)
      have k0 := cell_regrown (show wc.cell? ⟨bf, 0, none⟩ = some (.int .u64 q) from Heap.cell HBC.out 0)
      have k1 := cell_regrown (show wc.cell? ⟨bx, 0, none⟩ = some (.int .u64 f) from Heap.cell HXC.out 0)
      have k2 := cell_regrown (show wc.cell? ⟨bx, 1, none⟩ = some (.int .i64 k) from Heap.cell HXC.out 1)
      have k3 := cell_regrown (show wc.cell? ⟨bx, 2, none⟩ = some (.int .i64 y) from Heap.cell HXC.out 2)
      refine wp_region_quiet_below (by kernel_rfl) (by kernel_rfl) ?_
      repeat (quiet_step (first | exact cE _ _))
      refine wpQuiet_nil ?_
      intro w2 hw'
      have ho2 : Off None wc w2 := by
        obtain ⟨⟨dq, osq⟩, rfl⟩ := hw'
        exact Off.of_below (below_regrown wc dq osq)
      clear hw' k0 k1 k2 k3 cE
      have hb2 := ho2.at_ HBC.out (fun h => h)
      have hx2 := ho2.at_ HXC.out (fun h => h)
      have HO2 := Lib.hid (HOC.out.trans ho2 (fun _ _ h => h.elim))
      have e0 : w2.cell? ⟨bx, 0, none⟩ = some (.int .u64 f) := Heap.cell hx2 0
      have e1 : w2.cell? ⟨bx, 1, none⟩ = some (.int .i64 k) := Heap.cell hx2 1
      have e2 : w2.cell? ⟨bx, 2, none⟩ = some (.int .i64 y) := Heap.cell hx2 2
      have f1 := Heap.frozen hx2 1
      have f2 := Heap.frozen hx2 2
      have d2 : w2.cell? ⟨bf, 2, none⟩ = some (.int .i64 z) := Heap.cell hb2 2
      have HX2 := Lib.hid hx2
      clear ho2 HO HOC HBC HXC hb2 hx2
      by_cases hkm : k < m
      · have hqe : q = E := by rw [HQ.out, HEE.out]; exact H2.out k hlt hkm
        subst hqe
        go_wp2_with fail
        case roundEnd =>
          refine ⟨⟨k + 1, hkm, by push_cast; rfl, ?_, (HO2.out.set 1 _).set 2 _⟩, by simp [intOf]; omega⟩
          rw [Heap.set (Heap.set HX2.out 1 _) 2 _, HST.out]
          push_cast
          rfl
      · have hkm2 : k = m := by omega
        subst hkm2
        have hqe : q ≠ E := by rw [HQ.out, HEE.out]; exact H3.out hlt
        have t1 : ((q : Int) != (E : Int)) = true := by rw [bne_iff_ne]; omega
        have t2 : ((q : Int) == (E : Int)) = false := by rw [beq_eq_false_iff_ne]; omega
        have hbr2 := HO2.out.at_ HBR.out (show ¬ br = bx by omega)
        have r0 : w2.cell? ⟨br, 0, none⟩ = some (.int .u64 0) := Heap.cell hbr2 0
        have r1 : w2.cell? ⟨br, 1, none⟩ = some (.int .i64 0) := Heap.cell hbr2 1
        have r2 : w2.cell? ⟨br, 2, none⟩ = some (.int .i64 0) := Heap.cell hbr2 2
        have g0 := Heap.frozen hbr2 0
        have g1 := Heap.frozen hbr2 1
        have g2 := Heap.frozen hbr2 2
        have hbl : br < w2.heap.size := Heap.lt hbr2
        have HB2 := Lib.hid hbr2; clear hbr2 HQ HEE
        go_wp2_with fail
        go_region
        all_goals go_wp2
        refine bodyPost_ret_by (Frame.results_row_tmp rfl _ _ br _ _ _ _ rfl (Frame.box3 HB2.out _ _ _) Tryz.underlying42 rfl infoSeg) rfl ⟨?_, ?_⟩
        · rw [← HYY.out]; rfl
        · exact ((((HO1.out.trans HO2.out (fun b hb e => by have e : b = bx := e; omega)).setCell (p := ⟨br, 0, none⟩) (.inr hxw) _).setCell (p := ⟨br, 1, none⟩) (.inr hxw) _).setCell (p := ⟨br, 2, none⟩) (.inr hxw) _).drew
    · have hkl : k = fs.length := by omega
      have hkm : k = m := by omega
      subst hkm
      have hbr2 := HO.out.at_ HBR.out (show ¬ br = bx by omega)
      obtain ⟨y, hy⟩ : ∃ y, y = Frame.sizes (fs.take k) := ⟨_, rfl⟩
      rw [← hy] at hbx hst
      have hy2 : y ≤ s.size := by omega
      have hy3 : y = Frame.sizes fs := by rw [hy, hkl, List.take_length]
      have HYY := Lib.hid hy3; clear hy hy3
      have e0 : wr.cell? ⟨bx, 0, none⟩ = some (.int .u64 f) := Heap.cell hbx 0
      have e1 : wr.cell? ⟨bx, 1, none⟩ = some (.int .i64 k) := Heap.cell hbx 1
      have e2 : wr.cell? ⟨bx, 2, none⟩ = some (.int .i64 y) := Heap.cell hbx 2
      have r0 : wr.cell? ⟨br, 0, none⟩ = some (.int .u64 0) := Heap.cell hbr2 0
      have r1 : wr.cell? ⟨br, 1, none⟩ = some (.int .i64 0) := Heap.cell hbr2 1
      have r2 : wr.cell? ⟨br, 2, none⟩ = some (.int .i64 0) := Heap.cell hbr2 2
      have g0 := Heap.frozen hbr2 0
      have g1 := Heap.frozen hbr2 1
      have g2 := Heap.frozen hbr2 2
      have hbl : br < wr.heap.size := Heap.lt hbr2
      have HB2 := Lib.hid hbr2; clear hbr2 hbx
      have hi1 : ¬ (k : Int) < (fs.length : Int) := by omega
      go_wp2_with fail
      go_region
      all_goals go_wp2
      refine bodyPost_ret_by (Frame.results_row_tmp rfl _ _ br _ _ _ _ rfl (Frame.box3 HB2.out _ _ _) Tryz.underlying42 rfl infoSeg) rfl ⟨?_, ?_⟩
      · obtain rfl := HYY.out
        subst hkl
        rw [List.take_length]; rfl
      · exact ((((HO1.out.trans HO.out (fun b hb e => by have e : b = bx := e; omega)).setCell (p := ⟨br, 0, none⟩) (.inr hxw) _).setCell (p := ⟨br, 1, none⟩) (.inr hxw) _).setCell (p := ⟨br, 2, none⟩) (.inr hxw) _).drew
end Seg
end Go.Proofs.YtnppdcegpojmbaaGreatDoor
namespace Go.Proofs.YtnppdcegpojmbaaGreatDoor
open Go Go.RowKit Go.Shelf Go.Sort
/-- The number that a segment's name has; any other name has none. -/
def numL (s : Bytes) : Option Nat := if s.length = 21 then some (valL 0 (s.drop 1)) else none
theorem numL_name {u : Nat} (hu : u < 18446744073709551616) : numL (Seg.nameL u) = some u := by
  unfold numL
  rw [if_pos (Seg.nameL_length hu)]
  exact congrArg some (Seg.tail_val u).2
/-- A segment's name, or one of another length. -/
def NameOk (s : Bytes) : Prop := (∃ u, u < 18446744073709551616 ∧ s = Seg.nameL u) ∨ (s.length ≠ 21 ∧ s.length ≤ 1099511627776)
def DiskV.firsts (D : DiskV) : List Nat := D.list.filterMap numL
theorem filterMap_snoc {α β : Type} (f : α → Option β) (l : List α) {k : Nat} (hk : k < l.length) : (l.take (k + 1)).filterMap f = (l.take k).filterMap f ++ (match f l[k] with | some b => [b] | none => []) := by
  rw [List.take_succ_eq_append_getElem hk, List.filterMap_append]
  congr 1
  cases h : f l[k] <;> simp [h]
namespace Seg
theorem elemU64 : ElemOk Tryz.prog 85 31 1 8 := .of Tryz.underlying85 infoU64 rfl (by decide) (by decide)
def encU (u : Nat) : Value := .int .u64 u
theorem str_row {w : World} {base n : Nat} {v : Value} {l : List Bytes} (h : w.ownsRow base 9 1 v n (l.map encStr)) :
    ∃ A c, v = .slice A l.length c ∧ (l.length : Int) ≤ 9223372036854775807 ∧ ∀ k (hk : k < l.length), ∃ g, A = some ⟨g, 0, none⟩ ∧ base ≤ g ∧ g < w.heap.size ∧ w.cell? ⟨g, k, none⟩ = some (encStr l[k]) := by
  obtain ⟨hl, ⟨rfl, h0⟩ | ⟨g, cap, cur, rfl, hg, hb, hle, hmx, hsz, ht⟩⟩ := h
  · rw [List.length_map] at hl
    exact ⟨none, 0, by rw [show l.length = 0 by omega], by omega, fun k hk => absurd hk (by omega)⟩
  · have hmx2 : cap ≤ 2 ^ 63 - 1 := hmx
    rw [List.length_map] at hl
    refine ⟨_, _, by rw [show l.length = n by omega], by omega, fun k hk => ⟨g, rfl, hg, Heap.lt hb, ?_⟩⟩
    rw [Heap.cell hb, ← Array.getElem?_toList, ← List.getElem?_take_of_lt (j := n * 1) (by omega), ht, List.getElem?_map, List.getElem?_eq_getElem hk]
    rfl
set_option maxHeartbeats 1000000 in
set_option maxRecDepth 100000 in
theorem firsts_any (w : World) (d : Nat) (D : DiskV) (F : Nat → Prop) (h : DiskIn w d D F) (hm : D.names.length ≤ 1099511627776) (hn : ∀ s ∈ D.list, NameOk s) :
    Calls Tryz.prog 43 #[.pointer (some ⟨d, 0, none⟩)] w fun e w' => ∃ v, e = .returned v ∧ w'.ownsRow w.heap.size 31 1 v D.firsts.length (D.firsts.map encU) ∧ Off None w w' := by
  have hll : D.list.length ≤ 1099511627776 := by unfold DiskV.list; rw [List.length_mergeSort, List.length_map]; exact hm
  have HL := Lib.hid (DiskW.list_any w d D F h hm)
  have HN := Lib.hid hn
  clear h hm hn
  unfold DiskV.firsts
  obtain ⟨l, hl⟩ : ∃ l, l = D.list := ⟨_, rfl⟩
  rw [← hl] at HL HN hll ⊢
  clear hl
  go_enter Tryz.func43, Tryz.ntmps43
  go_wp2_with fail
  refine HL.out.mono ?_
  rintro e w1 ⟨v, rfl, hrow, hb⟩
  have HO := Lib.hid (Off.of_below hb : Off None w w1)
  obtain ⟨A, c, rfl, hfl, hcell⟩ := str_row hrow
  have HCELL := Lib.hid hcell
  clear hrow hcell hb HL
  go_wp2_with fail
  go_loopw [3, 11] (fun o i wr => ∃ (k : Nat) (ov : Value), ov = o ∧ k ≤ l.length ∧ i = .int .i64 k ∧ wr.ownsRow w1.heap.size 31 1 ov ((l.take k).filterMap numL).length (((l.take k).filterMap numL).map encU) ∧ Off None w1 wr) (fun _ i _ => l.length - (intOf i).toNat)
  case atStart => exact ⟨0, _, rfl, Nat.zero_le _, rfl, World.ownsRow_nil _ _ _ _, Off.refl _ _⟩
  case round =>
    obtain ⟨k, ov, rfl, hk, rfl, hrow, ho⟩ := hrel
    have HROW := Lib.hid hrow; clear hrow
    have HO1 := Lib.hid ho; clear ho
    by_cases hlt : k < l.length
    · obtain ⟨g, hA, hg1, hg2, c0⟩ := HCELL.out k hlt
      subst hA
      have hi0 : (0 : Int) ≤ (k : Int) := by omega
      have hi1 : (k : Int) < (l.length : Int) := by omega
      have hfs := filterMap_snoc numL l hlt
      have hnm := HN.out _ (List.getElem_mem hlt)
      obtain ⟨x, hx⟩ : ∃ x, x = l[k] := ⟨_, rfl⟩
      rw [← hx] at c0 hfs hnm
      clear hx
      have d0 : wr.cell? ⟨g, k, none⟩ = some (.string ⟨x.toArray⟩) := HO1.out.keep c0 (fun h => h)
      clear c0
      rcases hnm with ⟨u, hu, rfl⟩ | ⟨hx1, hx2⟩
      · rw [numL_name hu] at hfs
        have HFS := Lib.hid hfs; clear hfs
        have HNUM := Lib.hid (fun W => number_seg W u hu)
        go_wp2_with fail
        refine (HNUM.out _).mono ?_
        rintro e w2 ⟨rfl, ho2⟩
        have hoo := HO1.out.trans ho2 (fun _ _ h => h)
        have hrow2 := ho2.row HROW.out (fun _ _ h => h)
        have HO2 := Lib.hid hoo
        have HROW2 := Lib.hid hrow2
        have hlen : ((l.take k).filterMap numL).length ≤ k := Nat.le_trans (List.length_filterMap_le _ _) (List.length_take_le _ _)
        clear hoo hrow2 ho2 d0
        go_wp2_with (at_builtin; refine wpList_push rfl _ _ rfl elemU64 w1.heap.size ov ((l.take k).filterMap numL).length (((l.take k).filterMap numL).map encU) rfl HROW2.out #[.int .u64 u] rfl rfl (by intro u hu; simp at hu; subst hu; rfl) (by omega) HO2.out.size ?_; intro g5 cap5 w5 hrow5 hp5)
        case roundEnd =>
          refine ⟨⟨k + 1, _, rfl, hlt, by push_cast; rfl, ?_, ?_⟩, by simp [intOf]; omega⟩
          · rw [HFS.out, List.length_append, List.map_append]
            exact hrow5
          · exact HO2.out.trans hp5.off (fun b hb e => by have := (World.ownsRow.lt HROW2.out b e).1; omega)
      · have hn0 : numL x = none := by unfold numL; rw [if_neg hx1]
        rw [hn0, List.append_nil] at hfs
        have HFS := Lib.hid hfs; clear hfs hn0
        have HNUM := Lib.hid (fun W => number_other W ⟨x.toArray⟩ hx1 (by show x.length ≤ maxLen; unfold maxLen; omega))
        go_wp2_with fail
        refine (HNUM.out _).mono ?_
        rintro e w2 ⟨rfl, ho2⟩
        have HO2 := Lib.hid (HO1.out.trans ho2 (fun _ _ h => h))
        have HROW2 := Lib.hid (ho2.row HROW.out (fun _ _ h => h))
        clear ho2 d0
        go_wp2_with fail
        case roundEnd => exact ⟨⟨k + 1, _, rfl, hlt, by push_cast; rfl, by rw [HFS.out]; exact HROW2.out, HO2.out⟩, by simp [intOf]; omega⟩
    · have hkl : k = l.length := by omega
      subst hkl
      have hi1 : ¬ (l.length : Int) < (l.length : Int) := by omega
      have hr2 := HROW.out
      rw [List.take_length] at hr2
      have HR2 := Lib.hid hr2; clear hr2 HROW
      go_wp2_with fail
      go_ret
      exact ⟨_, rfl, ownsRow_base_a HR2.out HO.out.size, HO.out.trans HO1.out (fun _ _ h => h)⟩
end Seg
end Go.Proofs.YtnppdcegpojmbaaGreatDoor
