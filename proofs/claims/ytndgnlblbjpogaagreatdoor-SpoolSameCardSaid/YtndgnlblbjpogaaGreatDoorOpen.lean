/- A segment's number out of its name: the plain law, the walk of number. · What a file has of a segment: scan. · The numbers of a disk's segments: the walk of firsts. · The walk of Open of a log, on a disk that has segments. · The walk of Open of a log, on a disk that has no segment; Open on any disk. -/
import Derived.Test.YtndgnlblbjpogaaGreatDoorSeg9
import Derived.Shelf.Strings.SlTrimAscii
import Derived.Test.YtndgnlblbjpogaaGreatDoorPlain7
namespace Go.Proofs.YtndgnlblbjpogaaGreatDoor
open Go Go.RowKit Go.Shelf
/-- What digits spell, behind acc. -/
def valL (acc : Nat) : List UInt8 → Nat
  | [] => acc
  | c :: r => valL (acc * 10 + (c.toNat - 48)) r
def digitsOk (l : List UInt8) : Prop := ∀ c ∈ l, 48 ≤ c.toNat ∧ c.toNat ≤ 57
theorem valL_append (a b : List UInt8) : ∀ acc, valL acc (a ++ b) = valL (valL acc a) b := by
  induction a with
  | nil => intro acc; rfl
  | cons c r ih => intro acc; exact ih _
theorem valL_le (l : List UInt8) : ∀ acc, acc ≤ valL acc l := by
  induction l with
  | nil => intro acc; exact Nat.le_refl _
  | cons c r ih => intro acc; exact Nat.le_trans (by omega) (ih _)
theorem valL_zeros (n : Nat) : valL 0 (List.replicate n 48) = 0 := by
  induction n with
  | zero => rfl
  | succ n ih => rw [List.replicate_succ]; exact ih
theorem dig_ok {k : Nat} (hk : k < 10) : (UInt8.ofNat (48 + k)).toNat = 48 + k := by
  rw [UInt8.toNat_ofNat']; omega
theorem decDigits_val (u : Nat) : digitsOk (Lib.decDigits u) ∧ valL 0 (Lib.decDigits u) = u := by
  induction u using Nat.strongRecOn with
  | ind u ih =>
    rw [Lib.decDigits]
    by_cases h : u < 10
    · rw [dif_pos h]
      refine ⟨fun c hc => ?_, ?_⟩
      · rw [List.mem_singleton.1 hc, dig_ok h]; omega
      · show 0 * 10 + ((UInt8.ofNat (48 + u)).toNat - 48) = u
        rw [dig_ok h]; omega
    · rw [dif_neg h]
      obtain ⟨h1, h2⟩ := ih (u / 10) (by omega)
      have hk : u % 10 < 10 := Nat.mod_lt _ (by omega)
      refine ⟨fun c hc => ?_, ?_⟩
      · rcases List.mem_append.1 hc with h3 | h3
        · exact h1 c h3
        · rw [List.mem_singleton.1 h3, dig_ok hk]; omega
      · rw [valL_append, h2]
        show u / 10 * 10 + ((UInt8.ofNat (48 + u % 10)).toNat - 48) = u
        rw [dig_ok hk]; omega
theorem parse_val (l : List UInt8) (hd : digitsOk l) : ∀ acc, valL acc l ≤ 18446744073709551615 → Lib.parseUintM 18446744073709551615 acc l = .ok (valL acc l) := by
  induction l with
  | nil => intro acc _; rfl
  | cons c r ih =>
    intro acc hv
    have hc := hd c (by simp)
    have hle := valL_le r (acc * 10 + (c.toNat - 48))
    have hv2 : valL (acc * 10 + (c.toNat - 48)) r ≤ 18446744073709551615 := hv
    rw [Lib.parseUintM, if_pos hc, if_neg (by omega), if_neg (by omega)]
    exact ih (fun x hx => hd x (by simp [hx])) _ hv2
theorem drop_all (p : UInt8 → Bool) (l : List UInt8) (h : ∀ x ∈ l, p x = true) : l.dropWhile p = [] := by
  induction l with
  | nil => rfl
  | cons c r ih => rw [List.dropWhile_cons, if_pos (h c (by simp))]; exact ih (fun x hx => h x (by simp [hx]))
theorem trim_digits (l : List UInt8) (hd : digitsOk l) : Lib.trimS l [48, 49, 50, 51, 52, 53, 54, 55, 56, 57] = [] := by
  have hc : ∀ c : UInt8, 48 ≤ c.toNat ∧ c.toNat ≤ 57 → ([48, 49, 50, 51, 52, 53, 54, 55, 56, 57] : List UInt8).contains c = true := by
    intro c h
    rw [List.contains_iff_mem]
    have : c = UInt8.ofNat c.toNat := by simp
    rw [this]
    have h3 : c.toNat = 48 ∨ c.toNat = 49 ∨ c.toNat = 50 ∨ c.toNat = 51 ∨ c.toNat = 52 ∨ c.toNat = 53 ∨ c.toNat = 54 ∨ c.toNat = 55 ∨ c.toNat = 56 ∨ c.toNat = 57 := by omega
    rcases h3 with h | h | h | h | h | h | h | h | h | h <;> rw [h] <;> decide
  have hr : Lib.trimRightS l [48, 49, 50, 51, 52, 53, 54, 55, 56, 57] = [] := by
    unfold Lib.trimRightS
    rw [drop_all _ _ (fun x hx => hc x (hd x (List.mem_reverse.1 hx)))]
    rfl
  unfold Lib.trimS
  rw [hr]
  rfl
namespace Seg
/-- The digits of a segment's name. -/
def tailL (u : Nat) : List UInt8 := List.replicate (20 - Lib.nDigits u) 48 ++ Lib.decDigits u
theorem tail_val (u : Nat) : digitsOk (tailL u) ∧ valL 0 (tailL u) = u := by
  refine ⟨fun c hc => ?_, ?_⟩
  · rcases List.mem_append.1 hc with h | h
    · rw [(List.mem_replicate.1 h).2]; decide
    · exact (decDigits_val u).1 c h
  · unfold tailL
    rw [valL_append, valL_zeros]
    exact (decDigits_val u).2
theorem tail_len {u : Nat} (hu : u < 18446744073709551616) : (tailL u).length = 20 := by
  have h := nameL_length hu
  have e : (nameL u).length = (tailL u).length + 1 := rfl
  omega
theorem trim_any (w : World) (s : ByteArray) (hs : s.size ≤ 9223372036854775807) :
    Calls Tryz.prog 107 #[.string s, .string ⟨#[48, 49, 50, 51, 52, 53, 54, 55, 56, 57]⟩] w fun e w' => e = .returned (.string ⟨(Lib.trimS s.data.toList [48, 49, 50, 51, 52, 53, 54, 55, 56, 57]).toArray⟩) ∧ Off None w w' := by
  refine (Any.strings_Trim_laid Tryz.lays160 (by kernel_rfl) s ⟨#[48, 49, 50, 51, 52, 53, 54, 55, 56, 57]⟩ w hs (by decide) (ascii_of_all (by decide))).mono ?_
  rintro e w' ⟨rfl, hb⟩
  exact ⟨rfl, Off.of_below hb⟩
set_option maxRecDepth 100000 in
theorem number_seg (w : World) (u : Nat) (hu : u < 18446744073709551616) :
    Calls Tryz.prog 133 #[.string (nameB u)] w fun e w' => e = .returned (.tuple #[.int .u64 u, .bool true]) ∧ Off None w w' := by
  have hsz : (nameB u).size = 21 := nameL_length hu
  have hpre : Lib.hasPrefix (nameB u).data.toList [115] = true := by
    show Lib.hasPrefix (115 :: tailL u) [115] = true
    simp [Lib.hasPrefix]
  obtain ⟨t, ht⟩ : ∃ t : ByteArray, t = ⟨(tailL u).toArray⟩ := ⟨_, rfl⟩
  have hts : t.size = 20 := by rw [ht]; exact tail_len hu
  have htd : t.data.toList = tailL u := by rw [ht]
  have hex : (nameB u).extract 1 21 = t := by
    rw [ht]
    have h21 : ∀ l : List UInt8, l.length = 20 → (⟨(115 :: l).toArray⟩ : ByteArray).extract 1 21 = ⟨l.toArray⟩ := by
      intro l hl
      refine str_of ?_
      rw [ByteArray.data_extract, Array.toList_extract, List.extract_eq_take_drop]
      show (l.take 20) = l
      rw [List.take_of_length_le (by omega)]
    exact h21 _ (tail_len hu)
  have HTRIM := Lib.hid (fun W => trim_any W t (by omega))
  have htr : Lib.trimS t.data.toList [48, 49, 50, 51, 52, 53, 54, 55, 56, 57] = [] := by rw [htd]; exact trim_digits _ (tail_val u).1
  have hpo : Lib.parseUintB 64 t.data.toList = .ok u := by
    have h1 := parse_val (tailL u) (tail_val u).1 0 (by rw [(tail_val u).2]; omega)
    rw [(tail_val u).2] at h1
    unfold Lib.parseUintB
    rw [htd, if_neg (by intro h; have := tail_len hu; rw [h] at this; cases this)]
    exact h1
  have HPO := Lib.hid (fun W => Tryz.strconv_ParseUint_10_at64_ok t (by omega) u hpo W)
  obtain ⟨s, hs⟩ : ∃ s, s = nameB u := ⟨_, rfl⟩
  rw [← hs] at hsz hpre hex ⊢
  have HS := Lib.hid hs; clear hs
  have HX := Lib.hid hex; clear hex
  have hpc := fun W => Tryz.strings_HasPrefix s ⟨#[115]⟩ W
  rw [hpre] at hpc
  have HPC := Lib.hid hpc; clear hpc hpre ht
  rw [htr] at HTRIM
  clear htr
  go_enter Tryz.func133, Tryz.ntmps133
  go_wp2_with fail
  refine (HPC.out _).mono ?_
  rintro e w1 ⟨rfl, hw1⟩
  subst hw1
  go_wp2_with fail
  rw [HX.out]
  refine (HTRIM.out _).mono ?_
  rintro e w2 ⟨rfl, ho2⟩
  go_wp2_with fail
  rw [HX.out]
  refine (HPO.out _).mono ?_
  rintro e w3 ⟨rfl, hw3⟩
  have ho3 : Off None w1 w3 := by
    rcases hw3 with rfl | rfl
    · exact ho2
    · exact ho2.trans (Off.of_below (Lib.bytesWorld_below _ _ _) : Off None w2 _) (fun _ _ h => h)
  have HO3 := Lib.hid ho3
  clear hw3 ho2 ho3 hpo htd HPO HTRIM
  go_wp2_with fail
  go_quiet (fail)
  go_wp2
  go_ret2
  exact ⟨rfl, HO3.out.drewN _⟩
set_option maxRecDepth 100000 in
theorem number_other (w : World) (s : ByteArray) (hs : s.size ≠ 21) (hm : s.size ≤ maxLen) :
    Calls Tryz.prog 133 #[.string s] w fun e w' => e = .returned (.tuple #[.int .u64 (0 : Nat), .bool false]) ∧ Off None w w' := by
  have hm2 : s.size ≤ 2 ^ 63 - 1 := hm
  have h1 : ((s.size : Int) == 21) = false := beq_eq_false_iff_ne.2 (by omega)
  have h2 : ((s.size : Int) != 21) = true := bne_iff_ne.2 (by omega)
  go_enter Tryz.func133, Tryz.ntmps133
  go_wp2
  go_ret2
  exact ⟨rfl, Off.refl _ _⟩
end Seg
end Go.Proofs.YtndgnlblbjpogaaGreatDoor
namespace Go.Proofs.YtndgnlblbjpogaaGreatDoor
open Go Go.RowKit Go.Shelf Go.Sort
/-- The frames that bear the numbers f, f + 1, .. -/
def fitL (f : Nat) : List Frame.FrameV → List Frame.FrameV
  | [] => []
  | x :: r => if x.seq = f then x :: fitL (f + 1) r else []
def scanSeg (f : Nat) (s : List UInt8) : SegV := ⟨f, (fitL f (Frame.scanL s)).length, Frame.sizes (fitL f (Frame.scanL s))⟩
theorem fitL_take (l : List Frame.FrameV) : ∀ f, fitL f l = l.take (fitL f l).length ∧ (fitL f l).length ≤ l.length := by
  induction l with
  | nil => intro f; exact ⟨rfl, Nat.le_refl _⟩
  | cons x r ih =>
    intro f
    unfold fitL
    by_cases h : x.seq = f
    · rw [if_pos h, List.length_cons, List.take_succ_cons]
      have := ih (f + 1)
      refine ⟨?_, by rw [List.length_cons]; omega⟩
      rw [← this.1]
    · rw [if_neg h]; exact ⟨rfl, Nat.zero_le _⟩
theorem fitL_in (l : List Frame.FrameV) : ∀ f k (hk : k < l.length), k < (fitL f l).length → l[k].seq = f + k := by
  induction l with
  | nil => intro f k hk; exact absurd hk (by simp)
  | cons x r ih =>
    intro f k hk h
    unfold fitL at h
    by_cases hx : x.seq = f
    · rw [if_pos hx, List.length_cons] at h
      cases k with
      | zero => exact hx
      | succ k =>
        have := ih (f + 1) k (by simpa using hk) (by omega)
        rw [List.getElem_cons_succ, this]; omega
    · rw [if_neg hx] at h; exact absurd h (by simp)
theorem fitL_out (l : List Frame.FrameV) : ∀ f (hk : (fitL f l).length < l.length), l[(fitL f l).length].seq ≠ f + (fitL f l).length := by
  induction l with
  | nil => intro f hk; exact absurd hk (by simp [fitL])
  | cons x r ih =>
    intro f hk
    by_cases hx : x.seq = f
    · have e : (fitL f (x :: r)).length = (fitL (f + 1) r).length + 1 := by rw [fitL, if_pos hx, List.length_cons]
      have h2 : (fitL (f + 1) r).length < r.length := by rw [e, List.length_cons] at hk; omega
      have := ih (f + 1) h2
      have e2 : (x :: r)[(fitL f (x :: r)).length] = r[(fitL (f + 1) r).length] := by
        rw [← Option.some.injEq, ← List.getElem?_eq_getElem, ← List.getElem?_eq_getElem, e, List.getElem?_cons_succ]
      rw [e2, e]
      omega
    · have e : (fitL f (x :: r)).length = 0 := by rw [fitL, if_neg hx]; rfl
      have e2 : (x :: r)[(fitL f (x :: r)).length] = x := by
        rw [← Option.some.injEq, ← List.getElem?_eq_getElem, e]; rfl
      rw [e2, e]
      omega
theorem sizes_take_succ (l : List Frame.FrameV) {k : Nat} (hk : k < l.length) : Frame.sizes (l.take (k + 1)) = Frame.sizes (l.take k) + l[k].size := by
  unfold Frame.sizes
  rw [List.take_succ_eq_append_getElem hk, List.map_append, List.sum_append]
  simp
theorem sizes_take_le (l : List Frame.FrameV) (k : Nat) : Frame.sizes (l.take k) ≤ Frame.sizes l := by
  unfold Frame.sizes
  conv => rhs; rw [← List.take_append_drop k l, List.map_append, List.sum_append]
  omega
theorem frame_cell (fs : List Frame.FrameV) : ∀ {j i : Nat} (hj : j < fs.length) (_ : i < 3), (fs.flatMap Frame.frameCells)[j * 3 + i]? = (Frame.frameCells fs[j])[i]? := by
  induction fs with
  | nil => intro j i hj; exact absurd hj (by simp)
  | cons g r ih =>
    intro j i hj hi
    rw [List.flatMap_cons]
    have hl : (Frame.frameCells g).length = 3 := rfl
    cases j with
    | zero =>
      rw [List.getElem?_append_left (by omega), Nat.zero_mul, Nat.zero_add]
      rfl
    | succ j =>
      rw [List.getElem?_append_right (by omega), hl, show (j + 1) * 3 + i - 3 = j * 3 + i by omega, ih (by simpa using hj) hi]
      rfl
theorem frames_row {w : World} {base : Nat} {v : Value} {fs : List Frame.FrameV} (h : w.ownsRow base 138 3 v fs.length (fs.flatMap Frame.frameCells)) :
    ∃ A c, v = .slice A fs.length c ∧ (fs.length : Int) ≤ 9223372036854775807 ∧ ∀ k (hk : k < fs.length), ∃ g, A = some ⟨g, 0, none⟩ ∧ base ≤ g ∧ g < w.heap.size ∧ w.cell? ⟨g, k * 3, none⟩ = some (.int .u64 fs[k].seq) ∧ w.cell? ⟨g, k * 3 + 1, none⟩ = some (.string ⟨fs[k].body.toArray⟩) ∧ w.cell? ⟨g, k * 3 + 2, none⟩ = some (.int .i64 fs[k].size) := by
  obtain ⟨hl, ⟨rfl, h0⟩ | ⟨g, cap, cur, rfl, hg, hb, hle, hmx, hsz, ht⟩⟩ := h
  · exact ⟨none, 0, by rw [h0], by omega, fun k hk => absurd hk (by omega)⟩
  · have hmx2 : cap ≤ 2 ^ 63 - 1 := hmx
    refine ⟨_, _, rfl, by omega, fun k hk => ⟨g, rfl, hg, Heap.lt hb, ?_, ?_, ?_⟩⟩
    · rw [Heap.cell hb, ← Array.getElem?_toList, ← List.getElem?_take_of_lt (j := fs.length * 3) (by omega), ht]; exact frame_cell fs (i := 0) hk (by omega)
    · rw [Heap.cell hb, ← Array.getElem?_toList, ← List.getElem?_take_of_lt (j := fs.length * 3) (by omega), ht]; exact frame_cell fs (i := 1) hk (by omega)
    · rw [Heap.cell hb, ← Array.getElem?_toList, ← List.getElem?_take_of_lt (j := fs.length * 3) (by omega), ht]; exact frame_cell fs (i := 2) hk (by omega)
namespace Seg
theorem infoSeg : (Tryz.prog.info? 81).map (·.size) = some 3 := by kernel_rfl
set_option maxHeartbeats 1000000 in
set_option maxRecDepth 100000 in
theorem scan_any (w : World) (f : Nat) (s : ByteArray) (hs : s.size ≤ 1099511627776) (hf : f + s.size < 9223372036854775808) (hT : Crc.TabOk w) :
    Calls Tryz.prog 104 #[.int .u64 f, .string s] w fun e w' =>
      e = .returned (.tuple #[segAgg (scanSeg f s.data.toList), .bool (decide ((scanSeg f s.data.toList).size < s.size))]) ∧ Off None w w' := by
  have hsz := Frame.sizes_le s.size s.data.toList (by show s.data.toList.length ≤ _; simp)
  have HT := Lib.hid hT; clear hT
  obtain ⟨fs, hfs⟩ : ∃ fs, fs = Frame.scanL s.data.toList := ⟨_, rfl⟩
  obtain ⟨m, hm⟩ : ∃ m, m = (fitL f fs).length := ⟨_, rfl⟩
  have h1 := fitL_take fs f
  have h2 := fitL_in fs f
  have h3 := fitL_out fs f
  rw [← hm] at h1 h2
  have hml := h1.2
  have HFS := Lib.hid hfs
  have hsp : scanSeg f s.data.toList = ⟨f, m, Frame.sizes (fs.take m)⟩ := by unfold scanSeg; rw [← hfs, ← h1.1, ← hm]
  have HSP := Lib.hid hsp
  have H2 := Lib.hid h2
  have H3 := Lib.hid (fun (h : m < fs.length) => (by have := h3 (by rw [← hm]; exact h); simpa [← hm] using this : fs[m].seq ≠ f + m))
  rw [← hfs] at hsz
  clear hsp h1 h2 h3 hm
  rw [HSP.out]
  have HSC := Lib.hid (fun (W : World) (h : Off None w W) => Frame.scan_any W s hs (HT.out.off h (fun h => h)))
  rw [← hfs] at HSC
  clear hfs
  go_enter Tryz.func104, Tryz.ntmps104
  go_wp2_with fail
  obtain ⟨wb, hwb⟩ : ∃ wb, wb = (w.alloc (.cells #[.int .u64 0, .int .i64 0, .int .i64 0] 81)).alloc (.cells #[.int .u64 f, .int .i64 0, .int .i64 0] 81) := ⟨_, rfl⟩
  have hs1 : wb.heap.size = w.heap.size + 2 := by rw [hwb, Heap.alloc_size, Heap.alloc_size]
  have hbr : wb.heap[w.heap.size]? = some (.cells #[.int .u64 0, .int .i64 0, .int .i64 0] 81 (0, 0)) := by rw [hwb]; exact Heap.alloc_old (Heap.alloc_new w _) _
  have hbx : wb.heap[w.heap.size + 1]? = some (.cells #[.int .u64 f, .int .i64 0, .int .i64 0] 81 (0, 0)) := by
    have h := Heap.alloc_new (w.alloc (.cells #[.int .u64 0, .int .i64 0, .int .i64 0] 81)) (.cells #[.int .u64 f, .int .i64 0, .int .i64 0] 81)
    rw [Heap.alloc_size] at h; rw [hwb]; exact h
  have hob : Off None w wb := by rw [hwb]; exact ((Off.refl None w).alloc _).alloc _
  rw [← hwb]
  clear hwb
  have HOB := Lib.hid hob; clear hob
  refine (HSC.out wb HOB.out).mono ?_
  rintro e w1 ⟨v, rfl, hrow, ho1⟩
  obtain ⟨bx, hx⟩ : ∃ bx, bx = w.heap.size + 1 := ⟨_, rfl⟩
  obtain ⟨br, hr⟩ : ∃ br, br = w.heap.size := ⟨_, rfl⟩
  rw [← hx] at hbx ⊢
  rw [← hr] at hbr ⊢
  have hxr : br < bx := by omega
  have hxw : w.heap.size ≤ br := by omega
  have hxs : bx < wb.heap.size := by omega
  have HBR := Lib.hid (ho1.at_ hbr (fun h => h))
  have HBX := Lib.hid (ho1.at_ hbx (fun h => h))
  have HO1 := Lib.hid (HOB.out.trans ho1 (fun _ _ h => h))
  clear HSC HT HFS HSP hbr hbx
  have HX := Lib.hid hx
  have HR := Lib.hid hr
  clear hx hr
  obtain ⟨A, c, rfl, hfl, hfr⟩ := frames_row hrow
  have HFR := Lib.hid hfr
  clear hrow hfr ho1
  have hds : s.data.toList.length = s.size := by simp
  have hsz1 : Frame.sizes fs ≤ s.size := by omega
  have hsz2 : fs.length ≤ s.size := by omega
  clear hsz hds
  go_wp2_with fail
  go_loopw [20] (fun i wr => ∃ k : Nat, k ≤ m ∧ i = .int .i64 k ∧ wr.heap[bx]? = some (.cells #[.int .u64 f, .int .i64 k, .int .i64 ((Frame.sizes (fs.take k) : Nat) : Int)] 81 (0, 0)) ∧ Off (Only bx) w1 wr) (fun i _ => fs.length - (intOf i).toNat)
  case atStart => exact ⟨0, Nat.zero_le _, rfl, HBX.out, Off.refl _ _⟩
  case round =>
    obtain ⟨k, hk, rfl, hbx, ho⟩ := hrel
    have HO := Lib.hid ho; clear ho
    have hst := sizes_take_le fs k
    by_cases hlt : k < fs.length
    · obtain ⟨g, hA, hg1, hg2, c0, c1, c2⟩ := HFR.out k hlt
      subst hA
      have hst1 := sizes_take_succ fs hlt
      have hst2 := sizes_take_le fs (k + 1)
      obtain ⟨y, hy⟩ : ∃ y, y = Frame.sizes (fs.take k) := ⟨_, rfl⟩
      obtain ⟨q, hq⟩ : ∃ q, q = fs[k].seq := ⟨_, rfl⟩
      obtain ⟨z, hz⟩ : ∃ z, z = fs[k].size := ⟨_, rfl⟩
      obtain ⟨bd, hbd⟩ : ∃ bd : ByteArray, bd = ⟨fs[k].body.toArray⟩ := ⟨_, rfl⟩
      rw [← hy] at hbx hst1 hst
      rw [← hz] at hst1 c2
      rw [← hq] at c0
      rw [← hbd] at c1
      have HQ := Lib.hid hq
      have HYY := Lib.hid hy
      have HST := Lib.hid hst1
      have hyz : y + z ≤ s.size := by omega
      have d0 := HO.out.keep c0 (show ¬ g = bx by omega)
      have d1 := HO.out.keep c1 (show ¬ g = bx by omega)
      have d2 := HO.out.keep c2 (show ¬ g = bx by omega)
      clear hq hz hbd hst1 hst2 hy c0 c1 c2
      have e0 : wr.cell? ⟨bx, 0, none⟩ = some (.int .u64 f) := Heap.cell hbx 0
      have e1 : wr.cell? ⟨bx, 1, none⟩ = some (.int .i64 k) := Heap.cell hbx 1
      have e2 : wr.cell? ⟨bx, 2, none⟩ = some (.int .i64 y) := Heap.cell hbx 2
      have f0 := fun i => Heap.frozen hbx i
      have f1 := f0 1
      have f2 := f0 2
      have hbs : bx < wr.heap.size := Heap.lt hbx
      have hi0 : (0 : Int) ≤ (k : Int) := by omega
      have hi1 : (k : Int) < (fs.length : Int) := by omega
      clear f0
      obtain ⟨E, hE⟩ : ∃ E, E = f + k := ⟨_, rfl⟩
      have hok : (⟨f, k, y⟩ : SegV).Ok := ⟨by show f + k < _; omega, by show k ≤ _; omega, by show y ≤ _; omega⟩
      have hcE : ∀ (W : World), Calls Tryz.prog 86 #[.agg #[.int .u64 f, .int .i64 k, .int .i64 y]] W fun e w' => e = .returned (.int .u64 E) ∧ Off None W w' := by
        intro W
        have := end_any W ⟨f, k, y⟩ hok
        rw [hE]
        exact this
      have HCE := Lib.hid hcE
      have HEE := Lib.hid hE
      clear hcE hok hE
      obtain ⟨wc, hwc⟩ : ∃ wc, wc = wr.alloc (.cells #[.int .u64 q, .string bd, .int .i64 z] 138) := ⟨_, rfl⟩
      obtain ⟨bf, hbf⟩ : ∃ bf, bf = wr.heap.size := ⟨_, rfl⟩
      have hbc : wc.heap[bf]? = some (.cells #[.int .u64 q, .string bd, .int .i64 z] 138 (0, 0)) := by rw [hwc, hbf]; exact Heap.alloc_new wr _
      have hxc : wc.heap[bx]? = some (.cells #[.int .u64 f, .int .i64 k, .int .i64 y] 81 (0, 0)) := by rw [hwc]; exact Heap.alloc_old hbx _
      have hoc : Off (Only bx) w1 wc := by rw [hwc]; exact HO.out.alloc _
      have HBC := Lib.hid hbc
      have HXC := Lib.hid hxc
      have HOC := Lib.hid hoc
      have hbfx : bf ≠ bx := by omega
      have HWC := Lib.hid hwc
      have HBF := Lib.hid hbf
      clear hbc hxc hoc hbx hwc hbf
      go_wp2_with fail
      rw [← HWC.out, ← HBF.out]
      clear HWC HBF d0 d1 d2 e0 e1 e2 f1 f2
      have cE : ∀ dd os, Calls Tryz.prog 86 #[.agg #[.int .u64 f, .int .i64 k, .int .i64 y]] (grow (redrawn wc dd) os) fun e w'' => e = .returned (.int .u64 E) ∧ ∃ p : Regrown, w'' = grow (redrawn wc p.d) p.os := fun dd os => Calls.quietly (HCE.out _)
      have k0 := cell_regrown (show wc.cell? ⟨bf, 0, none⟩ = some (.int .u64 q) from Heap.cell HBC.out 0)
      have k1 := cell_regrown (show wc.cell? ⟨bx, 0, none⟩ = some (.int .u64 f) from Heap.cell HXC.out 0)
      have k2 := cell_regrown (show wc.cell? ⟨bx, 1, none⟩ = some (.int .i64 k) from Heap.cell HXC.out 1)
      have k3 := cell_regrown (show wc.cell? ⟨bx, 2, none⟩ = some (.int .i64 y) from Heap.cell HXC.out 2)
      refine wp_region_quiet_below (by kernel_rfl) (by kernel_rfl) ?_
      repeat (quiet_step (first | exact cE _ _))
      refine wpQuiet_nil ?_
      intro w2 hw'
      have ho2 : Off None wc w2 := by
        obtain ⟨⟨dq, osq⟩, rfl⟩ := hw'
        exact Off.of_below (below_regrown wc dq osq)
      clear hw' k0 k1 k2 k3 cE
      have hb2 := ho2.at_ HBC.out (fun h => h)
      have hx2 := ho2.at_ HXC.out (fun h => h)
      have HO2 := Lib.hid (HOC.out.trans ho2 (fun _ _ h => h.elim))
      have e0 : w2.cell? ⟨bx, 0, none⟩ = some (.int .u64 f) := Heap.cell hx2 0
      have e1 : w2.cell? ⟨bx, 1, none⟩ = some (.int .i64 k) := Heap.cell hx2 1
      have e2 : w2.cell? ⟨bx, 2, none⟩ = some (.int .i64 y) := Heap.cell hx2 2
      have f1 := Heap.frozen hx2 1
      have f2 := Heap.frozen hx2 2
      have d2 : w2.cell? ⟨bf, 2, none⟩ = some (.int .i64 z) := Heap.cell hb2 2
      have HX2 := Lib.hid hx2
      clear ho2 HO HOC HBC HXC hb2 hx2
      by_cases hkm : k < m
      · have hqe : q = E := by rw [HQ.out, HEE.out]; exact H2.out k hlt hkm
        subst hqe
        go_wp2_with fail
        case roundEnd =>
          refine ⟨⟨k + 1, hkm, by push_cast; rfl, ?_, (HO2.out.set 1 _).set 2 _⟩, by simp [intOf]; omega⟩
          rw [Heap.set (Heap.set HX2.out 1 _) 2 _, HST.out]
          push_cast
          rfl
      · have hkm2 : k = m := by omega
        subst hkm2
        have hqe : q ≠ E := by rw [HQ.out, HEE.out]; exact H3.out hlt
        have t1 : ((q : Int) != (E : Int)) = true := by rw [bne_iff_ne]; omega
        have t2 : ((q : Int) == (E : Int)) = false := by rw [beq_eq_false_iff_ne]; omega
        have hbr2 := HO2.out.at_ HBR.out (show ¬ br = bx by omega)
        have r0 : w2.cell? ⟨br, 0, none⟩ = some (.int .u64 0) := Heap.cell hbr2 0
        have r1 : w2.cell? ⟨br, 1, none⟩ = some (.int .i64 0) := Heap.cell hbr2 1
        have r2 : w2.cell? ⟨br, 2, none⟩ = some (.int .i64 0) := Heap.cell hbr2 2
        have g0 := Heap.frozen hbr2 0
        have g1 := Heap.frozen hbr2 1
        have g2 := Heap.frozen hbr2 2
        have hbl : br < w2.heap.size := Heap.lt hbr2
        have HB2 := Lib.hid hbr2; clear hbr2 HQ HEE
        go_wp2_with fail
        go_region
        all_goals go_wp2
        refine bodyPost_ret_by (Frame.results_row_tmp rfl _ _ br _ _ _ _ rfl (Frame.box3 HB2.out _ _ _) Tryz.underlying81 rfl infoSeg) rfl ⟨?_, ?_⟩
        · rw [← HYY.out]; rfl
        · exact ((((HO1.out.trans HO2.out (fun b hb e => by have e : b = bx := e; omega)).setCell (p := ⟨br, 0, none⟩) (.inr hxw) _).setCell (p := ⟨br, 1, none⟩) (.inr hxw) _).setCell (p := ⟨br, 2, none⟩) (.inr hxw) _).drew
    · have hkl : k = fs.length := by omega
      have hkm : k = m := by omega
      subst hkm
      have hbr2 := HO.out.at_ HBR.out (show ¬ br = bx by omega)
      obtain ⟨y, hy⟩ : ∃ y, y = Frame.sizes (fs.take k) := ⟨_, rfl⟩
      rw [← hy] at hbx hst
      have hy2 : y ≤ s.size := by omega
      have hy3 : y = Frame.sizes fs := by rw [hy, hkl, List.take_length]
      have HYY := Lib.hid hy3; clear hy hy3
      have e0 : wr.cell? ⟨bx, 0, none⟩ = some (.int .u64 f) := Heap.cell hbx 0
      have e1 : wr.cell? ⟨bx, 1, none⟩ = some (.int .i64 k) := Heap.cell hbx 1
      have e2 : wr.cell? ⟨bx, 2, none⟩ = some (.int .i64 y) := Heap.cell hbx 2
      have r0 : wr.cell? ⟨br, 0, none⟩ = some (.int .u64 0) := Heap.cell hbr2 0
      have r1 : wr.cell? ⟨br, 1, none⟩ = some (.int .i64 0) := Heap.cell hbr2 1
      have r2 : wr.cell? ⟨br, 2, none⟩ = some (.int .i64 0) := Heap.cell hbr2 2
      have g0 := Heap.frozen hbr2 0
      have g1 := Heap.frozen hbr2 1
      have g2 := Heap.frozen hbr2 2
      have hbl : br < wr.heap.size := Heap.lt hbr2
      have HB2 := Lib.hid hbr2; clear hbr2 hbx
      have hi1 : ¬ (k : Int) < (fs.length : Int) := by omega
      go_wp2_with fail
      go_region
      all_goals go_wp2
      refine bodyPost_ret_by (Frame.results_row_tmp rfl _ _ br _ _ _ _ rfl (Frame.box3 HB2.out _ _ _) Tryz.underlying81 rfl infoSeg) rfl ⟨?_, ?_⟩
      · obtain rfl := HYY.out
        subst hkl
        rw [List.take_length]; rfl
      · exact ((((HO1.out.trans HO.out (fun b hb e => by have e : b = bx := e; omega)).setCell (p := ⟨br, 0, none⟩) (.inr hxw) _).setCell (p := ⟨br, 1, none⟩) (.inr hxw) _).setCell (p := ⟨br, 2, none⟩) (.inr hxw) _).drew
end Seg
end Go.Proofs.YtndgnlblbjpogaaGreatDoor
namespace Go.Proofs.YtndgnlblbjpogaaGreatDoor
open Go Go.RowKit Go.Shelf Go.Sort
/-- The number that a segment's name has; any other name has none. -/
def numL (s : Bytes) : Option Nat := if s.length = 21 then some (valL 0 (s.drop 1)) else none
theorem numL_name {u : Nat} (hu : u < 18446744073709551616) : numL (Seg.nameL u) = some u := by
  unfold numL
  rw [if_pos (Seg.nameL_length hu)]
  exact congrArg some (Seg.tail_val u).2
/-- A segment's name, or one of another length. -/
def NameOk (s : Bytes) : Prop := (∃ u, u < 18446744073709551616 ∧ s = Seg.nameL u) ∨ (s.length ≠ 21 ∧ s.length ≤ 1099511627776)
def DiskV.firsts (D : DiskV) : List Nat := D.list.filterMap numL
theorem filterMap_snoc {α β : Type} (f : α → Option β) (l : List α) {k : Nat} (hk : k < l.length) : (l.take (k + 1)).filterMap f = (l.take k).filterMap f ++ (match f l[k] with | some b => [b] | none => []) := by
  rw [List.take_succ_eq_append_getElem hk, List.filterMap_append]
  congr 1
  cases h : f l[k] <;> simp [h]
namespace Seg
theorem elemU64 : ElemOk Tryz.prog 45 31 1 8 := .of Tryz.underlying45 infoU64 rfl (by decide) (by decide)
def encU (u : Nat) : Value := .int .u64 u
theorem str_row {w : World} {base n : Nat} {v : Value} {l : List Bytes} (h : w.ownsRow base 9 1 v n (l.map encStr)) :
    ∃ A c, v = .slice A l.length c ∧ (l.length : Int) ≤ 9223372036854775807 ∧ ∀ k (hk : k < l.length), ∃ g, A = some ⟨g, 0, none⟩ ∧ base ≤ g ∧ g < w.heap.size ∧ w.cell? ⟨g, k, none⟩ = some (encStr l[k]) := by
  obtain ⟨hl, ⟨rfl, h0⟩ | ⟨g, cap, cur, rfl, hg, hb, hle, hmx, hsz, ht⟩⟩ := h
  · rw [List.length_map] at hl
    exact ⟨none, 0, by rw [show l.length = 0 by omega], by omega, fun k hk => absurd hk (by omega)⟩
  · have hmx2 : cap ≤ 2 ^ 63 - 1 := hmx
    rw [List.length_map] at hl
    refine ⟨_, _, by rw [show l.length = n by omega], by omega, fun k hk => ⟨g, rfl, hg, Heap.lt hb, ?_⟩⟩
    rw [Heap.cell hb, ← Array.getElem?_toList, ← List.getElem?_take_of_lt (j := n * 1) (by omega), ht, List.getElem?_map, List.getElem?_eq_getElem hk]
    rfl
set_option maxHeartbeats 1000000 in
set_option maxRecDepth 100000 in
theorem firsts_any (w : World) (d : Nat) (D : DiskV) (F : Nat → Prop) (h : DiskIn w d D F) (hm : D.names.length ≤ 1099511627776) (hn : ∀ s ∈ D.list, NameOk s) :
    Calls Tryz.prog 103 #[.pointer (some ⟨d, 0, none⟩)] w fun e w' => ∃ v, e = .returned v ∧ w'.ownsRow w.heap.size 31 1 v D.firsts.length (D.firsts.map encU) ∧ Off None w w' := by
  have hll : D.list.length ≤ 1099511627776 := by unfold DiskV.list; rw [List.length_mergeSort, List.length_map]; exact hm
  have HL := Lib.hid (DiskW.list_any w d D F h hm)
  have HN := Lib.hid hn
  clear h hm hn
  unfold DiskV.firsts
  obtain ⟨l, hl⟩ : ∃ l, l = D.list := ⟨_, rfl⟩
  rw [← hl] at HL HN hll ⊢
  clear hl
  go_enter Tryz.func103, Tryz.ntmps103
  go_wp2_with fail
  refine HL.out.mono ?_
  rintro e w1 ⟨v, rfl, hrow, hb⟩
  have HO := Lib.hid (Off.of_below hb : Off None w w1)
  obtain ⟨A, c, rfl, hfl, hcell⟩ := str_row hrow
  have HCELL := Lib.hid hcell
  clear hrow hcell hb HL
  go_wp2_with fail
  go_loopw [3, 11] (fun o i wr => ∃ (k : Nat) (ov : Value), ov = o ∧ k ≤ l.length ∧ i = .int .i64 k ∧ wr.ownsRow w1.heap.size 31 1 ov ((l.take k).filterMap numL).length (((l.take k).filterMap numL).map encU) ∧ Off None w1 wr) (fun _ i _ => l.length - (intOf i).toNat)
  case atStart => exact ⟨0, _, rfl, Nat.zero_le _, rfl, World.ownsRow_nil _ _ _ _, Off.refl _ _⟩
  case round =>
    obtain ⟨k, ov, rfl, hk, rfl, hrow, ho⟩ := hrel
    have HROW := Lib.hid hrow; clear hrow
    have HO1 := Lib.hid ho; clear ho
    by_cases hlt : k < l.length
    · obtain ⟨g, hA, hg1, hg2, c0⟩ := HCELL.out k hlt
      subst hA
      have hi0 : (0 : Int) ≤ (k : Int) := by omega
      have hi1 : (k : Int) < (l.length : Int) := by omega
      have hfs := filterMap_snoc numL l hlt
      have hnm := HN.out _ (List.getElem_mem hlt)
      obtain ⟨x, hx⟩ : ∃ x, x = l[k] := ⟨_, rfl⟩
      rw [← hx] at c0 hfs hnm
      clear hx
      have d0 : wr.cell? ⟨g, k, none⟩ = some (.string ⟨x.toArray⟩) := HO1.out.keep c0 (fun h => h)
      clear c0
      rcases hnm with ⟨u, hu, rfl⟩ | ⟨hx1, hx2⟩
      · rw [numL_name hu] at hfs
        have HFS := Lib.hid hfs; clear hfs
        have HNUM := Lib.hid (fun W => number_seg W u hu)
        go_wp2_with fail
        refine (HNUM.out _).mono ?_
        rintro e w2 ⟨rfl, ho2⟩
        have hoo := HO1.out.trans ho2 (fun _ _ h => h)
        have hrow2 := ho2.row HROW.out (fun _ _ h => h)
        have HO2 := Lib.hid hoo
        have HROW2 := Lib.hid hrow2
        have hlen : ((l.take k).filterMap numL).length ≤ k := Nat.le_trans (List.length_filterMap_le _ _) (List.length_take_le _ _)
        clear hoo hrow2 ho2 d0
        go_wp2_with (at_builtin; refine wpList_push rfl _ _ rfl elemU64 w1.heap.size ov ((l.take k).filterMap numL).length (((l.take k).filterMap numL).map encU) rfl HROW2.out #[.int .u64 u] rfl rfl (by intro u hu; simp at hu; subst hu; rfl) (by omega) HO2.out.size ?_; intro g5 cap5 w5 hrow5 hp5)
        case roundEnd =>
          refine ⟨⟨k + 1, _, rfl, hlt, by push_cast; rfl, ?_, ?_⟩, by simp [intOf]; omega⟩
          · rw [HFS.out, List.length_append, List.map_append]
            exact hrow5
          · exact HO2.out.trans hp5.off (fun b hb e => by have := (World.ownsRow.lt HROW2.out b e).1; omega)
      · have hn0 : numL x = none := by unfold numL; rw [if_neg hx1]
        rw [hn0, List.append_nil] at hfs
        have HFS := Lib.hid hfs; clear hfs hn0
        have HNUM := Lib.hid (fun W => number_other W ⟨x.toArray⟩ hx1 (by show x.length ≤ maxLen; unfold maxLen; omega))
        go_wp2_with fail
        refine (HNUM.out _).mono ?_
        rintro e w2 ⟨rfl, ho2⟩
        have HO2 := Lib.hid (HO1.out.trans ho2 (fun _ _ h => h))
        have HROW2 := Lib.hid (ho2.row HROW.out (fun _ _ h => h))
        clear ho2 d0
        go_wp2_with fail
        case roundEnd => exact ⟨⟨k + 1, _, rfl, hlt, by push_cast; rfl, by rw [HFS.out]; exact HROW2.out, HO2.out⟩, by simp [intOf]; omega⟩
    · have hkl : k = l.length := by omega
      subst hkl
      have hi1 : ¬ (l.length : Int) < (l.length : Int) := by omega
      have hr2 := HROW.out
      rw [List.take_length] at hr2
      have HR2 := Lib.hid hr2; clear hr2 HROW
      go_wp2_with fail
      go_ret
      exact ⟨_, rfl, ownsRow_base_a HR2.out HO.out.size, HO.out.trans HO1.out (fun _ _ h => h)⟩
end Seg
end Go.Proofs.YtndgnlblbjpogaaGreatDoor
namespace Go.Proofs.YtndgnlblbjpogaaGreatDoor
open Go Go.RowKit Go.Shelf Go.Sort
/-- One segment: what is read of it, and whether there is more; the disk and the error behind it. -/
def openOne (D : DiskV) (u : Nat) (next : Option Nat) : DiskV × Int × SegV :=
  if (D.read (Seg.nameB u)).2 ≠ 0 then (D, (D.read (Seg.nameB u)).2, ⟨u, 0, 0⟩)
  else
    let s := (D.read (Seg.nameB u)).1
    let x := scanSeg u s.data.toList
    match next with
    | some v => if x.size < s.size ∨ x.end_ ≠ v then (D, 2, x) else (D, 0, x)
    | none =>
      if x.size < s.size then
        if (D.cut (Seg.nameB u) x.size).2 ≠ 0 then ((D.cut (Seg.nameB u) x.size).1, (D.cut (Seg.nameB u) x.size).2, x)
        else ((((D.cut (Seg.nameB u) x.size).1).sync (Seg.nameB u)).1, (((D.cut (Seg.nameB u) x.size).1).sync (Seg.nameB u)).2, x)
      else ((D.sync (Seg.nameB u)).1, (D.sync (Seg.nameB u)).2, x)
/-- What Open does with the segments that a disk has. -/
def openGo (D : DiskV) (acc : List SegV) : List Nat → DiskV × Int × List SegV
  | [] => (D, 0, acc)
  | u :: r => if (openOne D u r.head?).2.1 ≠ 0 then ((openOne D u r.head?).1, (openOne D u r.head?).2.1, acc) else openGo (openOne D u r.head?).1 (acc ++ [(openOne D u r.head?).2.2]) r
theorem scanSeg_le (u : Nat) (t : ByteArray) : (scanSeg u t.data.toList).many ≤ t.size ∧ (scanSeg u t.data.toList).size ≤ t.size := by
  have h1 := Frame.sizes_le t.size t.data.toList (by show t.data.toList.length ≤ _; simp)
  have h2 := fitL_take (Frame.scanL t.data.toList) u
  have h3 := sizes_take_le (Frame.scanL t.data.toList) (fitL u (Frame.scanL t.data.toList)).length
  have h4 : t.data.toList.length = t.size := by simp
  rw [← h2.1] at h3
  exact ⟨by show (fitL u (Frame.scanL t.data.toList)).length ≤ _; omega, by show Frame.sizes (fitL u (Frame.scanL t.data.toList)) ≤ _; omega⟩
structure OpenI (w w1 wr : World) (d lg gu : Nat) (F : Nat → Prop) (D : DiskV) (acc : List SegV) (dur : SegV) (sv : Value) (Fd : Nat → Prop) : Prop where
  disk : DiskIn wr d D Fd
  foot : ∀ b, Fd b → (F b ∧ b < w.heap.size) ∨ (w.heap.size ≤ b ∧ b < wr.heap.size)
  pre : PreAt wr lg d acc dur sv
  sepL : ¬ Fd lg
  sepG : ∀ k, sv.ownBlock = some k → ¬ Fd k ∧ k ≠ gu ∧ w.heap.size ≤ k
  us : wr.heap[gu]? = w1.heap[gu]?
  sepU : ¬ Fd gu
  size : w1.heap.size ≤ wr.heap.size
  off : Off F w wr
namespace OpenI
variable {w w1 wr w' : World} {d lg gu : Nat} {F : Nat → Prop} {D D' : DiskV} {acc : List SegV} {dur : SegV} {sv : Value} {Fd : Nat → Prop}
theorem quiet (h : OpenI w w1 wr d lg gu F D acc dur sv Fd) (hu : gu < w1.heap.size) (ho : Off None wr w') : OpenI w w1 w' d lg gu F D acc dur sv Fd :=
  ⟨h.disk.off ho (fun _ _ _ h => h), fun b hb => (h.foot b hb).imp id (fun x => ⟨x.1, Nat.lt_of_lt_of_le x.2 ho.size⟩), h.pre.off ho (fun h => h) (fun _ _ h => h), h.sepL, h.sepG,
   (ho.block gu (Nat.lt_of_lt_of_le hu h.size) (fun h => h)).trans h.us, h.sepU, Nat.le_trans h.size ho.size, h.off.trans ho (fun _ _ h => h.elim)⟩
theorem turned (h : OpenI w w1 wr d lg gu F D acc dur sv Fd) (hu : gu < w1.heap.size) (hd : DiskIn w' d D' (Grow Fd wr w')) (ho : Off Fd wr w') : OpenI w w1 w' d lg gu F D' acc dur sv (Grow Fd wr w') := by
  have hl := Heap.lt h.pre.core
  have hg : ∀ k, sv.ownBlock = some k → k < wr.heap.size := fun k hk => row_lt h.pre.row hk
  have hs := h.off.size
  have hs1 := h.size
  refine ⟨hd, fun b hb => ?_, h.pre.off ho h.sepL (fun k hk => (h.sepG k hk).1), fun hb => hb.elim h.sepL (fun x => by omega), fun k hk => ⟨fun hb => hb.elim (h.sepG k hk).1 (fun x => by have := hg k hk; omega), (h.sepG k hk).2⟩,
    (ho.block gu (Nat.lt_of_lt_of_le hu h.size) h.sepU).trans h.us, fun hb => hb.elim h.sepU (fun x => by omega), Nat.le_trans h.size ho.size, h.off.trans ho (fun b hb x => ?_)⟩
  · rcases hb with hb | hb
    · exact (h.foot b hb).imp id (fun x => ⟨x.1, Nat.lt_of_lt_of_le x.2 ho.size⟩)
    · exact .inr ⟨by omega, hb.2⟩
  · rcases h.foot b x with y | y
    · exact y.1
    · omega
theorem pushed {g cap : Nat} {w7 : World} {x : SegV} (h : OpenI w w1 wr d lg gu F D acc dur sv Fd) (hu : gu < w1.heap.size) (hlw : w.heap.size ≤ lg) (hgl : gu ≠ lg)
    (hrow : w7.ownsRow 0 81 3 (.slice (some ⟨g, 0, none⟩) (acc.length + 1) cap) (acc.length + 1) (acc.flatMap segCells ++ [.int .u64 x.first, .int .i64 x.many, .int .i64 x.size])) (hp : Pushed wr.drew w7 sv g) :
    OpenI w w1 (w7.setCell ⟨lg, 1, none⟩ (.slice (some ⟨g, 0, none⟩) (acc.length + 1) cap)) d lg gu F D (acc ++ [x]) dur (.slice (some ⟨g, 0, none⟩) (acc.length + 1) cap) Fd := by
  have hl := Heap.lt h.pre.core
  have hsz : wr.heap.size ≤ w7.heap.size := hp.off.size
  have hs := h.off.size
  have hs1 := h.size
  have hfrom : sv.ownBlock = some g ∨ wr.heap.size < g := hp.from_
  have hlg7 := hp.keep _ _ h.pre.core h.pre.ne
  have hgne : g ≠ lg := by
    rcases hfrom with e | e
    · intro e2; exact h.pre.ne (by rw [e, e2])
    · omega
  have ho : Off (fun b => b = lg ∨ sv.ownBlock = some b) wr (w7.setCell ⟨lg, 1, none⟩ (.slice (some ⟨g, 0, none⟩) (acc.length + 1) cap)) :=
    ((((Off.refl _ wr).drew).trans hp.off (fun _ _ h => h)).mono (fun _ _ h => .inr h)).setCell (p := ⟨lg, 1, none⟩) (.inl (.inl rfl)) _
  have hnot : ∀ b, b < wr.heap.size → Fd b → ¬ (b = lg ∨ sv.ownBlock = some b) := fun b _ hb e => e.elim (fun e => h.sepL (e ▸ hb)) (fun e => (h.sepG b e).1 hb)
  refine ⟨h.disk.off ho hnot, fun b hb => (h.foot b hb).imp id (fun x => ⟨x.1, Nat.lt_of_lt_of_le x.2 ho.size⟩), ⟨?_, ?_, fun e => hgne (by cases e; rfl)⟩, h.sepL, fun k hk => ?_, ?_, h.sepU, Nat.le_trans h.size ho.size, ?_⟩
  · exact (Heap.set hlg7 1 _).trans rfl
  · have h2 := ((Off.refl (Only lg) w7).set 1 (.slice (some ⟨g, 0, none⟩) (acc.length + 1) cap)).row hrow (fun k hk e => by cases hk; exact hgne e)
    rw [List.flatMap_append, List.length_append]
    exact h2
  · obtain rfl : g = k := by cases hk; rfl
    rcases hfrom with e | e
    · exact h.sepG g e
    · refine ⟨fun hb => ?_, by omega, by omega⟩
      rcases h.foot g hb with y | y <;> omega
  · rw [ho.block gu (Nat.lt_of_lt_of_le hu h.size) (fun e => e.elim hgl (fun e => (h.sepG gu e).2.1 rfl)), h.us]
  · exact h.off.trans ho (fun b hb e => by
      rcases e with e | e
      · omega
      · have := (h.sepG b e).2.2; omega)
theorem setDur (h : OpenI w w1 wr d lg gu F D acc dur sv Fd) (hu : gu < w1.heap.size) (hlw : w.heap.size ≤ lg) (hgl : gu ≠ lg) (x : SegV) :
    OpenI w w1 (((wr.setCell ⟨lg, 2, none⟩ (.int .u64 x.first)).setCell ⟨lg, 3, none⟩ (.int .i64 x.many)).setCell ⟨lg, 4, none⟩ (.int .i64 x.size)) d lg gu F D acc x sv Fd := by
  have ho : Off (Only lg) wr (((wr.setCell ⟨lg, 2, none⟩ (.int .u64 x.first)).setCell ⟨lg, 3, none⟩ (.int .i64 x.many)).setCell ⟨lg, 4, none⟩ (.int .i64 x.size)) := (((Off.refl (Only lg) wr).set 2 _).set 3 _).set 4 _
  refine ⟨h.disk.off ho (fun b _ hb e => h.sepL (show Fd lg from (show b = lg from e) ▸ hb)), fun b hb => (h.foot b hb).imp id (fun y => ⟨y.1, Nat.lt_of_lt_of_le y.2 ho.size⟩), h.pre.setDur x, h.sepL, h.sepG, ?_, h.sepU, Nat.le_trans h.size ho.size, h.off.trans ho (fun b hb e => by have e : b = lg := e; omega)⟩
  rw [ho.block gu (Nat.lt_of_lt_of_le hu h.size) hgl, h.us]
end OpenI
/-- What Open answers and leaves. -/
def OpenPost (res : DiskV × Int × List SegV) (w : World) (d : Nat) (F : Nat → Prop) (e : Ending) (w' : World) : Prop :=
  (∃ p, e = .returned (.tuple #[p, .int .i64 res.2.1]) ∧ (res.2.1 ≠ 0 → p = .pointer none) ∧
    (res.2.1 = 0 → ∃ lg xs a, p = .pointer (some ⟨lg, 0, none⟩) ∧ w.heap.size ≤ lg ∧ res.2.2 = xs ++ [a] ∧ Store w' lg d ⟨xs, a, a⟩ res.1 (Grow F w w') 0)) ∧ DiskIn w' d res.1 (Grow F w w') ∧ Off F w w'
theorem OpenI.grow {w w1 wr : World} {d lg gu : Nat} {F : Nat → Prop} {D : DiskV} {acc : List SegV} {dur : SegV} {sv : Value} {Fd : Nat → Prop} (h : OpenI w w1 wr d lg gu F D acc dur sv Fd) : DiskIn wr d D (Grow F w wr) :=
  h.disk.mono (fun b _ hb => (h.foot b hb).imp (fun x => x.1) (fun x => x))
theorem post_err {w w1 wr : World} {d lg gu : Nat} {F : Nat → Prop} {D : DiskV} {acc acc2 : List SegV} {dur : SegV} {sv : Value} {Fd : Nat → Prop} {er : Int} {res : DiskV × Int × List SegV} (h : OpenI w w1 wr d lg gu F D acc dur sv Fd)
    (hr : res = (D, er, acc2)) (he : er ≠ 0) : OpenPost res w d F (.returned (.tuple #[.pointer none, .int .i64 er])) wr := by
  subst hr
  exact ⟨⟨_, rfl, fun _ => rfl, fun h0 => absurd h0 he⟩, h.grow, h.off⟩
theorem post_ok {w w1 wr : World} {d lg gu : Nat} {F : Nat → Prop} {D : DiskV} {acc xs : List SegV} {dur : SegV} {sv : Value} {Fd : Nat → Prop} {res : DiskV × Int × List SegV} (h : OpenI w w1 wr d lg gu F D acc dur sv Fd)
    (hr : res = (D, 0, acc)) (ha : acc = xs ++ [dur]) (hl : w.heap.size ≤ lg) : OpenPost res w d F (.returned (.tuple #[.pointer (some ⟨lg, 0, none⟩), .int .i64 0])) wr := by
  subst hr
  subst ha
  refine ⟨⟨_, rfl, fun h0 => absurd rfl h0, fun _ => ⟨lg, xs, dur, rfl, hl, rfl, ?_⟩⟩, h.grow, h.off⟩
  have hrow := h.pre.row
  have hlen : (xs ++ [dur]).length = xs.length + 1 := by simp
  have hsg := h.sepG
  have hpre := h.pre
  obtain ⟨_, ⟨_, h0⟩ | ⟨g, cap, cur, rfl, _⟩⟩ := hrow
  · exact absurd h0 (by omega)
  · rw [hlen] at hpre
    have hg := hsg g rfl
    have hgl : g < wr.heap.size := row_lt h.pre.row rfl
    exact ⟨g, cap, Fd, hpre.log, h.disk, h.sepL, hg.1, .inr ⟨hl, Heap.lt h.pre.core⟩, .inr ⟨hg.2.2, hgl⟩, fun b hb => (h.foot b hb).imp (fun x => x.1) id⟩
namespace Seg
theorem u64_row {w : World} {base n : Nat} {v : Value} {l : List Nat} (hp : l ≠ []) (h : w.ownsRow base 31 1 v n (l.map encU)) :
    ∃ g c, v = .slice (some ⟨g, 0, none⟩) l.length c ∧ base ≤ g ∧ g < w.heap.size ∧ (l.length : Int) ≤ 9223372036854775807 ∧ ∀ (W : World), W.heap[g]? = w.heap[g]? → ∀ k (hk : k < l.length), W.cell? ⟨g, k, none⟩ = some (.int .u64 l[k]) := by
  obtain ⟨hl, ⟨rfl, h0⟩ | ⟨g, cap, cur, rfl, hg, hb, hle, hmx, hsz, ht⟩⟩ := h
  · rw [List.length_map] at hl
    exact absurd (List.eq_nil_of_length_eq_zero (by omega)) hp
  · have hmx2 : cap ≤ 2 ^ 63 - 1 := hmx
    rw [List.length_map] at hl
    refine ⟨g, cap, by rw [show l.length = n by omega], hg, Heap.lt hb, by omega, fun W hW k hk => ?_⟩
    rw [Heap.cell (hW.trans hb), ← Array.getElem?_toList, ← List.getElem?_take_of_lt (j := n * 1) (by omega), ht, List.getElem?_map, List.getElem?_eq_getElem hk]
    rfl
set_option maxHeartbeats 2000000 in
set_option maxRecDepth 100000 in
theorem open_any (w : World) (d n N : Nat) (D : DiskV) (F : Nat → Prop) (h : DiskIn w d D F) (hu : D.firsts ≠ []) (hnm : ∀ s ∈ D.list, NameOk s) (hub : ∀ u ∈ D.firsts, u ≤ 1000000000000) (hG : Glob n w) (hFn : ∀ b, F b → n ≤ b) (hl : Lim N D) (hN : N + 1 ≤ 1000000) :
    Calls Tryz.prog 68 #[.pointer (some ⟨d, 0, none⟩)] w fun e w' =>
      OpenPost (openGo D [] D.firsts) w d F e w' := by
  have HD := Lib.hid h; clear h
  have HGL := Lib.hid hG; clear hG
  have HL := Lib.hid hl; clear hl
  have HUB := Lib.hid hub; clear hub
  have HFN := Lib.hid hFn; clear hFn
  obtain ⟨us, hus⟩ : ∃ us, us = D.firsts := ⟨_, rfl⟩
  have hlu : us.length ≤ 1000000 := by
    rw [hus]; unfold DiskV.firsts
    refine Nat.le_trans (List.length_filterMap_le _ _) ?_
    unfold DiskV.list; rw [List.length_mergeSort, List.length_map]
    exact Nat.le_trans HL.out.names (by omega)
  rw [← hus] at HUB hu ⊢
  obtain ⟨res, hres⟩ : ∃ res, res = openGo D [] us := ⟨_, rfl⟩
  rw [← hres]
  have HRES := Lib.hid hres; clear hres
  have HUS := Lib.hid hus; clear hus
  go_enter Tryz.func68, Tryz.ntmps68
  go_wp2_with fail
  obtain ⟨w0, hw0⟩ : ∃ w0, w0 = w.alloc (.cells #[.pointer (some ⟨d, 0, none⟩), .slice none 0 0, .int .u64 0, .int .i64 0, .int .i64 0] 112) := ⟨_, rfl⟩
  obtain ⟨lg, hlg⟩ : ∃ lg, lg = w.heap.size := ⟨_, rfl⟩
  rw [← hw0]
  have ho0 : Off None w w0 := by rw [hw0]; exact (Off.refl None w).alloc _
  have hcore : w0.heap[lg]? = some (.cells (logCells d (.slice none 0 0) emptyLog) 112 (0, 0)) := by rw [hw0, hlg]; exact Heap.alloc_new w _
  have hd0 : DiskIn w0 d D (fun b => F b ∧ b < w.heap.size) := (HD.out.mono (fun b hb h => ⟨h, hb⟩) : DiskIn w d D (fun b => F b ∧ b < w.heap.size)).off ho0 (fun _ _ _ h => h)
  have hpre : PreAt w0 lg d [] emptyLog (.slice none 0 0) := ⟨hcore, World.ownsRow_nil _ _ _ _, fun e => by cases e⟩
  clear hw0 hcore
  rw [← hlg]
  refine (firsts_any w0 d D _ hd0 (Nat.le_trans HL.out.names (by omega)) hnm).mono ?_
  rintro e w1 ⟨v, rfl, hrow, ho1⟩
  rw [← HUS.out] at hrow
  obtain ⟨gu, cu, rfl, hgu1, hgu2, hul, hucell⟩ := u64_row hu hrow
  have HUC := Lib.hid hucell
  have hs0 := ho0.size
  have hs1 := ho1.size
  have hl0 := Heap.lt hpre.core
  have hI : OpenI w w1 w1 d lg gu F D [] emptyLog (.slice none 0 0) (fun b => F b ∧ b < w.heap.size) :=
    ⟨hd0.off ho1 (fun _ _ _ h => h), fun b hb => .inl hb, hpre.off ho1 (fun h => h) (fun _ _ h => h), fun hb => by omega, (fun k hk => by cases hk), rfl, fun hb => by omega, Nat.le_refl _, (ho0.trans ho1 (fun _ _ h => h)).mono (fun _ _ h => h.elim)⟩
  have HI := Lib.hid hI
  have hlw : w.heap.size ≤ lg := by omega
  have hgl : gu ≠ lg := by omega
  have HLG := Lib.hid hlg
  have hupos : 0 < us.length := List.length_pos_iff.2 hu
  clear hI hd0 hpre ho0 ho1 hrow hucell hs0 hs1 hl0 hlg HD hnm
  have hu0 : ¬ ((us.length : Int) = 0) := by omega
  have hu0b : ((us.length : Int) == 0) = false := beq_eq_false_iff_ne.2 hu0
  go_wp2_with fail
  go_loopw [30] (fun i wr => ∃ (k : Nat) (D1 : DiskV) (acc : List SegV) (dur : SegV) (sv : Value) (Fd : Nat → Prop), k ≤ us.length ∧ i = .int .i64 k ∧ OpenI w w1 wr d lg gu F D1 acc dur sv Fd ∧ acc.length = k ∧ res = openGo D1 acc (us.drop k) ∧ (k < us.length → Lim N D1) ∧ (0 < k → ∃ xs, acc = xs ++ [dur])) (fun i _ => us.length - (intOf i).toNat)
  case atStart => exact ⟨0, D, [], emptyLog, .slice none 0 0, _, Nat.zero_le _, rfl, HI.out, rfl, by rw [List.drop_zero]; exact HRES.out, fun _ => HL.out, fun h => absurd h (by omega)⟩
  case round =>
    obtain ⟨k, D1, acc, dur, sv, Fd, hk, rfl, hi, hal, hres, hlim, hlast⟩ := hrel
    have HII := Lib.hid hi; clear hi HI
    have HR1 := Lib.hid hres; clear hres HRES
    have HLM := Lib.hid hlim; clear hlim
    have HLA := Lib.hid hlast; clear hlast
    have HAL := Lib.hid hal; clear hal
    by_cases hlt : k < us.length
    · have hdrop : us.drop k = us[k] :: us.drop (k + 1) := List.drop_eq_getElem_cons hlt
      have hub1 := HUB.out _ (List.getElem_mem hlt)
      have hc0 := HUC.out wr HII.out.us k hlt
      obtain ⟨u, hue⟩ : ∃ u, u = us[k] := ⟨_, rfl⟩
      rw [← hue] at hdrop hub1 hc0
      have HDR := Lib.hid hdrop; clear hdrop hue
      have hi0 : (0 : Int) ≤ (k : Int) := by omega
      have hi1 : (k : Int) < (us.length : Int) := by omega
      go_wp2_with fail
      refine (name_any wr u (by omega) (HGL.out.off HII.out.off HFN.out).pow).mono ?_
      rintro e w2 ⟨rfl, ho2⟩
      have HI2 := Lib.hid (HII.out.quiet hgu2 ho2); clear ho2 hc0
      obtain ⟨R, hda, _⟩ := HI2.out.disk
      have hrd := DiskW.read_any w2 d D1 R hda (nameB u) (by rw [nameB_size (by omega)]; decide)
      clear hda
      obtain ⟨t, er, hte⟩ : ∃ t er, D1.read (nameB u) = (t, er) := ⟨_, _, rfl⟩
      rw [hte] at hrd
      have hts := read_size (HLM.out hlt) (nameB u)
      rw [hte] at hts
      have hN0 := (HLM.out hlt).le
      have htb : t.size ≤ 3000000000 := Nat.le_trans hts (by omega)
      have HRD := Lib.hid hrd; clear hrd hts
      have HTE := Lib.hid hte; clear hte
      go_wp2_with fail
      refine HRD.out.mono ?_
      rintro e w3 ⟨rfl, rfl⟩
      have hone : openGo D1 acc (us.drop k) = (if (openOne D1 u (us.drop (k + 1)).head?).2.1 ≠ 0 then ((openOne D1 u (us.drop (k + 1)).head?).1, (openOne D1 u (us.drop (k + 1)).head?).2.1, acc) else openGo (openOne D1 u (us.drop (k + 1)).head?).1 (acc ++ [(openOne D1 u (us.drop (k + 1)).head?).2.2]) (us.drop (k + 1))) := by rw [HDR.out]; rfl
      have HONE := Lib.hid hone; clear hone HRD HII
      by_cases hee : er = 0
      · subst hee
        obtain ⟨x, hx⟩ : ∃ x, x = scanSeg u t.data.toList := ⟨_, rfl⟩
        have hsc := scan_any w2 u t (by omega) (by omega) (HGL.out.off HI2.out.off HFN.out).crc
        rw [← hx] at hsc
        have hxf : x.first = u := by rw [hx]; rfl
        have hxs : x.many ≤ t.size ∧ x.size ≤ t.size := by rw [hx]; exact scanSeg_le u t
        obtain ⟨m, hm⟩ : ∃ m, m = x.many := ⟨_, rfl⟩
        obtain ⟨z, hz⟩ : ∃ z, z = x.size := ⟨_, rfl⟩
        have hagg : segAgg x = .agg #[.int .u64 u, .int .i64 m, .int .i64 z] := by unfold segAgg; rw [hxf, ← hm, ← hz]
        rw [hagg, ← hz] at hsc
        obtain ⟨bm, hbm⟩ : ∃ bm, bm = decide (z < t.size) := ⟨_, rfl⟩
        rw [← hbm] at hsc
        have HBM := Lib.hid hbm; clear hbm
        rw [← hm, ← hz] at hxs
        have HX := Lib.hid hx
        have HXE := Lib.hid (show x = ⟨u, m, z⟩ by rw [← hxf, hm, hz])
        have HSC := Lib.hid hsc
        clear hx hm hz hagg hsc hxf
        go_wp2_with fail
        refine HSC.out.mono ?_
        rintro e w4 ⟨rfl, ho4⟩
        have HI4 := Lib.hid (HI2.out.quiet hgu2 ho4); clear ho4 HSC HI2
        go_wp2_with fail
        obtain ⟨bx, hbxe⟩ : ∃ bx, bx = w4.heap.size := ⟨_, rfl⟩
        obtain ⟨w5, hw5⟩ : ∃ w5, w5 = w4.alloc (.cells #[.int .u64 u, .int .i64 m, .int .i64 z] 81) := ⟨_, rfl⟩
        have ho5 : Off None w4 w5 := by rw [hw5]; exact (Off.refl None w4).alloc _
        have hb5 : w5.heap[bx]? = some (.cells #[.int .u64 u, .int .i64 m, .int .i64 z] 81 (0, 0)) := by rw [hw5, hbxe]; exact Heap.alloc_new w4 _
        have hbl : bx ≠ lg := by have := Heap.lt HI4.out.pre.core; omega
        have hbs : sv.ownBlock ≠ some bx := fun e => by have := row_lt HI4.out.pre.row e; omega
        have hbf : ¬ Fd bx := fun e => by have := HI4.out.foot bx e; have := HI4.out.off.size; omega
        have HBS := Lib.hid hbs
        have HBF := Lib.hid hbf
        have HI5 := Lib.hid (HI4.out.quiet hgu2 ho5)
        have HB5 := Lib.hid hb5
        rw [← hw5, ← hbxe]
        clear ho5 hb5 hw5 hbxe hbs hbf HI4
        obtain ⟨E, hE⟩ : ∃ E, E = u + m := ⟨_, rfl⟩
        have hok : (⟨u, m, z⟩ : SegV).Ok := ⟨by show u + m < _; omega, by show m ≤ _; omega, by show z ≤ _; omega⟩
        have hcE : ∀ (W : World), Calls Tryz.prog 86 #[.agg #[.int .u64 u, .int .i64 m, .int .i64 z]] W fun e w' => e = .returned (.int .u64 E) ∧ Off None W w' := by
          intro W
          have := end_any W ⟨u, m, z⟩ hok
          rw [hE]
          exact this
        have cE : ∀ dd os, Calls Tryz.prog 86 #[.agg #[.int .u64 u, .int .i64 m, .int .i64 z]] (grow (redrawn w5 dd) os) fun e w'' => e = .returned (.int .u64 E) ∧ ∃ p : Regrown, w'' = grow (redrawn w5 p.d) p.os := fun dd os => Calls.quietly (hcE _)
        have HEE := Lib.hid hE
        clear hcE hok hE
        have k0 := cell_regrown (show w5.cell? ⟨bx, 0, none⟩ = some (.int .u64 u) from Heap.cell HB5.out 0)
        have k1 := cell_regrown (show w5.cell? ⟨bx, 1, none⟩ = some (.int .i64 m) from Heap.cell HB5.out 1)
        have k2 := cell_regrown (show w5.cell? ⟨bx, 2, none⟩ = some (.int .i64 z) from Heap.cell HB5.out 2)
        have v1 : IntKind.i64.wrap ((k : Int) + 1) = (k : Int) + 1 := IntWalk.i64_in _ (by omega)
        by_cases hnl : k + 1 < us.length
        · have hhd : (us.drop (k + 1)).head? = some (us[k + 1]'hnl) := by rw [List.head?_drop, List.getElem?_eq_getElem hnl]
          have hc1 := HUC.out w5 HI5.out.us (k + 1) hnl
          obtain ⟨v, hve⟩ : ∃ v, v = us[k + 1]'hnl := ⟨_, rfl⟩
          rw [← hve] at hhd hc1
          have HHD := Lib.hid hhd
          have k3 := cell_regrown hc1
          have v2 : decide (k + 1 < us.length) = true := by rw [decide_eq_true_eq]; exact hnl
          have v3 : decide ((k : Int) + 1 < (us.length : Int)) = true := by rw [decide_eq_true_eq]; omega
          have v4 : (0 : Int) ≤ (k : Int) + 1 := by omega
          have v5 : ((k : Int) + 1).toNat = k + 1 := by omega
          have v6 : (k : Int) + 1 < (us.length : Int) := by omega
          clear hve hhd hc1
          by_cases hmore : z < t.size
          · obtain rfl : bm = true := by rw [HBM.out, decide_eq_true_eq]; exact hmore
            refine wp_region_quiet_below (by kernel_rfl) (by kernel_rfl) ?_
            repeat (go_big_quiet_step (first | exact cE _ _))
            refine wpQuiet_nil ?_
            intro w6 hw'
            have ho6 : Off None w5 w6 := by
              obtain ⟨⟨dq, osq⟩, rfl⟩ := hw'
              exact Off.of_below (below_regrown w5 dq osq)
            have HI6 := Lib.hid (HI5.out.quiet hgu2 ho6)
            have HB6 := Lib.hid (ho6.at_ HB5.out (fun h => h))
            clear hw' ho6 cE HI5 HB5 k0 k1 k2
            clear v1 v2 v3 v4 v5 v6 k3
            have hres2 : res = (D1, 2, acc) := by
              have hon : openOne D1 u (us.drop (k + 1)).head? = (D1, 2, ⟨u, m, z⟩) := by
                unfold openOne
                rw [HTE.out, HHD.out]
                dsimp only
                rw [if_neg (by simp), ← HX.out, HXE.out, if_pos (.inl hmore)]
              rw [HR1.out, HONE.out, hon]
              dsimp only
              rw [if_pos (by decide)]
            have HRS := Lib.hid hres2; clear hres2
            go_wp2_with fail
            go_ret2
            exact post_err HI6.out HRS.out (by decide)
          · by_cases hEv : E = v
            · obtain rfl : bm = false := by rw [HBM.out, decide_eq_false_iff_not]; exact hmore
              subst hEv
              refine wp_region_quiet_below (by kernel_rfl) (by kernel_rfl) ?_
              repeat (go_big_quiet_step (first | exact cE _ _))
              refine wpQuiet_nil ?_
              intro w6 hw'
              have ho6 : Off None w5 w6 := by
                obtain ⟨⟨dq, osq⟩, rfl⟩ := hw'
                exact Off.of_below (below_regrown w5 dq osq)
              have HI6 := Lib.hid (HI5.out.quiet hgu2 ho6)
              have HB6 := Lib.hid (ho6.at_ HB5.out (fun h => h))
              clear hw' ho6 cE HI5 HB5 k0 k1 k2
              clear v1 v2 v3 v4 v5 v6 k3
              have hres2 : res = openGo D1 (acc ++ [⟨u, m, z⟩]) (us.drop (k + 1)) := by
                have hon : openOne D1 u (us.drop (k + 1)).head? = (D1, 0, ⟨u, m, z⟩) := by
                  unfold openOne
                  rw [HTE.out, HHD.out]
                  dsimp only
                  rw [if_neg (by simp), ← HX.out, HXE.out, if_neg (by rw [HEE.out]; exact fun h => h.elim hmore (fun h => h rfl))]
                rw [HR1.out, HONE.out, hon]
                dsimp only
                rw [if_neg (by simp)]
              have HRS := Lib.hid hres2; clear hres2
              go_wp2_with fail
              have q1 : w6.cell? ⟨lg, 1, none⟩ = some sv := Heap.cell HI6.out.pre.core 1
              have b0 : w6.cell? ⟨bx, 0, none⟩ = some (.int .u64 u) := Heap.cell HB6.out 0
              have b1 : w6.cell? ⟨bx, 1, none⟩ = some (.int .i64 m) := Heap.cell HB6.out 1
              have b2 : w6.cell? ⟨bx, 2, none⟩ = some (.int .i64 z) := Heap.cell HB6.out 2
              have qa : (w6.alloc (.cells #[.int .u64 u, .int .i64 m, .int .i64 z] 81)).cell? ⟨lg, 1, none⟩ = some sv := Heap.cell (Heap.alloc_old HI6.out.pre.core _) 1
              have HR := Lib.hid HI6.out.pre.row
              have hlz : lg < w6.heap.size := Heap.lt HI6.out.pre.core
              have hal : acc.length ≤ 1000000 := by have := HAL.out; omega
              have hbsv : sv.ownBlock ≠ some bx := HBS.out
              go_wp2_with fail
              go_region_law ((refine step_push (W := w6.drew) (by rfl) _ _ (by rfl) elemSeg 0 sv acc.length (acc.flatMap segCells) (by rfl) HR.out #[.int .u64 u, .int .i64 m, .int .i64 z] (by rfl) rfl (by intro u hu; simp at hu; rcases hu with rfl | rfl | rfl <;> rfl) (by omega) (Nat.zero_le _) ?_; intro g cap w9 hrow9 hp9; have c9 : w9.cell? ⟨lg, 1, none⟩ = some sv := Heap.cell (hp9.keep _ _ HI6.out.pre.core HI6.out.pre.ne) 1; have f9 : w9.frozen? ⟨lg, 1, none⟩ = false := Heap.frozen (hp9.keep _ _ HI6.out.pre.core HI6.out.pre.ne) 1))
              all_goals
                have hI9 := HI6.out.pushed (x := ⟨u, m, z⟩) hgu2 hlw hgl hrow9 hp9
                have hb9 := hp9.keep _ _ HB6.out hbsv
                have hb10 : (w9.setCell ⟨lg, 1, none⟩ (.slice (some ⟨g, 0, none⟩) (acc.length + 1) cap)).heap[bx]? = some (.cells #[.int .u64 u, .int .i64 m, .int .i64 z] 81 (0, 0)) := (Heap.set_far hbl _).trans hb9
                obtain ⟨w10, hw10⟩ : ∃ w10, w10 = w9.setCell ⟨lg, 1, none⟩ (.slice (some ⟨g, 0, none⟩) (acc.length + 1) cap) := ⟨_, rfl⟩
                rw [← hw10] at hI9 hb10 ⊢
                have HI9 := Lib.hid hI9
                clear hw10 hI9 hb9 hrow9 hp9 c9 f9 q1 b0 b1 b2 qa
                have b0 : w10.cell? ⟨bx, 0, none⟩ = some (.int .u64 u) := Heap.cell hb10 0
                have b1 : w10.cell? ⟨bx, 1, none⟩ = some (.int .i64 m) := Heap.cell hb10 1
                have b2 : w10.cell? ⟨bx, 2, none⟩ = some (.int .i64 z) := Heap.cell hb10 2
                have q2 : w10.cell? ⟨lg, 2, none⟩ = some (.int .u64 dur.first) := Heap.cell HI9.out.pre.core 2
                have q3 : w10.cell? ⟨lg, 3, none⟩ = some (.int .i64 dur.many) := Heap.cell HI9.out.pre.core 3
                have q4 : w10.cell? ⟨lg, 4, none⟩ = some (.int .i64 dur.size) := Heap.cell HI9.out.pre.core 4
                have f2 : w10.frozen? ⟨lg, 2, none⟩ = false := Heap.frozen HI9.out.pre.core 2
                have f3 : w10.frozen? ⟨lg, 3, none⟩ = false := Heap.frozen HI9.out.pre.core 3
                have f4 : w10.frozen? ⟨lg, 4, none⟩ = false := Heap.frozen HI9.out.pre.core 4
                have hlz2 : lg < w10.heap.size := Heap.lt HI9.out.pre.core
                clear hb10
                go_wp2_with fail
                case roundEnd => exact ⟨⟨k + 1, D1, acc ++ [⟨u, m, z⟩], ⟨u, m, z⟩, _, _, hlt, by push_cast; rfl, HI9.out.setDur hgu2 hlw hgl ⟨u, m, z⟩, by rw [List.length_append, HAL.out]; rfl, HRS.out, fun _ => HLM.out hlt, fun _ => ⟨acc, rfl⟩⟩, by simp [intOf]; omega⟩
            · obtain rfl : bm = false := by rw [HBM.out, decide_eq_false_iff_not]; exact hmore
              have v8 : ((E : Int) != (v : Int)) = true := by rw [bne_iff_ne]; omega
              refine wp_region_quiet_below (by kernel_rfl) (by kernel_rfl) ?_
              repeat (go_big_quiet_step (first | exact cE _ _))
              refine wpQuiet_nil ?_
              intro w6 hw'
              have ho6 : Off None w5 w6 := by
                obtain ⟨⟨dq, osq⟩, rfl⟩ := hw'
                exact Off.of_below (below_regrown w5 dq osq)
              have HI6 := Lib.hid (HI5.out.quiet hgu2 ho6)
              have HB6 := Lib.hid (ho6.at_ HB5.out (fun h => h))
              clear hw' ho6 cE HI5 HB5 k0 k1 k2
              clear v1 v2 v3 v4 v5 v6 k3
              have hres2 : res = (D1, 2, acc) := by
                have hon : openOne D1 u (us.drop (k + 1)).head? = (D1, 2, ⟨u, m, z⟩) := by
                  unfold openOne
                  rw [HTE.out, HHD.out]
                  dsimp only
                  rw [if_neg (by simp), ← HX.out, HXE.out, if_pos (.inr (fun h => hEv (HEE.out.trans h)))]
                rw [HR1.out, HONE.out, hon]
                dsimp only
                rw [if_pos (by decide)]
              have HRS := Lib.hid hres2; clear hres2
              go_wp2_with fail
              go_ret2
              exact post_err HI6.out HRS.out (by decide)
        · have hhd : (us.drop (k + 1)).head? = none := by rw [List.head?_drop, List.getElem?_eq_none (by omega)]
          have HHD := Lib.hid hhd; clear hhd
          have v2 : decide (k + 1 < us.length) = false := by rw [decide_eq_false_iff_not]; exact hnl
          have v3 : decide ((k : Int) + 1 < (us.length : Int)) = false := by rw [decide_eq_false_iff_not]; omega
          have hkn : us.drop (k + 1) = [] := List.drop_eq_nil_of_le (by omega)
          have HKN := Lib.hid hkn; clear hkn
          have x1 : ((k : Int) + 1 == (us.length : Int)) = true := by rw [beq_iff_eq]; omega
          have x2 : (k + 1 == us.length) = true := by rw [beq_iff_eq]; omega
          by_cases hmore : z < t.size
          · obtain rfl : bm = true := by rw [HBM.out, decide_eq_true_eq]; exact hmore
            refine wp_region_quiet_below (by kernel_rfl) (by kernel_rfl) ?_
            repeat (go_big_quiet_step (first | exact cE _ _))
            refine wpQuiet_nil ?_
            intro w6 hw'
            have ho6 : Off None w5 w6 := by
              obtain ⟨⟨dq, osq⟩, rfl⟩ := hw'
              exact Off.of_below (below_regrown w5 dq osq)
            have HI6 := Lib.hid (HI5.out.quiet hgu2 ho6)
            have HB6 := Lib.hid (ho6.at_ HB5.out (fun h => h))
            clear hw' ho6 cE HI5 HB5 k0 k1 k2
            clear v2 v3 v1
            have hnm6 := fun (W : World) (hW : Off None w6 W) => name_any W u (by omega) (HGL.out.off (HI6.out.quiet hgu2 hW).off HFN.out).pow
            have HNM := Lib.hid hnm6; clear hnm6
            have hlm := HLM.out hlt
            have hcut := fun (W : World) (hW : Off None w6 W) => DiskW.cut_any W d D1 Fd (HI6.out.quiet hgu2 hW).disk (nameB u) z (by rw [nameB_size (by omega)]; decide) (by unfold maxLen; omega)
              (fun f hf => by have := hlm.each f hf; have := hlm.le; unfold maxLen; omega)
            obtain ⟨D2, e2, hde⟩ : ∃ D2 e2, D1.cut (nameB u) z = (D2, e2) := ⟨_, _, rfl⟩
            rw [hde] at hcut
            have HCUT := Lib.hid hcut; clear hcut
            have HDE := Lib.hid hde; clear hde hlm
            have cz : w6.cell? ⟨bx, 2, none⟩ = some (.int .i64 z) := Heap.cell HB6.out 2
            go_wp2_with fail
            go_region_held3 (fun W => W.cell? ⟨bx, 2, none⟩ = some (.int .i64 z))
              (first | exact cz | exact cz7 | exact cz8)
              (first
                | (go_at_call 80; refine (HNM.out _ ((Off.refl None w6).drew)).mono ?_; rintro e w7 ⟨rfl, ho7⟩; have cz7 : w7.cell? ⟨bx, 2, none⟩ = some (.int .i64 z) := ho7.keep cz (fun h => h))
                | (go_at_call 105; refine (HCUT.out w7 (((Off.refl None w6).drew).trans ho7 (fun _ _ h => h))).mono ?_; rintro e w8 ⟨rfl, hd8, ho8⟩; have cz8 : w8.cell? ⟨bx, 2, none⟩ = some (.int .i64 z) := ho8.keep cz7 HBF.out))
            have ho67 : Off None w6 w7 := ((Off.refl None w6).drew).trans ho7 (fun _ _ h => h)
            have HI8 := Lib.hid ((HI6.out.quiet hgu2 ho67).turned hgu2 hd8 ho8)
            have HB8 := Lib.hid (ho8.at_ (ho67.at_ HB6.out (fun h => h)) HBF.out)
            have hbf8 : ¬ Grow Fd w7 w8 bx := fun h => h.elim HBF.out (fun h => by have := Heap.lt HB6.out; have := ho67.size; omega)
            have HBF8 := Lib.hid hbf8
            clear ho67 hd8 ho8 ho7 cz cz7 cz8 hbf8 HI6 HB6 HNM HCUT
            by_cases he2 : e2 = 0
            · subst he2
              obtain ⟨D3, e3, hde3⟩ : ∃ D3 e3, D2.sync (nameB u) = (D3, e3) := ⟨_, _, rfl⟩
              have HDE3 := Lib.hid hde3; clear hde3
              have hon : openOne D1 u (us.drop (k + 1)).head? = (D3, e3, ⟨u, m, z⟩) := by
                unfold openOne
                rw [HTE.out, HHD.out]
                dsimp only
                rw [if_neg (by simp), ← HX.out, HXE.out]
                dsimp only
                rw [if_pos hmore, HDE.out, if_neg (by simp), HDE3.out]
              have HON := Lib.hid hon; clear hon
              go_wp2_with fail
              refine (name_any w8 u (by omega) (HGL.out.off HI8.out.off HFN.out).pow).mono ?_
              rintro e w7' ⟨rfl, ho7⟩
              have HI7 := Lib.hid (HI8.out.quiet hgu2 ho7)
              have HB7 := Lib.hid (ho7.at_ HB8.out (fun h => h)); clear ho7 HI8 HB8
              have hsy := DiskW.sync_any w7' d D2 _ HI7.out.disk (nameB u) (by rw [nameB_size (by omega)]; decide)
              rw [HDE3.out] at hsy
              have HSY := Lib.hid hsy; clear hsy
              go_wp2_with fail
              refine HSY.out.mono ?_
              rintro e w11 ⟨rfl, hd8, ho8⟩
              have HI8 := Lib.hid (HI7.out.turned hgu2 hd8 ho8)
              have HB8 := Lib.hid (ho8.at_ HB7.out HBF8.out); clear ho8 hd8 HI7 HB7 HSY
              by_cases he3 : e3 = 0
              · subst he3
                have hres2 : res = openGo D3 (acc ++ [⟨u, m, z⟩]) (us.drop (k + 1)) := by
                  rw [HR1.out, HONE.out, HON.out]
                  dsimp only
                  rw [if_neg (by simp)]
                have HRS := Lib.hid hres2; clear hres2 x1 x2
                have q1 : w11.cell? ⟨lg, 1, none⟩ = some sv := Heap.cell HI8.out.pre.core 1
                have b0 : w11.cell? ⟨bx, 0, none⟩ = some (.int .u64 u) := Heap.cell HB8.out 0
                have b1 : w11.cell? ⟨bx, 1, none⟩ = some (.int .i64 m) := Heap.cell HB8.out 1
                have b2 : w11.cell? ⟨bx, 2, none⟩ = some (.int .i64 z) := Heap.cell HB8.out 2
                have qa : (w11.alloc (.cells #[.int .u64 u, .int .i64 m, .int .i64 z] 81)).cell? ⟨lg, 1, none⟩ = some sv := Heap.cell (Heap.alloc_old HI8.out.pre.core _) 1
                have HR := Lib.hid HI8.out.pre.row
                have hlz : lg < w11.heap.size := Heap.lt HI8.out.pre.core
                have hal : acc.length ≤ 1000000 := by have := HAL.out; omega
                have hbsv : sv.ownBlock ≠ some bx := HBS.out
                go_wp2_with fail
                go_region_law ((refine step_push (W := w11.drew) (by rfl) _ _ (by rfl) elemSeg 0 sv acc.length (acc.flatMap segCells) (by rfl) HR.out #[.int .u64 u, .int .i64 m, .int .i64 z] (by rfl) rfl (by intro u hu; simp at hu; rcases hu with rfl | rfl | rfl <;> rfl) (by omega) (Nat.zero_le _) ?_; intro g cap w9 hrow9 hp9; have c9 : w9.cell? ⟨lg, 1, none⟩ = some sv := Heap.cell (hp9.keep _ _ HI8.out.pre.core HI8.out.pre.ne) 1; have f9 : w9.frozen? ⟨lg, 1, none⟩ = false := Heap.frozen (hp9.keep _ _ HI8.out.pre.core HI8.out.pre.ne) 1))
                all_goals
                  have hI9 := HI8.out.pushed (x := ⟨u, m, z⟩) hgu2 hlw hgl hrow9 hp9
                  have hb9 := hp9.keep _ _ HB8.out hbsv
                  have hb10 : (w9.setCell ⟨lg, 1, none⟩ (.slice (some ⟨g, 0, none⟩) (acc.length + 1) cap)).heap[bx]? = some (.cells #[.int .u64 u, .int .i64 m, .int .i64 z] 81 (0, 0)) := (Heap.set_far hbl _).trans hb9
                  obtain ⟨w10, hw10⟩ : ∃ w10, w10 = w9.setCell ⟨lg, 1, none⟩ (.slice (some ⟨g, 0, none⟩) (acc.length + 1) cap) := ⟨_, rfl⟩
                  rw [← hw10] at hI9 hb10 ⊢
                  have HI9 := Lib.hid hI9
                  clear hw10 hI9 hb9 hrow9 hp9 c9 f9 q1 b0 b1 b2 qa
                  have b0 : w10.cell? ⟨bx, 0, none⟩ = some (.int .u64 u) := Heap.cell hb10 0
                  have b1 : w10.cell? ⟨bx, 1, none⟩ = some (.int .i64 m) := Heap.cell hb10 1
                  have b2 : w10.cell? ⟨bx, 2, none⟩ = some (.int .i64 z) := Heap.cell hb10 2
                  have q2 : w10.cell? ⟨lg, 2, none⟩ = some (.int .u64 dur.first) := Heap.cell HI9.out.pre.core 2
                  have q3 : w10.cell? ⟨lg, 3, none⟩ = some (.int .i64 dur.many) := Heap.cell HI9.out.pre.core 3
                  have q4 : w10.cell? ⟨lg, 4, none⟩ = some (.int .i64 dur.size) := Heap.cell HI9.out.pre.core 4
                  have f2 : w10.frozen? ⟨lg, 2, none⟩ = false := Heap.frozen HI9.out.pre.core 2
                  have f3 : w10.frozen? ⟨lg, 3, none⟩ = false := Heap.frozen HI9.out.pre.core 3
                  have f4 : w10.frozen? ⟨lg, 4, none⟩ = false := Heap.frozen HI9.out.pre.core 4
                  have hlz2 : lg < w10.heap.size := Heap.lt HI9.out.pre.core
                  clear hb10
                  go_wp2_with fail
                  case roundEnd => exact ⟨⟨k + 1, D3, acc ++ [⟨u, m, z⟩], ⟨u, m, z⟩, _, _, hlt, by push_cast; rfl, HI9.out.setDur hgu2 hlw hgl ⟨u, m, z⟩, by rw [List.length_append, HAL.out]; rfl, HRS.out, fun h => absurd h (by omega), fun _ => ⟨acc, rfl⟩⟩, by simp [intOf]; omega⟩
              · have hres2 : res = (D3, e3, acc) := by
                  rw [HR1.out, HONE.out, HON.out]
                  dsimp only
                  rw [if_pos he3]
                have HRS := Lib.hid hres2; clear hres2 x1 x2
                have y1 : (e3 != 0) = true := by rw [bne_iff_ne]; exact he3
                go_wp2_with fail
                go_ret2
                exact post_err HI8.out HRS.out he3
            · have hon : openOne D1 u (us.drop (k + 1)).head? = (D2, e2, ⟨u, m, z⟩) := by
                unfold openOne
                rw [HTE.out, HHD.out]
                dsimp only
                rw [if_neg (by simp), ← HX.out, HXE.out]
                dsimp only
                rw [if_pos hmore, HDE.out, if_pos he2]
              have hres2 : res = (D2, e2, acc) := by
                rw [HR1.out, HONE.out, hon]
                dsimp only
                rw [if_pos he2]
              have HRS := Lib.hid hres2; clear hres2 x1 x2 hon
              have y1 : (e2 != 0) = true := by rw [bne_iff_ne]; exact he2
              have y2 : (e2 == 0) = false := by rw [beq_eq_false_iff_ne]; exact he2
              go_wp2_with fail
              go_ret2
              exact post_err HI8.out HRS.out he2
          · obtain rfl : bm = false := by rw [HBM.out, decide_eq_false_iff_not]; exact hmore
            refine wp_region_quiet_below (by kernel_rfl) (by kernel_rfl) ?_
            repeat (go_big_quiet_step (first | exact cE _ _))
            refine wpQuiet_nil ?_
            intro w6 hw'
            have ho6 : Off None w5 w6 := by
              obtain ⟨⟨dq, osq⟩, rfl⟩ := hw'
              exact Off.of_below (below_regrown w5 dq osq)
            have HI6 := Lib.hid (HI5.out.quiet hgu2 ho6)
            have HB6 := Lib.hid (ho6.at_ HB5.out (fun h => h))
            clear hw' ho6 cE HI5 HB5 k0 k1 k2
            clear v2 v3 v1
            obtain ⟨D2, e2, hde⟩ : ∃ D2 e2, D1.sync (nameB u) = (D2, e2) := ⟨_, _, rfl⟩
            have HDE := Lib.hid hde; clear hde
            have hon : openOne D1 u (us.drop (k + 1)).head? = (D2, e2, ⟨u, m, z⟩) := by
              unfold openOne
              rw [HTE.out, HHD.out]
              dsimp only
              rw [if_neg (by simp), ← HX.out, HXE.out]
              dsimp only
              rw [if_neg hmore, HDE.out]
            have HON := Lib.hid hon; clear hon
            go_wp2_with fail
            refine (name_any w6 u (by omega) (HGL.out.off HI6.out.off HFN.out).pow).mono ?_
            rintro e w7 ⟨rfl, ho7⟩
            have HI7 := Lib.hid (HI6.out.quiet hgu2 ho7)
            have HB7 := Lib.hid (ho7.at_ HB6.out (fun h => h)); clear ho7 HI6 HB6
            have hsy := DiskW.sync_any w7 d D1 Fd HI7.out.disk (nameB u) (by rw [nameB_size (by omega)]; decide)
            rw [HDE.out] at hsy
            have HSY := Lib.hid hsy; clear hsy
            go_wp2_with fail
            refine HSY.out.mono ?_
            rintro e w8 ⟨rfl, hd8, ho8⟩
            have HI8 := Lib.hid (HI7.out.turned hgu2 hd8 ho8)
            have HB8 := Lib.hid (ho8.at_ HB7.out HBF.out); clear ho8 hd8 HI7 HB7 HSY
            by_cases he2 : e2 = 0
            · subst he2
              have hres2 : res = openGo D2 (acc ++ [⟨u, m, z⟩]) (us.drop (k + 1)) := by
                rw [HR1.out, HONE.out, HON.out]
                dsimp only
                rw [if_neg (by simp)]
              have HRS := Lib.hid hres2; clear hres2 x1 x2
              have q1 : w8.cell? ⟨lg, 1, none⟩ = some sv := Heap.cell HI8.out.pre.core 1
              have b0 : w8.cell? ⟨bx, 0, none⟩ = some (.int .u64 u) := Heap.cell HB8.out 0
              have b1 : w8.cell? ⟨bx, 1, none⟩ = some (.int .i64 m) := Heap.cell HB8.out 1
              have b2 : w8.cell? ⟨bx, 2, none⟩ = some (.int .i64 z) := Heap.cell HB8.out 2
              have qa : (w8.alloc (.cells #[.int .u64 u, .int .i64 m, .int .i64 z] 81)).cell? ⟨lg, 1, none⟩ = some sv := Heap.cell (Heap.alloc_old HI8.out.pre.core _) 1
              have HR := Lib.hid HI8.out.pre.row
              have hlz : lg < w8.heap.size := Heap.lt HI8.out.pre.core
              have hal : acc.length ≤ 1000000 := by have := HAL.out; omega
              have hbsv : sv.ownBlock ≠ some bx := HBS.out
              go_wp2_with fail
              go_region_law ((refine step_push (W := w8.drew) (by rfl) _ _ (by rfl) elemSeg 0 sv acc.length (acc.flatMap segCells) (by rfl) HR.out #[.int .u64 u, .int .i64 m, .int .i64 z] (by rfl) rfl (by intro u hu; simp at hu; rcases hu with rfl | rfl | rfl <;> rfl) (by omega) (Nat.zero_le _) ?_; intro g cap w9 hrow9 hp9; have c9 : w9.cell? ⟨lg, 1, none⟩ = some sv := Heap.cell (hp9.keep _ _ HI8.out.pre.core HI8.out.pre.ne) 1; have f9 : w9.frozen? ⟨lg, 1, none⟩ = false := Heap.frozen (hp9.keep _ _ HI8.out.pre.core HI8.out.pre.ne) 1))
              all_goals
                have hI9 := HI8.out.pushed (x := ⟨u, m, z⟩) hgu2 hlw hgl hrow9 hp9
                have hb9 := hp9.keep _ _ HB8.out hbsv
                have hb10 : (w9.setCell ⟨lg, 1, none⟩ (.slice (some ⟨g, 0, none⟩) (acc.length + 1) cap)).heap[bx]? = some (.cells #[.int .u64 u, .int .i64 m, .int .i64 z] 81 (0, 0)) := (Heap.set_far hbl _).trans hb9
                obtain ⟨w10, hw10⟩ : ∃ w10, w10 = w9.setCell ⟨lg, 1, none⟩ (.slice (some ⟨g, 0, none⟩) (acc.length + 1) cap) := ⟨_, rfl⟩
                rw [← hw10] at hI9 hb10 ⊢
                have HI9 := Lib.hid hI9
                clear hw10 hI9 hb9 hrow9 hp9 c9 f9 q1 b0 b1 b2 qa
                have b0 : w10.cell? ⟨bx, 0, none⟩ = some (.int .u64 u) := Heap.cell hb10 0
                have b1 : w10.cell? ⟨bx, 1, none⟩ = some (.int .i64 m) := Heap.cell hb10 1
                have b2 : w10.cell? ⟨bx, 2, none⟩ = some (.int .i64 z) := Heap.cell hb10 2
                have q2 : w10.cell? ⟨lg, 2, none⟩ = some (.int .u64 dur.first) := Heap.cell HI9.out.pre.core 2
                have q3 : w10.cell? ⟨lg, 3, none⟩ = some (.int .i64 dur.many) := Heap.cell HI9.out.pre.core 3
                have q4 : w10.cell? ⟨lg, 4, none⟩ = some (.int .i64 dur.size) := Heap.cell HI9.out.pre.core 4
                have f2 : w10.frozen? ⟨lg, 2, none⟩ = false := Heap.frozen HI9.out.pre.core 2
                have f3 : w10.frozen? ⟨lg, 3, none⟩ = false := Heap.frozen HI9.out.pre.core 3
                have f4 : w10.frozen? ⟨lg, 4, none⟩ = false := Heap.frozen HI9.out.pre.core 4
                have hlz2 : lg < w10.heap.size := Heap.lt HI9.out.pre.core
                clear hb10
                go_wp2_with fail
                case roundEnd => exact ⟨⟨k + 1, D2, acc ++ [⟨u, m, z⟩], ⟨u, m, z⟩, _, _, hlt, by push_cast; rfl, HI9.out.setDur hgu2 hlw hgl ⟨u, m, z⟩, by rw [List.length_append, HAL.out]; rfl, HRS.out, fun h => absurd h (by omega), fun _ => ⟨acc, rfl⟩⟩, by simp [intOf]; omega⟩
            · have hres2 : res = (D2, e2, acc) := by
                rw [HR1.out, HONE.out, HON.out]
                dsimp only
                rw [if_pos he2]
              have HRS := Lib.hid hres2; clear hres2 x1 x2
              have y1 : (e2 != 0) = true := by rw [bne_iff_ne]; exact he2
              go_wp2_with fail
              go_ret2
              exact post_err HI8.out HRS.out he2
      · have hon : openOne D1 u (us.drop (k + 1)).head? = (D1, er, ⟨u, 0, 0⟩) := by unfold openOne; rw [HTE.out]; dsimp only; rw [if_pos hee]
        have hre := HR1.out
        rw [HONE.out, hon] at hre
        dsimp only at hre
        rw [if_pos hee] at hre
        have HRE := Lib.hid hre; clear hre hon
        have t1 : (er != 0) = true := by rw [bne_iff_ne]; exact hee
        go_wp2_with fail
        go_ret2
        exact post_err HI2.out HRE.out hee
    · have hkl : k = us.length := by omega
      subst hkl
      have hi1 : ¬ (us.length : Int) < (us.length : Int) := by omega
      obtain ⟨xs, hxs⟩ := HLA.out hupos
      have hre := HR1.out
      rw [List.drop_length] at hre
      have HRE := Lib.hid hre
      have HXS := Lib.hid hxs; clear hxs hre
      go_wp2_with fail
      go_ret2
      exact post_ok HII.out HRE.out HXS.out hlw
end Seg
end Go.Proofs.YtndgnlblbjpogaaGreatDoor
namespace Go.Proofs.YtndgnlblbjpogaaGreatDoor
open Go Go.RowKit Go.Shelf Go.Sort
/-- What Open answers and leaves, plain: the disk, what errs, the segments. -/
def DiskV.opened (D : DiskV) : DiskV × Int × List SegV := if D.firsts = [] then ((D.started 1).1, (D.started 1).2.1, [⟨1, 0, 0⟩]) else openGo D [] D.firsts
theorem dstarted_ok {D : DiskV} {u : Nat} (h : (D.started u).2.1 = 0) : (D.started u).2.2 = true := by
  unfold DiskV.started at h ⊢
  generalize D.create (Seg.nameB u) = c at h ⊢
  obtain ⟨D1, e⟩ := c
  dsimp only at h ⊢
  split
  · rfl
  · rename_i hc; rw [if_neg hc] at h; exact absurd h hc
namespace Seg
set_option maxHeartbeats 1000000 in
set_option maxRecDepth 100000 in
theorem open_zero (w : World) (d n N : Nat) (D : DiskV) (F : Nat → Prop) (h : DiskIn w d D F) (hu : D.firsts = []) (hnm : ∀ s ∈ D.list, NameOk s) (hG : Glob n w) (hl : Lim N D) :
    Calls Tryz.prog 68 #[.pointer (some ⟨d, 0, none⟩)] w fun e w' => OpenPost D.opened w d F e w' := by
  have HD := Lib.hid h; clear h
  have HGL := Lib.hid hG; clear hG
  have HL := Lib.hid hl; clear hl
  have hop : D.opened = ((D.started 1).1, (D.started 1).2.1, [⟨1, 0, 0⟩]) := by unfold DiskV.opened; rw [if_pos hu]
  have HOP := Lib.hid hop; clear hop
  have HNM := Lib.hid hnm; clear hnm
  have HU := Lib.hid hu; clear hu
  go_enter Tryz.func68, Tryz.ntmps68
  go_wp2_with fail
  obtain ⟨w0, hw0⟩ : ∃ w0, w0 = w.alloc (.cells #[.pointer (some ⟨d, 0, none⟩), .slice none 0 0, .int .u64 0, .int .i64 0, .int .i64 0] 112) := ⟨_, rfl⟩
  rw [← hw0]
  have ho0 : Off None w w0 := by rw [hw0]; exact (Off.refl None w).alloc _
  have hcore : w0.heap[w.heap.size]? = some (.cells (logCells d (.slice none 0 0) emptyLog) 112 (0, 0)) := by rw [hw0]; exact Heap.alloc_new w _
  have hd0 : DiskIn w0 d D (fun b => F b ∧ b < w.heap.size) := (HD.out.mono (fun b hb h => ⟨h, hb⟩) : DiskIn w d D (fun b => F b ∧ b < w.heap.size)).off ho0 (fun _ _ _ h => h)
  have hpre : PreAt w0 w.heap.size d [] emptyLog (.slice none 0 0) := ⟨hcore, World.ownsRow_nil _ _ _ _, fun e => by cases e⟩
  clear hw0 hcore
  refine (firsts_any w0 d D _ hd0 (Nat.le_trans HL.out.names (by have := HL.out.le; omega)) HNM.out).mono ?_
  rintro e w1 ⟨v, rfl, hrow, ho1⟩
  have hv : ∃ p c, v = .slice p 0 c := by
    rw [HU.out] at hrow
    obtain ⟨_, ⟨rfl, _⟩ | ⟨g, cap, cur, rfl, _⟩⟩ := hrow
    · exact ⟨_, _, rfl⟩
    · exact ⟨_, _, rfl⟩
  obtain ⟨pv, cv, rfl⟩ := hv
  have ho01 := ho0.trans ho1 (fun _ _ h => h)
  have hs0 : w.heap.size < w0.heap.size := Heap.lt hpre.core
  have hbeg := begin_any w1 w.heap.size d n N [] emptyLog (.slice none 0 0) D (fun b => F b ∧ b < w.heap.size) (hpre.off ho1 (fun h => h) (fun _ _ h => h)) (hd0.off ho1 (fun _ _ _ h => h)) (fun h => absurd h.2 (by omega)) (fun k hk => by cases hk)
    (HGL.out.none ho01) (fun b h => Nat.lt_of_lt_of_le h.2 ho01.size) HL.out (Nat.zero_le _) 1 (by omega)
  have HB := Lib.hid hbeg; have HO := Lib.hid ho01; have HS1 := Lib.hid (Nat.lt_of_lt_of_le hs0 ho1.size)
  clear hbeg ho0 ho1 ho01 hd0 hpre hs0 hrow
  go_wp2_with fail
  refine HB.out.mono ?_
  rintro e w2 ⟨rfl, hd2, ho2, hyes, _⟩
  have HYES := Lib.hid hyes; have HD2 := Lib.hid hd2; have HO2 := Lib.hid ho2
  clear hyes hd2 ho2
  obtain ⟨er, her⟩ : ∃ er, er = (D.started 1).2.1 := ⟨_, rfl⟩
  rw [← her]
  have HER := Lib.hid her; clear her
  have hoff : Off F w w2 := by
    have hs1 := HS1.out
    refine (HO.out.mono (fun _ _ h => h.elim) : Off F w w1).trans HO2.out (fun b hb h => ?_)
    rcases h with h | h | h
    · exact h.1
    · omega
    · cases h
  have hup : ∀ b, Grow (fun b => F b ∧ b < w.heap.size) w1 w2 b → Grow F w w2 b := fun b h => by
    have hs1 := HS1.out
    rcases h with h | h
    · exact .inl h.1
    · exact .inr ⟨by omega, h.2⟩
  have HOFF := Lib.hid hoff; have HUP := Lib.hid hup
  clear hoff hup
  by_cases he : er = 0
  · subst he
    obtain ⟨g, cap, Fd', hl2, hg2, hd2', hsl2, hsg2, hup2⟩ := HYES.out (dstarted_ok HER.out.symm)
    have HLG := Lib.hid hl2; have HD3 := Lib.hid hd2'; have HG2 := Lib.hid hg2; have HUP2 := Lib.hid hup2; have HSL := Lib.hid hsl2; have HSG := Lib.hid hsg2
    clear hl2 hg2 hd2' hsl2 hsg2 hup2
    go_wp2_with fail
    go_ret2
    have hs1 := HS1.out
    have hs2 := HO2.out.size
    rw [HOP.out, ← HER.out]
    refine ⟨⟨_, rfl, fun h => absurd rfl h, fun _ => ⟨w.heap.size, [], ⟨1, 0, 0⟩, rfl, Nat.le_refl _, rfl, g, cap, Fd', HLG.out, HD3.out, HSL.out, HSG.out, .inr ⟨Nat.le_refl _, by omega⟩, ?_, fun b hb => HUP.out b (HUP2.out b hb)⟩⟩, HD2.out.mono (fun b _ hb => HUP.out b hb), HOFF.out⟩
    rcases HG2.out with h | h
    · cases h
    · exact .inr ⟨by omega, h.2⟩
  · have t1 : (er != 0) = true := by rw [bne_iff_ne]; exact he
    go_wp2_with fail
    go_ret2
    rw [HOP.out, ← HER.out]
    exact ⟨⟨_, rfl, fun _ => rfl, fun h => absurd h he⟩, HD2.out.mono (fun b _ hb => HUP.out b hb), HOFF.out⟩
/-- Open on any disk. -/
theorem open_all (w : World) (d n N : Nat) (D : DiskV) (F : Nat → Prop) (h : DiskIn w d D F) (hnm : ∀ s ∈ D.list, NameOk s) (hub : ∀ u ∈ D.firsts, u ≤ 1000000000000) (hG : Glob n w) (hFn : ∀ b, F b → n ≤ b) (hl : Lim N D) (hN : N + 1 ≤ 1000000) :
    Calls Tryz.prog 68 #[.pointer (some ⟨d, 0, none⟩)] w fun e w' => OpenPost D.opened w d F e w' := by
  by_cases hu : D.firsts = []
  · exact open_zero w d n N D F h hu hnm hG hl
  · have := open_any w d n N D F h hu hnm hub hG hFn hl hN
    have e : D.opened = openGo D [] D.firsts := by unfold DiskV.opened; rw [if_neg hu]
    rw [e]; exact this
end Seg
end Go.Proofs.YtndgnlblbjpogaaGreatDoor
