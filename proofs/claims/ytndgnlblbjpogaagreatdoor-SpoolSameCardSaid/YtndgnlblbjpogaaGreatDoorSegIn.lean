/- strconv.FormatUint at ten, and segment.Name. · A log: its plain form, and how it lies in memory. -/
import Derived.Test.YtndgnlblbjpogaaGreatDoorFrame3
import Derived.Test.YtndgnlblbjpogaaGreatDoorShelf
import Derived.Lib.AppendIntMem
import Derived.Lib.SmallJoins
import Derived.Lib.Walk
import Derived.Test.YtndgnlblbjpogaaGreatDoorDisk9
import Derived.Deep.QuietTactic
namespace Go.Proofs.YtndgnlblbjpogaaGreatDoor
open Go Go.RowKit Go.Shelf Go.Sort Go.Lib
abbrev Pow (w : World) : Prop := Lib.TabIs Tryz.prog w "internal/strconv.uint64pow10" .u64 Lib.pow10Tab
/-- What the program's tables hold; they lie below n. -/
structure Glob (n : Nat) (w : World) : Prop where
  crc : Crc.TabOk w
  pow : Pow w
  le : 2 < n ∧ 1 < n
theorem powNamed : Tryz.prog.globalNamed "internal/strconv.uint64pow10" = some 1 := by kernel_rfl
theorem Pow.off {G : Nat → Prop} {w w' : World} (h : Pow w) (ho : Off G w w') (hn : ¬ G 1) : Pow w' := by
  unfold Pow Lib.TabIs World.var? at *
  rw [powNamed] at h ⊢
  simp only [Option.bind_some] at h ⊢
  cases hb : w.heap[1]? with
  | none => simp [hb] at h
  | some o => rw [ho.at_ hb hn]; rw [hb] at h; exact h
theorem Glob.off {n : Nat} {G : Nat → Prop} {w w' : World} (h : Glob n w) (ho : Off G w w') (hG : ∀ b, G b → n ≤ b) : Glob n w' :=
  ⟨h.crc.off ho (fun hg => by have := hG _ hg; have := h.le.1; omega), h.pow.off ho (fun hg => by have := hG _ hg; have := h.le.2; omega), h.le⟩
theorem Glob.none {n : Nat} {w w' : World} (h : Glob n w) (ho : Off None w w') : Glob n w' := h.off ho (fun _ h => h.elim)
namespace Seg
set_option maxHeartbeats 1000000 in
set_option maxRecDepth 100000 in
theorem ifmt_any (w : World) (u : Nat) (hu : u < 18446744073709551616) (hP : Pow w) :
    Calls Tryz.prog 143 #[.int .u64 u, .int .i64 10] w fun e w' => e = .returned (.string ⟨(Lib.decDigits u).toArray⟩) ∧ Off None w w' := by
  have HP := Lib.hid hP; clear hP
  by_cases hs : u < 100
  · have hs' : (u : Int) < 100 := by omega
    go_enter Tryz.func143, Tryz.ntmps143
    go_wp2_with (go_at_call 179; refine (Tryz.internal_strconv_small u hs _).mono ?_; rintro e w' ⟨rfl, rfl⟩)
    go_ret
    exact ⟨rfl, Off.refl _ _⟩
  · have hu1 : 1 ≤ u := by omega
    have hs' : ¬ ((u : Int) < 100) := by omega
    have hnd20 : Lib.nDigits u ≤ 20 := by have := Lib.numDigits_eq u hu1 hu; split at this <;> omega
    have hal : Tryz.prog.arrayLen 228 = 24 := by simp [Program.arrayLen, Tryz.underlying228]
    have hsl : ∀ W, (Instr.sliceAt 228 (.pointer (some ⟨w.heap.size, 0, none⟩)) none (some (.int .i64 (Lib.nDigits u : Int))) none).run Tryz.prog W = .ok (.slice (some ⟨w.heap.size, 0, none⟩) (Lib.nDigits u) 24) W := fun W => by
      rw [run_sliceAt_array_h W 228 ⟨w.heap.size, 0, none⟩ (by simp [Program.arrayLen, Program.elem, Tryz.underlying228]) .i64 (Lib.nDigits u : Int) (by omega) (by rw [hal]; omega)]
      go_simp
    have hH0 := Lib.holds_zero0 w 228 (Lib.nDigits u) (by omega)
    have hfmt := Tryz.internal_strconv_formatBase10 w.heap.size 0 24 u (Array.replicate (Lib.nDigits u) 0) (w.alloc (.cells Lib.zeros24 228)) hH0 (by rw [Array.size_replicate]; exact Lib.lt_pow_nDigits u) hu (by rw [Array.size_replicate]; omega)
    rw [Array.size_replicate] at hfmt
    have HH0 := Lib.hid hH0
    clear hH0 hal
    go_enter Tryz.func143, Tryz.ntmps143
    go_wp2_with (go_at_call 180; refine (Tryz.internal_strconv_numDigits u hu1 hu _ (Lib.tabIs_alloc HP.out _)).mono ?_; rintro e w' ⟨rfl, rfl⟩)
    go_at_call 181
    refine hfmt.mono ?_
    rintro e w' ⟨rfl, k, v', dk, rfl, hF⟩
    have hcv : (convert 78 9 (.slice (some ⟨w.heap.size, 0, none⟩) (Lib.nDigits u) 24)).run Tryz.prog ((putRow (fun (b : UInt8) => Value.int .u8 (b.toNat : Int)) (w.alloc (.cells Lib.zeros24 228)) w.heap.size 0 dk).drewN k) = .ok (.string ⟨(Lib.decDigits u).toArray⟩) ((putRow (fun (b : UInt8) => Value.int .u8 (b.toNat : Int)) (w.alloc (.cells Lib.zeros24 228)) w.heap.size 0 dk).drewN k) := by
      have h := run_convert_bytes_back (P := Tryz.prog) ((putRow (fun (b : UInt8) => Value.int .u8 (b.toNat : Int)) (w.alloc (.cells Lib.zeros24 228)) w.heap.size 0 dk).drewN k) 78 9 5 ⟨w.heap.size, 0, none⟩ 24 (Lib.decDigits u) Tryz.underlying78 Tryz.underlying5 Tryz.underlying9 (fun j hj => by
        rw [Lib.row_is_numeral hF j hj, Lib.add_plain, World.cell?_drewN]
        exact cell?_putRow (fun (b : UInt8) => Value.int .u8 (b.toNat : Int)) _ w.heap.size 0 _ dk HH0.out (by rw [hF.size, Array.size_replicate]) j (by rw [hF.size]; rw [Lib.decDigits_length] at hj; exact hj))
      rw [Lib.decDigits_length] at h
      exact h
    go_wp2
    go_ret
    refine ⟨rfl, ?_⟩
    rw [alloc_eq_grow]
    obtain ⟨os', _, e⟩ := putRow_grow_new (fun (b : UInt8) => Value.int .u8 (b.toNat : Int)) w #[.cells Lib.zeros24 228] w.heap.size 0 dk (Nat.le_refl _)
    rw [e]
    exact Off.of_below (Lib.below_grow w.heap.size w (Nat.le_refl _) k os')
theorem fmt_any (w : World) (u : Nat) (hu : u < 18446744073709551616) (hP : Pow w) :
    Calls Tryz.prog 111 #[.int .u64 u, .int .i64 10] w fun e w' => e = .returned (.string ⟨(Lib.decDigits u).toArray⟩) ∧ Off None w w' := by
  have HI := Lib.hid (ifmt_any w u hu hP); clear hP
  go_enter Tryz.func111, Tryz.ntmps111
  go_wp2_with (go_at_call 143; refine HI.out.mono ?_; rintro e w' ⟨rfl, ho⟩)
  go_ret
  exact ⟨rfl, ho⟩
/-- A segment's name: a letter, zeros, a numeral: 21 bytes. -/
def nameL (u : Nat) : List UInt8 := 115 :: (List.replicate (20 - Lib.nDigits u) 48 ++ Lib.decDigits u)
def nameB (u : Nat) : ByteArray := ⟨(nameL u).toArray⟩
theorem nDigits_le {u : Nat} (hu : u < 18446744073709551616) : Lib.nDigits u ≤ 20 := by
  by_cases h : 1 ≤ u
  · have := Lib.numDigits_eq u h hu; split at this <;> omega
  · rw [show u = 0 by omega, Lib.nDigits_small (by omega)]; omega
theorem nameL_length {u : Nat} (hu : u < 18446744073709551616) : (nameL u).length = 21 := by
  have h1 := nDigits_le hu
  simp only [nameL, List.length_cons, List.length_append, List.length_replicate, Lib.decDigits_length]
  omega
theorem repeat_one (c : UInt8) (n : Nat) : Lib.repeatL [c] n = List.replicate n c := by
  induction n with
  | zero => rfl
  | succ n ih => rw [Lib.repeatL, ih, List.replicate_succ]; rfl
set_option maxRecDepth 100000 in
theorem name_any (w : World) (u : Nat) (hu : u < 18446744073709551616) (hP : Pow w) :
    Calls Tryz.prog 80 #[.int .u64 u] w fun e w' => e = .returned (.string (nameB u)) ∧ Off None w w' := by
  have HI := Lib.hid (fmt_any w u hu hP); clear hP
  have hnd := nDigits_le hu
  have hsz : (⟨(Lib.decDigits u).toArray⟩ : ByteArray).size = Lib.nDigits u := Lib.decDigits_length u
  go_enter Tryz.func80, Tryz.ntmps80
  go_wp2_with fail
  refine HI.out.mono ?_
  rintro e w1 ⟨rfl, ho1⟩
  go_wp2_with fail
  have e1 : (⟨#[48, 49, 50, 51, 52, 53, 54, 55, 56, 57]⟩ : ByteArray).extract 0 1 = ⟨#[48]⟩ := by decide
  have e2 : (20 - (Lib.nDigits u : Int)) = ((20 - Lib.nDigits u : Nat) : Int) := by omega
  rw [e1, e2]
  have hs1 : (⟨#[48]⟩ : ByteArray).size = 1 := rfl
  refine (Tryz.strings_Repeat ⟨#[48]⟩ (20 - Lib.nDigits u) w1 (by omega) (by rw [hs1]; omega)).mono ?_
  rintro e w2 ⟨rfl, hb2⟩
  have e3 : Lib.repeatL (⟨#[48]⟩ : ByteArray).data.toList (20 - Lib.nDigits u) = List.replicate (20 - Lib.nDigits u) 48 := repeat_one 48 _
  rw [e3]
  have hr : (⟨(List.replicate (20 - Lib.nDigits u) (48 : UInt8)).toArray⟩ : ByteArray).size = 20 - Lib.nDigits u := by simp [ByteArray.size]
  have HO := Lib.hid (ho1.trans (Off.of_below hb2 : Off None w1 w2) (fun _ _ h => h))
  clear ho1 hb2 e1 e2 e3
  go_wp2
  have e : ((⟨#[115]⟩ ++ ⟨Array.replicate (20 - Lib.nDigits u) 48⟩ ++ ⟨(Lib.decDigits u).toArray⟩ : ByteArray)) = nameB u := by
    refine str_of ?_
    have ha : ∀ a b : ByteArray, (a ++ b).data.toList = a.data.toList ++ b.data.toList := fun a b => by simp
    rw [ha, ha]
    simp [nameL]
  rw [e]
  go_ret
  exact ⟨rfl, HO.out⟩
end Seg
end Go.Proofs.YtndgnlblbjpogaaGreatDoor
namespace Go.Proofs.YtndgnlblbjpogaaGreatDoor
open Go Go.RowKit
structure SegV where
  first : Nat
  many : Nat
  size : Nat
def SegV.end_ (s : SegV) : Nat := s.first + s.many
structure LogV where
  full : List SegV
  act : SegV
  durable : SegV
def LogV.segs (L : LogV) : List SegV := L.full ++ [L.act]
theorem LogV.len (L : LogV) : L.segs.length = L.full.length + 1 := by simp [LogV.segs]
def segCells (s : SegV) : List Value := [.int .u64 s.first, .int .i64 s.many, .int .i64 s.size]
def segAgg (s : SegV) : Value := .agg #[.int .u64 s.first, .int .i64 s.many, .int .i64 s.size]
def logCells (d : Nat) (sv : Value) (s : SegV) : Array Value := #[.pointer (some ⟨d, 0, none⟩), sv, .int .u64 s.first, .int .i64 s.many, .int .i64 s.size]
structure SegRow (w : World) (g off cap : Nat) (xs : List SegV) (cur : Array Value) : Prop where
  blk : w.heap[g]? = some (.cells cur 81 (0, 0))
  size : cur.size = (off + cap) * 3
  le : xs.length ≤ cap
  max : cap ≤ maxLen
  at_ : ∀ i s, xs[i]? = some s → cur[(off + i) * 3]? = some (.int .u64 s.first) ∧ cur[(off + i) * 3 + 1]? = some (.int .i64 s.many) ∧ cur[(off + i) * 3 + 2]? = some (.int .i64 s.size)
structure LogAt (w : World) (lg d : Nat) (L : LogV) (g off cap : Nat) : Prop where
  core : w.heap[lg]? = some (.cells (logCells d (.slice (some ⟨g, off * 3, none⟩) L.segs.length cap) L.durable) 112 (0, 0))
  row : ∃ cur, SegRow w g off cap L.segs cur
  ne : g ≠ lg
/-- Numbers that Go's types bear. -/
structure SegV.Ok (s : SegV) : Prop where
  sum : s.first + s.many < 18446744073709551616
  many : s.many ≤ 1099511627776
  size : s.size ≤ 1099511627776
structure LogV.Ok (L : LogV) : Prop where
  segs : ∀ s ∈ L.segs, s.Ok
  durable : L.durable.Ok
theorem LogV.Ok.act {L : LogV} (h : L.Ok) : L.act.Ok := h.segs _ (by simp [LogV.segs])
theorem SegRow.off {w w' : World} {g off cap : Nat} {xs : List SegV} {cur : Array Value} {G : Nat → Prop} (h : SegRow w g off cap xs cur) (ho : Off G w w') (hg : ¬ G g) : SegRow w' g off cap xs cur :=
  ⟨ho.at_ h.blk hg, h.size, h.le, h.max, h.at_⟩
theorem LogAt.off {w w' : World} {lg d : Nat} {L : LogV} {g off cap : Nat} {G : Nat → Prop} (h : LogAt w lg d L g off cap) (ho : Off G w w') (hl : ¬ G lg) (hg : ¬ G g) : LogAt w' lg d L g off cap :=
  ⟨ho.at_ h.core hl, h.row.imp fun _ hr => hr.off ho hg, h.ne⟩
/-- The active segment's cells. -/
theorem LogAt.act {w : World} {lg d : Nat} {L : LogV} {g off cap : Nat} (h : LogAt w lg d L g off cap) :
    w.cell? ⟨g, off * 3 + L.full.length * 3, none⟩ = some (.int .u64 L.act.first) ∧ w.cell? ⟨g, off * 3 + L.full.length * 3 + 1, none⟩ = some (.int .i64 L.act.many) ∧ w.cell? ⟨g, off * 3 + L.full.length * 3 + 2, none⟩ = some (.int .i64 L.act.size) ∧ ∀ i, w.frozen? ⟨g, i, none⟩ = false := by
  obtain ⟨cur, hr⟩ := h.row
  have h1 := hr.at_ L.full.length L.act (by simp [LogV.segs])
  rw [Nat.add_mul] at h1
  exact ⟨(Heap.cell hr.blk _).trans h1.1, (Heap.cell hr.blk _).trans h1.2.1, (Heap.cell hr.blk _).trans h1.2.2, fun i => Heap.frozen hr.blk i⟩
/-- The active segment's numbers have turned. -/
theorem LogAt.setAct {w w' : World} {lg d : Nat} {L : LogV} {g off cap : Nat} (h : LogAt w lg d L g off cap) (a : SegV) (hl : w'.heap[lg]? = w.heap[lg]?)
    (hb : ∀ cur, w.heap[g]? = some (.cells cur 81 (0, 0)) → w'.heap[g]? = some (.cells (((cur.setIfInBounds (off * 3 + L.full.length * 3) (.int .u64 a.first)).setIfInBounds (off * 3 + L.full.length * 3 + 1) (.int .i64 a.many)).setIfInBounds (off * 3 + L.full.length * 3 + 2) (.int .i64 a.size)) 81 (0, 0))) :
    LogAt w' lg d { L with act := a } g off cap := by
  obtain ⟨cur, hr⟩ := h.row
  have hlen := L.len
  have hle := hr.le
  have hsz := hr.size
  refine ⟨?_, ⟨_, hb cur hr.blk, by simp [hr.size], by rw [LogV.len] at hle ⊢; exact hle, hr.max, ?_⟩, h.ne⟩
  · rw [hl, h.core, LogV.len, LogV.len]
  · intro i s hi
    by_cases hc : i < L.full.length
    · have hs : L.segs[i]? = some s := by
        have : (L.full ++ [a])[i]? = some s := hi
        rw [List.getElem?_append_left hc] at this
        show (L.full ++ [L.act])[i]? = _
        rw [List.getElem?_append_left hc]; exact this
      have h1 := hr.at_ i s hs
      have e : (off + i) * 3 = off * 3 + i * 3 := Nat.add_mul ..
      rw [e] at h1 ⊢
      simp only [Array.getElem?_setIfInBounds]
      refine ⟨?_, ?_, ?_⟩
      · rw [if_neg (by omega), if_neg (by omega), if_neg (by omega)]; exact h1.1
      · rw [if_neg (by omega), if_neg (by omega), if_neg (by omega)]; exact h1.2.1
      · rw [if_neg (by omega), if_neg (by omega), if_neg (by omega)]; exact h1.2.2
    · have hi' : (L.full ++ [a])[i]? = some s := hi
      rw [List.getElem?_append_right (by omega)] at hi'
      have e0 : i = L.full.length := by
        rcases Nat.lt_or_ge (i - L.full.length) 1 with h1 | h1
        · omega
        · rw [List.getElem?_eq_none (by simpa using h1)] at hi'; cases hi'
      subst e0
      rw [Nat.sub_self] at hi'
      cases hi'
      have e : (off + L.full.length) * 3 = off * 3 + L.full.length * 3 := Nat.add_mul ..
      have hb3 : off * 3 + L.full.length * 3 + 2 < cur.size := by rw [hsz]; omega
      rw [e]
      simp only [Array.getElem?_setIfInBounds, Array.size_setIfInBounds]
      refine ⟨?_, ?_, ?_⟩
      · rw [if_neg (by omega), if_neg (by omega), if_pos trivial, if_pos (by omega)]
      · rw [if_neg (by omega), if_pos trivial, if_pos (by omega)]
      · rw [if_pos trivial, if_pos (by omega)]
namespace Seg
theorem end_any (w : World) (s : SegV) (h : s.Ok) : Calls Tryz.prog 86 #[segAgg s] w fun e w' => e = .returned (.int .u64 s.end_) ∧ Off None w w' := by
  have h1 := h.sum
  have h2 := h.many
  unfold segAgg
  go_enter Tryz.func86, Tryz.ntmps86
  go_wp2
  go_ret
  refine ⟨?_, (Off.refl None w).alloc _⟩
  unfold SegV.end_
  push_cast
  rfl
theorem active_any (w : World) (lg d : Nat) (L : LogV) (g off cap : Nat) (h : LogAt w lg d L g off cap) :
    Calls Tryz.prog 78 #[.pointer (some ⟨lg, 0, none⟩)] w fun e w' => e = .returned (.pointer (some ⟨g, off * 3 + L.full.length * 3, none⟩)) ∧ Off None w w' := by
  have c1 : w.cell? ⟨lg, 1, none⟩ = some (.slice (some ⟨g, off * 3, none⟩) L.segs.length cap) := Heap.cell h.core 1
  obtain ⟨cur, hr⟩ := h.row
  have hlen := L.len
  have hle := hr.le
  have hmx : cap ≤ 2 ^ 63 - 1 := hr.max
  clear h
  obtain ⟨k, hk⟩ : ∃ k, L.segs.length = k := ⟨_, rfl⟩
  have hf : L.full.length = k - 1 := by omega
  rw [hf]
  rw [hk] at c1 hle hlen
  have hk0 : 0 < k := by omega
  clear hk hf hlen
  have hwr : IntKind.i64.wrap ((k : Int) - 1) = (k : Int) - 1 := IntWalk.i64_in _ (by omega)
  have hi0 : (0 : Int) ≤ (k : Int) - 1 := by omega
  have hi1 : (k : Int) - 1 < (k : Int) := by omega
  go_enter Tryz.func78, Tryz.ntmps78
  go_wp2
  go_quiet (fail)
  go_wp2
  go_ret
  exact ⟨rfl, (Off.refl None w).drewN nq⟩
theorem next_any (w : World) (lg d : Nat) (L : LogV) (g off cap : Nat) (h : LogAt w lg d L g off cap) (hk : L.Ok) :
    Calls Tryz.prog 56 #[.pointer (some ⟨lg, 0, none⟩)] w fun e w' => e = .returned (.int .u64 L.act.end_) ∧ Off None w w' := by
  have H := Lib.hid h; clear h
  have hok := hk.act
  go_enter Tryz.func56, Tryz.ntmps56
  go_wp2_with fail
  refine (active_any _ lg d L g off cap H.out).mono ?_
  rintro e w1 ⟨rfl, ho1⟩
  obtain ⟨c0, c1, c2, f0⟩ := (H.out.off ho1 (fun h => h) (fun h => h)).act
  have HO := Lib.hid ho1; clear ho1
  go_wp2_with fail
  refine (end_any _ L.act hok).mono ?_
  rintro e w2 ⟨rfl, ho2⟩
  go_wp2
  go_ret
  exact ⟨rfl, HO.out.trans ho2 (fun _ _ h => h)⟩
theorem durable_any (w : World) (lg d : Nat) (L : LogV) (g off cap : Nat) (h : LogAt w lg d L g off cap) (hk : L.Ok) :
    Calls Tryz.prog 52 #[.pointer (some ⟨lg, 0, none⟩)] w fun e w' => e = .returned (.int .u64 L.durable.end_) ∧ Off None w w' := by
  have c2 : w.cell? ⟨lg, 2, none⟩ = some (.int .u64 L.durable.first) := Heap.cell h.core 2
  have c3 : w.cell? ⟨lg, 3, none⟩ = some (.int .i64 L.durable.many) := Heap.cell h.core 3
  have c4 : w.cell? ⟨lg, 4, none⟩ = some (.int .i64 L.durable.size) := Heap.cell h.core 4
  have hok := hk.durable
  clear h
  go_enter Tryz.func52, Tryz.ntmps52
  go_wp2_with fail
  refine (end_any _ L.durable hok).mono ?_
  rintro e w2 ⟨rfl, ho2⟩
  go_wp2
  go_ret
  exact ⟨rfl, ho2⟩
end Seg
end Go.Proofs.YtndgnlblbjpogaaGreatDoor
