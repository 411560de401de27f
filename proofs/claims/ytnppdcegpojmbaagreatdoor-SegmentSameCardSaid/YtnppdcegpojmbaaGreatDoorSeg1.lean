/- strconv.FormatUint at ten, and segment.Name. -/
import Derived.Test.YtnppdcegpojmbaaGreatDoorFrame3
import Derived.Test.YtnppdcegpojmbaaGreatDoorShelf
import Derived.Lib.AppendIntMem
import Derived.Lib.SmallJoins
import Derived.Lib.Walk
namespace Go.Proofs.YtnppdcegpojmbaaGreatDoor
open Go Go.RowKit Go.Shelf Go.Sort Go.Lib
abbrev Pow (w : World) : Prop := Lib.TabIs Tryz.prog w "internal/strconv.uint64pow10" .u64 Lib.pow10Tab
/-- What the program's tables hold; they lie below n. -/
structure Glob (n : Nat) (w : World) : Prop where
  crc : Crc.TabOk w
  pow : Pow w
  le : 1 < n ∧ 0 < n
theorem powNamed : Tryz.prog.globalNamed "internal/strconv.uint64pow10" = some 0 := by kernel_rfl
theorem Pow.off {G : Nat → Prop} {w w' : World} (h : Pow w) (ho : Off G w w') (hn : ¬ G 0) : Pow w' := by
  unfold Pow Lib.TabIs World.var? at *
  rw [powNamed] at h ⊢
  simp only [Option.bind_some] at h ⊢
  cases hb : w.heap[0]? with
  | none => simp [hb] at h
  | some o => rw [ho.at_ hb hn]; rw [hb] at h; exact h
theorem Glob.off {n : Nat} {G : Nat → Prop} {w w' : World} (h : Glob n w) (ho : Off G w w') (hG : ∀ b, G b → n ≤ b) : Glob n w' :=
  ⟨h.crc.off ho (fun hg => by have := hG _ hg; have := h.le.1; omega), h.pow.off ho (fun hg => by have := hG _ hg; have := h.le.2; omega), h.le⟩
theorem Glob.none {n : Nat} {w w' : World} (h : Glob n w) (ho : Off None w w') : Glob n w' := h.off ho (fun _ h => h.elim)
namespace Seg
set_option maxHeartbeats 1000000 in
set_option maxRecDepth 100000 in
theorem ifmt_any (w : World) (u : Nat) (hu : u < 18446744073709551616) (hP : Pow w) :
    Calls Tryz.prog 99 #[.int .u64 u, .int .i64 10] w fun e w' => e = .returned (.string ⟨(Lib.decDigits u).toArray⟩) ∧ Off None w w' := by
  have HP := Lib.hid hP; clear hP
  by_cases hs : u < 100
  · have hs' : (u : Int) < 100 := by omega
    go_enter Tryz.func99, Tryz.ntmps99
    go_wp2_with (go_at_call 131; refine (Tryz.internal_strconv_small u hs _).mono ?_; rintro e w' ⟨rfl, rfl⟩)
    go_ret
    exact ⟨rfl, Off.refl _ _⟩
  · have hu1 : 1 ≤ u := by omega
    have hs' : ¬ ((u : Int) < 100) := by omega
    have hnd20 : Lib.nDigits u ≤ 20 := by have := Lib.numDigits_eq u hu1 hu; split at this <;> omega
    have hal : Tryz.prog.arrayLen 185 = 24 := by simp [Program.arrayLen, Tryz.underlying185]
    have hsl : ∀ W, (Instr.sliceAt 185 (.pointer (some ⟨w.heap.size, 0, none⟩)) none (some (.int .i64 (Lib.nDigits u : Int))) none).run Tryz.prog W = .ok (.slice (some ⟨w.heap.size, 0, none⟩) (Lib.nDigits u) 24) W := fun W => by
      rw [run_sliceAt_array_h W 185 ⟨w.heap.size, 0, none⟩ (by simp [Program.arrayLen, Program.elem, Tryz.underlying185]) .i64 (Lib.nDigits u : Int) (by omega) (by rw [hal]; omega)]
      go_simp
    have hH0 := Lib.holds_zero0 w 185 (Lib.nDigits u) (by omega)
    have hfmt := Tryz.internal_strconv_formatBase10 w.heap.size 0 24 u (Array.replicate (Lib.nDigits u) 0) (w.alloc (.cells Lib.zeros24 185)) hH0 (by rw [Array.size_replicate]; exact Lib.lt_pow_nDigits u) hu (by rw [Array.size_replicate]; omega)
    rw [Array.size_replicate] at hfmt
    have HH0 := Lib.hid hH0
    clear hH0 hal
    go_enter Tryz.func99, Tryz.ntmps99
    go_wp2_with (go_at_call 132; refine (Tryz.internal_strconv_numDigits u hu1 hu _ (Lib.tabIs_alloc HP.out _)).mono ?_; rintro e w' ⟨rfl, rfl⟩)
    go_at_call 133
    refine hfmt.mono ?_
    rintro e w' ⟨rfl, k, v', dk, rfl, hF⟩
    have hcv : (convert 157 9 (.slice (some ⟨w.heap.size, 0, none⟩) (Lib.nDigits u) 24)).run Tryz.prog ((putRow (fun (b : UInt8) => Value.int .u8 (b.toNat : Int)) (w.alloc (.cells Lib.zeros24 185)) w.heap.size 0 dk).drewN k) = .ok (.string ⟨(Lib.decDigits u).toArray⟩) ((putRow (fun (b : UInt8) => Value.int .u8 (b.toNat : Int)) (w.alloc (.cells Lib.zeros24 185)) w.heap.size 0 dk).drewN k) := by
      have h := run_convert_bytes_back (P := Tryz.prog) ((putRow (fun (b : UInt8) => Value.int .u8 (b.toNat : Int)) (w.alloc (.cells Lib.zeros24 185)) w.heap.size 0 dk).drewN k) 157 9 5 ⟨w.heap.size, 0, none⟩ 24 (Lib.decDigits u) Tryz.underlying157 Tryz.underlying5 Tryz.underlying9 (fun j hj => by
        rw [Lib.row_is_numeral hF j hj, Lib.add_plain, World.cell?_drewN]
        exact cell?_putRow (fun (b : UInt8) => Value.int .u8 (b.toNat : Int)) _ w.heap.size 0 _ dk HH0.out (by rw [hF.size, Array.size_replicate]) j (by rw [hF.size]; rw [Lib.decDigits_length] at hj; exact hj))
      rw [Lib.decDigits_length] at h
      exact h
    go_wp2
    go_ret
    refine ⟨rfl, ?_⟩
    rw [alloc_eq_grow]
    obtain ⟨os', _, e⟩ := putRow_grow_new (fun (b : UInt8) => Value.int .u8 (b.toNat : Int)) w #[.cells Lib.zeros24 185] w.heap.size 0 dk (Nat.le_refl _)
    rw [e]
    exact Off.of_below (Lib.below_grow w.heap.size w (Nat.le_refl _) k os')
theorem fmt_any (w : World) (u : Nat) (hu : u < 18446744073709551616) (hP : Pow w) :
    Calls Tryz.prog 57 #[.int .u64 u, .int .i64 10] w fun e w' => e = .returned (.string ⟨(Lib.decDigits u).toArray⟩) ∧ Off None w w' := by
  have HI := Lib.hid (ifmt_any w u hu hP); clear hP
  go_enter Tryz.func57, Tryz.ntmps57
  go_wp2_with (go_at_call 99; refine HI.out.mono ?_; rintro e w' ⟨rfl, ho⟩)
  go_ret
  exact ⟨rfl, ho⟩
/-- A segment's name: a letter, zeros, a numeral: 21 bytes. -/
def nameL (u : Nat) : List UInt8 := 115 :: (List.replicate (20 - Lib.nDigits u) 48 ++ Lib.decDigits u)
def nameB (u : Nat) : ByteArray := ⟨(nameL u).toArray⟩
theorem nDigits_le {u : Nat} (hu : u < 18446744073709551616) : Lib.nDigits u ≤ 20 := by
  by_cases h : 1 ≤ u
  · have := Lib.numDigits_eq u h hu; split at this <;> omega
  · rw [show u = 0 by omega, Lib.nDigits_small (by omega)]; omega
theorem nameL_length {u : Nat} (hu : u < 18446744073709551616) : (nameL u).length = 21 := by
  have h1 := nDigits_le hu
  simp only [nameL, List.length_cons, List.length_append, List.length_replicate, Lib.decDigits_length]
  omega
theorem repeat_one (c : UInt8) (n : Nat) : Lib.repeatL [c] n = List.replicate n c := by
  induction n with
  | zero => rfl
  | succ n ih => rw [Lib.repeatL, ih, List.replicate_succ]; rfl
set_option maxRecDepth 100000 in
theorem name_any (w : World) (u : Nat) (hu : u < 18446744073709551616) (hP : Pow w) :
    Calls Tryz.prog 25 #[.int .u64 u] w fun e w' => e = .returned (.string (nameB u)) ∧ Off None w w' := by
  have HI := Lib.hid (fmt_any w u hu hP); clear hP
  have hnd := nDigits_le hu
  have hsz : (⟨(Lib.decDigits u).toArray⟩ : ByteArray).size = Lib.nDigits u := Lib.decDigits_length u
  go_enter Tryz.func25, Tryz.ntmps25
  go_wp2_with fail
  refine HI.out.mono ?_
  rintro e w1 ⟨rfl, ho1⟩
  go_wp2_with fail
  have e1 : (⟨#[48, 49, 50, 51, 52, 53, 54, 55, 56, 57]⟩ : ByteArray).extract 0 1 = ⟨#[48]⟩ := by decide
  have e2 : (20 - (Lib.nDigits u : Int)) = ((20 - Lib.nDigits u : Nat) : Int) := by omega
  rw [e1, e2]
  have hs1 : (⟨#[48]⟩ : ByteArray).size = 1 := rfl
  refine (Tryz.strings_Repeat ⟨#[48]⟩ (20 - Lib.nDigits u) w1 (by omega) (by rw [hs1]; omega)).mono ?_
  rintro e w2 ⟨rfl, hb2⟩
  have e3 : Lib.repeatL (⟨#[48]⟩ : ByteArray).data.toList (20 - Lib.nDigits u) = List.replicate (20 - Lib.nDigits u) 48 := repeat_one 48 _
  rw [e3]
  have hr : (⟨(List.replicate (20 - Lib.nDigits u) (48 : UInt8)).toArray⟩ : ByteArray).size = 20 - Lib.nDigits u := by simp [ByteArray.size]
  have HO := Lib.hid (ho1.trans (Off.of_below hb2 : Off None w1 w2) (fun _ _ h => h))
  clear ho1 hb2 e1 e2 e3
  go_wp2
  have e : ((⟨#[115]⟩ ++ ⟨Array.replicate (20 - Lib.nDigits u) 48⟩ ++ ⟨(Lib.decDigits u).toArray⟩ : ByteArray)) = nameB u := by
    refine str_of ?_
    have ha : ∀ a b : ByteArray, (a ++ b).data.toList = a.data.toList ++ b.data.toList := fun a b => by simp
    rw [ha, ha]
    simp [nameL]
  rw [e]
  go_ret
  exact ⟨rfl, HO.out⟩
end Seg
end Go.Proofs.YtnppdcegpojmbaaGreatDoor
