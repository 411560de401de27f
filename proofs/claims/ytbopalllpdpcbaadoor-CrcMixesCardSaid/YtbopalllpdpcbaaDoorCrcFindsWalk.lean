/- The walk of CrcFinds: it returns true at every text, place and bit, and makes no more than new memory. -/
import Derived.Test.YtbopalllpdpcbaaDoorCrcSumsWalk
import Derived.StillTailTactics
import Derived.Deep.RegionHeld
namespace Go.Proofs.YtbopalllpdpcbaaDoor.crcFinds
open Go Go.RowKit
def pickI (c n : Int) : Int := (if c < 0 then -(c + 1) else c) % n
theorem pickI_bd (c n : Int) (hn : 0 < n) : 0 ≤ pickI c n ∧ pickI c n < n := ⟨Int.emod_nonneg _ (by omega), Int.emod_lt_of_pos _ hn⟩
theorem pick_any (c n : Int) (hc : -9223372036854775808 ≤ c) (hc' : c ≤ 9223372036854775807) (hn : 0 < n) (hn' : n ≤ 9223372036854775807) (w : World) :
    Calls Tryd.prog 14 #[.int .i64 c, .int .i64 n] w fun e w' => e = .returned (.int .i64 (pickI c n)) ∧ w = w' := by
  by_cases h : c < 0
  · have e : pickI c n = (-(c + 1)) % n := by unfold pickI; rw [if_pos h]
    have E := Lib.hid e; clear e
    go_enter Tryd.func14, Tryd.ntmps14
    go_wp2
    go_ret
    exact ⟨by rw [E.out]; exact Crc.ret_int (by rw [← Int.tmod_eq_emod_of_nonneg (by omega : 0 ≤ -(c + 1)), Int.neg_tmod]), rfl⟩
  · have e : pickI c n = c % n := by unfold pickI; rw [if_neg h]
    have E := Lib.hid e; clear e
    go_enter Tryd.func14, Tryd.ntmps14
    go_wp2
    go_ret
    exact ⟨by rw [E.out]; rfl, rfl⟩
theorem pick_nat (c : Int) (n : Nat) (hc : (Lit.int .i64 c).wf = true) (hn : 0 < n) (hn' : n ≤ 9223372036854775807) :
    ∃ p : Nat, p < n ∧ ∀ w : World, Calls Tryd.prog 14 #[.int .i64 c, .int .i64 n] w fun e w' => e = .returned (.int .i64 p) ∧ w' = w := by
  have hb := pickI_bd c n (by omega)
  have hw : -9223372036854775808 ≤ c ∧ c ≤ 9223372036854775807 := by
    simpa [Lit.wf, IntKind.min, IntKind.max, IntKind.bits, IntKind.signed] using hc
  refine ⟨(pickI c n).toNat, by omega, fun w => ?_⟩
  refine (pick_any c n hw.1 hw.2 (by omega) (by omega) w).mono ?_
  rintro e w' ⟨rfl, rfl⟩
  exact ⟨Crc.ret_int (by omega), rfl⟩
/-- What the bytes are behind the turn of a bit. -/
def turned (s : ByteArray) (p : Nat) (x : UInt8) : List UInt8 := s.data.toList.set p x
theorem pow_ne {b : Nat} (h : b < 8) : UInt8.ofNat (2 ^ b) ≠ 0 := by
  have : ∀ j : Fin 8, UInt8.ofNat (2 ^ j.val) ≠ 0 := by decide
  exact this ⟨b, h⟩
theorem turned_ne (s : ByteArray) (p b : Nat) (hp : p < s.size) (hb : b < 8) : Crc.addN 0 (turned s p (s[p] ^^^ UInt8.ofNat (2 ^ b))) ≠ Crc.addN 0 s.data.toList := by
  have hp' : p < s.data.toList.length := by simpa using hp
  have e0 : s.data.toList[p] = s[p] := rfl
  have e1 : turned s p (s[p] ^^^ UInt8.ofNat (2 ^ b)) = s.data.toList.take p ++ (s[p] ^^^ UInt8.ofNat (2 ^ b)) :: s.data.toList.drop (p + 1) := by
    unfold turned
    rw [List.set_eq_take_append_cons_drop, if_pos hp']
  have e2 : s.data.toList = s.data.toList.take p ++ s[p] :: s.data.toList.drop (p + 1) := by
    rw [← e0, List.getElem_cons_drop, List.take_append_drop]
  rw [e1]
  conv => rhs; rw [e2]
  refine Crc.addN_finds (by omega) _ _ ?_
  intro h
  have h2 := congrArg (s[p] ^^^ ·) h
  simp only [← UInt8.xor_assoc, UInt8.xor_self, UInt8.zero_xor] at h2
  exact pow_ne hb h2
theorem turned_cells (s : ByteArray) (p : Nat) (x : UInt8) (hp : p < s.size) (W : World) (B : Nat) (hc : ∀ j (hj : j < s.size), W.cell? ⟨B, j, none⟩ = some (.int .u8 (s[j].toNat : Int))) :
    ∀ j (hj : j < (turned s p x).length), (W.setCell ⟨B, p, none⟩ (.int .u8 x.toNat)).cell? ((⟨B, 0, none⟩ : Addr).add j) = some (.int .u8 ((turned s p x)[j].toNat : Int)) := by
  intro j hj
  have hj' : j < s.size := by simpa [turned] using hj
  have ea : (⟨B, 0, none⟩ : Addr).add j = ⟨B, j, none⟩ := by unfold Addr.add; split <;> simp_all
  rw [ea]
  by_cases e : p = j
  · subst e
    rw [World.cell?_setCell_same _ _ _ (hc p hp)]
    simp [turned]
  · rw [World.cell?_setCell_other _ _ _ _ (by intro h; injection h with _ h; exact e h), hc j hj']
    simp only [turned, List.getElem_set, if_neg e]
    rfl
theorem xor_bit (x : UInt8) (b : Nat) (hb : b < 8) : bits .xor .u8 (x.toNat : Int) (IntKind.u8.wrap (2 ^ min (IntKind.u64.wrap (b : Int)).toNat 8)) = ((x ^^^ UInt8.ofNat (2 ^ b)).toNat : Int) := by
  have e1 : IntKind.u64.wrap (b : Int) = b := by simp [IntKind.wrap, IntKind.bits, IntKind.signed]; omega
  have e2 : IntKind.u8.wrap (2 ^ b : Int) = ((2 ^ b : Nat) : Int) := by
    have h : 2 ^ b < 256 := Nat.pow_lt_pow_right (by omega) (show b < 8 from hb)
    rw [IntKind.wrap_u8', show ((2 : Int) ^ b) = ((2 ^ b : Nat) : Int) by simp]
    generalize 2 ^ b = z at h ⊢
    omega
  have e3 : min (b : Int).toNat 8 = b := by omega
  have hx := x.toNat_lt
  have h : 2 ^ b < 256 := Nat.pow_lt_pow_right (by omega) (show b < 8 from hb)
  rw [e1, e3, e2, u8_xor_nat _ _ (by omega) h, UInt8.toNat_xor, UInt8.toNat_ofNat', Nat.mod_eq_of_lt h]
theorem block_lt {w : World} {a : Addr} {v : Value} (h : w.cell? a = some v) : a.block < w.heap.size := by
  unfold World.cell? at h
  cases hb : w.heap[a.block]? with
  | none => simp [hb] at h
  | some o => exact (Array.getElem?_eq_some_iff.1 hb).1
theorem walk (s : ByteArray) (at_ bit : Int) (hz : s.size ≤ 140737488351232) (hat : (Lit.int .i64 at_).wf = true) (hbit : (Lit.int .i64 bit).wf = true) (w : World) (hT : Crc.TabOk w) :
    Calls Tryd.prog 5 #[.string s, .int .i64 at_, .int .i64 bit] w fun e w' => e = .returned (.bool true) ∧ Below w.heap.size w w' := by
  have HT := Lib.hid hT; clear hT
  have hs : s.size ≤ maxLen := by unfold maxLen; omega
  have hs' : s.size ≤ 2 ^ 63 - 1 := by omega
  by_cases hl : 0 < s.size ∧ s.size ≤ 2000
  · obtain ⟨hl0, hl⟩ := hl
    have hl' : ¬ (2000 < (s.size : Int)) := by omega
    have hl1 : ((s.size : Int) == 0) = false := by rw [beq_eq_false_iff_ne]; omega
    obtain ⟨p, hp, cp⟩ := pick_nat at_ s.size hat hl0 (by omega)
    obtain ⟨b, hb, cb⟩ := pick_nat bit 8 hbit (by omega) (by omega)
    have CP := Lib.hid cp; clear cp
    have CB := Lib.hid cb; clear cb
    go_enter Tryd.func5, Tryd.ntmps5
    go_wp2_with fail
    refine (Crc.shown_any _ HT.out).mono ?_
    rintro e w' ⟨rfl, rfl⟩
    have hcv := run_bytes_of_string (P := Tryd.prog) w 9 28 5 s Tryd.underlying9 Tryd.underlying28 Tryd.underlying5
    generalize grownCap w s.size 0 5 = cap at hcv
    go_wp2_with fail
    clear hcv
    refine wp_region_still_tail 13 (by kernel_rfl) (by kernel_rfl) ?_
    simp only [List.take_succ_cons, List.take_zero, List.drop_succ_cons, List.drop_zero]
    change wpStill _ _ ((w.alloc (Obj.cells (bytesRow s cap) 5 ((bytesRow s cap).size, (bytesRow s cap).size + 1))).drew.drew) (fun a' => wpList _ _ _ _ a' ((w.alloc (Obj.cells (bytesRow s cap) 5 ((bytesRow s cap).size, (bytesRow s cap).size + 1))).drew.drew)) _ _
    have hW : ∃ W, W = (w.alloc (Obj.cells (bytesRow s cap) 5 ((bytesRow s cap).size, (bytesRow s cap).size + 1))).drew.drew := ⟨_, rfl⟩
    obtain ⟨W, hW⟩ := hW
    rw [← hW]
    have hcell : ∀ j (hj : j < s.size), W.cell? ⟨w.heap.size, j, none⟩ = some (.int .u8 (s[j].toNat : Int)) := by
      intro j hj
      rw [hW]
      have := World.cell?_alloc_mark w (bytesRow s cap) 5 ((bytesRow s cap).size, (bytesRow s cap).size + 1) j
      rw [bytesRow_at s cap j hj] at this
      exact this
    have hfr : ∀ j, j < s.size → W.frozen? ⟨w.heap.size, j, none⟩ = false := by
      intro j hj
      rw [hW]
      have h1 := World.frozen?_alloc_mark w (bytesRow s cap) 5 (bytesRow s cap).size ((bytesRow s cap).size + 1) j
      have h2 : s.size ≤ (bytesRow s cap).size := by simp [bytesRow]
      have h3 : decide ((bytesRow s cap).size ≤ j) = false := by simp; omega
      rw [h3] at h1
      exact h1
    have hg : Below w.heap.size w W := by rw [hW]; exact ((Below.refl _ _).alloc (Nat.le_refl _) _).drew.drew
    have HW := Lib.hid hW; clear hW
    have HC := Lib.hid hcell; clear hcell
    have HG := Lib.hid hg; clear hg
    have hcp := HC.out p hp
    have hfp := hfr p hp
    clear hfr
    still_step
    still_step
    still_step
    still_step
    still_call (CP.out W)
    still_step
    still_step
    still_step
    still_call (CB.out W)
    still_step
    still_step
    still_step
    still_step
    refine wpStill_nil ?_
    obtain ⟨x, ex⟩ : ∃ x, x = s[p] ^^^ UInt8.ofNat (2 ^ b) := ⟨_, rfl⟩
    have hx : bits .xor .u8 (s[p].toNat : Int) (IntKind.u8.wrap (2 ^ min (IntKind.u64.wrap (b : Int)).toNat 8)) = (x.toNat : Int) := by
      rw [ex]; exact xor_bit s[p] b hb
    have hne := turned_ne s p b hp hb
    rw [← ex] at hne
    have HNE := Lib.hid hne; clear hne ex
    have hlen : (turned s p x).length = s.size := by simp [turned]
    have hback := run_convert_bytes_back (P := Tryd.prog) (W.setCell ⟨w.heap.size, p, none⟩ (.int .u8 x.toNat)) 28 9 5 ⟨w.heap.size, 0, none⟩ cap (turned s p x) Tryd.underlying28 Tryd.underlying5 Tryd.underlying9 (turned_cells s p x hp W w.heap.size HC.out)
    rw [hlen] at hback
    have HL := Lib.hid hlen; clear hlen
    have HT2 : Crc.TabOk (W.setCell ⟨w.heap.size, p, none⟩ (.int .u8 x.toNat)) := by
      intro i hi
      have h0 := HT.out i hi
      have hlt : 0 < w.heap.size := block_lt h0
      rw [World.cell?_setCell_far _ _ _ _ (by intro h; simp only at h; omega), HG.out.cell hlt, h0]
    have HT3 := Lib.hid HT2; clear HT2
    generalize hY : (ByteArray.mk (turned s p x).toArray) = Y at hback
    have HY : Crc.addN 0 Y.data.toList ≠ Crc.addN 0 s.data.toList := by rw [← hY]; simpa using HNE.out
    have hYs : Y.size ≤ maxLen := by rw [← hY]; show (turned s p x).toArray.size ≤ _; simp [HL.out]; exact hs
    have HB := Lib.hid ((HG.out.setCell (p := ⟨w.heap.size, p, none⟩) (Nat.le_refl _) (.int .u8 x.toNat)))
    clear hY
    go_wp2_with fail
    refine (Crc.sum_any _ _ hYs HT3.out).mono ?_
    rintro e w' ⟨rfl, rfl⟩
    go_wp2_with fail
    refine (Crc.sum_any _ _ hs HT3.out).mono ?_
    rintro e w' ⟨rfl, rfl⟩
    have hq : (((Crc.addN 0 Y.data.toList : Nat) : Int) != ((Crc.addN 0 s.data.toList : Nat) : Int)) = true := by rw [bne_iff_ne]; omega
    go_wp2
    go_ret
    exact ⟨rfl, HB.out⟩
  · have hd : s.size = 0 ∨ (s.size ≠ 0 ∧ 2000 < s.size) := by omega
    rcases hd with h0 | ⟨h0, h1⟩
    · have hl1 : ((s.size : Int) == 0) = true := by rw [beq_iff_eq]; omega
      clear h0
      go_enter Tryd.func5, Tryd.ntmps5
      go_wp2_with fail
      refine (Crc.shown_any _ HT.out).mono ?_
      rintro e w' ⟨rfl, rfl⟩
      go_wp2
      go_ret
      exact ⟨rfl, Below.refl _ _⟩
    · have hl1 : ((s.size : Int) == 0) = false := by rw [beq_eq_false_iff_ne]; omega
      have hl2 : 2000 < (s.size : Int) := by omega
      clear h0
      go_enter Tryd.func5, Tryd.ntmps5
      go_wp2_with fail
      refine (Crc.shown_any _ HT.out).mono ?_
      rintro e w' ⟨rfl, rfl⟩
      go_wp2
      go_ret
      exact ⟨rfl, Below.refl _ _⟩
end Go.Proofs.YtbopalllpdpcbaaDoor.crcFinds
