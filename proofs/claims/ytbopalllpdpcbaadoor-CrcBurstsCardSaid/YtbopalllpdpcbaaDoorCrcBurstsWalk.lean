/- The walk of CrcBursts: it returns true at every two texts and every two numbers, and makes no more than new memory. -/
import Derived.Test.YtbopalllpdpcbaaDoorCrcSumsWalk
import Derived.Test.YtbopalllpdpcbaaDoorCrcFindsWalk
namespace Go.Proofs.YtbopalllpdpcbaaDoor.crcBursts
open Go Go.RowKit
/-- The four bytes, as the walk lays them. -/
def row4 (z : Nat) : Array Value := #[.int .u8 ((z : Int) % 256), .int .u8 ((z : Int) / 256 % 256), .int .u8 ((z : Int) / 65536 % 256), .int .u8 ((z : Int) / 16777216)]
theorem row4_at (z : Nat) (hz : z < 4294967296) (j : Nat) (hj : j < (Crc.four z).length) : (row4 z)[j]? = some (.int .u8 ((Crc.four z)[j].toNat : Int)) := by
  have h : j = 0 ∨ j = 1 ∨ j = 2 ∨ j = 3 := by simp [Crc.four] at hj; omega
  rcases h with rfl | rfl | rfl | rfl <;> simp [row4, Crc.four] <;> omega
theorem back4 (w : World) (z : Nat) (hz : z < 4294967296) (n : Nat) (hn : n = w.heap.size) : (convert 28 9 (.slice (some ⟨n, 0, none⟩) 4 4)).run Tryd.prog (w.alloc (.cells (row4 z) 5)) =
    .ok (.string ⟨(Crc.four z).toArray⟩) (w.alloc (.cells (row4 z) 5)) := by
  subst hn
  have h := run_convert_bytes_back (P := Tryd.prog) (w.alloc (.cells (row4 z) 5)) 28 9 5 ⟨w.heap.size, 0, none⟩ 4 (Crc.four z) Tryd.underlying28 Tryd.underlying5 Tryd.underlying9
    (fun j hj => by
      have ea : (⟨w.heap.size, 0, none⟩ : Addr).add j = ⟨w.heap.size, j, none⟩ := by unfold Addr.add; split <;> simp_all
      rw [ea, World.cell?_alloc_new, row4_at z hz j hj])
  exact h
theorem walk (s t : ByteArray) (n1 n2 : Int) (hz : s.size ≤ 140737488351232) (hzt : t.size ≤ 140737488351232) (hn1 : (Lit.int .u32 n1).wf = true) (hn2 : (Lit.int .u32 n2).wf = true) (w : World) (hT : Crc.TabOk w) :
    Calls Tryd.prog 7 #[.string s, .string t, .int .u32 n1, .int .u32 n2] w fun e w' => e = .returned (.bool true) ∧ Below w.heap.size w w' := by
  obtain ⟨x, hx, rfl⟩ := crcSums.u32_of_wf hn1
  obtain ⟨y, hy, rfl⟩ := crcSums.u32_of_wf hn2
  have HT := Lib.hid hT; clear hT
  by_cases hl : s.size + t.size ≤ 2000
  · have hl' : ¬ (2000 < (s.size : Int) + (t.size : Int)) := by omega
    obtain ⟨z, ez⟩ : ∃ z, z = x ^^^ y := ⟨_, rfl⟩
    have hzl : z < 4294967296 := by rw [ez]; exact Crc.xor_lt32 hx hy
    have hxy : bits .xor .u32 (x : Int) (y : Int) = (z : Int) := by rw [ez]; exact u32_xor_nat x y hx hy
    have b1 := back4 w x hx w.heap.size rfl
    have b2 := back4 (w.alloc (.cells (row4 x) 5)) z hzl (w.heap.size + 1) (by simp)
    have hiff := Crc.addN_bursts (sum := 0) (by omega) hx hzl s.data.toList t.data.toList
    have e1 : (s ++ ByteArray.mk (Crc.four x).toArray ++ t).data.toList = s.data.toList ++ Crc.four x ++ t.data.toList := by simp
    have e2 : (s ++ ByteArray.mk (Crc.four z).toArray ++ t).data.toList = s.data.toList ++ Crc.four z ++ t.data.toList := by simp
    have hA : (ByteArray.mk (Crc.four x).toArray).size ≤ 4 := Nat.le_refl 4
    have hB : (ByteArray.mk (Crc.four z).toArray).size ≤ 4 := Nat.le_refl 4
    rw [← e1, ← e2] at hiff
    clear e1 e2
    have hxz : x = z ↔ y = 0 := by
      rw [ez]
      constructor
      · intro h
        have := congrArg (x ^^^ ·) h
        simpa [← Nat.xor_assoc] using this.symm
      · intro h; subst h; simp
    generalize ByteArray.mk (Crc.four x).toArray = A at *
    generalize ByteArray.mk (Crc.four z).toArray = B at *
    have z1 : (s ++ A ++ t).size ≤ maxLen := by rw [ByteArray.size_append, ByteArray.size_append]; unfold maxLen; omega
    have z2 : (s ++ B ++ t).size ≤ maxLen := by rw [ByteArray.size_append, ByteArray.size_append]; unfold maxLen; omega
    have HZ1 := Lib.hid z1; clear z1
    have HZ2 := Lib.hid z2; clear z2
    have hq : ((((Crc.addN 0 (s ++ A ++ t).data.toList : Nat) : Int) == ((Crc.addN 0 (s ++ B ++ t).data.toList : Nat) : Int)) == ((y : Int) == 0)) = true := by
      have : (((Crc.addN 0 (s ++ A ++ t).data.toList : Nat) : Int) == ((Crc.addN 0 (s ++ B ++ t).data.toList : Nat) : Int)) = ((y : Int) == 0) := by
        rw [Bool.eq_iff_iff, beq_iff_eq, beq_iff_eq, Int.ofNat_inj]
        exact hiff.trans (hxz.trans (by omega))
      rw [this, beq_self_eq_true]
    simp only [ByteArray.data_append, Array.toList_append, List.append_assoc] at hq
    have HQ := Lib.hid hq
    clear hq hiff hxz ez
    have hT2 : Crc.TabOk ((w.alloc (.cells (row4 x) 5)).alloc (.cells (row4 z) 5)) := by
      intro i hi
      have h0 := HT.out i hi
      have hlt : 0 < w.heap.size := crcFinds.block_lt h0
      rw [World.cell?_alloc_lt _ _ _ (by show _ < (w.heap.push _).size; simp), World.cell?_alloc_lt _ _ _ hlt, h0]
    have HT2 := Lib.hid hT2; clear hT2
    unfold row4 at b1 b2
    go_enter Tryd.func7, Tryd.ntmps7
    go_wp2_with fail
    refine (Crc.shown_any _ HT.out).mono ?_
    rintro e w' ⟨rfl, rfl⟩
    go_wp2_with fail
    refine (Crc.sum_any _ _ HZ1.out HT2.out).mono ?_
    rintro e w' ⟨rfl, rfl⟩
    go_wp2_with fail
    refine (Crc.sum_any _ _ HZ2.out HT2.out).mono ?_
    rintro e w' ⟨rfl, rfl⟩
    go_wp2
    go_ret
    refine ⟨?_, ((Below.refl _ _).alloc (Nat.le_refl _) _).alloc (by simp) _⟩
    exact congrArg (fun x => Ending.returned (.bool x)) HQ.out
  · have hl' : 2000 < (s.size : Int) + (t.size : Int) := by omega
    go_enter Tryd.func7, Tryd.ntmps7
    go_wp2_with fail
    refine (Crc.shown_any _ HT.out).mono ?_
    rintro e w' ⟨rfl, rfl⟩
    go_wp2
    go_ret
    exact ⟨rfl, Below.refl _ _⟩
end Go.Proofs.YtbopalllpdpcbaaDoor.crcBursts
