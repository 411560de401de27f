/- The reference's log: the walks of Name and of number. · The reference's log: how it lies in memory; the walks of last, Next, Durable, begin. · The reference's log: log and disk together. · How far the reference's disk grows by each operation. No walk stands here. -/
import Derived.Test.YtnppdcegpojmbaaGreatDoorOpen
import Derived.Test.YtnppdcegpojmbaaGreatDoorRefD4
import Derived.Test.YtnppdcegpojmbaaGreatDoorRefS2
import Derived.Handy
import Derived.Test.YtnppdcegpojmbaaGreatDoorRefD7
import Derived.Test.YtnppdcegpojmbaaGreatDoorSeg5
import Derived.Test.YtnppdcegpojmbaaGreatDoorSubRow
namespace Go.Proofs.YtnppdcegpojmbaaGreatDoor
open Go Go.RowKit Go.Sort
namespace RefL
/-- The last i digits of u. -/
def digs (u : Nat) : Nat → List UInt8
  | 0 => []
  | i + 1 => UInt8.ofNat (48 + u / 10 ^ i % 10) :: digs u i
theorem digs_len (u i : Nat) : (digs u i).length = i := by
  induction i with
  | zero => rfl
  | succ i ih => show (digs u i).length + 1 = _; rw [ih]
theorem digs_ok (u i : Nat) : digitsOk (digs u i) := by
  induction i with
  | zero => intro c hc; cases hc
  | succ i ih =>
    intro c hc
    have hk : u / 10 ^ i % 10 < 10 := Nat.mod_lt _ (by omega)
    rcases List.mem_cons.1 hc with h | h
    · rw [h, dig_ok hk]; omega
    · exact ih c h
theorem digs_val (u : Nat) : ∀ i acc, valL acc (digs u i) = acc * 10 ^ i + u % 10 ^ i := by
  intro i
  induction i with
  | zero => intro acc; show acc = acc * 1 + u % 1; omega
  | succ i ih =>
    intro acc
    have hk : u / 10 ^ i % 10 < 10 := Nat.mod_lt _ (by omega)
    show valL (acc * 10 + ((UInt8.ofNat (48 + u / 10 ^ i % 10)).toNat - 48)) (digs u i) = _
    rw [ih, dig_ok hk, show 48 + u / 10 ^ i % 10 - 48 = u / 10 ^ i % 10 by omega, Nat.add_mul, Nat.mod_pow_succ, Nat.pow_succ, Nat.mul_assoc, Nat.mul_comm 10 (10 ^ i), Nat.mul_comm (u / 10 ^ i % 10)]
    omega
theorem valL_inj : ∀ (a b : List UInt8) (x y : Nat), digitsOk a → digitsOk b → a.length = b.length → valL x a = valL y b → x = y ∧ a = b := by
  intro a
  induction a with
  | nil =>
    intro b x y _ _ hl h
    cases b with
    | nil => exact ⟨h, rfl⟩
    | cons c r => exact absurd hl (by simp)
  | cons c r ih =>
    intro b x y ha hb hl h
    cases b with
    | nil => exact absurd hl (by simp)
    | cons d t =>
      have h1 := ha c (by simp)
      have h2 := hb d (by simp)
      obtain ⟨e1, e2⟩ := ih t (x * 10 + (c.toNat - 48)) (y * 10 + (d.toNat - 48)) (fun z hz => ha z (by simp [hz])) (fun z hz => hb z (by simp [hz])) (by simpa using hl) h
      have e3 : c = d := UInt8.toNat_inj.1 (by omega)
      exact ⟨by omega, by rw [e2, e3]⟩
theorem digs_tail {u : Nat} (hu : u < 18446744073709551616) : digs u 20 = Seg.tailL u := by
  refine (valL_inj _ _ 0 0 (digs_ok u 20) (Seg.tail_val u).1 (by rw [digs_len, Seg.tail_len hu]) ?_).2
  rw [digs_val, (Seg.tail_val u).2, Nat.mod_eq_of_lt (by omega)]
  omega
theorem digit_at {d : Nat} (hd : d < 10) : (⟨#[48, 49, 50, 51, 52, 53, 54, 55, 56, 57]⟩ : ByteArray).extract d (d + 1) = ⟨#[UInt8.ofNat (48 + d)]⟩ := by
  have h : d = 0 ∨ d = 1 ∨ d = 2 ∨ d = 3 ∨ d = 4 ∨ d = 5 ∨ d = 6 ∨ d = 7 ∨ d = 8 ∨ d = 9 := by omega
  rcases h with rfl | rfl | rfl | rfl | rfl | rfl | rfl | rfl | rfl | rfl <;> decide
set_option maxHeartbeats 1000000 in
set_option maxRecDepth 100000 in
theorem name_any (w : World) (u : Nat) (hu : u < 18446744073709551616) :
    Calls Tryz.prog 112 #[.int .u64 u] w fun e w' => e = .returned (.string (Seg.nameB u)) ∧ Off None w w' := by
  go_enter Tryz.func112, Tryz.ntmps112
  go_wp2_with fail
  go_loop [3, 4, 5] (fun s n i => ∃ j : Nat, j ≤ 20 ∧ i = .int .i64 j ∧ n = .int .u64 (u / 10 ^ j : Nat) ∧ s = .string ⟨(digs u j).toArray⟩) (fun _ _ i => 20 - (intOf i).toNat)
  case atStart => exact ⟨0, by omega, rfl, by simp, rfl⟩
  case round =>
    obtain ⟨j, hj, rfl, rfl, rfl⟩ := hrel
    have hdl := digs_len u j
    by_cases hlt : j < 20
    · have i0 : (0 : Int) ≤ (j : Int) := by omega
      have i1 : (j : Int) < 20 := by omega
      obtain ⟨n, hn⟩ : ∃ n, n = u / 10 ^ j := ⟨_, rfl⟩
      rw [← hn]
      have HN := Lib.hid hn
      have hnu : n < 18446744073709551616 := by rw [hn]; exact Nat.lt_of_le_of_lt (Nat.div_le_self _ _) hu
      have hk : n % 10 < 10 := Nat.mod_lt _ (by omega)
      have hcat : ¬ 9223372036854775807 < min (n % 10 + 1) 10 - n % 10 + (digs u j).length := by omega
      clear hn
      go_wp2_with fail
      case roundEnd =>
        refine ⟨⟨j + 1, hlt, by go_num, ?_, ?_⟩, by simp [intOf]; omega⟩
        · rw [HN.out, Nat.pow_succ, ← Nat.div_div_eq_div_mul, ← HN.out]; go_num
        · rw [digit_at hk]
          have e : digs u (j + 1) = UInt8.ofNat (48 + n % 10) :: digs u j := by rw [HN.out]; rfl
          rw [e]
          congr 1
    · obtain rfl : j = 20 := by omega
      have hcat : ¬ 9223372036854775807 < 1 + (digs u 20).length := by omega
      go_wp2
      go_ret
      refine ⟨?_, Off.refl _ _⟩
      rw [digs_tail hu]
      show Ending.returned (Value.string _) = Ending.returned (Value.string _)
      congr 2
set_option maxHeartbeats 1000000 in
set_option maxRecDepth 100000 in
theorem number_at (w : World) (s : ByteArray) (t : List UInt8) (u : Nat) (hu : u < 18446744073709551616) (hsz : s.size = 21) (htl : t.length = 20) (hb0 : s[0] = 115) (hbk : ∀ k (hk : k < 20), s[k + 1] = t[k]) (hto : digitsOk t) (htv : valL 0 t = u) (hs : Seg.nameB u = s) :
    Calls Tryz.prog 109 #[.string s] w fun e w' => e = .returned (.tuple #[.int .u64 u, .bool true]) ∧ Off None w w' := by
  have HNA := Lib.hid (fun w' => name_any w' u hu)
  rw [hs] at HNA
  have HBK := Lib.hid hbk; have HS := Lib.hid hs; have HTO := Lib.hid hto
  have hb1 : (s[0].toNat : Int) = 115 := by rw [hb0]; rfl
  clear hbk hs hto hb0
  go_enter Tryz.func109, Tryz.ntmps109
  go_wp2_with fail
  have HSZ := Lib.hid hsz
  go_loop [4, 5] (fun n i => ∃ j : Nat, j ≤ 20 ∧ i = .int .i64 (j + 1 : Nat) ∧ n = .int .u64 (valL 0 (t.take j) : Nat)) (fun _ i => 21 - (intOf i).toNat)
  case atStart => exact ⟨0, by omega, rfl, rfl⟩
  case round =>
    obtain ⟨j, hj, rfl, rfl⟩ := hrel
    obtain ⟨n, hn⟩ : ∃ n, n = valL 0 (t.take j) := ⟨_, rfl⟩
    rw [← hn]
    obtain ⟨k, hk⟩ : ∃ k, k = j + 1 := ⟨_, rfl⟩
    rw [← hk]
    by_cases hlt : j < 20
    · have hkl : k < s.size := by omega
      have hc : s[k] = t[j] := by
        have := HBK.out j hlt
        subst hk
        exact this
      have HK := Lib.hid hk
      obtain ⟨c, hcc⟩ : ∃ c, c = s[k] := ⟨_, rfl⟩
      have hd := HTO.out t[j] (List.getElem_mem _)
      rw [← hc, ← hcc] at hd
      have hst : valL 0 (t.take (j + 1)) = n * 10 + (c.toNat - 48) := by
        rw [List.take_succ_eq_append_getElem (by omega), valL_append, ← hn, hcc, hc]; rfl
      have hle : n * 10 + (c.toNat - 48) < 18446744073709551616 := by
        rw [← hst]
        refine Nat.lt_of_le_of_lt ?_ hu
        rw [← htv]
        conv => rhs; rw [← List.take_append_drop (j + 1) t, valL_append]
        exact valL_le _ _
      have i0 : (0 : Int) ≤ (k : Int) := by omega
      have i1 : (k : Int) < 21 := by omega
      have c1 : ¬ ((s[k].toNat : Int) < 48) := by rw [← hcc]; omega
      have c2 : ¬ (57 < (s[k].toNat : Int)) := by rw [← hcc]; omega
      have hb := s[k].toNat_lt
      have hcd : (c.toNat : Int) = (s[k].toNat : Int) := by rw [hcc]
      have w1 : IntKind.u8.wrap ((s[k].toNat : Int) - 48) = (s[k].toNat : Int) - 48 := IntWalk.u8_in _ (by omega)
      have w2 : IntKind.u64.wrap ((s[k].toNat : Int) - 48) = (s[k].toNat : Int) - 48 := IntWalk.u64_in _ (by omega)
      have w3 : IntKind.u64.wrap (10 * (n : Int)) = 10 * (n : Int) := IntWalk.u64_in _ (by omega)
      have w4 : IntKind.u64.wrap (10 * (n : Int) + ((s[k].toNat : Int) - 48)) = 10 * (n : Int) + ((s[k].toNat : Int) - 48) := IntWalk.u64_in _ (by omega)
      have i9 : (k : Int) < (s.size : Int) := by omega
      have HST := Lib.hid hst; have HCC := Lib.hid hcd; have HLE := Lib.hid hle; have HD := Lib.hid hd
      clear hst hc hn hcd hle hcc hd hb1 HBK hsz htv hk
      go_wp2_with fail
      case roundEnd =>
        have h1 := HST.out; have h2 := HCC.out; have h3 := HLE.out; have h4 := HD.out; have h5 := HK.out
        refine ⟨⟨j + 1, by omega, by rw [h5]; go_num, ?_⟩, ?_⟩
        · rw [h1]; congr 1; omega
        · rw [show intOf (Value.int IntKind.i64 ((k : Int) + 1)) = (k : Int) + 1 from rfl, show intOf (Value.int IntKind.i64 (k : Int)) = (k : Int) from rfl]; omega
    · have hje : j = 20 := by omega
      have htk : t.take j = t := List.take_of_length_le (by omega)
      rw [htk, htv] at hn
      have i1 : ¬ (k : Int) < 21 := by omega
      subst hn
      clear htk htv
      go_wp2_with fail
      refine (HNA.out _).mono ?_
      rintro e w1 ⟨rfl, ho1⟩
      have HO1 := Lib.hid ho1; clear ho1
      go_wp2
      go_ret2
      exact ⟨by simp, HO1.out⟩
theorem number_seg (w : World) (u : Nat) (hu : u < 18446744073709551616) :
    Calls Tryz.prog 109 #[.string (Seg.nameB u)] w fun e w' => e = .returned (.tuple #[.int .u64 u, .bool true]) ∧ Off None w w' := by
  refine number_at w (Seg.nameB u) (Seg.tailL u) u hu (Seg.nameL_length hu) (Seg.tail_len hu) rfl (fun k hk => ?_) (Seg.tail_val u).1 (Seg.tail_val u).2 rfl
  show (115 :: Seg.tailL u).toArray[k + 1]'(by have := Seg.tail_len hu; simp; omega) = _
  simp
end RefL
end Go.Proofs.YtnppdcegpojmbaaGreatDoor
namespace Go.Proofs.YtnppdcegpojmbaaGreatDoor
open Go Go.RowKit Go.Sort
structure RSeg where
  first : Nat
  size : Nat
  bodies : List ByteArray
def RSeg.end_ (s : RSeg) : Nat := s.first + s.bodies.length
/-- A segment, and the slice of its bodies. -/
abbrev RRow := RSeg × Value
def rsegCells (x : RRow) : List Value := [.int .u64 x.1.first, .int .i64 x.1.bodies.length, .int .i64 x.1.size, x.2]
def rsegAgg (x : RRow) : Value := .agg #[.int .u64 x.1.first, .int .i64 x.1.bodies.length, .int .i64 x.1.size, x.2]
/-- Texts lie in one block, from its head on; the block is one of A. -/
def Lies (A : Nat → Prop) (w : World) (p : Option Addr) (l : List ByteArray) : Prop := ∀ i (hi : i < l.length), ∃ g, p = some ⟨g, 0, none⟩ ∧ A g ∧ g < w.heap.size ∧ w.cell? ⟨g, i, none⟩ = some (.string l[i])
theorem Lies.off {A G : Nat → Prop} {w w' : World} {p : Option Addr} {l : List ByteArray} (h : Lies A w p l) (ho : Off G w w') (hG : ∀ b, A b → ¬ G b) : Lies A w' p l := by
  intro i hi
  obtain ⟨a, h1, h2, h3, h4⟩ := h i hi
  exact ⟨a, h1, h2, Nat.lt_of_lt_of_le h3 ho.size, ho.keep h4 (hG _ h2)⟩
theorem Lies.more {A A' : Nat → Prop} {w : World} {p : Option Addr} {l : List ByteArray} (h : Lies A w p l) (hA : ∀ b, b < w.heap.size → A b → A' b) : Lies A' w p l := by
  intro i hi
  obtain ⟨a, h1, h2, h3, h4⟩ := h i hi
  exact ⟨a, h1, hA _ h3 h2, h3, h4⟩
structure RPre (w : World) (q r : Nat) (rows : List RRow) (synced : Nat) (lv : Value) (A : Nat → Prop) : Prop where
  core : w.heap[q]? = some (.cells #[.pointer (some ⟨r, 0, none⟩), lv, .int .i64 synced] 134 (0, 0))
  row : SubRow w 136 4 lv rows.length (rows.flatMap rsegCells)
  ne : lv.ownBlock ≠ some q
  each : ∀ x ∈ rows, ∃ p c, x.2 = .slice p x.1.bodies.length c ∧ x.1.bodies.length ≤ c ∧ c ≤ 9223372036854775807 ∧ Lies A w p x.1.bodies
theorem RPre.off {w w' : World} {q r synced : Nat} {rows : List RRow} {lv : Value} {A G : Nat → Prop} (h : RPre w q r rows synced lv A) (ho : Off G w w') (hq : ¬ G q) (hl : ∀ k, lv.ownBlock = some k → ¬ G k) (hA : ∀ b, A b → ¬ G b) : RPre w' q r rows synced lv A :=
  ⟨ho.at_ h.core hq, h.row.off ho hl, h.ne, fun x hx => by
    obtain ⟨p, c, h1, h2, h3, h4⟩ := h.each x hx
    exact ⟨p, c, h1, h2, h3, h4.off ho hA⟩⟩
theorem rseg_cell (l : List RRow) : ∀ {i j : Nat} (hi : i < l.length) (_ : j < 4), (l.flatMap rsegCells)[i * 4 + j]? = (rsegCells l[i])[j]? := by
  induction l with
  | nil => intro i j hi; exact absurd hi (by simp)
  | cons x r ih =>
    intro i j hi hj
    rw [List.flatMap_cons]
    have hl : (rsegCells x).length = 4 := rfl
    cases i with
    | zero => rw [List.getElem?_append_left (by omega), Nat.zero_mul, Nat.zero_add]; rfl
    | succ i =>
      rw [List.getElem?_append_right (by omega), hl, show (i + 1) * 4 + j - 4 = i * 4 + j by omega, ih (by simpa using hi) hj]
      rfl
theorem RPre.cells {w : World} {q r synced : Nat} {rows : List RRow} {lv : Value} {A : Nat → Prop} (h : RPre w q r rows synced lv A) (hn : 0 < rows.length) :
    ∃ g o c, lv = .slice (some ⟨g, o, none⟩) rows.length c ∧ g < w.heap.size ∧ rows.length ≤ c ∧ c ≤ 9223372036854775807 ∧ ∀ i (hi : i < rows.length), w.cell? ⟨g, o + i * 4, none⟩ = some (.int .u64 rows[i].1.first) ∧ w.cell? ⟨g, o + i * 4 + 1, none⟩ = some (.int .i64 rows[i].1.bodies.length) ∧ w.cell? ⟨g, o + i * 4 + 2, none⟩ = some (.int .i64 rows[i].1.size) ∧ w.cell? ⟨g, o + i * 4 + 3, none⟩ = some rows[i].2 := by
  obtain ⟨g, o, c, h1, h2, h3, h4, _, h6⟩ := h.row.cell hn
  refine ⟨g, o, c, h1, h2, h3, h4, fun i hi => ⟨?_, ?_, ?_, ?_⟩⟩
  · exact (h6 (i * 4) _ (by have := rseg_cell rows hi (j := 0) (by omega); rw [Nat.add_zero] at this; exact this)).1
  · exact (h6 (i * 4 + 1) _ (rseg_cell rows hi (j := 1) (by omega))).1
  · exact (h6 (i * 4 + 2) _ (rseg_cell rows hi (j := 2) (by omega))).1
  · exact (h6 (i * 4 + 3) _ (rseg_cell rows hi (j := 3) (by omega))).1
theorem rfield0 (w : World) (u b z : Int) (p : Option Addr) (n c : Nat) : (Instr.field 136 (.agg #[.int .u64 u, .int .i64 b, .int .i64 z, .slice p n c]) 0).run Tryz.prog w = .ok (.int .u64 u) w := by
  simp [Instr.field, go_sem, asAgg]
theorem rfield1 (w : World) (u b z : Int) (p : Option Addr) (n c : Nat) : (Instr.field 136 (.agg #[.int .u64 u, .int .i64 b, .int .i64 z, .slice p n c]) 1).run Tryz.prog w = .ok (.int .i64 b) w := by
  simp [Instr.field, go_sem, asAgg]
namespace RefL
set_option maxHeartbeats 1000000 in
set_option maxRecDepth 100000 in
theorem last_any (w : World) (q r synced k : Nat) (rows : List RRow) (lv : Value) (A : Nat → Prop) (h : RPre w q r rows synced lv A) (hn : rows.length = k + 1) :
    Calls Tryz.prog 116 #[.pointer (some ⟨q, 0, none⟩)] w fun e w' => e = .returned (rsegAgg (rows[k]'(by omega))) ∧ Off None w w' := by
  obtain ⟨g, o, c, hlv, hgl, hle, hmx, hcell⟩ := h.cells (by omega)
  have c1 : w.cell? ⟨q, 1, none⟩ = some lv := Heap.cell h.core 1
  obtain ⟨d0, d1, d2, d3⟩ := hcell k (by omega)
  rw [hlv, hn] at c1
  obtain ⟨x, hx⟩ : ∃ x, x = rows[k]'(by omega) := ⟨_, rfl⟩
  rw [← hx] at d0 d1 d2 d3 ⊢
  obtain ⟨p, cx, hx2, _⟩ := h.each x (by rw [hx]; exact List.getElem_mem _)
  unfold rsegAgg
  rw [hx2] at d3 ⊢
  rw [hn] at hle
  obtain ⟨u, hu⟩ : ∃ u, u = x.1.first := ⟨_, rfl⟩
  obtain ⟨b, hb⟩ : ∃ b, b = x.1.bodies.length := ⟨_, rfl⟩
  obtain ⟨z, hz⟩ : ∃ z, z = x.1.size := ⟨_, rfl⟩
  rw [← hb] at d1 d3 ⊢
  rw [← hu] at d0 ⊢
  rw [← hz] at d2 ⊢
  clear h hlv hcell hx hx2 hu hb hz hn
  have i0 : (0 : Int) ≤ (k : Int) := by omega
  have i1 : (k : Int) < (k : Int) + 1 := by omega
  have i2 : IntKind.i64.wrap (k : Int) = (k : Int) := IntWalk.i64_in _ (by omega)
  go_enter Tryz.func116, Tryz.ntmps116
  go_wp2_with fail
  obtain ⟨wa, hwa⟩ : ∃ wa, wa = w.alloc (.cells #[.int .u64 0, .int .i64 0, .int .i64 0, .slice none 0 0] 136) := ⟨_, rfl⟩
  have hba : wa.heap[w.heap.size]? = some (.cells #[.int .u64 0, .int .i64 0, .int .i64 0, .slice none 0 0] 136 (0, 0)) := by rw [hwa]; exact Heap.alloc_new w _
  have hoa : Off None w wa := by rw [hwa]; exact (Off.refl None w).alloc _
  have e1 := hoa.keep c1 (fun h => h); have e0 := hoa.keep d0 (fun h => h); have e2 := hoa.keep d1 (fun h => h); have e3 := hoa.keep d2 (fun h => h); have e4 := hoa.keep d3 (fun h => h)
  rw [← hwa]
  have HBA := Lib.hid hba; have HOA := Lib.hid hoa; have HWA := Lib.hid hwa
  have hsz : w.heap.size < wa.heap.size := Heap.lt hba
  obtain ⟨bx, hbx⟩ : ∃ bx, bx = w.heap.size := ⟨_, rfl⟩
  rw [← hbx] at HBA hsz ⊢
  have b0 : wa.cell? ⟨bx, 0, none⟩ = some (.int .u64 0) := Heap.cell HBA.out 0
  have b1 : wa.cell? ⟨bx, 1, none⟩ = some (.int .i64 0) := Heap.cell HBA.out 1
  have b2 : wa.cell? ⟨bx, 2, none⟩ = some (.int .i64 0) := Heap.cell HBA.out 2
  have b3 : wa.cell? ⟨bx, 3, none⟩ = some (.slice none 0 0) := Heap.cell HBA.out 3
  have f0 := Heap.frozen HBA.out 0; have f1 := Heap.frozen HBA.out 1; have f2 := Heap.frozen HBA.out 2; have f3 := Heap.frozen HBA.out 3
  have HBX := Lib.hid hbx
  clear hba hoa hwa hbx c1 d0 d1 d2 d3
  refine wp_region_still_tail 12 (by kernel_rfl) (by kernel_rfl) ?_
  simp only [List.take_succ_cons, List.take_zero, List.drop_succ_cons, List.drop_zero]
  change wpStill _ _ wa.drew (fun a' => wpList _ _ _ _ a' wa.drew) _ _
  repeat still_step
  refine wpStill_nil ?_
  go_wp2_with fail
  obtain ⟨wf, hwf⟩ : ∃ wf, wf = ((((wa.setCell ⟨bx, 0, none⟩ (.int .u64 u)).setCell ⟨bx, 1, none⟩ (.int .i64 b)).setCell ⟨bx, 2, none⟩ (.int .i64 z)).setCell ⟨bx, 3, none⟩ (.slice p b cx)).drew := ⟨_, rfl⟩
  have hbf : wf.heap[bx]? = some (.cells #[.int .u64 u, .int .i64 b, .int .i64 z, .slice p b cx] 136 (0, 0)) := by
    rw [hwf]
    exact (Heap.set (Heap.set (Heap.set (Heap.set HBA.out 0 (.int .u64 u)) 1 (.int .i64 b)) 2 (.int .i64 z)) 3 (.slice p b cx)).trans rfl
  have hb : w.heap.size ≤ bx := Nat.le_of_eq HBX.out.symm
  have hof : Off None w wf := by
    rw [hwf]
    exact ((((HOA.out.setCell (p := ⟨bx, 0, none⟩) (.inr hb) _).setCell (p := ⟨bx, 1, none⟩) (.inr hb) _).setCell (p := ⟨bx, 2, none⟩) (.inr hb) _).setCell (p := ⟨bx, 3, none⟩) (.inr hb) _).drew
  rw [← hwf]
  have q0 : wf.cell? ⟨bx, 0, none⟩ = some (.int .u64 u) := Heap.cell hbf 0
  have q1 : wf.cell? ⟨bx, 1, none⟩ = some (.int .i64 b) := Heap.cell hbf 1
  have q2 : wf.cell? ⟨bx, 2, none⟩ = some (.int .i64 z) := Heap.cell hbf 2
  have q3 : wf.cell? ⟨bx, 3, none⟩ = some (.slice p b cx) := Heap.cell hbf 3
  refine bodyPost_ret (by simp [results, Tryz.results116, go_sem, q0, q1, q2, q3]; try rfl) rfl ?_
  exact ⟨rfl, hof⟩
set_option maxHeartbeats 1000000 in
set_option maxRecDepth 100000 in
theorem next_any (w : World) (q r synced k : Nat) (rows : List RRow) (lv : Value) (A : Nat → Prop) (h : RPre w q r rows synced lv A) (hn : rows.length = k + 1) (hs : (rows[k]'(by omega)).1.end_ < 18446744073709551616) :
    Calls Tryz.prog 74 #[.pointer (some ⟨q, 0, none⟩)] w fun e w' => e = .returned (.int .u64 (rows[k]'(by omega)).1.end_) ∧ Off None w w' := by
  have HL := Lib.hid (fun w' (ho : Off None w w') => last_any w' q r synced k rows lv A (h.off ho (fun h => h) (fun _ _ h => h) (fun _ _ h => h)) hn)
  obtain ⟨x, hx⟩ : ∃ x, x = rows[k]'(by omega) := ⟨_, rfl⟩
  rw [← hx] at hs HL ⊢
  obtain ⟨p, c, hx2, _⟩ := h.each x (by rw [hx]; exact List.getElem_mem _)
  unfold rsegAgg at HL
  rw [hx2] at HL
  unfold RSeg.end_ at hs ⊢
  obtain ⟨u, hu⟩ : ∃ u, u = x.1.first := ⟨_, rfl⟩
  obtain ⟨b, hb⟩ : ∃ b, b = x.1.bodies.length := ⟨_, rfl⟩
  obtain ⟨z, hz⟩ : ∃ z, z = x.1.size := ⟨_, rfl⟩
  rw [← hu, ← hb, ← hz] at HL
  rw [← hu, ← hb] at hs ⊢
  clear h hx hx2 hu hb hz
  have w1 : IntKind.u64.wrap (b : Int) = (b : Int) := IntWalk.u64_in _ (by omega)
  have w2 : IntKind.u64.wrap ((u : Int) + (b : Int)) = (u : Int) + (b : Int) := IntWalk.u64_in _ (by omega)
  have hF0 := fun w' => rfield0 w' u b z p b c
  have hF1 := fun w' => rfield1 w' u b z p b c
  go_enter Tryz.func74, Tryz.ntmps74
  go_wp2_with fail
  refine (HL.out w (Off.refl _ _)).mono ?_
  rintro e w1 ⟨rfl, ho1⟩
  have HO1 := Lib.hid ho1; clear ho1
  go_wp2_with fail
  refine (HL.out _ HO1.out).mono ?_
  rintro e w2 ⟨rfl, ho2⟩
  have HO2 := Lib.hid (HO1.out.trans ho2 (fun _ _ h => h)); clear ho2
  go_wp2
  go_ret
  exact ⟨by push_cast; rfl, HO2.out⟩
set_option maxHeartbeats 1000000 in
set_option maxRecDepth 100000 in
theorem durable_any (w : World) (q r synced k : Nat) (rows : List RRow) (lv : Value) (A : Nat → Prop) (h : RPre w q r rows synced lv A) (hn : rows.length = k + 1) (hs : (rows[k]'(by omega)).1.first + synced < 18446744073709551616) :
    Calls Tryz.prog 75 #[.pointer (some ⟨q, 0, none⟩)] w fun e w' => e = .returned (.int .u64 ((rows[k]'(by omega)).1.first + synced : Nat)) ∧ Off None w w' := by
  have HL := Lib.hid (fun w' (ho : Off None w w') => last_any w' q r synced k rows lv A (h.off ho (fun h => h) (fun _ _ h => h) (fun _ _ h => h)) hn)
  have c2 : w.cell? ⟨q, 2, none⟩ = some (.int .i64 synced) := Heap.cell h.core 2
  obtain ⟨x, hx⟩ : ∃ x, x = rows[k]'(by omega) := ⟨_, rfl⟩
  rw [← hx] at hs HL ⊢
  obtain ⟨p, c, hx2, _⟩ := h.each x (by rw [hx]; exact List.getElem_mem _)
  unfold rsegAgg at HL
  rw [hx2] at HL
  obtain ⟨u, hu⟩ : ∃ u, u = x.1.first := ⟨_, rfl⟩
  obtain ⟨b, hb⟩ : ∃ b, b = x.1.bodies.length := ⟨_, rfl⟩
  obtain ⟨z, hz⟩ : ∃ z, z = x.1.size := ⟨_, rfl⟩
  rw [← hu, ← hb, ← hz] at HL
  rw [← hu] at hs ⊢
  clear h hx hx2 hu hb hz
  have w1 : IntKind.u64.wrap (synced : Int) = (synced : Int) := IntWalk.u64_in _ (by omega)
  have w2 : IntKind.u64.wrap ((u : Int) + (synced : Int)) = (u : Int) + (synced : Int) := IntWalk.u64_in _ (by omega)
  have hF0 := fun w' => rfield0 w' u b z p b c
  go_enter Tryz.func75, Tryz.ntmps75
  go_wp2_with fail
  have cL : ∀ dd os, Calls Tryz.prog 116 #[.pointer (some ⟨q, 0, none⟩)] (Sort.grow (redrawn w dd) os) fun e w'' => e = .returned (.agg #[.int .u64 u, .int .i64 b, .int .i64 z, .slice p b c]) ∧ ∃ p : Regrown, w'' = Sort.grow (redrawn w p.d) p.os :=
    fun dd os => Calls.quietly (HL.out _ (Off.of_below (below_regrown w dd os) : Off None w _))
  have k2 := cell_regrown c2
  refine wp_region_quiet_below (by kernel_rfl) (by kernel_rfl) ?_
  repeat (quiet_step (first | exact cL _ _))
  refine wpQuiet_nil ?_
  intro w3 hw'
  have ho3 : Off None w w3 := by
    obtain ⟨⟨dq, osq⟩, rfl⟩ := hw'
    exact Off.of_below (below_regrown w dq osq)
  clear hw' k2 cL
  go_wp2
  go_ret
  exact ⟨by push_cast; rfl, ho3⟩
end RefL
end Go.Proofs.YtnppdcegpojmbaaGreatDoor
namespace Go.Proofs.YtnppdcegpojmbaaGreatDoor
open Go Go.RowKit Go.Sort
theorem infoRSeg : (Tryz.prog.info? 136).map (fun i => (i.zero, i.size, i.bytes)) = some (some (.agg #[.int .u64 0, .int .i64 0, .int .i64 0, .slice none 0 0]), 4, 48) := by kernel_rfl
theorem elemRSeg : ElemOk Tryz.prog 132 136 4 48 := .of Tryz.underlying132 infoRSeg rfl (by decide) (by decide)
/-- What begin does: the disk, what errs, and whether the segment stands. -/
def RefV.started (X : RefV) (first : Nat) : RefV × Int × Bool :=
  match X.create (Seg.nameB first) with
  | (X1, e) => if e = 0 then (X1.syncDir.1, X1.syncDir.2, true) else (X1, e, false)
def RefV.rowsAfter (X : RefV) (first : Nat) (rows : List RRow) : List RRow := if (X.started first).2.2 = true then rows ++ [(⟨first, 0, []⟩, .slice none 0 0)] else rows
def RefV.syncedAfter (X : RefV) (first synced : Nat) : Nat := if (X.started first).2.2 = true then 0 else synced
/-- A log and its disk: each in blocks of its own, all of them in F. -/
structure RStoreAt (w : World) (q r : Nat) (rows : List RRow) (synced : Nat) (lv : Value) (A : Nat → Prop) (X : RefV) (Fr F : Nat → Prop) : Prop where
  pre : RPre w q r rows synced lv A
  disk : RefIn w r X Fr
  sepQ : ¬ Fr q
  sepL : ∀ k, lv.ownBlock = some k → ¬ Fr k ∧ F k
  sepA : ∀ b, A b → ¬ Fr b ∧ b ≠ q ∧ lv.ownBlock ≠ some b ∧ b < w.heap.size ∧ F b
  inQ : F q
  inR : ∀ b, Fr b → F b ∧ b < w.heap.size
theorem Pushed.toDrew {W w' : World} {v : Value} {g : Nat} (h : Pushed W w' v g) : Pushed W.drew w' v g := ⟨⟨h.off.os, h.off.tape, h.off.output, h.off.size, h.off.block⟩, h.keep, h.from_, h.lt⟩
namespace RStoreAt
variable {w w' : World} {q r synced : Nat} {rows : List RRow} {lv : Value} {A Fr F : Nat → Prop} {X X' : RefV}
theorem qlt (h : RStoreAt w q r rows synced lv A X Fr F) : q < w.heap.size := Heap.lt h.pre.core
theorem llt (h : RStoreAt w q r rows synced lv A X Fr F) {k : Nat} (hk : lv.ownBlock = some k) : k < w.heap.size := h.pre.row.lt hk
theorem quiet (h : RStoreAt w q r rows synced lv A X Fr F) (ho : Off None w w') : RStoreAt w' q r rows synced lv A X Fr F :=
  ⟨h.pre.off ho (fun h => h) (fun _ _ h => h) (fun _ _ h => h), by obtain ⟨R, g1, g2⟩ := h.disk; exact ⟨R, g1.off ho (fun _ _ h => h), g2⟩, h.sepQ, h.sepL, fun b hb => ⟨(h.sepA b hb).1, (h.sepA b hb).2.1, (h.sepA b hb).2.2.1, Nat.lt_of_lt_of_le (h.sepA b hb).2.2.2.1 ho.size, (h.sepA b hb).2.2.2.2⟩, h.inQ, fun b hb => ⟨(h.inR b hb).1, Nat.lt_of_lt_of_le (h.inR b hb).2 ho.size⟩⟩
/-- The disk has turned, and nothing else. -/
theorem turned (h : RStoreAt w q r rows synced lv A X Fr F) (hd : RefIn w' r X' (Grow Fr w w')) (ho : Off Fr w w') : RStoreAt w' q r rows synced lv A X' (Grow Fr w w') (Grow F w w') := by
  have hq := h.qlt
  have hs := ho.size
  refine ⟨h.pre.off ho h.sepQ (fun k hk => (h.sepL k hk).1) (fun b hb => (h.sepA b hb).1), hd, fun hb => hb.elim h.sepQ (fun x => by omega), fun k hk => ⟨fun hb => hb.elim (h.sepL k hk).1 (fun x => by have := h.llt hk; omega), .inl (h.sepL k hk).2⟩, fun b hb => ?_, .inl h.inQ, fun b hb => ?_⟩
  · obtain ⟨h1, h2, h3, h4, h5⟩ := h.sepA b hb
    exact ⟨fun hb => hb.elim h1 (fun x => by omega), h2, h3, by omega, .inl h5⟩
  · rcases hb with hb | hb
    · exact ⟨.inl (h.inR b hb).1, by have := (h.inR b hb).2; omega⟩
    · exact ⟨.inr hb, hb.2⟩
theorem off_disk (h : RStoreAt w q r rows synced lv A X Fr F) (ho : Off Fr w w') : Off F w w' := ho.mono (fun b _ hb => (h.inR b hb).1)
theorem mono {G : Nat → Prop} (h : RStoreAt w q r rows synced lv A X Fr F) (hm : ∀ b, b < w.heap.size → F b → G b) : RStoreAt w q r rows synced lv A X Fr G :=
  ⟨h.pre, h.disk, h.sepQ, fun k hk => ⟨(h.sepL k hk).1, hm k (h.llt hk) (h.sepL k hk).2⟩, fun b hb => ⟨(h.sepA b hb).1, (h.sepA b hb).2.1, (h.sepA b hb).2.2.1, (h.sepA b hb).2.2.2.1, hm b (h.sepA b hb).2.2.2.1 (h.sepA b hb).2.2.2.2⟩, hm q h.qlt h.inQ, fun b hb => ⟨hm b (h.inR b hb).2 (h.inR b hb).1, (h.inR b hb).2⟩⟩
/-- Blocks that are not the log's have turned. -/
theorem apart {G : Nat → Prop} (h : RStoreAt w q r rows synced lv A X Fr F) (ho : Off G w w') (hG : ∀ b, b < w.heap.size → F b → ¬ G b) : RStoreAt w' q r rows synced lv A X Fr F :=
  ⟨h.pre.off ho (hG q h.qlt h.inQ) (fun k hk => hG k (h.llt hk) (h.sepL k hk).2) (fun b hb => hG b (h.sepA b hb).2.2.2.1 (h.sepA b hb).2.2.2.2), by obtain ⟨R, g1, g2⟩ := h.disk; exact ⟨R, g1.off ho (fun b hb => hG b (g1.old b hb) (h.inR b (g2 b hb)).1), g2⟩, h.sepQ, h.sepL, fun b hb => ⟨(h.sepA b hb).1, (h.sepA b hb).2.1, (h.sepA b hb).2.2.1, Nat.lt_of_lt_of_le (h.sepA b hb).2.2.2.1 ho.size, (h.sepA b hb).2.2.2.2⟩, h.inQ, fun b hb => ⟨(h.inR b hb).1, Nat.lt_of_lt_of_le (h.inR b hb).2 ho.size⟩⟩
/-- How many are synced is set. -/
theorem setSynced (h : RStoreAt w q r rows synced lv A X Fr F) (n : Nat) : RStoreAt (w.setCell ⟨q, 2, none⟩ (.int .i64 n)) q r rows n lv A X Fr F := by
  have ho : Off (Only q) w (w.setCell ⟨q, 2, none⟩ (.int .i64 n)) := (Off.refl (Only q) w).set 2 _
  refine ⟨⟨(Heap.set h.pre.core 2 _).trans rfl, h.pre.row.off ho (fun k hk e => h.pre.ne (by rw [hk, show k = q from e])), h.pre.ne, fun x hx => ?_⟩, ?_, h.sepQ, h.sepL, fun b hb => ⟨(h.sepA b hb).1, (h.sepA b hb).2.1, (h.sepA b hb).2.2.1, Nat.lt_of_lt_of_le (h.sepA b hb).2.2.2.1 ho.size, (h.sepA b hb).2.2.2.2⟩, h.inQ, fun b hb => ⟨(h.inR b hb).1, Nat.lt_of_lt_of_le (h.inR b hb).2 ho.size⟩⟩
  · obtain ⟨p, c, h1, h2, h3, h4⟩ := h.pre.each x hx
    exact ⟨p, c, h1, h2, h3, h4.off ho (fun b hb => (h.sepA b hb).2.1)⟩
  · obtain ⟨R, g1, g2⟩ := h.disk
    exact ⟨R, g1.off ho (fun b hb e => h.sepQ (show Fr q from (show b = q from e) ▸ g2 b hb)), g2⟩
theorem off_own (h : RStoreAt w q r rows synced lv A X Fr F) (ho : Off (Only q) w w') : Off F w w' := ho.mono (fun b _ e => by rw [show b = q from e]; exact h.inQ)
/-- A segment more behind all others. -/
theorem pushed {g oo cap : Nat} {w7 : World} {x : RRow} (h : RStoreAt w q r rows synced lv A X Fr F) (hx : ∃ p c, x.2 = .slice p x.1.bodies.length c ∧ x.1.bodies.length ≤ c ∧ c ≤ 9223372036854775807 ∧ Lies A w p x.1.bodies)
    (hrow : SubRow w7 136 4 (.slice (some ⟨g, oo, none⟩) (rows.length + 1) cap) (rows.length + 1) (rows.flatMap rsegCells ++ rsegCells x)) (hp : Pushed w.drew w7 lv g) :
    RStoreAt (w7.setCell ⟨q, 1, none⟩ (.slice (some ⟨g, oo, none⟩) (rows.length + 1) cap)) q r (rows ++ [x]) synced (.slice (some ⟨g, oo, none⟩) (rows.length + 1) cap) A X Fr (Grow F w w7) ∧
    Off F w (w7.setCell ⟨q, 1, none⟩ (.slice (some ⟨g, oo, none⟩) (rows.length + 1) cap)) := by
  have hq := h.qlt
  have hsz : w.heap.size ≤ w7.heap.size := hp.off.size
  have hgl := hp.lt
  have hfrom : lv.ownBlock = some g ∨ w.heap.size < g := hp.from_
  have hq7 := hp.keep _ _ h.pre.core h.pre.ne
  have hgne : g ≠ q := by
    rcases hfrom with e | e
    · intro e2; exact h.pre.ne (by rw [e, e2])
    · omega
  have ho : Off (fun b => b = q ∨ lv.ownBlock = some b) w (w7.setCell ⟨q, 1, none⟩ (.slice (some ⟨g, oo, none⟩) (rows.length + 1) cap)) :=
    ((((Off.refl _ w).drew).trans hp.off (fun _ _ h => h)).mono (fun _ _ h => .inr h)).setCell (p := ⟨q, 1, none⟩) (.inl (.inl rfl)) _
  have hnR : ∀ b, Fr b → ¬ (b = q ∨ lv.ownBlock = some b) := fun b hb e => e.elim (fun e => h.sepQ (e ▸ hb)) (fun e => (h.sepL b e).1 hb)
  have hnA : ∀ b, A b → ¬ (b = q ∨ lv.ownBlock = some b) := fun b hb e => e.elim (h.sepA b hb).2.1 (h.sepA b hb).2.2.1
  have hall : ∀ y ∈ rows ++ [x], ∃ p c, y.2 = .slice p y.1.bodies.length c ∧ y.1.bodies.length ≤ c ∧ c ≤ 9223372036854775807 ∧ Lies A w p y.1.bodies := by
    intro y hy
    rcases List.mem_append.1 hy with hy | hy
    · exact h.pre.each y hy
    · rw [List.mem_singleton.1 hy]; exact hx
  refine ⟨⟨⟨?_, ?_, fun e => hgne (by cases e; rfl), fun y hy => ?_⟩, ?_, h.sepQ, fun k hk => ?_, fun b hb => ?_, .inl h.inQ, fun b hb => ?_⟩, ho.mono (fun b _ e => ?_)⟩
  · exact (Heap.set hq7 1 _).trans rfl
  · have h2 := hrow.off ((Off.refl (Only q) w7).set 1 (.slice (some ⟨g, oo, none⟩) (rows.length + 1) cap)) (fun k hk e => by cases hk; exact hgne e)
    rw [List.flatMap_append, List.length_append]
    simpa using h2
  · obtain ⟨p, c, h1, h2, h3, h4⟩ := hall y hy
    exact ⟨p, c, h1, h2, h3, h4.off ho hnA⟩
  · obtain ⟨R, g1, g2⟩ := h.disk
    exact ⟨R, g1.off ho (fun b hb => hnR b (g2 b hb)), g2⟩
  · obtain rfl : g = k := by cases hk; rfl
    rcases hfrom with e | e
    · exact ⟨(h.sepL g e).1, .inl (h.sepL g e).2⟩
    · exact ⟨fun hb => by have := (h.inR g hb).2; omega, .inr ⟨by omega, hgl⟩⟩
  · obtain ⟨h1, h2, h3, h4, h5⟩ := h.sepA b hb
    refine ⟨h1, h2, fun e => ?_, Nat.lt_of_lt_of_le h4 ho.size, .inl h5⟩
    obtain rfl : g = b := by cases e; rfl
    rcases hfrom with e | e
    · exact h3 e
    · omega
  · exact ⟨.inl (h.inR b hb).1, Nat.lt_of_lt_of_le (h.inR b hb).2 ho.size⟩
  · rcases e with e | e
    · rw [e]; exact h.inQ
    · exact (h.sepL b e).2
end RStoreAt
/-- A log and its disk, wherever they lie in F. -/
def RStore (w : World) (q r : Nat) (rs : List RSeg) (synced : Nat) (X : RefV) (F : Nat → Prop) : Prop := ∃ rows lv A Fr, rows.map (·.1) = rs ∧ RStoreAt w q r rows synced lv A X Fr F
/-- How far a disk has grown. -/
structure RLim (N : Nat) (X : RefV) : Prop where
  le : N ≤ 1000000
  dirs : X.dirs.length ≤ N + 1
  dir : ∀ l ∈ X.dirs, l.length ≤ N
  files : X.files.length ≤ N
  each : ∀ row ∈ X.files, row.length ≤ N * 3000 + 1 ∧ ∀ t ∈ row, t.size ≤ N * 3000
theorem RLim.now {N : Nat} {X : RefV} (h : RLim N X) : X.dir.length ≤ N := by
  unfold RefV.dir
  cases hl : X.dirs.getLast? with
  | none => exact Nat.zero_le _
  | some l => exact h.dir l (List.mem_of_getLast? hl)
end Go.Proofs.YtnppdcegpojmbaaGreatDoor
namespace Go.Proofs.YtnppdcegpojmbaaGreatDoor
open Go Go.RowKit
namespace RLim
variable {N M : Nat} {X : RefV}
theorem mono (h : RLim N X) (hNM : N ≤ M) (hM : M ≤ 1000000) : RLim M X :=
  ⟨hM, Nat.le_trans h.dirs (by omega), fun l hl => Nat.le_trans (h.dir l hl) hNM, Nat.le_trans h.files hNM, fun row hr => ⟨Nat.le_trans (h.each row hr).1 (by omega), fun t ht => Nat.le_trans ((h.each row hr).2 t ht) (by omega)⟩⟩
theorem new (R : Int) : RLim 0 (RefV.new R) := ⟨by decide, Nat.le_refl 1, fun l hl => by rw [List.mem_singleton.1 (show l ∈ [[]] from hl)]; exact Nat.le_refl 0, Nat.le_refl 0, fun row hr => absurd (show row ∈ ([] : List (List ByteArray)) from hr) (by simp)⟩
theorem of_same {Y : RefV} (h : RLim N X) (h1 : Y.files = X.files) (h2 : Y.dirs = X.dirs) : RLim N Y := ⟨h.le, by rw [h2]; exact h.dirs, by rw [h2]; exact h.dir, by rw [h1]; exact h.files, by rw [h1]; exact h.each⟩
theorem begin (h : RLim N X) : RLim N X.begin.1 := h.of_same (RefV.begin_same X).1 (RefV.begin_same X).2.1
theorem fails (h : RLim N X) : RLim N X.fails.1 := h.of_same (RefV.fails_same X).1 (RefV.fails_same X).2.1
theorem stop (h : RLim N X) (n : Int) : RLim N (X.stop n) := h.of_same rfl rfl
theorem failAt (h : RLim N X) (n : Int) : RLim N (X.failAt n) := h.of_same rfl rfl
theorem setF (h : RLim N X) (i : Nat) (row : List ByteArray) (h1 : row.length ≤ N * 3000 + 1) (h2 : ∀ t ∈ row, t.size ≤ N * 3000) : RLim N (X.setF i row) :=
  ⟨h.le, h.dirs, h.dir, by show (X.files.set i row).length ≤ N; rw [List.length_set]; exact h.files, fun x hx => by
    rcases List.mem_or_eq_of_mem_set (show x ∈ X.files.set i row from hx) with hm | rfl
    · exact h.each x hm
    · exact ⟨h1, h2⟩⟩
theorem nowAt (h : RLim N X) (n : Nat) : (X.nowAt n).size ≤ N * 3000 := by
  unfold RefV.nowAt
  cases hr : X.files[n]? with
  | none => exact Nat.zero_le _
  | some row =>
    show ((row.getLast?).getD ByteArray.empty).size ≤ _
    cases hl : row.getLast? with
    | none => exact Nat.zero_le _
    | some t => exact (h.each row (List.mem_of_getElem? hr)).2 t (List.mem_of_getLast? hl)
theorem rowAt (h : RLim N X) (n : Nat) : (X.files[n]?.getD []).length ≤ N * 3000 + 1 ∧ ∀ t ∈ X.files[n]?.getD [], t.size ≤ N * 3000 := by
  cases hr : X.files[n]? with
  | none => exact ⟨Nat.zero_le _, fun t ht => absurd (show t ∈ ([] : List ByteArray) from ht) (by simp)⟩
  | some row => exact h.each row (List.mem_of_getElem? hr)
theorem used (h : RLim N X) : X.used ≤ N * (N * 3000) := by
  unfold RefV.used
  have h1 : ∀ l : List (ByteArray × Nat), (l.map fun p => (X.nowAt p.2).size).sum ≤ l.length * (N * 3000) := by
    intro l
    induction l with
    | nil => exact Nat.zero_le _
    | cons p r ih =>
      rw [List.map_cons, List.sum_cons, List.length_cons, Nat.add_mul, Nat.one_mul, Nat.add_comm]
      exact Nat.add_le_add ih (h.nowAt p.2)
  exact Nat.le_trans (h1 _) (Nat.mul_le_mul_right _ h.now)
theorem used_le (h : RLim N X) : X.used ≤ 4611686018427387904 := by
  have h1 := h.used
  have h2 := h.le
  have : N * (N * 3000) ≤ 1000000 * (1000000 * 3000) := Nat.mul_le_mul h2 (Nat.mul_le_mul_right _ h2)
  omega
theorem rows_le (h : RLim N X) : ∀ row ∈ X.files, row.length ≤ 1000000000000 ∧ ∀ t ∈ row, t.size ≤ 4611686018427387904 := by
  intro row hr
  have h1 := h.each row hr
  have h2 := h.le
  exact ⟨by omega, fun t ht => by have := h1.2 t ht; omega⟩
theorem rows_max (h : RLim N X) : ∀ row ∈ X.files, row.length ≤ 1099511627776 ∧ ∀ t ∈ row, t.size ≤ maxLen := by
  intro row hr
  have h1 := h.each row hr
  have h2 := h.le
  exact ⟨by omega, fun t ht => by have := h1.2 t ht; unfold maxLen; omega⟩
theorem sync (h : RLim N X) (name : ByteArray) : RLim N (X.sync name).1 := by
  unfold RefV.sync
  split
  · exact h
  · split
    · exact h.begin
    · split
      · exact h.begin.fails
      · exact h.begin.fails.setF _ _ (by simp) (fun t ht => by rw [List.mem_singleton.1 ht]; exact h.begin.nowAt _)
set_option maxRecDepth 100000 in
theorem cut (h : RLim N X) (name : ByteArray) (z : Nat) (hN : N + 1 ≤ 1000000) : RLim (N + 1) (X.cut name z).1 := by
  unfold RefV.cut
  have hb := h.begin.mono (Nat.le_succ N) hN
  split
  · exact h.mono (Nat.le_succ N) hN
  · split
    · exact hb
    · split
      · exact hb
      · refine hb.setF _ _ ?_ (fun t ht => ?_)
        · rw [List.length_append]
          have := (h.begin.rowAt (X.begin.1.number name).toNat).1
          simp only [List.length_singleton]; omega
        · rcases List.mem_append.1 ht with hm | hm
          · have := (h.begin.rowAt (X.begin.1.number name).toNat).2 t hm; omega
          · rw [List.mem_singleton.1 hm, ByteArray.size_extract]
            have := h.begin.nowAt (X.begin.1.number name).toNat; omega
set_option maxRecDepth 100000 in
theorem append (h : RLim N X) (name s : ByteArray) (hs : s.size ≤ 3000) (hN : N + 1 ≤ 1000000) : RLim (N + 1) (X.append name s).1 := by
  unfold RefV.append
  have hb := h.begin.mono (Nat.le_succ N) hN
  split
  · exact h.mono (Nat.le_succ N) hN
  · split
    · exact hb
    · split
      · exact hb
      · split
        · exact hb.fails
        · have hf := h.begin.fails
          refine (hf.mono (Nat.le_succ N) hN).setF _ _ ?_ (fun t ht => ?_)
          · rw [List.length_append]
            have h1 := (hf.rowAt (X.begin.1.number name).toNat).1
            have h2 : (RefV.moments (X.begin.1.fails.1.nowAt (X.begin.1.number name).toNat) s s.size).length = s.size := by unfold RefV.moments; rw [List.length_map, List.length_range]
            omega
          · rcases List.mem_append.1 ht with hm | hm
            · have := (hf.rowAt (X.begin.1.number name).toNat).2 t hm; omega
            · unfold RefV.moments at hm
              obtain ⟨i, _, rfl⟩ := List.mem_map.1 hm
              rw [ByteArray.size_append, ByteArray.size_extract]
              have := hf.nowAt (X.begin.1.number name).toNat; omega
set_option maxRecDepth 100000 in
theorem addD (h : RLim N X) (l : List (ByteArray × Nat)) (hl : l.length ≤ N + 1) (hN : N + 1 ≤ 1000000) : RLim (N + 1) (X.addD l) :=
  ⟨hN, by show (X.dirs ++ [l]).length ≤ _; rw [List.length_append]; have := h.dirs; simp only [List.length_singleton]; omega, fun x hx => by
    rcases List.mem_append.1 (show x ∈ X.dirs ++ [l] from hx) with hm | hm
    · have := h.dir x hm; omega
    · rw [List.mem_singleton.1 hm]; exact hl, Nat.le_trans h.files (Nat.le_succ N), fun row hr => by have := h.each row hr; exact ⟨by omega, fun t ht => by have := this.2 t ht; omega⟩⟩
theorem without_len (l : List (ByteArray × Nat)) (name : ByteArray) : (RefV.without l name).length ≤ l.length := List.length_filter_le _ _
theorem remove (h : RLim N X) (name : ByteArray) (hN : N + 1 ≤ 1000000) : RLim (N + 1) (X.remove name).1 := by
  unfold RefV.remove
  split
  · exact h.mono (Nat.le_succ N) hN
  · split
    · exact h.begin.mono (Nat.le_succ N) hN
    · exact h.begin.addD _ (Nat.le_trans (without_len _ _) (Nat.le_trans h.begin.now (Nat.le_succ N))) hN
set_option maxRecDepth 100000 in
theorem create (h : RLim N X) (name : ByteArray) (hN : N + 1 ≤ 1000000) : RLim (N + 1) (X.create name).1 := by
  unfold RefV.create
  have hb := h.begin.mono (Nat.le_succ N) hN
  split
  · exact h.mono (Nat.le_succ N) hN
  · split
    · exact hb
    · split
      · exact hb
      · have hl : (RefV.without X.begin.1.dir name ++ [(name, X.begin.1.files.length)]).length ≤ N + 1 := by
          rw [List.length_append]
          have := Nat.le_trans (without_len X.begin.1.dir name) h.begin.now
          simp only [List.length_singleton]; omega
        have h2 := h.begin.addD _ hl hN
        refine ⟨hN, h2.dirs, h2.dir, ?_, fun row hr => ?_⟩
        · show (X.begin.1.files ++ [[ByteArray.empty]]).length ≤ _
          rw [List.length_append]; have := h.begin.files; simp only [List.length_singleton]; omega
        · rcases List.mem_append.1 (show row ∈ X.begin.1.files ++ [[ByteArray.empty]] from hr) with hm | hm
          · exact h2.each row hm
          · rw [List.mem_singleton.1 hm]
            exact ⟨by simp, fun t ht => by rw [List.mem_singleton.1 ht]; exact Nat.zero_le _⟩
set_option maxRecDepth 100000 in
theorem syncDir (h : RLim N X) : RLim N X.syncDir.1 := by
  unfold RefV.syncDir
  split
  · exact h
  · exact ⟨h.le, by show (1 : Nat) ≤ _; omega, fun l hl => by rw [List.mem_singleton.1 (show l ∈ [X.dir] from hl)]; exact h.now, h.begin.files, h.begin.each⟩
theorem started (h : RLim N X) (first : Nat) (hN : N + 1 ≤ 1000000) : RLim (N + 1) (X.started first).1 := by
  have hc := h.create (Seg.nameB first) hN
  unfold RefV.started
  generalize X.create (Seg.nameB first) = c at hc ⊢
  obtain ⟨X1, e⟩ := c
  dsimp only at hc ⊢
  split
  · exact hc.syncDir
  · exact hc
end RLim
end Go.Proofs.YtnppdcegpojmbaaGreatDoor
