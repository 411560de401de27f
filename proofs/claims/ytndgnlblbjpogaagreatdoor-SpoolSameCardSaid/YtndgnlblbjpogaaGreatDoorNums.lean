/- slices.BinarySearch at rows of numbers that rise: how many are below it, and whether it is there. -/
import Derived.Test.YtndgnlblbjpogaaGreatDoorProg
import Derived.Test.YtndgnlblbjpogaaGreatDoorRow
import Derived.Test.YtndgnlblbjpogaaGreatDoorLedgerR
import Derived.Deep.LoopGhost
import Derived.Lib.Walk
import Derived.BigQuiet
namespace Go.Proofs.YtndgnlblbjpogaaGreatDoor
open Go Go.RowKit
/- Plain: how many of a row's numbers are below x. -/
abbrev below (x : Nat) (l : List Nat) : Nat := l.countP fun y => decide (y < x)
theorem below_at {l : List Nat} {x i : Nat} (hi : i ≤ l.length) (h1 : ∀ j (h : j < l.length), j < i → l[j] < x) (h2 : ∀ j (h : j < l.length), i ≤ j → x ≤ l[j]) : below x l = i := by
  have e : below x l = below x (l.take i) + below x (l.drop i) := by
    unfold below
    rw [← List.countP_append, List.take_append_drop]
  have e1 : below x (l.take i) = (l.take i).length := List.countP_eq_length.2 fun y hy => by
    obtain ⟨j, hj, rfl⟩ := List.mem_iff_getElem.1 hy
    rw [List.length_take] at hj
    rw [List.getElem_take]
    exact decide_eq_true (h1 j (by omega) (by omega))
  have e2 : below x (l.drop i) = 0 := List.countP_eq_zero.2 fun y hy => by
    obtain ⟨j, hj, rfl⟩ := List.mem_iff_getElem.1 hy
    rw [List.length_drop] at hj
    rw [List.getElem_drop]
    have := h2 (i + j) (by omega) (by omega)
    simp only [decide_eq_true_eq]
    omega
  rw [e, e1, e2, List.length_take]
  omega
theorem there_at {l : List Nat} {x i : Nat} (h1 : ∀ j (h : j < l.length), j < i → l[j] < x) (hr : Rising l) : l.contains x = decide (∃ h : i < l.length, l[i] = x) ∨ ∃ h : i < l.length, l[i] < x := by
  by_cases hm : ∃ h : i < l.length, l[i] < x
  · exact .inr hm
  · left
    rw [Bool.eq_iff_iff, decide_eq_true_eq, List.contains_iff_mem, List.mem_iff_getElem]
    constructor
    · rintro ⟨j, hj, e⟩
      have hij : i ≤ j := by
        rcases Nat.lt_or_ge j i with h | h
        · have := h1 j hj h
          omega
        · exact h
      rcases Nat.eq_or_lt_of_le hij with h | h
      · subst h; exact ⟨hj, e⟩
      · have h3 := List.pairwise_iff_getElem.1 hr i j (by omega) hj h
        exact absurd ⟨by omega, by omega⟩ hm
    · rintro ⟨h, e⟩
      exact ⟨i, h, e⟩
theorem rising_le {l : List Nat} (hr : Rising l) {a b : Nat} (hab : a ≤ b) (hb : b < l.length) : l[a]'(by omega) ≤ l[b] := by
  rcases Nat.eq_or_lt_of_le hab with h | h
  · subst h; exact Nat.le_refl _
  · exact Nat.le_of_lt (List.pairwise_iff_getElem.1 hr a b (by omega) hb h)
theorem insSeq_below (x : Nat) (l : List Nat) (hr : Rising l) (hx : x ∉ l) : insSeq x l = l.take (below x l) ++ x :: l.drop (below x l) := by
  induction l with
  | nil => rfl
  | cons y r ih =>
    have hy := List.pairwise_cons.1 hr
    unfold insSeq
    by_cases h1 : x < y
    · rw [if_pos h1]
      have e : below x (y :: r) = 0 := below_at (Nat.zero_le _) (fun j _ h => absurd h (Nat.not_lt_zero _)) (fun j h _ => by
        cases j with
        | zero => exact Nat.le_of_lt h1
        | succ j =>
          have hj : j < r.length := by simpa using h
          have := hy.1 r[j] (List.getElem_mem _)
          show x ≤ r[j]
          omega)
      rw [e]; rfl
    · rw [if_neg h1, if_neg (fun e => hx (by simp [e])), ih hy.2 (fun h => hx (by simp [h]))]
      have hne : x ≠ y := fun e => hx (by simp [e])
      have e : below x (y :: r) = below x r + 1 := List.countP_cons_of_pos (by simp only [decide_eq_true_eq]; omega)
      rw [e]; rfl
theorem below_le (x : Nat) (l : List Nat) : below x l ≤ l.length := List.countP_le_length
/- The program. -/
def numCells (l : List Nat) : List Value := l.map fun (n : Nat) => Value.int .u64 n
theorem numCells_len (l : List Nat) : (numCells l).length = l.length := List.length_map _
theorem numCells_one (l : List Nat) : ∀ u ∈ numCells l, u.oneCell' = true := by
  intro u hu
  obtain ⟨n, _, rfl⟩ := List.mem_map.1 hu
  rfl
theorem numCells_at (l : List Nat) {j : Nat} (h : j < l.length) : (numCells l)[j]? = some (.int .u64 (l[j] : Nat)) := by
  unfold numCells
  rw [List.getElem?_map, List.getElem?_eq_getElem h]; rfl
namespace Nums
theorem nan1_any (x : Int) (w : World) : Calls Tryz.prog 150 #[.int .u64 x] w fun e w' => e = .returned (.bool false) ∧ w' = w := by
  go_enter Tryz.func150, Tryz.ntmps150
  go_wp2
  go_ret
  exact ⟨by simp, rfl⟩
theorem nan2_any (x : Int) (w : World) : Calls Tryz.prog 114 #[.int .u64 x] w fun e w' => e = .returned (.bool false) ∧ w' = w := by
  go_enter Tryz.func114, Tryz.ntmps114
  go_wp2
  go_ret
  exact ⟨by simp, rfl⟩
theorem less_any (x y : Int) (w : World) : Calls Tryz.prog 113 #[.int .u64 x, .int .u64 y] w fun e w' => e = .returned (.bool (decide (x < y))) ∧ w' = w := by
  go_enter Tryz.func113, Tryz.ntmps113
  go_wp2_with fail
  refine (nan1_any _ _).mono ?_
  rintro e w' ⟨rfl, rfl⟩
  go_wp2
  go_ret
  exact ⟨rfl, rfl⟩
end Nums
/-- A slice that reads as these cells; its block, if it has one, is one of S. -/
def SliceAt (w : World) (S : Nat → Prop) (size : Nat) (v : Value) (n : Nat) (xs : List Value) : Prop :=
  xs.length = n * size ∧ n ≤ 1099511627776 ∧ ((v = .slice none 0 0 ∧ n = 0) ∨
    ∃ b off c, v = .slice (some ⟨b, off, none⟩) n c ∧ n ≤ c ∧ c ≤ maxLen ∧ S b ∧ b < w.heap.size ∧ ∀ j u, xs[j]? = some u → w.cell? ⟨b, off + j, none⟩ = some u)
namespace SliceAt
variable {w w' : World} {S T G : Nat → Prop} {size n : Nat} {v : Value} {xs : List Value}
theorem off (h : SliceAt w S size v n xs) (ho : Off G w w') (hG : ∀ b, S b → b < w.heap.size → ¬ G b) : SliceAt w' S size v n xs := by
  refine ⟨h.1, h.2.1, ?_⟩
  rcases h.2.2 with h1 | ⟨b, off, c, h1, h2, h3, h4, h5, h6⟩
  · exact .inl h1
  · exact .inr ⟨b, off, c, h1, h2, h3, h4, Nat.lt_of_lt_of_le h5 ho.size, fun j u hu => (ho.cell h5 (hG b h4 h5)).trans (h6 j u hu)⟩
theorem quiet (h : SliceAt w S size v n xs) (ho : Off None w w') : SliceAt w' S size v n xs := h.off ho fun _ _ _ hn => hn
theorem mono (h : SliceAt w S size v n xs) (hS : ∀ b, S b → b < w.heap.size → T b) : SliceAt w T size v n xs := by
  refine ⟨h.1, h.2.1, ?_⟩
  rcases h.2.2 with h1 | ⟨b, off, c, h1, h2, h3, h4, h5, h6⟩
  · exact .inl h1
  · exact .inr ⟨b, off, c, h1, h2, h3, hS b h4 h5, h5, h6⟩
theorem nil (w : World) (S : Nat → Prop) (size : Nat) : SliceAt w S size (.slice none 0 0) 0 [] := ⟨by simp, Nat.zero_le _, .inl ⟨rfl, rfl⟩⟩
theorem of_own {base : Nat} {e : TypeId} (h : w.ownsRow base e size v n xs) (hn : n ≤ 1099511627776) (hS : ∀ k, v.ownBlock = some k → S k) : SliceAt w S size v n xs := by
  refine ⟨h.1, hn, ?_⟩
  rcases h.2 with h1 | ⟨g, cap, cur, rfl, h2, h3, h4, h5, h6, h7⟩
  · exact .inl h1
  · refine .inr ⟨g, 0, cap, rfl, h4, h5, hS g rfl, Heap.lt h3, fun j u hu => ?_⟩
    have := h.cells (g := g) rfl j u hu
    rw [Addr.add_lit] at this
    exact this
end SliceAt
namespace Nums
set_option maxHeartbeats 1000000 in
set_option maxRecDepth 100000 in
theorem bsearch_some (w : World) (b off c : Nat) (l : List Nat) (x : Nat) (hn : l.length ≤ 1099511627776) (hc : ∀ j u, (numCells l)[j]? = some u → w.cell? ⟨b, off + j, none⟩ = some u) (hr : Rising l) :
    Calls Tryz.prog 81 #[.slice (some ⟨b, off, none⟩) l.length c, .int .u64 x] w fun e w' => e = .returned (.tuple #[.int .i64 (below x l : Nat), .bool (l.contains x)]) ∧ Off None w w' := by
  obtain ⟨n, hnl⟩ : ∃ n, n = l.length := ⟨_, rfl⟩
  have HN := Lib.hid hnl
  rw [← hnl] at hn ⊢
  clear hnl
  have HC := Lib.hid hc; clear hc
  have HR := Lib.hid hr; clear hr
  go_enter Tryz.func81, Tryz.ntmps81
  go_wp2
  go_loopg [7, 8] n (fun g s7 s8 wr => ∃ lo hi : Nat, s7 = .int .i64 lo ∧ s8 = .int .i64 hi ∧ lo ≤ hi ∧ hi ≤ n ∧ hi - lo ≤ g ∧ Off None w wr ∧ Aside ((∀ t (h : t < l.length), t < lo → l[t] < x) ∧ (∀ t (h : t < l.length), hi ≤ t → x ≤ l[t])))
  case atStart => exact ⟨0, n, rfl, rfl, Nat.zero_le _, Nat.le_refl _, by omega, Off.refl _ _, fun t h h1 => absurd h1 (Nat.not_lt_zero _), fun t h h1 => by have := HN.out; omega⟩
  case round =>
    obtain ⟨lo, hi, rfl, rfl, hlh, hin, hg, ho, I⟩ := hrel
    have HO := Lib.hid ho; clear ho
    by_cases hlt : lo < hi
    · have hml : (lo + hi) / 2 < l.length := by have := HN.out; omega
      have cm : World.cell? _ ⟨b, off + (lo + hi) / 2, none⟩ = some (.int .u64 (l[(lo + hi) / 2] : Nat)) := (HO.out.cell (Heap.block_lt (HC.out _ _ (numCells_at l hml))) (fun h => h)).trans (HC.out _ _ (numCells_at l hml))
      obtain ⟨y, hy⟩ : ∃ y, l[(lo + hi) / 2] = y := ⟨_, rfl⟩
      have Y : Aside (∃ h : (lo + hi) / 2 < l.length, l[(lo + hi) / 2] = y) := ⟨hml, hy⟩
      rw [hy] at cm
      clear hy hml
      by_cases hyx : y < x
      · go_wp2_with fail
        refine (less_any _ _ _).mono ?_
        rintro e w' ⟨rfl, rfl⟩
        go_wp2
        go_roundg (hi - ((lo + hi) / 2 + 1))
        case measure => omega
        case rel =>
          refine ⟨(lo + hi) / 2 + 1, hi, by rw [show ((lo : Int) + (hi : Int)) / 2 + 1 = (((lo + hi) / 2 + 1 : Nat) : Int) by omega], rfl, by omega, hin, Nat.le_refl _, HO.out, fun t h ht => ?_, I.out.2⟩
          obtain ⟨hm, hy⟩ := Y.out
          have := rising_le HR.out (show t ≤ (lo + hi) / 2 by omega) hm
          omega
      · go_wp2_with fail
        refine (less_any _ _ _).mono ?_
        rintro e w' ⟨rfl, rfl⟩
        go_wp2
        go_roundg ((lo + hi) / 2 - lo)
        case measure => omega
        case rel =>
          refine ⟨lo, (lo + hi) / 2, rfl, by rw [show ((lo : Int) + (hi : Int)) / 2 = (((lo + hi) / 2 : Nat) : Int) by omega], by omega, by omega, Nat.le_refl _, HO.out, I.out.1, fun t h ht => ?_⟩
          obtain ⟨hm, hy⟩ := Y.out
          have := rising_le HR.out ht h
          omega
    · have : hi = lo := by omega
      subst this
      have hb : below x l = hi := below_at (by have := HN.out; omega) I.out.1 I.out.2
      have HB := Lib.hid hb; clear hb
      by_cases hn2 : hi < n
      · have hml : hi < l.length := by have := HN.out; omega
        have cl : World.cell? _ ⟨b, off + hi, none⟩ = some (.int .u64 (l[hi] : Nat)) := (HO.out.cell (Heap.block_lt (HC.out _ _ (numCells_at l hml))) (fun h => h)).trans (HC.out _ _ (numCells_at l hml))
        obtain ⟨y, hy⟩ : ∃ y, l[hi] = y := ⟨_, rfl⟩
        have Y : Aside (∃ h : hi < l.length, l[hi] = y) := ⟨hml, hy⟩
        rw [hy] at cl
        clear hy hml
        have hxy : Aside (x ≤ y) := by obtain ⟨hm, hy⟩ := Y.out; rw [← hy]; exact I.out.2 hi hm (Nat.le_refl _)
        have hcon : Aside (l.contains x = decide (y = x)) := by
          obtain ⟨hm, hy⟩ := Y.out
          rcases there_at I.out.1 HR.out with h | ⟨h1, h2⟩
          · rw [h]
            by_cases e : y = x
            · rw [decide_eq_true e, decide_eq_true ⟨hm, by rw [hy]; exact e⟩]; exact rfl
            · have hd : decide (∃ h : hi < l.length, l[hi] = x) = false := decide_eq_false (by rintro ⟨_, e'⟩; exact e (by rw [← hy]; exact e'))
              rw [decide_eq_false e, hd]; exact rfl
          · have := hxy.out
            omega
        by_cases hyx : y = x
        · go_wp2_with fail
          go_ret2
          refine ⟨?_, HO.out⟩
          rw [HB.out, hcon.out, decide_eq_true hyx]
          try rfl
        · have hyx' : ¬ ((y : Int) = (x : Int)) := by omega
          go_wp2_with (go_at_call 114; refine (nan2_any _ _).mono ?_; rintro e w' ⟨rfl, rfl⟩)
          go_ret2
          refine ⟨?_, HO.out⟩
          rw [HB.out, hcon.out, decide_eq_false hyx]
          show Ending.returned (.tuple #[.int .i64 hi, .bool ((y : Int) == (x : Int))]) = _
          rw [beq_eq_false_iff_ne.2 hyx']
      · have hcon : Aside (l.contains x = false) := by
          rcases there_at I.out.1 HR.out with h | ⟨h1, _⟩
          · rw [h]
            exact decide_eq_false (by rintro ⟨h1, _⟩; have := HN.out; omega)
          · have := HN.out; omega
        go_wp2_with fail
        go_ret2
        refine ⟨?_, HO.out⟩
        rw [HB.out, hcon.out]
        try rfl
theorem bsearch_nil (w : World) (x : Nat) :
    Calls Tryz.prog 81 #[.slice none 0 0, .int .u64 x] w fun e w' => e = .returned (.tuple #[.int .i64 0, .bool false]) ∧ Off None w w' := by
  go_enter Tryz.func81, Tryz.ntmps81
  go_wp2
  go_loopg [7, 8] 0 (fun _ s7 s8 wr => s7 = .int .i64 0 ∧ s8 = .int .i64 0 ∧ wr = w)
  case atStart => exact ⟨rfl, rfl, rfl⟩
  case round =>
    obtain ⟨rfl, rfl, rfl⟩ := hrel
    go_wp2
    go_ret2
    exact ⟨rfl, Off.refl _ _⟩
theorem bsearch_any (w : World) (S : Nat → Prop) (v : Value) (l : List Nat) (x : Nat) (h : SliceAt w S 1 v l.length (numCells l)) (hr : Rising l) :
    Calls Tryz.prog 81 #[v, .int .u64 x] w fun e w' => e = .returned (.tuple #[.int .i64 (below x l : Nat), .bool (l.contains x)]) ∧ Off None w w' := by
  rcases h.2.2 with ⟨rfl, h0⟩ | ⟨b, off, c, rfl, h1, h2, h3, h4, h5⟩
  · rw [List.eq_nil_of_length_eq_zero h0]
    exact bsearch_nil w x
  · exact bsearch_some w b off c l x h.2.1 h5 hr
end Nums
end Go.Proofs.YtndgnlblbjpogaaGreatDoor
