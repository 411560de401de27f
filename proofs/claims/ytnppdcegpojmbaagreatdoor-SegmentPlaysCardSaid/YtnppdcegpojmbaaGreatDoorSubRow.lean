/- A row of elements in a block of its own, perhaps not from the block's head: what append, a store and a reslice leave of it. No program stands here. -/
import Derived.Test.YtnppdcegpojmbaaGreatDoorRow
import Derived.Deep.MidRow
import Derived.ArgAppend
namespace Go.Proofs.YtnppdcegpojmbaaGreatDoor
open Go Go.RowKit
/-- A block's cells, some of them turned. -/
def putCells (cur : Array Value) : Nat → List Value → Array Value
  | _, [] => cur
  | o, v :: r => putCells (cur.setIfInBounds o v) (o + 1) r
theorem putCells_size (vs : List Value) : ∀ (cur : Array Value) (o : Nat), (putCells cur o vs).size = cur.size := by
  induction vs with
  | nil => intro cur o; rfl
  | cons v r ih => intro cur o; rw [putCells, ih, Array.size_setIfInBounds]
theorem putCells_out (vs : List Value) : ∀ (cur : Array Value) (o i : Nat), i < o ∨ o + vs.length ≤ i → (putCells cur o vs)[i]? = cur[i]? := by
  induction vs with
  | nil => intro cur o i _; rfl
  | cons v r ih =>
    intro cur o i h
    rw [List.length_cons] at h
    rw [putCells, ih _ _ _ (by omega), Array.getElem?_setIfInBounds, if_neg (by omega)]
theorem putCells_in (vs : List Value) : ∀ (cur : Array Value) (o j : Nat), j < vs.length → o + vs.length ≤ cur.size → (putCells cur o vs)[o + j]? = vs[j]? := by
  induction vs with
  | nil => intro cur o j h; exact absurd h (by simp)
  | cons v r ih =>
    intro cur o j h hs
    rw [List.length_cons] at h hs
    rw [putCells]
    cases j with
    | zero => rw [putCells_out _ _ _ _ (by omega), Nat.add_zero, Array.getElem?_setIfInBounds, if_pos rfl, if_pos (by omega)]; rfl
    | succ j => rw [show o + (j + 1) = o + 1 + j by omega, ih _ _ _ (by omega) (by rw [Array.size_setIfInBounds]; omega)]; rfl
theorem Heap.setCells {g : Nat} {e : TypeId} {f : Nat × Nat} (vs : List Value) : ∀ {w : World} {cur : Array Value} (o : Nat), w.heap[g]? = some (.cells cur e f) → (w.setCells g o vs).heap[g]? = some (.cells (putCells cur o vs) e f) := by
  induction vs with
  | nil => intro w cur o h; exact h
  | cons v r ih => intro w cur o h; exact ih (o + 1) (Heap.set h o v)
theorem Off.setCells {g : Nat} (vs : List Value) : ∀ (w : World) (o : Nat), Off (Only g) w (w.setCells g o vs) := by
  induction vs with
  | nil => intro w o; exact Off.refl _ _
  | cons v r ih => intro w o; exact ((Off.refl (Only g) w).set o v).trans (ih _ (o + 1)) (fun _ _ h => h)
theorem Heap.setCells_size {g : Nat} (vs : List Value) : ∀ (w : World) (o : Nat), (w.setCells g o vs).heap.size = w.heap.size := by
  induction vs with
  | nil => intro w o; rfl
  | cons v r ih => intro w o; exact (ih _ (o + 1)).trans (Heap.set_size _ _)
/-- A row of elements in a block of its own, perhaps not from the block's head. -/
def SubRow (w : World) (e : TypeId) (size : Nat) (v : Value) (n : Nat) (xs : List Value) : Prop :=
  xs.length = n * size ∧ ((v = .slice none 0 0 ∧ n = 0) ∨
    ∃ g m cap cur, v = .slice (some ⟨g, m * size, none⟩) n cap ∧ w.heap[g]? = some (.cells cur e (0, 0)) ∧ n ≤ cap ∧ cap ≤ maxLen ∧ cur.size = (m + cap) * size ∧ ∀ i, i < n * size → cur[m * size + i]? = xs[i]?)
namespace SubRow
variable {w w' : World} {e : TypeId} {size : Nat} {v : Value} {n : Nat} {xs : List Value}
theorem of_own {base : Nat} (h : w.ownsRow base e size v n xs) : SubRow w e size v n xs := by
  obtain ⟨hl, h | ⟨g, cap, cur, rfl, _, hb, hle, hmx, hsz, ht⟩⟩ := h
  · exact ⟨hl, .inl h⟩
  · refine ⟨hl, .inr ⟨g, 0, cap, cur, by rw [Nat.zero_mul], hb, hle, by omega, by rw [Nat.zero_add]; exact hsz, fun i hi => ?_⟩⟩
    rw [Nat.zero_mul, Nat.zero_add, ← ht, List.getElem?_take_of_lt hi, Array.getElem?_toList]
theorem nil (w : World) (e : TypeId) (size : Nat) : SubRow w e size (.slice none 0 0) 0 [] := ⟨by simp, .inl ⟨rfl, rfl⟩⟩
theorem off {G : Nat → Prop} (h : SubRow w e size v n xs) (ho : Off G w w') (hn : ∀ k, v.ownBlock = some k → ¬ G k) : SubRow w' e size v n xs := by
  obtain ⟨h1, h2⟩ := h
  refine ⟨h1, h2.imp id ?_⟩
  rintro ⟨g, m, cap, cur, rfl, hh, r⟩
  exact ⟨g, m, cap, cur, rfl, ho.at_ hh (hn g rfl), r⟩
theorem lt (h : SubRow w e size v n xs) {k : Nat} (hk : v.ownBlock = some k) : k < w.heap.size := by
  obtain ⟨_, ⟨rfl, _⟩ | ⟨g, m, cap, cur, rfl, hh, _⟩⟩ := h
  · cases hk
  · cases hk; exact Heap.lt hh
theorem shape (h : SubRow w e size v n xs) : ∃ p c, v = .slice p n c := by
  obtain ⟨_, ⟨rfl, h0⟩ | ⟨g, m, cap, cur, rfl, _⟩⟩ := h
  · exact ⟨none, 0, by rw [h0]⟩
  · exact ⟨_, _, rfl⟩
/-- Where the elements lie. -/
theorem cell (h : SubRow w e size v n xs) (hn : 0 < n) :
    ∃ g o c, v = .slice (some ⟨g, o, none⟩) n c ∧ g < w.heap.size ∧ n ≤ c ∧ c ≤ 9223372036854775807 ∧ v.ownBlock = some g ∧ ∀ (i : Nat) u, xs[i]? = some u → w.cell? ⟨g, o + i, none⟩ = some u ∧ w.frozen? ⟨g, o + i, none⟩ = false := by
  obtain ⟨hl, ⟨_, h0⟩ | ⟨g, m, cap, cur, rfl, hb, hle, hmx, hsz, ht⟩⟩ := h
  · omega
  · have hmx2 : cap ≤ 2 ^ 63 - 1 := hmx
    refine ⟨g, m * size, cap, rfl, Heap.lt hb, hle, by omega, rfl, fun i u hu => ⟨?_, Heap.frozen hb _⟩⟩
    have hi : i < n * size := by rw [← hl]; exact (List.getElem?_eq_some_iff.1 hu).1
    rw [Heap.cell hb, ht i hi, hu]
/-- Some cells of the row are turned. -/
theorem put {g o c : Nat} (h : SubRow w e size (.slice (some ⟨g, o, none⟩) n c) n xs) (i : Nat) (vs ys : List Value) (hi : i + vs.length ≤ n * size) (hy : ys.length = xs.length)
    (h1 : ∀ j, j < vs.length → ys[i + j]? = vs[j]?) (h2 : ∀ j, j < i ∨ i + vs.length ≤ j → ys[j]? = xs[j]?) : SubRow (w.setCells g (o + i) vs) e size (.slice (some ⟨g, o, none⟩) n c) n ys := by
  obtain ⟨hl, ⟨hv, _⟩ | ⟨g', m, cap, cur, hv, hb, hle, hmx, hsz, ht⟩⟩ := h
  · cases hv
  · cases hv
    refine ⟨hy.trans hl, .inr ⟨g, m, c, _, rfl, Heap.setCells vs _ hb, hle, hmx, by rw [putCells_size]; exact hsz, fun j hj => ?_⟩⟩
    have hcs : (m + n) * size ≤ cur.size := by rw [hsz]; exact Nat.mul_le_mul_right _ (by omega)
    rw [Nat.add_mul] at hcs
    by_cases hin : i ≤ j ∧ j < i + vs.length
    · obtain ⟨k, rfl⟩ : ∃ k, j = i + k := ⟨j - i, by omega⟩
      rw [← Nat.add_assoc, putCells_in _ _ _ _ (by omega) (by omega), h1 k (by omega)]
    · rw [putCells_out _ _ _ _ (by omega), ht j hj, h2 j (by omega)]
/-- The first element is left out. -/
theorem tail {g o c : Nat} (h : SubRow w e size (.slice (some ⟨g, o, none⟩) (n + 1) c) (n + 1) xs) : SubRow w e size (.slice (some ⟨g, o + size, none⟩) n (c - 1)) n (xs.drop size) := by
  obtain ⟨hl, ⟨hv, _⟩ | ⟨g', m, cap, cur, hv, hb, hle, hmx, hsz, ht⟩⟩ := h
  · cases hv
  · cases hv
    have e1 : (n + 1) * size = n * size + size := Nat.succ_mul n size
    refine ⟨by rw [List.length_drop, hl, e1]; omega, .inr ⟨g, m + 1, c - 1, cur, by rw [Nat.succ_mul], hb, by omega, by omega, by rw [hsz, show m + 1 + (c - 1) = m + c by omega], fun i hi => ?_⟩⟩
    rw [Nat.succ_mul, List.getElem?_drop, ← ht (size + i) (by omega)]
    congr 1
    omega
end SubRow
section
variable {P : Program}
theorem run_append_sub (w : World) (t ty e : TypeId) (i : TypeInfo) (z : Value) (size bytes : Nat) (ht : P.underlying t = some (.slice e)) (hi : P.info? e = some i) (hz : i.zero = some z)
    (hsize : i.size = size) (hby : i.bytes = bytes) (hzs : z.cells.size = size) (hsz : 0 < size)
    (v : Value) (n : Nat) (xs : List Value) (hown : SubRow w e size v n xs)
    (a : Addr) (m c : Nat) (news : List Value) (hl : news.length = m * size) (hnews : ∀ j u, news[j]? = some u → w.cell? (a.add j) = some u) (h1 : ∀ u ∈ news, u.oneCell' = true)
    (hm : 0 < m) (h63 : n + m ≤ maxLen) (hbytes : (n + m) * bytes ≤ 140737488355328) :
    ∃ g o cap w', (Builtin.append_ #[t, t] ty #[v, .slice (some a) m c]).run P w = .ok (.slice (some ⟨g, o, none⟩) (n + m) cap) w' ∧ SubRow w' e size (.slice (some ⟨g, o, none⟩) (n + m) cap) (n + m) (xs ++ news) ∧ w.grownBy w' v.ownBlock ∧
      (v.ownBlock = some g ∨ w.heap.size ≤ g) ∧ g < w'.heap.size := by
  -- a row of its own, laid anew
  have fresh : ∀ v' w', w'.ownsRow w.heap.size e size v' (n + m) (xs ++ news) → ∃ g o cap, v' = .slice (some ⟨g, o, none⟩) (n + m) cap ∧ SubRow w' e size (.slice (some ⟨g, o, none⟩) (n + m) cap) (n + m) (xs ++ news) ∧ w.heap.size ≤ g ∧ g < w'.heap.size := by
    intro v' w' h
    obtain ⟨g, cap, rfl, hg1, hg2⟩ := h.form (by omega)
    exact ⟨g, 0, cap, rfl, SubRow.of_own h, hg1, hg2⟩
  obtain ⟨hlx, ⟨rfl, rfl⟩ | ⟨g, mo, cap, cur, rfl, hb, hle, hmx, hcs, hat⟩⟩ := hown
  · have hx0 : xs = [] := List.eq_nil_of_length_eq_zero (by simpa using hlx)
    subst hx0
    obtain ⟨v', w', hrun, r1, r2, _⟩ := run_append_own (P := P) w w.heap.size t ty e i z size bytes ht hi hz hsize hby hzs hsz (.slice none 0 0) 0 [] (World.ownsRow_nil w _ e size) a m c news hl hnews h1 h63 hbytes (Nat.le_refl _)
    obtain ⟨g, o, cap, rfl, r3, r4, r5⟩ := fresh v' w' r1
    exact ⟨g, o, cap, w', hrun, r3, r2, .inr r4, r5⟩
  · by_cases hroom : n + m ≤ cap
    · subst hsize
      have hcs2 : (mo + (n + m)) * i.size ≤ cur.size := by rw [hcs]; exact Nat.mul_le_mul_right _ (by omega)
      rw [Nat.add_mul, Nat.add_mul, ← hl] at hcs2
      have hfree : ∀ j, j < news.length → (w.cell? ⟨g, mo * i.size + n * i.size + j, none⟩).isSome = true := fun j hj => by
        rw [Heap.cell hb, Array.getElem?_eq_getElem (by omega)]; rfl
      have hrun := run_append_room_cells (P := P) w t ty e i ht hi g (mo * i.size) n cap a m c news hl hnews h1 hroom hfree (fun j _ => Heap.frozen hb _)
      have hof := Off.setCells (g := g) news w (mo * i.size + n * i.size)
      refine ⟨g, mo * i.size, cap, _, hrun, ⟨by rw [List.length_append, hlx, hl, Nat.add_mul], .inr ⟨g, mo, cap, _, rfl, Heap.setCells news _ hb, hroom, hmx, by rw [putCells_size]; exact hcs, fun j hj => ?_⟩⟩, ⟨hof.os, hof.tape, hof.output, hof.size, fun k hk hne => hof.block k hk (fun e => hne (by rw [show k = g from e]; rfl))⟩, .inl rfl, by rw [Heap.setCells_size]; exact Heap.lt hb⟩
      rw [Nat.add_mul, ← hl] at hj
      by_cases hjn : j < n * i.size
      · rw [putCells_out _ _ _ _ (by omega), hat j hjn, List.getElem?_append_left (by omega)]
      · obtain ⟨k, rfl⟩ : ∃ k, j = n * i.size + k := ⟨j - n * i.size, by omega⟩
        rw [← Nat.add_assoc, putCells_in _ _ _ _ (by omega) (by omega), List.getElem?_append_right (by omega), hlx]
        congr 1
        omega
    · have holds : ∀ j u, xs[j]? = some u → w.cell? ((⟨g, mo * size, none⟩ : Addr).add j) = some u := by
        intro j u hu
        have hj : j < n * size := by rw [← hlx]; exact (List.getElem?_eq_some_iff.1 hu).1
        rw [Addr.add_mid, Heap.cell hb, hat j hj, hu]
      obtain ⟨v', w', hrun, r1, r2⟩ := run_append_arg_grows (P := P) w t ty e i z size bytes ht hi hz hsize hby hzs hsz ⟨g, mo * size, none⟩ n cap xs hlx holds a m c news hl hnews (by omega) h63 hbytes
      obtain ⟨g', o, cap', rfl, r3, r4, r5⟩ := fresh v' w' r1
      exact ⟨g', o, cap', w', hrun, r3, ⟨r2.os, r2.tape, r2.output, r2.size, fun k hk _ => r2.block k hk (by simp)⟩, .inr r4, r5⟩
variable {ops : Array Oper} {rest : List Oper} {o : Oper} {a : Act} {Q : Exit → Act → World → Prop} {W : World} {st e : TypeId} {size bytes : Nat}
theorem Pushed.of_grown {v : Value} {news : Array Value} {w' : World} {g : Nat} (h2 : (W.alloc (.cells news e)).grownBy w' v.ownBlock) (h3 : v.ownBlock = some g ∨ W.heap.size + 1 ≤ g) (h4 : g < w'.heap.size) : Pushed W w' v g :=
  ⟨((Off.refl _ W).alloc _).grown h2 (fun k hk => .inl hk), fun b o hb hn => Heap.grown h2 (Heap.alloc_old hb _) hn, h3.imp id (fun h => by omega), h4⟩
theorem wp_push_sub {K : Act → World → Prop} (s x : Operand) (ho : o.op = .call { callee := .builtin .append, args := #[s, x], argTypes := #[st, st] }) (E : ElemOk P st e size bytes)
    (v : Value) (n : Nat) (xs : List Value) (hs : a.eval s = v) (hown : SubRow W e size v n xs) (news : Array Value) (hx : a.eval x = .slice (some ⟨W.heap.size, 0, none⟩) 1 1)
    (hl : news.toList.length = size) (h1 : ∀ u ∈ news.toList, u.oneCell' = true) (hn : n ≤ 1099511627776)
    (h : ∀ g oo cap w', SubRow w' e size (.slice (some ⟨g, oo, none⟩) (n + 1) cap) (n + 1) (xs ++ news.toList) → Pushed W w' v g → K (a.put o.dst (.slice (some ⟨g, oo, none⟩) (n + 1) cap)) w') :
    Oper.wp P o a (W.alloc (.cells news e)) K Q := by
  obtain ⟨i, z, hi, hz, h2, h3, h4⟩ := E.info
  have hf := E.few
  have hrow : SubRow (W.alloc (.cells news e)) e size v n xs := hown.off ((Off.refl None W).alloc _) (fun _ _ h => h)
  have hb : (n + 1) * bytes ≤ 140737488355328 := Nat.le_trans (Nat.mul_le_mul_left _ hf) (by omega)
  obtain ⟨g, oo, cap, w', hrun, r1, r2, r3, r4⟩ := run_append_sub (P := P) (W.alloc (.cells news e)) st o.type e i z size bytes E.ht hi hz h2 h3 h4 E.pos v n xs hrow ⟨W.heap.size, 0, none⟩ 1 1 news.toList (by rw [hl, Nat.one_mul]) (Heap.news W news e _ rfl) h1 (by decide) (by unfold maxLen; omega) hb
  unfold Oper.wp execOp
  simp only [ho, resolve, invoke, builtin, Sem.run_bind, Sem.run_pure, Result.andThen_ok, List.map_toArray, List.map_cons, List.map_nil, hs, hx, hrun]
  exact h g oo cap w' r1 (Pushed.of_grown r2 (by rw [Heap.alloc_size] at r3; exact r3) r4)
theorem wpList_push_sub (hgd : o.guard = none) (s x : Operand) (ho : o.op = .call { callee := .builtin .append, args := #[s, x], argTypes := #[st, st] }) (E : ElemOk P st e size bytes)
    (v : Value) (n : Nat) (xs : List Value) (hs : a.eval s = v) (hown : SubRow W e size v n xs) (news : Array Value) (hx : a.eval x = .slice (some ⟨W.heap.size, 0, none⟩) 1 1)
    (hl : news.toList.length = size) (h1 : ∀ u ∈ news.toList, u.oneCell' = true) (hn : n ≤ 1099511627776)
    (h : ∀ g oo cap w', SubRow w' e size (.slice (some ⟨g, oo, none⟩) (n + 1) cap) (n + 1) (xs ++ news.toList) → Pushed W w' v g → wpList P ops Q rest (a.put o.dst (.slice (some ⟨g, oo, none⟩) (n + 1) cap)) w') :
    wpList P ops Q (o :: rest) a (W.alloc (.cells news e)) :=
  wpList_plain hgd fun _ hK => wp_push_sub s x ho E v n xs hs hown news hx hl h1 hn fun g oo cap w' r1 r2 => hK _ _ (h g oo cap w' r1 r2)
theorem step_push_sub {K : Act → World → Prop} {X : Prop} (hgd : o.guard = none) (s x : Operand) (ho : o.op = .call { callee := .builtin .append, args := #[s, x], argTypes := #[st, st] }) (E : ElemOk P st e size bytes)
    (v : Value) (n : Nat) (xs : List Value) (hs : a.eval s = v) (hown : SubRow W e size v n xs) (news : Array Value) (hx : a.eval x = .slice (some ⟨W.heap.size, 0, none⟩) 1 1)
    (hl : news.toList.length = size) (h1 : ∀ u ∈ news.toList, u.oneCell' = true) (hn : n ≤ 1099511627776)
    (h : ∀ g oo cap w', SubRow w' e size (.slice (some ⟨g, oo, none⟩) (n + 1) cap) (n + 1) (xs ++ news.toList) → Pushed W w' v g → K (a.put o.dst (.slice (some ⟨g, oo, none⟩) (n + 1) cap)) w') :
    if Region.wanted o (yielded ops a.tmps) = true then Oper.wp P o a (W.alloc (.cells news e)) K Q else X := by
  have hw : Region.wanted o (yielded ops a.tmps) = true := by simp [Region.wanted, hgd]
  rw [if_pos hw]
  exact wp_push_sub s x ho E v n xs hs hown news hx hl h1 hn h
end
end Go.Proofs.YtnppdcegpojmbaaGreatDoor
