/- Texts that a log keeps: those that are not too long. · Slices that read as lists, and append of one onto a row of the call's own (after the kit's extra-words). No program stands here. · The walk of SegmentUndoes. -/
import Derived.Test.YtnppdcegpojmbaaGreatDoorLaw2
import Derived.Below
import Derived.Laws.OwnMore
import Derived.Deep.AppendLies
import Derived.Deep.Draws
import Derived.Maps.AppendAt
import Derived.RegionTactic
import Derived.OwnWalk
import Derived.Test.YtnppdcegpojmbaaGreatDoorRow
namespace Go.Proofs.YtnppdcegpojmbaaGreatDoor
open Go Go.RowKit
namespace Law
/-- The texts that are not too long. -/
def keptL (l : List ByteArray) : List (List UInt8) := (l.filter fun t => decide (t.size ≤ 2000)).map fun t => t.data.toList
theorem keptL_append (a b : List ByteArray) : keptL (a ++ b) = keptL a ++ keptL b := by unfold keptL; rw [List.filter_append, List.map_append]
theorem keptL_short {t : ByteArray} (h : t.size ≤ 2000) : keptL [t] = [t.data.toList] := by
  unfold keptL; rw [List.filter_cons_of_pos (by simpa using h)]; rfl
theorem keptL_long {t : ByteArray} (h : 2000 < t.size) : keptL [t] = [] := by
  unfold keptL; rw [List.filter_cons_of_neg (by simpa using h)]; rfl
theorem keptL_len (l : List ByteArray) : (keptL l).length ≤ l.length := by
  unfold keptL; rw [List.length_map]; exact List.length_filter_le _ _
theorem keptL_small (l : List ByteArray) : ∀ b ∈ keptL l, b.length ≤ 2000 := by
  intro b hb
  unfold keptL at hb
  obtain ⟨t, ht, rfl⟩ := List.mem_map.1 hb
  have := (List.mem_filter.1 ht).2
  simpa using this
theorem keptL_take (l : List ByteArray) {i : Nat} (h : i < l.length) : keptL (l.take (i + 1)) = keptL (l.take i) ++ keptL [l[i]] := by
  rw [List.take_succ_eq_append_getElem h, keptL_append]
theorem keptL_at (l : List ByteArray) {i : Nat} (h : i < l.length) (hs : l[i].size ≤ 2000) : (keptL l)[(keptL (l.take i)).length]? = some l[i].data.toList := by
  have e : l = l.take i ++ ([l[i]] ++ l.drop (i + 1)) := by
    rw [List.singleton_append, ← List.drop_eq_getElem_cons h, List.take_append_drop]
  have h2 : keptL l = keptL (l.take i) ++ (keptL [l[i]] ++ keptL (l.drop (i + 1))) := by
    rw [← keptL_append, ← keptL_append, ← e]
  rw [h2, List.getElem?_append_right (Nat.le_refl _), Nat.sub_self, keptL_short hs]
  rfl
theorem kept_sum (bs : List (List UInt8)) (h : ∀ b ∈ bs, b.length ≤ 2000) (hl : bs.length ≤ 1000) : GoodLog.sum ([] ++ [(⟨1, bs⟩ : Grp)]) ≤ bs.length * 2024 := by
  have := framesL_len bs h 1 (by omega)
  unfold GoodLog.sum
  simpa [Grp.txt] using this
variable {n N : Nat} {A : Nat → Prop} {w : World} {lg d k : Nat} {bs : List (List UInt8)}
/-- Append of any text: what is too long is refused, and changes nothing. -/
theorem append_kept (h : Held 1000000 n N A w lg d 0 1 [] ⟨1, bs⟩ k) (body : ByteArray) (hb : body.size ≤ 140737488355328) (hs : ∀ b ∈ bs, b.length ≤ 2000) (hl : bs.length ≤ 100) (hN : N ≤ 1000) :
    Calls Tryz.prog 13 #[.pointer (some ⟨lg, 0, none⟩), .string body] w fun e w' =>
      ∃ q er : Int, ∃ N' : Nat, e = .returned (.tuple #[.int .u64 q, .int .i64 er]) ∧ N' ≤ N + 1 ∧ Held 1000000 n N' A w' lg d 0 1 [] ⟨1, bs ++ keptL [body]⟩ k ∧ Off (Rest n A) w w' := by
  by_cases hsz : body.size ≤ 2000
  · have hp := Frame.putF_len (1 + bs.length) body.data.toList (by omega) (show body.data.toList.length ≤ 2000 by simpa using hsz)
    have hq : body.data.toList.length ≤ 2000 := by simpa using hsz
    have hsum := kept_sum bs hs (by omega)
    refine (h.append body hsz (by show _ + (Frame.putF (1 + bs.length) body.data.toList).length ≤ _; omega) (by show 1 + bs.length + 1 ≤ _; omega) (by omega)).mono ?_
    rintro e w' ⟨rfl, h', ho⟩
    refine ⟨_, _, N + 1, rfl, Nat.le_refl _, ?_, ho⟩
    rw [keptL_short hsz]
    exact h'
  · refine (h.append_long body (by omega) hb (by show 1 + bs.length + 1 ≤ _; omega)).mono ?_
    rintro e w' ⟨rfl, h', ho⟩
    refine ⟨_, _, N, rfl, by omega, ?_, ho⟩
    rw [keptL_long (by omega), List.append_nil]
    exact h'
end Law
end Go.Proofs.YtnppdcegpojmbaaGreatDoor
namespace Go.Proofs.YtnppdcegpojmbaaGreatDoor
open Go Go.RowKit
namespace Words
theorem block_of_add (a : Addr) (n : Nat) : (a.add n).block = a.block := by unfold Addr.add; split <;> rfl
theorem add_of_add (a : Addr) (i j : Nat) : (a.add i).add j = a.add (i + j) := by
  unfold Addr.add
  by_cases hi : i = 0 <;> by_cases hj : j = 0 <;> simp [hi, hj, Nat.add_assoc]

def Reads (w : World) (B size : Nat) (A : Option Addr) (n : Nat) (xs : List Value) : Prop :=
  xs.length = n * size ∧ (0 < n → ∃ ad, A = some ad ∧ ad.block < B ∧ ∀ j u, xs[j]? = some u → w.cell? (ad.add j) = some u)

section
variable {w w' : World} {B B' size n : Nat} {A : Option Addr} {xs : List Value}
theorem Reads.none_ : Reads w B size A 0 [] := ⟨by simp, fun h => absurd h (by omega)⟩
theorem Reads.at_ {k : Nat} (h : Reads w B 1 A n xs) (hk : k < n) : ∃ ad u, A = some ad ∧ ad.block < B ∧ xs[k]? = some u ∧ w.cell? (ad.add k) = some u := by
  obtain ⟨ad, e, hb, hc⟩ := h.2 (by omega)
  have hl : k < xs.length := by have := h.1; omega
  exact ⟨ad, xs[k], e, hb, List.getElem?_eq_getElem hl, hc k _ (List.getElem?_eq_getElem hl)⟩
theorem Reads.keep (h : Reads w B size A n xs) (hk : ∀ p : Addr, p.block < B → w'.cell? p = w.cell? p) : Reads w' B size A n xs :=
  ⟨h.1, fun hn => by
    obtain ⟨ad, e, hb, hc⟩ := h.2 hn
    exact ⟨ad, e, hb, fun j u hu => (hk _ (by rw [block_of_add]; exact hb)).trans (hc j u hu)⟩⟩
theorem Reads.more (h : Reads w B size A n xs) (hB : B ≤ B') : Reads w B' size A n xs :=
  ⟨h.1, fun hn => by
    obtain ⟨ad, e, hb, hc⟩ := h.2 hn
    exact ⟨ad, e, by omega, hc⟩⟩
theorem Reads.below (h : Reads w B size A n xs) (hb : Below B w w') : Reads w' B size A n xs := h.keep fun _ hp => hb.cell hp
theorem Reads.drew (h : Reads w B size A n xs) : Reads w.drew B size A n xs := h
theorem Reads.drewN (h : Reads w B size A n xs) (k : Nat) : Reads (w.drewN k) B size A n xs := h
theorem Reads.alloc (h : Reads w B size A n xs) (hB : B ≤ w.heap.size) (o : Obj) : Reads (w.alloc o) B size A n xs := h.keep fun p hp => World.cell?_alloc_lt w o p (by omega)
theorem Reads.setCell (h : Reads w B size A n xs) {p : Addr} (hB : B ≤ p.block) (u : Value) : Reads (w.setCell p u) B size A n xs :=
  h.keep fun q hq => World.cell?_setCell_other w p q u (fun e => by subst e; omega)
theorem Reads.grown (h : Reads w B size A n xs) {row : Option Nat} (hg : w.grownBy w' row) (hB : B ≤ w.heap.size) (hr : ∀ g, row = some g → B ≤ g) : Reads w' B size A n xs :=
  h.keep fun p hp => World.cell?_of_block (hg.block p.block (by omega) (fun e => by have := hr _ e.symm; omega))
theorem Reads.cut (h : Reads w B size A n xs) {k cap : Nat} (hk : k ≤ n) (hc : n ≤ cap) :
    Reads w B size (if cap = k then A else A.map (·.add (k * size))) (n - k) (xs.drop (k * size)) := by
  refine ⟨by rw [List.length_drop, h.1, Nat.sub_mul], fun hn => ?_⟩
  obtain ⟨ad, rfl, hb, hcell⟩ := h.2 (by omega)
  rw [if_neg (by omega)]
  refine ⟨ad.add (k * size), rfl, by rw [block_of_add]; exact hb, fun j u hu => ?_⟩
  rw [add_of_add]
  exact hcell _ u (by rw [← hu, List.getElem?_drop])
theorem Reads.of_own {base : Nat} {e : TypeId} {c : Nat} (h : w.ownsRow base e size (.slice A n c) n xs) : Reads w w.heap.size size A n xs := by
  refine ⟨h.1, fun hn => ?_⟩
  obtain ⟨g, cap, hv, _, hlt⟩ := h.form hn
  have hA : A = some ⟨g, 0, none⟩ := by injection hv
  subst hA
  exact ⟨_, rfl, hlt, h.cells (g := g) rfl⟩
end
section
variable {P : Program} (w : World)

theorem run_append_of_nil (base : Nat) (t ty e : TypeId) (i : TypeInfo) (size : Nat) (ht : P.underlying t = some (.slice e)) (hi : P.info? e = some i)
    (v : Value) (n : Nat) (xs : List Value) (hown : w.ownsRow base e size v n xs) (c : Nat) : (Builtin.append_ #[t, t] ty #[v, .slice none 0 c]).run P w = .ok v w := by
  rcases hown.2 with ⟨rfl, rfl⟩ | ⟨g, cap, cur, rfl, _, _, hnc, _⟩
  · simp [Builtin.append_, run_underlying ht, sizeOf, typeInfo, hi, Builtin.lenOf, Builtin.firstCells]
  · simp [Builtin.append_, run_underlying ht, sizeOf, typeInfo, hi, Builtin.lenOf, Builtin.firstCells, hnc, storeCells]

theorem run_append_any (base : Nat) (t ty e : TypeId) (i : TypeInfo) (z : Value) (size bytes : Nat) (ht : P.underlying t = some (.slice e)) (hi : P.info? e = some i) (hz : i.zero = some z)
    (hsize : i.size = size) (hby : i.bytes = bytes) (hzs : z.cells.size = size) (hsz : 0 < size)
    (v : Value) (n : Nat) (xs : List Value) (hown : w.ownsRow base e size v n xs)
    (B : Nat) (A : Option Addr) (m c : Nat) (news : List Value) (hr : Reads w B size A m news) (h1 : ∀ u ∈ news, u.oneCell' = true)
    (h63 : n + m ≤ maxLen) (hbytes : (n + m) * bytes ≤ 140737488355328) (hbase : base ≤ w.heap.size) :
    ∃ v' w', (Builtin.append_ #[t, t] ty #[v, .slice A m c]).run P w = .ok v' w' ∧ w'.ownsRow base e size v' (n + m) (xs ++ news) ∧ w.grownBy w' v.ownBlock ∧
      (v'.ownBlock = v.ownBlock ∨ v'.ownBlock = some w.heap.size) := by
  rcases A with _ | ad
  · have hm : m = 0 := by
      rcases Nat.eq_zero_or_pos m with h0 | h0
      · exact h0
      · obtain ⟨ad, h, _⟩ := hr.2 h0
        cases h
    subst hm
    have hn : news = [] := List.eq_nil_of_length_eq_zero (by simpa using hr.1)
    subst hn
    exact ⟨v, w, run_append_of_nil w base t ty e i size ht hi v n xs hown c, by simpa using hown, World.grownBy.refl w _, .inl rfl⟩
  · have hcells : ∀ j u, news[j]? = some u → w.cell? (ad.add j) = some u := by
      intro j u hu
      rcases Nat.eq_zero_or_pos m with h0 | h0
      · subst h0
        have hn : news = [] := List.eq_nil_of_length_eq_zero (by simpa using hr.1)
        subst hn
        simp at hu
      · obtain ⟨ad', h, _, hc⟩ := hr.2 h0
        injection h with h
        subst h
        exact hc j u hu
    obtain ⟨v', w', hrun, h2, h3, _, h5⟩ := run_append_own_at (P := P) w base t ty e i z size bytes ht hi hz hsize hby hzs hsz v n xs hown ad m c news hr.1 hcells h1 h63 hbytes hbase
    exact ⟨v', w', hrun, h2, h3, h5⟩

theorem wp_append_any {o : Oper} {a : Act} {K : Act → World → Prop} {Q : Exit → Act → World → Prop} (s x : Operand) (t : TypeId)
    (ho : o.op = .call { callee := .builtin .append, args := #[s, x], argTypes := #[t, t] })
    (base : Nat) (e : TypeId) (i : TypeInfo) (z : Value) (size bytes : Nat) (ht : P.underlying t = some (.slice e)) (hi : P.info? e = some i) (hz : i.zero = some z)
    (hsize : i.size = size) (hby : i.bytes = bytes) (hzs : z.cells.size = size) (hsz : 0 < size)
    (v : Value) (n : Nat) (xs : List Value) (hs : a.eval s = v) (hown : w.ownsRow base e size v n xs)
    (B : Nat) (A : Option Addr) (m c : Nat) (news : List Value) (hx : a.eval x = .slice A m c) (hr : Reads w B size A m news) (h1 : ∀ u ∈ news, u.oneCell' = true)
    (h63 : n + m ≤ maxLen) (hbytes : (n + m) * bytes ≤ 140737488355328) (hbase : base ≤ w.heap.size)
    (h : ∀ v' w', w'.ownsRow base e size v' (n + m) (xs ++ news) → w.grownBy w' v.ownBlock → (v'.ownBlock = v.ownBlock ∨ v'.ownBlock = some w.heap.size) → K (a.put o.dst v') w') : o.wp P a w K Q := by
  obtain ⟨v', w', hrun, h2, h3, h4⟩ := run_append_any (P := P) w base t o.type e i z size bytes ht hi hz hsize hby hzs hsz v n xs hown B A m c news hr h1 h63 hbytes hbase
  unfold Oper.wp execOp
  simp only [ho, resolve, invoke, builtin, Sem.run_bind, Sem.run_pure, Result.andThen_ok, List.map_toArray, List.map_cons, List.map_nil, hs, hx, hrun]
  exact h v' w' h2 h3 h4

theorem wpList_append_any {ops : Array Oper} {rest : List Oper} {o : Oper} {a : Act} {Q : Exit → Act → World → Prop} (hgd : o.guard = none) (s x : Operand) (t : TypeId)
    (ho : o.op = .call { callee := .builtin .append, args := #[s, x], argTypes := #[t, t] })
    (base : Nat) (e : TypeId) (i : TypeInfo) (z : Value) (size bytes : Nat) (ht : P.underlying t = some (.slice e)) (hi : P.info? e = some i) (hz : i.zero = some z)
    (hsize : i.size = size) (hby : i.bytes = bytes) (hzs : z.cells.size = size) (hsz : 0 < size)
    (v : Value) (n : Nat) (xs : List Value) (hs : a.eval s = v) (hown : w.ownsRow base e size v n xs)
    (B : Nat) (A : Option Addr) (m c : Nat) (news : List Value) (hx : a.eval x = .slice A m c) (hr : Reads w B size A m news) (h1 : ∀ u ∈ news, u.oneCell' = true)
    (h63 : n + m ≤ maxLen) (hbytes : (n + m) * bytes ≤ 140737488355328) (hbase : base ≤ w.heap.size)
    (h : ∀ v' w', w'.ownsRow base e size v' (n + m) (xs ++ news) → w.grownBy w' v.ownBlock → (v'.ownBlock = v.ownBlock ∨ v'.ownBlock = some w.heap.size) → wpList P ops Q rest (a.put o.dst v') w') : wpList P ops Q (o :: rest) a w :=
  wpList_plain hgd fun _ hK => wp_append_any w s x t ho base e i z size bytes ht hi hz hsize hby hzs hsz v n xs hs hown B A m c news hx hr h1 h63 hbytes hbase fun v' w' h2 h3 h4 => hK _ _ (h v' w' h2 h3 h4)

theorem step_append_any {ops : Array Oper} {o : Oper} {a : Act} {K : Act → World → Prop} {Q : Exit → Act → World → Prop} {E : Prop} (hgd : o.guard = none) (s x : Operand) (t : TypeId)
    (ho : o.op = .call { callee := .builtin .append, args := #[s, x], argTypes := #[t, t] })
    (base : Nat) (e : TypeId) (i : TypeInfo) (z : Value) (size bytes : Nat) (ht : P.underlying t = some (.slice e)) (hi : P.info? e = some i) (hz : i.zero = some z)
    (hsize : i.size = size) (hby : i.bytes = bytes) (hzs : z.cells.size = size) (hsz : 0 < size)
    (v : Value) (n : Nat) (xs : List Value) (hs : a.eval s = v) (hown : w.ownsRow base e size v n xs)
    (B : Nat) (A : Option Addr) (m c : Nat) (news : List Value) (hx : a.eval x = .slice A m c) (hr : Reads w B size A m news) (h1 : ∀ u ∈ news, u.oneCell' = true)
    (h63 : n + m ≤ maxLen) (hbytes : (n + m) * bytes ≤ 140737488355328) (hbase : base ≤ w.heap.size)
    (h : ∀ v' w', w'.ownsRow base e size v' (n + m) (xs ++ news) → w.grownBy w' v.ownBlock → (v'.ownBlock = v.ownBlock ∨ v'.ownBlock = some w.heap.size) → K (a.put o.dst v') w') :
    if Region.wanted o (yielded ops a.tmps) = true then Oper.wp P o a w K Q else E := by
  have hw : Region.wanted o (yielded ops a.tmps) = true := by simp [Region.wanted, hgd]
  rw [if_pos hw]
  exact wp_append_any w s x t ho base e i z size bytes ht hi hz hsize hby hzs hsz v n xs hs hown B A m c news hx hr h1 h63 hbytes hbase h
end
end Words
end Go.Proofs.YtnppdcegpojmbaaGreatDoor
namespace Go.Proofs.YtnppdcegpojmbaaGreatDoor
open Go Go.RowKit
namespace Law
open Words
/-- Texts as cells. -/
def cellsT (l : List ByteArray) : List Value := l.map Value.string
theorem cellsT_at {l : List ByteArray} {i : Nat} {u : Value} (hi : i < l.length) (h : (cellsT l)[i]? = some u) : u = .string l[i] := by
  unfold cellsT at h
  rw [List.getElem?_map, List.getElem?_eq_getElem hi] at h
  simpa using h.symm
theorem cellsT_one (l : List ByteArray) : ∀ u ∈ cellsT l, u.oneCell' = true := by
  intro u hu
  obtain ⟨t, _, rfl⟩ := List.mem_map.1 hu
  rfl
theorem cellsT_append (a b : List ByteArray) : cellsT (a ++ b) = cellsT a ++ cellsT b := List.map_append
theorem cellsT_len (l : List ByteArray) : (cellsT l).length = l.length := by unfold cellsT; rw [List.length_map]
theorem reads_at {w : World} {B n : Nat} {A : Option Addr} {l : List ByteArray} (h : Reads w B 1 A n (cellsT l)) {i : Nat} (hi : i < l.length) : ∃ ad, A = some ad ∧ (ad.add i).block < B ∧ w.cell? (ad.add i) = some (.string l[i]) := by
  have hl : i < n := by have := h.1; rw [cellsT_len] at this; omega
  obtain ⟨ad, u, h1, h2, h3, h4⟩ := h.at_ hl
  rw [cellsT_at hi h3] at h4
  exact ⟨ad, h1, by rw [block_of_add]; exact h2, h4⟩
theorem reads_off {w w' : World} {B n : Nat} {A : Option Addr} {G : Nat → Prop} {l : List ByteArray} (h : Reads w B 1 A n (cellsT l)) (hw : B ≤ w.heap.size) (ho : Off G w w') (hG : ∀ b, b < B → ¬ G b) : Reads w' B 1 A n (cellsT l) :=
  h.keep fun p hp => ho.cell (by omega) (hG _ hp)
theorem row_texts {w : World} {base n : Nat} {v : Value} {l : List ByteArray} (h : w.ownsRow base 9 1 v n (cellsT l)) :
    ∃ A c, v = .slice A l.length c ∧ ∀ i (hi : i < l.length), ∃ ad, A = some ad ∧ base ≤ (ad.add i).block ∧ (ad.add i).block < w.heap.size ∧ w.cell? (ad.add i) = some (.string l[i]) := by
  have hn : l.length = n := by have := h.1; rw [cellsT_len] at this; omega
  subst hn
  have h0 := h
  obtain ⟨_, ⟨rfl, h1⟩ | ⟨g, cap, cur, rfl, hg, hb, _⟩⟩ := h
  · exact ⟨none, 0, by rw [h1], fun i hi => absurd hi (by omega)⟩
  · refine ⟨_, _, rfl, fun i hi => ?_⟩
    obtain ⟨ad, e1, e2, e3⟩ := reads_at (Reads.of_own h0) hi
    cases e1
    refine ⟨_, rfl, ?_, e2, e3⟩
    rw [block_of_add]
    exact hg
theorem str_info : (Tryz.prog.info? 9).map (fun i => (i.zero, i.size, i.bytes)) = some (some (.string ⟨#[]⟩), 1, 16) := by kernel_rfl
theorem info_parts' {o : Option TypeInfo} {z : Value} {n b : Nat} (h : o.map (fun i => (i.zero, i.size, i.bytes)) = some (some z, n, b)) : ∃ i, o = some i ∧ i.zero = some z ∧ i.size = n ∧ i.bytes = b := by
  cases o with
  | none => cases h
  | some i =>
    simp only [Option.map_some, Option.some.injEq, Prod.mk.injEq] at h
    exact ⟨i, rfl, h.1, h.2.1, h.2.2⟩
theorem str_back (t : ByteArray) : (⟨t.data.toList.toArray⟩ : ByteArray) = t := by cases t; simp
end Law
end Go.Proofs.YtnppdcegpojmbaaGreatDoor
